/- Texts as one: DgP DlS DrJ DrK DrL. -/
import Derived.Test.YtnjjieohlnhicaaGreatDoorKba
import Derived.Test.YtnjjieohlnhicaaGreatDoorKak
import Derived.Test.YtnjjieohlnhicaaGreatDoorKay
import Derived.Test.YtnjjieohlnhicaaGreatDoorKaj
section
namespace Go.Proofs.YtnjjieohlnhicaaGreatDoor
set_option linter.unusedSimpArgs false
set_option linter.unusedVariables false
open Go Go.Wm Go.Proofs Go.RowKit
set_option maxHeartbeats 4000000
namespace Dr
inductive Fv where
 |I
 |E (a:Str)
def sts:List Fv→List Int
 |[]=>[]
 | .I::fs=>sts fs++[1]
 | .E _::fs=>sts fs++[1,4,5]
def gt:List Fv→Int
 |[]=>3
 | .I::_=>4
 | .E _::_=>6
def foldv:List Fv→Str→Str
 |[],v=>v
 | .I::fs,v=>foldv fs ([40]++[105,102]++v++[41])
 | .E a::fs,v=>foldv fs ([40]++[105,102]++a++[101,108,115,101]++v++[41])
def NsR (nm:Int→Option Str) (nodes:List Nd):List Fv→List Int→Prop
 |[],l=>l=[]
 | .I::fs,l=> ∃l' k,l=l'++[k]∧NsR nm nodes fs l'∧G nm nodes k [105,102]
 | .E a::fs,l=> ∃l' k1 k2 k3,l=l'++[k1,k2,k3]∧NsR nm nodes fs l'∧G nm nodes k1 [105,102]∧G nm nodes k2 a∧G nm nodes k3 [101,108,115,101]
theorem NsR.mono {nm:Int→Option Str} {nodes ext:List Nd}: ∀{fs:List Fv} {l:List Int},NsR nm nodes fs l→NsR nm (nodes++ext) fs l
 |[],_,h=>h
 | .I::_,_,⟨l',k,h1,h2,h3⟩=>⟨l',k,h1,NsR.mono h2,h3.mono⟩
 | .E _::_,_,⟨l',k1,k2,k3,h1,h2,h3,h4,h5⟩=>⟨l',k1,k2,k3,h1,NsR.mono h2,h3.mono,h4.mono,h5.mono⟩
theorem NsR.len {nm:Int→Option Str} {nodes:List Nd}: ∀{fs:List Fv} {l:List Int},NsR nm nodes fs l→l.length=(sts fs).length
 |[],_,h=>by simp [show _=[] from h,sts]
 | .I::_,_,⟨l',k,h1,h2,h3⟩=>by simp [h1,sts,NsR.len h2]
 | .E _::_,_,⟨l',k1,k2,k3,h1,h2,h3,h4,h5⟩=>by simp [h1,sts,NsR.len h2]
def bad (a:Int×Int):Prop:=a.1≠1∧a.1≠2∧a.1≠3
structure DgT (nm:Int→Option Str) (act:Int→Int→Option (Int×Int)) (tg dt:Int→Int→Option Int) (prods:List (Int×(List Int×Int))):Prop where
 aif: ∀s,s=0∨s=1∨s=5→act s 1=some (1,1)
 ax: ∀s,s=0∨s=1∨s=5→act s 3=some (1,2)
 ano: ∀s t,s=0∨s=1∨s=5→t=0∨t=2→ ∃a,act s t=some a∧bad a
 a2: ∀t,0≤t→t<4→act 2 t=some (2,3)
 a3:act 3 0=some (3,0)
 a3n: ∀t,1≤t→t<4→ ∃a,act 3 t=some a∧bad a
 a4:act 4 2=some (1,5)
 a4n: ∀t,t=0∨t=1∨t=3→act 4 t=some (2,1)
 a6: ∀t,0≤t→t<4→act 6 t=some (2,2)
 t0:tg 0 1=some 3
 t1:tg 1 1=some 4
 t5:tg 5 1=some 6
 d0:dt 0 1=some 3
 d1:dt 1 1=some 4
 d5:dt 5 1=some 6
 p1: ∃v,idx prods 1=some (5,[1,5],v)
 p2: ∃v,idx prods 2=some (5,[1,5,2,5],v)
 p3: ∃v,idx prods 3=some (5,[3],v)
 n1:nm 1=some [105,102]
 n2:nm 2=some [101,108,115,101]
 n3:nm 3=some [120]
def cm (t:Int):List Fv→Bool×List (Int×Int)
 |[]=>if t=0 then (true,[(3,0)]) else (false,[])
 | .I::fs=>if t=2 then (true,[(1,5)]) else ((cm t fs).1,(2,1)::(cm t fs).2)
 | .E _::fs=>((cm t fs).1,(2,2)::(cm t fs).2)
theorem topOf_snoc (f x:Int) (l:List Int):topOf f (l++[x])=x:=by simp [topOf,List.getLastD_eq_getLast?]
theorem topOf_sts (fs:List Fv):topOf 0 (sts fs)=0∨topOf 0 (sts fs)=1∨topOf 0 (sts fs)=5:=by
 cases fs with
 |nil=>exact .inl rfl
 |cons x fs=>
  cases x with
  |I=>right;left;simp only [sts];exact topOf_snoc _ _ _
  |E a=>right;right;simp only [sts];rw [show sts fs++[1,4,5]=(sts fs++[1,4])++[5] by simp];exact topOf_snoc _ _ _
variable {nm:Int→Option Str} {act:Int→Int→Option (Int×Int)} {tg dt:Int→Int→Option Int} {prods:List (Int×(List Int×Int))}
theorem DgT.tt (h:DgT nm act tg dt prods) (fs:List Fv):tg (topOf 0 (sts fs)) (5-4)=some (gt fs)∧dt (topOf 0 (sts fs)) (5-4)=some (gt fs):=by
 cases fs with
 |nil=>exact ⟨h.t0,h.d0⟩
 |cons x fs=>
  cases x with
  |I=>simp only [sts];rw [topOf_snoc];exact ⟨h.t1,h.d1⟩
  |E a=>simp only [sts];rw [show sts fs++[1,4,5]=(sts fs++[1,4])++[5] by simp,topOf_snoc];exact ⟨h.t5,h.d5⟩
theorem goA_red {first term a2:Int} {f:Nat} {l m:List Int} {s q lv:Int} {mv:List (Int×Int)} {r:List Int} (ha:act s term=some (2,a2)) (hp:idx prods a2=some (5,r,lv)) (hr:r.length=m.length+1) (hq:tg (topOf first l) (5-4)=some q) (h64:l.length<64) (hm:mv.length<1024):
 goA act tg prods 4 first term (f+1) (l++m++[s]) mv=goA act tg prods 4 first term f (l++[q]) (mv++[(2,a2)]):=by
 have hl:(l++m++[s]).length-r.length=l.length:=by simp;omega
 have ht:(l++m++[s]).take l.length=l:=by rw [List.append_assoc,List.take_left'];rfl
 conv=>lhs;unfold goA
 rw [topOf_snoc,ha]
 simp only [show ¬(2:Int)=1 by omega,show ¬(2:Int)=3 by omega,if_false,if_true]
 rw [if_neg (by omega),hp]
 simp only
 rw [if_neg (by simp;omega),hl,ht,hq]
 simp only
 rw [if_neg (by omega)]
theorem goA_cm (h:DgT nm act tg dt prods) {t:Int} (h0:0≤t) (h4:t<4): ∀(fs:List Fv) (f:Nat) (mv:List (Int×Int)),fs.length<f→(sts fs).length<63→mv.length+fs.length<1024→
 ∃st',goA act tg prods 4 0 t f (sts fs++[gt fs]) mv=some ((cm t fs).1,0,st',mv++(cm t fs).2)
 |[],f+1,mv,_,_,_=>by
  simp only [sts,gt,List.nil_append]
  unfold goA
  rw [show topOf 0 [3]=3 from rfl]
  by_cases ht:t=0
  ·subst ht
   rw [h.a3]
   exact ⟨_,rfl⟩
  ·obtain ⟨a,e,b1,b2,b3⟩:=h.a3n t (by omega) h4
   rw [e]
   simp only [b1,b2,b3,if_false,cm,ht]
   exact ⟨_,by rw [List.append_nil]⟩
 | .I::fs,f+1,mv,hf,hl,hm=>by
   simp only [sts,gt,cm]
   by_cases ht:t=2
   ·subst ht
    unfold goA
    rw [topOf_snoc,h.a4]
    simp only [sts,List.length_append,List.length_cons,List.length_nil] at hl ⊢
    rw [if_pos trivial,if_neg (by omega)]
    exact ⟨_,rfl⟩
   ·rw [if_neg ht]
    obtain ⟨lv,hp⟩:=h.p1
    simp [sts] at hl hf hm
    rw [goA_red (m:=[1]) (h.a4n t (by omega)) hp rfl (h.tt fs).1 (by omega) (by omega)]
    obtain ⟨st',e⟩:=goA_cm h h0 h4 fs f (mv++[(2,1)]) hf (by omega) (by simp;omega)
    exact ⟨st',by rw [e];simp⟩
 | .E a::fs,f+1,mv,hf,hl,hm=>by
   simp only [sts,gt,cm]
   obtain ⟨lv,hp⟩:=h.p2
   simp [sts] at hl hf hm
   rw [goA_red (m:=[1,4,5]) (h.a6 t h0 h4) hp rfl (h.tt fs).1 (by omega) (by omega)]
   obtain ⟨st',e⟩:=goA_cm h h0 h4 fs f (mv++[(2,2)]) hf (by omega) (by simp;omega)
   exact ⟨st',by rw [e];simp⟩
def fol (t:Int) (prods:List (Int×(List Int×Int))) (dt:Int→Int→Option Int) (S:Rn) (mv:List (Int×Int)):Option Rn:=mv.foldlM (doesF prods 4 dt t) S
theorem fol_cons {t:Int} {S S1:Rn} {a:Int×Int} {mv:List (Int×Int)} (h:doesF prods 4 dt t S a=some S1):fol t prods dt S (a::mv)=fol t prods dt S1 mv:=by
 unfold fol
 rw [List.foldlM_cons,h];rfl
theorem NsR.app {nodes:List Nd} {fs:List Fv} {l:List Int} {S1:Rn} {x:Nd} (h:NsR nm nodes fs l) (e:S1.nodes=nodes++[x]):NsR nm S1.nodes fs l:=by rw [e];exact h.mono
theorem fol_end (h:DgT nm act tg dt prods): ∀(fs:List Fv) (S:Rn) (l:List Int) (k:Int) (v:Str),Ok S→S.st=sts fs++[gt fs]→S.ns=l++[k]→NsR nm S.nodes fs l→G nm S.nodes k v→k+1=S.nodes.length→(sts fs).length<62→
 (cm 0 fs).1=true∧ ∃S' k',fol 0 prods dt S (cm 0 fs).2=some S'∧S'.count=S.count∧S'.ns=[k']∧G nm S'.nodes k' (foldv fs v)∧k'+1=S'.nodes.length
 |[],S,l,k,v,hok,hst,hns,hN,hG,hkl,hl=>by
  obtain rfl:l=[]:=hN
  exact ⟨rfl,{S with moves:=S.moves++[((3,0),(S.count:Int))],over:=true},k,rfl,rfl,by simp [hns],hG,hkl⟩
 |x::fs,S,l,k,v,hok,hst,hns,hN,hG,hkl,hl=>by
  have step: ∀(p:Int) (r m:List Int) (lv:Int) (l':List Int) (ss:List Str) (v':Str),0≤p→idx prods p=some (5,r,lv)→r.length=m.length+1→1<r.length→sts (x::fs)=sts fs++m→(sts fs).length<62→S.ns=l'++(l.drop l'.length++[k])→l'.length=(sts fs).length→NsR nm S.nodes fs l'→
   (l.drop l'.length++[k]).length=ss.length→(∀(i:Nat) j s,(l.drop l'.length++[k])[i]? =some j→ss[i]? =some s→G nm S.nodes j s)→v'=[40]++ss.flatten++[41]→cm 0 (x::fs)=((cm 0 fs).1,(2,p)::(cm 0 fs).2)→foldv (x::fs) v=foldv fs v'→
   (cm 0 (x::fs)).1=true∧ ∃S' k',fol 0 prods dt S (cm 0 (x::fs)).2=some S'∧S'.count=S.count∧S'.ns=[k']∧G nm S'.nodes k' (foldv (x::fs) v)∧k'+1=S'.nodes.length:=by
   intro p r m lv l' ss v' hp0 hp hr hr1 hm hl2 hns2 hl' hN' hss hG' hv' hcm hfv
   have hnl:S.ns.length=l'.length+r.length:=by
    have:=hok.2.2.1
    rw [hst,hm] at this
    simp at this
    omega
   have hstl:S.st.length-r.length=(sts fs).length:=by rw [hst,hm];simp;omega
   have htk:S.st.take (sts fs).length=sts fs:=by rw [hst,hm,List.append_assoc,List.take_left'];rfl
   have hd:=does_reduce (prods:=prods) (nT:=4) (tgt:=dt) (term:=0) (a:=(2,p)) (pr:=(5,r,lv)) (q:=gt fs) hok rfl hp (by rw [hst,hm];simp;omega) (by simp) (by simp only;omega) (by simp only;rw [hstl,htk];exact (h.tt fs).2)
   obtain ⟨tk,e1,e2⟩:=hd
   simp only at e1 e2
   rw [hstl,htk,show S.ns.length-r.length=l'.length by omega,show S.ns.drop l'.length=l.drop l'.length++[k] by rw [hns2];simp,show S.ns.take l'.length=l' by rw [hns2];simp] at e1 e2
   have hlk:(l.drop l'.length++[k]).length=r.length:=by
    have:=congrArg List.length hns2
    rw [List.length_append] at this
    omega
   have hG2:=G.join (nm:=nm) (left:=5) (prod:=p) hp0 hss hG'
   rw [if_pos (by omega),←hv'] at hG2
   rw [hcm,fol_cons e1,hfv]
   obtain ⟨i1,S',k',i2,i3,i4,i5,i6⟩:=fol_end h fs _ l' (S.nodes.length:Int) v' e2 rfl rfl hN'.mono hG2 (by simp) hl2
   exact ⟨i1,S',k',i2,i3,i4,i5,i6⟩
  cases x with
  |I=>
   obtain ⟨l',k0,rfl,hN',hG0⟩:=hN
   obtain ⟨lv,hp⟩:=h.p1
   simp only [sts,List.length_append,List.length_cons,List.length_nil] at hl
   refine step 1 [1,5] [1] lv l' [[105,102],v] _ (by omega) hp rfl (by simp) rfl (by omega) (by rw [hns];simp) hN'.len hN' (by simp) ?_ rfl rfl (by simp [foldv])
   intro i j s h1 h2
   simp at h1
   match i with
   |0=>cases h1;cases h2;exact hG0
   |1=>cases h1;cases h2;exact hG
   |i+2=>simp at h2
  |E a=>
   obtain ⟨l',k0,k1,k2,rfl,hN',hG0,hG1,hG2⟩:=hN
   obtain ⟨lv,hp⟩:=h.p2
   simp only [sts,List.length_append,List.length_cons,List.length_nil] at hl
   refine step 2 [1,5,2,5] [1,4,5] lv l' [[105,102],a,[101,108,115,101],v] _ (by omega) hp rfl (by simp) rfl (by omega) (by rw [hns];simp) hN'.len hN' (by simp) ?_ rfl rfl (by simp [foldv])
   intro i j s h1 h2
   simp at h1
   match i with
   |0=>cases h1;cases h2;exact hG0
   |1=>cases h1;cases h2;exact hG1
   |2=>cases h1;cases h2;exact hG2
   |3=>cases h1;cases h2;exact hG
   |i+4=>simp at h2
theorem red_E (h:DgT nm act tg dt prods) {t:Int} {fs:List Fv} {S:Rn} {l:List Int} {k:Int} {a v:Str} (hok:Ok S) (hst:S.st=sts (.E a::fs)++[6]) (hns:S.ns=l++[k]) (hN:NsR nm S.nodes (.E a::fs) l) (hG:G nm S.nodes k v) (hl:(sts fs).length<62):
 ∃S1 l' n,doesF prods 4 dt t S (2,2)=some S1∧Ok S1∧S1.count=S.count∧S1.st=sts fs++[gt fs]∧S1.ns=l'++[n]∧NsR nm S1.nodes fs l'∧G nm S1.nodes n ([40]++[105,102]++a++[101,108,115,101]++v++[41]):=by
 obtain ⟨l',k0,k1,k2,rfl,hN',hG0,hG1,hG2⟩:=hN
 obtain ⟨lv,hp⟩:=h.p2
 have hl':=hN'.len
 have hm:S.st=sts fs++[1,4,5,6]:=by rw [hst];simp [sts]
 have hns2:S.ns=l'++[k0,k1,k2,k]:=by rw [hns];simp
 have htk:S.st.take (sts fs).length=sts fs:=by rw [hm,List.take_left'];rfl
 have hstl:S.st.length-4=(sts fs).length:=by rw [hm];simp
 obtain ⟨tk,e1,e2⟩:=does_reduce (prods:=prods) (nT:=4) (tgt:=dt) (term:=t) (a:=(2,2)) (pr:=(5,[1,5,2,5],lv)) (q:=gt fs) hok rfl hp (by rw [hm];simp) (by simp) (by simp only [List.length_cons,List.length_nil];omega) (by simp only [List.length_cons,List.length_nil];rw [hstl,htk];exact (h.tt fs).2)
 simp only [List.length_cons,List.length_nil,Nat.zero_add] at e1 e2
 have hnl:S.ns.length-4=l'.length:=by rw [hns2];simp
 rw [hstl,htk,hnl,show S.ns.drop l'.length=[k0,k1,k2,k] by rw [hns2];simp,show S.ns.take l'.length=l' by rw [hns2];simp] at e1 e2
 refine ⟨_,l',_,e1,e2,rfl,rfl,rfl,hN'.mono,?_⟩
 have hG2:=G.join (nm:=nm) (nodes:=S.nodes) (left:=5) (prod:=2) (ks:=[k0,k1,k2,k]) (ss:=[[105,102],a,[101,108,115,101],v]) (by omega) rfl ?_
 ·rw [if_pos (by simp)] at hG2
  simpa using hG2
 ·intro i j s h1 h2
  match i with
  |0=>cases h1;cases h2;exact hG0
  |1=>cases h1;cases h2;exact hG1
  |2=>cases h1;cases h2;exact hG2
  |3=>cases h1;cases h2;exact hG
  |i+4=>simp at h2
def Fv.isE:Fv→Prop
 | .I=>False
 | .E _=>True
theorem fol_else (h:DgT nm act tg dt prods) (fs:List Fv): ∀(gs:List Fv) (S:Rn) (l:List Int) (k:Int) (v:Str),(∀g∈gs,g.isE)→Ok S→S.st=sts (gs++ .I::fs)++[gt (gs++ .I::fs)]→S.ns=l++[k]→NsR nm S.nodes (gs++ .I::fs) l→G nm S.nodes k v→(sts (gs++ .I::fs)).length<62→
 (cm 2 (gs++ .I::fs)).1=true∧ ∃S',fol 2 prods dt S (cm 2 (gs++ .I::fs)).2=some S'∧Ok S'∧S'.count=S.count∧S'.st=sts (.E (foldv gs v)::fs)∧NsR nm S'.nodes (.E (foldv gs v)::fs) S'.ns
 |[],S,l,k,v,_,hok,hst,hns,hN,hG,hl=>by
  simp only [List.nil_append] at*
  obtain ⟨l',k0,rfl,hN',hG0⟩:=hN
  have hlen:S.st.length<64:=by rw [hst];simp only [sts,List.length_append,List.length_cons,List.length_nil] at hl ⊢;omega
  have e:doesF prods 4 dt 2 S (1,5)=some {S with moves:=S.moves++[((1,5),(S.count:Int))],nodes:=S.nodes++[(2,-1,(S.count:Int),[])],taken:=S.taken++[false],st:=S.st++[5],ns:=S.ns++[(S.nodes.length:Int)]}:=by
   unfold doesF
   simp only [if_true]
   rw [if_neg (by omega)]
  refine ⟨rfl,_,by rw [show (cm 2 (.I::fs)).2=[(1,5)] from rfl,fol_cons e];rfl,hok.shift,rfl,?_,?_⟩
  ·simp only [hst,sts,gt];simp
  ·refine ⟨l',k0,k,_,by simp only [hns];simp,hN'.mono,hG0.mono,hG.mono,G.leaf h.n2⟩
 | .I::gs,S,l,k,v,hE,_,_,_,_,_,_=>(hE .I (by simp)).elim
 | .E a::gs,S,l,k,v,hE,hok,hst,hns,hN,hG,hl=>by
   simp only [List.cons_append] at*
   have hl2:(sts (gs++ .I::fs)).length<62:=by simp only [sts,List.length_append,List.length_cons,List.length_nil] at hl;omega
   obtain ⟨S1,l',n,e1,e2,e3,e4,e5,e6,e7⟩:=red_E h (t:=2) hok hst hns hN hG hl2
   obtain ⟨i1,S',i2,i3,i4,i5,i6⟩:=fol_else h fs gs S1 l' n _ (fun g hg=>hE g (by simp [hg])) e2 e4 e5 e6 e7 hl2
   refine ⟨by rw [show (cm 2 (.E a::(gs++ .I::fs))).1=(cm 2 (gs++ .I::fs)).1 from rfl];exact i1,S',?_,i3,by rw [i4,e3],i5,i6⟩
   rw [show (cm 2 (.E a::(gs++ .I::fs))).2=(2,2)::(cm 2 (gs++ .I::fs)).2 from rfl,fol_cons e1];exact i2
theorem cm_bad {t:Int} (h:t=1∨t=3): ∀fs:List Fv,(cm t fs).1=false
 |[]=>by simp only [cm];rw [if_neg (by omega)]
 | .I::fs=>by simp only [cm];rw [if_neg (by omega)];exact cm_bad h fs
 | .E a::fs=>cm_bad h fs
theorem cm_else: ∀fs:List Fv,(∀g∈fs,g.isE)→(cm 2 fs).1=false
 |[],_=>rfl
 | .I::fs,h=>(h .I (by simp)).elim
 | .E a::fs,h=>cm_else fs fun g hg=>h g (by simp [hg])
def Cf0 (nm:Int→Option Str) (S:Rn) (fs:List Fv):Prop:=Ok S∧S.st=sts fs∧NsR nm S.nodes fs S.ns
def CfX (nm:Int→Option Str) (S:Rn) (fs:List Fv):Prop:=Ok S∧S.st=sts fs++[2]∧ ∃l k,S.ns=l++[k]∧NsR nm S.nodes fs l∧G nm S.nodes k [120]
theorem goA_act {f:Nat} {t:Int} {st:List Int} {mv:List (Int×Int)} {a:Int×Int} (ha:act (topOf 0 st) t=some a) (h1:a.1=1) (hl:st.length<64):goA act tg prods 4 0 t (f+1) st mv=some (true,0,st,mv++[a]):=by
 unfold goA
 rw [ha]
 simp only [h1,if_true]
 rw [if_neg (by omega)]
theorem goA_bad {f:Nat} {t:Int} {st:List Int} {mv:List (Int×Int)} {a:Int×Int} (ha:act (topOf 0 st) t=some a) (hb:bad a):goA act tg prods 4 0 t (f+1) st mv=some (false,0,st,mv):=by
 unfold goA
 rw [ha]
 obtain ⟨b1,b2,b3⟩:=hb
 simp only [b1,b2,b3,if_false]
theorem shift_step {S:Rn} {t q:Int} {f:Nat} (ha:act (topOf 0 S.st) t=some (1,q)) (ht:0<t) (hl:S.st.length<64):
 takeF act tg dt prods 4 (f+1) S t=some (true,0,{S with moves:=S.moves++[((1,q),(S.count:Int))],nodes:=S.nodes++[(t,-1,(S.count:Int),[])],taken:=S.taken++[false],st:=S.st++[q],ns:=S.ns++[(S.nodes.length:Int)],count:=S.count+1}):=by
 unfold takeF
 rw [goA_act ha rfl hl]
 simp only [ne_eq,not_true_eq_false,if_false,List.nil_append,Bool.true_eq_false]
 have e:doesF prods 4 dt t S (1,q)=some {S with moves:=S.moves++[((1,q),(S.count:Int))],nodes:=S.nodes++[(t,-1,(S.count:Int),[])],taken:=S.taken++[false],st:=S.st++[q],ns:=S.ns++[(S.nodes.length:Int)]}:=by
  unfold doesF
  simp only [if_true]
  rw [if_neg (by omega)]
 rw [show List.foldlM (doesF prods 4 dt t) S [(1,q)]=_ from fol_cons (mv:=[]) e]
 simp only [fol,List.foldlM_nil]
 simp only [pure,ht,if_true]
theorem NsR.cnt {nodes:List Nd} {fs:List Fv} {l:List Int} {n:Nat} {S:Rn} (h:NsR nm S.nodes fs l):NsR nm ({S with count:=n}:Rn).nodes fs l:=h
theorem s_if (h:DgT nm act tg dt prods) {S:Rn} {fs:List Fv} {f:Nat} (hc:Cf0 nm S fs) (hl:(sts fs).length<64): ∃S',takeF act tg dt prods 4 (f+1) S 1=some (true,0,S')∧Cf0 nm S' (.I::fs)∧S'.count=S.count+1:=by
 obtain ⟨h1,h2,h3⟩:=hc
 refine ⟨_,shift_step (q:=1) (by rw [h2];exact h.aif _ (topOf_sts fs)) (by omega) (by rw [h2];exact hl),⟨h1.shift (mv:=[]),by simp only [h2,sts],S.ns,_,rfl,h3.mono,G.leaf h.n1⟩,rfl⟩
theorem s_x (h:DgT nm act tg dt prods) {S:Rn} {fs:List Fv} {f:Nat} (hc:Cf0 nm S fs) (hl:(sts fs).length<64): ∃S',takeF act tg dt prods 4 (f+1) S 3=some (true,0,S')∧CfX nm S' fs∧S'.count=S.count+1:=by
 obtain ⟨h1,h2,h3⟩:=hc
 refine ⟨_,shift_step (q:=2) (by rw [h2];exact h.ax _ (topOf_sts fs)) (by omega) (by rw [h2];exact hl),⟨h1.shift (mv:=[]),by simp only [h2],S.ns,_,rfl,h3.mono,G.leaf h.n3⟩,rfl⟩
theorem s_no (h:DgT nm act tg dt prods) {S:Rn} {fs:List Fv} {f:Nat} {t:Int} (hc:Cf0 nm S fs) (ht:t=0∨t=2):takeF act tg dt prods 4 (f+1) S t=some (false,0,S):=by
 obtain ⟨h1,h2,h3⟩:=hc
 obtain ⟨a,ha,hb⟩:=h.ano _ t (topOf_sts fs) ht
 unfold takeF
 rw [goA_bad (by rw [h2];exact ha) hb]
 simp
theorem fs_len: ∀fs:List Fv,fs.length≤(sts fs).length
 |[]=>by simp [sts]
 | .I::fs=>by have:=fs_len fs;simp [sts];omega
 | .E a::fs=>by have:=fs_len fs;simp [sts];omega
theorem x_go (h:DgT nm act tg dt prods) {S:Rn} {fs:List Fv} {f:Nat} {t:Int} (hc:CfX nm S fs) (h0:0≤t) (h4:t<4) (hf:fs.length<f) (hl:(sts fs).length<62):
 ∃st',goA act tg prods 4 0 t (f+1) S.st []=some ((cm t fs).1,0,st',(2,3)::(cm t fs).2):=by
 obtain ⟨h1,h2,l,k,h3,h4',h5⟩:=hc
 obtain ⟨lv,hp⟩:=h.p3
 have:=fs_len fs
 obtain ⟨st',e⟩:=goA_cm h h0 h4 fs f [(2,3)] hf (by omega) (by simp;omega)
 refine ⟨st',?_⟩
 rw [h2,show sts fs++[2]=sts fs++[]++[2] by simp,goA_red (m:=[]) (h.a2 t h0 h4) hp rfl (h.tt fs).1 (by omega) (by simp)]
 rw [show ([]:List (Int×Int))++[(2,3)]=[(2,3)] from rfl,e];rfl
theorem x_bad (h:DgT nm act tg dt prods) {S:Rn} {fs:List Fv} {f:Nat} {t:Int} (hc:CfX nm S fs) (h0:0≤t) (h4:t<4) (hf:fs.length<f) (hl:(sts fs).length<62) (hb:(cm t fs).1=false):takeF act tg dt prods 4 (f+1) S t=some (false,0,S):=by
 obtain ⟨st',e⟩:=x_go h hc h0 h4 hf hl
 unfold takeF
 rw [e,hb]
 simp
theorem x_red (h:DgT nm act tg dt prods) {S:Rn} {fs:List Fv} {t:Int} (hc:CfX nm S fs) (hl:(sts fs).length<62):
 ∃S1 l n,doesF prods 4 dt t S (2,3)=some S1∧Ok S1∧S1.count=S.count∧S1.st=sts fs++[gt fs]∧S1.ns=l++[n]∧NsR nm S1.nodes fs l∧G nm S1.nodes n [120]∧n+1=S1.nodes.length:=by
 obtain ⟨hok,h2,l,k,h3,h4,h5⟩:=hc
 obtain ⟨lv,hp⟩:=h.p3
 have hl':=h4.len
 have htk:S.st.take (sts fs).length=sts fs:=by rw [h2,List.take_left'];rfl
 have hstl:S.st.length-1=(sts fs).length:=by rw [h2];simp
 obtain ⟨tk,e1,e2⟩:=does_reduce (prods:=prods) (nT:=4) (tgt:=dt) (term:=t) (a:=(2,3)) (pr:=(5,[3],lv)) (q:=gt fs) hok rfl hp (by rw [h2];simp) (by simp) (by simp only [List.length_cons,List.length_nil];omega) (by simp only [List.length_cons,List.length_nil];rw [hstl,htk];exact (h.tt fs).2)
 simp only [List.length_cons,List.length_nil,Nat.zero_add] at e1 e2
 have hnl:S.ns.length-1=l.length:=by rw [h3];simp
 rw [hstl,htk,hnl,show S.ns.drop l.length=[k] by rw [h3];simp,show S.ns.take l.length=l by rw [h3];simp] at e1 e2
 refine ⟨_,l,_,e1,e2,rfl,rfl,rfl,h4.mono,?_,by simp⟩
 have hG2:=G.join (nm:=nm) (nodes:=S.nodes) (left:=5) (prod:=3) (ks:=[k]) (ss:=[[120]]) (by omega) rfl ?_
 ·simpa using hG2
 ·intro i j s h1 h2
  match i with
  |0=>cases h1;cases h2;exact h5
  |i+1=>simp at h2
theorem Cf0.cnt {S:Rn} {fs:List Fv} {n:Nat} (h:Cf0 nm S fs):Cf0 nm {S with count:=n} fs:=h
theorem x_else (h:DgT nm act tg dt prods) {S:Rn} {gs fs:List Fv} {f:Nat} (hc:CfX nm S (gs++ .I::fs)) (hE: ∀g∈gs,g.isE) (hf:(gs++ .I::fs).length<f) (hl:(sts (gs++ .I::fs)).length<62):
 ∃S',takeF act tg dt prods 4 (f+1) S 2=some (true,0,S')∧Cf0 nm S' (.E (foldv gs [120])::fs)∧S'.count=S.count+1:=by
 obtain ⟨st',e⟩:=x_go h hc (t:=2) (by omega) (by omega) hf hl
 obtain ⟨S1,l,n,e1,e2,e3,e4,e5,e6,e7,e8⟩:=x_red h (t:=2) hc hl
 obtain ⟨i1,S',i2,i3,i4,i5,i6⟩:=fol_else h fs gs S1 l n [120] hE e2 e4 e5 e6 e7 hl
 refine ⟨{S' with count:=S'.count+1},?_,Cf0.cnt ⟨i3,i5,i6⟩,by simp only;omega⟩
 unfold takeF
 rw [e,i1]
 simp only [ne_eq,not_true_eq_false,if_false,Bool.true_eq_false]
 rw [show List.foldlM (doesF prods 4 dt 2) S _=_ from fol_cons e1,i2]
 simp
theorem x_end (h:DgT nm act tg dt prods) {S:Rn} {fs:List Fv} {f:Nat} (hc:CfX nm S fs) (hf:fs.length<f) (hl:(sts fs).length<62):
 ∃S' k,takeF act tg dt prods 4 (f+1) S 0=some (true,0,S')∧G nm S'.nodes k (foldv fs [120])∧k+1=S'.nodes.length:=by
 obtain ⟨st',e⟩:=x_go h hc (t:=0) (by omega) (by omega) hf hl
 obtain ⟨S1,l,n,e1,e2,e3,e4,e5,e6,e7,e8⟩:=x_red h (t:=0) hc hl
 obtain ⟨i1,S',k',i2,i3,i4,i5,i6⟩:=fol_end h fs S1 l n [120] e2 e4 e5 e6 e7 e8 hl
 refine ⟨S',k',?_,i5,i6⟩
 unfold takeF
 rw [e,i1]
 simp only [ne_eq,not_true_eq_false,if_false,Bool.true_eq_false]
 rw [show List.foldlM (doesF prods 4 dt 0) S _=_ from fol_cons e1,i2]
 simp
def dangF:Nat→List Int→Nat→Option (Str×Int)
 |0,_,_=>none
 |f+1,l,i=>
  match l[i]? with
  |none=>some ([],-(i:Int)-1)
  |some c=>
   if c=1 then some ([],-(i:Int)-1)
   else if c=2 then some ([120],(i:Int)+1)
   else match dangF f l (i+1) with
    |none=>none
    |some (a,n)=>
     if n<0∨idx l n≠some 1 then some ([40]++[105,102]++a++[41],n)
     else match dangF f l (n.toNat+1) with
      |none=>none
      |some (b,e)=>some ([40]++[105,102]++a++[101,108,115,101]++b++[41],e)
def rest (l:List Int) (i:Nat):List Int:=(l.drop i).map (· +1)++[0]
theorem rest_some {l:List Int} {i:Nat} {c:Int} (h:l[i]? =some c):rest l i=(c+1)::rest l (i+1):=by
 unfold rest
 obtain ⟨hi,hc⟩:=List.getElem?_eq_some_iff.1 h
 rw [List.drop_eq_getElem_cons hi,hc];rfl
theorem rest_none {l:List Int} {i:Nat} (h:l[i]? =none):rest l i=[0]:=by
 unfold rest
 rw [List.drop_eq_nil_of_le (List.getElem?_eq_none_iff.1 h)];rfl
theorem foldv_app: ∀(gs fs:List Fv) (v:Str),foldv (gs++fs) v=foldv fs (foldv gs v)
 |[],_,_=>rfl
 | .I::gs,fs,v=>by simp only [List.cons_append,foldv];exact foldv_app gs fs _
 | .E a::gs,fs,v=>by simp only [List.cons_append,foldv];exact foldv_app gs fs _
theorem sts_mid: ∀gs fs:List Fv,(sts fs).length+1≤(sts (gs++ .I::fs)).length
 |[],fs=>by simp [sts]
 | .I::gs,fs=>by have:=sts_mid gs fs;simp [sts];omega
 | .E a::gs,fs=>by have:=sts_mid gs fs;simp [sts];omega
def RefT (nm:Int→Option Str) (S:Rn):Prop:= ∃fs,(sts fs).length<62∧(Cf0 nm S fs∨CfX nm S fs)
theorem dang_run (h:DgT nm act tg dt prods) {l:List Int} (hl:l.length≤60) (h3: ∀c∈l,c=0∨c=1∨c=2) {fl:Nat} (hfl:63≤fl): ∀(f i:Nat) (w:Str) (next:Int) (S:Rn) (fs:List Fv),dangF f l i=some (w,next)→Cf0 nm S fs→(sts fs).length≤i→i≤l.length→
 (next<0∧ ∃S',RefT nm S'∧allF (takeF act tg dt prods 4 (fl+1)) i S (rest l i)=some (.refused (-next-1).toNat S'))∨
 (∃(n:Nat) (S':Rn) (gs:List Fv),next=n∧n≤l.length∧allF (takeF act tg dt prods 4 (fl+1)) i S (rest l i)=allF (takeF act tg dt prods 4 (fl+1)) n S' (rest l n)∧CfX nm S' (gs++fs)∧foldv gs [120]=w∧(sts (gs++fs)).length+1≤n∧(l[n]? =some 1→ ∀g∈gs,g.isE))
 |0,_,_,_,_,_,hd,_,_,_=>by cases hd
 |f+1,i,w,next,S,fs,hd,hc,hs,hi=>by
  have refuse: ∀t r,rest l i=t::r→(t=0∨t=2)→next= -(i:Int)-1→next<0∧ ∃S',RefT nm S'∧allF (takeF act tg dt prods 4 (fl+1)) i S (rest l i)=some (.refused (-next-1).toNat S'):=by
   intro t r hr ht hn
   refine ⟨by omega,S,⟨fs,by omega,.inl hc⟩,?_⟩
   rw [hr]
   unfold allF
   rw [s_no h hc ht]
   simp only [ne_eq,not_true_eq_false,if_false]
   rw [hn,show (-(-(i:Int)-1)-1).toNat=i by omega]
   rfl
  unfold dangF at hd
  cases hli:l[i]? with
  |none=>
   rw [hli] at hd
   cases hd
   exact .inl (refuse 0 [] (rest_none hli) (.inl rfl) rfl)
  |some c=>
   rw [hli] at hd
   simp only at hd
   have hil:=(List.getElem?_eq_some_iff.1 hli).1
   by_cases hc1:c=1
   ·subst hc1
    cases hd
    exact .inl (refuse 2 _ (rest_some hli) (.inr rfl) rfl)
   rw [if_neg hc1] at hd
   by_cases hc2:c=2
   ·subst hc2
    cases hd
    obtain ⟨S',e1,e2,e3⟩:=s_x h (f:=fl) hc (by omega)
    refine .inr ⟨i+1,S',[],rfl,by omega,?_,e2,rfl,by simp;omega,by simp⟩
    rw [rest_some hli]
    conv=>lhs;unfold allF
    rw [show (2:Int)+1=3 from rfl,e1]
    simp
   rw [if_neg hc2] at hd
   obtain rfl:c=0:=by
    have:=h3 c (List.mem_of_getElem? hli)
    omega
   obtain ⟨S1,e1,e2,e3⟩:=s_if h (f:=fl) hc (by omega)
   have hstep:allF (takeF act tg dt prods 4 (fl+1)) i S (rest l i)=allF (takeF act tg dt prods 4 (fl+1)) (i+1) S1 (rest l (i+1)):=by
    rw [rest_some hli]
    conv=>lhs;unfold allF
    rw [show (0:Int)+1=1 from rfl,e1]
    simp
   rw [hstep]
   cases hda:dangF f l (i+1) with
   |none=>rw [hda] at hd;cases hd
   |some r=>
    obtain ⟨a,n⟩:=r
    rw [hda] at hd
    simp only at hd
    rcases dang_run h hl h3 hfl f (i+1) a n S1 (.I::fs) hda e2 (by simp [sts];omega) (by omega) with ⟨hn,S',hr⟩|⟨m,S',gs,rfl,hm1,hm2,hm3,hm4,hm5,hm6⟩
    ·rw [if_pos (.inl hn)] at hd
     cases hd
     exact .inl ⟨hn,S',hr⟩
    ·by_cases hlm:l[m]? =some 1
     ·rw [if_neg (by
       rintro (hx|hx)
       ·omega
       ·apply hx;unfold idx;rw [if_neg (by omega)];simpa using hlm)] at hd
      rw [Int.toNat_natCast] at hd
      have hml:=(List.getElem?_eq_some_iff.1 hlm).1
      have hsl:(sts (gs++ .I::fs)).length<62:=by omega
      have hfl2:=fs_len (gs++ .I::fs)
      obtain ⟨S2,x1,x2,x3⟩:=x_else h (f:=fl) hm3 (hm6 hlm) (by omega) hsl
      have hs2:(sts (.E (foldv gs [120])::fs)).length≤m+1:=by
       have:=sts_mid gs fs
       simp [sts];omega
      have hstep2:allF (takeF act tg dt prods 4 (fl+1)) m S' (rest l m)=allF (takeF act tg dt prods 4 (fl+1)) (m+1) S2 (rest l (m+1)):=by
       rw [rest_some hlm]
       conv=>lhs;unfold allF
       rw [show (1:Int)+1=2 from rfl,x1]
       simp
      rw [hm2,hstep2]
      rw [hm4] at x2
      cases hdb:dangF f l (m+1) with
      |none=>rw [hdb] at hd;cases hd
      |some r=>
       obtain ⟨b,e⟩:=r
       rw [hdb] at hd
       simp only at hd
       cases hd
       rcases dang_run h hl h3 hfl f (m+1) b _ S2 (.E a::fs) hdb x2 (by rw [hm4] at hs2;exact hs2) (by omega) with ⟨hn,S3,hr⟩|⟨p,S3,gs2,rfl,hp1,hp2,hp3,hp4,hp5,hp6⟩
       ·exact .inl ⟨hn,S3,hr⟩
       ·refine .inr ⟨p,S3,gs2++[.E a],rfl,hp1,hp2,by simpa using hp3,?_,by simpa using hp5,fun hx g hg=> ?_⟩
        ·rw [foldv_app,hp4];rfl
        ·simp at hg
         rcases hg with hg|rfl
         ·exact hp6 hx g hg
         ·trivial
     ·rw [if_pos (by
       right
       unfold idx;rw [if_neg (by omega)];simpa using hlm)] at hd
      cases hd
      refine .inr ⟨m,S',gs++[.I],rfl,hm1,hm2,by simpa using hm3,?_,by simpa using hm5,fun hx=>absurd hx hlm⟩
      rw [foldv_app,hm4];rfl
theorem dang_all (h:DgT nm act tg dt prods) {l:List Int} (hl:l.length≤60) (h3: ∀c∈l,c=0∨c=1∨c=2) {fl:Nat} (hfl:63≤fl) {f:Nat} {w:Str} {next:Int} (hd:dangF f l 0=some (w,next)):
 (next<0∧ ∃S',RefT nm S'∧allF (takeF act tg dt prods 4 (fl+1)) 0 Rn.new (rest l 0)=some (.refused (-next-1).toNat S'))∨
 (0≤next∧next<l.length∧ ∃S',RefT nm S'∧allF (takeF act tg dt prods 4 (fl+1)) 0 Rn.new (rest l 0)=some (.refused next.toNat S'))∨
 (next=l.length∧ ∃S' k,allF (takeF act tg dt prods 4 (fl+1)) 0 Rn.new (rest l 0)=some (.done S')∧G nm S'.nodes k w∧k+1=S'.nodes.length):=by
 have h0:Cf0 nm Rn.new []:=⟨⟨List.nodup_nil,rfl,rfl,by simp [Rn.new]⟩,rfl,rfl⟩
 rcases dang_run h hl h3 hfl f 0 w next Rn.new [] hd h0 (by simp [sts]) (by omega) with ⟨h1,h2⟩|⟨n,S',gs,rfl,h1,h2,h4,h5,h6,h7⟩
 ·exact .inl ⟨h1,h2⟩
 right
 rw [List.append_nil] at h4 h6
 have hfs:=fs_len gs
 have hsl:(sts gs).length<62:=by omega
 rw [h2]
 by_cases hn:n<l.length
 ·left
  refine ⟨by omega,by omega,S',⟨gs,by omega,.inr h4⟩,?_⟩
  obtain ⟨c,hc⟩: ∃c,l[n]? =some c:=⟨_,List.getElem?_eq_getElem hn⟩
  have hc3:=h3 c (List.mem_of_getElem? hc)
  rw [rest_some hc]
  unfold allF
  rw [x_bad h (f:=fl) h4 (by omega) (by omega) (by omega) hsl ?_]
  ·simp
  ·by_cases hc1:c=1
   ·subst hc1
    exact cm_else gs (h7 hc)
   ·exact cm_bad (by omega) gs
 ·right
  obtain rfl:n=l.length:=by omega
  refine ⟨rfl,?_⟩
  obtain ⟨S2,k,e1,e2,e3⟩:=x_end h (f:=fl) h4 (by omega) hsl
  refine ⟨S2,k,?_,by rw [←h5];exact e2,e3⟩
  rw [rest_none (List.getElem?_eq_none (Nat.le_refl _))]
  unfold allF
  rw [e1]
  simp [allF]
theorem ref_goA (h:DgT nm act tg dt prods) {S:Rn} (hr:RefT nm S) {t:Int} (h0:0≤t) (h4:t<4) {f:Nat} (hf:63≤f): ∃ok st' mv,goA act tg prods 4 0 t (f+1) S.st []=some (ok,0,st',mv):=by
 obtain ⟨fs,hl,hc|hc⟩:=hr
 ·obtain ⟨h1,h2,h3⟩:=hc
  have ht:=topOf_sts fs
  by_cases q1:t=1
  ·subst q1
   exact ⟨_,_,_,goA_act (by rw [h2];exact h.aif _ ht) rfl (by rw [h2];omega)⟩
  by_cases q3:t=3
  ·subst q3
   exact ⟨_,_,_,goA_act (by rw [h2];exact h.ax _ ht) rfl (by rw [h2];omega)⟩
  obtain ⟨a,ha,hb⟩:=h.ano _ t ht (by omega)
  exact ⟨_,_,_,goA_bad (by rw [h2];exact ha) hb⟩
 ·have:=fs_len fs
  obtain ⟨st',e⟩:=x_go h hc (f:=f) h0 h4 (by omega) hl
  exact ⟨_,_,_,e⟩
end Dr
end Go.Proofs.YtnjjieohlnhicaaGreatDoor
end
section
namespace Go.Proofs.YtnjjieohlnhicaaGreatDoor
set_option linter.unusedSimpArgs false
set_option linter.unusedVariables false
open Go Go.Wm Go.Proofs Go.RowKit
set_option maxRecDepth 100000
set_option maxHeartbeats 4000000
namespace Dr
def okB (a b:Nat):Blk→Bool
 | .dead=>true
 | .row _ _ es=>es.all fun e=>e.all fun v=>v.avd a b
 | .obj _=>false
def avdB (a b:Nat):Tree Blk→Bool
 | .e=>true
 | .n x l r=>okB a b x &&(avdB a b l &&avdB a b r)
theorem avdB_ok {a b:Nat}: ∀{t:Tree Blk},avdB a b t=true→ ∀i x,treeG t i=some x→okB a b x=true
 | .e,_,i,x,hx=>by cases i<;>cases hx
 | .n y l r,h,i,x,hx=>by
   simp only [avdB,Bool.and_eq_true] at h
   obtain ⟨h1,h2,h3⟩:=h
   rw [treeG_n] at hx
   by_cases h0:i=0
   ·rw [if_pos h0] at hx
    cases hx;exact h1
   ·rw [if_neg h0] at hx
    by_cases h4:i % 2=1
    ·rw [if_pos h4] at hx;exact avdB_ok h2 _ _ hx
    ·rw [if_neg h4] at hx;exact avdB_ok h3 _ _ hx
theorem havd_of {a b:Nat} {T:Tr} {H:Hp} (hT:TRep T H) (h:avdB a b T.t=true):HAvd a b H:=fun i x hx=>by
 have hk:=avdB_ok h i x ((hT.g i).trans hx)
 cases x with
 |dead=>exact .inl rfl
 |row t md es=>
  refine .inr ⟨t,md,es,rfl,fun k e j v h1 h2=> ?_⟩
  have:=List.all_eq_true.1 (List.all_eq_true.1 hk e (List.mem_of_getElem? h1)) v (List.mem_of_getElem? h2)
  exact this
 |obj o=>cases hk
theorem lo_avd {n b:Nat} {v:VV} (h:VV.lo n v=true):v.avd n b=true:=by
 have key: ∀k:Nat,k<n→(!(Nat.ble n k &&Nat.blt k b))=true:=fun k hk=>by
  have:Nat.ble n k=false:=by
   cases e:Nat.ble n k with
   |false=>rfl
   |true=>have:=Nat.le_of_ble_eq_true e;omega
  rw [this];rfl
 unfold VV.lo at h
 split at h<;>first|rfl|(simp only [VV.avd];exact key _ (by simpa using h))|cases h
theorem tree4 (a b c d:Blk) (i:Nat):treeG (.n a (.n b (.n d .e .e) .e) (.n c .e .e)) (i+4)=none:=by
 rw [treeG_n,if_neg (by omega)]
 split
 ·rw [treeG_n,if_neg (by omega)]
  split
  ·rw [treeG_n,if_neg (by omega)];split<;>rfl
  ·rfl
 ·rw [treeG_n,if_neg (by omega)];split<;>rfl
theorem rep_of {K:Hp} {t:Tree Blk} {n:Nat} (j:List Nat) (hl:K.length=4) (h0:n=4) (h1:treeG t 0=K[0]?) (h2:treeG t 1=K[1]?) (h3:treeG t 2=K[2]?) (h4:treeG t 3=K[3]?) (h5: ∀i,treeG t (i+4)=none):TRep ⟨n,t,j⟩ K:=by
 refine ⟨h0.trans hl.symm,fun i=> ?_⟩
 match i with
 |0=>exact h1
 |1=>exact h2
 |2=>exact h3
 |3=>exact h4
 |i+4=>rw [h5 i,List.getElem?_eq_none (by omega)]
def sysD:Sys where
 terms:=[([],0),([105,102],0),([101,108,115,101],0),([120],0)]
 nons:=[[],[115]]
 levels:=[]
 start:=5
 prods:=[(4,([5],0)),(5,([1,5],0)),(5,([1,5,2,5],0)),(5,([3],0))]
 acts:=[[(0,0),(1,1),(0,0),(1,2)],[(0,0),(1,1),(0,0),(1,2)],[(2,3),(0,0),(2,3),(0,0)],[(3,0),(0,0),(0,0),(0,0)],[(2,1),(0,0),(1,5),(0,0)],[(0,0),(1,1),(0,0),(1,2)],[(2,2),(0,0),(2,2),(0,0)]]
 gotos:=[[-1,3],[-1,4],[-1,-1],[-1,-1],[-1,-1],[-1,6],[-1,-1]]
 conf:=[(4,(2,[(1,5),(2,1)]))]
 p:=([-1,-1,3,-1,1,-1,2],([0,1,0,0,4,4,0],[-1,2,2,3,3,2,6,3],[3,0,1,0,1,5,4,5]),[-1,3],([0,0],[0,4,0,0,0,6],[-1,1,-1,-1,-1,1]))
theorem smD:sysD.Sm:=by
 constructor
 case pw=>intro n hn;simp [sysD] at hn;unfold i64;omega
 all_goals decide
theorem slrow {ok:Nat→Prop} {α:Type} [Enc α] {H:Hp} {b:Nat} {t:TypeId} {md:Wm.Mode} {es:List (List VV)} {l:List α} (h:H[b]? =some (.row t md es)) (hb:ok b) (he:EsR ok H l es):SlR ok H (some ⟨b,0,0⟩) l:=
 ⟨es,.inr ⟨b,0,md,t,es,rfl,h,he.cells,fun k e hk=>by simpa using hk⟩,fun q hq _=>by cases hq;exact hb,he⟩
def txt:List UInt8:=[115,32,58,32,105,102,32,115,32,124,32,105,102,32,115,32,101,108,115,101,32,115,32,124,32,120,32,59]
theorem avdD:avdB 3 4 C43.T2.t=true:=by kernel_rfl
theorem at443:treeG C43.T2.t 443=some (.row 81 .loose [[.str [],.int .i64 (.ofNat 0)],[.str [105,102],.int .i64 (.ofNat 0)],[.str [101,108,115,101],.int .i64 (.ofNat 0)],[.str [120],.int .i64 (.ofNat 0)]]):=by kernel_rfl
theorem at454:treeG C43.T2.t 454=some (.row 9 .loose [[.str []],[.str [115]]]):=by kernel_rfl
theorem at455:treeG C43.T2.t 455=some (.row 3 .own [[.int .i64 (.ofNat 5)]]):=by kernel_rfl
theorem at463:treeG C43.T2.t 463=some (.row 3 .loose [[.int .i64 (.ofNat 1)],[.int .i64 (.ofNat 5)]]):=by kernel_rfl
theorem at476:treeG C43.T2.t 476=some (.row 3 .loose [[.int .i64 (.ofNat 1)],[.int .i64 (.ofNat 5)],[.int .i64 (.ofNat 2)],[.int .i64 (.ofNat 5)]]):=by kernel_rfl
theorem at483:treeG C43.T2.t 483=some (.row 3 .loose [[.int .i64 (.ofNat 3)]]):=by kernel_rfl
theorem at485:treeG C43.T2.t 485=some (.row 161 .loose [[.int .i64 (.ofNat 4),.sl (some ⟨455,0,0⟩) 1 1,.int .i64 (.ofNat 0)],[.int .i64 (.ofNat 5),.sl (some ⟨463,0,0⟩) 2 2,.int .i64 (.ofNat 0)],[.int .i64 (.ofNat 5),.sl (some ⟨476,0,0⟩) 4 4,.int .i64 (.ofNat 0)],[.int .i64 (.ofNat 5),.sl (some ⟨483,0,0⟩) 1 1,.int .i64 (.ofNat 0)]]):=by kernel_rfl
theorem at8803:treeG C43.T2.t 8803=some (.row 3 .own [[.int .i64 (.negSucc 0)],[.int .i64 (.ofNat 3)]]):=by kernel_rfl
theorem at8807:treeG C43.T2.t 8807=some (.row 114 .own [[.int .i64 (.ofNat 0),.int .i64 (.ofNat 0)],[.int .i64 (.ofNat 1),.int .i64 (.ofNat 1)],[.int .i64 (.ofNat 0),.int .i64 (.ofNat 0)],[.int .i64 (.ofNat 1),.int .i64 (.ofNat 2)]]):=by kernel_rfl
theorem at8813:treeG C43.T2.t 8813=some (.row 3 .own [[.int .i64 (.negSucc 0)],[.int .i64 (.ofNat 4)]]):=by kernel_rfl
theorem at8817:treeG C43.T2.t 8817=some (.row 114 .own [[.int .i64 (.ofNat 0),.int .i64 (.ofNat 0)],[.int .i64 (.ofNat 1),.int .i64 (.ofNat 1)],[.int .i64 (.ofNat 0),.int .i64 (.ofNat 0)],[.int .i64 (.ofNat 1),.int .i64 (.ofNat 2)]]):=by kernel_rfl
theorem at8823:treeG C43.T2.t 8823=some (.row 3 .own [[.int .i64 (.negSucc 0)],[.int .i64 (.negSucc 0)]]):=by kernel_rfl
theorem at8824:treeG C43.T2.t 8824=some (.row 114 .own [[.int .i64 (.ofNat 2),.int .i64 (.ofNat 3)],[.int .i64 (.ofNat 0),.int .i64 (.ofNat 0)],[.int .i64 (.ofNat 2),.int .i64 (.ofNat 3)],[.int .i64 (.ofNat 0),.int .i64 (.ofNat 0)]]):=by kernel_rfl
theorem at8830:treeG C43.T2.t 8830=some (.row 3 .own [[.int .i64 (.negSucc 0)],[.int .i64 (.negSucc 0)]]):=by kernel_rfl
theorem at8831:treeG C43.T2.t 8831=some (.row 114 .own [[.int .i64 (.ofNat 3),.int .i64 (.ofNat 0)],[.int .i64 (.ofNat 0),.int .i64 (.ofNat 0)],[.int .i64 (.ofNat 0),.int .i64 (.ofNat 0)],[.int .i64 (.ofNat 0),.int .i64 (.ofNat 0)]]):=by kernel_rfl
theorem at8837:treeG C43.T2.t 8837=some (.row 3 .own [[.int .i64 (.negSucc 0)],[.int .i64 (.negSucc 0)]]):=by kernel_rfl
theorem at8839:treeG C43.T2.t 8839=some (.row 114 .own [[.int .i64 (.ofNat 2),.int .i64 (.ofNat 1)],[.int .i64 (.ofNat 0),.int .i64 (.ofNat 0)],[.int .i64 (.ofNat 1),.int .i64 (.ofNat 5)],[.int .i64 (.ofNat 0),.int .i64 (.ofNat 0)]]):=by kernel_rfl
theorem at8845:treeG C43.T2.t 8845=some (.row 3 .own [[.int .i64 (.negSucc 0)],[.int .i64 (.ofNat 6)]]):=by kernel_rfl
theorem at8849:treeG C43.T2.t 8849=some (.row 114 .own [[.int .i64 (.ofNat 0),.int .i64 (.ofNat 0)],[.int .i64 (.ofNat 1),.int .i64 (.ofNat 1)],[.int .i64 (.ofNat 0),.int .i64 (.ofNat 0)],[.int .i64 (.ofNat 1),.int .i64 (.ofNat 2)]]):=by kernel_rfl
theorem at8855:treeG C43.T2.t 8855=some (.row 3 .own [[.int .i64 (.negSucc 0)],[.int .i64 (.negSucc 0)]]):=by kernel_rfl
theorem at8856:treeG C43.T2.t 8856=some (.row 114 .own [[.int .i64 (.ofNat 2),.int .i64 (.ofNat 2)],[.int .i64 (.ofNat 0),.int .i64 (.ofNat 0)],[.int .i64 (.ofNat 2),.int .i64 (.ofNat 2)],[.int .i64 (.ofNat 0),.int .i64 (.ofNat 0)]]):=by kernel_rfl
theorem at8858:treeG C43.T2.t 8858=some (.row 111 .loose [[.sl (some ⟨8807,0,0⟩) 4 4],[.sl (some ⟨8817,0,0⟩) 4 4],[.sl (some ⟨8824,0,0⟩) 4 4],[.sl (some ⟨8831,0,0⟩) 4 4],[.sl (some ⟨8839,0,0⟩) 4 4],[.sl (some ⟨8849,0,0⟩) 4 4],[.sl (some ⟨8856,0,0⟩) 4 4]]):=by kernel_rfl
theorem at8860:treeG C43.T2.t 8860=some (.row 22 .loose [[.sl (some ⟨8803,0,0⟩) 2 2],[.sl (some ⟨8813,0,0⟩) 2 2],[.sl (some ⟨8823,0,0⟩) 2 2],[.sl (some ⟨8830,0,0⟩) 2 2],[.sl (some ⟨8837,0,0⟩) 2 2],[.sl (some ⟨8845,0,0⟩) 2 2],[.sl (some ⟨8855,0,0⟩) 2 2]]):=by kernel_rfl
theorem at8936:treeG C43.T2.t 8936=some (.row 114 .loose [[.int .i64 (.ofNat 1),.int .i64 (.ofNat 5)],[.int .i64 (.ofNat 2),.int .i64 (.ofNat 1)]]):=by kernel_rfl
theorem at8939:treeG C43.T2.t 8939=some (.row 119 .loose [[.int .i64 (.ofNat 4),.int .i64 (.ofNat 2),.sl (some ⟨8936,0,0⟩) 2 2]]):=by kernel_rfl
theorem at9165:treeG C43.T2.t 9165=some (.row 3 .loose [[.int .i64 (.negSucc 0)],[.int .i64 (.negSucc 0)],[.int .i64 (.ofNat 3)],[.int .i64 (.negSucc 0)],[.int .i64 (.ofNat 1)],[.int .i64 (.negSucc 0)],[.int .i64 (.ofNat 2)]]):=by kernel_rfl
theorem at9188:treeG C43.T2.t 9188=some (.row 3 .own [[.int .i64 (.ofNat 0)],[.int .i64 (.ofNat 1)],[.int .i64 (.ofNat 0)],[.int .i64 (.ofNat 0)],[.int .i64 (.ofNat 4)],[.int .i64 (.ofNat 4)],[.int .i64 (.ofNat 0)]]):=by kernel_rfl
theorem at9254:treeG C43.T2.t 9254=some (.row 3 .loose [[.int .i64 (.negSucc 0)],[.int .i64 (.ofNat 2)],[.int .i64 (.ofNat 2)],[.int .i64 (.ofNat 3)],[.int .i64 (.ofNat 3)],[.int .i64 (.ofNat 2)],[.int .i64 (.ofNat 6)],[.int .i64 (.ofNat 3)]]):=by kernel_rfl
theorem at9252:treeG C43.T2.t 9252=some (.row 3 .loose [[.int .i64 (.ofNat 3)],[.int .i64 (.ofNat 0)],[.int .i64 (.ofNat 1)],[.int .i64 (.ofNat 0)],[.int .i64 (.ofNat 1)],[.int .i64 (.ofNat 5)],[.int .i64 (.ofNat 4)],[.int .i64 (.ofNat 5)]]):=by kernel_rfl
theorem at9285:treeG C43.T2.t 9285=some (.row 3 .loose [[.int .i64 (.negSucc 0)],[.int .i64 (.ofNat 3)]]):=by kernel_rfl
theorem at9297:treeG C43.T2.t 9297=some (.row 3 .own [[.int .i64 (.ofNat 0)],[.int .i64 (.ofNat 0)]]):=by kernel_rfl
theorem at9328:treeG C43.T2.t 9328=some (.row 3 .loose [[.int .i64 (.ofNat 0)],[.int .i64 (.ofNat 4)],[.int .i64 (.ofNat 0)],[.int .i64 (.ofNat 0)],[.int .i64 (.ofNat 0)],[.int .i64 (.ofNat 6)]]):=by kernel_rfl
theorem at9326:treeG C43.T2.t 9326=some (.row 3 .loose [[.int .i64 (.negSucc 0)],[.int .i64 (.ofNat 1)],[.int .i64 (.negSucc 0)],[.int .i64 (.negSucc 0)],[.int .i64 (.negSucc 0)],[.int .i64 (.ofNat 1)]]):=by kernel_rfl
theorem at351:treeG C43.T2.t 351=some (.row 76 .own [[.sl (some ⟨443,0,0⟩) 4 4,.sl (some ⟨454,0,0⟩) 2 2,.sl none 0 0,.int .i64 (.ofNat 5),.sl (some ⟨485,0,0⟩) 4 4,.sl (some ⟨1050,0,0⟩) 7 7,.int .i64 (.ofNat 11),.int .i64 (.ofNat 7),.sl (some ⟨4541,0,0⟩) 3 3,.sl (some ⟨8858,0,0⟩) 7 7,.sl (some ⟨8860,0,0⟩) 7 7,.sl (some ⟨8939,0,0⟩) 1 1,.sl (some ⟨9165,0,0⟩) 7 7,.sl (some ⟨9188,0,0⟩) 7 7,.sl (some ⟨9254,0,0⟩) 8 8,.sl (some ⟨9252,0,0⟩) 8 8,.sl (some ⟨9285,0,0⟩) 2 2,.sl (some ⟨9297,0,0⟩) 2 2,.sl (some ⟨9328,0,0⟩) 6 6,.sl (some ⟨9326,0,0⟩) 6 6,.bool false]]):=by kernel_rfl
theorem at0:treeG C43.T2.t 0=H0[0]? :=by kernel_rfl
theorem at1:treeG C43.T2.t 1=H0[1]? :=by kernel_rfl
theorem at2:treeG C43.T2.t 2=H0[2]? :=by kernel_rfl
theorem at3:treeG C43.T2.t 3=some .dead:=by kernel_rfl
theorem nD:C43.T2.n=13230:=by kernel_rfl
theorem repD:TRep C43.T (H0++[.dead]):=rep_of [] rfl rfl (by kernel_rfl) (by kernel_rfl) (by kernel_rfl) (by kernel_rfl) (tree4 _ _ _ _)
theorem forgeRead (X:Blk) (hX:X= .dead∨ ∃t es,X= .row t .ro es): ∃HF,FnV Tryz.prog 4 [.str txt] (H0++[X]) (fun r H'=>r= .tup [.ptr (some ⟨351,0,0⟩),.agg [.int .i64 0,.int .i64 0,.sl none 0 0]]∧H'=HF)∧Keep [] (H0++[X]) HF∧SysAt HF 351 sysD:=by
 obtain ⟨H2,hT,hF⟩:=cut43 _ repD
 have hn:H2.length=13230:=hT.n.symm.trans nD
 have hz:=FnV.zone (P:=Tryz.prog) (f:=4) (args:=[.str txt]) (v:= .tup [.ptr (some ⟨351,0,0⟩),.agg [.int .i64 0,.int .i64 0,.sl none 0 0]]) (H0:=H0) (G:=[X]) (H2:=H2) (m:=3) (k:=1) rfl rfl (by decide)
  (by
   intro i x hx
   rcases ro0 i (List.getElem?_eq_some_iff.1 hx).1 with ⟨h,_⟩|⟨t,es,h,hlo⟩
   ·rw [hx] at h;cases h;exact .inl rfl
   ·rw [hx] at h
    cases h
    refine .inr ⟨t,.ro,es,rfl,fun k e j v h1 h2=> ?_⟩
    have:=hlo k e j v h1 h2
    exact lo_avd this)
  (fun i x hx=>by
   have hi:=(List.getElem?_eq_some_iff.1 hx).1
   simp at hi
   subst hi
   cases hx
   exact hX)
  rfl rfl (havd_of hT avdD) (by omega) (fun i h1 h2=>by
   obtain rfl:i=3:=by omega
   exact (hT.g 3).symm.trans at3) hF
 obtain ⟨HF,hHF⟩: ∃HF,HF=H2.take 3++[X]++H2.drop (3+1):=⟨_,rfl⟩
 rw [←hHF] at hz
 have hf: ∀i,4≤i→HF[i]? =H2[i]? :=fun i hi=>by
  rw [hHF,List.getElem?_append_right (by simp;omega),List.getElem?_drop]
  congr 1
  simp;omega
 have g: ∀(b:Nat) (x:Blk),4≤b→treeG C43.T2.t b=some x→HF[b]? =some x:=fun b x hb hx=>by rw [hf b hb,←hT.g b];exact hx
 refine ⟨HF,hz,⟨by rw [hHF];simp [H0];omega,fun i hi _=> ?_⟩,?_⟩
 ·have hi4:i<4:=by simpa [H0] using hi
  by_cases h3:i=3
  ·subst h3
   have ht:(H2.take 3).length=3:=by simp [hn]
   have hh:H0.length=3:=rfl
   have e1:(H0++[X])[3]? =some X:=by rw [List.getElem?_append_right (by rw [hh];exact Nat.le_refl _),hh];rfl
   have e2:HF[3]? =some X:=by rw [hHF,List.append_assoc,List.getElem?_append_right (by rw [ht];exact Nat.le_refl _),ht];rfl
   rw [e1,e2]
  ·have hlt:i<3:=by omega
   rw [hHF,List.append_assoc,List.getElem?_append_left (by simp;omega),List.getElem?_take,if_pos hlt,←hT.g i,List.getElem?_append_left (by show i<3;exact hlt)]
   match i,hlt with
   |0,_=>exact at0
   |1,_=>exact at1
   |2,_=>exact at2
 ·have tr: ∀i:Nat,(fun _=>True) i:=fun _=>trivial
  have q1:SlR (fun _=>True) HF (some ⟨443,0,0⟩) sysD.terms:=slrow (g 443 _ (by decide) at443) trivial (EsR.cons ⟨[_],[_],rfl,rfl,rfl⟩ (EsR.cons ⟨[_],[_],rfl,rfl,rfl⟩ (EsR.cons ⟨[_],[_],rfl,rfl,rfl⟩ (EsR.cons ⟨[_],[_],rfl,rfl,rfl⟩ EsR.nil))))
  have q2:SlR (fun _=>True) HF (some ⟨454,0,0⟩) sysD.nons:=slrow (g 454 _ (by decide) at454) trivial (EsR.cons rfl (EsR.cons rfl EsR.nil))
  have q5:SlR (fun _=>True) HF (some ⟨485,0,0⟩) sysD.prods:=slrow (g 485 _ (by decide) at485) trivial (EsR.cons ⟨[_],_,rfl,rfl,[_],[_],rfl,⟨_,_,rfl,slrow (g 455 _ (by decide) at455) trivial (EsR.ofInts _ _ _)⟩,rfl⟩ (EsR.cons ⟨[_],_,rfl,rfl,[_],[_],rfl,⟨_,_,rfl,slrow (g 463 _ (by decide) at463) trivial (EsR.ofInts _ _ _)⟩,rfl⟩ (EsR.cons ⟨[_],_,rfl,rfl,[_],[_],rfl,⟨_,_,rfl,slrow (g 476 _ (by decide) at476) trivial (EsR.ofInts _ _ _)⟩,rfl⟩ (EsR.cons ⟨[_],_,rfl,rfl,[_],[_],rfl,⟨_,_,rfl,slrow (g 483 _ (by decide) at483) trivial (EsR.ofInts _ _ _)⟩,rfl⟩ EsR.nil))))
  have q6:SlR (fun _=>True) HF (some ⟨8858,0,0⟩) sysD.acts:=slrow (g 8858 _ (by decide) at8858) trivial (EsR.cons ⟨_,_,rfl,slrow (g 8807 _ (by decide) at8807) trivial (EsR.cons ⟨[_],[_],rfl,rfl,rfl⟩ (EsR.cons ⟨[_],[_],rfl,rfl,rfl⟩ (EsR.cons ⟨[_],[_],rfl,rfl,rfl⟩ (EsR.cons ⟨[_],[_],rfl,rfl,rfl⟩ EsR.nil))))⟩ (EsR.cons ⟨_,_,rfl,slrow (g 8817 _ (by decide) at8817) trivial (EsR.cons ⟨[_],[_],rfl,rfl,rfl⟩ (EsR.cons ⟨[_],[_],rfl,rfl,rfl⟩ (EsR.cons ⟨[_],[_],rfl,rfl,rfl⟩ (EsR.cons ⟨[_],[_],rfl,rfl,rfl⟩ EsR.nil))))⟩ (EsR.cons ⟨_,_,rfl,slrow (g 8824 _ (by decide) at8824) trivial (EsR.cons ⟨[_],[_],rfl,rfl,rfl⟩ (EsR.cons ⟨[_],[_],rfl,rfl,rfl⟩ (EsR.cons ⟨[_],[_],rfl,rfl,rfl⟩ (EsR.cons ⟨[_],[_],rfl,rfl,rfl⟩ EsR.nil))))⟩ (EsR.cons ⟨_,_,rfl,slrow (g 8831 _ (by decide) at8831) trivial (EsR.cons ⟨[_],[_],rfl,rfl,rfl⟩ (EsR.cons ⟨[_],[_],rfl,rfl,rfl⟩ (EsR.cons ⟨[_],[_],rfl,rfl,rfl⟩ (EsR.cons ⟨[_],[_],rfl,rfl,rfl⟩ EsR.nil))))⟩ (EsR.cons ⟨_,_,rfl,slrow (g 8839 _ (by decide) at8839) trivial (EsR.cons ⟨[_],[_],rfl,rfl,rfl⟩ (EsR.cons ⟨[_],[_],rfl,rfl,rfl⟩ (EsR.cons ⟨[_],[_],rfl,rfl,rfl⟩ (EsR.cons ⟨[_],[_],rfl,rfl,rfl⟩ EsR.nil))))⟩ (EsR.cons ⟨_,_,rfl,slrow (g 8849 _ (by decide) at8849) trivial (EsR.cons ⟨[_],[_],rfl,rfl,rfl⟩ (EsR.cons ⟨[_],[_],rfl,rfl,rfl⟩ (EsR.cons ⟨[_],[_],rfl,rfl,rfl⟩ (EsR.cons ⟨[_],[_],rfl,rfl,rfl⟩ EsR.nil))))⟩ (EsR.cons ⟨_,_,rfl,slrow (g 8856 _ (by decide) at8856) trivial (EsR.cons ⟨[_],[_],rfl,rfl,rfl⟩ (EsR.cons ⟨[_],[_],rfl,rfl,rfl⟩ (EsR.cons ⟨[_],[_],rfl,rfl,rfl⟩ (EsR.cons ⟨[_],[_],rfl,rfl,rfl⟩ EsR.nil))))⟩ EsR.nil)))))))
  have q7:SlR (fun _=>True) HF (some ⟨8860,0,0⟩) sysD.gotos:=slrow (g 8860 _ (by decide) at8860) trivial (EsR.cons ⟨_,_,rfl,slrow (g 8803 _ (by decide) at8803) trivial (EsR.ofInts _ _ _)⟩ (EsR.cons ⟨_,_,rfl,slrow (g 8813 _ (by decide) at8813) trivial (EsR.ofInts _ _ _)⟩ (EsR.cons ⟨_,_,rfl,slrow (g 8823 _ (by decide) at8823) trivial (EsR.ofInts _ _ _)⟩ (EsR.cons ⟨_,_,rfl,slrow (g 8830 _ (by decide) at8830) trivial (EsR.ofInts _ _ _)⟩ (EsR.cons ⟨_,_,rfl,slrow (g 8837 _ (by decide) at8837) trivial (EsR.ofInts _ _ _)⟩ (EsR.cons ⟨_,_,rfl,slrow (g 8845 _ (by decide) at8845) trivial (EsR.ofInts _ _ _)⟩ (EsR.cons ⟨_,_,rfl,slrow (g 8855 _ (by decide) at8855) trivial (EsR.ofInts _ _ _)⟩ EsR.nil)))))))
  have q8:SlR (fun _=>True) HF (some ⟨8939,0,0⟩) sysD.conf:=slrow (g 8939 _ (by decide) at8939) trivial (EsR.cons ⟨[_],_,rfl,rfl,[_],_,rfl,rfl,_,_,rfl,slrow (g 8936 _ (by decide) at8936) trivial (EsR.cons ⟨[_],[_],rfl,rfl,rfl⟩ (EsR.cons ⟨[_],[_],rfl,rfl,rfl⟩ EsR.nil))⟩ EsR.nil)
  refine ⟨_,_,_,_,_,_,_,_,_,_,_,_,_,_,_,_,_,_,_,_,_,_,_,_,_,_,_,⟨_,_,by simp,g 351 _ (by decide) at351⟩,q1,q2,⟨[],.inl rfl,(fun q hq=>by cases hq),EsR.nil⟩,q5,q6,q7,q8,_,_,_,_,_,_,_,_,rfl,⟨_,_,rfl,slrow (g 9165 _ (by decide) at9165) trivial (EsR.ofInts _ _ _)⟩,⟨_,_,_,rfl,⟨_,_,rfl,slrow (g 9188 _ (by decide) at9188) trivial (EsR.ofInts _ _ _)⟩,⟨_,_,rfl,slrow (g 9254 _ (by decide) at9254) trivial (EsR.ofInts _ _ _)⟩,⟨_,_,rfl,slrow (g 9252 _ (by decide) at9252) trivial (EsR.ofInts _ _ _)⟩⟩,⟨_,_,rfl,slrow (g 9285 _ (by decide) at9285) trivial (EsR.ofInts _ _ _)⟩,⟨_,_,_,rfl,⟨_,_,rfl,slrow (g 9297 _ (by decide) at9297) trivial (EsR.ofInts _ _ _)⟩,⟨_,_,rfl,slrow (g 9328 _ (by decide) at9328) trivial (EsR.ofInts _ _ _)⟩,⟨_,_,rfl,slrow (g 9326 _ (by decide) at9326) trivial (EsR.ofInts _ _ _)⟩⟩⟩
end Dr
end Go.Proofs.YtnjjieohlnhicaaGreatDoor
end
section
namespace Go.Proofs.YtnjjieohlnhicaaGreatDoor
set_option linter.unusedSimpArgs false
set_option linter.unusedVariables false
open Go Go.Wm Go.Proofs Go.RowKit
set_option maxRecDepth 100000
set_option maxHeartbeats 4000000
namespace Dr
def ArAt (H:Hp) (ab:Nat) (A:List Nat) (nodes:List Nd) (taken:List Bool):Prop:=
 ∃bsN bsT K v1 v2,A=ab::(bsN++(bsT++K))∧Box H ab [v1,v2]∧BufR (· ∈K) H bsN 79 v1 nodes∧BufR nok H bsT 4 v2 taken∧ab∉bsN∧ab∉bsT∧ab∉K∧(∀b∈bsN,b∉bsT∧b∉K)∧(∀b∈bsT,b∉K)∧ ∀b∈K,b<H.length
theorem ArAt.lt {H:Hp} {ab:Nat} {A:List Nat} {nodes:List Nd} {taken:List Bool} (h:ArAt H ab A nodes taken): ∀b∈A,b<H.length:=by
 obtain ⟨bsN,bsT,K,v1,v2,rfl,h1,h2,h3,h4,h5,h6,h7,h8,h9⟩:=h
 have:=h1.lt
 have:=h2.lt
 have:=h3.lt
 grind
theorem ArAt.keep {H H':Hp} {M:List Nat} {ab:Nat} {A:List Nat} {nodes:List Nd} {taken:List Bool} (h:ArAt H ab A nodes taken) (k:Keep M H H') (hm: ∀b∈A,b∉M):ArAt H' ab A nodes taken:=by
 obtain ⟨bsN,bsT,K,v1,v2,rfl,h1,h2,h3,h4,h5,h6,h7,h8,h9⟩:=h
 exact ⟨bsN,bsT,K,v1,v2,rfl,h1.keep k (by grind),h2.keep k (by grind) (by grind),h3.keep k (by grind) (fun i h=>h.elim),h4,h5,h6,h7,h8,fun b hb=>Nat.lt_of_lt_of_le (h9 b hb) k.1⟩
def ndV (x:Nd) (q:Option PA) (c:Nat):List VV:=[.int .i64 x.1,.int .i64 x.2.1,.int .i64 x.2.2.1,.sl q x.2.2.2.length c]
theorem add {H:Hp} {ab:Nat} {A B:List Nat} {nodes:List Nd} {taken:List Bool} {x:Nd} {q:Option PA} {c:Nat} (h:ArAt H ab A nodes taken) (hq:SlR (· ∈B) H q x.2.2.2) (hB: ∀b∈B,b∉A∧b<H.length) (hn:nodes.length≤1000000000) (hn2:taken.length≤1000000000):
 FnX Tryz.prog 296 [.ptr (some ⟨ab,0,0⟩),.agg (ndV x q c)] H fun r H'=>r= .tup [.int .i64 nodes.length,.int .i64 0]∧Keep A H H'∧ ∃A',ArAt H' ab A' (nodes++[x]) (taken++[false])∧ ∀b∈A',b∈A∨b∈B∨H.length≤b:=by
 refine FnX.enterRow ok296 (Nat.le_of_ble_eq_true rfl) ?_
 have hA:=h
 have hlt:=h.lt
 obtain ⟨bsN,bsT,K,v1,v2,rfl,h1,h2,h3,h4,h5,h6,h7,h8,h9⟩:=h
 obtain ⟨p1,c1,es1,rfl,_,_⟩:=h2.sl
 obtain ⟨p2,c2,es2,rfl,_,_⟩:=h3.sl
 refine WD.seq ?_
 refine WD.reg ?_
 refine OD.bx rfl rfl rfl rfl rfl fun H1 b1 k1 n1=> ?_
 repeat refine jj ?_
 have g1:=h1.keep k1 (by simp)
 have g2:=h2.keep k1 (by simp) (by simp)
 have g3:=h3.keep k1 (by simp) (fun i h=>h.elim)
 have gq:=hq.keep (H':=H1) fun i hi _=>k1.2 i hi (by simp)
 have g2':BufR (· ∈K++B) H1 bsN 79 (.sl p1 nodes.length c1) nodes:=by
  obtain ⟨es,e1,e2⟩:=g2
  exact ⟨es,e1,e2.weak fun i _ hi=>List.mem_append_left _ hi⟩
 have hx:Enc.rep (· ∈K++B) H1 x (ndV x q c):=⟨[_],_,rfl,rfl,[_],_,rfl,rfl,[_],_,rfl,rfl,q,c,rfl,gq.weak fun i _ hi=>List.mem_append_right _ hi⟩
 have hl1:=k1.1
 have hBA: ∀b∈B,b≠ab∧b∉bsN∧b∉bsT∧b∉K∧b<H.length:=fun b hb=>by have:=hB b hb;simp at this;grind
 have hsN:=g2.lt
 have hsT:=g3.lt
 have hab:=g1.lt
 obtain ⟨v',us,us2,bs',q1,q2,q3,q4,q5,q6,q7⟩:=fldApp (o:=0) (bytes:=48) g1 (Nat.le_of_ble_eq_true rfl) g2' hx h4 (by grind) (by grind) (by omega) (by omega)
 have hK: ∀j H',[H1,H1++[Blk.row 79 .own [ndV x q c]],applyU (H1++[Blk.row 79 .own [ndV x q c]]) us,applyU (applyU (H1++[Blk.row 79 .own [ndV x q c]]) us) us2][j]? =some H'→j≤2→Keep bsN H1 H':=fun j H' hj hj2=>by
  match j,hj with
  |0,hj=>cases hj;exact Keep.refl _
  |1,hj=>cases hj;exact Keep.mono (M:=[]) (Keep.app _) (by simp)
  |2,hj=>cases hj;exact q3
  |j+3,hj=>omega
 refine WD.dreg [H1,H1++[Blk.row 79 .own [ndV x q c]],applyU (H1++[Blk.row 79 .own [ndV x q c]]) us,applyU (applyU (H1++[Blk.row 79 .own [ndV x q c]]) us) us2] mixed rfl ?_
 repeat refine jk hK ?_
 refine VX.ef1 rfl (ev_mkagg (m:=0) (l:=ndV x q c) rfl rfl rfl) (by rw [applyU_push]) rfl ?_
 refine VX.ef2 rfl (q1 _ _ _ rfl rfl) rfl ?_
 repeat refine jk hK ?_
 refine VX.ef2 rfl (q2 _ _ _ rfl rfl) rfl ?_
 repeat refine jk hK ?_
 have hll:(H1++[Blk.row 79 .own [ndV x q c]]).length=H1.length+1:=by simp
 generalize applyU (applyU (H1++[Blk.row 79 .own [ndV x q c]]) us) us2=H4 at*
 obtain ⟨p3,c3,es3,rfl,_,_⟩:=q6.sl
 have b4:Box H4 ab [.sl p3 (nodes++[x]).length c3,.sl p2 taken.length c2]:=q5
 have g4:=g3.keep q4 (by grind) (fun i h=>h.elim)
 repeat refine jj ?_
 refine OD.app1 (α:=Bool) (bytes:=1) (ok:=nok) (x:=false) rfl (ev_mkbool rfl) rfl g4 rfl rfl (fun i h=>h.elim) (by omega) (by omega) fun v2' H5 bsT' r1 r2 r3=> ?_
 obtain ⟨p5,c5,es5,rfl,_,_⟩:=r1.sl
 have b5:=b4.keep r2 h5
 have hl4:=q4.1
 have g5:=q6.keep r2 (by grind) (by grind)
 repeat refine jj ?_
 refine OD.st rfl rfl rfl b5 rfl rfl rfl (Nat.le_of_ble_eq_true rfl) rfl fun H6 b6 k6 n6=> ?_
 have hl5:=r2.1
 have hlx:(nodes++[x]).length=nodes.length+1:=by simp
 repeat refine jj ?_
 rw [show ((nodes++[x]).length:Int)-1=nodes.length by omega]
 have hbs4:=q6.lt
 have hab2:ab<H.length:=hlt _ (by simp)
 have hK2: ∀b∈K,b<H.length:=h9
 refine ⟨.inl rfl,rfl,_,rfl,rfl,?_,ab::(bs'++(bsT'++(K++B))),⟨bs',bsT',K++B,_,_,rfl,b6,g5.keep k6 (by grind) (by grind),r1.keep k6 (by grind) (fun i h=>h.elim),by grind,by grind,by grind,by grind,by grind,by grind⟩,by grind⟩
 exact (((k1.mono (N:=ab::(bsN++(bsT++K))) (by simp)).trans q4 (by grind)).trans r2 (by grind)).trans k6 (by grind)
theorem leaf {H:Hp} {ab:Nat} {A:List Nat} {nodes:List Nd} {taken:List Bool} {sym tok:Int} (h:ArAt H ab A nodes taken) (h1:0≤sym) (h2:0≤tok) (hn:nodes.length≤1000000000) (hn2:taken.length≤1000000000):
 FnX Tryz.prog 233 [.ptr (some ⟨ab,0,0⟩),.int .i64 sym,.int .i64 tok] H fun r H'=>r= .tup [.int .i64 nodes.length,.int .i64 0]∧Keep A H H'∧ ∃A',ArAt H' ab A' (nodes++[(sym,-1,tok,[])]) (taken++[false])∧ ∀b∈A',b∈A∨H.length≤b:=by
 refine FnX.enterRow ok233 (Nat.le_of_ble_eq_true rfl) ?_
 repeat refine jj ?_
 refine OD.call rfl rfl rfl (add (x:=(sym,-1,tok,[])) (q:=none) (c:=0) (B:=[]) h ⟨[],.inl rfl,(fun q hq=>by cases hq),EsR.nil⟩ (by simp) hn hn2) ?_
 rintro r H1 ⟨rfl,k1,A',h3,h4⟩
 repeat refine jj ?_
 exact ⟨.inl rfl,rfl,_,rfl,rfl,k1,A',h3,by grind⟩
theorem len {H:Hp} {ab:Nat} {A:List Nat} {nodes:List Nd} {taken:List Bool} (h:ArAt H ab A nodes taken):FnX Tryz.prog 94 [.ptr (some ⟨ab,0,0⟩)] H fun r H'=>r= .int .i64 nodes.length∧H'=H:=by
 refine FnX.enterRow ok94 (Nat.le_of_ble_eq_true rfl) ?_
 obtain ⟨bsN,bsT,K,v1,v2,rfl,h1,h2,h3,h4,h5,h6,h7,h8,h9⟩:=h
 obtain ⟨p1,c1,es1,rfl,_,_⟩:=h2.sl
 repeat refine jj ?_
 exact ⟨.inl rfl,rfl,_,rfl,rfl,rfl⟩
theorem indexFunc {H:Hp} {p:Option PA} {c:Nat} {l:List Int} {f:FuncId} {caps:List VV} (q:Int→Bool) (hs:Sl H p 1 (intEs l)) (hl:l.length≤1000000000000) (hq: ∀n∈l,FnX Tryz.prog f (.int .i64 n::caps) H fun r H'=>r= .bool (q n)∧H'=H):
 FnX Tryz.prog 62 [.sl p l.length c,.fn f caps] H fun r H'=>r= .int .i64 (match l.findIdx? q with|some i=>(i:Int)|none=> -1)∧H'=H:=by
 refine FnX.enterRow ok62 (Nat.le_of_ble_eq_true rfl) ?_
 repeat refine jj ?_
 refine WD.loop (fun n F H'=> ∃k:Nat,n=l.length-k∧k≤l.length∧(l.take k).all (fun x=> !q x)=true∧Cov [(0,.sl p l.length c),(1,.fn f caps),(7,.int .i64 l.length),(8,.int .i64 k)] F∧F.get dslot=none∧H'=H) l.length ⟨0,rfl,Nat.zero_le _,rfl,⟨rfl,rfl,rfl,rfl,trivial⟩,rfl,rfl⟩ ?_
 rintro n F H' ⟨k,rfl,hk,ha,hc,hd,rfl⟩
 refine WD.cov hc hd rfl ?_
 by_cases hkl:k<l.length
 ·have hlk:l[k]? =some l[k]:=List.getElem?_eq_getElem hkl
  generalize l[k]=x at hlk
  repeat refine jj ?_
  refine OD.rd rfl (ev_ixI hs rfl rfl rfl hkl) ?_
  refine OD.rd rfl (ev_ldI hs rfl hlk) ?_
  refine OD.call rfl rfl rfl (hq x (List.mem_of_getElem? hlk)) ?_
  rintro r H2 ⟨rfl,rfl⟩
  cases hx:q x with
  |true=>
   have hfi:l.findIdx? q=some k:=by
    rw [List.findIdx?_eq_some_iff_getElem]
    refine ⟨hkl,?_,fun j hj=> ?_⟩
    ·rw [(List.getElem?_eq_some_iff.1 hlk).2];exact hx
    ·rw [List.all_eq_true] at ha
     have:=ha l[j] (List.mem_of_getElem? (i:=j) (by rw [List.getElem?_take,if_pos hj];exact List.getElem?_eq_getElem _))
     simpa using this
   rw [hfi]
   repeat refine jj ?_
   exact ⟨.inl rfl,rfl,_,rfl,rfl,rfl⟩
  |false=>
   repeat refine jj ?_
   refine ⟨_,by omega,k+1,rfl,by omega,?_,⟨rfl,rfl,rfl,by rw [Int.natCast_add];rfl,trivial⟩,rfl,rfl⟩
   rw [List.take_add_one,hlk,List.all_append,ha]
   simp [hx]
 ·have hfi:l.findIdx? q=none:=by
   rw [List.findIdx?_eq_none_iff]
   intro x hx
   rw [List.all_eq_true,List.take_of_length_le (by omega)] at ha
   simpa using ha x hx
  rw [hfi]
  repeat refine jj ?_
  exact ⟨.inl rfl,rfl,_,rfl,rfl,rfl⟩
theorem containsFunc {H:Hp} {p:Option PA} {c:Nat} {l:List Int} {f:FuncId} {caps:List VV} (q:Int→Bool) (hs:Sl H p 1 (intEs l)) (hl:l.length≤1000000000000) (hq: ∀n∈l,FnX Tryz.prog f (.int .i64 n::caps) H fun r H'=>r= .bool (q n)∧H'=H):
 FnX Tryz.prog 118 [.sl p l.length c,.fn f caps] H fun r H'=>r= .bool (l.any q)∧H'=H:=by
 refine FnX.enterRow ok118 (Nat.le_of_ble_eq_true rfl) ?_
 repeat refine jj ?_
 refine OD.call rfl rfl rfl (indexFunc q hs hl hq) ?_
 rintro r H2 ⟨rfl,rfl⟩
 cases hf:l.findIdx? q with
 |some i=>
  have ha:l.any q=true:=by
   rw [List.findIdx?_eq_some_iff_getElem] at hf
   obtain ⟨h1,h2,_⟩:=hf
   rw [List.any_eq_true]
   exact ⟨_,List.getElem_mem h1,h2⟩
  rw [ha]
  repeat refine jj ?_
  exact ⟨.inl rfl,rfl,_,rfl,rfl,rfl⟩
 |none=>
  have ha:l.any q=false:=by
   rw [List.findIdx?_eq_none_iff] at hf
   rw [List.any_eq_false]
   intro x hx;rw [hf x hx];simp
  rw [ha]
  repeat refine jj ?_
  exact ⟨.inl rfl,rfl,_,rfl,rfl,rfl⟩
end Dr
end Go.Proofs.YtnjjieohlnhicaaGreatDoor
end
section
namespace Go.Proofs.YtnjjieohlnhicaaGreatDoor
set_option linter.unusedSimpArgs false
set_option linter.unusedVariables false
open Go Go.Wm Go.Proofs Go.RowKit
set_option maxRecDepth 100000
set_option maxHeartbeats 4000000
namespace Dr
def badKid (n:Nat) (tk:List Bool) (k:Int):Bool:= !decide (0≤k∧k<n∧tk[k.toNat]? =some false)
theorem EsR.bool {ok:Nat→Prop} {H:Hp} {l:List Bool} {es:List (List VV)} (h:EsR ok H l es) {j:Nat} {b:Bool} (hj:l[j]? =some b):es[j]? =some [.bool b]:=by
 obtain ⟨e,h1,h2⟩:=h.get hj
 rw [h1]
 exact congrArg some h2
theorem free1 {H:Hp} {vb ab:Nat} {A:List Nat} {nodes:List Nd} {taken:List Bool} {k:Int} (hv:Box H vb [.ptr (some ⟨ab,0,0⟩)]) (h:ArAt H ab A nodes taken) (ht:taken.length=nodes.length) (hn:nodes.length≤1000000000):
 FnX Tryz.prog 321 [.int .i64 k,.ptr (some ⟨vb,0,0⟩)] H fun r H'=>r= .bool (badKid nodes.length taken k)∧H'=H:=by
 refine FnX.enterRow ok321 (Nat.le_of_ble_eq_true rfl) ?_
 obtain ⟨bsN,bsT,K,v1,v2,rfl,h1,h2,h3,h4⟩:=h
 obtain ⟨p1,c1,es1,rfl,_,_⟩:=h2.sl
 obtain ⟨p2,c2,es2,rfl,hs2,he2⟩:=h3.sl
 by_cases q1:k<0
 ·have hb:badKid nodes.length taken k=true:=by unfold badKid;simp;omega
  rw [hb]
  repeat refine jj ?_
  exact ⟨.inl rfl,rfl,_,rfl,rfl,rfl⟩
 by_cases q2:(nodes.length:Int)≤k
 ·have hb:badKid nodes.length taken k=true:=by unfold badKid;simp;omega
  rw [hb]
  repeat refine jj ?_
  exact ⟨.inl rfl,rfl,_,rfl,rfl,rfl⟩
 obtain ⟨j,rfl⟩: ∃j:Nat,k=j:=⟨k.toNat,by omega⟩
 obtain ⟨b,hb⟩: ∃b,taken[j]? =some b:=⟨_,List.getElem?_eq_getElem (by omega)⟩
 have hbk:badKid nodes.length taken j=b:=by
  unfold badKid
  rw [Int.toNat_natCast,hb]
  cases b
  ·simp;omega
  ·simp
 rw [hbk]
 repeat refine jj ?_
 refine OD.rd rfl (ev_ixa hs2 rfl rfl (by omega) (by omega) (by rw [he2.1];exact Nat.le_refl _)) ?_
 rw [Int.toNat_natCast]
 refine OD.rd rfl (ev_ld (r:=[]) hs2 rfl (EsR.bool he2 hb)) ?_
 repeat refine jj ?_
 cases b
 ·repeat refine jj ?_
  exact ⟨.inl rfl,rfl,_,rfl,rfl,rfl⟩
 ·repeat refine jj ?_
  exact ⟨.inl rfl,rfl,_,rfl,rfl,rfl⟩
theorem freeF_all {n:Nat}: ∀{ks:List Int} {tk tk':List Bool},freeF n tk ks=some tk'→(∀k∈ks,0≤k∧k<n∧tk[k.toNat]? =some false)∧tk'.length=tk.length
 |[],tk,tk',h=>by cases h;exact ⟨by simp,rfl⟩
 |k::ks,tk,tk',h=>by
  unfold freeF at h
  split at h
  ·rename_i hc
   obtain ⟨h1,h2⟩:=freeF_all h
   refine ⟨fun j hj=> ?_,by rw [h2,List.length_set]⟩
   simp at hj
   rcases hj with rfl|hj
   ·exact hc
   ·obtain ⟨a,b,c⟩:=h1 j hj
    refine ⟨a,b,?_⟩
    by_cases hjk:k.toNat=j.toNat
    ·rw [hjk] at c
     rw [List.getElem?_set_self'] at c
     cases hh:tk[j.toNat]? with
     |none=>rw [hh] at c;cases c
     |some x=>rw [hh] at c;cases c
    ·rwa [List.getElem?_set_ne hjk] at c
  ·cases h
theorem free {H:Hp} {ab:Nat} {A:List Nat} {nodes:List Nd} {taken tk':List Bool} {p:Option PA} {c:Nat} {kids:List Int} (h:ArAt H ab A nodes taken) (hs:Sl H p 1 (intEs kids)) (hp: ∀q,p=some q→q.blk∉A) (hkl:kids.length≤1000000000) (ht:taken.length=nodes.length) (hn:nodes.length≤1000000000) (hf:freeF nodes.length taken kids=some tk'):
 FnX Tryz.prog 297 [.ptr (some ⟨ab,0,0⟩),.sl p kids.length c] H fun r H'=>r= .bool true∧Keep A H H'∧ArAt H' ab A nodes tk':=by
 refine FnX.enterRow ok297 (Nat.le_of_ble_eq_true rfl) ?_
 have hA:=h.lt
 have hall:=(freeF_all hf).1
 refine WD.seq ?_
 refine WD.reg ?_
 refine OD.bx rfl rfl rfl rfl rfl fun H1 b1 k1 n1=> ?_
 repeat refine jj ?_
 have hs1:=hs.keep k1 (by simp)
 have h1:=h.keep k1 (by simp)
 refine OD.call rfl rfl rfl (containsFunc (badKid nodes.length taken) hs1 (by omega) fun n _=>free1 b1 h1 ht hn) ?_
 rintro r H2 ⟨rfl,rfl⟩
 have hany:kids.any (badKid nodes.length taken)=false:=by
  rw [List.any_eq_false]
  intro k hk
  unfold badKid
  simpa using hall k hk
 rw [hany]
 repeat refine jj ?_
 refine WD.loop (fun n F H3=> ∃(k:Nat) (tk:List Bool),n=kids.length-k∧k≤kids.length∧freeF nodes.length tk (kids.drop k)=some tk'∧tk.length=nodes.length∧Cov [(1,.sl p kids.length c),(2,.ptr (some ⟨H.length,0,0⟩)),(12,.sl p kids.length c),(13,.int .i64 kids.length),(14,.int .i64 k)] F∧F.get dslot=none∧Keep A H2 H3∧ArAt H3 ab A nodes tk) kids.length ⟨0,taken,rfl,Nat.zero_le _,hf,ht,⟨rfl,rfl,rfl,rfl,rfl,trivial⟩,rfl,Keep.refl _,h1⟩ ?_
 rintro n F H3 ⟨k,tk,rfl,hk,hfk,htk,hc,hd,k3,h3⟩
 refine WD.cov hc hd rfl ?_
 have hl1:=k1.1
 have hl3:=k3.1
 by_cases hkl':k<kids.length
 ·have hlk:kids[k]? =some kids[k]:=List.getElem?_eq_getElem hkl'
  rw [List.drop_eq_getElem_cons hkl'] at hfk
  generalize kids[k]=x at hlk hfk
  unfold freeF at hfk
  split at hfk
  rotate_left
  ·cases hfk
  rename_i hx
  obtain ⟨hx1,hx2,hx3⟩:=hx
  obtain ⟨j,rfl⟩: ∃j:Nat,x=j:=⟨x.toNat,by omega⟩
  rw [Int.toNat_natCast] at hx3 hfk
  have hs3:=hs1.keep k3 (fun q hq=>hp q hq)
  have b3:=b1.keep k3 (fun hb=>by have:=hA _ hb;omega)
  obtain ⟨bsN,bsT,K,v1,v2,rfl,g1,g2,g3,g4,g5,g6,g7,g8,g9⟩:=h3
  obtain ⟨p2,c2,es2,rfl,hs2,he2⟩:=g3.sl
  obtain ⟨es3,hb3,he3⟩:=id g3
  have hj:=(EsR.bool he3 hx3)
  have hes:es3.length=tk.length:=he3.1
  obtain ⟨p4,c4,us,e1,e2,e3,e4,e5⟩:=hb3.st (o:=0) (k:=1) (w:= .bool true) hj rfl rfl rfl (Nat.le_refl _)
  rw [hes] at e1
  cases e1
  repeat refine jj ?_
  refine OD.rd rfl (ev_ixI hs3 rfl rfl rfl hkl') ?_
  refine OD.rd rfl (ev_ldI hs3 rfl hlk) ?_
  repeat refine jj ?_
  refine OD.rd rfl (ev_ixa hs2 rfl rfl (by omega) (by omega) (by rw [he2.1];exact Nat.le_refl _)) ?_
  rw [Int.toNat_natCast]
  refine OD.rd rfl (ev_ld (r:=[]) hs2 rfl (EsR.bool he2 hx3)) ?_
  repeat refine jj ?_
  refine OD.rd rfl (ev_ixa hs2 rfl rfl (by omega) (by omega) (by rw [he2.1];exact Nat.le_refl _)) ?_
  rw [Int.toNat_natCast]
  refine OD.ef rfl (e2 _ _ _ _ rfl rfl) ?_
  have hE:BufR nok (applyU H3 us) bsT 4 (.sl p2 tk.length c2) (tk.set j true):=⟨_,e3,EsR.set (H:=applyU H3 us) (e:=[.bool true]) ⟨he3.1,fun i x e h1 h2=>he3.2 i x e h1 h2⟩ rfl⟩
  have hlt3:=g3.lt
  have g1':=g1.keep e4 g5
  have g2':=g2.keep e4 (by grind) (by grind)
  repeat refine jj ?_
  refine ⟨_,by omega,k+1,_,rfl,by omega,hfk,by rw [List.length_set];exact htk,⟨rfl,rfl,rfl,rfl,by rw [Int.natCast_add];rfl,trivial⟩,rfl,k3.trans e4 (by grind),⟨bsN,bsT,K,_,_,rfl,g1',g2',?_,g4,g5,g6,g7,g8,by rw [e5];exact g9⟩⟩
  exact hE
 ·obtain rfl:k=kids.length:=by omega
  rw [List.drop_length] at hfk
  cases hfk
  repeat refine jj ?_
  exact ⟨.inl rfl,rfl,_,rfl,rfl,(k1.mono (N:=A) (by simp)).trans k3 (fun i hi _=>hi),h3⟩
theorem join {H:Hp} {ab:Nat} {A:List Nat} {nodes:List Nd} {taken tk':List Bool} {p:Option PA} {c:Nat} {kids:List Int} {sym prod:Int} (h:ArAt H ab A nodes taken) (h1:0≤sym) (h2:0≤prod) (hs:Sl H p 1 (intEs kids)) (hp: ∀q,p=some q→q.blk∉A) (hkl:kids.length≤1000000000) (ht:taken.length=nodes.length) (hn:nodes.length≤1000000000) (hf:freeF nodes.length taken kids=some tk'):
 FnX Tryz.prog 237 [.ptr (some ⟨ab,0,0⟩),.int .i64 sym,.int .i64 prod,.sl p kids.length c] H fun r H'=>r= .tup [.int .i64 nodes.length,.int .i64 0]∧Keep A H H'∧ ∃A',ArAt H' ab A' (nodes++[(sym,prod,0,kids)]) (tk'++[false])∧ ∀b∈A',b∈A∨H.length≤b:=by
 refine FnX.enterRow ok237 (Nat.le_of_ble_eq_true rfl) ?_
 have hA:=h.lt
 have htk:=(freeF_all hf).2
 repeat refine jj ?_
 refine OD.call rfl rfl rfl (free h hs hp hkl ht hn hf) ?_
 rintro r H1 ⟨rfl,k1,h3⟩
 have hs1:=hs.keep k1 hp
 repeat refine jj ?_
 refine OD.call rfl rfl rfl (clone hs1 (by omega)) ?_
 rintro r H2 ⟨k2,bs,hb,hbs⟩
 have h4:=h3.keep k2 (by simp)
 obtain ⟨q,cq,eq,rfl,hq1,hq2⟩:=hb.sl
 have hqi:=hb.slI
 have hA1:=h3.lt
 have hbl:=hb.lt
 obtain ⟨es',hb',hr'⟩:=id hb
 obtain ⟨q',c',e',_,hq'⟩:=hb'.sl
 have hes':es'.length=kids.length:=hr'.1
 injection e' with e1 e2 e3
 subst e1
 repeat refine jj ?_
 refine OD.call rfl rfl rfl (add (x:=(sym,prod,0,kids)) (q:=q) (c:=cq) (B:=bs) h4 (SlR.ofInts hqi fun qq hqq _=>hq' qq hqq) (fun b hb=>⟨fun hb'=>by have:=hbs b hb;have:=hA1 b hb';omega,hbl b hb⟩) hn (by omega)) ?_
 rintro r H3 ⟨rfl,k3,A',h5,h6⟩
 repeat refine jj ?_
 have hl1:=k1.1
 have hl2:=k2.1
 exact ⟨.inl rfl,rfl,_,rfl,rfl,(k1.trans k2 (by simp)).trans k3 (fun i hi _=>hi),A',h5,by grind⟩
theorem cloneN {H:Hp} {K bs:List Nat} {t:TypeId} {v:VV} {nodes:List Nd} (h:BufR (· ∈K) H bs t v nodes) (hl:nodes.length≤1000000000):FnX Tryz.prog 173 [v] H fun r H'=>Keep [] H H'∧ ∃bs',BufR (· ∈K) H' bs' 79 r nodes∧ ∀b∈bs',H.length≤b:=by
 refine FnX.enterRow ok173 (Nat.le_of_ble_eq_true rfl) ?_
 obtain ⟨p,c,es,rfl,hs,he⟩:=h.sl
 by_cases hp:p=none
 ·subst hp
  have hnil:nodes=[]:=by
   rcases hs with hs|⟨b,i,md,t,rows,h,_⟩
   ·exact List.eq_nil_of_length_eq_zero (by rw [←he.1,hs];rfl)
   ·cases h
  subst hnil
  repeat refine jj ?_
  exact ⟨.inl rfl,rfl,_,rfl,Keep.refl _,[],BufR.nil _ _ _,by simp⟩
 ·obtain ⟨q,rfl⟩:=Option.ne_none_iff_exists'.1 hp
  have hk:Keep [] H (H++[Blk.row 79 .own []]):=Keep.app _
  have hsrc:srcEls (H++[Blk.row 79 .own []]).g 4 (.sl (some q) nodes.length c)=some es:=srcEls_of (hs.mono _) he.1
  have hbuf:Buf (H++[Blk.row 79 .own []]) [H.length] 79 4 (.sl (some ⟨H.length,0,0⟩) 0 0) []:= .inr ⟨H.length,.own,[],rfl,rfl,by simp,by simp,fun _=>rfl,by simp,List.prefix_refl _⟩
  repeat refine jj ?_
  refine OD.ef rfl (v:= .sl (some ⟨H.length,0,0⟩) 0 0) (us:=[(H.length,.row 79 .own [])]) rfl ?_
  rw [applyU_push]
  repeat refine jj ?_
  by_cases hn:nodes=[]
  ·subst hn
   have happ: ∀(E:Fr) (s x:Od),s.ev E=some (.sl (some ⟨H.length,0,0⟩) 0 0)→x.ev E=some (.sl (some q) 0 c)→(VEf.app 79 4 48 s x).ev E (H++[Blk.row 79 .own []]).g (H++[Blk.row 79 .own []]).length=some (.sl (some ⟨H.length,0,0⟩) 0 0,[]):=fun E s x h1 h2=>by
    simp [VEf.ev,h1,h2,srcEls,appV]
   refine OD.ef rfl (happ _ _ _ rfl rfl) ?_
   repeat refine jj ?_
   exact ⟨.inl rfl,rfl,_,rfl,hk,[H.length],⟨[],hbuf,EsR.nil⟩,by simp⟩
  ·have hin:es≠[]:=fun h=>hn (List.eq_nil_of_length_eq_zero (by rw [←he.1,h];rfl))
   obtain ⟨v',us,bs',a1,a2,a3,a4⟩:=hbuf.app (bytes:=48) hsrc hin he.cells (by rw [he.1];simp;omega) (by rw [he.1];simp;omega)
   refine OD.ef rfl (a1 _ _ _ rfl rfl) ?_
   repeat refine jj ?_
   have k2:=hk.trans a3 (fun i hi hl=>by simp at hi;omega)
   refine ⟨.inl rfl,rfl,_,rfl,k2,bs',⟨es,a2,he.keep fun i hi _=>k2.2 i hi (by simp)⟩,fun b hb=> ?_⟩
   rcases a4 b hb with h|h
   ·simp at h;omega
   ·simp at h;omega
theorem nodesOf {H:Hp} {ab:Nat} {A:List Nat} {nodes:List Nd} {taken:List Bool} (h:ArAt H ab A nodes taken) (hn:nodes.length≤1000000000) (hk: ∀x∈nodes,x.2.2.2.length≤1000000000):FnX Tryz.prog 92 [.ptr (some ⟨ab,0,0⟩)] H fun r H'=>Keep [] H H'∧ ∃p c,r= .sl p nodes.length c∧SlR (fun b=>b∈A∨H.length≤b) H' p nodes:=by
 refine FnX.enterRow ok92 (Nat.le_of_ble_eq_true rfl) ?_
 obtain ⟨bsN,bsT,K,v1,v2,rfl,g1,g2,g3,g4,g5,g6,g7,g8,g9⟩:=h
 obtain ⟨p1,c1,es1,rfl,_,_⟩:=g2.sl
 repeat refine jj ?_
 refine OD.call rfl rfl rfl (cloneN g2 hn) ?_
 rintro r H1 ⟨k1,bs,hb,hbs⟩
 obtain ⟨p,c,es,rfl,_,_⟩:=hb.sl
 have hb1:BufR (fun i=>(i∈K∨H.length≤i)∧i<H1.length∧i∉bs) H1 bs 79 (.sl p nodes.length c) nodes:=by
  obtain ⟨es,e1,e2⟩:=hb
  exact ⟨es,e1,e2.weak fun i hi hik=>⟨.inl hik,hi,fun hc=>by have:=hbs i hc;have:=g9 i hik;omega⟩⟩
 repeat refine jj ?_
 refine WD.loop (fun n F H2=> ∃k:Nat,n=nodes.length-k∧k≤nodes.length∧Cov [(3,.sl p nodes.length c),(13,.int .i64 nodes.length),(14,.int .i64 k)] F∧F.get dslot=none∧Keep [] H H2∧H1.length≤H2.length∧BufR (fun i=>(i∈K∨H.length≤i)∧i<H2.length∧i∉bs) H2 bs 79 (.sl p nodes.length c) nodes) nodes.length ⟨0,rfl,Nat.zero_le _,⟨rfl,rfl,rfl,trivial⟩,rfl,k1,Nat.le_refl _,hb1⟩ ?_
 rintro n F H2 ⟨k,rfl,hkn,hc,hd,k2,hl2,hb2⟩
 refine WD.cov hc hd rfl ?_
 by_cases hkl:k<nodes.length
 ·have hlk:nodes[k]? =some nodes[k]:=List.getElem?_eq_getElem hkl
  have hset:nodes.set k nodes[k]=nodes:=List.set_getElem_self _
  generalize nodes[k]=x at hlk hset
  obtain ⟨es2,hb3,he3⟩:=id hb2
  obtain ⟨p',c',e1,hs3,hq3⟩:=hb3.sl
  rw [he3.1] at e1
  cases e1
  obtain ⟨e,e2,e3⟩:=he3.get hlk
  obtain ⟨_,_,rfl,rfl,_,_,rfl,rfl,_,_,rfl,rfl,q0,c0,rfl,hq0⟩:=e3
  have hlds:=hs3.lds e2
  repeat refine jj ?_
  refine OD.rd rfl (ev_ixa hs3 rfl rfl (by omega) (by omega) (by rw [he3.1];exact Nat.le_refl _)) ?_
  rw [Int.toNat_natCast]
  refine OD.rd rfl (ev_fa rfl) ?_
  refine OD.rd rfl (ev_ldO rfl hlds rfl) ?_
  refine OD.call rfl rfl rfl (clone hq0.ints (by have:=hk x (List.mem_of_getElem? hlk);omega)) ?_
  rintro r H3 ⟨k3,bs3,hb4,hbs4⟩
  have hl3:=k3.1
  obtain ⟨q5,c5,es5,rfl,_,_⟩:=hb4.sl
  obtain ⟨es6,hb6,_⟩:=id hb4
  obtain ⟨q6,c6,e6,_,hq6⟩:=hb6.sl
  injection e6 with e61 e62 e63
  subst e61
  have hb5:=hb3.keep k3 (by simp)
  have hbl:=hb3.lt
  obtain ⟨p7,c7,us,f1,f2,f3,f4,f5⟩:=hb5.st (o:=3) (k:=1) (w:= .sl q5 x.2.2.2.length c5) e2 rfl rfl rfl (Nat.le_refl _)
  rw [he3.1] at f1
  cases f1
  have hs5:=hs3.keep k3 (by simp)
  refine OD.rd rfl (ev_ixa hs5 rfl rfl (by omega) (by omega) (by rw [he3.1];exact Nat.le_refl _)) ?_
  rw [Int.toNat_natCast]
  refine OD.rd rfl (ev_fa rfl) ?_
  refine OD.ef rfl (f2 _ _ _ _ rfl rfl) ?_
  repeat refine jj ?_
  refine ⟨_,by omega,k+1,rfl,by omega,⟨rfl,rfl,by rw [Int.natCast_add];rfl,trivial⟩,rfl,(k2.trans k3 (by simp)).trans f4 (fun i hi hl=>by have:=hbs i hi;omega),by omega,⟨_,f3,?_⟩⟩
  have hE:=he3.keep (H':=applyU H3 us) fun i hi hik=>by rw [f4.2 i (by omega) hik.2.2];exact k3.2 i hi (by simp)
  have hE2:=EsR.weak (ok':=fun i=>(i∈K∨H.length≤i)∧i<(applyU H3 us).length∧i∉bs) hE fun i hi hik=>⟨hik.1,hi,hik.2.2⟩
  rw [←hset]
  refine hE2.set ⟨[_],_,rfl,rfl,[_],_,rfl,rfl,[_],_,rfl,rfl,q5,c5,rfl,?_⟩
  refine SlR.ofInts ((hb4.slI).keep f4 fun q hq hc=> ?_) fun q hq _=> ?_
  ·have:=hbs4 _ (hq6 q hq)
   have:=hbl _ hc
   omega
  ·have h1:=hbs4 _ (hq6 q hq)
   have h2:=hb4.lt _ (hq6 q hq)
   exact ⟨.inr (by have:=k2.1;omega),by omega,fun hc=>by have:=hbl _ hc;omega⟩
 ·obtain ⟨es2,hb3,he3⟩:=id hb2
  obtain ⟨p',c',e1,hs3,hq3⟩:=hb3.sl
  rw [he3.1] at e1
  cases e1
  repeat refine jj ?_
  exact ⟨.inl rfl,rfl,_,rfl,k2,p,_,rfl,es2,hs3,fun q hq _=> .inr (hbs _ (hq3 q hq)),he3.weak fun i _ hi=>hi.1.imp (fun h=>by simp [h]) id⟩
end Dr
end Go.Proofs.YtnjjieohlnhicaaGreatDoor
end
section
namespace Go.Proofs.YtnjjieohlnhicaaGreatDoor
set_option linter.unusedSimpArgs false
set_option linter.unusedVariables false
open Go Go.Wm Go.Proofs Go.RowKit
set_option maxRecDepth 100000
set_option maxHeartbeats 4000000
namespace Dr
def RunAt (H0 H:Hp) (rb tb:Nat) (T:Tab) (pk:Bool) (W:List Nat) (S:Rn):Prop:=
 ∃sb ab F A bsV vm,W=rb::(bsV++(F++A))∧Box H rb [.ptr (some ⟨sb,0,0⟩),.ptr (some ⟨ab,0,0⟩),.ptr (some ⟨tb,0,0⟩),.bool pk,vm,.int .i64 S.count,.bool S.over]∧BufR nok H bsV 235 vm S.moves∧StackAt H sb F 0 S.st S.ns∧ArAt H ab A S.nodes S.taken∧
  rb∉bsV∧rb∉F∧rb∉A∧(∀b∈bsV,b∉F∧b∉A)∧(∀b∈F,b∉A)∧TabAt H0 tb T∧Keep [] H0 H∧ ∀b∈W,H0.length≤b
theorem RunAt.lt {H0 H:Hp} {rb tb:Nat} {T:Tab} {pk:Bool} {W:List Nat} {S:Rn} (h:RunAt H0 H rb tb T pk W S): ∀b∈W,b<H.length:=by
 obtain ⟨sb,ab,F,A,bsV,vm,rfl,h1,h2,h3,h4,h5⟩:=h
 have:=h1.lt
 have:=h2.lt
 have:=h3.lt
 have:=h4.lt
 grind
theorem RunAt.keep {H0 H H':Hp} {M:List Nat} {rb tb:Nat} {T:Tab} {pk:Bool} {W:List Nat} {S:Rn} (h:RunAt H0 H rb tb T pk W S) (k:Keep M H H') (hm: ∀b∈W,b∉M) (hM: ∀b∈M,H0.length≤b):RunAt H0 H' rb tb T pk W S:=by
 obtain ⟨sb,ab,F,A,bsV,vm,rfl,h1,h2,h3,h4,h5,h6,h7,h8,h9,h10,h11,h12⟩:=h
 exact ⟨sb,ab,F,A,bsV,vm,rfl,h1.keep k (by grind),h2.keep k (by grind) (fun i h=>h.elim),h3.keep k (by grind),h4.keep k (by grind),h5,h6,h7,h8,h9,h10,h11.trans k (fun i hi hl=>by have:=hM i hi;omega),h12⟩
def dtF (T:Tab) (s n:Int):Option Int:=cell? T.d.2 s n
theorem does {H0 H:Hp} {rb tb:Nat} {T:Tab} {pk:Bool} {W:List Nat} {S S':Rn} {a:Int×Int} {term:Int} (h:RunAt H0 H rb tb T pk W S) (hg:doesF T.prods T.nT (dtF T) term S a=some S') (hpr: ∀pr∈T.prods,-1000000000≤pr.1∧pr.1≤4000000000∧pr.2.1.length≤1000000000)
 (hl1:S.taken.length=S.nodes.length) (hl2:S.st.length=S.ns.length) (hl3:S.nodes.length≤900000000) (hl4:S.moves.length≤900000000) (hl5:S.st.length≤64):
 FnX Tryz.prog 172 [.ptr (some ⟨rb,0,0⟩),actV a,.int .i64 term] H fun r H'=>Keep W H H'∧ ∃W',RunAt H0 H' rb tb T pk W' S'∧ ∀b∈W',b∈W∨H.length≤b:=by
 refine FnX.enterRow ok172 (Nat.le_of_ble_eq_true rfl) ?_
 have hWl:=h.lt
 obtain ⟨sb,ab,F,A,bsV,vm,rfl,g1,g2,g3,g4,h5,h6,h7,h8,h9,h10,h11,h12⟩:=h
 refine WD.seq ?_
 refine WD.reg ?_
 refine OD.bx (v:=actV a) rfl rfl rfl rfl rfl fun H1 b1 k1 n1=> ?_
 repeat refine jj ?_
 have b1':Box H1 H.length [.int .i64 a.1,.int .i64 a.2]:=b1
 have e1:=g1.keep k1 (by simp)
 have e2:=g2.keep k1 (by simp) (fun i h=>h.elim)
 obtain ⟨pm,cm,esm,rfl,_,_⟩:=e2.sl
 have hrl:rb<H.length:=hWl _ (by simp)
 have hVl: ∀b∈bsV,b<H.length:=fun b hb=>hWl _ (by simp [hb])
 have hFl: ∀b∈F,b<H.length:=fun b hb=>hWl _ (by simp [hb])
 have hAl: ∀b∈A,b<H.length:=fun b hb=>hWl _ (by simp [hb])
 have hr0:H0.length≤rb:=h12 _ (by simp)
 have hV0: ∀b∈bsV,H0.length≤b:=fun b hb=>h12 _ (by simp [hb])
 have hF0: ∀b∈F,H0.length≤b:=fun b hb=>h12 _ (by simp [hb])
 have hA0: ∀b∈A,H0.length≤b:=fun b hb=>h12 _ (by simp [hb])
 have hle:=k1.1
 obtain ⟨v',us,us2,bs',q1,q2,q3,q4,q5,q6,q7⟩:=fldApp (o:=4) (bytes:=24) (x:=(a,(S.count:Int))) (e:=[.int .i64 a.1,.int .i64 a.2,.int .i64 S.count]) e1 (Nat.le_of_ble_eq_true rfl) e2 ⟨_,_,rfl,⟨[_],[_],rfl,rfl,rfl⟩,rfl⟩ h5 (fun i h=>h.elim) (fun i h=>h.elim) (by omega) (by omega)
 obtain ⟨X,hX⟩: ∃X,X=H1++[Blk.row 235 .own [[.int .i64 a.1,.int .i64 a.2,.int .i64 S.count]]]:=⟨_,rfl⟩
 have hXk:Keep [] H1 X:=by rw [hX];exact Keep.app _
 rw [←hX] at q1 q2 q3 q4 q5 q6
 have hK: ∀j H',[H1,X,applyU X us,applyU (applyU X us) us2][j]? =some H'→j≤2→Keep bsV H1 H':=fun j H' hj hj2=>by
  match j,hj with
  |0,hj=>cases hj;exact Keep.refl _
  |1,hj=>cases hj;exact hXk.mono (by simp)
  |2,hj=>cases hj;exact q3
  |j+3,hj=>omega
 refine WD.dreg [H1,X,applyU X us,applyU (applyU X us) us2] mixed rfl ?_
 repeat refine jk hK ?_
 refine VX.ef1 rfl (ev_mkagg (m:=0) (l:=[.int .i64 a.1,.int .i64 a.2,.int .i64 S.count]) rfl rfl rfl) (by rw [applyU_push,hX]) rfl ?_
 refine VX.ef2 rfl (q1 _ _ _ rfl rfl) rfl ?_
 repeat refine jk hK ?_
 refine VX.ef2 rfl (q2 _ _ _ rfl rfl) rfl ?_
 repeat refine jk hK ?_
 generalize applyU (applyU X us) us2=H4 at*
 clear hK q1 q2 q3 hXk hX
 obtain ⟨p3,c3,es3,rfl,_,_⟩:=q6.sl
 have f1:Box H4 rb [.ptr (some ⟨sb,0,0⟩),.ptr (some ⟨ab,0,0⟩),.ptr (some ⟨tb,0,0⟩),.bool pk,.sl p3 (S.moves++[(a,(S.count:Int))]).length c3,.int .i64 S.count,.bool S.over]:=q5
 have k4:Keep (rb::(bsV++(F++A))) H H4:=(k1.mono (by simp)).trans q4 (by grind)
 have bA:=b1'.keep q4 (by grind)
 have f3:=(g3.keep k1 (by simp)).keep q4 (by grind)
 have f4:=(g4.keep k1 (by simp)).keep q4 (by grind)
 have hk4:Keep [] H0 H4:=h11.trans k4 (fun i hi hl=>by have:=h12 i hi;omega)
 have hbs': ∀b∈bs',b∉F∧b∉A∧b≠rb∧H0.length≤b:=by have:=h11.1;grind
 have hl4':=k4.1
 have hb4:=q6.lt
 have n4:H1.length≤H4.length:=q4.1
 have hF4:=f3.lt
 have hA4:=f4.lt
 by_cases c1:a.1=1
 ·unfold doesF at hg
  simp only [c1,if_true] at hg
  split at hg
  ·cases hg
  rename_i hc
  cases hg
  repeat refine jj ?_
  obtain ⟨r5,H5,⟨rfl,k5,A5,f5,hA5⟩,hF5⟩:=leaf (tok:=(S.count:Int)) f4 (show 0≤term by omega) (by omega) (by omega) (by omega)
  refine WD.dreg [H4,H5] mixed rfl ?_
  repeat refine jz ?_
  refine VX.call2 rfl rfl rfl rfl hF5 ?_
  repeat refine jz ?_
  repeat refine jj ?_
  have m1:=f1.keep k5 h7
  have m3:=f3.keep k5 h9
  have mA:=bA.keep k5 (by grind)
  have m6:=q6.keep k5 (by grind) (fun i h=>h.elim)
  have hl5':=k5.1
  obtain ⟨r6,H6,⟨rfl,k6,F6,f6,hF6'⟩,hF6⟩:=push (s:=a.2) (n:=(S.nodes.length:Int)) m3 (by omega) (by omega)
  refine WD.dreg [H5,H6] mixed rfl ?_
  repeat refine jz ?_
  refine VX.call2 rfl rfl rfl rfl hF6 ?_
  repeat refine jz ?_
  repeat refine jj ?_
  have hA5l:=f5.lt
  have hF6l:=f6.lt
  have k46:Keep (rb::(bsV++(F++A))) H H6:=(k4.trans k5 (by grind)).trans k6 (by grind)
  refine ⟨.inr rfl,rfl,_,rfl,k46,rb::(bs'++(F6++A5)),⟨sb,ab,F6,A5,bs',_,rfl,m1.keep k6 (by grind),m6.keep k6 (by grind) (fun i h=>h.elim),f6,f5.keep k6 (by grind),by grind,by grind,by grind,by grind,by grind,h10,(hk4.trans k5 (by grind)).trans k6 (by grind),by grind⟩,by grind⟩
 by_cases c2:a.1=2
 ·unfold doesF at hg
  simp only [c2,show ¬(2:Int)=1 by omega,if_false,if_true] at hg
  cases hix:idx T.prods a.2 with
  |none=>rw [hix] at hg;cases hg
  |some pr=>
  rw [hix] at hg
  simp only at hg
  rw [←hl2] at hg
  split at hg
  ·cases hg
  rename_i hc
  cases hfr:freeF S.nodes.length S.taken (S.ns.drop (S.st.length-pr.2.1.length)) with
  |none=>rw [hfr] at hg;cases hg
  |some tk=>
  rw [hfr] at hg
  simp only at hg
  cases hq:dtF T (topOf 0 (S.st.take (S.st.length-pr.2.1.length))) (pr.1-T.nT) with
  |none=>rw [hq] at hg;cases hg
  |some q=>
  rw [hq] at hg
  cases hg
  obtain ⟨pm2,hpm2,hpm3⟩:=idx_inv hix
  have hprb:=hpr pr (List.mem_of_getElem? hpm3)
  obtain ⟨r5,H5,⟨rfl,rfl⟩,hF5⟩:=length (h10.ext hk4) hix
  repeat refine jj ?_
  refine WD.dreg [H5,H5] mixed rfl ?_
  repeat refine jz ?_
  refine VX.call2 rfl rfl rfl rfl hF5 ?_
  repeat refine jz ?_
  repeat refine jj ?_
  refine OD.call rfl rfl rfl (pop (k:=pr.2.1.length) f3 (by omega) hl2.symm hl5) ?_
  rintro r6 H6 ⟨k6,f6,pk6,rfl,hs6,hp6⟩
  have hdl:(S.ns.drop (S.st.length-pr.2.1.length)).length=pr.2.1.length:=by rw [List.length_drop];omega
  have hsbF:sb∈F:=by obtain ⟨_,_,_,_,e,_⟩:=g3;rw [e];simp
  have m1:=f1.keep k6 (by grind)
  have m4:=f4.keep k6 (by grind)
  have mA:=bA.keep k6 (by grind)
  have m6:=q6.keep k6 (by grind) (fun i h=>h.elim)
  have hl6:=k6.1
  obtain ⟨r7,H7,⟨rfl,k7,A7,f7,hA7⟩,hF7⟩:=join (prod:=a.2) (sym:=pr.1) m4 (by omega) (by omega) hs6 (fun q hq hqa=>by have:=hp6 q hq;have:=hA4 _ hqa;omega) (by omega) hl1 (by omega) hfr
  rw [hdl] at hF7
  repeat refine jj ?_
  refine WD.dreg [H6,H7] mixed rfl ?_
  repeat refine jz ?_
  refine VX.call2 rfl rfl rfl rfl hF7 ?_
  repeat refine jz ?_
  repeat refine jj ?_
  have hl7:=k7.1
  have m1':=m1.keep k7 h7
  have m6':=m6.keep k7 (by grind) (fun i h=>h.elim)
  have m3:=f6.keep k7 h9
  have k47:Keep (rb::(bsV++(F++A))) H H7:=(k4.trans k6 (by grind)).trans k7 (by grind)
  have hk7:Keep [] H0 H7:=(hk4.trans k6 (by grind)).trans k7 (by grind)
  have htl:(S.st.take (S.st.length-pr.2.1.length)).length=S.st.length-pr.2.1.length:=by rw [List.length_take];omega
  have htl2:(S.ns.take (S.st.length-pr.2.1.length)).length=S.st.length-pr.2.1.length:=by rw [List.length_take];omega
  obtain ⟨r8,H8,⟨rfl,rfl⟩,hF8⟩:=top m3 (by omega)
  obtain ⟨r9,H9,⟨rfl,rfl⟩,hF9⟩:=target (h10.ext hk7) hprb.1 hprb.2.1 hq
  obtain ⟨r10,H10,⟨rfl,k10,F10,f10,hF10'⟩,hF10⟩:=push (s:=q) (n:=(S.nodes.length:Int)) m3 (by omega) (by omega)
  have hK: ∀j H',[H9,H9,H9,H10][j]? =some H'→j≤2→Keep [] H9 H':=fun j H' hj hj2=>by
   match j,hj with
   |0,hj=>cases hj;exact Keep.refl _
   |1,hj=>cases hj;exact Keep.refl _
   |2,hj=>cases hj;exact Keep.refl _
   |j+3,hj=>omega
  refine WD.dreg [H9,H9,H9,H10] mixed rfl ?_
  repeat refine jk hK ?_
  refine VX.call2 rfl rfl rfl rfl hF8 ?_
  repeat refine jk hK ?_
  refine VX.call2 rfl rfl rfl rfl hF9 ?_
  repeat refine jk hK ?_
  refine VX.call2 rfl rfl rfl rfl hF10 ?_
  refine VX.fin rfl ?_
  repeat refine jj ?_
  have hA7l:=f7.lt
  have hF10l:=f10.lt
  refine ⟨.inr rfl,rfl,_,rfl,k47.trans k10 (by grind),rb::(bs'++(F10++A7)),⟨sb,ab,F10,A7,bs',_,rfl,m1'.keep k10 (by grind),m6'.keep k10 (by grind) (fun i h=>h.elim),f10,f7.keep k10 (by grind),by grind,by grind,by grind,by grind,by grind,h10,hk7.trans k10 (by grind),by grind⟩,by grind⟩
 by_cases c3:a.1=3
 ·unfold doesF at hg
  simp only [c3,show ¬(3:Int)=1 by omega,show ¬(3:Int)=2 by omega,if_false,if_true] at hg
  cases hg
  repeat refine jj ?_
  refine OD.st rfl rfl rfl f1 rfl rfl rfl (Nat.le_of_ble_eq_true rfl) rfl fun H5 m1 k5 n5=> ?_
  repeat refine jj ?_
  refine ⟨.inr rfl,rfl,_,rfl,k4.trans k5 (by grind),rb::(bs'++(F++A)),⟨sb,ab,F,A,bs',_,rfl,m1,q6.keep k5 (by grind) (fun i h=>h.elim),f3.keep k5 (by grind),f4.keep k5 (by grind),by grind,by grind,by grind,by grind,by grind,h10,hk4.trans k5 (by grind),by grind⟩,by grind⟩
 ·unfold doesF at hg
  simp only [c1,c2,c3,if_false] at hg
  cases hg
  repeat refine jj ?_
  refine ⟨.inr rfl,rfl,_,rfl,k4,rb::(bs'++(F++A)),⟨sb,ab,F,A,bs',_,rfl,f1,q6,f3,f4,by grind,by grind,by grind,by grind,by grind,h10,hk4,by grind⟩,by grind⟩
end Dr
end Go.Proofs.YtnjjieohlnhicaaGreatDoor
end
