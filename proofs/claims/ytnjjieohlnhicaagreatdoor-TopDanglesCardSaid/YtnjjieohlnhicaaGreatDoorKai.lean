/- Texts as one: WmW WmX WmY WmZa WmZc WmZe WmZf. -/
import Derived.Test.YtnjjieohlnhicaaGreatDoorKah
import Derived.Deep.Slices
import Derived.WalkKit
import Derived.ProofKit
import Derived.OpenShut
import Derived.JoinedCond
import Derived.Lib.LaidTab
section
namespace Go.Wm
set_option linter.unusedVariables false
set_option linter.unusedSimpArgs false
def Less (H H':Hp):Prop:=H.length=H'.length∧ ∀(i:Nat) b,H[i]? =some b→b= .dead∨H'[i]? =some b
theorem HRel.less {P:Program} {σ:Sg} {B:Nat} {H H':Hp} {w:World} (h:HRel P σ B H' w) (hl:Less H H'):HRel P σ B H w:=by
 have row: ∀{i:Nat} {t md es},H[i]? =some (Blk.row t md es)→H'[i]? =some (Blk.row t md es):=fun hi=>(hl.2 _ _ hi).resolve_left (by simp)
 have obj: ∀{i:Nat} {o},H[i]? =some (Blk.obj o)→H'[i]? =some (Blk.obj o):=fun hi=>(hl.2 _ _ hi).resolve_left (by simp)
 exact ⟨h.base,fun i I hi=>by rw [hl.1];exact h.dom i I hi,fun i t md es hi=>h.rows i t md es (row hi),fun i j ti mi esi tj mj esj Ii Ij hi hm hj=>h.inj i j ti mi esi tj mj esj Ii Ij (row hi) hm (row hj),
  fun i o hi=>h.objs i o (obj hi),fun i j o o' I J hi hj=>h.oinj i j o o' I J (obj hi) (obj hj),h.glob,h.fit⟩
theorem VW.less {P:Program} {B N:Nat} {rn:Bool} {c:VC} {F:Fr} {H H':Hp} {Q:VQ} (hl:Less H H') (h:VW P B N rn c F H Q):VW P B N rn c F H' Q:=
 fun ro hro K c' hc σ w a hH hF=>h ro hro K c' hc σ w a (hH.less hl) hF
theorem mem_insN {s i:Nat}: ∀{l:List Nat},i∈insN s l↔i=s∨i∈l
 |[]=>by simp [insN]
 |x::l=>by
  have ih:=mem_insN (s:=s) (i:=i) (l:=l)
  unfold insN
  cases h1:Nat.blt s x with
  |true=>simp
  |false=>
   cases h2:Nat.beq s x with
   |true=>
    have:s=x:=Nat.eq_of_beq_eq_true h2
    subst this
    simp
   |false=>
    simp only [cond_false,List.mem_cons,ih]
    constructor
    ·rintro (h|h|h)
     ·exact .inr (.inl h)
     ·exact .inl h
     ·exact .inr (.inr h)
    ·rintro (h|h|h)
     ·exact .inr (.inl h)
     ·exact .inl h
     ·exact .inr (.inr h)
theorem mem_insAll {i:Nat}: ∀{l:List Nat},i∈insAll l↔i∈l
 |[]=>by show i∈([]:List Nat)↔_;simp
 |x::l=>by
  have e:insAll (x::l)=insN x (insAll l):=rfl
  rw [e,mem_insN,mem_insAll,List.mem_cons]
theorem bit_eq (m x:Nat):Nat.beq (Nat.land (Nat.shiftRight m x) 1) 1=m.testBit x:=by
 have e1:Nat.land (Nat.shiftRight m x) 1=(m>>>x) &&&1:=rfl
 rw [e1,Nat.and_one_is_mod,Nat.testBit_eq_decide_div_mod_eq,Nat.shiftRight_eq_div_pow]
 by_cases hx:m / 2 ^ x % 2=1
 ·rw [beq_of hx];simp [hx]
 ·rw [beq_of_ne hx];simp [hx]
theorem mem_dedN {i:Nat}: ∀{l:List Nat} {m:Nat},i∈dedN l m↔i∈l∧m.testBit i=false
 |[],m=>by show i∈([]:List Nat)↔_;simp
 |x::l,m=>by
  have e:dedN (x::l) m=natK x fun x=>Bool.rec (natK (Nat.lor m (Nat.shiftLeft 1 x)) fun m=>x::dedN l m) (dedN l m) (Nat.beq (Nat.land (Nat.shiftRight m x) 1) 1):=rfl
  rw [e,natK_eq,bit_eq,natK_eq]
  cases hx:m.testBit x with
  |true=>
   show i∈dedN l m↔_
   rw [mem_dedN,List.mem_cons]
   constructor
   ·rintro ⟨h1,h2⟩;exact ⟨.inr h1,h2⟩
   ·rintro ⟨h1|h1,h2⟩
    ·subst h1;rw [hx] at h2;cases h2
    ·exact ⟨h1,h2⟩
  |false=>
   show i∈x::dedN l (Nat.lor m (Nat.shiftLeft 1 x))↔_
   have e2:Nat.lor m (Nat.shiftLeft 1 x)=m|||2 ^ x:=by rw [←Nat.one_shiftLeft];rfl
   rw [e2,List.mem_cons,List.mem_cons,mem_dedN,Nat.testBit_or]
   by_cases hi:x=i
   ·subst hi
    rw [hx]
    simp
   ·have hi': ¬i=x:=fun e=>hi e.symm
    rw [Nat.testBit_two_pow_of_ne hi]
    simp [hi']
theorem mem_sortN {i:Nat} {l:List Nat}:i∈sortN l↔i∈l:=by
 unfold sortN
 rw [mem_insAll,mem_dedN]
 simp
theorem upK_get {R:Type} {f:Nat→Blk}: ∀{L:List Nat} {T:Tr} {k:Tr→Option R} {a:R} {H:Hp},upK (L.map fun i=>(i,f i)) T k=some a→TRep T H→
 ∃T' H',TRep T' H'∧Jr T T'∧k T'=some a∧ ∀i,treeG T'.t i=if i∈L then some (f i) else treeG T.t i
 |[],T,k,a,H,h,hT=>⟨T,H,hT,Jr.refl T,h,fun i=>by simp⟩
 |i::L,T,k,a,H,h,hT=>by
  have h1:upK [(i,f i)] T (fun T1=>upK (L.map fun i=>(i,f i)) T1 k)=some a:=by
   obtain ⟨n,t,j⟩:=T
   exact h
  obtain ⟨T1,r1,r2,r3⟩:=upK_some h1 hT
  have g1: ∀x,treeG T1.t x=if x=i then some (f i) else treeG T.t x:=by
   obtain ⟨n,t,j⟩:=T
   intro x
   rw [r1.g,show treeG (Tr.mk n t j).t x=H[x]? from hT.g x]
   by_cases hlt:i<H.length
   ·rw [applyU_set hlt,List.getElem?_set]
    by_cases hx:x=i
    ·rw [if_pos hx.symm,if_pos hlt,if_pos hx]
    ·rw [if_neg (Ne.symm hx),if_neg hx]
   ·have hin:i=H.length:=by
     have hn:n=H.length:=hT.n
     obtain ⟨t',q1,q2⟩:=treeS_some (show treeS t i (f i) _=some a from h1)
     have q2:Bool.rec (motive:=fun _=>Option R) (Bool.rec (motive:=fun _=>Option R) none (upK (L.map fun i=>(i,f i)) ⟨n,t',i::j⟩ k) (Nat.ble i n)) (natK (Nat.succ n) fun n=>upK (L.map fun i=>(i,f i)) ⟨n,t',i::j⟩ k) (Nat.beq i n)=some a:=q2
     by_cases hi:i=n
     ·omega
     ·rw [beq_of_ne hi] at q2
      obtain ⟨q3,_⟩:=brec_some q2
      have:=Nat.le_of_ble_eq_true q3
      omega
    subst hin
    rw [applyU_push]
    by_cases hx:x=H.length
    ·rw [if_pos hx,hx];simp
    ·rw [if_neg hx]
     rcases Nat.lt_or_ge x H.length with h1|h1
     ·rw [List.getElem?_append_left h1]
     ·rw [List.getElem?_eq_none h1,List.getElem?_eq_none (by simp;omega)]
  obtain ⟨T',H',s1,s2,s3,s4⟩:=upK_get r3 r1
  refine ⟨T',H',s1,r2.trans s2,s3,fun x=> ?_⟩
  rw [s4,g1]
  by_cases hx:x∈L
  ·rw [if_pos hx,if_pos (List.mem_cons_of_mem _ hx)]
  ·by_cases hxi:x=i
   ·rw [if_neg hx,if_pos hxi,hxi,if_pos List.mem_cons_self]
   ·rw [if_neg hx,if_neg hxi,if_neg (by simp [hx,hxi])]
theorem mem_jAll {o:Out} {i:Nat}: ∀{outs:Ans},o∈outs→i∈o.2.2.j→i∈jAll outs
 |(e,F,T)::r,h,hi=>by
  rcases List.mem_cons.1 h with rfl|h
  ·exact List.mem_append_left _ hi
  ·exact List.mem_append_right _ (mem_jAll h hi)
theorem frE_eq {F F':Fr} (h:listE (fun (a b:Nat×VV)=>Nat.beq a.1 b.1 &&vvE 50 a.2 b.2) F F'=true):F=F':=
 listE_eq (fun x y h=>by rw [Bool.and_eq_true] at h;exact Prod.ext (Nat.eq_of_beq_eq_true h.1) (vvE_eq 50 _ _ h.2)) h
theorem merge_some {outs:Ans} {F:Fr} {n:Nat} {us:Up} (h:merge outs=some (F,n,us)): ∃f:Nat→Blk,us=(sortN (jAll outs)).map (fun i=>(i,f i))∧
 ∀e F' T',(e,F',T')∈outs→e= .normal∧F'=F∧T'.n=n∧ ∀i,i∈jAll outs→f i= .dead∨treeG T'.t i=some (f i)∨treeG T'.t i=none:=by
 unfold merge at h
 split at h
 case h_2=>cases h
 rename_i F0 T0 r
 cases hall:r.all (sameF F0 T0.n) with
 |false=>rw [hall] at h;cases h
 |true=>
  rw [hall] at h
  simp only [cond_true,Option.some.injEq,Prod.mk.injEq] at h
  obtain ⟨rfl,rfl,rfl⟩:=h
  refine ⟨_,rfl,fun e F' T' ho=> ?_⟩
  rcases List.mem_cons.1 ho with ho|ho
  ·cases ho
   refine ⟨rfl,rfl,rfl,fun i _=> ?_⟩
   cases r.all (agree T0 i) with
   |false=>exact .inl rfl
   |true=>simp only [cond_true];cases hx:treeG T0.t i with
    |none=>exact .inr (.inr rfl)
    |some b=>exact .inr (.inl rfl)
  ·have hs:=List.all_eq_true.1 hall _ ho
   cases e with
   |normal=>
    simp only [sameF,Bool.and_eq_true] at hs
    refine ⟨rfl,(frE_eq hs.1).symm,(Nat.eq_of_beq_eq_true hs.2).symm,fun i _=> ?_⟩
    cases hag:r.all (agree T0 i) with
    |false=>exact .inl rfl
    |true=>
     have:=List.all_eq_true.1 hag _ ho
     have e1:treeG T0.t i=treeG T'.t i:=optE_eq (fun _ _=>blkE_eq) this
     simp only [cond_true]
     rw [←e1]
     cases hx:treeG T0.t i with
     |none=>exact .inr (.inr rfl)
     |some b=>exact .inr (.inl rfl)
   |ret=>cases hs
   |exit i=>cases hs
theorem noD_strip: ∀{c:VC},noD c=true→strip c=c
 | .seq x y,h=>by simp only [noD,Bool.and_eq_true] at h;simp only [strip];rw [noD_strip h.1,noD_strip h.2]
 | .cond s x y,h=>by simp only [noD,Bool.and_eq_true] at h;simp only [strip];rw [noD_strip h.1,noD_strip h.2]
 | .block i x,h=>by simp only [noD] at h;simp only [strip];rw [noD_strip h]
 | .loop x,h=>by simp only [noD] at h;simp only [strip];rw [noD_strip h]
 | .scope x,h=>by simp only [noD] at h;simp only [strip];rw [noD_strip h]
 | .dlm a r,h=>by cases h
 | .rfunc f ps a b,h=>rfl
 | .skip,_=>rfl
 | .reg l k,_=>rfl
 | .dreg l b k,_=>rfl
 | .exit i,_=>rfl
 | .ret,_=>rfl
 | .bad,_=>rfl
def Ne (k:KC) (T:Tr) (ans:Ans):Prop:= ∃ve F H' T' a',TRep T' H'∧Jr T T'∧k ve F T'=some a'∧ ∀o∈a',o∈ans
theorem Ne.up {k:KC} {T T':Tr} {ans ans':Ans} (h:Ne k T' ans') (hj:Jr T T') (hs: ∀o∈ans',o∈ans):Ne k T ans:=
 let ⟨ve,F,H,T2,a,h1,h2,h3,h4⟩:=h;⟨ve,F,H,T2,a,h1,hj.trans h2,h3,fun o ho=>hs o (h4 o ho)⟩
section
variable {P:Program} {cl:CallK} {yl:YieldK} {n:Nat}
def Fine (P:Program) (cl:CallK) (yl:YieldK) (n:Nat) (c:VC):Prop:= ∀(B N:Nat) (rn:Bool) (F:Fr) (T:Tr) (H:Hp) (k:KC) (ans:Ans),runCK c cl yl n F T k=some ans→TRep T H→(rn=true→noD c=true)→
 VW P B N rn (strip c) F H (AfC T k ans)∧Ne k T ans
def Ahead (P:Program) (cl:CallK) (yl:YieldK) (n:Nat) (c:VC):Prop:= ∀(B N:Nat) (r:VC) (Q:VQ) (F:Fr) (T:Tr) (H:Hp) (k:KC) (ans:Ans),spineOk c=true→runCK c cl yl n F T k=some ans→TRep T H→
 (∀ve F' H' T' a',TRep T' H'→Jr T T'→k ve F' T'=some a'→(∀o∈a',o∈ans)→ve= .normal∧VW P B N false r F' H' Q)→VW P B N false (sapp (strip c) r) F H Q
theorem Fine.ahead {c:VC} (h:Fine P cl yl n c) (hs: ∀r,sapp (strip c) r= .seq (strip c) r):Ahead P cl yl n c:=fun B N r Q F T H k ans _ hrun hT hq=>by
 rw [hs]
 refine VW.seq (VW.mono (h B N false F T H k ans hrun hT (fun e=>by cases e)).1 fun e F' H' ha=> ?_)
 obtain ⟨ve,T',a',rfl,h1,h2,h3,h4⟩:=ha
 obtain ⟨rfl,hv⟩:=hq ve F' H' T' a' h1 h2 h3 h4
 exact hv
theorem loop_ne {g:Fr→Tr→KC→Option Ans} (hg: ∀F T H k ans,g F T k=some ans→TRep T H→Ne k T ans): ∀(m:Nat) (F:Fr) (T:Tr) (H:Hp) (k:KC) (ans:Ans),loopK g m F T k=some ans→TRep T H→Ne k T ans
 |0,F,T,H,k,ans,h,hT=>by cases h
 |m+1,F,T,H,k,ans,h,hT=>by
  obtain ⟨ve,F',H',T',a',h1,h2,h3,h4⟩:=hg F T H _ ans (show g F T _=some ans from h) hT
  cases ve with
  |normal=>exact (loop_ne hg m F' T' H' k a' h3 h1).up h2 h4
  |ret=>exact ⟨.ret,F',H',T',a',h1,h2,h3,h4⟩
  |exit i=>exact ⟨.exit i,F',H',T',a',h1,h2,h3,h4⟩
theorem runCK_fine (hm:P.follows .mixedOrders=true) (hc:CallOk P cl) (hy:YldOk P yl) (c:VC):Fine P cl yl n c∧Ahead P cl yl n c:=by
 induction c with
 |skip=>
  have h:Fine P cl yl n .skip:=fun B N rn F T H k ans h hT _=>⟨VW.skip ⟨.normal,T,ans,rfl,hT,Jr.refl T,h,fun _ h=>h⟩,.normal,F,H,T,ans,hT,Jr.refl T,h,fun _ h=>h⟩
  exact ⟨h,h.ahead fun _=>rfl⟩
 |exit i=>
  have h:Fine P cl yl n (.exit i):=fun B N rn F T H k ans h hT _=>⟨VW.exit ⟨.exit i,T,ans,rfl,hT,Jr.refl T,h,fun _ h=>h⟩,.exit i,F,H,T,ans,hT,Jr.refl T,h,fun _ h=>h⟩
  exact ⟨h,h.ahead fun _=>rfl⟩
 |ret=>
  have h:Fine P cl yl n .ret:=fun B N rn F T H k ans h hT _=>⟨VW.ret ⟨.ret,T,ans,rfl,hT,Jr.refl T,h,fun _ h=>h⟩,.ret,F,H,T,ans,hT,Jr.refl T,h,fun _ h=>h⟩
  exact ⟨h,h.ahead fun _=>rfl⟩
 |bad=>
  have h:Fine P cl yl n .bad:=fun B N rn F T H k ans h hT _=>by cases h
  exact ⟨h,h.ahead fun _=>rfl⟩
 |reg l keep=>
  have h:Fine P cl yl n (.reg l keep):=fun B N rn F T H k ans h hT hnd=>by
   have h:runLK l cl yl F T (fun E T=>onlyK E keep fun F=>k .normal F T)=some ans:=h
   obtain ⟨h1,E',H',T',a',h2,h3,h4,h5⟩:=runLK_ok (B:=B) (N:=N) (rn:=rn) hc hy l F T H _ ans h hT hnd
   refine ⟨VW.reg (h1.mono fun e E H2 hq=>⟨hq.1,?_⟩),?_⟩
   ·obtain ⟨T2,a2,t1,t2,t3,t4⟩:=hq.2
    simp only [onlyK_eq] at t3
    exact ⟨.normal,T2,a2,rfl,t1,t2,t3,t4⟩
   ·simp only [onlyK_eq] at h4
    exact ⟨.normal,_,H',T',a',h2,h3,h4,h5⟩
  exact ⟨h,h.ahead fun _=>rfl⟩
 |dreg l b keep=>
  have h:Fine P cl yl n (.dreg l b keep):=fun B N rn F T H k ans h hT hnd=>by
   have h:trK T (fun _ t _=>runXK l cl yl b 0 F T [t] [] fun E T hs ck=>Bool.rec (motive:=fun _=>Option Ans) none (onlyK E keep fun F=>k .normal F T) (chkA (Nat.pred (lenN hs)) hs ck))=some ans:=h
   rw [trK_eq] at h
   obtain ⟨E',T',H',hs',HS',nw,ck',q1,q2,q3,q4,q5,q6,q7⟩:=runXK_ok hc hy l b 0 F T H [T.t] [H] [] _ ans h hT ⟨hT.fn,trivial⟩ rfl rfl
   obtain ⟨q8,q9⟩:=brec_some q1
   rw [onlyK_eq] at q9
   have hlen:HS'.length=nw.length+1:=by rw [q5];simp
   have hck:=chkA_ok q4 (by rw [lenN_eq,q4.length,hlen];simp) q8
   have hv:=q7 hck
   refine ⟨VW.dreg HS'.reverse hm ?_ (hv.mono fun E2 H2 he=> ?_),.normal,_,H',T',ans,q2,q3,q9,fun _ h=>h⟩
   ·rw [q5];simp
   ·obtain ⟨rfl,rfl⟩:=he
    exact ⟨.normal,T',ans,rfl,q2,q3,q9,fun _ h=>h⟩
  exact ⟨h,h.ahead fun _=>rfl⟩
 |seq x y ihx ihy=>
  have h:Fine P cl yl n (.seq x y):=fun B N rn F T H k ans h hT hnd=>by
   have hnx:rn=true→noD x=true:=fun e=>by have:=hnd e;simp only [noD,Bool.and_eq_true] at this;exact this.1
   have hny:rn=true→noD y=true:=fun e=>by have:=hnd e;simp only [noD,Bool.and_eq_true] at this;exact this.2
   obtain ⟨h1,ve,F',H',T',a',h2,h3,h4,h5⟩:=ihx.1 B N rn F T H _ ans (show runCK x cl yl n F T _=some ans from h) hT hnx
   refine ⟨VW.seq (h1.mono fun e F' H' ha=> ?_),?_⟩
   ·obtain ⟨ve,T',a',rfl,t1,t2,t3,t4⟩:=ha
    cases ve with
    |normal=>exact (ihy.1 B N rn F' T' H' k a' t3 t1 hny).1.mono fun e F H hq=>hq.up t2 t4
    |ret=>exact ⟨.ret,T',a',rfl,t1,t2,t3,t4⟩
    |exit i=>exact ⟨.exit i,T',a',rfl,t1,t2,t3,t4⟩
   ·cases ve with
    |normal=>exact (ihy.1 B N rn F' T' H' k a' h4 h2 hny).2.up h3 h5
    |ret=>exact ⟨.ret,F',H',T',a',h2,h3,h4,h5⟩
    |exit i=>exact ⟨.exit i,F',H',T',a',h2,h3,h4,h5⟩
  refine ⟨h,fun B N r Q F T H k ans hsp hrun hT hq=> ?_⟩
  have h1:=(ihx.1 B N false F T H _ ans (show runCK x cl yl n F T _=some ans from hrun) hT (fun e=>by cases e)).1
  show VW P B N false (.seq (strip x) (sapp (strip y) r)) F H Q
  refine VW.seq (h1.mono fun e F' H' ha=> ?_)
  obtain ⟨ve,T',a',rfl,t1,t2,t3,t4⟩:=ha
  cases ve with
  |normal=>exact ihy.2 B N r Q F' T' H' k a' hsp t3 t1 fun ve F2 H2 T2 a2 u1 u2 u3 u4=>hq ve F2 H2 T2 a2 u1 (t2.trans u2) u3 fun o ho=>t4 o (u4 o ho)
  |ret=>exact absurd (hq .ret F' H' T' a' t1 t2 t3 t4).1 (by simp)
  |exit i=>exact absurd (hq (.exit i) F' H' T' a' t1 t2 t3 t4).1 (by simp)
 |cond s x y ihx ihy=>
  have h:Fine P cl yl n (.cond s x y):=fun B N rn F T H k ans h hT hnd=>by
   have hnx:rn=true→noD x=true:=fun e=>by have:=hnd e;simp only [noD,Bool.and_eq_true] at this;exact this.1
   have hny:rn=true→noD y=true:=fun e=>by have:=hnd e;simp only [noD,Bool.and_eq_true] at this;exact this.2
   obtain ⟨v,e1,h⟩:=getK_some (show getK F s _=some ans from h)
   obtain ⟨b,rfl,h2⟩:=boolOf_some h
   cases b with
   |true=>
    obtain ⟨q1,q2⟩:=ihx.1 B N rn F T H k ans h2 hT hnx
    exact ⟨VW.cond e1 (fun _=>q1) (fun e=>by cases e),q2⟩
   |false=>
    obtain ⟨q1,q2⟩:=ihy.1 B N rn F T H k ans h2 hT hny
    exact ⟨VW.cond e1 (fun e=>by cases e) (fun _=>q1),q2⟩
  exact ⟨h,h.ahead fun _=>rfl⟩
 |block id x ih=>
  have h:Fine P cl yl n (.block id x):=fun B N rn F T H k ans h hT hnd=>by
   obtain ⟨h1,ve,F',H',T',a',h2,h3,h4,h5⟩:=ih.1 B N rn F T H _ ans (show runCK x cl yl n F T _=some ans from h) hT hnd
   have ex: ∀{i F' T' a'},Bool.rec (motive:=fun _=>Option Ans) (k (.exit i) F' T') (k .normal F' T') (Nat.beq i id)=some a'→(i=id∧k .normal F' T'=some a')∨(i≠id∧k (.exit i) F' T'=some a'):=fun {i F' T' a'} h=>by
    by_cases hi:i=id
    ·rw [beq_of hi] at h;exact .inl ⟨hi,h⟩
    ·rw [beq_of_ne hi] at h;exact .inr ⟨hi,h⟩
   refine ⟨VW.block (h1.mono fun e F' H' ha=> ?_),?_⟩
   ·obtain ⟨ve,T',a',rfl,t1,t2,t3,t4⟩:=ha
    cases ve with
    |normal=>exact ⟨.normal,T',a',rfl,t1,t2,t3,t4⟩
    |ret=>exact ⟨.ret,T',a',rfl,t1,t2,t3,t4⟩
    |exit i=>
     rcases ex t3 with ⟨hi,t3⟩|⟨hi,t3⟩
     ·show (if i=id then _ else _);rw [if_pos hi];exact ⟨.normal,T',a',rfl,t1,t2,t3,t4⟩
     ·show (if i=id then _ else _);rw [if_neg hi];exact ⟨.exit i,T',a',rfl,t1,t2,t3,t4⟩
   ·cases ve with
    |normal=>exact ⟨.normal,F',H',T',a',h2,h3,h4,h5⟩
    |ret=>exact ⟨.ret,F',H',T',a',h2,h3,h4,h5⟩
    |exit i=>
     rcases ex h4 with ⟨hi,h4⟩|⟨hi,h4⟩
     ·exact ⟨.normal,F',H',T',a',h2,h3,h4,h5⟩
     ·exact ⟨.exit i,F',H',T',a',h2,h3,h4,h5⟩
  exact ⟨h,h.ahead fun _=>rfl⟩
 |loop x ih=>
  have h:Fine P cl yl n (.loop x):=fun B N rn F T H k ans h hT hnd=>by
   have h:loopK (runCK x cl yl n) n F T k=some ans:=h
   refine ⟨VW.loop (fun m F' H'=> ∃T' a',TRep T' H'∧Jr T T'∧loopK (runCK x cl yl n) m F' T' k=some a'∧ ∀o∈a',o∈ans) n ⟨T,ans,hT,Jr.refl T,h,fun _ h=>h⟩ fun m F' H' hI=> ?_,loop_ne (fun F T H k ans hr hT=>(ih.1 B N rn F T H k ans hr hT hnd).2) n F T H k ans h hT⟩
   obtain ⟨T',a',t1,t2,t3,t4⟩:=hI
   cases m with
   |zero=>cases t3
   |succ m=>
    refine ((ih.1 B N rn F' T' H' _ a' (show runCK x cl yl n F' T' _=some a' from t3) t1 hnd).1).mono fun e F2 H2 ha=> ?_
    obtain ⟨ve,T2,a2,rfl,u1,u2,u3,u4⟩:=ha
    cases ve with
    |normal=>exact ⟨m,Nat.lt_succ_self m,T2,a2,u1,t2.trans u2,u3,fun o ho=>t4 o (u4 o ho)⟩
    |ret=>exact ⟨.ret,T2,a2,rfl,u1,t2.trans u2,u3,fun o ho=>t4 o (u4 o ho)⟩
    |exit i=>exact ⟨.exit i,T2,a2,rfl,u1,t2.trans u2,u3,fun o ho=>t4 o (u4 o ho)⟩
  exact ⟨h,h.ahead fun _=>rfl⟩
 |scope x ih=>
  have h:Fine P cl yl n (.scope x):=fun B N rn F T H k ans h hT hnd=>by
   obtain ⟨h1,h2⟩:=ih.1 B N rn F T H k ans h hT hnd
   refine ⟨VW.scope (h1.mono fun e F' H' ha=> ?_),h2⟩
   obtain ⟨ve,T',a',rfl,t⟩:=ha
   cases ve<;>exact ⟨_,T',a',rfl,t⟩
  exact ⟨h,h.ahead fun _=>rfl⟩
 |rfunc f ps va vb iha ihb=>
  have h:Fine P cl yl n (.rfunc f ps va vb):=fun B N rn F T H k ans h hT hnd=>by
   have hrn:rn=false:=by
    cases hr:rn with
    |false=>rfl
    |true=>cases hnd hr
   subst hrn
   obtain ⟨fv,e1,h⟩:=odK_some (show odK f F _=some ans from h)
   rcases fnOf_some h with ⟨fid,caps,rfl,h2⟩|⟨b,rfl,h2⟩
   rotate_left
   ·cases h2
   rw [trK_eq,natK_eq] at h2
   obtain ⟨T1,r1,r2,r3⟩:=upK_some h2 hT
   have hH2:applyU H [(T.n,Blk.obj (.defs false)),(Nat.succ T.n,.obj (.loop ⟨0,none,0,0,delK F,ps,va,vb,T.n⟩))]=(H++[.obj (.defs false)])++[.obj (.loop ⟨0,none,0,0,F.del dslot,ps,va,vb,H.length⟩)]:=by
    rw [hT.n]
    have e: ∀b c,applyU H [(H.length,b),(Nat.succ H.length,c)]=(H++[b])++[c]:=fun b c=>by
     have:applyU H [(H.length,b),(Nat.succ H.length,c)]=applyU (H++[b]) [(Nat.succ H.length,c)]:=by
      show applyU (if H.length<H.length then _ else H++[b]) _=_
      rw [if_neg (Nat.lt_irrefl _)]
     rw [this,show Nat.succ H.length=(H++[b]).length by simp,applyU_push]
    exact e _ _
   rw [hH2] at r1
   obtain ⟨q1,v,H',T',a',q2,q3,q4,q5⟩:=hc _ _ T1 _ _ ans r1 r3
   have fin: ∀{T2:Tr} {H2:Hp} {a2:Ans},TRep T2 H2→Jr T1 T2→(match treeG T2.t (Nat.succ T.n) with
    |some (.obj (.loop r))=>Bool.rec (motive:=fun _=>Option Ans) (upK [(Nat.succ T.n,.obj (.loop {r with st:=3}))] T2 fun T3=>dferK F (.map (some T.n)) fun F'=>Option.rec (motive:=fun _=>Option Ans) (k .normal F' T3) (fun e=>k e F' T3) r.pend) none (Nat.beq r.st 2)
    |_=>none)=some a2→(∀o∈a2,o∈ans)→ ∃r,H2[H.length+1]? =some (.obj (.loop r))∧(r.st==2)=false∧ ∃T3,TRep T3 (H2.set (H.length+1) (.obj (.loop {r with st:=3})))∧Jr T T3∧
     ∃ve,exOf r.pend=VE.to ve∧k ve (F.defer (.map (some H.length))) T3=some a2:=fun {T2 H2 a2} g1 g2 g3 g4=>by
    split at g3
    case h_2=>cases g3
    rename_i r hr
    rw [g1.g,hT.n] at hr
    have hr:H2[H.length+1]? =some (.obj (.loop r)):=hr
    have hst:Nat.beq r.st 2=false:=by
     cases hb:Nat.beq r.st 2 with
     |false=>rfl
     |true=>rw [hb] at g3;cases g3
    rw [hst] at g3
    obtain ⟨T3,s1,s2,s3⟩:=upK_some g3 g1
    rw [hT.n] at s1
    have s1:TRep T3 (H2.set (H.length+1) (.obj (.loop {r with st:=3}))):=by
     have:=applyU_set (H:=H2) (i:=H.length+1) (List.getElem?_eq_some_iff.1 hr).1 (.obj (.loop {r with st:=3}))
     rw [←this];exact s1
    have s4:=dferK_some s3
    rw [hT.n] at s4
    refine ⟨r,hr,?_,T3,s1,(r2.trans g2).trans s2,?_⟩
    ·cases hd:(r.st==2) with
     |false=>rfl
     |true=>have:=eq_of_beq hd;rw [beq_of this] at hst;cases hst
    ·cases hp:r.pend with
     |none=>rw [hp] at s4;exact ⟨.normal,rfl,s4⟩
     |some e=>rw [hp] at s4;exact ⟨e,rfl,s4⟩
   rw [hT.n] at q1
   refine ⟨VW.rfunc e1 (q1.mono fun r H' hr=> ?_),?_⟩
   ·rw [←hT.n] at hr
    obtain ⟨T2,a2,t1,t2,t3,t4⟩:=hr
    obtain ⟨lr,l1,l2,T3,l3,l4,ve,l5,l6⟩:=fin t1 t2 t3 t4
    exact ⟨lr,l1,l2,ve,T3,a2,l5,l3,l4,l6,t4⟩
   ·obtain ⟨lr,l1,l2,T3,l3,l4,ve,l5,l6⟩:=fin q2 q3 q4 q5
    exact ⟨ve,_,_,T3,a',l3,l4,l6,q5⟩
  exact ⟨h,h.ahead fun _=>rfl⟩
 |dlm a r iha ihr=>
  have h:Fine P cl yl n (.dlm a r):=fun B N rn F T H k ans h hT hnd=>by
   have hrn:rn=false:=by
    cases hr:rn with
    |false=>rfl
    |true=>cases hnd hr
   subst hrn
   obtain ⟨hsp,h⟩:=brec_some (show Bool.rec (motive:=fun _=>Option Ans) none _ (spineOk a)=some ans from h)
   rw [trK_eq] at h
   obtain ⟨outs,h1,h2⟩:=obK_some h
   obtain ⟨⟨F1,n1,us⟩,h3,h4⟩:=obK_some h2
   have h4:upsK us (fun us=>upK us ⟨T.n,T.t,[]⟩ fun T2=>trK T2 fun n2 t2 j2=>Bool.rec (motive:=fun _=>Option Ans) none (appK j2 T.j fun j=>runCK r cl yl n F1 ⟨n2,t2,j⟩ k) (Nat.beq n1 n2))=some ans:=h4
   rw [upsK_eq] at h4
   obtain ⟨f,rfl,hf⟩:=merge_some h3
   have hT0:TRep ⟨T.n,T.t,[]⟩ H:=⟨hT.n,hT.g⟩
   obtain ⟨T2,H2,s1,s2,s3,s4⟩:=upK_get h4 hT0
   rw [trK_eq] at s3
   obtain ⟨s5,s6⟩:=brec_some s3
   rw [appK_eq] at s6
   have s5:=Nat.eq_of_beq_eq_true s5
   have hT3:TRep ⟨T2.n,T2.t,T2.j++T.j⟩ H2:=⟨s1.n,s1.g⟩
   have hJ3:Jr T ⟨T2.n,T2.t,T2.j++T.j⟩:=fun i hi=>by
    simp only [List.mem_append,not_or] at hi
    exact ⟨hi.2,(s2 i hi.1).2⟩
   have step:=ihr.1 B N false F1 _ H2 k ans s6 hT3 (fun e=>by cases e)
   refine ⟨?_,step.2.up hJ3 fun _ h=>h⟩
   refine iha.2 B N (strip r) _ F _ H _ outs hsp h1 hT0 fun ve F' H' T' a' t1 t2 t3 t4=> ?_
   have ha:a'=[(ve,F',T')]:=(Option.some.inj t3).symm
   subst ha
   obtain ⟨g1,g2,g3,g4⟩:=hf ve F' T' (t4 _ (List.mem_singleton.2 rfl))
   subst g1;subst g2
   refine ⟨rfl,VW.less ?_ (step.1.mono fun e F H hq=>hq.up hJ3 fun _ h=>h)⟩
   refine ⟨by rw [←s1.n,←s5,←g3,t1.n],fun i b hb=> ?_⟩
   rw [←s1.g,s4] at hb
   by_cases hi:i∈sortN (jAll outs)
   ·rw [if_pos hi] at hb
    cases hb
    rcases g4 i (mem_sortN.1 hi) with h|h|h
    ·exact .inl h
    ·right;rw [←t1.g];exact h
    ·exfalso
     have e1:T2.t=T2.t:=rfl
     have:H2[i]? =some (f i):=by rw [←s1.g,s4,if_pos hi]
     have hlt:=(List.getElem?_eq_some_iff.1 this).1
     rw [t1.g] at h
     have:=List.getElem?_eq_none_iff.1 h
     have hl:H2.length=H'.length:=by rw [←s1.n,←s5,←g3,t1.n]
     omega
   ·rw [if_neg hi] at hb
    right
    rw [←t1.g,(t2 i fun hj=>hi (mem_sortN.2 (mem_jAll (t4 _ (List.mem_singleton.2 rfl)) hj))).2]
    exact hb
  refine ⟨h,fun B N r Q F T H k ans hsp=>by cases hsp⟩
end
end Go.Wm
end
section
namespace Go.Wm
set_option linter.unusedVariables false
set_option linter.unusedSimpArgs false
def RowFOk (P:Program) (r:FRow):Prop:= ∃fn c K,P.funcs[r.f]? =some fn∧(fn.name== "runtime.NumGoroutine")=false∧fn.body=some c∧compC P fn.ntmps K c=some (strip r.vc)∧compR P fn.results.toList=some r.rs∧fn.ntmps=r.n∧fn.ntmps≤dslot
def TabOk (P:Program) (TT:Tree FRow):Prop:= ∀i r,treeG TT i=some r→r.vc= .bad∨RowFOk P r
def TAll (Q:FRow→Prop):Tree FRow→Prop
 | .e=>True
 | .n v l r=>Q v∧TAll Q l∧TAll Q r
theorem TAll.get {Q:FRow→Prop}: ∀{t:Tree FRow},TAll Q t→ ∀i r,treeG t i=some r→Q r
 | .e,_,i,r,h=>by cases h
 | .n v l r,⟨h1,h2,h3⟩,i,x,h=>by
   rw [treeG_n] at h
   split at h
   ·cases h;exact h1
   ·split at h
    ·exact h2.get _ _ h
    ·exact h3.get _ _ h
section
variable {P:Program} {n:Nat} {TT:Tree FRow}
theorem resK_some {rs:List RV} {F:Fr} {T:Tr} {H:Hp} {k:VV→Tr→Option Ans} {ans:Ans} (hT:TRep T H) (h:resK rs F T k=some ans): ∃v,resV F H.g rs=some v∧k v T=some ans:=by
 obtain ⟨v,h1,h2⟩:=obK_some (show obK (resV F (treeG T.t) rs) _=some ans from h)
 rw [hT.fn] at h1
 rw [vvK_eq] at h2
 exact ⟨v,h1,h2⟩
theorem FnD.mono {f:FuncId} {args:List VV} {H:Hp} {R R':VV→Hp→Prop} (h:FnD P f args H R) (hr: ∀r H',R r H'→R' r H'):FnD P f args H R':=
 ⟨h.1,fun σ B w vs h1 h2=>(h.2 σ B w vs h1 h2).mono fun e u w' h=>⟨h.1,h.2.mono hr⟩⟩
theorem DRun.mono {Q Q':Hp→Prop} (hq: ∀H,Q H→Q' H): ∀{ds:List VV} {H:Hp},DRun P ds H Q→DRun P ds H Q'
 |[],H,h=>hq H h
 | .tup (.fn f caps::as)::ds,H,h=>FnD.mono (show FnD P f (as++caps) H _ from h) fun _ H' h=>DRun.mono hq h
 | .map (some b)::ds,H,h=>⟨h.1,DRun.mono hq h.2⟩
 | .undef::_,_,h| .bool _::_,_,h| .int _ _::_,_,h| .str _::_,_,h| .ptr _::_,_,h| .sl _ _ _::_,_,h| .fn _ _::_,_,h| .nilFn::_,_,h| .agg _::_,_,h| .tup []::_,_,h| .map none::_,_,h| .nilI::_,_,h| .yield _::_,_,h| .ifc _ _::_,_,h=>h.elim
 | .tup (.undef::_)::_,_,h| .tup (.bool _::_)::_,_,h| .tup (.int _ _::_)::_,_,h| .tup (.str _::_)::_,_,h| .tup (.ptr _::_)::_,_,h| .tup (.sl _ _ _::_)::_,_,h| .tup (.nilFn::_)::_,_,h| .tup (.agg _::_)::_,_,h| .tup (.tup _::_)::_,_,h| .tup (.map _::_)::_,_,h| .tup (.nilI::_)::_,_,h| .tup (.yield _::_)::_,_,h| .tup (.ifc _ _::_)::_,_,h=>h.elim
theorem drunK_ok {dl:CallK} (hd:DefOk P dl) {k:Tr→Option Ans}: ∀(ds:List VV) (T:Tr) (H:Hp) (ans:Ans),drunK dl ds T k=some ans→TRep T H→
 DRun P ds H (fun H2=> ∃T2 a',TRep T2 H2∧Jr T T2∧k T2=some a'∧ ∀o∈a',o∈ans)∧ ∃H2 T2 a',TRep T2 H2∧Jr T T2∧k T2=some a'∧ ∀o∈a',o∈ans
 |[],T,H,ans,h,hT=>⟨⟨T,ans,hT,Jr.refl T,h,fun _ h=>h⟩,H,T,ans,hT,Jr.refl T,h,fun _ h=>h⟩
 |x::ds,T,H,ans,h,hT=>by
  have up: ∀{T1 H1 a1},TRep T1 H1→Jr T T1→drunK dl ds T1 k=some a1→(∀o∈a1,o∈ans)→
   DRun P ds H1 (fun H2=> ∃T2 a',TRep T2 H2∧Jr T T2∧k T2=some a'∧ ∀o∈a',o∈ans)∧ ∃H2 T2 a',TRep T2 H2∧Jr T T2∧k T2=some a'∧ ∀o∈a',o∈ans:=fun {T1 H1 a1} g1 g2 g3 g4=>by
   obtain ⟨q1,H2,T2,a',q2,q3,q4,q5⟩:=drunK_ok hd ds T1 H1 a1 g3 g1
   exact ⟨DRun.mono (fun H2 ⟨T2,a',t1,t2,t3,t4⟩=>⟨T2,a',t1,g2.trans t2,t3,fun o ho=>g4 o (t4 o ho)⟩) q1,H2,T2,a',q2,g2.trans q3,q4,fun o ho=>g4 o (q5 o ho)⟩
  have h:drun1 dl x T (fun H=>drunK dl ds H k)=some ans:=h
  unfold drun1 at h
  split at h
  ·rename_i b
   split at h
   case h_2=>cases h
   rename_i hb
   rw [hT.g] at hb
   obtain ⟨T1,r1,r2,r3⟩:=upK_some h hT
   rw [applyU_set (List.getElem?_eq_some_iff.1 hb).1] at r1
   obtain ⟨q1,q2⟩:=up r1 r2 r3 fun _ h=>h
   exact ⟨⟨hb,q1⟩,q2⟩
  ·rename_i g caps as
   rw [appK_eq] at h
   obtain ⟨q1,v,H',T',a',q2,q3,q4,q5⟩:=hd _ _ T H _ ans hT h
   exact ⟨FnD.mono q1 fun r H' ⟨T',a',t1,t2,t3,t4⟩=>(up t1 t2 t3 t4).1,(up q2 q3 q4 q5).2⟩
  ·cases h
theorem call_args {r:FRow} {f:FuncId} {args:List VV} (h:and (Nat.beq r.f f) (Nat.ble (lenN args) r.n)=true):r.f=f∧args.length≤r.n:=by
 obtain ⟨h1,h2⟩:=and_true h
 exact ⟨Nat.eq_of_beq_eq_true h1,by rw [←lenN_eq];exact Nat.le_of_ble_eq_true h2⟩
theorem endV {e:VE} {x:Option Ans} {ans:Ans} (h:VE.rec (motive:=fun _=>Option Ans) x x (fun _=>none) e=some ans):(VE.to e= .ret∨VE.to e= .normal)∧x=some ans:=by
 cases e with
 |normal=>exact ⟨.inr rfl,h⟩
 |ret=>exact ⟨.inl rfl,h⟩
 |exit i=>cases h
theorem m_call_ok (hm:P.follows .mixedOrders=true) (ht:TabOk P TT) {ih:Mach} (hc:CallOk P ih.c) (hy:YldOk P ih.y) (hd:DefOk P ih.d):CallOk P (m_call TT n ih):=by
 intro f args T H k ans hT h
 obtain ⟨⟨rf,rN,vc,rs⟩,h1,h2⟩:=obK_some (show obK (treeG TT f) _=some ans from h)
 obtain ⟨h3,h4⟩:=brec_some (show Bool.rec (motive:=fun _=>Option Ans) none _ (and (Nat.beq rf f) (Nat.ble (lenN args) rN))=some ans from h2)
 obtain ⟨rfl,hl⟩:=call_args (r:=⟨rf,rN,vc,rs⟩) h3
 rw [argsK_eq] at h4
 rcases ht _ _ h1 with hb|⟨fn,c,K,k1,k2,k3,k4,k5,k6,k7⟩
 ·cases hb;cases h4
 have fin: ∀{ve F' T' H' a'},endK ih.d rs k ve F' T'=some a'→TRep T' H'→Jr T T'→(∀o∈a',o∈ans)→(VE.to ve= .ret∨VE.to ve= .normal)∧
  DRun P F'.dl H' (fun H2=> ∃r,resV F' H2.g rs=some r∧AfV T k ans r H2)∧ ∃v H2,AfV T k ans v H2:=fun {ve F' T' H' a'} g1 g2 g3 g4=>by
  obtain ⟨e1,e2⟩:=endV g1
  refine ⟨e1,?_⟩
  rw [geto_eq] at e2
  unfold Fr.dl
  cases hx:F'.get dslot with
  |none=>
   rw [hx] at e2
   obtain ⟨v,s1,s2⟩:=resK_some g2 e2
   exact ⟨⟨v,s1,T',a',g2,g3,s2,g4⟩,v,H',T',a',g2,g3,s2,g4⟩
  |some o=>
   rw [hx] at e2
   obtain ⟨ds,rfl,e3⟩:=tupOf_some e2
   obtain ⟨q1,H2,T2,a2,q2,q3,q4,q5⟩:=drunK_ok hd ds T' H' a' e3 g2
   have one: ∀{T2 H2 a2},TRep T2 H2→Jr T' T2→resK rs F' T2 k=some a2→(∀o∈a2,o∈a')→ ∃r,resV F' H2.g rs=some r∧AfV T k ans r H2:=fun {T2 H2 a2} u1 u2 u3 u4=>by
    obtain ⟨v,s1,s2⟩:=resK_some u1 u3
    exact ⟨v,s1,T2,a2,u1,g3.trans u2,s2,fun o ho=>g4 o (u4 o ho)⟩
   refine ⟨DRun.mono (fun H2 ⟨T2,a2,u1,u2,u3,u4⟩=>one u1 u2 u3 u4) q1,?_⟩
   obtain ⟨v,_,s⟩:=one q2 q3 q4 q5
   exact ⟨v,H2,s⟩
 have hf:=(runCK_fine (n:=n) hm hc hy vc).1
 obtain ⟨_,ve,F',H',T',a',q2,q3,q4,q5⟩:=hf 0 rN false (argsF 0 args) T H _ ans h4 hT (fun e=>by cases e)
 refine ⟨FnV.enter (K:=K) k1 k2 k3 k4 k5 (by rw [k6];exact hl) k7 fun B=>(hf B fn.ntmps false (argsF 0 args) T H _ ans h4 hT (fun e=>by cases e)).1.mono fun e F' H' ha=> ?_,(fin q4 q2 q3 q5).2.2⟩
 obtain ⟨ve,T',a',rfl,t1,t2,t3,t4⟩:=ha
 obtain ⟨u1,u2,_⟩:=fin t3 t1 t2 t4
 exact ⟨u1,u2⟩
theorem m_defer_ok (hm:P.follows .mixedOrders=true) (ht:TabOk P TT) {ih:Mach} (hc:CallOk P ih.c) (hy:YldOk P ih.y):DefOk P (m_defer TT n ih):=by
 intro f args T H k ans hT h
 obtain ⟨⟨rf,rN,vc,rs⟩,h1,h2⟩:=obK_some (show obK (treeG TT f) _=some ans from h)
 obtain ⟨h3,h4⟩:=brec_some (show Bool.rec (motive:=fun _=>Option Ans) none _ (and (Nat.beq rf f) (Nat.ble (lenN args) rN))=some ans from h2)
 obtain ⟨rfl,hl⟩:=call_args (r:=⟨rf,rN,vc,rs⟩) h3
 rw [argsK_eq] at h4
 rcases ht _ _ h1 with hb|⟨fn,c,K,k1,k2,k3,k4,k5,k6,k7⟩
 ·cases hb;cases h4
 have fin: ∀{ve F' T' H' a'},endD rs k ve F' T'=some a'→TRep T' H'→Jr T T'→(∀o∈a',o∈ans)→(VE.to ve= .ret∨VE.to ve= .normal)∧F'.get dslot=none∧ ∃r,resV F' H'.g rs=some r∧AfV T k ans r H':=fun {ve F' T' H' a'} g1 g2 g3 g4=>by
  obtain ⟨e1,e2⟩:=endV g1
  refine ⟨e1,?_⟩
  rw [geto_eq] at e2
  cases hx:F'.get dslot with
  |none=>
   rw [hx] at e2
   obtain ⟨v,s1,s2⟩:=resK_some g2 e2
   exact ⟨rfl,v,s1,T',a',g2,g3,s2,g4⟩
  |some o=>rw [hx] at e2;cases e2
 unfold dvc at h4
 split at h4
 ·rename_i d d2 s keep y
  cases hs:Nat.beq s d with
  |false=>rw [hs] at h4;cases h4
  |true=>
  rw [hs] at h4
  have hs:=Nat.eq_of_beq_eq_true hs
  subst hs
  simp only [cond_true,onlyK_eq] at h4
  have hf:=(runCK_fine (n:=n) hm hc hy y).1
  obtain ⟨_,ve,F',H',T',a',q2,q3,q4,q5⟩:=hf 0 rN false _ T H _ ans h4 hT (fun e=>by cases e)
  refine ⟨FnD.rcv (K:=K) k1 k2 k3 k4 k5 (by rw [k6];exact hl) k7 fun B=>(hf B fn.ntmps false _ T H _ ans h4 hT (fun e=>by cases e)).1.mono fun e F' H' ha=> ?_,?_⟩
  ·obtain ⟨ve,T',a',rfl,t1,t2,t3,t4⟩:=ha
   exact fin t3 t1 t2 t4
  ·obtain ⟨_,_,v,_,u⟩:=fin q4 q2 q3 q5
   exact ⟨v,H',u⟩
 ·have hf:=(runCK_fine (n:=n) hm hc hy vc).1
  obtain ⟨_,ve,F',H',T',a',q2,q3,q4,q5⟩:=hf 0 rN false (argsF 0 args) T H _ ans h4 hT (fun e=>by cases e)
  refine ⟨FnD.enter (K:=K) k1 k2 k3 k4 k5 (by rw [k6];exact hl) k7 fun B=>(hf B fn.ntmps false (argsF 0 args) T H _ ans h4 hT (fun e=>by cases e)).1.mono fun e F' H' ha=> ?_,?_⟩
  ·obtain ⟨ve,T',a',rfl,t1,t2,t3,t4⟩:=ha
   exact fin t3 t1 t2 t4
  ·obtain ⟨_,_,v,_,u⟩:=fin q4 q2 q3 q5
   exact ⟨v,H',u⟩
theorem m_yield_ok (hm:P.follows .mixedOrders=true) {ih:Mach} (hc:CallOk P ih.c) (hy:YldOk P ih.y):YldOk P (m_yield n ih):=by
 intro b args T H k ans hT h
 unfold m_yield at h
 split at h
 case h_2=>cases h
 rename_i r hb
 rw [hT.g] at hb
 cases hg:(Nat.beq r.st 0 &&(noD r.va &&noD r.vb)) with
 |false=>rw [hg] at h;cases h
 |true=>
 rw [hg] at h
 simp only [cond_true] at h
 simp only [Bool.and_eq_true] at hg
 obtain ⟨hst,hva,hvb⟩:=hg
 obtain ⟨F,hz,h⟩:=obK_some h
 have fin2: ∀{e:VE} {T3:Tr} {H3:Hp} {a3:Ans},(match treeG T3.t b with
  |some (.obj (.loop r2))=>match e with
   | .normal=>upK [(b,.obj (.loop {r2 with st:=0,pend:=none}))] T3 fun H4=>k (.bool true) H4
   | .ret=>upK [(b,.obj (.loop {r2 with st:=1,pend:=some .ret}))] T3 fun H4=>k (.bool false) H4
   | .exit i=>upK [(b,.obj (.loop {r2 with st:=1,pend:=some (.exit i)}))] T3 fun H4=>k (.bool false) H4
  |_=>none)=some a3→TRep T3 H3→Jr T T3→(∀o∈a3,o∈ans)→ ∃r2,H3[b]? =some (.obj (.loop r2))∧
  ((VE.to e= .normal∧AfV T k ans (.bool true) (H3.set b (.obj (.loop {r2 with st:=0,pend:=none}))))∨(VE.to e= .ret∧AfV T k ans (.bool false) (H3.set b (.obj (.loop {r2 with st:=1,pend:=some .ret}))))∨
    ∃i,VE.to e= .exit i∧AfV T k ans (.bool false) (H3.set b (.obj (.loop {r2 with st:=1,pend:=some (.exit i)})))):=fun {e T3 H3 a3} g1 g2 g3 g4=>by
  split at g1
  case h_2=>cases g1
  rename_i r2 hb2
  rw [g2.g] at hb2
  have hlt:=(List.getElem?_eq_some_iff.1 hb2).1
  refine ⟨r2,hb2,?_⟩
  cases e with
  |normal=>
   obtain ⟨T4,s1,s2,s3⟩:=upK_some g1 g2
   rw [applyU_set hlt] at s1
   exact .inl ⟨rfl,T4,a3,s1,g3.trans s2,s3,g4⟩
  |ret=>
   obtain ⟨T4,s1,s2,s3⟩:=upK_some g1 g2
   rw [applyU_set hlt] at s1
   exact .inr (.inl ⟨rfl,T4,a3,s1,g3.trans s2,s3,g4⟩)
  |exit i=>
   obtain ⟨T4,s1,s2,s3⟩:=upK_some g1 g2
   rw [applyU_set hlt] at s1
   exact .inr (.inr ⟨i,rfl,T4,a3,s1,g3.trans s2,s3,g4⟩)
 have hfa:=(runCK_fine (n:=n) hm hc hy r.va).1
 have hfb:=(runCK_fine (n:=n) hm hc hy r.vb).1
 have fin1: ∀{e:VE} {F1:Fr} {T1:Tr} {H1:Hp} {a1:Ans},(match e with
  | .normal=>match treeG T1.t b with
    |some (.obj (.loop r1))=>bif Nat.beq r1.st 0 then upK [(b,.obj (.loop {r1 with st:=2}))] T1 fun H2=>runCK r.vb ih.c ih.y n F1 H2 fun e _ H3=>match treeG H3.t b with
     |some (.obj (.loop r2))=>match e with
      | .normal=>upK [(b,.obj (.loop {r2 with st:=0,pend:=none}))] H3 fun H4=>k (.bool true) H4
      | .ret=>upK [(b,.obj (.loop {r2 with st:=1,pend:=some .ret}))] H3 fun H4=>k (.bool false) H4
      | .exit i=>upK [(b,.obj (.loop {r2 with st:=1,pend:=some (.exit i)}))] H3 fun H4=>k (.bool false) H4
     |_=>none else none
    |_=>none
  |_=>none)=some a1→TRep T1 H1→Jr T T1→(∀o∈a1,o∈ans)→VE.to e= .normal∧(∃r1,H1[b]? =some (.obj (.loop r1))∧r1.st=0∧ ∀B N,VW P B N true r.vb F1 (H1.set b (.obj (.loop {r1 with st:=2}))) fun e F2 H2=> ∃r2,H2[b]? =some (.obj (.loop r2))∧
   ((e= .normal∧AfV T k ans (.bool true) (H2.set b (.obj (.loop {r2 with st:=0,pend:=none}))))∨(e= .ret∧AfV T k ans (.bool false) (H2.set b (.obj (.loop {r2 with st:=1,pend:=some .ret}))))∨
     ∃i,e= .exit i∧AfV T k ans (.bool false) (H2.set b (.obj (.loop {r2 with st:=1,pend:=some (.exit i)})))))∧ ∃v H2,AfV T k ans v H2:=fun {e F1 T1 H1 a1} g1 g2 g3 g4=>by
  cases e with
  |ret=>cases g1
  |exit i=>cases g1
  |normal=>
   simp only at g1
   split at g1
   case h_2=>cases g1
   rename_i r1 hb1
   rw [g2.g] at hb1
   cases hs1:Nat.beq r1.st 0 with
   |false=>rw [hs1] at g1;cases g1
   |true=>
   rw [hs1] at g1
   simp only [cond_true] at g1
   obtain ⟨T2,s1,s2,s3⟩:=upK_some g1 g2
   rw [applyU_set (List.getElem?_eq_some_iff.1 hb1).1] at s1
   have key:=fun B N=>hfb B N true F1 T2 _ _ a1 s3 s1 (fun _=>hvb)
   refine ⟨rfl,⟨r1,hb1,Nat.eq_of_beq_eq_true hs1,fun B N=> ?_⟩,?_⟩
   ·have:=(key B N).1
    rw [noD_strip hvb] at this
    refine this.mono fun e F2 H2 ha=> ?_
    obtain ⟨ve,T3,a3,rfl,t1,t2,t3,t4⟩:=ha
    exact fin2 t3 t1 ((g3.trans s2).trans t2) fun o ho=>g4 o (t4 o ho)
   ·obtain ⟨ve,F2,H2,T3,a3,t1,t2,t3,t4⟩:=(key 0 0).2
    obtain ⟨r2,_,h⟩:=fin2 t3 t1 ((g3.trans s2).trans t2) fun o ho=>g4 o (t4 o ho)
    rcases h with ⟨_,h⟩|⟨_,h⟩|⟨_,_,h⟩<;>exact ⟨_,_,h⟩
 have key:=fun B N=>hfa B N true F T H _ ans h hT (fun _=>hva)
 refine ⟨YldV.round hb (Nat.eq_of_beq_eq_true hst) hz fun B N=> ?_,?_⟩
 ·have:=(key B N).1
  rw [noD_strip hva] at this
  refine this.mono fun e F1 H1 ha=> ?_
  obtain ⟨ve,T1,a1,rfl,t1,t2,t3,t4⟩:=ha
  obtain ⟨u1,⟨r1,u2,u3,u4⟩,_⟩:=fin1 t3 t1 t2 t4
  exact ⟨u1,r1,u2,u3,u4 B N⟩
 ·obtain ⟨ve,F1,H1,T1,a1,t1,t2,t3,t4⟩:=(key 0 0).2
  exact (fin1 t3 t1 t2 t4).2.2
structure MachOk (P:Program) (m:Mach):Prop where
 c:CallOk P m.c
 y:YldOk P m.y
 d:DefOk P m.d
end
end Go.Wm
end
section
namespace Go.Wm
set_option linter.unusedVariables false
set_option linter.unusedSimpArgs false
structure Cut where
 f:Nat
 args:List VV
 T:Tr
 v:VV
 T2:Tr
def blkW:Blk→Blk→Bool
 |_,.dead=>true
 |a,b=>blkE a b
def wkB:Tree Blk→Tree Blk→Bool
 | .e,.e=>true
 | .n a l r,.n b m s=>blkW a b &&(wkB l m &&wkB r s)
 |_,_=>false
def wkT (T T':Tr):Bool:=Nat.beq T.n T'.n &&wkB T.t T'.t
noncomputable def allJ (n:Nat) (j:List Nat):List Nat:=Nat.rec (motive:=fun _=>List Nat) j (fun m ih=>m::ih) n
noncomputable def hit (c:Cut) (f:FuncId) (args:List VV) (T:Tr):Bool:=Nat.beq f c.f &&(listE (vvE 50) args c.args &&(wkT T c.T &&Nat.ble T.n c.T2.n))
noncomputable def ovr (cs:List Cut) (cl:CallK):CallK:=fun f args T k=>
 List.rec (motive:=fun _=>Option Ans) (cl f args T k) (fun c _ ih=>Bool.rec ih (k c.v ⟨c.T2.n,c.T2.t,allJ c.T2.n T.j⟩) (hit c f args T)) cs
noncomputable def machO (cs:List Cut) (TT:Tree FRow) (n:Nat) (d:Nat):Mach:=
 Nat.rec (motive:=fun _=>Mach) ⟨fun _ _ _ _=>none,fun _ _ _ _=>none,fun _ _ _ _=>none⟩ (fun _ ih=>⟨ovr cs (m_call TT n ih),m_yield n ih,m_defer TT n ih⟩) d
noncomputable def piece (cs:List Cut) (TT:Tree FRow) (n d:Nat) (c:Cut):Option Ans:=
 (Nat.rec (motive:=fun _=>Option Ans) none (fun d _=>m_call TT n (machO cs TT n d) c.f c.args c.T fun v T=>Bool.rec none (some []) (and (vvE 50 v c.v) (wkT T c.T2))) d)
def CutOk (P:Program) (c:Cut):Prop:= ∀H,TRep c.T H→ ∃H2,TRep c.T2 H2∧FnV P c.f c.args H fun v H'=>v=c.v∧H'=H2
theorem blkW_ok {a b:Blk} (h:blkW a b=true):b= .dead∨b=a:=by
 cases b with
 |dead=>exact .inl rfl
 |row t m es=>exact .inr (blkE_eq (show blkE a (.row t m es)=true by cases a<;>exact h)).symm
 |obj o=>exact .inr (blkE_eq (show blkE a (.obj o)=true by cases a<;>exact h)).symm
theorem wkB_ok: ∀{t t':Tree Blk},wkB t t'=true→ ∀i,treeG t' i=treeG t i∨(treeG t' i=some .dead∧ ∃b,treeG t i=some b)
 | .e,.e,_,i=> .inl rfl
 | .n a l r,.n b m s,h,i=>by
   simp only [wkB,Bool.and_eq_true] at h
   obtain ⟨h1,h2,h3⟩:=h
   rw [treeG_n,treeG_n]
   by_cases h0:i=0
   ·rw [if_pos h0,if_pos h0]
    rcases blkW_ok h1 with rfl|rfl
    ·exact .inr ⟨rfl,_,rfl⟩
    ·exact .inl rfl
   ·rw [if_neg h0,if_neg h0]
    by_cases h1:i % 2=1
    ·rw [if_pos h1,if_pos h1];exact wkB_ok h2 _
    ·rw [if_neg h1,if_neg h1];exact wkB_ok h3 _
 | .e,.n _ _ _,h,_=>by cases h
 | .n _ _ _,.e,h,_=>by cases h
theorem wkT_ok {T T':Tr} {H:Hp} (h:wkT T T'=true) (hT:TRep T H): ∃H',TRep T' H'∧Less H' H:=by
 simp only [wkT,Bool.and_eq_true] at h
 obtain ⟨h1,h2⟩:=h
 have hn:T.n=T'.n:=Nat.eq_of_beq_eq_true h1
 have g: ∀i,treeG T'.t i=H[i]? ∨(treeG T'.t i=some .dead∧ ∃b,H[i]? =some b):=fun i=>by
  rcases wkB_ok h2 i with h|⟨h,b,hb⟩
  ·exact .inl (h.trans (hT.g i))
  ·exact .inr ⟨h,b,(hT.g i).symm.trans hb⟩
 refine ⟨(List.range H.length).map fun i=>(treeG T'.t i).getD .dead,⟨by simp [←hn,hT.n],fun i=> ?_⟩,by simp,fun i b hb=> ?_⟩
 ·rw [List.getElem?_map]
  by_cases hi:i<H.length
  ·rw [List.getElem?_range hi]
   rcases g i with h|⟨h,_⟩
   ·simp only [Option.map_some,h,List.getElem?_eq_getElem hi,Option.getD_some]
   ·simp only [Option.map_some,h,Option.getD_some]
  ·rw [List.getElem?_eq_none (by simp;omega)]
   rcases g i with h|⟨h,b,hb⟩
   ·rw [h,List.getElem?_eq_none (by omega)];rfl
   ·rw [List.getElem?_eq_none (by omega)] at hb;cases hb
 ·rw [List.getElem?_map] at hb
  by_cases hi:i<H.length
  ·rw [List.getElem?_range hi] at hb
   simp only [Option.map_some,Option.some.injEq] at hb
   rcases g i with h|⟨h,b',hb'⟩
   ·rw [h,List.getElem?_eq_getElem hi] at hb
    simp only [Option.getD_some] at hb
    exact .inr (by rw [List.getElem?_eq_getElem hi,hb])
   ·rw [h] at hb;exact .inl hb.symm
  ·rw [List.getElem?_eq_none (by simp;omega)] at hb;cases hb
theorem RowFOk.of {P:Program} {r:FRow} {fn:Func} {ks:List Nat} (h1:P.funcs[r.f]? =some fn) (h2:(fn.name== "runtime.NumGoroutine")=false) (h3:fn.ntmps=r.n) (h4:Nat.ble r.n dslot=true)
 (h5:(fn.body.bind (compC P r.n fun i=>ks.getD i 0))=some (strip r.vc)) (h6:compR P fn.results.toList=some r.rs):RowFOk P r:=by
 cases hb:fn.body with
 |none=>rw [hb] at h5;cases h5
 |some c=>rw [hb] at h5;exact ⟨fn,c,_,h1,h2,hb,by rw [h3];exact h5,h6,h3,by rw [h3];exact Nat.le_of_ble_eq_true h4⟩
def badRow:FRow:=⟨0,0,.bad,[]⟩
def ksC:VC→Code→List (Nat×Nat)
 | .reg _ k,.region id _ _| .dreg _ _ k,.region id _ _=>[(id,k)]
 | .seq x y,.seq a b| .cond _ x y,.cond (.tmp _) a b=>ksC x a++ksC y b
 |x,.cond (.const (.bool true)) a _=>ksC x a
 |x,.cond (.const (.bool false)) _ b=>ksC x b
 | .block _ x,.block _ a| .loop x,.loop a| .scope x,.scope a=>ksC x a
 | .rfunc _ _ x y,.rangeFunc _ _ a b=>ksC x a++ksC y b
 |_,_=>[]
def kOf:List (Nat×Nat)→Nat→Nat
 |[],_=>0
 |(i,k)::l,j=>bif Nat.beq i j then k else kOf l j
theorem RowFOk.of2 {P:Program} {r:FRow} {fn:Func} (h:(P.funcs[r.f]?,(fn.name== "runtime.NumGoroutine"),fn.ntmps,Nat.ble r.n dslot,fn.body.bind (fun c=>compC P r.n (kOf (ksC (strip r.vc) c)) c),compR P fn.results.toList)=(some fn,false,r.n,true,some (strip r.vc),some r.rs)):RowFOk P r:=by
 simp only [Prod.mk.injEq] at h
 obtain ⟨h1,h2,h3,h4,h5,h6⟩:=h
 obtain ⟨c,h7,h8⟩:=Option.bind_eq_some_iff.1 h5
 exact ⟨fn,c,_,h1,h2,h7,by rw [h3];exact h8,h6,h3,by rw [h3];exact Nat.le_of_ble_eq_true h4⟩
def ROk (P:Program) (r:FRow):Prop:=r.vc= .bad∨RowFOk P r
theorem TabOk.of {P:Program} {TT:Tree FRow} (h:TAll (ROk P) TT):TabOk P TT:=fun i r e=>h.get i r e
section
variable {P:Program}
theorem FnV.less {f:FuncId} {args:List VV} {H Hc:Hp} {R:VV→Hp→Prop} (hl:Less Hc H) (h:FnV P f args Hc R):FnV P f args H R:=
 ⟨h.1,fun σ B w vs h1 h2=>h.2 σ B w vs (HRel.less h1 hl) h2⟩
theorem FnV.lessPost {f:FuncId} {args:List VV} {H:Hp} {R R':VV→Hp→Prop} (h:FnV P f args H R) (hr: ∀r H',R r H'→ ∃H2,Less H2 H'∧R' r H2):FnV P f args H R':=by
 refine ⟨h.1,fun σ B w vs h1 h2=>(h.2 σ B w vs h1 h2).mono fun e w' hq=> ?_⟩
 obtain ⟨r,v,H',τ,q1,q2,q3,q4,q5⟩:=hq
 obtain ⟨H2,s1,s2⟩:=hr _ _ q3
 exact ⟨r,v,H2,τ,q1,q2,s2,q4,q5.less s1⟩
theorem mem_allJ {n:Nat} {j:List Nat} {i:Nat}:i∈allJ n j↔i<n∨i∈j:=by
 induction n with
 |zero=>exact ⟨.inr,fun h=>h.resolve_left (Nat.not_lt_zero _)⟩
 |succ n ih=>
  show i∈n::allJ n j↔_
  rw [List.mem_cons,ih]
  constructor
  ·rintro (h|h|h)
   ·left;omega
   ·left;omega
   ·right;exact h
  ·rintro (h|h)
   ·rcases Nat.lt_or_ge i n with h'|h'
    ·exact .inr (.inl h')
    ·left;omega
   ·exact .inr (.inr h)
theorem brec_true {α:Type} {b:Bool} {a:α} (h:Bool.rec (motive:=fun _=>Option α) none (some a) b=some a):b=true:=by cases b<;>first|rfl|cases h
theorem ovr_ok {cs:List Cut} {cl:CallK} (hc: ∀c∈cs,CutOk P c) (h:CallOk P cl):CallOk P (ovr cs cl):=by
 intro f args T H k ans hT hr
 induction cs with
 |nil=>exact h f args T H k ans hT hr
 |cons c cs ih=>
  have e:Bool.rec (motive:=fun _=>Option Ans) (ovr cs cl f args T k) (k c.v ⟨c.T2.n,c.T2.t,allJ c.T2.n T.j⟩) (hit c f args T)=some ans:=hr
  cases hh:hit c f args T with
  |false=>rw [hh] at e;exact ih (fun c hm=>hc c (List.mem_cons_of_mem _ hm)) e
  |true=>
   rw [hh] at e
   simp only [hit,Bool.and_eq_true] at hh
   obtain ⟨h1,h2,h3,h4⟩:=hh
   have hf:f=c.f:=Nat.eq_of_beq_eq_true h1
   have ha:args=c.args:=listE_eq (vvE_eq 50) h2
   subst hf ha
   obtain ⟨Hc,q1,q2⟩:=wkT_ok h3 hT
   obtain ⟨H2,s1,s2⟩:=hc c List.mem_cons_self Hc q1
   have hgo:AfV T k ans c.v H2:=by
    refine ⟨⟨c.T2.n,c.T2.t,allJ c.T2.n T.j⟩,ans,⟨s1.n,s1.g⟩,fun i hi=> ?_,e,fun o ho=>ho⟩
    have hi:i∉allJ c.T2.n T.j:=hi
    rw [mem_allJ,not_or] at hi
    refine ⟨hi.2,?_⟩
    show treeG c.T2.t i=treeG T.t i
    have hn:T.n≤c.T2.n:=Nat.le_of_ble_eq_true h4
    rw [s1.g,hT.g,List.getElem?_eq_none (by rw [←s1.n];omega),List.getElem?_eq_none (by rw [←hT.n];omega)]
   refine ⟨(s2.less q2).mono fun v H' ⟨e1,e2⟩=> ?_,c.v,H2,hgo⟩
   subst e1 e2
   exact hgo
variable {TT:Tree FRow} {n:Nat}
theorem machO_ok (hm:P.follows .mixedOrders=true) (ht:TabOk P TT) {cs:List Cut} (hc: ∀c∈cs,CutOk P c): ∀d,MachOk P (machO cs TT n d)
 |0=>⟨fun _ _ _ _ _ _ _ h=>(by cases h),fun _ _ _ _ _ _ _ h=>(by cases h),fun _ _ _ _ _ _ _ h=>(by cases h)⟩
 |d+1=>
  have ih:=machO_ok hm ht hc d
  ⟨ovr_ok hc (m_call_ok hm ht ih.c ih.y ih.d),m_yield_ok hm ih.c ih.y,m_defer_ok hm ht ih.c ih.y⟩
theorem cut_ok (hm:P.follows .mixedOrders=true) (ht:TabOk P TT) {cs:List Cut} (hc: ∀c∈cs,CutOk P c) {d:Nat} {c:Cut} (h:piece cs TT n d c=some []):CutOk P c:=by
 intro H hT
 cases d with
 |zero=>cases h
 |succ d=>
  have ih:=machO_ok (n:=n) hm ht hc d
  obtain ⟨h1,v,H',h2⟩:=m_call_ok (n:=n) hm ht ih.c ih.y ih.d c.f c.args c.T H _ [] hT h
  have key: ∀v H',AfV c.T (fun v T=>Bool.rec (motive:=fun _=>Option Ans) none (some []) (and (vvE 50 v c.v) (wkT T c.T2))) [] v H'→v=c.v∧ ∃H2,TRep c.T2 H2∧Less H2 H':=fun v H' ⟨T',a',q1,q2,q3,q4⟩=>by
   have q3:Bool.rec (motive:=fun _=>Option Ans) none (some []) (and (vvE 50 v c.v) (wkT T' c.T2))=some a':=q3
   cases hb:and (vvE 50 v c.v) (wkT T' c.T2) with
   |false=>rw [hb] at q3;cases q3
   |true=>
    obtain ⟨b1,b2⟩:=and_true hb
    exact ⟨vvE_eq 50 _ _ b1,wkT_ok b2 q1⟩
  obtain ⟨_,H2,g1,g2⟩:=key _ _ h2
  refine ⟨H2,g1,h1.lessPost fun r H' hr=> ?_⟩
  obtain ⟨e1,H3,g3,g4⟩:=key _ _ hr
  exact ⟨H3,g4,e1,TRep.uniq g3 g1⟩
end
namespace Z
abbrev m (d s:Nat):VI:= .rd d none (.mv (.t s))
abbrev l (d s:Nat):VI:= .rd d none (.load 1 false (.t s))
abbrev f (d o s:Nat):VI:= .rd d none (.faddr o (.t s))
abbrev n (d s:Nat):VI:= .rd d none (.lens (.t s))
abbrev k (d s:Nat):VI:= .rd d none (.nilck (.t s))
abbrev e (d i s:Nat):VI:= .rd d none (.ext i (.t s))
abbrev x (d z s i:Nat):VI:= .rd d none (.ixa z (.t s) (.t i))
abbrev b (d:Nat) (op:BinOp) (s t:Nat):VI:= .rd d none (.bin op (.t s) (.t t))
abbrev i (d:Nat) (op:BinOp) (s:Nat) (v:Int):VI:= .rd d none (.bin op (.t s) (.c (.int .i64 v)))
abbrev p (d c a:Nat) (v:Bool):VI:= .rd d none (.pick (.t c) (.t a) (.c (.bool v)))
abbrev s (n x v:Nat):VI:= .ef none none (.store n (.t x) (.t v))
abbrev a (d:Nat) (y:VEf):VI:= .ef (some d) none y
abbrev c (d f:Nat) (l:List Od):VI:= .call (some d) none (.c (.fn f [])) l
abbrev u (d g:Nat) (y:VOp):VI:= .rd d (some (g,true)) y
abbrev v (d g:Nat) (y:VOp):VI:= .rd d (some (g,false)) y
abbrev w (d g s:Nat):VI:= .rd d (some (g,true)) (.mv (.t s))
abbrev r (d:Nat) (y:VOp):VI:= .rd d none y
abbrev j (k:Int):Od:= .c (.int .i64 k)
abbrev big:Nat:=44942328371557897693232629769725618340449424473557664318357520289433168951375240783177119330601884005280028469967848339414697442203604155623211857659868531094441973356216371319075554900311523529863270738021251442209537670585615720368478277635206809290837627671146574559986811484619929076208839082406056034304
abbrev yes:Od:= .c (.bool true)
abbrev no:Od:= .c (.bool false)
abbrev ns:VV:= .sl none 0 0
abbrev z0:VV:= .int .i64 0
end Z
end Go.Wm
end
section
namespace Go.Wm
set_option linter.unusedSimpArgs false
set_option linter.unusedVariables false
open Go.RowKit
section
variable {P:Program} {σ:Sg} {B:Nat} {H:Hp} {w:World}
theorem HRel.pushRo (h:HRel P σ B H w) (t:TypeId) (es:List (List VV)) (I:Info) (hI:I.real<B) (hroom:I.room=none) (hn:es.length=I.n) (hz: ∀e∈es,e.length=I.esz)
 (hcell: ∀(k:Nat) e (j:Nat) v,es[k]? =some e→e[j]? =some v→v.cell=true∧ ∃v',w.cell? ⟨I.real,I.base+k*I.esz+j,none⟩=some v'∧VRel σ v v'):
 HRel P (σ.push H.length I) B (H++[.row t .ro es]) w:=by
 have hle:=Sg.le_push (I:=I) h.fresh
 have hself:σ.push H.length I H.length=some I:=by simp [Sg.push]
 have hold: ∀k,k≠H.length→σ.push H.length I k=σ k:=fun k hk=>by simp [Sg.push,hk]
 have part: ∀(k:Nat) tk mk ek,(H++[Blk.row t .ro es])[k]? =some (Blk.row tk mk ek)→(k=H.length∧tk=t∧mk= .ro∧ek=es)∨(k<H.length∧H[k]? =some (Blk.row tk mk ek)):=by
  intro k tk mk ek hk
  rcases Nat.lt_or_ge k H.length with hlt|hge
  ·rw [List.getElem?_append_left hlt] at hk;exact .inr ⟨hlt,hk⟩
  ·rw [List.getElem?_append_right hge] at hk
   have hk0:k-H.length=0:=by
    rcases Nat.eq_zero_or_pos (k-H.length) with h0|h0
    ·exact h0
    ·rw [List.getElem?_eq_none (by simp;omega)] at hk;cases hk
   rw [hk0] at hk
   obtain ⟨rfl,rfl,rfl⟩:t=tk∧Mode.ro=mk∧es=ek:=by simpa using hk
   exact .inl ⟨by omega,rfl,rfl,rfl⟩
 have partO: ∀(k:Nat) o,(H++[Blk.row t .ro es])[k]? =some (Blk.obj o)→k<H.length∧H[k]? =some (Blk.obj o):=by
  intro k o hk
  rcases Nat.lt_or_ge k H.length with hlt|hge
  ·rw [List.getElem?_append_left hlt] at hk;exact ⟨hlt,hk⟩
  ·rw [List.getElem?_append_right hge] at hk
   cases hk0:k-H.length with
   |zero=>rw [hk0] at hk;simp at hk
   |succ z=>rw [hk0] at hk;simp at hk
 refine ⟨h.base,fun k K hk=> ?_,fun k tk mk ek hk=> ?_,fun k j tk mk ek tj mj ej Ik Ij hk hmk hj hσk hσj hreal=> ?_,fun k o hk=> ?_,fun k j o o' Ik Ij hk hj hσk hσj hreal=> ?_,h.glob.mono hle,fun k K hk=> ?_⟩
 rotate_right 1
 ·by_cases hkl:k=H.length
  ·subst hkl
   simp [Sg.push] at hk
   subst hk
   exact Nat.lt_of_lt_of_le hI h.base
  ·rw [hold k hkl] at hk
   exact h.fit k K hk
 rotate_right 2
 ·obtain ⟨hlt,hk'⟩:=partO k o hk
  obtain ⟨J,ho,j1,j2,j3,j4,j5⟩:=h.objs k o hk'
  exact ⟨J,ho,hle _ _ j1,j2,j3,j4,j5.mono hle⟩
 ·obtain ⟨hlt,hk'⟩:=partO k o hk
  obtain ⟨hlt2,hj'⟩:=partO j o' hj
  rw [hold k (by omega)] at hσk
  rw [hold j (by omega)] at hσj
  exact h.oinj k j o o' Ik Ij hk' hj' hσk hσj hreal
 ·by_cases hkl:k=H.length
  ·subst hkl;simp
  ·rw [hold k hkl] at hk
   have:=h.dom k K hk
   simp;omega
 ·rcases part k tk mk ek hk with ⟨rfl,rfl,rfl,rfl⟩|⟨hlt,hk'⟩
  ·refine ⟨I,hself,Nat.lt_of_lt_of_le hI h.base,hn,hz,fun a e j v he hv=> ?_,fun _=>⟨hI,hroom⟩,fun h'=>absurd rfl h'⟩
   obtain ⟨h1,v',h2,h3⟩:=hcell a e j v he hv
   exact ⟨h1,v',h2,h3.mono hle⟩
  ·obtain ⟨K,hK⟩:=h.rows k tk mk ek hk'
   refine ⟨K,hle _ _ hK.here,hK.lt,hK.len,hK.esz,fun a e j v he hv=> ?_,hK.old,hK.own⟩
   obtain ⟨h1,v',h2,h3⟩:=hK.cell a e j v he hv
   exact ⟨h1,v',h2,h3.mono hle⟩
 ·rcases part k tk mk ek hk with ⟨rfl,_,rfl,_⟩|⟨hlt,hk'⟩
  ·exact absurd rfl hmk
  ·rw [hold k (by omega)] at hσk
   obtain ⟨K,hK⟩:=h.rows k tk mk ek hk'
   have hKI:K=Ik:=Option.some.inj (hK.here.symm.trans hσk)
   subst hKI
   rcases part j tj mj ej hj with ⟨rfl,_⟩|⟨hlt',hj'⟩
   ·rw [hself] at hσj;cases hσj
    have:=(hK.own hmk).1
    omega
   ·rw [hold j (by omega)] at hσj
    exact h.inj k j tk mk ek tj mj ej K Ij hk' hmk hj' hσk hσj hreal
theorem HRel.pushDead (h:HRel P σ B H w) (I:Info) (hI:I.real<w.heap.size):HRel P (σ.push H.length I) B (H++[.dead]) w:=by
 have hle:=Sg.le_push (I:=I) h.fresh
 have hold: ∀k,k≠H.length→σ.push H.length I k=σ k:=fun k hk=>by simp [Sg.push,hk]
 have part: ∀(k:Nat) tk mk ek,(H++[Blk.dead])[k]? =some (Blk.row tk mk ek)→k<H.length∧H[k]? =some (Blk.row tk mk ek):=by
  intro k tk mk ek hk
  rcases Nat.lt_or_ge k H.length with hlt|hge
  ·rw [List.getElem?_append_left hlt] at hk;exact ⟨hlt,hk⟩
  ·rw [List.getElem?_append_right hge] at hk
   have hk0:k-H.length=0:=by
    rcases Nat.eq_zero_or_pos (k-H.length) with h0|h0
    ·exact h0
    ·rw [List.getElem?_eq_none (by simp;omega)] at hk;cases hk
   rw [hk0] at hk
   simp at hk
 have partO: ∀(k:Nat) o,(H++[Blk.dead])[k]? =some (Blk.obj o)→k<H.length∧H[k]? =some (Blk.obj o):=by
  intro k o hk
  rcases Nat.lt_or_ge k H.length with hlt|hge
  ·rw [List.getElem?_append_left hlt] at hk;exact ⟨hlt,hk⟩
  ·rw [List.getElem?_append_right hge] at hk
   cases hk0:k-H.length with
   |zero=>rw [hk0] at hk;simp at hk
   |succ z=>rw [hk0] at hk;simp at hk
 refine ⟨h.base,fun k K hk=> ?_,fun k tk mk ek hk=> ?_,fun k j tk mk ek tj mj ej Ik Ij hk hmk hj hσk hσj hreal=> ?_,fun k o hk=> ?_,fun k j o o' Ik Ij hk hj hσk hσj hreal=> ?_,h.glob.mono hle,fun k K hk=> ?_⟩
 rotate_right 1
 ·by_cases hkl:k=H.length
  ·subst hkl
   simp [Sg.push] at hk
   subst hk
   exact hI
  ·rw [hold k hkl] at hk
   exact h.fit k K hk
 rotate_right 2
 ·obtain ⟨hlt,hk'⟩:=partO k o hk
  obtain ⟨J,ho,j1,j2,j3,j4,j5⟩:=h.objs k o hk'
  exact ⟨J,ho,hle _ _ j1,j2,j3,j4,j5.mono hle⟩
 ·obtain ⟨hlt,hk'⟩:=partO k o hk
  obtain ⟨hlt2,hj'⟩:=partO j o' hj
  rw [hold k (by omega)] at hσk
  rw [hold j (by omega)] at hσj
  exact h.oinj k j o o' Ik Ij hk' hj' hσk hσj hreal
 ·by_cases hkl:k=H.length
  ·subst hkl;simp
  ·rw [hold k hkl] at hk
   have:=h.dom k K hk
   simp;omega
 ·obtain ⟨hlt,hk'⟩:=part k tk mk ek hk
  obtain ⟨K,hK⟩:=h.rows k tk mk ek hk'
  refine ⟨K,hle _ _ hK.here,hK.lt,hK.len,hK.esz,fun a e j v he hv=> ?_,hK.old,hK.own⟩
  obtain ⟨h1,v',h2,h3⟩:=hK.cell a e j v he hv
  exact ⟨h1,v',h2,h3.mono hle⟩
 ·obtain ⟨hlt,hk'⟩:=part k tk mk ek hk
  obtain ⟨hlt',hj'⟩:=part j tj mj ej hj
  rw [hold k (by omega)] at hσk
  rw [hold j (by omega)] at hσj
  exact h.inj k j tk mk ek tj mj ej Ik Ij hk' hmk hj' hσk hσj hreal
end
inductive Rd {D:Type} (P:Program) (H:Hp):TypeId→List VV→DataW D→Prop
 |bool {t:TypeId} (ht:P.underlying t=some .bool) (b:Bool):Rd P H t [.bool b] (.lit (.bool b))
 |int {t:TypeId} {k:IntKind} {n:Int} (ht:P.underlying t=some (.int k)) (hw:(Lit.int k n).wf=true):Rd P H t [.int k n] (.lit (.int k n))
 |str {t:TypeId} {s:List UInt8} (ht:P.underlying t=some .string) (hs:s.length≤maxLen):Rd P H t [.str s] (.lit (.string s))
 |nil {t e:TypeId} (ht:P.underlying t=some (.slice e)):Rd P H t [.sl none 0 0] .nil
 |sl {t e:TypeId} (ht:P.underlying t=some (.slice e)) (b len cap:Nat) (es:List (List VV)) (ds rest:List (DataW D)) (hlc:len≤cap) (hm:cap≤maxLen) (hd:ds.length=len) (hr:rest.length=cap-len)
  (hrow:0<cap→H[b]? =some (.row e .ro es)) (hes:es.length=cap) (hln: ∀c∈es,c.length=P.cellsOf e) (hel: ∀(i:Nat) c d,es[i]? =some c→(ds++rest)[i]? =some d→Rd P H e c d):Rd P H t [.sl (some ⟨b,0,0⟩) len cap] (.slice ds rest)
 |struct {t:TypeId} {fs:Array Field} (ht:P.underlying t=some (.struct fs)) (ps:List (List VV)) (ds:List (DataW D)) (hp:ps.length=fs.size) (hd:ds.length=fs.size)
  (hln: ∀(i:Nat) (f:Field) p,fs[i]? =some f→ps[i]? =some p→p.length=P.cellsOf f.type) (h: ∀(i:Nat) (f:Field) p d,fs[i]? =some f→ps[i]? =some p→ds[i]? =some d→Rd P H f.type p d):Rd P H t ps.flatten (.agg ds)
theorem Rd.mono {D:Type} {P:Program} {H:Hp} (G:Hp) {t:TypeId} {vs:List VV} {d:DataW D} (h:Rd P H t vs d):Rd P (H++G) t vs d:=by
 induction h with
 |bool ht b=>exact .bool ht b
 |int ht hw=>exact .int ht hw
 |str ht hs=>exact .str ht hs
 |nil ht=>exact .nil ht
 |sl ht b len cap es ds rest hlc hm hd hr hrow hes hln hel ih=>
  exact .sl ht b len cap es ds rest hlc hm hd hr (fun hc=>by
   have:=hrow hc
   rw [List.getElem?_append_left (List.getElem?_eq_some_iff.1 this).1];exact this) hes hln ih
 |struct ht ps ds hp hd hln h ih=>exact .struct ht ps ds hp hd hln ih
def contB (P:Program):Nat→List Field→Option Nat
 |o,[]=>some o
 |o,f::fs=>if f.offset=o then contB P (o+P.cellsOf f.type) fs else none
def plainB (P:Program):Nat→TypeId→Bool
 |0,_=>false
 |d+1,t=>match P.underlying t with
  |some .bool|some (.int _)|some .string=>true
  |some (.slice e)=>plainB P d e &&decide (0<P.cellsOf e)
  |some (.struct fs)=>fs.toList.all (fun f=>plainB P d f.type) &&decide (contB P 0 fs.toList=some (P.cellsOf t))
  |_=>false
section
variable {D:Type} {enc:TypeId×Value→D} {P:Program} {W:World} {held:Bool}
def Opens (enc:TypeId×Value→D) (P:Program) (W:World) (held:Bool) (fuel:Nat) (t:TypeId):Prop:=
 ∀(cs:List Value) (x:DataW D×List MemPlace) (σ:Sg) (H:Hp),DataW.trod enc P W 0 (fun _=>true) held fuel t cs=some x→HRel P σ W.heap.size H W→
  ∃σ' G vs,σ.le σ'∧HRel P σ' W.heap.size (H++G) W∧LRel σ' vs cs∧(∀v∈vs,v.cell=true)∧Rd P (H++G) t vs x.1
theorem opens_many {fuel:Nat} {e:TypeId} (ih:Opens enc P W held fuel e) (css:Nat→List Value) (xs:Nat→DataW D×List MemPlace) (m:Nat) (hx: ∀i,i<m→DataW.trod enc P W 0 (fun _=>true) held fuel e (css i)=some (xs i)) {σ:Sg} {H:Hp} (hH:HRel P σ W.heap.size H W):
 ∀k,k≤m→ ∃(σ':Sg) (G:Hp) (ces:List (List VV)),σ.le σ'∧HRel P σ' W.heap.size (H++G) W∧ces.length=k∧
  ∀(i:Nat) c,ces[i]? =some c→LRel σ' c (css i)∧(∀v∈c,v.cell=true)∧Rd P (H++G) e c (xs i).1
 |0,_=>⟨σ,[],[],Sg.le_refl _,by simpa using hH,rfl,fun i c h=>by simp at h⟩
 |k+1,hk=>by
  obtain ⟨σ1,G1,ces,q1,q2,q3,q4⟩:=opens_many ih css xs m hx hH k (by omega)
  obtain ⟨σ2,G2,vs,r1,r2,r3,r4,r5⟩:=ih _ _ σ1 (H++G1) (hx k (by omega)) q2
  refine ⟨σ2,G1++G2,ces++[vs],Sg.le_trans q1 r1,by rw [←List.append_assoc];exact r2,by simp [q3],fun i c hc=> ?_⟩
  rw [←List.append_assoc]
  rcases Nat.lt_or_ge i ces.length with hi|hi
  ·rw [List.getElem?_append_left hi] at hc
   obtain ⟨s1,s2,s3⟩:=q4 i c hc
   exact ⟨s1.mono r1,s2,s3.mono G2⟩
  ·rw [List.getElem?_append_right hi] at hc
   have hi0:i-ces.length=0:=by
    rcases Nat.eq_zero_or_pos (i-ces.length) with h0|h0
    ·exact h0
    ·rw [List.getElem?_eq_none (by simp;omega)] at hc;cases hc
   rw [hi0] at hc
   simp at hc
   subst hc
   have:i=k:=by omega
   subst this
   exact ⟨r3,r4,r5⟩
theorem opens_fields {fuel:Nat} {cs:List Value}: ∀(fs:List Field) (_: ∀f∈fs,Opens enc P W held fuel f.type) (xs:List (DataW D×List MemPlace)) (_:xs.length=fs.length)
 (_: ∀(i:Nat) (f:Field),fs[i]? =some f→DataW.trod enc P W 0 (fun _=>true) held fuel f.type ((cs.drop f.offset).take (P.cellsOf f.type))=xs[i]?) (o z:Nat) (_:contB P o fs=some z) (_:z≤cs.length)
 {σ:Sg} {H:Hp} (_:HRel P σ W.heap.size H W),
 o≤z∧ ∃(σ':Sg) (G:Hp) (ps:List (List VV)),σ.le σ'∧HRel P σ' W.heap.size (H++G) W∧ps.length=fs.length∧LRel σ' ps.flatten ((cs.drop o).take (z-o))∧(∀v∈ps.flatten,v.cell=true)∧
  (∀(i:Nat) (f:Field) p,fs[i]? =some f→ps[i]? =some p→p.length=P.cellsOf f.type)∧ ∀(i:Nat) (f:Field) p d,fs[i]? =some f→ps[i]? =some p→(xs.map (·.1))[i]? =some d→Rd P (H++G) f.type p d
 |[],_,xs,_,_,o,z,hc,_,σ,H,hH=>by
  simp [contB] at hc
  subst hc
  exact ⟨Nat.le_refl _,σ,[],[],Sg.le_refl _,by simpa using hH,rfl,by simp;exact .nil,by simp,by simp,by simp⟩
 |f::fs,ih,[],hl,_,o,z,_,_,_,_,_=>by simp at hl
 |f::fs,ih,x::xs,hl,hx,o,z,hc,hz,σ,H,hH=>by
  simp only [contB] at hc
  split at hc
  case isFalse=>cases hc
  rename_i ho
  subst ho
  have h0:=hx 0 f (by simp)
  simp only [List.getElem?_cons_zero] at h0
  obtain ⟨σ1,G1,vs,q1,q2,q3,q4,q5⟩:=ih f (by simp) _ _ σ H h0 hH
  obtain ⟨hoz,σ2,G2,ps,r1,r2,r3,r4,r5,r6,r7⟩:=opens_fields fs (fun g hg=>ih g (by simp [hg])) xs (by simpa using hl) (fun i g hg=>by have:=hx (i+1) g (by simpa using hg);simpa using this) _ z hc hz q2
  refine ⟨by omega,σ2,G1++G2,vs::ps,Sg.le_trans q1 r1,by rw [←List.append_assoc];exact r2,by simp [r3],?_,?_,?_,?_⟩
  ·have hsplit:(cs.drop f.offset).take (z-f.offset)=(cs.drop f.offset).take (P.cellsOf f.type)++(cs.drop (f.offset+P.cellsOf f.type)).take (z-(f.offset+P.cellsOf f.type)):=by
    rw [←List.drop_drop,←List.take_add]
    congr 1
    omega
   rw [List.flatten_cons,hsplit]
   exact (q3.mono r1).append r4
  ·intro v hv
   rw [List.flatten_cons] at hv
   rcases List.mem_append.1 hv with hv|hv
   ·exact q4 v hv
   ·exact r5 v hv
  ·intro i g p hg hp
   cases i with
   |zero=>
    simp at hg hp
    subst hg hp
    have:=q3.length
    rw [this]
    simp
    omega
   |succ i=>exact r6 i g p (by simpa using hg) (by simpa using hp)
  ·intro i g p d hg hp hd
   rw [←List.append_assoc]
   cases i with
   |zero=>simp at hg hp hd;subst hg hp hd;exact q5.mono G2
   |succ i=>exact r7 i g p d (by simpa using hg) (by simpa using hp) (by simpa using hd)
theorem opens (hpos:0<W.heap.size): ∀(fuel:Nat) (d:Nat) (t:TypeId),plainB P d t=true→Opens enc P W held fuel t:=by
 intro fuel
 induction fuel with
 |zero=>intro d t _ cs x σ H h _;simp [DataW.trod] at h
 |succ fuel ih=>
  intro d t hp cs x σ H h hH
  cases d with
  |zero=>cases hp
  |succ d=>
   unfold plainB at hp
   split at hp
   ·rename_i ht
    obtain ⟨b,rfl,rfl⟩:=DataW.trod_bool ht h
    exact ⟨σ,[],[.bool b],Sg.le_refl _,by simpa using hH,.cons (.bool b) .nil,by simp [VV.cell],.bool ht b⟩
   ·rename_i k ht
    obtain ⟨n,rfl,rfl,hw⟩:=DataW.trod_int ht h
    exact ⟨σ,[],[.int k n],Sg.le_refl _,by simpa using hH,.cons (.int k n) .nil,by simp [VV.cell],.int ht hw⟩
   ·rename_i ht
    obtain ⟨s,rfl,rfl,hs⟩:=DataW.trod_string ht h
    refine ⟨σ,[],[.str s.data.toList],Sg.le_refl _,by simpa using hH,.cons ?_ .nil,by simp [VV.cell],.str ht (by simpa using hs)⟩
    have:VRel σ (.str s.data.toList) (.string ⟨s.data.toList.toArray⟩):= .str _
    simpa using this
   ·rename_i e ht
    simp only [Bool.and_eq_true,decide_eq_true_eq] at hp
    rcases DataW.trod_slice ht h with ⟨rfl,rfl⟩|⟨a,len,cap,elems,rest,n,hfn,rfl,rfl,_,hlc,hm,hlen,hel,hsp,_⟩
    ·exact ⟨σ,[],[.sl none 0 0],Sg.le_refl _,by simpa using hH,.cons .slNil .nil,by simp [VV.cell],.nil ht⟩
    ·have hfn':fuel=n:=by omega
     subst hfn'
     obtain ⟨hrl,hre⟩:=hsp rfl
     have hall: ∀i,i<cap→ ∃cs' x',W.cells? 0 (a.add (i*P.cellsOf e)) (P.cellsOf e)=some cs'∧DataW.trod enc P W 0 (fun _=>true) held fuel e cs'=some x'∧(elems++rest)[i]? =some x':=by
      intro i hi
      have key:(W.cells? 0 (a.add (i*P.cellsOf e)) (P.cellsOf e)).bind (DataW.trod enc P W 0 (fun _=>true) held fuel e)=(elems++rest)[i]? :=by
       rcases Nat.lt_or_ge i len with hil|hil
       ·rw [List.getElem?_append_left (by omega)];exact hel i hil
       ·rw [List.getElem?_append_right (by omega),hlen]
        have:=hre (i-len) (by omega)
        rw [show len+(i-len)=i by omega] at this
        exact this
      have hsome:(elems++rest)[i]? =some ((elems++rest)[i]'(by rw [List.length_append];omega)):=List.getElem?_eq_getElem _
      rw [hsome] at key
      cases hc:W.cells? 0 (a.add (i*P.cellsOf e)) (P.cellsOf e) with
      |none=>rw [hc] at key;cases key
      |some cs'=>rw [hc] at key;exact ⟨cs',_,rfl,key,hsome⟩
     obtain ⟨css,hcss⟩:=Deep.choose_lt (α:=List Value) (p:=fun i cs'=> ∃x',W.cells? 0 (a.add (i*P.cellsOf e)) (P.cellsOf e)=some cs'∧DataW.trod enc P W 0 (fun _=>true) held fuel e cs'=some x'∧(elems++rest)[i]? =some x') hall
     obtain ⟨xs,hxs⟩:=Deep.choose_lt (α:=DataW D×List MemPlace) (p:=fun i x'=>W.cells? 0 (a.add (i*P.cellsOf e)) (P.cellsOf e)=some (css i)∧DataW.trod enc P W 0 (fun _=>true) held fuel e (css i)=some x'∧(elems++rest)[i]? =some x') hcss
     obtain ⟨σ1,G1,ces,q1,q2,q3,q4⟩:=opens_many (ih d e hp.1) css xs cap (fun i hi=>(hxs i hi).2.1) hH cap (Nat.le_refl _)
     have hln: ∀c∈ces,c.length=P.cellsOf e:=by
      intro c hc
      obtain ⟨i,hi⟩:=List.mem_iff_getElem?.1 hc
      have hic:i<cap:=by rw [←q3];exact (List.getElem?_eq_some_iff.1 hi).1
      rw [(q4 i c hi).1.length]
      exact (World.cells?_some (hxs i hic).1).2.1
     have hget: ∀{G:Hp} (i:Nat) c d',ces[i]? =some c→(elems.map (·.1)++rest.map (·.1))[i]? =some d'→Rd P (H++G1++G) e c d':=by
      intro G i c d' hc hd'
      have hic:i<cap:=by rw [←q3];exact (List.getElem?_eq_some_iff.1 hc).1
      rw [←List.map_append,List.getElem?_map,(hxs i hic).2.2] at hd'
      simp at hd'
      subst hd'
      exact ((q4 i c hc).2.2).mono G
     rcases Nat.eq_zero_or_pos cap with hc0|hc0
     ·
      refine ⟨σ1.push (H++G1).length ⟨0,0,0,0,none⟩,G1++[.dead],[.sl (some ⟨(H++G1).length,0,0⟩) len cap],Sg.le_trans q1 (Sg.le_push q2.fresh),by rw [←List.append_assoc];exact q2.pushDead _ hpos,.cons (.sl ⟨hlc,.inr (.inr ⟨hc0,hc0,⟨0,0,0,0,none⟩,by simp [Sg.push]⟩)⟩) .nil,by simp [VV.cell],?_⟩
      rw [←List.append_assoc]
      exact .sl ht _ len cap ces _ _ hlc hm (by simp [hlen]) (by simp [hrl]) (fun h=>by omega) q3 hln hget
     ·obtain ⟨_,_,hc1⟩:=World.cells?_some (hxs 0 hc0).1
      have h00:=hc1 0 hp.2
      simp [Addr.add] at h00
      have hcl:(css 0).length=P.cellsOf e:=(World.cells?_some (hxs 0 hc0).1).2.1
      have hsm:(css 0)[0]? =some ((css 0)[0]'(by rw [hcl];exact hp.2)):=List.getElem?_eq_getElem _
      rw [hsm] at h00
      have hblk:a.block<W.heap.size∧a.spot=none:=by
       unfold World.cell? at h00
       split at h00
       ·rename_i hb
        refine ⟨(Array.getElem?_eq_some_iff.1 hb).1,?_⟩
        split at h00
        ·cases h00
        ·rename_i hs;simpa using hs
       ·cases h00
      obtain ⟨ab,ao,asp⟩:=a
      simp only at hblk
      obtain ⟨hb1,rfl⟩:=hblk
      refine ⟨σ1.push (H++G1).length ⟨ab,ao,P.cellsOf e,cap,none⟩,G1++[.row e .ro ces],[.sl (some ⟨(H++G1).length,0,0⟩) len cap],Sg.le_trans q1 (Sg.le_push q2.fresh),?_,?_,by simp [VV.cell],?_⟩
      ·rw [←List.append_assoc]
       refine q2.pushRo e ces ⟨ab,ao,P.cellsOf e,cap,none⟩ hb1 rfl q3 hln ?_
       intro k c j v hc hv
       have hkc:k<cap:=by rw [←q3];exact (List.getElem?_eq_some_iff.1 hc).1
       obtain ⟨s1,s2,_⟩:=q4 k c hc
       obtain ⟨v',t1,t2⟩:=s1.get hv
       refine ⟨s2 v (List.mem_of_getElem? hv),v',?_,t2⟩
       obtain ⟨_,u2,u3⟩:=World.cells?_some (hxs k hkc).1
       have hj:j<P.cellsOf e:=by rw [←u2];exact (List.getElem?_eq_some_iff.1 t1).1
       rw [←t1,←u3 j hj]
       congr 1
       unfold Addr.add
       by_cases h1:k*P.cellsOf e=0
       ·rw [if_pos h1]
        by_cases h2:j=0
        ·rw [if_pos h2,h1,h2];simp
        ·rw [if_neg h2,h1];simp
       ·rw [if_neg h1]
        by_cases h2:j=0
        ·rw [if_pos h2,h2];simp
        ·rw [if_neg h2]
      ·refine .cons (.sl ⟨hlc,.inl ⟨⟨⟨ab,ao,P.cellsOf e,cap,none⟩,by simp [Sg.push],?_⟩,rfl⟩⟩) .nil
       simp
      ·rw [←List.append_assoc]
       exact .sl ht _ len cap ces _ _ hlc hm (by simp [hlen]) (by simp [hrl]) (fun _=>by rw [List.getElem?_append_right (Nat.le_refl _)];simp) q3 hln hget
   ·rename_i fs ht
    simp only [Bool.and_eq_true,decide_eq_true_eq] at hp
    obtain ⟨xs,n,hfn,rfl,hcl,hxl,hx⟩:=DataW.trod_struct ht h
    have hfn':fuel=n:=by omega
    subst hfn'
    obtain ⟨_,σ1,G,ps,q1,q2,q3,q4,q5,q6,q7⟩:=opens_fields fs.toList (fun f hf=>ih d f.type (List.all_eq_true.1 hp.1 f hf)) xs (by simpa using hxl) (fun i f hf=>hx i f (by simpa using hf)) 0 _ hp.2 (by omega) hH
    refine ⟨σ1,G,ps.flatten,q1,q2,?_,q5,.struct ht ps _ (by simpa using q3) (by simpa using hxl) (fun i f p hf hp=>q6 i f p (by simpa using hf) hp) (fun i f p d' hf hp hd=>q7 i f p d' (by simpa using hf) hp hd)⟩
    rw [List.drop_zero,Nat.sub_zero,List.take_of_length_le (by omega)] at q4
    exact q4
   ·cases hp
end
end Go.Wm
end
section
namespace Go.Wm
set_option linter.unusedSimpArgs false
set_option linter.unusedVariables false
open Go.RowKit Go.ChangeShapes Go.WideShapes Go.ChangeAt
def isStruct (P:Program) (t:TypeId):Bool:=match P.underlying t with|some (.struct _)=>true|_=>false
def ArgRd {D:Type} (P:Program) (H:Hp) (t:TypeId) (v:VV) (d:DataW D):Prop:=
 ∃vs,Rd P H t vs d∧v=if isStruct P t then .agg vs else vs.headD .undef
inductive ArgsRd {D:Type} (P:Program) (H:Hp):List TypeId→List VV→List (DataW D)→Prop
 |nil:ArgsRd P H [] [] []
 |cons {t ts v vs d ds} (h:ArgRd P H t v d) (r:ArgsRd P H ts vs ds):ArgsRd P H (t::ts) (v::vs) (d::ds)
theorem ArgsRd.mono {D:Type} {P:Program} {H:Hp} (G:Hp) {ts:List TypeId} {vs:List VV} {ds:List (DataW D)} (h:ArgsRd P H ts vs ds):ArgsRd P (H++G) ts vs ds:=by
 induction h with
 |nil=>exact .nil
 |cons h r ih=>obtain ⟨vs,h1,h2⟩:=h;exact .cons ⟨vs,h1.mono G,h2⟩ ih
section
variable {D:Type} {enc:TypeId×Value→D} {P:Program} {W:World}
theorem openArg (hpos:0<W.heap.size) {d0:Nat} {t:TypeId} {v:Value} {d:DataW D} {ps:List MemPlace} {r:Reach} {base:Nat} (hp:plainB P d0 t=true) (hval:Value.okWide P W r base t v) (h:DataW.Trod enc P W 0 (fun _=>true) true t v d ps)
 {σ:Sg} {H:Hp} (hH:HRel P σ W.heap.size H W): ∃σ' G vv,σ.le σ'∧HRel P σ' W.heap.size (H++G) W∧VRel σ' vv v∧ArgRd P (H++G) t vv d:=by
 obtain ⟨fuel,hf⟩:=h
 obtain ⟨σ',G,vs,q1,q2,q3,q4,q5⟩:=opens (enc:=enc) (W:=W) (held:=true) hpos fuel d0 t hp _ _ σ H hf hH
 refine ⟨σ',G,_,q1,q2,?_,vs,q5,rfl⟩
 cases d0 with
 |zero=>cases hp
 |succ d0=>
  unfold plainB at hp
  split at hp
  ·rename_i ht
   obtain ⟨b,rfl⟩:=okWide_bool ht hval
   simp only [isStruct,ht]
   simp only [Value.cells] at q3
   generalize hcs:(#[Value.bool b]:Array Value).toList=cs at q3
   cases q3 with
   |cons a t=>simp at hcs;obtain ⟨rfl,rfl⟩:=hcs;simpa using a
  ·rename_i k ht
   obtain ⟨n,rfl⟩:=okWide_int ht hval
   simp only [isStruct,ht]
   simp only [Value.cells] at q3
   generalize hcs:(#[Value.int k n]:Array Value).toList=cs at q3
   cases q3 with
   |cons a t=>simp at hcs;obtain ⟨rfl,rfl⟩:=hcs;simpa using a
  ·rename_i ht
   obtain ⟨s,rfl⟩:=okWide_string ht hval
   simp only [isStruct,ht]
   simp only [Value.cells] at q3
   generalize hcs:(#[Value.string s]:Array Value).toList=cs at q3
   cases q3 with
   |cons a t=>simp at hcs;obtain ⟨rfl,rfl⟩:=hcs;simpa using a
  ·rename_i e ht
   obtain ⟨a,len,cap,rfl⟩:=okWide_slice ht hval
   simp only [isStruct,ht]
   simp only [Value.cells] at q3
   generalize hcs:(#[Value.slice a len cap]:Array Value).toList=cs at q3
   cases q3 with
   |cons a t=>simp at hcs;obtain ⟨rfl,rfl⟩:=hcs;simpa using a
  ·rename_i fs ht
   obtain ⟨cs,rfl,_⟩:=okWide_struct ht hval
   simp only [isStruct,ht,if_true]
   exact .agg q3
  ·cases hp
theorem openArgs (hpos:0<W.heap.size) {d0:Nat}: ∀(ts:List TypeId) (_: ∀t∈ts,plainB P d0 t=true) (vs:List Value) (ds:List (DataW D)) (ps:List MemPlace) (_: ∀(j:Nat) t v,ts[j]? =some t→vs[j]? =some v→ ∃r base,Value.okWide P W r base t v)
 (_:DataW.TrodAll enc P W 0 (fun _=>true) true ts vs ds ps) {σ:Sg} {H:Hp} (_:HRel P σ W.heap.size H W),∃σ' G vvs,σ.le σ'∧HRel P σ' W.heap.size (H++G) W∧LRel σ' vvs vs∧ArgsRd P (H++G) ts vvs ds
 |[],_,vs,ds,ps,_,h,σ,H,hH=>by
  obtain ⟨rfl,rfl,rfl⟩:=trodAll_nil h
  exact ⟨σ,[],[],Sg.le_refl _,by simpa using hH,.nil,.nil⟩
 |t::ts,hp,vs,ds,ps,hval,h,σ,H,hH=>by
  obtain ⟨v0,vs0,d0',ds0,p0,q0,rfl,rfl,rfl,h0,r0⟩:=trodAll_cons h
  obtain ⟨r,base,hv0⟩:=hval 0 t v0 rfl rfl
  obtain ⟨σ1,G1,vv,q1,q2,q3,q4⟩:=openArg hpos (hp t (by simp)) hv0 h0 hH
  obtain ⟨σ2,G2,vvs,s1,s2,s3,s4⟩:=openArgs hpos ts (fun t ht=>hp t (by simp [ht])) vs0 ds0 q0 (fun j t v h1 h2=>hval (j+1) t v (by simpa using h1) (by simpa using h2)) r0 q2
  refine ⟨σ2,G1++G2,vv::vvs,Sg.le_trans q1 s1,by rw [←List.append_assoc];exact s2,.cons (q3.mono s1) s3,?_⟩
  rw [←List.append_assoc]
  obtain ⟨us,t1,t2⟩:=q4
  exact .cons ⟨us,t1.mono G2,t2⟩ s4
theorem argsStay (hl:laidOutB P=true) {W':World} {sp:Nat→Bool} (hb:Below W.heap.size W W'): ∀{ts:List TypeId} {vs:List Value} {ds:List (DataW D)} {ps:List MemPlace} (_: ∀t∈ts,P.readableRec t=true∧t<P.types.size) (_: ∀x∈ps,x.block<W.heap.size) (_: ∀x∈ps,sp x.block=true),
 DataW.TrodAll enc P W 0 (fun _=>true) true ts vs ds ps→DataW.TrodAll enc P W' 0 sp true ts vs ds ps
 |[],vs,ds,ps,_,_,_,h=>by
  obtain ⟨rfl,rfl,rfl⟩:=trodAll_nil h
  exact rfl
 |t::ts,vs,ds,ps,hr,hlt,hsp,h=>by
  obtain ⟨v0,vs0,d0',ds0,p0,q0,rfl,rfl,rfl,h0,r0⟩:=trodAll_cons h
  refine ⟨p0,q0,?_,argsStay hl hb (fun t ht=>hr t (by simp [ht])) (fun x hx=>hlt x (by simp [hx])) (fun x hx=>hsp x (by simp [hx])) r0,rfl⟩
  exact WideElems.Trod_stays hl (hr t (by simp)).1 (hr t (by simp)).2 h0 (fun x hx=>hb.same (hlt x (by simp [hx]))) (fun x hx=>hsp x (by simp [hx]))
theorem post_of_below {f:Func} {s:ChangeSpec} {apart fresh handsOn again:Bool} {W W':World} {args:Array Value} {v:Value} {ds gs:List (DataW D)} {before pa pv:List MemPlace}
 (hW:DataW.Whole enc P f.params.toList s.vars apart W args.toList ds gs before)
 (hres: ∀(b:Nat) (sp:Nat→Bool) (hd:Bool),DataW.TrodAll enc P W' b sp hd f.resultTypes.toList (v.resultList f.resultTypes.size) (s.fn D (ds++gs)).results [])
 (hargs: ∀sp:Nat→Bool,(∀p∈before,sp p.block=true)→DataW.TrodAll enc P W' 0 sp true f.params.toList args.toList (s.fn D (ds++gs)).args pa)
 (hvars: ∀sp:Nat→Bool,(∀p∈before,sp p.block=true)→DataW.TrodVars enc P W' sp s.vars (s.fn D (ds++gs)).vars pv)
 (hps:before=pa++pv) (hb:Below W.heap.size W W')
 (hok: ∀(j:Nat) (t:TypeId) (r:Value),f.resultTypes[j]? =some t→(v.resultList f.resultTypes.size)[j]? =some r→Value.okWide P W' .any 0 t r):
 s.post enc P f apart fresh handsOn again W args v W':=by
 have hold: ∀p∈before,(fun b=>decide (b<W.heap.size)) p.block=true:=fun p hp=>by simpa using hW.lt p hp
 refine ⟨ds,gs,before,[],pa,pv,hW,hres _ _ _,hargs _ hold,hvars _ hold,hb.frame _,fun _=> ?_⟩
 have hlt:=hW.lt
 obtain ⟨_,_,_,_,_,hz,hn⟩:=hW
 refine ⟨hok,_,_,([]++pa)++pv,⟨[]++pa,pv,trodAll_append (hargs _ (fun _ _=>rfl)) (hres _ _ _),hvars _ (fun _ _=>rfl),rfl,?_,?_⟩,?_⟩
 ·intro b off hp
  have hp':MemPlace.cell b off∈before:=by rw [hps];simpa using hp
  rw [hb.frozen (p:=⟨b,off,none⟩) (hlt _ hp')]
  exact hz b off hp'
 ·intro ha
  have:=hn ha
  rw [hps] at this
  simpa using this
 ·intro p hp _
  rw [hps]
  simpa using hp
end
end Go.Wm
end
section
namespace Go.Wm
set_option linter.unusedSimpArgs false
set_option linter.unusedVariables false
open Go.RowKit
section
variable {P:Program} {σ:Sg} {B:Nat} {H:Hp} {w:World}
theorem HRel.dead0 {W:World} (L:List Info) (hL: ∀(i:Nat) g,GL[i]? =some g→ ∃I,L[i]? =some I∧I.real=g∧I.base=0) (hfit: ∀I∈L,I.real<W.heap.size):
 HRel P (fun i=>L[i]?) W.heap.size (List.replicate L.length .dead) W:=by
 have hd: ∀(i:Nat) (b:Blk),(List.replicate L.length Blk.dead)[i]? =some b→b= .dead:=fun i b h=>by
  rw [List.getElem?_replicate] at h
  split at h
  ·exact (Option.some.inj h).symm
  ·cases h
 exact {base:=Nat.le_refl _,dom:=fun i I h=>by simpa using (List.getElem?_eq_some_iff.1 h).1,rows:=fun i t md es h=>(by have:=hd _ _ h;cases this),inj:=fun i j ti mi esi tj mj esj Ii Ij h=>(by have:=hd _ _ h;cases this),objs:=fun i o h=>(by have:=hd _ _ h;cases this),oinj:=fun i j o o' I J h=>(by have:=hd _ _ h;cases this),glob:=hL,fit:=fun i I h=>hfit I (List.mem_of_getElem? h)}
theorem HRel.wake (h:HRel P σ B H w) {i:Nat} {I:Info} (hi:H[i]? =some .dead) (hσ:σ i=some I) (hB:I.real<B) (hroom:I.room=none) (t:TypeId) (es:List (List VV)) (hn:es.length=I.n) (hz: ∀e∈es,e.length=I.esz)
 (hcell: ∀(k:Nat) e (j:Nat) v,es[k]? =some e→e[j]? =some v→v.cell=true∧ ∃v',w.cell? ⟨I.real,I.base+k*I.esz+j,none⟩=some v'∧VRel σ v v'):
 HRel P σ B (H.set i (.row t .ro es)) w:=by
 have hlt:i<H.length:=(List.getElem?_eq_some_iff.1 hi).1
 have part: ∀(k:Nat) tk mk ek,(H.set i (Blk.row t .ro es))[k]? =some (Blk.row tk mk ek)→(k=i∧tk=t∧mk= .ro∧ek=es)∨(k≠i∧H[k]? =some (Blk.row tk mk ek)):=by
  intro k tk mk ek hk
  by_cases hki:k=i
  ·subst hki
   rw [List.getElem?_set_self hlt] at hk
   obtain ⟨rfl,rfl,rfl⟩:t=tk∧Mode.ro=mk∧es=ek:=by simpa using hk
   exact .inl ⟨rfl,rfl,rfl,rfl⟩
  ·rw [List.getElem?_set_ne (Ne.symm hki)] at hk;exact .inr ⟨hki,hk⟩
 have partO: ∀(k:Nat) o,(H.set i (Blk.row t .ro es))[k]? =some (Blk.obj o)→H[k]? =some (Blk.obj o):=by
  intro k o hk
  by_cases hki:k=i
  ·subst hki;rw [List.getElem?_set_self hlt] at hk;cases hk
  ·rwa [List.getElem?_set_ne (Ne.symm hki)] at hk
 refine ⟨h.base,fun k K hk=>by rw [List.length_set];exact h.dom k K hk,fun k tk mk ek hk=> ?_,fun k j tk mk ek tj mj ej Ik Ij hk hmk hj hσk hσj hreal=> ?_,fun k o hk=>h.objs k o (partO k o hk),fun k j o o' Ik Ij hk hj=>h.oinj k j o o' Ik Ij (partO _ _ hk) (partO _ _ hj),h.glob,h.fit⟩
 ·rcases part k tk mk ek hk with ⟨rfl,rfl,rfl,rfl⟩|⟨_,hk'⟩
  ·exact ⟨I,hσ,Nat.lt_of_lt_of_le hB h.base,hn,hz,hcell,fun _=>⟨hB,hroom⟩,fun h'=>absurd rfl h'⟩
  ·exact h.rows k tk mk ek hk'
 ·rcases part k tk mk ek hk with ⟨rfl,_,rfl,_⟩|⟨_,hk'⟩
  ·exact absurd rfl hmk
  ·rcases part j tj mj ej hj with ⟨rfl,_⟩|⟨_,hj'⟩
   ·obtain ⟨K,hK⟩:=h.rows k tk mk ek hk'
    have e1:K=Ik:=Option.some.inj (hK.here.symm.trans hσk)
    subst e1
    have e2:I=Ij:=Option.some.inj (hσ.symm.trans hσj)
    subst e2
    have:=(hK.own hmk).1
    omega
   ·exact h.inj k j tk mk ek tj mj ej Ik Ij hk' hmk hj' hσk hσj hreal
theorem strs_of_trod {D:Type} {enc:TypeId×Value→D} {W:World} {held:Bool} {fuel:Nat} {t e:TypeId} {cs:List Value} {ss:List (List UInt8)} {p:List MemPlace} (ht:P.underlying t=some (.slice e)) (he:P.underlying e=some .string) (hce:P.cellsOf e=1)
 (h:DataW.trod enc P W 0 (fun _=>true) held fuel t cs=some (.slice (ss.map fun s=> .lit (.string s)) [],p)) (hne:0<ss.length):
 ∃a:Addr,cs=[.slice (some a) ss.length ss.length]∧a.spot=none∧a.block<W.heap.size∧ ∀(i:Nat) s,ss[i]? =some s→W.cell? ⟨a.block,a.off+i,none⟩=some (.string ⟨s.toArray⟩):=by
 rcases DataW.trod_slice ht h with ⟨_,hx⟩|⟨a,len,cap,elems,rest,n,_,rfl,hx,_,hlc,_,hlen,hel,hsp,_⟩
 ·simp at hx
 ·simp only [Prod.mk.injEq,DataW.slice.injEq] at hx
  obtain ⟨⟨h1,h2⟩,_⟩:=hx
  have hr:rest=[]:=by cases rest with|nil=>rfl|cons _ _=>simp at h2
  obtain ⟨hr1,_⟩:=hsp rfl
  rw [hr] at hr1
  simp at hr1
  have hl:ss.length=len:=by have:=congrArg List.length h1;simp at this;omega
  have hcell: ∀(i:Nat) s,ss[i]? =some s→W.cell? (a.add i)=some (.string ⟨s.toArray⟩)∧(a.add i).block=a.block:=by
   intro i s hs
   have hi:i<len:=by rw [←hl];exact (List.getElem?_eq_some_iff.1 hs).1
   have h3:=hel i hi
   have h4:(elems.map (·.1))[i]? =some (.lit (.string s)):=by rw [←h1,List.getElem?_map,hs];rfl
   rw [List.getElem?_map] at h4
   obtain ⟨x,hx1,hx2⟩:=Option.map_eq_some_iff.1 h4
   rw [hx1,hce,Nat.mul_one] at h3
   obtain ⟨cs',c1,c2⟩:=Option.bind_eq_some_iff.1 h3
   obtain ⟨s',rfl,e2,_⟩:=DataW.trod_string he c2
   rw [e2] at hx2
   simp only [DataW.lit.injEq,Lit.string.injEq] at hx2
   obtain ⟨_,_,u3⟩:=World.cells?_some c1
   have:=u3 0 (by decide)
   refine ⟨?_,by unfold Addr.add;split<;>rfl⟩
   have e0:(a.add i).add 0=a.add i:=by simp [Addr.add]
   rw [e0] at this
   rw [this]
   subst hx2
   simp
  have h0:=hcell 0 _ (List.getElem?_eq_getElem hne)
  have hblk:a.block<W.heap.size∧a.spot=none:=by
   have h5:=h0.1
   simp only [Addr.add,if_true] at h5
   unfold World.cell? at h5
   split at h5
   ·rename_i hb
    refine ⟨(Array.getElem?_eq_some_iff.1 hb).1,?_⟩
    split at h5
    ·cases h5
    ·rename_i hs;simpa using hs
   ·cases h5
  obtain ⟨ab,ao,asp⟩:=a
  simp only at hblk
  obtain ⟨hb1,rfl⟩:=hblk
  refine ⟨⟨ab,ao,none⟩,by rw [hl,show cap=len by omega],rfl,hb1,fun i s hs=> ?_⟩
  have:=(hcell i s hs).1
  unfold Addr.add at this
  by_cases hi:i=0
  ·subst hi;simpa using this
  ·rw [if_neg hi] at this;exact this
def VV.lo (n:Nat):VV→Bool
 | .undef| .bool _| .int _ _| .str _| .ptr none| .sl none 0 0| .nilFn| .map none| .nilI=>true
 | .ptr (some p)=>decide (p.blk<n)
 | .sl (some p) _ _=>decide (p.blk<n)
 |_=>false
def Sg.low (σ:Sg) (n:Nat):Sg:=fun i=>if i<n then σ i else none
theorem Sg.low_le (σ:Sg) (n:Nat):(σ.low n).le σ:=fun i I h=>by
 unfold Sg.low at h
 split at h
 ·exact h
 ·cases h
theorem VRel.low {n:Nat} {v:VV} {v':Value} (hv:VV.lo n v=true) (h:VRel σ v v'):VRel (σ.low n) v v':=by
 have hp: ∀{p:PA} {a:Addr},p.blk<n→σ.place p a→(σ.low n).place p a:=fun hl ⟨I,h1,h2⟩=>⟨I,by simp [Sg.low,hl,h1],h2⟩
 cases h with
 |undef=>exact .undef _
 |bool=>exact .bool _
 |int=>exact .int _ _
 |str=>exact .str _
 |ptrNil=>exact .ptrNil
 |ptr h=>exact .ptr (hp (by simpa [VV.lo] using hv) h)
 |slNil=>exact .slNil
 |@sl p len cap a cap' h=>
  have hl:p.blk<n:=by simpa [VV.lo] using hv
  obtain ⟨h0,h1⟩:=h
  refine .sl ⟨h0,?_⟩
  rcases h1 with ⟨h1,h2⟩|⟨I,m,h1,h2,h3,h4,h5⟩|⟨h1,h2,I,h3⟩
  ·exact .inl ⟨hp hl h1,h2⟩
  ·exact .inr (.inl ⟨I,m,by simp [Sg.low,hl,h1],h2,h3,hp hl h4,h5⟩)
  ·exact .inr (.inr ⟨h1,h2,I,by simp [Sg.low,hl,h3]⟩)
 |nilFn=>exact .nilFn
 |mapNil=>exact .mapNil
 |nilI=>exact .nilI
 |fn h=>simp [VV.lo] at hv
 |agg h=>simp [VV.lo] at hv
 |tup h=>simp [VV.lo] at hv
 |map h=>simp [VV.lo] at hv
 |yield h=>simp [VV.lo] at hv
 |ifc h=>simp [VV.lo] at hv
def RoHp (H:Hp):Prop:= ∀i,i<H.length→(H[i]? =some Blk.dead∧ ∃(g j g':Nat) (t:TypeId) (es:List (List VV)),GL[i]? =some g∧GL[j]? =some g'∧g≤g'∧H[j]? =some (Blk.row t .ro es))∨ ∃t es,H[i]? =some (Blk.row t .ro es)∧ ∀(k:Nat) e (j:Nat) v,es[k]? =some e→e[j]? =some v→VV.lo H.length v=true
def roAt (H:Hp) (i:Nat):Bool:=match H[i]? with
 |some (.row _ .ro es)=>es.all fun e=>e.all fun v=>VV.lo H.length v
 |some .dead=>(match GL[i]? with
  |some g=>(List.range GL.length).any fun j=>match GL[j]?,H[j]? with|some g',some (.row _ .ro _)=>Nat.ble g g'|_,_=>false
  |none=>false)
 |_=>false
theorem RoHp.of {H:Hp} (h:(List.range H.length).all (roAt H)=true):RoHp H:=by
 intro i hi
 have h1:=List.all_eq_true.1 h i (List.mem_range.2 hi)
 unfold roAt at h1
 split at h1
 ·rename_i t es hb
  exact .inr ⟨t,es,hb,fun k e j v he hv=>List.all_eq_true.1 (List.all_eq_true.1 h1 e (List.mem_of_getElem? he)) v (List.mem_of_getElem? hv)⟩
 ·rename_i hb
  split at h1
  ·rename_i g hg
   obtain ⟨j,_,h2⟩:=List.any_eq_true.1 h1
   split at h2
   ·rename_i g' t es h3 h4
    exact .inl ⟨hb,g,j,g',t,es,hg,h3,Nat.le_of_ble_eq_true h2,h4⟩
   ·cases h2
  ·cases h1
 ·cases h1
theorem RoHp.old {P:Program} {σ:Sg} {B:Nat} {H0 G:Hp} {w:World} (hr:RoHp H0) (h:HRel P σ B (H0++G) w) {j:Nat} {J:Info} (hj:j<H0.length) (hJ:σ j=some J):J.real<B:=by
 have key: ∀{j:Nat} {J:Info} {t:TypeId} {es:List (List VV)},H0[j]? =some (.row t .ro es)→σ j=some J→J.real<B:=fun {j J t es} e1 hJ=>by
  obtain ⟨K,hK⟩:=h.rows j t .ro es (by rw [List.getElem?_append_left (List.getElem?_eq_some_iff.1 e1).1];exact e1)
  have e2:K=J:=Option.some.inj (hK.here.symm.trans hJ)
  subst e2
  exact (hK.old rfl).1
 rcases hr j hj with ⟨_,g,k,g',t,es,h1,h2,h3,h4⟩|⟨t,es,e1,_⟩
 ·obtain ⟨K,k1,k2,_⟩:=h.glob j g h1
  obtain ⟨L,l1,l2,_⟩:=h.glob k g' h2
  have e2:K=J:=Option.some.inj (k1.symm.trans hJ)
  subst e2
  have:=key h4 l1
  omega
 ·exact key e1 hJ
theorem HRel.low {H0 G:Hp} (h:HRel P σ B (H0++G) w) (hr:RoHp H0) (hG:GL.length≤H0.length):HRel P (σ.low H0.length) B H0 w:=by
 have hle:=Sg.low_le σ H0.length
 have get: ∀{i:Nat} {b:Blk},H0[i]? =some b→(H0++G)[i]? =some b:=fun hi=>by rw [List.getElem?_append_left (List.getElem?_eq_some_iff.1 hi).1];exact hi
 have ro: ∀{i:Nat} {t md es},H0[i]? =some (Blk.row t md es)→md= .ro:=fun hi=>by
  rcases hr _ (List.getElem?_eq_some_iff.1 hi).1 with ⟨h0,_⟩|⟨t,es,h1,_⟩
  ·rw [h0] at hi;cases hi
  ·rw [h1] at hi;cases hi;rfl
 have ob: ∀{i:Nat} {o},H0[i]? =some (Blk.obj o)→False:=fun hi=>by
  rcases hr _ (List.getElem?_eq_some_iff.1 hi).1 with ⟨h0,_⟩|⟨t,es,h1,_⟩
  ·rw [h0] at hi;cases hi
  ·rw [h1] at hi;cases hi
 refine ⟨h.base,fun i I hi=> ?_,fun i t md es hi=> ?_,fun i j ti mi esi tj mj esj Ii Ij hi hm=>absurd (ro hi) hm,fun i o hi=>(ob hi).elim,fun i j o o' I J hi=>(ob hi).elim,fun i g hg=> ?_,fun i I hi=>h.fit i I (hle i I hi)⟩
 ·unfold Sg.low at hi
  split at hi
  ·assumption
  ·cases hi
 ·have hlt:=(List.getElem?_eq_some_iff.1 hi).1
  obtain ⟨I,hI⟩:=h.rows i t md es (get hi)
  refine ⟨I,by simp [Sg.low,hlt,hI.here],hI.lt,hI.len,hI.esz,fun k e j v he hv=> ?_,hI.old,hI.own⟩
  obtain ⟨h1,v',h2,h3⟩:=hI.cell k e j v he hv
  rcases hr i hlt with ⟨h0,_⟩|⟨t',es',h4,h5⟩
  ·rw [hi] at h0;cases h0
  rw [hi] at h4
  cases h4
  exact ⟨h1,v',h2,h3.low (h5 k e j v he hv)⟩
 ·obtain ⟨I,h1,h2⟩:=h.glob i g hg
  have:i<H0.length:=Nat.lt_of_lt_of_le (List.getElem?_eq_some_iff.1 hg).1 hG
  exact ⟨I,by simp [Sg.low,this,h1],h2⟩
theorem VRel.flat {τ:Sg} {v:VV} {v':Value} (hv:VV.lo 0 v=true) (h:VRel τ v v'):VRel σ v v':=
 (h.low hv).mono fun i I hi=>by simp [Sg.low] at hi
end
end Go.Wm
end
section
namespace Go.Wm
set_option linter.unusedSimpArgs false
set_option linter.unusedVariables false
open Go.RowKit
section
variable {P:Program} {σ:Sg} {B:Nat} {H:Hp} {w:World}
theorem LRel.flat {τ:Sg}: ∀{l:List VV} {l':List Value},LRel τ l l'→(∀v∈l,VV.lo 0 v=true)→LRel σ l l'
 |_,_,.nil,_=> .nil
 |_,_,.cons h t,hl=> .cons (h.flat (hl _ List.mem_cons_self)) (t.flat fun v hv=>hl v (List.mem_cons_of_mem _ hv))
end
end Go.Wm
end
