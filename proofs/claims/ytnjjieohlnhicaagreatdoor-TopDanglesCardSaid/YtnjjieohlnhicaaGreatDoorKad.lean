/- Texts as one: WmI WmJ WmL. -/
import Derived.Test.YtnjjieohlnhicaaGreatDoorKac
import Derived.Lib.UnsafeStr
import Derived.Laws.IdiomStrings
section
namespace Go.Wm
set_option linter.unusedSimpArgs false
set_option linter.unusedVariables false
open Go.RowKit
section
variable {P:Program} {σ:Sg} {B N:Nat} {H:Hp} {us:Up} {w:World} {a:Act} {E:Fr} {o:Oper} {v:VV}
theorem updRows_get: ∀(news es:List (List VV)) (k:Nat),k+news.length≤es.length→(updRows es k news).length=es.length∧
 ∀i:Nat,(updRows es k news)[i]? =if k≤i∧i<k+news.length then news[i-k]? else es[i]?
 |[],es,k,h=>⟨rfl,fun i=>by
  have: ¬(k≤i∧i<k+([]:List (List VV)).length):=by intro h;simp at h;omega
  rw [if_neg this];rfl⟩
 |e::news,es,k,h=>by
  have hd:updRows es k (e::news)=updRows (es.set k e) (k+1) news:=rfl
  obtain ⟨h1,h2⟩:=updRows_get news (es.set k e) (k+1) (by simp at h ⊢;omega)
  refine ⟨by rw [hd,h1];simp,fun i=> ?_⟩
  rw [hd,h2,List.length_cons]
  by_cases hk:i=k
  ·subst hk
   rw [if_neg (by omega),if_pos (by omega),List.getElem?_set_self (by simp at h;omega)]
   simp
  ·by_cases hk2:k+1≤i∧i<k+1+news.length
   ·rw [if_pos hk2,if_pos (by omega),show i-k=(i-(k+1))+1 by omega];rfl
   ·rw [if_neg hk2,if_neg (by omega),List.getElem?_set_ne (Ne.symm hk)]
theorem run_app_room {t u ty e:TypeId} {i:TypeInfo} {d:TypeDesc} {base:Option Addr} {len cap:Nat} {x:Value} {cs:List Value} {n:Nat} (ht:P.underlying t=some (.slice e)) (hu:P.underlying u=some d) (hd: ∀k,d≠ .int k) (hi:P.info? e=some i)
 (hl:(Builtin.lenOf x).run P w= .ok n w) (hf:(Builtin.firstCells i.size n x).run P w= .ok cs.toArray w) (hfit:len+n≤cap) {w':World}
 (hst: ∀ad,base=some ad→(storeCells (ad.add (len*i.size)) cs).run P w= .ok () w') (hn:base=none→w'=w):
 (Builtin.append_ #[t,u] ty #[.slice base len cap,x]).run P w= .ok (.slice base (len+n) cap) w':=by
 have hm:(d matches .int _)=false:=by cases d<;>first|rfl|(exfalso;exact hd _ rfl)
 cases base with
 |none=>have:=hn rfl;subst this;simp [Builtin.append_,underlying,ht,hu,hm,sizeOf,typeInfo,hi,hl,hfit,hf]
 |some ad=>simp [Builtin.append_,underlying,ht,hu,hm,sizeOf,typeInfo,hi,hl,hfit,hf,hst ad rfl]
theorem run_app_grow {t u ty e:TypeId} {i:TypeInfo} {d:TypeDesc} {z:Value} {base:Option Addr} {len cap:Nat} {x:Value} {cs os:List Value} {n:Nat} (ht:P.underlying t=some (.slice e)) (hu:P.underlying u=some d) (hd: ∀k,d≠ .int k) (hi:P.info? e=some i) (hz:i.zero=some z)
 (hl:(Builtin.lenOf x).run P w= .ok n w) (hf: ∀w2,Below w.heap.size w w2→(Builtin.firstCells i.size n x).run P w2= .ok cs.toArray w2) (ho: ∀w2,Below w.heap.size w w2→(Builtin.firstCells i.size len (.slice base len cap)).run P w2= .ok os.toArray w2)
 (hg:cap<len+n) (h63:len+n≤4611686018427387904) (hb:(len+n)*i.bytes≤140737488355328) (hbp:0<i.bytes):
 (Builtin.append_ #[t,u] ty #[.slice base len cap,x]).run P w=
  .ok (.slice (some ⟨w.heap.size,0,none⟩) (len+n) (grownCap w (len+n) cap e))
   (w.drew.alloc (.cells (os.toArray++cs.toArray++Builtin.zeroCells z.cells (grownCap w (len+n) cap e-(len+n))) e)):=by
 have hm:(d matches .int _)=false:=by cases d<;>first|rfl|(exfalso;exact hd _ rfl)
 have hn: ¬(len+n≤cap):=by omega
 have h63': ¬(9223372036854775807<((len:Int)+(n:Int))):=by omega
 have h48: ¬(281474976710656<Builtin.nextslicecap (len+n) cap*i.bytes):=by
  have:=growslice_fits (bytes:=i.bytes) hg hb;omega
 have hdr:Below w.heap.size w w.drew:=(Below.refl _ _).drew
 have hbz:i.bytes≠0:=by omega
 have h2:=hf w.drew hdr
 have h3:=ho w.drew hdr
 simp [Builtin.append_,underlying,ht,hu,hm,sizeOf,typeInfo,zeroValue,hi,hz,hl,hn,h63',h48,hbz,Question.forced,h2,h3,newRow,grownCap]
 congr 2
 apply Array.ext'
 simp [List.append_assoc]
theorem HRel.again (h:HRel P σ B H w) (r:Nat) (hB:B≤r) (hr:r<w.heap.size) (hno: ∀(j:Nat) tj mj ej Ij,H[j]? =some (Blk.row tj mj ej)→σ j=some Ij→Ij.real≠r)
 (t:TypeId) (es:List (List VV)) {cur cur2:Array Value} (hcur:w.heap[r]? =some (.cells cur t (0,0))) (hs2:cur2.size=cur.size) (b z m:Nat)
 (hz: ∀e∈es,e.length=z) (hs:cur.size=b+m*z) (hm:es.length≤m) (hm63:m≤9223372036854775807)
 (hcell: ∀(k:Nat) e (j:Nat) v,es[k]? =some e→e[j]? =some v→v.cell=true∧ ∃v',cur2[b+k*z+j]? =some v'∧VRel σ v v'):
 HRel P (σ.push H.length ⟨r,b,z,es.length,some m⟩) B (H++[.row t .loose es]) (w.setRow r cur2)∧(∀i0 I0,σ i0=some I0→I0.real=r→Mv B σ (σ.push H.length ⟨r,b,z,es.length,some m⟩) w (w.setRow r cur2)):=by
 have hle:=Sg.le_push (I:=⟨r,b,z,es.length,some m⟩) h.fresh
 have hself:σ.push H.length ⟨r,b,z,es.length,some m⟩ H.length=some ⟨r,b,z,es.length,some m⟩:=by simp [Sg.push]
 have hold: ∀k,k≠H.length→σ.push H.length ⟨r,b,z,es.length,some m⟩ k=σ k:=fun k hk=>by simp [Sg.push,hk]
 have part: ∀(k:Nat) tk mk ek,(H++[Blk.row t Mode.loose es])[k]? =some (Blk.row tk mk ek)→(k=H.length∧tk=t∧mk= .loose∧ek=es)∨(k<H.length∧H[k]? =some (Blk.row tk mk ek)):=by
  intro k tk mk ek hk
  rcases Nat.lt_or_ge k H.length with hlt|hge
  ·rw [List.getElem?_append_left hlt] at hk;exact .inr ⟨hlt,hk⟩
  ·rw [List.getElem?_append_right hge] at hk
   have hk0:k-H.length=0:=by
    rcases Nat.eq_zero_or_pos (k-H.length) with h0|h0
    ·exact h0
    ·rw [List.getElem?_eq_none (by simp;omega)] at hk;cases hk
   rw [hk0] at hk
   obtain ⟨rfl,rfl,rfl⟩:t=tk∧Mode.loose=mk∧es=ek:=by simpa using hk
   exact .inl ⟨by omega,rfl,rfl,rfl⟩
 have partO: ∀(k:Nat) o,(H++[Blk.row t Mode.loose es])[k]? =some (Blk.obj o)→k<H.length∧H[k]? =some (Blk.obj o):=by
  intro k o hk
  rcases Nat.lt_or_ge k H.length with hlt|hge
  ·rw [List.getElem?_append_left hlt] at hk;exact ⟨hlt,hk⟩
  ·rw [List.getElem?_append_right hge] at hk
   cases hk0:k-H.length with
   |zero=>rw [hk0] at hk;simp at hk
   |succ z=>rw [hk0] at hk;simp at hk
 refine ⟨⟨by rw [size_setRow];exact h.base,fun k K hk=> ?_,fun k tk mk ek hk=> ?_,fun k j tk mk ek tj mj ej Ik Ij hk hmk hj hσk hσj hreal=> ?_,fun k o hk=> ?_,fun k j o o' Ik Ij hk hj hσk hσj hreal=> ?_,h.glob.mono hle,fit_push h.fit (by rw [size_setRow];exact hr) (by rw [size_setRow];exact Nat.le_refl _)⟩,fun i0 I0 hi0 hr0=>⟨hle,Below.setRow hB _,fun k hk hn=>heap_setRow_other _ _ _ _ (fun e=>hn i0 I0 hi0 (hr0.trans e.symm)),fun k K hk=>by
  unfold Sg.push at hk
  by_cases hkl:k=H.length
  ·rw [if_pos hkl] at hk;cases hk;exact .inl ⟨i0,I0,hi0,hr0⟩
  ·rw [if_neg hkl] at hk;exact .inl ⟨k,K,hk,rfl⟩⟩⟩
 rotate_right 2
 ·obtain ⟨hlt,hk'⟩:=partO k o hk
  obtain ⟨J,ho,j1,j2,j3,j4,j5⟩:=h.objs k o hk'
  have hne:J.real≠r:=fun e=>by
   rw [e,hcur] at j4
   cases j4
   exact j5.noCells
  exact ⟨J,ho,hle _ _ j1,j2,j3,by rw [heap_setRow_other _ _ _ _ hne];exact j4,j5.mono hle⟩
 ·obtain ⟨hlt,hk'⟩:=partO k o hk
  obtain ⟨hlt2,hj'⟩:=partO j o' hj
  rw [hold k (by omega)] at hσk
  rw [hold j (by omega)] at hσj
  exact h.oinj k j o o' Ik Ij hk' hj' hσk hσj hreal
 ·by_cases hkl:k=H.length
  ·subst hkl;simp
  ·rw [hold k hkl] at hk
   have:=h.dom k K hk
   simp;omega
 ·rcases part k tk mk ek hk with ⟨rfl,rfl,rfl,rfl⟩|⟨hlt,hk'⟩
  ·refine ⟨_,hself,by rw [size_setRow];exact hr,rfl,hz,fun c e j v he hv=> ?_,(by intro h';cases h'),fun _=>⟨hB,(by intro h';cases h'),fun _=>⟨m,rfl,hm,hm63⟩,cur2,setRow_heap _ _ _ _ _ _ hcur,by simp;rw [hs2];exact hs⟩⟩
   obtain ⟨h1,v',h2,h3⟩:=hcell c e j v he hv
   exact ⟨h1,v',by rw [cell?_of_heap (setRow_heap _ _ _ _ _ _ hcur)];exact h2,h3.mono hle⟩
  ·obtain ⟨K,hK⟩:=h.rows k tk mk ek hk'
   have hne:=hno k tk mk ek K hk' hK.here
   refine ⟨K,hle _ _ hK.here,by rw [size_setRow];exact hK.lt,hK.len,hK.esz,fun c e j v he hv=> ?_,hK.old,fun hm'=> ?_⟩
   ·obtain ⟨h1,v',h2,h3⟩:=hK.cell c e j v he hv
    exact ⟨h1,v',by rw [cell?_setRow_other _ _ _ _ hne];exact h2,h3.mono hle⟩
   ·obtain ⟨q1,q3,q4,c,q5,q6⟩:=hK.own hm'
    exact ⟨q1,q3,q4,c,by rw [heap_setRow_other _ _ _ _ hne];exact q5,q6⟩
 ·rcases part k tk mk ek hk with ⟨rfl,_⟩|⟨hlt,hk'⟩<;>rcases part j tj mj ej hj with ⟨rfl,_⟩|⟨hlt',hj'⟩
  ·rfl
  ·rw [hself] at hσk;cases hσk
   rw [hold j (by omega)] at hσj
   exact absurd hreal.symm (hno j tj mj ej Ij hj' hσj)
  ·rw [hself] at hσj;cases hσj
   rw [hold k (by omega)] at hσk
   exact absurd hreal (hno k tk mk ek Ik hk' hσk)
  ·rw [hold k (by omega)] at hσk
   rw [hold j (by omega)] at hσj
   exact h.inj k j tk mk ek tj mj ej Ik Ij hk' hmk hj' hσk hσj hreal
theorem HRel.drew (h:HRel P σ B H w):HRel P σ B H w.drew:=h.heap_eq rfl
theorem grown63 {w:World} {need old:Nat} {e:TypeId} (h:need≤9223372036854775807):grownCap w need old e≤9223372036854775807:=by
 have:=grownCap_le_maxLen w need old e (by unfold maxLen;omega)
 unfold maxLen at this
 omega
theorem grow_push (hH:HRel P σ B H w) {e:TypeId} {z:Nat} {olds news:List (List VV)} {os cs:List Value} (ho:Flat σ z olds os.toArray) (hol:os.length=olds.length*z) (hc:Flat σ z news cs.toArray) (hcl:cs.length=news.length*z) (c:Nat) (hge:olds.length+news.length≤c) (hc63:c≤9223372036854775807) (zc:Array Value) (hzc:zc.size=z):
 ∃σ',Mv B σ σ' w (w.drew.alloc (.cells (os.toArray++cs.toArray++Builtin.zeroCells zc (c-(olds.length+news.length))) e))∧HRel P σ' B (H++[.row e .loose (olds++news)]) (w.drew.alloc (.cells (os.toArray++cs.toArray++Builtin.zeroCells zc (c-(olds.length+news.length))) e))∧
  VRel σ' (.sl (some ⟨H.length,0,0⟩) (olds.length+news.length) (olds.length+news.length)) (.slice (some ⟨w.heap.size,0,none⟩) (olds.length+news.length) c):=by
 have hH':=hH.drew
 have hsz:(os.toArray++cs.toArray++Builtin.zeroCells zc (c-(olds.length+news.length))).size=c*z:=by
  simp only [Array.size_append,List.size_toArray,Builtin.zeroCells,Array.size_map,Array.size_range,hzc,hol,hcl,←Nat.add_mul]
  congr 1;omega
 have hle:=Sg.le_push (I:=⟨w.drew.heap.size,0,z,(olds++news).length,some c⟩) hH'.fresh
 have hesz: ∀x∈olds++news,x.length=z:=fun x hx=>by
  rcases List.mem_append.1 hx with hx|hx
  ·exact ho.esz x hx
  ·exact hc.esz x hx
 have h:=hH'.push e .loose (by simp) (olds++news) (os.toArray++cs.toArray++Builtin.zeroCells zc (c-(olds.length+news.length))) z (some c) hesz (by simpa using hsz) (by simp) (fun _=>⟨c,rfl,by simpa using hge,hc63⟩) (fun k x j u hk hj=>by
  have hjz:j<z:=by rw [←hesz x (List.mem_of_getElem? hk)];exact (List.getElem?_eq_some_iff.1 hj).1
  rcases Nat.lt_or_ge k olds.length with hlt|hge'
  ·rw [List.getElem?_append_left hlt] at hk
   obtain ⟨q0,u',q1,q2⟩:=ho.cell k x j u hk hj
   refine ⟨q0,u',?_,q2.mono hle⟩
   have hlt':k*z+j<os.toArray.size:=(Array.getElem?_eq_some_iff.1 q1).1
   rw [Array.append_assoc,Array.getElem?_append_left hlt']
   exact q1
  ·rw [List.getElem?_append_right hge'] at hk
   obtain ⟨q0,u',q1,q2⟩:=hc.cell _ x j u hk hj
   refine ⟨q0,u',?_,q2.mono hle⟩
   have hlt':(k-olds.length)*z+j<cs.toArray.size:=(Array.getElem?_eq_some_iff.1 q1).1
   have he:k*z+j=os.toArray.size+((k-olds.length)*z+j):=by
    rw [List.size_toArray,hol,←Nat.add_assoc,←Nat.add_mul];congr 2;omega
   rw [Array.append_assoc,he,Array.getElem?_append_right (by omega),Nat.add_sub_cancel_left,Array.getElem?_append_left hlt']
   exact q1)
 refine ⟨_,(Mv.same (Below.refl _ _).drew rfl).trans h.2,h.1,?_⟩
 refine .sl ⟨Nat.le_refl _,.inr (.inl ⟨_,c,by simp [Sg.push];rfl,rfl,rfl,⟨_,by simp [Sg.push];rfl,by simp⟩,by simp,by simp,hge⟩)⟩
theorem eff_app {t u e:TypeId} {d:TypeDesc} {s x:Operand} {s' x':Od} {i:TypeInfo} {z:Value} {c:Call} (ho:o.op= .call c) (hc:c.callee= .builtin .append) (ha:c.args.toList=[s,x]) (hta:c.argTypes.toList=[t,u])
 (ht:P.underlying t=some (.slice e)) (hu:P.underlying u=some d) (hd: ∀k,d≠ .int k) (hi:P.info? e=some i) (hz:i.zero=some z) (hsz:0<i.size) (hby:0<i.bytes) (hzs:z.cells.size=i.size)
 (hs:compOd s=some s') (hx:compOd x=some x') (hH:HRel P σ B H w) (hF:FRel σ N E a) (he:(VEf.app e i.size i.bytes s' x').ev E H.g H.length=some (v,us)):EffOk P σ B (applyU H us) w a o v:=by
 have ha':c.args=#[s,x]:=by cases hh:c.args;rw [hh] at ha;simp at ha;rw [ha]
 have hta':c.argTypes=#[t,u]:=by cases hh:c.argTypes;rw [hh] at hta;simp at hta;rw [hta]
 simp only [VEf.ev] at he
 split at he
 case h_2=>cases he
 rename_i q len cap x1 h1 h2
 have r1:=compOd_ok hs hF h1
 have r2:=compOd_ok hx hF h2
 cases hsrc:srcEls H.g i.size x1 with
 |none=>simp [hsrc] at he
 |some news=>
  rw [hsrc] at he
  simp only at he
  obtain ⟨cs,hS⟩:=src_ok (P:=P) hH hsz r2 hsrc
  have hf0:=hS.first w (Below.refl _ _)
  have exec: ∀{r:Value} {w':World},(Builtin.append_ #[t,u] o.type #[a.eval s,a.eval x]).run P w= .ok r w'→(execOp a.eval o).run P w= .ok (.value r) w':=fun {r w'} h=>by
   simp [execOp,ho,resolve,hc,ha',invoke,builtin,hta',h]
  unfold appV at he
  simp only at he
  split at he
  ·
   rename_i hfit
   split at he
   ·rename_i hn
    simp at he
    obtain ⟨rfl,rfl⟩:=he
    subst hn
    obtain ⟨ad,c',e1⟩:=sl_inv' r1
    have hcs:cs=[]:=List.eq_nil_of_length_eq_zero (by have:=hS.len;simpa using this)
    subst hcs
    have hcc:cap≤c':=by
     rw [e1] at r1
     cases r1 with
     |slNil=>exact Nat.le_refl _
     |sl h=>obtain ⟨_,h⟩:=h;rcases h with ⟨_,h⟩|⟨_,_,_,_,_,_,_,_,h⟩|⟨h,h',_⟩<;>omega
    refine ⟨σ,a.eval s,w,Mv.refl _ _ _,hH,r1,.inl (exec ?_)⟩
    rw [e1]
    have:=run_app_room (P:=P) (w:=w) (ty:=o.type) (base:=ad) (len:=len) (cap:=c') ht hu hd hi (hS.lenOf w) hf0 (by simp at hfit ⊢;omega) (w':=w) (fun _ _=>by simp [storeCells]) (fun _=>rfl)
    simpa using this
   ·rename_i hn
    have hnl:0<news.length:=List.length_pos_iff.2 hn
    cases q with
    |none=>cases he
    |some p=>
     simp only at he
     split at he
     case h_2=>cases he
     rename_i t' md ee es hb
     split at he
     case isFalse=>cases he
     rename_i hcond
     obtain ⟨hmd,hoff,hez,hin⟩:=hcond
     simp at he
     obtain ⟨rfl,rfl⟩:=he
     obtain ⟨ad,c',e1,hsl⟩:=sl_inv r1
     have hsl0:=hsl
     obtain ⟨hlc,hsl⟩:=hsl
     have hcc:cap≤c':=by rcases hsl with ⟨_,h⟩|⟨_,_,_,_,_,_,_,_,h⟩|⟨h,h',_⟩<;>omega
     have hplace:σ.place p ad:=by
      rcases hsl with ⟨h,_⟩|⟨_,_,_,_,_,h,_⟩|⟨h,_⟩
      ·exact h
      ·exact h
      ·omega
     obtain ⟨I,hR⟩:=hH.rows _ _ _ _ hb
     obtain ⟨J,hJ,had⟩:=hplace
     have eI:I=J:=Option.some.inj (hR.here.symm.trans hJ)
     subst eI
     have hIz:I.esz=i.size:=by rw [←hez];exact (hR.esz ee (by simp)).symm
     obtain ⟨hB,_,hlo,cur,hcur,hcsz⟩:=hR.own hmd
     have hroom:I.n≤I.room.getD I.n:=by
      cases md with
      |ro=>exact absurd rfl hmd
      |own=>have:=((hR.own hmd).2.1 rfl).1;simp [this]
      |loose=>obtain ⟨m,hm,hle,_⟩:=hlo rfl;simp [hm];exact hle
     have hIn:I.n=es.length+1:=by rw [←hR.len];simp
     have hcl:cs.length=news.length*I.esz:=by rw [hIz];exact hS.len
     have hend:I.base+(p.idx+len)*I.esz+cs.length≤cur.size:=by
      rw [hcsz,hcl,Nat.add_assoc,←Nat.add_mul]
      have:(p.idx+len+news.length)*I.esz≤I.room.getD I.n*I.esz:=Nat.mul_le_mul_right _ (by omega)
      omega
     have hst:=run_storeCells_at P I.real (I.base+(p.idx+len)*I.esz) t' cs 0 cur w hcur (by omega) hS.one
     simp only [Nat.add_zero] at hst
     obtain ⟨g1,g2⟩:=splice_get cur (I.base+(p.idx+len)*I.esz) cs hend
     obtain ⟨u1,u2⟩:=updRows_get news (ee::es) (p.idx+len) (by simp;omega)
     have hset:=hH.store hb hmd hJ hcur g1 (es2:=updRows (ee::es) (p.idx+len) news) u1 (fun x hx=>by
      obtain ⟨k,hk⟩:=List.getElem?_of_mem hx
      rw [u2] at hk
      split at hk
      ·rw [hIz];exact hS.flat.esz x (List.mem_of_getElem? hk)
      ·exact hR.esz x (List.mem_of_getElem? hk)) (fun k x j u' hk hj=>by
      rw [g2]
      rw [u2] at hk
      have hjz:j<I.esz:=by
       split at hk
       ·rw [hIz,←hS.flat.esz x (List.mem_of_getElem? hk)];exact (List.getElem?_eq_some_iff.1 hj).1
       ·rw [←hR.esz x (List.mem_of_getElem? hk)];exact (List.getElem?_eq_some_iff.1 hj).1
      split at hk
      ·rename_i hkr
       obtain ⟨q0,u'',q1,q2⟩:=hS.flat.cell _ x j u' hk hj
       refine ⟨q0,u'',?_,q2⟩
       have hlt:(k-(p.idx+len))*i.size+j<cs.length:=by simpa using (Array.getElem?_eq_some_iff.1 q1).1
       have he:I.base+k*I.esz+j=I.base+(p.idx+len)*I.esz+((k-(p.idx+len))*i.size+j):=by
        rw [←hIz,Nat.add_assoc,Nat.add_assoc,←Nat.add_assoc ((p.idx+len)*I.esz),←Nat.add_mul];congr 3;omega
       rw [he,if_pos (by omega),Nat.add_sub_cancel_left]
       simpa using q1
      ·rename_i hkr
       obtain ⟨q0,u'',q1,q2⟩:=hR.cell k x j u' hk hj
       refine ⟨q0,u'',?_,q2⟩
       rw [cell?_of_heap hcur] at q1
       rw [if_neg ?_]
       ·exact q1
       ·rw [hcl]
        intro ⟨c1,c2⟩
        rcases Nat.lt_or_ge k (p.idx+len) with h'|h'
        ·have:(k+1)*I.esz≤(p.idx+len)*I.esz:=Nat.mul_le_mul_right _ h'
         rw [Nat.add_mul] at this;omega
        ·have:(p.idx+len+news.length)*I.esz≤k*I.esz:=Nat.mul_le_mul_right _ (by omega)
         rw [Nat.add_mul (p.idx+len)] at this;omega)
     have hval:VRel σ (.sl (some p) (len+news.length) cap) (.slice (some ad) (len+news.length) c'):= .sl ⟨hfit,hsl⟩
     rw [applyU_set (List.getElem?_eq_some_iff.1 hb).1]
     refine ⟨σ,_,_,hset.2,hset.1,hval,.inl (exec ?_)⟩
     rw [e1]
     refine run_app_room (P:=P) (w:=w) (ty:=o.type) (base:=some ad) (len:=len) (cap:=c') ht hu hd hi (hS.lenOf w) hf0 (by omega) (fun ad' hadq=> ?_) (by simp)
     simp at hadq;subst hadq
     have hadd:ad.add (len*i.size)=⟨I.real,I.base+(p.idx+len)*I.esz,none⟩:=by
      rw [had,hoff,hIz]
      unfold Addr.add
      split
      ·rename_i h0;simp [Nat.add_mul,h0]
      ·simp [Nat.add_mul,Nat.add_assoc]
     rw [hadd];exact hst
  ·
   rename_i hfit
   split at he
   case isFalse=>cases he
   rename_i hbig
   obtain ⟨hb47,hn62⟩:=hbig
   cases q with
   |none=>
    simp at he
    obtain ⟨rfl,rfl⟩:=he
    have e0:len=0∧cap=0∧a.eval s= .slice none 0 0:=by
     generalize a.eval s=y at r1
     cases r1;exact ⟨rfl,rfl,rfl⟩
    obtain ⟨rfl,rfl,e1⟩:=e0
    have hge:=grownCap_ge w (0+news.length) 0 e
    rw [applyU_push]
    obtain ⟨σ',q1,q2,q3⟩:=grow_push hH (e:=e) (olds:=[]) (os:=[]) (flat_nil i.size) (by simp) hS.flat hS.len (grownCap w (0+news.length) 0 e) (by simpa using hge) (grown63 (by omega)) z.cells hzs
    simp only [List.nil_append,List.length_nil] at q1 q2 q3
    refine ⟨σ',_,_,q1,q2,by simpa using q3,.inl (exec ?_)⟩
    rw [e1]
    have:=run_app_grow (P:=P) (w:=w) (ty:=o.type) (base:=none) (len:=0) (cap:=0) (os:=[]) ht hu hd hi hz (hS.lenOf w) hS.first (fun w2 _=>by simp [Builtin.firstCells]) (by omega) hn62 hb47 hby
    simpa using this
   |some p=>
    simp only at he
    split at he
    case h_2=>cases he
    rename_i t' md es olds hb hsold
    obtain ⟨ad,c',e1,hsl⟩:=sl_inv r1
    obtain ⟨cso,hO⟩:=src_ok (P:=P) hH hsz r1 hsold
    have hol:olds.length=len:=by
     have h3:=hO.lenOf w
     rw [e1] at h3
     simpa [Builtin.lenOf] using h3.symm
    obtain ⟨I,hR⟩:=hH.rows _ _ _ _ hb
    have grow:c'<len+news.length→ ∀K:Hp,HRel P σ B K w→EffOk P σ B (K++[.row e .loose (olds++news)]) w a o (.sl (some ⟨K.length,0,0⟩) (len+news.length) (len+news.length)):=by
     intro hlt K hK
     have hge:=grownCap_ge w (len+news.length) c' e
     obtain ⟨σ',q1,q2,q3⟩:=grow_push hK (e:=e) hO.flat hO.len hS.flat hS.len (grownCap w (len+news.length) c' e) (by omega) (grown63 (by omega)) z.cells hzs
     rw [hol] at q1 q2 q3
     refine ⟨σ',_,_,q1,q2,q3,.inl (exec ?_)⟩
     rw [e1]
     have hfo: ∀w2,Below w.heap.size w w2→(Builtin.firstCells i.size len (.slice (some ad) len c')).run P w2= .ok cso.toArray w2:=fun w2 hw2=>by
      have:=hO.first w2 hw2
      rwa [hol,e1] at this
     exact run_app_grow (P:=P) (w:=w) (ty:=o.type) (base:=some ad) (len:=len) (cap:=c') (os:=cso) ht hu hd hi hz (hS.lenOf w) hS.first hfo hlt hn62 hb47 hby
    split at he
    ·rename_i hmd
     subst hmd
     split at he
     case isFalse=>cases he
     rename_i hcond
     obtain ⟨rfl,hoff,hhead⟩:=hcond
     simp at he
     obtain ⟨rfl,rfl⟩:=he
     have hil:p.blk<H.length:=(List.getElem?_eq_some_iff.1 hb).1
     have happ:applyU H [(p.blk,Blk.dead),(H.length,Blk.row t' .loose (olds++news))]=H.set p.blk .dead++[Blk.row t' .loose (olds++news)]:=by
      simp [applyU,hil]
     rw [happ]
     have hkill:=hH.kill p.blk
     rcases Nat.lt_or_ge c' (len+news.length) with hlt|hge
     ·have:=grow hlt _ hkill
      rwa [List.length_set] at this
     ·
      obtain ⟨hlc,hsl⟩:=hsl
      obtain ⟨J,m,hJ,hm,_,hplace,hend,hroom,hcc⟩: ∃J m,σ p.blk=some J∧J.room=some m∧p.off=0∧σ.place p ad∧p.idx+cap=J.n∧p.idx+c'=m∧cap≤c':=by
       rcases hsl with ⟨_,h⟩|h|⟨_,h⟩
       ·omega
       ·exact h
       ·omega
      have eI:I=J:=Option.some.inj (hR.here.symm.trans hJ)
      subst eI
      obtain ⟨J',hJ',had⟩:=hplace
      have eI:I=J':=Option.some.inj (hR.here.symm.trans hJ')
      subst eI
      obtain ⟨hB,_,hlo3,cur,hcur,hcsz⟩:=hR.own (by simp)
      obtain ⟨m2,hm2,_,hm63⟩:=hlo3 rfl
      have em2:m2=m:=Option.some.inj (hm2.symm.trans hm)
      have hIz:I.esz=i.size:=by
       cases hes:es with
       |nil=>rw [hes] at hhead;simp at hhead
       |cons e0 es0=>
        rw [hes] at hhead
        simp at hhead
        rw [←hhead];exact (hR.esz e0 (by rw [hes];simp)).symm
      have hcl:cs.length=news.length*i.size:=hS.len
      have hstart:I.base+p.idx*i.size+len*i.size+cs.length≤cur.size:=by
       rw [hcsz,hm,hIz,hcl]
       simp only [Option.getD_some]
       have:(p.idx+len+news.length)*i.size≤m*i.size:=Nat.mul_le_mul_right _ (by omega)
       rw [Nat.add_mul,Nat.add_mul] at this
       omega
      have hst:=run_storeCells_at P I.real (I.base+p.idx*i.size+len*i.size) t' cs 0 cur w hcur (by omega) hS.one
      simp only [Nat.add_zero] at hst
      obtain ⟨g1,g2⟩:=splice_get cur (I.base+p.idx*i.size+len*i.size) cs hstart
      have hno: ∀(j:Nat) tj mj ej Ij,(H.set p.blk .dead)[j]? =some (Blk.row tj mj ej)→σ j=some Ij→Ij.real≠I.real:=by
       intro j tj mj ej Ij hj hσj hreal
       by_cases hjp:j=p.blk
       ·subst hjp
        rw [List.getElem?_set_self (List.getElem?_eq_some_iff.1 hb).1] at hj;cases hj
       ·rw [List.getElem?_set_ne (Ne.symm hjp)] at hj
        exact hjp (hH.inj p.blk j _ _ _ _ _ _ I Ij hb (by simp) hj hR.here hσj hreal.symm).symm
      have hagain:=hkill.again I.real hB hR.lt hno t' (olds++news) hcur g1 (I.base+p.idx*i.size) i.size c' (fun x hx=>by
       rcases List.mem_append.1 hx with hx|hx
       ·exact hO.flat.esz x hx
       ·exact hS.flat.esz x hx) (by rw [hcsz,hm,hIz];simp only [Option.getD_some];rw [←hroom,Nat.add_mul];omega) (by simp;omega) (by omega) (fun k x j u' hk hj=>by
       rw [g2]
       rcases Nat.lt_or_ge k olds.length with hlt|hge'
       ·rw [List.getElem?_append_left hlt] at hk
        obtain ⟨q0,u'',q1,q2⟩:=hO.flat.cell k x j u' hk hj
        refine ⟨q0,u'',?_,q2⟩
        have hjz:j<i.size:=by rw [←hO.flat.esz x (List.mem_of_getElem? hk)];exact (List.getElem?_eq_some_iff.1 hj).1
        have hkl:k*i.size+j<len*i.size:=by
         have:(k+1)*i.size≤len*i.size:=Nat.mul_le_mul_right _ (by omega)
         rw [Nat.add_mul] at this;omega
        rw [if_neg (by omega)]
        have h6:=hO.here ad len c' e1 (k*i.size+j) u'' (by simpa using q1)
        have hadd:ad.add (k*i.size+j)=⟨I.real,I.base+p.idx*i.size+k*i.size+j,none⟩:=by
         rw [had,hoff,hIz]
         unfold Addr.add
         split
         ·rename_i h0;simp;omega
         ·simp [Nat.add_assoc]
        rw [hadd,cell?_of_heap hcur] at h6
        exact h6
       ·rw [List.getElem?_append_right hge'] at hk
        obtain ⟨q0,u'',q1,q2⟩:=hS.flat.cell _ x j u' hk hj
        refine ⟨q0,u'',?_,q2⟩
        have hlt:(k-olds.length)*i.size+j<cs.length:=by simpa using (Array.getElem?_eq_some_iff.1 q1).1
        have he:I.base+p.idx*i.size+k*i.size+j=I.base+p.idx*i.size+len*i.size+((k-olds.length)*i.size+j):=by
         have:k*i.size=len*i.size+(k-olds.length)*i.size:=by rw [←Nat.add_mul];congr 1;omega
         omega
        rw [he,if_pos (by omega),Nat.add_sub_cancel_left]
        simpa using q1)
      rw [List.length_set] at hagain
      have hle:=Sg.le_push (I:=⟨I.real,I.base+p.idx*i.size,i.size,(olds++news).length,some c'⟩) (by have:=hkill.fresh;rwa [List.length_set] at this)
      refine ⟨_,.slice (some ad) (len+news.length) c',_,hagain.2 _ _ hR.here rfl,hagain.1,?_,.inl (exec ?_)⟩
      ·refine .sl ⟨Nat.le_refl _,.inr (.inl ⟨_,c',by simp [Sg.push];rfl,rfl,rfl,⟨_,by simp [Sg.push];rfl,?_⟩,by simp;omega,by simp,hge⟩)⟩
       rw [had,hoff,hIz];simp
      ·rw [e1]
       refine run_app_room (P:=P) (w:=w) (ty:=o.type) (base:=some ad) (len:=len) (cap:=c') ht hu hd hi (hS.lenOf w) hf0 hge (fun ad' h'=> ?_) (by simp)
       simp at h';subst h'
       have hadd:ad.add (len*i.size)=⟨I.real,I.base+p.idx*i.size+len*i.size,none⟩:=by
        rw [had,hoff,hIz]
        unfold Addr.add
        split
        ·rename_i h0;simp [h0]
        ·simp
       rw [hadd];exact hst
    ·rename_i hmd
     simp at he
     obtain ⟨rfl,rfl⟩:=he
     have hc':c'<len+news.length:=by
      obtain ⟨hlc,hsl⟩:=hsl
      rcases hsl with ⟨_,h⟩|⟨J,m,hJ,hm,_⟩|⟨_,h⟩
      ·omega
      ·have eI:I=J:=Option.some.inj (hR.here.symm.trans hJ)
       subst eI
       cases md with
       |ro=>have:=(hR.old rfl).2;rw [this] at hm;cases hm
       |own=>have:=((hR.own (by simp)).2.1 rfl).1;rw [this] at hm;cases hm
       |loose=>exact absurd rfl hmd
      ·omega
     rw [applyU_push]
     exact grow hc' H hH
end
end Go.Wm
end
section
namespace Go.Wm
set_option linter.unusedSimpArgs false
set_option linter.unusedVariables false
open Go.RowKit
section
variable {P:Program} {σ:Sg} {B N:Nat} {H:Hp} {us:Up} {w:World} {a:Act} {E:Fr} {o:Oper} {v:VV}
theorem HRel.elsewhere (h:HRel P σ B H w) (r:Nat) {w':World} (hsz:w'.heap.size=w.heap.size) (hold: ∀j,j≠r→w'.heap[j]? =w.heap[j]?)
 (hr: ∀(j:Nat) tj mj ej Ij,H[j]? =some (Blk.row tj mj ej)→σ j=some Ij→Ij.real≠r) (ho: ∀(j:Nat) oj Ij,H[j]? =some (Blk.obj oj)→σ j=some Ij→Ij.real≠r):HRel P σ B H w':=by
 have cellq: ∀a:Addr,a.block≠r→w'.cell? a=w.cell? a:=fun a ha=>by simp only [World.cell?,hold _ ha]
 refine ⟨by rw [hsz];exact h.base,h.dom,fun k tk mk ek hk=> ?_,h.inj,fun k o hk=> ?_,h.oinj,h.glob,by rw [hsz];exact h.fit⟩
 ·obtain ⟨K,hK⟩:=h.rows k tk mk ek hk
  have hne:=hr k tk mk ek K hk hK.here
  refine ⟨K,hK.here,by rw [hsz];exact hK.lt,hK.len,hK.esz,fun a e j v he hv=> ?_,hK.old,fun hm=> ?_⟩
  ·obtain ⟨h1,v',h2,h3⟩:=hK.cell a e j v he hv
   exact ⟨h1,v',by rw [cellq _ hne];exact h2,h3⟩
  ·obtain ⟨q1,q3,q4,c,q5,q6⟩:=hK.own hm
   exact ⟨q1,q3,q4,c,by rw [hold _ hne];exact q5,q6⟩
 ·obtain ⟨J,ho',j1,j2,j3,j4,j5⟩:=h.objs k o hk
  exact ⟨J,ho',j1,j2,j3,by rw [hold _ (ho k o J hk j1)];exact j4,j5⟩
theorem eff_ment {t kt et:TypeId} {x k:Operand} {x' k':Od} {kk:KK} {z:VV} (ho:o.op= .mapEntry t x k) (ht:P.underlying t=some (.map kt et)) (hx:compOd x=some x') (hk:compOd k=some k') (hkk:keyKind P kt=some kk) (hz:zeroVV P et=some z)
 (hH:HRel P σ B H w) (hF:FRel σ N E a) (he:(VEf.ment kk z x' k').ev E H.g H.length=some (v,us)):EffOk P σ B (applyU H us) w a o v:=by
 simp only [VEf.ev] at he
 cases h1:x'.ev E with
 |none=>simp [h1] at he
 |some u=>
  cases h2:k'.ev E with
  |none=>simp [h1,h2] at he
  |some kv=>
   have r1:=compOd_ok hx hF h1
   have r2:=compOd_ok hk hF h2
   cases u<;>simp [h1,h2] at he
   rename_i p
   cases p with
   |none=>simp at he
   |some b=>
    simp only at he
    split at he
    case isFalse=>cases he
    rename_i hki
    split at he
    case h_2=>cases he
    rename_i es hb
    rcases map_inv r1 with ⟨hc,_⟩|⟨b',I,hc,hI,e1⟩
    ·cases hc
    ·cases hc
     obtain ⟨hB,hlt,cur,hc,hent,hborn⟩:=obj_at hH hb hI
     obtain ⟨kr1,kr2,kr3⟩:=key_run hkk hki r2
     obtain ⟨zu,hz1,hz2⟩:=zeroVV_run (σ:=σ) hz
     have hil:b<H.length:=(List.getElem?_eq_some_iff.1 hb).1
     have hcs:cur.size=es.length:=by have:=hent.1;simpa using this.symm
     cases hf:findV kk kv es 0 with
     |none=>simp [hf] at he
     |some r=>
      obtain ⟨r',q1,q2⟩:=kr3 hent hf
      rcases q2 with ⟨rfl,rfl⟩|⟨j,y0,y0',rfl,rfl,a3,e,e',b1,b2,b3,b6⟩
      ·simp [hf] at he
       obtain ⟨rfl,rfl⟩:=he
       rw [applyU_set hil]
       have hrel:ObRel P σ (.map (es++[(kv,z)])) (.map (cur.push {key:=a.eval k,val:=zu,born:=es.length}) (es.length+1)):=by
        refine ⟨by simp,by simp [hcs],fun z' e he=> ?_⟩
        by_cases hz':z'<es.length
        ·rw [List.getElem?_append_left hz'] at he
         obtain ⟨e',f1,f2,f3⟩:=hent.2 z' e he
         rw [Array.getElem?_toList] at f1
         exact ⟨e',by rw [Array.getElem?_push_lt (by omega)];rw [Array.getElem?_eq_getElem (by omega)] at f1;exact f1,hborn z' e' f1,f2,f3⟩
        ·rw [List.getElem?_append_right (by omega)] at he
         have hz0:z'=es.length:=by
          have:=(List.getElem?_eq_some_iff.1 he).1
          simp at this;omega
         subst hz0
         simp at he;subst he
         exact ⟨{key:=a.eval k,val:=zu,born:=es.length},by have:=Array.getElem?_push_size (xs:=cur) (x:=({key:=a.eval k,val:=zu,born:=es.length}:MapEntry));rw [hcs] at this;exact this,rfl,r2,hz1⟩
       refine ⟨σ,.tuple #[zu,.int .i64 es.length],{w with heap:=w.heap.setIfInBounds I.real (.map (cur.push {key:=a.eval k,val:=zu,born:=es.length}) (es.length+1))},Mv.set hI (Below.putObj hB _) (fun z hz=>by rw [Array.getElem?_setIfInBounds_ne (Ne.symm hz)]),hH.setObj hb hI (by simp) (by simp [hlt]) (fun z hz=>by rw [Array.getElem?_setIfInBounds_ne (Ne.symm hz)]) rfl hrel (Below.putObj hB _),.tup (.cons hz1 (.cons (.int _ _) .nil)),.inl ?_⟩
       simp [execOp,ho,Instr.mapEntry,run_underlying ht,e1,MapKept.run_getObj_map hc,kr1,q1,hz2,MapKept.run_setObj_map _ hc,Result.andThen,goInt]
      ·simp [hf] at he
       obtain ⟨rfl,rfl⟩:=he
       rw [applyU_set hil]
       have hjl:j<es.length:=(List.getElem?_eq_some_iff.1 b1).1
       rw [Array.getElem?_toList] at b2
       subst b3
       have hrel:ObRel P σ (.map (es.set j (kv,e.2))) (.map (cur.modify j fun e=>{e with key:=a.eval k}) es.length):=by
        refine ⟨by simp,by simp [hcs],fun z' e2 he=> ?_⟩
        by_cases hz':z'=j
        ·subst hz'
         rw [List.getElem?_set_self hjl] at he
         cases he
         obtain ⟨e3,f1,f2,f3⟩:=hent.2 z' e b1
         rw [Array.getElem?_toList,b2] at f1
         cases f1
         exact ⟨{e' with key:=a.eval k},by rw [Array.getElem?_modify,if_pos rfl,b2];rfl,hborn z' e' b2,r2,f3⟩
        ·rw [List.getElem?_set_ne (Ne.symm hz')] at he
         obtain ⟨e3,f1,f2,f3⟩:=hent.2 z' e2 he
         rw [Array.getElem?_toList] at f1
         exact ⟨e3,by rw [Array.getElem?_modify,if_neg (fun e=>hz' e.symm)];exact f1,hborn z' e3 f1,f2,f3⟩
       refine ⟨σ,.tuple #[y0',.int .i64 j],{w with heap:=w.heap.setIfInBounds I.real (.map (cur.modify j fun e=>{e with key:=a.eval k}) es.length)},Mv.set hI (Below.putObj hB _) (fun z hz=>by rw [Array.getElem?_setIfInBounds_ne (Ne.symm hz)]),hH.setObj hb hI (by simp) (by simp [hlt]) (fun z hz=>by rw [Array.getElem?_setIfInBounds_ne (Ne.symm hz)]) rfl hrel (Below.putObj hB _),.tup (.cons a3 (.cons (.int _ _) .nil)),.inl ?_⟩
       have hst:=kr2 w
       have hbj:=hborn j e' b2
       simp [execOp,ho,Instr.mapEntry,run_underlying ht,e1,MapKept.run_getObj_map hc,kr1,q1,MapKept.run_setObj_map _ hc,Result.andThen,b2,b6,hst,hbj,goInt]
theorem eff_mput {t:TypeId} {x s y:Operand} {x' s' y':Od} (ho:o.op= .entryStore t x s y) (hx:compOd x=some x') (hs:compOd s=some s') (hy:compOd y=some y')
 (hH:HRel P σ B H w) (hF:FRel σ N E a) (he:(VEf.mput x' s' y').ev E H.g H.length=some (v,us)):EffOk P σ B (applyU H us) w a o v:=by
 simp only [VEf.ev] at he
 split at he
 case h_2=>cases he
 rename_i b k i u h1 h2 h3
 have r1:=compOd_ok hx hF h1
 have r2:=compOd_ok hs hF h2
 have r3:=compOd_ok hy hF h3
 have e2:=int_inv r2
 split at he
 case h_2=>cases he
 rename_i es hb
 split at he
 case isFalse=>cases he
 rename_i hi0
 split at he
 case h_2=>cases he
 rename_i e hes
 simp at he
 obtain ⟨rfl,rfl⟩:=he
 rcases map_inv r1 with ⟨hc,_⟩|⟨b',I,hc,hI,e1⟩
 ·cases hc
 ·cases hc
  obtain ⟨hB,hlt,cur,hc,hent,hborn⟩:=obj_at hH hb hI
  have hil:b<H.length:=(List.getElem?_eq_some_iff.1 hb).1
  have hcs:cur.size=es.length:=by have:=hent.1;simpa using this.symm
  rw [applyU_set hil]
  have hil2:i.toNat<es.length:=(List.getElem?_eq_some_iff.1 hes).1
  obtain ⟨e',f1,f2,f3⟩:=hent.2 _ e hes
  rw [Array.getElem?_toList] at f1
  have hrel:ObRel P σ (.map (es.set i.toNat (e.1,u))) (.map (cur.modify i.toNat fun e=>{e with val:=a.eval y}) es.length):=by
   refine ⟨by simp,by simp [hcs],fun z' e2 he=> ?_⟩
   by_cases hz':z'=i.toNat
   ·subst hz'
    rw [List.getElem?_set_self hil2] at he
    cases he
    exact ⟨{e' with val:=a.eval y},by rw [Array.getElem?_modify,if_pos rfl,f1];rfl,hborn _ e' f1,f2,r3⟩
   ·rw [List.getElem?_set_ne (Ne.symm hz')] at he
    obtain ⟨e3,g1,g2,g3⟩:=hent.2 z' e2 he
    rw [Array.getElem?_toList] at g1
    exact ⟨e3,by rw [Array.getElem?_modify,if_neg (fun e=>hz' e.symm)];exact g1,hborn z' e3 g1,g2,g3⟩
  refine ⟨σ,undef,{w with heap:=w.heap.setIfInBounds I.real (.map (cur.modify i.toNat fun e=>{e with val:=a.eval y}) es.length)},Mv.set hI (Below.putObj hB _) (fun z hz=>by rw [Array.getElem?_setIfInBounds_ne (Ne.symm hz)]),hH.setObj hb hI (by simp) (by simp [hlt]) (fun z hz=>by rw [Array.getElem?_setIfInBounds_ne (Ne.symm hz)]) rfl hrel (Below.putObj hB _),.undef _,.inr ⟨?_,rfl⟩⟩
  have hfind:cur.findIdx? (fun e=>(e.born:Int)==i)=some i.toNat:=by
   rw [Array.findIdx?_eq_some_iff_getElem]
   refine ⟨by omega,?_,fun j hj=> ?_⟩
   ·have:=hborn i.toNat cur[i.toNat] (Array.getElem?_eq_getElem (by omega))
    rw [this];simp;omega
   ·have:=hborn j cur[j] (Array.getElem?_eq_getElem (by omega))
    rw [this];simp;omega
  simp [execOp,ho,Instr.entryStore,e1,e2,MapKept.run_getObj_map hc,asInt,asIntOf,hfind,MapKept.run_setObj_map _ hc,Result.andThen]
theorem eff_srng {t:TypeId} {x:Operand} {x':Od} (ho:o.op= .range t x) (ht:P.underlying t=some .string) (hx:compOd x=some x') (hH:HRel P σ B H w) (hF:FRel σ N E a) (he:(VEf.srng x').ev E H.g H.length=some (v,us)):EffOk P σ B (applyU H us) w a o v:=by
 simp only [VEf.ev] at he
 cases h1:x'.ev E with
 |none=>simp [h1] at he
 |some u=>
  have r1:=compOd_ok hx hF h1
  cases u<;>simp [h1] at he
  rename_i s
  obtain ⟨rfl,rfl⟩:=he
  have e1:=str_inv r1
  obtain ⟨q1,q2⟩:=hH.pushObj (.siter s 0) (.stringIter ⟨s.toArray⟩ 0) (by intro cur t fr h;cases h) (fun τ hτ=>⟨rfl,rfl⟩)
  rw [applyU_push]
  refine ⟨_,.pointer (some ⟨w.heap.size,0,none⟩),_,q2,q1,?_,.inl ?_⟩
  ·exact .ptr ⟨⟨w.heap.size,0,0,0,none⟩,by simp [Sg.push],by simp⟩
  ·simp [execOp,ho,e1,Instr.range,run_underlying ht,newObj,Sem.run,Result.andThen]
theorem eff_snext {x:Operand} {x':Od} (ho:o.op= .next x true) (hx:compOd x=some x') (hH:HRel P σ B H w) (hF:FRel σ N E a) (he:(VEf.snext x').ev E H.g H.length=some (v,us)):EffOk P σ B (applyU H us) w a o v:=by
 simp only [VEf.ev] at he
 split at he
 case h_2=>cases he
 rename_i p h1
 have r1:=compOd_ok hx hF h1
 obtain ⟨ad,e1,J,hJ,had⟩:=ptr_inv r1
 split at he
 case h_2=>cases he
 rename_i s pos hb
 split at he
 case isFalse=>cases he
 rename_i hp
 obtain ⟨hp1,hp2⟩:=hp
 obtain ⟨I,hob,i1,i2,i3,i4,i5⟩:=hH.objs _ _ hb
 have:I=J:=Option.some.inj (i1.symm.trans hJ)
 subst this
 cases hob<;>simp only [ObRel] at i5
 rename_i t q
 obtain ⟨h5,rfl⟩:=i5
 have had0:ad=⟨I.real,0,none⟩:=by rw [had,i3,hp1,hp2];simp
 have hlt:I.real<w.heap.size:=(Array.getElem?_eq_some_iff.1 i4).1
 have hb:H[p.blk]? =_:=hb
 have hil:p.blk<H.length:=(List.getElem?_eq_some_iff.1 hb).1
 have hts:t.size=s.length:=by rw [←h5];rfl
 split at he
 ·rename_i c hc
  split at he
  case isFalse=>
   simp at he
   obtain ⟨rfl,rfl⟩:=he
   rw [applyU_set hil]
   have hpos:q<s.length:=(List.getElem?_eq_some_iff.1 hc).1
   have ht:(⟨s.toArray⟩:ByteArray)=t:=by rw [←h5]
   rw [ht]
   generalize hdec:Utf8.decode t q=dd
   obtain ⟨d1,d2⟩:=dd
   refine ⟨σ,.tuple #[.bool true,.int .i64 q,.int .i32 d1],{w with heap:=w.heap.setIfInBounds I.real (.stringIter t (q+d2))},Mv.set i1 (Below.putObj i2 _) (fun z hz=>by rw [Array.getElem?_setIfInBounds_ne (Ne.symm hz)]),hH.setObj (o':= .siter s (q+d2)) (ho:= .stringIter t (q+d2)) hb i1 (by simp) (by simp [hlt]) (fun z hz=>by rw [Array.getElem?_setIfInBounds_ne (Ne.symm hz)]) rfl ⟨h5,rfl⟩ (Below.putObj i2 _),.tup (.cons (.bool _) (.cons (.int _ _) (.cons (.int _ _) .nil))),.inl ?_⟩
   have hq:q<t.size:=by rw [hts];exact hpos
   simp [execOp,ho,e1,had0,Instr.next,getObj,Sem.run,i4,hq,hdec,setObj,Result.andThen,goInt]
  rename_i hc128
  simp at he
  obtain ⟨rfl,rfl⟩:=he
  rw [applyU_set hil]
  have hpos:q<s.length:=(List.getElem?_eq_some_iff.1 hc).1
  have hdec:Utf8.decode t q=(c.toNat,1):=by
   have hg:t.get! (q+0)=c:=by
    have hq:q<t.size:=by rw [hts];exact hpos
    have h6:t.data.toList[q]? =some c:=by rw [h5];exact hc
    simp only [Nat.add_zero]
    show t.data[q]! =c
    have hq':q<t.data.size:=hq
    rw [getElem!_pos t.data q hq']
    rw [Array.getElem?_toList] at h6
    rw [Array.getElem?_eq_getElem hq'] at h6
    exact Option.some.inj h6
   rw [Nat.add_zero] at hg
   simp [Utf8.decode,hg,hc128]
  refine ⟨σ,.tuple #[.bool true,.int .i64 q,.int .i32 c.toNat],{w with heap:=w.heap.setIfInBounds I.real (.stringIter t (q+1))},Mv.set i1 (Below.putObj i2 _) (fun z hz=>by rw [Array.getElem?_setIfInBounds_ne (Ne.symm hz)]),hH.setObj (o':= .siter s (q+1)) (ho:= .stringIter t (q+1)) hb i1 (by simp) (by simp [hlt]) (fun z hz=>by rw [Array.getElem?_setIfInBounds_ne (Ne.symm hz)]) rfl ⟨h5,rfl⟩ (Below.putObj i2 _),.tup (.cons (.bool _) (.cons (.int _ _) (.cons (.int _ _) .nil))),.inl ?_⟩
  have hq:q<t.size:=by rw [hts];exact hpos
  simp [execOp,ho,e1,had0,Instr.next,getObj,Sem.run,i4,hq,hdec,setObj,Result.andThen,goInt]
 ·rename_i hc
  simp at he
  obtain ⟨rfl,rfl⟩:=he
  have hq: ¬q<t.size:=by rw [hts];intro h;rw [List.getElem?_eq_getElem h] at hc;cases hc
  refine ⟨σ,.tuple #[.bool false],w,Mv.refl _ _ _,hH,.tup (.cons (.bool _) .nil),.inl ?_⟩
  simp [execOp,ho,e1,had0,Instr.next,getObj,Sem.run,i4,hq,Result.andThen]
theorem eff_copy {t u e:TypeId} {s x:Operand} {s' x':Od} {i:TypeInfo} {c:Call} (ho:o.op= .call c) (hc:c.callee= .builtin .copy) (ha:c.args.toList=[s,x]) (hta:c.argTypes.toList=[t,u])
 (ht:P.underlying t=some (.slice e)) (hi:P.info? e=some i) (hsz:0<i.size)
 (hs:compOd s=some s') (hx:compOd x=some x') (hH:HRel P σ B H w) (hF:FRel σ N E a) (he:(VEf.copy i.size s' x').ev E H.g H.length=some (v,us)):EffOk P σ B (applyU H us) w a o v:=by
 have ha':c.args=#[s,x]:=by cases hh:c.args;rw [hh] at ha;simp at ha;rw [ha]
 have hta':c.argTypes=#[t,u]:=by cases hh:c.argTypes;rw [hh] at hta;simp at hta;rw [hta]
 simp only [VEf.ev] at he
 split at he
 case h_2=>cases he
 rename_i q len cap x1 h1 h2
 have r1:=compOd_ok hs hF h1
 have r2:=compOd_ok hx hF h2
 cases hsrc:srcEls H.g i.size x1 with
 |none=>simp [hsrc] at he
 |some els=>
  simp only [hsrc] at he
  split at he
  case isFalse=>cases he
  rename_i hle
  obtain ⟨cs,hS⟩:=src_ok (P:=P) hH hsz r2 hsrc
  have hf0:=hS.first w (Below.refl _ _)
  have hl0:=hS.lenOf w
  have hmin:Nat.min els.length len=els.length:=Nat.min_eq_left hle
  have exec: ∀{base:Option Addr} {c':Nat} {w':World},a.eval s= .slice base len c'→(∀ad,base=some ad→(storeCells ad cs).run P w= .ok () w')→(base=none→w'=w)→(execOp a.eval o).run P w= .ok (.value (.int .i64 els.length)) w':=by
   intro base c' w' e1 hst hn
   have key:(Builtin.copy_ #[t,u] o.type #[.slice base len c',a.eval x]).run P w= .ok (.int .i64 els.length) w':=by
    cases base with
    |none=>have:=hn rfl;subst this;simp [Builtin.copy_,run_underlying ht,hl0,hmin,sizeOf,typeInfo,hi,hf0,Result.andThen,goInt]
    |some ad=>simp [Builtin.copy_,run_underlying ht,hl0,hmin,sizeOf,typeInfo,hi,hf0,Result.andThen,goInt,hst ad rfl]
   have hrun:(execOp a.eval o).run P w=((Builtin.copy_ #[t,u] o.type #[.slice base len c',a.eval x]).run P w).andThen fun v w=> .ok (.value v) w:=by
    simp [execOp,ho,resolve,hc,ha',hta',invoke,builtin,e1]
   rw [hrun,key]
   rfl
  cases q with
  |none=>
   simp at he
   obtain ⟨rfl,rfl⟩:=he
   have e0:len=0∧cap=0∧a.eval s= .slice none 0 0:=by
    generalize a.eval s=y at r1
    cases r1;exact ⟨rfl,rfl,rfl⟩
   obtain ⟨rfl,rfl,e1⟩:=e0
   have hz:els.length=0:=by omega
   have:=exec (w':=w) e1 (by intro ad h;cases h) (fun _=>rfl)
   rw [hz] at this
   exact ⟨σ,_,w,Mv.refl _ _ _,hH,.int _ _,.inl this⟩
  |some p=>
   simp only at he
   split at he
   case h_2=>cases he
   rename_i t' md ee es hb
   have hb:H[p.blk]? =_:=hb
   split at he
   case isFalse=>cases he
   rename_i hcond
   obtain ⟨hmd,hoff,hez,hin⟩:=hcond
   simp at he
   obtain ⟨rfl,rfl⟩:=he
   rw [applyU_set (List.getElem?_eq_some_iff.1 hb).1]
   obtain ⟨ad,c',e1,hsl⟩:=sl_inv r1
   by_cases hl:len=0
   ·
    have hz:els=[]:=List.eq_nil_of_length_eq_zero (by omega)
    subst hz
    have hcs:cs=[]:=List.eq_nil_of_length_eq_zero (by have:=hS.len;simpa using this)
    subst hcs
    have hsame:H.set p.blk (Blk.row t' md (updRows (ee::es) p.idx []))=H:=by
     show H.set p.blk (Blk.row t' md (ee::es))=H
     apply List.ext_getElem?
     intro k
     by_cases hk:k=p.blk
     ·subst hk;rw [List.getElem?_set_self (List.getElem?_eq_some_iff.1 hb).1,hb]
     ·rw [List.getElem?_set_ne (Ne.symm hk)]
    rw [hsame]
    exact ⟨σ,_,w,Mv.refl _ _ _,hH,.int _ _,.inl (exec e1 (fun _ _=>by simp [storeCells]) (fun _=>rfl))⟩
   have hplace:σ.place p ad:=hsl.placed (by omega)
   obtain ⟨I,hR⟩:=hH.rows _ _ _ _ hb
   obtain ⟨J,hJ,had⟩:=hplace
   have eI:I=J:=Option.some.inj (hR.here.symm.trans hJ)
   subst eI
   have hIz:I.esz=i.size:=by rw [←hez];exact (hR.esz ee (by simp)).symm
   obtain ⟨hB,_,hlo,cur,hcur,hcsz⟩:=hR.own hmd
   have hroom:I.n≤I.room.getD I.n:=by
    cases md with
    |ro=>exact absurd rfl hmd
    |own=>have:=((hR.own hmd).2.1 rfl).1;simp [this]
    |loose=>obtain ⟨m,hm,hle,_⟩:=hlo rfl;simp [hm];exact hle
   have hIn:I.n=es.length+1:=by rw [←hR.len];simp
   have hcl:cs.length=els.length*I.esz:=by rw [hIz];exact hS.len
   have hend:I.base+p.idx*I.esz+cs.length≤cur.size:=by
    rw [hcsz,hcl,Nat.add_assoc,←Nat.add_mul]
    have:(p.idx+els.length)*I.esz≤I.room.getD I.n*I.esz:=Nat.mul_le_mul_right _ (by omega)
    omega
   have hst:=run_storeCells_at P I.real (I.base+p.idx*I.esz) t' cs 0 cur w hcur (by omega) hS.one
   simp only [Nat.add_zero] at hst
   obtain ⟨g1,g2⟩:=splice_get cur (I.base+p.idx*I.esz) cs hend
   obtain ⟨u1,u2⟩:=updRows_get els (ee::es) p.idx (by simp;omega)
   have hset:=hH.store hb hmd hJ hcur g1 (es2:=updRows (ee::es) p.idx els) u1 (fun x hx=>by
    obtain ⟨k,hk⟩:=List.getElem?_of_mem hx
    rw [u2] at hk
    split at hk
    ·rw [hIz];exact hS.flat.esz x (List.mem_of_getElem? hk)
    ·exact hR.esz x (List.mem_of_getElem? hk)) (fun k x j u' hk hj=>by
    rw [g2]
    rw [u2] at hk
    have hjz:j<I.esz:=by
     split at hk
     ·rw [hIz,←hS.flat.esz x (List.mem_of_getElem? hk)];exact (List.getElem?_eq_some_iff.1 hj).1
     ·rw [←hR.esz x (List.mem_of_getElem? hk)];exact (List.getElem?_eq_some_iff.1 hj).1
    split at hk
    ·rename_i hkr
     obtain ⟨q0,u'',q1,q2⟩:=hS.flat.cell _ x j u' hk hj
     refine ⟨q0,u'',?_,q2⟩
     have hlt:(k-p.idx)*i.size+j<cs.length:=by simpa using (Array.getElem?_eq_some_iff.1 q1).1
     have he:I.base+k*I.esz+j=I.base+p.idx*I.esz+((k-p.idx)*i.size+j):=by
      rw [←hIz,Nat.add_assoc,Nat.add_assoc,←Nat.add_assoc (p.idx*I.esz),←Nat.add_mul];congr 3;omega
     rw [he,if_pos (by omega),Nat.add_sub_cancel_left]
     simpa using q1
    ·rename_i hkr
     obtain ⟨q0,u'',q1,q2⟩:=hR.cell k x j u' hk hj
     refine ⟨q0,u'',?_,q2⟩
     rw [cell?_of_heap hcur] at q1
     rw [if_neg ?_]
     ·exact q1
     ·rw [hcl]
      intro ⟨c1,c2⟩
      rcases Nat.lt_or_ge k p.idx with h'|h'
      ·have:(k+1)*I.esz≤p.idx*I.esz:=Nat.mul_le_mul_right _ h'
       rw [Nat.add_mul] at this;omega
      ·have:(p.idx+els.length)*I.esz≤k*I.esz:=Nat.mul_le_mul_right _ (by omega)
       rw [Nat.add_mul p.idx] at this;omega)
   refine ⟨σ,_,_,hset.2,hset.1,.int _ _,.inl (exec e1 (fun ad' hadq=> ?_) (by simp))⟩
   simp at hadq;subst hadq
   have hadd:ad=⟨I.real,I.base+p.idx*I.esz,none⟩:=by rw [had,hoff];simp
   rw [hadd];exact hst
theorem eff_appz {t u e:TypeId} {s n:Operand} {s' n':Od} {i:TypeInfo} {zs:List VV} {c:Call} (ho:o.op= .call c) (hc:c.callee= .builtin .append) (ha:c.args.toList=[s,n]) (hta:c.argTypes.toList=[t,u])
 (ht:P.underlying t=some (.slice e)) (hu:P.underlying u=some (.int .i64)) (hz:zerosOf P e=some zs) (hi:P.info? e=some i) (hok:okCells zs=true) (his:i.size=zs.length) (hp:0<zs.length) (hby:0<i.bytes)
 (hs:compOd s=some s') (hn:compOd n=some n') (hH:HRel P σ B H w) (hF:FRel σ N E a) (he:(VEf.appz e zs i.bytes s' n').ev E H.g H.length=some (v,us)):EffOk P σ B (applyU H us) w a o v:=by
 have ha':c.args=#[s,n]:=by cases hh:c.args;rw [hh] at ha;simp at ha;rw [ha]
 have hta':c.argTypes=#[t,u]:=by cases hh:c.argTypes;rw [hh] at hta;simp at hta;rw [hta]
 simp only [VEf.ev] at he
 split at he
 case h_2=>cases he
 rename_i q1 q2 k h1 h2
 split at he
 case isFalse=>cases he
 rename_i hcond
 obtain ⟨hk0,hkb,hkm⟩:=hcond
 simp at he
 obtain ⟨rfl,rfl⟩:=he
 have r1:=compOd_ok hs hF h1
 have r2:=int_inv (compOd_ok hn hF h2)
 have e1:a.eval s= .slice none 0 0:=by
  generalize a.eval s=y at r1
  cases r1;rfl
 obtain ⟨z,hz1,⟨i',hi',hiz⟩,hz2⟩:=zerosOf_run (σ:=σ) hz
 rw [hi] at hi';cases hi'
 have hzs:z.cells.size=zs.length:=by rw [hz1.length];simp
 obtain ⟨m,rfl⟩: ∃m:Nat,k=m:=⟨k.toNat,by omega⟩
 simp only [Int.toNat_natCast] at hkb ⊢
 have hge:=grownCap_ge w (0+m) 0 e
 obtain ⟨s1,s2⟩:=zeroRow_get z.cells (m*zs.length) zs.length hzs hp
 have hflat:=flat_zeros hz1 hok hp m _ s1 s2
 have hzc:Builtin.zeroCells z.cells m=(Array.range (m*zs.length)).map fun x=>z.cells[x % z.cells.size]! :=by unfold Builtin.zeroCells;rw [hzs]
 rw [←hzc] at hflat s1
 rw [applyU_push]
 obtain ⟨σ',q1,q2,q3⟩:=grow_push hH (e:=e) (olds:=[]) (os:=[]) (news:=List.replicate m zs) (cs:=(Builtin.zeroCells z.cells m).toList) (flat_nil zs.length) (by simp) (by simpa using hflat) (by simpa using s1) (grownCap w (0+m) 0 e) (by simpa using hge) (grown63 (by omega)) z.cells hzs
 simp only [List.nil_append,List.length_nil,List.length_replicate] at q1 q2 q3
 refine ⟨σ',_,_,q1,q2,by simpa using q3,.inl ?_⟩
 have w1:IntKind.i64.wrap (m:Int)=m:=by
  simp only [IntKind.wrap,IntKind.signed,IntKind.bits];simp;omega
 have g0: ¬((m:Int)<0):=by omega
 have g1: ¬((m:Int)*i.bytes>281474976710656):=by
  have:((m*i.bytes:Nat):Int)≤((140737488355328:Nat):Int):=Int.ofNat_le.2 hkb
  rw [Int.natCast_mul] at this;omega
 have g2: ¬(0+m≤0):=by omega
 have g3: ¬(9223372036854775807<(m:Int)):=by omega
 have g4: ¬(281474976710656<Builtin.nextslicecap (0+m) 0*i.bytes):=by
  have:=growslice_fits (need:=0+m) (old:=0) (bytes:=i.bytes) (by omega) (by simpa using hkb);omega
 have g4': ¬(281474976710656<Builtin.nextslicecap m 0*i.bytes):=by simpa using g4
 have g6: ¬(m=0):=by omega
 have g5:m*zs.length≠0:=Nat.mul_ne_zero (by omega) (by omega)
 have hrun:(Builtin.append_ #[t,u] o.type #[.slice none 0 0,.int .i64 m]).run P w= .ok (.slice (some ⟨w.heap.size,0,none⟩) m (grownCap w (0+m) 0 e)) (w.drew.alloc (.cells ([].toArray++(Builtin.zeroCells z.cells m).toList.toArray++Builtin.zeroCells z.cells (grownCap w (0+m) 0 e-(0+m))) e)):=by
  simp [Builtin.append_,underlying,ht,hu,sizeOf,typeInfo,hi,his,asInt,asIntOf,w1,g0,g1,g5,g6,g3,g4',hz2,Question.forced,newRow,grownCap,Builtin.firstCells]
 simp [execOp,ho,resolve,hc,ha',invoke,builtin,hta',e1,r2,hrun]
theorem HRel.adopt2 (h:HRel P σ B H w) {t:TypeId} {es:List (List VV)} {cur:Array Value} {r z:Nat} (hB:B≤r) (hr:w.heap[r]? =some (.cells cur t (0,0)))
 (hrow: ∀(j:Nat) tj mj ej Ij,H[j]? =some (Blk.row tj mj ej)→σ j=some Ij→Ij.real≠r) (hz: ∀e∈es,e.length=z) (hs:cur.size=es.length*z)
 (hcell: ∀(k:Nat) e (j:Nat) v,es[k]? =some e→e[j]? =some v→v.cell=true∧ ∃v',cur[k*z+j]? =some v'∧VRel σ v v'):
 HRel P (σ.push H.length ⟨r,0,z,es.length,none⟩) B (H++[.row t .own es]) w:=by
 have hle:=Sg.le_push (I:=⟨r,0,z,es.length,none⟩) h.fresh
 have hself:σ.push H.length ⟨r,0,z,es.length,none⟩ H.length=some ⟨r,0,z,es.length,none⟩:=by simp [Sg.push]
 have hold: ∀k,k≠H.length→σ.push H.length ⟨r,0,z,es.length,none⟩ k=σ k:=fun k hk=>by simp [Sg.push,hk]
 have hrl:r<w.heap.size:=(Array.getElem?_eq_some_iff.1 hr).1
 have part: ∀(k:Nat) tk mk ek,(H++[Blk.row t .own es])[k]? =some (Blk.row tk mk ek)→(k=H.length∧tk=t∧mk= .own∧ek=es)∨(k<H.length∧H[k]? =some (Blk.row tk mk ek)):=by
  intro k tk mk ek hk
  rcases Nat.lt_or_ge k H.length with hlt|hge
  ·rw [List.getElem?_append_left hlt] at hk;exact .inr ⟨hlt,hk⟩
  ·rw [List.getElem?_append_right hge] at hk
   have hk0:k-H.length=0:=by
    rcases Nat.eq_zero_or_pos (k-H.length) with h0|h0
    ·exact h0
    ·rw [List.getElem?_eq_none (by simp;omega)] at hk;cases hk
   rw [hk0] at hk
   obtain ⟨rfl,rfl,rfl⟩:t=tk∧ .own=mk∧es=ek:=by simpa using hk
   exact .inl ⟨by omega,rfl,rfl,rfl⟩
 have partO: ∀(k:Nat) o,(H++[Blk.row t .own es])[k]? =some (Blk.obj o)→k<H.length∧H[k]? =some (Blk.obj o):=by
  intro k o hk
  rcases Nat.lt_or_ge k H.length with hlt|hge
  ·rw [List.getElem?_append_left hlt] at hk;exact ⟨hlt,hk⟩
  ·rw [List.getElem?_append_right hge] at hk
   cases hk0:k-H.length with
   |zero=>rw [hk0] at hk;simp at hk
   |succ z=>rw [hk0] at hk;simp at hk
 refine ⟨h.base,fun k K hk=> ?_,fun k tk mk ek hk=> ?_,fun k j tk mk ek tj mj ej Ik Ij hk hmk hj hσk hσj hreal=> ?_,fun k o hk=> ?_,fun k j o o' Ik Ij hk hj hσk hσj hreal=> ?_,h.glob.mono hle,fit_push h.fit hrl (Nat.le_refl _)⟩
 rotate_right 2
 ·obtain ⟨hlt,hk'⟩:=partO k o hk
  obtain ⟨J,ho,j1,j2,j3,j4,j5⟩:=h.objs k o hk'
  exact ⟨J,ho,hle _ _ j1,j2,j3,j4,j5.mono hle⟩
 ·obtain ⟨hlt,hk'⟩:=partO k o hk
  obtain ⟨hlt2,hj'⟩:=partO j o' hj
  rw [hold k (by omega)] at hσk
  rw [hold j (by omega)] at hσj
  exact h.oinj k j o o' Ik Ij hk' hj' hσk hσj hreal
 ·by_cases hkl:k=H.length
  ·subst hkl;simp
  ·rw [hold k hkl] at hk
   have:=h.dom k K hk
   simp;omega
 ·rcases part k tk mk ek hk with ⟨rfl,rfl,rfl,rfl⟩|⟨hlt,hk'⟩
  ·refine ⟨_,hself,hrl,rfl,hz,fun a e j v he hv=> ?_,(by simp),fun _=>⟨hB,fun _=>⟨rfl,rfl⟩,by simp,cur,hr,by simpa using hs⟩⟩
   obtain ⟨c1,v',c2,c3⟩:=hcell a e j v he hv
   exact ⟨c1,v',by rw [cell?_of_heap hr,Nat.zero_add];exact c2,c3.mono hle⟩
  ·obtain ⟨K,hK⟩:=h.rows k tk mk ek hk'
   exact ⟨K,hle _ _ hK.here,hK.lt,hK.len,hK.esz,fun a e j v he hv=>(let ⟨h1,v',h2,h3⟩:=hK.cell a e j v he hv;⟨h1,v',h2,h3.mono hle⟩),hK.old,hK.own⟩
 ·rcases part k tk mk ek hk with ⟨rfl,_⟩|⟨hlt,hk'⟩<;>rcases part j tj mj ej hj with ⟨rfl,_⟩|⟨hlt',hj'⟩
  ·rfl
  ·rw [hself] at hσk;cases hσk
   rw [hold j (by omega)] at hσj
   exact absurd hreal.symm (hrow j _ _ _ Ij hj' hσj)
  ·rw [hself] at hσj;cases hσj
   rw [hold k (by omega)] at hσk
   exact absurd hreal (hrow k _ _ _ Ik hk' hσk)
  ·rw [hold k (by omega)] at hσk
   rw [hold j (by omega)] at hσj
   exact h.inj k j tk mk ek tj mj ej Ik Ij hk' hmk hj' hσk hσj hreal
theorem eff_resl {t e:TypeId} {n:Nat} {x:Operand} {x':Od} {i:TypeInfo} (ho:o.op= .slice t x none none none) (hs:slArr P t=some (n,e)) (hi:P.info? e=some i)
 (his:i.size=1) (hn:0<n) (hx:compOd x=some x') (hH:HRel P σ B H w) (hF:FRel σ N E a) (he:(VEf.resl n x').ev E H.g H.length=some (v,us)):EffOk P σ B (applyU H us) w a o v:=by
 simp only [VEf.ev] at he
 split at he
 case h_2=>cases he
 rename_i p h1
 split at he
 case isFalse=>cases he
 rename_i hp
 obtain ⟨hp1,hp2⟩:=hp
 split at he
 case h_2=>cases he
 rename_i t' cs hb
 have hb:H[p.blk]? =_:=hb
 split at he
 case isFalse=>cases he
 rename_i hl
 obtain ⟨hl,_⟩:=hl
 simp at he
 obtain ⟨rfl,rfl⟩:=he
 obtain ⟨ad,e1,J,hJ,had⟩:=ptr_inv (compOd_ok hx hF h1)
 obtain ⟨I,hR⟩:=hH.rows _ _ _ _ hb
 have eI:I=J:=Option.some.inj (hR.here.symm.trans hJ)
 subst eI
 obtain ⟨hB,hown,_,cur,hcur,hcsz⟩:=hR.own (by simp)
 obtain ⟨hroom,hbase⟩:=hown rfl
 have hz:I.esz=n:=by rw [←hl];exact (hR.esz cs (by simp)).symm
 have hn1:I.n=1:=by rw [←hR.len];rfl
 have hil:p.blk<H.length:=(List.getElem?_eq_some_iff.1 hb).1
 have hsz:cur.size=n:=by rw [hcsz,hbase,hroom,hz,hn1];simp
 have had0:ad=⟨I.real,0,none⟩:=by rw [had,hbase,hp1,hp2];simp
 have happ:applyU H [(p.blk,Blk.dead),(H.length,Blk.row t' .own (cs.map fun c=>[c]))]=H.set p.blk .dead++[Blk.row t' .own (cs.map fun c=>[c])]:=by simp [applyU,hil]
 rw [happ]
 have hkill:=hH.kill p.blk
 have hrow: ∀(j:Nat) tj mj ej Ij,(H.set p.blk Blk.dead)[j]? =some (Blk.row tj mj ej)→σ j=some Ij→Ij.real≠I.real:=fun j tj mj ej Ij hj hσ hr=>by
  by_cases hjp:p.blk=j
  ·subst hjp;rw [List.getElem?_set_self hil] at hj;cases hj
  ·rw [List.getElem?_set_ne hjp] at hj
   exact hjp (hH.inj p.blk j _ _ _ _ _ _ I Ij hb (by simp) hj hR.here hσ hr.symm)
 have hlen:(H.set p.blk Blk.dead).length=H.length:=List.length_set
 have hnew:=hkill.adopt2 (t:=t') (es:=cs.map fun c=>[c]) (z:=1) hB hcur hrow (by simp) (by simp [hsz,hl]) (fun k e' j u hk hj=>by
  simp only [List.getElem?_map,Option.map_eq_some_iff] at hk
  obtain ⟨c,hc,rfl⟩:=hk
  cases j with
  |succ j=>simp at hj
  |zero=>
   simp at hj;subst hj
   obtain ⟨q1,v',q2,q3⟩:=hR.cell 0 cs k c (by simp) hc
   refine ⟨q1,v',?_,q3⟩
   rw [cell?_of_heap hcur] at q2
   rw [←q2];congr 1;simp [hbase])
 rw [hlen] at hnew
 have hfr:σ H.length=none:=hH.fresh
 refine ⟨_,.slice (some ad) n n,w,⟨Sg.le_push hfr,Below.refl _ _,fun _ _ _=>rfl,fun k K hk=> ?_⟩,hnew,.sl ⟨Nat.le_refl _,.inl ⟨⟨⟨I.real,0,1,(cs.map fun c=>[c]).length,none⟩,by simp [Sg.push],by simp [had0]⟩,rfl⟩⟩,.inl ?_⟩
 ·unfold Sg.push at hk
  by_cases h:k=H.length
  ·rw [if_pos h] at hk;cases hk;exact .inl ⟨p.blk,I,hR.here,rfl⟩
  ·rw [if_neg h] at hk;exact .inl ⟨k,K,hk,rfl⟩
 ·have hadd:ad.add 0=ad:=by rw [had0];rfl
  unfold slArr at hs
  split at hs
  ·rename_i n' e' ht
   cases hs
   simp [execOp,ho,e1,Instr.sliceAt,Instr.sureAddr,underlying,ht,Instr.sliceBounds,sizeOf,typeInfo,hi,hadd,Result.andThen]
  ·rename_i ar ht
   split at hs
   ·rename_i n' e' ha
    cases hs
    simp [execOp,ho,e1,Instr.sliceAt,Instr.slice,underlying,ht,ha,Instr.sliceBounds,sizeOf,typeInfo,hi,asAddr,hadd,Result.andThen]
   ·cases hs
  ·cases hs
theorem eff_sbytes {s d e:TypeId} {x:Operand} {x':Od} (ho:o.op= .convert s d x) (hs:P.underlying s=some .string) (hd:P.underlying d=some (.slice e)) (hx:compOd x=some x') (he8:P.underlying e=some (.int .u8))
 (hH:HRel P σ B H w) (hF:FRel σ N E a) (he:(VEf.sbytes x').ev E H.g H.length=some (v,us)):EffOk P σ B (applyU H us) w a o v:=by
 simp only [VEf.ev] at he
 split at he
 case h_2=>cases he
 rename_i bs h1
 simp at he
 obtain ⟨rfl,rfl⟩:=he
 have e1:=str_inv (compOd_ok hx hF h1)
 rw [applyU_push]
 have hrun:=run_bytes_of_string (P:=P) w s d e ⟨bs.toArray⟩ hs hd he8
 have hsz:(⟨bs.toArray⟩:ByteArray).size=bs.length:=by simp [ByteArray.size]
 rw [hsz] at hrun
 have hge:=grownCap_ge w bs.length 0 e
 have hH':HRel P σ B H w.drew:=hH.heap_eq rfl
 obtain ⟨q1,q2⟩:=hH'.pushObjI ⟨w.heap.size,0,1,bs.length,some (grownCap w bs.length 0 e)⟩ rfl rfl (.bytes bs)
  (.cells (bytesRow ⟨bs.toArray⟩ (grownCap w bs.length 0 e)) e ((bytesRow ⟨bs.toArray⟩ (grownCap w bs.length 0 e)).size,(bytesRow ⟨bs.toArray⟩ (grownCap w bs.length 0 e)).size+1)) (fun τ _=>by
   refine ⟨(by simp),fun k b hk=> ?_⟩
   have hlt:k<bs.length:=(List.getElem?_eq_some_iff.1 hk).1
   rw [bytesRow_at ⟨bs.toArray⟩ _ k (by simpa using hlt)]
   have:bs[k]=b:=by rw [List.getElem?_eq_getElem hlt] at hk;exact Option.some.inj hk
   simp [this])
 refine ⟨_,_,_,(Mv.same ((Below.refl _ _).drew) rfl).trans q2,q1,.sl ⟨Nat.le_refl _,.inr (.inl ⟨⟨w.heap.size,0,1,bs.length,some (grownCap w bs.length 0 e)⟩,grownCap w bs.length 0 e,by simp [Sg.push],rfl,rfl,⟨⟨w.heap.size,0,1,bs.length,some (grownCap w bs.length 0 e)⟩,by simp [Sg.push],rfl⟩,by simp,by simp,hge⟩)⟩,.inl ?_⟩
 simp [execOp,ho,e1,hrun,Result.andThen]
theorem eff_ustr {t u e:TypeId} {x n:Operand} {x' n':Od} {c:Call} (ho:o.op= .call c) (hc:c.callee= .builtin .unsafeString) (ha:c.args.toList=[x,n]) (hta:c.argTypes.toList=[t,u])
 (ht:P.underlying t=some (.pointer e)) (h1:P.cellsOf e=1)
 (hx:compOd x=some x') (hn:compOd n=some n') (hH:HRel P σ B H w) (hF:FRel σ N E a) (he:(VEf.ustr e x' n').ev E H.g H.length=some (v,us)):EffOk P σ B (applyU H us) w a o v:=by
 have ha':c.args=#[x,n]:=by cases hh:c.args;rw [hh] at ha;simp at ha;rw [ha]
 have hta':c.argTypes=#[t,u]:=by cases hh:c.argTypes;rw [hh] at hta;simp at hta;rw [hta]
 simp only [VEf.ev] at he
 split at he
 case h_2=>cases he
 rename_i p k hp hk
 have r1:=compOd_ok hx hF hp
 have r2:=compOd_ok hn hF hk
 obtain ⟨ad,e1,J,hJ,had⟩:=ptr_inv r1
 have e2:=int_inv r2
 split at he
 case isFalse=>cases he
 rename_i hp0
 obtain ⟨hp1,hp2,hk0⟩:=hp0
 split at he
 case h_2=>cases he
 rename_i t' es hb
 have hb:H[p.blk]? =_:=hb
 split at he
 case isFalse=>cases he
 rename_i hlen
 obtain ⟨hlen,rfl,hk62,hok8⟩:=hlen
 split at he
 case h_2=>cases he
 rename_i s hbs
 simp at he
 obtain ⟨rfl,rfl⟩:=he
 have hil:p.blk<H.length:=(List.getElem?_eq_some_iff.1 hb).1
 rw [applyU_set hil]
 obtain ⟨I,hR⟩:=hH.rows _ _ _ _ hb
 have eI:I=J:=Option.some.inj (hR.here.symm.trans hJ)
 subst eI
 obtain ⟨hB,hown,_,cur,hcur,hcsz⟩:=hR.own (by simp)
 obtain ⟨hroom,hbase⟩:=hown rfl
 obtain ⟨ns,rfl,rfl⟩:=bytesOf_map hbs
 have hns:(ns.length:Int)=k:=by simpa using hlen
 have hns0:ns≠[]:=by rintro rfl;simp at hns;omega
 have hz:I.esz=1:=by
  cases ns with
  |nil=>exact absurd rfl hns0
  |cons n0 ns=>exact (hR.esz [.int .u8 n0] (by simp)).symm
 have hn:I.n=ns.length:=by rw [←hR.len];simp
 have hsz:cur.size=ns.length:=by rw [hcsz,hbase,hroom,hz,hn];simp
 have had0:ad=⟨I.real,0,none⟩:=by rw [had,hbase,hp1,hp2];simp
 have hrng: ∀(ns:List Int),okBytes (ns.map fun n=>[.int .u8 n])=true→ ∀m∈ns,0≤m∧m<256:=by
  intro ns
  induction ns with
  |nil=>intro _ m hm;cases hm
  |cons n ns ih=>
   intro h m hm
   simp only [List.map_cons,okBytes,Bool.and_eq_true] at h
   rcases List.mem_cons.1 hm with rfl|hm
   ·have:=inRng_iff.1 h.1;exact ⟨this.1,by have:=this.2;omega⟩
   ·exact ih h.2 m hm
 have hcell: ∀j x,(ns.map fun n=>UInt8.ofNat n.toNat)[j]? =some x→w.cell? ((⟨I.real,0,none⟩:Addr).add j)=some (.int .u8 x.toNat):=by
  intro j x hj
  rw [List.getElem?_map] at hj
  cases hnj:ns[j]? with
  |none=>rw [hnj] at hj;cases hj
  |some m=>
   rw [hnj] at hj
   simp at hj;subst hj
   obtain ⟨_,v',q1,q2⟩:=hR.cell j [.int .u8 m] 0 (.int .u8 m) (by simp [hnj]) rfl
   cases q2
   have hm:=hrng ns hok8 m (List.mem_of_getElem? hnj)
   have hadd:(⟨I.real,0,none⟩:Addr).add j=⟨I.real,I.base+j*I.esz+0,none⟩:=by
    rw [hbase,hz];unfold Addr.add;split<;>simp_all
   rw [hadd,q1]
   congr 2
   have:(UInt8.ofNat m.toNat).toNat=m.toNat:=by simp;omega
   rw [this];omega
 have hshape:w.shape? I.real=some (t',ns.length):=by simp [World.shape?,hcur,hsz]
 have hrun:=Lib.run_unsafeString_row (P:=P) (w:=w) t u o.type t' ht h1 I.real ns.length hshape (ns.map fun n=>UInt8.ofNat n.toNat) (by simpa using hns0) (by simp) (by simp;omega) hcell
 have hexec:(execOp a.eval o).run P w=((Builtin.unsafeString_ #[t,u] o.type #[.pointer (some ⟨I.real,0,none⟩),.int .i64 k]).run P w).andThen fun v w=> .ok (.value v) w:=by
  simp [execOp,ho,resolve,hc,ha',hta',invoke,builtin,e1,e2,had0]
 have hk:((ns.map fun n=>UInt8.ofNat n.toNat).length:Int)=k:=by simpa using hns
 rw [hk] at hrun
 have hfz: ∀j,j≠I.real→(w.freeze ⟨I.real,0,none⟩ (ns.map fun n=>UInt8.ofNat n.toNat).length).heap[j]? =w.heap[j]? :=by
  intro j hj
  unfold World.freeze
  split
  ·rfl
  ·simp only [Array.getElem?_modify];rw [if_neg (Ne.symm hj)]
 have hbel:Below B w (w.freeze ⟨I.real,0,none⟩ (ns.map fun n=>UInt8.ofNat n.toNat).length):=Lib.below_freeze (Below.refl _ _) hB _
 refine ⟨σ,_,_,Mv.set hJ hbel hfz,?_,.str _,.inl (by rw [hexec,hrun];rfl)⟩
 have hkill:=hH.kill p.blk
 have hsize:(w.freeze ⟨I.real,0,none⟩ (ns.map fun n=>UInt8.ofNat n.toNat).length).heap.size=w.heap.size:=by
  unfold World.freeze;split<;>simp
 refine hkill.elsewhere I.real hsize hfz (fun j tj mj ej Ij hj hσj hreal=> ?_) (fun j oj Ij hj hσj hreal=> ?_)
 ·by_cases hjp:j=p.blk
  ·subst hjp
   rw [List.getElem?_set_self hil] at hj;cases hj
  ·rw [List.getElem?_set_ne (Ne.symm hjp)] at hj
   exact hjp (hH.inj p.blk j _ _ _ _ _ _ I Ij hb (by simp) hj hR.here hσj hreal.symm).symm
 ·by_cases hjp:j=p.blk
  ·subst hjp
   rw [List.getElem?_set_self hil] at hj;cases hj
  ·rw [List.getElem?_set_ne (Ne.symm hjp)] at hj
   exact hH.apart hb hj hJ hσj hreal.symm
theorem eff_ok {vo:VEf} (hc:compEff P o.op=some vo) (hH:HRel P σ B H w) (hF:FRel σ N E a) (he:vo.ev E H.g H.length=some (v,us)):EffOk P σ B (applyU H us) w a o v:=by
 unfold compEff at hc
 split at hc
 case h_1 t x y ho=>
  split at hc
  ·simp at hc;subst hc;exact eff_store ho (by assumption) (by assumption) (by assumption) hH hF he
  ·cases hc
 case h_2 t ho=>
  split at hc
  ·split at hc
   ·simp at hc;subst hc;exact eff_alloc ho (by assumption) (by assumption) hH he
   ·cases hc
  ·cases hc
 case h_3 t x ho=>
  split at hc
  ·simp at hc;subst hc;exact eff_box ho (by assumption) hH hF he
  ·cases hc
 case h_4 t n ps ho=>
  split at hc
  ·split at hc
   ·split at hc
    ·rename_i h
     simp at hc;subst hc;exact eff_mkrow ho (by assumption) (by assumption) (by assumption) (by assumption) h.1 h.2.1 h.2.2.1 h.2.2.2 hH hF he
    ·cases hc
   ·cases hc
  ·cases hc
 case h_5 t l c ho=>
  split at hc
  ·split at hc
   ·split at hc
    ·rename_i h
     simp at hc;subst hc;exact eff_mksl ho (by assumption) (by assumption) (by assumption) (by assumption) (by assumption) h.1 h.2.1 h.2.2 hH hF he
    ·cases hc
   ·cases hc
  ·cases hc
 case h_6 t ho=>
  simp at hc;subst hc;exact eff_mkmap ho hH he
 case h_7 t m k x ho=>
  split at hc
  ·split at hc
   ·simp at hc;subst hc;exact eff_mset (.inl ho) (by assumption) (by assumption) (by assumption) (by assumption) (by assumption) hH hF he
   ·cases hc
  ·cases hc
 case h_8 t m k x ho=>
  split at hc
  ·split at hc
   ·simp at hc;subst hc;exact eff_mset (.inr ho) (by assumption) (by assumption) (by assumption) (by assumption) (by assumption) hH hF he
   ·cases hc
  ·cases hc
 case h_9 t m k ho=>
  split at hc
  ·split at hc
   ·simp at hc;subst hc;exact eff_ment ho (by assumption) (by assumption) (by assumption) (by assumption) (by assumption) hH hF he
   ·cases hc
  ·cases hc
 case h_10 t m s x ho=>
  split at hc
  ·simp at hc;subst hc;exact eff_mput ho (by assumption) (by assumption) (by assumption) hH hF he
  ·cases hc
 case h_11 t x ho=>
  split at hc
  ·simp at hc;subst hc;exact eff_rng ho (by assumption) (by assumption) hH hF he
  ·simp at hc;subst hc;exact eff_srng ho (by assumption) (by assumption) hH hF he
  ·cases hc
 case h_12 x ho=>
  cases h1:compOd x with
  |none=>simp [h1] at hc
  |some y=>simp [h1] at hc;subst hc;exact eff_snext ho h1 hH hF he
 case h_13 t x ho=>
  split at hc
  ·split at hc
   ·split at hc
    ·rename_i h
     simp at hc;subst hc;exact eff_resl ho (by assumption) (by assumption) h.1 h.2 (by assumption) hH hF he
    ·cases hc
   ·cases hc
  ·cases hc
 case h_14 s d x ho=>
  split at hc
  ·split at hc
   ·simp at hc;subst hc;exact eff_sbytes ho (by assumption) (by assumption) (by assumption) (by assumption) hH hF he
   ·cases hc
  ·cases hc
 case h_15 c ho=>
  split at hc
  ·split at hc
   ·split at hc
    ·split at hc
     ·split at hc
      ·rename_i h
       simp at hc;subst hc;exact eff_app ho (by assumption) (by assumption) (by assumption) (by assumption) (by assumption) (by simp) (by assumption) (by assumption) h.1 h.2.1 h.2.2 (by assumption) (by assumption) hH hF he
      ·cases hc
     ·cases hc
    ·cases hc
   ·split at hc
    ·split at hc
     ·split at hc
      ·rename_i h
       simp at hc;subst hc;exact eff_app ho (by assumption) (by assumption) (by assumption) (by assumption) (by assumption) (by simp) (by assumption) (by assumption) h.1 h.2.1 h.2.2 (by assumption) (by assumption) hH hF he
      ·cases hc
     ·cases hc
    ·cases hc
   ·split at hc
    ·split at hc
     ·rename_i h
      simp at hc;subst hc;exact eff_appz ho (by assumption) (by assumption) (by assumption) (by assumption) (by assumption) (by assumption) (by assumption) h.1 h.2.1 h.2.2.1 h.2.2.2 (by assumption) (by assumption) hH hF he
     ·cases hc
    ·cases hc
   ·cases hc
  ·split at hc
   ·split at hc
    ·split at hc
     ·rename_i h
      simp at hc;subst hc;exact eff_copy ho (by assumption) (by assumption) (by assumption) (by assumption) (by assumption) h (by assumption) (by assumption) hH hF he
     ·cases hc
    ·cases hc
   ·split at hc
    ·split at hc
     ·rename_i h
      simp at hc;subst hc;exact eff_copy ho (by assumption) (by assumption) (by assumption) (by assumption) (by assumption) h (by assumption) (by assumption) hH hF he
     ·cases hc
    ·cases hc
   ·cases hc
  ·split at hc
   ·split at hc
    ·rename_i h
     simp at hc;subst hc;exact eff_ustr ho (by assumption) (by assumption) (by assumption) (by assumption) h (by assumption) (by assumption) hH hF he
    ·cases hc
   ·cases hc
  ·cases hc
 ·cases hc
end
end Go.Wm
end
section
namespace Go.Wm
set_option linter.unusedSimpArgs false
set_option linter.unusedVariables false
open Go.RowKit
abbrev Wd (ro:Option Nat):Fence:={Fence.wide with round:=ro}
theorem callsIn_wd {ro:Option Nat} {n:Nat} {P:Program} {f:FuncId} {args:Array Value} {w:World} {R:Ending→World→Prop}:CallsIn (Wd ro) n P f args w R↔Calls P f args w R:=
 ⟨fun h=>callsIn_wide.1 (show CallsIn Fence.wide n P f args w R from h),fun h=>show CallsIn Fence.wide n P f args w R from callsIn_wide.2 h⟩
section
variable {P:Program} {σ:Sg} {B N:Nat} {H:Hp} {w:World} {a:Act} {E:Fr} {o:Oper} {v:VV}
theorem FRel.pt {F:Fr} (h:FRel σ N F a) {d:Option Nat} (hd:dstOk N d=true) {v:VV} {v':Value} (hv:VRel σ v v'):FRel σ N (F.pt d v) (a.put d v'):=by
 cases d with
 |none=>exact h
 |some d=>exact h.put (by simpa [dstOk] using hd) hv
theorem want_ok {ops:Array Oper} {g:Option (Nat×Bool)} (hg:compG ops N o.guard=some g) (hF:FRel σ N E a) {b:Bool} (hw:want E g=some b):Region.wanted o (yielded ops a.tmps)=b:=by
 unfold compG at hg
 cases hgo:o.guard with
 |none=>rw [hgo] at hg;simp at hg;subst hg;simp [want] at hw;subst hw;simp [Region.wanted,hgo]
 |some jb=>
  obtain ⟨j,c⟩:=jb
  rw [hgo] at hg
  simp only at hg
  split at hg
  case h_2=>cases hg
  rename_i s hs
  split at hg
  case isFalse=>cases hg
  rename_i hsN
  simp at hg;subst hg
  simp only [want] at hw
  have hsz:s<a.tmps.size:=by rw [hF.1];exact hsN
  have hsd:s≠dslot:=Nat.ne_of_lt (Nat.lt_of_lt_of_le hsN hF.2.1.1)
  split at hw
  ·rename_i c' he
   simp at hw;subst hw
   have r:=hF.2.2.2 _ _ hsd he
   generalize hx:a.tmps.getD s undef=x at r
   cases r
   have hx':a.tmps[s]? =some (.bool c'):=by
    rw [Array.getD_eq_getD_getElem?,Array.getElem?_eq_getElem hsz] at hx
    rw [Array.getElem?_eq_getElem hsz]
    simpa using hx
   simp only [Region.wanted,hgo,yielded,hs,Option.bind_some,hx']
   cases c'<;>cases c<;>rfl
  ·rename_i he
   simp at hw;subst hw
   have r:=hF.2.2.2 _ _ hsd he
   generalize hx:a.tmps.getD s undef=x at r
   cases r with
   |tup hl=>
    rename_i cs'
    have hcs:cs'=#[]:=by
     cases hl':cs'.toList with
     |nil=>exact Array.toList_eq_nil_iff.1 hl'
     |cons y l=>rw [hl'] at hl;cases hl
    subst hcs
    have hx':a.tmps[s]? =some (.tuple #[]):=by
     rw [Array.getD_eq_getD_getElem?,Array.getElem?_eq_getElem hsz] at hx
     rw [Array.getElem?_eq_getElem hsz]
     simpa using hx
    simp only [Region.wanted,hgo,yielded,hs,Option.bind_some,hx']
    rfl
  ·cases hw
end
abbrev VQ:=Exit→Fr→Hp→Prop
def Post (P:Program) (B N:Nat) (σ:Sg) (w:World) (Q:VQ):Exit→Act→World→Prop:=
 fun e a' w'=> ∃F' H' σ',Q e F' H'∧Mv B σ σ' w w'∧HRel P σ' B H' w'∧FRel σ' N F' a'
theorem Post.lift {P:Program} {B N:Nat} {σ τ:Sg} {w w1:World} {Q:VQ} (hm:Mv B σ τ w w1) {e:Exit} {a':Act} {w':World} (h:Post P B N τ w1 Q e a' w'):Post P B N σ w Q e a' w':=
 let ⟨F',H',σ',h1,h2,h3,h4⟩:=h
 ⟨F',H',σ',h1,hm.trans h2,h3,h4⟩
theorem Post.mono {P:Program} {B N:Nat} {σ:Sg} {w:World} {Q Q':VQ} (hq: ∀e F H,Q e F H→Q' e F H) {e:Exit} {a':Act} {w':World} (h:Post P B N σ w Q e a' w'):Post P B N σ w Q' e a' w':=
 let ⟨F',H',σ',h1,h2⟩:=h
 ⟨F',H',σ',hq _ _ _ h1,h2⟩
def Ret (P:Program) (B:Nat) (σ:Sg) (w:World) (R:VV→Hp→Prop) (e:Ending) (w':World):Prop:=
 ∃r v' H' σ',e= .returned v'∧VRel σ' r v'∧R r H'∧Mv B σ σ' w w'∧HRel P σ' B H' w'
theorem Ret.mono {P:Program} {B:Nat} {σ:Sg} {w:World} {R R':VV→Hp→Prop} (hr: ∀r H,R r H→R' r H) {e:Ending} {w':World} (h:Ret P B σ w R e w'):Ret P B σ w R' e w':=
 let ⟨r,v',H',σ',q1,q2,q3,q4⟩:=h;⟨r,v',H',σ',q1,q2,hr _ _ q3,q4⟩
def FnV (P:Program) (f:FuncId) (args:List VV) (H:Hp) (R:VV→Hp→Prop):Prop:=
 (∃fn,P.funcs[f]? =some fn∧(fn.name== "runtime.NumGoroutine")=false∧fn.body.isSome=true)∧
 ∀σ B w (vs:Array Value),HRel P σ B H w→LRel σ args vs.toList→Calls P f vs w (Ret P B σ w R)
theorem FnV.mono {P:Program} {f:FuncId} {args:List VV} {H:Hp} {R R':VV→Hp→Prop} (h:FnV P f args H R) (hr: ∀r H',R r H'→R' r H'):FnV P f args H R':=
 ⟨h.1,fun σ B w vs h1 h2=>(h.2 σ B w vs h1 h2).mono fun e w' h=>h.mono hr⟩
def YldV (P:Program) (b:Nat) (args:List VV) (H:Hp) (R:VV→Hp→Prop):Prop:=
 ∀σ B w (vs:Array Value) I,HRel P σ B H w→LRel σ args vs.toList→σ b=some I→
  ∃fn tmps assign body,(Instr.yield I.real vs).run P w= .ok (.round I.real fn tmps assign body) w∧RoundIn Fence.wide 0 P I.real fn tmps assign body w (Ret P B σ w R)
theorem YldV.mono {P:Program} {b:Nat} {args:List VV} {H:Hp} {R R':VV→Hp→Prop} (h:YldV P b args H R) (hr: ∀r H',R r H'→R' r H'):YldV P b args H R':=
 fun σ B w vs I h1 h2 h3=>let ⟨fn,tmps,as,bd,q1,q2⟩:=h σ B w vs I h1 h2 h3;⟨fn,tmps,as,bd,q1,q2.mono fun e w' h=>h.mono hr⟩
def VOps (P:Program) (B N:Nat) (rd:Bool) (l:List VI) (E:Fr) (H:Hp) (Q:VQ):Prop:=
 ∀ro,(rd=false→ro=none)→ ∀(ops:Array Oper) (os:List Oper),compL P N ops os=some l→ ∀σ w a,HRel P σ B H w→FRel σ N E a→wpListIn (Wd ro) 0 P ops (Post P B N σ w Q) os a w
section
variable {P:Program} {B N:Nat} {rn:Bool} {E:Fr} {H:Hp} {Q:VQ} {l:List VI}
theorem operWpIn_mono {F:Fence} {n:Nat} {o:Oper} {a:Act} {w:World} {K K':Act→World→Prop} {Q1 Q2:Exit→Act→World→Prop} (hk: ∀a w,K a w→K' a w) (hq: ∀e a w,Q1 e a w→Q2 e a w)
 (hh:o.wpIn F n P a w K Q1):o.wpIn F n P a w K' Q2:=by
 unfold Oper.wpIn at*
 refine ⟨hh.1,?_⟩
 have hh:=hh.2
 generalize (o.semAt F.round a.eval).run P w=r at*
 have hout:LetsOut Q1→LetsOut Q2:=fun ⟨a,w,h⟩=>⟨a,w,hq _ _ _ h⟩
 cases r with
 |ok x w'=>
  cases x<;>simp only [Oper.uponIn] at hh ⊢<;>
   first
    |exact hk _ _ hh
    |exact ⟨hh.1,CallsIn.mono hh.2 (fun e w'' he=>by cases e<;>first|exact hk _ _ he|exact hq _ _ _ he|exact hout he)⟩
    |exact ⟨hh.1,RowsIn.mono hh.2 (fun _ _ he=>hk _ _ he)⟩
    |exact ⟨hh.1,RoundIn.mono hh.2 (fun e w'' he=>by cases e<;>first|exact hk _ _ he|exact hq _ _ _ he|exact hout he)⟩
 |halt x w'=>cases x<;>simp only [Oper.uponIn] at hh ⊢<;>first|exact hq _ _ _ hh|exact hh
theorem wpListIn_mono {F:Fence} {n:Nat} {ops:Array Oper} {Q1 Q2:Exit→Act→World→Prop} (hq: ∀e a w,Q1 e a w→Q2 e a w): ∀(os:List Oper) (a:Act) (w:World),wpListIn F n P ops Q1 os a w→wpListIn F n P ops Q2 os a w
 |[],a,w,h=>hq _ _ _ h
 |o::os,a,w,h=>by
  unfold wpListIn at h ⊢
  split
  ·rename_i hw
   rw [if_pos hw] at h
   exact operWpIn_mono (fun a w h=>wpListIn_mono hq os a w h) hq h
  ·rename_i hw
   rw [if_neg hw] at h
   exact ⟨h.1,wpListIn_mono hq os _ _ h.2⟩
theorem VOps.nil (h:Q .normal E H):VOps P B N rn [] E H Q:=by
 intro ro hro ops os hc σ w a hH hF
 cases os with
 |nil=>exact ⟨E,H,σ,h,Mv.refl _ _ _,hH,hF⟩
 |cons o os=>unfold compL at hc;split at hc<;>cases hc
theorem compL_cons {ops:Array Oper} {os:List Oper} {x:VI} (h:compL P N ops os=some (x::l)): ∃o os',os=o::os'∧compI P N ops o=some x∧compL P N ops os'=some l:=by
 cases os with
 |nil=>simp [compL] at h
 |cons o os=>
  unfold compL at h
  split at h
  ·rename_i h1 h2;simp at h;obtain ⟨rfl,rfl⟩:=h;exact ⟨o,os,rfl,h1,h2⟩
  ·cases h
theorem compI_inv {ops:Array Oper} {o:Oper} {x:VI} (h:compI P N ops o=some x):dstOk N o.dst=true∧compG ops N o.guard=some x.gd∧o.dst=x.ds∧
 match x with
 | .rd d g y=>compRead P o.op=some y
 | .ef d g y=>compEff P o.op=some y
 | .call d g f args=> ∃c,o.op= .call c∧((∃fo,c.callee= .value fo∧compOd fo=some f∧c.args.toList.mapM compOd=some args)∨
  ∃s name l,c.callee= .invoke (.tmp s) name∧s≠dslot∧f= .mt s (methTbl P name P.types.size)∧args= .ri s::l∧c.args.toList.mapM compOd=some l)
 | .nx d g y=> ∃x,o.op= .next x false∧compOd x=some y
 | .dfr d g f args=> ∃c fo,o.op= .defer c∧c.callee= .value fo∧compOd fo=some f∧c.args.toList.mapM compOd=some args
 | .rcv d g=> ∃c,o.op= .call c∧c.callee= .builtin .recover
 | .bad d g=>True:=by
 unfold compI at h
 split at h
 ·cases h
 ·rename_i g hg
  split at h
  ·cases h
  ·rename_i hd
   refine ⟨by simpa using hd,?_⟩
   split at h
   ·rename_i y d h1 h2;simp at h;subst h;exact ⟨hg,h2,h1⟩
   ·cases h
   ·split at h
    ·rename_i y h1;simp at h;subst h;exact ⟨hg,rfl,h1⟩
    ·split at h
     ·rename_i c ho
      split at h
      ·rename_i fo hfo
       split at h
       ·rename_i f l' h1 h2;simp at h;subst h;exact ⟨hg,rfl,c,ho,.inl ⟨fo,hfo,h1,h2⟩⟩
       ·simp at h;subst h;exact ⟨hg,rfl,trivial⟩
      ·rename_i s name hfo
       split at h
       ·simp at h;subst h;exact ⟨hg,rfl,trivial⟩
       ·rename_i hs
        split at h
        ·rename_i l' h2;simp at h;subst h;exact ⟨hg,rfl,c,ho,.inr ⟨s,name,l',hfo,hs,rfl,rfl,h2⟩⟩
        ·simp at h;subst h;exact ⟨hg,rfl,trivial⟩
      ·rename_i hfo
       split at h
       ·rename_i d h2;simp at h;subst h;exact ⟨hg,h2,c,ho,hfo⟩
       ·simp at h;subst h;exact ⟨hg,rfl,trivial⟩
      ·simp at h;subst h;exact ⟨hg,rfl,trivial⟩
     ·rename_i c ho
      split at h
      ·rename_i fo hfo
       split at h
       ·rename_i f l' h1 h2;simp at h;subst h;exact ⟨hg,rfl,c,fo,ho,hfo,h1,h2⟩
       ·simp at h;subst h;exact ⟨hg,rfl,trivial⟩
      ·simp at h;subst h;exact ⟨hg,rfl,trivial⟩
     ·rename_i x ho
      split at h
      ·rename_i y d h1 h2;simp at h;subst h;exact ⟨hg,h2,x,ho,h1⟩
      ·simp at h;subst h;exact ⟨hg,rfl,trivial⟩
     ·simp at h;subst h;exact ⟨hg,rfl,trivial⟩
theorem noDefer {ops:Array Oper} {o:Oper} {x:VI} (h:compI P N ops o=some x) (hx: ∀d g f l,x≠ .dfr d g f l) (hb: ∀d g,x≠ .bad d g): ∀c,o.op≠ .defer c:=by
 intro c hc
 obtain ⟨_,_,_,hi⟩:=compI_inv h
 cases x with
 |rd d g y=>simp only [hc,compRead] at hi;cases hi
 |ef d g y=>simp only [hc,compEff] at hi;cases hi
 |call d g f ar=>obtain ⟨c',h1,_⟩:=hi;rw [hc] at h1;cases h1
 |nx d g y=>obtain ⟨y,h1,_⟩:=hi;rw [hc] at h1;cases h1
 |dfr d g f ar=>exact hx _ _ _ _ rfl
 |rcv d g=>obtain ⟨c',h1,_⟩:=hi;rw [hc] at h1;cases h1
 |bad d g=>exact hb _ _ rfl
theorem dst_ok {x:Option Nat} {y:Option Nat} (h:x=y) (hd:dstOk N x=true):dstOk N y=true:=by rw [←h];exact hd
theorem VOps.skip {x:VI} (hw:want E x.gd=some false) (h:VOps P B N rn l (E.pt x.ds (.tup [])) H Q):VOps P B N rn (x::l) E H Q:=by
 intro ro hro ops os hc σ w a hH hF
 obtain ⟨o,os',rfl,h1,h2⟩:=compL_cons hc
 obtain ⟨hd,hg,hdst,_⟩:=compI_inv h1
 have hwant:=want_ok hg hF hw
 unfold wpListIn
 rw [if_neg (by rw [hwant];simp),hdst]
 exact ⟨fun _ _=>trivial,h ro hro ops os' h2 σ w _ hH (hF.pt (dst_ok hdst hd) (.tup (cs':=#[]) .nil))⟩
theorem VOps.rd {d:Nat} {g:Option (Nat×Bool)} {x:VOp} {v:VV} (hw:want E g=some true) (he:x.ev E H.g=some v) (h:VOps P B N rn l ((d,v)::E) H Q):VOps P B N rn (.rd d g x::l) E H Q:=by
 intro ro hro ops os hc σ w a hH hF
 obtain ⟨o,os',rfl,h1,h2⟩:=compL_cons hc
 obtain ⟨hd,hg,hdst,hr⟩:=compI_inv h1
 have hnd:=noDefer h1 (by intro _ _ _ _ h;cases h) (by intro _ _ h;cases h)
 obtain ⟨v',hv,hrun⟩:=read_ok hr hH hF he
 unfold wpListIn
 rw [if_pos (want_ok hg hF hw)]
 refine ⟨fun _ _=>trivial,?_⟩
 rw [Oper.semAt_eq _ _ _ hnd,hrun w (Below.refl _ _)]
 simp only [Oper.uponIn]
 rw [hdst]
 have hdN:d<N:=by rw [hdst] at hd;simpa [dstOk,VI.ds] using hd
 exact h ro hro ops os' h2 σ w _ hH (hF.put hdN hv)
theorem VOps.ef {d:Option Nat} {g:Option (Nat×Bool)} {x:VEf} {v:VV} {us:Up} (hw:want E g=some true) (he:x.ev E H.g H.length=some (v,us)) (h:VOps P B N rn l (E.pt d v) (applyU H us) Q):VOps P B N rn (.ef d g x::l) E H Q:=by
 intro ro hro ops os hc σ w a hH hF
 obtain ⟨o,os',rfl,h1,h2⟩:=compL_cons hc
 obtain ⟨hd,hg,hdst,hr⟩:=compI_inv h1
 have hnd:=noDefer h1 (by intro _ _ _ _ h;cases h) (by intro _ _ h;cases h)
 obtain ⟨σ',v',w',q1,q2,q3,hrun⟩:=eff_ok hr hH hF he
 unfold wpListIn
 rw [if_pos (want_ok hg hF hw)]
 refine ⟨fun _ _=>trivial,?_⟩
 have fin:wpListIn (Wd ro) 0 P ops (Post P B N σ w Q) os' (a.put o.dst v') w':=by
  rw [hdst]
  exact wpListIn_mono (fun e a w hp=>hp.lift q1) _ _ _ (h ro hro ops os' h2 σ' w' _ q2 ((hF.mono q1.le).pt (dst_ok hdst hd) q3))
 rw [Oper.semAt_eq _ _ _ hnd]
 rcases hrun with hrun|⟨hrun,hu⟩
 ·rw [hrun];exact fin
 ·rw [hrun];simp only [Oper.uponIn];rw [←hu];exact fin
theorem tblGet_meth {name:String} {t:TypeId} {f:FuncId}: ∀{n:Nat},tblGet (methTbl P name n) t=some f→methF P t name=some f
 |0,h=>by cases h
 |n+1,h=>by
  unfold methTbl at h
  split at h
  ·rename_i f' hf
   unfold tblGet at h
   cases hb:Nat.beq n t with
   |true=>rw [hb] at h;obtain rfl:=Nat.eq_of_beq_eq_true hb;rw [hf];exact h
   |false=>rw [hb] at h;exact tblGet_meth h
  ·exact tblGet_meth h
theorem methF_run {name:String} {t:TypeId} {f:FuncId} (h:methF P t name=some f) (n:Nat) (v:Value) (w:World):(method (n+1) t v name).run P w= .ok (f,v) w:=by
 unfold methF at h
 split at h
 ·rename_i i hi
  split at h
  ·rename_i m hm
   split at h
   ·cases h
   ·rename_i f' e hp hf hu
    simp at h;subst h
    simp [method,typeInfo,hi,hm,hp,hf,follow,receiverAt,underlying,hu,Place.get]
   ·rename_i f' d hne hp hf hu
    simp at h;subst h
    have hr: ∀wr,(receiverAt t (.val v) false wr).run P w= .ok v w:=by
     intro wr
     simp only [receiverAt,underlying,Sem.run_bind,run_program,hu,Result.andThen_ok]
     cases d<;>first|rfl|exact (hne _ rfl).elim
    simp [method,typeInfo,hi,hm,hp,hf,follow,hr]
   ·cases h
  ·cases h
 ·cases h
theorem call_run {ops:Array Oper} {o:Oper} {d:Option Nat} {g:Option (Nat×Bool)} {fo:Od} {ar:List Od} {f:FuncId} {caps vs:List VV} {fn:Func} {σ:Sg} {E:Fr} {a:Act} {w:World} (h1:compI P N ops o=some (.call d g fo ar)) (hF:FRel σ N E a)
 (hf:fo.ev E=some (.fn f caps)) (hv:Od.evs E ar=some vs) (hfn:P.funcs[f]? =some fn) (hnm:(fn.name== "runtime.NumGoroutine")=false) (hbody:fn.body.isSome=true):
 ∃args:Array Value,(execOp a.eval o).run P w= .ok (.enter f args) w∧LRel σ (vs++caps) args.toList:=by
 obtain ⟨hd,hg,hdst,c,ho,hc⟩:=compI_inv h1
 have hb: ¬fn.body=none:=by intro hh;rw [hh] at hbody;cases hbody
 have hnm': ¬fn.name= "runtime.NumGoroutine" :=by simpa using hnm
 rcases hc with ⟨fop,hcal,hcf,hca⟩|⟨s,name,l,hcal,hs,rfl,rfl,hca⟩
 ·obtain ⟨caps',e1,hcaps⟩:=fn_inv (compOd_ok hcf hF hf)
  have hargs:=evs_rel hca hF hv
  exact ⟨c.args.map a.eval++caps',by simp [execOp,ho,resolve,hcal,e1,Deferred.ofValue,invoke,callFunc,hfn,hnm',hb],by rw [Array.toList_append,Array.toList_map];exact hargs.append hcaps⟩
 ·cases hg:E.get s with
  |none=>simp [Od.ev,hg] at hf
  |some u=>
   have hu:=hF.2.2.2 s u hs hg
   cases u<;>simp only [Od.ev,hg] at hf<;>try cases hf
   rename_i t v
   split at hf
   ·rename_i f' hf'
    obtain ⟨rfl,rfl⟩:f'=f∧[]=caps:=by simpa using hf
    simp only [Od.evs,Od.ev,hg] at hv
    cases hv2:Od.evs E l with
    |none=>simp [hv2] at hv
    |some vs2=>
     simp [hv2] at hv
     subst hv
     have hargs:=evs_rel hca hF hv2
     generalize hx:a.tmps.getD s undef=x at hu
     cases hu with
     |@ifc _ _ v' hvv=>
      have hm:=methF_run (tblGet_meth hf') (P.types.size+Made.depth-1) v' w
      refine ⟨#[v']++c.args.map a.eval,?_,?_⟩
      ·have e0:P.types.size+Made.depth=(P.types.size+Made.depth-1)+1:=by have:Made.depth=Made.depth:=rfl;simp [Made.depth]
       rw [←e0] at hm
       have h0:(#[a.eval (.tmp s)]++c.args.map a.eval)[0]? =some (.iface t v'):=by
        rw [Array.getElem?_append_left (by simp)];exact congrArg some hx
       have h2:(#[a.eval (.tmp s)]++c.args.map a.eval).extract 1 (#[a.eval (.tmp s)]++c.args.map a.eval).size=c.args.map a.eval:=by simp
       have hcm:(callMethod (.iface t v') name (c.args.map a.eval)).run P w= .ok (.enter f' (#[v']++c.args.map a.eval)) w:=by
        simp only [callMethod,Sem.run_bind,run_program,Result.andThen_ok,hm]
        simp [callFunc,hfn,hnm',hb]
       have hin:(invoke (.fn (.method name) #[]) (#[a.eval (.tmp s)]++c.args.map a.eval)).run P w= .ok (.enter f' (#[v']++c.args.map a.eval)) w:=by
        simp only [invoke,h0,h2,hcm]
       simp only [execOp,ho,resolve,hcal,Sem.run_bind,Sem.run_pure,Result.andThen_ok,hin]
      ·rw [List.append_nil,Array.toList_append,Array.toList_map];exact .cons hvv hargs
   ·cases hf
theorem VOps.call {d:Option Nat} {g:Option (Nat×Bool)} {fo:Od} {ar:List Od} {f:FuncId} {caps vs:List VV} (hw:want E g=some true) (hf:fo.ev E=some (.fn f caps)) (hv:Od.evs E ar=some vs)
 (h:FnV P f (vs++caps) H fun r H'=>VOps P B N rn l (E.pt d r) H' Q):VOps P B N rn (.call d g fo ar::l) E H Q:=by
 intro ro hro ops os hc σ w a hH hF
 obtain ⟨o,os',rfl,h1,h2⟩:=compL_cons hc
 obtain ⟨hd,hg,hdst,_⟩:=compI_inv h1
 have hnd:=noDefer h1 (by intro _ _ _ _ h;cases h) (by intro _ _ h;cases h)
 obtain ⟨⟨fn,hfn,hnm,hbody⟩,hcall⟩:=h
 obtain ⟨args,hrun,hl⟩:=call_run (w:=w) h1 hF hf hv hfn hnm hbody
 unfold wpListIn
 rw [if_pos (want_ok hg hF hw)]
 refine ⟨fun _ _=>trivial,?_⟩
 rw [Oper.semAt_eq _ _ _ hnd,hrun]
 simp only [Oper.uponIn]
 refine ⟨fun h=>by simp [Fence.wide] at h,?_⟩
 refine callsIn_wd.2 ((hcall σ B w _ hH hl).mono fun e w' ⟨r,v',H',σ',q1,q2,q3,q4,q5⟩=> ?_)
 subst q1
 rw [hdst]
 exact wpListIn_mono (fun e a w hp=>hp.lift q4) _ _ _ (q3 ro hro ops os' h2 σ' w' _ q5 ((hF.mono q4.le).pt (dst_ok hdst hd) q2))
theorem VOps.yld {d:Option Nat} {g:Option (Nat×Bool)} {fo:Od} {ar:List Od} {b:Nat} {vs:List VV} (hw:want E g=some true) (hf:fo.ev E=some (.yield b)) (hv:Od.evs E ar=some vs)
 (h:YldV P b vs H fun r H'=>VOps P B N rn l (E.pt d r) H' Q):VOps P B N rn (.call d g fo ar::l) E H Q:=by
 intro ro hro ops os hc σ w a hH hF
 obtain ⟨o,os',rfl,h1,h2⟩:=compL_cons hc
 obtain ⟨hd,hg,hdst,c,ho,hc2⟩:=compI_inv h1
 obtain ⟨fop,hcal,hcf,hca⟩: ∃fop,c.callee= .value fop∧compOd fop=some fo∧c.args.toList.mapM compOd=some ar:=by
  rcases hc2 with h|⟨s,name,l',_,_,rfl,_⟩
  ·exact h
  ·simp only [Od.ev] at hf
   split at hf
   ·split at hf<;>cases hf
   ·cases hf
 have hnd:=noDefer h1 (by intro _ _ _ _ h;cases h) (by intro _ _ h;cases h)
 obtain ⟨I,e1,hI⟩:=yield_inv (compOd_ok hcf hF hf)
 have hargs:=evs_rel hca hF hv
 obtain ⟨fn,tmps,as,bd,hy,hround⟩:=h σ B w (c.args.map a.eval) I hH (by rw [Array.toList_map];exact hargs) hI
 unfold wpListIn
 rw [if_pos (want_ok hg hF hw)]
 refine ⟨fun _ _=>trivial,?_⟩
 have hrun:(execOp a.eval o).run P w= .ok (.round I.real fn tmps as bd) w:=by
  simp [execOp,ho,resolve,hcal,e1,Deferred.ofValue,invoke,hy]
 rw [Oper.semAt_eq _ _ _ hnd,hrun]
 simp only [Oper.uponIn]
 refine ⟨fun h=>by simp [Fence.wide] at h,?_⟩
 refine RoundIn.mono (show RoundIn (Wd ro) 0 P I.real fn tmps as bd w _ from hround) fun e w' ⟨r,v',H',σ',q1,q2,q3,q4,q5⟩=> ?_
 subst q1
 rw [hdst]
 exact wpListIn_mono (fun e a w hp=>hp.lift q4) _ _ _ (q3 ro hro ops os' h2 σ' w' _ q5 ((hF.mono q4.le).pt (dst_ok hdst hd) q2))
theorem VOps.dfr {d:Option Nat} {g:Option (Nat×Bool)} {fo:Od} {ar:List Od} {f:FuncId} {caps vs:List VV} (hrd:rn=false) (hw:want E g=some true) (hf:fo.ev E=some (.fn f caps)) (hv:Od.evs E ar=some vs)
 (h:VOps P B N rn l ((E.defer (.tup (.fn f caps::vs))).pt d .undef) H Q):VOps P B N rn (.dfr d g fo ar::l) E H Q:=by
 intro ro hro ops os hc σ w a hH hF
 obtain ⟨o,os',rfl,h1,h2⟩:=compL_cons hc
 obtain ⟨hd,hg,hdst,c,fop,ho,hcal,hcf,hca⟩:=compI_inv h1
 obtain ⟨caps',e1,hcaps⟩:=fn_inv (compOd_ok hcf hF hf)
 have hargs:=evs_rel hca hF hv
 have hr0:=hro hrd
 subst hr0
 unfold wpListIn
 rw [if_pos (want_ok hg hF hw)]
 refine ⟨fun _ _=>trivial,?_⟩
 have hrun:(execOp a.eval o).run P w= .ok (.defer {target:= .fn (.func f) caps',args:=c.args.map a.eval}) w:=by
  simp [execOp,ho,resolve,hcal,e1,Deferred.ofValue]
 show Oper.uponIn _ _ _ _ _ _ _ ((execOp a.eval o).run P w)
 rw [hrun]
 simp only [Oper.uponIn]
 rw [hdst]
 refine h none (fun _=>rfl) ops os' h2 σ w _ hH (FRel.pt ?_ (dst_ok hdst hd) (.undef _))
 have hitem:DItem σ (.tup (.fn f caps::vs)) {target:= .fn (.func f) caps',args:=c.args.map a.eval}:= .call hcaps (by rw [Array.toList_map];exact hargs)
 refine ⟨hF.1,hF.2.1,?_,fun s v hs hv=> ?_⟩
 ·have hD:=hF.2.2.1
  unfold Fr.defer
  cases hx:E.get dslot with
  |none=>rw [hx] at hD;simp only [Fr.get_cons,if_true];cases hD':a.defers with
   |nil=>exact .some (.cons hitem .nil)
   |cons _ _=>rw [hD'] at hD;cases hD
  |some u=>rw [hx] at hD;cases hD with|some hi=>simp only [Fr.get_cons,if_true];exact .some (.cons hitem hi)
 ·refine hF.2.2.2 s v hs ?_
  unfold Fr.defer at hv
  split at hv<;>(rw [Fr.get_cons,if_neg (Ne.symm hs)] at hv;exact hv)
end
end Go.Wm
end
