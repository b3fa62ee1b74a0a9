/- Texts as one: WmD. -/
import Derived.Test.YtnjjieohlnhicaaGreatDoorKaa
import Derived.Laws.StructEq
import Derived.Laws.Strings
namespace Go.Wm
set_option linter.unusedSimpArgs false
set_option linter.unusedVariables false
open Go.RowKit
abbrev Hp.g (H:Hp):Gt:=fun i=>H[i]?
@[simp] theorem Hp.g_at (H:Hp) (i:Nat):H.g i=H[i]? :=rfl
theorem constVV_rel {σ:Sg} {v:Value} {x:VV} (h:constVV v=some x):VRel σ x v:=by
 unfold constVV at h
 split at h<;>first|(simp at h;subst h;first|exact .bool _|exact .int _ _|exact .ptrNil|exact .slNil|exact .mapNil|exact .nilFn|exact .nilI|exact .str _)|cases h
theorem constVVs_rel {σ:Sg}: ∀(l:List Value) (m:List VV),l.mapM constVV=some m→LRel σ m l
 |[],m,h=>by simp at h;subst h;exact .nil
 |v::l,m,h=>by
  rw [List.mapM_cons] at h
  cases h1:constVV v with
  |none=>simp [h1] at h
  |some x=>
   cases h2:l.mapM constVV with
   |none=>simp [h1,h2] at h
   |some y=>
    simp [h1,h2] at h
    subst h
    exact .cons (constVV_rel h1) (constVVs_rel l y h2)
theorem idxOf_get {l:List Nat} {g i:Nat} (h:l.idxOf? g=some i):l[i]? =some g:=by
 rw [List.idxOf?_eq_some_iff] at h
 obtain ⟨hi,h1,_⟩:=h
 rw [List.getElem?_eq_getElem hi,h1]
theorem compOd_ok {σ:Sg} {N:Nat} {E:Fr} {a:Act} {x:Operand} {y:Od} {v:VV} (h:compOd x=some y) (hF:FRel σ N E a) (he:y.ev E=some v):VRel σ v (a.eval x):=by
 unfold compOd at h
 split at h
 ·rename_i t
  by_cases ht:t=dslot
  ·rw [if_pos ht] at h;cases h
  ·rw [if_neg ht] at h;simp at h;subst h;exact hF.2.2.2 _ _ ht he
 ·rename_i cs
  cases hc:cs.toList.mapM constVV with
  |none=>rw [hc] at h;cases h
  |some l=>rw [hc] at h;simp at h;subst h;simp [Od.ev] at he;subst he;exact .agg (constVVs_rel _ _ hc)
 ·rename_i u _
  cases hc:constVV u with
  |none=>rw [hc] at h;cases h
  |some z=>rw [hc] at h;simp at h;subst h;simp [Od.ev] at he;subst he;exact constVV_rel hc
 ·simp at h;subst h;simp [Od.ev] at he;subst he;exact .fn .nil
 ·rename_i g
  cases hc:GL.idxOf? g with
  |none=>rw [hc] at h;cases h
  |some i=>
   rw [hc] at h;simp at h;subst h;simp [Od.ev] at he;subst he
   obtain ⟨I,h1,h2,h3⟩:=hF.2.1.2 i g (idxOf_get hc)
   exact .ptr ⟨I,h1,by simp [h2,h3]⟩
theorem aggOf_run {P:Program} {t:TypeId} {n:Nat} {b:Bool} (h:aggOf P t=some (n,b)) (w:World):
 (sizeOf t).run P w= .ok n w∧(isAgg t).run P w= .ok b w:=by
 unfold aggOf at h
 cases hi:P.info? t with
 |none=>rw [hi] at h;cases h
 |some i=>
  cases hu:P.underlying t with
  |none=>rw [hi,hu] at h;cases h
  |some u=>
   rw [hi,hu] at h
   simp at h
   obtain ⟨h1,h2⟩:=h
   constructor
   ·simp [sizeOf,typeInfo,hi,h1]
   ·subst h2
    simp only [isAgg,underlying,Sem.run_bind,run_program,Result.andThen_ok,hu,Sem.run_pure]
    cases u<;>rfl
theorem ld_ok {P:Program} {σ:Sg} {B:Nat} {H:Hp} {w:World} (h:HRel P σ B H w) {p:PA} {v:VV} (hl:ld H.g p=some v) {a:Addr} (ha:σ.place p a):
 ∃v',VRel σ v v'∧v.cell=true∧a.block<w.heap.size∧w.cell? a=some v':=by
 unfold ld at hl
 split at hl
 ·rename_i t md es hb
  cases he:es[p.idx]? with
  |none=>rw [he] at hl;cases hl
  |some e=>
   rw [he] at hl
   obtain ⟨I,hR⟩:=h.rows _ _ _ _ hb
   obtain ⟨J,h1,h2⟩:=ha
   have:I=J:=Option.some.inj (hR.here.symm.trans h1)
   subst this
   obtain ⟨hc,v',h3,h4⟩:=hR.cell _ _ _ _ he hl
   subst h2
   exact ⟨v',h4,hc,hR.lt,h3⟩
 ·cases hl
theorem lds_ok {P:Program} {σ:Sg} {B:Nat} {H:Hp} {w:World} (h:HRel P σ B H w) {p:PA} {n:Nat} {l:List VV} (hl:lds H.g p n=some l) {a:Addr} (ha:σ.place p a):
 l.length=n∧a.block<w.heap.size∧ ∃l',LRel σ l l'∧ ∀(j:Nat) v,l'[j]? =some v→w.cell? (a.add j)=some v:=by
 unfold lds at hl
 split at hl
 ·rename_i t md es hb
  cases he:es[p.idx]? with
  |none=>rw [he] at hl;cases hl
  |some e=>
   rw [he] at hl
   simp only at hl
   split at hl
   case isFalse=>cases hl
   rename_i hle
   simp at hl
   obtain ⟨I,hR⟩:=h.rows _ _ _ _ hb
   obtain ⟨J,h1,h2⟩:=ha
   have:I=J:=Option.some.inj (hR.here.symm.trans h1)
   subst this
   have hlen:l.length=n:=by rw [←hl];simp;omega
   have key: ∀(j:Nat) v,l[j]? =some v→ ∃v',w.cell? (a.add j)=some v'∧VRel σ v v':=by
    intro j v hj
    rw [←hl,List.getElem?_take] at hj
    split at hj
    ·rw [List.getElem?_drop] at hj
     obtain ⟨_,v',h3,h4⟩:=hR.cell _ _ _ _ he hj
     refine ⟨v',?_,h4⟩
     rw [←h3,h2]
     unfold Addr.add
     split<;>simp_all [Nat.add_assoc]
    ·cases hj
   refine ⟨hlen,by rw [h2];exact hR.lt,?_⟩
   have: ∀(m:List VV) (k:Nat),(∀(j:Nat) v,m[j]? =some v→ ∃v',w.cell? (a.add (k+j))=some v'∧VRel σ v v')→
    ∃m',LRel σ m m'∧ ∀(j:Nat) v,m'[j]? =some v→w.cell? (a.add (k+j))=some v:=by
    intro m
    induction m with
    |nil=>exact fun k _=>⟨[],.nil,by simp⟩
    |cons x m ih=>
     intro k hk
     obtain ⟨x',hx1,hx2⟩:=hk 0 x (by simp)
     obtain ⟨m',hm1,hm2⟩:=ih (k+1) (fun j v hj=>by have:=hk (j+1) v (by simpa using hj);rwa [show k+(j+1)=k+1+j by omega] at this)
     refine ⟨x'::m',.cons hx2 hm1,fun j v hj=> ?_⟩
     cases j with
     |zero=>simp at hj;subst hj;exact hx1
     |succ j=>rw [show k+(j+1)=k+1+j by omega];exact hm2 j v (by simpa using hj)
   have h5:=this l 0 (fun j v hj=>by rw [Nat.zero_add];exact key j v hj)
   simpa using h5
 ·cases hl
theorem ixp_ok {P:Program} {σ:Sg} {B:Nat} {H:Hp} {w:World} (h:HRel P σ B H w) {p q:PA} {k s:Nat} (hp:ixp H.g p k s=some q) {a:Addr} (ha:σ.place p a):σ.place q (a.add (k*s)):=by
 unfold ixp eszOf at hp
 cases hb:H[p.blk]? with
 |none=>simp [hb] at hp
 |some x=>
  cases x with
  |dead=>simp [hb] at hp
  |obj o=>simp [hb] at hp
  |row t md es=>
   cases es with
   |nil=>simp [hb] at hp
   |cons e es=>
    simp [hb] at hp
    obtain ⟨I,hR⟩:=h.rows _ _ _ _ hb
    obtain ⟨J,h1,h2⟩:=ha
    have:I=J:=Option.some.inj (hR.here.symm.trans h1)
    subst this
    have hz:=hR.esz e (by simp)
    subst h2
    subst hp
    unfold padd
    split
    ·rename_i hc
     obtain ⟨hc1,hc2⟩:=hc
     refine ⟨I,h1,?_⟩
     unfold Addr.add
     split
     ·rename_i h0
      simp [hc1]
      rcases Nat.mul_eq_zero.1 h0 with h0|h0
      ·simp [h0]
      ·simp [←hz,hc2,h0]
     ·simp [hc1,←hz,hc2,Nat.add_mul,Nat.add_assoc]
    ·refine ⟨I,h1,?_⟩
     unfold Addr.add
     split
     ·rename_i h0;simp [h0]
     ·simp [Nat.add_assoc]
def ReadOk (P:Program) (σ:Sg) (w:World) (a:Act) (o:Oper) (v:VV):Prop:=
 ∃v',VRel σ v v'∧ ∀w2,Below w.heap.size w w2→(execOp a.eval o).run P w2= .ok (.value v') w2
section
variable {P:Program} {σ:Sg} {B N:Nat} {H:Hp} {w:World} {a:Act} {E:Fr} {o:Oper} {v:VV}
theorem ReadOk.of {v':Value} (hv:VRel σ v v') (h: ∀w2,Below w.heap.size w w2→(execOp a.eval o).run P w2= .ok (.value v') w2):ReadOk P σ w a o v:=⟨v',hv,h⟩
theorem read_load {t:TypeId} {x:Operand} {y:Od} {n:Nat} {b:Bool} (ho:o.op= .load t x) (ht:aggOf P t=some (n,b)) (hx:compOd x=some y)
 (hH:HRel P σ B H w) (hF:FRel σ N E a) (he:(VOp.load n b y).ev E H.g=some v):ReadOk P σ w a o v:=by
 simp only [VOp.ev] at he
 cases hy:y.ev E with
 |none=>simp [hy] at he
 |some u=>
  have hu:=compOd_ok hx hF hy
  cases u<;>simp [hy] at he
  rename_i p
  cases p with
  |none=>simp at he
  |some p=>
   simp at he
   cases hu':a.eval x<;>rw [hu'] at hu<;>cases hu
   rename_i ad hpl
   cases b with
   |true=>
    simp at he
    cases hl:lds H.g p n with
    |none=>simp [hl] at he
    |some l=>
     simp [hl] at he
     subst he
     obtain ⟨hlen,hb,l',h1,h2⟩:=lds_ok hH hl hpl
     refine .of (.agg (cs':=l'.toArray) (by simpa using h1)) fun w2 hw2=> ?_
     have h3:=run_loadCells_list (P:=P) w2 ad l' (fun j v hj=>by
      rw [hw2.cell (p:=ad.add j) (by unfold Addr.add;split<;>exact hb)];exact h2 j v hj)
     rw [←h1.length,hlen] at h3
     simp [execOp,ho,hu',Instr.loadAt,Instr.sureAddr,loadVar,aggOf_run ht,h3]
   |false=>
    simp at he
    obtain ⟨v',h1,_,hb,h2⟩:=ld_ok hH he hpl
    refine .of h1 fun w2 hw2=> ?_
    have h3:w2.cell? ad=some v':=by rw [hw2.cell hb];exact h2
    simp [execOp,ho,hu',Instr.loadAt,Instr.sureAddr,loadVar,aggOf_run ht,h3]
theorem wrapK_eq (k:IntKind) (x:Int):wrapK k x=k.wrap x:=by
 have hm:((2:Int) ^ k.bits)=(modK k:Nat):=by cases k<;>rfl
 have low: ∀r:Nat,r<halfK k→r<modK k→(if (k.signed &&decide ((r:Int)≥2 ^ (k.bits-1)))=true then (r:Int)-(modK k:Nat) else (r:Int))=r:=by
  intro r h1 h2
  rw [if_neg]
  intro hc
  simp only [Bool.and_eq_true,decide_eq_true_eq] at hc
  obtain ⟨hs,hc⟩:=hc
  cases k<;>simp [IntKind.signed] at hs<;>simp [halfK,IntKind.bits] at h1 hc<;>omega
 have high: ∀r:Nat,¬r<halfK k→r<modK k→(if (k.signed &&decide ((r:Int)≥2 ^ (k.bits-1)))=true then (r:Int)-(modK k:Nat) else (r:Int))=Int.negSucc (Nat.pred (Nat.sub (modK k) r)):=by
  intro r h1 h2
  have e:Nat.sub (modK k) r=modK k-r:=rfl
  rw [e,Nat.pred_eq_sub_one,Int.negSucc_eq]
  rw [if_pos]
  ·omega
  ·cases k<;>simp [halfK,modK] at h1 h2<;>simp [IntKind.signed,IntKind.bits]<;>omega
 have hmod: ∀m:Nat,m % modK k<modK k:=fun m=>Nat.mod_lt _ (by cases k<;>decide)
 have blt: ∀{a b:Nat},Nat.blt a b=true→a<b:=fun h=>by simpa [Nat.blt_eq] using h
 have nblt: ∀{a b:Nat},Nat.blt a b=false→ ¬a<b:=fun {a b} h hh=>by
  have:Nat.blt a b=true:=by simpa [Nat.blt_eq] using hh
  rw [this] at h;cases h
 cases x with
 |ofNat m=>
  have e1:(Int.ofNat m) % ((modK k:Nat):Int)=((m % modK k:Nat):Int):=by simp
  unfold wrapK IntKind.wrap
  simp only [hm,e1]
  cases h:Nat.blt m (halfK k) with
  |true=>
   have h1:=blt h
   have h2:halfK k≤modK k:=by cases k<;>decide
   have h3:m % modK k=m:=Nat.mod_eq_of_lt (Nat.lt_of_lt_of_le h1 h2)
   rw [h3]
   exact (low m h1 (Nat.lt_of_lt_of_le h1 h2)).symm
  |false=>
   simp only [cond_false]
   have e2:Nat.mod m (modK k)=m % modK k:=rfl
   rw [e2]
   cases h3:Nat.blt (m % modK k) (halfK k) with
   |true=>exact (low _ (blt h3) (hmod m)).symm
   |false=>exact (high _ (nblt h3) (hmod m)).symm
 |negSucc m=>
  unfold wrapK
  simp only
  cases h:Nat.blt m (Nat.sub (modK k) (halfK k)) with
  |false=>rfl
  |true=>
   have h1:m<modK k-halfK k:=blt h
   simp only [cond_true]
   unfold IntKind.wrap
   simp only [hm]
   have hk:k.signed=true∧((2:Int) ^ (k.bits-1))=(halfK k:Nat)∧modK k=halfK k+halfK k:=by
    cases k
    case u8|u16|u32|u64=>exact absurd (show m<0 from h1) (Nat.not_lt_zero m)
    all_goals exact ⟨rfl,rfl,rfl⟩
   obtain ⟨hs,hp,hM⟩:=hk
   have e3:(Int.negSucc m) % ((modK k:Nat):Int)=(modK k:Nat)-((m:Int)+1):=by
    rw [show Int.negSucc m=((modK k:Nat)-((m:Int)+1))+(-1)*((modK k:Nat):Int) by rw [Int.negSucc_eq];omega,Int.add_mul_emod_self_right]
    exact Int.emod_eq_of_lt (by omega) (by omega)
   rw [e3,hp,hs,if_pos (by simp;omega),Int.negSucc_eq]
   omega
theorem iadd_eq (x y:Int):iadd x y=x+y:=by
 cases x<;>cases y<;>simp only [iadd]<;>rename_i m n
 ·rfl
 ·cases h:Nat.blt n m with
  |true=>have:n<m:=by simpa [Nat.blt_eq] using h
         simp only [cond_true,Int.negSucc_eq];show ((m-Nat.succ n:Nat):Int)=(m:Int)+_;omega
  |false=>have: ¬n<m:=by intro hh;have:Nat.blt n m=true:=by simpa [Nat.blt_eq] using hh
                         rw [this] at h;cases h
          simp only [cond_false,Int.negSucc_eq];show-((n-m:Nat)+1:Int)=(m:Int)+_;omega
 ·cases h:Nat.blt m n with
  |true=>have:m<n:=by simpa [Nat.blt_eq] using h
         simp only [cond_true,Int.negSucc_eq];show ((n-Nat.succ m:Nat):Int)=_+(n:Int);omega
  |false=>have: ¬m<n:=by intro hh;have:Nat.blt m n=true:=by simpa [Nat.blt_eq] using hh
                         rw [this] at h;cases h
          simp only [cond_false,Int.negSucc_eq];show-((m-n:Nat)+1:Int)=_+(n:Int);omega
 ·simp only [Int.negSucc_eq];show-((Nat.succ (m+n):Nat)+1:Int)=_;omega
theorem ineg_eq (x:Int):ineg x= -x:=by
 cases x<;>simp only [ineg]<;>rename_i m
 ·cases h:Nat.beq m 0 with
  |true=>have:=Nat.eq_of_beq_eq_true h;subst this;rfl
  |false=>
   have:m≠0:=by rintro rfl;simp at h
   simp only [cond_false,Int.negSucc_eq]
   show-((m-1:Nat)+1:Int)= -(m:Int);omega
 ·simp only [Int.negSucc_eq];show ((Nat.succ m:Nat):Int)=_;omega
theorem ilt_eq (x y:Int):ilt x y=decide (x<y):=by
 cases x<;>cases y<;>simp only [ilt]<;>rename_i m n
 ·rw [Bool.eq_iff_iff,Nat.blt_eq];simp
 ·symm;simp only [decide_eq_false_iff_not,Int.negSucc_eq];show ¬((m:Int)<_);omega
 ·symm;simp only [decide_eq_true_eq,Int.negSucc_eq];show _<(n:Int);omega
 ·rw [Bool.eq_iff_iff,Nat.blt_eq,decide_eq_true_eq,Int.negSucc_eq,Int.negSucc_eq];omega
theorem ieq_eq (x y:Int):ieq x y=(x==y):=by
 rw [Bool.eq_iff_iff,beq_iff_eq]
 cases x<;>cases y<;>simp only [ieq]<;>rename_i m n
 ·constructor
  ·intro h;rw [Nat.eq_of_beq_eq_true h]
  ·intro h;cases h;exact Nat.beq_refl m
 ·simp
 ·simp
 ·constructor
  ·intro h;rw [Nat.eq_of_beq_eq_true h]
  ·intro h;cases h;exact Nat.beq_refl m
theorem nlt_eq (x y:Int):(!(decide (y<x)))=decide (x≤y):=by
 by_cases h:y<x
 ·rw [decide_eq_true h,decide_eq_false (by omega)];rfl
 ·rw [decide_eq_false h,decide_eq_true (by omega)];rfl
theorem inRng_iff {k:Int} {m:Nat}:inRng k m=true↔0≤k∧k<m:=by
 cases k with
 |ofNat n=>
  have e:(Nat.blt n m=true)=(n<m):=Nat.blt_eq
  show Nat.blt n m=true↔0≤(n:Int)∧(n:Int)<m
  rw [e];omega
 |negSucc n=>
  constructor
  ·intro h;cases h
  ·intro h;have:=h.1;rw [Int.negSucc_eq] at this;omega
theorem read_mv {x:Operand} {y:Od} (ho:o.op= .move x∨o.op= .assign x) (hx:compOd x=some y)
 (hF:FRel σ N E a) (he:(VOp.mv y).ev E H.g=some v):ReadOk P σ w a o v:=by
 refine .of (compOd_ok hx hF he) fun w2 _=> ?_
 rcases ho with ho|ho<;>simp [execOp,ho]
theorem bool_inv {b:Bool} {v':Value} (h:VRel σ (.bool b) v'):v'= .bool b:=by cases h;rfl
theorem int_inv {k:IntKind} {n:Int} {v':Value} (h:VRel σ (.int k n) v'):v'= .int k n:=by cases h;rfl
theorem str_inv {s:List UInt8} {v':Value} (h:VRel σ (.str s) v'):v'= .string ⟨s.toArray⟩:=by cases h;rfl
theorem ptr_inv {p:PA} {v':Value} (h:VRel σ (.ptr (some p)) v'): ∃ad,v'= .pointer (some ad)∧σ.place p ad:=by cases h;exact ⟨_,rfl,by assumption⟩
theorem fn_inv {f:FuncId} {c:List VV} {v':Value} (h:VRel σ (.fn f c) v'): ∃c',v'= .func (.func f) #[] c'∧LRel σ c c'.toList:=by cases h;exact ⟨_,rfl,by assumption⟩
theorem agg_inv {c:List VV} {v':Value} (h:VRel σ (.agg c) v'): ∃c',v'= .agg c'∧LRel σ c c'.toList:=by cases h;exact ⟨_,rfl,by assumption⟩
theorem tup_inv {c:List VV} {v':Value} (h:VRel σ (.tup c) v'): ∃c',v'= .tuple c'∧LRel σ c c'.toList:=by cases h;exact ⟨_,rfl,by assumption⟩
theorem sl_inv {p:PA} {m c:Nat} {v':Value} (h:VRel σ (.sl (some p) m c) v'): ∃ad c',v'= .slice (some ad) m c'∧SlRel σ p m c ad c':=by cases h;exact ⟨_,_,rfl,by assumption⟩
theorem yield_inv {b:Nat} {v':Value} (h:VRel σ (.yield b) v'): ∃I,v'= .func (.yield I.real) #[] #[]∧σ b=some I:=by cases h;exact ⟨_,rfl,by assumption⟩
theorem ifc_inv {t:TypeId} {v:VV} {v':Value} (h:VRel σ (.ifc t v) v'): ∃w,v'= .iface t w∧VRel σ v w:=by cases h;exact ⟨_,rfl,by assumption⟩
theorem sl_inv' {p:Option PA} {m c:Nat} {v':Value} (h:VRel σ (.sl p m c) v'): ∃ad c',v'= .slice ad m c':=by cases h<;>exact ⟨_,_,rfl⟩
theorem read_pick {c x y:Operand} {c' x' y':Od} (ho:o.op= .pick c x y) (hc:compOd c=some c') (hx:compOd x=some x') (hy:compOd y=some y')
 (hF:FRel σ N E a) (he:(VOp.pick c' x' y').ev E H.g=some v):ReadOk P σ w a o v:=by
 simp only [VOp.ev] at he
 cases h1:c'.ev E with
 |none=>simp [h1] at he
 |some u=>
  have hu:=compOd_ok hc hF h1
  cases u<;>simp [h1] at he
  rename_i b
  have e1:=bool_inv hu
  cases b with
  |true=>simp at he;exact .of (compOd_ok hx hF he) fun w2 _=>by simp [execOp,ho,e1,asBool]
  |false=>simp at he;exact .of (compOd_ok hy hF he) fun w2 _=>by simp [execOp,ho,e1,asBool]
theorem read_nilck {x:Operand} {y:Od} (ho:o.op= .nilCheck x) (hx:compOd x=some y)
 (hF:FRel σ N E a) (he:(VOp.nilck y).ev E H.g=some v):ReadOk P σ w a o v:=by
 simp only [VOp.ev] at he
 cases h1:y.ev E with
 |none=>simp [h1] at he
 |some u=>
  have hu:=compOd_ok hx hF h1
  cases u<;>simp [h1] at he
  ·rename_i p
   cases p with
   |none=>simp at he
   |some p=>
    simp at he;subst he
    obtain ⟨ad,e1,_⟩:=ptr_inv hu
    exact .of hu fun w2 _=>by simp [execOp,ho,e1]
  ·subst he
   obtain ⟨c',e1,_⟩:=fn_inv hu
   exact .of hu fun w2 _=>by simp [execOp,ho,e1]
  ·subst he
   obtain ⟨I,e1,_⟩:=yield_inv hu
   exact .of hu fun w2 _=>by simp [execOp,ho,e1]
  ·subst he
   obtain ⟨I,e1,_⟩:=ifc_inv hu
   exact .of hu fun w2 _=>by simp [execOp,ho,e1]
theorem run_iarith {op:BinOp} {k:IntKind} {x y:Int} {t:TypeId} (hop:op≠ .shl) (hop':op≠ .shr) (he:iarith op k x y=some v) (w2:World):
 ∃v',VRel σ v v'∧(Go.binOp op t (.int k x) (.int k y)).run P w2= .ok v' w2∧ ∀w3,(Go.binOp op t (.int k x) (.int k y)).run P w3= .ok v' w3:=by
 cases op<;>simp only [iarith,wrapK_eq,iadd_eq,ineg_eq,ilt_eq,ieq_eq,nlt_eq,←Int.sub_eq_add_neg] at he<;>try (simp at he)
 case add=>subst he;exact ⟨_,.int _ _,by simp [Go.binOp,Op.intArith],fun _=>by simp [Go.binOp,Op.intArith]⟩
 case sub=>subst he;exact ⟨_,.int _ _,by simp [Go.binOp,Op.intArith],fun _=>by simp [Go.binOp,Op.intArith]⟩
 case mul=>subst he;exact ⟨_,.int _ _,by simp [Go.binOp,Op.intArith],fun _=>by simp [Go.binOp,Op.intArith]⟩
 case quo=>obtain ⟨h0,he⟩:=he;subst he;exact ⟨_,.int _ _,by simp [Go.binOp,Op.intDiv,h0],fun _=>by simp [Go.binOp,Op.intDiv,h0]⟩
 case rem=>obtain ⟨h0,he⟩:=he;subst he;exact ⟨_,.int _ _,by simp [Go.binOp,Op.intDiv,h0],fun _=>by simp [Go.binOp,Op.intDiv,h0]⟩
 case eql=>subst he;exact ⟨_,.bool _,by simp [Go.binOp,Op.intCmp],fun _=>by simp [Go.binOp,Op.intCmp]⟩
 case neq=>subst he;exact ⟨_,.bool _,by simp [Go.binOp,Op.intCmp];rfl,fun _=>by simp [Go.binOp,Op.intCmp];rfl⟩
 case lss=>subst he;exact ⟨_,.bool _,by simp [Go.binOp,Op.intCmp],fun _=>by simp [Go.binOp,Op.intCmp]⟩
 case leq=>subst he;exact ⟨_,.bool _,by simp [Go.binOp,Op.intCmp],fun _=>by simp [Go.binOp,Op.intCmp]⟩
 case gtr=>subst he;exact ⟨_,.bool _,by simp [Go.binOp,Op.intCmp],fun _=>by simp [Go.binOp,Op.intCmp]⟩
 case geq=>subst he;exact ⟨_,.bool _,by simp [Go.binOp,Op.intCmp],fun _=>by simp [Go.binOp,Op.intCmp]⟩
 case and=>subst he;exact ⟨_,.int _ _,by simp [Go.binOp,Op.intBits],fun _=>by simp [Go.binOp,Op.intBits]⟩
 case or=>subst he;exact ⟨_,.int _ _,by simp [Go.binOp,Op.intBits],fun _=>by simp [Go.binOp,Op.intBits]⟩
 case xor=>subst he;exact ⟨_,.int _ _,by simp [Go.binOp,Op.intBits],fun _=>by simp [Go.binOp,Op.intBits]⟩
 case andNot=>subst he;exact ⟨_,.int _ _,by simp [Go.binOp,Op.intBits],fun _=>by simp [Go.binOp,Op.intBits]⟩
theorem run_eqGuard_scalar {op:BinOp} {t:TypeId} {x y:Operand} {u u':Value} (h:(∃k n,u= .int k n)∨(∃b,u= .bool b)∨(∃s,u= .string s)) (w2:World):
 (eqGuard op t x y u u').run P w2= .ok () w2:=by
 rcases h with ⟨k,n,rfl⟩|⟨b,rfl⟩|⟨s,rfl⟩<;>(unfold eqGuard;split<;>rfl)
theorem run_equal_bool {t:TypeId} (ht:P.underlying t=some .bool) (b c:Bool) (w2:World):(Op.equal t (.bool b) (.bool c)).run P w2= .ok (b==c) w2:=by
 have key: ∀d,(Op.equalIn (d+1) t (.bool b) (.bool c)).run P w2= .ok (b==c) w2:=fun d=>by
  simp only [Op.equalIn,Sem.run_bind,underlying,run_program,Result.andThen_ok,ht,Sem.run_pure]
 exact key 9999
theorem read_bin {op:BinOp} {t t':TypeId} {x y:Operand} {x' y':Od} (ho:o.op= .binOp op t x y t') (hop:op≠ .shl) (hop':op≠ .shr) (hx:compOd x=some x') (hy:compOd y=some y')
 (hF:FRel σ N E a) (he:(VOp.bin op x' y').ev E H.g=some v):ReadOk P σ w a o v:=by
 simp only [VOp.ev] at he
 cases h1:x'.ev E with
 |none=>simp [h1] at he
 |some u=>
  cases h2:y'.ev E with
  |none=>simp [h1,h2] at he
  |some u2=>
   simp [h1,h2] at he
   have r1:=compOd_ok hx hF h1
   have r2:=compOd_ok hy hF h2
   unfold Wm.bin at he
   split at he
   ·rename_i k m k' m'
    split at he
    case isFalse=>cases he
    rename_i hk
    subst hk
    have e1:=int_inv r1
    have e2:=int_inv r2
    obtain ⟨v',q1,_,q2⟩:=run_iarith (σ:=σ) (P:=P) (t:=t) hop hop' he w
    exact .of q1 fun w2 _=>by simp [execOp,ho,e1,e2,run_eqGuard_scalar (.inl ⟨_,_,rfl⟩),q2]
   ·cases he
theorem read_sh {left:Bool} {t t':TypeId} {x y:Operand} {x' y':Od} (ho:o.op= .binOp (if left then .shl else .shr) t x y t') (hx:compOd x=some x') (hy:compOd y=some y')
 (hF:FRel σ N E a) (he:(VOp.sh left x' y').ev E H.g=some v):ReadOk P σ w a o v:=by
 simp only [VOp.ev] at he
 cases h1:x'.ev E with
 |none=>simp [h1] at he
 |some u=>
  cases h2:y'.ev E with
  |none=>cases u<;>simp [h1,h2] at he
  |some u2=>
   have r1:=compOd_ok hx hF h1
   have r2:=compOd_ok hy hF h2
   cases u<;>simp [h1,h2] at he
   rename_i k m
   cases u2<;>simp [wrapK_eq] at he
   rename_i k' n
   obtain ⟨h0,he⟩:=he
   have e1:=int_inv r1
   have e2:=int_inv r2
   subst he
   have hn: ¬n<0:=by omega
   refine .of (.int _ _) fun w2 _=> ?_
   cases left<;>simp only [if_true,Bool.false_eq_true,if_false] at ho<;>
    simp [execOp,ho,e1,e2,run_eqGuard_scalar (.inl ⟨_,_,rfl⟩),Go.binOp,Op.shift,hn]
theorem read_beq {neg:Bool} {t t':TypeId} {x y:Operand} {x' y':Od} (ho:o.op= .binOp (if neg then .neq else .eql) t x y t') (ht:P.underlying t=some .bool) (hx:compOd x=some x') (hy:compOd y=some y')
 (hF:FRel σ N E a) (he:(VOp.beq neg x' y').ev E H.g=some v):ReadOk P σ w a o v:=by
 simp only [VOp.ev] at he
 cases h1:x'.ev E with
 |none=>simp [h1] at he
 |some u=>
  cases h2:y'.ev E with
  |none=>cases u<;>simp [h1,h2] at he
  |some u2=>
   have r1:=compOd_ok hx hF h1
   have r2:=compOd_ok hy hF h2
   cases u<;>simp [h1,h2] at he
   rename_i b
   cases u2<;>simp at he
   rename_i c
   have e1:=bool_inv r1
   have e2:=bool_inv r2
   subst he
   refine .of (.bool _) fun w2 _=> ?_
   have q:=run_equal_bool (P:=P) ht b c w2
   cases neg<;>simp only [if_true,Bool.false_eq_true,if_false] at ho
   ·simp only [execOp,ho,e1,e2,Sem.run_bind,run_eqGuard_scalar (.inr (.inl ⟨_,rfl⟩)),Result.andThen_ok,Go.binOp,q,Sem.run_pure];rfl
   ·simp only [execOp,ho,e1,e2,Sem.run_bind,run_eqGuard_scalar (.inr (.inl ⟨_,rfl⟩)),Result.andThen_ok,Go.binOp,q,Sem.run_pure];rfl
theorem read_not {t:TypeId} {x:Operand} {y:Od} (ho:o.op= .unOp .not t x) (hx:compOd x=some y)
 (hF:FRel σ N E a) (he:(VOp.not y).ev E H.g=some v):ReadOk P σ w a o v:=by
 simp only [VOp.ev] at he
 cases h1:y.ev E with
 |none=>simp [h1] at he
 |some u=>
  have hu:=compOd_ok hx hF h1
  cases u<;>simp [h1] at he
  subst he
  have e1:=bool_inv hu
  exact .of (.bool _) fun w2 _=>by simp [execOp,ho,e1,Op.unary]
theorem read_conv {s d:TypeId} {x:Operand} {y:Od} {k k':IntKind} (ho:o.op= .convert s d x) (hs:P.underlying s=some (.int k')) (hd:P.underlying d=some (.int k)) (hx:compOd x=some y)
 (hF:FRel σ N E a) (he:(VOp.conv k y).ev E H.g=some v):ReadOk P σ w a o v:=by
 simp only [VOp.ev] at he
 cases h1:y.ev E with
 |none=>simp [h1] at he
 |some u=>
  have hu:=compOd_ok hx hF h1
  cases u<;>simp [h1] at he
  subst he
  have e1:=int_inv hu
  exact .of (.int _ _) fun w2 _=>by simp [execOp,ho,e1,Go.convert,underlying,hs,hd,Conv.intToInt,wrapK_eq]
theorem evs_rel {xs:List Operand} {ys:List Od} (hx:xs.mapM compOd=some ys) (hF:FRel σ N E a) {l:List VV} (he:Od.evs E ys=some l):LRel σ l (xs.map a.eval):=by
 induction xs generalizing ys l with
 |nil=>simp at hx;subst hx;simp [Od.evs] at he;subst he;exact .nil
 |cons x xs ih=>
  rw [List.mapM_cons] at hx
  cases h1:compOd x with
  |none=>simp [h1] at hx
  |some y=>
   cases h2:xs.mapM compOd with
   |none=>simp [h1,h2] at hx
   |some ys'=>
    simp [h1,h2] at hx
    subst hx
    simp only [Od.evs] at he
    cases h3:y.ev E with
    |none=>simp [h3] at he
    |some u=>
     cases h4:Od.evs E ys' with
     |none=>simp [h3,h4] at he
     |some l'=>
      simp [h3,h4] at he
      subst he
      exact .cons (compOd_ok h1 hF h3) (ih h2 h4)
theorem read_mkfn {f:FuncId} {first caps:Array Operand} {ys:List Od} (ho:o.op= .makeFunc (.func f) first caps) (h0:first.size=0) (hx:caps.toList.mapM compOd=some ys)
 (hF:FRel σ N E a) (he:(VOp.mkfn f ys).ev E H.g=some v):ReadOk P σ w a o v:=by
 simp only [VOp.ev] at he
 cases h1:Od.evs E ys with
 |none=>simp [h1] at he
 |some l=>
  simp [h1] at he
  subst he
  have hl:=evs_rel hx hF h1
  have hf:first=#[]:=Array.eq_empty_of_size_eq_zero h0
  exact .of (.fn (caps':=caps.map a.eval) (by simpa using hl)) fun w2 _=>by simp [execOp,ho,hf,Instr.makeFunc]
theorem read_faddr {s:TypeId} {x:Operand} {f:Nat} {y:Od} {g:Field} {i:TypeInfo} (ho:o.op= .fieldAddr s x f) (hg:structField P s f=some g) (hi:P.info? g.type=some i) (hz:i.size≠0) (hx:compOd x=some y)
 (hF:FRel σ N E a) (he:(VOp.faddr g.offset y).ev E H.g=some v):ReadOk P σ w a o v:=by
 simp only [VOp.ev] at he
 cases h1:y.ev E with
 |none=>simp [h1] at he
 |some u=>
  have hu:=compOd_ok hx hF h1
  cases u<;>simp [h1] at he
  rename_i p
  cases p with
  |none=>simp at he
  |some p=>
   simp at he;subst he
   obtain ⟨ad,e1,I,hI,rfl⟩:=ptr_inv hu
   unfold structField at hg
   split at hg
   ·rename_i fs hu
    refine .of (.ptr (a:=(⟨I.real,I.base+p.idx*I.esz+p.off,none⟩:Addr).add g.offset) ⟨I,hI,?_⟩) fun w2 _=> ?_
    ·unfold Addr.add;split
     ·rename_i h0;simp [h0]
     ·simp [Nat.add_assoc]
    ·simp [execOp,ho,e1,Instr.fieldAt,underlying,hu,hg,Instr.sureAddr,fieldPlace,sizeOf,typeInfo,hi,hz]
   ·cases hg
theorem part_run {t:TypeId} {n:Nat} {ag:Bool} (ht:aggOf P t=some (n,ag)) {cs:List VV} {cs':Array Value} (hr:LRel σ cs cs'.toList) {off:Nat} (hp:partOf cs off n ag=some v):
 ∃v',VRel σ v v'∧ ∀w2,(part t cs' off).run P w2= .ok v' w2:=by
 unfold partOf at hp
 cases ag with
 |true=>
  simp at hp
  obtain ⟨hle,hp⟩:=hp
  subst hp
  refine ⟨.agg (cs'.extract off (off+n)),.agg ?_,fun w2=>by simp [part,aggOf_run ht]⟩
  refine LRel.of_get ?_ fun i u hu=> ?_
  ·simp [hr.length]
  ·rw [List.getElem?_take] at hu
   split at hu
   ·rw [List.getElem?_drop] at hu
    obtain ⟨v',h1,h2⟩:=hr.get hu
    refine ⟨v',?_,h2⟩
    rw [←h1]
    simp only [Array.toList_extract,List.extract_eq_take_drop,List.getElem?_take,List.getElem?_drop]
    rw [if_pos (by omega)]
   ·cases hu
 |false=>
  simp at hp
  obtain ⟨v',h1,h2⟩:=hr.get hp
  exact ⟨v',h2,fun w2=>by simp at h1;simp [part,aggOf_run ht,h1]⟩
theorem read_fld {s:TypeId} {x:Operand} {f:Nat} {y:Od} {g:Field} {n:Nat} {b:Bool} (ho:o.op= .field s x f) (hg:structField P s f=some g) (hi:aggOf P g.type=some (n,b)) (hx:compOd x=some y)
 (hF:FRel σ N E a) (he:(VOp.fld g.offset n b y).ev E H.g=some v):ReadOk P σ w a o v:=by
 simp only [VOp.ev] at he
 cases h1:y.ev E with
 |none=>simp [h1] at he
 |some u=>
  have hu:=compOd_ok hx hF h1
  cases u<;>simp [h1] at he
  obtain ⟨cs',e1,hl⟩:=agg_inv hu
  unfold structField at hg
  split at hg
  ·rename_i fs hu
   obtain ⟨v',q1,q2⟩:=part_run hi hl he
   exact .of q1 fun w2 _=>by simp [execOp,ho,e1,Instr.field,underlying,hu,hg,asAgg,q2]
  ·cases hg
theorem SlRel.placed {p:PA} {m c:Nat} {ad:Addr} {c':Nat} (h:SlRel σ p m c ad c') (hm:0<m):σ.place p ad:=by
 obtain ⟨h0,h⟩:=h
 rcases h with h|⟨I,k,_,_,_,h,_⟩|h
 ·exact h.1
 ·exact h
 ·omega
theorem read_ixa {t e:TypeId} {x i:Operand} {x' i':Od} {j:TypeInfo} (ho:o.op= .indexAddr t x i) (ht:P.underlying t=some (.slice e)) (hj:P.info? e=some j) (hx:compOd x=some x') (hi:compOd i=some i')
 (hH:HRel P σ B H w) (hF:FRel σ N E a) (he:(VOp.ixa j.size x' i').ev E H.g=some v):ReadOk P σ w a o v:=by
 simp only [VOp.ev] at he
 cases h1:x'.ev E with
 |none=>simp [h1] at he
 |some u=>
  cases h2:i'.ev E with
  |none=>cases u<;>simp [h1,h2] at he
  |some u2=>
   have r1:=compOd_ok hx hF h1
   have r2:=compOd_ok hi hF h2
   cases u<;>simp [h1,h2] at he
   rename_i p m c
   cases p with
   |none=>simp at he
   |some p=>
    cases u2<;>simp at he
    rename_i k n
    obtain ⟨hn,he⟩:=he
    obtain ⟨hn0,hn1⟩:=inRng_iff.1 hn
    cases hq:ixp H.g p n.toNat j.size with
    |none=>simp [hq] at he
    |some q=>
     simp [hq] at he;subst he
     obtain ⟨ad,c',e1,hs⟩:=sl_inv r1
     have e2:=int_inv r2
     refine .of (.ptr (ixp_ok hH hq (hs.placed (by omega)))) fun w2 _=> ?_
     simp [execOp,ho,e1,e2,Instr.indexAt,asIntOf,underlying,ht,hn0,hn1,sizeOf,typeInfo,hj]
theorem read_ixar {t e:TypeId} {len:Nat} {x i:Operand} {x' i':Od} {j:TypeInfo} (ho:o.op= .indexAddr t x i) (ht:P.underlying t=some (.array len e)) (hj:P.info? e=some j) (hx:compOd x=some x') (hi:compOd i=some i')
 (hH:HRel P σ B H w) (hF:FRel σ N E a) (he:(VOp.ixar len j.size x' i').ev E H.g=some v):ReadOk P σ w a o v:=by
 simp only [VOp.ev] at he
 cases h1:x'.ev E with
 |none=>simp [h1] at he
 |some u=>
  cases h2:i'.ev E with
  |none=>cases u<;>simp [h1,h2] at he
  |some u2=>
   have r1:=compOd_ok hx hF h1
   have r2:=compOd_ok hi hF h2
   cases u<;>simp [h1,h2] at he
   rename_i p
   cases p with
   |none=>simp at he
   |some p=>
    cases u2<;>simp at he
    rename_i k n
    obtain ⟨hn,he⟩:=he
    obtain ⟨hn0,hn1⟩:=inRng_iff.1 hn
    cases hq:ixp H.g p n.toNat j.size with
    |none=>simp [hq] at he
    |some q=>
     simp [hq] at he;subst he
     obtain ⟨ad,e1,hs⟩:=ptr_inv r1
     have e2:=int_inv r2
     refine .of (.ptr (ixp_ok hH hq hs)) fun w2 _=> ?_
     simp [execOp,ho,e1,e2,Instr.indexAt,asIntOf,underlying,ht,hn0,hn1,sizeOf,typeInfo,hj,Instr.sureAddr]
theorem one_arg {c:Call} {x:Operand} {t:TypeId} (ha:c.args.toList=[x]) (hta:c.argTypes.toList=[t]):c.args=#[x]∧c.argTypes=#[t]:=
 ⟨by cases hh:c.args;rw [hh] at ha;simp at ha;rw [ha],by cases hh:c.argTypes;rw [hh] at hta;simp at hta;rw [hta]⟩
theorem read_lens {c:Call} {x:Operand} {y:Od} {t e:TypeId} (ho:o.op= .call c) (hc:c.callee= .builtin .len) (ha:c.args.toList=[x]) (hta:c.argTypes.toList=[t]) (ht:P.underlying t=some (.slice e)) (hx:compOd x=some y)
 (hF:FRel σ N E a) (he:(VOp.lens y).ev E H.g=some v):ReadOk P σ w a o v:=by
 obtain ⟨ha',hta'⟩:=one_arg ha hta
 simp only [VOp.ev] at he
 cases h1:y.ev E with
 |none=>simp [h1] at he
 |some u=>
  have r1:=compOd_ok hx hF h1
  cases u<;>simp [h1] at he
  subst he
  obtain ⟨ad,c',e1⟩:=sl_inv' r1
  refine .of (.int _ _) fun w2 _=> ?_
  simp [execOp,ho,resolve,hc,ha',invoke,builtin,Builtin.len_,hta',e1,underlying,ht,goInt]
theorem read_lent {c:Call} {x:Operand} {y:Od} {t:TypeId} (ho:o.op= .call c) (hc:c.callee= .builtin .len) (ha:c.args.toList=[x]) (hta:c.argTypes.toList=[t]) (ht:P.underlying t=some .string) (hx:compOd x=some y)
 (hF:FRel σ N E a) (he:(VOp.lent y).ev E H.g=some v):ReadOk P σ w a o v:=by
 obtain ⟨ha',hta'⟩:=one_arg ha hta
 simp only [VOp.ev] at he
 cases h1:y.ev E with
 |none=>simp [h1] at he
 |some u=>
  have r1:=compOd_ok hx hF h1
  cases u<;>simp [h1] at he
  subst he
  have e1:=str_inv r1
  refine .of (.int _ _) fun w2 _=> ?_
  simp [execOp,ho,resolve,hc,ha',invoke,builtin,Builtin.len_,hta',e1,underlying,ht,goInt]
  rfl
theorem read_min {c:Call} {x y:Operand} {x' y':Od} (ho:o.op= .call c) (hc:c.callee= .builtin .min) (ha:c.args.toList=[x,y]) (hx:compOd x=some x') (hy:compOd y=some y')
 (hF:FRel σ N E a) (he:(VOp.min2 x' y').ev E H.g=some v):ReadOk P σ w a o v:=by
 have ha':c.args=#[x,y]:=by cases hh:c.args;rw [hh] at ha;simp at ha;rw [ha]
 simp only [VOp.ev] at he
 cases h1:x'.ev E with
 |none=>simp [h1] at he
 |some u=>
  cases h2:y'.ev E with
  |none=>cases u<;>simp [h1,h2] at he
  |some u2=>
   have r1:=compOd_ok hx hF h1
   have r2:=compOd_ok hy hF h2
   cases u<;>simp [h1,h2] at he
   cases u2<;>simp at he
   subst he
   have e1:=int_inv r1
   have e2:=int_inv r2
   exact .of (.int _ _) fun w2 _=>by simp [execOp,ho,resolve,hc,ha',invoke,builtin,Builtin.min_,Builtin.min2,e1,e2]
theorem read_max {c:Call} {x y:Operand} {x' y':Od} (ho:o.op= .call c) (hc:c.callee= .builtin .max) (ha:c.args.toList=[x,y]) (hx:compOd x=some x') (hy:compOd y=some y')
 (hF:FRel σ N E a) (he:(VOp.max2 x' y').ev E H.g=some v):ReadOk P σ w a o v:=by
 have ha':c.args=#[x,y]:=by cases hh:c.args;rw [hh] at ha;simp at ha;rw [ha]
 simp only [VOp.ev] at he
 cases h1:x'.ev E with
 |none=>simp [h1] at he
 |some u=>
  cases h2:y'.ev E with
  |none=>cases u<;>simp [h1,h2] at he
  |some u2=>
   have r1:=compOd_ok hx hF h1
   have r2:=compOd_ok hy hF h2
   cases u<;>simp [h1,h2] at he
   cases u2<;>simp at he
   subst he
   have e1:=int_inv r1
   have e2:=int_inv r2
   exact .of (.int _ _) fun w2 _=>by simp [execOp,ho,resolve,hc,ha',invoke,builtin,Builtin.max_,Builtin.max2,e1,e2]
theorem read_ext {x:Operand} {i:Nat} {y:Od} (ho:o.op= .extract x i) (hx:compOd x=some y)
 (hF:FRel σ N E a) (he:(VOp.ext i y).ev E H.g=some v):ReadOk P σ w a o v:=by
 simp only [VOp.ev] at he
 cases h1:y.ev E with
 |none=>simp [h1] at he
 |some u=>
  have r1:=compOd_ok hx hF h1
  cases u<;>simp [h1] at he
  obtain ⟨c',e1,hl⟩:=tup_inv r1
  obtain ⟨v',q1,q2⟩:=hl.get he
  exact .of q2 fun w2 _=>by simp at q1;simp [execOp,ho,e1,Instr.extract,q1]
theorem upd_get: ∀(cs:List VV) (e:List VV) (off:Nat),off+cs.length≤e.length→(upd e off cs).length=e.length∧
 ∀k:Nat,(upd e off cs)[k]? =if off≤k∧k<off+cs.length then cs[k-off]? else e[k]?
 |[],e,off,h=>⟨rfl,fun k=>by
  have: ¬(off≤k∧k<off+([]:List VV).length):=by intro h;simp at h;omega
  rw [if_neg this];rfl⟩
 |c::cs,e,off,h=>by
  have hl:off+1+cs.length≤(e.set off c).length:=by simp at h ⊢;omega
  obtain ⟨h1,h2⟩:=upd_get cs (e.set off c) (off+1) hl
  have hdef:upd e off (c::cs)=upd (e.set off c) (off+1) cs:=rfl
  refine ⟨by rw [hdef,h1];simp,fun k=> ?_⟩
  rw [hdef,h2,List.length_cons]
  by_cases hk:k=off
  ·subst hk
   rw [if_neg (by omega),if_pos (by omega),List.getElem?_set_self (by simp at h;omega)]
   simp
  ·by_cases hk2:off+1≤k∧k<off+1+cs.length
   ·rw [if_pos hk2,if_pos (by omega),show k-off=(k-(off+1))+1 by omega];rfl
   ·rw [if_neg hk2,if_neg (by omega),List.getElem?_set_ne (Ne.symm hk)]
theorem cells_rel {u:VV} {u':Value} (h:VRel σ u u') (hd:u.defd=true):LRel σ u.cells u'.cells.toList:=by
 cases h with
 |undef=>simp [VV.defd] at hd
 |bool b=>exact .cons (.bool b) .nil
 |int k n=>exact .cons (.int k n) .nil
 |str s=>exact .cons (.str s) .nil
 |ptrNil=>exact .cons .ptrNil .nil
 |ptr h=>exact .cons (.ptr h) .nil
 |slNil=>exact .cons .slNil .nil
 |mapNil=>exact .cons .mapNil .nil
 |map h=>exact .cons (.map h) .nil
 |sl h=>exact .cons (.sl h) .nil
 |fn h=>exact .cons (.fn h) .nil
 |nilFn=>exact .cons .nilFn .nil
 |agg h=>exact h
 |tup h=>exact .cons (.tup h) .nil
 |nilI=>exact .cons .nilI .nil
 |yield h=>exact .cons (.yield h) .nil
 |ifc h=>exact .cons (.ifc h) .nil
theorem LRel.set {l:List VV} {l':List Value} (h:LRel σ l l') {u:VV} {u':Value} (hu:VRel σ u u'): ∀i,LRel σ (l.set i u) (l'.set i u'):=by
 induction l generalizing l' with
 |nil=>intro i;cases h;exact .nil
 |cons x l ih=>
  intro i
  cases h with
  |cons h1 h2=>cases i with
   |zero=>exact .cons hu h2
   |succ i=>exact .cons h1 (ih h2 i)
theorem foldl_set_rel (off:Nat): ∀(vs:List VV) (vs':List Value),LRel σ vs vs'→ ∀(k:Nat) (cs:List VV) (cur:Array Value),LRel σ cs cur.toList→
 LRel σ (upd cs (off+k) vs) ((vs'.zipIdx k).foldl (fun (c:Array Value) (x:Value×Nat)=>c.setIfInBounds (off+x.2) x.1) cur).toList
 |[],_,.nil,k,cs,cur,h=>h
 |_::vs,_::vs',.cons h1 h2,k,cs,cur,h=>by
  simp only [upd,List.zipIdx_cons,List.foldl_cons,Nat.add_assoc]
  exact foldl_set_rel off vs vs' h2 (k+1) _ _ (by rw [Array.toList_setIfInBounds];exact h.set h1 _)
theorem fill_rel {place:Nat→Option (Nat×Nat)}: ∀(parts:List (Nat×Operand)) {l:List (Nat×Nat×Od)} {cs r:List VV} {cur:Array Value},FRel σ N E a→LRel σ cs cur.toList→compParts P place parts=some l→fillVV E cs l=some r→
 ∃cur',Instr.fill place cur (parts.map fun x=>(x.1,a.eval x.2))=some cur'∧LRel σ r cur'.toList
 |[],l,cs,r,cur,hF,h,hl,hr=>by
  simp [compParts] at hl;subst hl;simp [fillVV] at hr;subst hr
  exact ⟨cur,rfl,h⟩
 |(i,x)::parts,l,cs,r,cur,hF,h,hl,hr=>by
  unfold compParts at hl
  split at hl
  case h_2=>cases hl
  rename_i o n y l' hpl hy hrest
  simp at hl;subst hl
  simp only [fillVV] at hr
  cases hv:y.ev E with
  |none=>simp [hv] at hr
  |some u=>
   rw [hv] at hr
   simp only at hr
   split at hr
   case isFalse=>cases hr
   rename_i hc
   obtain ⟨hc1,hc2,hc3⟩:=hc
   have hu:=compOd_ok hy hF hv
   have hcr:=cells_rel hu hc2
   have hsz:(a.eval x).cells.size=n:=by rw [←hc1,hcr.length];simp
   have hsz2: ¬(o+(a.eval x).cells.size>cur.size):=by
    have e1:cs.length=cur.size:=by rw [h.length];simp
    omega
   have key:=foldl_set_rel (σ:=σ) o _ _ hcr 0 cs cur h
   obtain ⟨cur',q1,q2⟩:=fill_rel parts (cur:=((a.eval x).cells.toList.zipIdx 0).foldl (fun (c:Array Value) (z:Value×Nat)=>c.setIfInBounds (o+z.2) z.1) cur) hF (by simpa using key) hrest hr
   refine ⟨cur',?_,q2⟩
   rw [←q1]
   simp only [List.map_cons,Instr.fill,hpl,hsz,bne_self_eq_false,Bool.false_or]
   rw [hsz] at hsz2
   simp only [ne_eq,not_true_eq_false,decide_false,hsz2,Bool.or_self,Bool.false_eq_true,if_false]
   congr 1
   rw [←Array.foldl_toList,Array.toList_zipIdx]
theorem mapM_const: ∀(cs:List Value) (zs:List VV),cs.mapM constVV=some zs→LRel σ zs cs
 |[],zs,h=>by simp at h;subst h;exact .nil
 |c::cs,zs,h=>by
  rw [List.mapM_cons] at h
  cases h1:constVV c with
  |none=>simp [h1] at h
  |some z=>
   cases h2:cs.mapM constVV with
   |none=>simp [h1,h2] at h
   |some zs'=>simp [h1,h2] at h;subst h;exact .cons (constVV_rel h1) (mapM_const cs zs' h2)
theorem zerosOf_run {t:TypeId} {zs:List VV} (h:zerosOf P t=some zs): ∃z,LRel σ zs z.cells.toList∧(∃i,P.info? t=some i∧i.zero=some z)∧ ∀w,(zeroValue t).run P w= .ok z w:=by
 unfold zerosOf at h
 cases hi:P.info? t with
 |none=>simp [hi] at h
 |some i=>
  cases hz:i.zero with
  |none=>simp [hi,hz] at h
  |some z=>
   simp only [hi,hz] at h
   exact ⟨z,mapM_const _ _ h,⟨i,rfl,hz⟩,fun w=>by simp [zeroValue,typeInfo,hi,hz]⟩
theorem run_places: ∀(fs:List Field),(∀f∈fs,(P.info? f.type).isSome=true)→ ∀w,(fs.mapM (m:=Sem) fun f=>do pure (f.offset,←sizeOf f.type)).run P w= .ok (fs.map fun f=>(f.offset,P.cellsOf f.type)) w
 |[],_,w=>by simp
 |f::fs,h,w=>by
  obtain ⟨i,hi⟩:=Option.isSome_iff_exists.1 (h f (by simp))
  have ih:=run_places fs (fun g hg=>h g (by simp [hg])) w
  rw [List.mapM_cons]
  simp only [Sem.run_bind,sizeOf,typeInfo,run_program,Result.andThen_ok,hi,Sem.run_pure,List.map_cons,Program.cellsOf,Option.map_some,Option.getD_some]
  simp only [sizeOf,typeInfo,Program.cellsOf] at ih
  rw [ih]
  rfl
theorem read_build_struct {t:TypeId} {parts:Array (Nat×Operand)} {zs:List VV} {fs:Array Field} {l:List (Nat×Nat×Od)} (ho:o.op= .build t parts) (hz:zerosOf P t=some zs) (ht:P.underlying t=some (.struct fs))
 (hall:(fs.all fun f=>(P.info? f.type).isSome)=true) (hl:compParts P (structPlaces P fs) parts.toList=some l) (hF:FRel σ N E a) (he:(VOp.build zs l).ev E H.g=some v):ReadOk P σ w a o v:=by
 simp only [VOp.ev] at he
 cases hf:fillVV E zs l with
 |none=>simp [hf] at he
 |some r=>
  simp [hf] at he;subst he
  obtain ⟨z,hz1,_,hz2⟩:=zerosOf_run (σ:=σ) hz
  obtain ⟨cur',q1,q2⟩:=fill_rel parts.toList hF hz1 hl hf
  refine .of (.agg q2) fun w2 _=> ?_
  have hp:=run_places (P:=P) fs.toList (fun f hf=>by have:=Array.all_eq_true'.1 hall f (by simpa using hf);exact this) w2
  have hpl:(fun i=>(fs.map fun f=>(f.offset,P.cellsOf f.type))[i]?)=structPlaces P fs:=by
   funext i
   unfold structPlaces
   cases hfi:fs[i]? with
   |none=>simp [hfi]
   |some f=>
    obtain ⟨j,hj⟩:=Option.isSome_iff_exists.1 (Array.all_eq_true'.1 hall f (Array.mem_of_getElem? hfi))
    simp [hfi,hj,Program.cellsOf]
  have hmap:(fs.mapM (m:=Sem) fun f=>do pure (f.offset,←sizeOf f.type)).run P w2= .ok (fs.map fun f=>(f.offset,P.cellsOf f.type)) w2:=by
   rw [Array.mapM_eq_mapM_toList]
   simp only [Sem.run_map,hp,Result.andThen_ok]
   congr 1
   apply Array.ext'
   simp
  simp only [execOp,ho,Instr.build,Sem.run_bind,hz2,Result.andThen_ok,underlying,run_program,ht,Sem.run_pure,hmap,hpl]
  simp only [Array.toList_map,q1,Sem.run_pure,Result.andThen_ok]
theorem read_build_array {t e:TypeId} {n:Nat} {parts:Array (Nat×Operand)} {zs:List VV} {j:TypeInfo} {l:List (Nat×Nat×Od)} (ho:o.op= .build t parts) (hz:zerosOf P t=some zs) (ht:P.underlying t=some (.array n e)) (hj:P.info? e=some j)
 (hl:compParts P (fun i=>some (i*j.size,j.size)) parts.toList=some l) (hF:FRel σ N E a) (he:(VOp.build zs l).ev E H.g=some v):ReadOk P σ w a o v:=by
 simp only [VOp.ev] at he
 cases hf:fillVV E zs l with
 |none=>simp [hf] at he
 |some r=>
  simp [hf] at he;subst he
  obtain ⟨z,hz1,_,hz2⟩:=zerosOf_run (σ:=σ) hz
  obtain ⟨cur',q1,q2⟩:=fill_rel parts.toList hF hz1 hl hf
  refine .of (.agg q2) fun w2 _=> ?_
  simp only [execOp,ho,Instr.build,Sem.run_bind,hz2,Result.andThen_ok,underlying,run_program,ht,Sem.run_pure,sizeOf,typeInfo,hj]
  simp only [Array.toList_map,q1,Sem.run_pure,Result.andThen_ok]
theorem oev_rel {d:Int} {dv:Nat} {x:Option Operand} {y:Option Od} {n:Int} (hx:compO x=some y) (hF:FRel σ N E a) (he:Od.oev E d y=some n):
 (x=none∧n=d)∨ ∃k,x.map a.eval=some (.int k n):=by
 unfold compO at hx
 cases x with
 |none=>simp at hx;subst hx;simp [Od.oev] at he;exact .inl ⟨rfl,he.symm⟩
 |some x=>
  right
  cases hc:compOd x with
  |none=>simp [hc] at hx
  |some z=>
   simp [hc] at hx;subst hx
   simp only [Od.oev] at he
   cases hz:z.ev E with
   |none=>simp [hz] at he
   |some u=>
    have r:=compOd_ok hc hF hz
    cases u<;>simp [hz] at he
    subst he
    exact ⟨_,by simp [int_inv r];rfl⟩
theorem run_bound {k:IntKind} {n:Int} {y:Nat} {c:BoundsCode} (h0:0≤n) (h1:n≤y) (w2:World):(Instr.sliceBound (.int k n) y c).run P w2= .ok n.toNat w2:=by
 simp [Instr.sliceBound,asIntOf,h0,h1]
theorem run_bounds {is:Bool} {len cap:Nat} {lo hi mx:Option Value} {l h m:Int} (hlo:(lo=none∧l=0)∨ ∃k,lo=some (.int k l)) (hhi:(hi=none∧h=len)∨ ∃k,hi=some (.int k h)) (hmx:(mx=none∧m=cap)∨ ∃k,mx=some (.int k m))
 (h0:0≤l) (h1:l≤h) (h2:h≤m) (h3:m≤cap) (hno:mx.isSome=true→hi.isSome=true) (w2:World):(Instr.sliceBounds is len cap lo hi mx).run P w2= .ok (l.toNat,h.toNat,m.toNat) w2:=by
 unfold Instr.sliceBounds
 rcases hmx with ⟨rfl,rfl⟩|⟨k3,rfl⟩
 ·rcases hhi with ⟨rfl,rfl⟩|⟨k2,rfl⟩
  ·rcases hlo with ⟨rfl,rfl⟩|⟨k1,rfl⟩
   ·simp
   ·simp [run_bound h0 (y:=len) h1]
  ·rcases hlo with ⟨rfl,rfl⟩|⟨k1,rfl⟩
   ·simp [run_bound (by omega) h2]
   ·simp [run_bound (n:=h) (by omega) h2,run_bound (n:=l) (y:=h.toNat) h0 (by omega)]
 ·rcases hhi with ⟨rfl,rfl⟩|⟨k2,rfl⟩
  ·simp at hno
  ·rcases hlo with ⟨rfl,rfl⟩|⟨k1,rfl⟩
   ·simp [run_bound (n:=m) (by omega) h3,run_bound (n:=h) (y:=m.toNat) (by omega) (by omega)]
   ·simp [run_bound (n:=m) (by omega) h3,run_bound (n:=h) (y:=m.toNat) (by omega) (by omega),run_bound (n:=l) (y:=h.toNat) h0 (by omega)]
theorem place_padd (hH:HRel P σ B H w) {p:PA} {t:TypeId} {md:Mode} {e:List VV} {es:List (List VV)} (hb:H[p.blk]? =some (.row t md (e::es))) {ad:Addr} (ha:σ.place p ad) (k s:Nat):
 σ.place (padd e.length p k s) (ad.add (k*s)):=
 ixp_ok hH (p:=p) (k:=k) (s:=s) (by simp [ixp,eszOf,hb]) ha
theorem slc_rel (hH:HRel P σ B H w) {esz:Nat} {q:Option PA} {len cap:Nat} {l h m:Int} {three:Bool} (hs:slcV H.g esz q len cap l h m three=some v) {u':Value} (hu:VRel σ (.sl q len cap) u') (hm:three=false→m=cap):
 ∃ad cap',u'= .slice ad len cap'∧0≤l∧l≤h∧h≤m∧m≤cap∧cap≤cap'∧
  ∀m':Nat,(three=true→(m':Int)=m)→(three=false→m'=cap')→VRel σ v (.slice (if m'=l.toNat then ad else ad.map (·.add (l.toNat*esz))) (h.toNat-l.toNat) (m'-l.toNat)):=by
 unfold slcV at hs
 split at hs
 case isFalse=>cases hs
 rename_i hc
 obtain ⟨h0,h1,h2,h3⟩:=hc
 cases q with
 |none=>
  simp at hs;subst hs
  cases hu
  refine ⟨none,0,rfl,h0,h1,h2,h3,Nat.le_refl _,fun m' hm1 hm2=> ?_⟩
  have hm0:m'=0:=by
   cases three with
   |true=>have:=hm1 rfl;omega
   |false=>exact hm2 rfl
  subst hm0
  have:l.toNat=0:=by omega
  have:h.toNat=0:=by omega
  simp [*]
  exact .slNil
 |some p=>
  obtain ⟨ad,cap',e1,hsl⟩:=sl_inv hu
  obtain ⟨hlc,hsl⟩:=hsl
  have hcc:cap≤cap':=by
   rcases hsl with ⟨_,e⟩|⟨_,_,_,_,_,_,_,_,e⟩|⟨e,e',_⟩<;>omega
  have hI: ∃I,σ p.blk=some I:=by
   rcases hsl with ⟨⟨I,e,_⟩,_⟩|⟨I,_,e,_⟩|⟨_,_,e⟩
   ·exact ⟨I,e⟩
   ·exact ⟨I,e⟩
   ·exact e
  refine ⟨some ad,cap',e1,h0,h1,h2,h3,hcc,fun m' hm1 hm2=> ?_⟩
  simp only at hs
  split at hs
  ·rename_i hc0
   simp at hs;subst hs
   have hl0:l.toNat=0:=by omega
   have hh0:h.toNat=0:=by omega
   rw [hl0,hh0]
   have hm0:(three=true∧m'=0)∨m'=cap':=by
    cases three with
    |true=>have:=hm1 rfl;exact .inl ⟨rfl,by omega⟩
    |false=>exact .inr (hm2 rfl)
   simp only [Nat.zero_mul,Option.map_some,Nat.sub_zero,Nat.zero_sub]
   have had:ad.add 0=ad:=by simp [Addr.add]
   rw [had,ite_self]
   rcases hm0 with ⟨_,rfl⟩|rfl
   ·exact .sl ⟨Nat.le_refl _,.inr (.inr ⟨rfl,rfl,hI⟩)⟩
   ·refine .sl ⟨Nat.le_refl _,?_⟩
    rcases hsl with ⟨e2,e3⟩|⟨I,k,e2,e3,e4,e5,e6,e7,e8⟩|⟨_,e3,_⟩
    ·exact .inr (.inr ⟨rfl,by omega,hI⟩)
    ·exact .inr (.inl ⟨I,k,e2,e3,e4,e5,by omega,e7,by omega⟩)
    ·exact .inr (.inr ⟨rfl,e3,hI⟩)
  ·rename_i hc0
   split at hs
   case h_2=>cases hs
   rename_i t md e es hb
   split at hs
   case isTrue=>cases hs
   rename_i hmd
   simp at hs;subst hs
   have hpl:σ.place p ad:=by
    rcases hsl with ⟨e2,_⟩|⟨_,_,_,_,_,e5,_⟩|⟨e2,_⟩
    ·exact e2
    ·exact e5
    ·exact absurd e2 hc0
   have hmove:σ.place (if l=0 then p else padd e.length p l.toNat esz) (ad.add (l.toNat*esz)):=by
    split
    ·rename_i hl0;subst hl0;simpa [Addr.add] using hpl
    ·exact place_padd hH hb hpl _ _
   have hlen:(h-l).toNat=h.toNat-l.toNat:=by omega
   rw [hlen]
   by_cases hml:m'=l.toNat
   ·rw [if_pos hml]
    have hzero:m'-l.toNat=0:=by omega
    have hcap0:(m-l).toNat=0:=by
     cases three with
     |true=>have:=hm1 rfl;omega
     |false=>have:=hm2 rfl;have:=hm rfl;omega
    have hh0:h.toNat-l.toNat=0:=by omega
    rw [hzero,hcap0,hh0]
    exact .sl ⟨Nat.le_refl _,.inr (.inr ⟨rfl,rfl,let ⟨I,e,_⟩:=hmove;⟨I,e⟩⟩)⟩
   ·rw [if_neg hml]
    simp only [Option.map_some]
    refine .sl ⟨by omega,?_⟩
    cases three with
    |true=>have:=hm1 rfl;exact .inl ⟨hmove,by omega⟩
    |false=>
     have hm':=hm2 rfl
     have hmc:=hm rfl
     subst hm'
     rcases hsl with ⟨e2,e3⟩|⟨I,k,e2,e3,e4,e5,e6,e7,e8⟩|⟨e2,_⟩
     ·exact .inl ⟨hmove,by omega⟩
     ·
      obtain ⟨I',hR⟩:=hH.rows _ _ _ _ hb
      have eI:I'=I:=Option.some.inj (hR.here.symm.trans e2)
      subst eI
      have hml:md= .loose:=by
       cases md with
       |ro=>have:=(hR.old rfl).2;rw [this] at e3;cases e3
       |own=>have:=((hR.own (by simp)).2.1 rfl).1;rw [this] at e3;cases e3
       |loose=>rfl
      have hez:e.length=esz:=by
       rcases Classical.em (p.off=0∧e.length=esz) with h'|h'
       ·exact h'.2
       ·exact absurd ⟨hml,h'⟩ hmd
      refine .inr (.inl ⟨I',k,?_,e3,?_,hmove,?_,?_,by omega⟩)
      ·split
       ·exact e2
       ·simp [padd,e4,hez];exact e2
      ·split
       ·exact e4
       ·simp [padd,e4,hez]
      ·split
       ·rename_i hl0;subst hl0;simp;omega
       ·simp [padd,e4,hez];omega
      ·split
       ·rename_i hl0;subst hl0;simp;omega
       ·simp [padd,e4,hez];omega
     ·exact absurd e2 hc0
theorem read_slc {t e:TypeId} {x:Operand} {lo hi mx:Option Operand} {x':Od} {lo' hi' mx':Option Od} {j:TypeInfo} (ho:o.op= .slice t x lo hi mx) (ht:P.underlying t=some (.slice e)) (hj:P.info? e=some j)
 (hx:compOd x=some x') (hlo:compO lo=some lo') (hhi:compO hi=some hi') (hmx:compO mx=some mx') (hno:mx'.isSome=true→hi'.isSome=true)
 (hH:HRel P σ B H w) (hF:FRel σ N E a) (he:(VOp.slc j.size x' lo' hi' mx').ev E H.g=some v):ReadOk P σ w a o v:=by
 simp only [VOp.ev] at he
 cases h1:x'.ev E with
 |none=>simp [h1] at he
 |some u=>
  have r1:=compOd_ok hx hF h1
  cases u<;>simp [h1] at he
  rename_i q m c
  cases hl:Od.oev E 0 lo' with
  |none=>simp [hl] at he
  |some l=>
   cases hh:Od.oev E m hi' with
   |none=>simp [hl,hh] at he
   |some h=>
    cases hk:Od.oev E c mx' with
    |none=>simp [hl,hh,hk] at he
    |some k=>
     simp [hl,hh,hk] at he
     have b1:=oev_rel (dv:=0) hlo hF hl
     have b2:=oev_rel (dv:=0) hhi hF hh
     have b3:=oev_rel (dv:=0) hmx hF hk
     have hs1:mx'.isSome=mx.isSome:=by
      unfold compO at hmx;cases mx with
      |none=>simp at hmx;subst hmx;rfl
      |some z=>cases hz:compOd z with
       |none=>simp [hz] at hmx
       |some z'=>simp [hz] at hmx;subst hmx;rfl
     have hs2:hi'.isSome=hi.isSome:=by
      unfold compO at hhi;cases hi with
      |none=>simp at hhi;subst hhi;rfl
      |some z=>cases hz:compOd z with
       |none=>simp [hz] at hhi
       |some z'=>simp [hz] at hhi;subst hhi;rfl
     obtain ⟨ad,cap',e1,q0,q1,q2,q3,q4,q5⟩:=slc_rel hH he r1 (fun h3=>by
      rw [hs1] at h3
      rcases b3 with ⟨_,e⟩|⟨_,e⟩
      ·exact e
      ·cases mx<;>simp at h3 e)
     rcases b3 with ⟨e3,rfl⟩|⟨k3,e3⟩
     ·
      have hm':=q5 cap' (fun h3=>by rw [hs1,e3] at h3;cases h3) (fun _=>rfl)
      refine .of hm' fun w2 _=> ?_
      have hb:=run_bounds (P:=P) (is:=true) (len:=m) (cap:=cap') (lo:=lo.map a.eval) (hi:=hi.map a.eval) (mx:=mx.map a.eval) (l:=l) (h:=h) (m:=cap')
       (by rcases b1 with ⟨e,e'⟩|⟨k1,e⟩;·exact .inl ⟨by simp [e],e'⟩
           ·exact .inr ⟨k1,e⟩)
       (by rcases b2 with ⟨e,e'⟩|⟨k1,e⟩;·exact .inl ⟨by simp [e],e'⟩
           ·exact .inr ⟨k1,e⟩)
       (.inl ⟨by simp [e3],rfl⟩) q0 q1 (by omega) (by omega) (by simp [e3]) w2
      simp only [execOp,ho,e1,Instr.sliceAt,Sem.run_bind,underlying,run_program,Result.andThen_ok,ht,Sem.run_pure,Instr.slice,hb,sizeOf,typeInfo,hj,Int.toNat_natCast]
     ·have hk0:((k.toNat:Nat):Int)=k:=by omega
      have hm':=q5 k.toNat (fun _=>hk0) (fun h3=>by rw [hs1] at h3;cases mx<;>simp at h3 e3)
      refine .of hm' fun w2 _=> ?_
      have hb:=run_bounds (P:=P) (is:=true) (len:=m) (cap:=cap') (lo:=lo.map a.eval) (hi:=hi.map a.eval) (mx:=mx.map a.eval) (l:=l) (h:=h) (m:=k)
       (by rcases b1 with ⟨e,e'⟩|⟨k1,e⟩;·exact .inl ⟨by simp [e],e'⟩
           ·exact .inr ⟨k1,e⟩)
       (by rcases b2 with ⟨e,e'⟩|⟨k1,e⟩;·exact .inl ⟨by simp [e],e'⟩
           ·exact .inr ⟨k1,e⟩)
       (.inr ⟨k3,e3⟩) q0 q1 (by omega) (by omega) (by intro;have:=hno (by rw [hs1];cases mx<;>simp at e3 ⊢);rw [hs2] at this;cases hi<;>simp at this ⊢) w2
      simp only [execOp,ho,e1,Instr.sliceAt,Sem.run_bind,underlying,run_program,Result.andThen_ok,ht,Sem.run_pure,Instr.slice,hb,sizeOf,typeInfo,hj]
theorem read_slstr {t:TypeId} {x:Operand} {lo hi mx:Option Operand} {x':Od} {lo' hi':Option Od} (ho:o.op= .slice t x lo hi mx) (ht:P.underlying t=some .string)
 (hx:compOd x=some x') (hlo:compO lo=some lo') (hhi:compO hi=some hi') (hmx:compO mx=some none)
 (hF:FRel σ N E a) (he:(VOp.slstr x' lo' hi').ev E H.g=some v):ReadOk P σ w a o v:=by
 have hmx':mx=none:=by
  unfold compO at hmx;cases mx with
  |none=>rfl
  |some z=>cases hz:compOd z<;>simp [hz] at hmx
 subst hmx'
 simp only [VOp.ev] at he
 cases h1:x'.ev E with
 |none=>simp [h1] at he
 |some u=>
  have r1:=compOd_ok hx hF h1
  cases u<;>simp [h1] at he
  rename_i s
  cases hl:Od.oev E 0 lo' with
  |none=>simp [hl] at he
  |some l=>
   cases hh:Od.oev E s.length hi' with
   |none=>simp [hl,hh] at he
   |some h=>
    simp [hl,hh] at he
    obtain ⟨⟨q0,q1,q2⟩,rfl⟩:=he
    have b1:=oev_rel (dv:=0) hlo hF hl
    have b2:=oev_rel (dv:=0) hhi hF hh
    have e1:=str_inv r1
    refine .of (.str _) fun w2 _=> ?_
    have hb:=run_bounds (P:=P) (is:=false) (len:=s.length) (cap:=s.length) (lo:=lo.map a.eval) (hi:=hi.map a.eval) (mx:=none) (l:=l) (h:=h) (m:=s.length)
     (by rcases b1 with ⟨e,e'⟩|⟨k1,e⟩;·exact .inl ⟨by simp [e],e'⟩
         ·exact .inr ⟨k1,e⟩)
     (by rcases b2 with ⟨e,e'⟩|⟨k1,e⟩;·exact .inl ⟨by simp [e],e'⟩
         ·exact .inr ⟨k1,e⟩)
     (.inl ⟨rfl,rfl⟩) q0 q1 q2 (by omega) (by simp) w2
    have hsz:(⟨s.toArray⟩:ByteArray).size=s.length:=rfl
    simp only [execOp,ho,e1,Instr.sliceAt,Sem.run_bind,underlying,run_program,Result.andThen_ok,ht,Sem.run_pure,Instr.slice,Option.map_none,Option.isSome_none,Bool.false_eq_true,if_false,hsz,hb]
    congr 3
    apply ByteArray.ext
    rw [ByteArray.data_extract]
    apply Array.ext'
    simp [List.extract_eq_take_drop,List.drop_take]
theorem read_ixs {t:TypeId} {x i:Operand} {x' i':Od} (ho:o.op= .index t x i) (ht:P.underlying t=some .string) (hx:compOd x=some x') (hi:compOd i=some i')
 (hF:FRel σ N E a) (he:(VOp.ixs x' i').ev E H.g=some v):ReadOk P σ w a o v:=by
 simp only [VOp.ev] at he
 cases h1:x'.ev E with
 |none=>simp [h1] at he
 |some u=>
  cases h2:i'.ev E with
  |none=>cases u<;>simp [h1,h2] at he
  |some u2=>
   have r1:=compOd_ok hx hF h1
   have r2:=compOd_ok hi hF h2
   cases u<;>simp [h1,h2] at he
   rename_i s
   cases u2<;>simp at he
   rename_i k n
   obtain ⟨hn,he⟩:=he
   cases hb:s[n.toNat]? with
   |none=>simp [hb] at he
   |some b=>
    simp [hb] at he;subst he
    have e1:=str_inv r1
    have e2:=int_inv r2
    refine .of (.int _ _) fun w2 _=> ?_
    have hg:(⟨s.toArray⟩:ByteArray)[n.toNat]? =some b:=by
     obtain ⟨hlt,hb'⟩:=List.getElem?_eq_some_iff.1 hb
     have hlt':n.toNat<(⟨s.toArray⟩:ByteArray).size:=hlt
     rw [getElem?_pos (⟨s.toArray⟩:ByteArray) n.toNat hlt']
     congr 1
    simp [execOp,ho,e1,e2,Instr.index,asIntOf,underlying,ht,hn,hg]
theorem flat_run {d:Nat}: ∀(fs:List Field) (i:Nat) (ks:List Nat) (cs ds:List VV) (cs' ds':Array Value) (b:Bool),flatKinds P i fs=some ks→LRel σ cs cs'.toList→LRel σ ds ds'.toList→
 aeqK ks (cs.drop i) (ds.drop i)=some b→ ∀w2,(Op.eqFields (d+1) cs' ds' fs).run P w2= .ok b w2
 |[],i,ks,cs,ds,cs',ds',b,hf,h1,h2,he,w2=>by
  simp [flatKinds] at hf;subst hf
  cases hc:cs.drop i with
  |nil=>cases hd:ds.drop i with
   |nil=>rw [hc,hd] at he;simp [aeqK] at he;subst he;simp [Op.eqFields]
   |cons x l=>rw [hc,hd] at he;simp [aeqK] at he
  |cons x l=>rw [hc] at he;simp [aeqK] at he
 |f::fs,i,ks,cs,ds,cs',ds',b,hf,h1,h2,he,w2=>by
  unfold flatKinds at hf
  split at hf
  case isFalse=>cases hf
  rename_i hcond
  obtain ⟨hn,hoff,hag⟩:=hcond
  have part: ∀(es:List VV) (es':Array Value) (x:VV) (l:List VV),LRel σ es es'.toList→es.drop i=x::l→l=es.drop (i+1)∧ ∃u,VRel σ x u∧ ∀w2,(part f.type es' i).run P w2= .ok u w2:=by
   intro es es' x l hr hd
   have hi:i<es.length:=by
    rcases Nat.lt_or_ge i es.length with h|h
    ·exact h
    ·rw [List.drop_eq_nil_of_le h] at hd;cases hd
   rw [List.drop_eq_getElem_cons hi] at hd
   injection hd with hx hl
   obtain ⟨u,p1,p2⟩:=part_run (σ:=σ) (v:=x) hag hr (off:=i) (by simp [partOf,hi,hx])
   exact ⟨hl.symm,u,p1,p2⟩
  have key: ∀(x y:VV) (l m:List VV) (ks':List Nat),cs.drop i=x::l→ds.drop i=y::m→flatKinds P (i+1) fs=some ks'→ ∀r:Bool,
   (∀u u2,VRel σ x u→VRel σ y u2→(Op.equalIn (d+1) f.type u u2).run P w2= .ok r w2)→ ∀b',aeqK ks' l m=some b'→b=(r &&b')→(Op.eqFields (d+1) cs' ds' (f::fs)).run P w2= .ok b w2:=by
   intro x y l m ks' hx hy hks r hr b' hb' hbb
   obtain ⟨e1,u,p1,p2⟩:=part cs cs' x l h1 hx
   obtain ⟨e2,u2,p3,p4⟩:=part ds ds' y m h2 hy
   have ih:=flat_run (d:=d) fs (i+1) ks' cs ds cs' ds' b' hks h1 h2 (by rw [←e1,←e2];exact hb') w2
   simp only [Op.eqFields,hoff,ne_eq,Sem.run_bind,p2,p4,Result.andThen_ok,hr u u2 p1 p3,Sem.run_ite,Sem.run_pure,hn,not_false_eq_true,if_true]
   subst hbb
   cases r with
   |true=>simpa using ih
   |false=>rfl
  split at hf
  ·rename_i k l' hk hks
   simp at hf;subst hf
   cases hc:cs.drop i with
   |nil=>rw [hc] at he;simp [aeqK] at he
   |cons x l=>
    cases hd:ds.drop i with
    |nil=>rw [hc,hd] at he;cases x<;>simp [aeqK] at he
    |cons y m=>
     rw [hc,hd] at he
     cases x<;>cases y<;>simp [aeqK] at he
     rename_i k1 n1 k2 n2
     obtain ⟨hkk,he⟩:=he
     subst hkk
     cases haq:aeqK l' l m with
     |none=>rw [haq] at he;simp at he
     |some b'=>
      rw [haq] at he;simp at he
      exact key _ _ l m l' hc hd hks (n1==n2) (fun u u2 p1 p2=>by rw [int_inv p1,int_inv p2];exact run_equalIn_int w2 d f.type k1 k n1 n2 hk) b' haq he.symm
  ·rename_i l' hk hks
   simp at hf;subst hf
   cases hc:cs.drop i with
   |nil=>rw [hc] at he;simp [aeqK] at he
   |cons x l=>
    cases hd:ds.drop i with
    |nil=>rw [hc,hd] at he;cases x<;>simp [aeqK] at he
    |cons y m=>
     rw [hc,hd] at he
     cases x<;>cases y<;>simp [aeqK] at he
     rename_i n1 n2
     cases haq:aeqK l' l m with
     |none=>rw [haq] at he;simp at he
     |some b'=>
      rw [haq] at he;simp at he
      exact key _ _ l m l' hc hd hks (n1==n2) (fun u u2 p1 p2=>by rw [bool_inv p1,bool_inv p2];exact run_equalIn_bool' w2 d f.type n1 n2 hk) b' haq he.symm
  ·rename_i l' hk hks
   simp at hf;subst hf
   cases hc:cs.drop i with
   |nil=>rw [hc] at he;simp [aeqK] at he
   |cons x l=>
    cases hd:ds.drop i with
    |nil=>rw [hc,hd] at he;cases x<;>simp [aeqK] at he
    |cons y m=>
     rw [hc,hd] at he
     cases x<;>cases y<;>simp [aeqK] at he
     rename_i n1 n2
     cases haq:aeqK l' l m with
     |none=>rw [haq] at he;simp at he
     |some b'=>
      rw [haq] at he;simp at he
      refine key _ _ l m l' hc hd hks (n1==n2) (fun u u2 p1 p2=> ?_) b' haq he.symm
      rw [str_inv p1,str_inv p2]
      have q:=run_equalIn_string w2 d f.type ⟨n1.toArray⟩ ⟨n2.toArray⟩ hk
      rw [ByteArray.toList_eq,ByteArray.toList_eq] at q
      simpa using q
  ·cases hf
theorem read_aeq {neg:Bool} {t t':TypeId} {ks:List Nat} {x y:Operand} {x' y':Od} (ho:o.op= .binOp (if neg then .neq else .eql) t x y t') (ht:flatStruct P t=some ks) (hx:compOd x=some x') (hy:compOd y=some y')
 (hF:FRel σ N E a) (he:(VOp.aeq neg ks x' y').ev E H.g=some v):ReadOk P σ w a o v:=by
 simp only [VOp.ev] at he
 cases h1:x'.ev E with
 |none=>simp [h1] at he
 |some u=>
  cases h2:y'.ev E with
  |none=>cases u<;>simp [h1,h2] at he
  |some u2=>
   have r1:=compOd_ok hx hF h1
   have r2:=compOd_ok hy hF h2
   cases u<;>simp [h1,h2] at he
   rename_i cs
   cases u2<;>simp at he
   rename_i ds
   cases haq:aeqK ks cs ds with
   |none=>simp [haq] at he
   |some b=>
    simp [haq] at he
    obtain ⟨cs',e1,l1⟩:=agg_inv r1
    obtain ⟨ds',e2,l2⟩:=agg_inv r2
    unfold flatStruct at ht
    split at ht
    case h_2=>cases ht
    rename_i fs hfs
    split at ht
    case isFalse=>cases ht
    rename_i hg
    obtain ⟨hg1,hg2⟩:=hg
    have hfo:P.underlying t=some (.struct (P.fieldsOf t)):=by rw [hfs];simp [Program.fieldsOf,hfs]
    have hfl:(P.fieldsOf t).toList=fs.toList:=by simp [Program.fieldsOf,hfs]
    have run: ∀w2,(Op.equalIn 10000 t (.agg cs') (.agg ds')).run P w2= .ok b w2:=fun w2=>by
     rw [run_equalIn_agg w2 9999 t cs' ds' hfo hg1,hfl]
     exact flat_run (d:=9998) fs.toList 0 ks cs ds cs' ds' b ht l1 l2 (by simpa using haq) w2
    subst he
    cases neg with
    |false=>
     refine .of (.bool _) fun w2 _=> ?_
     simp only [Bool.false_eq_true,if_false] at ho
     simp only [execOp,ho,e1,e2,Sem.run_bind,run_eqGuard_agg w2 _ t x y cs' ds' hg2,Result.andThen_ok,run_eql_struct,run,Sem.run_pure,Bool.false_eq_true,if_false]
    |true=>
     refine .of (.bool _) fun w2 _=> ?_
     simp only [if_true] at ho
     simp only [execOp,ho,e1,e2,Sem.run_bind,run_eqGuard_agg w2 _ t x y cs' ds' hg2,Result.andThen_ok,run_neq_struct,run,Sem.run_pure,if_true]
theorem same_iff {kk:KK} {v w':VV} {u x:Value} (hka: ∀ks,kk≠ .agg ks) (hv:kk.is v=true) (hw:kk.is w'=true) (h1:VRel σ v u) (h2:VRel σ w' x):KK.same v w'=true↔u=x:=by
 cases kk<;>cases v<;>simp [KK.is] at hv<;>cases w'<;>simp [KK.is] at hw<;>cases h1<;>cases h2<;>simp [KK.same,ieq_eq] at hka ⊢
 ·subst hv hw;simp
theorem keyKind_run {kt:TypeId} {kk:KK} (h:keyKind P kt=some kk) (hka: ∀ks,kk≠ .agg ks): ∃d,P.underlying kt=some d∧ ∀(v:VV) (u:Value),kk.is v=true→VRel σ v u→MapKept.IsKey d u:=by
 unfold keyKind at h
 split at h
 ·rename_i k ht
  simp at h;subst h
  refine ⟨_,ht,fun v u hv hr=> ?_⟩
  cases v<;>simp [KK.is] at hv
  subst hv
  cases hr
  simp [MapKept.IsKey]
 ·rename_i ht
  simp at h;subst h
  refine ⟨_,ht,fun v u hv hr=> ?_⟩
  cases v<;>simp [KK.is] at hv
  cases hr
  simp [MapKept.IsKey]
 ·rename_i ht
  simp at h;subst h
  refine ⟨_,ht,fun v u hv hr=> ?_⟩
  cases v<;>simp [KK.is] at hv
  cases hr
  simp [MapKept.IsKey]
 ·rename_i fs ht
  cases hf:flatStruct P kt with
  |none=>rw [hf] at h;cases h
  |some ks=>rw [hf] at h;simp at h;exact absurd h.symm (hka ks)
 ·cases h
theorem aeqK_eq: ∀{ks:List Nat} {cs ds:List VV},aeqK ks cs ds=some true→cs=ds∧ ∀cs' ds',LRel σ cs cs'→LRel σ ds ds'→cs'=ds'
 |ks,cs,ds,h=>by
  unfold aeqK at h
  split at h
  ·exact ⟨rfl,fun _ _ h1 h2=>by cases h1;cases h2;rfl⟩
  ·split at h
   case isFalse=>cases h
   rename_i hk
   split at h
   case h_2=>cases h
   rename_i b hb
   simp at h
   obtain ⟨rfl,rfl⟩:=h
   obtain ⟨rfl,h3⟩:=aeqK_eq hb
   subst hk
   refine ⟨rfl,fun _ _ h1 h2=> ?_⟩
   cases h1 with|cons a1 t1=>cases h2 with|cons a2 t2=>cases a1;cases a2;rw [h3 _ _ t1 t2]
  ·split at h
   case h_2=>cases h
   rename_i b hb
   simp at h
   obtain ⟨rfl,rfl⟩:=h
   obtain ⟨rfl,h3⟩:=aeqK_eq hb
   refine ⟨rfl,fun _ _ h1 h2=> ?_⟩
   cases h1 with|cons a1 t1=>cases h2 with|cons a2 t2=>cases a1;cases a2;rw [h3 _ _ t1 t2]
  ·split at h
   case h_2=>cases h
   rename_i b hb
   simp at h
   obtain ⟨rfl,rfl⟩:=h
   obtain ⟨rfl,h3⟩:=aeqK_eq hb
   refine ⟨rfl,fun _ _ h1 h2=> ?_⟩
   cases h1 with|cons a1 t1=>cases h2 with|cons a2 t2=>cases a1;cases a2;rw [h3 _ _ t1 t2]
  ·cases h
theorem chk_flat {e:Bool} {n:Nat}: ∀(fs:List Field) (i:Nat) (ks:List Nat) (cs:List VV) (cs':Array Value),flatKinds P i fs=some ks→LRel σ cs cs'.toList→(aeqK ks (cs.drop i) (cs.drop i)).isSome=true→
 ∀w,(forIn (m:=Sem) fs PUnit.unit fun f _=>do
  if f.name≠ "_" then Instr.checkKey e (n+1) f.type (←Go.part f.type cs' f.offset)
  pure (ForInStep.yield PUnit.unit)).run P w= .ok PUnit.unit w
 |[],i,ks,cs,cs',hf,hr,ha,w=>by simp
 |f::fs,i,ks,cs,cs',hf,hr,ha,w=>by
  unfold flatKinds at hf
  split at hf
  case isFalse=>cases hf
  rename_i hcond
  obtain ⟨hn,hoff,hag⟩:=hcond
  have hd: ∀x l,cs.drop i=x::l→l=cs.drop (i+1)∧ ∃u,VRel σ x u∧ ∀w2,(Go.part f.type cs' i).run P w2= .ok u w2:=by
   intro x l hd
   have hi:i<cs.length:=by
    rcases Nat.lt_or_ge i cs.length with h|h
    ·exact h
    ·rw [List.drop_eq_nil_of_le h] at hd;cases hd
   rw [List.drop_eq_getElem_cons hi] at hd
   obtain ⟨rfl,rfl⟩:=List.cons.inj hd
   refine ⟨rfl,part_run (P:=P) (ag:=false) hag hr (by simp [partOf,List.getElem?_eq_getElem hi])⟩
  have key: ∀(x:VV) (l:List VV) (ks':List Nat),cs.drop i=x::l→flatKinds P (i+1) fs=some ks'→(aeqK ks' l l).isSome=true→(∀u,VRel σ x u→(Instr.checkKey e (n+1) f.type u).run P w= .ok () w)→
   (forIn (m:=Sem) (f::fs) PUnit.unit fun f _=>do
    if f.name≠ "_" then Instr.checkKey e (n+1) f.type (←Go.part f.type cs' f.offset)
    pure (ForInStep.yield PUnit.unit)).run P w= .ok PUnit.unit w:=by
   intro x l ks' h1 h3 h4 h5
   obtain ⟨rfl,u,hu,hp⟩:=hd x l h1
   have ih:=chk_flat (e:=e) (n:=n) fs (i+1) ks' cs cs' h3 hr h4 w
   rw [List.forIn_cons]
   simp only [Sem.run_bind,hoff,hn,ne_eq,not_false_eq_true,if_true,hp,Result.andThen_ok,h5 u hu,Sem.run_pure]
   exact ih
  cases hc:cs.drop i with
  |nil=>
   rw [hc] at ha
   split at hf<;>first|(cases hf;done)|(simp at hf;subst hf;exact absurd (show (none:Option Bool).isSome=true from ha) (by simp))
  |cons x l=>
   rw [hc] at ha
   split at hf
   ·rename_i k ks' hu hk
    simp at hf;subst hf
    cases x<;>simp [aeqK] at ha
    rename_i kd m
    cases h6:aeqK ks' l l with
    |none=>rw [h6] at ha;simp at ha
    |some b=>exact key _ _ ks' hc hk (by rw [h6];rfl) fun u hr=>by cases hr;simp [Instr.checkKey,run_underlying hu,Result.andThen]
   ·rename_i ks' hu hk
    simp at hf;subst hf
    cases x<;>simp [aeqK] at ha
    cases h6:aeqK ks' l l with
    |none=>rw [h6] at ha;simp at ha
    |some b=>exact key _ _ ks' hc hk (by rw [h6];rfl) fun u hr=>by cases hr;simp [Instr.checkKey,run_underlying hu,Result.andThen]
   ·rename_i ks' hu hk
    simp at hf;subst hf
    cases x<;>simp [aeqK] at ha
    cases h6:aeqK ks' l l with
    |none=>rw [h6] at ha;simp at ha
    |some b=>exact key _ _ ks' hc hk (by rw [h6];rfl) fun u hr=>by cases hr;simp [Instr.checkKey,run_underlying hu,Result.andThen]
   ·cases hf
def EntsRel (σ:Sg) (es:List (VV×VV)) (l:List MapEntry):Prop:=es.length=l.length∧ ∀(k:Nat) e,es[k]? =some e→ ∃e',l[k]? =some e'∧VRel σ e.1 e'.key∧VRel σ e.2 e'.val
theorem find_run {kk:KK} {d:TypeDesc} (hka: ∀ks,kk≠ .agg ks) (hd: ∀(v:VV) (u:Value),kk.is v=true→VRel σ v u→MapKept.IsKey d u) {v:VV} {u:Value} (hv:kk.is v=true) (hu:VRel σ v u): ∀{es:List (VV×VV)} {l:List MapEntry} {i:Nat} {r:Option (Nat×VV)},EntsRel σ es l→findV kk v es i=some r→
 ∃r',Instr.findNow d u l i=some r'∧((r=none∧r'=none)∨ ∃j y y',r=some (i+j,y)∧r'=some (i+j,y')∧VRel σ y y'∧ ∃e e',es[j]? =some e∧l[j]? =some e'∧e.2=y∧e'.key=u)
 |[],l,i,r,hr,h=>by
  have:l=[]:=List.eq_nil_of_length_eq_zero hr.1.symm
  subst this
  simp [findV] at h;subst h
  exact ⟨none,rfl,.inl ⟨rfl,rfl⟩⟩
 |e::es,[],i,r,hr,h=>by have:=hr.1;simp at this
 |e::es,e'::l,i,r,hr,h=>by
  obtain ⟨x',hx,k1,k2⟩:=hr.2 0 e rfl
  simp at hx;subst hx
  have hcmp:kk.cmp v e.1=bif kk.is e.1 then some (KK.same v e.1) else none:=by
   cases kk<;>first|rfl|exact absurd rfl (hka _)
  simp only [findV,hcmp] at h
  cases hk:kk.is e.1 with
  |false=>rw [hk] at h;cases h
  |true=>
   rw [hk] at h
   simp only [cond_true] at h
   obtain ⟨q,hq,hiff⟩:=MapKept.sameNow_of_keys (hd v u hv hu) (hd e.1 e'.key hk k1)
   have hs:=same_iff hka hv hk hu k1
   cases hsm:KK.same v e.1 with
   |true=>
    rw [hsm] at h
    simp at h;subst h
    have:q=true:=hiff.2 (hs.1 hsm)
    subst this
    exact ⟨some (i,e'.val),by simp [Instr.findNow,hq],.inr ⟨0,e.2,e'.val,rfl,rfl,k2,e,e',rfl,rfl,rfl,(hs.1 hsm).symm⟩⟩
   |false=>
    rw [hsm] at h
    simp only at h
    have:q=false:=by
     cases q with
     |false=>rfl
     |true=>rw [hs.2 (hiff.1 rfl)] at hsm;cases hsm
    subst this
    obtain ⟨r',q1,q2⟩:=find_run hka hd hv hu (es:=es) (l:=l) (i:=i+1) ⟨by simpa using hr.1,fun k e he=>by simpa using hr.2 (k+1) e (by simpa using he)⟩ h
    refine ⟨r',by simp [Instr.findNow,hq,q1],?_⟩
    rcases q2 with q2|⟨j,y,y',a1,a2,a3,e2,e3,b1,b2,b3⟩
    ·exact .inl q2
    ·exact .inr ⟨j+1,y,y',by rw [a1];simp;omega,by rw [a2];simp;omega,a3,e2,e3,by simpa using b1,by simpa using b2,b3⟩
theorem equal_agg {t:TypeId} {ks:List Nat} (ht:flatStruct P t=some ks) {cs ds:List VV} {cs' ds':Array Value} {b:Bool} (l1:LRel σ cs cs'.toList) (l2:LRel σ ds ds'.toList) (hb:aeqK ks cs ds=some b): ∀w2,(Op.equal t (.agg cs') (.agg ds')).run P w2= .ok b w2:=by
 unfold flatStruct at ht
 split at ht
 case h_2=>cases ht
 rename_i fs hfs
 split at ht
 case isFalse=>cases ht
 rename_i hg
 obtain ⟨hg1,hg2⟩:=hg
 have hfo:P.underlying t=some (.struct (P.fieldsOf t)):=by rw [hfs];simp [Program.fieldsOf,hfs]
 have hfl:(P.fieldsOf t).toList=fs.toList:=by simp [Program.fieldsOf,hfs]
 intro w2
 show (Op.equalIn 10000 t (.agg cs') (.agg ds')).run P w2= .ok b w2
 rw [run_equalIn_agg w2 9999 t cs' ds' hfo hg1,hfl]
 exact flat_run (d:=9998) fs.toList 0 ks cs ds cs' ds' b ht l1 l2 (by simpa using hb) w2
theorem findAsk_run {kt:TypeId} {ks:List Nat} (ht:flatStruct P kt=some ks) {cs:List VV} {cs':Array Value} (hu:LRel σ cs cs'.toList): ∀{es:List (VV×VV)} {l:List MapEntry} {i:Nat} {r:Option (Nat×VV)},EntsRel σ es l→findV (.agg ks) (.agg cs) es i=some r→
 ∃r',(∀w,(Instr.findAsking kt (.agg cs') l i).run P w= .ok r' w)∧((r=none∧r'=none)∨ ∃j y y',r=some (i+j,y)∧r'=some (i+j,y')∧VRel σ y y'∧ ∃e e',es[j]? =some e∧l[j]? =some e'∧e.2=y∧e'.key= .agg cs')
 |[],l,i,r,hr,h=>by
  have:l=[]:=List.eq_nil_of_length_eq_zero hr.1.symm
  subst this
  simp [findV] at h;subst h
  exact ⟨none,fun w=>by simp [Instr.findAsking],.inl ⟨rfl,rfl⟩⟩
 |e::es,[],i,r,hr,h=>by have:=hr.1;simp at this
 |e::es,e'::l,i,r,hr,h=>by
  obtain ⟨x',hx,k1,k2⟩:=hr.2 0 e rfl
  simp at hx;subst hx
  obtain ⟨ek,ev⟩:=e
  simp only [findV] at h
  cases hcmp:KK.cmp (.agg ks) (.agg cs) ek with
  |none=>rw [hcmp] at h;cases h
  |some b=>
   rw [hcmp] at h
   cases ek<;>simp only [KK.cmp] at hcmp<;>first|cases hcmp|skip
   rename_i ds
   obtain ⟨ds',hds,l2⟩:=agg_inv k1
   have heq:=equal_agg ht hu l2 hcmp
   cases b with
   |true=>
    simp at h;subst h
    refine ⟨some (i,e'.val),fun w=> ?_,.inr ⟨0,ev,e'.val,rfl,rfl,k2,_,e',rfl,rfl,rfl,?_⟩⟩
    ·simp [Instr.findAsking,hds,heq,Result.andThen]
    ·rw [hds,Array.toList_inj.1 ((aeqK_eq hcmp).2 _ _ hu l2)]
   |false=>
    simp only at h
    obtain ⟨r',q1,q2⟩:=findAsk_run ht hu (es:=es) (l:=l) (i:=i+1) ⟨by simpa using hr.1,fun k e he=>by simpa using hr.2 (k+1) e (by simpa using he)⟩ h
    refine ⟨r',fun w=>by simp [Instr.findAsking,hds,heq,Result.andThen,q1],?_⟩
    rcases q2 with q2|⟨j,y,y',a1,a2,a3,e2,e3,b1,b2,b3⟩
    ·exact .inl q2
    ·exact .inr ⟨j+1,y,y',by rw [a1];simp;omega,by rw [a2];simp;omega,a3,e2,e3,by simpa using b1,by simpa using b2,b3⟩
theorem key_run {kt:TypeId} {kk:KK} (h:keyKind P kt=some kk) {v:VV} {u:Value} (hv:kk.is v=true) (hu:VRel σ v u):
 (∀e w,(Instr.checkKey e 10000 kt u).run P w= .ok () w)∧(∀w,(Instr.keyThatStays u u).run P w= .ok u w)∧
 ∀{es:List (VV×VV)} {l:List MapEntry} {r:Option (Nat×VV)},EntsRel σ es l→findV kk v es 0=some r→
  ∃r',(∀w,(Instr.findKey kt u l).run P w= .ok r' w)∧((r=none∧r'=none)∨ ∃j y y',r=some (j,y)∧r'=some (j,y')∧VRel σ y y'∧ ∃e e',es[j]? =some e∧l[j]? =some e'∧e.2=y∧e'.key=u):=by
 by_cases hka: ∃ks,kk= .agg ks
 ·obtain ⟨ks,rfl⟩:=hka
  have ht:flatStruct P kt=some ks∧ ∃fs,P.underlying kt=some (.struct fs):=by
   unfold keyKind at h
   split at h<;>try (simp at h)
   ·rename_i fs hfs;exact ⟨h,fs,hfs⟩
  obtain ⟨ht,fs,hfs⟩:=ht
  cases v<;>simp [KK.is] at hv
  rename_i cs
  obtain ⟨cs',rfl,hl⟩:=agg_inv hu
  have hfk:flatKinds P 0 fs.toList=some ks:=by
   unfold flatStruct at ht
   rw [hfs] at ht
   simp only at ht
   split at ht
   ·exact ht
   ·cases ht
  refine ⟨fun e w=> ?_,fun w=> ?_,fun {es l r} hr hf=> ?_⟩
  ·have:=chk_flat (P:=P) (e:=e) (n:=9998) fs.toList 0 ks cs cs' hfk hl (by simpa using hv) w
   unfold Instr.checkKey
   simp only [Sem.run_bind,run_underlying hfs,Result.andThen_ok,←Array.forIn_toList,this,Sem.run_pure]
  ·have sc: ∀{v:VV} {x:Value},((∃k n,v= .int k n)∨(∃b,v= .bool b)∨ ∃s,v= .str s)→VRel σ v x→ ∀n,Instr.sameBits n x x=true:=by
    rintro v x (⟨k,m,rfl⟩|⟨b,rfl⟩|⟨s,rfl⟩) hr n
    ·cases hr;cases n<;>simp [Instr.sameBits]
    ·cases hr;cases n<;>simp [Instr.sameBits]
    ·rw [str_inv hr];cases n<;>simp [Instr.sameBits,MapKept.bytes_beq]
   have hall: ∀(ks:List Nat) (cs ds:List VV) (l:List Value),cs=ds→(aeqK ks cs ds).isSome=true→LRel σ cs l→ ∀x∈l,∀n,Instr.sameBits n x x=true:=by
    intro ks cs
    induction cs generalizing ks with
    |nil=>intro ds l _ _ hr x hx;cases hr;cases hx
    |cons c cs ih=>
     intro ds l hcd ha hr x hx n
     subst hcd
     cases hr with
     |cons h1 h2=>
      have step: ∀ks',(aeqK ks' cs cs).isSome=true→((∃k n,c= .int k n)∨(∃b,c= .bool b)∨ ∃s,c= .str s)→Instr.sameBits n x x=true:=fun ks' h3 h4=>by
       rcases List.mem_cons.1 hx with rfl|hx
       ·exact sc h4 h1 n
       ·exact ih ks' cs _ rfl h3 h2 x hx n
      match ks,c,ha with
      |0::ks',.int k m,ha=>
       refine step ks' ?_ (.inl ⟨_,_,rfl⟩)
       cases hb:aeqK ks' cs cs with
       |some b=>rfl
       |none=>simp [aeqK,hb] at ha
      |1::ks',.bool b,ha=>
       refine step ks' ?_ (.inr (.inl ⟨_,rfl⟩))
       cases hb:aeqK ks' cs cs with
       |some b=>rfl
       |none=>simp [aeqK,hb] at ha
      |2::ks',.str b,ha=>
       refine step ks' ?_ (.inr (.inr ⟨_,rfl⟩))
       cases hb:aeqK ks' cs cs with
       |some b=>rfl
       |none=>simp [aeqK,hb] at ha
   have hs:Instr.sameBits 10000 (.agg cs') (.agg cs')=true:=by
    simp only [Instr.sameBits,beq_self_eq_true,Bool.true_and,List.all_eq_true]
    rintro ⟨x,y⟩ hxy
    have: ∀(l:List Value) (p:Value×Value),p∈l.zip l→p.1=p.2∧p.1∈l:=by
     intro l
     induction l with
     |nil=>intro p hp;cases hp
     |cons a l ih=>
      intro p hp
      rcases List.mem_cons.1 hp with rfl|hp
      ·exact ⟨rfl,List.mem_cons_self⟩
      ·obtain ⟨h1,h2⟩:=ih p hp;exact ⟨h1,List.mem_cons_of_mem _ h2⟩
    obtain ⟨h1,h2⟩:=this _ _ hxy
    simp only at h1 h2
    subst h1
    exact hall ks cs cs _ rfl (by simpa using hv) hl x h2 9999
   simp [Instr.keyThatStays,hs]
  ·obtain ⟨r',q1,q2⟩:=findAsk_run ht hl hr hf
   refine ⟨r',fun w=> ?_,by simpa using q2⟩
   unfold Instr.findKey
   simp only [Sem.run_bind,run_underlying hfs,Result.andThen_ok]
   cases l with
   |nil=>
    have:r'=none:=by have:=q1 w;simp [Instr.findAsking] at this;exact this.symm
    subst this
    simp [Instr.findNow]
   |cons e l=>simp only [Instr.findNow,Instr.sameNow];exact q1 w
 ·have hka': ∀ks,kk≠ .agg ks:=fun ks hk=>hka ⟨ks,hk⟩
  obtain ⟨d,hd,hdk⟩:=keyKind_run (σ:=σ) h hka'
  have hk:=hdk _ _ hv hu
  refine ⟨fun e w=>MapKept.run_checkKey hd hk e 9999,fun w=>MapKept.run_keyThatStays hk,fun {es l r} hr hf=> ?_⟩
  obtain ⟨r',q1,q2⟩:=find_run hka' hdk hv hu hr hf
  exact ⟨r',fun w=>MapKept.run_findKey hd q1,by simpa using q2⟩
theorem zeroVV_run {t:TypeId} {z:VV} (h:zeroVV P t=some z): ∃u,VRel σ z u∧ ∀w,(zeroValue t).run P w= .ok u w:=by
 unfold zeroVV at h
 split at h
 case h_2=>cases h
 rename_i i hi
 split at h
 ·rename_i cs hz
  cases hm:cs.toList.mapM constVV with
  |none=>simp [hm] at h
  |some m=>
   simp [hm] at h;subst h
   exact ⟨.agg cs,.agg (constVVs_rel _ _ hm),fun w=>by simp [zeroValue,typeInfo,hi,hz]⟩
 ·rename_i z' hz' hz
  exact ⟨z',constVV_rel h,fun w=>by simp [zeroValue,typeInfo,hi,hz]⟩
 ·cases h
theorem map_inv {p:Option Nat} {u:Value} (h:VRel σ (.map p) u):(p=none∧u= .map none)∨ ∃b I,p=some b∧σ b=some I∧u= .map (some I.real):=by
 cases h with
 |mapNil=>exact .inl ⟨rfl,rfl⟩
 |map h=>exact .inr ⟨_,_,rfl,h,rfl⟩
theorem obj_at (hH:HRel P σ B H w) {b:Nat} {I:Info} {es:List (VV×VV)} (hb:H[b]? =some (.obj (.map es))) (hI:σ b=some I):
 B≤I.real∧I.real<w.heap.size∧ ∃cur,w.heap[I.real]? =some (.map cur es.length)∧EntsRel σ es cur.toList∧(∀(k:Nat) e',cur[k]? =some e'→e'.born=k):=by
 obtain ⟨J,ho,h1,h2,h3,h4,h5⟩:=hH.objs b _ hb
 have:J=I:=Option.some.inj (h1.symm.trans hI)
 subst this
 cases ho<;>simp only [ObRel] at h5
 rename_i cur clk
 obtain ⟨rfl,h6,h7⟩:=h5
 refine ⟨h2,(Array.getElem?_eq_some_iff.1 h4).1,cur,h4,⟨by simp [h6],fun k e he=> ?_⟩,fun k e' he=> ?_⟩
 ·obtain ⟨e',a1,_,a2,a3⟩:=h7 k e he
  exact ⟨e',by rw [Array.getElem?_toList];exact a1,a2,a3⟩
 ·have hk:k<es.length:=by rw [←h6];exact (Array.getElem?_eq_some_iff.1 he).1
  obtain ⟨e2,a1,a2,_⟩:=h7 k _ (List.getElem?_eq_getElem hk)
  rw [he] at a1;cases a1;exact a2
theorem read_lkp {t kt et:TypeId} {x k:Operand} {x' k':Od} {ok:Bool} {kk:KK} {z:VV} (ho:o.op= .lookup t x k ok) (ht:P.underlying t=some (.map kt et)) (hkk:keyKind P kt=some kk) (hz:zeroVV P et=some z) (hx:compOd x=some x') (hk:compOd k=some k')
 (hH:HRel P σ B H w) (hF:FRel σ N E a) (he:(VOp.lkp kk z ok x' k').ev E H.g=some v):ReadOk P σ w a o v:=by
 simp only [VOp.ev] at he
 cases h1:x'.ev E with
 |none=>simp [h1] at he
 |some u=>
  cases h2:k'.ev E with
  |none=>simp [h1,h2] at he
  |some kv=>
   simp only [h1,h2] at he
   have r1:=compOd_ok hx hF h1
   have r2:=compOd_ok hk hF h2
   cases hm:mapOf H.g u with
   |none=>simp [hm] at he
   |some es=>
    simp only [hm] at he
    split at he
    case isFalse=>cases he
    rename_i hki
    obtain ⟨kr1,kr2,kr3⟩:=key_run hkk hki r2
    obtain ⟨zu,hz1,hz2⟩:=zeroVV_run (σ:=σ) hz
    have fin: ∀(l:List MapEntry),EntsRel σ es l→(∀w2 r',Below w.heap.size w w2→(∀w,(Instr.findKey kt (a.eval k) l).run P w= .ok r' w)→ ∀u',(match r' with|some (_,v)=>u'=(if ok then .tuple #[v,.bool true] else v)|none=>u'=(if ok then .tuple #[zu,.bool false] else zu))→(execOp a.eval o).run P w2= .ok (.value u') w2)→ReadOk P σ w a o v:=by
     intro l hent hrun
     cases hf:findV kk kv es 0 with
     |none=>simp [hf] at he
     |some r=>
      obtain ⟨r',q1,q2⟩:=kr3 hent hf
      simp only [hf] at he
      rcases q2 with ⟨rfl,rfl⟩|⟨j,y,y',rfl,rfl,a3,_⟩
      ·simp at he;subst he
       cases ok
       ·exact .of hz1 fun w2 hw2=>hrun w2 _ hw2 q1 _ rfl
       ·exact .of (.tup (cs':=#[zu,.bool false]) (.cons hz1 (.cons (.bool _) .nil))) fun w2 hw2=>hrun w2 _ hw2 q1 _ rfl
      ·simp at he;subst he
       cases ok
       ·exact .of a3 fun w2 hw2=>hrun w2 _ hw2 q1 _ rfl
       ·exact .of (.tup (cs':=#[y',.bool true]) (.cons a3 (.cons (.bool _) .nil))) fun w2 hw2=>hrun w2 _ hw2 q1 _ rfl
    cases u<;>simp [mapOf] at hm
    rename_i p
    rcases map_inv r1 with ⟨rfl,e1⟩|⟨b,I,rfl,hI,e1⟩
    ·simp at hm;subst hm
     refine fin [] ⟨rfl,fun k e he=>by simp at he⟩ fun w2 r' _ hq u' hu'=> ?_
     cases r' with
     |none=>subst hu';cases ok<;>simp [execOp,ho,Instr.lookup,run_underlying ht,e1,kr1,hq,hz2,Result.andThen]
     |some jv=>subst hu';cases ok<;>simp [execOp,ho,Instr.lookup,run_underlying ht,e1,kr1,hq,hz2,Result.andThen]
    ·simp only at hm
     split at hm
     case h_2=>cases hm
     rename_i es' hb
     simp at hm;subst hm
     obtain ⟨_,hlt,cur,hc,hent,_⟩:=obj_at hH hb hI
     refine fin cur.toList hent fun w2 r' hw2 hq u' hu'=> ?_
     have hc2:w2.heap[I.real]? =some (.map cur es'.length):=by rw [hw2.block _ hlt];exact hc
     cases r' with
     |none=>subst hu';cases ok<;>simp [execOp,ho,Instr.lookup,run_underlying ht,e1,MapKept.run_getObj_map hc2,kr1,hq,hz2,Result.andThen]
     |some jv=>subst hu';cases ok<;>simp [execOp,ho,Instr.lookup,run_underlying ht,e1,MapKept.run_getObj_map hc2,kr1,hq,hz2,Result.andThen]
theorem read_ent {x:Operand} {x':Od} (ho:o.op= .entry x) (hx:compOd x=some x') (hH:HRel P σ B H w) (hF:FRel σ N E a) (he:(VOp.ent x').ev E H.g=some v):ReadOk P σ w a o v:=by
 simp only [VOp.ev] at he
 cases h1:x'.ev E with
 |none=>simp [h1] at he
 |some u=>
  have r1:=compOd_ok hx hF h1
  cases u<;>simp [h1] at he
  rename_i p
  cases p with
  |none=>simp at he
  |some p=>
   simp only at he
   split at he
   case h_2=>cases he
   rename_i m n seen hb
   split at he
   case h_2=>cases he
   rename_i kx es hsk hm
   split at he
   case isFalse=>cases he
   rename_i hcond
   obtain ⟨hn,hp1,hp2⟩:=hcond
   cases hek:es[kx]? with
   |none=>simp [hek] at he
   |some en=>
    simp [hek] at he;subst he
    obtain ⟨ad,e1,J,hJ,had⟩:=ptr_inv r1
    obtain ⟨I,hob,i1,i2,i3,i4,i5⟩:=hH.objs _ _ hb
    have:I=J:=Option.some.inj (i1.symm.trans hJ)
    subst this
    cases hob<;>simp only [ObRel] at i5
    rename_i rm since s st
    obtain ⟨⟨K,k1,rfl⟩,k2,k3,k4⟩:=i5
    rw [k2,k3] at i4
    obtain ⟨_,hlt,cur,hc,hent,hborn⟩:=obj_at hH hm k1
    obtain ⟨e',f1,f2,f3⟩:=hent.2 kx en hek
    have hlt2:I.real<w.heap.size:=(Array.getElem?_eq_some_iff.1 i4).1
    refine .of (.tup (cs':=#[e'.key,e'.val]) (.cons f2 (.cons f3 .nil))) fun w2 hw2=> ?_
    have g1:w2.heap[I.real]? =some (.mapIter (some K.real) n s n):=by rw [hw2.block _ hlt2];exact i4
    have g2:w2.heap[K.real]? =some (.map cur es.length):=by rw [hw2.block _ hlt];exact hc
    have hback:s.back? =some kx:=by
     rw [←Array.getLast?_toList,k4];exact hsk
    have f1':cur[kx]? =some e':=by rw [←Array.getElem?_toList];exact f1
    have hfind:cur.find? (·.born==kx)=some e':=by
     rw [←Array.find?_toList]
     have:=find_born e' cur.toList (by
      rw [List.nodup_iff_pairwise_ne,List.pairwise_map]
      refine List.pairwise_iff_getElem.2 fun i j hi hj hij=> ?_
      have bi:=hborn i cur.toList[i] (by rw [←Array.getElem?_toList];exact List.getElem?_eq_getElem hi)
      have bj:=hborn j cur.toList[j] (by rw [←Array.getElem?_toList];exact List.getElem?_eq_getElem hj)
      omega) (List.mem_of_getElem? f1)
     rw [hborn kx e' f1'] at this
     exact this
    have had0:ad=⟨I.real,0,none⟩:=by rw [had,i3,hp1,hp2];simp
    simp [execOp,ho,e1,had0,Instr.entry,getObj,Sem.run,g1,g2,hback,hfind,Result.andThen,hn]
end
end Go.Wm
