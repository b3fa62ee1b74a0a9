/- What was made is forgotten; flat answers; the rules of a walk whose comparisons are decided. -/
import Derived.Test.YtbcaceeiehjplacGreatDoorWmZh
namespace Go.Wm
set_option linter.unusedSimpArgs false
set_option linter.unusedVariables false
open Go.RowKit

/-! ### values that tell of no block -/
mutual
def VV.flt : VV → Bool
  | .undef | .bool _ | .int _ _ | .str _ | .ptr none | .sl none 0 0 | .nilFn | .map none | .nilI => true
  | .agg l => VV.flts l
  | .tup l => VV.flts l
  | .fn _ l => VV.flts l
  | .ifc _ v => v.flt
  | _ => false
def VV.flts : List VV → Bool
  | [] => true
  | v :: l => v.flt && VV.flts l
end
mutual
theorem VRel.flt {σ τ : Sg} : ∀ {v : VV} {a : Value}, VRel τ v a → v.flt = true → VRel σ v a
  | _, _, .undef v, _ => .undef v
  | _, _, .bool b, _ => .bool b
  | _, _, .int k n, _ => .int k n
  | _, _, .str s, _ => .str s
  | _, _, .ptrNil, _ => .ptrNil
  | _, _, .ptr h, hf => by simp [VV.flt] at hf
  | _, _, .slNil, _ => .slNil
  | _, _, .sl h, hf => by simp [VV.flt] at hf
  | _, _, .fn h, hf => .fn (LRel.flt h (by simpa [VV.flt] using hf))
  | _, _, .nilFn, _ => .nilFn
  | _, _, .agg h, hf => .agg (LRel.flt h (by simpa [VV.flt] using hf))
  | _, _, .tup h, hf => .tup (LRel.flt h (by simpa [VV.flt] using hf))
  | _, _, .mapNil, _ => .mapNil
  | _, _, .map h, hf => by simp [VV.flt] at hf
  | _, _, .nilI, _ => .nilI
  | _, _, .yield h, hf => by simp [VV.flt] at hf
  | _, _, .ifc h, hf => .ifc (VRel.flt h (by simpa [VV.flt] using hf))
theorem LRel.flt {σ τ : Sg} : ∀ {v : List VV} {a : List Value}, LRel τ v a → VV.flts v = true → LRel σ v a
  | _, _, .nil, _ => .nil
  | _, _, .cons h t, hf => by
    simp only [VV.flts, Bool.and_eq_true] at hf
    exact .cons (VRel.flt h hf.1) (LRel.flt t hf.2)
end
/-! ### what a value told, it tells still -/
mutual
theorem VRel.back {σ τ : Sg} (hl : σ.le τ) : ∀ {v : VV} {a b : Value}, VRel σ v a → VRel τ v b → VRel σ v b
  | _, _, _, .undef v, .undef u => .undef u
  | _, _, _, .bool b, .bool _ => .bool b
  | _, _, _, .int k n, .int _ _ => .int k n
  | _, _, _, .str s, .str _ => .str s
  | _, _, _, .ptrNil, .ptrNil => .ptrNil
  | _, _, _, .ptr h, .ptr k => by
    obtain ⟨I, h1, h2⟩ := h
    obtain ⟨J, k1, k2⟩ := k
    have : I = J := Option.some.inj ((hl _ _ h1).symm.trans k1)
    subst this
    exact .ptr ⟨I, h1, k2⟩
  | _, _, _, .slNil, .slNil => .slNil
  | _, _, _, .sl (p := p) h, .sl k => by
    obtain ⟨h0, h1⟩ := h
    obtain ⟨hc, k⟩ := k
    have hI : ∃ I, σ p.blk = some I := by
      rcases h1 with ⟨⟨I, e, _⟩, _⟩ | ⟨I, m, e, _⟩ | ⟨_, _, I, e⟩
      · exact ⟨I, e⟩
      · exact ⟨I, e⟩
      · exact ⟨I, e⟩
    obtain ⟨I, hI⟩ := hI
    refine .sl ⟨hc, ?_⟩
    rcases k with ⟨⟨J, e, e1⟩, e2⟩ | ⟨J, m, e1, e2, e3, ⟨J', e4, e5⟩, e6⟩ | ⟨e1, e2, _⟩
    · have : I = J := Option.some.inj ((hl _ _ hI).symm.trans e)
      subst this
      exact .inl ⟨⟨I, hI, e1⟩, e2⟩
    · have : I = J := Option.some.inj ((hl _ _ hI).symm.trans e1)
      subst this
      have : I = J' := Option.some.inj ((hl _ _ hI).symm.trans e4)
      subst this
      exact .inr (.inl ⟨I, m, hI, e2, e3, ⟨I, hI, e5⟩, e6⟩)
    · exact .inr (.inr ⟨e1, e2, I, hI⟩)
  | _, _, _, .fn h, .fn k => .fn (LRel.back hl h k)
  | _, _, _, .nilFn, .nilFn => .nilFn
  | _, _, _, .agg h, .agg k => .agg (LRel.back hl h k)
  | _, _, _, .tup h, .tup k => .tup (LRel.back hl h k)
  | _, _, _, .mapNil, .mapNil => .mapNil
  | _, _, _, .map h, .map k => by
    have e := Option.some.inj ((hl _ _ h).symm.trans k)
    rw [← e]
    exact .map h
  | _, _, _, .nilI, .nilI => .nilI
  | _, _, _, .yield h, .yield k => by
    have e := Option.some.inj ((hl _ _ h).symm.trans k)
    rw [← e]
    exact .yield h
  | _, _, _, .ifc h, .ifc k => .ifc (VRel.back hl h k)
theorem LRel.back {σ τ : Sg} (hl : σ.le τ) : ∀ {v : List VV} {a b : List Value}, LRel σ v a → LRel τ v b → LRel σ v b
  | _, _, _, .nil, .nil => .nil
  | _, _, _, .cons h t, .cons h' t' => .cons (VRel.back hl h h') (LRel.back hl t t')
end
theorem ObRel.back {P : Program} {σ τ : Sg} (hl : σ.le τ) {o : MOb} {a b : Obj} (h : ObRel P σ o a) (k : ObRel P τ o b) : ObRel P σ o b := by
  cases o with
  | map es =>
    cases a <;> simp only [ObRel] at h
    cases b <;> simp only [ObRel] at k ⊢
    obtain ⟨h1, h2, h3⟩ := h
    obtain ⟨k1, k2, k3⟩ := k
    refine ⟨k1, k2, fun z e he => ?_⟩
    obtain ⟨e1, a1, a2, a3, a4⟩ := h3 z e he
    obtain ⟨e2, b1, b2, b3, b4⟩ := k3 z e he
    exact ⟨e2, b1, b2, a3.back hl b3, a4.back hl b4⟩
  | iter m n seen =>
    cases a <;> simp only [ObRel] at h
    cases b <;> simp only [ObRel] at k ⊢
    obtain ⟨⟨J, h1, h2⟩, h3⟩ := h
    obtain ⟨⟨K, k1, k2⟩, k3⟩ := k
    have : J = K := Option.some.inj ((hl _ _ h1).symm.trans k1)
    subst this
    exact ⟨⟨J, h1, k2⟩, k3⟩
  | siter s pos => cases b <;> simp only [ObRel] at k ⊢ <;> exact k
  | defs t => cases b <;> simp only [ObRel] at k ⊢ <;> exact k
  | bytes s => cases b <;> simp only [ObRel] at k ⊢ <;> exact k
  | loop r =>
    cases a <;> simp only [ObRel] at h
    cases b <;> simp only [ObRel] at k ⊢
    obtain ⟨h1, h2, h3, h4, h5, h6, J, h7, h8⟩ := h
    obtain ⟨k1, k2, k3, k4, k5, k6, K, k7, k8⟩ := k
    have : J = K := Option.some.inj ((hl _ _ h7).symm.trans k7)
    subst this
    exact ⟨k1, k2, k3, k4, fun s v e => (h5 s v e).back hl (k5 s v e), k6, J, h7, k8⟩
theorem HRel.drop {P : Program} {σ τ : Sg} {B : Nat} {H G : Hp} {w w' : World} (h : HRel P σ B H w) (h' : HRel P τ B (H ++ G) w') (hl : σ.le τ) (hb : Below B w w') : HRel P σ B H w' := by
  refine ⟨h'.base, h.dom, fun i t md es hi => ?_, h.inj, fun i o hi => ?_, h.oinj, h.glob, fun i I hi => Nat.lt_of_lt_of_le (h.fit i I hi) hb.size⟩
  rotate_right
  · obtain ⟨I, ho, i1, i2, i3, i4, i5⟩ := h.objs i o hi
    obtain ⟨J, ho', j1, j2, j3, j4, j5⟩ := h'.objs i o (by rw [List.getElem?_append_left (List.getElem?_eq_some_iff.1 hi).1]; exact hi)
    have : I = J := Option.some.inj ((hl _ _ i1).symm.trans j1)
    subst this
    exact ⟨I, ho', i1, i2, i3, j4, i5.back hl j5⟩
  obtain ⟨I, hR⟩ := h.rows i t md es hi
  obtain ⟨J, hS⟩ := h'.rows i t md es (by rw [List.getElem?_append_left (List.getElem?_eq_some_iff.1 hi).1]; exact hi)
  have : I = J := Option.some.inj ((hl _ _ hR.here).symm.trans hS.here)
  subst this
  refine ⟨I, hR.here, hS.lt, hS.len, hS.esz, fun k e j v h1 h2 => ?_, hS.old, hS.own⟩
  obtain ⟨q1, v1, q2, q3⟩ := hR.cell k e j v h1 h2
  obtain ⟨_, v2, q5, q6⟩ := hS.cell k e j v h1 h2
  exact ⟨q1, v2, q5, q3.back hl q6⟩
/-- a flat answer, and what was there stands: what was made is forgotten -/
theorem FnV.tidy {P : Program} {f : FuncId} {args : List VV} {H : Hp} {r : VV} (hf : r.flt = true) (h : FnV P f args H fun r' H' => r' = r ∧ ∃ G, H' = H ++ G) : FnV P f args H fun r' H' => r' = r ∧ H' = H := by
  refine ⟨h.1, fun σ B w vs h1 h2 => (h.2 σ B w vs h1 h2).mono ?_⟩
  rintro e w' ⟨r', v', H', σ', q1, q2, ⟨q3, G, q4⟩, q5, q6⟩
  subst q3 q4
  exact ⟨r', v', H, σ, q1, q2.flt hf, ⟨rfl, rfl⟩, ⟨Sg.le_refl _, q5.bl, q5.out, fun i I hi => .inl ⟨i, I, hi, rfl⟩⟩, h1.drop q6 q5.le q5.bl⟩
theorem FnV.calm {P : Program} {f : FuncId} {args : List VV} {H : Hp} {r : VV} (hf : r.flt = true) (h : FnV P f args H fun r' H' => r' = r ∧ Ext H.length H H') : FnV P f args H fun r' H' => r' = r ∧ H' = H :=
  FnV.tidy hf (h.mono fun _ _ ⟨h1, h2⟩ => ⟨h1, h2.garbage⟩)
/-- a closed call beside rows that it does not know of, with a flat answer -/
theorem FnV.besideF {P : Program} {f : FuncId} {args : List VV} {H0 : Hp} {v : VV} (ha : VV.flts args = true) (hv : v.flt = true) (hr : RoHp H0) (hG : GL.length ≤ H0.length) (h : FnV P f args H0 fun r _ => r = v) (G : Hp) : FnV P f args (H0 ++ G) fun r H' => r = v ∧ H' = H0 ++ G := by
  refine ⟨h.1, fun σ B w vs h1 h2 => ?_⟩
  have hle := Sg.low_le σ H0.length
  refine (h.2 _ B w vs (h1.low hr hG) (h2.flt ha)).mono ?_
  rintro e w' ⟨r, v', H', τ, q1, q2, rfl, q4, q5⟩
  have hout : ∀ i I, σ i = some I → B ≤ I.real → w'.heap[I.real]? = w.heap[I.real]? := fun i I hi hB => by
    refine q4.out I.real (h1.fit i I hi) fun j J hj he => ?_
    have hjl : j < H0.length := by
      unfold Sg.low at hj
      split at hj
      · assumption
      · cases hj
    have := hr.old h1 hjl (hle j J hj)
    omega
  exact ⟨r, v', H0 ++ G, σ, q1, q2.flt hv, ⟨rfl, rfl⟩, ⟨Sg.le_refl _, q4.bl, fun r' hr' hn => q4.out r' hr' fun i I hi => hn i I (hle i I hi), fun i I hi => .inl ⟨i, I, hi, rfl⟩⟩, h1.calm q4.bl hout⟩

/-! ### comparisons that are decided -/
section
variable {E : Fr} {G : Gt} {x y : Od} {k : IntKind} {a b : Int}
theorem ev_eqlT (hx : x.ev E = some (.int k a)) (hy : y.ev E = some (.int k b)) (h : a = b) : (VOp.bin .eql x y).ev E G = some (.bool true) := by rw [ev_eql hx hy, decide_eq_true h]
theorem ev_eqlF (hx : x.ev E = some (.int k a)) (hy : y.ev E = some (.int k b)) (h : ¬ a = b) : (VOp.bin .eql x y).ev E G = some (.bool false) := by rw [ev_eql hx hy, decide_eq_false h]
theorem ev_neqT (hx : x.ev E = some (.int k a)) (hy : y.ev E = some (.int k b)) (h : ¬ a = b) : (VOp.bin .neq x y).ev E G = some (.bool true) := by rw [ev_neq hx hy, decide_eq_true h]
theorem ev_neqF (hx : x.ev E = some (.int k a)) (hy : y.ev E = some (.int k b)) (h : a = b) : (VOp.bin .neq x y).ev E G = some (.bool false) := by rw [ev_neq hx hy, decide_eq_false (by simpa using h)]
theorem ev_lssT (hx : x.ev E = some (.int k a)) (hy : y.ev E = some (.int k b)) (h : a < b) : (VOp.bin .lss x y).ev E G = some (.bool true) := by rw [ev_lss hx hy, decide_eq_true h]
theorem ev_lssF (hx : x.ev E = some (.int k a)) (hy : y.ev E = some (.int k b)) (h : ¬ a < b) : (VOp.bin .lss x y).ev E G = some (.bool false) := by rw [ev_lss hx hy, decide_eq_false h]
theorem ev_leqT (hx : x.ev E = some (.int k a)) (hy : y.ev E = some (.int k b)) (h : a ≤ b) : (VOp.bin .leq x y).ev E G = some (.bool true) := by rw [ev_leq hx hy, decide_eq_true h]
theorem ev_leqF (hx : x.ev E = some (.int k a)) (hy : y.ev E = some (.int k b)) (h : ¬ a ≤ b) : (VOp.bin .leq x y).ev E G = some (.bool false) := by rw [ev_leq hx hy, decide_eq_false h]
theorem ev_gtrT (hx : x.ev E = some (.int k a)) (hy : y.ev E = some (.int k b)) (h : b < a) : (VOp.bin .gtr x y).ev E G = some (.bool true) := by rw [ev_gtr hx hy, decide_eq_true h]
theorem ev_gtrF (hx : x.ev E = some (.int k a)) (hy : y.ev E = some (.int k b)) (h : ¬ b < a) : (VOp.bin .gtr x y).ev E G = some (.bool false) := by rw [ev_gtr hx hy, decide_eq_false h]
theorem ev_geqT (hx : x.ev E = some (.int k a)) (hy : y.ev E = some (.int k b)) (h : b ≤ a) : (VOp.bin .geq x y).ev E G = some (.bool true) := by rw [ev_geq hx hy, decide_eq_true h]
theorem ev_geqF (hx : x.ev E = some (.int k a)) (hy : y.ev E = some (.int k b)) (h : ¬ b ≤ a) : (VOp.bin .geq x y).ev E G = some (.bool false) := by rw [ev_geq hx hy, decide_eq_false h]
theorem ev_seqlT {s t : List UInt8} (hx : x.ev E = some (.str s)) (hy : y.ev E = some (.str t)) (h : s = t) : (VOp.seq .eql x y).ev E G = some (.bool true) := by rw [ev_seql hx hy, decide_eq_true h]
theorem ev_seqlF {s t : List UInt8} (hx : x.ev E = some (.str s)) (hy : y.ev E = some (.str t)) (h : ¬ s = t) : (VOp.seq .eql x y).ev E G = some (.bool false) := by rw [ev_seql hx hy, decide_eq_false h]
theorem ev_sneqT {s t : List UInt8} (hx : x.ev E = some (.str s)) (hy : y.ev E = some (.str t)) (h : ¬ s = t) : (VOp.seq .neq x y).ev E G = some (.bool true) := by rw [ev_sneq hx hy, decide_eq_true h]
theorem ev_sneqF {s t : List UInt8} (hx : x.ev E = some (.str s)) (hy : y.ev E = some (.str t)) (h : s = t) : (VOp.seq .neq x y).ev E G = some (.bool false) := by rw [ev_sneq hx hy, decide_eq_false (by simpa using h)]
end
def cmpT : BinOp → Int → Int → Prop
  | .eql, a, b => a = b
  | .neq, a, b => ¬ a = b
  | .lss, a, b => a < b
  | .leq, a, b => a ≤ b
  | .gtr, a, b => b < a
  | .geq, a, b => b ≤ a
  | _, _, _ => False
def cmpF : BinOp → Int → Int → Prop
  | .eql, a, b => ¬ a = b
  | .neq, a, b => a = b
  | .lss, a, b => ¬ a < b
  | .leq, a, b => ¬ a ≤ b
  | .gtr, a, b => ¬ b < a
  | .geq, a, b => ¬ b ≤ a
  | _, _, _ => False
def scmT : BinOp → List UInt8 → List UInt8 → Prop
  | .eql, a, b => a = b
  | .neq, a, b => ¬ a = b
  | _, _, _ => False
def scmF : BinOp → List UInt8 → List UInt8 → Prop
  | .eql, a, b => ¬ a = b
  | .neq, a, b => a = b
  | _, _, _ => False
section
variable {E : Fr} {G : Gt} {x y : Od} {k : IntKind} {a b : Int} {op : BinOp} {s t : List UInt8}
theorem ev_cT (hx : x.ev E = some (.int k a)) (hy : y.ev E = some (.int k b)) (h : cmpT op a b) : (VOp.bin op x y).ev E G = some (.bool true) := by
  cases op <;> first | exact h.elim | exact ev_eqlT hx hy h | exact ev_neqT hx hy h | exact ev_lssT hx hy h | exact ev_leqT hx hy h | exact ev_gtrT hx hy h | exact ev_geqT hx hy h
theorem ev_cF (hx : x.ev E = some (.int k a)) (hy : y.ev E = some (.int k b)) (h : cmpF op a b) : (VOp.bin op x y).ev E G = some (.bool false) := by
  cases op <;> first | exact h.elim | exact ev_eqlF hx hy h | exact ev_neqF hx hy h | exact ev_lssF hx hy h | exact ev_leqF hx hy h | exact ev_gtrF hx hy h | exact ev_geqF hx hy h
theorem ev_sT (hx : x.ev E = some (.str s)) (hy : y.ev E = some (.str t)) (h : scmT op s t) : (VOp.seq op x y).ev E G = some (.bool true) := by
  cases op <;> first | exact h.elim | exact ev_seqlT hx hy h | exact ev_sneqT hx hy h
theorem ev_sF (hx : x.ev E = some (.str s)) (hy : y.ev E = some (.str t)) (h : scmF op s t) : (VOp.seq op x y).ev E G = some (.bool false) := by
  cases op <;> first | exact h.elim | exact ev_seqlF hx hy h | exact ev_sneqF hx hy h
end
theorem ev_slst3 {E : Fr} {G : Gt} {x : Od} {s : List UInt8} {lo hi : Option Od} {u v : Int} (hx : x.ev E = some (.str s)) (hl : Od.oev E 0 lo = some u) (hh : Od.oev E s.length hi = some v) (h : 0 ≤ u ∧ u ≤ v ∧ v ≤ s.length) :
    (VOp.slstr x lo hi).ev E G = some (.str ((s.take v.toNat).drop u.toNat)) := ev_slstr hx hl hh h.1 h.2.1 h.2.2
theorem ev_add2 {E : Fr} {G : Gt} {x y : Od} {a b : Int} (hx : x.ev E = some (.int .i64 a)) (hy : y.ev E = some (.int .i64 b)) (h : -9223372036854775808 ≤ a + b ∧ a + b ≤ 9223372036854775807) : (VOp.bin .add x y).ev E G = some (.int .i64 (a + b)) := ev_add hx hy h.1 h.2
theorem ev_sub2 {E : Fr} {G : Gt} {x y : Od} {a b : Int} (hx : x.ev E = some (.int .i64 a)) (hy : y.ev E = some (.int .i64 b)) (h : -9223372036854775808 ≤ a - b ∧ a - b ≤ 9223372036854775807) : (VOp.bin .sub x y).ev E G = some (.int .i64 (a - b)) := ev_sub hx hy h.1 h.2
theorem then_cases {P : Program} {F : Fr} {H : Hp} {Q : VQ} {K : Fr → Hp → Prop} : (Then K Q .normal F H = K F H) ∧ (Then K Q .ret F H = Q .ret F H) := ⟨rfl, rfl⟩
/-! ### frames, cut down -/
theorem Fr.filt_nil (m : Nat) : Fr.filt [] m = [] := rfl
theorem Fr.filt_cons (k : Nat) (v : VV) (F : Fr) (m : Nat) : Fr.filt ((k, v) :: F) m = if (m >>> k) &&& 1 = 1 then (k, v) :: Fr.filt F (m ^^^ (1 <<< k)) else Fr.filt F m := by
  show (bif Nat.beq ((m >>> k) &&& 1) 1 then (k, v) :: Fr.filt F (m ^^^ (1 <<< k)) else Fr.filt F m) = _
  by_cases h : (m >>> k) &&& 1 = 1
  · rw [if_pos h, beq_of h]; rfl
  · rw [if_neg h, beq_of_ne h]; rfl
theorem Fr.only_pos (F : Fr) (m : Nat) (h : Nat.beq m 0 = false) : Fr.only F m = Fr.filt F (m ||| (1 <<< dslot)) := by unfold Fr.only; rw [h]; rfl
theorem Fr.only_zero (F : Fr) : Fr.only F 0 = F := rfl
section
variable {P : Program} {B N : Nat} {rn : Bool} {F E : Fr} {H : Hp} {Q : VQ} {K : Fr → Hp → Prop}
theorem then_normal : Then K Q .normal F H = K F H := rfl
theorem then_ret : Then K Q .ret F H = Q .ret F H := rfl
theorem then_exit {i : Nat} : Then K Q (.exit i) F H = Q (.exit i) F H := rfl
theorem inB_normal {i : Nat} : inB i Q .normal F H = Q .normal F H := rfl
theorem inB_ret {i : Nat} : inB i Q .ret F H = Q .ret F H := rfl
theorem inB_exit {i j : Nat} : inB i Q (.exit j) F H = if j = i then Q .normal F H else Q (.exit j) F H := rfl
/-- a region's end: what is kept -/
theorem VOps.fin' {keep : Nat} {F' : Fr} (hk : E.only keep = F') (h : Q .normal F' H) : VOps P B N rn [] E H (atEnd Q keep) := VOps.nil ⟨rfl, by rw [hk]; exact h⟩
end
section
variable {P : Program} {B N : Nat} {rn : Bool} {F E : Fr} {H : Hp} {Q : VQ} {R : Fr → Hp → Prop} {hs : List Hp} {l : List VI} {b : List (Nat × Nat)} {m : Nat} {d : Nat} {g : Option (Nat × Bool)} {v : VV}
/-- all heaps on the way are the same -/
def Cst (hs : List Hp) (H : Hp) : Prop := ∀ (j : Nat) H1, hs[j]? = some H1 → H1 = H
theorem Cst.rep (n : Nat) (H : Hp) : Cst (List.replicate n H) H := fun j H1 h => by
  rw [List.getElem?_replicate] at h
  split at h
  · exact (Option.some.inj h).symm
  · cases h
theorem VX.nil (h : R E H) : VX P hs [] b m E H R := h
theorem VX.rdc {x : VOp} (hc : Cst hs H) (hw : want E g = some true) (he : x.ev E H.g = some v) (h : VX P hs l b.tail m ((d, v) :: E) H R) : VX P hs (.rd d g x :: l) b m E H R :=
  .inr ⟨hw, v, H, ⟨rfl, fun j H1 _ _ hj => by rw [hc j H1 hj]; exact he⟩, h⟩
theorem VX.sk1 {x : VOp} (hw : want E g = some false) (h : VX P hs l b.tail m ((d, .tup []) :: E) H R) : VX P hs (.rd d g x :: l) b m E H R := .inl ⟨hw, (fun e => (by cases e)), h⟩
theorem VX.callc {d : Option Nat} {fo : Od} {ar : List Od} {f : FuncId} {caps vs : List VV} (hm : hs[m + 1]? = some H) (hw : want E g = some true) (hf : fo.ev E = some (.fn f caps)) (hv : Od.evs E ar = some vs) (hc : FnV P f (vs ++ caps) H fun r H2 => r = v ∧ H2 = H)
    (h : VX P hs l b.tail (m + 1) (E.pt d v) H R) : VX P hs (.call d g fo ar :: l) b m E H R :=
  .inr ⟨hw, v, H, ⟨⟨f, caps, vs, hf, hv, hc⟩, hm⟩, h⟩
theorem VX.rdp {x : VOp} (hw : want E g = some true) (he : ∀ G, x.ev E G = some v) (h : VX P hs l b.tail m ((d, v) :: E) H R) : VX P hs (.rd d g x :: l) b m E H R :=
  .inr ⟨hw, v, H, ⟨rfl, fun j H1 _ _ _ => he _⟩, h⟩
theorem VX.ef1 {d : Option Nat} {x : VEf} {us : Up} {H' : Hp} (hw : want E g = some true) (he : x.ev E H.g H.length = some (v, us)) (hH : applyU H us = H') (hm : hs[m + 1]? = some H') (h : VX P hs l b.tail (m + 1) (E.pt d v) H' R) : VX P hs (.ef d g x :: l) b m E H R :=
  .inr ⟨hw, v, H', ⟨⟨us, he, hH.symm⟩, hm⟩, h⟩
/-- this much is known of a frame -/
def Cov : Fr → Fr → Prop
  | [], _ => True
  | (k, v) :: G, F => F.get k = some v ∧ Cov G F
theorem Cov.get : ∀ {G F : Fr}, Cov G F → ∀ {s : Nat} {v : VV}, G.get s = some v → F.get s = some v
  | [], F, _, s, v, h => by simp [Fr.get] at h
  | (k, u) :: G, F, hc, s, v, h => by
    rw [Fr.get_cons] at h
    split at h
    · rename_i hk; subst hk; cases h; exact hc.1
    · exact hc.2.get h
theorem VW.cov {vc : VC} {G : Fr} (hc : Cov G F) (hd : F.get dslot = none) (hg : G.get dslot = none) (h : VW P B N rn vc G H Q) : VW P B N rn vc F H Q :=
  fun ro hro K c hcc σ w a hH hF => h ro hro K c hcc σ w a hH (hF.sub (by rw [hd, hg]) fun s v _ e => hc.get e)
end
/-- a block of one's own is written over -/
theorem upd_all {e cs : List VV} (h : e.length = cs.length) : upd e 0 cs = cs := by
  apply List.ext_getElem?
  intro i
  rw [(upd_get cs e 0 (by omega)).2 i]
  by_cases hi : i < cs.length
  · rw [if_pos ⟨Nat.zero_le _, by omega⟩, Nat.sub_zero]
  · rw [if_neg (by omega), List.getElem?_eq_none (by omega), List.getElem?_eq_none (by omega)]
theorem ev_storeAll {E : Fr} {H : Hp} {n b : Nat} {m : Nat} {t : TypeId} {md : Mode} {e cs : List VV} {x v : Od} (hx : x.ev E = some (.ptr (some ⟨b, 0, 0⟩))) (hv : v.ev E = some (.agg cs)) (hb : H[b]? = some (.row t md [e])) (hm : md ≠ .ro) (hl : cs.length = m) (he : e.length = m) (hok : okCells cs = true) :
    (VEf.store m x v).ev E H.g n = some (.undef, [(b, .row t md [cs])]) := by
  have hb' : H.g b = some (.row t md [e]) := hb
  simp only [VEf.ev, hx, hv]
  rw [if_pos ⟨rfl, hl⟩]
  simp only [stc, hb']
  rw [if_neg hm]
  have hle : cs.length ≤ e.length := by omega
  simp [VV.cells, hle, hok, upd_all (show e.length = cs.length by omega)]
theorem last_get (H : Hp) (x : Blk) : (H ++ [x])[H.length]? = some x := by simp
theorem last_set (H : Hp) (x y : Blk) : (H ++ [x]).set H.length y = H ++ [y] := by simp
theorem last_lt (H : Hp) (x : Blk) : H.length < (H ++ [x]).length := by simp
theorem VX.fin {P : Program} {hs : List Hp} {b : List (Nat × Nat)} {m keep : Nat} {E F' : Fr} {H : Hp} {Q : VQ} (hk : E.only keep = F') (h : Q .normal F' H) : VX P hs [] b m E H (fun E H' => Q .normal (E.only keep) H') := by
  show Q .normal (E.only keep) H
  rw [hk]; exact h
/-! ### a text's runes -/
section
variable {E : Fr} {H : Hp} {n b : Nat} {x : Od} {s : List UInt8} {pos : Nat}
theorem ev_snextE (hx : x.ev E = some (.ptr (some ⟨b, 0, 0⟩))) (hb : H[b]? = some (.obj (.siter s pos))) (hs : s.length ≤ pos) : (VEf.snext x).ev E H.g n = some (.tup [.bool false], []) := by
  have hb' : H.g b = some (.obj (.siter s pos)) := hb
  simp [VEf.ev, hx, hb', List.getElem?_eq_none hs]
theorem ev_snextL {c : UInt8} (hx : x.ev E = some (.ptr (some ⟨b, 0, 0⟩))) (hb : H[b]? = some (.obj (.siter s pos))) (hs : s[pos]? = some c) (hc : c.toNat < 128) :
    (VEf.snext x).ev E H.g n = some (.tup [.bool true, .int .i64 pos, .int .i32 c.toNat], [(b, .obj (.siter s (pos + 1)))]) := by
  have hb' : H.g b = some (.obj (.siter s pos)) := hb
  simp [VEf.ev, hx, hb', hs, hc]
theorem ev_snextH {c : UInt8} {r wd : Nat} (hx : x.ev E = some (.ptr (some ⟨b, 0, 0⟩))) (hb : H[b]? = some (.obj (.siter s pos))) (hs : s[pos]? = some c) (hc : ¬ c.toNat < 128) (hd : Utf8.decode ⟨s.toArray⟩ pos = (r, wd)) :
    (VEf.snext x).ev E H.g n = some (.tup [.bool true, .int .i64 pos, .int .i32 r], [(b, .obj (.siter s (pos + wd)))]) := by
  have hb' : H.g b = some (.obj (.siter s pos)) := hb
  simp [VEf.ev, hx, hb', hs, hc, hd]
theorem ev_chrH {k : IntKind} {c : Nat} (hx : x.ev E = some (.int k c)) (hc : 128 ≤ c) {G : Gt} : (VOp.chr x).ev E G = some (.str (Utf8.encode c).data.toList) := by
  simp only [VOp.ev, hx]
  rw [if_neg (by omega)]
end
/-! ### a list of texts that grows -/
theorem src_one {H : Hp} {t : TypeId} {md : Mode} {e : List VV} {z : Nat} (he : e.length = z) : srcEls (H ++ [Blk.row t md [e]]).g z (.sl (some ⟨H.length, 0, 0⟩) 1 1) = some [e] := by
  have hb : (H ++ [Blk.row t md [e]]).g H.length = some (Blk.row t md [e]) := last_get _ _
  simp only [srcEls, hb]
  rw [if_neg (by decide), if_pos ⟨by trivial, he, by simp⟩]
  simp
theorem Grow.one {L : Nat} {H : Hp} {v : VV} {ws : List (List UInt8)} {t : TypeId} (h : Grow L t 1 H v (strEs ws)) (hL : L ≤ H.length) (y : List UInt8) (hb : (ws.length + 1) * 16 ≤ 140737488355328) :
    ∃ v' us, (∀ (E : Fr) (s x : Od), s.ev E = some v → x.ev E = some (.sl (some ⟨H.length, 0, 0⟩) 1 1) → (VEf.app t 1 16 s x).ev E (H ++ [Blk.row t .own [[.str y]]]).g (H ++ [Blk.row t .own [[.str y]]]).length = some (v', us)) ∧ Grow L t 1 (applyU (H ++ [Blk.row t .own [[.str y]]]) us) v' (strEs (ws ++ [y])) ∧ Ext L (H ++ [Blk.row t .own [[.str y]]]) (applyU (H ++ [Blk.row t .own [[.str y]]]) us) := by
  obtain ⟨v', us, e1, e2, e3⟩ := (h.push (.row t .own [[.str y]])).app (bytes := 16) (E := [(0, v), (1, .sl (some ⟨H.length, 0, 0⟩) 1 1)]) (s := .t 0) (x := .t 1) (by simp; omega) rfl rfl (src_one rfl) (by simp) (fun e he => by
    rcases List.mem_cons.1 he with rfl | he
    · rfl
    · cases he) (by simpa [strEs_len] using hb) (by simp [strEs_len]; omega)
  refine ⟨v', us, fun E s x hs hx => ?_, by simpa [strEs] using e2, e3⟩
  rw [← e1]
  simp only [VEf.ev, hs, hx]
  rfl
theorem ev_mkrow1 {E : Fr} {G : Gt} {n : Nat} {t : TypeId} {x : Od} {y : List UInt8} (hx : x.ev E = some (.str y)) : (VEf.mkrow t [.str []] 1 [(0, x)]).ev E G n = some (.sl (some ⟨n, 0, 0⟩) 1 1, [(n, .row t .own [[.str y]])]) := by
  simp [VEf.ev, fillRows, hx, VV.defd, VV.cells, okCells, VV.cell]
end Go.Wm
