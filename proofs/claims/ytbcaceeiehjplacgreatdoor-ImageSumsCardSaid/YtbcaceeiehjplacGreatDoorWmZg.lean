/- Walks with letters: the rules, and what a reading gives, its conditions as premises. -/
import Derived.Test.YtbcaceeiehjplacGreatDoorWmZf
import Derived.Test.YtbcaceeiehjplacGreatDoorWmZc
namespace Go.Wm
set_option linter.unusedSimpArgs false
set_option linter.unusedVariables false
open Go.RowKit

section
variable {P : Program} {B N : Nat} {rn : Bool} {F E : Fr} {H : Hp} {Q : VQ} {K : Fr → Hp → Prop} {l : List VI} {d : Nat} {g : Option (Nat × Bool)}
theorem VOps.sk {x : VOp} (hw : want E g = some false) (h : VOps P B N rn l ((d, .tup []) :: E) H Q) : VOps P B N rn (.rd d g x :: l) E H Q := VOps.skip (x := .rd d g x) hw h
theorem VOps.fin {keep : Nat} (h : Q .normal (E.only keep) H) : VOps P B N rn [] E H (atEnd Q keep) := VOps.nil ⟨rfl, h⟩
theorem VW.condT {s : Nat} {x y : VC} (hs : F.get s = some (.bool true)) (h : VW P B N rn x F H Q) : VW P B N rn (.cond s x y) F H Q := VW.cond hs (fun _ => h) (fun h => by cases h)
theorem VW.condF {s : Nat} {x y : VC} (hs : F.get s = some (.bool false)) (h : VW P B N rn y F H Q) : VW P B N rn (.cond s x y) F H Q := VW.cond hs (fun h => by cases h) (fun _ => h)
/-- a condition that is a comparison -/
theorem VW.condP {s : Nat} {x y : VC} {p : Prop} [Decidable p] (hs : F.get s = some (.bool (decide p))) (h1 : p → VW P B N rn x F H Q) (h2 : ¬ p → VW P B N rn y F H Q) : VW P B N rn (.cond s x y) F H Q :=
  VW.cond hs (fun h => h1 (of_decide_eq_true h)) (fun h => h2 (of_decide_eq_false h))
theorem FnV.enterRow {r : FRow} {args : List VV} {R : VV → Hp → Prop} (hr : RowFOk P r) (hl : args.length ≤ r.n)
    (h : ∀ B, VW P B r.n false (strip r.vc) (argsF 0 args) H fun e F' H' => (e = .ret ∨ e = .normal) ∧ F'.get dslot = none ∧ ∃ v, resV F' H'.g r.rs = some v ∧ R v H') : FnV P r.f args H R := by
  obtain ⟨fn, c, K, e1, e2, e3, e4, e5, e6, e7⟩ := hr
  refine FnV.enter e1 e2 e3 e4 e5 (by rw [e6]; exact hl) e7 fun B => ?_
  rw [e6]
  refine (h B).mono ?_
  rintro e F' H' ⟨h1, h2, v, h3, h4⟩
  refine ⟨h1, ?_⟩
  unfold Fr.dl
  rw [h2]
  exact ⟨v, h3, h4⟩

/-! ### readings -/
variable {G : Gt} {x y i : Od} {k : IntKind} {a b : Int}
theorem ev_bin {op : BinOp} (hx : x.ev E = some (.int k a)) (hy : y.ev E = some (.int k b)) {v : VV} (h : iarith op k a b = some v) : (VOp.bin op x y).ev E G = some v := by
  simp only [VOp.ev, hx, hy, bin, if_true, h]
theorem ev_add (hx : x.ev E = some (.int .i64 a)) (hy : y.ev E = some (.int .i64 b)) (h1 : -9223372036854775808 ≤ a + b) (h2 : a + b ≤ 9223372036854775807) : (VOp.bin .add x y).ev E G = some (.int .i64 (a + b)) :=
  ev_bin hx hy (by
    simp only [iarith, wrapK_eq, iadd_eq]
    rw [show IntKind.i64.wrap (a + b) = a + b by simp [IntKind.wrap, IntKind.bits, IntKind.signed]; omega])
theorem ev_sub (hx : x.ev E = some (.int .i64 a)) (hy : y.ev E = some (.int .i64 b)) (h1 : -9223372036854775808 ≤ a - b) (h2 : a - b ≤ 9223372036854775807) : (VOp.bin .sub x y).ev E G = some (.int .i64 (a - b)) :=
  ev_bin hx hy (by
    simp only [iarith, wrapK_eq, iadd_eq, ineg_eq, ← Int.sub_eq_add_neg]
    rw [show IntKind.i64.wrap (a - b) = a - b by simp [IntKind.wrap, IntKind.bits, IntKind.signed]; omega])
theorem ev_eql (hx : x.ev E = some (.int k a)) (hy : y.ev E = some (.int k b)) : (VOp.bin .eql x y).ev E G = some (.bool (decide (a = b))) :=
  ev_bin hx hy (by simp only [iarith, ieq_eq]; rfl)
theorem ev_neq (hx : x.ev E = some (.int k a)) (hy : y.ev E = some (.int k b)) : (VOp.bin .neq x y).ev E G = some (.bool (decide (a ≠ b))) :=
  ev_bin hx hy (by simp only [iarith, ieq_eq]; by_cases h : a = b <;> simp [h])
theorem ev_lss (hx : x.ev E = some (.int k a)) (hy : y.ev E = some (.int k b)) : (VOp.bin .lss x y).ev E G = some (.bool (decide (a < b))) :=
  ev_bin hx hy (by simp only [iarith, ilt_eq])
theorem ev_leq (hx : x.ev E = some (.int k a)) (hy : y.ev E = some (.int k b)) : (VOp.bin .leq x y).ev E G = some (.bool (decide (a ≤ b))) :=
  ev_bin hx hy (by simp only [iarith, ilt_eq, nlt_eq])
theorem ev_gtr (hx : x.ev E = some (.int k a)) (hy : y.ev E = some (.int k b)) : (VOp.bin .gtr x y).ev E G = some (.bool (decide (b < a))) :=
  ev_bin hx hy (by simp only [iarith, ilt_eq])
theorem ev_geq (hx : x.ev E = some (.int k a)) (hy : y.ev E = some (.int k b)) : (VOp.bin .geq x y).ev E G = some (.bool (decide (b ≤ a))) :=
  ev_bin hx hy (by simp only [iarith, ilt_eq, nlt_eq])
theorem ev_lent {s : List UInt8} (hx : x.ev E = some (.str s)) : (VOp.lent x).ev E G = some (.int .i64 s.length) := by simp only [VOp.ev, hx]
theorem ev_lens {p : Option PA} {m c : Nat} (hx : x.ev E = some (.sl p m c)) : (VOp.lens x).ev E G = some (.int .i64 m) := by simp only [VOp.ev, hx]
theorem ev_ixs {s : List UInt8} {c : UInt8} (hx : x.ev E = some (.str s)) (hi : i.ev E = some (.int k a)) (h0 : 0 ≤ a) (hc : s[a.toNat]? = some c) : (VOp.ixs x i).ev E G = some (.int .u8 c.toNat) := by
  simp only [VOp.ev, hx, hi, h0, if_true, hc]
theorem ev_slstr {s : List UInt8} {lo hi : Option Od} {u v : Int} (hx : x.ev E = some (.str s)) (hl : Od.oev E 0 lo = some u) (hh : Od.oev E s.length hi = some v) (h0 : 0 ≤ u) (h1 : u ≤ v) (h2 : v ≤ s.length) :
    (VOp.slstr x lo hi).ev E G = some (.str ((s.take v.toNat).drop u.toNat)) := by
  simp only [VOp.ev, hx, hl, hh, h0, h1, h2, and_self, if_true]
theorem ev_seq {op : BinOp} {s t : List UInt8} {v : VV} (hx : x.ev E = some (.str s)) (hy : y.ev E = some (.str t)) (h : strOp op s t = some v) : (VOp.seq op x y).ev E G = some v := by
  simp only [VOp.ev, hx, hy, h]
theorem ev_cat {s t : List UInt8} (hx : x.ev E = some (.str s)) (hy : y.ev E = some (.str t)) (h : s.length + t.length ≤ 9223372036854775807) : (VOp.seq .add x y).ev E G = some (.str (s ++ t)) := ev_seq hx hy (by simp only [strOp, h, if_true])
theorem ev_seql {s t : List UInt8} (hx : x.ev E = some (.str s)) (hy : y.ev E = some (.str t)) : (VOp.seq .eql x y).ev E G = some (.bool (decide (s = t))) := ev_seq hx hy (by simp only [strOp]; by_cases h : s = t <;> simp [h])
theorem ev_sneq {s t : List UInt8} (hx : x.ev E = some (.str s)) (hy : y.ev E = some (.str t)) : (VOp.seq .neq x y).ev E G = some (.bool (decide (s ≠ t))) := ev_seq hx hy (by simp only [strOp]; by_cases h : s = t <;> simp [h])
theorem ev_conv {k' : IntKind} (hx : x.ev E = some (.int k a)) {c : Int} (h : k'.wrap a = c) : (VOp.conv k' x).ev E G = some (.int k' c) := by simp only [VOp.ev, hx, wrapK_eq, h]
end

/-- 'p' is where these elements lie, each of 'z' cells -/
def Sl (H : Hp) (p : Option PA) (z : Nat) (es : List (List VV)) : Prop :=
  es = [] ∨ ∃ b i md t rows, p = some ⟨b, i, 0⟩ ∧ H[b]? = some (.row t md rows) ∧ (∀ e ∈ rows, e.length = z) ∧ ∀ (k : Nat) e, es[k]? = some e → rows[i + k]? = some e
def elp (p : Option PA) (k : Nat) : PA := match p with | some q => ⟨q.blk, q.idx + k, 0⟩ | none => ⟨0, 0, 0⟩
section
variable {H : Hp} {p : Option PA} {z : Nat} {es : List (List VV)} {E : Fr} {x i : Od} {k : IntKind} {a : Int}
theorem Sl.mono (h : Sl H p z es) (G : Hp) : Sl (H ++ G) p z es := by
  rcases h with h | ⟨b, i, md, t, rows, h1, h2, h3, h4⟩
  · exact .inl h
  · exact .inr ⟨b, i, md, t, rows, h1, by rw [List.getElem?_append_left (List.getElem?_eq_some_iff.1 h2).1]; exact h2, h3, h4⟩
theorem Sl.ixp (h : Sl H p z es) {k : Nat} (hk : k < es.length) : ∃ q, p = some q ∧ Wm.ixp H.g q k z = some (elp p k) := by
  rcases h with rfl | ⟨b, i, md, t, rows, rfl, h2, h3, h4⟩
  · simp at hk
  · refine ⟨_, rfl, ?_⟩
    have h5 := h4 k _ (List.getElem?_eq_getElem hk)
    cases rows with
    | nil => simp at h5
    | cons e rows =>
      have hz := h3 e (by simp)
      have h2' : H.g b = some (.row t md (e :: rows)) := h2
      simp only [Wm.ixp, eszOf, h2', padd, hz, elp]
      simp
theorem Sl.ld (h : Sl H p z es) {k : Nat} {e : List VV} (he : es[k]? = some e) (o : Nat) : Wm.ld H.g ⟨(elp p k).blk, (elp p k).idx, o⟩ = e[o]? := by
  rcases h with rfl | ⟨b, i, md, t, rows, rfl, h2, h3, h4⟩
  · simp at he
  · have h2' : H.g b = some (.row t md rows) := h2
    simp only [Wm.ld, elp, h2', h4 k e he]
theorem Sl.ld0 (h : Sl H p z es) {k : Nat} {e : List VV} (he : es[k]? = some e) : Wm.ld H.g (elp p k) = e[0]? := by
  have := h.ld he 0
  cases p <;> simpa [elp] using this
/-- the address of an element -/
theorem ev_ixa (hs : Sl H p z es) {m c : Nat} (hx : x.ev E = some (.sl p m c)) (hi : i.ev E = some (.int k a)) (h0 : 0 ≤ a) (h1 : a < m) (h2 : m ≤ es.length) : (VOp.ixa z x i).ev E H.g = some (.ptr (some (elp p a.toNat))) := by
  obtain ⟨q, rfl, e1⟩ := hs.ixp (k := a.toNat) (by omega)
  simp only [VOp.ev, hx, hi, inRng_iff.2 ⟨h0, h1⟩, if_true, e1]
/-- an element of one cell -/
theorem ev_ld (hs : Sl H p z es) {j : Nat} {v : VV} {r : List VV} (hx : x.ev E = some (.ptr (some (elp p j)))) (he : es[j]? = some (v :: r)) : (VOp.load 1 false x).ev E H.g = some v := by
  simp only [VOp.ev, hx, Bool.false_eq_true, if_false, hs.ld0 he, List.getElem?_cons_zero]
/-- ints, each in a cell of its own -/
def intEs (l : List Int) : List (List VV) := l.map fun n => [.int .i64 n]
theorem intEs_len (l : List Int) : (intEs l).length = l.length := by simp [intEs]
theorem intEs_get (l : List Int) (k : Nat) : (intEs l)[k]? = (l[k]?).map fun n => [VV.int .i64 n] := by simp [intEs]
/-- texts, each in a cell of its own -/
def strEs (l : List (List UInt8)) : List (List VV) := l.map fun n => [.str n]
theorem strEs_len (l : List (List UInt8)) : (strEs l).length = l.length := by simp [strEs]
theorem strEs_get (l : List (List UInt8)) (k : Nat) : (strEs l)[k]? = (l[k]?).map fun n => [VV.str n] := by simp [strEs]
end
end Go.Wm
