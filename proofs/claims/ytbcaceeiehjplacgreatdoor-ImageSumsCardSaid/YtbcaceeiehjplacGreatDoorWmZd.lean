/- What a reading says, type by type. -/
import Derived.Test.YtbcaceeiehjplacGreatDoorWmZg
namespace Go.Wm
set_option linter.unusedSimpArgs false
set_option linter.unusedVariables false
open Go.RowKit

section
variable {D : Type} {P : Program} {H : Hp} {t e : TypeId} {vs : List VV} {d : DataW D}
theorem Rd.int_inv {k : IntKind} (ht : P.underlying t = some (.int k)) (h : Rd P H t vs d) : ∃ n, vs = [.int k n] ∧ (Lit.int k n).wf = true ∧ d = .lit (.int k n) := by
  cases h with
  | int ht' hw => rw [ht] at ht'; cases ht'; exact ⟨_, rfl, hw, rfl⟩
  | bool ht' => rw [ht] at ht'; cases ht'
  | str ht' => rw [ht] at ht'; cases ht'
  | nil ht' => rw [ht] at ht'; cases ht'
  | sl ht' => rw [ht] at ht'; cases ht'
  | struct ht' => rw [ht] at ht'; cases ht'
theorem Rd.bool_inv (ht : P.underlying t = some .bool) (h : Rd P H t vs d) : ∃ b, vs = [.bool b] ∧ d = .lit (.bool b) := by
  cases h with
  | bool ht' b => exact ⟨b, rfl, rfl⟩
  | int ht' => rw [ht] at ht'; cases ht'
  | str ht' => rw [ht] at ht'; cases ht'
  | nil ht' => rw [ht] at ht'; cases ht'
  | sl ht' => rw [ht] at ht'; cases ht'
  | struct ht' => rw [ht] at ht'; cases ht'
theorem Rd.str_inv (ht : P.underlying t = some .string) (h : Rd P H t vs d) : ∃ s, vs = [.str s] ∧ s.length ≤ maxLen ∧ d = .lit (.string s) := by
  cases h with
  | str ht' hs => exact ⟨_, rfl, hs, rfl⟩
  | bool ht' => rw [ht] at ht'; cases ht'
  | int ht' => rw [ht] at ht'; cases ht'
  | nil ht' => rw [ht] at ht'; cases ht'
  | sl ht' => rw [ht] at ht'; cases ht'
  | struct ht' => rw [ht] at ht'; cases ht'
/-- a slice: its elements, and what each says -/
theorem Rd.sl_inv (ht : P.underlying t = some (.slice e)) (h : Rd P H t vs d) : ∃ (p : Option PA) (es : List (List VV)) (c : Nat) (ds : List (DataW D)), vs = [.sl p es.length c] ∧ es.length ≤ c ∧ c ≤ maxLen ∧ Sl H p (P.cellsOf e) es ∧ ds.length = es.length ∧
    (∀ x ∈ es, x.length = P.cellsOf e) ∧ (∀ (i : Nat) x y, es[i]? = some x → ds[i]? = some y → Rd P H e x y) ∧ ((p = none ∧ c = 0 ∧ d = .nil ∧ ds = []) ∨ ∃ rest, d = .slice ds rest) := by
  cases h with
  | nil ht' => exact ⟨none, [], 0, [], rfl, Nat.le_refl _, by decide, .inl rfl, rfl, by simp, by simp, .inl ⟨rfl, rfl, rfl, rfl⟩⟩
  | bool ht' => rw [ht] at ht'; cases ht'
  | int ht' => rw [ht] at ht'; cases ht'
  | str ht' => rw [ht] at ht'; cases ht'
  | struct ht' => rw [ht] at ht'; cases ht'
  | sl ht' b len cap es ds rest hlc hm hd hr hrow hes hln hel =>
    rw [ht] at ht'
    cases ht'
    have hl : (es.take len).length = len := by rw [List.length_take]; omega
    refine ⟨some ⟨b, 0, 0⟩, es.take len, cap, ds, by rw [hl], by omega, hm, ?_, by omega, fun x hx => hln x (List.mem_of_mem_take hx), fun i x y hx hy => ?_, .inr ⟨rest, rfl⟩⟩
    · rcases Nat.eq_zero_or_pos cap with h0 | h0
      · left; rw [show len = 0 by omega]; simp
      · right
        refine ⟨b, 0, .ro, _, es, rfl, hrow h0, hln, fun k x hx => ?_⟩
        rw [List.getElem?_take] at hx
        split at hx
        · rw [Nat.zero_add]; exact hx
        · cases hx
    · rw [List.getElem?_take] at hx
      split at hx
      · exact hel i x y hx (by rw [List.getElem?_append_left (List.getElem?_eq_some_iff.1 hy).1]; exact hy)
      · cases hx
theorem Rd.struct_inv {fs : Array Field} (ht : P.underlying t = some (.struct fs)) (h : Rd P H t vs d) : ∃ (ps : List (List VV)) (ds : List (DataW D)), vs = ps.flatten ∧ d = .agg ds ∧ ps.length = fs.size ∧ ds.length = fs.size ∧
    ∀ (i : Nat) (f : Field) p y, fs[i]? = some f → ps[i]? = some p → ds[i]? = some y → Rd P H f.type p y := by
  cases h with
  | struct ht' ps ds hp hd hln hh => rw [ht] at ht'; cases ht'; exact ⟨ps, ds, rfl, rfl, hp, hd, hh⟩
  | bool ht' => rw [ht] at ht'; cases ht'
  | int ht' => rw [ht] at ht'; cases ht'
  | str ht' => rw [ht] at ht'; cases ht'
  | nil ht' => rw [ht] at ht'; cases ht'
  | sl ht' => rw [ht] at ht'; cases ht'
/-- a slice of ints -/
theorem Rd.ints (ht : P.underlying t = some (.slice e)) (he : P.underlying e = some (.int .i64)) (hc : P.cellsOf e = 1) (h : Rd P H t vs d) : ∃ (p : Option PA) (l : List Int) (c : Nat), vs = [.sl p l.length c] ∧ l.length ≤ maxLen ∧ Sl H p 1 (intEs l) ∧ ∀ n ∈ l, (Lit.int .i64 n).wf = true := by
  obtain ⟨p, es, c, ds, rfl, h1, h2, h3, h4, h5, h6, _⟩ := h.sl_inv ht
  have key : ∀ (es : List (List VV)) (ds : List (DataW D)), ds.length = es.length → (∀ (i : Nat) x y, es[i]? = some x → ds[i]? = some y → Rd P H e x y) → ∃ l, es = intEs l ∧ ∀ n ∈ l, (Lit.int .i64 n).wf = true := by
    intro es
    induction es with
    | nil => intro ds _ _; exact ⟨[], rfl, by simp⟩
    | cons x es ih =>
      intro ds hl hd
      cases ds with
      | nil => simp at hl
      | cons y ds =>
        obtain ⟨l, rfl, hw⟩ := ih ds (by simpa using hl) fun i x y hx hy => hd (i + 1) x y (by simpa using hx) (by simpa using hy)
        obtain ⟨n, rfl, hn, _⟩ := (hd 0 x y rfl rfl).int_inv he
        refine ⟨n :: l, rfl, fun m hm => ?_⟩
        rcases List.mem_cons.1 hm with rfl | hm
        · exact hn
        · exact hw m hm
  obtain ⟨l, rfl, hw⟩ := key es ds h4 h6
  rw [intEs_len] at h1 ⊢
  exact ⟨p, l, c, rfl, by omega, by rw [hc] at h3; exact h3, hw⟩
theorem wf_i64 {n : Int} (h : (Lit.int .i64 n).wf = true) : -9223372036854775808 ≤ n ∧ n ≤ 9223372036854775807 := by
  simpa [Lit.wf, IntKind.min, IntKind.max, IntKind.signed, IntKind.bits] using h
theorem ArgRd.int_inv {v : VV} {k : IntKind} (ht : P.underlying t = some (.int k)) (h : ArgRd P H t v d) : ∃ n, v = .int k n ∧ (Lit.int k n).wf = true := by
  obtain ⟨vs, h1, h2⟩ := h
  obtain ⟨n, rfl, hw, _⟩ := h1.int_inv ht
  exact ⟨n, by simpa [isStruct, ht] using h2, hw⟩
end
end Go.Wm
