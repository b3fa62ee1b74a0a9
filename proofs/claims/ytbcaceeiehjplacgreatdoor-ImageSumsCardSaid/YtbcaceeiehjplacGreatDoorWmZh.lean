/- Lists that grow, effects with letters. -/
import Derived.Test.YtbcaceeiehjplacGreatDoorWmZg
namespace Go.Wm
set_option linter.unusedSimpArgs false
set_option linter.unusedVariables false
open Go.RowKit

/-- nothing below 'L' has turned -/
def Ext (L : Nat) (H H' : Hp) : Prop := L ≤ H'.length ∧ ∀ i, i < L → H'[i]? = H[i]?
theorem Ext.refl {L : Nat} {H : Hp} (h : L ≤ H.length) : Ext L H H := ⟨h, fun _ _ => rfl⟩
theorem Ext.trans {L : Nat} {A B C : Hp} (h : Ext L A B) (k : Ext L B C) : Ext L A C := ⟨k.1, fun i hi => (k.2 i hi).trans (h.2 i hi)⟩
theorem Ext.mono {L M : Nat} {A B : Hp} (h : Ext L A B) (hm : M ≤ L) : Ext M A B := ⟨Nat.le_trans hm h.1, fun i hi => h.2 i (by omega)⟩
theorem Ext.push {L : Nat} {A B : Hp} (h : Ext L A B) (x : Blk) : Ext L A (B ++ [x]) := ⟨by have := h.1; simp; omega, fun i hi => by rw [List.getElem?_append_left (by have := h.1; omega)]; exact h.2 i hi⟩
theorem Ext.set {L : Nat} {A B : Hp} (h : Ext L A B) {i : Nat} (hi : L ≤ i) (x : Blk) : Ext L A (B.set i x) := ⟨by simpa using h.1, fun j hj => by rw [List.getElem?_set_ne (by omega)]; exact h.2 j hj⟩
theorem Ext.garbage {A B : Hp} (h : Ext A.length A B) : ∃ G, B = A ++ G := by
  refine ⟨B.drop A.length, ?_⟩
  apply List.ext_getElem?
  intro i
  by_cases hi : i < A.length
  · rw [List.getElem?_append_left hi]; exact h.2 i hi
  · rw [List.getElem?_append_right (by omega), List.getElem?_drop]; congr 1; omega
theorem Ext.get {L : Nat} {A B : Hp} (h : Ext L A B) {i : Nat} {x : Blk} (hl : i < L) (hi : A[i]? = some x) : B[i]? = some x := by rw [h.2 i hl]; exact hi
theorem Ext.sl {A B : Hp} (h : Ext A.length A B) {p : Option PA} {z : Nat} {es : List (List VV)} (hs : Sl A p z es) : Sl B p z es := by
  obtain ⟨G, rfl⟩ := h.garbage; exact hs.mono G
theorem Ext.sl' {A B : Hp} {L : Nat} (h : Ext L A B) {p : Option PA} {z : Nat} {es : List (List VV)} (hs : Sl A p z es) (hp : ∀ q, p = some q → q.blk < L) : Sl B p z es := by
  rcases hs with hs | ⟨b, i, md, t, rows, rfl, h2, h3, h4⟩
  · exact .inl hs
  · exact .inr ⟨b, i, md, t, rows, rfl, h.get (hp _ rfl) h2, h3, h4⟩

/-- a list that was grown from nothing above 'L' -/
def Grow (L : Nat) (t : TypeId) (z : Nat) (H : Hp) (v : VV) (es : List (List VV)) : Prop :=
  (es = [] ∧ v = .sl none 0 0) ∨ (es ≠ [] ∧ (∀ e ∈ es, e.length = z) ∧ ∃ b, L ≤ b ∧ v = .sl (some ⟨b, 0, 0⟩) es.length es.length ∧ H[b]? = some (.row t .loose es))
theorem Grow.nil (L : Nat) (t : TypeId) (z : Nat) (H : Hp) : Grow L t z H (.sl none 0 0) [] := .inl ⟨rfl, rfl⟩
theorem Grow.sl {L : Nat} {t : TypeId} {z : Nat} {H : Hp} {v : VV} {es : List (List VV)} (h : Grow L t z H v es) : ∃ p, v = .sl p es.length es.length ∧ Sl H p z es ∧ ∀ q, p = some q → q.blk < H.length := by
  rcases h with ⟨rfl, rfl⟩ | ⟨h1, h2, b, h3, rfl, h4⟩
  · exact ⟨none, rfl, .inl rfl, fun q h => by cases h⟩
  · exact ⟨_, rfl, .inr ⟨b, 0, .loose, t, es, rfl, h4, h2, fun k e he => by simpa using he⟩, fun q hq => by cases hq; exact (List.getElem?_eq_some_iff.1 h4).1⟩
theorem Grow.push {L : Nat} {t : TypeId} {z : Nat} {H : Hp} {v : VV} {es : List (List VV)} (h : Grow L t z H v es) (x : Blk) : Grow L t z (H ++ [x]) v es := by
  rcases h with h | ⟨h1, h2, b, h3, rfl, h4⟩
  · exact .inl h
  · exact .inr ⟨h1, h2, b, h3, rfl, by rw [List.getElem?_append_left (List.getElem?_eq_some_iff.1 h4).1]; exact h4⟩
theorem Grow.app {L : Nat} {t : TypeId} {z bytes : Nat} {H : Hp} {v u : VV} {es news : List (List VV)} {E : Fr} {s x : Od} (h : Grow L t z H v es) (hL : L ≤ H.length) (hs : s.ev E = some v) (hx : x.ev E = some u) (hu : srcEls H.g z u = some news)
    (hne : news ≠ []) (hz : ∀ e ∈ news, e.length = z) (hb : (es.length + news.length) * bytes ≤ 140737488355328) (hb2 : es.length + news.length ≤ 4611686018427387904) :
    ∃ v' us, (VEf.app t z bytes s x).ev E H.g H.length = some (v', us) ∧ Grow L t z (applyU H us) v' (es ++ news) ∧ Ext L H (applyU H us) := by
  have hpos : 0 < news.length := List.length_pos_iff.2 hne
  have hall : ∀ e ∈ es ++ news, es = [] ∨ (∀ e ∈ es, e.length = z) → e.length = z := fun e he ho => by
    rcases List.mem_append.1 he with h1 | h1
    · rcases ho with h2 | h2
      · rw [h2] at h1; cases h1
      · exact h2 e h1
    · exact hz e h1
  rcases h with ⟨rfl, rfl⟩ | ⟨h1, h2, b, h3, rfl, h4⟩
  · refine ⟨.sl (some ⟨H.length, 0, 0⟩) news.length news.length, [(H.length, .row t .loose news)], ?_, ?_, ?_⟩
    · simp only [VEf.ev, hs, hx, hu, appV]
      simp only [List.length_nil, Nat.zero_add] at hb hb2 ⊢
      rw [if_neg (by omega), if_pos ⟨hb, hb2⟩]
    · rw [applyU_push]
      exact .inr ⟨by simpa using hne, fun e he => hall e he (.inl rfl), H.length, hL, by simp, by simp⟩
    · rw [applyU_push]; exact (Ext.refl hL).push _
  · have hbl := (List.getElem?_eq_some_iff.1 h4).1
    have h4' : H.g b = some (.row t .loose es) := h4
    obtain ⟨e0, es0, rfl⟩ : ∃ e0 es0, es = e0 :: es0 := by cases es with | nil => exact absurd rfl h1 | cons a l => exact ⟨a, l, rfl⟩
    have ho : srcEls H.g z (.sl (some ⟨b, 0, 0⟩) (e0 :: es0).length (e0 :: es0).length) = some (e0 :: es0) := by
      simp only [srcEls, h4']
      rw [if_neg (by simp), if_pos ⟨by simp, h2 e0 (by simp), by simp⟩]
      simp
    have happ : applyU H [(b, Blk.dead), (H.length, Blk.row t .loose ((e0 :: es0) ++ news))] = H.set b .dead ++ [Blk.row t .loose ((e0 :: es0) ++ news)] := by simp [applyU, hbl]
    refine ⟨.sl (some ⟨H.length, 0, 0⟩) ((e0 :: es0).length + news.length) ((e0 :: es0).length + news.length), [(b, .dead), (H.length, .row t .loose ((e0 :: es0) ++ news))], ?_, ?_, ?_⟩
    · simp only [VEf.ev, hs, hx, hu, appV]
      rw [if_neg (by omega), if_pos ⟨hb, hb2⟩]
      simp only [h4', ho, if_true]
      rw [if_pos ⟨trivial, trivial, by simp [h2 e0]⟩]
    · rw [happ]
      exact .inr ⟨by simp, fun e he => hall e he (.inr h2), H.length, hL, by simp; omega, by simp⟩
    · rw [happ]; exact ((Ext.refl hL).set h3 _).push _
end Go.Wm
