/- Signs that are no bytes of ASCII: what is decoded, what is encoded. -/
import Derived.Test.YtfodpmekcddgpaaGreatDoorWmB
namespace Go.Wm.To
set_option linter.unusedSimpArgs false
set_option linter.unusedVariables false
theorem get_at (s : List UInt8) {j : Nat} (h : j < s.length) : s[j]? = some ((⟨s.toArray⟩ : ByteArray).get! j) := by
  have h' : j < s.toArray.size := by simpa using h
  show s[j]? = some (s.toArray[j]!)
  rw [getElem!_pos s.toArray j h', List.getElem?_eq_getElem h]
  simp
theorem decode_hi {s : List UInt8} {i : Nat} {b : UInt8} (hb : s[i]? = some b) (h128 : 128 ≤ b.toNat) :
    ∃ c wd : Nat, Utf8.decode ⟨s.toArray⟩ i = (c, wd) ∧ 128 ≤ c ∧ Utf8.valid c = true ∧ 1 ≤ wd ∧ i + wd ≤ s.length ∧ ∀ j, i ≤ j → j < i + wd → ∃ x, s[j]? = some x ∧ 128 ≤ x.toNat := by
  obtain ⟨hi, hbi⟩ := List.getElem?_eq_some_iff.1 hb
  have hsz : (⟨s.toArray⟩ : ByteArray).size = s.length := by simp [ByteArray.size]
  have h0 : ((⟨s.toArray⟩ : ByteArray).get! i) = b := by
    have := get_at s hi
    rw [hb] at this
    exact (Option.some.inj this).symm
  have bad : ∀ c wd : Nat, (Utf8.runeError, 1) = (c, wd) → 128 ≤ c ∧ Utf8.valid c = true ∧ 1 ≤ wd ∧ i + wd ≤ s.length ∧ ∀ j, i ≤ j → j < i + wd → ∃ x, s[j]? = some x ∧ 128 ≤ x.toNat := fun c wd e => by
    simp only [Prod.mk.injEq, Utf8.runeError] at e
    obtain ⟨rfl, rfl⟩ := e
    exact ⟨by decide, by decide, by decide, hi, fun j h1 h2 => ⟨b, by rw [show j = i by omega]; exact hb, h128⟩⟩
  have next : ∀ k, i + k < s.length → ((⟨s.toArray⟩ : ByteArray).get! (i + k)).toNat / 64 = 2 → ∃ x, s[i + k]? = some x ∧ 128 ≤ x.toNat := fun k h1 h2 => ⟨_, get_at s h1, by omega⟩
  have hb2 := b.toNat_lt
  generalize hr : Utf8.decode ⟨s.toArray⟩ i = r
  obtain ⟨c, wd⟩ := r
  refine ⟨c, wd, rfl, ?_⟩
  unfold Utf8.decode at hr
  simp only [Nat.add_zero, h0, hsz] at hr
  rw [if_neg (by omega)] at hr
  split at hr
  · rename_i h
    simp only [Bool.and_eq_true, beq_iff_eq, decide_eq_true_eq] at h
    obtain ⟨h1, h2, h3⟩ := h
    split at hr
    · rename_i h4
      cases hr
      refine ⟨h4, ?_, by simp, by omega, fun j a b' => ?_⟩
      · simp only [Utf8.valid, Bool.or_eq_true, Bool.and_eq_true, decide_eq_true_eq]
        left
        have := Nat.mod_lt ((⟨s.toArray⟩ : ByteArray).get! (i + 1)).toNat (show 0 < 64 by decide)
        omega
      · by_cases hj : j = i
        · exact ⟨b, by rw [hj]; exact hb, h128⟩
        · rw [show j = i + 1 by omega]; exact next 1 h2 h3
    · exact bad _ _ hr
  · split at hr
    · rename_i h
      simp only [Bool.and_eq_true, beq_iff_eq, decide_eq_true_eq] at h
      obtain ⟨⟨h1, h2, h3⟩, h4, h5⟩ := h
      split at hr
      · rename_i h6
        simp only [Bool.and_eq_true, decide_eq_true_eq] at h6
        cases hr
        refine ⟨by have := h6.1; omega, h6.2, by simp, by omega, fun j a b' => ?_⟩
        by_cases hj : j = i
        · exact ⟨b, by rw [hj]; exact hb, h128⟩
        · by_cases hj2 : j = i + 1
          · rw [hj2]; exact next 1 h2 h3
          · rw [show j = i + 2 by omega]; exact next 2 h4 h5
      · exact bad _ _ hr
    · split at hr
      · rename_i h
        simp only [Bool.and_eq_true, beq_iff_eq, decide_eq_true_eq] at h
        obtain ⟨⟨⟨h1, h2, h3⟩, h4, h5⟩, h6, h7⟩ := h
        split at hr
        · rename_i h8
          simp only [Bool.and_eq_true, decide_eq_true_eq] at h8
          cases hr
          refine ⟨by have := h8.1; omega, h8.2, by simp, by omega, fun j a b' => ?_⟩
          by_cases hj : j = i
          · exact ⟨b, by rw [hj]; exact hb, h128⟩
          · by_cases hj2 : j = i + 1
            · rw [hj2]; exact next 1 h2 h3
            · by_cases hj3 : j = i + 2
              · rw [hj3]; exact next 2 h4 h5
              · rw [show j = i + 3 by omega]; exact next 3 h6 h7
        · exact bad _ _ hr
      · exact bad _ _ hr
theorem encode_hi {c : Nat} (h128 : 128 ≤ c) (hv : Utf8.valid c = true) : ∃ (l : List UInt8) (x : UInt8), (Utf8.encode c).data.toList = l ++ [x] ∧ 1 ≤ l.length ∧ l.length ≤ 3 ∧ 128 ≤ x.toNat := by
  have hx : ∀ n, 128 ≤ (UInt8.ofNat (0x80 + n % 64)).toNat := fun n => by
    have := Nat.mod_lt n (show 0 < 64 by decide)
    rw [UInt8.toNat_ofNat']
    omega
  unfold Utf8.encode
  simp only [hv, if_true, Int.toNat_natCast]
  rw [if_neg (by omega)]
  split
  · exact ⟨[_], _, rfl, by simp, by simp, hx _⟩
  · split
    · exact ⟨[_, _], _, rfl, by simp, by simp, hx _⟩
    · exact ⟨[_, _, _], _, rfl, by simp, by simp, hx _⟩
end Go.Wm.To
