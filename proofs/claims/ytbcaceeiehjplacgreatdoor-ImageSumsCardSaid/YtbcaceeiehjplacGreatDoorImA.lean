/- The sum of bytes, in plain numbers: with one byte turned it is another. -/
import Derived.Test.YtbcaceeiehjplacGreatDoorWmB
namespace Go.Wm.Im
/-- one byte more -/
def step (n : Nat) (b : UInt8) : Nat := (n ^^^ b.toNat) * 16777619 % 4294967296
def sumFrom (n : Nat) (l : List UInt8) : Nat := l.foldl step n
def sum (l : List UInt8) : Nat := sumFrom 2166136261 l
theorem step_lt (n : Nat) (b : UInt8) : step n b < 4294967296 := Nat.mod_lt _ (by decide)
theorem sumFrom_lt {n : Nat} (hn : n < 4294967296) (l : List UInt8) : sumFrom n l < 4294967296 := by
  induction l generalizing n with
  | nil => exact hn
  | cons b l ih => exact ih (step_lt n b)
theorem xor_lt {n : Nat} (hn : n < 4294967296) (b : UInt8) : n ^^^ b.toNat < 4294967296 := Nat.xor_lt_two_pow (n := 32) hn (by have := b.toNat_lt; omega)
theorem mul_inj {a b : Nat} (ha : a < 4294967296) (hb : b < 4294967296) (h : a * 16777619 % 4294967296 = b * 16777619 % 4294967296) : a = b := by
  have key : ∀ x, x < 4294967296 → x * 16777619 % 4294967296 * 899433627 % 4294967296 = x := fun x hx => by
    rw [Nat.mod_mul_mod, Nat.mul_assoc, show 16777619 * 899433627 = 4294967296 * 3513497 + 1 from by decide, Nat.mul_add, Nat.mul_one, ← Nat.mul_assoc, Nat.mul_comm x 4294967296, Nat.mul_assoc, Nat.mul_add_mod]
    exact Nat.mod_eq_of_lt hx
  rw [← key a ha, ← key b hb, h]
theorem step_inj {m n : Nat} (hm : m < 4294967296) (hn : n < 4294967296) {b c : UInt8} (h : step m b = step n c) : m ^^^ b.toNat = n ^^^ c.toNat := mul_inj (xor_lt hm b) (xor_lt hn c) h
theorem xor_cancel {a b c : Nat} (h : a ^^^ c = b ^^^ c) : a = b := by
  have := congrArg (· ^^^ c) h
  simpa [Nat.xor_assoc] using this
theorem xor_cancel' {a b c : Nat} (h : c ^^^ a = c ^^^ b) : a = b := by
  rw [Nat.xor_comm c a, Nat.xor_comm c b] at h; exact xor_cancel h
theorem sumFrom_inj {m n : Nat} (hm : m < 4294967296) (hn : n < 4294967296) {l : List UInt8} (h : sumFrom m l = sumFrom n l) : m = n := by
  induction l generalizing m n with
  | nil => exact h
  | cons b l ih => exact xor_cancel (step_inj hm hn (ih (step_lt m b) (step_lt n b) h))
theorem sum_turned (x y : List UInt8) (b c : UInt8) : (sum (x ++ c :: y) = sum (x ++ b :: y)) ↔ c = b := by
  constructor
  · intro h
    unfold sum sumFrom at h
    rw [List.foldl_append, List.foldl_append] at h
    have h1 := sumFrom_inj (l := y) (step_lt _ c) (step_lt _ b) h
    have h0 : List.foldl step 2166136261 x < 4294967296 := sumFrom_lt (by decide) x
    exact UInt8.toNat_inj.1 (xor_cancel' (step_inj h0 h0 h1))
  · rintro rfl; rfl
end Go.Wm.Im
