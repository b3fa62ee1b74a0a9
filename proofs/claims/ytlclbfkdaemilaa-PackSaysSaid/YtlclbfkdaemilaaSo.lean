/- A stable merge sort, in blocks and by merging in place: what each of its steps does to a list, and that the list comes out in order. Plain: no program is in sight. -/
import Derived.Test.YtlclbfkdaemilaaVmP
namespace Go.Proofs.Ytlclbfkdaemilaa
set_option linter.unusedSimpArgs false
set_option linter.unusedVariables false

namespace So
abbrev Fn := Nat → Int
/-- by key downward, then by number -/
def lt (key : Int → Int) (x y : Int) : Prop := key y < key x ∨ (key x = key y ∧ x < y)
def Srt (key : Int → Int) (f : Fn) (a b : Nat) : Prop := ∀ i j, a ≤ i → i < j → j < b → lt key (f i) (f j)
def Mx (f g : Fn) (a b : Nat) : Prop :=
  (∀ i, a ≤ i → i < b → ∃ j, a ≤ j ∧ j < b ∧ g i = f j) ∧ (∀ j, a ≤ j → j < b → ∃ i, a ≤ i ∧ i < b ∧ g i = f j) ∧ ∀ i, (i < a ∨ b ≤ i) → g i = f i
def Sep (f : Fn) (a m b : Nat) : Prop := ∀ i j, a ≤ i → i < m → m ≤ j → j < b → f i < f j
def Inc (f : Fn) (a b : Nat) : Prop := ∀ i j, a ≤ i → i < j → j < b → f i < f j
def swp (f : Fn) (i j : Nat) : Fn := fun k => if k = i then f j else if k = j then f i else f k
def rot (f : Fn) (a m b : Nat) : Fn := fun k => if k < a ∨ b ≤ k then f k else if k + m < a + b then f (k + m - a) else f (k + m - b)
def ins (f : Fn) (i j : Nat) : Fn := fun k => if k = j then f i else if j < k ∧ k ≤ i then f (k - 1) else f k

section
variable {key : Int → Int} {f g h : Fn} {a b m i j : Nat}
theorem lt.trans {x y z : Int} (h1 : lt key x y) (h2 : lt key y z) : lt key x z := by unfold lt at *; omega
theorem Mx.refl (f : Fn) (a b : Nat) : Mx f f a b := ⟨fun i h1 h2 => ⟨i, h1, h2, rfl⟩, fun i h1 h2 => ⟨i, h1, h2, rfl⟩, fun _ _ => rfl⟩
theorem Mx.trans (h1 : Mx f g a b) (h2 : Mx g h a b) : Mx f h a b :=
  ⟨fun i p q => let ⟨j, p1, q1, e1⟩ := h2.1 i p q; let ⟨k, p2, q2, e2⟩ := h1.1 j p1 q1; ⟨k, p2, q2, e1.trans e2⟩,
   fun j p q => let ⟨i, p1, q1, e1⟩ := h1.2.1 j p q; let ⟨k, p2, q2, e2⟩ := h2.2.1 i p1 q1; ⟨k, p2, q2, e2.trans e1⟩,
   fun i hi => (h2.2.2 i hi).trans (h1.2.2 i hi)⟩
theorem Mx.widen {a' b' : Nat} (h1 : Mx f g a b) (ha : a' ≤ a) (hb : b ≤ b') : Mx f g a' b' :=
  ⟨fun i p q => by
      by_cases hi : a ≤ i ∧ i < b
      · obtain ⟨j, p1, q1, e⟩ := h1.1 i hi.1 hi.2; exact ⟨j, by omega, by omega, e⟩
      · exact ⟨i, p, q, h1.2.2 i (by omega)⟩,
   fun i p q => by
      by_cases hi : a ≤ i ∧ i < b
      · obtain ⟨j, p1, q1, e⟩ := h1.2.1 i hi.1 hi.2; exact ⟨j, by omega, by omega, e⟩
      · exact ⟨i, p, q, h1.2.2 i (by omega)⟩,
   fun i hi => h1.2.2 i (by omega)⟩
theorem mx_swp (h1 : a ≤ i) (h2 : i < b) (h3 : a ≤ j) (h4 : j < b) : Mx f (swp f i j) a b := by
  refine ⟨fun k p q => ?_, fun k p q => ?_, fun k hk => ?_⟩
  · unfold swp
    by_cases e1 : k = i
    · exact ⟨j, h3, h4, by rw [if_pos e1]⟩
    · by_cases e2 : k = j
      · exact ⟨i, h1, h2, by rw [if_neg e1, if_pos e2]⟩
      · exact ⟨k, p, q, by simp [e1, e2]⟩
  · by_cases e1 : k = i
    · exact ⟨j, h3, h4, by unfold swp; by_cases e : j = i <;> simp [e, e1]⟩
    · by_cases e2 : k = j
      · exact ⟨i, h1, h2, by unfold swp; rw [if_pos rfl, e2]⟩
      · exact ⟨k, p, q, by simp [swp, e1, e2]⟩
  · unfold swp
    rw [if_neg (by omega), if_neg (by omega)]
theorem mx_rot (h1 : a ≤ m) (h2 : m ≤ b) : Mx f (rot f a m b) a b := by
  refine ⟨fun k p q => ?_, fun k p q => ?_, fun k hk => ?_⟩
  · unfold rot
    rw [if_neg (by omega)]
    split
    · exact ⟨k + m - a, by omega, by omega, rfl⟩
    · exact ⟨k + m - b, by omega, by omega, rfl⟩
  · by_cases hk : k < m
    · refine ⟨k + b - m, by omega, by omega, ?_⟩
      unfold rot
      rw [if_neg (by omega), if_neg (by omega)]
      congr 1; omega
    · refine ⟨k + a - m, by omega, by omega, ?_⟩
      unfold rot
      rw [if_neg (by omega), if_pos (by omega)]
      congr 1; omega
  · unfold rot; rw [if_pos hk]
theorem rot_nil1 : rot f a a b = f := by
  funext k; unfold rot
  split
  · rfl
  · rw [if_pos (by omega)]; congr 1; omega
theorem rot_nil2 : rot f a b b = f := by
  funext k; unfold rot
  split
  · rfl
  · rw [if_neg (by omega)]; congr 1; omega

/-! insertion -/
theorem ins_step (h1 : j < i) : swp (ins f i (j + 1)) (j + 1) j = ins f i j := by
  funext k; unfold swp ins
  by_cases e1 : k = j + 1
  · subst e1
    rw [if_pos rfl, if_neg (by omega), if_neg (by omega), if_neg (by omega), if_pos (by omega)]
    congr 1
  · rw [if_neg e1]
    by_cases e2 : k = j
    · subst e2; simp
    · simp only [e1, e2, if_false]
      by_cases e3 : j + 1 < k ∧ k ≤ i
      · rw [if_pos e3, if_pos (by omega)]
      · rw [if_neg e3, if_neg (by omega)]
theorem ins_same : ins f i i = f := by
  funext k; unfold ins
  by_cases e : k = i
  · simp [e]
  · rw [if_neg e, if_neg (by omega)]
theorem mx_ins (h1 : a ≤ j) (h2 : j ≤ i) (h3 : i < b) : Mx f (ins f i j) a b := by
  refine ⟨fun k p q => ?_, fun k p q => ?_, fun k hk => ?_⟩
  · unfold ins
    split
    · exact ⟨i, by omega, h3, rfl⟩
    · split
      · exact ⟨k - 1, by omega, by omega, rfl⟩
      · exact ⟨k, p, q, rfl⟩
  · by_cases e : k = i
    · exact ⟨j, h1, by omega, by simp [ins, e]⟩
    · by_cases e2 : j ≤ k ∧ k < i
      · exact ⟨k + 1, by omega, by omega, by unfold ins; rw [if_neg (by omega), if_pos (by omega)]; rfl⟩
      · exact ⟨k, p, q, by unfold ins; rw [if_neg (by omega), if_neg (by omega)]⟩
  · unfold ins; rw [if_neg (by omega), if_neg (by omega)]
theorem ins_sorted (hs : Srt key f a i) (h1 : a ≤ j) (h2 : j ≤ i) (hg : ∀ k, j ≤ k → k < i → lt key (f i) (f k)) (hl : j = a ∨ lt key (f (j - 1)) (f i)) : Srt key (ins f i j) a (i + 1) := by
  have hl' : ∀ k, a ≤ k → k < j → lt key (f k) (f i) := by
    intro k p q
    rcases hl with rfl | hl
    · omega
    · by_cases e : k = j - 1
      · rw [e]; exact hl
      · exact (hs k (j - 1) p (by omega) (by omega)).trans hl
  intro x y p q r
  unfold ins
  by_cases e1 : x = j
  · rw [if_pos e1, if_neg (by omega), if_pos (by omega)]
    exact hg _ (by omega) (by omega)
  · rw [if_neg e1]
    by_cases e2 : y = j
    · rw [if_pos e2, if_neg (by omega)]
      exact hl' x p (by omega)
    · rw [if_neg e2]
      by_cases e3 : j < x ∧ x ≤ i
      · rw [if_pos e3, if_pos (by omega)]
        exact hs _ _ (by omega) (by omega) (by omega)
      · rw [if_neg e3]
        by_cases e4 : j < y ∧ y ≤ i
        · rw [if_pos e4]
          by_cases e5 : x = y - 1
          · omega
          · exact hs _ _ p (by omega) (by omega)
        · rw [if_neg e4]
          exact hs _ _ p q (by omega)

/-! the merge -/
theorem rot1_step (h1 : a ≤ i) : swp (rot f a (a + 1) (i + 1)) i (i + 1) = rot f a (a + 1) (i + 2) := by
  funext k; unfold swp rot
  by_cases e1 : k = i
  · subst e1
    rw [if_pos rfl, if_pos (by omega), if_neg (by omega), if_pos (by omega)]
    congr 1; omega
  · rw [if_neg e1]
    by_cases e2 : k = i + 1
    · subst e2
      rw [if_pos rfl, if_neg (by omega), if_neg (by omega), if_neg (by omega), if_neg (by omega)]
      congr 1; omega
    · rw [if_neg e2]
      by_cases e3 : k < a ∨ i + 1 ≤ k
      · rw [if_pos e3, if_pos (by omega)]
      · rw [if_neg e3, if_pos (by omega), if_neg (by omega), if_pos (by omega)]
theorem rot1_same : rot f a (a + 1) (a + 1) = f := rot_nil2
theorem rot1_sorted (hs : Srt key f (a + 1) b) (h1 : a + 1 ≤ i) (h2 : i ≤ b) (hl : ∀ k, a + 1 ≤ k → k < i → lt key (f k) (f a)) (hg : ∀ k, i ≤ k → k < b → lt key (f a) (f k)) : Srt key (rot f a (a + 1) i) a b := by
  intro x y p q r
  unfold rot
  by_cases e1 : x < a ∨ i ≤ x
  · rw [if_pos e1, if_pos (by omega)]
    exact hs _ _ (by omega) q r
  · rw [if_neg e1]
    by_cases e2 : x + (a + 1) < a + i
    · rw [if_pos e2]
      by_cases e3 : y < a ∨ i ≤ y
      · rw [if_pos e3]; exact hs _ _ (by omega) (by omega) r
      · rw [if_neg e3]
        by_cases e4 : y + (a + 1) < a + i
        · rw [if_pos e4]; exact hs _ _ (by omega) (by omega) (by omega)
        · rw [if_neg e4, show y + (a + 1) - i = a by omega]; exact hl _ (by omega) (by omega)
    · rw [if_neg e2, show x + (a + 1) - i = a by omega, if_pos (by omega)]
      exact hg _ (by omega) r

/-- what a rotation brings into order -/
theorem rot_main {s e d : Nat} (hs : Srt key f a m) (hs2 : Srt key f m b) (hsep : Sep f a m b) (h1 : a ≤ s) (h2 : s ≤ m) (h3 : m ≤ e) (h4 : e ≤ b) (hd : s + e = d + m)
    (c1 : ∀ i j, a ≤ i → i < s → e ≤ j → j < b → lt key (f i) (f j)) (c2 : ∀ i j, m ≤ i → i < e → s ≤ j → j < m → lt key (f i) (f j)) :
    Srt key (rot f s m e) a s ∧ Srt key (rot f s m e) s d ∧ Sep (rot f s m e) a s d ∧ Srt key (rot f s m e) d e ∧ Srt key (rot f s m e) e b ∧ Sep (rot f s m e) d e b ∧
    ∀ i j, a ≤ i → i < d → d ≤ j → j < b → lt key (rot f s m e i) (rot f s m e j) := by
  have r1 : ∀ k, k < s → rot f s m e k = f k := fun k hk => by unfold rot; rw [if_pos (by omega)]
  have r2 : ∀ k, s ≤ k → k < d → rot f s m e k = f (k + m - s) := fun k p q => by unfold rot; rw [if_neg (by omega), if_pos (by omega)]
  have r3 : ∀ k, d ≤ k → k < e → rot f s m e k = f (k + m - e) := fun k p q => by unfold rot; rw [if_neg (by omega), if_neg (by omega)]
  have r4 : ∀ k, e ≤ k → rot f s m e k = f k := fun k hk => by unfold rot; rw [if_pos (by omega)]
  refine ⟨fun i j p q r => ?_, fun i j p q r => ?_, fun i j p q r t => ?_, fun i j p q r => ?_, fun i j p q r => ?_, fun i j p q r t => ?_, fun i j p q r t => ?_⟩
  · rw [r1 _ (by omega), r1 _ r]; exact hs _ _ p q (by omega)
  · rw [r2 _ p (by omega), r2 _ (by omega) r]; exact hs2 _ _ (by omega) (by omega) (by omega)
  · rw [r1 _ q, r2 _ r t]; exact hsep _ _ p (by omega) (by omega) (by omega)
  · rw [r3 _ p (by omega), r3 _ (by omega) r]; exact hs _ _ (by omega) (by omega) (by omega)
  · rw [r4 _ p, r4 _ (by omega)]; exact hs2 _ _ (by omega) q r
  · rw [r3 _ p q, r4 _ r]; exact hsep _ _ (by omega) (by omega) (by omega) t
  · by_cases e1 : i < s
    · rw [r1 _ e1]
      by_cases e2 : j < e
      · rw [r3 _ r e2]; exact hs _ _ p (by omega) (by omega)
      · rw [r4 _ (by omega)]; exact c1 _ _ p e1 (by omega) t
    · rw [r2 _ (by omega) q]
      by_cases e2 : j < e
      · rw [r3 _ r e2]; exact c2 _ _ (by omega) (by omega) (by omega) (by omega)
      · rw [r4 _ (by omega)]; exact hs2 _ _ (by omega) (by omega) t

theorem Srt.join {g' g'' : Fn} {d : Nat} (h1 : a ≤ d) (h2 : d ≤ b) (hlr : ∀ i j, a ≤ i → i < d → d ≤ j → j < b → lt key (g i) (g j)) (m1 : Mx g g' a d) (m2 : Mx g' g'' d b) (s1 : Srt key g' a d) (s2 : Srt key g'' d b) : Srt key g'' a b := by
  intro i j p q r
  by_cases e1 : j < d
  · rw [m2.2.2 i (by omega), m2.2.2 j (by omega)]; exact s1 i j p q e1
  · by_cases e2 : i < d
    · rw [m2.2.2 i (by omega)]
      obtain ⟨i', p1, q1, e3⟩ := m1.1 i p e2
      obtain ⟨j', p2, q2, e4⟩ := m2.1 j (by omega) r
      rw [e3, e4, m1.2.2 j' (by omega)]
      exact hlr _ _ p1 q1 p2 q2
    · exact s2 i j (by omega) q r

/-- what the search of the merge has seen -/
def Seen (key : Int → Int) (f : Fn) (p lo hi s r : Nat) : Prop := (∀ c, lo ≤ c → c < s → lt key (f c) (f (p - c))) ∧ ∀ c, r ≤ c → c < hi → lt key (f (p - c)) (f c)
theorem Seen.low {p lo hi s r c : Nat} (h : Seen key f p lo hi s r) (hs : Srt key f a m) (hs2 : Srt key f m b) (h1 : a ≤ lo) (h2 : hi ≤ m) (h3 : c < hi) (h4 : m + c ≤ p) (h5 : p < b + lo) (h7 : lt key (f c) (f (p - c))) : Seen key f p lo hi (c + 1) r := by
  refine ⟨fun x p1 q1 => ?_, h.2⟩
  by_cases e : x = c
  · rw [e]; exact h7
  · exact (hs x c (by omega) (by omega) (by omega)).trans (h7.trans (hs2 (p - c) (p - x) (by omega) (by omega) (by omega)))
theorem Seen.high {p lo hi s r c : Nat} (h : Seen key f p lo hi s r) (hs : Srt key f a m) (hs2 : Srt key f m b) (h1 : a ≤ lo) (h2 : hi ≤ m) (h3 : lo ≤ c) (h4 : m + hi ≤ p + 1) (h5 : p < b + lo) (h7 : lt key (f (p - c)) (f c)) : Seen key f p lo hi s c := by
  refine ⟨h.1, fun x p1 q1 => ?_⟩
  by_cases e : x = c
  · rw [e]; exact h7
  · exact (hs2 (p - x) (p - c) (by omega) (by omega) (by omega)).trans (h7.trans (hs c x (by omega) (by omega) (by omega)))
theorem Seen.done {p lo hi s d : Nat} (h : Seen key f p lo hi s s) (hs : Srt key f a m) (hs2 : Srt key f m b) (hp : p + 1 = d + m) (hlo : (lo = a ∨ lo + b = d + m)) (hhi : hi = m ∨ (hi = d ∧ d < m)) (ha : a ≤ lo) (h1 : lo ≤ s) (h2 : s ≤ hi) (hm : hi ≤ m) (e : Nat) (he : s + e = d + m) (h3 : m ≤ e) (h4 : e ≤ b) :
    (∀ i j, a ≤ i → i < s → e ≤ j → j < b → lt key (f i) (f j)) ∧ (∀ i j, m ≤ i → i < e → s ≤ j → j < m → lt key (f i) (f j)) := by
  refine ⟨fun i j p1 q1 r1 t1 => ?_, fun i j p1 q1 r1 t1 => ?_⟩
  · have hsl : lo < s := by
      rcases hlo with rfl | hlo
      · omega
      · omega
    have h7 := h.1 (s - 1) (by omega) (by omega)
    have h8 : lt key (f (s - 1)) (f j) := by
      by_cases e1 : j = e
      · rw [e1]; rw [show p - (s - 1) = e by omega] at h7; exact h7
      · rw [show p - (s - 1) = e by omega] at h7
        exact h7.trans (hs2 e j (by omega) (by omega) t1)
    by_cases e2 : i = s - 1
    · rw [e2]; exact h8
    · exact (hs i (s - 1) p1 (by omega) (by omega)).trans h8
  · have hsh : s < hi := by
      rcases hhi with rfl | ⟨rfl, hd⟩
      · omega
      · omega
    have h7 := h.2 s (by omega) hsh
    rw [show p - s = e - 1 by omega] at h7
    have h8 : lt key (f i) (f s) := by
      by_cases e1 : i = e - 1
      · rw [e1]; exact h7
      · exact (hs2 i (e - 1) p1 (by omega) (by omega)).trans h7
    by_cases e2 : j = s
    · rw [e2]; exact h8
    · exact h8.trans (hs s j (by omega) (by omega) t1)

/-- one step of the rotation by swaps of equal ranges -/
def swr (f : Fn) (x y n : Nat) : Fn := fun k => if x ≤ k ∧ k < x + n then f (k - x + y) else if y ≤ k ∧ k < y + n then f (k - y + x) else f k
theorem swr_step {x y n : Nat} (h : x + n < y ∨ y + n < x) : swp (swr f x y n) (x + n) (y + n) = swr f x y (n + 1) := by
  funext k; unfold swp swr
  by_cases e1 : k = x + n
  · subst e1
    rw [if_pos rfl, if_neg (by omega), if_neg (by omega), if_pos (by omega)]
    congr 1; omega
  · rw [if_neg e1]
    by_cases e2 : k = y + n
    · subst e2
      rw [if_pos rfl, if_neg (by omega), if_neg (by omega), if_neg (by omega), if_pos (by omega)]
      congr 1; omega
    · rw [if_neg e2]
      by_cases e3 : x ≤ k ∧ k < x + n
      · rw [if_pos e3, if_pos (by omega)]
      · rw [if_neg e3]
        by_cases e4 : y ≤ k ∧ k < y + n
        · rw [if_pos e4, if_neg (by omega), if_pos (by omega)]
        · rw [if_neg e4, if_neg (by omega), if_neg (by omega)]
theorem swr_same {x y : Nat} : swr f x y 0 = f := by
  funext k; unfold swr; rw [if_neg (by omega), if_neg (by omega)]
/-- the left part is the longer one -/
theorem rot_left {i j : Nat} (h0 : i ≤ m) (h : j ≤ i) : rot (swr f (m - i) m j) (m - i + j) m (m + j) = rot f (m - i) m (m + j) := by
  funext k; unfold rot swr
  repeat' split
  all_goals first
    | omega
    | rfl
    | (congr 1; omega)
theorem rot_right {i j : Nat} (h0 : i ≤ m) (h : i ≤ j) : rot (swr f (m - i) (m + j - i) i) (m - i) m (m + j - i) = rot f (m - i) m (m + j) := by
  funext k; unfold rot swr
  repeat' split
  all_goals first
    | omega
    | rfl
    | (congr 1; omega)
theorem rot_even {i : Nat} (h0 : i ≤ m) : swr f (m - i) m i = rot f (m - i) m (m + i) := by
  funext k; unfold rot swr
  repeat' split
  all_goals first
    | omega
    | rfl
    | (congr 1; omega)

/-! the whole -/
/-- of two blocks the earlier one has the lesser numbers -/
def SepB (B : Nat → Nat) (f : Fn) (n : Nat) : Prop := ∀ i j, i < j → j < n → B i < B j → f i < f j
/-- each block is in order -/
def SrtB (key : Int → Int) (B : Nat → Nat) (f : Fn) (n : Nat) : Prop := ∀ i j, i < j → j < n → B i = B j → lt key (f i) (f j)
theorem blocks_step {B B' : Nat → Nat} {n n' c1 c2 : Nat} (hmono : ∀ i j, i ≤ j → B i ≤ B j) (hc : c1 ≤ c2) (ha : a < b) (hb : b ≤ n) (hn : n' ≤ n) (hin : ∀ k, a ≤ k → k < b → B k = c1 ∨ B k = c2) (hout : ∀ k, k < n → (k < a ∨ b ≤ k) → B k ≠ c1 ∧ B k ≠ c2)
    (hin' : ∀ k, a ≤ k → k < b → B' k = c1) (hout' : ∀ k, (k < a ∨ b ≤ k) → B' k = B k) (h1 : SepB B f n) (h2 : ∀ i j, i < j → j < n' → B i = B j → (i < a ∨ b ≤ i) → (j < a ∨ b ≤ j) → lt key (f i) (f j)) (hm : Mx f g a b) (hs : Srt key g a b) (hac : B a = c1) :
    SepB B' g n ∧ SrtB key B' g n' := by
  refine ⟨fun i j p q r => ?_, fun i j p q r => ?_⟩
  · by_cases hi : a ≤ i ∧ i < b
    · obtain ⟨i', p1, q1, e1⟩ := hm.1 i hi.1 hi.2
      by_cases hj : a ≤ j ∧ j < b
      · rw [hin' i hi.1 hi.2, hin' j hj.1 hj.2] at r; omega
      · rw [e1, hm.2.2 j (by omega)]
        have k1 := hout j q (by omega)
        have k2 := hin i' p1 q1
        have k3 := hmono i' j (by omega)
        exact h1 i' j (by omega) q (by omega)
    · by_cases hj : a ≤ j ∧ j < b
      · obtain ⟨j', p1, q1, e1⟩ := hm.1 j hj.1 hj.2
        rw [e1, hm.2.2 i (by omega)]
        have k1 := hout i (by omega) (by omega)
        have k2 := hin j' p1 q1
        have k3 := hmono i a (by omega)
        exact h1 i j' (by omega) (by omega) (by omega)
      · rw [hout' i (by omega), hout' j (by omega)] at r
        rw [hm.2.2 i (by omega), hm.2.2 j (by omega)]
        exact h1 i j p q r
  · by_cases hi : a ≤ i ∧ i < b
    · by_cases hj : a ≤ j ∧ j < b
      · exact hs i j hi.1 p hj.2
      · rw [hin' i hi.1 hi.2, hout' j (by omega)] at r
        exact absurd r.symm (hout j (by omega) (by omega)).1
    · by_cases hj : a ≤ j ∧ j < b
      · rw [hin' j hj.1 hj.2, hout' i (by omega)] at r
        exact absurd r (hout i (by omega) (by omega)).1
      · rw [hout' i (by omega), hout' j (by omega)] at r
        rw [hm.2.2 i (by omega), hm.2.2 j (by omega)]
        exact h2 i j p q r (by omega) (by omega)
/-- blocks of 'd' before 'a', of 's' from there on; 'd' is twice 's' -/
def bet (s d a : Nat) : Nat → Nat := fun k => if k < a then 2 * (k / d) else k / s
/-- one run of the first round -/
theorem first_run {n q : Nat} (hb : 20 * q < b) (hbn : b ≤ n) (hb2 : b ≤ 20 * q + 20) (hb3 : b = n ∨ b = 20 * q + 20) (h1 : SepB (· / 20) f n) (h2 : SrtB key (· / 20) f (20 * q)) (hm : Mx f g (20 * q) b) (hs : Srt key g (20 * q) b) :
    SepB (· / 20) g n ∧ SrtB key (· / 20) g b := by
  refine blocks_step (B := (· / 20)) (c1 := q) (c2 := q) (a := 20 * q) (fun i j h => ?_) (Nat.le_refl _) hb hbn hbn (fun k p r => ?_) (fun k p r => ?_) (fun k p r => ?_) (fun k p => rfl) h1 (fun i j p r e t u => ?_) hm hs ?_
  all_goals try dsimp only at *
  all_goals first
    | omega
    | exact h2 i j p (by omega) e
/-- one merge -/
theorem merge_run {n s d q : Nat} (hs4 : (s = 20 ∧ d = 40) ∨ (s = 40 ∧ d = 80) ∨ (s = 80 ∧ d = 160) ∨ (s = 160 ∧ d = 320)) (hb : d * q + s < b) (hbn : b ≤ n) (hb2 : b ≤ d * q + d) (hb3 : b = n ∨ b = d * q + d) (h1 : SepB (bet s d (d * q)) f n) (h2 : SrtB key (bet s d (d * q)) f n) :
    Srt key f (d * q) (d * q + s) ∧ Srt key f (d * q + s) b ∧ Sep f (d * q) (d * q + s) b ∧ (Mx f g (d * q) b → Srt key g (d * q) b → SepB (bet s d b) g n ∧ SrtB key (bet s d b) g n) := by
  refine ⟨fun i j p r t => h2 i j r (by omega) ?_, fun i j p r t => h2 i j r (by omega) ?_, fun i j p r t u => h1 i j (by omega) (by omega) ?_, fun hm hs => ?_⟩
  · unfold bet; rcases hs4 with ⟨rfl, rfl⟩ | ⟨rfl, rfl⟩ | ⟨rfl, rfl⟩ | ⟨rfl, rfl⟩ <;> (rw [if_neg (by omega), if_neg (by omega)]; omega)
  · unfold bet; rcases hs4 with ⟨rfl, rfl⟩ | ⟨rfl, rfl⟩ | ⟨rfl, rfl⟩ | ⟨rfl, rfl⟩ <;> (rw [if_neg (by omega), if_neg (by omega)]; omega)
  · unfold bet; rcases hs4 with ⟨rfl, rfl⟩ | ⟨rfl, rfl⟩ | ⟨rfl, rfl⟩ | ⟨rfl, rfl⟩ <;> (rw [if_neg (by omega), if_neg (by omega)]; omega)
  · refine blocks_step (B := bet s d (d * q)) (c1 := 2 * q) (c2 := 2 * q + 1) (a := d * q) (fun i j h => ?_) (by omega) (by omega) hbn (Nat.le_refl _) (fun k p r => ?_) (fun k p r => ?_) (fun k p r => ?_) (fun k p => ?_) h1 (fun i j p r e t u => h2 i j p r e) hm hs ?_
    all_goals unfold bet
    all_goals rcases hs4 with ⟨rfl, rfl⟩ | ⟨rfl, rfl⟩ | ⟨rfl, rfl⟩ | ⟨rfl, rfl⟩
    all_goals repeat' split
    all_goals omega
theorem bet_zero {s d : Nat} : bet s d 0 = (· / s) := by funext k; unfold bet; rw [if_neg (by omega)]
theorem bet_done {n s d q : Nat} (hs4 : (s = 20 ∧ d = 40) ∨ (s = 40 ∧ d = 80) ∨ (s = 80 ∧ d = 160) ∨ (s = 160 ∧ d = 320)) (h : n ≤ d * q + s) (hn : a = d * q ∨ n ≤ a) (h1 : SepB (bet s d a) f n) (h2 : SrtB key (bet s d a) f n) : SepB (· / d) f n ∧ SrtB key (· / d) f n := by
  refine ⟨fun i j p r t => h1 i j p r ?_, fun i j p r t => h2 i j p r ?_⟩
  all_goals try dsimp only at t
  all_goals unfold bet
  all_goals rcases hs4 with ⟨rfl, rfl⟩ | ⟨rfl, rfl⟩ | ⟨rfl, rfl⟩ | ⟨rfl, rfl⟩
  all_goals repeat' split
  all_goals omega
end
end So
end Go.Proofs.Ytlclbfkdaemilaa
