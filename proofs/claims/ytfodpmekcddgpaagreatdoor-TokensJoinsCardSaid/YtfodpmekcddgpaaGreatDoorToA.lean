/- The raw texts of a line, in plain lists. -/
import Derived.Test.YtfodpmekcddgpaaGreatDoorWmB
namespace Go.Wm.To
/-- a blank -/
def isB (c : UInt8) : Bool := c == 32 || c == 9 || c == 10 || c == 13
def isS (c : UInt8) : Bool := isB c || c == 39
def q (c : UInt8) : Bool := c == 39
theorem len_tail_drop (p : UInt8 → Bool) (l : List UInt8) : (l.dropWhile p).length ≤ l.length := (List.dropWhile_suffix p).length_le
def split : List UInt8 → List (List UInt8)
  | [] => []
  | c :: r =>
    if isB c then split r
    else if q c then r.takeWhile (fun x => !q x) :: split ((r.dropWhile (fun x => !q x)).drop 1)
    else (c :: r.takeWhile (fun x => !isS x)) :: split (r.dropWhile (fun x => !isS x))
termination_by l => l.length
decreasing_by
  · simp
  · have := len_tail_drop (fun x => !q x) r; simp; omega
  · have := len_tail_drop (fun x => !isS x) r; simp; omega
theorem split_nil : split [] = [] := by rw [split]
theorem split_blank {c : UInt8} (h : isB c = true) (r : List UInt8) : split (c :: r) = split r := by rw [split, if_pos h]
theorem split_quote {c : UInt8} (h : q c = true) (r : List UInt8) : split (c :: r) = r.takeWhile (fun x => !q x) :: split ((r.dropWhile (fun x => !q x)).drop 1) := by
  have hb : isB c = false := by
    have : c = 39 := by simpa [q] using h
    subst this; decide
  rw [split, if_neg (by simp [hb]), if_pos h]
theorem split_word {c : UInt8} (h : isS c = false) (r : List UInt8) : split (c :: r) = (c :: r.takeWhile (fun x => !isS x)) :: split (r.dropWhile (fun x => !isS x)) := by
  simp only [isS, Bool.or_eq_false_iff] at h
  rw [split, if_neg (by simp [h.1]), if_neg (by simp [q, h.2])]
theorem split_trim (l : List UInt8) : split (l.dropWhile isB) = split l := by
  induction l with
  | nil => rfl
  | cons c l ih =>
    by_cases h : isB c = true
    · rw [List.dropWhile_cons_of_pos h, split_blank h, ih]
    · rw [List.dropWhile_cons_of_neg h]
theorem dropWhile_blanks {g : List UInt8} (h : ∀ c ∈ g, isB c = true) (r : List UInt8) : split (g ++ r) = split r := by
  induction g with
  | nil => rfl
  | cons c g ih => rw [List.cons_append, split_blank (h c List.mem_cons_self), ih fun c hc => h c (List.mem_cons_of_mem _ hc)]
theorem split_join {g s : List UInt8} (hg : ∀ c ∈ g, isB c = true) (hs : ∀ c ∈ s, q c = false) (r : List UInt8) : split (g ++ (39 :: s ++ (39 :: r))) = s :: split r := by
  rw [dropWhile_blanks hg, List.cons_append, split_quote rfl]
  have h1 : (s ++ 39 :: r).takeWhile (fun x => !q x) = s := by
    rw [List.takeWhile_append_of_pos (fun c hc => by simp [hs c hc])]
    rw [List.takeWhile_cons_of_neg (by decide), List.append_nil]
  have h2 : (s ++ 39 :: r).dropWhile (fun x => !q x) = 39 :: r := by
    rw [List.dropWhile_append_of_pos (fun c hc => by simp [hs c hc])]
    rw [List.dropWhile_cons_of_neg (by decide)]
  rw [h1, h2]
  rfl
/-! ### by places -/
/-- where a run of signs ends that began at 'k' -/
def scan (p : UInt8 → Bool) (l : List UInt8) (k : Nat) : Nat := k + ((l.drop k).takeWhile p).length
section
variable {p : UInt8 → Bool} {l : List UInt8} {k : Nat} {c : UInt8}
theorem drop_at (h : l[k]? = some c) : l.drop k = c :: l.drop (k + 1) := by
  obtain ⟨hk, rfl⟩ := List.getElem?_eq_some_iff.1 h
  exact (List.drop_eq_getElem_cons hk)
theorem scan_go (h : l[k]? = some c) (hp : p c = true) : scan p l (k + 1) = scan p l k := by
  unfold scan
  rw [drop_at h, List.takeWhile_cons_of_pos hp, List.length_cons]
  omega
theorem scan_stop (h : l[k]? = some c) (hp : p c = false) : scan p l k = k := by
  unfold scan
  rw [drop_at h, List.takeWhile_cons_of_neg (by simp [hp])]
  rfl
theorem scan_end (h : l.length ≤ k) : scan p l k = k := by
  unfold scan
  rw [List.drop_eq_nil_of_le h]
  rfl
theorem scan_le (h : k ≤ l.length) : scan p l k ≤ l.length := by
  unfold scan
  have := (List.takeWhile_prefix p (l := l.drop k)).length_le
  rw [List.length_drop] at this
  omega
theorem le_scan : k ≤ scan p l k := Nat.le_add_right _ _
theorem drop_scan : l.drop (scan p l k) = (l.drop k).dropWhile p := by
  unfold scan
  rw [← List.drop_drop]
  generalize l.drop k = m
  induction m with
  | nil => rfl
  | cons c m ih =>
    by_cases h : p c = true
    · rw [List.takeWhile_cons_of_pos h, List.dropWhile_cons_of_pos h]; simpa using ih
    · rw [List.takeWhile_cons_of_neg h, List.dropWhile_cons_of_neg h]; rfl
theorem take_scan : (l.take (scan p l k)).drop k = (l.drop k).takeWhile p := by
  unfold scan
  rw [List.drop_take, Nat.add_sub_cancel_left]
  generalize l.drop k = m
  induction m with
  | nil => rfl
  | cons c m ih =>
    by_cases h : p c = true
    · rw [List.takeWhile_cons_of_pos h]; simpa using ih
    · rw [List.takeWhile_cons_of_neg h]; rfl
end
theorem split_over {l : List UInt8} {i : Nat} (h : l.length ≤ i) : split (l.drop i) = [] := by rw [List.drop_eq_nil_of_le h, split_nil]
theorem split_at_blank {l : List UInt8} {i : Nat} {c : UInt8} (h : l[i]? = some c) (hc : isB c = true) : split (l.drop i) = split (l.drop (i + 1)) := by rw [drop_at h, split_blank hc]
theorem split_at_quote {l : List UInt8} {i : Nat} (h : l[i]? = some 39) : split (l.drop i) = (l.take (scan (fun x => !q x) l (i + 1))).drop (i + 1) :: split (l.drop (scan (fun x => !q x) l (i + 1) + 1)) := by
  have e : l.drop (scan (fun x => !q x) l (i + 1) + 1) = (l.drop (scan (fun x => !q x) l (i + 1))).drop 1 := by rw [List.drop_drop]
  rw [drop_at h, split_quote rfl, take_scan, e, drop_scan]
theorem split_at_word {l : List UInt8} {i : Nat} {c : UInt8} (h : l[i]? = some c) (hc : isS c = false) : split (l.drop i) = (l.take (scan (fun x => !isS x) l i)).drop i :: split (l.drop (scan (fun x => !isS x) l i)) := by
  have h2 := drop_at h
  rw [take_scan, drop_scan, h2, split_word hc, List.takeWhile_cons_of_pos (by simp [hc]), List.dropWhile_cons_of_pos (by simp [hc])]
/-- where a byte stands first -/
theorem idxOf8_eq (c : UInt8) : ∀ (s : List UInt8) (i : Nat), idxOf8 c s i = if c ∈ s then ((i + (s.takeWhile fun x => !(x == c)).length : Nat) : Int) else -1
  | [], i => by simp [idxOf8]
  | b :: r, i => by
    unfold idxOf8
    by_cases h : b = c
    · subst h; simp
    · have h' : ¬ c = b := fun e => h e.symm
      rw [if_neg h, idxOf8_eq c r (i + 1)]
      have hb : (!(b == c)) = true := by simp [h]
      rw [List.takeWhile_cons_of_pos (p := fun x => !(x == c)) hb, List.length_cons]
      by_cases hm : c ∈ r
      · rw [if_pos hm, if_pos (List.mem_cons_of_mem _ hm)]; congr 1; omega
      · rw [if_neg hm, if_neg (by simp [h', hm])]
theorem split_length (l : List UInt8) : (split l).length ≤ l.length := by
  induction l using split.induct with
  | case1 => simp [split_nil]
  | case2 c r h ih => rw [split_blank h]; simp; omega
  | case3 c r h1 h2 ih =>
    rw [split_quote h2]
    have := len_tail_drop (fun x => !q x) r
    simp at ih ⊢
    omega
  | case4 c r h1 h2 ih =>
    have hs : isS c = false := by simp [isS, q] at h1 h2 ⊢; exact ⟨h1, h2⟩
    rw [split_word hs]
    have := len_tail_drop (fun x => !isS x) r
    simp at ih ⊢
    omega
end Go.Wm.To
