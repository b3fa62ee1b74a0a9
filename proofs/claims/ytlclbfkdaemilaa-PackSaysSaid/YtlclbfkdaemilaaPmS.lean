/- Several texts as one: PsA PsB PsC PsD PsE PkY PsZ. -/
import Derived.Test.YtlclbfkdaemilaaPm3
import Derived.Test.YtlclbfkdaemilaaFtA
import Derived.Test.YtlclbfkdaemilaaRdA
import Derived.Test.YtlclbfkdaemilaaRows
import Derived.Test.YtlclbfkdaemilaaVmR
import Derived.Test.YtlclbfkdaemilaaPz
import Derived.HandedShaped
/- What a packed table says, as a plain law. -/
namespace Go.Proofs.Ytlclbfkdaemilaa
set_option linter.unusedSimpArgs false
set_option linter.unusedVariables false
open Go Go.Vm Go.Proofs
set_option maxRecDepth 100000
set_option maxHeartbeats 1000000

theorem scan_of : ∀ {l : Edges} {seen : Nat → Bool}, (∀ e ∈ l, 0 ≤ e.1 ∧ e.1 < 256 ∧ seen e.1.toNat = false) → l.Pairwise (fun a b => a.1 < b.1) → scan seen l = true
  | [], _, _, _ => rfl
  | e :: r, seen, h, hp => by
    rw [List.pairwise_cons] at hp
    obtain ⟨h1, h2, h3⟩ := h e (List.mem_cons_self ..)
    unfold scan
    rw [if_neg (by omega), if_neg (by omega), h3, if_neg (by simp)]
    refine scan_of (fun f hf => ?_) hp.2
    obtain ⟨g1, g2, g3⟩ := h f (List.mem_cons_of_mem _ hf)
    have := hp.1 f hf
    exact ⟨g1, g2, by rw [if_neg (by omega)]; exact g3⟩
theorem rowAn_mem {l : Edges} {m : Int} {e : Int × Int} : ∀ {t : Nat}, e ∈ rowAn l m t ↔ ∃ k, k < t ∧ keepA m (l.getD k (0, 0)) = true ∧ e = ((k : Int), codeS (l.getD k (0, 0)).1 (l.getD k (0, 0)).2)
  | 0 => by simp [rowAn]
  | t + 1 => by
    unfold rowAn
    rw [List.mem_append, rowAn_mem]
    constructor
    · rintro (⟨k, h1, h2⟩ | h)
      · exact ⟨k, by omega, h2⟩
      · split at h
        · rename_i hk
          exact ⟨t, by omega, hk, List.mem_singleton.1 h⟩
        · cases h
    · rintro ⟨k, h1, h2, h3⟩
      by_cases e : k = t
      · subst e; right; rw [if_pos h2]; exact List.mem_singleton.2 h3
      · exact .inl ⟨k, by omega, h2, h3⟩
theorem rowGn_mem {gs : List (List Int)} {n : Nat} {m : Int} {e : Int × Int} : ∀ {t : Nat}, e ∈ rowGn gs n m t ↔ ∃ k, k < t ∧ keepG m (gAt gs n k) = true ∧ e = ((k : Int), gAt gs n k)
  | 0 => by simp [rowGn]
  | t + 1 => by
    unfold rowGn
    rw [List.mem_append, rowGn_mem]
    constructor
    · rintro (⟨k, h1, h2⟩ | h)
      · exact ⟨k, by omega, h2⟩
      · split at h
        · rename_i hk
          exact ⟨t, by omega, hk, List.mem_singleton.1 h⟩
        · cases h
    · rintro ⟨k, h1, h2, h3⟩
      by_cases e : k = t
      · subst e; right; rw [if_pos h2]; exact List.mem_singleton.2 h3
      · exact .inl ⟨k, by omega, h2, h3⟩
theorem rowAn_sorted (l : Edges) (m : Int) : ∀ t, (rowAn l m t).Pairwise fun a b => a.1 < b.1
  | 0 => .nil
  | t + 1 => by
    unfold rowAn
    rw [List.pairwise_append]
    refine ⟨rowAn_sorted l m t, by split <;> simp, fun a ha b hb => ?_⟩
    obtain ⟨k, h1, _, rfl⟩ := rowAn_mem.1 ha
    split at hb
    · rw [List.mem_singleton.1 hb]; simp only; omega
    · cases hb
theorem rowGn_sorted (gs : List (List Int)) (n : Nat) (m : Int) : ∀ t, (rowGn gs n m t).Pairwise fun a b => a.1 < b.1
  | 0 => .nil
  | t + 1 => by
    unfold rowGn
    rw [List.pairwise_append]
    refine ⟨rowGn_sorted gs n m t, by split <;> simp, fun a ha b hb => ?_⟩
    obtain ⟨k, h1, _, rfl⟩ := rowGn_mem.1 ha
    split at hb
    · rw [List.mem_singleton.1 hb]; simp only; omega
    · cases hb
theorem isRow_rowAn {l : Edges} {m : Int} {t : Nat} (h : t ≤ 256) : isRowS (rowAn l m t) = true :=
  scan_of (fun e he => by obtain ⟨k, h1, _, rfl⟩ := rowAn_mem.1 he; simp only; exact ⟨by omega, by omega, trivial⟩) (rowAn_sorted l m t)
theorem isRow_rowGn {gs : List (List Int)} {n : Nat} {m : Int} {t : Nat} (h : t ≤ 256) : isRowS (rowGn gs n m t) = true :=
  scan_of (fun e he => by obtain ⟨k, h1, _, rfl⟩ := rowGn_mem.1 he; simp only; exact ⟨by omega, by omega, trivial⟩) (rowGn_sorted gs n m t)
section
variable {al : List Edges} {gs : List (List Int)} {T S : Nat}
theorem rowsA_all (ht : MayT al gs T S) : (rowsA al).all isRowS = true := by
  rw [List.all_eq_true]
  intro r hr
  obtain ⟨l, hl, rfl⟩ := List.mem_map.1 hr
  obtain ⟨q, hq, rfl⟩ := List.getElem_of_mem hl
  have h1 := ht.rt q hq
  have h2 := ht.t2
  have : al.getD q [] = al[q] := by simp [List.getD, hq]
  rw [this] at h1
  exact isRow_rowAn (by omega)
theorem rowsG_all (ht : MayT al gs T S) : (rowsG gs S).all isRowS = true := by
  rw [List.all_eq_true]
  intro r hr
  obtain ⟨n, _, rfl⟩ := List.mem_map.1 hr
  have := ht.ng
  have := ht.n2
  exact isRow_rowGn (by omega)
theorem layOk_A (ht : MayT al gs T S) : layOk (rowsA al) = true := by
  unfold layOk
  rw [rowsA_all ht]
  have := ht.n2
  simp [rowsA, this]
theorem layOk_G (ht : MayT al gs T S) : layOk (rowsG gs S) = true := by
  unfold layOk
  rw [rowsG_all ht]
  have := ht.s2
  simp [rowsG]; omega
/-- the default of a state -/
theorem most_pos {ks : List Int} {x : Int} (h : x ∈ ks) (h0 : 0 ≤ x) (h1 : x ≤ 256) : mostS ks ≠ -1 := by
  unfold mostS
  rcases bestN_spec ks 257 with ⟨g1, g2, g3⟩ | ⟨b, g1, g2, g3, g4, g5⟩
  · have := g3 x.toNat (by omega)
    rw [show ((x.toNat : Nat) : Int) = x by omega] at this
    have := cntI_pos.2 h
    omega
  · omega
theorem keysOf_in {key : Nat → Int} {ok : Nat → Bool} {k : Nat} : ∀ {n : Nat}, k < n → ok k = true → key k ∈ keysOf key ok n
  | n + 1, h, ho => by
    unfold keysOf keyStep
    rw [List.mem_append]
    by_cases e : k = n
    · subst e; right; rw [if_pos ho]; exact List.mem_singleton.2 rfl
    · exact .inl (keysOf_in (by omega) ho)
theorem dfA_spec (ht : MayT al gs T S) {q : Nat} (hq : q < al.length) : (dfA (al.getD q []) = -1 ∧ ∀ t, t < T → ((al.getD q []).getD t (0, 0)).1 ≠ 2) ∨ (1 ≤ dfA (al.getD q []) ∧ dfA (al.getD q []) ≤ 256 ∧ ∃ t, t < T ∧ ((al.getD q []).getD t (0, 0)).1 = 2) := by
  have hl := ht.rt q hq
  have hm := ht.ma q hq
  have hn := ht.n2
  generalize al.getD q [] = l at *
  by_cases h : dfA l = -1
  · refine .inl ⟨h, fun t htT h2 => ?_⟩
    have hr := mayA_range (by omega) (hm t htT)
    exact most_pos (keysOf_in (key := fun k => (l.getD k (0, 0)).2) (ok := fun k => (l.getD k (0, 0)).1 == 2) (k := t) (n := l.length) (by omega) (by show ((l.getD t (0, 0)).1 == (2 : Int)) = true; rw [h2]; rfl)) hr.1 hr.2 h
  · have hmem := mostS_mem h
    obtain ⟨k, h1, h2, h3⟩ := keysOf_mem hmem
    have h4 := hm k (by omega)
    have h5 : (l.getD k (0, 0)).1 = 2 := by simpa using h2
    refine .inr ?_
    have h6 : mostS (keysOf (fun k => (l.getD k (0, 0)).2) (fun k => (l.getD k (0, 0)).1 == 2) l.length) = dfA l := rfl
    rw [h6] at h3
    rw [h5] at h4
    have h7 : 1 ≤ dfA l ∧ dfA l ≤ 256 := by
      rw [← h3]
      show 1 ≤ (l.getD k (0, 0)).2 ∧ (l.getD k (0, 0)).2 ≤ 256
      generalize (l.getD k (0, 0)).2 = y at h4
      unfold mayA at h4
      simp at h4
      omega
    exact ⟨h7.1, h7.2, k, by omega, h5⟩
theorem dfN_at {q : Nat} (hq : q < al.length) : (dfN al al.length).getD q 0 = dfA (al.getD q []) := by simp [dfN, List.getD, hq]
/-- a code says what it was made of -/
theorem decode {n a b d : Int} (hm : mayA n a b = true) (hn : n ≤ 256) (hk : keepA d (a, b) = true) :
    (if 0 < codeS a b then (1, codeS a b - 1) else if codeS a b < -1 then (2, IntKind.i64.wrap (-1 - codeS a b)) else if codeS a b < 0 then (3, 0) else ((4 : Int), (0 : Int))) = (a, b) := by
  have hr := mayA_range hn hm
  unfold codeS
  unfold mayA at hm
  by_cases h1 : a = 1
  · subst h1
    rw [if_pos rfl, if_pos (by omega)]
    congr 1; omega
  · rw [if_neg h1] at hm ⊢
    by_cases h2 : a = 2
    · subst h2
      simp at hm
      rw [if_pos rfl, if_neg (by omega), if_pos (by omega), wrap_id (by omega) (by omega)]
      congr 1; omega
    · rw [if_neg h2] at hm ⊢
      simp at hm
      by_cases h3 : a = 3
      · subst h3
        rw [if_pos rfl, if_neg (by omega), if_neg (by omega), if_pos (by omega), hm.2]
      · rw [if_neg h3, if_neg (by omega), if_neg (by omega), if_neg (by omega)]
        have h0 : a ≠ 0 := by
          unfold keepA at hk
          simp at hk
          exact hk.1
        have : a = 4 := by omega
        rw [this, hm.2]
def dflt (d : Int) : Int × Int := if 0 < d then (2, d) else (0, 0)
theorem act_default (ht : MayT al gs T S) {q : Nat} (hq : q < al.length) {x : Int} (hx : ∀ k, k < T → keepA (dfA (al.getD q [])) ((al.getD q []).getD k (0, 0)) = true → (k : Int) ≠ x) :
    actS (dfN al al.length) (layR (rowsA al)).bs (layR (rowsA al)).v (layR (rowsA al)).o q x = dflt (dfA (al.getD q [])) := by
  have hn := at_none (rows := rowsA al) (rowsA_all ht) (i := q) (by simpa [rowsA] using hq) (x := x) (fun e he => by
    rw [rowsA_at hq] at he
    obtain ⟨k, h1, h2, rfl⟩ := rowAn_mem.1 he
    rw [ht.rt q hq] at h1
    exact hx k h1 h2)
  unfold actS
  rw [hn]
  simp only [Bool.false_eq_true, if_false]
  rw [if_pos (by omega), if_pos (by rw [dfN_len]; omega), show ((q : Int)).toNat = q by omega, dfN_at hq]
  rfl
theorem act_says (ht : MayT al gs T S) {q t : Nat} (hq : q < al.length) (htT : t < T) :
    actS (dfN al al.length) (layR (rowsA al)).bs (layR (rowsA al)).v (layR (rowsA al)).o q t = if keepA (dfA (al.getD q [])) ((al.getD q []).getD t (0, 0)) = true then (al.getD q []).getD t (0, 0) else dflt (dfA (al.getD q [])) := by
  by_cases hk : keepA (dfA (al.getD q [])) ((al.getD q []).getD t (0, 0)) = true
  · rw [if_pos hk]
    have he := at_edge (rows := rowsA al) (rowsA_all ht) (i := q) (by simpa [rowsA] using hq) (e := ((t : Int), codeS ((al.getD q []).getD t (0, 0)).1 ((al.getD q []).getD t (0, 0)).2)) (by
      rw [rowsA_at hq]
      exact rowAn_mem.2 ⟨t, by rw [ht.rt q hq]; exact htT, hk, rfl⟩)
    have hm := ht.ma q hq t htT
    have hn := ht.n2
    unfold actS
    rw [he]
    simp only [if_true]
    generalize (al.getD q []).getD t (0, 0) = ab at *
    obtain ⟨a, b⟩ := ab
    exact decode hm (by omega) hk
  · rw [if_neg hk]
    exact act_default ht hq fun k hkT hkk e => hk (by rw [show t = k by omega]; exact hkk)
theorem act_beyond (ht : MayT al gs T S) {x : Int} (hx : x < 0 ∨ (al.length : Int) ≤ x) (y : Int) : actS (dfN al al.length) (layR (rowsA al)).bs (layR (rowsA al)).v (layR (rowsA al)).o x y = (0, 0) := by
  have hb : (layR (rowsA al)).bs.length = al.length := by rw [(layR_len (layOk_A ht)).2.2.1]; simp [rowsA]
  unfold actS atS
  rcases hx with h | h
  · rw [if_pos h]
    simp only [Bool.false_eq_true, if_false]
    rw [if_neg (by omega)]
  · rw [if_neg (show ¬ x < 0 by omega), if_pos (show ((layR (rowsA al)).bs.length : Int) ≤ x by omega)]
    simp only [Bool.false_eq_true, if_false]
    rw [if_pos (by omega), if_neg (by rw [dfN_len]; omega)]
theorem tgN_at {n : Nat} (hn : n < S) : (tgN gs S).getD n 0 = tgG gs n := by simp [tgN, List.getD, hn]
theorem goto_says (ht : MayT al gs T S) {q n : Nat} (hq : q < al.length) (hn : n < S) (h0 : 0 ≤ gAt gs n q) :
    gotoS (tgN gs S) (layR (rowsG gs S)).bs (layR (rowsG gs S)).v (layR (rowsG gs S)).o q n = gAt gs n q := by
  have hng := ht.ng
  by_cases hk : keepG (tgG gs n) (gAt gs n q) = true
  · have he := at_edge (rows := rowsG gs S) (rowsG_all ht) (i := n) (by simpa [rowsG] using hn) (e := ((q : Int), gAt gs n q)) (by
      rw [rowsG_at hn]
      exact rowGn_mem.2 ⟨q, by omega, hk, rfl⟩)
    unfold gotoS
    rw [he]
    simp
  · have hnn := at_none (rows := rowsG gs S) (rowsG_all ht) (i := n) (by simpa [rowsG] using hn) (x := (q : Int)) (fun e he => by
      rw [rowsG_at hn] at he
      obtain ⟨k, h1, h2, rfl⟩ := rowGn_mem.1 he
      intro e
      have : k = q := by simp only at e; omega
      subst this
      exact hk h2)
    unfold gotoS
    rw [hnn]
    simp only [Bool.false_eq_true, if_false]
    rw [if_pos (by omega), if_pos (by rw [tgN_len]; omega), show ((n : Int)).toNat = n by omega, tgN_at hn]
    unfold keepG at hk
    simp at hk
    exact (hk h0).symm
theorem goto_beyond (ht : MayT al gs T S) {x : Int} (hx : x < 0 ∨ (S : Int) ≤ x) (y : Int) : gotoS (tgN gs S) (layR (rowsG gs S)).bs (layR (rowsG gs S)).v (layR (rowsG gs S)).o y x = -1 := by
  have hb : (layR (rowsG gs S)).bs.length = S := by rw [(layR_len (layOk_G ht)).2.2.1]; simp [rowsG]
  unfold gotoS atS
  rcases hx with h | h
  · rw [if_pos h]
    simp only [Bool.false_eq_true, if_false]
    rw [if_neg (by omega)]
  · rw [if_neg (show ¬ x < 0 by omega), if_pos (show ((layR (rowsG gs S)).bs.length : Int) ≤ x by omega)]
    simp only [Bool.false_eq_true, if_false]
    rw [if_pos (by omega), if_neg (by rw [tgN_len]; omega)]
end
end Go.Proofs.Ytlclbfkdaemilaa

/- What the packed table on the heap answers. -/
namespace Go.Proofs.Ytlclbfkdaemilaa
set_option linter.unusedSimpArgs false
set_option linter.unusedVariables false
open Go Go.Vm Go.Proofs
set_option maxRecDepth 100000
set_option maxHeartbeats 1000000

theorem mem_pad {l : List Int} {k : Nat} {d n : Int} (h : n ∈ pad l k d) : n ∈ l ∨ n = d := by
  unfold pad at h
  rcases List.mem_append.1 h with h | h
  · exact .inl h
  · exact .inr (List.mem_replicate.1 h).2
theorem place_vals {P : Int → Prop} (h0 : P 0) {b i : Int} : ∀ (l : Edges) (ov : List Int × List Int), (∀ n ∈ ov.2, P n) → (∀ e ∈ l, P e.2) → ∀ n ∈ (l.foldl (place b i) ov).2, P n
  | [], ov, h, _ => h
  | e :: l, ov, h, he => by
    refine place_vals h0 l _ (fun n hn => ?_) fun f hf => he f (List.mem_cons_of_mem _ hf)
    unfold place at hn
    rcases List.mem_or_eq_of_mem_set hn with hn | hn
    · rcases mem_pad hn with hn | hn
      · exact h n hn
      · rw [hn]; exact h0
    · rw [hn]; exact he e (List.mem_cons_self ..)
theorem fold_vals {P : Int → Prop} (h0 : P 0) {rows : List Edges} (hr : ∀ i, ∀ e ∈ rows.getD i [], P e.2) : ∀ (js : List Nat) (s : Laid), (∀ n ∈ s.v, P n) → ∀ n ∈ (js.foldl (putR rows) s).v, P n
  | [], s, h => h
  | j :: js, s, h => fold_vals h0 hr js _ (place_vals h0 _ _ h (hr j))
theorem lay_vals {P : Int → Prop} (h0 : P 0) {rows : List Edges} (hr : ∀ i, ∀ e ∈ rows.getD i [], P e.2) : ∀ n ∈ (layR rows).v, P n := fold_vals h0 hr _ _ (by simp)

section
variable {al : List Edges} {gs : List (List Int)}
def actP (al : List Edges) (gs : List (List Int)) (x y : Int) : Int × Int := actS (pkL al gs 0) (pkL al gs 1) (pkL al gs 2) (pkL al gs 3) x y
def gotP (al : List Edges) (gs : List (List Int)) (x y : Int) : Int := gotoS (pkL al gs 4) (pkL al gs 5) (pkL al gs 6) (pkL al gs 7) x y
structure PkEq (al : List Edges) (gs : List (List Int)) : Prop where
  e0 : pkL al gs 0 = dfN al al.length
  e1 : pkL al gs 1 = (layR (rowsA al)).bs
  e2 : pkL al gs 2 = (layR (rowsA al)).v
  e3 : pkL al gs 3 = (layR (rowsA al)).o
  e4 : pkL al gs 4 = tgN gs (gs.getD 0 []).length
  e5 : pkL al gs 5 = (layR (rowsG gs (gs.getD 0 []).length)).bs
  e6 : pkL al gs 6 = (layR (rowsG gs (gs.getD 0 []).length)).v
  e7 : pkL al gs 7 = (layR (rowsG gs (gs.getD 0 []).length)).o
theorem pk_eq (hm : mayD al gs = true) : PkEq al gs := by
  have ht := mayD_spec hm
  have hA := layOk_A ht
  have hG := layOk_G ht
  constructor <;> (unfold pkL; simp only [hm, if_true]; try (unfold layL; simp only [hA, hG, if_true]))
theorem codeS_range {a b : Int} (h0 : 0 ≤ b) (h1 : b ≤ 256) : -1000 ≤ codeS a b ∧ codeS a b ≤ 1000 := by
  unfold codeS
  split
  · omega
  · split
    · omega
    · split <;> omega
theorem valsA (hm : mayD al gs = true) : ∀ n ∈ pkL al gs 2, -9223372036854775808 ≤ n ∧ n ≤ 9223372036854775807 := by
  have ht := mayD_spec hm
  rw [(pk_eq hm).e2]
  refine lay_vals (P := fun n => -9223372036854775808 ≤ n ∧ n ≤ 9223372036854775807) (by omega) fun i e he => ?_
  by_cases hi : i < al.length
  · rw [rowsA_at hi] at he
    obtain ⟨k, h1, h2, rfl⟩ := rowAn_mem.1 he
    rw [ht.rt i hi] at h1
    have hn := ht.n2
    have hr := mayA_range (by omega) (ht.ma i hi k h1)
    have := codeS_range (a := ((al.getD i []).getD k (0, 0)).1) hr.1 hr.2
    simp only; omega
  · have : (rowsA al).getD i [] = [] := by simp [rowsA, List.getD, hi]
    rw [this] at he; cases he
section
variable {H : Hp} {o : Nat → Option Nat}
theorem act_call (hm : mayD al gs = true) (own : ∀ j, j < 8 → Own H (o j) (pkL al gs j)) (x y : Int) : FnV Try.prog 18 [.agg (pkA o al gs), .int .i64 x, .int .i64 y] H fun r H' => r = .agg [.int .i64 (actP al gs x y).1, .int .i64 (actP al gs x y).2] ∧ H' = H := by
  have hmx : maxLen = 9223372036854775807 := rfl
  have hl := fun j => pkL_len al gs j
  refine FnV.calm rfl ?_
  exact act18 (p4 := gptr (o 4)) (p5 := gptr (o 5)) (p6 := gptr (o 6)) (p7 := gptr (o 7)) (c0 := (pkL al gs 0).length) (c1 := (pkL al gs 1).length) (c2 := (pkL al gs 2).length) (c3 := (pkL al gs 3).length)
    (c4 := (pkL al gs 4).length) (c5 := (pkL al gs 5).length) (c6 := (pkL al gs 6).length) (c7 := (pkL al gs 7).length) (tg := pkL al gs 4) (gb := pkL al gs 5) (gv := pkL al gs 6) (go := pkL al gs 7)
    (own 0 (by omega)).1 (own 1 (by omega)).1 (own 2 (by omega)).1 (own 3 (by omega)).1 (by have := hl 2; omega) (by have := hl 3; omega) (valsA hm)
theorem got_call (own : ∀ j, j < 8 → Own H (o j) (pkL al gs j)) (x y : Int) : FnV Try.prog 19 [.agg (pkA o al gs), .int .i64 x, .int .i64 y] H fun r H' => r = .int .i64 (gotP al gs x y) ∧ H' = H := by
  have hmx : maxLen = 9223372036854775807 := rfl
  have hl := fun j => pkL_len al gs j
  refine FnV.calm rfl ?_
  exact got19 (p0 := gptr (o 0)) (p1 := gptr (o 1)) (p2 := gptr (o 2)) (p3 := gptr (o 3)) (c0 := (pkL al gs 0).length) (c1 := (pkL al gs 1).length) (c2 := (pkL al gs 2).length) (c3 := (pkL al gs 3).length)
    (c4 := (pkL al gs 4).length) (c5 := (pkL al gs 5).length) (c6 := (pkL al gs 6).length) (c7 := (pkL al gs 7).length) (df := pkL al gs 0) (b := pkL al gs 1) (v := pkL al gs 2) (o := pkL al gs 3)
    (own 4 (by omega)).1 (own 5 (by omega)).1 (own 6 (by omega)).1 (own 7 (by omega)).1 (by have := hl 6; omega) (by have := hl 7; omega)
end
variable {T S : Nat}
theorem actP_says (hm : mayD al gs = true) {q t : Nat} (hq : q < al.length) (ht : t < (al.getD q []).length) :
    (((al.getD q []).getD t (0, 0)).1 ≠ 0 → actP al gs q t = (al.getD q []).getD t (0, 0)) ∧ (((al.getD q []).getD t (0, 0)).1 = 0 → actP al gs q t = dflt (dfA (al.getD q []))) := by
  have hT := mayD_spec hm
  have he := pk_eq hm
  have hs := act_says hT hq (by rw [← hT.rt q hq]; exact ht)
  have hma := hT.ma q hq t (by rw [← hT.rt q hq]; exact ht)
  have hn := hT.n2
  unfold actP
  rw [he.e0, he.e1, he.e2, he.e3, hs]
  generalize dfA (al.getD q []) = d
  generalize (al.getD q []).getD t (0, 0) = ab at *
  obtain ⟨a, b⟩ := ab
  simp only at hma ⊢
  constructor
  · intro h0
    by_cases hk : keepA d (a, b) = true
    · rw [if_pos hk]
    · rw [if_neg hk]
      unfold keepA at hk
      simp [h0] at hk
      obtain ⟨h1, h2⟩ := hk
      subst h1 h2
      unfold mayA at hma
      simp at hma
      unfold dflt
      rw [if_pos (by omega)]
  · intro h0
    rw [if_neg (by unfold keepA; simp [h0])]
theorem actP_out (hm : mayD al gs = true) {q : Nat} (hq : q < al.length) {x : Int} (hx : x < 0 ∨ ((al.getD q []).length : Int) ≤ x) : actP al gs q x = dflt (dfA (al.getD q [])) := by
  have hT := mayD_spec hm
  have he := pk_eq hm
  unfold actP
  rw [he.e0, he.e1, he.e2, he.e3]
  refine act_default hT hq fun k hk _ => ?_
  rw [hT.rt q hq] at hx
  omega
theorem actP_none (hm : mayD al gs = true) {x : Int} (hx : x < 0 ∨ (al.length : Int) ≤ x) (y : Int) : actP al gs x y = (0, 0) := by
  have he := pk_eq hm
  unfold actP
  rw [he.e0, he.e1, he.e2, he.e3]
  exact act_beyond (mayD_spec hm) hx y
theorem gotP_says (hm : mayD al gs = true) {q n : Nat} (hq : q < al.length) (hn : n < (gs.getD q []).length) (h0 : 0 ≤ (gs.getD q []).getD n 0) : gotP al gs q n = (gs.getD q []).getD n 0 := by
  have hT := mayD_spec hm
  have he := pk_eq hm
  unfold gotP
  rw [he.e4, he.e5, he.e6, he.e7]
  exact goto_says hT hq (by rw [← hT.rs q hq]; exact hn) h0
theorem gotP_out (hm : mayD al gs = true) {x : Int} (hx : x < 0 ∨ ((gs.getD 0 []).length : Int) ≤ x) (y : Int) : gotP al gs y x = -1 := by
  have he := pk_eq hm
  unfold gotP
  rw [he.e4, he.e5, he.e6, he.e7]
  exact goto_beyond (mayD_spec hm) hx y
/-- is there a reduction among the first? -/
def someN (l : Edges) : Nat → Bool
  | 0 => false
  | t + 1 => someN l t || ((l.getD t (0, 0)).1 == 2)
theorem someN_iff {l : Edges} : ∀ {t : Nat}, someN l t = true ↔ ∃ k, k < t ∧ (l.getD k (0, 0)).1 = 2
  | 0 => by simp [someN]
  | t + 1 => by
    unfold someN
    rw [Bool.or_eq_true, someN_iff, beq_iff_eq]
    constructor
    · rintro (⟨k, h1, h2⟩ | h)
      · exact ⟨k, by omega, h2⟩
      · exact ⟨t, by omega, h⟩
    · rintro ⟨k, h1, h2⟩
      by_cases e : k = t
      · subst e; exact .inr h2
      · exact .inl ⟨k, by omega, h2⟩
theorem someN_df (hm : mayD al gs = true) {q : Nat} (hq : q < al.length) : someN (al.getD q []) (al.getD q []).length = decide (0 < dfA (al.getD q [])) := by
  have hT := mayD_spec hm
  rw [Bool.eq_iff_iff, someN_iff, decide_eq_true_iff]
  rcases dfA_spec hT hq with ⟨h1, h2⟩ | ⟨h1, h2, h3⟩
  · constructor
    · rintro ⟨k, h3, h4⟩
      exact absurd h4 (h2 k (by rw [← hT.rt q hq]; exact h3))
    · intro h; omega
  · constructor
    · intro _; omega
    · intro _
      obtain ⟨t, h4, h5⟩ := h3
      exact ⟨t, by rw [hT.rt q hq]; exact h4, h5⟩
theorem df_or (hm : mayD al gs = true) {q : Nat} (hq : q < al.length) : dfA (al.getD q []) = -1 ∨ 1 ≤ dfA (al.getD q []) := by
  rcases dfA_spec (mayD_spec hm) hq with ⟨h1, _⟩ | ⟨h1, _⟩
  · exact .inl h1
  · exact .inr h1
end
end Go.Proofs.Ytlclbfkdaemilaa

/- PackSays: the loop over one state's actions. -/
namespace Go.Proofs.Ytlclbfkdaemilaa
set_option linter.unusedSimpArgs false
set_option linter.unusedVariables false
open Go Go.Vm Go.Proofs
set_option maxRecDepth 100000
set_option maxHeartbeats 4000000

/-- what the law reads: the table, and the packed one -/
structure SF (H : Hp) (j ip : Nat) (pa pg : Option PA) (ca cg : Nat) (al : List Edges) (gs : List (List Int)) (was wgs : List VV) (o : Nat → Option Nat) : Prop where
  den : Den H pa pg al gs was wgs
  d0 : ld H ⟨j, 0, 0⟩ = some (.sl pa al.length ca)
  d1 : ld H ⟨j, 0, 1⟩ = some (.sl pg gs.length cg)
  p0 : ld H ⟨ip, 0, 0⟩ = some (.sl (gptr (o 0)) (pkL al gs 0).length (pkL al gs 0).length)
  p8 : lds H ⟨ip, 0, 0⟩ 8 = some (pkA o al gs)
  own : ∀ j, j < 8 → Own H (o j) (pkL al gs j)
theorem ext_lds {A B : Hp} (hx : Ext A B) {p : PA} {n : Nat} {l : List VV} (h : lds A p n = some l) : lds B p n = some l := by
  obtain ⟨G, rfl⟩ := hx.garbage
  unfold Vm.lds at h ⊢
  cases hb : A[p.blk]? with
  | none => rw [hb] at h; cases h
  | some x => rw [get_push hb G]; rw [hb] at h; exact h
theorem SF.ext {A B : Hp} {j ip : Nat} {pa pg : Option PA} {ca cg : Nat} {al : List Edges} {gs : List (List Int)} {was wgs : List VV} {o : Nat → Option Nat} (h : SF A j ip pa pg ca cg al gs was wgs o) (hx : Ext A B) : SF B j ip pa pg ca cg al gs was wgs o :=
  ⟨h.den.ext hx, ext_ld hx h.d0, ext_ld hx h.d1, ext_ld hx h.p0, ext_lds hx h.p8, fun j hj => (h.own j hj).ext hx⟩

section
variable {B : Nat} {H : Hp} {j ip ca cg q : Nat} {al : List Edges} {gs : List (List Int)} {pa pg : Option PA} {was wgs : List VV} {o : Nat → Option Nat}
theorem SF.df (h : SF H j ip pa pg ca cg al gs was wgs o) (hm : mayD al gs = true) (hq : q < al.length) : ∃ pd, gptr (o 0) = some pd ∧ q < (pkL al gs 0).length ∧ Vm.ixp H pd q 1 = some (elp (some pd) q) ∧ Vm.ld H (elp (some pd) q) = some (.int .i64 (dfA (al.getD q []))) := by
  have he := (pk_eq hm).e0
  have hl : (pkL al gs 0).length = al.length := by rw [he, dfN_len]
  obtain ⟨pd, h1, h2, h3⟩ := sl_int (h.own 0 (by omega)).1 (k := q) (by omega)
  rw [he, dfN_at hq] at h3
  exact ⟨pd, h1, by omega, h2, h3⟩
theorem says_t (h : SF H j ip pa pg ca cg al gs was wgs o) (hm : mayD al gs = true) (hq : q < al.length) :
    VW Try.prog B 217 (VC.l (VC.r (VC.l (VC.l (VC.r (VC.l (VC.l (VC.r (VC.l (VC.r (VC.r (VC.r (VC.r w8.vc)))))))))))))
      [(1, .ptr (some ⟨j, 0, 0⟩)), (3, .ptr (some ⟨ip, 0, 0⟩)), (5, .int .i64 q), (6, .bool false)] H
      fun e F2 H' => e = .normal ∧ Cov [(1, .ptr (some ⟨j, 0, 0⟩)), (3, .ptr (some ⟨ip, 0, 0⟩)), (5, .int .i64 q), (6, .bool (someN (al.getD q []) (al.getD q []).length))] F2 ∧ Ext H H' := by
  dsimp only [w8, VC.l, VC.r]
  have hT := mayD_spec hm
  have hn2 := hT.n2
  have hlT := hT.rt q hq
  have ht2 := hT.t2
  have hsay := fun t => actP_says hm hq (t := t)
  have hdor := df_or hm hq
  generalize hl0 : al.getD q [] = l at *
  refine VW.seq (VW.reg ?_)
  refine VOps.rd rfl rfl ?_
  refine VOps.nil ⟨rfl, ?_⟩
  show VW _ _ _ _ [(1, .ptr (some ⟨j, 0, 0⟩)), (3, .ptr (some ⟨ip, 0, 0⟩)), (5, .int .i64 q), (6, .bool false), (7, .int .i64 0)] _ _
  refine VW.block ?_
  refine VW.loop (fun m' F' H' => ∃ t : Nat, t ≤ l.length ∧ m' = l.length - t ∧ Cov [(1, .ptr (some ⟨j, 0, 0⟩)), (3, .ptr (some ⟨ip, 0, 0⟩)), (5, .int .i64 q), (6, .bool (someN l t)), (7, .int .i64 t)] F' ∧ Ext H H') l.length
    ⟨0, by omega, rfl, by simp [Cov, Fr.only, someN], .refl _⟩ ?_
  rintro m' F' H2 ⟨t, ht, rfl, hcov, hx⟩
  refine VW.sub hcov ?_
  clear hcov
  have h2 := h.ext hx
  obtain ⟨pq, pk, ck, hpq, a1, a2, a3, a4⟩ := row_at h2.den.sa h2.den.ra hq
  rw [hl0] at a2 a3 a4
  have n0 := h2.d0
  refine VW.seq (VW.seq (VW.reg ?_))
  refine VOps.rd rfl rfl ?_
  refine VOps.rd rfl rfl ?_
  refine VOps.rd (v := .sl pa al.length ca) rfl (by simp [n0]) ?_
  refine VOps.rd rfl rfl ?_
  refine VOps.rd (v := .ptr (some (elp (some pq) q))) rfl (by simp [hpq, a1, hq]) ?_
  refine VOps.rd (v := .sl pk l.length ck) rfl (by simp [a2]) ?_
  refine VOps.rd rfl rfl ?_
  refine VOps.rd rfl rfl ?_
  refine VOps.nil ⟨rfl, ?_⟩
  by_cases hlt : t < l.length
  · have hvt := wrap_id (x := (t : Int) + 1) (by omega) (by omega)
    obtain ⟨r, hr, r1, r2, r3, r4⟩ := sl_edge a3 (k := t) hlt
    have hs := hsay t hlt
    have hstep : someN l (t + 1) = (someN l t || ((l.getD t (0, 0)).1 == 2)) := rfl
    generalize l.getD t (0, 0) = ab at *
    obtain ⟨x, y⟩ := ab
    simp only at r2 r3 hs hstep
    have hcall := fun (Hc : Hp) (hown : ∀ j, j < 8 → Own Hc (o j) (pkL al gs j)) => act_call hm hown q t
    have hcase : (x ≠ 0 ∧ actP al gs q t = (x, y)) ∨ (x = 0 ∧ 1 ≤ dfA l ∧ actP al gs q t = (2, dfA l)) ∨ (x = 0 ∧ dfA l = -1 ∧ actP al gs q t = (0, 0)) := by
      by_cases h0 : x = 0
      · have := hs.2 h0
        unfold dflt at this
        rcases hdor with hd | hd
        · rw [if_neg (by omega)] at this; exact .inr (.inr ⟨h0, hd, this⟩)
        · rw [if_pos (by omega)] at this; exact .inr (.inl ⟨h0, hd, this⟩)
      · exact .inl ⟨h0, hs.1 h0⟩
    clear hs
    generalize actP al gs q t = bb at *
    obtain ⟨u, v⟩ := bb
    simp only at hcall
    have hs2 := stc_last2 (H := H2) (t := 46) (md := .own) (by decide) (a := .int .i64 0) (b := .int .i64 0) (c := .int .i64 x) (d := .int .i64 y) rfl rfl
    refine VW.condT (by simp [Fr.only, hlt]) (VW.skip ?_)
    show VW _ _ _ _ [(1, .ptr (some ⟨j, 0, 0⟩)), (3, .ptr (some ⟨ip, 0, 0⟩)), (5, .int .i64 q), (6, .bool (someN l t)), (7, .int .i64 t), (61, _)] _ _
    refine VW.seq (VW.block (VW.seq (VW.reg ?_)))
    refine VOps.rd rfl rfl ?_
    refine VOps.rd (v := .sl pa al.length ca) rfl (by simp [n0]) ?_
    refine VOps.rd rfl rfl ?_
    refine VOps.rd (v := .ptr (some (elp (some pq) q))) rfl (by simp [hpq, a1, hq]) ?_
    refine VOps.rd (v := .sl pk l.length ck) rfl (by simp [a2]) ?_
    refine VOps.rd rfl rfl ?_
    refine VOps.rd (v := .ptr (some (elp (some r) t))) rfl (by simp [hr, r1, hlt]) ?_
    refine VOps.rd (v := .agg [.int .i64 x, .int .i64 y]) rfl (by simp [r3]) ?_
    refine VOps.ef (v := .ptr (some ⟨H2.length, 0, 0⟩)) (H' := H2 ++ [.row 46 .own [[.int .i64 0, .int .i64 0]]]) rfl (by simp) ?_
    refine VOps.ef (v := .undef) (H' := H2 ++ [.row 46 .own [[.int .i64 x, .int .i64 y]]]) rfl (by simp [hs2]) ?_
    refine VOps.nil ⟨rfl, ?_⟩
    show VW _ _ _ _ [(1, .ptr (some ⟨j, 0, 0⟩)), (3, .ptr (some ⟨ip, 0, 0⟩)), (5, .int .i64 q), (6, .bool (someN l t)), (7, .int .i64 t), (8, .ptr (some ⟨H2.length, 0, 0⟩))] _ _
    have hx23 : Ext H2 (H2 ++ [Blk.row 46 .own [[.int .i64 x, .int .i64 y]]]) := .app _ _
    have hb3 : (H2 ++ [Blk.row 46 .own [[.int .i64 x, .int .i64 y]]])[H2.length]? = some (.row 46 .own [[.int .i64 x, .int .i64 y]]) := by simp
    clear hs2 r1 r2 r3 r4 a1 a2 a3 a4 n0
    replace h2 := h2.ext hx23
    replace hx := hx.trans hx23
    clear hx23
    generalize H2 ++ [Blk.row 46 .own [[.int .i64 x, .int .i64 y]]] = H3 at *
    generalize H2.length = ia at *
    have hp8 := h2.p8
    have hs3 := stc_last2 (H := H3) (t := 46) (md := .own) (by decide) (a := .int .i64 0) (b := .int .i64 0) (c := .int .i64 u) (d := .int .i64 v) rfl rfl
    refine VW.seq (VW.reg ?_)
    refine VOps.rd (v := .agg (pkA o al gs)) rfl (by simp [hp8]) ?_
    refine VOps.rd rfl rfl ?_
    refine VOps.rd rfl rfl ?_
    refine VOps.call rfl rfl rfl ((hcall H3 h2.own).mono ?_)
    rintro r' Hy ⟨rfl, rfl⟩
    refine VOps.ef (v := .ptr (some ⟨Hy.length, 0, 0⟩)) (H' := Hy ++ [.row 46 .own [[.int .i64 0, .int .i64 0]]]) rfl (by simp) ?_
    refine VOps.ef (v := .undef) (H' := Hy ++ [.row 46 .own [[.int .i64 u, .int .i64 v]]]) rfl (by simp [hs3]) ?_
    refine VOps.nil ⟨rfl, ?_⟩
    show VW _ _ _ _ [(1, .ptr (some ⟨j, 0, 0⟩)), (3, .ptr (some ⟨ip, 0, 0⟩)), (5, .int .i64 q), (6, .bool (someN l t)), (7, .int .i64 t), (8, .ptr (some ⟨ia, 0, 0⟩)), (9, .ptr (some ⟨Hy.length, 0, 0⟩))] _ _
    have hx34 : Ext Hy (Hy ++ [Blk.row 46 .own [[.int .i64 u, .int .i64 v]]]) := .app _ _
    have hb4 : (Hy ++ [Blk.row 46 .own [[.int .i64 u, .int .i64 v]]])[Hy.length]? = some (.row 46 .own [[.int .i64 u, .int .i64 v]]) := by simp
    clear hs3 hcall hp8
    replace hb3 := hx34.get hb3
    replace h2 := h2.ext hx34
    replace hx := hx.trans hx34
    clear hx34
    generalize Hy ++ [Blk.row 46 .own [[.int .i64 u, .int .i64 v]]] = H4 at *
    generalize Hy.length = ib at *
    have la0 := ld_own hb3 0
    have la2 := lds_own hb3 0 2
    have lb0 := ld_own hb4 0
    have lb1 := ld_own hb4 1
    have lb2 := lds_own hb4 0 2
    simp only [List.getElem?_cons_zero, List.getElem?_cons_succ] at la0 lb0 lb1
    simp only [List.length_cons, List.length_nil, Nat.zero_add, Nat.le_refl, if_true, List.drop_zero, List.take_succ_cons, List.take_zero] at la2 lb2
    obtain ⟨pd, hpd, hdl, d1, d2⟩ := h2.df hm hq
    rw [hl0] at d2
    have dp := h2.p0
    rw [hpd] at dp
    clear hb3 hb4 hpd
    refine VW.seq ?_
    refine VW.mono (Q := fun e F2 H' => e = .normal ∧ Cov [(1, .ptr (some ⟨j, 0, 0⟩)), (3, .ptr (some ⟨ip, 0, 0⟩)), (5, .int .i64 q), (6, .bool (someN l (t + 1))), (7, .int .i64 t), (8, .ptr (some ⟨ia, 0, 0⟩)), (9, .ptr (some ⟨ib, 0, 0⟩))] F2 ∧ H' = H4) ?_ ?_
    · rw [hstep]
      refine VW.reg ?_
      refine VOps.rd rfl rfl ?_
      refine VOps.rd rfl rfl ?_
      cases someN l t with
      | true =>
        iterate 3 refine VOps.sk rfl ?_
        refine VOps.rd rfl rfl ?_
        refine VOps.rd rfl rfl ?_
        exact VOps.nil ⟨rfl, rfl, by simp [Cov, Fr.only], rfl⟩
      | false =>
        refine VOps.rd rfl rfl ?_
        refine VOps.rd (v := .int .i64 x) rfl (by simp [la0]) ?_
        refine VOps.rd rfl rfl ?_
        refine VOps.rd rfl rfl ?_
        refine VOps.rd rfl rfl ?_
        exact VOps.nil ⟨rfl, rfl, by simp [Cov, Fr.only], rfl⟩
    rintro e F2 H5 ⟨rfl, hcov, rfl⟩
    refine VW.sub hcov ?_
    clear hcov
    generalize dfA l = d at *
    -- what is there is told
    refine VW.seq (VW.seq ?_)
    refine VW.mono (Q := fun e F2 H' => e = .normal ∧ Cov [(1, .ptr (some ⟨j, 0, 0⟩)), (3, .ptr (some ⟨ip, 0, 0⟩)), (5, .int .i64 q), (6, .bool (someN l (t + 1))), (7, .int .i64 t), (8, .ptr (some ⟨ia, 0, 0⟩)), (9, .ptr (some ⟨ib, 0, 0⟩)), (89, .bool false)] F2 ∧ H' = H5) ?_ ?_
    · refine VW.reg ?_
      refine VOps.rd rfl rfl ?_
      refine VOps.rd (v := .int .i64 x) rfl (by simp [la0]) ?_
      refine VOps.rd (v := .bool (!decide (x = 0))) rfl (by simp [bne]; rfl) ?_
      refine VOps.rd rfl rfl ?_
      by_cases h0 : x = 0
      · rw [decide_eq_true h0]
        iterate 3 refine VOps.sk rfl ?_
        refine VOps.rd (v := .bool false) rfl rfl ?_
        exact VOps.nil ⟨rfl, rfl, by simp [Cov, Fr.only], rfl⟩
      · rw [decide_eq_false h0]
        have huv : u = x ∧ v = y := by
          rcases hcase with ⟨_, hc⟩ | ⟨hc, _⟩ | ⟨hc, _⟩
          · simpa using hc
          · exact absurd hc h0
          · exact absurd hc h0
        obtain ⟨rfl, rfl⟩ := huv
        refine VOps.rd (v := .agg [.int .i64 u, .int .i64 v]) rfl (by simp [la2]) ?_
        refine VOps.rd (v := .agg [.int .i64 u, .int .i64 v]) rfl (by simp [lb2]) ?_
        refine VOps.rd (v := .bool false) rfl (by simp [aeqK]) ?_
        refine VOps.rd (v := .bool false) rfl rfl ?_
        exact VOps.nil ⟨rfl, rfl, by simp [Cov, Fr.only], rfl⟩
    rintro e F2 H6 ⟨rfl, hcov, rfl⟩
    refine VW.sub hcov (VW.condF rfl (VW.skip ?_))
    clear hcov
    -- a default, or nothing
    refine VW.seq (VW.seq ?_)
    refine VW.mono (Q := fun e F2 H' => e = .normal ∧ Cov [(1, .ptr (some ⟨j, 0, 0⟩)), (3, .ptr (some ⟨ip, 0, 0⟩)), (5, .int .i64 q), (6, .bool (someN l (t + 1))), (7, .int .i64 t), (8, .ptr (some ⟨ia, 0, 0⟩)), (9, .ptr (some ⟨ib, 0, 0⟩)), (112, .bool false)] F2 ∧ H' = H6) ?_ ?_
    · refine VW.dreg [H6] mixed rfl ?_
      refine VX.rd1 rfl rfl ?_
      refine VX.rd1 (v := .int .i64 x) rfl (by simp [la0]) ?_
      refine VX.rd1 (v := .bool (decide (x = 0))) rfl (by simp; rfl) ?_
      refine VX.rd1 rfl rfl ?_
      by_cases h0 : x = 0
      · rw [decide_eq_true h0]
        rcases hcase with ⟨hc, _⟩ | ⟨_, hd, hc⟩ | ⟨_, hd, hc⟩
        · exact absurd h0 hc
        · obtain ⟨rfl, rfl⟩ : u = 2 ∧ v = d := by simpa using hc
          refine VX.rd1 (v := .agg [.int .i64 2, .int .i64 v]) rfl (by simp [lb2]) ?_
          refine VX.rd1 (v := .agg [.int .i64 0, .int .i64 0]) rfl rfl ?_
          refine VX.rd1 (v := .bool true) rfl (by simp [aeqK]) ?_
          refine VX.rd1 (v := .bool true) rfl rfl ?_
          refine VX.rd1 (v := .bool true) rfl rfl ?_
          refine VX.rd1 rfl rfl ?_
          refine VX.rd1 (v := .int .i64 2) rfl (by simp [lb0]) ?_
          refine VX.rd1 (v := .bool false) rfl rfl ?_
          refine VX.rd1 (v := .bool false) rfl rfl ?_
          refine VX.rd1 rfl rfl ?_
          refine VX.rd1 (v := .int .i64 v) rfl (by simp [lb1]) ?_
          refine VX.rd1 rfl rfl ?_
          refine VX.rd1 (v := .sl (some pd) (pkL al gs 0).length (pkL al gs 0).length) rfl (by simp [dp]) ?_
          refine VX.rd1 rfl rfl ?_
          refine VX.rd1 (v := .ptr (some (elp (some pd) q))) rfl (by simp [d1, hdl]) ?_
          refine VX.rd1 (v := .int .i64 v) rfl (by simp [d2]) ?_
          refine VX.rd1 (v := .bool false) rfl (by simp) ?_
          refine VX.rd1 (v := .bool false) rfl rfl ?_
          refine VX.rd1 (v := .bool false) rfl rfl ?_
          exact VX.nil ⟨rfl, by simp [Cov, Fr.only], rfl⟩
        · obtain ⟨rfl, rfl⟩ : u = 0 ∧ v = 0 := by simpa using hc
          refine VX.rd1 (v := .agg [.int .i64 0, .int .i64 0]) rfl (by simp [lb2]) ?_
          refine VX.rd1 (v := .agg [.int .i64 0, .int .i64 0]) rfl rfl ?_
          refine VX.rd1 (v := .bool false) rfl (by simp [aeqK]) ?_
          refine VX.rd1 (v := .bool false) rfl rfl ?_
          refine VX.rd1 (v := .bool false) rfl rfl ?_
          iterate 13 refine VX.sk1 rfl ?_
          refine VX.rd1 (v := .bool false) rfl rfl ?_
          exact VX.nil ⟨rfl, by simp [Cov, Fr.only], rfl⟩
      · rw [decide_eq_false h0]
        iterate 3 refine VX.sk1 rfl ?_
        refine VX.rd1 (v := .bool false) rfl rfl ?_
        refine VX.rd1 (v := .bool false) rfl rfl ?_
        iterate 13 refine VX.sk1 rfl ?_
        refine VX.rd1 (v := .bool false) rfl rfl ?_
        exact VX.nil ⟨rfl, by simp [Cov, Fr.only], rfl⟩
    rintro e F2 H7 ⟨rfl, hcov, rfl⟩
    refine VW.sub hcov (VW.condF rfl (VW.skip ?_))
    clear hcov
    refine VW.seq ?_
    refine VW.mono (Q := fun e F2 H' => e = .normal ∧ Cov [(1, .ptr (some ⟨j, 0, 0⟩)), (3, .ptr (some ⟨ip, 0, 0⟩)), (5, .int .i64 q), (6, .bool (someN l (t + 1))), (7, .int .i64 t), (127, .bool false)] F2 ∧ H' = H7) ?_ ?_
    · refine VW.dreg [H7] mixed rfl ?_
      refine VX.rd1 rfl rfl ?_
      refine VX.rd1 (v := .int .i64 x) rfl (by simp [la0]) ?_
      refine VX.rd1 (v := .bool (decide (x = 0))) rfl (by simp; rfl) ?_
      refine VX.rd1 rfl rfl ?_
      by_cases h0 : x = 0
      · rw [decide_eq_true h0]
        refine VX.rd1 rfl rfl ?_
        refine VX.rd1 (v := .int .i64 u) rfl (by simp [lb0]) ?_
        refine VX.rd1 (v := .bool (decide (u = 0))) rfl (by simp; rfl) ?_
        refine VX.rd1 rfl rfl ?_
        refine VX.rd1 (v := .sl (some pd) (pkL al gs 0).length (pkL al gs 0).length) rfl (by simp [dp]) ?_
        refine VX.rd1 rfl rfl ?_
        refine VX.rd1 (v := .ptr (some (elp (some pd) q))) rfl (by simp [d1, hdl]) ?_
        refine VX.rd1 (v := .int .i64 d) rfl (by simp [d2]) ?_
        refine VX.rd1 (v := .bool (decide (d < 0))) rfl rfl ?_
        have hdec : decide (u = 0) = decide (d < 0) := by
          rw [decide_eq_decide]
          rcases hcase with ⟨hc, _⟩ | ⟨_, hd, hc⟩ | ⟨_, hd, hc⟩
          · exact absurd h0 hc
          · have : u = 2 ∧ v = d := by simpa using hc
            omega
          · have : u = 0 ∧ v = 0 := by simpa using hc
            omega
        rw [hdec]
        refine VX.rd1 (v := .bool false) rfl (by simp) ?_
        refine VX.rd1 (v := .bool false) rfl rfl ?_
        exact VX.nil ⟨rfl, by simp [Cov, Fr.only], rfl⟩
      · rw [decide_eq_false h0]
        iterate 10 refine VX.sk1 rfl ?_
        refine VX.rd1 (v := .bool false) rfl rfl ?_
        exact VX.nil ⟨rfl, by simp [Cov, Fr.only], rfl⟩
    rintro e F2 H8 ⟨rfl, hcov, rfl⟩
    refine VW.sub hcov (VW.condF rfl (VW.skip (VW.reg ?_)))
    refine VOps.rd rfl rfl ?_
    refine VOps.rd rfl rfl ?_
    refine VOps.rd rfl rfl ?_
    exact VOps.nil ⟨rfl, l.length - (t + 1), by omega, t + 1, by omega, rfl, by simp [Cov, Fr.only, hvt], hx⟩
  · have : t = l.length := by omega
    subst this
    refine VW.condF (by simp [Fr.only]) (VW.exit ?_)
    simp only [then_normal, then_ret, then_exit, inB_normal, inB_ret, inB_exit, reduceIte, Nat.reduceEqDiff]
    exact ⟨trivial, by simp [Cov, Fr.only], hx⟩
end
end Go.Proofs.Ytlclbfkdaemilaa

/- PackSays: the loop over one state's gotos, and the loop over the states. -/
namespace Go.Proofs.Ytlclbfkdaemilaa
set_option linter.unusedSimpArgs false
set_option linter.unusedVariables false
open Go Go.Vm Go.Proofs
set_option maxRecDepth 100000
set_option maxHeartbeats 4000000

section
variable {B : Nat} {H : Hp} {j ip ca cg q : Nat} {al : List Edges} {gs : List (List Int)} {pa pg : Option PA} {was wgs : List VV} {o : Nat → Option Nat}
theorem says_n (h : SF H j ip pa pg ca cg al gs was wgs o) (hm : mayD al gs = true) (hq : q < al.length) :
    VW Try.prog B 217 (VC.l (VC.r (VC.r (VC.r (VC.l (VC.l (VC.r (VC.l (VC.l (VC.r (VC.l (VC.r (VC.r (VC.r (VC.r w8.vc)))))))))))))))
      [(1, .ptr (some ⟨j, 0, 0⟩)), (3, .ptr (some ⟨ip, 0, 0⟩)), (5, .int .i64 q)] H
      fun e F2 H' => e = .normal ∧ Cov [(1, .ptr (some ⟨j, 0, 0⟩)), (3, .ptr (some ⟨ip, 0, 0⟩)), (5, .int .i64 q)] F2 ∧ H' = H := by
  dsimp only [w8, VC.l, VC.r]
  have hT := mayD_spec hm
  have hs2 := hT.s2
  have hlS := hT.rs q hq
  have hqg : q < gs.length := by have := hT.ng; omega
  have hsay := fun n => gotP_says hm hq (n := n)
  obtain ⟨pq, pk, ck, hpq, a1, a2, a3, a4⟩ := rowI_at h.den.sg h.den.rg hqg
  have n1 := h.d1
  have hp8 := h.p8
  generalize hl0 : gs.getD q [] = l at *
  refine VW.seq (VW.reg ?_)
  refine VOps.rd rfl rfl ?_
  refine VOps.nil ⟨rfl, ?_⟩
  show VW _ _ _ _ [(1, .ptr (some ⟨j, 0, 0⟩)), (3, .ptr (some ⟨ip, 0, 0⟩)), (5, .int .i64 q), (10, .int .i64 0)] _ _
  refine VW.block ?_
  refine VW.loop (fun m' F' H' => ∃ n : Nat, n ≤ l.length ∧ m' = l.length - n ∧ Cov [(1, .ptr (some ⟨j, 0, 0⟩)), (3, .ptr (some ⟨ip, 0, 0⟩)), (5, .int .i64 q), (10, .int .i64 n)] F' ∧ H' = H) l.length
    ⟨0, by omega, rfl, by simp [Cov, Fr.only], rfl⟩ ?_
  rintro m' F' H2 ⟨n, hn, rfl, hcov, rfl⟩
  refine VW.sub hcov ?_
  clear hcov
  refine VW.seq (VW.seq (VW.reg ?_))
  refine VOps.rd rfl rfl ?_
  refine VOps.rd rfl rfl ?_
  refine VOps.rd (v := .sl pg gs.length cg) rfl (by simp [n1]) ?_
  refine VOps.rd rfl rfl ?_
  refine VOps.rd (v := .ptr (some (elp (some pq) q))) rfl (by simp [hpq, a1, hqg]) ?_
  refine VOps.rd (v := .sl pk l.length ck) rfl (by simp [a2]) ?_
  refine VOps.rd rfl rfl ?_
  refine VOps.rd rfl rfl ?_
  refine VOps.nil ⟨rfl, ?_⟩
  by_cases hlt : n < l.length
  · have hvn := wrap_id (x := (n : Int) + 1) (by omega) (by omega)
    obtain ⟨r, hr, r1, r2⟩ := sl_int a3 (k := n) hlt
    have hs := hsay n hlt
    have hcall := got_call h.own q n
    generalize l.getD n 0 = x at *
    refine VW.condT (by simp [Fr.only, hlt]) (VW.skip ?_)
    show VW _ _ _ _ [(1, .ptr (some ⟨j, 0, 0⟩)), (3, .ptr (some ⟨ip, 0, 0⟩)), (5, .int .i64 q), (10, .int .i64 n), (158, _)] _ _
    refine VW.seq (VW.block (VW.seq ?_))
    refine VW.mono (Q := fun e F2 H' => e = .normal ∧ Cov [(1, .ptr (some ⟨j, 0, 0⟩)), (3, .ptr (some ⟨ip, 0, 0⟩)), (5, .int .i64 q), (10, .int .i64 n), (184, .bool false)] F2 ∧ H' = H2) ?_ ?_
    · refine VW.dreg [H2] mixed rfl ?_
      refine VX.rd1 rfl rfl ?_
      refine VX.rd1 (v := .sl pg gs.length cg) rfl (by simp [n1]) ?_
      refine VX.rd1 rfl rfl ?_
      refine VX.rd1 (v := .ptr (some (elp (some pq) q))) rfl (by simp [hpq, a1, hqg]) ?_
      refine VX.rd1 (v := .sl pk l.length ck) rfl (by simp [a2]) ?_
      refine VX.rd1 rfl rfl ?_
      refine VX.rd1 (v := .ptr (some (elp (some r) n))) rfl (by simp [hr, r1, hlt]) ?_
      refine VX.rd1 (v := .int .i64 x) rfl (by simp [r2]) ?_
      refine VX.rd1 (v := .bool (decide (0 ≤ x))) rfl rfl ?_
      refine VX.rd1 rfl rfl ?_
      by_cases h0 : 0 ≤ x
      · rw [decide_eq_true h0]
        rw [hs h0] at hcall
        refine VX.rd1 (v := .agg (pkA o al gs)) rfl (by simp [hp8]) ?_
        refine VX.rd1 rfl rfl ?_
        refine VX.rd1 rfl rfl ?_
        refine VX.call1 rfl rfl rfl hcall ?_
        refine VX.rd1 rfl rfl ?_
        refine VX.rd1 (v := .sl pg gs.length cg) rfl (by simp [n1]) ?_
        refine VX.rd1 rfl rfl ?_
        refine VX.rd1 (v := .ptr (some (elp (some pq) q))) rfl (by simp [hpq, a1, hqg]) ?_
        refine VX.rd1 (v := .sl pk l.length ck) rfl (by simp [a2]) ?_
        refine VX.rd1 rfl rfl ?_
        refine VX.rd1 (v := .ptr (some (elp (some r) n))) rfl (by simp [hr, r1, hlt]) ?_
        refine VX.rd1 (v := .int .i64 x) rfl (by simp [r2]) ?_
        refine VX.rd1 (v := .bool false) rfl (by simp) ?_
        refine VX.rd1 (v := .bool false) rfl rfl ?_
        exact VX.nil ⟨rfl, by simp [Cov, Fr.only], rfl⟩
      · rw [decide_eq_false h0]
        iterate 3 refine VX.sk1 rfl ?_
        refine VX.skc rfl ?_
        iterate 9 refine VX.sk1 rfl ?_
        refine VX.rd1 (v := .bool false) rfl rfl ?_
        exact VX.nil ⟨rfl, by simp [Cov, Fr.only], rfl⟩
    rintro e F2 H3 ⟨rfl, hcov, rfl⟩
    refine VW.sub hcov (VW.condF rfl (VW.skip (VW.reg ?_)))
    refine VOps.rd rfl rfl ?_
    refine VOps.rd rfl rfl ?_
    refine VOps.rd rfl rfl ?_
    exact VOps.nil ⟨rfl, l.length - (n + 1), by omega, n + 1, by omega, rfl, by simp [Cov, Fr.only, hvn], rfl⟩
  · have : n = l.length := by omega
    subst this
    refine VW.condF (by simp [Fr.only]) (VW.exit ?_)
    simp only [then_normal, then_ret, then_exit, inB_normal, inB_ret, inB_exit, reduceIte, Nat.reduceEqDiff]
    exact ⟨trivial, by simp [Cov, Fr.only], trivial⟩

theorem says_q (h : SF H j ip pa pg ca cg al gs was wgs o) (hm : mayD al gs = true) :
    VW Try.prog B 217 (VC.l (VC.r (VC.r (VC.r (VC.r w8.vc))))) [(1, .ptr (some ⟨j, 0, 0⟩)), (3, .ptr (some ⟨ip, 0, 0⟩))] H
      fun e F2 H' => e = .normal ∧ Cov [(1, .ptr (some ⟨j, 0, 0⟩)), (3, .ptr (some ⟨ip, 0, 0⟩))] F2 ∧ Ext H H' := by
  dsimp only [w8, VC.l, VC.r]
  have hT := mayD_spec hm
  have hn2 := hT.n2
  refine VW.seq (VW.reg ?_)
  refine VOps.rd rfl rfl ?_
  refine VOps.nil ⟨rfl, ?_⟩
  show VW _ _ _ _ [(1, .ptr (some ⟨j, 0, 0⟩)), (3, .ptr (some ⟨ip, 0, 0⟩)), (5, .int .i64 0)] _ _
  refine VW.block ?_
  refine VW.loop (fun m' F' H' => ∃ q : Nat, q ≤ al.length ∧ m' = al.length - q ∧ Cov [(1, .ptr (some ⟨j, 0, 0⟩)), (3, .ptr (some ⟨ip, 0, 0⟩)), (5, .int .i64 q)] F' ∧ Ext H H') al.length
    ⟨0, by omega, rfl, by simp [Cov, Fr.only], .refl _⟩ ?_
  rintro m' F' H2 ⟨q, hq, rfl, hcov, hx⟩
  refine VW.sub hcov ?_
  clear hcov
  have h2 := h.ext hx
  refine VW.seq (VW.seq (VW.reg ?_))
  refine VOps.rd rfl rfl ?_
  refine VOps.rd rfl rfl ?_
  refine VOps.rd (v := .sl pa al.length ca) rfl (by simp [h2.d0]) ?_
  refine VOps.rd rfl rfl ?_
  refine VOps.rd rfl rfl ?_
  refine VOps.nil ⟨rfl, ?_⟩
  by_cases hlt : q < al.length
  · have hvq := wrap_id (x := (q : Int) + 1) (by omega) (by omega)
    have hqg : q < gs.length := by have := hT.ng; omega
    refine VW.condT (by simp [Fr.only, hlt]) (VW.skip ?_)
    refine VW.seq (VW.block (VW.seq (VW.reg ?_)))
    refine VOps.rd rfl rfl ?_
    refine VOps.nil ⟨rfl, ?_⟩
    show VW _ _ _ _ [(1, .ptr (some ⟨j, 0, 0⟩)), (3, .ptr (some ⟨ip, 0, 0⟩)), (5, .int .i64 q), (6, .bool false)] _ _
    refine VW.seq ?_
    refine VW.mono (says_t h2 hm hlt) ?_
    rintro e F2 H3 ⟨rfl, hcov, hx3⟩
    refine VW.sub hcov ?_
    clear hcov
    rw [someN_df hm hlt]
    have h3 := h2.ext hx3
    replace hx := hx.trans hx3
    clear hx3 h2
    obtain ⟨pq, pk, ck, hpq, a1, a2, a3, a4⟩ := row_at h3.den.sa h3.den.ra hlt
    obtain ⟨pq', pk', ck', hpq', b1, b2, b3, b4⟩ := rowI_at h3.den.sg h3.den.rg hqg
    have hlS := hT.rs q hlt
    obtain ⟨pd, hpd, hdl, d1, d2⟩ := h3.df hm hlt
    have dp := h3.p0
    rw [hpd] at dp
    have n0 := h3.d0
    have n1 := h3.d1
    have hp8 := h3.p8
    have c1 := act_call hm h3.own q ((al.getD q []).length)
    have c2 := act_call hm h3.own q (-1)
    rw [actP_out hm hlt (.inr (Int.le_refl _))] at c1
    rw [actP_out hm hlt (.inl (by omega))] at c2
    have g1 := got_call h3.own q ((gs.getD q []).length)
    have g2 := got_call h3.own q (-1)
    rw [gotP_out hm (.inr (by rw [hlS]; exact Int.le_refl _))] at g1
    rw [gotP_out hm (.inl (by omega))] at g2
    have hsn := says_n (B := B) h3 hm hlt
    clear hpd hlS
    refine VW.seq (VW.seq ?_)
    refine VW.mono (Q := fun e F2 H' => e = .normal ∧ Cov [(1, .ptr (some ⟨j, 0, 0⟩)), (3, .ptr (some ⟨ip, 0, 0⟩)), (5, .int .i64 q), (150, .bool false)] F2 ∧ H' = H3) ?_ ?_
    · generalize dfA (al.getD q []) = d at *
      generalize al.getD q [] = l at *
      generalize dflt d = dd at *
      refine VW.dreg [H3] mixed rfl ?_
      refine VX.rd1 rfl rfl ?_
      refine VX.rd1 rfl rfl ?_
      refine VX.rd1 (v := .sl (some pd) (pkL al gs 0).length (pkL al gs 0).length) rfl (by simp [dp]) ?_
      refine VX.rd1 rfl rfl ?_
      refine VX.rd1 (v := .ptr (some (elp (some pd) q))) rfl (by simp [d1, hdl]) ?_
      refine VX.rd1 (v := .int .i64 d) rfl (by simp [d2]) ?_
      refine VX.rd1 (v := .bool (decide (0 < d))) rfl rfl ?_
      refine VX.rd1 (v := .bool false) rfl (by simp) ?_
      refine VX.rd1 rfl rfl ?_
      refine VX.rd1 (v := .agg (pkA o al gs)) rfl (by simp [hp8]) ?_
      refine VX.rd1 rfl rfl ?_
      refine VX.rd1 rfl rfl ?_
      refine VX.rd1 (v := .sl pa al.length ca) rfl (by simp [n0]) ?_
      refine VX.rd1 rfl rfl ?_
      refine VX.rd1 (v := .ptr (some (elp (some pq) q))) rfl (by simp [hpq, a1, hlt]) ?_
      refine VX.rd1 (v := .sl pk l.length ck) rfl (by simp [a2]) ?_
      refine VX.rd1 rfl rfl ?_
      refine VX.call1 rfl rfl rfl c1 ?_
      refine VX.rd1 (v := .agg (pkA o al gs)) rfl (by simp [hp8]) ?_
      refine VX.rd1 rfl rfl ?_
      refine VX.call1 rfl rfl rfl c2 ?_
      refine VX.rd1 (v := .bool false) rfl (by simp [aeqK]) ?_
      refine VX.rd1 (v := .bool false) rfl rfl ?_
      exact VX.nil ⟨rfl, by simp [Cov, Fr.only], rfl⟩
    rintro e F2 H4 ⟨rfl, hcov, rfl⟩
    refine VW.sub hcov (VW.condF rfl (VW.skip ?_))
    clear hcov c1 c2
    refine VW.sub (G := [(1, .ptr (some ⟨j, 0, 0⟩)), (3, .ptr (some ⟨ip, 0, 0⟩)), (5, .int .i64 q)]) (by simp [Cov, Fr.only]) ?_
    refine VW.seq ?_
    refine VW.mono hsn ?_
    rintro e F2 H5 ⟨rfl, hcov, rfl⟩
    refine VW.sub hcov ?_
    clear hcov
    refine VW.seq ?_
    refine VW.mono (Q := fun e F2 H' => e = .normal ∧ Cov [(1, .ptr (some ⟨j, 0, 0⟩)), (3, .ptr (some ⟨ip, 0, 0⟩)), (5, .int .i64 q), (200, .bool false)] F2 ∧ H' = H5) ?_ ?_
    · generalize gs.getD q [] = l at *
      refine VW.dreg [H5] mixed rfl ?_
      refine VX.rd1 (v := .agg (pkA o al gs)) rfl (by simp [hp8]) ?_
      refine VX.rd1 rfl rfl ?_
      refine VX.rd1 rfl rfl ?_
      refine VX.rd1 (v := .sl pg gs.length cg) rfl (by simp [n1]) ?_
      refine VX.rd1 rfl rfl ?_
      refine VX.rd1 (v := .ptr (some (elp (some pq') q))) rfl (by simp [hpq', b1, hqg]) ?_
      refine VX.rd1 (v := .sl pk' l.length ck') rfl (by simp [b2]) ?_
      refine VX.rd1 rfl rfl ?_
      refine VX.call1 rfl rfl rfl g1 ?_
      refine VX.rd1 (v := .bool false) rfl rfl ?_
      refine VX.rd1 rfl rfl ?_
      refine VX.rd1 (v := .agg (pkA o al gs)) rfl (by simp [hp8]) ?_
      refine VX.rd1 rfl rfl ?_
      refine VX.call1 rfl rfl rfl g2 ?_
      refine VX.rd1 (v := .bool false) rfl rfl ?_
      refine VX.rd1 (v := .bool false) rfl rfl ?_
      exact VX.nil ⟨rfl, by simp [Cov, Fr.only], rfl⟩
    rintro e F2 H6 ⟨rfl, hcov, rfl⟩
    refine VW.sub hcov (VW.condF rfl (VW.skip (VW.reg ?_)))
    refine VOps.rd rfl rfl ?_
    refine VOps.rd rfl rfl ?_
    refine VOps.rd rfl rfl ?_
    exact VOps.nil ⟨rfl, al.length - (q + 1), by omega, q + 1, by omega, rfl, by simp [Cov, Fr.only, hvq], hx⟩
  · have : q = al.length := by omega
    subst this
    refine VW.condF (by simp [Fr.only]) (VW.exit ?_)
    simp only [then_normal, then_ret, then_exit, inB_normal, inB_ret, inB_exit, reduceIte, Nat.reduceEqDiff]
    exact ⟨trivial, by simp [Cov, Fr.only], hx⟩
end
end Go.Proofs.Ytlclbfkdaemilaa

/- PackSays over the canonical heap. -/
namespace Go.Proofs.Ytlclbfkdaemilaa
set_option linter.unusedSimpArgs false
set_option linter.unusedVariables false
open Go Go.Vm Go.Proofs
set_option maxRecDepth 100000
set_option maxHeartbeats 4000000

section
variable {H : Hp} {pa pg : Option PA} {ca cg : Nat} {al : List Edges} {gs : List (List Int)} {was wgs : List VV}
theorem packSays_fn (h : Den H pa pg al gs was wgs) (hz : Sz al gs) : FnV Try.prog 8 [denV pa pg ca cg al gs] H fun r _ => r = .bool true := by
  refine FnV.enterRow ok8 (by show 1 ≤ 217; decide) fun B => ?_
  dsimp only [w8]
  have hx1 : Ext H (H ++ [.row 53 .own [[.sl pa al.length ca, .sl pg gs.length cg]]]) := .app _ _
  have hb1 : (H ++ [Blk.row 53 .own [[.sl pa al.length ca, .sl pg gs.length cg]]])[H.length]? = some (.row 53 .own [[.sl pa al.length ca, .sl pg gs.length cg]]) := by simp
  refine VW.seq (VW.reg ?_)
  refine VOps.ef (v := .ptr (some ⟨H.length, 0, 0⟩)) (H' := H ++ [.row 53 .own [[.sl pa al.length ca, .sl pg gs.length cg]]]) rfl (by simp [argsF]) ?_
  refine VOps.rd rfl rfl ?_
  refine VOps.nil ⟨rfl, ?_⟩
  show VW _ _ _ _ [(1, .ptr (some ⟨H.length, 0, 0⟩))] _ _
  replace h := h.ext hx1
  generalize H ++ [.row 53 .own [[.sl pa al.length ca, .sl pg gs.length cg]]] = H1 at *
  generalize H.length = i1 at *
  have l1 := lds_own hb1 0 2
  simp only [List.length_cons, List.length_nil, Nat.zero_add, Nat.le_refl, if_true, List.drop_zero, List.take_succ_cons, List.take_zero] at l1
  refine VW.seq (VW.reg ?_)
  refine VOps.rd (v := denV pa pg ca cg al gs) rfl (by simp [l1]) ?_
  refine VOps.call rfl rfl rfl ((dense22 h hz).mono ?_)
  rintro r H2 ⟨hx2, oa, og, was', wgs', rfl, hd⟩
  refine VOps.call rfl rfl rfl ((pack23 hd).mono ?_)
  rintro r H4 ⟨o, hres, rfl⟩
  refine VOps.rd rfl rfl ?_
  refine VOps.rd rfl rfl ?_
  refine VOps.rd rfl rfl ?_
  refine VOps.ef (v := .ptr (some ⟨H4.length, 0, 0⟩)) (H' := H4 ++ [.row 44 .own [[nil1, nil1, nil1, nil1, nil1, nil1, nil1, nil1]]]) rfl rfl ?_
  refine VOps.ef (v := .undef) (H' := H4 ++ [.row 44 .own [pkA o al gs]]) rfl (by
    simp only [VEf.ev, Od.ev, Fr.pt, Fr.get, reduceIte, Nat.reduceEqDiff, VV.defd, VV.cells]
    rw [stc_last8 (by rfl)]; rfl) ?_
  refine VOps.rd rfl rfl ?_
  refine VOps.nil ⟨rfl, ?_⟩
  show VW _ _ _ _ [(1, .ptr (some ⟨i1, 0, 0⟩)), (3, .ptr (some ⟨H4.length, 0, 0⟩)), (4, .int .i64 (pkE al gs))] _ _
  have hx45 : Ext H4 (H4 ++ [.row 44 .own [pkA o al gs]]) := .app _ _
  have hb5 : (H4 ++ [Blk.row 44 .own [pkA o al gs]])[H4.length]? = some (.row 44 .own [pkA o al gs]) := by simp
  have hx15 := (hx2.trans hres.ext).trans hx45
  have own5 : ∀ j, j < 8 → Own (H4 ++ [Blk.row 44 .own [pkA o al gs]]) (o j) (pkL al gs j) := fun j hj => (hres.own j hj).ext hx45
  generalize H4 ++ [.row 44 .own [pkA o al gs]] = H5 at *
  generalize H4.length = i4 at *
  replace h := h.ext hx15
  replace hb1 := hx15.get hb1
  have l1 := lds_own hb1 0 2
  have d0 := ld_own hb1 0
  have d1 := ld_own hb1 1
  have p0 := ld_own hb5 0
  have p4 := ld_own hb5 4
  have p8 := lds_own hb5 0 8
  simp only [List.getElem?_cons_zero, List.getElem?_cons_succ] at d0 d1 p0 p4
  simp only [List.length_cons, List.length_nil, Nat.zero_add, Nat.reduceAdd, Nat.reduceLeDiff, Nat.le_refl, if_true, List.drop_succ_cons, List.drop_zero, List.take_succ_cons, List.take_zero] at l1 p8
  have hsf : SF H5 i1 i4 pa pg ca cg al gs was wgs o := ⟨h, d0, d1, p0, p8, own5⟩
  refine VW.seq (VW.seq (VW.reg ?_))
  refine VOps.rd (v := denV pa pg ca cg al gs) rfl (by simp [l1]) ?_
  refine VOps.call rfl rfl rfl ((may27 h).mono ?_)
  rintro r Hy ⟨rfl, rfl⟩
  refine VOps.rd rfl rfl ?_
  refine VOps.nil ⟨rfl, ?_⟩
  refine VW.cond rfl (fun hc => ?_) (fun hc => ?_)
  · have hm : mayD al gs = false := by simpa using hc
    have hE : pkE al gs = 1 := by unfold pkE; rw [hm]; rfl
    rw [hE]
    refine VW.seq (VW.reg ?_)
    refine VOps.rd rfl rfl ?_
    refine VOps.rd (v := .bool true) rfl rfl ?_
    refine VOps.rd rfl rfl ?_
    refine VOps.call rfl rfl rfl ((awake_fn _).mono ?_)
    rintro r Hz ⟨rfl, rfl⟩
    refine VOps.rd (v := .bool true) rfl rfl ?_
    refine VOps.rd rfl rfl ?_
    exact VOps.nil ⟨rfl, VW.ret ⟨.inl rfl, .bool true, rfl, rfl⟩⟩
  have hm : mayD al gs = true := by simpa using hc
  have hT := mayD_spec hm
  have hE : pkE al gs = 0 := by unfold pkE; rw [hm]; rfl
  have he := pk_eq hm
  have hng := hT.ng
  have hgs1 : 0 < gs.length := by have := hT.n1; omega
  obtain ⟨q0, pk0, ck0, hq0, b1, b2, b3, b4⟩ := rowI_at h.sg h.rg hgs1
  have hl0 : (pkL al gs 0).length = al.length := by rw [he.e0, dfN_len]
  have hl4 : (pkL al gs 4).length = (gs.getD 0 []).length := by rw [he.e4, tgN_len]
  rw [hl0] at p0
  rw [hl4] at p4
  refine VW.skip ?_
  refine VW.seq (VW.seq ?_)
  refine VW.mono (Q := fun e F2 H' => e = .normal ∧ Cov [(1, .ptr (some ⟨i1, 0, 0⟩)), (3, .ptr (some ⟨i4, 0, 0⟩)), (46, .bool false)] F2 ∧ H' = Hy) ?_ ?_
  · rw [hE]
    generalize gs.getD 0 [] = l at *
    refine VW.dreg [Hy] mixed rfl ?_
    refine VX.rd1 rfl rfl ?_
    refine VX.rd1 (v := .bool false) rfl rfl ?_
    refine VX.rd1 rfl rfl ?_
    refine VX.rd1 rfl rfl ?_
    refine VX.rd1 (v := .sl (gptr (o 0)) al.length al.length) rfl (by simp [Fr.only, p0]) ?_
    refine VX.rd1 rfl rfl ?_
    refine VX.rd1 rfl rfl ?_
    refine VX.rd1 (v := .sl pa al.length ca) rfl (by simp [Fr.only, d0]) ?_
    refine VX.rd1 rfl rfl ?_
    refine VX.rd1 (v := .bool false) rfl (by simp) ?_
    refine VX.rd1 (v := .bool false) rfl rfl ?_
    refine VX.rd1 rfl rfl ?_
    refine VX.rd1 rfl rfl ?_
    refine VX.rd1 (v := .sl (gptr (o 4)) l.length l.length) rfl (by simp [Fr.only, p4]) ?_
    refine VX.rd1 rfl rfl ?_
    refine VX.rd1 rfl rfl ?_
    refine VX.rd1 (v := .sl pg gs.length cg) rfl (by simp [Fr.only, d1]) ?_
    refine VX.rd1 (v := .ptr (some (elp (some q0) 0))) rfl (by simp [Fr.only, hq0, b1, hgs1]) ?_
    refine VX.rd1 (v := .sl pk0 l.length ck0) rfl (by simp [b2]) ?_
    refine VX.rd1 rfl rfl ?_
    refine VX.rd1 (v := .bool false) rfl (by simp) ?_
    refine VX.rd1 (v := .bool false) rfl rfl ?_
    exact VX.nil ⟨rfl, by simp [Cov, Fr.only], rfl⟩
  rintro e F2 H6 ⟨rfl, hcov, rfl⟩
  refine VW.sub hcov (VW.condF rfl (VW.skip ?_))
  clear hcov b1 b2 b3 b4 hq0 p0 p4 p8 d0 d1 l1
  refine VW.sub (G := [(1, .ptr (some ⟨i1, 0, 0⟩)), (3, .ptr (some ⟨i4, 0, 0⟩))]) (by simp [Cov, Fr.only]) ?_
  refine VW.seq ?_
  refine VW.mono (says_q hsf hm) ?_
  rintro e F2 H7 ⟨rfl, hcov, hx67⟩
  refine VW.sub hcov ?_
  clear hcov
  have h7 := hsf.ext hx67
  have c1 := act_call hm h7.own (al.length : Int) 0
  have c2 := act_call hm h7.own (-1) 0
  rw [actP_none hm (.inr (Int.le_refl _))] at c1
  rw [actP_none hm (.inl (by omega))] at c2
  have hp8 := h7.p8
  have hd0 := h7.d0
  refine VW.seq (VW.reg ?_)
  refine VOps.rd (v := .agg (pkA o al gs)) rfl (by simp [hp8]) ?_
  refine VOps.rd rfl rfl ?_
  refine VOps.rd (v := .sl pa al.length ca) rfl (by simp [hd0]) ?_
  refine VOps.rd rfl rfl ?_
  refine VOps.call rfl rfl rfl (c1.mono ?_)
  rintro r Ha ⟨rfl, rfl⟩
  refine VOps.rd (v := .agg [.int .i64 0, .int .i64 0]) rfl rfl ?_
  refine VOps.rd (v := .bool true) rfl (by simp [aeqK]) ?_
  refine VOps.rd rfl rfl ?_
  refine VOps.rd (v := .agg (pkA o al gs)) rfl (by simp [hp8]) ?_
  refine VOps.call rfl rfl rfl (c2.mono ?_)
  rintro r Hb ⟨rfl, rfl⟩
  refine VOps.rd (v := .agg [.int .i64 0, .int .i64 0]) rfl rfl ?_
  refine VOps.rd (v := .bool true) rfl (by simp [aeqK]) ?_
  refine VOps.rd (v := .bool true) rfl rfl ?_
  refine VOps.rd rfl rfl ?_
  refine VOps.call rfl rfl rfl ((awake_fn _).mono ?_)
  rintro r Hc ⟨rfl, rfl⟩
  refine VOps.rd (v := .bool true) rfl rfl ?_
  refine VOps.rd rfl rfl ?_
  exact VOps.nil ⟨rfl, VW.ret ⟨.inl rfl, .bool true, rfl, rfl⟩⟩
end
end Go.Proofs.Ytlclbfkdaemilaa

/- A dense table that came in: what lies on the heap, and how large it may be. -/
namespace Go.Proofs.Ytlclbfkdaemilaa
set_option linter.unusedSimpArgs false
set_option linter.unusedVariables false
open Go Go.Vm Go.Proofs Go.ChangeShapes Go.WideShapes Go.ChangeAt Go.RowKit
set_option maxRecDepth 100000
set_option maxHeartbeats 1000000

section
variable {D : Type} {H : Hp} {vs : List VV} {d : DataW D}
theorem weights_sl {P : Program} {t e : TypeId} (ht : P.underlying t = some (.slice e)) {ds rest : List (DataW D)} : DataW.weights P t (.slice ds rest) = (ds.length + rest.length) * P.bytesOf e :: (DataW.weightsAll P e ds ++ DataW.weightsAll P e rest) := by
  simp [DataW.weights, ht]
theorem weights_mem {P : Program} {e : TypeId} {x : Nat} {d : DataW D} (hx : x ∈ d.weights P e) : ∀ {ds : List (DataW D)}, d ∈ ds → x ∈ DataW.weightsAll P e ds
  | c :: ds, h => by
    simp only [DataW.weightsAll, List.mem_append]
    rcases List.mem_cons.1 h with rfl | h
    · exact .inl hx
    · exact .inr (weights_mem hx h)
/-- a list of actions -/
theorem acts_inv (h : Rd Try.prog H 60 vs d) (hw : ∀ x ∈ d.weights Try.prog 60, x ≤ 140737488355328) : ∃ (p : Option PA) (l : Edges) (c : Nat), vs = [.sl p l.length c] ∧ l.length ≤ maxLen ∧ Sl H p 2 (edgeEs l) ∧ l.length * 16 ≤ 140737488355328 ∧
    (∀ e ∈ l, -9223372036854775808 ≤ e.1 ∧ e.1 ≤ 9223372036854775807 ∧ -9223372036854775808 ≤ e.2 ∧ e.2 ≤ 9223372036854775807) := by
  obtain ⟨p, es, c, ds, rfl, h1, h2, h3, h4, h5, h6, h7⟩ := h.sl_inv Try.underlying60
  have key : ∀ (es : List (List VV)) (ds : List (DataW D)), ds.length = es.length → (∀ (i : Nat) x y, es[i]? = some x → ds[i]? = some y → Rd Try.prog H 46 x y) → ∃ l, es = edgeEs l ∧ (∀ e ∈ l, -9223372036854775808 ≤ e.1 ∧ e.1 ≤ 9223372036854775807 ∧ -9223372036854775808 ≤ e.2 ∧ e.2 ≤ 9223372036854775807) := by
    intro es
    induction es with
    | nil => intro ds _ _; exact ⟨[], rfl, by simp⟩
    | cons x es ih =>
      intro ds hl hd
      cases ds with
      | nil => simp at hl
      | cons y ds =>
        obtain ⟨l, rfl, hw⟩ := ih ds (by simpa using hl) fun i x y hx hy => hd (i + 1) x y (by simpa using hx) (by simpa using hy)
        obtain ⟨ps, ds', rfl, _, hp, hd', hf⟩ := (hd 0 x y rfl rfl).struct_inv Try.underlying46
        match ps, ds', hp, hd' with
        | [a, b], [d1, d2], _, _ =>
          obtain ⟨n, rfl, hn, _⟩ := (hf 0 _ a d1 rfl rfl rfl).int_inv Try.underlying3
          obtain ⟨m, rfl, hm, _⟩ := (hf 1 _ b d2 rfl rfl rfl).int_inv Try.underlying3
          refine ⟨(n, m) :: l, rfl, fun e he => ?_⟩
          rcases List.mem_cons.1 he with rfl | he
          · have := wf_i64 hn; have := wf_i64 hm; simp only; omega
          · exact hw e he
  obtain ⟨l, rfl, hwf⟩ := key es ds h4 h6
  rw [edgeEs_len] at h1 h4 ⊢
  have hc2 : Try.prog.cellsOf 46 = 2 := by kernel_rfl
  have hbb : Try.prog.bytesOf 46 = 16 := by kernel_rfl
  refine ⟨p, l, c, rfl, by omega, by rw [hc2] at h3; exact h3, ?_, hwf⟩
  rcases h7 with ⟨_, _, rfl, rfl⟩ | ⟨rest, rfl⟩
  · simp at h4; omega
  · have := hw _ (by rw [weights_sl Try.underlying60]; exact List.mem_cons_self ..)
    rw [hbb, h4] at this
    omega
/-- a list of ints -/
theorem nums_inv (h : Rd Try.prog H 24 vs d) (hw : ∀ x ∈ d.weights Try.prog 24, x ≤ 140737488355328) : ∃ (p : Option PA) (l : List Int) (c : Nat), vs = [.sl p l.length c] ∧ l.length ≤ maxLen ∧ Sl H p 1 (intEs l) ∧ l.length * 8 ≤ 140737488355328 := by
  obtain ⟨p, es, c, ds, rfl, h1, h2, h3, h4, h5, h6, h7⟩ := h.sl_inv Try.underlying24
  have key : ∀ (es : List (List VV)) (ds : List (DataW D)), ds.length = es.length → (∀ (i : Nat) x y, es[i]? = some x → ds[i]? = some y → Rd Try.prog H 3 x y) → ∃ l, es = intEs l := by
    intro es
    induction es with
    | nil => intro ds _ _; exact ⟨[], rfl⟩
    | cons x es ih =>
      intro ds hl hd
      cases ds with
      | nil => simp at hl
      | cons y ds =>
        obtain ⟨l, rfl⟩ := ih ds (by simpa using hl) fun i x y hx hy => hd (i + 1) x y (by simpa using hx) (by simpa using hy)
        obtain ⟨n, rfl, hn, _⟩ := (hd 0 x y rfl rfl).int_inv Try.underlying3
        exact ⟨n :: l, rfl⟩
  obtain ⟨l, rfl⟩ := key es ds h4 h6
  rw [intEs_len] at h1 h4 ⊢
  have hc2 : Try.prog.cellsOf 3 = 1 := by kernel_rfl
  have hbb : Try.prog.bytesOf 3 = 8 := by kernel_rfl
  refine ⟨p, l, c, rfl, by omega, by rw [hc2] at h3; exact h3, ?_⟩
  rcases h7 with ⟨_, _, rfl, rfl⟩ | ⟨rest, rfl⟩
  · simp at h4; omega
  · have := hw _ (by rw [weights_sl Try.underlying24]; exact List.mem_cons_self ..)
    rw [hbb, h4] at this
    omega
theorem actss_inv (h : Rd Try.prog H 50 vs d) (hw : ∀ x ∈ d.weights Try.prog 50, x ≤ 140737488355328) : ∃ (p : Option PA) (ws : List VV) (rows : List Edges) (c : Nat), vs = [.sl p rows.length c] ∧ Sl H p 1 (ws.map fun v => [v]) ∧ RowV H ws rows ∧ rows.length ≤ maxLen ∧ rows.length * 24 ≤ 140737488355328 ∧
    (∀ k, k < rows.length → (rows.getD k []).length * 16 ≤ 140737488355328) ∧ (∀ r ∈ rows, ∀ e ∈ r, -9223372036854775808 ≤ e.1 ∧ e.1 ≤ 9223372036854775807 ∧ -9223372036854775808 ≤ e.2 ∧ e.2 ≤ 9223372036854775807) := by
  obtain ⟨p, es, c, ds, rfl, h1, h2, h3, h4, h5, h6, h7⟩ := h.sl_inv Try.underlying50
  have key : ∀ (es : List (List VV)) (ds : List (DataW D)), ds.length = es.length → (∀ (i : Nat) x y, es[i]? = some x → ds[i]? = some y → Rd Try.prog H 60 x y) → (∀ y ∈ ds, ∀ x ∈ y.weights Try.prog 60, x ≤ 140737488355328) →
      ∃ (ws : List VV) (rows : List Edges), es = ws.map (fun v => [v]) ∧ RowV H ws rows ∧ rows.length = es.length ∧ (∀ k, k < rows.length → (rows.getD k []).length * 16 ≤ 140737488355328) ∧
      (∀ r ∈ rows, ∀ e ∈ r, -9223372036854775808 ≤ e.1 ∧ e.1 ≤ 9223372036854775807 ∧ -9223372036854775808 ≤ e.2 ∧ e.2 ≤ 9223372036854775807) := by
    intro es
    induction es with
    | nil => intro ds _ _ _; exact ⟨[], [], rfl, ⟨rfl, fun k hk => by simp at hk⟩, rfl, fun k hk => by simp at hk, by simp⟩
    | cons x es ih =>
      intro ds hl hd hwt
      cases ds with
      | nil => simp at hl
      | cons y ds =>
        obtain ⟨ws, rows, rfl, hr, hln, hbk, hw⟩ := ih ds (by simpa using hl) (fun i x y hx hy => hd (i + 1) x y (by simpa using hx) (by simpa using hy)) fun y hy => hwt y (List.mem_cons_of_mem _ hy)
        obtain ⟨pk, l, ck, rfl, l1, l2, l3, l4⟩ := acts_inv (hd 0 x y rfl rfl) (hwt y (List.mem_cons_self ..))
        refine ⟨.sl pk l.length ck :: ws, l :: rows, rfl, ⟨by simp [hr.1], fun k hk => ?_⟩, by simp [hln], fun k hk => ?_, fun r hr2 => ?_⟩
        · cases k with
          | zero => exact ⟨pk, ck, rfl, l2, l1⟩
          | succ k => exact hr.2 k (by simpa using hk)
        · cases k with
          | zero => exact l3
          | succ k => exact hbk k (by simpa using hk)
        · rcases List.mem_cons.1 hr2 with rfl | hr2
          · exact l4
          · exact hw r hr2
  have hwt : ∀ y ∈ ds, ∀ x ∈ y.weights Try.prog 60, x ≤ 140737488355328 := by
    intro y hy x hx
    rcases h7 with ⟨_, _, _, rfl⟩ | ⟨rest, rfl⟩
    · cases hy
    · exact hw x (by rw [weights_sl Try.underlying50]; exact List.mem_cons_of_mem _ (List.mem_append_left _ (weights_mem hx hy)))
  obtain ⟨ws, rows, rfl, hr, hln, hbk, hwf⟩ := key es ds h4 h6 hwt
  have hc1 : Try.prog.cellsOf 60 = 1 := by kernel_rfl
  have hbb : Try.prog.bytesOf 60 = 24 := by kernel_rfl
  rw [hc1] at h3
  rw [← hln] at h1 h4 ⊢
  refine ⟨p, ws, rows, c, rfl, h3, hr, by omega, ?_, hbk, hwf⟩
  rcases h7 with ⟨_, _, rfl, rfl⟩ | ⟨rest, rfl⟩
  · simp at h4; omega
  · have := hw _ (by rw [weights_sl Try.underlying50]; exact List.mem_cons_self ..)
    rw [hbb, h4] at this
    omega
theorem numss_inv (h : Rd Try.prog H 51 vs d) (hw : ∀ x ∈ d.weights Try.prog 51, x ≤ 140737488355328) : ∃ (p : Option PA) (ws : List VV) (rows : List (List Int)) (c : Nat), vs = [.sl p rows.length c] ∧ Sl H p 1 (ws.map fun v => [v]) ∧ RowI H ws rows ∧ rows.length ≤ maxLen ∧ rows.length * 24 ≤ 140737488355328 ∧
    (∀ k, k < rows.length → (rows.getD k []).length * 8 ≤ 140737488355328) := by
  obtain ⟨p, es, c, ds, rfl, h1, h2, h3, h4, h5, h6, h7⟩ := h.sl_inv Try.underlying51
  have key : ∀ (es : List (List VV)) (ds : List (DataW D)), ds.length = es.length → (∀ (i : Nat) x y, es[i]? = some x → ds[i]? = some y → Rd Try.prog H 24 x y) → (∀ y ∈ ds, ∀ x ∈ y.weights Try.prog 24, x ≤ 140737488355328) →
      ∃ (ws : List VV) (rows : List (List Int)), es = ws.map (fun v => [v]) ∧ RowI H ws rows ∧ rows.length = es.length ∧ (∀ k, k < rows.length → (rows.getD k []).length * 8 ≤ 140737488355328) := by
    intro es
    induction es with
    | nil => intro ds _ _ _; exact ⟨[], [], rfl, ⟨rfl, fun k hk => by simp at hk⟩, rfl, fun k hk => by simp at hk⟩
    | cons x es ih =>
      intro ds hl hd hwt
      cases ds with
      | nil => simp at hl
      | cons y ds =>
        obtain ⟨ws, rows, rfl, hr, hln, hbk⟩ := ih ds (by simpa using hl) (fun i x y hx hy => hd (i + 1) x y (by simpa using hx) (by simpa using hy)) fun y hy => hwt y (List.mem_cons_of_mem _ hy)
        obtain ⟨pk, l, ck, rfl, l1, l2, l3⟩ := nums_inv (hd 0 x y rfl rfl) (hwt y (List.mem_cons_self ..))
        refine ⟨.sl pk l.length ck :: ws, l :: rows, rfl, ⟨by simp [hr.1], fun k hk => ?_⟩, by simp [hln], fun k hk => ?_⟩
        · cases k with
          | zero => exact ⟨pk, ck, rfl, l2, l1⟩
          | succ k => exact hr.2 k (by simpa using hk)
        · cases k with
          | zero => exact l3
          | succ k => exact hbk k (by simpa using hk)
  have hwt : ∀ y ∈ ds, ∀ x ∈ y.weights Try.prog 24, x ≤ 140737488355328 := by
    intro y hy x hx
    rcases h7 with ⟨_, _, _, rfl⟩ | ⟨rest, rfl⟩
    · cases hy
    · exact hw x (by rw [weights_sl Try.underlying51]; exact List.mem_cons_of_mem _ (List.mem_append_left _ (weights_mem hx hy)))
  obtain ⟨ws, rows, rfl, hr, hln, hbk⟩ := key es ds h4 h6 hwt
  have hc1 : Try.prog.cellsOf 24 = 1 := by kernel_rfl
  have hbb : Try.prog.bytesOf 24 = 24 := by kernel_rfl
  rw [hc1] at h3
  rw [← hln] at h1 h4 ⊢
  refine ⟨p, ws, rows, c, rfl, h3, hr, by omega, ?_, hbk⟩
  rcases h7 with ⟨_, _, rfl, rfl⟩ | ⟨rest, rfl⟩
  · simp at h4; omega
  · have := hw _ (by rw [weights_sl Try.underlying51]; exact List.mem_cons_self ..)
    rw [hbb, h4] at this
    omega
/-- api.Dense -/
theorem dense_inv (h : Rd Try.prog H 53 vs d) (hw : ∀ x ∈ d.weights Try.prog 53, x ≤ 140737488355328) : ∃ (pa pg : Option PA) (ca cg : Nat) (al : List Edges) (gs : List (List Int)) (was wgs : List VV), vs = [.sl pa al.length ca, .sl pg gs.length cg] ∧ Den H pa pg al gs was wgs ∧ Sz al gs := by
  obtain ⟨ps, ds, rfl, rfl, hp, hd, hf⟩ := h.struct_inv Try.underlying53
  match ps, ds, hp, hd with
  | [x, y], [d1, d2], _, _ =>
    have hwe : DataW.weights Try.prog 53 (.agg [d1, d2] : DataW D) = d1.weights Try.prog 50 ++ (d2.weights Try.prog 51 ++ []) := by
      simp [DataW.weights, Try.underlying53, DataW.weightsEach]
    rw [hwe] at hw
    obtain ⟨pa, was, al, ca, rfl, a1, a2, a3, a4, a5, _⟩ := actss_inv (hf 0 _ x d1 rfl rfl rfl) fun x hx => hw x (by simp [hx])
    obtain ⟨pg, wgs, gs, cg, rfl, b1, b2, b3, b4, b5⟩ := numss_inv (hf 1 _ y d2 rfl rfl rfl) fun x hx => hw x (by simp [hx])
    exact ⟨pa, pg, ca, cg, al, gs, was, wgs, rfl, ⟨a1, a2, b1, b2, a3, b3⟩, ⟨a4, b4, a5, b5⟩⟩
end
end Go.Proofs.Ytlclbfkdaemilaa

/- PackSays: the law returns true, and the argument reads as before. -/
namespace Go.Proofs.Ytlclbfkdaemilaa
set_option linter.unusedSimpArgs false
set_option linter.unusedVariables false
open Go Go.Vm Go.Proofs Go.ChangeShapes Go.WideShapes Go.ChangeAt Go.RowKit
set_option maxRecDepth 100000
set_option maxHeartbeats 1000000

namespace PackSays
theorem law {D : Type} (H : Hp) (vvs : List VV) (ds : List (DataW D)) (h : ArgsRd Try.prog H Try.f8.params.toList vvs ds) (hk : (DataW.weightsEach Try.prog Try.f8.params.toList ds).all (· ≤ reachBytes) = true) : FnV Try.prog 8 vvs H fun r _ => r = .bool true := by
  rw [Try.params8] at h hk
  cases h with
  | cons h0 h =>
    cases h
    obtain ⟨vs, h0, rfl⟩ := h0
    have hrb : reachBytes = 140737488351232 := rfl
    obtain ⟨pa, pg, ca, cg, al, gs, was, wgs, rfl, hd, hz⟩ := dense_inv h0 fun x hx => by
      rw [List.all_eq_true] at hk
      have := of_decide_eq_true (hk x (by show x ∈ DataW.weights Try.prog 53 _ ++ []; simpa using hx))
      omega
    have hst : isStruct Try.prog 53 = true := by kernel_rfl
    rw [hst, if_pos rfl]
    exact packSays_fn hd hz

theorem lifted (os : Os) (started : os.Started) (H : Type) (enc : TypeId × Value → H) :
    ReturnsInHanded {} Try.checked os 8 .any (Rows.packSaysSpec.pre6 enc Try.prog Try.f8 Rows.packSaysRow.domain false) (Rows.packSaysSpec.post enc Try.prog Try.f8 false true false false) := by
  refine returnsInHanded_of_change_shaped (C := Try.checked) own started (by kernel_rfl) Try.func8
    (ChangeSpec.witness6 (enc := enc) (C := Try.checked) false ⟨#[], #[.agg #[.slice none 0 0, .slice none 0 0]], []⟩ 8 (by kernel_rfl) (by kernel_rfl) (by kernel_rfl) (by kernel_rfl)) ?_
  intro W base args ds gs before hval hW _ hwt _ _
  have hg : gs = [] := by
    obtain ⟨p, q, hA, hV, _⟩ := hW
    have hv : Rows.packSaysSpec.vars = [] := rfl
    rw [hv] at hV
    cases gs with
    | nil => rfl
    | cons g gs => exact absurd hV (by simp [DataW.TrodVars])
  subst hg
  have hvt : Rows.packSaysSpec.plain.varTypes Try.prog = [] := rfl
  have hwt2 : (DataW.weightsEach Try.prog Try.f8.params.toList ds).all (· ≤ reachBytes) = true := by
    have h := hwt
    rw [List.append_nil] at h
    have hC : Try.checked.prog = Try.prog := rfl
    rw [hC, hvt, List.append_nil] at h
    exact h
  exact law_contract_at (s := Rows.packSaysSpec) (tb := 4) (d0 := 5) laid (by decide +kernel) (by decide +kernel) rfl (by kernel_rfl) Try.underlying4 (fun ds hl => by
    have hl' : ds.length = 1 := hl
    match ds, hl' with
    | [a], _ => rfl) args ds [] (fun H vvs h => law H vvs ds h hwt2) before base hval hW

theorem over : Rows.packSaysRow.holds Try.pinned (OpenSpec.ofChange Rows.packSaysSpec) :=
  OpenClaim.holds_of_wide 8 Try.f8 rfl rfl rfl rfl rfl rfl rfl ⟨rfl, rfl, rfl, rfl, rfl⟩ rfl rfl rfl rfl rfl (by kernel_rfl) Try.func8 (by kernel_rfl)
    (of_decide_eq_true (by kernel_rfl)) (by unfold Func.isWrapper; first | (rw [if_pos (by decide +kernel)]; kernel_rfl) | (rw [if_neg (by decide +kernel)]; exact ⟨rfl, rfl⟩))
    (fun os started H enc _ => lifted os started H enc)

theorem proved : Rows.PackSaysSaid :=
  over
end PackSays
end Go.Proofs.Ytlclbfkdaemilaa

