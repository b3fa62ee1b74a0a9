/- In which order rows are laid: the program's sort and the document's search come to one list. -/
import Derived.Test.YtlclbfkdaemilaaLyE
import Derived.Test.YtlclbfkdaemilaaSrD
namespace Go.Proofs.Ytlclbfkdaemilaa
set_option linter.unusedSimpArgs false
set_option linter.unusedVariables false
open Go Go.Vm Go.Proofs So
set_option maxRecDepth 100000
set_option maxHeartbeats 1000000

def rowLen (rows : List Edges) (i : Nat) : Nat := (rows.getD i []).length
def keyR (rows : List Edges) (x : Int) : Int := rowLen rows x.toNat
def idxOf (rows : List Edges) (n : Nat) : List Nat := (List.range rows.length).filter fun i => rowLen rows i == n
def ordN (rows : List Edges) : Nat → List Nat
  | 0 => []
  | n + 1 => idxOf rows (n + 1) ++ ordN rows n
def putR (rows : List Edges) (s : Laid) (i : Nat) : Laid := putS s i (rows.getD i [])
def layR (rows : List Edges) : Laid := (ordN rows 256).foldl (putR rows) ⟨List.replicate rows.length 0, [], []⟩
def layOk (rows : List Edges) : Bool := decide (rows.length ≤ 256) && rows.all isRowS

abbrev Rr (rows : List Edges) (x y : Nat) : Prop := lt (keyR rows) (x : Int) (y : Int)
theorem mem_ordN {rows : List Edges} {x : Nat} : ∀ n, x ∈ ordN rows n ↔ x < rows.length ∧ 1 ≤ rowLen rows x ∧ rowLen rows x ≤ n
  | 0 => by simp [ordN]; omega
  | n + 1 => by
    rw [ordN, List.mem_append, mem_ordN n, idxOf, List.mem_filter, List.mem_range]
    simp only [beq_iff_eq]
    omega
theorem ordN_pairwise {rows : List Edges} : ∀ n, (ordN rows n).Pairwise (Rr rows)
  | 0 => .nil
  | n + 1 => by
    rw [ordN, List.pairwise_append]
    refine ⟨?_, ordN_pairwise n, fun x hx y hy => ?_⟩
    · have h : (List.range rows.length).Pairwise (· < ·) := List.pairwise_lt_range
      have h2 : (idxOf rows (n + 1)).Pairwise (· < ·) := h.filter _
      refine h2.imp_of_mem fun {x y} hx hy hxy => ?_
      simp only [idxOf, List.mem_filter, beq_iff_eq] at hx hy
      refine .inr ⟨?_, by omega⟩
      simp only [keyR, Int.toNat_natCast, hx.2, hy.2]
    · simp only [idxOf, List.mem_filter, beq_iff_eq] at hx
      have := (mem_ordN n).1 hy
      refine .inl ?_
      simp only [keyR, Int.toNat_natCast]
      omega
/-- of one order there is one list -/
theorem sorted_unique {α : Type} {R : α → α → Prop} (hasym : ∀ x y, R x y → ¬ R y x) : ∀ {l m : List α}, l.Pairwise R → m.Pairwise R → (∀ x, x ∈ l ↔ x ∈ m) → l = m
  | [], [], _, _, _ => rfl
  | [], b :: m, _, _, h => by have := (h b).2 (List.mem_cons_self ..); cases this
  | a :: l, [], _, _, h => by have := (h a).1 (List.mem_cons_self ..); cases this
  | a :: l, b :: m, hl, hm, h => by
    rw [List.pairwise_cons] at hl hm
    have hab : a = b := by
      rcases List.mem_cons.1 ((h a).1 (List.mem_cons_self ..)) with e | e
      · exact e
      · rcases List.mem_cons.1 ((h b).2 (List.mem_cons_self ..)) with e2 | e2
        · exact e2.symm
        · exact absurd (hl.1 b e2) (hasym _ _ (hm.1 a e))
    subst hab
    congr 1
    refine sorted_unique hasym hl.2 hm.2 fun x => ⟨fun hx => ?_, fun hx => ?_⟩
    · rcases List.mem_cons.1 ((h x).1 (List.mem_cons_of_mem _ hx)) with e | e
      · subst e; exact absurd (hl.1 x hx) (hasym _ _ (hl.1 x hx))
      · exact e
    · rcases List.mem_cons.1 ((h x).2 (List.mem_cons_of_mem _ hx)) with e | e
      · subst e; exact absurd (hm.1 x hx) (hasym _ _ (hm.1 x hx))
      · exact e
/-- the sorted list, without the empty rows -/
theorem sorted_ord {rows : List Edges} {g : Nat → Int} (hs : Srt (keyR rows) g 0 rows.length) (hm1 : ∀ k, k < rows.length → ∃ j, j < rows.length ∧ g k = (j : Int)) (hm2 : ∀ j, j < rows.length → ∃ i, i < rows.length ∧ g i = (j : Int)) (hl : ∀ i, i < rows.length → rowLen rows i ≤ 256) :
    ((List.range rows.length).map fun k => (g k).toNat).filter (fun i => decide (0 < rowLen rows i)) = ordN rows 256 := by
  have hg := hm1
  refine sorted_unique (R := Rr rows) (fun x y h1 h2 => ?_) ?_ (ordN_pairwise 256) (fun x => ?_)
  · unfold Rr lt at h1 h2; omega
  · refine List.Pairwise.filter _ ?_
    rw [List.pairwise_map]
    have h : (List.range rows.length).Pairwise (· < ·) := List.pairwise_lt_range
    refine h.imp_of_mem fun {x y} hx hy hxy => ?_
    rw [List.mem_range] at hx hy
    have := hs x y (by omega) hxy hy
    obtain ⟨j, j1, j2⟩ := hg x hx
    obtain ⟨k, k1, k2⟩ := hg y hy
    show lt _ _ _
    rw [j2, k2] at this ⊢
    simpa using this
  · rw [List.mem_filter, List.mem_map, mem_ordN]
    constructor
    · rintro ⟨⟨k, hk, rfl⟩, h2⟩
      rw [List.mem_range] at hk
      obtain ⟨j, j1, j2⟩ := hg k hk
      rw [j2] at h2 ⊢
      simp only [Int.toNat_natCast, decide_eq_true_eq] at h2 ⊢
      exact ⟨j1, h2, hl j j1⟩
    · rintro ⟨h1, h2, h3⟩
      obtain ⟨i, i2, i3⟩ := hm2 x h1
      refine ⟨⟨i, List.mem_range.2 i2, by rw [i3]; simp⟩, decide_eq_true h2⟩
theorem rows_len {rows : List Edges} (h : rows.all isRowS = true) (i : Nat) : rowLen rows i ≤ 256 := by
  unfold rowLen
  by_cases hi : i < rows.length
  · rw [List.getD_eq_getElem?_getD, List.getElem?_eq_getElem hi]
    exact isRow_len (List.all_eq_true.1 h _ (List.getElem_mem ..))
  · rw [List.getD_eq_getElem?_getD, List.getElem?_eq_none (by omega)]; simp
theorem rows_ok {rows : List Edges} (h : rows.all isRowS = true) (i : Nat) : Ok (rows.getD i []) := by
  by_cases hi : i < rows.length
  · rw [List.getD_eq_getElem?_getD, List.getElem?_eq_getElem hi]
    exact isRow_ok (List.all_eq_true.1 h _ (List.getElem_mem ..))
  · rw [List.getD_eq_getElem?_getD, List.getElem?_eq_none (by omega)]; intro e he; cases he

/-! ### rows in the heap -/
def RowV (H : Hp) (vs : List VV) (rows : List Edges) : Prop := vs.length = rows.length ∧ ∀ k, k < rows.length → ∃ p c, vs[k]? = some (.sl p (rows.getD k []).length c) ∧ Sl H p 2 (edgeEs (rows.getD k [])) ∧ (rows.getD k []).length ≤ maxLen
theorem RowV.ext {A B : Hp} {vs : List VV} {rows : List Edges} (h : RowV A vs rows) (hx : Ext A B) : RowV B vs rows :=
  ⟨h.1, fun k hk => let ⟨p, c, h1, h2, h3⟩ := h.2 k hk; ⟨p, c, h1, hx.sl h2, h3⟩⟩
/-- the row at an index -/
theorem row_at {H : Hp} {p : Option PA} {vs : List VV} {rows : List Edges} (h : Sl H p 1 (vs.map fun v => [v])) (hr : RowV H vs rows) {k : Nat} (hk : k < rows.length) :
    ∃ q pk c, p = some q ∧ Vm.ixp H q k 1 = some (elp (some q) k) ∧ Vm.ld H (elp (some q) k) = some (.sl pk (rows.getD k []).length c) ∧ Sl H pk 2 (edgeEs (rows.getD k [])) ∧ (rows.getD k []).length ≤ maxLen := by
  obtain ⟨pk, c, h1, h2, h3⟩ := hr.2 k hk
  obtain ⟨q, rfl, hq⟩ := h.ixp (k := k) (by simp [hr.1, hk])
  have := h.ld0 (k := k) (e := [.sl pk (rows.getD k []).length c]) (by simp [h1])
  exact ⟨q, pk, c, rfl, hq, by simpa using this, h2, h3⟩

section
variable {H : Hp} {p : Option PA} {vs : List VV} {rows : List Edges} {c ib : Nat}
theorem cmp32 (hb : ld H ⟨ib, 0, 0⟩ = some (.sl p rows.length c)) (h : Sl H p 1 (vs.map fun v => [v])) (hr : RowV H vs rows) (hl : ∀ i, rowLen rows i ≤ 256) {x y : Int} (x0 : 0 ≤ x) (x1 : x < rows.length) (y0 : 0 ≤ y) (y1 : y < rows.length) :
    FnV Try.prog 32 ([.int .i64 x, .int .i64 y] ++ [.ptr (some ⟨ib, 0, 0⟩)]) H fun r H2 => r = .int .i64 (keyR rows y - keyR rows x) ∧ H2 = H := by
  refine FnV.enterRow ok32 (by show 3 ≤ 17; decide) fun B => ?_
  dsimp only [w32]
  obtain ⟨q, px, cx, rfl, h1, h2, _⟩ := row_at h hr (k := x.toNat) (by omega)
  obtain ⟨q', py, cy, e, h3, h4, _⟩ := row_at h hr (k := y.toNat) (by omega)
  cases e
  have k1 := hl x.toNat
  have k2 := hl y.toNat
  unfold rowLen at k1 k2
  have hkx : keyR rows x = ((rows.getD x.toNat []).length : Int) := rfl
  have hky : keyR rows y = ((rows.getD y.toNat []).length : Int) := rfl
  rw [hkx, hky]
  generalize (rows.getD x.toNat []).length = lx at *
  generalize (rows.getD y.toNat []).length = ly at *
  have hw := wrap_id (x := (ly : Int) - lx) (by omega) (by omega)
  refine VW.seq (VW.reg ?_)
  refine VOps.rd rfl rfl ?_
  refine VOps.nil ⟨rfl, ?_⟩
  show VW _ _ _ _ [(0, .int .i64 x), (1, .int .i64 y), (2, .ptr (some ⟨ib, 0, 0⟩))] _ _
  clear hkx hky
  refine VW.seq ?_
  refine VW.mono (Q := fun e F2 Hx => e = .normal ∧ F2 = [(5, .int .i64 ((ly : Int) - lx))] ∧ Hx = H) ?_ ?_
  · refine VW.dreg [H] mixed rfl ?_
    repeat first
      | (apply VX.rd1; (focus (first | exact rfl | (simp [Fr.only, argsF, *]; done))); (focus (exact rfl)))
      | (apply VX.sk1; (focus (simp [Fr.only, argsF, *]; done)))
      | (apply VX.rd1; (focus (first | exact rfl | (simp [Fr.only, argsF, *]; done))); (focus (simp [Fr.only, argsF, *]; first | done | exact rfl)))
    exact VX.nil ⟨rfl, by simp [Fr.only, *], rfl⟩
  rintro e F2 Hx ⟨rfl, rfl, rfl⟩
  exact VW.ret ⟨.inl rfl, _, rfl, rfl, rfl⟩
end
end Go.Proofs.Ytlclbfkdaemilaa
