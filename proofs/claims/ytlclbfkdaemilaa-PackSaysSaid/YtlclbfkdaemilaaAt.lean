/- At of the program and of the document over the canonical heap. -/
import Derived.Test.YtlclbfkdaemilaaVmN
import Derived.Test.YtlclbfkdaemilaaFnA
import Derived.Test.YtlclbfkdaemilaaFnB
namespace Go.Proofs.Ytlclbfkdaemilaa
set_option linter.unusedSimpArgs false
set_option linter.unusedVariables false
open Go Go.Vm Go.Proofs
set_option maxRecDepth 100000
set_option maxHeartbeats 1000000

def atS (b v o : List Int) (row place : Int) : Int × Bool :=
  if row < 0 then (0, false) else if (b.length : Int) ≤ row then (0, false) else if place < 0 then (0, false) else
  let base := b.getD row.toNat 0
  let n : Int := if (o.length : Int) < v.length then o.length else v.length
  if base < 0 then (0, false) else if n < base then (0, false) else if n - base ≤ place then (0, false) else
  if o.getD (base + place).toNat 0 ≠ row then (0, false) else (v.getD (base + place).toNat 0, true)

theorem mixed : Try.prog.follows .mixedOrders = true := by kernel_rfl

theorem wrap_id {x : Int} (h1 : -9223372036854775808 ≤ x) (h2 : x ≤ 9223372036854775807) : IntKind.i64.wrap x = x := by
  simp [IntKind.wrap, IntKind.bits, IntKind.signed]
  omega

section
variable {H : Hp} {p1 p2 p3 : Option PA} {c1 c2 c3 : Nat} {b v o : List Int} {row place : Int}

abbrev atBox (p1 p2 p3 : Option PA) (n1 n2 n3 c1 c2 c3 : Nat) : Blk := .row 26 .own [[.sl p1 n1 c1, .sl p2 n2 c2, .sl p3 n3 c3]]
theorem at16 (h1 : Sl H p1 1 (intEs b)) (h2 : Sl H p2 1 (intEs v)) (h3 : Sl H p3 1 (intEs o)) (hv : v.length ≤ maxLen) (ho : o.length ≤ maxLen) : FnV Try.prog 16 [.agg [.sl p1 b.length c1, .sl p2 v.length c2, .sl p3 o.length c3], .int .i64 row, .int .i64 place] H
    fun r H' => r = .tup [.int .i64 (atS b v o row place).1, .bool (atS b v o row place).2] ∧ ∃ G, H' = H ++ G := by
  refine FnV.enterRow ok16 (by show 3 ≤ 67; decide) fun B => ?_
  dsimp only [w16]
  refine VW.seq (VW.reg ?_)
  refine VOps.ef rfl (by simp; rfl) ?_
  refine VOps.rd rfl rfl ?_
  refine VOps.rd rfl rfl ?_
  refine VOps.nil ⟨rfl, ?_⟩
  show VW _ _ _ _ [(1, .int .i64 row), (2, .int .i64 place), (3, .ptr (some ⟨H.length, 0, 0⟩))] _ _
  have l0 := ld_last H 26 .own [VV.sl p1 b.length c1, VV.sl p2 v.length c2, VV.sl p3 o.length c3] [] 0
  have l1 := ld_last H 26 .own [VV.sl p1 b.length c1, VV.sl p2 v.length c2, VV.sl p3 o.length c3] [] 1
  have l2 := ld_last H 26 .own [VV.sl p1 b.length c1, VV.sl p2 v.length c2, VV.sl p3 o.length c3] [] 2
  have hG : ∃ G, H ++ [Blk.row 26 Mode.own [[VV.sl p1 b.length c1, VV.sl p2 v.length c2, VV.sl p3 o.length c3]]] = H ++ G := ⟨_, rfl⟩
  replace h1 := h1.mono [Blk.row 26 Mode.own [[VV.sl p1 b.length c1, VV.sl p2 v.length c2, VV.sl p3 o.length c3]]]
  replace h2 := h2.mono [Blk.row 26 Mode.own [[VV.sl p1 b.length c1, VV.sl p2 v.length c2, VV.sl p3 o.length c3]]]
  replace h3 := h3.mono [Blk.row 26 Mode.own [[VV.sl p1 b.length c1, VV.sl p2 v.length c2, VV.sl p3 o.length c3]]]
  generalize H ++ [Blk.row 26 Mode.own [[VV.sl p1 b.length c1, VV.sl p2 v.length c2, VV.sl p3 o.length c3]]] = H1 at *
  simp only [List.getElem?_cons_zero, List.getElem?_cons_succ] at l0 l1 l2
  have bad : ∀ (Q : Fr → Hp → Prop) (F : Fr), atS b v o row place = (0, false) → VW Try.prog B 67 (VC.seq (VC.reg [VI.rd 6 none (VOp.mv (Od.c (VV.int (IntKind.i64) 0))), VI.rd 7 none (VOp.mv (Od.c (VV.bool false)))] [6, 7]) (VC.ret)) F H1
      (Then Q fun e F' H' => (e = .ret ∨ e = .normal) ∧ ∃ u, resV F' H' [RV.t 6, RV.t 7] = some u ∧ u = .tup [.int .i64 (atS b v o row place).1, .bool (atS b v o row place).2] ∧ ∃ G, H' = H ++ G) := by
    intro Q F ha
    refine VW.seq (VW.reg ?_)
    refine VOps.rd rfl rfl ?_
    refine VOps.rd rfl rfl ?_
    refine VOps.nil ⟨rfl, ?_⟩
    show VW _ _ _ _ [(6, .int .i64 0), (7, .bool false)] _ _
    exact VW.ret ⟨.inl rfl, _, rfl, by rw [ha], hG⟩
  refine VW.seq (VW.seq ?_)
  refine VW.mono (Q := fun e F' H' => e = .normal ∧ F' = [(1, .int .i64 row), (2, .int .i64 place), (3, .ptr (some ⟨H.length, 0, 0⟩)), (22, .bool (decide (row < 0 ∨ (b.length : Int) ≤ row ∨ place < 0)))] ∧ H' = H1) ?_ ?_
  · clear bad
    refine VW.reg ?_
    by_cases a1 : row < 0
    · repeat first
        | (apply VOps.rd; (focus (first | exact rfl | (simp [*]; done))); (focus (exact rfl)))
        | (apply VOps.sk; (focus (simp [*]; done)))
        | (apply VOps.rd; (focus (first | exact rfl | (simp [*]; done))); (focus (simp [*]; first | done | exact rfl)))
      exact VOps.nil ⟨rfl, rfl, by simp [Fr.only, *], rfl⟩
    · by_cases a2 : (b.length : Int) ≤ row
      · repeat first
          | (apply VOps.rd; (focus (first | exact rfl | (simp [*]; done))); (focus (exact rfl)))
          | (apply VOps.sk; (focus (simp [*]; done)))
          | (apply VOps.rd; (focus (first | exact rfl | (simp [*]; done))); (focus (simp [*]; first | done | exact rfl)))
        exact VOps.nil ⟨rfl, rfl, by simp [Fr.only, *], rfl⟩
      · repeat first
          | (apply VOps.rd; (focus (first | exact rfl | (simp [*]; done))); (focus (exact rfl)))
          | (apply VOps.sk; (focus (simp [*]; done)))
          | (apply VOps.rd; (focus (first | exact rfl | (simp [*]; done))); (focus (simp [*]; first | done | exact rfl)))
        exact VOps.nil ⟨rfl, rfl, by simp [Fr.only, *], rfl⟩
  rintro e F' H' ⟨rfl, rfl, rfl⟩
  refine VW.cond rfl (fun a => ?_) (fun a => ?_)
  · refine bad _ _ ?_
    have a := of_decide_eq_true a
    unfold atS; rcases a with a | a | a <;> simp [a]
  have a := of_decide_eq_false a
  have a1 : ¬ row < 0 := fun h => a (.inl h)
  have a2 : ¬ (b.length : Int) ≤ row := fun h => a (.inr (.inl h))
  have a3 : ¬ place < 0 := fun h => a (.inr (.inr h))
  clear a
  have b1 : 0 ≤ row := by omega
  have b2 : row < (b.length : Int) := by omega
  have b3 : 0 ≤ place := by omega
  refine VW.skip ?_
  obtain ⟨q1, rfl, i1, g1⟩ := h1.int (k := row.toNat) (by omega)
  generalize hbase : b.getD row.toNat 0 = base at *
  refine VW.seq ?_
  refine VW.mono (Q := fun e F' Hx => e = .normal ∧ F' = [(1, .int .i64 row), (2, .int .i64 place), (3, .ptr (some ⟨H.length, 0, 0⟩)), (8, .int .i64 base), (9, .int .i64 (if (o.length : Int) < v.length then o.length else v.length))] ∧ Hx = H') ?_ ?_
  · clear bad
    refine VW.dreg [H'] mixed rfl ?_
    repeat first
      | (apply VX.rd1; (focus (first | exact rfl | (simp [*]; done))); (focus (exact rfl)))
      | (apply VX.sk1; (focus (simp [*]; done)))
      | (apply VX.rd1; (focus (first | exact rfl | (simp [*]; done))); (focus (simp [*]; first | done | exact rfl)))
    exact VX.nil ⟨rfl, rfl, rfl⟩
  rintro e F' H2 ⟨rfl, rfl, rfl⟩
  refine VW.seq (VW.seq ?_)
  generalize hn : (if (o.length : Int) < v.length then (o.length : Int) else v.length) = n
  have hn1 : n ≤ o.length ∧ n ≤ v.length ∧ 0 ≤ n := by rw [← hn]; split <;> omega
  have hmx : maxLen = 9223372036854775807 := rfl
  have hatS : atS b v o row place = if base < 0 then (0, false) else if n < base then (0, false) else if n - base ≤ place then (0, false) else if o.getD (base + place).toNat 0 ≠ row then (0, false) else (v.getD (base + place).toNat 0, true) := by
    unfold atS; simp only [a1, a2, a3, if_false, hbase, hn]
  refine VW.mono (Q := fun e F' H'' => e = .normal ∧ F' = [(2, .int .i64 place), (3, .ptr (some ⟨H.length, 0, 0⟩)), (8, .int .i64 base), (59, .bool (decide (base < 0 ∨ n < base ∨ n - base ≤ place ∨ o.getD (base + place).toNat 0 ≠ row)))] ∧ H'' = H2) ?_ ?_
  · clear bad
    refine VW.reg ?_
    by_cases d1 : base < 0
    · repeat first
        | (apply VOps.rd; (focus (first | exact rfl | (simp [*]; done))); (focus (exact rfl)))
        | (apply VOps.sk; (focus (simp [*]; done)))
        | (apply VOps.rd; (focus (first | exact rfl | (simp [*]; done))); (focus (simp [*]; first | done | exact rfl)))
      exact VOps.nil ⟨rfl, rfl, by simp [Fr.only, *], rfl⟩
    · by_cases d2 : n < base
      · repeat first
          | (apply VOps.rd; (focus (first | exact rfl | (simp [*]; done))); (focus (exact rfl)))
          | (apply VOps.sk; (focus (simp [*]; done)))
          | (apply VOps.rd; (focus (first | exact rfl | (simp [*]; done))); (focus (simp [*]; first | done | exact rfl)))
        exact VOps.nil ⟨rfl, rfl, by simp [Fr.only, *], rfl⟩
      · have hw := wrap_id (x := n - base) (by omega) (by omega)
        by_cases d3 : n - base ≤ place
        · repeat first
            | (apply VOps.rd; (focus (first | exact rfl | (simp [*]; done))); (focus (exact rfl)))
            | (apply VOps.sk; (focus (simp [*]; done)))
            | (apply VOps.rd; (focus (first | exact rfl | (simp [*]; done))); (focus (simp [*]; first | done | exact rfl)))
          exact VOps.nil ⟨rfl, rfl, by simp [Fr.only, *], rfl⟩
        · have hw2 := wrap_id (x := base + place) (by omega) (by omega)
          obtain ⟨q3, rfl, i3, g3⟩ := h3.int (k := (base + place).toNat) (by omega)
          have e1 : 0 ≤ base + place := by omega
          have e2 : base + place < (o.length : Int) := by omega
          repeat first
            | (apply VOps.rd; (focus (first | exact rfl | (simp [*]; done))); (focus (exact rfl)))
            | (apply VOps.sk; (focus (simp [*]; done)))
            | (apply VOps.rd; (focus (first | exact rfl | (simp [*]; done))); (focus (simp [*]; first | done | exact rfl)))
          exact VOps.nil ⟨rfl, rfl, by simp [Fr.only, *]; rfl, rfl⟩
  rintro e F' H3 ⟨rfl, rfl, rfl⟩
  refine VW.cond rfl (fun a => ?_) (fun a => ?_)
  · refine bad _ _ ?_
    have a := of_decide_eq_true a
    rw [hatS]
    by_cases d1 : base < 0
    · rw [if_pos d1]
    · by_cases d2 : n < base
      · rw [if_neg d1, if_pos d2]
      · by_cases d3 : n - base ≤ place
        · rw [if_neg d1, if_neg d2, if_pos d3]
        · have d4 : o.getD (base + place).toNat 0 ≠ row := by
            rcases a with a | a | a | a
            · exact absurd a d1
            · exact absurd a d2
            · exact absurd a d3
            · exact a
          rw [if_neg d1, if_neg d2, if_neg d3, if_pos d4]
  have a := of_decide_eq_false a
  have d1 : ¬ base < 0 := fun h => a (.inl h)
  have d2 : ¬ n < base := fun h => a (.inr (.inl h))
  have d3 : ¬ n - base ≤ place := fun h => a (.inr (.inr (.inl h)))
  have d4 : ¬ (o.getD (base + place).toNat 0 ≠ row) := fun h => a (.inr (.inr (.inr h)))
  rw [if_neg d1, if_neg d2, if_neg d3, if_neg d4] at hatS
  clear a bad
  refine VW.skip ?_
  have hw2 := wrap_id (x := base + place) (by omega) (by omega)
  obtain ⟨q2, rfl, i2, g2⟩ := h2.int (k := (base + place).toNat) (by omega)
  have e1 : 0 ≤ base + place := by omega
  have e2 : base + place < (v.length : Int) := by omega
  refine VW.seq (VW.reg ?_)
  repeat first
    | (apply VOps.rd; (focus (first | exact rfl | (simp [*]; done))); (focus (exact rfl)))
    | (apply VOps.sk; (focus (simp [*]; done)))
    | (apply VOps.rd; (focus (first | exact rfl | (simp [*]; done))); (focus (simp [*]; first | done | exact rfl)))
  refine VOps.nil ⟨rfl, ?_⟩
  show VW _ _ _ _ [(6, _), (7, _)] _ _
  exact VW.ret ⟨.inl rfl, _, rfl, by rw [hatS]; simp [List.getD, List.getElem?_eq_getElem (show (base + place).toNat < v.length by omega)], hG⟩
theorem at17 (h1 : Sl H p1 1 (intEs b)) (h2 : Sl H p2 1 (intEs v)) (h3 : Sl H p3 1 (intEs o)) (hv : v.length ≤ maxLen) (ho : o.length ≤ maxLen) : FnV Try.prog 17 [.agg [.sl p1 b.length c1, .sl p2 v.length c2, .sl p3 o.length c3], .int .i64 row, .int .i64 place] H
    fun r H' => r = .tup [.int .i64 (atS b v o row place).1, .bool (atS b v o row place).2] ∧ ∃ G, H' = H ++ G := by
  refine FnV.enterRow ok17 (by show 3 ≤ 67; decide) fun B => ?_
  dsimp only [w17]
  refine VW.seq (VW.reg ?_)
  refine VOps.ef rfl (by simp; rfl) ?_
  refine VOps.rd rfl rfl ?_
  refine VOps.rd rfl rfl ?_
  refine VOps.nil ⟨rfl, ?_⟩
  show VW _ _ _ _ [(1, .int .i64 row), (2, .int .i64 place), (3, .ptr (some ⟨H.length, 0, 0⟩))] _ _
  have l0 := ld_last H 26 .own [VV.sl p1 b.length c1, VV.sl p2 v.length c2, VV.sl p3 o.length c3] [] 0
  have l1 := ld_last H 26 .own [VV.sl p1 b.length c1, VV.sl p2 v.length c2, VV.sl p3 o.length c3] [] 1
  have l2 := ld_last H 26 .own [VV.sl p1 b.length c1, VV.sl p2 v.length c2, VV.sl p3 o.length c3] [] 2
  have hG : ∃ G, H ++ [Blk.row 26 Mode.own [[VV.sl p1 b.length c1, VV.sl p2 v.length c2, VV.sl p3 o.length c3]]] = H ++ G := ⟨_, rfl⟩
  replace h1 := h1.mono [Blk.row 26 Mode.own [[VV.sl p1 b.length c1, VV.sl p2 v.length c2, VV.sl p3 o.length c3]]]
  replace h2 := h2.mono [Blk.row 26 Mode.own [[VV.sl p1 b.length c1, VV.sl p2 v.length c2, VV.sl p3 o.length c3]]]
  replace h3 := h3.mono [Blk.row 26 Mode.own [[VV.sl p1 b.length c1, VV.sl p2 v.length c2, VV.sl p3 o.length c3]]]
  generalize H ++ [Blk.row 26 Mode.own [[VV.sl p1 b.length c1, VV.sl p2 v.length c2, VV.sl p3 o.length c3]]] = H1 at *
  simp only [List.getElem?_cons_zero, List.getElem?_cons_succ] at l0 l1 l2
  have bad : ∀ (Q : Fr → Hp → Prop) (F : Fr), atS b v o row place = (0, false) → VW Try.prog B 67 (VC.seq (VC.reg [VI.rd 6 none (VOp.mv (Od.c (VV.int (IntKind.i64) 0))), VI.rd 7 none (VOp.mv (Od.c (VV.bool false)))] [6, 7]) (VC.ret)) F H1
      (Then Q fun e F' H' => (e = .ret ∨ e = .normal) ∧ ∃ u, resV F' H' [RV.t 6, RV.t 7] = some u ∧ u = .tup [.int .i64 (atS b v o row place).1, .bool (atS b v o row place).2] ∧ ∃ G, H' = H ++ G) := by
    intro Q F ha
    refine VW.seq (VW.reg ?_)
    refine VOps.rd rfl rfl ?_
    refine VOps.rd rfl rfl ?_
    refine VOps.nil ⟨rfl, ?_⟩
    show VW _ _ _ _ [(6, .int .i64 0), (7, .bool false)] _ _
    exact VW.ret ⟨.inl rfl, _, rfl, by rw [ha], hG⟩
  refine VW.seq (VW.seq ?_)
  refine VW.mono (Q := fun e F' H' => e = .normal ∧ F' = [(1, .int .i64 row), (2, .int .i64 place), (3, .ptr (some ⟨H.length, 0, 0⟩)), (22, .bool (decide (row < 0 ∨ (b.length : Int) ≤ row ∨ place < 0)))] ∧ H' = H1) ?_ ?_
  · clear bad
    refine VW.reg ?_
    by_cases a1 : row < 0
    · repeat first
        | (apply VOps.rd; (focus (first | exact rfl | (simp [*]; done))); (focus (exact rfl)))
        | (apply VOps.sk; (focus (simp [*]; done)))
        | (apply VOps.rd; (focus (first | exact rfl | (simp [*]; done))); (focus (simp [*]; first | done | exact rfl)))
      exact VOps.nil ⟨rfl, rfl, by simp [Fr.only, *], rfl⟩
    · by_cases a2 : (b.length : Int) ≤ row
      · repeat first
          | (apply VOps.rd; (focus (first | exact rfl | (simp [*]; done))); (focus (exact rfl)))
          | (apply VOps.sk; (focus (simp [*]; done)))
          | (apply VOps.rd; (focus (first | exact rfl | (simp [*]; done))); (focus (simp [*]; first | done | exact rfl)))
        exact VOps.nil ⟨rfl, rfl, by simp [Fr.only, *], rfl⟩
      · repeat first
          | (apply VOps.rd; (focus (first | exact rfl | (simp [*]; done))); (focus (exact rfl)))
          | (apply VOps.sk; (focus (simp [*]; done)))
          | (apply VOps.rd; (focus (first | exact rfl | (simp [*]; done))); (focus (simp [*]; first | done | exact rfl)))
        exact VOps.nil ⟨rfl, rfl, by simp [Fr.only, *], rfl⟩
  rintro e F' H' ⟨rfl, rfl, rfl⟩
  refine VW.cond rfl (fun a => ?_) (fun a => ?_)
  · refine bad _ _ ?_
    have a := of_decide_eq_true a
    unfold atS; rcases a with a | a | a <;> simp [a]
  have a := of_decide_eq_false a
  have a1 : ¬ row < 0 := fun h => a (.inl h)
  have a2 : ¬ (b.length : Int) ≤ row := fun h => a (.inr (.inl h))
  have a3 : ¬ place < 0 := fun h => a (.inr (.inr h))
  clear a
  have b1 : 0 ≤ row := by omega
  have b2 : row < (b.length : Int) := by omega
  have b3 : 0 ≤ place := by omega
  refine VW.skip ?_
  obtain ⟨q1, rfl, i1, g1⟩ := h1.int (k := row.toNat) (by omega)
  generalize hbase : b.getD row.toNat 0 = base at *
  refine VW.seq ?_
  refine VW.mono (Q := fun e F' Hx => e = .normal ∧ F' = [(1, .int .i64 row), (2, .int .i64 place), (3, .ptr (some ⟨H.length, 0, 0⟩)), (8, .int .i64 base)] ∧ Hx = H') ?_ ?_
  · clear bad
    refine VW.reg ?_
    repeat first
      | (apply VOps.rd; (focus (first | exact rfl | (simp [*]; done))); (focus (exact rfl)))
      | (apply VOps.sk; (focus (simp [*]; done)))
      | (apply VOps.rd; (focus (first | exact rfl | (simp [*]; done))); (focus (simp [*]; first | done | exact rfl)))
    exact VOps.nil ⟨rfl, rfl, rfl, rfl⟩
  rintro e F' H4 ⟨rfl, rfl, rfl⟩
  refine VW.seq ?_
  refine VW.mono (Q := fun e F' Hx => e = .normal ∧ F' = [(1, .int .i64 row), (2, .int .i64 place), (3, .ptr (some ⟨H.length, 0, 0⟩)), (8, .int .i64 base), (9, .int .i64 (if (o.length : Int) < v.length then o.length else v.length))] ∧ Hx = H4) ?_ ?_
  · clear bad
    refine VW.reg ?_
    repeat first
      | (apply VOps.rd; (focus (first | exact rfl | (simp [*]; done))); (focus (exact rfl)))
      | (apply VOps.sk; (focus (simp [*]; done)))
      | (apply VOps.rd; (focus (first | exact rfl | (simp [*]; done))); (focus (simp [*]; first | done | exact rfl)))
    exact VOps.nil ⟨rfl, rfl, rfl, rfl⟩
  rintro e F' H2 ⟨rfl, rfl, rfl⟩
  refine VW.seq (VW.seq ?_)
  generalize hn : (if (o.length : Int) < v.length then (o.length : Int) else v.length) = n
  have hn1 : n ≤ o.length ∧ n ≤ v.length ∧ 0 ≤ n := by rw [← hn]; split <;> omega
  have hmx : maxLen = 9223372036854775807 := rfl
  have hatS : atS b v o row place = if base < 0 then (0, false) else if n < base then (0, false) else if n - base ≤ place then (0, false) else if o.getD (base + place).toNat 0 ≠ row then (0, false) else (v.getD (base + place).toNat 0, true) := by
    unfold atS; simp only [a1, a2, a3, if_false, hbase, hn]
  refine VW.mono (Q := fun e F' H'' => e = .normal ∧ F' = [(2, .int .i64 place), (3, .ptr (some ⟨H.length, 0, 0⟩)), (8, .int .i64 base), (59, .bool (decide (base < 0 ∨ n ≤ base ∨ n - base ≤ place ∨ o.getD (base + place).toNat 0 ≠ row)))] ∧ H'' = H2) ?_ ?_
  · clear bad
    refine VW.reg ?_
    by_cases d1 : base < 0
    · repeat first
        | (apply VOps.rd; (focus (first | exact rfl | (simp [*]; done))); (focus (exact rfl)))
        | (apply VOps.sk; (focus (simp [*]; done)))
        | (apply VOps.rd; (focus (first | exact rfl | (simp [*]; done))); (focus (simp [*]; first | done | exact rfl)))
      exact VOps.nil ⟨rfl, rfl, by simp [Fr.only, *], rfl⟩
    · by_cases d2 : n ≤ base
      · repeat first
          | (apply VOps.rd; (focus (first | exact rfl | (simp [*]; done))); (focus (exact rfl)))
          | (apply VOps.sk; (focus (simp [*]; done)))
          | (apply VOps.rd; (focus (first | exact rfl | (simp [*]; done))); (focus (simp [*]; first | done | exact rfl)))
        exact VOps.nil ⟨rfl, rfl, by simp [Fr.only, *], rfl⟩
      · have hw := wrap_id (x := n - base) (by omega) (by omega)
        by_cases d3 : n - base ≤ place
        · repeat first
            | (apply VOps.rd; (focus (first | exact rfl | (simp [*]; done))); (focus (exact rfl)))
            | (apply VOps.sk; (focus (simp [*]; done)))
            | (apply VOps.rd; (focus (first | exact rfl | (simp [*]; done))); (focus (simp [*]; first | done | exact rfl)))
          exact VOps.nil ⟨rfl, rfl, by simp [Fr.only, *], rfl⟩
        · have hw2 := wrap_id (x := base + place) (by omega) (by omega)
          obtain ⟨q3, rfl, i3, g3⟩ := h3.int (k := (base + place).toNat) (by omega)
          have e1 : 0 ≤ base + place := by omega
          have e2 : base + place < (o.length : Int) := by omega
          repeat first
            | (apply VOps.rd; (focus (first | exact rfl | (simp [*]; done))); (focus (exact rfl)))
            | (apply VOps.sk; (focus (simp [*]; done)))
            | (apply VOps.rd; (focus (first | exact rfl | (simp [*]; done))); (focus (simp [*]; first | done | exact rfl)))
          exact VOps.nil ⟨rfl, rfl, by simp [Fr.only, *]; rfl, rfl⟩
  rintro e F' H3 ⟨rfl, rfl, rfl⟩
  refine VW.cond rfl (fun a => ?_) (fun a => ?_)
  · refine bad _ _ ?_
    have a := of_decide_eq_true a
    rw [hatS]
    by_cases d1 : base < 0
    · rw [if_pos d1]
    · by_cases d2 : n ≤ base
      · rw [if_neg d1]
        by_cases d5 : n < base
        · rw [if_pos d5]
        · rw [if_neg d5, if_pos (by omega)]
      · by_cases d3 : n - base ≤ place
        · rw [if_neg d1, if_neg (by omega), if_pos d3]
        · have d4 : o.getD (base + place).toNat 0 ≠ row := by
            rcases a with a | a | a | a
            · exact absurd a d1
            · exact absurd a d2
            · exact absurd a d3
            · exact a
          rw [if_neg d1, if_neg (by omega), if_neg d3, if_pos d4]
  have a := of_decide_eq_false a
  have d1 : ¬ base < 0 := fun h => a (.inl h)
  have d2 : ¬ n ≤ base := fun h => a (.inr (.inl h))
  have d3 : ¬ n - base ≤ place := fun h => a (.inr (.inr (.inl h)))
  have d4 : ¬ (o.getD (base + place).toNat 0 ≠ row) := fun h => a (.inr (.inr (.inr h)))
  rw [if_neg d1, if_neg (by omega), if_neg d3, if_neg d4] at hatS
  clear a bad
  refine VW.skip ?_
  have hw2 := wrap_id (x := base + place) (by omega) (by omega)
  obtain ⟨q2, rfl, i2, g2⟩ := h2.int (k := (base + place).toNat) (by omega)
  have e1 : 0 ≤ base + place := by omega
  have e2 : base + place < (v.length : Int) := by omega
  refine VW.seq (VW.reg ?_)
  repeat first
    | (apply VOps.rd; (focus (first | exact rfl | (simp [*]; done))); (focus (exact rfl)))
    | (apply VOps.sk; (focus (simp [*]; done)))
    | (apply VOps.rd; (focus (first | exact rfl | (simp [*]; done))); (focus (simp [*]; first | done | exact rfl)))
  refine VOps.nil ⟨rfl, ?_⟩
  show VW _ _ _ _ [(6, _), (7, _)] _ _
  exact VW.ret ⟨.inl rfl, _, rfl, by rw [hatS]; simp [List.getD, List.getElem?_eq_getElem (show (base + place).toNat < v.length by omega)], hG⟩
end
end Go.Proofs.Ytlclbfkdaemilaa
