/- pack.Action, pack.Goto, and the document's, over the canonical heap. -/
import Derived.Test.YtlclbfkdaemilaaAt
import Derived.Test.YtlclbfkdaemilaaFnC
namespace Go.Proofs.Ytlclbfkdaemilaa
set_option linter.unusedSimpArgs false
set_option linter.unusedVariables false
open Go Go.Vm Go.Proofs
set_option maxRecDepth 100000
set_option maxHeartbeats 1000000

/-- what 'Action' says: the kind and the state or production -/
def actS (df b v o : List Int) (state term : Int) : Int × Int :=
  let r := atS b v o state term
  if r.2 = true then
    (if 0 < r.1 then (1, r.1 - 1) else if r.1 < -1 then (2, IntKind.i64.wrap (-1 - r.1)) else if r.1 < 0 then (3, 0) else (4, 0))
  else if 0 ≤ state then (if state < df.length then (if 0 < df.getD state.toNat 0 then (2, df.getD state.toNat 0) else (0, 0)) else (0, 0)) else (0, 0)

theorem getD_range {l : List Int} (h : ∀ n ∈ l, -9223372036854775808 ≤ n ∧ n ≤ 9223372036854775807) (k : Nat) : -9223372036854775808 ≤ l.getD k 0 ∧ l.getD k 0 ≤ 9223372036854775807 := by
  rcases Nat.lt_or_ge k l.length with hk | hk
  · have : l.getD k 0 = l[k] := by simp [List.getD, hk]
    rw [this]; exact h _ (List.getElem_mem hk)
  · have : l.getD k 0 = 0 := by simp [List.getD, hk]
    rw [this]; omega
theorem atS_range {b v o : List Int} {row place : Int} (h : ∀ n ∈ v, -9223372036854775808 ≤ n ∧ n ≤ 9223372036854775807) : -9223372036854775808 ≤ (atS b v o row place).1 ∧ (atS b v o row place).1 ≤ 9223372036854775807 := by
  have hz : -9223372036854775808 ≤ (0 : Int) ∧ (0 : Int) ≤ 9223372036854775807 := by omega
  unfold atS
  simp only
  repeat' split
  all_goals first | exact hz | exact getD_range h _

section
variable {H : Hp} {p0 p1 p2 p3 p4 p5 p6 p7 : Option PA} {c0 c1 c2 c3 c4 c5 c6 c7 : Nat} {df b v o tg gb gv go : List Int} {state term : Int}
abbrev pkV (p0 p1 p2 p3 p4 p5 p6 p7 : Option PA) (c0 c1 c2 c3 c4 c5 c6 c7 : Nat) (df b v o tg gb gv go : List Int) : List VV :=
  [.sl p0 df.length c0, .sl p1 b.length c1, .sl p2 v.length c2, .sl p3 o.length c3, .sl p4 tg.length c4, .sl p5 gb.length c5, .sl p6 gv.length c6, .sl p7 go.length c7]

theorem stc_own2 {H : Hp} {i : Nat} {t : TypeId} {a b c d : VV} (h : H[i]? = some (.row t .own [[a, b]])) (hc : okCells [c, d] = true) : stc H ⟨i, 0, 0⟩ [c, d] = some (H.set i (.row t .own [[c, d]])) := by
  simp only [stc, h]
  simp [upd] at hc ⊢
  exact hc

theorem act18 (h0 : Sl H p0 1 (intEs df)) (h1 : Sl H p1 1 (intEs b)) (h2 : Sl H p2 1 (intEs v)) (h3 : Sl H p3 1 (intEs o)) (hv : v.length ≤ maxLen) (ho : o.length ≤ maxLen) (hw : ∀ n ∈ v, -9223372036854775808 ≤ n ∧ n ≤ 9223372036854775807) :
    FnV Try.prog 18 [.agg (pkV p0 p1 p2 p3 p4 p5 p6 p7 c0 c1 c2 c3 c4 c5 c6 c7 df b v o tg gb gv go), .int .i64 state, .int .i64 term] H
      fun r H' => r = .agg [.int .i64 (actS df b v o state term).1, .int .i64 (actS df b v o state term).2] ∧ Ext H H' := by
  refine FnV.enterRow ok18 (by show 3 ≤ 70; decide) fun B => ?_
  dsimp only [w18]
  refine VW.seq (VW.reg ?_)
  refine VOps.ef rfl (by simp; rfl) ?_
  refine VOps.ef rfl (by simp; exact ⟨rfl, rfl⟩) ?_
  refine VOps.nil ⟨rfl, ?_⟩
  show VW _ _ _ _ [(1, .int .i64 state), (2, .int .i64 term), (3, .ptr (some ⟨H.length, 0, 0⟩)), (6, .ptr (some ⟨H.length + 1, 0, 0⟩))] _ _
  have hx : Ext H (H ++ [Blk.row 44 Mode.own [pkV p0 p1 p2 p3 p4 p5 p6 p7 c0 c1 c2 c3 c4 c5 c6 c7 df b v o tg gb gv go], Blk.row 46 Mode.own [[VV.int IntKind.i64 0, VV.int IntKind.i64 0]]]) := .app _ _
  have hb0 : (H ++ [Blk.row 44 Mode.own [pkV p0 p1 p2 p3 p4 p5 p6 p7 c0 c1 c2 c3 c4 c5 c6 c7 df b v o tg gb gv go], Blk.row 46 Mode.own [[VV.int IntKind.i64 0, VV.int IntKind.i64 0]]])[H.length]? = some (Blk.row 44 Mode.own [pkV p0 p1 p2 p3 p4 p5 p6 p7 c0 c1 c2 c3 c4 c5 c6 c7 df b v o tg gb gv go]) := by simp
  have hr0 : (H ++ [Blk.row 44 Mode.own [pkV p0 p1 p2 p3 p4 p5 p6 p7 c0 c1 c2 c3 c4 c5 c6 c7 df b v o tg gb gv go], Blk.row 46 Mode.own [[VV.int IntKind.i64 0, VV.int IntKind.i64 0]]])[H.length + 1]? = some (Blk.row 46 Mode.own [[VV.int IntKind.i64 0, VV.int IntKind.i64 0]]) := by simp
  generalize H ++ [Blk.row 44 Mode.own [pkV p0 p1 p2 p3 p4 p5 p6 p7 c0 c1 c2 c3 c4 c5 c6 c7 df b v o tg gb gv go], Blk.row 46 Mode.own [[VV.int IntKind.i64 0, VV.int IntKind.i64 0]]] = H1 at *
  -- the call
  have l3 := lds_own hb0 1 3
  simp at l3
  refine VW.seq (VW.reg ?_)
  refine VOps.rd rfl rfl ?_
  refine VOps.rd rfl (by simp [l3]; rfl) ?_
  refine VOps.rd rfl rfl ?_
  refine VOps.rd rfl rfl ?_
  refine VOps.call rfl rfl rfl ((at16 (hx.sl h1) (hx.sl h2) (hx.sl h3) hv ho).mono ?_)
  rintro r H2 ⟨rfl, G, rfl⟩
  have hx2 : Ext H1 (H1 ++ G) := .app _ _
  replace hb0 := hx2.get hb0
  replace hr0 := hx2.get hr0
  replace hx := hx.trans hx2
  clear hx2 l3
  generalize H1 ++ G = H2 at *
  have hS : actS df b v o state term = actS df b v o state term := rfl
  conv at hS => rhs; unfold actS
  have hvr : (atS b v o state term).2 = true → -9223372036854775808 ≤ (atS b v o state term).1 ∧ (atS b v o state term).1 ≤ 9223372036854775807 := fun _ => atS_range hw
  generalize atS b v o state term = res at *
  obtain ⟨n, k⟩ := res
  repeat refine VOps.rd rfl rfl ?_
  refine VOps.nil ⟨rfl, ?_⟩
  show VW _ _ _ _ [(1, .int .i64 state), (3, .ptr (some ⟨H.length, 0, 0⟩)), (6, .ptr (some ⟨H.length + 1, 0, 0⟩)), (7, .int .i64 n), (8, .bool k)] _ _
  simp only at hS hvr
  have hlt : H.length + 1 < H2.length := (List.getElem?_eq_some_iff.1 hr0).1
  have fin : ∀ (a c : Int), actS df b v o state term = (a, c) →
      ∃ u, resV [(6, .ptr (some ⟨H.length + 1, 0, 0⟩))] (H2.set (H.length + 1) (Blk.row 46 Mode.own [[VV.int IntKind.i64 a, VV.int IntKind.i64 c]])) [RV.c 6 2 true] = some u ∧ u = .agg [.int .i64 (actS df b v o state term).1, .int .i64 (actS df b v o state term).2] ∧ Ext H (H2.set (H.length + 1) (Blk.row 46 Mode.own [[VV.int IntKind.i64 a, VV.int IntKind.i64 c]])) := by
    intro a c ha
    rw [ha]
    have := lds_own (H := H2.set (H.length + 1) (Blk.row 46 Mode.own [[VV.int IntKind.i64 a, VV.int IntKind.i64 c]])) (i := H.length + 1) (t := 46) (md := .own) (e := [VV.int IntKind.i64 a, VV.int IntKind.i64 c]) (es := []) (by rw [List.getElem?_set_self hlt]) 0 2
    exact ⟨_, by simp [resV, resL, this] <;> rfl, rfl, hx.set (by omega) _⟩
  have l0 := ld_own hb0 0
  simp only [List.getElem?_cons_zero] at l0
  cases k with
  | true =>
    simp only [if_true] at hS
    obtain ⟨hn1, hn2⟩ := hvr rfl
    by_cases g1 : 0 < n
    · rw [if_pos g1] at hS
      have hw1 := wrap_id (x := n - 1) (by omega) (by omega)
      have hst := stc_own2 (c := .int .i64 (1)) (d := .int .i64 (n - 1)) hr0 rfl
      have hfin := fin _ _ hS
      clear fin hvr
      repeat first
        | (apply VOps.rd; (focus (first | exact rfl | (simp [Fr.only, argsF, *]; done))); (focus (exact rfl)))
        | (apply VOps.sk; (focus (simp [Fr.only, argsF, *]; done)))
        | (apply VOps.rd; (focus (first | exact rfl | (simp [Fr.only, argsF, *]; done))); (focus (simp [Fr.only, argsF, *]; first | done | exact rfl)))
        | (apply VOps.ef; (focus (first | exact rfl | (simp [Fr.only, argsF, *]; done))); (focus (simp [Fr.only, argsF, *]; first | done | exact rfl | exact ⟨rfl, rfl⟩)))
        | (apply VOps.fin; (focus (simp only [Fr.only, Fr.get, Fr.pt, reduceIte, Nat.reduceEqDiff]; first | done | exact rfl)))
        | refine VW.seq ?_
        | refine VW.reg ?_
        | refine VW.block ?_
        | refine VW.skip ?_
        | refine VW.exit ?_
        | refine VW.ret ?_
        | (apply VW.condT; (focus (first | exact rfl | (simp [Fr.only, argsF, *]; done))))
        | (apply VW.condF; (focus (first | exact rfl | (simp [Fr.only, argsF, *]; done))))
        | (simp only [then_normal, then_ret, then_exit, inB_normal, inB_ret, inB_exit, reduceIte, Nat.reduceEqDiff])
      exact ⟨by simp, hfin⟩
    · rw [if_neg g1] at hS
      by_cases g2 : n < -1
      · rw [if_pos g2] at hS
        have hst := stc_own2 (c := .int .i64 (2)) (d := .int .i64 (IntKind.i64.wrap (-1 - n))) hr0 rfl
        have hfin := fin _ _ hS
        clear fin hvr
        repeat first
          | (apply VOps.rd; (focus (first | exact rfl | (simp [Fr.only, argsF, *]; done))); (focus (exact rfl)))
          | (apply VOps.sk; (focus (simp [Fr.only, argsF, *]; done)))
          | (apply VOps.rd; (focus (first | exact rfl | (simp [Fr.only, argsF, *]; done))); (focus (simp [Fr.only, argsF, *]; first | done | exact rfl)))
          | (apply VOps.ef; (focus (first | exact rfl | (simp [Fr.only, argsF, *]; done))); (focus (simp [Fr.only, argsF, *]; first | done | exact rfl | exact ⟨rfl, rfl⟩)))
          | (apply VOps.fin; (focus (simp only [Fr.only, Fr.get, Fr.pt, reduceIte, Nat.reduceEqDiff]; first | done | exact rfl)))
          | refine VW.seq ?_
          | refine VW.reg ?_
          | refine VW.block ?_
          | refine VW.skip ?_
          | refine VW.exit ?_
          | refine VW.ret ?_
          | (apply VW.condT; (focus (first | exact rfl | (simp [Fr.only, argsF, *]; done))))
          | (apply VW.condF; (focus (first | exact rfl | (simp [Fr.only, argsF, *]; done))))
          | (simp only [then_normal, then_ret, then_exit, inB_normal, inB_ret, inB_exit, reduceIte, Nat.reduceEqDiff])
        exact ⟨by simp, hfin⟩
      · rw [if_neg g2] at hS
        by_cases g3 : n < 0
        · rw [if_pos g3] at hS
          have hst := stc_own2 (c := .int .i64 (3)) (d := .int .i64 (0)) hr0 rfl
          have hfin := fin _ _ hS
          clear fin hvr
          repeat first
            | (apply VOps.rd; (focus (first | exact rfl | (simp [Fr.only, argsF, *]; done))); (focus (exact rfl)))
            | (apply VOps.sk; (focus (simp [Fr.only, argsF, *]; done)))
            | (apply VOps.rd; (focus (first | exact rfl | (simp [Fr.only, argsF, *]; done))); (focus (simp [Fr.only, argsF, *]; first | done | exact rfl)))
            | (apply VOps.ef; (focus (first | exact rfl | (simp [Fr.only, argsF, *]; done))); (focus (simp [Fr.only, argsF, *]; first | done | exact rfl | exact ⟨rfl, rfl⟩)))
            | (apply VOps.fin; (focus (simp only [Fr.only, Fr.get, Fr.pt, reduceIte, Nat.reduceEqDiff]; first | done | exact rfl)))
            | refine VW.seq ?_
            | refine VW.reg ?_
            | refine VW.block ?_
            | refine VW.skip ?_
            | refine VW.exit ?_
            | refine VW.ret ?_
            | (apply VW.condT; (focus (first | exact rfl | (simp [Fr.only, argsF, *]; done))))
            | (apply VW.condF; (focus (first | exact rfl | (simp [Fr.only, argsF, *]; done))))
            | (simp only [then_normal, then_ret, then_exit, inB_normal, inB_ret, inB_exit, reduceIte, Nat.reduceEqDiff])
          exact ⟨by simp, hfin⟩
        · rw [if_neg g3] at hS
          have hst := stc_own2 (c := .int .i64 (4)) (d := .int .i64 (0)) hr0 rfl
          have hfin := fin _ _ hS
          clear fin hvr
          repeat first
            | (apply VOps.rd; (focus (first | exact rfl | (simp [Fr.only, argsF, *]; done))); (focus (exact rfl)))
            | (apply VOps.sk; (focus (simp [Fr.only, argsF, *]; done)))
            | (apply VOps.rd; (focus (first | exact rfl | (simp [Fr.only, argsF, *]; done))); (focus (simp [Fr.only, argsF, *]; first | done | exact rfl)))
            | (apply VOps.ef; (focus (first | exact rfl | (simp [Fr.only, argsF, *]; done))); (focus (simp [Fr.only, argsF, *]; first | done | exact rfl | exact ⟨rfl, rfl⟩)))
            | (apply VOps.fin; (focus (simp only [Fr.only, Fr.get, Fr.pt, reduceIte, Nat.reduceEqDiff]; first | done | exact rfl)))
            | refine VW.seq ?_
            | refine VW.reg ?_
            | refine VW.block ?_
            | refine VW.skip ?_
            | refine VW.exit ?_
            | refine VW.ret ?_
            | (apply VW.condT; (focus (first | exact rfl | (simp [Fr.only, argsF, *]; done))))
            | (apply VW.condF; (focus (first | exact rfl | (simp [Fr.only, argsF, *]; done))))
            | (simp only [then_normal, then_ret, then_exit, inB_normal, inB_ret, inB_exit, reduceIte, Nat.reduceEqDiff])
          exact ⟨by simp, hfin⟩
  | false =>
    simp only [Bool.false_eq_true, if_false] at hS
    by_cases g1 : 0 ≤ state
    · rw [if_pos g1] at hS
      by_cases g2 : state < df.length
      · rw [if_pos g2] at hS
        obtain ⟨q0, rfl, i0, d0⟩ := (hx.sl h0).int (k := state.toNat) (by omega)
        generalize df.getD state.toNat 0 = dv at *
        by_cases g3 : 0 < dv
        · rw [if_pos g3] at hS
          have hst := stc_own2 (c := .int .i64 (2)) (d := .int .i64 (dv)) hr0 rfl
          have hfin := fin _ _ hS
          clear fin hvr
          repeat first
            | (apply VOps.rd; (focus (first | exact rfl | (simp [Fr.only, argsF, *]; done))); (focus (exact rfl)))
            | (apply VOps.sk; (focus (simp [Fr.only, argsF, *]; done)))
            | (apply VOps.rd; (focus (first | exact rfl | (simp [Fr.only, argsF, *]; done))); (focus (simp [Fr.only, argsF, *]; first | done | exact rfl)))
            | (apply VOps.ef; (focus (first | exact rfl | (simp [Fr.only, argsF, *]; done))); (focus (simp [Fr.only, argsF, *]; first | done | exact rfl | exact ⟨rfl, rfl⟩)))
            | (apply VOps.fin; (focus (simp only [Fr.only, Fr.get, Fr.pt, reduceIte, Nat.reduceEqDiff]; first | done | exact rfl)))
            | refine VW.seq ?_
            | refine VW.reg ?_
            | refine VW.block ?_
            | refine VW.skip ?_
            | refine VW.exit ?_
            | refine VW.ret ?_
            | (apply VW.condT; (focus (first | exact rfl | (simp [Fr.only, argsF, *]; done))))
            | (apply VW.condF; (focus (first | exact rfl | (simp [Fr.only, argsF, *]; done))))
            | (simp only [then_normal, then_ret, then_exit, inB_normal, inB_ret, inB_exit, reduceIte, Nat.reduceEqDiff])
          exact ⟨by simp, hfin⟩
        · rw [if_neg g3] at hS
          have hst := stc_own2 (c := .int .i64 (0)) (d := .int .i64 (0)) hr0 rfl
          have hfin := fin _ _ hS
          clear fin hvr
          repeat first
            | (apply VOps.rd; (focus (first | exact rfl | (simp [Fr.only, argsF, *]; done))); (focus (exact rfl)))
            | (apply VOps.sk; (focus (simp [Fr.only, argsF, *]; done)))
            | (apply VOps.rd; (focus (first | exact rfl | (simp [Fr.only, argsF, *]; done))); (focus (simp [Fr.only, argsF, *]; first | done | exact rfl)))
            | (apply VOps.ef; (focus (first | exact rfl | (simp [Fr.only, argsF, *]; done))); (focus (simp [Fr.only, argsF, *]; first | done | exact rfl | exact ⟨rfl, rfl⟩)))
            | (apply VOps.fin; (focus (simp only [Fr.only, Fr.get, Fr.pt, reduceIte, Nat.reduceEqDiff]; first | done | exact rfl)))
            | refine VW.seq ?_
            | refine VW.reg ?_
            | refine VW.block ?_
            | refine VW.skip ?_
            | refine VW.exit ?_
            | refine VW.ret ?_
            | (apply VW.condT; (focus (first | exact rfl | (simp [Fr.only, argsF, *]; done))))
            | (apply VW.condF; (focus (first | exact rfl | (simp [Fr.only, argsF, *]; done))))
            | (simp only [then_normal, then_ret, then_exit, inB_normal, inB_ret, inB_exit, reduceIte, Nat.reduceEqDiff])
          exact ⟨by simp, hfin⟩
      · rw [if_neg g2] at hS
        have hst := stc_own2 (c := .int .i64 (0)) (d := .int .i64 (0)) hr0 rfl
        have hfin := fin _ _ hS
        clear fin hvr
        repeat first
          | (apply VOps.rd; (focus (first | exact rfl | (simp [Fr.only, argsF, *]; done))); (focus (exact rfl)))
          | (apply VOps.sk; (focus (simp [Fr.only, argsF, *]; done)))
          | (apply VOps.rd; (focus (first | exact rfl | (simp [Fr.only, argsF, *]; done))); (focus (simp [Fr.only, argsF, *]; first | done | exact rfl)))
          | (apply VOps.ef; (focus (first | exact rfl | (simp [Fr.only, argsF, *]; done))); (focus (simp [Fr.only, argsF, *]; first | done | exact rfl | exact ⟨rfl, rfl⟩)))
          | (apply VOps.fin; (focus (simp only [Fr.only, Fr.get, Fr.pt, reduceIte, Nat.reduceEqDiff]; first | done | exact rfl)))
          | refine VW.seq ?_
          | refine VW.reg ?_
          | refine VW.block ?_
          | refine VW.skip ?_
          | refine VW.exit ?_
          | refine VW.ret ?_
          | (apply VW.condT; (focus (first | exact rfl | (simp [Fr.only, argsF, *]; done))))
          | (apply VW.condF; (focus (first | exact rfl | (simp [Fr.only, argsF, *]; done))))
          | (simp only [then_normal, then_ret, then_exit, inB_normal, inB_ret, inB_exit, reduceIte, Nat.reduceEqDiff])
        exact ⟨by simp, hfin⟩
    · rw [if_neg g1] at hS
      have hst := stc_own2 (c := .int .i64 (0)) (d := .int .i64 (0)) hr0 rfl
      have hfin := fin _ _ hS
      clear fin hvr
      repeat first
        | (apply VOps.rd; (focus (first | exact rfl | (simp [Fr.only, argsF, *]; done))); (focus (exact rfl)))
        | (apply VOps.sk; (focus (simp [Fr.only, argsF, *]; done)))
        | (apply VOps.rd; (focus (first | exact rfl | (simp [Fr.only, argsF, *]; done))); (focus (simp [Fr.only, argsF, *]; first | done | exact rfl)))
        | (apply VOps.ef; (focus (first | exact rfl | (simp [Fr.only, argsF, *]; done))); (focus (simp [Fr.only, argsF, *]; first | done | exact rfl | exact ⟨rfl, rfl⟩)))
        | (apply VOps.fin; (focus (simp only [Fr.only, Fr.get, Fr.pt, reduceIte, Nat.reduceEqDiff]; first | done | exact rfl)))
        | refine VW.seq ?_
        | refine VW.reg ?_
        | refine VW.block ?_
        | refine VW.skip ?_
        | refine VW.exit ?_
        | refine VW.ret ?_
        | (apply VW.condT; (focus (first | exact rfl | (simp [Fr.only, argsF, *]; done))))
        | (apply VW.condF; (focus (first | exact rfl | (simp [Fr.only, argsF, *]; done))))
        | (simp only [then_normal, then_ret, then_exit, inB_normal, inB_ret, inB_exit, reduceIte, Nat.reduceEqDiff])
      exact ⟨by simp, hfin⟩

theorem act20 (h0 : Sl H p0 1 (intEs df)) (h1 : Sl H p1 1 (intEs b)) (h2 : Sl H p2 1 (intEs v)) (h3 : Sl H p3 1 (intEs o)) (hv : v.length ≤ maxLen) (ho : o.length ≤ maxLen) (hw : ∀ n ∈ v, -9223372036854775808 ≤ n ∧ n ≤ 9223372036854775807) :
    FnV Try.prog 20 [.agg (pkV p0 p1 p2 p3 p4 p5 p6 p7 c0 c1 c2 c3 c4 c5 c6 c7 df b v o tg gb gv go), .int .i64 state, .int .i64 term] H
      fun r H' => r = .agg [.int .i64 (actS df b v o state term).1, .int .i64 (actS df b v o state term).2] ∧ Ext H H' := by
  refine FnV.enterRow ok20 (by show 3 ≤ 69; decide) fun B => ?_
  dsimp only [w20]
  refine VW.seq (VW.reg ?_)
  refine VOps.ef rfl (by simp; rfl) ?_
  refine VOps.ef rfl (by simp; exact ⟨rfl, rfl⟩) ?_
  refine VOps.nil ⟨rfl, ?_⟩
  show VW _ _ _ _ [(1, .int .i64 state), (2, .int .i64 term), (3, .ptr (some ⟨H.length, 0, 0⟩)), (6, .ptr (some ⟨H.length + 1, 0, 0⟩))] _ _
  have hx : Ext H (H ++ [Blk.row 44 Mode.own [pkV p0 p1 p2 p3 p4 p5 p6 p7 c0 c1 c2 c3 c4 c5 c6 c7 df b v o tg gb gv go], Blk.row 46 Mode.own [[VV.int IntKind.i64 0, VV.int IntKind.i64 0]]]) := .app _ _
  have hb0 : (H ++ [Blk.row 44 Mode.own [pkV p0 p1 p2 p3 p4 p5 p6 p7 c0 c1 c2 c3 c4 c5 c6 c7 df b v o tg gb gv go], Blk.row 46 Mode.own [[VV.int IntKind.i64 0, VV.int IntKind.i64 0]]])[H.length]? = some (Blk.row 44 Mode.own [pkV p0 p1 p2 p3 p4 p5 p6 p7 c0 c1 c2 c3 c4 c5 c6 c7 df b v o tg gb gv go]) := by simp
  have hr0 : (H ++ [Blk.row 44 Mode.own [pkV p0 p1 p2 p3 p4 p5 p6 p7 c0 c1 c2 c3 c4 c5 c6 c7 df b v o tg gb gv go], Blk.row 46 Mode.own [[VV.int IntKind.i64 0, VV.int IntKind.i64 0]]])[H.length + 1]? = some (Blk.row 46 Mode.own [[VV.int IntKind.i64 0, VV.int IntKind.i64 0]]) := by simp
  generalize H ++ [Blk.row 44 Mode.own [pkV p0 p1 p2 p3 p4 p5 p6 p7 c0 c1 c2 c3 c4 c5 c6 c7 df b v o tg gb gv go], Blk.row 46 Mode.own [[VV.int IntKind.i64 0, VV.int IntKind.i64 0]]] = H1 at *
  -- the call
  have l3 := lds_own hb0 1 3
  simp at l3
  refine VW.seq (VW.reg ?_)
  refine VOps.rd rfl rfl ?_
  refine VOps.rd rfl (by simp [l3]; rfl) ?_
  refine VOps.rd rfl rfl ?_
  refine VOps.rd rfl rfl ?_
  refine VOps.call rfl rfl rfl ((at17 (hx.sl h1) (hx.sl h2) (hx.sl h3) hv ho).mono ?_)
  rintro r H2 ⟨rfl, G, rfl⟩
  have hx2 : Ext H1 (H1 ++ G) := .app _ _
  replace hb0 := hx2.get hb0
  replace hr0 := hx2.get hr0
  replace hx := hx.trans hx2
  clear hx2 l3
  generalize H1 ++ G = H2 at *
  have hS : actS df b v o state term = actS df b v o state term := rfl
  conv at hS => rhs; unfold actS
  have hvr : (atS b v o state term).2 = true → -9223372036854775808 ≤ (atS b v o state term).1 ∧ (atS b v o state term).1 ≤ 9223372036854775807 := fun _ => atS_range hw
  generalize atS b v o state term = res at *
  obtain ⟨n, k⟩ := res
  repeat refine VOps.rd rfl rfl ?_
  refine VOps.nil ⟨rfl, ?_⟩
  show VW _ _ _ _ [(1, .int .i64 state), (3, .ptr (some ⟨H.length, 0, 0⟩)), (6, .ptr (some ⟨H.length + 1, 0, 0⟩)), (7, .int .i64 n), (8, .bool k)] _ _
  simp only at hS hvr
  have hlt : H.length + 1 < H2.length := (List.getElem?_eq_some_iff.1 hr0).1
  have fin : ∀ (a c : Int), actS df b v o state term = (a, c) →
      ∃ u, resV [(6, .ptr (some ⟨H.length + 1, 0, 0⟩))] (H2.set (H.length + 1) (Blk.row 46 Mode.own [[VV.int IntKind.i64 a, VV.int IntKind.i64 c]])) [RV.c 6 2 true] = some u ∧ u = .agg [.int .i64 (actS df b v o state term).1, .int .i64 (actS df b v o state term).2] ∧ Ext H (H2.set (H.length + 1) (Blk.row 46 Mode.own [[VV.int IntKind.i64 a, VV.int IntKind.i64 c]])) := by
    intro a c ha
    rw [ha]
    have := lds_own (H := H2.set (H.length + 1) (Blk.row 46 Mode.own [[VV.int IntKind.i64 a, VV.int IntKind.i64 c]])) (i := H.length + 1) (t := 46) (md := .own) (e := [VV.int IntKind.i64 a, VV.int IntKind.i64 c]) (es := []) (by rw [List.getElem?_set_self hlt]) 0 2
    exact ⟨_, by simp [resV, resL, this] <;> rfl, rfl, hx.set (by omega) _⟩
  have l0 := ld_own hb0 0
  simp only [List.getElem?_cons_zero] at l0
  cases k with
  | true =>
    simp only [if_true] at hS
    obtain ⟨hn1, hn2⟩ := hvr rfl
    by_cases g0 : n = 0
    · rw [if_neg (by omega), if_neg (by omega), if_neg (by omega)] at hS
      have hst := stc_own2 (c := .int .i64 (4)) (d := .int .i64 (0)) hr0 rfl
      have hfin := fin _ _ hS
      clear fin hvr
      repeat first
        | (apply VOps.rd; (focus (first | exact rfl | (simp [Fr.only, argsF, *]; done))); (focus (exact rfl)))
        | (apply VOps.sk; (focus (simp [Fr.only, argsF, *]; done)))
        | (apply VOps.rd; (focus (first | exact rfl | (simp [Fr.only, argsF, *]; done))); (focus (simp [Fr.only, argsF, *]; first | done | exact rfl)))
        | (apply VOps.ef; (focus (first | exact rfl | (simp [Fr.only, argsF, *]; done))); (focus (simp [Fr.only, argsF, *]; first | done | exact rfl | exact ⟨rfl, rfl⟩)))
        | (apply VOps.fin; (focus (simp only [Fr.only, Fr.get, Fr.pt, reduceIte, Nat.reduceEqDiff]; first | done | exact rfl)))
        | refine VW.seq ?_
        | refine VW.reg ?_
        | refine VW.block ?_
        | refine VW.skip ?_
        | refine VW.exit ?_
        | refine VW.ret ?_
        | (apply VW.condT; (focus (first | exact rfl | (simp [Fr.only, argsF, *]; done))))
        | (apply VW.condF; (focus (first | exact rfl | (simp [Fr.only, argsF, *]; done))))
        | (simp only [then_normal, then_ret, then_exit, inB_normal, inB_ret, inB_exit, reduceIte, Nat.reduceEqDiff])
      exact ⟨by simp, hfin⟩
    · by_cases g1 : 0 < n
      · rw [if_pos g1] at hS
        have hw1 := wrap_id (x := n - 1) (by omega) (by omega)
        have hst := stc_own2 (c := .int .i64 (1)) (d := .int .i64 (n - 1)) hr0 rfl
        have hfin := fin _ _ hS
        clear fin hvr
        repeat first
          | (apply VOps.rd; (focus (first | exact rfl | (simp [Fr.only, argsF, *]; done))); (focus (exact rfl)))
          | (apply VOps.sk; (focus (simp [Fr.only, argsF, *]; done)))
          | (apply VOps.rd; (focus (first | exact rfl | (simp [Fr.only, argsF, *]; done))); (focus (simp [Fr.only, argsF, *]; first | done | exact rfl)))
          | (apply VOps.ef; (focus (first | exact rfl | (simp [Fr.only, argsF, *]; done))); (focus (simp [Fr.only, argsF, *]; first | done | exact rfl | exact ⟨rfl, rfl⟩)))
          | (apply VOps.fin; (focus (simp only [Fr.only, Fr.get, Fr.pt, reduceIte, Nat.reduceEqDiff]; first | done | exact rfl)))
          | refine VW.seq ?_
          | refine VW.reg ?_
          | refine VW.block ?_
          | refine VW.skip ?_
          | refine VW.exit ?_
          | refine VW.ret ?_
          | (apply VW.condT; (focus (first | exact rfl | (simp [Fr.only, argsF, *]; done))))
          | (apply VW.condF; (focus (first | exact rfl | (simp [Fr.only, argsF, *]; done))))
          | (simp only [then_normal, then_ret, then_exit, inB_normal, inB_ret, inB_exit, reduceIte, Nat.reduceEqDiff])
        exact ⟨by simp, hfin⟩
      · rw [if_neg g1] at hS
        by_cases g2 : n = -1
        · rw [if_neg (by omega), if_pos (by omega)] at hS
          have hst := stc_own2 (c := .int .i64 (3)) (d := .int .i64 (0)) hr0 rfl
          have hfin := fin _ _ hS
          clear fin hvr
          repeat first
            | (apply VOps.rd; (focus (first | exact rfl | (simp [Fr.only, argsF, *]; done))); (focus (exact rfl)))
            | (apply VOps.sk; (focus (simp [Fr.only, argsF, *]; done)))
            | (apply VOps.rd; (focus (first | exact rfl | (simp [Fr.only, argsF, *]; done))); (focus (simp [Fr.only, argsF, *]; first | done | exact rfl)))
            | (apply VOps.ef; (focus (first | exact rfl | (simp [Fr.only, argsF, *]; done))); (focus (simp [Fr.only, argsF, *]; first | done | exact rfl | exact ⟨rfl, rfl⟩)))
            | (apply VOps.fin; (focus (simp only [Fr.only, Fr.get, Fr.pt, reduceIte, Nat.reduceEqDiff]; first | done | exact rfl)))
            | refine VW.seq ?_
            | refine VW.reg ?_
            | refine VW.block ?_
            | refine VW.skip ?_
            | refine VW.exit ?_
            | refine VW.ret ?_
            | (apply VW.condT; (focus (first | exact rfl | (simp [Fr.only, argsF, *]; done))))
            | (apply VW.condF; (focus (first | exact rfl | (simp [Fr.only, argsF, *]; done))))
            | (simp only [then_normal, then_ret, then_exit, inB_normal, inB_ret, inB_exit, reduceIte, Nat.reduceEqDiff])
          exact ⟨by simp, hfin⟩
        · rw [if_pos (by omega)] at hS
          have hst := stc_own2 (c := .int .i64 (2)) (d := .int .i64 (IntKind.i64.wrap (-1 - n))) hr0 rfl
          have hfin := fin _ _ hS
          clear fin hvr
          repeat first
            | (apply VOps.rd; (focus (first | exact rfl | (simp [Fr.only, argsF, *]; done))); (focus (exact rfl)))
            | (apply VOps.sk; (focus (simp [Fr.only, argsF, *]; done)))
            | (apply VOps.rd; (focus (first | exact rfl | (simp [Fr.only, argsF, *]; done))); (focus (simp [Fr.only, argsF, *]; first | done | exact rfl)))
            | (apply VOps.ef; (focus (first | exact rfl | (simp [Fr.only, argsF, *]; done))); (focus (simp [Fr.only, argsF, *]; first | done | exact rfl | exact ⟨rfl, rfl⟩)))
            | (apply VOps.fin; (focus (simp only [Fr.only, Fr.get, Fr.pt, reduceIte, Nat.reduceEqDiff]; first | done | exact rfl)))
            | refine VW.seq ?_
            | refine VW.reg ?_
            | refine VW.block ?_
            | refine VW.skip ?_
            | refine VW.exit ?_
            | refine VW.ret ?_
            | (apply VW.condT; (focus (first | exact rfl | (simp [Fr.only, argsF, *]; done))))
            | (apply VW.condF; (focus (first | exact rfl | (simp [Fr.only, argsF, *]; done))))
            | (simp only [then_normal, then_ret, then_exit, inB_normal, inB_ret, inB_exit, reduceIte, Nat.reduceEqDiff])
          exact ⟨by simp, hfin⟩
  | false =>
    simp only [Bool.false_eq_true, if_false] at hS
    by_cases g1 : 0 ≤ state
    · rw [if_pos g1] at hS
      by_cases g2 : state < df.length
      · rw [if_pos g2] at hS
        obtain ⟨q0, rfl, i0, d0⟩ := (hx.sl h0).int (k := state.toNat) (by omega)
        generalize df.getD state.toNat 0 = dv at *
        by_cases g3 : 0 < dv
        · rw [if_pos g3] at hS
          have hst := stc_own2 (c := .int .i64 (2)) (d := .int .i64 (dv)) hr0 rfl
          have hfin := fin _ _ hS
          clear fin hvr
          repeat first
            | (apply VOps.rd; (focus (first | exact rfl | (simp [Fr.only, argsF, *]; done))); (focus (exact rfl)))
            | (apply VOps.sk; (focus (simp [Fr.only, argsF, *]; done)))
            | (apply VOps.rd; (focus (first | exact rfl | (simp [Fr.only, argsF, *]; done))); (focus (simp [Fr.only, argsF, *]; first | done | exact rfl)))
            | (apply VOps.ef; (focus (first | exact rfl | (simp [Fr.only, argsF, *]; done))); (focus (simp [Fr.only, argsF, *]; first | done | exact rfl | exact ⟨rfl, rfl⟩)))
            | (apply VOps.fin; (focus (simp only [Fr.only, Fr.get, Fr.pt, reduceIte, Nat.reduceEqDiff]; first | done | exact rfl)))
            | refine VW.seq ?_
            | refine VW.reg ?_
            | refine VW.block ?_
            | refine VW.skip ?_
            | refine VW.exit ?_
            | refine VW.ret ?_
            | (apply VW.condT; (focus (first | exact rfl | (simp [Fr.only, argsF, *]; done))))
            | (apply VW.condF; (focus (first | exact rfl | (simp [Fr.only, argsF, *]; done))))
            | (simp only [then_normal, then_ret, then_exit, inB_normal, inB_ret, inB_exit, reduceIte, Nat.reduceEqDiff])
          exact ⟨by simp, hfin⟩
        · rw [if_neg g3] at hS
          have hst := stc_own2 (c := .int .i64 (0)) (d := .int .i64 (0)) hr0 rfl
          have hfin := fin _ _ hS
          clear fin hvr
          repeat first
            | (apply VOps.rd; (focus (first | exact rfl | (simp [Fr.only, argsF, *]; done))); (focus (exact rfl)))
            | (apply VOps.sk; (focus (simp [Fr.only, argsF, *]; done)))
            | (apply VOps.rd; (focus (first | exact rfl | (simp [Fr.only, argsF, *]; done))); (focus (simp [Fr.only, argsF, *]; first | done | exact rfl)))
            | (apply VOps.ef; (focus (first | exact rfl | (simp [Fr.only, argsF, *]; done))); (focus (simp [Fr.only, argsF, *]; first | done | exact rfl | exact ⟨rfl, rfl⟩)))
            | (apply VOps.fin; (focus (simp only [Fr.only, Fr.get, Fr.pt, reduceIte, Nat.reduceEqDiff]; first | done | exact rfl)))
            | refine VW.seq ?_
            | refine VW.reg ?_
            | refine VW.block ?_
            | refine VW.skip ?_
            | refine VW.exit ?_
            | refine VW.ret ?_
            | (apply VW.condT; (focus (first | exact rfl | (simp [Fr.only, argsF, *]; done))))
            | (apply VW.condF; (focus (first | exact rfl | (simp [Fr.only, argsF, *]; done))))
            | (simp only [then_normal, then_ret, then_exit, inB_normal, inB_ret, inB_exit, reduceIte, Nat.reduceEqDiff])
          exact ⟨by simp, hfin⟩
      · rw [if_neg g2] at hS
        have hst := stc_own2 (c := .int .i64 (0)) (d := .int .i64 (0)) hr0 rfl
        have hfin := fin _ _ hS
        clear fin hvr
        repeat first
          | (apply VOps.rd; (focus (first | exact rfl | (simp [Fr.only, argsF, *]; done))); (focus (exact rfl)))
          | (apply VOps.sk; (focus (simp [Fr.only, argsF, *]; done)))
          | (apply VOps.rd; (focus (first | exact rfl | (simp [Fr.only, argsF, *]; done))); (focus (simp [Fr.only, argsF, *]; first | done | exact rfl)))
          | (apply VOps.ef; (focus (first | exact rfl | (simp [Fr.only, argsF, *]; done))); (focus (simp [Fr.only, argsF, *]; first | done | exact rfl | exact ⟨rfl, rfl⟩)))
          | (apply VOps.fin; (focus (simp only [Fr.only, Fr.get, Fr.pt, reduceIte, Nat.reduceEqDiff]; first | done | exact rfl)))
          | refine VW.seq ?_
          | refine VW.reg ?_
          | refine VW.block ?_
          | refine VW.skip ?_
          | refine VW.exit ?_
          | refine VW.ret ?_
          | (apply VW.condT; (focus (first | exact rfl | (simp [Fr.only, argsF, *]; done))))
          | (apply VW.condF; (focus (first | exact rfl | (simp [Fr.only, argsF, *]; done))))
          | (simp only [then_normal, then_ret, then_exit, inB_normal, inB_ret, inB_exit, reduceIte, Nat.reduceEqDiff])
        exact ⟨by simp, hfin⟩
    · rw [if_neg g1] at hS
      have hst := stc_own2 (c := .int .i64 (0)) (d := .int .i64 (0)) hr0 rfl
      have hfin := fin _ _ hS
      clear fin hvr
      repeat first
        | (apply VOps.rd; (focus (first | exact rfl | (simp [Fr.only, argsF, *]; done))); (focus (exact rfl)))
        | (apply VOps.sk; (focus (simp [Fr.only, argsF, *]; done)))
        | (apply VOps.rd; (focus (first | exact rfl | (simp [Fr.only, argsF, *]; done))); (focus (simp [Fr.only, argsF, *]; first | done | exact rfl)))
        | (apply VOps.ef; (focus (first | exact rfl | (simp [Fr.only, argsF, *]; done))); (focus (simp [Fr.only, argsF, *]; first | done | exact rfl | exact ⟨rfl, rfl⟩)))
        | (apply VOps.fin; (focus (simp only [Fr.only, Fr.get, Fr.pt, reduceIte, Nat.reduceEqDiff]; first | done | exact rfl)))
        | refine VW.seq ?_
        | refine VW.reg ?_
        | refine VW.block ?_
        | refine VW.skip ?_
        | refine VW.exit ?_
        | refine VW.ret ?_
        | (apply VW.condT; (focus (first | exact rfl | (simp [Fr.only, argsF, *]; done))))
        | (apply VW.condF; (focus (first | exact rfl | (simp [Fr.only, argsF, *]; done))))
        | (simp only [then_normal, then_ret, then_exit, inB_normal, inB_ret, inB_exit, reduceIte, Nat.reduceEqDiff])
      exact ⟨by simp, hfin⟩

/-- what 'Goto' says -/
def gotoS (tg gb gv go : List Int) (state non : Int) : Int :=
  let r := atS gb gv go non state
  if r.2 = true then r.1 else if 0 ≤ non then (if non < tg.length then tg.getD non.toNat 0 else -1) else -1

theorem got19 (h4 : Sl H p4 1 (intEs tg)) (h5 : Sl H p5 1 (intEs gb)) (h6 : Sl H p6 1 (intEs gv)) (h7 : Sl H p7 1 (intEs go)) (hv : gv.length ≤ maxLen) (ho : go.length ≤ maxLen) :
    FnV Try.prog 19 [.agg (pkV p0 p1 p2 p3 p4 p5 p6 p7 c0 c1 c2 c3 c4 c5 c6 c7 df b v o tg gb gv go), .int .i64 state, .int .i64 term] H
      fun r H' => r = .int .i64 (gotoS tg gb gv go state term) ∧ Ext H H' := by
  refine FnV.enterRow ok19 (by show 3 ≤ 33; decide) fun B => ?_
  dsimp only [w19]
  refine VW.seq (VW.reg ?_)
  refine VOps.ef rfl (by simp; rfl) ?_
  refine VOps.rd rfl rfl ?_
  refine VOps.nil ⟨rfl, ?_⟩
  show VW _ _ _ _ [(1, .int .i64 state), (2, .int .i64 term), (3, .ptr (some ⟨H.length, 0, 0⟩))] _ _
  have hx : Ext H (H ++ [Blk.row 44 Mode.own [pkV p0 p1 p2 p3 p4 p5 p6 p7 c0 c1 c2 c3 c4 c5 c6 c7 df b v o tg gb gv go]]) := .app _ _
  have hb0 : (H ++ [Blk.row 44 Mode.own [pkV p0 p1 p2 p3 p4 p5 p6 p7 c0 c1 c2 c3 c4 c5 c6 c7 df b v o tg gb gv go]])[H.length]? = some (Blk.row 44 Mode.own [pkV p0 p1 p2 p3 p4 p5 p6 p7 c0 c1 c2 c3 c4 c5 c6 c7 df b v o tg gb gv go]) := by simp
  generalize H ++ [Blk.row 44 Mode.own [pkV p0 p1 p2 p3 p4 p5 p6 p7 c0 c1 c2 c3 c4 c5 c6 c7 df b v o tg gb gv go]] = H1 at *
  have l3 := lds_own hb0 5 3
  simp at l3
  refine VW.seq (VW.seq (VW.reg ?_))
  refine VOps.rd rfl rfl ?_
  refine VOps.rd rfl (by simp [l3]; rfl) ?_
  refine VOps.rd rfl rfl ?_
  refine VOps.rd rfl rfl ?_
  refine VOps.call rfl rfl rfl ((at16 (hx.sl h5) (hx.sl h6) (hx.sl h7) hv ho).mono ?_)
  rintro r H2 ⟨rfl, G, rfl⟩
  have hx2 : Ext H1 (H1 ++ G) := .app _ _
  replace hb0 := hx2.get hb0
  replace hx := hx.trans hx2
  clear hx2 l3
  generalize H1 ++ G = H2 at *
  have hS : gotoS tg gb gv go state term = gotoS tg gb gv go state term := rfl
  conv at hS => rhs; unfold gotoS
  generalize atS gb gv go term state = res at *
  obtain ⟨n, k⟩ := res
  repeat refine VOps.rd rfl rfl ?_
  refine VOps.nil ⟨rfl, ?_⟩
  show VW _ _ _ _ [(2, .int .i64 term), (3, .ptr (some ⟨H.length, 0, 0⟩)), (7, .int .i64 n), (8, .bool k)] _ _
  simp only at hS
  have l0 := ld_own hb0 4
  simp only [List.getElem?_cons_zero, List.getElem?_cons_succ] at l0
  cases k with
  | true =>
    simp only [if_true] at hS
    repeat first
      | (apply VOps.rd; (focus (first | exact rfl | (simp [Fr.only, argsF, *]; done))); (focus (exact rfl)))
      | (apply VOps.sk; (focus (simp [Fr.only, argsF, *]; done)))
      | (apply VOps.rd; (focus (first | exact rfl | (simp [Fr.only, argsF, *]; done))); (focus (simp [Fr.only, argsF, *]; first | done | exact rfl)))
      | (apply VOps.ef; (focus (first | exact rfl | (simp [Fr.only, argsF, *]; done))); (focus (simp [Fr.only, argsF, *]; first | done | exact rfl | exact ⟨rfl, rfl⟩)))
      | (apply VOps.fin; (focus (simp only [Fr.only, Fr.get, Fr.pt, reduceIte, Nat.reduceEqDiff]; first | done | exact rfl)))
      | refine VW.seq ?_
      | refine VW.reg ?_
      | refine VW.block ?_
      | refine VW.skip ?_
      | refine VW.exit ?_
      | refine VW.ret ?_
      | (apply VW.condT; (focus (first | exact rfl | (simp [Fr.only, argsF, *]; done))))
      | (apply VW.condF; (focus (first | exact rfl | (simp [Fr.only, argsF, *]; done))))
      | (simp only [then_normal, then_ret, then_exit, inB_normal, inB_ret, inB_exit, reduceIte, Nat.reduceEqDiff])
    exact ⟨by simp, _, rfl, by rw [hS], hx⟩
  | false =>
    simp only [Bool.false_eq_true, if_false] at hS
    by_cases g1 : 0 ≤ term
    · rw [if_pos g1] at hS
      by_cases g2 : term < tg.length
      · rw [if_pos g2] at hS
        obtain ⟨q0, rfl, i0, d0⟩ := (hx.sl h4).int (k := term.toNat) (by omega)
        generalize tg.getD term.toNat 0 = dv at *
        repeat first
          | (apply VOps.rd; (focus (first | exact rfl | (simp [Fr.only, argsF, *]; done))); (focus (exact rfl)))
          | (apply VOps.sk; (focus (simp [Fr.only, argsF, *]; done)))
          | (apply VOps.rd; (focus (first | exact rfl | (simp [Fr.only, argsF, *]; done))); (focus (simp [Fr.only, argsF, *]; first | done | exact rfl)))
          | (apply VOps.ef; (focus (first | exact rfl | (simp [Fr.only, argsF, *]; done))); (focus (simp [Fr.only, argsF, *]; first | done | exact rfl | exact ⟨rfl, rfl⟩)))
          | (apply VOps.fin; (focus (simp only [Fr.only, Fr.get, Fr.pt, reduceIte, Nat.reduceEqDiff]; first | done | exact rfl)))
          | refine VW.seq ?_
          | refine VW.reg ?_
          | refine VW.block ?_
          | refine VW.skip ?_
          | refine VW.exit ?_
          | refine VW.ret ?_
          | (apply VW.condT; (focus (first | exact rfl | (simp [Fr.only, argsF, *]; done))))
          | (apply VW.condF; (focus (first | exact rfl | (simp [Fr.only, argsF, *]; done))))
          | (simp only [then_normal, then_ret, then_exit, inB_normal, inB_ret, inB_exit, reduceIte, Nat.reduceEqDiff])
        exact ⟨by simp, _, rfl, by rw [hS], hx⟩
      · rw [if_neg g2] at hS
        repeat first
          | (apply VOps.rd; (focus (first | exact rfl | (simp [Fr.only, argsF, *]; done))); (focus (exact rfl)))
          | (apply VOps.sk; (focus (simp [Fr.only, argsF, *]; done)))
          | (apply VOps.rd; (focus (first | exact rfl | (simp [Fr.only, argsF, *]; done))); (focus (simp [Fr.only, argsF, *]; first | done | exact rfl)))
          | (apply VOps.ef; (focus (first | exact rfl | (simp [Fr.only, argsF, *]; done))); (focus (simp [Fr.only, argsF, *]; first | done | exact rfl | exact ⟨rfl, rfl⟩)))
          | (apply VOps.fin; (focus (simp only [Fr.only, Fr.get, Fr.pt, reduceIte, Nat.reduceEqDiff]; first | done | exact rfl)))
          | refine VW.seq ?_
          | refine VW.reg ?_
          | refine VW.block ?_
          | refine VW.skip ?_
          | refine VW.exit ?_
          | refine VW.ret ?_
          | (apply VW.condT; (focus (first | exact rfl | (simp [Fr.only, argsF, *]; done))))
          | (apply VW.condF; (focus (first | exact rfl | (simp [Fr.only, argsF, *]; done))))
          | (simp only [then_normal, then_ret, then_exit, inB_normal, inB_ret, inB_exit, reduceIte, Nat.reduceEqDiff])
        exact ⟨by simp, _, rfl, by rw [hS], hx⟩
    · rw [if_neg g1] at hS
      repeat first
        | (apply VOps.rd; (focus (first | exact rfl | (simp [Fr.only, argsF, *]; done))); (focus (exact rfl)))
        | (apply VOps.sk; (focus (simp [Fr.only, argsF, *]; done)))
        | (apply VOps.rd; (focus (first | exact rfl | (simp [Fr.only, argsF, *]; done))); (focus (simp [Fr.only, argsF, *]; first | done | exact rfl)))
        | (apply VOps.ef; (focus (first | exact rfl | (simp [Fr.only, argsF, *]; done))); (focus (simp [Fr.only, argsF, *]; first | done | exact rfl | exact ⟨rfl, rfl⟩)))
        | (apply VOps.fin; (focus (simp only [Fr.only, Fr.get, Fr.pt, reduceIte, Nat.reduceEqDiff]; first | done | exact rfl)))
        | refine VW.seq ?_
        | refine VW.reg ?_
        | refine VW.block ?_
        | refine VW.skip ?_
        | refine VW.exit ?_
        | refine VW.ret ?_
        | (apply VW.condT; (focus (first | exact rfl | (simp [Fr.only, argsF, *]; done))))
        | (apply VW.condF; (focus (first | exact rfl | (simp [Fr.only, argsF, *]; done))))
        | (simp only [then_normal, then_ret, then_exit, inB_normal, inB_ret, inB_exit, reduceIte, Nat.reduceEqDiff])
      exact ⟨by simp, _, rfl, by rw [hS], hx⟩

theorem got21 (h4 : Sl H p4 1 (intEs tg)) (h5 : Sl H p5 1 (intEs gb)) (h6 : Sl H p6 1 (intEs gv)) (h7 : Sl H p7 1 (intEs go)) (hv : gv.length ≤ maxLen) (ho : go.length ≤ maxLen) :
    FnV Try.prog 21 [.agg (pkV p0 p1 p2 p3 p4 p5 p6 p7 c0 c1 c2 c3 c4 c5 c6 c7 df b v o tg gb gv go), .int .i64 state, .int .i64 term] H
      fun r H' => r = .int .i64 (gotoS tg gb gv go state term) ∧ Ext H H' := by
  refine FnV.enterRow ok21 (by show 3 ≤ 33; decide) fun B => ?_
  dsimp only [w21]
  refine VW.seq (VW.reg ?_)
  refine VOps.ef rfl (by simp; rfl) ?_
  refine VOps.rd rfl rfl ?_
  refine VOps.nil ⟨rfl, ?_⟩
  show VW _ _ _ _ [(1, .int .i64 state), (2, .int .i64 term), (3, .ptr (some ⟨H.length, 0, 0⟩))] _ _
  have hx : Ext H (H ++ [Blk.row 44 Mode.own [pkV p0 p1 p2 p3 p4 p5 p6 p7 c0 c1 c2 c3 c4 c5 c6 c7 df b v o tg gb gv go]]) := .app _ _
  have hb0 : (H ++ [Blk.row 44 Mode.own [pkV p0 p1 p2 p3 p4 p5 p6 p7 c0 c1 c2 c3 c4 c5 c6 c7 df b v o tg gb gv go]])[H.length]? = some (Blk.row 44 Mode.own [pkV p0 p1 p2 p3 p4 p5 p6 p7 c0 c1 c2 c3 c4 c5 c6 c7 df b v o tg gb gv go]) := by simp
  generalize H ++ [Blk.row 44 Mode.own [pkV p0 p1 p2 p3 p4 p5 p6 p7 c0 c1 c2 c3 c4 c5 c6 c7 df b v o tg gb gv go]] = H1 at *
  have l3 := lds_own hb0 5 3
  simp at l3
  refine VW.seq (VW.reg ?_)
  refine VOps.rd rfl rfl ?_
  refine VOps.rd rfl (by simp [l3]; rfl) ?_
  refine VOps.rd rfl rfl ?_
  refine VOps.rd rfl rfl ?_
  refine VOps.call rfl rfl rfl ((at17 (hx.sl h5) (hx.sl h6) (hx.sl h7) hv ho).mono ?_)
  rintro r H2 ⟨rfl, G, rfl⟩
  have hx2 : Ext H1 (H1 ++ G) := .app _ _
  replace hb0 := hx2.get hb0
  replace hx := hx.trans hx2
  clear hx2 l3
  generalize H1 ++ G = H2 at *
  have hS : gotoS tg gb gv go state term = gotoS tg gb gv go state term := rfl
  conv at hS => rhs; unfold gotoS
  generalize atS gb gv go term state = res at *
  obtain ⟨n, k⟩ := res
  repeat refine VOps.rd rfl rfl ?_
  refine VOps.nil ⟨rfl, ?_⟩
  show VW _ _ _ _ [(2, .int .i64 term), (3, .ptr (some ⟨H.length, 0, 0⟩)), (7, .int .i64 n), (8, .bool k)] _ _
  simp only at hS
  have l0 := ld_own hb0 4
  simp only [List.getElem?_cons_zero, List.getElem?_cons_succ] at l0
  cases k with
  | true =>
    simp only [if_true] at hS
    repeat first
      | (apply VOps.rd; (focus (first | exact rfl | (simp [Fr.only, argsF, *]; done))); (focus (exact rfl)))
      | (apply VOps.sk; (focus (simp [Fr.only, argsF, *]; done)))
      | (apply VOps.rd; (focus (first | exact rfl | (simp [Fr.only, argsF, *]; done))); (focus (simp [Fr.only, argsF, *]; first | done | exact rfl)))
      | (apply VOps.ef; (focus (first | exact rfl | (simp [Fr.only, argsF, *]; done))); (focus (simp [Fr.only, argsF, *]; first | done | exact rfl | exact ⟨rfl, rfl⟩)))
      | (apply VOps.fin; (focus (simp only [Fr.only, Fr.get, Fr.pt, reduceIte, Nat.reduceEqDiff]; first | done | exact rfl)))
      | refine VW.seq ?_
      | refine VW.reg ?_
      | refine VW.block ?_
      | refine VW.skip ?_
      | refine VW.exit ?_
      | refine VW.ret ?_
      | (apply VW.condT; (focus (first | exact rfl | (simp [Fr.only, argsF, *]; done))))
      | (apply VW.condF; (focus (first | exact rfl | (simp [Fr.only, argsF, *]; done))))
      | (simp only [then_normal, then_ret, then_exit, inB_normal, inB_ret, inB_exit, reduceIte, Nat.reduceEqDiff])
    exact ⟨by simp, _, rfl, by rw [hS], hx⟩
  | false =>
    simp only [Bool.false_eq_true, if_false] at hS
    by_cases g1 : 0 ≤ term
    · rw [if_pos g1] at hS
      by_cases g2 : term < tg.length
      · rw [if_pos g2] at hS
        obtain ⟨q0, rfl, i0, d0⟩ := (hx.sl h4).int (k := term.toNat) (by omega)
        generalize tg.getD term.toNat 0 = dv at *
        repeat first
          | (apply VOps.rd; (focus (first | exact rfl | (simp [Fr.only, argsF, *]; done))); (focus (exact rfl)))
          | (apply VOps.sk; (focus (simp [Fr.only, argsF, *]; done)))
          | (apply VOps.rd; (focus (first | exact rfl | (simp [Fr.only, argsF, *]; done))); (focus (simp [Fr.only, argsF, *]; first | done | exact rfl)))
          | (apply VOps.ef; (focus (first | exact rfl | (simp [Fr.only, argsF, *]; done))); (focus (simp [Fr.only, argsF, *]; first | done | exact rfl | exact ⟨rfl, rfl⟩)))
          | (apply VOps.fin; (focus (simp only [Fr.only, Fr.get, Fr.pt, reduceIte, Nat.reduceEqDiff]; first | done | exact rfl)))
          | refine VW.seq ?_
          | refine VW.reg ?_
          | refine VW.block ?_
          | refine VW.skip ?_
          | refine VW.exit ?_
          | refine VW.ret ?_
          | (apply VW.condT; (focus (first | exact rfl | (simp [Fr.only, argsF, *]; done))))
          | (apply VW.condF; (focus (first | exact rfl | (simp [Fr.only, argsF, *]; done))))
          | (simp only [then_normal, then_ret, then_exit, inB_normal, inB_ret, inB_exit, reduceIte, Nat.reduceEqDiff])
        exact ⟨by simp, _, rfl, by rw [hS], hx⟩
      · rw [if_neg g2] at hS
        repeat first
          | (apply VOps.rd; (focus (first | exact rfl | (simp [Fr.only, argsF, *]; done))); (focus (exact rfl)))
          | (apply VOps.sk; (focus (simp [Fr.only, argsF, *]; done)))
          | (apply VOps.rd; (focus (first | exact rfl | (simp [Fr.only, argsF, *]; done))); (focus (simp [Fr.only, argsF, *]; first | done | exact rfl)))
          | (apply VOps.ef; (focus (first | exact rfl | (simp [Fr.only, argsF, *]; done))); (focus (simp [Fr.only, argsF, *]; first | done | exact rfl | exact ⟨rfl, rfl⟩)))
          | (apply VOps.fin; (focus (simp only [Fr.only, Fr.get, Fr.pt, reduceIte, Nat.reduceEqDiff]; first | done | exact rfl)))
          | refine VW.seq ?_
          | refine VW.reg ?_
          | refine VW.block ?_
          | refine VW.skip ?_
          | refine VW.exit ?_
          | refine VW.ret ?_
          | (apply VW.condT; (focus (first | exact rfl | (simp [Fr.only, argsF, *]; done))))
          | (apply VW.condF; (focus (first | exact rfl | (simp [Fr.only, argsF, *]; done))))
          | (simp only [then_normal, then_ret, then_exit, inB_normal, inB_ret, inB_exit, reduceIte, Nat.reduceEqDiff])
        exact ⟨by simp, _, rfl, by rw [hS], hx⟩
    · rw [if_neg g1] at hS
      repeat first
        | (apply VOps.rd; (focus (first | exact rfl | (simp [Fr.only, argsF, *]; done))); (focus (exact rfl)))
        | (apply VOps.sk; (focus (simp [Fr.only, argsF, *]; done)))
        | (apply VOps.rd; (focus (first | exact rfl | (simp [Fr.only, argsF, *]; done))); (focus (simp [Fr.only, argsF, *]; first | done | exact rfl)))
        | (apply VOps.ef; (focus (first | exact rfl | (simp [Fr.only, argsF, *]; done))); (focus (simp [Fr.only, argsF, *]; first | done | exact rfl | exact ⟨rfl, rfl⟩)))
        | (apply VOps.fin; (focus (simp only [Fr.only, Fr.get, Fr.pt, reduceIte, Nat.reduceEqDiff]; first | done | exact rfl)))
        | refine VW.seq ?_
        | refine VW.reg ?_
        | refine VW.block ?_
        | refine VW.skip ?_
        | refine VW.exit ?_
        | refine VW.ret ?_
        | (apply VW.condT; (focus (first | exact rfl | (simp [Fr.only, argsF, *]; done))))
        | (apply VW.condF; (focus (first | exact rfl | (simp [Fr.only, argsF, *]; done))))
        | (simp only [then_normal, then_ret, then_exit, inB_normal, inB_ret, inB_exit, reduceIte, Nat.reduceEqDiff])
      exact ⟨by simp, _, rfl, by rw [hS], hx⟩
end
end Go.Proofs.Ytlclbfkdaemilaa
