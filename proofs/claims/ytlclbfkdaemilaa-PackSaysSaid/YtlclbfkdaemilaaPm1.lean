/- Several texts as one: PkA PkB PkC PkD PkE PkF PkG PkH PkI. -/
import Derived.Test.YtlclbfkdaemilaaMoB
import Derived.Test.YtlclbfkdaemilaaLyF
import Derived.Test.YtlclbfkdaemilaaLyK
/- Small functions of the packer: the keys, an action's number, may it stand, and searches. -/
namespace Go.Proofs.Ytlclbfkdaemilaa
set_option linter.unusedSimpArgs false
set_option linter.unusedVariables false
open Go Go.Vm Go.Proofs
set_option maxRecDepth 100000
set_option maxHeartbeats 1000000
section
variable {H : Hp} {p : Option PA} {c : Nat} {f : FuncId} {caps : List VV} {pr : Nat → Bool}
theorem find58 {vs : List VV} (h : Sl H p 1 (vs.map fun v => [v])) (hl : vs.length ≤ maxLen) (hf : ∀ k v, vs[k]? = some v → FnV Try.prog f ([v] ++ caps) H fun r H' => r = .bool (pr k) ∧ H' = H) :
    FnV Try.prog 58 [.sl p vs.length c, .fn f caps] H fun r H' => r = .int .i64 (firstAt pr vs.length 0) ∧ H' = H := by
  refine FnV.enterRow ok58 (by show 2 ≤ 19; decide) fun B => ?_
  dsimp only [w58]
  have hmx : maxLen = 9223372036854775807 := rfl
  refine VW.seq (VW.reg ?_)
  refine VOps.rd rfl rfl ?_
  refine VOps.nil ⟨rfl, ?_⟩
  refine VW.seq (VW.seq (VW.reg ?_))
  refine VOps.rd rfl rfl ?_
  refine VOps.rd rfl rfl ?_
  refine VOps.rd rfl rfl ?_
  refine VOps.nil ⟨rfl, ?_⟩
  show VW _ _ _ _ [(0, .sl p vs.length c), (1, .fn f caps), (7, .int .i64 vs.length), (8, .int .i64 0)] _ _
  refine VW.block ?_
  refine VW.loop (fun k F' H' => ∃ i : Int, 0 ≤ i ∧ i ≤ vs.length ∧ k = vs.length - i.toNat ∧ F' = [(0, .sl p vs.length c), (1, .fn f caps), (7, .int .i64 vs.length), (8, .int .i64 i)] ∧ H' = H ∧ firstAt pr vs.length 0 = firstAt pr (vs.length - i.toNat) i.toNat) vs.length
    ⟨0, by omega, by omega, rfl, rfl, rfl, rfl⟩ ?_
  rintro k F' H' ⟨i, i0, il, rfl, rfl, rfl, hS⟩
  by_cases hil : i < vs.length
  · have hk : i.toNat < vs.length := by omega
    obtain ⟨q, rfl, hq1⟩ := h.ixp (k := i.toNat) (by simpa using hk)
    have hq2 := h.ld0 (k := i.toNat) (e := [vs[i.toNat]]) (by simp [hk])
    simp only [List.getElem?_cons_zero] at hq2
    have hcall := hf i.toNat vs[i.toNat] (List.getElem?_eq_getElem hk)
    generalize vs[i.toNat] = v at *
    rw [show vs.length - i.toNat = (vs.length - (i + 1).toNat) + 1 by omega] at hS
    have hv := wrap_id (x := i + 1) (by omega) (by omega)
    refine VW.seq (VW.reg ?_)
    repeat first
      | (apply VOps.rd; (focus (first | exact rfl | (simp [Fr.only, argsF, *]; done))); (focus (exact rfl)))
      | (apply VOps.sk; (focus (simp [Fr.only, argsF, *]; done)))
      | (apply VOps.rd; (focus (first | exact rfl | (simp [Fr.only, argsF, *]; done))); (focus (simp [Fr.only, argsF, *]; first | done | exact rfl)))
    refine VOps.nil ⟨rfl, ?_⟩
    refine VW.seq (VW.condT (by simp [Fr.only, *]) (VW.skip ?_))
    refine VW.seq (VW.block (VW.seq (VW.reg ?_)))
    refine VOps.rd rfl rfl ?_
    refine VOps.rd rfl rfl ?_
    refine VOps.nil ⟨rfl, ?_⟩
    refine VW.seq (VW.reg ?_)
    refine VOps.rd rfl rfl ?_
    refine VOps.rd rfl rfl ?_
    refine VOps.rd rfl rfl ?_
    refine VOps.rd (v := .ptr (some (elp (some q) i.toNat))) rfl (by simp [Fr.only, *]) ?_
    refine VOps.rd (v := v) rfl (by simp [*]) ?_
    refine VOps.call rfl rfl rfl (hcall.mono ?_)
    rintro r H2 ⟨rfl, rfl⟩
    refine VOps.nil ⟨rfl, ?_⟩
    refine VW.cond rfl (fun a => ?_) (fun a => ?_)
    · have a : pr i.toNat = true := by simpa using a
      refine VW.seq (VW.reg ?_)
      refine VOps.rd rfl rfl ?_
      refine VOps.rd rfl rfl ?_
      refine VOps.nil ⟨rfl, VW.ret ⟨.inl rfl, .int .i64 i, rfl, ?_, rfl⟩⟩
      rw [hS]; unfold firstAt; rw [if_pos a, show ((i.toNat : Nat) : Int) = i by omega]
    · have a : pr i.toNat = false := by simpa using a
      refine VW.skip ?_
      refine VW.reg ?_
      refine VOps.rd rfl rfl ?_
      refine VOps.rd rfl rfl ?_
      refine VOps.nil ⟨rfl, vs.length - (i + 1).toNat, by omega, i + 1, by omega, by omega, rfl, by simp [Fr.only, hv], rfl, ?_⟩
      rw [hS, firstAt_no a, show i.toNat + 1 = (i + 1).toNat by omega]
  · have : i = vs.length := by omega
    subst this
    rw [show vs.length - ((vs.length : Int)).toNat = 0 by omega] at hS
    refine VW.seq (VW.reg ?_)
    repeat first
      | (apply VOps.rd; (focus (first | exact rfl | (simp [Fr.only, argsF, *]; done))); (focus (exact rfl)))
      | (apply VOps.sk; (focus (simp [Fr.only, argsF, *]; done)))
      | (apply VOps.rd; (focus (first | exact rfl | (simp [Fr.only, argsF, *]; done))); (focus (simp [Fr.only, argsF, *]; first | done | exact rfl)))
    refine VOps.nil ⟨rfl, ?_⟩
    refine VW.seq (VW.condF (by simp [Fr.only]) (VW.exit ?_))
    simp only [then_normal, then_ret, then_exit, inB_normal, inB_ret, inB_exit, reduceIte, Nat.reduceEqDiff]
    refine VW.seq (VW.reg ?_)
    refine VOps.rd rfl rfl ?_
    refine VOps.nil ⟨rfl, VW.ret ⟨.inl rfl, .int .i64 (-1), rfl, by rw [hS]; rfl, rfl⟩⟩

theorem has51 {vs : List VV} (h : Sl H p 1 (vs.map fun v => [v])) (hl : vs.length ≤ maxLen) (hf : ∀ k v, vs[k]? = some v → FnV Try.prog f ([v] ++ caps) H fun r H' => r = .bool (pr k) ∧ H' = H) {b : Bool} (hb : b = true ↔ ∃ k, k < vs.length ∧ pr k = true) :
    FnV Try.prog 51 [.sl p vs.length c, .fn f caps] H fun r H' => r = .bool b ∧ H' = H := by
  refine FnV.enterRow ok51 (by show 2 ≤ 9; decide) fun B => ?_
  dsimp only [w51]
  refine VW.seq (VW.reg ?_)
  refine VOps.rd rfl rfl ?_
  refine VOps.nil ⟨rfl, ?_⟩
  refine VW.seq (VW.reg ?_)
  refine VOps.rd rfl rfl ?_
  refine VOps.rd rfl rfl ?_
  refine VOps.call rfl rfl rfl ((find58 h hl hf).mono ?_)
  rintro r H2 ⟨rfl, rfl⟩
  refine VOps.rd rfl rfl ?_
  refine VOps.rd rfl rfl ?_
  refine VOps.nil ⟨rfl, VW.ret ⟨.inl rfl, _, rfl, ?_, rfl⟩⟩
  have := firstAt_nonneg (pr := pr) vs.length 0
  congr 1
  rw [Bool.eq_iff_iff, hb, decide_eq_true_iff, ge_iff_le, this]
  simp
theorem find57 {l : Edges} (h : Sl H p 2 (edgeEs l)) (hl : l.length ≤ maxLen) (hf : ∀ k, k < l.length → FnV Try.prog f ([.agg [.int .i64 (l.getD k (0, 0)).1, .int .i64 (l.getD k (0, 0)).2]] ++ caps) H fun r H' => r = .bool (pr k) ∧ H' = H) :
    FnV Try.prog 57 [.sl p l.length c, .fn f caps] H fun r H' => r = .int .i64 (firstAt pr l.length 0) ∧ H' = H := by
  refine FnV.enterRow ok57 (by show 2 ≤ 19; decide) fun B => ?_
  dsimp only [w57]
  have hmx : maxLen = 9223372036854775807 := rfl
  refine VW.seq (VW.reg ?_)
  refine VOps.rd rfl rfl ?_
  refine VOps.nil ⟨rfl, ?_⟩
  refine VW.seq (VW.seq (VW.reg ?_))
  refine VOps.rd rfl rfl ?_
  refine VOps.rd rfl rfl ?_
  refine VOps.rd rfl rfl ?_
  refine VOps.nil ⟨rfl, ?_⟩
  show VW _ _ _ _ [(0, .sl p l.length c), (1, .fn f caps), (7, .int .i64 l.length), (8, .int .i64 0)] _ _
  refine VW.block ?_
  refine VW.loop (fun k F' H' => ∃ i : Int, 0 ≤ i ∧ i ≤ l.length ∧ k = l.length - i.toNat ∧ F' = [(0, .sl p l.length c), (1, .fn f caps), (7, .int .i64 l.length), (8, .int .i64 i)] ∧ H' = H ∧ firstAt pr l.length 0 = firstAt pr (l.length - i.toNat) i.toNat) l.length
    ⟨0, by omega, by omega, rfl, rfl, rfl, rfl⟩ ?_
  rintro k F' H' ⟨i, i0, il, rfl, rfl, rfl, hS⟩
  by_cases hil : i < l.length
  · have hk : i.toNat < l.length := by omega
    obtain ⟨q, rfl, hq1, hq2, hq3, hq4⟩ := sl_edge h (k := i.toNat) (by omega)
    have hcall := hf i.toNat hk
    generalize (l.getD i.toNat (0, 0)).1 = sy at *
    generalize (l.getD i.toNat (0, 0)).2 = to at *
    rw [show l.length - i.toNat = (l.length - (i + 1).toNat) + 1 by omega] at hS
    have hv := wrap_id (x := i + 1) (by omega) (by omega)
    refine VW.seq (VW.reg ?_)
    repeat first
      | (apply VOps.rd; (focus (first | exact rfl | (simp [Fr.only, argsF, *]; done))); (focus (exact rfl)))
      | (apply VOps.sk; (focus (simp [Fr.only, argsF, *]; done)))
      | (apply VOps.rd; (focus (first | exact rfl | (simp [Fr.only, argsF, *]; done))); (focus (simp [Fr.only, argsF, *]; first | done | exact rfl)))
    refine VOps.nil ⟨rfl, ?_⟩
    refine VW.seq (VW.condT (by simp [Fr.only, *]) (VW.skip ?_))
    refine VW.seq (VW.block (VW.seq (VW.reg ?_)))
    refine VOps.rd rfl rfl ?_
    refine VOps.rd rfl rfl ?_
    refine VOps.nil ⟨rfl, ?_⟩
    refine VW.seq (VW.reg ?_)
    refine VOps.rd rfl rfl ?_
    refine VOps.rd rfl rfl ?_
    refine VOps.rd rfl rfl ?_
    refine VOps.rd (v := .ptr (some (elp (some q) i.toNat))) rfl (by simp [Fr.only, *]) ?_
    refine VOps.rd (v := .agg [.int .i64 sy, .int .i64 to]) rfl (by simp [*]) ?_
    refine VOps.call rfl rfl rfl (hcall.mono ?_)
    rintro r H2 ⟨rfl, rfl⟩
    refine VOps.nil ⟨rfl, ?_⟩
    refine VW.cond rfl (fun a => ?_) (fun a => ?_)
    · have a : pr i.toNat = true := by simpa using a
      refine VW.seq (VW.reg ?_)
      refine VOps.rd rfl rfl ?_
      refine VOps.rd rfl rfl ?_
      refine VOps.nil ⟨rfl, VW.ret ⟨.inl rfl, .int .i64 i, rfl, ?_, rfl⟩⟩
      rw [hS]; unfold firstAt; rw [if_pos a, show ((i.toNat : Nat) : Int) = i by omega]
    · have a : pr i.toNat = false := by simpa using a
      refine VW.skip ?_
      refine VW.reg ?_
      refine VOps.rd rfl rfl ?_
      refine VOps.rd rfl rfl ?_
      refine VOps.nil ⟨rfl, l.length - (i + 1).toNat, by omega, i + 1, by omega, by omega, rfl, by simp [Fr.only, hv], rfl, ?_⟩
      rw [hS, firstAt_no a, show i.toNat + 1 = (i + 1).toNat by omega]
  · have : i = l.length := by omega
    subst this
    rw [show l.length - ((l.length : Int)).toNat = 0 by omega] at hS
    refine VW.seq (VW.reg ?_)
    repeat first
      | (apply VOps.rd; (focus (first | exact rfl | (simp [Fr.only, argsF, *]; done))); (focus (exact rfl)))
      | (apply VOps.sk; (focus (simp [Fr.only, argsF, *]; done)))
      | (apply VOps.rd; (focus (first | exact rfl | (simp [Fr.only, argsF, *]; done))); (focus (simp [Fr.only, argsF, *]; first | done | exact rfl)))
    refine VOps.nil ⟨rfl, ?_⟩
    refine VW.seq (VW.condF (by simp [Fr.only]) (VW.exit ?_))
    simp only [then_normal, then_ret, then_exit, inB_normal, inB_ret, inB_exit, reduceIte, Nat.reduceEqDiff]
    refine VW.seq (VW.reg ?_)
    refine VOps.rd rfl rfl ?_
    refine VOps.nil ⟨rfl, VW.ret ⟨.inl rfl, .int .i64 (-1), rfl, by rw [hS]; rfl, rfl⟩⟩

theorem has48 {l : Edges} (h : Sl H p 2 (edgeEs l)) (hl : l.length ≤ maxLen) (hf : ∀ k, k < l.length → FnV Try.prog f ([.agg [.int .i64 (l.getD k (0, 0)).1, .int .i64 (l.getD k (0, 0)).2]] ++ caps) H fun r H' => r = .bool (pr k) ∧ H' = H) {b : Bool} (hb : b = true ↔ ∃ k, k < l.length ∧ pr k = true) :
    FnV Try.prog 48 [.sl p l.length c, .fn f caps] H fun r H' => r = .bool b ∧ H' = H := by
  refine FnV.enterRow ok48 (by show 2 ≤ 9; decide) fun B => ?_
  dsimp only [w48]
  refine VW.seq (VW.reg ?_)
  refine VOps.rd rfl rfl ?_
  refine VOps.nil ⟨rfl, ?_⟩
  refine VW.seq (VW.reg ?_)
  refine VOps.rd rfl rfl ?_
  refine VOps.rd rfl rfl ?_
  refine VOps.call rfl rfl rfl ((find57 h hl hf).mono ?_)
  rintro r H2 ⟨rfl, rfl⟩
  refine VOps.rd rfl rfl ?_
  refine VOps.rd rfl rfl ?_
  refine VOps.nil ⟨rfl, VW.ret ⟨.inl rfl, _, rfl, ?_, rfl⟩⟩
  have := firstAt_nonneg (pr := pr) l.length 0
  congr 1
  rw [Bool.eq_iff_iff, hb, decide_eq_true_iff, ge_iff_le, this]
  simp
end
def codeS (a b : Int) : Int := if a = 1 then 1 + b else if a = 2 then -1 - b else if a = 3 then -1 else 0
def mayA (n a b : Int) : Bool := if a = 1 then decide (0 ≤ b) && decide (b < n) else if a = 2 then decide (1 ≤ b) && decide (b ≤ 96) else decide (0 ≤ a) && decide (a ≤ 4) && decide (b = 0)
def mayG (n x : Int) : Bool := decide (-1 ≤ x) && decide (x < n)
section
variable {H : Hp}
theorem key39 (a b : Int) : FnV Try.prog 39 [.agg [.int .i64 a, .int .i64 b]] H fun r H' => r = .tup [.int .i64 b, .bool (a == 2)] ∧ H' = H := by
  refine FnV.calm rfl ?_
  refine FnV.enterRow ok39 (by show 1 ≤ 9; decide) fun B => ?_
  dsimp only [w39]
  refine VW.seq (VW.reg ?_)
  refine VOps.ef (v := .ptr (some ⟨H.length, 0, 0⟩)) (H' := H ++ [.row 46 .own [[.int .i64 a, .int .i64 b]]]) rfl (by simp [argsF]) ?_
  refine VOps.rd rfl rfl ?_
  refine VOps.rd rfl rfl ?_
  refine VOps.nil ⟨rfl, ?_⟩
  show VW _ _ _ _ [(1, .ptr (some ⟨H.length, 0, 0⟩))] _ _
  have hx : Ext H (H ++ [.row 46 .own [[VV.int .i64 a, .int .i64 b]]]) := .app _ _
  have hb : (H ++ [Blk.row 46 .own [[VV.int .i64 a, .int .i64 b]]])[H.length]? = some (.row 46 .own [[VV.int .i64 a, .int .i64 b]]) := by simp
  generalize H ++ [.row 46 .own [[VV.int .i64 a, .int .i64 b]]] = H1 at *
  have l0 := ld_own hb 0
  have l1 := ld_own hb 1
  simp only [List.getElem?_cons_zero, List.getElem?_cons_succ] at l0 l1
  generalize H.length = j at *
  refine VW.seq ?_
  refine VW.mono (Q := fun e F2 Hx => e = .normal ∧ F2 = [(2, .int .i64 b), (3, .bool (a == 2))] ∧ Hx = H1) ?_ ?_
  · refine VW.dreg [H1] mixed rfl ?_
    repeat first
      | (apply VX.rd1; (focus (first | exact rfl | (simp [Fr.only, argsF, *]; done))); (focus (exact rfl)))
      | (apply VX.sk1; (focus (simp [Fr.only, argsF, *]; done)))
      | (apply VX.rd1; (focus (first | exact rfl | (simp [Fr.only, argsF, *]; done))); (focus (simp [Fr.only, argsF, *]; first | done | exact rfl)))
    exact VX.nil ⟨rfl, by simp [Fr.only, *], rfl⟩
  rintro e F2 Hx ⟨rfl, rfl, rfl⟩
  exact VW.ret ⟨.inl rfl, _, rfl, rfl, hx⟩
theorem key42 {p : Option PA} {l : List Int} {c j n : Nat} (hn : ld H ⟨j, 0, 0⟩ = some (.int .i64 n)) (h : Sl H p 1 (intEs l)) (hl : n < l.length) : FnV Try.prog 42 [.sl p l.length c, .ptr (some ⟨j, 0, 0⟩)] H fun r H' => r = .tup [.int .i64 (l.getD n 0), .bool (decide (0 ≤ l.getD n 0))] ∧ H' = H := by
  obtain ⟨q, rfl, q1, q2⟩ := sl_int h hl
  generalize l.getD n 0 = x at *
  refine FnV.enterRow ok42 (by show 2 ≤ 14; decide) fun B => ?_
  dsimp only [w42]
  refine VW.seq (VW.reg ?_)
  refine VOps.rd rfl rfl ?_
  refine VOps.rd rfl rfl ?_
  refine VOps.nil ⟨rfl, ?_⟩
  show VW _ _ _ _ [(0, .sl (some q) l.length c), (1, .ptr (some ⟨j, 0, 0⟩))] _ _
  refine VW.seq ?_
  refine VW.mono (Q := fun e F2 Hx => e = .normal ∧ F2 = [(3, .int .i64 x), (4, .bool (decide (0 ≤ x)))] ∧ Hx = H) ?_ ?_
  · refine VW.dreg [H] mixed rfl ?_
    repeat first
      | (apply VX.rd1; (focus (first | exact rfl | (simp [Fr.only, argsF, *]; done))); (focus (exact rfl)))
      | (apply VX.sk1; (focus (simp [Fr.only, argsF, *]; done)))
      | (apply VX.rd1; (focus (first | exact rfl | (simp [Fr.only, argsF, *]; done))); (focus (simp [Fr.only, argsF, *]; first | done | exact rfl)))
    exact VX.nil ⟨rfl, by simp [Fr.only, *], rfl⟩
  rintro e F2 Hx ⟨rfl, rfl, rfl⟩
  exact VW.ret ⟨.inl rfl, _, rfl, rfl, rfl⟩
theorem code40 (a b : Int) (h0 : 0 ≤ b) (h1 : b ≤ 1000) : FnV Try.prog 40 [.agg [.int .i64 a, .int .i64 b]] H fun r H' => r = .int .i64 (codeS a b) ∧ H' = H := by
  refine FnV.calm rfl ?_
  refine FnV.enterRow ok40 (by show 1 ≤ 17; decide) fun B => ?_
  dsimp only [w40]
  refine VW.seq (VW.reg ?_)
  refine VOps.ef (v := .ptr (some ⟨H.length, 0, 0⟩)) (H' := H ++ [.row 46 .own [[.int .i64 a, .int .i64 b]]]) rfl (by simp [argsF]) ?_
  refine VOps.rd rfl rfl ?_
  refine VOps.nil ⟨rfl, ?_⟩
  show VW _ _ _ _ [(1, .ptr (some ⟨H.length, 0, 0⟩))] _ _
  have hx : Ext H (H ++ [.row 46 .own [[VV.int .i64 a, .int .i64 b]]]) := .app _ _
  have hb : (H ++ [Blk.row 46 .own [[VV.int .i64 a, .int .i64 b]]])[H.length]? = some (.row 46 .own [[VV.int .i64 a, .int .i64 b]]) := by simp
  generalize H ++ [.row 46 .own [[VV.int .i64 a, .int .i64 b]]] = H1 at *
  have l0 := ld_own hb 0
  have l1 := ld_own hb 1
  simp only [List.getElem?_cons_zero, List.getElem?_cons_succ] at l0 l1
  generalize H.length = j at *
  have hv1 := wrap_id (x := 1 + b) (by omega) (by omega)
  have hv2 := wrap_id (x := -1 - b) (by omega) (by omega)
  clear hb h0 h1
  have hS : codeS a b = if a = 1 then 1 + b else if a = 2 then -1 - b else if a = 3 then -1 else 0 := rfl
  by_cases g1 : a = 1
  · rw [if_pos g1] at hS; rw [hS]; clear hS
    subst g1
    repeat first
      | (apply VOps.rd; (focus (first | exact rfl | (simp [Fr.only, argsF, *]; done))); (focus (exact rfl)))
      | (apply VOps.sk; (focus (simp [Fr.only, argsF, *]; done)))
      | (apply VOps.rd; (focus (first | exact rfl | (simp [Fr.only, argsF, *]; done))); (focus (simp [Fr.only, argsF, *]; first | done | exact rfl)))
      | (apply VOps.ef; (focus (first | exact rfl | (simp [Fr.only, argsF, *]; done))); (focus (simp [Fr.only, argsF, *]; first | done | exact rfl | exact ⟨rfl, rfl⟩)))
      | (apply VOps.fin; (focus (simp only [Fr.only, Fr.get, Fr.pt, reduceIte, Nat.reduceEqDiff]; first | done | exact rfl)))
      | refine VW.seq ?_
      | refine VW.reg ?_
      | refine VW.block ?_
      | refine VW.skip ?_
      | refine VW.exit ?_
      | refine VW.ret ?_
      | (apply VW.condT; (focus (first | exact rfl | (simp [Fr.only, argsF, *]; done))))
      | (apply VW.condF; (focus (first | exact rfl | (simp [Fr.only, argsF, *]; done))))
      | (simp only [then_normal, then_ret, then_exit, inB_normal, inB_ret, inB_exit, reduceIte, Nat.reduceEqDiff])
    exact ⟨by simp, _, rfl, by simp [*], hx⟩
  · rw [if_neg g1] at hS
    by_cases g2 : a = 2
    · rw [if_pos g2] at hS; rw [hS]; clear hS
      subst g2
      repeat first
        | (apply VOps.rd; (focus (first | exact rfl | (simp [Fr.only, argsF, *]; done))); (focus (exact rfl)))
        | (apply VOps.sk; (focus (simp [Fr.only, argsF, *]; done)))
        | (apply VOps.rd; (focus (first | exact rfl | (simp [Fr.only, argsF, *]; done))); (focus (simp [Fr.only, argsF, *]; first | done | exact rfl)))
        | (apply VOps.ef; (focus (first | exact rfl | (simp [Fr.only, argsF, *]; done))); (focus (simp [Fr.only, argsF, *]; first | done | exact rfl | exact ⟨rfl, rfl⟩)))
        | (apply VOps.fin; (focus (simp only [Fr.only, Fr.get, Fr.pt, reduceIte, Nat.reduceEqDiff]; first | done | exact rfl)))
        | refine VW.seq ?_
        | refine VW.reg ?_
        | refine VW.block ?_
        | refine VW.skip ?_
        | refine VW.exit ?_
        | refine VW.ret ?_
        | (apply VW.condT; (focus (first | exact rfl | (simp [Fr.only, argsF, *]; done))))
        | (apply VW.condF; (focus (first | exact rfl | (simp [Fr.only, argsF, *]; done))))
        | (simp only [then_normal, then_ret, then_exit, inB_normal, inB_ret, inB_exit, reduceIte, Nat.reduceEqDiff])
      exact ⟨by simp, _, rfl, by simp [*], hx⟩
    · rw [if_neg g2] at hS
      by_cases g3 : a = 3
      · rw [if_pos g3] at hS; rw [hS]; clear hS
        subst g3
        repeat first
          | (apply VOps.rd; (focus (first | exact rfl | (simp [Fr.only, argsF, *]; done))); (focus (exact rfl)))
          | (apply VOps.sk; (focus (simp [Fr.only, argsF, *]; done)))
          | (apply VOps.rd; (focus (first | exact rfl | (simp [Fr.only, argsF, *]; done))); (focus (simp [Fr.only, argsF, *]; first | done | exact rfl)))
          | (apply VOps.ef; (focus (first | exact rfl | (simp [Fr.only, argsF, *]; done))); (focus (simp [Fr.only, argsF, *]; first | done | exact rfl | exact ⟨rfl, rfl⟩)))
          | (apply VOps.fin; (focus (simp only [Fr.only, Fr.get, Fr.pt, reduceIte, Nat.reduceEqDiff]; first | done | exact rfl)))
          | refine VW.seq ?_
          | refine VW.reg ?_
          | refine VW.block ?_
          | refine VW.skip ?_
          | refine VW.exit ?_
          | refine VW.ret ?_
          | (apply VW.condT; (focus (first | exact rfl | (simp [Fr.only, argsF, *]; done))))
          | (apply VW.condF; (focus (first | exact rfl | (simp [Fr.only, argsF, *]; done))))
          | (simp only [then_normal, then_ret, then_exit, inB_normal, inB_ret, inB_exit, reduceIte, Nat.reduceEqDiff])
        exact ⟨by simp, _, rfl, by simp [*], hx⟩
      · rw [if_neg g3] at hS; rw [hS]; clear hS
        repeat first
          | (apply VOps.rd; (focus (first | exact rfl | (simp [Fr.only, argsF, *]; done))); (focus (exact rfl)))
          | (apply VOps.sk; (focus (simp [Fr.only, argsF, *]; done)))
          | (apply VOps.rd; (focus (first | exact rfl | (simp [Fr.only, argsF, *]; done))); (focus (simp [Fr.only, argsF, *]; first | done | exact rfl)))
          | (apply VOps.ef; (focus (first | exact rfl | (simp [Fr.only, argsF, *]; done))); (focus (simp [Fr.only, argsF, *]; first | done | exact rfl | exact ⟨rfl, rfl⟩)))
          | (apply VOps.fin; (focus (simp only [Fr.only, Fr.get, Fr.pt, reduceIte, Nat.reduceEqDiff]; first | done | exact rfl)))
          | refine VW.seq ?_
          | refine VW.reg ?_
          | refine VW.block ?_
          | refine VW.skip ?_
          | refine VW.exit ?_
          | refine VW.ret ?_
          | (apply VW.condT; (focus (first | exact rfl | (simp [Fr.only, argsF, *]; done))))
          | (apply VW.condF; (focus (first | exact rfl | (simp [Fr.only, argsF, *]; done))))
          | (simp only [then_normal, then_ret, then_exit, inB_normal, inB_ret, inB_exit, reduceIte, Nat.reduceEqDiff])
        exact ⟨by simp, _, rfl, by simp [*], hx⟩
theorem code44 (a b : Int) (h0 : 0 ≤ b) (h1 : b ≤ 1000) : FnV Try.prog 44 [.agg [.int .i64 a, .int .i64 b]] H fun r H' => r = .int .i64 (codeS a b) ∧ H' = H := by
  refine FnV.calm rfl ?_
  refine FnV.enterRow ok44 (by show 1 ≤ 17; decide) fun B => ?_
  dsimp only [w44]
  refine VW.seq (VW.reg ?_)
  refine VOps.ef (v := .ptr (some ⟨H.length, 0, 0⟩)) (H' := H ++ [.row 46 .own [[.int .i64 a, .int .i64 b]]]) rfl (by simp [argsF]) ?_
  refine VOps.rd rfl rfl ?_
  refine VOps.nil ⟨rfl, ?_⟩
  show VW _ _ _ _ [(1, .ptr (some ⟨H.length, 0, 0⟩))] _ _
  have hx : Ext H (H ++ [.row 46 .own [[VV.int .i64 a, .int .i64 b]]]) := .app _ _
  have hb : (H ++ [Blk.row 46 .own [[VV.int .i64 a, .int .i64 b]]])[H.length]? = some (.row 46 .own [[VV.int .i64 a, .int .i64 b]]) := by simp
  generalize H ++ [.row 46 .own [[VV.int .i64 a, .int .i64 b]]] = H1 at *
  have l0 := ld_own hb 0
  have l1 := ld_own hb 1
  simp only [List.getElem?_cons_zero, List.getElem?_cons_succ] at l0 l1
  generalize H.length = j at *
  have hv1 := wrap_id (x := 1 + b) (by omega) (by omega)
  have hv2 := wrap_id (x := -1 - b) (by omega) (by omega)
  clear hb h0 h1
  have hS : codeS a b = if a = 1 then 1 + b else if a = 2 then -1 - b else if a = 3 then -1 else 0 := rfl
  by_cases g1 : a = 1
  · rw [if_pos g1] at hS; rw [hS]; clear hS
    subst g1
    repeat first
      | (apply VOps.rd; (focus (first | exact rfl | (simp [Fr.only, argsF, *]; done))); (focus (exact rfl)))
      | (apply VOps.sk; (focus (simp [Fr.only, argsF, *]; done)))
      | (apply VOps.rd; (focus (first | exact rfl | (simp [Fr.only, argsF, *]; done))); (focus (simp [Fr.only, argsF, *]; first | done | exact rfl)))
      | (apply VOps.ef; (focus (first | exact rfl | (simp [Fr.only, argsF, *]; done))); (focus (simp [Fr.only, argsF, *]; first | done | exact rfl | exact ⟨rfl, rfl⟩)))
      | (apply VOps.fin; (focus (simp only [Fr.only, Fr.get, Fr.pt, reduceIte, Nat.reduceEqDiff]; first | done | exact rfl)))
      | refine VW.seq ?_
      | refine VW.reg ?_
      | refine VW.block ?_
      | refine VW.skip ?_
      | refine VW.exit ?_
      | refine VW.ret ?_
      | (apply VW.condT; (focus (first | exact rfl | (simp [Fr.only, argsF, *]; done))))
      | (apply VW.condF; (focus (first | exact rfl | (simp [Fr.only, argsF, *]; done))))
      | (simp only [then_normal, then_ret, then_exit, inB_normal, inB_ret, inB_exit, reduceIte, Nat.reduceEqDiff])
    exact ⟨by simp, _, rfl, by simp [*], hx⟩
  · rw [if_neg g1] at hS
    by_cases g2 : a = 2
    · rw [if_pos g2] at hS; rw [hS]; clear hS
      subst g2
      repeat first
        | (apply VOps.rd; (focus (first | exact rfl | (simp [Fr.only, argsF, *]; done))); (focus (exact rfl)))
        | (apply VOps.sk; (focus (simp [Fr.only, argsF, *]; done)))
        | (apply VOps.rd; (focus (first | exact rfl | (simp [Fr.only, argsF, *]; done))); (focus (simp [Fr.only, argsF, *]; first | done | exact rfl)))
        | (apply VOps.ef; (focus (first | exact rfl | (simp [Fr.only, argsF, *]; done))); (focus (simp [Fr.only, argsF, *]; first | done | exact rfl | exact ⟨rfl, rfl⟩)))
        | (apply VOps.fin; (focus (simp only [Fr.only, Fr.get, Fr.pt, reduceIte, Nat.reduceEqDiff]; first | done | exact rfl)))
        | refine VW.seq ?_
        | refine VW.reg ?_
        | refine VW.block ?_
        | refine VW.skip ?_
        | refine VW.exit ?_
        | refine VW.ret ?_
        | (apply VW.condT; (focus (first | exact rfl | (simp [Fr.only, argsF, *]; done))))
        | (apply VW.condF; (focus (first | exact rfl | (simp [Fr.only, argsF, *]; done))))
        | (simp only [then_normal, then_ret, then_exit, inB_normal, inB_ret, inB_exit, reduceIte, Nat.reduceEqDiff])
      exact ⟨by simp, _, rfl, by simp [*], hx⟩
    · rw [if_neg g2] at hS
      by_cases g3 : a = 3
      · rw [if_pos g3] at hS; rw [hS]; clear hS
        subst g3
        repeat first
          | (apply VOps.rd; (focus (first | exact rfl | (simp [Fr.only, argsF, *]; done))); (focus (exact rfl)))
          | (apply VOps.sk; (focus (simp [Fr.only, argsF, *]; done)))
          | (apply VOps.rd; (focus (first | exact rfl | (simp [Fr.only, argsF, *]; done))); (focus (simp [Fr.only, argsF, *]; first | done | exact rfl)))
          | (apply VOps.ef; (focus (first | exact rfl | (simp [Fr.only, argsF, *]; done))); (focus (simp [Fr.only, argsF, *]; first | done | exact rfl | exact ⟨rfl, rfl⟩)))
          | (apply VOps.fin; (focus (simp only [Fr.only, Fr.get, Fr.pt, reduceIte, Nat.reduceEqDiff]; first | done | exact rfl)))
          | refine VW.seq ?_
          | refine VW.reg ?_
          | refine VW.block ?_
          | refine VW.skip ?_
          | refine VW.exit ?_
          | refine VW.ret ?_
          | (apply VW.condT; (focus (first | exact rfl | (simp [Fr.only, argsF, *]; done))))
          | (apply VW.condF; (focus (first | exact rfl | (simp [Fr.only, argsF, *]; done))))
          | (simp only [then_normal, then_ret, then_exit, inB_normal, inB_ret, inB_exit, reduceIte, Nat.reduceEqDiff])
        exact ⟨by simp, _, rfl, by simp [*], hx⟩
      · rw [if_neg g3] at hS; rw [hS]; clear hS
        repeat first
          | (apply VOps.rd; (focus (first | exact rfl | (simp [Fr.only, argsF, *]; done))); (focus (exact rfl)))
          | (apply VOps.sk; (focus (simp [Fr.only, argsF, *]; done)))
          | (apply VOps.rd; (focus (first | exact rfl | (simp [Fr.only, argsF, *]; done))); (focus (simp [Fr.only, argsF, *]; first | done | exact rfl)))
          | (apply VOps.ef; (focus (first | exact rfl | (simp [Fr.only, argsF, *]; done))); (focus (simp [Fr.only, argsF, *]; first | done | exact rfl | exact ⟨rfl, rfl⟩)))
          | (apply VOps.fin; (focus (simp only [Fr.only, Fr.get, Fr.pt, reduceIte, Nat.reduceEqDiff]; first | done | exact rfl)))
          | refine VW.seq ?_
          | refine VW.reg ?_
          | refine VW.block ?_
          | refine VW.skip ?_
          | refine VW.exit ?_
          | refine VW.ret ?_
          | (apply VW.condT; (focus (first | exact rfl | (simp [Fr.only, argsF, *]; done))))
          | (apply VW.condF; (focus (first | exact rfl | (simp [Fr.only, argsF, *]; done))))
          | (simp only [then_normal, then_ret, then_exit, inB_normal, inB_ret, inB_exit, reduceIte, Nat.reduceEqDiff])
        exact ⟨by simp, _, rfl, by simp [*], hx⟩
theorem may50 (n a b : Int) : FnV Try.prog 50 [.agg [.int .i64 a, .int .i64 b], .int .i64 n] H fun r H' => r = .bool (mayA n a b) ∧ H' = H := by
  refine FnV.calm rfl ?_
  refine FnV.enterRow ok50 (by show 2 ≤ 41; decide) fun B => ?_
  dsimp only [w50]
  refine VW.seq (VW.reg ?_)
  refine VOps.ef (v := .ptr (some ⟨H.length, 0, 0⟩)) (H' := H ++ [.row 46 .own [[.int .i64 a, .int .i64 b]]]) rfl (by simp [argsF]) ?_
  refine VOps.rd rfl rfl ?_
  refine VOps.nil ⟨rfl, ?_⟩
  show VW _ _ _ _ [(1, .int .i64 n), (2, .ptr (some ⟨H.length, 0, 0⟩))] _ _
  have hx : Ext H (H ++ [.row 46 .own [[VV.int .i64 a, .int .i64 b]]]) := .app _ _
  have hb : (H ++ [Blk.row 46 .own [[VV.int .i64 a, .int .i64 b]]])[H.length]? = some (.row 46 .own [[VV.int .i64 a, .int .i64 b]]) := by simp
  generalize H ++ [.row 46 .own [[VV.int .i64 a, .int .i64 b]]] = H1 at *
  have l0 := ld_own hb 0
  have l1 := ld_own hb 1
  simp only [List.getElem?_cons_zero, List.getElem?_cons_succ] at l0 l1
  generalize H.length = j at *
  clear hb
  have hS : mayA n a b = if a = 1 then decide (0 ≤ b) && decide (b < n) else if a = 2 then decide (1 ≤ b) && decide (b ≤ 96) else decide (0 ≤ a) && decide (a ≤ 4) && decide (b = 0) := rfl
  by_cases g1 : a = 1
  · rw [if_pos g1] at hS; rw [hS]; clear hS
    subst g1
    by_cases y1 : 0 ≤ b
    · repeat first
        | (apply VOps.rd; (focus (first | exact rfl | (simp [Fr.only, argsF, *]; done))); (focus (exact rfl)))
        | (apply VOps.sk; (focus (simp [Fr.only, argsF, *]; done)))
        | (apply VOps.rd; (focus (first | exact rfl | (simp [Fr.only, argsF, *]; done))); (focus (simp [Fr.only, argsF, *]; first | done | exact rfl)))
        | (apply VOps.ef; (focus (first | exact rfl | (simp [Fr.only, argsF, *]; done))); (focus (simp [Fr.only, argsF, *]; first | done | exact rfl | exact ⟨rfl, rfl⟩)))
        | (apply VOps.fin; (focus (simp only [Fr.only, Fr.get, Fr.pt, reduceIte, Nat.reduceEqDiff]; first | done | exact rfl)))
        | refine VW.seq ?_
        | refine VW.reg ?_
        | refine VW.block ?_
        | refine VW.skip ?_
        | refine VW.exit ?_
        | refine VW.ret ?_
        | (apply VW.condT; (focus (first | exact rfl | (simp [Fr.only, argsF, *]; done))))
        | (apply VW.condF; (focus (first | exact rfl | (simp [Fr.only, argsF, *]; done))))
        | (simp only [then_normal, then_ret, then_exit, inB_normal, inB_ret, inB_exit, reduceIte, Nat.reduceEqDiff])
      exact ⟨by simp, _, rfl, by simp [y1], hx⟩
    · repeat first
        | (apply VOps.rd; (focus (first | exact rfl | (simp [Fr.only, argsF, *]; done))); (focus (exact rfl)))
        | (apply VOps.sk; (focus (simp [Fr.only, argsF, *]; done)))
        | (apply VOps.rd; (focus (first | exact rfl | (simp [Fr.only, argsF, *]; done))); (focus (simp [Fr.only, argsF, *]; first | done | exact rfl)))
        | (apply VOps.ef; (focus (first | exact rfl | (simp [Fr.only, argsF, *]; done))); (focus (simp [Fr.only, argsF, *]; first | done | exact rfl | exact ⟨rfl, rfl⟩)))
        | (apply VOps.fin; (focus (simp only [Fr.only, Fr.get, Fr.pt, reduceIte, Nat.reduceEqDiff]; first | done | exact rfl)))
        | refine VW.seq ?_
        | refine VW.reg ?_
        | refine VW.block ?_
        | refine VW.skip ?_
        | refine VW.exit ?_
        | refine VW.ret ?_
        | (apply VW.condT; (focus (first | exact rfl | (simp [Fr.only, argsF, *]; done))))
        | (apply VW.condF; (focus (first | exact rfl | (simp [Fr.only, argsF, *]; done))))
        | (simp only [then_normal, then_ret, then_exit, inB_normal, inB_ret, inB_exit, reduceIte, Nat.reduceEqDiff])
      exact ⟨by simp, _, rfl, by simp [y1], hx⟩
  · rw [if_neg g1] at hS
    by_cases g2 : a = 2
    · rw [if_pos g2] at hS; rw [hS]; clear hS
      subst g2
      by_cases y1 : 1 ≤ b
      · repeat first
          | (apply VOps.rd; (focus (first | exact rfl | (simp [Fr.only, argsF, *]; done))); (focus (exact rfl)))
          | (apply VOps.sk; (focus (simp [Fr.only, argsF, *]; done)))
          | (apply VOps.rd; (focus (first | exact rfl | (simp [Fr.only, argsF, *]; done))); (focus (simp [Fr.only, argsF, *]; first | done | exact rfl)))
          | (apply VOps.ef; (focus (first | exact rfl | (simp [Fr.only, argsF, *]; done))); (focus (simp [Fr.only, argsF, *]; first | done | exact rfl | exact ⟨rfl, rfl⟩)))
          | (apply VOps.fin; (focus (simp only [Fr.only, Fr.get, Fr.pt, reduceIte, Nat.reduceEqDiff]; first | done | exact rfl)))
          | refine VW.seq ?_
          | refine VW.reg ?_
          | refine VW.block ?_
          | refine VW.skip ?_
          | refine VW.exit ?_
          | refine VW.ret ?_
          | (apply VW.condT; (focus (first | exact rfl | (simp [Fr.only, argsF, *]; done))))
          | (apply VW.condF; (focus (first | exact rfl | (simp [Fr.only, argsF, *]; done))))
          | (simp only [then_normal, then_ret, then_exit, inB_normal, inB_ret, inB_exit, reduceIte, Nat.reduceEqDiff])
        exact ⟨by simp, _, rfl, by simp [y1], hx⟩
      · repeat first
          | (apply VOps.rd; (focus (first | exact rfl | (simp [Fr.only, argsF, *]; done))); (focus (exact rfl)))
          | (apply VOps.sk; (focus (simp [Fr.only, argsF, *]; done)))
          | (apply VOps.rd; (focus (first | exact rfl | (simp [Fr.only, argsF, *]; done))); (focus (simp [Fr.only, argsF, *]; first | done | exact rfl)))
          | (apply VOps.ef; (focus (first | exact rfl | (simp [Fr.only, argsF, *]; done))); (focus (simp [Fr.only, argsF, *]; first | done | exact rfl | exact ⟨rfl, rfl⟩)))
          | (apply VOps.fin; (focus (simp only [Fr.only, Fr.get, Fr.pt, reduceIte, Nat.reduceEqDiff]; first | done | exact rfl)))
          | refine VW.seq ?_
          | refine VW.reg ?_
          | refine VW.block ?_
          | refine VW.skip ?_
          | refine VW.exit ?_
          | refine VW.ret ?_
          | (apply VW.condT; (focus (first | exact rfl | (simp [Fr.only, argsF, *]; done))))
          | (apply VW.condF; (focus (first | exact rfl | (simp [Fr.only, argsF, *]; done))))
          | (simp only [then_normal, then_ret, then_exit, inB_normal, inB_ret, inB_exit, reduceIte, Nat.reduceEqDiff])
        exact ⟨by simp, _, rfl, by simp [y1], hx⟩
    · rw [if_neg g2] at hS; rw [hS]; clear hS
      by_cases y1 : 0 ≤ a
      · by_cases y2 : a ≤ 4
        · repeat first
            | (apply VOps.rd; (focus (first | exact rfl | (simp [Fr.only, argsF, *]; done))); (focus (exact rfl)))
            | (apply VOps.sk; (focus (simp [Fr.only, argsF, *]; done)))
            | (apply VOps.rd; (focus (first | exact rfl | (simp [Fr.only, argsF, *]; done))); (focus (simp [Fr.only, argsF, *]; first | done | exact rfl)))
            | (apply VOps.ef; (focus (first | exact rfl | (simp [Fr.only, argsF, *]; done))); (focus (simp [Fr.only, argsF, *]; first | done | exact rfl | exact ⟨rfl, rfl⟩)))
            | (apply VOps.fin; (focus (simp only [Fr.only, Fr.get, Fr.pt, reduceIte, Nat.reduceEqDiff]; first | done | exact rfl)))
            | refine VW.seq ?_
            | refine VW.reg ?_
            | refine VW.block ?_
            | refine VW.skip ?_
            | refine VW.exit ?_
            | refine VW.ret ?_
            | (apply VW.condT; (focus (first | exact rfl | (simp [Fr.only, argsF, *]; done))))
            | (apply VW.condF; (focus (first | exact rfl | (simp [Fr.only, argsF, *]; done))))
            | (simp only [then_normal, then_ret, then_exit, inB_normal, inB_ret, inB_exit, reduceIte, Nat.reduceEqDiff])
          exact ⟨by simp, _, rfl, (by simp [y1, y2]; first | done | rfl), hx⟩
        · repeat first
            | (apply VOps.rd; (focus (first | exact rfl | (simp [Fr.only, argsF, *]; done))); (focus (exact rfl)))
            | (apply VOps.sk; (focus (simp [Fr.only, argsF, *]; done)))
            | (apply VOps.rd; (focus (first | exact rfl | (simp [Fr.only, argsF, *]; done))); (focus (simp [Fr.only, argsF, *]; first | done | exact rfl)))
            | (apply VOps.ef; (focus (first | exact rfl | (simp [Fr.only, argsF, *]; done))); (focus (simp [Fr.only, argsF, *]; first | done | exact rfl | exact ⟨rfl, rfl⟩)))
            | (apply VOps.fin; (focus (simp only [Fr.only, Fr.get, Fr.pt, reduceIte, Nat.reduceEqDiff]; first | done | exact rfl)))
            | refine VW.seq ?_
            | refine VW.reg ?_
            | refine VW.block ?_
            | refine VW.skip ?_
            | refine VW.exit ?_
            | refine VW.ret ?_
            | (apply VW.condT; (focus (first | exact rfl | (simp [Fr.only, argsF, *]; done))))
            | (apply VW.condF; (focus (first | exact rfl | (simp [Fr.only, argsF, *]; done))))
            | (simp only [then_normal, then_ret, then_exit, inB_normal, inB_ret, inB_exit, reduceIte, Nat.reduceEqDiff])
          exact ⟨by simp, _, rfl, by simp [y1, y2], hx⟩
      · repeat first
          | (apply VOps.rd; (focus (first | exact rfl | (simp [Fr.only, argsF, *]; done))); (focus (exact rfl)))
          | (apply VOps.sk; (focus (simp [Fr.only, argsF, *]; done)))
          | (apply VOps.rd; (focus (first | exact rfl | (simp [Fr.only, argsF, *]; done))); (focus (simp [Fr.only, argsF, *]; first | done | exact rfl)))
          | (apply VOps.ef; (focus (first | exact rfl | (simp [Fr.only, argsF, *]; done))); (focus (simp [Fr.only, argsF, *]; first | done | exact rfl | exact ⟨rfl, rfl⟩)))
          | (apply VOps.fin; (focus (simp only [Fr.only, Fr.get, Fr.pt, reduceIte, Nat.reduceEqDiff]; first | done | exact rfl)))
          | refine VW.seq ?_
          | refine VW.reg ?_
          | refine VW.block ?_
          | refine VW.skip ?_
          | refine VW.exit ?_
          | refine VW.ret ?_
          | (apply VW.condT; (focus (first | exact rfl | (simp [Fr.only, argsF, *]; done))))
          | (apply VW.condF; (focus (first | exact rfl | (simp [Fr.only, argsF, *]; done))))
          | (simp only [then_normal, then_ret, then_exit, inB_normal, inB_ret, inB_exit, reduceIte, Nat.reduceEqDiff])
        exact ⟨by simp, _, rfl, by simp [y1], hx⟩
theorem not49 {j : Nat} {n a b : Int} (hn : ld H ⟨j, 0, 0⟩ = some (.int .i64 n)) : FnV Try.prog 49 [.agg [.int .i64 a, .int .i64 b], .ptr (some ⟨j, 0, 0⟩)] H fun r H' => r = .bool (!mayA n a b) ∧ H' = H := by
  refine FnV.calm rfl ?_
  refine FnV.enterRow ok49 (by show 2 ≤ 8; decide) fun B => ?_
  dsimp only [w49]
  refine VW.seq (VW.reg ?_)
  refine VOps.ef (v := .ptr (some ⟨H.length, 0, 0⟩)) (H' := H ++ [.row 46 .own [[.int .i64 a, .int .i64 b]]]) rfl (by simp [argsF]) ?_
  refine VOps.rd rfl rfl ?_
  refine VOps.nil ⟨rfl, ?_⟩
  show VW _ _ _ _ [(1, .ptr (some ⟨j, 0, 0⟩)), (2, .ptr (some ⟨H.length, 0, 0⟩))] _ _
  have hx : Ext H (H ++ [.row 46 .own [[VV.int .i64 a, .int .i64 b]]]) := .app _ _
  have hb : (H ++ [Blk.row 46 .own [[VV.int .i64 a, .int .i64 b]]])[H.length]? = some (.row 46 .own [[VV.int .i64 a, .int .i64 b]]) := by simp
  replace hn := ext_ld hx hn
  generalize H ++ [.row 46 .own [[VV.int .i64 a, .int .i64 b]]] = H1 at *
  have l2 := lds_own hb 0 2
  simp only [List.length_cons, List.length_nil, Nat.zero_add, Nat.le_refl, if_true, List.drop_zero, List.take_succ_cons, List.take_zero] at l2
  generalize H.length = i at *
  refine VW.seq (VW.reg ?_)
  refine VOps.rd (v := .agg [.int .i64 a, .int .i64 b]) rfl (by simp [l2]) ?_
  refine VOps.rd (v := .int .i64 n) rfl (by simp [hn]) ?_
  refine VOps.call rfl rfl rfl ((may50 n a b).mono ?_)
  rintro r Hy ⟨rfl, rfl⟩
  refine VOps.rd rfl rfl ?_
  refine VOps.rd rfl rfl ?_
  exact VOps.nil ⟨rfl, VW.ret ⟨.inl rfl, _, rfl, rfl, hx⟩⟩
theorem bad52 {j : Nat} {n x : Int} (hn : ld H ⟨j, 0, 0⟩ = some (.int .i64 n)) : FnV Try.prog 52 [.int .i64 x, .ptr (some ⟨j, 0, 0⟩)] H fun r H' => r = .bool (!mayG n x) ∧ H' = H := by
  refine FnV.enterRow ok52 (by show 2 ≤ 11; decide) fun B => ?_
  dsimp only [w52]
  unfold mayG
  by_cases y1 : x < -1
  · have y2 : ¬ -1 ≤ x := by omega
    repeat first
      | (apply VOps.rd; (focus (first | exact rfl | (simp [Fr.only, argsF, *]; done))); (focus (exact rfl)))
      | (apply VOps.sk; (focus (simp [Fr.only, argsF, *]; done)))
      | (apply VOps.rd; (focus (first | exact rfl | (simp [Fr.only, argsF, *]; done))); (focus (simp [Fr.only, argsF, *]; first | done | exact rfl)))
      | (apply VOps.ef; (focus (first | exact rfl | (simp [Fr.only, argsF, *]; done))); (focus (simp [Fr.only, argsF, *]; first | done | exact rfl | exact ⟨rfl, rfl⟩)))
      | (apply VOps.fin; (focus (simp only [Fr.only, Fr.get, Fr.pt, reduceIte, Nat.reduceEqDiff]; first | done | exact rfl)))
      | refine VW.seq ?_
      | refine VW.reg ?_
      | refine VW.block ?_
      | refine VW.skip ?_
      | refine VW.exit ?_
      | refine VW.ret ?_
      | (apply VW.condT; (focus (first | exact rfl | (simp [Fr.only, argsF, *]; done))))
      | (apply VW.condF; (focus (first | exact rfl | (simp [Fr.only, argsF, *]; done))))
      | (simp only [then_normal, then_ret, then_exit, inB_normal, inB_ret, inB_exit, reduceIte, Nat.reduceEqDiff])
    exact ⟨by simp, _, rfl, by simp [y2], trivial⟩
  · have y2 : -1 ≤ x := by omega
    repeat first
      | (apply VOps.rd; (focus (first | exact rfl | (simp [Fr.only, argsF, *]; done))); (focus (exact rfl)))
      | (apply VOps.sk; (focus (simp [Fr.only, argsF, *]; done)))
      | (apply VOps.rd; (focus (first | exact rfl | (simp [Fr.only, argsF, *]; done))); (focus (simp [Fr.only, argsF, *]; first | done | exact rfl)))
      | (apply VOps.ef; (focus (first | exact rfl | (simp [Fr.only, argsF, *]; done))); (focus (simp [Fr.only, argsF, *]; first | done | exact rfl | exact ⟨rfl, rfl⟩)))
      | (apply VOps.fin; (focus (simp only [Fr.only, Fr.get, Fr.pt, reduceIte, Nat.reduceEqDiff]; first | done | exact rfl)))
      | refine VW.seq ?_
      | refine VW.reg ?_
      | refine VW.block ?_
      | refine VW.skip ?_
      | refine VW.exit ?_
      | refine VW.ret ?_
      | (apply VW.condT; (focus (first | exact rfl | (simp [Fr.only, argsF, *]; done))))
      | (apply VW.condF; (focus (first | exact rfl | (simp [Fr.only, argsF, *]; done))))
      | (simp only [then_normal, then_ret, then_exit, inB_normal, inB_ret, inB_exit, reduceIte, Nat.reduceEqDiff])
    refine ⟨by simp, _, rfl, ?_, trivial⟩
    by_cases y3 : x < n
    · simp [y2, y3]
    · have y4 : n ≤ x := by omega
      simp [y2, y3, y4]
end
end Go.Proofs.Ytlclbfkdaemilaa

/- May a table be packed: the program's function. -/
namespace Go.Proofs.Ytlclbfkdaemilaa
set_option linter.unusedSimpArgs false
set_option linter.unusedVariables false
open Go Go.Vm Go.Proofs
set_option maxRecDepth 100000
set_option maxHeartbeats 1000000

/-- rows of ints -/
def RowI (H : Hp) (vs : List VV) (rows : List (List Int)) : Prop := vs.length = rows.length ∧ ∀ k, k < rows.length → ∃ p c, vs[k]? = some (.sl p (rows.getD k []).length c) ∧ Sl H p 1 (intEs (rows.getD k [])) ∧ (rows.getD k []).length ≤ maxLen
theorem RowI.ext {A B : Hp} {vs : List VV} {rows : List (List Int)} (h : RowI A vs rows) (hx : Ext A B) : RowI B vs rows :=
  ⟨h.1, fun k hk => let ⟨p, c, h1, h2, h3⟩ := h.2 k hk; ⟨p, c, h1, hx.sl h2, h3⟩⟩
theorem rowI_at {H : Hp} {p : Option PA} {vs : List VV} {rows : List (List Int)} (h : Sl H p 1 (vs.map fun v => [v])) (hr : RowI H vs rows) {k : Nat} (hk : k < rows.length) :
    ∃ q pk c, p = some q ∧ Vm.ixp H q k 1 = some (elp (some q) k) ∧ Vm.ld H (elp (some q) k) = some (.sl pk (rows.getD k []).length c) ∧ Sl H pk 1 (intEs (rows.getD k [])) ∧ (rows.getD k []).length ≤ maxLen := by
  obtain ⟨pk, c, h1, h2, h3⟩ := hr.2 k hk
  obtain ⟨q, rfl, hq⟩ := h.ixp (k := k) (by simp [hr.1, hk])
  have := h.ld0 (k := k) (e := [.sl pk (rows.getD k []).length c]) (by simp [h1])
  exact ⟨q, pk, c, rfl, hq, by simpa using this, h2, h3⟩
/-- a dense table -/
structure Den (H : Hp) (pa pg : Option PA) (al : List Edges) (gs : List (List Int)) (was wgs : List VV) : Prop where
  sa : Sl H pa 1 (was.map fun v => [v])
  ra : RowV H was al
  sg : Sl H pg 1 (wgs.map fun v => [v])
  rg : RowI H wgs gs
  la : al.length ≤ maxLen
  lg : gs.length ≤ maxLen
theorem Den.ext {A B : Hp} {pa pg : Option PA} {al : List Edges} {gs : List (List Int)} {was wgs : List VV} (h : Den A pa pg al gs was wgs) (hx : Ext A B) : Den B pa pg al gs was wgs :=
  ⟨hx.sl h.sa, h.ra.ext hx, hx.sl h.sg, h.rg.ext hx, h.la, h.lg⟩
abbrev denV (pa pg : Option PA) (ca cg : Nat) (al : List Edges) (gs : List (List Int)) : VV := .agg [.sl pa al.length ca, .sl pg gs.length cg]

def mayRow (n : Int) (t s : Nat) (l : Edges) (g : List Int) : Bool := decide (l.length = t) && decide (g.length = s) && l.all (fun e => mayA n e.1 e.2) && g.all (mayG n)
def mayFrom (n : Int) (t s : Nat) (al : List Edges) (gs : List (List Int)) : Nat → Nat → Bool
  | 0, _ => true
  | m + 1, i => mayRow n t s (al.getD i []) (gs.getD i []) && mayFrom n t s al gs m (i + 1)
def mayD (al : List Edges) (gs : List (List Int)) : Bool :=
  decide (1 ≤ al.length) && decide (al.length ≤ 256) && decide (gs.length = al.length) &&
  (decide (1 ≤ (al.getD 0 []).length) && decide (1 ≤ (gs.getD 0 []).length) && decide ((al.getD 0 []).length ≤ 65) && decide ((gs.getD 0 []).length ≤ 65)) &&
  mayFrom al.length (al.getD 0 []).length (gs.getD 0 []).length al gs al.length 0
theorem any_at {α : Type} {f : α → Bool} {l : List α} {d : α} : (l.any f = true) ↔ ∃ k, k < l.length ∧ f (l.getD k d) = true := by
  rw [List.any_eq_true]
  constructor
  · rintro ⟨x, h1, h2⟩
    obtain ⟨k, hk, rfl⟩ := List.getElem_of_mem h1
    exact ⟨k, hk, by simpa [List.getD, hk] using h2⟩
  · rintro ⟨k, hk, h2⟩
    exact ⟨l[k], List.getElem_mem hk, by simpa [List.getD, hk] using h2⟩

section
variable {H : Hp} {pa pg : Option PA} {ca cg : Nat} {al : List Edges} {gs : List (List Int)} {was wgs : List VV}
theorem has48_all {p : Option PA} {c j : Nat} {n : Int} {l : Edges} (h : Sl H p 2 (edgeEs l)) (hl : l.length ≤ maxLen) (hn : ld H ⟨j, 0, 0⟩ = some (.int .i64 n)) :
    FnV Try.prog 48 [.sl p l.length c, .fn 49 [.ptr (some ⟨j, 0, 0⟩)]] H fun r H' => r = .bool (!l.all fun e => mayA n e.1 e.2) ∧ H' = H := by
  refine has48 h hl (pr := fun k => !mayA n (l.getD k (0, 0)).1 (l.getD k (0, 0)).2) (fun k hk => not49 hn) ?_
  rw [List.not_all_eq_any_not, any_at (d := ((0, 0) : Int × Int))]
theorem has51_all {p : Option PA} {c j : Nat} {n : Int} {l : List Int} (h : Sl H p 1 (intEs l)) (hl : l.length ≤ maxLen) (hn : ld H ⟨j, 0, 0⟩ = some (.int .i64 n)) :
    FnV Try.prog 51 [.sl p l.length c, .fn 52 [.ptr (some ⟨j, 0, 0⟩)]] H fun r H' => r = .bool (!l.all (mayG n)) ∧ H' = H := by
  have h2 : Sl H p 1 ((l.map fun x => VV.int .i64 x).map fun v => [v]) := by rw [List.map_map]; exact h
  have hh := has51 (c := c) (f := 52) (caps := [.ptr (some ⟨j, 0, 0⟩)]) h2 (by simpa using hl) (pr := fun k => !mayG n (l.getD k 0)) (fun k v hv => by
    rw [List.getElem?_map] at hv
    obtain ⟨x, hx, rfl⟩ := Option.map_eq_some_iff.1 hv
    have : l.getD k 0 = x := by simp [List.getD, hx]
    rw [this]
    exact bad52 hn) (b := !l.all (mayG n)) (by
    rw [List.not_all_eq_any_not, any_at (d := (0 : Int)), List.length_map])
  rw [List.length_map] at hh
  exact hh

theorem right37 (h : Den H pa pg al gs was wgs) : FnV Try.prog 37 [denV pa pg ca cg al gs] H fun r H' => r = .bool (mayD al gs) ∧ H' = H := by
  refine FnV.calm rfl ?_
  refine FnV.enterRow ok37 (by show 1 ≤ 82; decide) fun B => ?_
  dsimp only [w37]
  have hmx : maxLen = 9223372036854775807 := rfl
  refine VW.seq (VW.reg ?_)
  refine VOps.ef (v := .ptr (some ⟨H.length, 0, 0⟩)) (H' := H ++ [.row 53 .own [[.sl pa al.length ca, .sl pg gs.length cg]]]) rfl (by simp [argsF]) ?_
  refine VOps.rd rfl rfl ?_
  refine VOps.nil ⟨rfl, ?_⟩
  show VW _ _ _ _ [(1, .ptr (some ⟨H.length, 0, 0⟩))] _ _
  have hx : Ext H (H ++ [.row 53 .own [[.sl pa al.length ca, .sl pg gs.length cg]]]) := .app _ _
  have hb : (H ++ [Blk.row 53 .own [[.sl pa al.length ca, .sl pg gs.length cg]]])[H.length]? = some (.row 53 .own [[.sl pa al.length ca, .sl pg gs.length cg]]) := by simp
  replace h := h.ext hx
  generalize H ++ [.row 53 .own [[.sl pa al.length ca, .sl pg gs.length cg]]] = H1 at *
  have l0 := ld_own hb 0
  simp only [List.getElem?_cons_zero] at l0
  generalize H.length = j at *
  refine VW.seq (VW.reg ?_)
  refine VOps.rd rfl rfl ?_
  refine VOps.rd (v := .sl pa al.length ca) rfl (by simp [l0]) ?_
  refine VOps.rd rfl rfl ?_
  refine VOps.ef (v := .ptr (some ⟨H1.length, 0, 0⟩)) (H' := H1 ++ [.row 3 .own [[.int .i64 0]]]) rfl rfl ?_
  refine VOps.ef (v := .undef) (H' := H1 ++ [.row 3 .own [[.int .i64 al.length]]]) rfl (by simp [stc, okCells, VV.cell, upd]) ?_
  refine VOps.nil ⟨rfl, ?_⟩
  show VW _ _ _ _ [(1, .ptr (some ⟨j, 0, 0⟩)), (3, .ptr (some ⟨H1.length, 0, 0⟩))] _ _
  have hx2 : Ext H1 (H1 ++ [.row 3 .own [[.int .i64 al.length]]]) := .app _ _
  have hb2 : (H1 ++ [Blk.row 3 .own [[.int .i64 al.length]]])[H1.length]? = some (.row 3 .own [[.int .i64 al.length]]) := by simp
  replace hb := hx2.get hb
  replace h := h.ext hx2
  replace hx := hx.trans hx2
  generalize H1 ++ [.row 3 .own [[.int .i64 al.length]]] = H2 at *
  generalize H1.length = i at *
  have l0 := ld_own hb 0
  have l1 := ld_own hb 1
  have ln := ld_own hb2 0
  simp only [List.getElem?_cons_zero, List.getElem?_cons_succ] at l0 l1 ln
  clear hb hb2 hx2
  have hS : mayD al gs = (decide (1 ≤ al.length) && decide (al.length ≤ 256) && decide (gs.length = al.length) &&
    (decide (1 ≤ (al.getD 0 []).length) && decide (1 ≤ (gs.getD 0 []).length) && decide ((al.getD 0 []).length ≤ 65) && decide ((gs.getD 0 []).length ≤ 65)) &&
    mayFrom al.length (al.getD 0 []).length (gs.getD 0 []).length al gs al.length 0) := rfl
  generalize mayD al gs = res at *
  by_cases y1 : 1 ≤ al.length
  rotate_left
  · have y : (al.length : Int) < 1 := by omega
    replace hS : Hid (res = false) := by unfold Hid; rw [hS]; simp [y1]
    clear y1 hmx h
    repeat first
      | (apply VOps.rd; (focus (first | exact rfl | (simp [Fr.only, argsF, *]; done))); (focus (exact rfl)))
      | (apply VOps.sk; (focus (simp [Fr.only, argsF, *]; done)))
      | (apply VOps.rd; (focus (first | exact rfl | (simp [Fr.only, argsF, *]; done))); (focus (simp [Fr.only, argsF, *]; first | done | exact rfl)))
      | (apply VOps.ef; (focus (first | exact rfl | (simp [Fr.only, argsF, *]; done))); (focus (simp [Fr.only, argsF, *]; first | done | exact rfl | exact ⟨rfl, rfl⟩)))
      | (apply VOps.fin; (focus (simp only [Fr.only, Fr.get, Fr.pt, reduceIte, Nat.reduceEqDiff]; first | done | exact rfl)))
      | refine VW.seq ?_
      | refine VW.reg ?_
      | refine VW.block ?_
      | refine VW.skip ?_
      | refine VW.exit ?_
      | refine VW.ret ?_
      | (apply VW.condT; (focus (first | exact rfl | (simp [Fr.only, argsF, *]; done))))
      | (apply VW.condF; (focus (first | exact rfl | (simp [Fr.only, argsF, *]; done))))
      | (simp only [then_normal, then_ret, then_exit, inB_normal, inB_ret, inB_exit, reduceIte, Nat.reduceEqDiff])
    exact ⟨by simp, _, rfl, by rw [hS.out], hx⟩
  by_cases y2 : al.length ≤ 256
  rotate_left
  · have y : ¬ (al.length : Int) < 1 := by omega
    have y' : (256 : Int) < al.length := by omega
    replace hS : Hid (res = false) := by unfold Hid; rw [hS]; simp [y2]
    clear y1 y2 hmx h
    repeat first
      | (apply VOps.rd; (focus (first | exact rfl | (simp [Fr.only, argsF, *]; done))); (focus (exact rfl)))
      | (apply VOps.sk; (focus (simp [Fr.only, argsF, *]; done)))
      | (apply VOps.rd; (focus (first | exact rfl | (simp [Fr.only, argsF, *]; done))); (focus (simp [Fr.only, argsF, *]; first | done | exact rfl)))
      | (apply VOps.ef; (focus (first | exact rfl | (simp [Fr.only, argsF, *]; done))); (focus (simp [Fr.only, argsF, *]; first | done | exact rfl | exact ⟨rfl, rfl⟩)))
      | (apply VOps.fin; (focus (simp only [Fr.only, Fr.get, Fr.pt, reduceIte, Nat.reduceEqDiff]; first | done | exact rfl)))
      | refine VW.seq ?_
      | refine VW.reg ?_
      | refine VW.block ?_
      | refine VW.skip ?_
      | refine VW.exit ?_
      | refine VW.ret ?_
      | (apply VW.condT; (focus (first | exact rfl | (simp [Fr.only, argsF, *]; done))))
      | (apply VW.condF; (focus (first | exact rfl | (simp [Fr.only, argsF, *]; done))))
      | (simp only [then_normal, then_ret, then_exit, inB_normal, inB_ret, inB_exit, reduceIte, Nat.reduceEqDiff])
    exact ⟨by simp, _, rfl, by rw [hS.out], hx⟩
  by_cases y3 : gs.length = al.length
  rotate_left
  · have y : ¬ (al.length : Int) < 1 := by omega
    have y' : ¬ (256 : Int) < al.length := by omega
    have y'' : ¬ (gs.length : Int) = al.length := by omega
    replace hS : Hid (res = false) := by unfold Hid; rw [hS]; simp [y3]
    clear y1 y2 y3 hmx h
    repeat first
      | (apply VOps.rd; (focus (first | exact rfl | (simp [Fr.only, argsF, *]; done))); (focus (exact rfl)))
      | (apply VOps.sk; (focus (simp [Fr.only, argsF, *]; done)))
      | (apply VOps.rd; (focus (first | exact rfl | (simp [Fr.only, argsF, *]; done))); (focus (simp [Fr.only, argsF, *]; first | done | exact rfl)))
      | (apply VOps.ef; (focus (first | exact rfl | (simp [Fr.only, argsF, *]; done))); (focus (simp [Fr.only, argsF, *]; first | done | exact rfl | exact ⟨rfl, rfl⟩)))
      | (apply VOps.fin; (focus (simp only [Fr.only, Fr.get, Fr.pt, reduceIte, Nat.reduceEqDiff]; first | done | exact rfl)))
      | refine VW.seq ?_
      | refine VW.reg ?_
      | refine VW.block ?_
      | refine VW.skip ?_
      | refine VW.exit ?_
      | refine VW.ret ?_
      | (apply VW.condT; (focus (first | exact rfl | (simp [Fr.only, argsF, *]; done))))
      | (apply VW.condF; (focus (first | exact rfl | (simp [Fr.only, argsF, *]; done))))
      | (simp only [then_normal, then_ret, then_exit, inB_normal, inB_ret, inB_exit, reduceIte, Nat.reduceEqDiff])
    exact ⟨by simp, _, rfl, by rw [hS.out], hx⟩
  rw [decide_eq_true y1, decide_eq_true y2, decide_eq_true y3, Bool.true_and, Bool.true_and, Bool.true_and] at hS
  obtain ⟨q, pk, ck, hq, a1, a2, a3, a4⟩ := row_at h.sa h.ra (k := 0) (by omega)
  obtain ⟨q', pk', ck', hq', b1, b2, b3, b4⟩ := rowI_at h.sg h.rg (k := 0) (by omega)
  have z0 : 0 < al.length := by omega
  have z0' : 0 < gs.length := by omega
  refine VW.seq ?_
  refine VW.mono (Q := fun e F2 Hx => e = .normal ∧ Cov [(1, .ptr (some ⟨j, 0, 0⟩)), (3, .ptr (some ⟨i, 0, 0⟩))] F2 ∧ Hx = H2) ?_ ?_
  · have y : ¬ (al.length : Int) < 1 := by omega
    have y' : ¬ (256 : Int) < al.length := by omega
    replace hS : Hid True := trivial
    have y'' : (gs.length : Int) = al.length := by omega
    clear y1 y2 y3 hmx h z0 z0' a1 a2 a3 a4 b1 b2 b3 b4
    repeat first
      | (apply VOps.rd; (focus (first | exact rfl | (simp [Fr.only, argsF, *]; done))); (focus (exact rfl)))
      | (apply VOps.sk; (focus (simp [Fr.only, argsF, *]; done)))
      | (apply VOps.rd; (focus (first | exact rfl | (simp [Fr.only, argsF, *]; done))); (focus (simp [Fr.only, argsF, *]; first | done | exact rfl)))
      | (apply VOps.ef; (focus (first | exact rfl | (simp [Fr.only, argsF, *]; done))); (focus (simp [Fr.only, argsF, *]; first | done | exact rfl | exact ⟨rfl, rfl⟩)))
      | (apply VOps.fin; (focus (simp only [Fr.only, Fr.get, Fr.pt, reduceIte, Nat.reduceEqDiff]; first | done | exact rfl)))
      | refine VW.seq ?_
      | refine VW.reg ?_
      | refine VW.block ?_
      | refine VW.skip ?_
      | refine VW.exit ?_
      | refine VW.ret ?_
      | (apply VW.condT; (focus (first | exact rfl | (simp [Fr.only, argsF, *]; done))))
      | (apply VW.condF; (focus (first | exact rfl | (simp [Fr.only, argsF, *]; done))))
      | (simp only [then_normal, then_ret, then_exit, inB_normal, inB_ret, inB_exit, reduceIte, Nat.reduceEqDiff])
    exact ⟨trivial, by simp [Cov, Fr.only], trivial⟩
  rintro e F2 Hx ⟨rfl, hcov, rfl⟩
  refine VW.sub hcov ?_
  clear hcov
  generalize ht : (al.getD 0 []).length = t at *
  generalize hs : (gs.getD 0 []).length = s at *
  refine VW.seq ?_
  refine VW.mono (Q := fun e F2 Hy => e = .normal ∧ F2 = [(1, .ptr (some ⟨j, 0, 0⟩)), (3, .ptr (some ⟨i, 0, 0⟩)), (4, .int .i64 t), (5, .int .i64 s)] ∧ Hy = Hx) ?_ ?_
  · subst hq hq'
    refine VW.dreg [Hx] mixed rfl ?_
    clear hS y1 y2 y3 ht hs
    refine VX.rd1 rfl rfl ?_
    refine VX.rd1 (v := .sl (some q) al.length ca) rfl (by simp [l0]) ?_
    refine VX.rd1 (v := .ptr (some (elp (some q) 0))) rfl (by simp [Fr.only, a1, z0]) ?_
    refine VX.rd1 (v := .sl pk t ck) rfl (by simp [a2]) ?_
    refine VX.rd1 rfl rfl ?_
    refine VX.rd1 rfl rfl ?_
    refine VX.rd1 (v := .sl (some q') gs.length cg) rfl (by simp [l1]) ?_
    refine VX.rd1 (v := .ptr (some (elp (some q') 0))) rfl (by simp [Fr.only, b1, z0']) ?_
    refine VX.rd1 (v := .sl pk' s ck') rfl (by simp [b2]) ?_
    refine VX.rd1 rfl rfl ?_
    refine VX.rd1 rfl rfl ?_
    refine VX.rd1 rfl rfl ?_
    exact VX.nil ⟨rfl, rfl, rfl⟩
  rintro e F2 Hy ⟨rfl, rfl, rfl⟩
  clear a1 a2 a3 a4 b1 b2 b3 b4 hq hq' z0 z0'
  obtain ⟨mn, hmn⟩ : ∃ mn : Int, (if (s : Int) < t then (s : Int) else t) = mn := ⟨_, rfl⟩
  obtain ⟨mx, hmx2⟩ : ∃ mx : Int, (if (s : Int) > t then (s : Int) else t) = mx := ⟨_, rfl⟩
  refine VW.seq (VW.seq (VW.reg ?_))
  refine VOps.rd rfl rfl ?_
  refine VOps.rd rfl rfl ?_
  refine VOps.rd (v := .int .i64 mn) rfl (by rw [← hmn]; rfl) ?_
  refine VOps.rd rfl rfl ?_
  refine VOps.rd rfl rfl ?_
  have bad : ¬ (1 ≤ t ∧ 1 ≤ s ∧ t ≤ 65 ∧ s ≤ 65) → res = false := fun u1 => by
    rw [hS]
    have : (decide (1 ≤ t) && decide (1 ≤ s) && decide (t ≤ 65) && decide (s ≤ 65)) = false := by
      rw [Bool.eq_false_iff]; intro hc; simp at hc; exact u1 ⟨hc.1.1.1, hc.1.1.2, hc.1.2, hc.2⟩
    rw [this]; rfl
  by_cases w1 : mn < 1
  · have hbad := bad (by intro u1; have : ¬ mn < 1 := by rw [← hmn]; split <;> omega
                         exact this w1)
    show VOps _ _ _ _ ((37, .bool (decide (mn < 1))) :: _) _ _
    rw [decide_eq_true w1]
    iterate 4 refine VOps.sk rfl ?_
    refine VOps.rd (v := .bool true) rfl rfl ?_
    refine VOps.nil ⟨rfl, VW.condT rfl (VW.seq (VW.reg ?_))⟩
    refine VOps.rd rfl rfl ?_
    exact VOps.nil ⟨rfl, VW.ret ⟨.inl rfl, _, rfl, by rw [hbad], hx⟩⟩
  show VOps _ _ _ _ ((37, .bool (decide (mn < 1))) :: _) _ _
  rw [decide_eq_false w1]
  refine VOps.rd rfl rfl ?_
  refine VOps.rd rfl rfl ?_
  refine VOps.rd (v := .int .i64 mx) rfl (by rw [← hmx2]; rfl) ?_
  refine VOps.rd (v := .bool (decide (65 < mx))) rfl rfl ?_
  refine VOps.rd (v := .bool (decide (65 < mx))) rfl rfl ?_
  refine VOps.nil ⟨rfl, ?_⟩
  refine VW.cond rfl (fun w2 => ?_) (fun w2 => ?_)
  · replace w2 := of_decide_eq_true w2
    have hbad := bad (by intro u1; have : ¬ 65 < mx := by rw [← hmx2]; split <;> omega
                         exact this w2)
    refine VW.seq (VW.reg ?_)
    refine VOps.rd rfl rfl ?_
    exact VOps.nil ⟨rfl, VW.ret ⟨.inl rfl, _, rfl, by rw [hbad], hx⟩⟩
  replace w2 := of_decide_eq_false w2
  have u1 : 1 ≤ t ∧ 1 ≤ s ∧ t ≤ 65 ∧ s ≤ 65 := by
    rw [← hmn] at w1; rw [← hmx2] at w2
    split at w1 <;> split at w2 <;> omega
  have u2 : (decide (1 ≤ t) && decide (1 ≤ s) && decide (t ≤ 65) && decide (s ≤ 65)) = true := by simp [u1]
  rw [u2, Bool.true_and] at hS
  clear bad hmn hmx2 w1 w2 u2
  refine VW.skip ?_
  refine VW.seq (VW.seq (VW.reg ?_))
  refine VOps.rd (v := .int .i64 al.length) rfl (by simp [Fr.only, ln]) ?_
  refine VOps.rd rfl rfl ?_
  refine VOps.nil ⟨rfl, ?_⟩
  show VW _ _ _ _ [(1, .ptr (some ⟨j, 0, 0⟩)), (3, .ptr (some ⟨i, 0, 0⟩)), (4, .int .i64 t), (5, .int .i64 s), (43, .int .i64 al.length), (44, .int .i64 0)] _ _
  refine VW.block ?_
  refine VW.loop (fun m F' H' => ∃ k : Nat, k ≤ al.length ∧ m = al.length - k ∧ F' = [(1, .ptr (some ⟨j, 0, 0⟩)), (3, .ptr (some ⟨i, 0, 0⟩)), (4, .int .i64 t), (5, .int .i64 s), (43, .int .i64 al.length), (44, .int .i64 k)] ∧ H' = Hy ∧ res = mayFrom al.length t s al gs (al.length - k) k) al.length
    ⟨0, by omega, rfl, rfl, rfl, hS⟩ ?_
  clear hS ht hs
  rintro m F' H' ⟨k, hk, rfl, rfl, rfl, hS⟩
  by_cases hlt : k < al.length
  · have hvk := wrap_id (x := (k : Int) + 1) (by omega) (by omega)
    have hlt2 : k < gs.length := by omega
    obtain ⟨q, pk, ck, hq, a1, a2, a3, a4⟩ := row_at h.sa h.ra hlt
    obtain ⟨q', pk', ck', hq', b1, b2, b3, b4⟩ := rowI_at h.sg h.rg hlt2
    subst hq hq'
    rw [show al.length - k = (al.length - (k + 1)) + 1 by omega] at hS
    unfold mayFrom mayRow at hS
    generalize al.getD k [] = la at *
    generalize gs.getD k [] = lg at *
    have ca1 := has48_all (c := ck) (n := al.length) a3 a4 ln
    have cg1 := has51_all (c := ck') (n := al.length) b3 b4 ln
    refine VW.seq (VW.reg ?_)
    refine VOps.rd rfl rfl ?_
    refine VOps.nil ⟨rfl, VW.seq (VW.condT (by simp [Fr.only, hlt]) (VW.skip ?_))⟩
    refine VW.seq (VW.block (VW.seq (VW.reg ?_)))
    refine VOps.rd rfl rfl ?_
    refine VOps.rd rfl rfl ?_
    refine VOps.nil ⟨rfl, ?_⟩
    show VW _ _ _ _ [(1, .ptr (some ⟨j, 0, 0⟩)), (3, .ptr (some ⟨i, 0, 0⟩)), (4, .int .i64 t), (5, .int .i64 s), (6, .int .i64 k), (43, .int .i64 al.length), (44, .int .i64 k)] _ _
    refine VW.seq (VW.seq (VW.reg ?_))
    refine VOps.rd rfl rfl ?_
    refine VOps.rd (v := .sl (some q) al.length ca) rfl (by simp [l0]) ?_
    refine VOps.rd rfl rfl ?_
    refine VOps.rd (v := .ptr (some (elp (some q) k))) rfl (by simp [a1, hlt]) ?_
    refine VOps.rd (v := .sl pk la.length ck) rfl (by simp [a2]) ?_
    refine VOps.rd rfl rfl ?_
    refine VOps.rd rfl rfl ?_
    refine VOps.rd (v := .bool (!decide (la.length = t))) rfl (by simp [bne, beq_natCast]) ?_
    refine VOps.rd rfl rfl ?_
    by_cases e1 : la.length = t
    rotate_left
    · rw [decide_eq_false e1]
      iterate 8 refine VOps.sk rfl ?_
      refine VOps.rd (v := .bool true) rfl rfl ?_
      refine VOps.nil ⟨rfl, VW.condT rfl (VW.seq (VW.reg ?_))⟩
      refine VOps.rd rfl rfl ?_
      refine VOps.nil ⟨rfl, VW.ret ⟨.inl rfl, _, rfl, ?_, hx⟩⟩
      rw [hS, decide_eq_false e1]; rfl
    rw [decide_eq_true e1]
    refine VOps.rd rfl rfl ?_
    refine VOps.rd (v := .sl (some q') gs.length cg) rfl (by simp [l1]) ?_
    refine VOps.rd rfl rfl ?_
    refine VOps.rd (v := .ptr (some (elp (some q') k))) rfl (by simp [b1, hlt2]) ?_
    refine VOps.rd (v := .sl pk' lg.length ck') rfl (by simp [b2]) ?_
    refine VOps.rd rfl rfl ?_
    refine VOps.rd rfl rfl ?_
    refine VOps.rd (v := .bool (!decide (lg.length = s))) rfl (by simp [bne, beq_natCast]) ?_
    refine VOps.rd rfl rfl ?_
    by_cases e2 : lg.length = s
    rotate_left
    · rw [decide_eq_false e2]
      refine VOps.nil ⟨rfl, VW.condT rfl (VW.seq (VW.reg ?_))⟩
      refine VOps.rd rfl rfl ?_
      refine VOps.nil ⟨rfl, VW.ret ⟨.inl rfl, _, rfl, ?_, hx⟩⟩
      rw [hS, decide_eq_false e2, Bool.and_false]; rfl
    rw [decide_eq_true e2]
    refine VOps.nil ⟨rfl, VW.condF rfl (VW.skip ?_)⟩
    rw [decide_eq_true e1, decide_eq_true e2] at hS
    refine VW.seq (VW.reg ?_)
    refine VOps.rd rfl rfl ?_
    refine VOps.rd (v := .sl (some q) al.length ca) rfl (by simp [Fr.only, l0]) ?_
    refine VOps.rd rfl rfl ?_
    refine VOps.rd (v := .ptr (some (elp (some q) k))) rfl (by simp [Fr.only, a1, hlt]) ?_
    refine VOps.rd (v := .sl pk la.length ck) rfl (by simp [a2]) ?_
    refine VOps.rd rfl rfl ?_
    refine VOps.call rfl rfl rfl (ca1.mono ?_)
    rintro r Hy ⟨rfl, rfl⟩
    refine VOps.rd rfl rfl ?_
    by_cases e3 : (la.all fun e => mayA al.length e.1 e.2) = true
    rotate_left
    · replace e3 : (la.all fun e => mayA al.length e.1 e.2) = false := by simpa using e3
      rw [e3] at hS ⊢
      iterate 6 refine VOps.sk rfl ?_
      refine VOps.skc rfl ?_
      refine VOps.rd (v := .bool true) rfl rfl ?_
      refine VOps.nil ⟨rfl, VW.condT rfl (VW.seq (VW.reg ?_))⟩
      refine VOps.rd rfl rfl ?_
      refine VOps.nil ⟨rfl, VW.ret ⟨.inl rfl, _, rfl, ?_, hx⟩⟩
      rw [hS]; rfl
    rw [e3] at hS ⊢
    refine VOps.rd rfl rfl ?_
    refine VOps.rd (v := .sl (some q') gs.length cg) rfl (by simp [Fr.only, l1]) ?_
    refine VOps.rd rfl rfl ?_
    refine VOps.rd (v := .ptr (some (elp (some q') k))) rfl (by simp [Fr.only, b1, hlt2]) ?_
    refine VOps.rd (v := .sl pk' lg.length ck') rfl (by simp [b2]) ?_
    refine VOps.rd rfl rfl ?_
    refine VOps.call rfl rfl rfl (cg1.mono ?_)
    rintro r Hz ⟨rfl, rfl⟩
    refine VOps.rd rfl rfl ?_
    by_cases e4 : (lg.all (mayG al.length)) = true
    rotate_left
    · replace e4 : (lg.all (mayG al.length)) = false := by simpa using e4
      rw [e4] at hS ⊢
      refine VOps.nil ⟨rfl, VW.condT rfl (VW.seq (VW.reg ?_))⟩
      refine VOps.rd rfl rfl ?_
      refine VOps.nil ⟨rfl, VW.ret ⟨.inl rfl, _, rfl, ?_, hx⟩⟩
      rw [hS]; rfl
    rw [e4] at hS ⊢
    refine VOps.nil ⟨rfl, VW.condF rfl (VW.skip ?_)⟩
    refine VW.reg ?_
    refine VOps.rd rfl rfl ?_
    refine VOps.rd rfl rfl ?_
    refine VOps.nil ⟨rfl, al.length - (k + 1), by omega, k + 1, by omega, rfl, by simp [Fr.only, hvk], rfl, ?_⟩
    rw [hS]; rfl
  · have : k = al.length := by omega
    subst this
    rw [Nat.sub_self] at hS
    refine VW.seq (VW.reg ?_)
    refine VOps.rd rfl rfl ?_
    refine VOps.nil ⟨rfl, VW.seq (VW.condF (by simp [Fr.only]) (VW.exit ?_))⟩
    simp only [then_normal, then_ret, then_exit, inB_normal, inB_ret, inB_exit, reduceIte, Nat.reduceEqDiff]
    refine VW.seq (VW.reg ?_)
    refine VOps.rd rfl rfl ?_
    refine VOps.nil ⟨rfl, VW.ret ⟨.inl rfl, _, rfl, ?_, hx⟩⟩
    rw [hS]; rfl
end
end Go.Proofs.Ytlclbfkdaemilaa

/- May a table be packed: the document's function. -/
namespace Go.Proofs.Ytlclbfkdaemilaa
set_option linter.unusedSimpArgs false
set_option linter.unusedVariables false
open Go Go.Vm Go.Proofs
set_option maxRecDepth 100000
set_option maxHeartbeats 1000000

theorem mayA_eq (n a b : Int) : (((decide (b = 0) && (decide (a = 0) || decide (a = 3) || decide (a = 4))) || (decide (a = 1) && decide (0 ≤ b) && decide (b < n))) || (decide (a = 2) && decide (1 ≤ b) && decide (b ≤ 96))) = mayA n a b := by
  unfold mayA
  rw [Bool.eq_iff_iff]
  by_cases h1 : a = 1
  · subst h1; simp
  · by_cases h2 : a = 2
    · subst h2; simp
    · simp [h1, h2]; omega
theorem all_step {α : Type} {f : α → Bool} {l : List α} {d : α} {k : Nat} (h : k < l.length) : (l.drop k).all f = (f (l.getD k d) && (l.drop (k + 1)).all f) := by
  rw [List.drop_eq_getElem_cons h, List.all_cons]
  simp [List.getD, h]
theorem all_end {α : Type} {f : α → Bool} {l : List α} : (l.drop l.length).all f = true := by simp

section
variable {H : Hp} {pa pg : Option PA} {ca cg : Nat} {al : List Edges} {gs : List (List Int)} {was wgs : List VV}
theorem may27 (h : Den H pa pg al gs was wgs) : FnV Try.prog 27 [denV pa pg ca cg al gs] H fun r H' => r = .bool (mayD al gs) ∧ H' = H := by
  refine FnV.calm rfl ?_
  refine FnV.enterRow ok27 (by show 1 ≤ 166; decide) fun B => ?_
  dsimp only [w27]
  have hmx : maxLen = 9223372036854775807 := rfl
  refine VW.seq (VW.reg ?_)
  refine VOps.ef (v := .ptr (some ⟨H.length, 0, 0⟩)) (H' := H ++ [.row 53 .own [[.sl pa al.length ca, .sl pg gs.length cg]]]) rfl (by simp [argsF]) ?_
  refine VOps.rd rfl rfl ?_
  refine VOps.nil ⟨rfl, ?_⟩
  show VW _ _ _ _ [(1, .ptr (some ⟨H.length, 0, 0⟩))] _ _
  have hx : Ext H (H ++ [.row 53 .own [[.sl pa al.length ca, .sl pg gs.length cg]]]) := .app _ _
  have hb : (H ++ [Blk.row 53 .own [[.sl pa al.length ca, .sl pg gs.length cg]]])[H.length]? = some (.row 53 .own [[.sl pa al.length ca, .sl pg gs.length cg]]) := by simp
  replace h := h.ext hx
  generalize H ++ [.row 53 .own [[.sl pa al.length ca, .sl pg gs.length cg]]] = H1 at *
  have l0 := ld_own hb 0
  have l1 := ld_own hb 1
  simp only [List.getElem?_cons_zero, List.getElem?_cons_succ] at l0 l1
  generalize H.length = j at *
  clear hb
  refine VW.seq (VW.reg ?_)
  refine VOps.rd rfl rfl ?_
  refine VOps.rd (v := .sl pa al.length ca) rfl (by simp [l0]) ?_
  refine VOps.rd rfl rfl ?_
  refine VOps.rd rfl rfl ?_
  refine VOps.nil ⟨rfl, ?_⟩
  show VW _ _ _ _ [(1, .ptr (some ⟨j, 0, 0⟩)), (3, .int .i64 al.length)] _ _
  have hS : mayD al gs = (decide (1 ≤ al.length) && decide (al.length ≤ 256) && decide (gs.length = al.length) &&
    (decide (1 ≤ (al.getD 0 []).length) && decide (1 ≤ (gs.getD 0 []).length) && decide ((al.getD 0 []).length ≤ 65) && decide ((gs.getD 0 []).length ≤ 65)) &&
    mayFrom al.length (al.getD 0 []).length (gs.getD 0 []).length al gs al.length 0) := rfl
  generalize mayD al gs = res at *
  by_cases y1 : 1 ≤ al.length
  rotate_left
  · have y : (al.length : Int) < 1 := by omega
    replace hS : Hid (res = false) := by unfold Hid; rw [hS]; simp [y1]
    clear y1 hmx h
    repeat first
      | (apply VOps.rd; (focus (first | exact rfl | (simp [Fr.only, argsF, *]; done))); (focus (exact rfl)))
      | (apply VOps.sk; (focus (simp [Fr.only, argsF, *]; done)))
      | (apply VOps.rd; (focus (first | exact rfl | (simp [Fr.only, argsF, *]; done))); (focus (simp [Fr.only, argsF, *]; first | done | exact rfl)))
      | (apply VOps.ef; (focus (first | exact rfl | (simp [Fr.only, argsF, *]; done))); (focus (simp [Fr.only, argsF, *]; first | done | exact rfl | exact ⟨rfl, rfl⟩)))
      | (apply VOps.fin; (focus (simp only [Fr.only, Fr.get, Fr.pt, reduceIte, Nat.reduceEqDiff]; first | done | exact rfl)))
      | refine VW.seq ?_
      | refine VW.reg ?_
      | refine VW.block ?_
      | refine VW.skip ?_
      | refine VW.exit ?_
      | refine VW.ret ?_
      | (apply VW.condT; (focus (first | exact rfl | (simp [Fr.only, argsF, *]; done))))
      | (apply VW.condF; (focus (first | exact rfl | (simp [Fr.only, argsF, *]; done))))
      | (simp only [then_normal, then_ret, then_exit, inB_normal, inB_ret, inB_exit, reduceIte, Nat.reduceEqDiff])
    exact ⟨by simp, _, rfl, by rw [hS.out], hx⟩
  by_cases y2 : al.length ≤ 256
  rotate_left
  · have y : ¬ (al.length : Int) < 1 := by omega
    have y' : (256 : Int) < al.length := by omega
    replace hS : Hid (res = false) := by unfold Hid; rw [hS]; simp [y2]
    clear y1 y2 hmx h
    repeat first
      | (apply VOps.rd; (focus (first | exact rfl | (simp [Fr.only, argsF, *]; done))); (focus (exact rfl)))
      | (apply VOps.sk; (focus (simp [Fr.only, argsF, *]; done)))
      | (apply VOps.rd; (focus (first | exact rfl | (simp [Fr.only, argsF, *]; done))); (focus (simp [Fr.only, argsF, *]; first | done | exact rfl)))
      | (apply VOps.ef; (focus (first | exact rfl | (simp [Fr.only, argsF, *]; done))); (focus (simp [Fr.only, argsF, *]; first | done | exact rfl | exact ⟨rfl, rfl⟩)))
      | (apply VOps.fin; (focus (simp only [Fr.only, Fr.get, Fr.pt, reduceIte, Nat.reduceEqDiff]; first | done | exact rfl)))
      | refine VW.seq ?_
      | refine VW.reg ?_
      | refine VW.block ?_
      | refine VW.skip ?_
      | refine VW.exit ?_
      | refine VW.ret ?_
      | (apply VW.condT; (focus (first | exact rfl | (simp [Fr.only, argsF, *]; done))))
      | (apply VW.condF; (focus (first | exact rfl | (simp [Fr.only, argsF, *]; done))))
      | (simp only [then_normal, then_ret, then_exit, inB_normal, inB_ret, inB_exit, reduceIte, Nat.reduceEqDiff])
    exact ⟨by simp, _, rfl, by rw [hS.out], hx⟩
  by_cases y3 : gs.length = al.length
  rotate_left
  · have y : ¬ (al.length : Int) < 1 := by omega
    have y' : ¬ (256 : Int) < al.length := by omega
    have y'' : ¬ (gs.length : Int) = al.length := by omega
    replace hS : Hid (res = false) := by unfold Hid; rw [hS]; simp [y3]
    clear y1 y2 y3 hmx h
    repeat first
      | (apply VOps.rd; (focus (first | exact rfl | (simp [Fr.only, argsF, *]; done))); (focus (exact rfl)))
      | (apply VOps.sk; (focus (simp [Fr.only, argsF, *]; done)))
      | (apply VOps.rd; (focus (first | exact rfl | (simp [Fr.only, argsF, *]; done))); (focus (simp [Fr.only, argsF, *]; first | done | exact rfl)))
      | (apply VOps.ef; (focus (first | exact rfl | (simp [Fr.only, argsF, *]; done))); (focus (simp [Fr.only, argsF, *]; first | done | exact rfl | exact ⟨rfl, rfl⟩)))
      | (apply VOps.fin; (focus (simp only [Fr.only, Fr.get, Fr.pt, reduceIte, Nat.reduceEqDiff]; first | done | exact rfl)))
      | refine VW.seq ?_
      | refine VW.reg ?_
      | refine VW.block ?_
      | refine VW.skip ?_
      | refine VW.exit ?_
      | refine VW.ret ?_
      | (apply VW.condT; (focus (first | exact rfl | (simp [Fr.only, argsF, *]; done))))
      | (apply VW.condF; (focus (first | exact rfl | (simp [Fr.only, argsF, *]; done))))
      | (simp only [then_normal, then_ret, then_exit, inB_normal, inB_ret, inB_exit, reduceIte, Nat.reduceEqDiff])
    exact ⟨by simp, _, rfl, by rw [hS.out], hx⟩
  rw [decide_eq_true y1, decide_eq_true y2, decide_eq_true y3, Bool.true_and, Bool.true_and, Bool.true_and] at hS
  obtain ⟨q, pk, ck, hq, a1, a2, a3, a4⟩ := row_at h.sa h.ra (k := 0) (by omega)
  obtain ⟨q', pk', ck', hq', b1, b2, b3, b4⟩ := rowI_at h.sg h.rg (k := 0) (by omega)
  have z0 : 0 < al.length := by omega
  have z0' : 0 < gs.length := by omega
  refine VW.seq ?_
  refine VW.mono (Q := fun e F2 Hx => e = .normal ∧ Cov [(1, .ptr (some ⟨j, 0, 0⟩)), (3, .int .i64 al.length)] F2 ∧ Hx = H1) ?_ ?_
  · have y : ¬ (al.length : Int) < 1 := by omega
    have y' : ¬ (256 : Int) < al.length := by omega
    replace hS : Hid True := trivial
    have y'' : (gs.length : Int) = al.length := by omega
    clear y1 y2 y3 hmx h z0 z0' a1 a2 a3 a4 b1 b2 b3 b4
    repeat first
      | (apply VOps.rd; (focus (first | exact rfl | (simp [Fr.only, argsF, *]; done))); (focus (exact rfl)))
      | (apply VOps.sk; (focus (simp [Fr.only, argsF, *]; done)))
      | (apply VOps.rd; (focus (first | exact rfl | (simp [Fr.only, argsF, *]; done))); (focus (simp [Fr.only, argsF, *]; first | done | exact rfl)))
      | (apply VOps.ef; (focus (first | exact rfl | (simp [Fr.only, argsF, *]; done))); (focus (simp [Fr.only, argsF, *]; first | done | exact rfl | exact ⟨rfl, rfl⟩)))
      | (apply VOps.fin; (focus (simp only [Fr.only, Fr.get, Fr.pt, reduceIte, Nat.reduceEqDiff]; first | done | exact rfl)))
      | refine VW.seq ?_
      | refine VW.reg ?_
      | refine VW.block ?_
      | refine VW.skip ?_
      | refine VW.exit ?_
      | refine VW.ret ?_
      | (apply VW.condT; (focus (first | exact rfl | (simp [Fr.only, argsF, *]; done))))
      | (apply VW.condF; (focus (first | exact rfl | (simp [Fr.only, argsF, *]; done))))
      | (simp only [then_normal, then_ret, then_exit, inB_normal, inB_ret, inB_exit, reduceIte, Nat.reduceEqDiff])
    exact ⟨trivial, by simp [Cov, Fr.only], trivial⟩
  rintro e F2 Hx ⟨rfl, hcov, rfl⟩
  refine VW.sub hcov ?_
  clear hcov
  generalize ht : (al.getD 0 []).length = t at *
  generalize hs : (gs.getD 0 []).length = s at *
  refine VW.seq (VW.reg ?_)
  refine VOps.rd rfl rfl ?_
  refine VOps.rd (v := .sl pa al.length ca) rfl (by simp [l0]) ?_
  refine VOps.rd (v := .ptr (some (elp (some q) 0))) rfl (by simp [Fr.only, hq, a1, z0]) ?_
  refine VOps.rd (v := .sl pk t ck) rfl (by simp [a2]) ?_
  refine VOps.rd rfl rfl ?_
  refine VOps.rd rfl rfl ?_
  refine VOps.nil ⟨rfl, ?_⟩
  refine VW.seq (VW.reg ?_)
  refine VOps.rd rfl rfl ?_
  refine VOps.rd (v := .sl pg gs.length cg) rfl (by simp [Fr.only, l1]) ?_
  refine VOps.rd (v := .ptr (some (elp (some q') 0))) rfl (by simp [Fr.only, hq', b1, z0']) ?_
  refine VOps.rd (v := .sl pk' s ck') rfl (by simp [b2]) ?_
  refine VOps.rd rfl rfl ?_
  refine VOps.rd rfl rfl ?_
  refine VOps.nil ⟨rfl, ?_⟩
  show VW _ _ _ _ [(1, .ptr (some ⟨j, 0, 0⟩)), (3, .int .i64 al.length), (4, .int .i64 t), (5, .int .i64 s)] _ _
  clear a1 a2 a3 a4 b1 b2 b3 b4 z0 z0' hq hq'
  have bad : ¬ (1 ≤ t ∧ 1 ≤ s ∧ t ≤ 65 ∧ s ≤ 65) → res = false := fun u1 => by
    rw [hS]
    have : (decide (1 ≤ t) && decide (1 ≤ s) && decide (t ≤ 65) && decide (s ≤ 65)) = false := by
      rw [Bool.eq_false_iff]; intro hc; simp at hc; exact u1 ⟨hc.1.1.1, hc.1.1.2, hc.1.2, hc.2⟩
    rw [this]; rfl
  have good : (1 ≤ t ∧ 1 ≤ s ∧ t ≤ 65 ∧ s ≤ 65) → res = mayFrom al.length t s al gs al.length 0 := fun u1 => by
    have u2 : (decide (1 ≤ t) && decide (1 ≤ s) && decide (t ≤ 65) && decide (s ≤ 65)) = true := by simp [u1]
    rw [hS, u2, Bool.true_and]
  clear hS ht hs y1
  by_cases v1 : (t : Int) < 1
  · have hbad : Hid (res = false) := bad (by omega)
    clear bad good y2 y3 hmx h
    repeat first
      | (apply VOps.rd; (focus (first | exact rfl | (simp [Fr.only, argsF, *]; done))); (focus (exact rfl)))
      | (apply VOps.sk; (focus (simp [Fr.only, argsF, *]; done)))
      | (apply VOps.rd; (focus (first | exact rfl | (simp [Fr.only, argsF, *]; done))); (focus (simp [Fr.only, argsF, *]; first | done | exact rfl)))
      | (apply VOps.ef; (focus (first | exact rfl | (simp [Fr.only, argsF, *]; done))); (focus (simp [Fr.only, argsF, *]; first | done | exact rfl | exact ⟨rfl, rfl⟩)))
      | (apply VOps.fin; (focus (simp only [Fr.only, Fr.get, Fr.pt, reduceIte, Nat.reduceEqDiff]; first | done | exact rfl)))
      | refine VW.seq ?_
      | refine VW.reg ?_
      | refine VW.block ?_
      | refine VW.skip ?_
      | refine VW.exit ?_
      | refine VW.ret ?_
      | (apply VW.condT; (focus (first | exact rfl | (simp [Fr.only, argsF, *]; done))))
      | (apply VW.condF; (focus (first | exact rfl | (simp [Fr.only, argsF, *]; done))))
      | (simp only [then_normal, then_ret, then_exit, inB_normal, inB_ret, inB_exit, reduceIte, Nat.reduceEqDiff])
    exact ⟨by simp, _, rfl, by rw [hbad.out], hx⟩
  by_cases v2 : 65 < (t : Int)
  · have hbad : Hid (res = false) := bad (by omega)
    clear bad good y2 y3 hmx h
    repeat first
      | (apply VOps.rd; (focus (first | exact rfl | (simp [Fr.only, argsF, *]; done))); (focus (exact rfl)))
      | (apply VOps.sk; (focus (simp [Fr.only, argsF, *]; done)))
      | (apply VOps.rd; (focus (first | exact rfl | (simp [Fr.only, argsF, *]; done))); (focus (simp [Fr.only, argsF, *]; first | done | exact rfl)))
      | (apply VOps.ef; (focus (first | exact rfl | (simp [Fr.only, argsF, *]; done))); (focus (simp [Fr.only, argsF, *]; first | done | exact rfl | exact ⟨rfl, rfl⟩)))
      | (apply VOps.fin; (focus (simp only [Fr.only, Fr.get, Fr.pt, reduceIte, Nat.reduceEqDiff]; first | done | exact rfl)))
      | refine VW.seq ?_
      | refine VW.reg ?_
      | refine VW.block ?_
      | refine VW.skip ?_
      | refine VW.exit ?_
      | refine VW.ret ?_
      | (apply VW.condT; (focus (first | exact rfl | (simp [Fr.only, argsF, *]; done))))
      | (apply VW.condF; (focus (first | exact rfl | (simp [Fr.only, argsF, *]; done))))
      | (simp only [then_normal, then_ret, then_exit, inB_normal, inB_ret, inB_exit, reduceIte, Nat.reduceEqDiff])
    exact ⟨by simp, _, rfl, by rw [hbad.out], hx⟩
  by_cases v3 : (s : Int) < 1
  · have hbad : Hid (res = false) := bad (by omega)
    clear bad good y2 y3 hmx h
    repeat first
      | (apply VOps.rd; (focus (first | exact rfl | (simp [Fr.only, argsF, *]; done))); (focus (exact rfl)))
      | (apply VOps.sk; (focus (simp [Fr.only, argsF, *]; done)))
      | (apply VOps.rd; (focus (first | exact rfl | (simp [Fr.only, argsF, *]; done))); (focus (simp [Fr.only, argsF, *]; first | done | exact rfl)))
      | (apply VOps.ef; (focus (first | exact rfl | (simp [Fr.only, argsF, *]; done))); (focus (simp [Fr.only, argsF, *]; first | done | exact rfl | exact ⟨rfl, rfl⟩)))
      | (apply VOps.fin; (focus (simp only [Fr.only, Fr.get, Fr.pt, reduceIte, Nat.reduceEqDiff]; first | done | exact rfl)))
      | refine VW.seq ?_
      | refine VW.reg ?_
      | refine VW.block ?_
      | refine VW.skip ?_
      | refine VW.exit ?_
      | refine VW.ret ?_
      | (apply VW.condT; (focus (first | exact rfl | (simp [Fr.only, argsF, *]; done))))
      | (apply VW.condF; (focus (first | exact rfl | (simp [Fr.only, argsF, *]; done))))
      | (simp only [then_normal, then_ret, then_exit, inB_normal, inB_ret, inB_exit, reduceIte, Nat.reduceEqDiff])
    exact ⟨by simp, _, rfl, by rw [hbad.out], hx⟩
  by_cases v4 : 65 < (s : Int)
  · have hbad : Hid (res = false) := bad (by omega)
    clear bad good y2 y3 hmx h
    repeat first
      | (apply VOps.rd; (focus (first | exact rfl | (simp [Fr.only, argsF, *]; done))); (focus (exact rfl)))
      | (apply VOps.sk; (focus (simp [Fr.only, argsF, *]; done)))
      | (apply VOps.rd; (focus (first | exact rfl | (simp [Fr.only, argsF, *]; done))); (focus (simp [Fr.only, argsF, *]; first | done | exact rfl)))
      | (apply VOps.ef; (focus (first | exact rfl | (simp [Fr.only, argsF, *]; done))); (focus (simp [Fr.only, argsF, *]; first | done | exact rfl | exact ⟨rfl, rfl⟩)))
      | (apply VOps.fin; (focus (simp only [Fr.only, Fr.get, Fr.pt, reduceIte, Nat.reduceEqDiff]; first | done | exact rfl)))
      | refine VW.seq ?_
      | refine VW.reg ?_
      | refine VW.block ?_
      | refine VW.skip ?_
      | refine VW.exit ?_
      | refine VW.ret ?_
      | (apply VW.condT; (focus (first | exact rfl | (simp [Fr.only, argsF, *]; done))))
      | (apply VW.condF; (focus (first | exact rfl | (simp [Fr.only, argsF, *]; done))))
      | (simp only [then_normal, then_ret, then_exit, inB_normal, inB_ret, inB_exit, reduceIte, Nat.reduceEqDiff])
    exact ⟨by simp, _, rfl, by rw [hbad.out], hx⟩
  have hS := good (by omega)
  clear bad good
  refine VW.seq ?_
  refine VW.mono (Q := fun e F2 Hy => e = .normal ∧ Cov [(1, .ptr (some ⟨j, 0, 0⟩)), (3, .int .i64 al.length), (4, .int .i64 t), (5, .int .i64 s)] F2 ∧ Hy = Hx) ?_ ?_
  · clear hS y2 y3 hmx h
    repeat first
      | (apply VOps.rd; (focus (first | exact rfl | (simp [Fr.only, argsF, *]; done))); (focus (exact rfl)))
      | (apply VOps.sk; (focus (simp [Fr.only, argsF, *]; done)))
      | (apply VOps.rd; (focus (first | exact rfl | (simp [Fr.only, argsF, *]; done))); (focus (simp [Fr.only, argsF, *]; first | done | exact rfl)))
      | (apply VOps.ef; (focus (first | exact rfl | (simp [Fr.only, argsF, *]; done))); (focus (simp [Fr.only, argsF, *]; first | done | exact rfl | exact ⟨rfl, rfl⟩)))
      | (apply VOps.fin; (focus (simp only [Fr.only, Fr.get, Fr.pt, reduceIte, Nat.reduceEqDiff]; first | done | exact rfl)))
      | refine VW.seq ?_
      | refine VW.reg ?_
      | refine VW.block ?_
      | refine VW.skip ?_
      | refine VW.exit ?_
      | refine VW.ret ?_
      | (apply VW.condT; (focus (first | exact rfl | (simp [Fr.only, argsF, *]; done))))
      | (apply VW.condF; (focus (first | exact rfl | (simp [Fr.only, argsF, *]; done))))
      | (simp only [then_normal, then_ret, then_exit, inB_normal, inB_ret, inB_exit, reduceIte, Nat.reduceEqDiff])
    exact ⟨trivial, by simp [Cov, Fr.only], trivial⟩
  rintro e F2 Hy ⟨rfl, hcov, rfl⟩
  refine VW.sub hcov ?_
  clear hcov v1 v2 v3 v4
  refine VW.seq (VW.seq (VW.reg ?_))
  refine VOps.rd rfl rfl ?_
  refine VOps.nil ⟨rfl, ?_⟩
  show VW _ _ _ _ [(1, .ptr (some ⟨j, 0, 0⟩)), (3, .int .i64 al.length), (4, .int .i64 t), (5, .int .i64 s), (6, .int .i64 0)] _ _
  refine VW.block ?_
  refine VW.loop (fun m F' H' => ∃ k : Nat, k ≤ al.length ∧ m = al.length - k ∧ F' = [(1, .ptr (some ⟨j, 0, 0⟩)), (3, .int .i64 al.length), (4, .int .i64 t), (5, .int .i64 s), (6, .int .i64 k)] ∧ Ext Hy H' ∧ res = mayFrom al.length t s al gs (al.length - k) k) al.length
    ⟨0, by omega, rfl, rfl, .refl _, hS⟩ ?_
  clear hS
  rintro m F' H2 ⟨k, hk, rfl, rfl, hx2, hS⟩
  by_cases hlt : k < al.length
  · have hvk := wrap_id (x := (k : Int) + 1) (by omega) (by omega)
    have hlt2 : k < gs.length := by omega
    have h2 := h.ext hx2
    have m0 := ext_ld hx2 l0
    have m1 := ext_ld hx2 l1
    obtain ⟨q, pk, ck, hq, a1, a2, a3, a4⟩ := row_at h2.sa h2.ra hlt
    obtain ⟨q', pk', ck', hq', b1, b2, b3, b4⟩ := rowI_at h2.sg h2.rg hlt2
    clear h2
    rw [show al.length - k = (al.length - (k + 1)) + 1 by omega] at hS
    unfold mayFrom mayRow at hS
    generalize al.getD k [] = la at *
    generalize gs.getD k [] = lg at *
    refine VW.seq (VW.seq (VW.reg ?_))
    refine VOps.rd rfl rfl ?_
    refine VOps.rd rfl rfl ?_
    refine VOps.rd rfl rfl ?_
    refine VOps.nil ⟨rfl, VW.condT (by simp [Fr.only, hlt]) (VW.skip ?_)⟩
    show VW _ _ _ _ [(1, .ptr (some ⟨j, 0, 0⟩)), (3, .int .i64 al.length), (4, .int .i64 t), (5, .int .i64 s), (6, .int .i64 k), (53, _)] _ _
    refine VW.seq (VW.block (VW.seq (VW.seq (VW.reg ?_))))
    refine VOps.rd rfl rfl ?_
    refine VOps.rd (v := .sl pa al.length ca) rfl (by simp [m0]) ?_
    refine VOps.rd rfl rfl ?_
    refine VOps.rd (v := .ptr (some (elp (some q) k))) rfl (by simp [hq, a1, hlt]) ?_
    refine VOps.rd (v := .sl pk la.length ck) rfl (by simp [a2]) ?_
    refine VOps.rd rfl rfl ?_
    refine VOps.rd rfl rfl ?_
    refine VOps.rd (v := .bool (!decide (la.length = t))) rfl (by simp [bne, beq_natCast]) ?_
    refine VOps.rd rfl rfl ?_
    by_cases e1 : la.length = t
    rotate_left
    · rw [decide_eq_false e1]
      iterate 8 refine VOps.sk rfl ?_
      refine VOps.rd (v := .bool true) rfl rfl ?_
      refine VOps.nil ⟨rfl, VW.condT rfl (VW.seq (VW.reg ?_))⟩
      refine VOps.rd rfl rfl ?_
      refine VOps.nil ⟨rfl, VW.ret ⟨.inl rfl, _, rfl, ?_, hx.trans hx2⟩⟩
      rw [hS, decide_eq_false e1]; rfl
    rw [decide_eq_true e1]
    refine VOps.rd rfl rfl ?_
    refine VOps.rd (v := .sl pg gs.length cg) rfl (by simp [m1]) ?_
    refine VOps.rd rfl rfl ?_
    refine VOps.rd (v := .ptr (some (elp (some q') k))) rfl (by simp [hq', b1, hlt2]) ?_
    refine VOps.rd (v := .sl pk' lg.length ck') rfl (by simp [b2]) ?_
    refine VOps.rd rfl rfl ?_
    refine VOps.rd rfl rfl ?_
    refine VOps.rd (v := .bool (!decide (lg.length = s))) rfl (by simp [bne, beq_natCast]) ?_
    refine VOps.rd rfl rfl ?_
    by_cases e2 : lg.length = s
    rotate_left
    · rw [decide_eq_false e2]
      refine VOps.nil ⟨rfl, VW.condT rfl (VW.seq (VW.reg ?_))⟩
      refine VOps.rd rfl rfl ?_
      refine VOps.nil ⟨rfl, VW.ret ⟨.inl rfl, _, rfl, ?_, hx.trans hx2⟩⟩
      rw [hS, decide_eq_false e2, Bool.and_false]; rfl
    rw [decide_eq_true e2]
    refine VOps.nil ⟨rfl, VW.condF rfl (VW.skip ?_)⟩
    rw [decide_eq_true e1, decide_eq_true e2, Bool.true_and, Bool.true_and] at hS
    -- the actions
    refine VW.seq (VW.seq (VW.reg ?_))
    refine VOps.rd rfl rfl ?_
    refine VOps.nil ⟨rfl, ?_⟩
    show VW _ _ _ _ [(1, .ptr (some ⟨j, 0, 0⟩)), (3, .int .i64 al.length), (4, .int .i64 t), (5, .int .i64 s), (6, .int .i64 k), (7, .int .i64 0)] _ _
    refine VW.mono (Q := fun e F2 H' => (e = .ret ∧ (∃ v, resV F2 H' [RV.t 2] = some v ∧ v = .bool false) ∧ Ext H2 H' ∧ la.all (fun e => mayA al.length e.1 e.2) = false) ∨ (e = .normal ∧ Cov [(1, .ptr (some ⟨j, 0, 0⟩)), (3, .int .i64 al.length), (4, .int .i64 t), (5, .int .i64 s), (6, .int .i64 k)] F2 ∧ Ext H2 H' ∧ la.all (fun e => mayA al.length e.1 e.2) = true)) ?_ ?_
    · refine VW.block ?_
      refine VW.loop (fun m F' H' => ∃ i : Nat, i ≤ t ∧ m = t - i ∧ F' = [(1, .ptr (some ⟨j, 0, 0⟩)), (3, .int .i64 al.length), (4, .int .i64 t), (5, .int .i64 s), (6, .int .i64 k), (7, .int .i64 i)] ∧ Ext H2 H' ∧ la.all (fun e => mayA al.length e.1 e.2) = (la.drop i).all (fun e => mayA al.length e.1 e.2)) t
        ⟨0, by omega, rfl, rfl, .refl _, rfl⟩ ?_
      clear hS
      rintro m F' H3 ⟨i, hi, rfl, rfl, hx3, hA⟩
      by_cases hit : i < t
      · have hvi := wrap_id (x := (i : Int) + 1) (by omega) (by omega)
        have n0 := ext_ld hx3 m0
        obtain ⟨r, hr, r1, r2, r3, r4⟩ := sl_edge (hx3.sl a3) (k := i) (by omega)
        rw [all_step (d := (0, 0)) (show i < la.length by omega)] at hA
        have d1 := ext_ixp hx3 a1
        have d2 := ext_ld hx3 a2
        generalize (la.getD i (0, 0)).1 = a at *
        generalize (la.getD i (0, 0)).2 = b at *
        have hit2 : i < la.length := by omega
        refine VW.seq (VW.seq (VW.reg ?_))
        refine VOps.rd rfl rfl ?_
        refine VOps.rd rfl rfl ?_
        refine VOps.rd rfl rfl ?_
        refine VOps.nil ⟨rfl, VW.condT (by simp [Fr.only, hit]) (VW.skip ?_)⟩
        show VW _ _ _ _ [(1, .ptr (some ⟨j, 0, 0⟩)), (3, .int .i64 al.length), (4, .int .i64 t), (5, .int .i64 s), (6, .int .i64 k), (7, .int .i64 i), (76, _)] _ _
        have hs2 := stc_last2 (H := H3) (t := 46) (md := .own) (by decide) (a := .int .i64 0) (b := .int .i64 0) (c := .int .i64 a) (d := .int .i64 b) rfl rfl
        refine VW.seq (VW.block (VW.seq (VW.reg ?_)))
        refine VOps.rd rfl rfl ?_
        refine VOps.rd (v := .sl pa al.length ca) rfl (by simp [n0]) ?_
        refine VOps.rd rfl rfl ?_
        refine VOps.rd (v := .ptr (some (elp (some q) k))) rfl (by simp [hq, d1, hlt]) ?_
        refine VOps.rd (v := .sl pk la.length ck) rfl (by simp [d2]) ?_
        refine VOps.rd rfl rfl ?_
        refine VOps.rd (v := .ptr (some (elp (some r) i))) rfl (by simp [hr, r1, hit2]) ?_
        refine VOps.rd (v := .agg [.int .i64 a, .int .i64 b]) rfl (by simp [r3]) ?_
        refine VOps.ef (v := .ptr (some ⟨H3.length, 0, 0⟩)) (H' := H3 ++ [.row 46 .own [[.int .i64 0, .int .i64 0]]]) rfl (by simp) ?_
        refine VOps.ef (v := .undef) (H' := H3 ++ [.row 46 .own [[.int .i64 a, .int .i64 b]]]) rfl (by simp [hs2]) ?_
        refine VOps.nil ⟨rfl, ?_⟩
        show VW _ _ _ _ [(1, .ptr (some ⟨j, 0, 0⟩)), (3, .int .i64 al.length), (4, .int .i64 t), (5, .int .i64 s), (6, .int .i64 k), (7, .int .i64 i), (8, .ptr (some ⟨H3.length, 0, 0⟩))] _ _
        have hbx : (H3 ++ [Blk.row 46 .own [[.int .i64 a, .int .i64 b]]])[H3.length]? = some (.row 46 .own [[.int .i64 a, .int .i64 b]]) := by simp
        replace hx3 := hx3.push [.row 46 .own [[.int .i64 a, .int .i64 b]]]
        clear hs2 r1 r2 r3 r4 hr d1 d2 n0
        generalize H3 ++ [.row 46 .own [[.int .i64 a, .int .i64 b]]] = H4 at *
        generalize H3.length = ib at *
        have la0 := ld_own hbx 0
        have la1 := ld_own hbx 1
        simp only [List.getElem?_cons_zero, List.getElem?_cons_succ] at la0 la1
        clear hbx
        have hma := mayA_eq al.length a b
        generalize hv1 : (decide (b = 0) && (decide (a = 0) || decide (a = 3) || decide (a = 4))) = v1 at hma
        refine VW.seq ?_
        refine VW.mono (Q := fun e F2 H' => e = .normal ∧ Cov [(1, .ptr (some ⟨j, 0, 0⟩)), (3, .int .i64 al.length), (4, .int .i64 t), (5, .int .i64 s), (6, .int .i64 k), (7, .int .i64 i), (8, .ptr (some ⟨ib, 0, 0⟩)), (9, .bool v1)] F2 ∧ H' = H4) ?_ ?_
        · clear hma hA hit hit2 hvi hx3 a1 a2 a3 a4 b1 b2 b3 b4 e1 e2 m0 m1 hlt hlt2 hvk hx2 l0 l1 y2 y3 hmx h hx hq hq'
          by_cases g1 : b = 0
          · by_cases g2 : a = 0
            · subst g1 g2
              repeat first
                | (apply VOps.rd; (focus (first | exact rfl | (simp [Fr.only, argsF, *]; done))); (focus (exact rfl)))
                | (apply VOps.sk; (focus (simp [Fr.only, argsF, *]; done)))
                | (apply VOps.rd; (focus (first | exact rfl | (simp [Fr.only, argsF, *]; done))); (focus (simp [Fr.only, argsF, *]; first | done | exact rfl)))
                | (apply VOps.ef; (focus (first | exact rfl | (simp [Fr.only, argsF, *]; done))); (focus (simp [Fr.only, argsF, *]; first | done | exact rfl | exact ⟨rfl, rfl⟩)))
                | (apply VOps.fin; (focus (simp only [Fr.only, Fr.get, Fr.pt, reduceIte, Nat.reduceEqDiff]; first | done | exact rfl)))
                | refine VW.seq ?_
                | refine VW.reg ?_
                | refine VW.block ?_
                | refine VW.skip ?_
                | refine VW.exit ?_
                | refine VW.ret ?_
                | (apply VW.condT; (focus (first | exact rfl | (simp [Fr.only, argsF, *]; done))))
                | (apply VW.condF; (focus (first | exact rfl | (simp [Fr.only, argsF, *]; done))))
                | (simp only [then_normal, then_ret, then_exit, inB_normal, inB_ret, inB_exit, reduceIte, Nat.reduceEqDiff])
              exact ⟨trivial, by simp [Cov, Fr.only, ← hv1], trivial⟩
            · by_cases g3 : a = 3
              · subst g1 g3
                repeat first
                  | (apply VOps.rd; (focus (first | exact rfl | (simp [Fr.only, argsF, *]; done))); (focus (exact rfl)))
                  | (apply VOps.sk; (focus (simp [Fr.only, argsF, *]; done)))
                  | (apply VOps.rd; (focus (first | exact rfl | (simp [Fr.only, argsF, *]; done))); (focus (simp [Fr.only, argsF, *]; first | done | exact rfl)))
                  | (apply VOps.ef; (focus (first | exact rfl | (simp [Fr.only, argsF, *]; done))); (focus (simp [Fr.only, argsF, *]; first | done | exact rfl | exact ⟨rfl, rfl⟩)))
                  | (apply VOps.fin; (focus (simp only [Fr.only, Fr.get, Fr.pt, reduceIte, Nat.reduceEqDiff]; first | done | exact rfl)))
                  | refine VW.seq ?_
                  | refine VW.reg ?_
                  | refine VW.block ?_
                  | refine VW.skip ?_
                  | refine VW.exit ?_
                  | refine VW.ret ?_
                  | (apply VW.condT; (focus (first | exact rfl | (simp [Fr.only, argsF, *]; done))))
                  | (apply VW.condF; (focus (first | exact rfl | (simp [Fr.only, argsF, *]; done))))
                  | (simp only [then_normal, then_ret, then_exit, inB_normal, inB_ret, inB_exit, reduceIte, Nat.reduceEqDiff])
                exact ⟨trivial, by simp [Cov, Fr.only, ← hv1], trivial⟩
              · subst g1
                repeat first
                  | (apply VOps.rd; (focus (first | exact rfl | (simp [Fr.only, argsF, *]; done))); (focus (exact rfl)))
                  | (apply VOps.sk; (focus (simp [Fr.only, argsF, *]; done)))
                  | (apply VOps.rd; (focus (first | exact rfl | (simp [Fr.only, argsF, *]; done))); (focus (simp [Fr.only, argsF, *]; first | done | exact rfl)))
                  | (apply VOps.ef; (focus (first | exact rfl | (simp [Fr.only, argsF, *]; done))); (focus (simp [Fr.only, argsF, *]; first | done | exact rfl | exact ⟨rfl, rfl⟩)))
                  | (apply VOps.fin; (focus (simp only [Fr.only, Fr.get, Fr.pt, reduceIte, Nat.reduceEqDiff]; first | done | exact rfl)))
                  | refine VW.seq ?_
                  | refine VW.reg ?_
                  | refine VW.block ?_
                  | refine VW.skip ?_
                  | refine VW.exit ?_
                  | refine VW.ret ?_
                  | (apply VW.condT; (focus (first | exact rfl | (simp [Fr.only, argsF, *]; done))))
                  | (apply VW.condF; (focus (first | exact rfl | (simp [Fr.only, argsF, *]; done))))
                  | (simp only [then_normal, then_ret, then_exit, inB_normal, inB_ret, inB_exit, reduceIte, Nat.reduceEqDiff])
                exact ⟨trivial, by simp [Cov, Fr.only, ← hv1, g2, g3]; first | done | rfl, trivial⟩
          · repeat first
              | (apply VOps.rd; (focus (first | exact rfl | (simp [Fr.only, argsF, *]; done))); (focus (exact rfl)))
              | (apply VOps.sk; (focus (simp [Fr.only, argsF, *]; done)))
              | (apply VOps.rd; (focus (first | exact rfl | (simp [Fr.only, argsF, *]; done))); (focus (simp [Fr.only, argsF, *]; first | done | exact rfl)))
              | (apply VOps.ef; (focus (first | exact rfl | (simp [Fr.only, argsF, *]; done))); (focus (simp [Fr.only, argsF, *]; first | done | exact rfl | exact ⟨rfl, rfl⟩)))
              | (apply VOps.fin; (focus (simp only [Fr.only, Fr.get, Fr.pt, reduceIte, Nat.reduceEqDiff]; first | done | exact rfl)))
              | refine VW.seq ?_
              | refine VW.reg ?_
              | refine VW.block ?_
              | refine VW.skip ?_
              | refine VW.exit ?_
              | refine VW.ret ?_
              | (apply VW.condT; (focus (first | exact rfl | (simp [Fr.only, argsF, *]; done))))
              | (apply VW.condF; (focus (first | exact rfl | (simp [Fr.only, argsF, *]; done))))
              | (simp only [then_normal, then_ret, then_exit, inB_normal, inB_ret, inB_exit, reduceIte, Nat.reduceEqDiff])
            exact ⟨trivial, by simp [Cov, Fr.only, ← hv1, g1], trivial⟩
        rintro e F2 Hz ⟨rfl, hcov, rfl⟩
        refine VW.sub hcov ?_
        clear hcov hv1
        generalize hv2 : (v1 || (decide (a = 1) && decide (0 ≤ b) && decide (b < (al.length : Int)))) = v2 at hma
        refine VW.seq ?_
        refine VW.mono (Q := fun e F2 H' => e = .normal ∧ Cov [(1, .ptr (some ⟨j, 0, 0⟩)), (3, .int .i64 al.length), (4, .int .i64 t), (5, .int .i64 s), (6, .int .i64 k), (7, .int .i64 i), (8, .ptr (some ⟨ib, 0, 0⟩)), (9, .bool v2)] F2 ∧ H' = Hz) ?_ ?_
        · clear hma hA hit hit2 hvi hx3 a1 a2 a3 a4 b1 b2 b3 b4 e1 e2 m0 m1 hlt hlt2 hvk hx2 l0 l1 y2 y3 hmx h hx hq hq'
          cases v1 with
          | true =>
            repeat first
              | (apply VOps.rd; (focus (first | exact rfl | (simp [Fr.only, argsF, *]; done))); (focus (exact rfl)))
              | (apply VOps.sk; (focus (simp [Fr.only, argsF, *]; done)))
              | (apply VOps.rd; (focus (first | exact rfl | (simp [Fr.only, argsF, *]; done))); (focus (simp [Fr.only, argsF, *]; first | done | exact rfl)))
              | (apply VOps.ef; (focus (first | exact rfl | (simp [Fr.only, argsF, *]; done))); (focus (simp [Fr.only, argsF, *]; first | done | exact rfl | exact ⟨rfl, rfl⟩)))
              | (apply VOps.fin; (focus (simp only [Fr.only, Fr.get, Fr.pt, reduceIte, Nat.reduceEqDiff]; first | done | exact rfl)))
              | refine VW.seq ?_
              | refine VW.reg ?_
              | refine VW.block ?_
              | refine VW.skip ?_
              | refine VW.exit ?_
              | refine VW.ret ?_
              | (apply VW.condT; (focus (first | exact rfl | (simp [Fr.only, argsF, *]; done))))
              | (apply VW.condF; (focus (first | exact rfl | (simp [Fr.only, argsF, *]; done))))
              | (simp only [then_normal, then_ret, then_exit, inB_normal, inB_ret, inB_exit, reduceIte, Nat.reduceEqDiff])
            exact ⟨trivial, by simp [Cov, Fr.only, ← hv2], trivial⟩
          | false =>
            by_cases g1 : a = 1
            · subst g1
              by_cases g2 : 0 ≤ b
              · repeat first
                  | (apply VOps.rd; (focus (first | exact rfl | (simp [Fr.only, argsF, *]; done))); (focus (exact rfl)))
                  | (apply VOps.sk; (focus (simp [Fr.only, argsF, *]; done)))
                  | (apply VOps.rd; (focus (first | exact rfl | (simp [Fr.only, argsF, *]; done))); (focus (simp [Fr.only, argsF, *]; first | done | exact rfl)))
                  | (apply VOps.ef; (focus (first | exact rfl | (simp [Fr.only, argsF, *]; done))); (focus (simp [Fr.only, argsF, *]; first | done | exact rfl | exact ⟨rfl, rfl⟩)))
                  | (apply VOps.fin; (focus (simp only [Fr.only, Fr.get, Fr.pt, reduceIte, Nat.reduceEqDiff]; first | done | exact rfl)))
                  | refine VW.seq ?_
                  | refine VW.reg ?_
                  | refine VW.block ?_
                  | refine VW.skip ?_
                  | refine VW.exit ?_
                  | refine VW.ret ?_
                  | (apply VW.condT; (focus (first | exact rfl | (simp [Fr.only, argsF, *]; done))))
                  | (apply VW.condF; (focus (first | exact rfl | (simp [Fr.only, argsF, *]; done))))
                  | (simp only [then_normal, then_ret, then_exit, inB_normal, inB_ret, inB_exit, reduceIte, Nat.reduceEqDiff])
                exact ⟨trivial, by simp [Cov, Fr.only, ← hv2, g2], trivial⟩
              · repeat first
                  | (apply VOps.rd; (focus (first | exact rfl | (simp [Fr.only, argsF, *]; done))); (focus (exact rfl)))
                  | (apply VOps.sk; (focus (simp [Fr.only, argsF, *]; done)))
                  | (apply VOps.rd; (focus (first | exact rfl | (simp [Fr.only, argsF, *]; done))); (focus (simp [Fr.only, argsF, *]; first | done | exact rfl)))
                  | (apply VOps.ef; (focus (first | exact rfl | (simp [Fr.only, argsF, *]; done))); (focus (simp [Fr.only, argsF, *]; first | done | exact rfl | exact ⟨rfl, rfl⟩)))
                  | (apply VOps.fin; (focus (simp only [Fr.only, Fr.get, Fr.pt, reduceIte, Nat.reduceEqDiff]; first | done | exact rfl)))
                  | refine VW.seq ?_
                  | refine VW.reg ?_
                  | refine VW.block ?_
                  | refine VW.skip ?_
                  | refine VW.exit ?_
                  | refine VW.ret ?_
                  | (apply VW.condT; (focus (first | exact rfl | (simp [Fr.only, argsF, *]; done))))
                  | (apply VW.condF; (focus (first | exact rfl | (simp [Fr.only, argsF, *]; done))))
                  | (simp only [then_normal, then_ret, then_exit, inB_normal, inB_ret, inB_exit, reduceIte, Nat.reduceEqDiff])
                exact ⟨trivial, by simp [Cov, Fr.only, ← hv2, g2], trivial⟩
            · repeat first
                | (apply VOps.rd; (focus (first | exact rfl | (simp [Fr.only, argsF, *]; done))); (focus (exact rfl)))
                | (apply VOps.sk; (focus (simp [Fr.only, argsF, *]; done)))
                | (apply VOps.rd; (focus (first | exact rfl | (simp [Fr.only, argsF, *]; done))); (focus (simp [Fr.only, argsF, *]; first | done | exact rfl)))
                | (apply VOps.ef; (focus (first | exact rfl | (simp [Fr.only, argsF, *]; done))); (focus (simp [Fr.only, argsF, *]; first | done | exact rfl | exact ⟨rfl, rfl⟩)))
                | (apply VOps.fin; (focus (simp only [Fr.only, Fr.get, Fr.pt, reduceIte, Nat.reduceEqDiff]; first | done | exact rfl)))
                | refine VW.seq ?_
                | refine VW.reg ?_
                | refine VW.block ?_
                | refine VW.skip ?_
                | refine VW.exit ?_
                | refine VW.ret ?_
                | (apply VW.condT; (focus (first | exact rfl | (simp [Fr.only, argsF, *]; done))))
                | (apply VW.condF; (focus (first | exact rfl | (simp [Fr.only, argsF, *]; done))))
                | (simp only [then_normal, then_ret, then_exit, inB_normal, inB_ret, inB_exit, reduceIte, Nat.reduceEqDiff])
              exact ⟨trivial, by simp [Cov, Fr.only, ← hv2, g1], trivial⟩
        rintro e F2 Hw ⟨rfl, hcov, rfl⟩
        refine VW.sub hcov ?_
        clear hcov hv2
        refine VW.seq ?_
        refine VW.mono (Q := fun e F2 H' => e = .normal ∧ Cov [(1, .ptr (some ⟨j, 0, 0⟩)), (3, .int .i64 al.length), (4, .int .i64 t), (5, .int .i64 s), (6, .int .i64 k), (7, .int .i64 i), (9, .bool (mayA al.length a b))] F2 ∧ H' = Hw) ?_ ?_
        · clear hA hit hit2 hvi hx3 a1 a2 a3 a4 b1 b2 b3 b4 e1 e2 m0 m1 hlt hlt2 hvk hx2 l0 l1 y2 y3 hmx h hx hq hq'
          generalize mayA al.length a b = v3 at *
          cases v2 with
          | true =>
            repeat first
              | (apply VOps.rd; (focus (first | exact rfl | (simp [Fr.only, argsF, *]; done))); (focus (exact rfl)))
              | (apply VOps.sk; (focus (simp [Fr.only, argsF, *]; done)))
              | (apply VOps.rd; (focus (first | exact rfl | (simp [Fr.only, argsF, *]; done))); (focus (simp [Fr.only, argsF, *]; first | done | exact rfl)))
              | (apply VOps.ef; (focus (first | exact rfl | (simp [Fr.only, argsF, *]; done))); (focus (simp [Fr.only, argsF, *]; first | done | exact rfl | exact ⟨rfl, rfl⟩)))
              | (apply VOps.fin; (focus (simp only [Fr.only, Fr.get, Fr.pt, reduceIte, Nat.reduceEqDiff]; first | done | exact rfl)))
              | refine VW.seq ?_
              | refine VW.reg ?_
              | refine VW.block ?_
              | refine VW.skip ?_
              | refine VW.exit ?_
              | refine VW.ret ?_
              | (apply VW.condT; (focus (first | exact rfl | (simp [Fr.only, argsF, *]; done))))
              | (apply VW.condF; (focus (first | exact rfl | (simp [Fr.only, argsF, *]; done))))
              | (simp only [then_normal, then_ret, then_exit, inB_normal, inB_ret, inB_exit, reduceIte, Nat.reduceEqDiff])
            exact ⟨trivial, by simp [Cov, Fr.only, ← hma], trivial⟩
          | false =>
            by_cases g1 : a = 2
            · subst g1
              by_cases g2 : 1 ≤ b
              · repeat first
                  | (apply VOps.rd; (focus (first | exact rfl | (simp [Fr.only, argsF, *]; done))); (focus (exact rfl)))
                  | (apply VOps.sk; (focus (simp [Fr.only, argsF, *]; done)))
                  | (apply VOps.rd; (focus (first | exact rfl | (simp [Fr.only, argsF, *]; done))); (focus (simp [Fr.only, argsF, *]; first | done | exact rfl)))
                  | (apply VOps.ef; (focus (first | exact rfl | (simp [Fr.only, argsF, *]; done))); (focus (simp [Fr.only, argsF, *]; first | done | exact rfl | exact ⟨rfl, rfl⟩)))
                  | (apply VOps.fin; (focus (simp only [Fr.only, Fr.get, Fr.pt, reduceIte, Nat.reduceEqDiff]; first | done | exact rfl)))
                  | refine VW.seq ?_
                  | refine VW.reg ?_
                  | refine VW.block ?_
                  | refine VW.skip ?_
                  | refine VW.exit ?_
                  | refine VW.ret ?_
                  | (apply VW.condT; (focus (first | exact rfl | (simp [Fr.only, argsF, *]; done))))
                  | (apply VW.condF; (focus (first | exact rfl | (simp [Fr.only, argsF, *]; done))))
                  | (simp only [then_normal, then_ret, then_exit, inB_normal, inB_ret, inB_exit, reduceIte, Nat.reduceEqDiff])
                exact ⟨trivial, by simp [Cov, Fr.only, ← hma, g2], trivial⟩
              · repeat first
                  | (apply VOps.rd; (focus (first | exact rfl | (simp [Fr.only, argsF, *]; done))); (focus (exact rfl)))
                  | (apply VOps.sk; (focus (simp [Fr.only, argsF, *]; done)))
                  | (apply VOps.rd; (focus (first | exact rfl | (simp [Fr.only, argsF, *]; done))); (focus (simp [Fr.only, argsF, *]; first | done | exact rfl)))
                  | (apply VOps.ef; (focus (first | exact rfl | (simp [Fr.only, argsF, *]; done))); (focus (simp [Fr.only, argsF, *]; first | done | exact rfl | exact ⟨rfl, rfl⟩)))
                  | (apply VOps.fin; (focus (simp only [Fr.only, Fr.get, Fr.pt, reduceIte, Nat.reduceEqDiff]; first | done | exact rfl)))
                  | refine VW.seq ?_
                  | refine VW.reg ?_
                  | refine VW.block ?_
                  | refine VW.skip ?_
                  | refine VW.exit ?_
                  | refine VW.ret ?_
                  | (apply VW.condT; (focus (first | exact rfl | (simp [Fr.only, argsF, *]; done))))
                  | (apply VW.condF; (focus (first | exact rfl | (simp [Fr.only, argsF, *]; done))))
                  | (simp only [then_normal, then_ret, then_exit, inB_normal, inB_ret, inB_exit, reduceIte, Nat.reduceEqDiff])
                exact ⟨trivial, by simp [Cov, Fr.only, ← hma, g2], trivial⟩
            · repeat first
                | (apply VOps.rd; (focus (first | exact rfl | (simp [Fr.only, argsF, *]; done))); (focus (exact rfl)))
                | (apply VOps.sk; (focus (simp [Fr.only, argsF, *]; done)))
                | (apply VOps.rd; (focus (first | exact rfl | (simp [Fr.only, argsF, *]; done))); (focus (simp [Fr.only, argsF, *]; first | done | exact rfl)))
                | (apply VOps.ef; (focus (first | exact rfl | (simp [Fr.only, argsF, *]; done))); (focus (simp [Fr.only, argsF, *]; first | done | exact rfl | exact ⟨rfl, rfl⟩)))
                | (apply VOps.fin; (focus (simp only [Fr.only, Fr.get, Fr.pt, reduceIte, Nat.reduceEqDiff]; first | done | exact rfl)))
                | refine VW.seq ?_
                | refine VW.reg ?_
                | refine VW.block ?_
                | refine VW.skip ?_
                | refine VW.exit ?_
                | refine VW.ret ?_
                | (apply VW.condT; (focus (first | exact rfl | (simp [Fr.only, argsF, *]; done))))
                | (apply VW.condF; (focus (first | exact rfl | (simp [Fr.only, argsF, *]; done))))
                | (simp only [then_normal, then_ret, then_exit, inB_normal, inB_ret, inB_exit, reduceIte, Nat.reduceEqDiff])
              exact ⟨trivial, by simp [Cov, Fr.only, ← hma, g1], trivial⟩
        rintro e F2 Hv ⟨rfl, hcov, rfl⟩
        refine VW.sub hcov ?_
        clear hcov hma
        generalize mayA al.length a b = v3 at *
        refine VW.seq (VW.reg ?_)
        refine VOps.rd rfl rfl ?_
        refine VOps.rd rfl rfl ?_
        refine VOps.nil ⟨rfl, ?_⟩
        cases v3 with
        | true =>
          refine VW.condF rfl (VW.skip (VW.reg ?_))
          refine VOps.rd rfl rfl ?_
          refine VOps.rd rfl rfl ?_
          refine VOps.rd rfl rfl ?_
          exact VOps.nil ⟨rfl, t - (i + 1), by omega, i + 1, by omega, rfl, by simp [Fr.only, hvi], hx3, by rw [hA]; rfl⟩
        | false =>
          refine VW.condT rfl (VW.seq (VW.reg ?_))
          refine VOps.rd rfl rfl ?_
          exact VOps.nil ⟨rfl, VW.ret (.inl ⟨rfl, ⟨_, rfl, rfl⟩, hx3, by rw [hA]; rfl⟩)⟩
      · have : i = la.length := by omega
        subst this
        rw [all_end] at hA
        refine VW.seq (VW.seq (VW.reg ?_))
        refine VOps.rd rfl rfl ?_
        refine VOps.rd rfl rfl ?_
        refine VOps.rd rfl rfl ?_
        refine VOps.nil ⟨rfl, VW.condF (by simp [Fr.only, e1]) (VW.exit ?_)⟩
        simp only [then_normal, then_ret, then_exit, inB_normal, inB_ret, inB_exit, reduceIte, Nat.reduceEqDiff]
        exact .inr ⟨trivial, by simp [Cov, Fr.only], hx3, hA⟩
    rintro e F2 H3 (⟨rfl, ⟨v, hv, rfl⟩, hx3, hA⟩ | ⟨rfl, hcov, hx3, hA⟩)
    · exact ⟨.inl rfl, _, hv, by rw [hS, hA]; rfl, (hx.trans hx2).trans hx3⟩
    refine VW.sub hcov ?_
    rw [hA, Bool.true_and] at hS
    replace m1 := ext_ld hx3 m1
    replace b1 := ext_ixp hx3 b1
    replace b2 := ext_ld hx3 b2
    replace b3 := hx3.sl b3
    replace hx2 := hx2.trans hx3
    clear hcov hA hx3 m0 a1 a2 a3 a4 e1
    -- the gotos
    refine VW.seq (VW.reg ?_)
    refine VOps.rd rfl rfl ?_
    refine VOps.nil ⟨rfl, ?_⟩
    show VW _ _ _ _ [(1, .ptr (some ⟨j, 0, 0⟩)), (3, .int .i64 al.length), (4, .int .i64 t), (5, .int .i64 s), (6, .int .i64 k), (10, .int .i64 0)] _ _
    refine VW.mono (Q := fun e F2 H' => (e = .ret ∧ (∃ v, resV F2 H' [RV.t 2] = some v ∧ v = .bool false) ∧ H' = H3 ∧ lg.all (mayG al.length) = false) ∨ (e = .normal ∧ Cov [(1, .ptr (some ⟨j, 0, 0⟩)), (3, .int .i64 al.length), (4, .int .i64 t), (5, .int .i64 s), (6, .int .i64 k)] F2 ∧ H' = H3 ∧ lg.all (mayG al.length) = true)) ?_ ?_
    · refine VW.block ?_
      refine VW.loop (fun m F' H' => ∃ i : Nat, i ≤ s ∧ m = s - i ∧ F' = [(1, .ptr (some ⟨j, 0, 0⟩)), (3, .int .i64 al.length), (4, .int .i64 t), (5, .int .i64 s), (6, .int .i64 k), (10, .int .i64 i)] ∧ H' = H3 ∧ lg.all (mayG al.length) = (lg.drop i).all (mayG al.length)) s
        ⟨0, by omega, rfl, rfl, rfl, rfl⟩ ?_
      clear hS
      rintro m F' H4 ⟨i, hi, rfl, rfl, rfl, hA⟩
      by_cases hit : i < s
      · have hvi := wrap_id (x := (i : Int) + 1) (by omega) (by omega)
        obtain ⟨r, hr, r1, r2⟩ := sl_int b3 (k := i) (by omega)
        rw [all_step (d := (0 : Int)) (show i < lg.length by omega)] at hA
        generalize lg.getD i 0 = x at *
        have hit2 : i < lg.length := by omega
        refine VW.seq (VW.seq (VW.reg ?_))
        refine VOps.rd rfl rfl ?_
        refine VOps.rd rfl rfl ?_
        refine VOps.rd rfl rfl ?_
        refine VOps.nil ⟨rfl, VW.condT (by simp [Fr.only, hit]) (VW.skip ?_)⟩
        show VW _ _ _ _ [(1, .ptr (some ⟨j, 0, 0⟩)), (3, .int .i64 al.length), (4, .int .i64 t), (5, .int .i64 s), (6, .int .i64 k), (10, .int .i64 i), (142, _)] _ _
        refine VW.seq (VW.block (VW.seq (VW.reg ?_)))
        refine VOps.rd rfl rfl ?_
        refine VOps.rd (v := .sl pg gs.length cg) rfl (by simp [m1]) ?_
        refine VOps.rd rfl rfl ?_
        refine VOps.rd (v := .ptr (some (elp (some q') k))) rfl (by simp [hq', b1, hlt2]) ?_
        refine VOps.rd (v := .sl pk' lg.length ck') rfl (by simp [b2]) ?_
        refine VOps.rd rfl rfl ?_
        refine VOps.rd (v := .ptr (some (elp (some r) i))) rfl (by simp [hr, r1, hit2]) ?_
        refine VOps.rd (v := .int .i64 x) rfl (by simp [r2]) ?_
        refine VOps.rd rfl rfl ?_
        refine VOps.rd (v := .bool (decide (x < -1))) rfl rfl ?_
        by_cases g1 : x < -1
        · rw [decide_eq_true g1]
          iterate 10 refine VOps.sk rfl ?_
          refine VOps.rd (v := .bool true) rfl rfl ?_
          refine VOps.nil ⟨rfl, VW.condT rfl (VW.seq (VW.reg ?_))⟩
          refine VOps.rd rfl rfl ?_
          refine VOps.nil ⟨rfl, VW.ret (.inl ⟨rfl, ⟨_, rfl, rfl⟩, rfl, ?_⟩)⟩
          rw [hA]; unfold mayG; rw [decide_eq_false (by omega)]; rfl
        rw [decide_eq_false g1]
        refine VOps.rd rfl rfl ?_
        refine VOps.rd (v := .sl pg gs.length cg) rfl (by simp [m1]) ?_
        refine VOps.rd rfl rfl ?_
        refine VOps.rd (v := .ptr (some (elp (some q') k))) rfl (by simp [hq', b1, hlt2]) ?_
        refine VOps.rd (v := .sl pk' lg.length ck') rfl (by simp [b2]) ?_
        refine VOps.rd rfl rfl ?_
        refine VOps.rd (v := .ptr (some (elp (some r) i))) rfl (by simp [hr, r1, hit2]) ?_
        refine VOps.rd (v := .int .i64 x) rfl (by simp [r2]) ?_
        refine VOps.rd rfl rfl ?_
        refine VOps.rd (v := .bool (decide ((al.length : Int) ≤ x))) rfl rfl ?_
        refine VOps.rd (v := .bool (decide ((al.length : Int) ≤ x))) rfl rfl ?_
        refine VOps.nil ⟨rfl, VW.cond rfl (fun g2 => ?_) (fun g2 => ?_)⟩
        · replace g2 := of_decide_eq_true g2
          refine VW.seq (VW.reg ?_)
          refine VOps.rd rfl rfl ?_
          refine VOps.nil ⟨rfl, VW.ret (.inl ⟨rfl, ⟨_, rfl, rfl⟩, rfl, ?_⟩)⟩
          rw [hA]; unfold mayG; rw [decide_eq_false (show ¬ x < al.length by omega), Bool.and_false]; rfl
        · replace g2 := of_decide_eq_false g2
          refine VW.skip (VW.reg ?_)
          refine VOps.rd rfl rfl ?_
          refine VOps.rd rfl rfl ?_
          refine VOps.rd rfl rfl ?_
          refine VOps.nil ⟨rfl, s - (i + 1), by omega, i + 1, by omega, rfl, by simp [Fr.only, hvi], rfl, ?_⟩
          rw [hA, show mayG al.length x = true by unfold mayG; rw [decide_eq_true (by omega), decide_eq_true (by omega)]; rfl]; rfl
      · have : i = lg.length := by omega
        subst this
        rw [all_end] at hA
        refine VW.seq (VW.seq (VW.reg ?_))
        refine VOps.rd rfl rfl ?_
        refine VOps.rd rfl rfl ?_
        refine VOps.rd rfl rfl ?_
        refine VOps.nil ⟨rfl, VW.condF (by simp [Fr.only, e2]) (VW.exit ?_)⟩
        simp only [then_normal, then_ret, then_exit, inB_normal, inB_ret, inB_exit, reduceIte, Nat.reduceEqDiff]
        exact .inr ⟨trivial, by simp [Cov, Fr.only], trivial, hA⟩
    rintro e F2 H4 (⟨rfl, ⟨v, hv, rfl⟩, rfl, hA⟩ | ⟨rfl, hcov, rfl, hA⟩)
    · exact ⟨.inl rfl, _, hv, by rw [hS, hA]; rfl, hx.trans hx2⟩
    refine VW.sub hcov (VW.reg ?_)
    refine VOps.rd rfl rfl ?_
    refine VOps.rd rfl rfl ?_
    refine VOps.rd rfl rfl ?_
    refine VOps.nil ⟨rfl, al.length - (k + 1), by omega, k + 1, by omega, rfl, by simp [Fr.only, hvk], hx2, ?_⟩
    rw [hS, hA]; rfl
  · have : k = al.length := by omega
    subst this
    rw [Nat.sub_self] at hS
    refine VW.seq (VW.seq (VW.reg ?_))
    refine VOps.rd rfl rfl ?_
    refine VOps.rd rfl rfl ?_
    refine VOps.rd rfl rfl ?_
    refine VOps.nil ⟨rfl, VW.condF (by simp [Fr.only]) (VW.exit ?_)⟩
    simp only [then_normal, then_ret, then_exit, inB_normal, inB_ret, inB_exit, reduceIte, Nat.reduceEqDiff]
    refine VW.seq (VW.reg ?_)
    refine VOps.rd rfl rfl ?_
    refine VOps.nil ⟨rfl, VW.ret ⟨.inl rfl, _, rfl, ?_, hx.trans hx2⟩⟩
    rw [hS]; rfl
end
end Go.Proofs.Ytlclbfkdaemilaa

/- Lists that grow, rows of rows; what the packer lays. -/
namespace Go.Proofs.Ytlclbfkdaemilaa
set_option linter.unusedSimpArgs false
set_option linter.unusedVariables false
open Go Go.Vm Go.Proofs
set_option maxRecDepth 100000
set_option maxHeartbeats 1000000

/-- parts of a code -/
def VC.l : VC → VC
  | .seq x _ => x
  | .cond _ x _ => x
  | .block _ x => x
  | .loop x => x
  | x => x
def VC.r : VC → VC
  | .seq _ y => y
  | .cond _ _ y => y
  | x => x

/-- a list that grows, of any type -/
def GrowR (H : Hp) (t : TypeId) (z : Nat) (i : Option Nat) (es : List (List VV)) : Prop :=
  match i with
  | none => es = []
  | some i => H[i]? = some (.row t .loose es) ∧ es ≠ [] ∧ ∀ e ∈ es, e.length = z
section
variable {H : Hp} {t : TypeId} {z : Nat} {i : Option Nat} {es : List (List VV)}
theorem GrowR.sl (h : GrowR H t z i es) : Sl H (gptr i) z es := by
  cases i with
  | none => exact .inl h
  | some i => exact .inr ⟨i, 0, _, _, _, rfl, h.1, h.2.2, fun k e he => by rw [Nat.zero_add]; exact he⟩
theorem GrowR.keep (h : GrowR H t z i es) {H' : Hp} (hk : ∀ k, i = some k → H'[k]? = H[k]?) : GrowR H' t z i es := by
  cases i with
  | none => exact h
  | some i => exact ⟨by rw [hk i rfl]; exact h.1, h.2⟩
theorem GrowR.lt (h : GrowR H t z i es) {k : Nat} (hk : i = some k) : k < H.length := by subst hk; exact get_lt h.1
theorem GrowR.push (h : GrowR H t z i es) {new : List VV} (hn : new.length = z) {bytes : Nat} (hb : (es.length + 1) * bytes ≤ 140737488355328) (h2 : es.length < 4611686018427387904) :
    srcEls (H ++ [.row t .own [new]]) z (.sl (some ⟨H.length, 0, 0⟩) 1 1) = some [new] ∧
    appV (H ++ [.row t .own [new]]) t z bytes (gptr i) es.length es.length [new] = some (.sl (some ⟨H.length + 1, 0, 0⟩) (es.length + 1) (es.length + 1), kill (H ++ [.row t .own [new]]) i ++ [.row t .loose (es ++ [new])]) ∧
    GrowR (kill (H ++ [.row t .own [new]]) i ++ [.row t .loose (es ++ [new])]) t z (some (H.length + 1)) (es ++ [new]) := by
  refine ⟨by simp [srcEls, hn], ?_, ?_⟩
  · cases i with
    | none =>
      have : es = [] := h
      subst this
      simp only [List.length_nil, Nat.zero_add, Nat.one_mul] at hb
      simp [appV, gptr, kill, hb]
    | some i =>
      obtain ⟨hi, hne, hz⟩ := h
      have hb' : (H ++ [Blk.row t Mode.own [new]])[i]? = some (.row t .loose es) := get_push hi _
      have hsrc := sl_src (H := H ++ [Blk.row t Mode.own [new]]) (p := some ⟨i, 0, 0⟩) (z := z) (c := es.length) (es := es) (.inr ⟨_, 0, _, _, _, rfl, hb', hz, fun k e hk => by rw [Nat.zero_add]; exact hk⟩)
      have hhd : es.head?.map List.length = some z := by
        cases es with
        | nil => exact absurd rfl hne
        | cons a l => simp [hz a]
      unfold appV
      simp only [gptr, List.length_singleton]
      rw [if_neg (by omega), if_pos ⟨hb, by omega⟩]
      simp only [hb', hsrc, hhd, if_true, and_self, kill]
      simp
  · refine ⟨?_, by simp, ?_⟩
    · rw [List.getElem?_append_right (by rw [kill_len]; simp), kill_len]
      simp
    · intro e he
      rcases List.mem_append.1 he with he | he
      · cases i with
        | none => have : es = [] := h; subst this; cases he
        | some i => exact h.2.2 e he
      · rw [List.mem_singleton] at he; subst he; exact hn
/-- a copy -/
theorem copy_row {p : Option PA} {c bytes : Nat} (h : Sl H p z es) (hz : ∀ e ∈ es, e.length = z) (hb : es.length * bytes ≤ 140737488355328) (h2 : es.length < 4611686018427387904) :
    ∃ q A, srcEls (H ++ [.row t .own []]) z (.sl p es.length c) = some es ∧ appV (H ++ [.row t .own []]) t z bytes (some ⟨H.length, 0, 0⟩) 0 0 es = some (.sl (some q) es.length es.length, A) ∧ Sl A (some q) z es ∧ Ext H A ∧ A.length ≤ H.length + 2 := by
  have hsrc := sl_src (c := c) (h.mono [.row t .own []])
  by_cases he : es = []
  · subst he
    exact ⟨⟨H.length, 0, 0⟩, H ++ [.row t .own []], hsrc, by simp [appV], .inl rfl, .app _ _, by simp⟩
  · have hpos : 0 < es.length := List.length_pos_iff.2 he
    have hb1 : (H ++ [Blk.row t .own []])[H.length]? = some (.row t .own []) := by simp
    refine ⟨⟨H.length + 1, 0, 0⟩, (H ++ [.row t .own []]) ++ [.row t .loose es], hsrc, ?_, ?_, (Ext.app _ _).push _, by simp⟩
    · unfold appV
      simp only [Nat.zero_add]
      rw [if_neg (by omega), if_pos ⟨hb, by omega⟩]
      simp only [hb1, srcEls]
      simp
    · refine .inr ⟨H.length + 1, 0, .loose, t, es, rfl, by simp, hz, fun k e hk => by rw [Nat.zero_add]; exact hk⟩
end
theorem edge_len2 (l : Edges) : ∀ e ∈ edgeEs l, e.length = 2 := fun e he => by obtain ⟨n, _, rfl⟩ := List.mem_map.1 he; rfl
theorem int_len1 (l : List Int) : ∀ e ∈ intEs l, e.length = 1 := fun e he => by obtain ⟨n, _, rfl⟩ := List.mem_map.1 he; rfl
theorem one_len1 (l : List VV) : ∀ e ∈ l.map (fun v => [v]), e.length = 1 := fun e he => by obtain ⟨n, _, rfl⟩ := List.mem_map.1 he; rfl

/-- a block that holds a list of one-cell things: its places -/
theorem row_ops {H : Hp} {b : Nat} {t : TypeId} {ws : List VV} (h : H[b]? = some (.row t .own (ws.map fun v => [v]))) {k : Nat} {x : VV} (hx : ws[k]? = some x) :
    Vm.ixp H ⟨b, 0, 0⟩ k 1 = some ⟨b, k, 0⟩ ∧ Vm.ld H ⟨b, k, 0⟩ = some x ∧ ∀ y : VV, y.cell = true → Vm.stc H ⟨b, k, 0⟩ [y] = some (H.set b (.row t .own ((ws.set k y).map fun v => [v]))) := by
  obtain ⟨hk, hxe⟩ := List.getElem?_eq_some_iff.1 hx
  refine ⟨?_, ?_, fun y hy => ?_⟩
  · cases ws with
    | nil => simp at hk
    | cons a ws =>
      simp [Vm.ixp, eszOf, h, padd]
  · simp only [Vm.ld, h, List.getElem?_map, hx]
    rfl
  · have hok : okCells [y] = true := by unfold okCells; simp only [List.all_cons, List.all_nil, hy, Bool.and_true]
    simp only [stc, h, if_neg (show Vm.Mode.own ≠ .ro by decide), List.getElem?_map, hx, Option.map_some, hok]
    simp [upd]
/-- all that was there is as it was, but one block -/
def OffB (br : Nat) (H H' : Hp) : Prop := H.length ≤ H'.length ∧ ∀ k, k < H.length → k ≠ br → H'[k]? = H[k]?
theorem OffB.refl (br : Nat) (H : Hp) : OffB br H H := ⟨Nat.le_refl _, fun _ _ _ => rfl⟩
theorem OffB.trans {br : Nat} {A B C : Hp} (h : OffB br A B) (g : OffB br B C) : OffB br A C :=
  ⟨Nat.le_trans h.1 g.1, fun k hk hne => (g.2 k (Nat.lt_of_lt_of_le hk h.1) hne).trans (h.2 k hk hne)⟩
theorem OffB.of_ext {br : Nat} {A B : Hp} (h : Ext A B) : OffB br A B := ⟨h.1, fun k hk _ => h.2 k hk⟩
theorem OffB.set {br : Nat} {A B : Hp} (h : OffB br A B) (x : Blk) : OffB br A (B.set br x) := ⟨by simpa using h.1, fun k hk hne => by rw [List.getElem?_set_ne (Ne.symm hne)]; exact h.2 k hk hne⟩
theorem OffB.push {br : Nat} {A B : Hp} (h : OffB br A B) (G : Hp) : OffB br A (B ++ G) := h.trans (.of_ext (.app B G))
theorem OffB.kill {br : Nat} {A B : Hp} (h : OffB br A B) {i : Option Nat} (hi : ∀ k, i = some k → A.length ≤ k) : OffB br A (kill B i) := by
  cases i with
  | none => exact h
  | some i => exact ⟨by simpa [Proofs.Ytlclbfkdaemilaa.kill] using h.1, fun k hk hne => by
      unfold Proofs.Ytlclbfkdaemilaa.kill
      have := hi i rfl
      rw [List.getElem?_set_ne (by omega)]; exact h.2 k hk hne⟩
theorem OffB.ext {br : Nat} {A B C : Hp} (h : Ext A B) (hb : A.length ≤ br) (g : OffB br B C) : Ext A C :=
  ⟨Nat.le_trans h.1 g.1, fun k hk => (g.2 k (Nat.lt_of_lt_of_le hk h.1) (by omega)).trans (h.2 k hk)⟩
theorem set_same {α : Type} {l : List α} {k : Nat} {x : α} (h : l[k]? = some x) : l.set k x = l := by
  apply List.ext_getElem?
  intro i
  by_cases e : k = i
  · subst e; rw [List.getElem?_set_self (List.getElem?_eq_some_iff.1 h).1, h]
  · rw [List.getElem?_set_ne e]

/-- an action that is kept -/
def keepA (m : Int) (e : Int × Int) : Bool := (e.1 != 0) && ((e.1 != 2) || (e.2 != m))
def rowAn (l : Edges) (m : Int) : Nat → Edges
  | 0 => []
  | t + 1 => rowAn l m t ++ (if keepA m (l.getD t (0, 0)) = true then [((t : Int), codeS (l.getD t (0, 0)).1 (l.getD t (0, 0)).2)] else [])
theorem rowAn_len (l : Edges) (m : Int) : ∀ t, (rowAn l m t).length ≤ t
  | 0 => by simp [rowAn]
  | t + 1 => by have := rowAn_len l m t; unfold rowAn; split <;> simp <;> omega
def dfA (l : Edges) : Int := mostS (keysOf (fun k => (l.getD k (0, 0)).2) (fun k => (l.getD k (0, 0)).1 == 2) l.length)
def rowA (l : Edges) : Edges := rowAn l (dfA l) l.length
def dfsA (al : List Edges) : List Int := al.map dfA
def rowsA (al : List Edges) : List Edges := al.map rowA
/-- the goto of a row at a place -/
def gAt (gs : List (List Int)) (n q : Nat) : Int := (gs.getD q []).getD n 0
def tgG (gs : List (List Int)) (n : Nat) : Int := mostS (keysOf (fun q => gAt gs n q) (fun q => decide (0 ≤ gAt gs n q)) gs.length)
def keepG (m x : Int) : Bool := decide (0 ≤ x) && (x != m)
def rowGn (gs : List (List Int)) (n : Nat) (m : Int) : Nat → Edges
  | 0 => []
  | q + 1 => rowGn gs n m q ++ (if keepG m (gAt gs n q) = true then [((q : Int), gAt gs n q)] else [])
theorem rowGn_len (gs : List (List Int)) (n : Nat) (m : Int) : ∀ q, (rowGn gs n m q).length ≤ q
  | 0 => by simp [rowGn]
  | q + 1 => by have := rowGn_len gs n m q; unfold rowGn; split <;> simp <;> omega
def rowG (gs : List (List Int)) (n : Nat) : Edges := rowGn gs n (tgG gs n) gs.length
def tgsG (gs : List (List Int)) (s : Nat) : List Int := (List.range s).map (tgG gs)
def rowsG (gs : List (List Int)) (s : Nat) : List Edges := (List.range s).map (rowG gs)

/-- rows of which some are done, the others none yet -/
structure RowP (B0 : Nat) (H : Hp) (br N q : Nat) (vs : List VV) (rows : List Edges) : Prop where
  blk : H[br]? = some (.row 40 .own (vs.map fun v => [v]))
  len : vs.length = N
  done : ∀ k, k < q → ∃ o, vs[k]? = some (.sl (gptr o) (rows.getD k []).length (rows.getD k []).length) ∧ GrowR H 42 2 o (edgeEs (rows.getD k [])) ∧ ∀ b, o = some b → B0 ≤ b
  todo : ∀ k, q ≤ k → k < N → vs[k]? = some (.sl none 0 0)
theorem RowP.keep {B0 : Nat} {H H' : Hp} {br N q : Nat} {vs : List VV} {rows : List Edges} (h : RowP B0 H br N q vs rows) (hb : H'[br]? = H[br]?) (hk : ∀ k es, B0 ≤ k → H[k]? = some (.row 42 .loose es) → H'[k]? = H[k]?) : RowP B0 H' br N q vs rows :=
  ⟨by rw [hb]; exact h.blk, h.len, fun k hkq => let ⟨o, h1, h2, h3⟩ := h.done k hkq; ⟨o, h1, h2.keep fun b e => by subst e; exact hk b _ (h3 b rfl) h2.1, h3⟩, h.todo⟩
theorem RowP.rowV {B0 : Nat} {H : Hp} {br N : Nat} {vs : List VV} {rows : List Edges} (h : RowP B0 H br N N vs rows) (hn : rows.length = N) (hl : ∀ k, k < N → (rows.getD k []).length ≤ maxLen) :
    Sl H (some ⟨br, 0, 0⟩) 1 (vs.map fun v => [v]) ∧ RowV H vs rows := by
  refine ⟨.inr ⟨br, 0, _, _, _, rfl, h.blk, one_len1 vs, fun k e hk => by rw [Nat.zero_add]; exact hk⟩, by rw [h.len, hn], fun k hk => ?_⟩
  obtain ⟨o, h1, h2, _⟩ := h.done k (by omega)
  exact ⟨gptr o, _, h1, h2.sl, hl k (by omega)⟩
end Go.Proofs.Ytlclbfkdaemilaa

/- pack.Pack: the loop over one state's actions. -/
namespace Go.Proofs.Ytlclbfkdaemilaa
set_option linter.unusedSimpArgs false
set_option linter.unusedVariables false
open Go Go.Vm Go.Proofs
set_option maxRecDepth 100000
set_option maxHeartbeats 2000000

section
variable {B : Nat} {H0 H : Hp} {v1 v2 v4 v24 v25 v26 : VV} {br N q T cl : Nat} {m : Int} {l : Edges} {pl : Option PA} {vs : List VV}
theorem packA_in (hx0 : Ext H0 H) (hbr : H0.length ≤ br) (hl : Sl H0 pl 2 (edgeEs l)) (hT : l.length = T) (hT2 : T ≤ 65) (hval : ∀ k, k < T → 0 ≤ (l.getD k (0, 0)).2 ∧ (l.getD k (0, 0)).2 ≤ 1000) (hq : q < N)
    (hb : H[br]? = some (.row 40 .own (vs.map fun v => [v]))) (hvs : vs.length = N) (hvq : vs[q]? = some (.sl none 0 0)) :
    VW Try.prog B 147 (VC.r (VC.r (VC.r (VC.r (VC.l (VC.l (VC.r (VC.r (VC.l (VC.l (VC.r (VC.l (VC.r (VC.r (VC.r (VC.r w23.vc))))))))))))))))
      [(1, v1), (2, v2), (4, v4), (5, .sl (some ⟨br, 0, 0⟩) N N), (6, .int .i64 q), (8, .int .i64 m), (24, v24), (25, v25), (26, v26), (39, .sl pl T cl), (40, .int .i64 T), (41, .int .i64 0)] H
      fun e F2 H' => e = .normal ∧ Cov [(1, v1), (2, v2), (4, v4), (5, .sl (some ⟨br, 0, 0⟩) N N), (24, v24), (25, v25), (26, v26)] F2 ∧ OffB br H H' ∧
        ∃ o, H'[br]? = some (.row 40 .own ((vs.set q (.sl (gptr o) (rowAn l m T).length (rowAn l m T).length)).map fun v => [v])) ∧ GrowR H' 42 2 o (edgeEs (rowAn l m T)) ∧ ∀ b, o = some b → H.length ≤ b := by
  dsimp only [w23, VC.l, VC.r]
  refine VW.block ?_
  refine VW.loop (fun k' F' H' => ∃ t : Nat, t ≤ T ∧ k' = T - t ∧ Cov [(1, v1), (2, v2), (4, v4), (5, .sl (some ⟨br, 0, 0⟩) N N), (6, .int .i64 q), (8, .int .i64 m), (24, v24), (25, v25), (26, v26), (39, .sl pl T cl), (40, .int .i64 T), (41, .int .i64 t)] F' ∧ OffB br H H' ∧
      ∃ o, H'[br]? = some (.row 40 .own ((vs.set q (.sl (gptr o) (rowAn l m t).length (rowAn l m t).length)).map fun v => [v])) ∧ GrowR H' 42 2 o (edgeEs (rowAn l m t)) ∧ ∀ b, o = some b → H.length ≤ b) T
    ⟨0, by omega, rfl, by simp [Cov, Fr.only], .refl _ _, none, by show H[br]? = some (.row 40 .own ((vs.set q (.sl none 0 0)).map fun v => [v])); rw [set_same hvq]; exact hb, rfl, fun b e => by cases e⟩ ?_
  rintro k' F' H2 ⟨t, ht, rfl, hcov, hoff, o, hbr2, hg, hlo⟩
  refine VW.sub hcov ?_
  clear hcov
  have hx2 := hoff.ext hx0 hbr
  by_cases hlt : t < T
  · have hvt := wrap_id (x := (t : Int) + 1) (by omega) (by omega)
    obtain ⟨r, hr, r1, r2, r3, r4⟩ := sl_edge (hx2.sl hl) (k := t) (by omega)
    obtain ⟨w1, w2⟩ := hval t hlt
    have hstep : rowAn l m (t + 1) = rowAn l m t ++ (if keepA m (l.getD t (0, 0)) = true then [((t : Int), codeS (l.getD t (0, 0)).1 (l.getD t (0, 0)).2)] else []) := rfl
    have hrl := rowAn_len l m t
    generalize l.getD t (0, 0) = ab at *
    obtain ⟨a, b⟩ := ab
    simp only at w1 w2 r2 r3 hstep
    generalize rowAn l m t = rw0 at *
    have hs2 := stc_last2 (H := H2) (t := 46) (md := .own) (by decide) (a := .int .i64 0) (b := .int .i64 0) (c := .int .i64 a) (d := .int .i64 b) rfl rfl
    refine VW.seq (VW.reg ?_)
    refine VOps.rd rfl rfl ?_
    refine VOps.nil ⟨rfl, VW.seq (VW.condT (by simp [Fr.only, hlt]) (VW.skip ?_))⟩
    refine VW.seq (VW.block (VW.seq (VW.reg ?_)))
    refine VOps.rd rfl rfl ?_
    refine VOps.rd (v := .ptr (some (elp (some r) t))) rfl (by simp [Fr.only, hr, r1, hlt]) ?_
    refine VOps.rd (v := .agg [.int .i64 a, .int .i64 b]) rfl (by simp [r3]) ?_
    refine VOps.ef (v := .ptr (some ⟨H2.length, 0, 0⟩)) (H' := H2 ++ [.row 46 .own [[.int .i64 0, .int .i64 0]]]) rfl (by simp) ?_
    refine VOps.rd rfl rfl ?_
    refine VOps.ef (v := .undef) (H' := H2 ++ [.row 46 .own [[.int .i64 a, .int .i64 b]]]) rfl (by simp [hs2]) ?_
    refine VOps.nil ⟨rfl, ?_⟩
    show VW _ _ _ _ [(1, v1), (2, v2), (4, v4), (5, .sl (some ⟨br, 0, 0⟩) N N), (6, .int .i64 q), (8, .int .i64 m), (9, .int .i64 t), (10, .ptr (some ⟨H2.length, 0, 0⟩)), (24, v24), (25, v25), (26, v26), (39, .sl pl T cl), (40, .int .i64 T), (41, .int .i64 t)] _ _
    have hbx : (H2 ++ [Blk.row 46 .own [[.int .i64 a, .int .i64 b]]])[H2.length]? = some (.row 46 .own [[.int .i64 a, .int .i64 b]]) := by simp
    replace hbr2 := get_push hbr2 [.row 46 .own [[.int .i64 a, .int .i64 b]]]
    replace hg : GrowR (H2 ++ [.row 46 .own [[.int .i64 a, .int .i64 b]]]) 42 2 o (edgeEs rw0) := hg.keep fun k e => by rw [List.getElem?_append_left (hg.lt e)]
    replace hoff := hoff.push [.row 46 .own [[.int .i64 a, .int .i64 b]]]
    clear hs2 r1 r2 r3 r4 hr hx2
    generalize H2 ++ [.row 46 .own [[.int .i64 a, .int .i64 b]]] = H3 at *
    generalize H2.length = ib at *
    have la0 := ld_own hbx 0
    have la1 := ld_own hbx 1
    have la2 := lds_own hbx 0 2
    simp only [List.getElem?_cons_zero, List.getElem?_cons_succ] at la0 la1
    simp only [List.length_cons, List.length_nil, Nat.zero_add, Nat.le_refl, if_true, List.drop_zero, List.take_succ_cons, List.take_zero] at la2
    clear hbx
    refine VW.seq ?_
    refine VW.mono (Q := fun e F2 H' => e = .normal ∧ Cov [(1, v1), (2, v2), (4, v4), (5, .sl (some ⟨br, 0, 0⟩) N N), (6, .int .i64 q), (8, .int .i64 m), (9, .int .i64 t), (10, .ptr (some ⟨ib, 0, 0⟩)), (24, v24), (25, v25), (26, v26), (39, .sl pl T cl), (40, .int .i64 T), (41, .int .i64 t), (59, .bool (keepA m (a, b)))] F2 ∧ H' = H3) ?_ ?_
    · clear hstep hrl hg hoff hbr2 hlo hvt hlt w1 w2 ht hb hvs hvq hx0 hbr hl hT hT2 hval hq la2
      unfold keepA
      by_cases g1 : a = 0
      · subst g1
        repeat first
          | (apply VOps.rd; (focus (first | exact rfl | (simp [Fr.only, argsF, *]; done))); (focus (exact rfl)))
          | (apply VOps.sk; (focus (simp [Fr.only, argsF, *]; done)))
          | (apply VOps.rd; (focus (first | exact rfl | (simp [Fr.only, argsF, *]; done))); (focus (simp [Fr.only, argsF, *]; first | done | exact rfl)))
          | (apply VOps.ef; (focus (first | exact rfl | (simp [Fr.only, argsF, *]; done))); (focus (simp [Fr.only, argsF, *]; first | done | exact rfl | exact ⟨rfl, rfl⟩)))
          | (apply VOps.fin; (focus (simp only [Fr.only, Fr.get, Fr.pt, reduceIte, Nat.reduceEqDiff]; first | done | exact rfl)))
          | refine VW.seq ?_
          | refine VW.reg ?_
          | refine VW.block ?_
          | refine VW.skip ?_
          | refine VW.exit ?_
          | refine VW.ret ?_
          | (apply VW.condT; (focus (first | exact rfl | (simp [Fr.only, argsF, *]; done))))
          | (apply VW.condF; (focus (first | exact rfl | (simp [Fr.only, argsF, *]; done))))
          | (simp only [then_normal, then_ret, then_exit, inB_normal, inB_ret, inB_exit, reduceIte, Nat.reduceEqDiff])
        exact ⟨trivial, by simp [Cov, Fr.only], trivial⟩
      · by_cases g2 : a = 2
        · subst g2
          repeat first
            | (apply VOps.rd; (focus (first | exact rfl | (simp [Fr.only, argsF, *]; done))); (focus (exact rfl)))
            | (apply VOps.sk; (focus (simp [Fr.only, argsF, *]; done)))
            | (apply VOps.rd; (focus (first | exact rfl | (simp [Fr.only, argsF, *]; done))); (focus (simp [Fr.only, argsF, *]; first | done | exact rfl)))
            | (apply VOps.ef; (focus (first | exact rfl | (simp [Fr.only, argsF, *]; done))); (focus (simp [Fr.only, argsF, *]; first | done | exact rfl | exact ⟨rfl, rfl⟩)))
            | (apply VOps.fin; (focus (simp only [Fr.only, Fr.get, Fr.pt, reduceIte, Nat.reduceEqDiff]; first | done | exact rfl)))
            | refine VW.seq ?_
            | refine VW.reg ?_
            | refine VW.block ?_
            | refine VW.skip ?_
            | refine VW.exit ?_
            | refine VW.ret ?_
            | (apply VW.condT; (focus (first | exact rfl | (simp [Fr.only, argsF, *]; done))))
            | (apply VW.condF; (focus (first | exact rfl | (simp [Fr.only, argsF, *]; done))))
            | (simp only [then_normal, then_ret, then_exit, inB_normal, inB_ret, inB_exit, reduceIte, Nat.reduceEqDiff])
          exact ⟨trivial, by simp [Cov, Fr.only], trivial⟩
        · have g1' : (a != 0) = true := by simp [g1]
          have g2' : (a != 2) = true := by simp [g2]
          repeat first
            | (apply VOps.rd; (focus (first | exact rfl | (simp [Fr.only, argsF, *]; done))); (focus (exact rfl)))
            | (apply VOps.sk; (focus (simp [Fr.only, argsF, *]; done)))
            | (apply VOps.rd; (focus (first | exact rfl | (simp [Fr.only, argsF, *]; done))); (focus (simp [Fr.only, argsF, *]; first | done | exact rfl)))
            | (apply VOps.ef; (focus (first | exact rfl | (simp [Fr.only, argsF, *]; done))); (focus (simp [Fr.only, argsF, *]; first | done | exact rfl | exact ⟨rfl, rfl⟩)))
            | (apply VOps.fin; (focus (simp only [Fr.only, Fr.get, Fr.pt, reduceIte, Nat.reduceEqDiff]; first | done | exact rfl)))
            | refine VW.seq ?_
            | refine VW.reg ?_
            | refine VW.block ?_
            | refine VW.skip ?_
            | refine VW.exit ?_
            | refine VW.ret ?_
            | (apply VW.condT; (focus (first | exact rfl | (simp [Fr.only, argsF, *]; done))))
            | (apply VW.condF; (focus (first | exact rfl | (simp [Fr.only, argsF, *]; done))))
            | (simp only [then_normal, then_ret, then_exit, inB_normal, inB_ret, inB_exit, reduceIte, Nat.reduceEqDiff])
          exact ⟨trivial, by simp [Cov, Fr.only, g1, g2], trivial⟩
    rintro e F2 H4 ⟨rfl, hcov, rfl⟩
    refine VW.sub hcov ?_
    clear hcov la0 la1
    have leave : ∀ F H5 o', Cov [(1, v1), (2, v2), (4, v4), (5, .sl (some ⟨br, 0, 0⟩) N N), (6, .int .i64 q), (8, .int .i64 m), (24, v24), (25, v25), (26, v26), (39, .sl pl T cl), (40, .int .i64 T), (41, .int .i64 t)] F → OffB br H H5 →
        H5[br]? = some (.row 40 .own ((vs.set q (.sl (gptr o') (rowAn l m (t + 1)).length (rowAn l m (t + 1)).length)).map fun v => [v])) → GrowR H5 42 2 o' (edgeEs (rowAn l m (t + 1))) → (∀ b, o' = some b → H.length ≤ b) →
        VW Try.prog B 147 (VC.reg [VI.rd 73 none (VOp.bin (BinOp.add) (Od.t 41) (Od.c (VV.int (IntKind.i64) 1))), VI.rd 41 none (VOp.mv (Od.t 73))] [1, 2, 4, 5, 6, 8, 24, 25, 26, 39, 40, 41]) F H5
          fun e F2 H' => e = .normal ∧ ∃ m', m' < T - t ∧ ∃ t : Nat, t ≤ T ∧ m' = T - t ∧ Cov [(1, v1), (2, v2), (4, v4), (5, .sl (some ⟨br, 0, 0⟩) N N), (6, .int .i64 q), (8, .int .i64 m), (24, v24), (25, v25), (26, v26), (39, .sl pl T cl), (40, .int .i64 T), (41, .int .i64 t)] F2 ∧ OffB br H H' ∧
            ∃ o, H'[br]? = some (.row 40 .own ((vs.set q (.sl (gptr o) (rowAn l m t).length (rowAn l m t).length)).map fun v => [v])) ∧ GrowR H' 42 2 o (edgeEs (rowAn l m t)) ∧ ∀ b, o = some b → H.length ≤ b := by
      intro F H5 o' hc g1 g2 g3 g4
      refine VW.sub hc (VW.reg ?_)
      refine VOps.rd rfl rfl ?_
      refine VOps.rd rfl rfl ?_
      exact VOps.nil ⟨rfl, rfl, T - (t + 1), by omega, t + 1, by omega, rfl, by simp [Cov, Fr.only, hvt], g1, o', g2, g3, g4⟩
    refine VW.cond rfl (fun ck => ?_) (fun ck => ?_)
    · rw [if_pos ck] at hstep
      have hcode := code40 (H := H4) a b w1 w2
      generalize codeS a b = cd at *
      obtain ⟨p1, p2, p3⟩ := hg.push (new := [.int .i64 t, .int .i64 cd]) rfl (bytes := 16) (by rw [edgeEs_len]; omega) (by rw [edgeEs_len]; omega)
      have hed : edgeEs rw0 ++ [[.int .i64 t, .int .i64 cd]] = edgeEs (rowAn l m (t + 1)) := by rw [hstep]; simp [edgeEs]
      have hln : (edgeEs rw0).length + 1 = (rowAn l m (t + 1)).length := by rw [hstep, edgeEs_len]; simp
      rw [hed] at p2 p3
      rw [edgeEs_len] at hln
      rw [edgeEs_len, hln] at p2
      have hq2 : (vs.set q (.sl (gptr o) rw0.length rw0.length))[q]? = some (.sl (gptr o) rw0.length rw0.length) := List.getElem?_set_self (by omega)
      have hne : o ≠ some br := fun e => by subst e; have := hg.1; rw [hbr2] at this; cases this
      obtain ⟨o1, o2, _⟩ := row_ops hbr2 hq2
      have hb1 := get_push hbr2 [.row 42 .own [[.int .i64 t, .int .i64 cd]]]
      have hoff1 := hoff.push [.row 42 .own [[.int .i64 t, .int .i64 cd]]]
      have hmk : H4 ++ [.row 42 .own [[.int .i64 t, .int .i64 cd]]] = H4 ++ [.row 42 .own [[.int .i64 t, .int .i64 cd]]] := rfl
      generalize hh1 : H4 ++ [.row 42 .own [[.int .i64 t, .int .i64 cd]]] = h1 at *
      obtain ⟨o1', o2', _⟩ := row_ops hb1 hq2
      have hb2 : (kill h1 o ++ [.row 42 .loose (edgeEs (rowAn l m (t + 1)))])[br]? = some (.row 40 .own ((vs.set q (.sl (gptr o) rw0.length rw0.length)).map fun v => [v])) := get_push (by rw [kill_off hne]; exact hb1) _
      have hoff2 := (hoff1.kill hlo).push [.row 42 .loose (edgeEs (rowAn l m (t + 1)))]
      generalize kill h1 o ++ [.row 42 .loose (edgeEs (rowAn l m (t + 1)))] = h2 at *
      obtain ⟨o1'', _, o3⟩ := row_ops hb2 hq2
      have hst := o3 (.sl (some ⟨H4.length + 1, 0, 0⟩) (rowAn l m (t + 1)).length (rowAn l m (t + 1)).length) rfl
      rw [List.set_set] at hst
      have hne2 : H4.length + 1 ≠ br := fun e => by have := p3.1; rw [e, hb2] at this; cases this
      have hH4 : H.length ≤ H4.length := hoff.1
      refine VW.mono (Q := fun e F2 H' => e = .normal ∧ Cov [(1, v1), (2, v2), (4, v4), (5, .sl (some ⟨br, 0, 0⟩) N N), (6, .int .i64 q), (8, .int .i64 m), (24, v24), (25, v25), (26, v26), (39, .sl pl T cl), (40, .int .i64 T), (41, .int .i64 t)] F2 ∧
        H' = h2.set br (.row 40 .own ((vs.set q (.sl (some ⟨H4.length + 1, 0, 0⟩) (rowAn l m (t + 1)).length (rowAn l m (t + 1)).length)).map fun v => [v]))) ?_ ?_
      · refine VW.dreg [H4, h1, h2, h2.set br (.row 40 .own ((vs.set q (.sl (some ⟨H4.length + 1, 0, 0⟩) (rowAn l m (t + 1)).length (rowAn l m (t + 1)).length)).map fun v => [v]))] mixed rfl ?_
        refine VX.rdp rfl (fun _ => rfl) ?_
        refine VX.rdp rfl (fun _ => rfl) ?_
        refine VX.rdp rfl (fun _ => rfl) ?_
        refine VX.rdp rfl (fun _ => rfl) ?_
        refine VX.rdb (v := .ptr (some ⟨br, q, 0⟩)) (k := 0) rfl rfl rfl rfl (by simp [Fr.only, o1, hq]) (by simp [Fr.only, o1', hq]) ?_
        refine VX.rdb (v := .sl (gptr o) rw0.length rw0.length) (k := 0) rfl rfl rfl rfl (by simp [o2]) (by simp [o2']) ?_
        refine VX.rdp rfl (fun _ => rfl) ?_
        refine VX.rda (v := .agg [.int .i64 a, .int .i64 b]) (k := 0) rfl rfl rfl (by simp [Fr.only, la2]) ?_
        refine VX.calla (k := 0) rfl rfl rfl rfl rfl hcode ?_
        refine VX.rdp (v := .agg [.int .i64 t, .int .i64 cd]) rfl (fun _ => rfl) ?_
        refine VX.ef1 (v := .sl (some ⟨H4.length, 0, 0⟩) 1 1) (H' := h1) rfl rfl (by rw [← hh1]; rfl) ?_
        refine VX.ef1 (v := .sl (some ⟨H4.length + 1, 0, 0⟩) (rowAn l m (t + 1)).length (rowAn l m (t + 1)).length) (H' := h2) rfl rfl (by simp [p1, p2]) ?_
        refine VX.rda (v := .ptr (some ⟨br, q, 0⟩)) (k := 2) rfl rfl rfl (by simp [Fr.only, o1'', hq]) ?_
        refine VX.ef1 (v := .undef) rfl rfl (by simp [hst]) ?_
        exact VX.nil ⟨rfl, by simp [Cov, Fr.only], rfl⟩
      rintro e F2 H5 ⟨rfl, hcov, rfl⟩
      refine VW.mono (leave _ _ (some (H4.length + 1)) hcov (hoff2.set _) (List.getElem?_set_self (get_lt hb2)) (p3.keep fun k e => by cases e; exact List.getElem?_set_ne (Ne.symm hne2)) (fun b e => by cases e; omega)) ?_
      rintro e F3 H6 ⟨rfl, hh⟩
      exact hh
    · rw [if_neg (by simp [ck]), List.append_nil] at hstep
      rw [← hstep] at hbr2 hg
      refine VW.skip ?_
      refine VW.mono (leave _ _ o (by simp [Cov, Fr.only]) hoff hbr2 hg hlo) ?_
      rintro e F3 H6 ⟨rfl, hh⟩
      exact hh
  · have : t = T := by omega
    subst this
    refine VW.seq (VW.reg ?_)
    refine VOps.rd rfl rfl ?_
    refine VOps.nil ⟨rfl, VW.seq (VW.condF (by simp [Fr.only]) (VW.exit ?_))⟩
    simp only [then_normal, then_ret, then_exit, inB_normal, inB_ret, inB_exit, reduceIte, Nat.reduceEqDiff]
    exact ⟨trivial, by simp [Cov, Fr.only], hoff, o, hbr2, hg, hlo⟩
end
end Go.Proofs.Ytlclbfkdaemilaa

/- pack.Pack: the loop over the states. -/
namespace Go.Proofs.Ytlclbfkdaemilaa
set_option linter.unusedSimpArgs false
set_option linter.unusedVariables false
open Go Go.Vm Go.Proofs
set_option maxRecDepth 100000
set_option maxHeartbeats 2000000

def dfN (al : List Edges) (q : Nat) : List Int := (List.range q).map fun k => dfA (al.getD k [])
theorem dfN_len (al : List Edges) (q : Nat) : (dfN al q).length = q := by simp [dfN]
theorem dfN_succ (al : List Edges) (q : Nat) : dfN al (q + 1) = dfN al q ++ [dfA (al.getD q [])] := by simp [dfN, List.range_succ]
theorem rowsA_at {al : List Edges} {q : Nat} (h : q < al.length) : (rowsA al).getD q [] = rowA (al.getD q []) := by simp [rowsA, List.getD, h]
abbrev nil1 : VV := .sl none 0 0
/-- the packed table as it grows: eight lists in one block -/
abbrev pk8 (a b c d e f g h : VV) : Blk := .row 44 .own [[a, b, c, d, e, f, g, h]]
theorem RowP.step {B0 : Nat} {H H' : Hp} {br N q n : Nat} {vs : List VV} {rows : List Edges} {o : Option Nat} (h : RowP B0 H br N q vs rows) (hq : q < N) (hoff : OffB br H H') (hB : B0 ≤ H.length)
    (hb : H'[br]? = some (.row 40 .own ((vs.set q (.sl (gptr o) n n)).map fun v => [v]))) (hg : GrowR H' 42 2 o (edgeEs (rows.getD q []))) (hn : n = (rows.getD q []).length) (ho : ∀ b, o = some b → H.length ≤ b) :
    RowP B0 H' br N (q + 1) (vs.set q (.sl (gptr o) n n)) rows := by
  refine ⟨hb, by simp [h.len], fun k hk => ?_, fun k hk hkN => ?_⟩
  · by_cases e : k = q
    · subst e
      exact ⟨o, by rw [List.getElem?_set_self (by rw [h.len]; exact hq), hn], hg, fun b e => Nat.le_trans hB (ho b e)⟩
    · obtain ⟨o', h1, h2, h3⟩ := h.done k (by omega)
      refine ⟨o', by rw [List.getElem?_set_ne (Ne.symm e)]; exact h1, h2.keep fun b eb => ?_, h3⟩
      refine hoff.2 b (h2.lt eb) fun ebr => ?_
      subst eb
      have := h2.1
      rw [ebr, h.blk] at this; cases this
  · rw [List.getElem?_set_ne (by omega)]
    exact h.todo k (by omega) hkN

section
variable {B : Nat} {Hb H : Hp} {v1 v2 : VV} {ip br ca cg j : Nat} {al : List Edges} {gs : List (List Int)} {pa pg : Option PA} {was wgs vs0 : List VV} {r1 r2 r3 r4 r5 r6 r7 : VV}
theorem packA (h : Den Hb pa pg al gs was wgs) (l0 : ld Hb ⟨j, 0, 0⟩ = some (.sl pa al.length ca)) (hx : Ext Hb H) (hip : H[ip]? = some (pk8 nil1 r1 r2 r3 r4 r5 r6 r7)) (hlp : Hb.length ≤ ip) (hlb : Hb.length ≤ br)
    (hN : al.length ≤ 256) (hval : ∀ q, q < al.length → (al.getD q []).length ≤ 65)
    (hval2 : ∀ q, q < al.length → ∀ k, k < (al.getD q []).length → 0 ≤ ((al.getD q []).getD k (0, 0)).2 ∧ ((al.getD q []).getD k (0, 0)).2 ≤ 256)
    (hrp : RowP Hb.length H br al.length 0 vs0 (rowsA al)) :
    VW Try.prog B 147 (VC.l (VC.r (VC.r (VC.r (VC.r w23.vc))))) [(1, .ptr (some ⟨j, 0, 0⟩)), (2, v2), (4, .ptr (some ⟨ip, 0, 0⟩)), (5, .sl (some ⟨br, 0, 0⟩) al.length al.length)] H
      fun e F2 H' => e = .normal ∧ Cov [(1, .ptr (some ⟨j, 0, 0⟩)), (2, v2), (4, .ptr (some ⟨ip, 0, 0⟩)), (5, .sl (some ⟨br, 0, 0⟩) al.length al.length)] F2 ∧ Ext Hb H' ∧ ∃ od vs,
        H'[ip]? = some (pk8 (.sl (gptr od) al.length al.length) r1 r2 r3 r4 r5 r6 r7) ∧ Grow H' (.sl (gptr od) al.length al.length) od (dfN al al.length) ∧ (∀ b, od = some b → Hb.length ≤ b) ∧ RowP Hb.length H' br al.length al.length vs (rowsA al) := by
  dsimp only [w23, VC.l, VC.r]
  refine VW.seq (VW.reg ?_)
  refine VOps.rd rfl rfl ?_
  refine VOps.rd (v := .sl pa al.length ca) rfl (by simp [ext_ld hx l0]) ?_
  refine VOps.rd rfl rfl ?_
  refine VOps.rd rfl rfl ?_
  refine VOps.nil ⟨rfl, ?_⟩
  show VW _ _ _ _ [(1, .ptr (some ⟨j, 0, 0⟩)), (2, v2), (4, .ptr (some ⟨ip, 0, 0⟩)), (5, .sl (some ⟨br, 0, 0⟩) al.length al.length), (24, .sl pa al.length ca), (25, .int .i64 al.length), (26, .int .i64 0)] _ _
  refine VW.block ?_
  refine VW.loop (fun m F' H' => ∃ (q : Nat) (od : Option Nat) (vs : List VV), q ≤ al.length ∧ m = al.length - q ∧ Cov [(1, .ptr (some ⟨j, 0, 0⟩)), (2, v2), (4, .ptr (some ⟨ip, 0, 0⟩)), (5, .sl (some ⟨br, 0, 0⟩) al.length al.length), (24, .sl pa al.length ca), (25, .int .i64 al.length), (26, .int .i64 q)] F' ∧ Ext Hb H' ∧
      H'[ip]? = some (pk8 (.sl (gptr od) q q) r1 r2 r3 r4 r5 r6 r7) ∧ Grow H' (.sl (gptr od) q q) od (dfN al q) ∧ (∀ b, od = some b → Hb.length ≤ b) ∧ RowP Hb.length H' br al.length q vs (rowsA al)) al.length
    ⟨0, none, vs0, by omega, rfl, by simp [Cov, Fr.only], hx, hip, ⟨rfl, rfl⟩, (fun b e => by cases e), hrp⟩ ?_
  clear hx hip hrp
  rintro m F' H2 ⟨q, od, vs, hq, rfl, hcov, hx, hip, hg, hod, hrp⟩
  refine VW.sub hcov ?_
  clear hcov
  by_cases hlt : q < al.length
  · have hvq := wrap_id (x := (q : Int) + 1) (by omega) (by omega)
    obtain ⟨pq, pk, ck, hpq, a1, a2, a3, a4⟩ := row_at h.sa h.ra hlt
    have w1 := hval q hlt
    have w2 := hval2 q hlt
    have hrq := rowsA_at hlt
    have hdf := dfN_succ al q
    have a3' := hx.sl a3
    replace a1 := ext_ixp hx a1
    replace a2 := ext_ld hx a2
    have hdl : dfA (al.getD q []) = mostS (keysOf (fun k => ((al.getD q []).getD k (0, 0)).2) (fun k => ((al.getD q []).getD k (0, 0)).1 == 2) (al.getD q []).length) := rfl
    have hrl : rowA (al.getD q []) = rowAn (al.getD q []) (dfA (al.getD q [])) (al.getD q []).length := rfl
    generalize al.getD q [] = l at *
    have hmost := most38 (f := 39) (caps := []) (c := ck) a3' rfl (by omega) (fun k hk H' _ => key39 _ _) (fun k hk _ => w2 k hk)
    rw [← hdl] at hmost
    generalize dfA l = d at *
    refine VW.seq (VW.reg ?_)
    refine VOps.rd rfl rfl ?_
    refine VOps.nil ⟨rfl, VW.seq (VW.condT (by simp [Fr.only, hlt]) (VW.skip ?_))⟩
    refine VW.seq (VW.block (VW.seq (VW.reg ?_)))
    refine VOps.rd rfl rfl ?_
    refine VOps.rd (v := .ptr (some (elp (some pq) q))) rfl (by simp [Fr.only, hpq, a1, hlt]) ?_
    refine VOps.rd (v := .sl pk l.length ck) rfl (by simp [a2]) ?_
    refine VOps.rd rfl rfl ?_
    refine VOps.rd rfl rfl ?_
    refine VOps.nil ⟨rfl, ?_⟩
    refine VW.seq (VW.reg ?_)
    refine VOps.rd rfl rfl ?_
    refine VOps.call rfl rfl rfl (hmost.mono ?_)
    rintro r H3 ⟨rfl, rfl⟩
    refine VOps.rd rfl rfl ?_
    refine VOps.nil ⟨rfl, ?_⟩
    show VW _ _ _ _ [(1, .ptr (some ⟨j, 0, 0⟩)), (2, v2), (4, .ptr (some ⟨ip, 0, 0⟩)), (5, .sl (some ⟨br, 0, 0⟩) al.length al.length), (6, .int .i64 q), (7, .sl pk l.length ck), (8, .int .i64 d), (24, .sl pa al.length ca), (25, .int .i64 al.length), (26, .int .i64 q)] _ _
    -- the default
    obtain ⟨p1, p2, p3⟩ := hg.push (by rw [dfN_len]; omega) d
    rw [← hdf, dfN_len] at p2 p3
    have hnp : od ≠ some ip := fun e => by subst e; have := hg.2.1; rw [hip] at this; cases this
    have hnb : od ≠ some br := fun e => by subst e; have := hg.2.1; rw [hrp.blk] at this; cases this
    have hpb : ip ≠ br := fun e => by have := hrp.blk; rw [← e, hip] at this; cases this
    have lp := ld_own hip 0
    simp only [List.getElem?_cons_zero] at lp
    have lp2 := ld_push lp [.row 3 .own [[.int .i64 d]]]
    have e1 : ∀ k x, H3[k]? = some x → od ≠ some k → (kill (H3 ++ [.row 3 .own [[.int .i64 d]]]) od ++ [.row 3 .loose (intEs (dfN al (q + 1)))])[k]? = some x := fun k x hk hne => get_push (by rw [kill_off hne]; exact get_push hk _) _
    have e2 : Ext Hb (kill (H3 ++ [.row 3 .own [[.int .i64 d]]]) od ++ [.row 3 .loose (intEs (dfN al (q + 1)))]) := (Ext.kill (hx.push _) hod).push _
    have hl3 := hx.1
    generalize kill (H3 ++ [.row 3 .own [[.int .i64 d]]]) od ++ [.row 3 .loose (intEs (dfN al (q + 1)))] = H4 at *
    have hip4 := e1 ip _ hip hnp
    have hn4 : H3.length + 1 ≠ ip := fun e => by have := get_lt hip; omega
    have hst : stc H4 ⟨ip, 0, 0⟩ [.sl (some ⟨H3.length + 1, 0, 0⟩) (q + 1) (q + 1)] = some (H4.set ip (pk8 (.sl (some ⟨H3.length + 1, 0, 0⟩) (q + 1) (q + 1)) r1 r2 r3 r4 r5 r6 r7)) := by
      simp only [stc, hip4]
      simp [upd, okCells, VV.cell]
    have hrp5 : RowP Hb.length (H4.set ip (pk8 (.sl (some ⟨H3.length + 1, 0, 0⟩) (q + 1) (q + 1)) r1 r2 r3 r4 r5 r6 r7)) br al.length q vs (rowsA al) := by
      refine hrp.keep ?_ fun k es hk hes => ?_
      · rw [List.getElem?_set_ne hpb, e1 br _ hrp.blk hnb, hrp.blk]
      · have hk2 : od ≠ some k := fun e => by subst e; have := hg.2.1; rw [hes] at this; cases this
        have hk3 : ip ≠ k := fun e => by subst e; rw [hip] at hes; cases hes
        rw [List.getElem?_set_ne hk3, e1 k _ hes hk2, hes]
    have hg5 : Grow (H4.set ip (pk8 (.sl (some ⟨H3.length + 1, 0, 0⟩) (q + 1) (q + 1)) r1 r2 r3 r4 r5 r6 r7)) (.sl (some ⟨H3.length + 1, 0, 0⟩) (q + 1) (q + 1)) (some (H3.length + 1)) (dfN al (q + 1)) := p3.keep fun k e => by cases e; exact List.getElem?_set_ne (Ne.symm hn4)
    have hip5 : (H4.set ip (pk8 (.sl (some ⟨H3.length + 1, 0, 0⟩) (q + 1) (q + 1)) r1 r2 r3 r4 r5 r6 r7))[ip]? = some (pk8 (.sl (some ⟨H3.length + 1, 0, 0⟩) (q + 1) (q + 1)) r1 r2 r3 r4 r5 r6 r7) := List.getElem?_set_self (get_lt hip4)
    have hx5 := e2.set hlp (pk8 (.sl (some ⟨H3.length + 1, 0, 0⟩) (q + 1) (q + 1)) r1 r2 r3 r4 r5 r6 r7)
    refine VW.seq (VW.reg ?_)
    refine VOps.rd rfl rfl ?_
    refine VOps.rd (v := .sl (gptr od) q q) rfl (by simp [lp]) ?_
    refine VOps.rd rfl rfl ?_
    refine VOps.ef (v := .sl (some ⟨H3.length, 0, 0⟩) 1 1) (H' := H3 ++ [.row 3 .own [[.int .i64 d]]]) rfl rfl ?_
    refine VOps.ef (v := .sl (some ⟨H3.length + 1, 0, 0⟩) (q + 1) (q + 1)) (H' := H4) rfl (by simp [p1, p2]) ?_
    refine VOps.rd rfl rfl ?_
    refine VOps.ef (v := .undef) (H' := H4.set ip (pk8 (.sl (some ⟨H3.length + 1, 0, 0⟩) (q + 1) (q + 1)) r1 r2 r3 r4 r5 r6 r7)) rfl (by simp [hst]) ?_
    refine VOps.nil ⟨rfl, ?_⟩
    clear hst p1 p2 p3 hg lp lp2 e1 e2 hrp hip hip4 a1 a2
    generalize H4.set ip (pk8 (.sl (some ⟨H3.length + 1, 0, 0⟩) (q + 1) (q + 1)) r1 r2 r3 r4 r5 r6 r7) = H5 at *
    have hid : Hb.length ≤ H3.length + 1 := by omega
    generalize H3.length + 1 = id5 at *
    refine VW.seq (VW.reg ?_)
    refine VOps.rd rfl rfl ?_
    refine VOps.rd rfl rfl ?_
    refine VOps.rd rfl rfl ?_
    refine VOps.nil ⟨rfl, ?_⟩
    show VW _ _ _ _ [(1, .ptr (some ⟨j, 0, 0⟩)), (2, v2), (4, .ptr (some ⟨ip, 0, 0⟩)), (5, .sl (some ⟨br, 0, 0⟩) al.length al.length), (6, .int .i64 q), (8, .int .i64 d), (24, .sl pa al.length ca), (25, .int .i64 al.length), (26, .int .i64 q), (39, .sl pk l.length ck), (40, .int .i64 l.length), (41, .int .i64 0)] _ _
    refine VW.mono (packA_in (H0 := Hb) hx5 hlb a3 rfl w1 (fun k hk => ⟨(w2 k hk).1, by have := (w2 k hk).2; omega⟩) hlt hrp5.blk hrp5.len (hrp5.todo q (Nat.le_refl _) hlt)) ?_
    rintro e F2 H6 ⟨rfl, hcov, hoff, o, hb6, hg6, ho⟩
    rw [← hrl, ← hrq] at hb6 hg6
    have hib : id5 ≠ br := fun e => by have := hg5.2.1; rw [e, hrp5.blk] at this; cases this
    refine VW.sub hcov (VW.reg ?_)
    refine VOps.rd rfl rfl ?_
    refine VOps.rd rfl rfl ?_
    refine VOps.nil ⟨rfl, al.length - (q + 1), by omega, q + 1, some id5, _, by omega, rfl, by simp [Cov, Fr.only, hvq], hoff.ext hx5 hlb, ?_, hg5.keep fun k e => by cases e; exact hoff.2 _ (get_lt hg5.2.1) hib, fun b e => by cases e; exact hid, hrp5.step hlt hoff hx5.1 hb6 hg6 rfl ho⟩
    rw [hoff.2 ip (get_lt hip5) hpb]; exact hip5
  · have : q = al.length := by omega
    subst this
    refine VW.seq (VW.reg ?_)
    refine VOps.rd rfl rfl ?_
    refine VOps.nil ⟨rfl, VW.seq (VW.condF (by simp [Fr.only]) (VW.exit ?_))⟩
    simp only [then_normal, then_ret, then_exit, inB_normal, inB_ret, inB_exit, reduceIte, Nat.reduceEqDiff]
    exact ⟨trivial, by simp [Cov, Fr.only], hx, od, vs, hip, hg, hod, hrp⟩
end
end Go.Proofs.Ytlclbfkdaemilaa

/- pack.Pack: the loop over one nonterminal's gotos. -/
namespace Go.Proofs.Ytlclbfkdaemilaa
set_option linter.unusedSimpArgs false
set_option linter.unusedVariables false
open Go Go.Vm Go.Proofs
set_option maxRecDepth 100000
set_option maxHeartbeats 2000000

section
variable {P : Program} {E : Fr} {H H' Hk : Hp} {R : Fr → Hp → Prop} {l : List VI} {b : List (Nat × Nat)} {m k d : Nat} {g : Option (Nat × Bool)} {x : VOp} {v : VV} {hs : List Hp}
theorem VX.rdc {Hk2 Hk3 : Hp} (hw : want E g = some true) (hb : b.headD (0, 0) = (k, k + 2)) (hk : hs[k]? = some Hk) (hk2 : hs[k + 1]? = some Hk2) (hk3 : hs[k + 2]? = some Hk3) (he : x.ev E Hk = some v) (he2 : x.ev E Hk2 = some v) (he3 : x.ev E Hk3 = some v)
    (h : VX P hs l b.tail m ((d, v) :: E) H R) : VX P hs (.rd d g x :: l) b m E H R :=
  .inr ⟨hw, v, H, ⟨rfl, fun j H1 h1 h2 hj => by
    rw [hb] at h1 h2
    have : j = k ∨ j = k + 1 ∨ j = k + 2 := by simp only at h1 h2; omega
    rcases this with rfl | rfl | rfl
    · rw [hk] at hj; cases hj; exact he
    · rw [hk2] at hj; cases hj; exact he2
    · rw [hk3] at hj; cases hj; exact he3⟩, h⟩
theorem VX.rdd {Hk2 Hk3 Hk4 : Hp} (hw : want E g = some true) (hb : b.headD (0, 0) = (k, k + 3)) (hk : hs[k]? = some Hk) (hk2 : hs[k + 1]? = some Hk2) (hk3 : hs[k + 2]? = some Hk3) (hk4 : hs[k + 3]? = some Hk4)
    (he : x.ev E Hk = some v) (he2 : x.ev E Hk2 = some v) (he3 : x.ev E Hk3 = some v) (he4 : x.ev E Hk4 = some v)
    (h : VX P hs l b.tail m ((d, v) :: E) H R) : VX P hs (.rd d g x :: l) b m E H R :=
  .inr ⟨hw, v, H, ⟨rfl, fun j H1 h1 h2 hj => by
    rw [hb] at h1 h2
    have : j = k ∨ j = k + 1 ∨ j = k + 2 ∨ j = k + 3 := by simp only at h1 h2; omega
    rcases this with rfl | rfl | rfl | rfl
    · rw [hk] at hj; cases hj; exact he
    · rw [hk2] at hj; cases hj; exact he2
    · rw [hk3] at hj; cases hj; exact he3
    · rw [hk4] at hj; cases hj; exact he4⟩, h⟩
end

section
variable {B : Nat} {Hb H : Hp} {v1 v2 v4 v88 v89 : VV} {br S N n ca cg ic : Nat} {m : Int} {al : List Edges} {gs : List (List Int)} {pa pg : Option PA} {was wgs vs : List VV}
theorem packG_in (h : Den Hb pa pg al gs was wgs) (hx0 : Ext Hb H) (hbr : Hb.length ≤ br) (hN : gs.length ≤ 256) (hrow : ∀ q, q < gs.length → n < (gs.getD q []).length) (hn : n < S)
    (hc : H[ic]? = some (.row 3 .own [[.int .i64 n]])) (hb : H[br]? = some (.row 40 .own (vs.map fun v => [v]))) (hvs : vs.length = S) (hvq : vs[n]? = some (.sl none 0 0)) :
    VW Try.prog B 147 (VC.r (VC.r (VC.r (VC.r (VC.l (VC.l (VC.r (VC.r (VC.l (VC.l (VC.r (VC.l (VC.r (VC.r (VC.r (VC.r (VC.r (VC.r (VC.r w23.vc)))))))))))))))))))
      [(1, v1), (2, v2), (4, v4), (5, .sl (some ⟨br, 0, 0⟩) S S), (11, .ptr (some ⟨ic, 0, 0⟩)), (12, .int .i64 m), (88, v88), (89, v89), (103, .sl pg gs.length cg), (104, .int .i64 gs.length), (105, .int .i64 0)] H
      fun e F2 H' => e = .normal ∧ Cov [(1, v1), (2, v2), (4, v4), (5, .sl (some ⟨br, 0, 0⟩) S S), (88, v88), (89, v89)] F2 ∧ OffB br H H' ∧
        ∃ o, H'[br]? = some (.row 40 .own ((vs.set n (.sl (gptr o) (rowGn gs n m gs.length).length (rowGn gs n m gs.length).length)).map fun v => [v])) ∧ GrowR H' 42 2 o (edgeEs (rowGn gs n m gs.length)) ∧ ∀ b, o = some b → H.length ≤ b := by
  dsimp only [w23, VC.l, VC.r]
  have hcb : ic ≠ br := fun e => by rw [e, hb] at hc; cases hc
  refine VW.block ?_
  refine VW.loop (fun k' F' H' => ∃ q : Nat, q ≤ gs.length ∧ k' = gs.length - q ∧ Cov [(1, v1), (2, v2), (4, v4), (5, .sl (some ⟨br, 0, 0⟩) S S), (11, .ptr (some ⟨ic, 0, 0⟩)), (12, .int .i64 m), (88, v88), (89, v89), (103, .sl pg gs.length cg), (104, .int .i64 gs.length), (105, .int .i64 q)] F' ∧ OffB br H H' ∧
      ∃ o, H'[br]? = some (.row 40 .own ((vs.set n (.sl (gptr o) (rowGn gs n m q).length (rowGn gs n m q).length)).map fun v => [v])) ∧ GrowR H' 42 2 o (edgeEs (rowGn gs n m q)) ∧ ∀ b, o = some b → H.length ≤ b) gs.length
    ⟨0, by omega, rfl, by simp [Cov, Fr.only], .refl _ _, none, by show H[br]? = some (.row 40 .own ((vs.set n (.sl none 0 0)).map fun v => [v])); rw [set_same hvq]; exact hb, rfl, fun b e => by cases e⟩ ?_
  rintro k' F' H4 ⟨q, hq, rfl, hcov, hoff, o, hbr2, hg, hlo⟩
  refine VW.sub hcov ?_
  clear hcov
  have hx2 := hoff.ext hx0 hbr
  have hc4 : H4[ic]? = some (.row 3 .own [[.int .i64 n]]) := by rw [hoff.2 ic (get_lt hc) hcb]; exact hc
  by_cases hlt : q < gs.length
  · have hvt := wrap_id (x := (q : Int) + 1) (by omega) (by omega)
    obtain ⟨pq, pk, ck, hpq, a1, a2, a3, a4⟩ := rowI_at h.sg h.rg hlt
    have hrq := hrow q hlt
    have hstep : rowGn gs n m (q + 1) = rowGn gs n m q ++ (if keepG m (gAt gs n q) = true then [((q : Int), gAt gs n q)] else []) := rfl
    have hga : gAt gs n q = (gs.getD q []).getD n 0 := rfl
    replace a1 := ext_ixp hx2 a1
    replace a2 := ext_ld hx2 a2
    replace a3 := hx2.sl a3
    generalize gs.getD q [] = l at *
    obtain ⟨r, hr, r1, r2⟩ := sl_int a3 (k := n) hrq
    rw [← hga] at r2
    generalize gAt gs n q = x at *
    have hrl := rowGn_len gs n m q
    generalize rowGn gs n m q = rw0 at *
    have lc := ld_own hc4 0
    simp only [List.getElem?_cons_zero] at lc
    refine VW.seq (VW.reg ?_)
    refine VOps.rd rfl rfl ?_
    refine VOps.nil ⟨rfl, VW.seq (VW.condT (by simp [Fr.only, hlt]) (VW.skip ?_))⟩
    refine VW.seq (VW.block (VW.seq (VW.reg ?_)))
    refine VOps.rd rfl rfl ?_
    refine VOps.rd (v := .ptr (some (elp (some pq) q))) rfl (by simp [Fr.only, hpq, a1, hlt]) ?_
    refine VOps.rd (v := .sl pk l.length ck) rfl (by simp [a2]) ?_
    refine VOps.rd rfl rfl ?_
    refine VOps.rd rfl rfl ?_
    refine VOps.nil ⟨rfl, ?_⟩
    show VW _ _ _ _ [(1, v1), (2, v2), (4, v4), (5, .sl (some ⟨br, 0, 0⟩) S S), (11, .ptr (some ⟨ic, 0, 0⟩)), (12, .int .i64 m), (13, .int .i64 q), (14, .sl pk l.length ck), (88, v88), (89, v89), (103, .sl pg gs.length cg), (104, .int .i64 gs.length), (105, .int .i64 q)] _ _
    refine VW.seq ?_
    refine VW.mono (Q := fun e F2 H' => e = .normal ∧ Cov [(1, v1), (2, v2), (4, v4), (5, .sl (some ⟨br, 0, 0⟩) S S), (11, .ptr (some ⟨ic, 0, 0⟩)), (12, .int .i64 m), (13, .int .i64 q), (14, .sl pk l.length ck), (88, v88), (89, v89), (103, .sl pg gs.length cg), (104, .int .i64 gs.length), (105, .int .i64 q), (122, .bool (keepG m x))] F2 ∧ H' = H4) ?_ ?_
    · refine VW.reg ?_
      refine VOps.rd rfl rfl ?_
      refine VOps.rd (v := .int .i64 n) rfl (by simp [lc]) ?_
      refine VOps.rd (v := .ptr (some (elp (some r) n))) rfl (by simp [hr, r1, hrq]) ?_
      refine VOps.rd (v := .int .i64 x) rfl (by simp [r2]) ?_
      refine VOps.rd (v := .bool (decide (0 ≤ x))) rfl rfl ?_
      refine VOps.rd rfl rfl ?_
      by_cases g1 : 0 ≤ x
      · rw [decide_eq_true g1]
        refine VOps.rd rfl rfl ?_
        refine VOps.rd (v := .int .i64 n) rfl (by simp [lc]) ?_
        refine VOps.rd (v := .ptr (some (elp (some r) n))) rfl (by simp [hr, r1, hrq]) ?_
        refine VOps.rd (v := .int .i64 x) rfl (by simp [r2]) ?_
        refine VOps.rd rfl rfl ?_
        refine VOps.rd rfl rfl ?_
        refine VOps.rd rfl rfl ?_
        exact VOps.nil ⟨rfl, rfl, by simp [Cov, Fr.only, keepG, g1], rfl⟩
      · rw [decide_eq_false g1]
        iterate 6 refine VOps.sk rfl ?_
        refine VOps.rd (v := .bool false) rfl rfl ?_
        exact VOps.nil ⟨rfl, rfl, by simp [Cov, Fr.only, keepG, g1], rfl⟩
    rintro e F2 H5 ⟨rfl, hcov, rfl⟩
    refine VW.sub hcov ?_
    clear hcov
    have leave : ∀ F H5 o', Cov [(1, v1), (2, v2), (4, v4), (5, .sl (some ⟨br, 0, 0⟩) S S), (11, .ptr (some ⟨ic, 0, 0⟩)), (12, .int .i64 m), (88, v88), (89, v89), (103, .sl pg gs.length cg), (104, .int .i64 gs.length), (105, .int .i64 q)] F → OffB br H H5 →
        H5[br]? = some (.row 40 .own ((vs.set n (.sl (gptr o') (rowGn gs n m (q + 1)).length (rowGn gs n m (q + 1)).length)).map fun v => [v])) → GrowR H5 42 2 o' (edgeEs (rowGn gs n m (q + 1))) → (∀ b, o' = some b → H.length ≤ b) →
        VW Try.prog B 147 (VC.reg [VI.rd 138 none (VOp.bin (BinOp.add) (Od.t 105) (Od.c (VV.int (IntKind.i64) 1))), VI.rd 105 none (VOp.mv (Od.t 138))] [1, 2, 4, 5, 11, 12, 88, 89, 103, 104, 105]) F H5
          fun e F2 H' => e = .normal ∧ ∃ m', m' < gs.length - q ∧ ∃ q : Nat, q ≤ gs.length ∧ m' = gs.length - q ∧ Cov [(1, v1), (2, v2), (4, v4), (5, .sl (some ⟨br, 0, 0⟩) S S), (11, .ptr (some ⟨ic, 0, 0⟩)), (12, .int .i64 m), (88, v88), (89, v89), (103, .sl pg gs.length cg), (104, .int .i64 gs.length), (105, .int .i64 q)] F2 ∧ OffB br H H' ∧
            ∃ o, H'[br]? = some (.row 40 .own ((vs.set n (.sl (gptr o) (rowGn gs n m q).length (rowGn gs n m q).length)).map fun v => [v])) ∧ GrowR H' 42 2 o (edgeEs (rowGn gs n m q)) ∧ ∀ b, o = some b → H.length ≤ b := by
      intro F H5 o' hc g1 g2 g3 g4
      refine VW.sub hc (VW.reg ?_)
      refine VOps.rd rfl rfl ?_
      refine VOps.rd rfl rfl ?_
      exact VOps.nil ⟨rfl, rfl, gs.length - (q + 1), by omega, q + 1, by omega, rfl, by simp [Cov, Fr.only, hvt], g1, o', g2, g3, g4⟩
    refine VW.cond rfl (fun ck => ?_) (fun ck => ?_)
    · rw [if_pos ck] at hstep
      obtain ⟨p1, p2, p3⟩ := hg.push (new := [.int .i64 q, .int .i64 x]) rfl (bytes := 16) (by rw [edgeEs_len]; omega) (by rw [edgeEs_len]; omega)
      have hed : edgeEs rw0 ++ [[.int .i64 q, .int .i64 x]] = edgeEs (rowGn gs n m (q + 1)) := by rw [hstep]; simp [edgeEs]
      have hln : (edgeEs rw0).length + 1 = (rowGn gs n m (q + 1)).length := by rw [hstep, edgeEs_len]; simp
      rw [hed] at p2 p3
      rw [edgeEs_len] at hln
      rw [edgeEs_len, hln] at p2
      have hq2 : (vs.set n (.sl (gptr o) rw0.length rw0.length))[n]? = some (.sl (gptr o) rw0.length rw0.length) := List.getElem?_set_self (by omega)
      have hne : o ≠ some br := fun e => by subst e; have := hg.1; rw [hbr2] at this; cases this
      have hnc : o ≠ some ic := fun e => by subst e; have := hg.1; rw [hc4] at this; cases this
      obtain ⟨o1, o2, _⟩ := row_ops hbr2 hq2
      have hb1 := get_push hbr2 [.row 42 .own [[.int .i64 q, .int .i64 x]]]
      have hc1 := get_push hc4 [.row 42 .own [[.int .i64 q, .int .i64 x]]]
      have hoff1 := hoff.push [.row 42 .own [[.int .i64 q, .int .i64 x]]]
      generalize hh1 : H5 ++ [.row 42 .own [[.int .i64 q, .int .i64 x]]] = h1 at *
      obtain ⟨o1', o2', _⟩ := row_ops hb1 hq2
      have hb2 : (kill h1 o ++ [.row 42 .loose (edgeEs (rowGn gs n m (q + 1)))])[br]? = some (.row 40 .own ((vs.set n (.sl (gptr o) rw0.length rw0.length)).map fun v => [v])) := get_push (by rw [kill_off hne]; exact hb1) _
      have hc2 : (kill h1 o ++ [.row 42 .loose (edgeEs (rowGn gs n m (q + 1)))])[ic]? = some (.row 3 .own [[.int .i64 n]]) := get_push (by rw [kill_off hnc]; exact hc1) _
      have hoff2 := (hoff1.kill hlo).push [.row 42 .loose (edgeEs (rowGn gs n m (q + 1)))]
      generalize kill h1 o ++ [.row 42 .loose (edgeEs (rowGn gs n m (q + 1)))] = h2 at *
      obtain ⟨o1'', _, o3⟩ := row_ops hb2 hq2
      have lc1 := ld_own hc1 0
      have lc2 := ld_own hc2 0
      simp only [List.getElem?_cons_zero] at lc1 lc2
      have hst := o3 (.sl (some ⟨H5.length + 1, 0, 0⟩) (rowGn gs n m (q + 1)).length (rowGn gs n m (q + 1)).length) rfl
      rw [List.set_set] at hst
      have hne2 : H5.length + 1 ≠ br := fun e => by have := p3.1; rw [e, hb2] at this; cases this
      have hH4 : H.length ≤ H5.length := hoff.1
      refine VW.mono (Q := fun e F2 H' => e = .normal ∧ Cov [(1, v1), (2, v2), (4, v4), (5, .sl (some ⟨br, 0, 0⟩) S S), (11, .ptr (some ⟨ic, 0, 0⟩)), (12, .int .i64 m), (88, v88), (89, v89), (103, .sl pg gs.length cg), (104, .int .i64 gs.length), (105, .int .i64 q)] F2 ∧
        H' = h2.set br (.row 40 .own ((vs.set n (.sl (some ⟨H5.length + 1, 0, 0⟩) (rowGn gs n m (q + 1)).length (rowGn gs n m (q + 1)).length)).map fun v => [v]))) ?_ ?_
      · refine VW.dreg [H5, h1, h2, h2.set br (.row 40 .own ((vs.set n (.sl (some ⟨H5.length + 1, 0, 0⟩) (rowGn gs n m (q + 1)).length (rowGn gs n m (q + 1)).length)).map fun v => [v]))] mixed rfl ?_
        refine VX.rdp rfl (fun _ => rfl) ?_
        refine VX.rdc (v := .int .i64 n) (k := 0) rfl rfl rfl rfl rfl (by simp [Fr.only, lc]) (by simp [Fr.only, lc1]) (by simp [Fr.only, lc2]) ?_
        refine VX.rdp rfl (fun _ => rfl) ?_
        refine VX.rdb (v := .int .i64 n) (k := 0) rfl rfl rfl rfl (by simp [Fr.only, lc]) (by simp [Fr.only, lc1]) ?_
        refine VX.rdb (v := .ptr (some ⟨br, n, 0⟩)) (k := 0) rfl rfl rfl rfl (by simp [Fr.only, o1, hn]) (by simp [Fr.only, o1', hn]) ?_
        refine VX.rdb (v := .sl (gptr o) rw0.length rw0.length) (k := 0) rfl rfl rfl rfl (by simp [o2]) (by simp [o2']) ?_
        refine VX.rdp rfl (fun _ => rfl) ?_
        refine VX.rdp rfl (fun _ => rfl) ?_
        refine VX.rda (v := .int .i64 n) (k := 0) rfl rfl rfl (by simp [Fr.only, lc]) ?_
        refine VX.rda (v := .ptr (some (elp (some r) n))) (k := 0) rfl rfl rfl (by simp [Fr.only, hr, r1, hrq]) ?_
        refine VX.rda (v := .int .i64 x) (k := 0) rfl rfl rfl (by simp [r2]) ?_
        refine VX.rdp (v := .agg [.int .i64 q, .int .i64 x]) rfl (fun _ => rfl) ?_
        refine VX.ef1 (v := .sl (some ⟨H5.length, 0, 0⟩) 1 1) (H' := h1) rfl rfl (by rw [← hh1]; rfl) ?_
        refine VX.ef1 (v := .sl (some ⟨H5.length + 1, 0, 0⟩) (rowGn gs n m (q + 1)).length (rowGn gs n m (q + 1)).length) (H' := h2) rfl rfl (by simp [p1, p2]) ?_
        refine VX.rda (v := .ptr (some ⟨br, n, 0⟩)) (k := 2) rfl rfl rfl (by simp [Fr.only, o1'', hn]) ?_
        refine VX.ef1 (v := .undef) rfl rfl (by simp [hst]) ?_
        exact VX.nil ⟨rfl, by simp [Cov, Fr.only], rfl⟩
      rintro e F2 H6 ⟨rfl, hcov, rfl⟩
      refine VW.mono (leave _ _ (some (H5.length + 1)) hcov (hoff2.set _) (List.getElem?_set_self (get_lt hb2)) (p3.keep fun k e => by cases e; exact List.getElem?_set_ne (Ne.symm hne2)) (fun b e => by cases e; omega)) ?_
      rintro e F3 H7 ⟨rfl, hh⟩
      exact hh
    · rw [if_neg (by simp [ck]), List.append_nil] at hstep
      rw [← hstep] at hbr2 hg
      refine VW.skip ?_
      refine VW.mono (leave _ _ o (by simp [Cov, Fr.only]) hoff hbr2 hg hlo) ?_
      rintro e F3 H6 ⟨rfl, hh⟩
      exact hh
  · have : q = gs.length := by omega
    subst this
    refine VW.seq (VW.reg ?_)
    refine VOps.rd rfl rfl ?_
    refine VOps.nil ⟨rfl, VW.seq (VW.condF (by simp [Fr.only]) (VW.exit ?_))⟩
    simp only [then_normal, then_ret, then_exit, inB_normal, inB_ret, inB_exit, reduceIte, Nat.reduceEqDiff]
    exact ⟨trivial, by simp [Cov, Fr.only], hoff, o, hbr2, hg, hlo⟩
end
end Go.Proofs.Ytlclbfkdaemilaa

/- pack.Pack: the loop over the nonterminals. -/
namespace Go.Proofs.Ytlclbfkdaemilaa
set_option linter.unusedSimpArgs false
set_option linter.unusedVariables false
open Go Go.Vm Go.Proofs
set_option maxRecDepth 100000
set_option maxHeartbeats 2000000

def tgN (gs : List (List Int)) (n : Nat) : List Int := (List.range n).map (tgG gs)
theorem tgN_len (gs : List (List Int)) (n : Nat) : (tgN gs n).length = n := by simp [tgN]
theorem tgN_succ (gs : List (List Int)) (n : Nat) : tgN gs (n + 1) = tgN gs n ++ [tgG gs n] := by simp [tgN, List.range_succ]
theorem rowsG_at {gs : List (List Int)} {S n : Nat} (h : n < S) : (rowsG gs S).getD n [] = rowG gs n := by simp [rowsG, List.getD, h]
theorem OffB.thru {ip br : Nat} {A B C : Hp} (h : OffB ip A B) (g : OffB br B C) (hb : A.length ≤ br) : OffB ip A C :=
  ⟨Nat.le_trans h.1 g.1, fun k hk hne => (g.2 k (Nat.lt_of_lt_of_le hk h.1) (by omega)).trans (h.2 k hk hne)⟩
section
variable {B : Nat} {Hb HA H : Hp} {v1 v2 : VV} {ip br S ca cg j : Nat} {al : List Edges} {gs : List (List Int)} {pa pg : Option PA} {was wgs vs0 : List VV} {r0 r1 r2 r3 r5 r6 r7 : VV}
theorem packG (h : Den Hb pa pg al gs was wgs) (l1 : ld Hb ⟨j, 0, 1⟩ = some (.sl pg gs.length cg)) (hxA : Ext Hb HA) (hoff0 : OffB ip HA H) (hip : H[ip]? = some (pk8 r0 r1 r2 r3 nil1 r5 r6 r7)) (hlp : Hb.length ≤ ip) (hlb : HA.length ≤ br)
    (hN : gs.length ≤ 256) (hS : S ≤ 65) (hrow : ∀ q, q < gs.length → (gs.getD q []).length = S) (hval : ∀ n q, n < S → q < gs.length → gAt gs n q ≤ 256)
    (hrp : RowP HA.length H br S 0 vs0 (rowsG gs S)) :
    VW Try.prog B 147 (VC.l (VC.r (VC.r (VC.r (VC.r (VC.r (VC.r (VC.r w23.vc)))))))) [(1, .ptr (some ⟨j, 0, 0⟩)), (2, v2), (4, .ptr (some ⟨ip, 0, 0⟩)), (5, .sl (some ⟨br, 0, 0⟩) S S)] H
      fun e F2 H' => e = .normal ∧ Cov [(1, .ptr (some ⟨j, 0, 0⟩)), (2, v2), (4, .ptr (some ⟨ip, 0, 0⟩)), (5, .sl (some ⟨br, 0, 0⟩) S S)] F2 ∧ OffB ip HA H' ∧ ∃ ot vs,
        H'[ip]? = some (pk8 r0 r1 r2 r3 (.sl (gptr ot) S S) r5 r6 r7) ∧ Grow H' (.sl (gptr ot) S S) ot (tgN gs S) ∧ (∀ b, ot = some b → HA.length ≤ b) ∧ RowP HA.length H' br S S vs (rowsG gs S) := by
  dsimp only [w23, VC.l, VC.r]
  have hAb := hxA.1
  refine VW.seq (VW.reg ?_)
  refine VOps.rd rfl rfl ?_
  refine VOps.rd rfl rfl ?_
  refine VOps.rd rfl rfl ?_
  refine VOps.nil ⟨rfl, ?_⟩
  show VW _ _ _ _ [(1, .ptr (some ⟨j, 0, 0⟩)), (2, v2), (4, .ptr (some ⟨ip, 0, 0⟩)), (5, .sl (some ⟨br, 0, 0⟩) S S), (88, .int .i64 S), (89, .int .i64 0)] _ _
  refine VW.block ?_
  refine VW.loop (fun m F' H' => ∃ (n : Nat) (ot : Option Nat) (vs : List VV), n ≤ S ∧ m = S - n ∧ Cov [(1, .ptr (some ⟨j, 0, 0⟩)), (2, v2), (4, .ptr (some ⟨ip, 0, 0⟩)), (5, .sl (some ⟨br, 0, 0⟩) S S), (88, .int .i64 S), (89, .int .i64 n)] F' ∧ OffB ip HA H' ∧
      H'[ip]? = some (pk8 r0 r1 r2 r3 (.sl (gptr ot) n n) r5 r6 r7) ∧ Grow H' (.sl (gptr ot) n n) ot (tgN gs n) ∧ (∀ b, ot = some b → HA.length ≤ b) ∧ RowP HA.length H' br S n vs (rowsG gs S)) S
    ⟨0, none, vs0, by omega, rfl, by simp [Cov, Fr.only], hoff0, hip, ⟨rfl, rfl⟩, (fun b e => by cases e), hrp⟩ ?_
  clear hoff0 hip hrp
  rintro m F' H1 ⟨n, ot, vs, hn, rfl, hcov, hoff, hip, hg, hot, hrp⟩
  refine VW.sub hcov ?_
  clear hcov
  have hpb : ip ≠ br := fun e => by have := hrp.blk; rw [← e, hip] at this; cases this
  by_cases hlt : n < S
  · have hvn := wrap_id (x := (n : Int) + 1) (by omega) (by omega)
    have hrq := rowsG_at (gs := gs) hlt
    have hdf := tgN_succ gs n
    refine VW.seq (VW.reg ?_)
    refine VOps.rd rfl rfl ?_
    refine VOps.nil ⟨rfl, VW.seq (VW.condT (by simp [Fr.only, hlt]) (VW.skip ?_))⟩
    have hs1 : stc (H1 ++ [.row 3 .own [[.int .i64 0]]]) ⟨H1.length, 0, 0⟩ [.int .i64 n] = some (H1 ++ [.row 3 .own [[.int .i64 n]]]) := by simp [stc, okCells, VV.cell, upd]
    refine VW.seq (VW.block (VW.seq (VW.reg ?_)))
    refine VOps.rd rfl rfl ?_
    refine VOps.ef (v := .ptr (some ⟨H1.length, 0, 0⟩)) (H' := H1 ++ [.row 3 .own [[.int .i64 0]]]) rfl rfl ?_
    refine VOps.ef (v := .undef) (H' := H1 ++ [.row 3 .own [[.int .i64 n]]]) rfl (by simp [hs1]) ?_
    refine VOps.nil ⟨rfl, ?_⟩
    show VW _ _ _ _ [(1, .ptr (some ⟨j, 0, 0⟩)), (2, v2), (4, .ptr (some ⟨ip, 0, 0⟩)), (5, .sl (some ⟨br, 0, 0⟩) S S), (11, .ptr (some ⟨H1.length, 0, 0⟩)), (88, .int .i64 S), (89, .int .i64 n)] _ _
    clear hs1
    have hc2 : (H1 ++ [Blk.row 3 .own [[.int .i64 n]]])[H1.length]? = some (.row 3 .own [[.int .i64 n]]) := by simp
    have hx12 : Ext H1 (H1 ++ [.row 3 .own [[.int .i64 n]]]) := .app _ _
    replace hip := get_push hip [.row 3 .own [[.int .i64 n]]]
    replace hg := hg.keep (H' := H1 ++ [.row 3 .own [[.int .i64 n]]]) fun k e => by subst e; exact List.getElem?_append_left (get_lt hg.2.1)
    replace hrp := hrp.keep (H' := H1 ++ [.row 3 .own [[.int .i64 n]]]) (List.getElem?_append_left (get_lt hrp.blk)) fun k es _ hes => List.getElem?_append_left (get_lt hes)
    replace hoff := hoff.push [.row 3 .own [[.int .i64 n]]]
    have hHA1 : H1.length ≤ (H1 ++ [Blk.row 3 .own [[.int .i64 n]]]).length := by simp
    have hcip : H1.length ≠ ip := fun e => by rw [e, hip] at hc2; cases hc2
    have hcbr : H1.length ≠ br := fun e => by rw [e, hrp.blk] at hc2; cases hc2
    have hcot : ot ≠ some H1.length := fun e => by subst e; have := hg.2.1; rw [hc2] at this; cases this
    generalize H1 ++ [.row 3 .own [[.int .i64 n]]] = H3 at *
    generalize H1.length = ic at *
    have hx := hoff.ext hxA hlp
    have lc := ld_own hc2 0
    simp only [List.getElem?_cons_zero] at lc
    have hl1 := ext_ld hx l1
    -- the target
    have h3 := h.ext hx
    have hmost := most41 (f := 42) (caps := [.ptr (some ⟨ic, 0, 0⟩)]) (c := cg) (n := gs.length) (key := fun q => gAt gs n q) (ok := fun q => decide (0 ≤ gAt gs n q)) h3.sg h3.rg.1 (by omega) (fun k hk H' hx' => by
      obtain ⟨pk, ck, b1, b2, b3⟩ := h3.rg.2 k hk
      have hw : wgs.getD k .undef = .sl pk (gs.getD k []).length ck := by rw [List.getD_eq_getElem?_getD, b1]; rfl
      rw [hw]
      exact key42 (ext_ld hx' lc) (hx'.sl b2) (by rw [hrow k hk]; exact hlt)) (fun k hk _ => ⟨by rename_i ho; exact of_decide_eq_true ho, hval n k hlt hk⟩)
    have hdl : tgG gs n = mostS (keysOf (fun q => gAt gs n q) (fun q => decide (0 ≤ gAt gs n q)) gs.length) := rfl
    rw [← hdl] at hmost
    refine VW.seq (VW.reg ?_)
    refine VOps.rd rfl rfl ?_
    refine VOps.rd (v := .sl pg gs.length cg) rfl (by simp [hl1]) ?_
    refine VOps.rd rfl rfl ?_
    refine VOps.call rfl rfl rfl (hmost.mono ?_)
    rintro r H4 ⟨rfl, rfl⟩
    refine VOps.rd rfl rfl ?_
    refine VOps.nil ⟨rfl, ?_⟩
    have hrl : rowG gs n = rowGn gs n (tgG gs n) gs.length := rfl
    clear hmost hdl h3
    generalize tgG gs n = d at *
    show VW _ _ _ _ [(1, .ptr (some ⟨j, 0, 0⟩)), (2, v2), (4, .ptr (some ⟨ip, 0, 0⟩)), (5, .sl (some ⟨br, 0, 0⟩) S S), (11, .ptr (some ⟨ic, 0, 0⟩)), (12, .int .i64 d), (88, .int .i64 S), (89, .int .i64 n)] _ _
    obtain ⟨p1, p2, p3⟩ := hg.push (by rw [tgN_len]; omega) d
    rw [← hdf, tgN_len] at p2 p3
    have hnp : ot ≠ some ip := fun e => by subst e; have := hg.2.1; rw [hip] at this; cases this
    have hnb : ot ≠ some br := fun e => by subst e; have := hg.2.1; rw [hrp.blk] at this; cases this
    have lp := ld_own hip 4
    simp only [List.getElem?_cons_zero, List.getElem?_cons_succ] at lp
    have e1 : ∀ k x, H4[k]? = some x → ot ≠ some k → (kill (H4 ++ [.row 3 .own [[.int .i64 d]]]) ot ++ [.row 3 .loose (intEs (tgN gs (n + 1)))])[k]? = some x := fun k x hk hne => get_push (by rw [kill_off hne]; exact get_push hk _) _
    have e2 : OffB ip HA (kill (H4 ++ [.row 3 .own [[.int .i64 d]]]) ot ++ [.row 3 .loose (intEs (tgN gs (n + 1)))]) := ((hoff.push _).kill hot).push _
    have hl3 := hoff.1
    generalize kill (H4 ++ [.row 3 .own [[.int .i64 d]]]) ot ++ [.row 3 .loose (intEs (tgN gs (n + 1)))] = H5 at *
    have hip4 := e1 ip _ hip hnp
    have hn4 : H4.length + 1 ≠ ip := fun e => by have := get_lt hip; omega
    have hst : stc H5 ⟨ip, 0, 4⟩ [.sl (some ⟨H4.length + 1, 0, 0⟩) (n + 1) (n + 1)] = some (H5.set ip (pk8 r0 r1 r2 r3 (.sl (some ⟨H4.length + 1, 0, 0⟩) (n + 1) (n + 1)) r5 r6 r7)) := by
      simp only [stc, hip4]
      simp [upd, okCells, VV.cell]
    have hc5 := e1 ic _ hc2 hcot
    generalize hnew : pk8 r0 r1 r2 r3 (.sl (some ⟨H4.length + 1, 0, 0⟩) (n + 1) (n + 1)) r5 r6 r7 = nb at *
    have hrp5 : RowP HA.length (H5.set ip nb) br S n vs (rowsG gs S) := by
      refine hrp.keep ?_ fun k es hk hes => ?_
      · rw [List.getElem?_set_ne hpb, e1 br _ hrp.blk hnb, hrp.blk]
      · have hk2 : ot ≠ some k := fun e => by subst e; have := hg.2.1; rw [hes] at this; cases this
        have hk3 : ip ≠ k := fun e => by subst e; rw [hip] at hes; cases hes
        rw [List.getElem?_set_ne hk3, e1 k _ hes hk2, hes]
    have hg5 : Grow (H5.set ip nb) (.sl (some ⟨H4.length + 1, 0, 0⟩) (n + 1) (n + 1)) (some (H4.length + 1)) (tgN gs (n + 1)) := p3.keep fun k e => by cases e; exact List.getElem?_set_ne (Ne.symm hn4)
    have hip5 : (H5.set ip nb)[ip]? = some nb := List.getElem?_set_self (get_lt hip4)
    have hoff5 := e2.set nb
    have hc6 : (H5.set ip nb)[ic]? = some (.row 3 .own [[.int .i64 n]]) := by rw [List.getElem?_set_ne (Ne.symm hcip)]; exact hc5
    refine VW.seq (VW.reg ?_)
    refine VOps.rd rfl rfl ?_
    refine VOps.rd (v := .sl (gptr ot) n n) rfl (by simp [lp]) ?_
    refine VOps.rd rfl rfl ?_
    refine VOps.ef (v := .sl (some ⟨H4.length, 0, 0⟩) 1 1) (H' := H4 ++ [.row 3 .own [[.int .i64 d]]]) rfl rfl ?_
    refine VOps.ef (v := .sl (some ⟨H4.length + 1, 0, 0⟩) (n + 1) (n + 1)) (H' := H5) rfl (by simp [p1, p2]) ?_
    refine VOps.rd rfl rfl ?_
    refine VOps.ef (v := .undef) (H' := H5.set ip nb) rfl (by simp [hst]) ?_
    refine VOps.nil ⟨rfl, ?_⟩
    clear hst p1 p2 p3 hg lp e1 e2 hrp hip hip4 hc5 hc2 lc hl1
    generalize H5.set ip nb = H6 at *
    have hid : HA.length ≤ H4.length + 1 := by omega
    generalize H4.length + 1 = id5 at *
    have hx6 := hoff5.ext hxA hlp
    refine VW.seq (VW.reg ?_)
    refine VOps.rd rfl rfl ?_
    refine VOps.rd (v := .sl pg gs.length cg) rfl (by simp [Fr.only, ext_ld hx6 l1]) ?_
    refine VOps.rd rfl rfl ?_
    refine VOps.rd rfl rfl ?_
    refine VOps.nil ⟨rfl, ?_⟩
    show VW _ _ _ _ [(1, .ptr (some ⟨j, 0, 0⟩)), (2, v2), (4, .ptr (some ⟨ip, 0, 0⟩)), (5, .sl (some ⟨br, 0, 0⟩) S S), (11, .ptr (some ⟨ic, 0, 0⟩)), (12, .int .i64 d), (88, .int .i64 S), (89, .int .i64 n), (103, .sl pg gs.length cg), (104, .int .i64 gs.length), (105, .int .i64 0)] _ _
    refine VW.mono (packG_in h hx6 (Nat.le_trans hAb hlb) hN (fun q hq => by rw [hrow q hq]; exact hlt) hlt hc6 hrp5.blk hrp5.len (hrp5.todo n (Nat.le_refl _) hlt)) ?_
    rintro e F2 H7 ⟨rfl, hcov, hoff7, o, hb7, hg7, ho⟩
    rw [← hrl, ← hrq] at hb7 hg7
    have hib : id5 ≠ br := fun e => by have := hg5.2.1; rw [e, hrp5.blk] at this; cases this
    refine VW.sub hcov (VW.reg ?_)
    refine VOps.rd rfl rfl ?_
    refine VOps.rd rfl rfl ?_
    refine VOps.nil ⟨rfl, S - (n + 1), by omega, n + 1, some id5, _, by omega, rfl, by simp [Cov, Fr.only, hvn], hoff5.thru hoff7 hlb, ?_, hg5.keep fun k e => by cases e; exact hoff7.2 _ (get_lt hg5.2.1) hib, fun b e => by cases e; exact hid, hrp5.step hlt hoff7 hoff5.1 hb7 hg7 rfl ho⟩
    rw [hoff7.2 ip (get_lt hip5) hpb, hip5, ← hnew]; rfl
  · have : n = S := by omega
    subst this
    refine VW.seq (VW.reg ?_)
    refine VOps.rd rfl rfl ?_
    refine VOps.nil ⟨rfl, VW.seq (VW.condF (by simp [Fr.only]) (VW.exit ?_))⟩
    simp only [then_normal, then_ret, then_exit, inB_normal, inB_ret, inB_exit, reduceIte, Nat.reduceEqDiff]
    exact ⟨trivial, by simp [Cov, Fr.only], hoff, ot, vs, hip, hg, hot, hrp⟩
end
end Go.Proofs.Ytlclbfkdaemilaa

/- A packed table on the heap: eight lists. What 'may' tells. -/
namespace Go.Proofs.Ytlclbfkdaemilaa
set_option linter.unusedSimpArgs false
set_option linter.unusedVariables false
open Go Go.Vm Go.Proofs
set_option maxRecDepth 100000
set_option maxHeartbeats 2000000

/-- a list in a block of its own, or none -/
def Own (H : Hp) (o : Option Nat) (l : List Int) : Prop := Sl H (gptr o) 1 (intEs l) ∧ Wr H o l.length
theorem Own.keep {H H' : Hp} {o : Option Nat} {l : List Int} (h : Own H o l) (hk : ∀ k, o = some k → H'[k]? = H[k]?) : Own H' o l := by
  refine ⟨?_, h.2.keep hk⟩
  rcases h.1 with hs | ⟨b, i, md, t, rs, e1, e2, e3, e4⟩
  · exact .inl hs
  · refine .inr ⟨b, i, md, t, rs, e1, ?_, e3, e4⟩
    have hb : o = some b := by
      cases o with
      | none => cases e1
      | some z => simp [gptr] at e1; rw [e1.1]
    rw [hk b hb]; exact e2
theorem Own.lt {H : Hp} {o : Option Nat} {l : List Int} (h : Own H o l) {k : Nat} (e : o = some k) : k < H.length := by
  have := h.2
  rw [e] at this
  obtain ⟨md, l, _, h2, _⟩ := this
  exact get_lt h2
theorem Own.ext {H H' : Hp} {o : Option Nat} {l : List Int} (h : Own H o l) (hx : Ext H H') : Own H' o l := h.keep fun k e => hx.2 k (h.lt e)
theorem Own.of {H : Hp} {x : VV} {o : Option Nat} {l : List Int} (h : Grow H x o l) : Own H o l := ⟨h.sl, .of h⟩
theorem Own.set {H : Hp} {o : Option Nat} {l : List Int} (h : Own H o l) {i : Nat} (hi : o ≠ some i) (x : Blk) : Own (H.set i x) o l := h.keep fun k e => List.getElem?_set_ne (fun e2 => hi (by rw [e, e2]))
/-- it is no struct's block -/
theorem Own.ne {H : Hp} {o : Option Nat} {l : List Int} (h : Own H o l) {i : Nat} {t : TypeId} {e : List (List VV)} (hi : H[i]? = some (.row t .own e)) (ht : t ≠ 3) : o ≠ some i := fun e1 => by
  have := h.2
  rw [e1] at this
  obtain ⟨md, l, _, h2, _⟩ := this
  rw [hi] at h2
  simp at h2
  exact ht h2.1

theorem mayFrom_spec {n : Int} {t s : Nat} {al : List Edges} {gs : List (List Int)} : ∀ {m i : Nat}, mayFrom n t s al gs m i = true → ∀ k, i ≤ k → k < i + m → mayRow n t s (al.getD k []) (gs.getD k []) = true
  | 0, i, _, k, h1, h2 => by omega
  | m + 1, i, h, k, h1, h2 => by
    unfold mayFrom at h
    rw [Bool.and_eq_true] at h
    by_cases e : k = i
    · subst e; exact h.1
    · exact mayFrom_spec h.2 k (by omega) (by omega)
structure MayT (al : List Edges) (gs : List (List Int)) (T S : Nat) : Prop where
  n1 : 1 ≤ al.length
  n2 : al.length ≤ 256
  ng : gs.length = al.length
  t1 : 1 ≤ T
  t2 : T ≤ 65
  s1 : 1 ≤ S
  s2 : S ≤ 65
  rt : ∀ q, q < al.length → (al.getD q []).length = T
  rs : ∀ q, q < al.length → (gs.getD q []).length = S
  ma : ∀ q, q < al.length → ∀ k, k < T → mayA al.length ((al.getD q []).getD k (0, 0)).1 ((al.getD q []).getD k (0, 0)).2 = true
  mg : ∀ q, q < al.length → ∀ n, n < S → mayG al.length ((gs.getD q []).getD n 0) = true
theorem mayD_spec {al : List Edges} {gs : List (List Int)} (h : mayD al gs = true) : MayT al gs (al.getD 0 []).length (gs.getD 0 []).length := by
  unfold mayD at h
  simp only [Bool.and_eq_true, decide_eq_true_eq] at h
  obtain ⟨⟨⟨⟨h1, h2⟩, h3⟩, ⟨⟨h4, h5⟩, h6⟩, h7⟩, h8⟩ := h
  have key := fun q (hq : q < al.length) => mayFrom_spec h8 q (Nat.zero_le _) (by omega)
  simp only [mayRow, Bool.and_eq_true, decide_eq_true_eq] at key
  refine ⟨h1, h2, h3, h4, h6, h5, h7, fun q hq => (key q hq).1.1.1, fun q hq => (key q hq).1.1.2, fun q hq k hk => ?_, fun q hq n hn => ?_⟩
  · have := (key q hq).1.2
    rw [List.all_eq_true] at this
    have hk2 : k < (al.getD q []).length := by rw [(key q hq).1.1.1]; exact hk
    have hm : (al.getD q []).getD k (0, 0) ∈ al.getD q [] := getD_mem hk2
    exact this _ hm
  · have := (key q hq).2
    rw [List.all_eq_true] at this
    have hk2 : n < (gs.getD q []).length := by rw [(key q hq).1.1.2]; exact hn
    have hm : (gs.getD q []).getD n 0 ∈ gs.getD q [] := by
      have : (gs.getD q []).getD n 0 = (gs.getD q [])[n] := by rw [List.getD_eq_getElem?_getD, List.getElem?_eq_getElem hk2]; rfl
      rw [this]; exact List.getElem_mem hk2
    exact this _ hm
theorem mayA_range {n a b : Int} (hn : n ≤ 256) (h : mayA n a b = true) : 0 ≤ b ∧ b ≤ 256 := by
  unfold mayA at h
  split at h
  · simp at h; omega
  · split at h
    · simp at h; omega
    · simp at h; omega
theorem mayG_range {n x : Int} (hn : n ≤ 256) (h : mayG n x = true) : -1 ≤ x ∧ x ≤ 255 := by
  unfold mayG at h
  simp at h; omega

/-- the eight lists -/
def pkL (al : List Edges) (gs : List (List Int)) (j : Nat) : List Int :=
  if mayD al gs = true then (match j with
    | 0 => dfN al al.length
    | 1 => layL (rowsA al) 0
    | 2 => layL (rowsA al) 1
    | 3 => layL (rowsA al) 2
    | 4 => tgN gs (gs.getD 0 []).length
    | 5 => layL (rowsG gs (gs.getD 0 []).length) 0
    | 6 => layL (rowsG gs (gs.getD 0 []).length) 1
    | _ => layL (rowsG gs (gs.getD 0 []).length) 2) else []
def pkE (al : List Edges) (gs : List (List Int)) : Int := if mayD al gs = true then 0 else 1
theorem pkL_len (al : List Edges) (gs : List (List Int)) (j : Nat) : (pkL al gs j).length ≤ 1000000 := by
  unfold pkL
  by_cases h : mayD al gs = true
  · have hm := mayD_spec h
    have := hm.n2
    have := hm.s2
    rw [if_pos h]
    split <;> first | exact layL_len _ _ | (rw [dfN_len]; omega) | (rw [tgN_len]; omega)
  · rw [if_neg h]; simp
abbrev pkA (o : Nat → Option Nat) (al : List Edges) (gs : List (List Int)) : List VV :=
  [.sl (gptr (o 0)) (pkL al gs 0).length (pkL al gs 0).length, .sl (gptr (o 1)) (pkL al gs 1).length (pkL al gs 1).length, .sl (gptr (o 2)) (pkL al gs 2).length (pkL al gs 2).length, .sl (gptr (o 3)) (pkL al gs 3).length (pkL al gs 3).length,
   .sl (gptr (o 4)) (pkL al gs 4).length (pkL al gs 4).length, .sl (gptr (o 5)) (pkL al gs 5).length (pkL al gs 5).length, .sl (gptr (o 6)) (pkL al gs 6).length (pkL al gs 6).length, .sl (gptr (o 7)) (pkL al gs 7).length (pkL al gs 7).length]
structure PRes (H0 H : Hp) (o : Nat → Option Nat) (al : List Edges) (gs : List (List Int)) : Prop where
  ext : Ext H0 H
  own : ∀ j, j < 8 → Own H (o j) (pkL al gs j)
  lo : ∀ j, j < 8 → ∀ k, o j = some k → H0.length ≤ k
  ne : ∀ j j', j < 8 → j' < 8 → j ≠ j' → ∀ k, o j = some k → o j' ≠ some k
theorem ne8 {o : Nat → Option Nat} {a1 a2 a3 : Nat} (h0 : ∀ k, o 0 = some k → k < a1) (hA : ∀ j, 1 ≤ j → j ≤ 3 → ∀ k, o j = some k → a1 ≤ k ∧ k < a2) (h4 : ∀ k, o 4 = some k → a2 ≤ k ∧ k < a3) (hG : ∀ j, 5 ≤ j → j ≤ 7 → ∀ k, o j = some k → a3 ≤ k)
    (h12 : a1 ≤ a2) (h23 : a2 ≤ a3)
    (nA : ∀ j j', 1 ≤ j → j ≤ 3 → 1 ≤ j' → j' ≤ 3 → j ≠ j' → ∀ k, o j = some k → o j' ≠ some k) (nG : ∀ j j', 5 ≤ j → j ≤ 7 → 5 ≤ j' → j' ≤ 7 → j ≠ j' → ∀ k, o j = some k → o j' ≠ some k) :
    ∀ j j', j < 8 → j' < 8 → j ≠ j' → ∀ k, o j = some k → o j' ≠ some k := by
  intro j j' hj hj' hne k hk hk'
  have c1 : j = 0 ∨ (1 ≤ j ∧ j ≤ 3) ∨ j = 4 ∨ (5 ≤ j ∧ j ≤ 7) := by omega
  have c2 : j' = 0 ∨ (1 ≤ j' ∧ j' ≤ 3) ∨ j' = 4 ∨ (5 ≤ j' ∧ j' ≤ 7) := by omega
  rcases c1 with rfl | ⟨u1, u2⟩ | rfl | ⟨u1, u2⟩ <;> rcases c2 with rfl | ⟨w1, w2⟩ | rfl | ⟨w1, w2⟩
  · exact hne rfl
  · have := h0 k hk; have := hA j' w1 w2 k hk'; omega
  · have := h0 k hk; have := h4 k hk'; omega
  · have := h0 k hk; have := hG j' w1 w2 k hk'; omega
  · have := h0 k hk'; have := hA j u1 u2 k hk; omega
  · exact nA j j' u1 u2 w1 w2 hne k hk hk'
  · have := hA j u1 u2 k hk; have := h4 k hk'; omega
  · have := hA j u1 u2 k hk; have := hG j' w1 w2 k hk'; omega
  · have := h0 k hk'; have := h4 k hk; omega
  · have := hA j' w1 w2 k hk'; have := h4 k hk; omega
  · exact hne rfl
  · have := h4 k hk; have := hG j' w1 w2 k hk'; omega
  · have := h0 k hk'; have := hG j u1 u2 k hk; omega
  · have := hA j' w1 w2 k hk'; have := hG j u1 u2 k hk; omega
  · have := h4 k hk'; have := hG j u1 u2 k hk; omega
  · exact nG j j' u1 u2 w1 w2 hne k hk hk'
end Go.Proofs.Ytlclbfkdaemilaa

