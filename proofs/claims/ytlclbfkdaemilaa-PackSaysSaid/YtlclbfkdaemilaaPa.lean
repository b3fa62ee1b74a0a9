/- PackAts over the canonical heap. -/
import Derived.Test.YtlclbfkdaemilaaAt
import Derived.Test.YtlclbfkdaemilaaAwk
namespace Go.Proofs.Ytlclbfkdaemilaa
set_option linter.unusedSimpArgs false
set_option linter.unusedVariables false
open Go Go.Vm Go.Proofs
set_option maxRecDepth 100000
theorem packAts_fn {H : Hp} {p1 p2 p3 : Option PA} {c1 c2 c3 : Nat} {b v o : List Int} {row place : Int} (h1 : Sl H p1 1 (intEs b)) (h2 : Sl H p2 1 (intEs v)) (h3 : Sl H p3 1 (intEs o)) (hv : v.length ≤ maxLen) (ho : o.length ≤ maxLen) :
    FnV Try.prog 4 [.agg [.sl p1 b.length c1, .sl p2 v.length c2, .sl p3 o.length c3], .int .i64 row, .int .i64 place] H fun r _ => r = .bool true := by
  refine FnV.enterRow ok4 (by show 3 ≤ 36; decide) fun B => ?_
  dsimp only [w4]
  refine VW.seq (VW.reg ?_)
  refine VOps.ef rfl (by simp; rfl) ?_
  refine VOps.rd rfl rfl ?_
  refine VOps.nil ⟨rfl, ?_⟩
  show VW _ _ _ _ [(1, .int .i64 row), (2, .int .i64 place), (3, .ptr (some ⟨H.length, 0, 0⟩))] _ _
  have l0 := lds_last H 26 .own [VV.sl p1 b.length c1, VV.sl p2 v.length c2, VV.sl p3 o.length c3] [] 0 3
  replace h1 := h1.mono [Blk.row 26 Mode.own [[VV.sl p1 b.length c1, VV.sl p2 v.length c2, VV.sl p3 o.length c3]]]
  replace h2 := h2.mono [Blk.row 26 Mode.own [[VV.sl p1 b.length c1, VV.sl p2 v.length c2, VV.sl p3 o.length c3]]]
  replace h3 := h3.mono [Blk.row 26 Mode.own [[VV.sl p1 b.length c1, VV.sl p2 v.length c2, VV.sl p3 o.length c3]]]
  have hl : H.length < (H ++ [Blk.row 26 Mode.own [[VV.sl p1 b.length c1, VV.sl p2 v.length c2, VV.sl p3 o.length c3]]]).length := by simp
  generalize H ++ [Blk.row 26 Mode.own [[VV.sl p1 b.length c1, VV.sl p2 v.length c2, VV.sl p3 o.length c3]]] = H1 at *
  simp at l0
  generalize ha : atS b v o row place = res
  obtain ⟨n, k⟩ := res
  refine VW.seq (VW.reg ?_)
  refine VOps.rd rfl (by simp [l0]; rfl) ?_
  refine VOps.rd rfl rfl ?_
  refine VOps.rd rfl rfl ?_
  refine VOps.call rfl rfl rfl ((at16 h1 h2 h3 hv ho).mono ?_)
  rintro r H2 ⟨rfl, G, rfl⟩
  rw [ha]
  repeat refine VOps.rd rfl rfl ?_
  refine VOps.nil ⟨rfl, ?_⟩
  show VW _ _ _ _ [(1, .int .i64 row), (2, .int .i64 place), (3, .ptr (some ⟨H.length, 0, 0⟩)), (7, .int .i64 n), (8, .bool k)] _ _
  have l1 : lds (H1 ++ G) ⟨H.length, 0, 0⟩ 3 = lds H1 ⟨H.length, 0, 0⟩ 3 := by
    unfold lds; rw [List.getElem?_append_left hl]
  rw [l0] at l1
  refine VW.seq (VW.reg ?_)
  refine VOps.rd rfl (by simp [l1]; rfl) ?_
  refine VOps.rd rfl rfl ?_
  refine VOps.rd rfl rfl ?_
  refine VOps.call rfl rfl rfl ((at17 (h1.mono G) (h2.mono G) (h3.mono G) hv ho).mono ?_)
  rintro r H2 ⟨rfl, G2, rfl⟩
  rw [ha]
  repeat refine VOps.rd rfl rfl ?_
  refine VOps.nil ⟨rfl, ?_⟩
  show VW _ _ _ _ [(7, .int .i64 n), (8, .bool k), (9, .int .i64 n), (10, .bool k)] _ _
  refine VW.seq (VW.reg ?_)
  refine VOps.rd rfl rfl ?_
  refine VOps.rd rfl rfl ?_
  refine VOps.rd (v := .bool true) rfl (by simp) ?_
  refine VOps.rd rfl rfl ?_
  refine VOps.rd rfl rfl ?_
  refine VOps.rd rfl rfl ?_
  refine VOps.rd (v := .bool true) rfl (by simp) ?_
  refine VOps.rd rfl rfl ?_
  refine VOps.rd rfl rfl ?_
  refine VOps.call rfl rfl rfl ((awake_fn _).mono ?_)
  rintro r H2 ⟨rfl, rfl⟩
  refine VOps.rd rfl rfl ?_
  refine VOps.rd rfl rfl ?_
  refine VOps.nil ⟨rfl, ?_⟩
  show VW _ _ _ _ [(6, .bool true)] _ _
  exact VW.ret ⟨.inl rfl, _, rfl, rfl⟩
end Go.Proofs.Ytlclbfkdaemilaa
