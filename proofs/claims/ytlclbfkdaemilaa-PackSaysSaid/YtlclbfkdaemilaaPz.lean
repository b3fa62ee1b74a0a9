/- PackAts: the statement. -/
import Derived.Test.YtlclbfkdaemilaaRows
import Derived.Test.YtlclbfkdaemilaaVmP
import Derived.Test.YtlclbfkdaemilaaPa
namespace Go.Proofs.Ytlclbfkdaemilaa
set_option linter.unusedSimpArgs false
set_option linter.unusedVariables false
open Go Go.Vm Go.Proofs Go.ChangeShapes Go.WideShapes Go.ChangeAt Go.RowKit
set_option maxRecDepth 100000

/-- api.Rows -/
theorem rows_inv {D : Type} {H : Hp} {vs : List VV} {d : DataW D} (h : Rd Try.prog H 26 vs d) : ∃ (p1 p2 p3 : Option PA) (c1 c2 c3 : Nat) (b v o : List Int), vs = [.sl p1 b.length c1, .sl p2 v.length c2, .sl p3 o.length c3] ∧
    Sl H p1 1 (intEs b) ∧ Sl H p2 1 (intEs v) ∧ Sl H p3 1 (intEs o) ∧ b.length ≤ maxLen ∧ v.length ≤ maxLen ∧ o.length ≤ maxLen := by
  obtain ⟨ps, ds, rfl, _, hp, hd, hf⟩ := h.struct_inv Try.underlying26
  match ps, ds, hp, hd with
  | [x, y, z], [d1, d2, d3], _, _ =>
    obtain ⟨p1, b, c1, rfl, l1, s1, _⟩ := (hf 0 _ x d1 rfl rfl rfl).ints Try.underlying24 Try.underlying3 (by kernel_rfl)
    obtain ⟨p2, v, c2, rfl, l2, s2, _⟩ := (hf 1 _ y d2 rfl rfl rfl).ints Try.underlying24 Try.underlying3 (by kernel_rfl)
    obtain ⟨p3, o, c3, rfl, l3, s3, _⟩ := (hf 2 _ z d3 rfl rfl rfl).ints Try.underlying24 Try.underlying3 (by kernel_rfl)
    exact ⟨p1, p2, p3, c1, c2, c3, b, v, o, rfl, s1, s2, s3, l1, l2, l3⟩

theorem own : ownKnob Try.prog.godebug = none := by kernel_rfl
theorem laid : laidOutB Try.prog = true := by kernel_rfl

namespace PackAts
theorem law {D : Type} (H : Hp) (vvs : List VV) (ds : List (DataW D)) (h : ArgsRd Try.prog H Try.f4.params.toList vvs ds) : FnV Try.prog 4 vvs H fun r _ => r = .bool true := by
  rw [Try.params4] at h
  cases h with
  | cons h0 h =>
    cases h with
    | cons h1 h =>
      cases h with
      | cons h2 h =>
        cases h
        obtain ⟨row, rfl, _⟩ := h1.int_inv Try.underlying3
        obtain ⟨place, rfl, _⟩ := h2.int_inv Try.underlying3
        obtain ⟨vs, h0, rfl⟩ := h0
        obtain ⟨p1, p2, p3, c1, c2, c3, b, v, o, rfl, s1, s2, s3, l1, l2, l3⟩ := rows_inv h0
        have hst : isStruct Try.prog 26 = true := by kernel_rfl
        rw [hst, if_pos rfl]
        exact packAts_fn s1 s2 s3 l2 l3

theorem lifted (os : Os) (started : os.Started) (H : Type) (enc : TypeId × Value → H) :
    ReturnsInHanded {} Try.checked os 4 .any (Rows.packAtsSpec.pre6 enc Try.prog Try.f4 Rows.packAtsRow.domain false) (Rows.packAtsSpec.post enc Try.prog Try.f4 false true false false) := by
  refine returnsInHanded_of_change (C := Try.checked) own started (by kernel_rfl) Try.func4
    (ChangeSpec.witness6 (enc := enc) (C := Try.checked) false ⟨#[], #[.agg #[.slice none 0 0, .slice none 0 0, .slice none 0 0], .int .i64 0, .int .i64 0], []⟩ 8 (by kernel_rfl) (by kernel_rfl) (by kernel_rfl) (by kernel_rfl)) ?_
  intro W base args ds gs before hval hW _ _
  exact law_contract (s := Rows.packAtsSpec) (tb := 4) (d0 := 5) laid (by decide +kernel) (by decide +kernel) rfl (by kernel_rfl) Try.underlying4 (fun ds hl => by
    have hl' : ds.length = 3 := hl
    match ds, hl' with
    | [a, b, c], _ => rfl) law args ds gs before base hval hW

theorem over : Rows.packAtsRow.holds Try.pinned (OpenSpec.ofChange Rows.packAtsSpec) :=
  OpenClaim.holds_of_wide 4 Try.f4 rfl rfl rfl rfl rfl rfl rfl ⟨rfl, rfl, rfl, rfl, rfl⟩ rfl rfl rfl rfl rfl (by kernel_rfl) Try.func4 (by kernel_rfl)
    (of_decide_eq_true (by kernel_rfl)) (by unfold Func.isWrapper; first | (rw [if_pos (by decide +kernel)]; kernel_rfl) | (rw [if_neg (by decide +kernel)]; exact ⟨rfl, rfl⟩))
    (fun os started H enc _ => lifted os started H enc)

theorem proved : Rows.PackAtsSaid :=
  over
end PackAts
end Go.Proofs.Ytlclbfkdaemilaa
