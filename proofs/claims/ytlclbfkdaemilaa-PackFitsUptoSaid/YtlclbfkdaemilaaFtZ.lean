/- PackFits, for arguments of bulk at most 1048576: the law returns true, and the argument reads as before. -/
import Derived.Test.YtlclbfkdaemilaaLyZ
import Derived.Test.YtlclbfkdaemilaaFtB
namespace Go.Proofs.Ytlclbfkdaemilaa
set_option linter.unusedSimpArgs false
set_option linter.unusedVariables false
open Go Go.Vm Go.Proofs Go.ChangeShapes Go.WideShapes Go.ChangeAt Go.RowKit
set_option maxRecDepth 100000
set_option maxHeartbeats 1000000
namespace PackFits
theorem law {D : Type} (H : Hp) (vvs : List VV) (ds : List (DataW D)) (h : ArgsRd Try.prog H Try.f5.params.toList vvs ds) (hk : Rows.uptoBulkAll ds ≤ 1048576) : FnV Try.prog 5 vvs H fun r _ => r = .bool true := by
  rw [Try.params5] at h
  cases h with
  | cons h0 h =>
    cases h
    obtain ⟨vs, h0, rfl⟩ := h0
    obtain ⟨p, ws, rows, c, rfl, s1, s2, s3, s4, s5, s6⟩ := rowss_inv h0
    have hst : isStruct Try.prog 22 = false := by kernel_rfl
    rw [hst, if_neg (by simp)]
    simp only [Rows.uptoBulkAll] at hk
    exact packFits_fn s1 s2 (by omega) (fun k hk2 => by have := s5 k hk2; omega) s6

theorem lifted (os : Os) (started : os.Started) (H : Type) (enc : TypeId × Value → H) (F : Stop.Interp) :
    ReturnsInHanded {} Try.checked os 5 .any ((Rows.OpenSpec.upto Rows.packFitsSpec).pre6 enc Try.prog Try.f5 Rows.packFitsUptoRow.domain false) (((Rows.OpenSpec.upto Rows.packFitsSpec).at F).post enc Try.prog Try.f5 false true false false) := by
  refine returnsInHanded_of_cond (C := Try.checked) (s := Rows.OpenSpec.upto Rows.packFitsSpec) (k := Rows.uptoSmall) rfl own started (by kernel_rfl) Try.func5
    (OpenSpec.witness (enc := enc) (C := Try.checked) (s := Rows.OpenSpec.upto Rows.packFitsSpec) (k := Rows.uptoSmall) rfl false ⟨#[], #[.slice none 0 0], []⟩ 8 (by kernel_rfl) (by kernel_rfl) (by kernel_rfl)
      (x := ([.nil], [], [])) (by kernel_rfl) rfl (by kernel_rfl)) ?_
  intro W base args ds gs before hval hW _ hk _
  have hb : Rows.uptoBulkAll ds ≤ 1048576 := by
    have h := of_decide_eq_true hk
    rw [bulk_app] at h
    omega
  exact law_contract_at (s := Rows.packFitsSpec) (tb := 4) (d0 := 5) laid (by decide +kernel) (by decide +kernel) rfl (by kernel_rfl) Try.underlying4 (fun ds hl => by
    have hl' : ds.length = 1 := hl
    match ds, hl' with
    | [a], _ => rfl) args ds gs (fun H vvs h => law H vvs ds h hb) before base hval hW

theorem over : Rows.packFitsUptoRow.holds Try.pinned (Rows.OpenSpec.upto Rows.packFitsSpec) :=
  OpenClaim.holds_of_cond 5 Try.f5 rfl rfl rfl rfl rfl rfl rfl ⟨rfl, rfl, rfl, rfl, rfl⟩ rfl rfl rfl rfl rfl (by kernel_rfl) Try.func5 (by kernel_rfl)
    (of_decide_eq_true (by kernel_rfl)) (by unfold Func.isWrapper; first | (rw [if_pos (by decide +kernel)]; kernel_rfl) | (rw [if_neg (by decide +kernel)]; exact ⟨rfl, rfl⟩))
    (fun os started H enc _ F => lifted os started H enc F)

theorem proved : Rows.PackFitsUptoSaid :=
  over
end PackFits
end Go.Proofs.Ytlclbfkdaemilaa
