/- awake: run by the canonical machine in the kernel. -/
import Derived.Test.YtlclbfkdaemilaaVmN
import Derived.Test.YtlclbfkdaemilaaFnA
namespace Go.Proofs.Ytlclbfkdaemilaa
set_option linter.unusedSimpArgs false
set_option linter.unusedVariables false
open Go Go.Vm Go.Proofs
set_option maxRecDepth 100000
def rows0 : List FRow := [w10, w12, w15, w16, w28, w29, w30, w31, w32, w33, w36, w45, w46, w47, w53, w55, w56, w60]
theorem rows0_ok : ∀ r ∈ rows0, r.Ok Try.prog := by
  intro r hr
  simp only [rows0, List.mem_cons, List.not_mem_nil, or_false] at hr
  rcases hr with rfl | rfl | rfl | rfl | rfl | rfl | rfl | rfl | rfl | rfl | rfl | rfl | rfl | rfl | rfl | rfl | rfl | rfl
  · exact ok10
  · exact ok12
  · exact ok15
  · exact ok16
  · exact ok28
  · exact ok29
  · exact ok30
  · exact ok31
  · exact ok32
  · exact ok33
  · exact ok36
  · exact ok45
  · exact ok46
  · exact ok47
  · exact ok53
  · exact ok55
  · exact ok56
  · exact ok60
theorem awake_run : (runF rows0 300 20 15 [] []).map (fun p => p.1) = some (.bool true) := by kernel_rfl
theorem mixed0 : Try.prog.follows .mixedOrders = true := by kernel_rfl
theorem awake_fn (H : Hp) : FnV Try.prog 15 [] H fun r H2 => r = .bool true ∧ H2 = H := by
  have h := awake_run
  cases hr : runF rows0 300 20 15 [] [] with
  | none => rw [hr] at h; cases h
  | some p =>
    obtain ⟨r, H'⟩ := p
    rw [hr] at h
    simp at h
    subst h
    have h1 := runF_ok (n := 300) rows0_ok mixed0 20 15 [] [] _ _ hr
    refine (FnV.lift0 (H := H) h1 (by rintro r H' ⟨rfl, _⟩; rfl)).mono ?_
    rintro r H2 ⟨rfl, H', rfl, _⟩
    exact ⟨rfl, rfl⟩
end Go.Proofs.Ytlclbfkdaemilaa
