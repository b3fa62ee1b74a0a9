/- A piece of the run (what stands before and behind it was printed by a program). -/
import Derived.Test.YtfodpmekcddgpaaGreatDoorCd
import Derived.Test.YtfodpmekcddgpaaGreatDoorTb
import Derived.KernelRfl
import Derived.Test.YtfodpmekcddgpaaGreatDoorPDj
namespace Go.Proofs.YtfodpmekcddgpaaGreatDoor
open Go Go.Wm Go.Proofs
set_option maxRecDepth 1000000
def P11 : Tree Blk := (.n (.row 28 .ro [[.sl (some ⟨3,0,0⟩) 7 7]]) (.n bT (.n bS .e .e) .e) d1)
def Q11 : Tree Blk := (.n (.row 28 .ro [[.sl (some ⟨3,0,0⟩) 7 7]]) (.n bT (.n bS d1359 d1359) d2719) d5438)
def C11 : Cut := ⟨6,[.undef,.undef],⟨4,P11,[]⟩,.bool true,⟨10878,Q11,[]⟩⟩
theorem run11 : piece [C10] TT 100000 200 C11 = some [] := by kernel_rfl
theorem cut11 : CutOk Tryz.prog C11 := cut_ok (by kernel_rfl) tabOk (cs := [C10]) (by simp only [List.mem_cons, List.not_mem_nil, or_false, forall_eq_or_imp, forall_eq]; exact cut10) run11
end Go.Proofs.YtfodpmekcddgpaaGreatDoor
