/- A piece of the run (what stands before and behind it was printed by a program). -/
import Derived.Test.YtfodpmekcddgpaaGreatDoorTCd
import Derived.Test.YtfodpmekcddgpaaGreatDoorTTb
import Derived.KernelRfl
import Derived.Test.YtfodpmekcddgpaaGreatDoorPTa
import Derived.Test.YtfodpmekcddgpaaGreatDoorPTc
import Derived.Test.YtfodpmekcddgpaaGreatDoorPTd
namespace Go.Proofs.YtfodpmekcddgpaaGreatDoor
open Go Go.Wm Go.Proofs
set_option maxRecDepth 1000000
def P6 : Tree Blk := (.n (.row 28 .ro [[.sl (some ⟨3,0,0⟩) 7 7]]) (.n bT (.n bS .e .e) .e) d1)
def Q6 : Tree Blk := (.n (.row 28 .ro [[.sl (some ⟨3,0,0⟩) 7 7]]) (.n bT (.n bS d897 d897) d1795) d3590)
def C6 : Cut := ⟨14,[],⟨4,P6,[]⟩,.bool true,⟨7182,Q6,[]⟩⟩
theorem run6 : piece [C0, C2, C4] TT 100000 200 C6 = some [] := by kernel_rfl
theorem cut6 : CutOk Tryz.prog C6 := cut_ok (by kernel_rfl) tabOk (cs := [C0, C2, C4]) (by simp only [List.mem_cons, List.not_mem_nil, or_false, forall_eq_or_imp, forall_eq]; exact ⟨cut0, cut2, cut4⟩) run6
end Go.Proofs.YtfodpmekcddgpaaGreatDoor
