/- A piece of the run (what stands before and behind it was printed by a program). -/
import Derived.Test.YtbcaceeiehjplacGreatDoorICd
import Derived.Test.YtbcaceeiehjplacGreatDoorITb
import Derived.KernelRfl
import Derived.Test.YtbcaceeiehjplacGreatDoorPIc
import Derived.Test.YtbcaceeiehjplacGreatDoorPIf
namespace Go.Proofs.YtbcaceeiehjplacGreatDoor
open Go Go.Wm Go.Proofs
set_option maxRecDepth 1000000
def P6 : Tree Blk := (.n (.row 30 .ro [[.sl (some ⟨3,0,0⟩) 7 7]]) (.n bT (.n bS .e .e) .e) (.n (.row 48 .ro [[.int .u8 (.ofNat 80),.int .u8 (.ofNat 82),.int .u8 (.ofNat 83),.int .u8 (.ofNat 71),.int .u8 (.ofNat 1)]]) .e .e))
def Q6 : Tree Blk := (.n (.row 30 .ro [[.sl (some ⟨3,0,0⟩) 7 7]]) (.n bT (.n bS d1122 d1121) d2243) (.n (.row 48 .ro [[.int .u8 (.ofNat 80),.int .u8 (.ofNat 82),.int .u8 (.ofNat 83),.int .u8 (.ofNat 71),.int .u8 (.ofNat 1)]]) d2244 d2243))
def C6 : Cut := ⟨6,[],⟨4,P6,[]⟩,.bool true,⟨8977,Q6,[]⟩⟩
theorem run6 : piece [C2, C5] TT 100000 200 C6 = some [] := by kernel_rfl
theorem cut6 : CutOk Tryz.prog C6 := cut_ok (by kernel_rfl) tabOk (cs := [C2, C5]) (by simp only [List.mem_cons, List.not_mem_nil, or_false, forall_eq_or_imp, forall_eq]; exact ⟨cut2, cut5⟩) run6
end Go.Proofs.YtbcaceeiehjplacGreatDoor
