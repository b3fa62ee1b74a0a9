/-
  No cell of these rows narrows 'for every input' (looked for: loops, veiled, ifaces, maps, wideKeys, modest, calm, conditions, laid).
  DERIVED. THE GIVEN ROWS OF THIS SEAT. 6 by the template 'for every input the law returns true; each argument reads behind the call as it read before'; 0 by the template 'total and deterministic' (their statements: YtlclbfkdaemilaaTotals.lean).
  GIVEN WITH THE SEED: the statements are not yours to turn. If you find one false, say at which input.
  Laid BY PROGRAM, IN A SANDBOX (cutbox-rows.mjs): the forced cells as the released guide's own fill.sh prints them over the translation 19599820dbd1fa66… (all of the seat's roots in one cut). By AI agents, Wed Nov 11 2026. No macro, syntax, notation, axiom, sorry.
-/
import Derived.Test.YtlclbfkdaemilaaChecked
import GoSem.Claim
import GoSem.ClaimJoined
import GoSem.ClaimMapViews
import Derived.JoinedTies
import Derived.KernelRfl
namespace Go.Proofs.Ytlclbfkdaemilaa
/- THE CELL 'sum', in the pinned program and in every row, IS THE sha256 OF THE DUMP (.gsa) THAT YtlclbfkdaemilaaProg.lean LOADS. Nothing in Lean hashes anything: it is a label: what it is worth is what the hold of that sum in a sandbox is worth. -/
noncomputable def Try.pinned : Pinned := { name := "ytlclbfkdaemilaa", sum := "19599820dbd1fa6627de74f94f69e91b5b762c1cbf4197d01f95407fb9da73ff", checked := Try.checked }
namespace Rows
def none {H : Type} : Left H := { results := [], args := [] }

/-- 'presagelaw16.PackLays': WHATEVER THE INPUT: true; the input reads as it did. -/
def packLaysSpec : ChangeSpec := { name := "packLays", fn := fun _ => fun
  | [d] => { results := [.lit (.bool true)], args := [d] }
  | _ => none }
def packLaysRow : OpenClaim := { program := "ytlclbfkdaemilaa", sum := "19599820dbd1fa6627de74f94f69e91b5b762c1cbf4197d01f95407fb9da73ff", func := "presage/presagelaw16.PackLays", spec := "packLays", unfollowed := true, recurses := true, apart := false }
def PackLaysSaid : Prop := packLaysRow.holds Try.pinned (OpenSpec.ofChange packLaysSpec)

/-- ITS FALSE NEIGHBOUR: 'it returns false'. Refute it at one input. -/
def packLaysWrong : ChangeSpec := { name := "packLays", fn := fun _ => fun
  | [d] => { results := [.lit (.bool false)], args := [d] }
  | _ => none }
def PackLaysWrongFalsely : Prop := packLaysRow.holds Try.pinned (OpenSpec.ofChange packLaysWrong)

/-- 'presagelaw16.PackAts': WHATEVER THE INPUT: true; the input reads as it did. -/
def packAtsSpec : ChangeSpec := { name := "packAts", fn := fun _ => fun
  | [d1, d2, d3] => { results := [.lit (.bool true)], args := [d1, d2, d3] }
  | _ => none }
def packAtsRow : OpenClaim := { program := "ytlclbfkdaemilaa", sum := "19599820dbd1fa6627de74f94f69e91b5b762c1cbf4197d01f95407fb9da73ff", func := "presage/presagelaw16.PackAts", spec := "packAts", unfollowed := true, recurses := true, apart := false }
def PackAtsSaid : Prop := packAtsRow.holds Try.pinned (OpenSpec.ofChange packAtsSpec)

/-- ITS FALSE NEIGHBOUR: 'it returns false'. Refute it at one input. -/
def packAtsWrong : ChangeSpec := { name := "packAts", fn := fun _ => fun
  | [d1, d2, d3] => { results := [.lit (.bool false)], args := [d1, d2, d3] }
  | _ => none }
def PackAtsWrongFalsely : Prop := packAtsRow.holds Try.pinned (OpenSpec.ofChange packAtsWrong)

/-- 'presagelaw16.PackFits': WHATEVER THE INPUT: true; the input reads as it did. -/
def packFitsSpec : ChangeSpec := { name := "packFits", fn := fun _ => fun
  | [d] => { results := [.lit (.bool true)], args := [d] }
  | _ => none }
def packFitsRow : OpenClaim := { program := "ytlclbfkdaemilaa", sum := "19599820dbd1fa6627de74f94f69e91b5b762c1cbf4197d01f95407fb9da73ff", func := "presage/presagelaw16.PackFits", spec := "packFits", unfollowed := true, recurses := true, apart := false }
def PackFitsSaid : Prop := packFitsRow.holds Try.pinned (OpenSpec.ofChange packFitsSpec)

/-- ITS FALSE NEIGHBOUR: 'it returns false'. Refute it at one input. -/
def packFitsWrong : ChangeSpec := { name := "packFits", fn := fun _ => fun
  | [d] => { results := [.lit (.bool false)], args := [d] }
  | _ => none }
def PackFitsWrongFalsely : Prop := packFitsRow.holds Try.pinned (OpenSpec.ofChange packFitsWrong)

/-- 'presagelaw16.PackReads': WHATEVER THE INPUT: true; the input reads as it did. -/
def packReadsSpec : ChangeSpec := { name := "packReads", fn := fun _ => fun
  | [d1, d2, d3] => { results := [.lit (.bool true)], args := [d1, d2, d3] }
  | _ => none }
def packReadsRow : OpenClaim := { program := "ytlclbfkdaemilaa", sum := "19599820dbd1fa6627de74f94f69e91b5b762c1cbf4197d01f95407fb9da73ff", func := "presage/presagelaw16.PackReads", spec := "packReads", unfollowed := true, recurses := true, apart := false }
def PackReadsSaid : Prop := packReadsRow.holds Try.pinned (OpenSpec.ofChange packReadsSpec)

/-- ITS FALSE NEIGHBOUR: 'it returns false'. Refute it at one input. -/
def packReadsWrong : ChangeSpec := { name := "packReads", fn := fun _ => fun
  | [d1, d2, d3] => { results := [.lit (.bool false)], args := [d1, d2, d3] }
  | _ => none }
def PackReadsWrongFalsely : Prop := packReadsRow.holds Try.pinned (OpenSpec.ofChange packReadsWrong)

/-- 'presagelaw16.PackPacks': WHATEVER THE INPUT: true; the input reads as it did. -/
def packPacksSpec : ChangeSpec := { name := "packPacks", fn := fun _ => fun
  | [d] => { results := [.lit (.bool true)], args := [d] }
  | _ => none }
def packPacksRow : OpenClaim := { program := "ytlclbfkdaemilaa", sum := "19599820dbd1fa6627de74f94f69e91b5b762c1cbf4197d01f95407fb9da73ff", func := "presage/presagelaw16.PackPacks", spec := "packPacks", unfollowed := true, recurses := true, apart := false }
def PackPacksSaid : Prop := packPacksRow.holds Try.pinned (OpenSpec.ofChange packPacksSpec)

/-- ITS FALSE NEIGHBOUR: 'it returns false'. Refute it at one input. -/
def packPacksWrong : ChangeSpec := { name := "packPacks", fn := fun _ => fun
  | [d] => { results := [.lit (.bool false)], args := [d] }
  | _ => none }
def PackPacksWrongFalsely : Prop := packPacksRow.holds Try.pinned (OpenSpec.ofChange packPacksWrong)

/-- 'presagelaw16.PackSays': WHATEVER THE INPUT: true; the input reads as it did. -/
def packSaysSpec : ChangeSpec := { name := "packSays", fn := fun _ => fun
  | [d] => { results := [.lit (.bool true)], args := [d] }
  | _ => none }
def packSaysRow : OpenClaim := { program := "ytlclbfkdaemilaa", sum := "19599820dbd1fa6627de74f94f69e91b5b762c1cbf4197d01f95407fb9da73ff", func := "presage/presagelaw16.PackSays", spec := "packSays", unfollowed := true, recurses := true, apart := false }
def PackSaysSaid : Prop := packSaysRow.holds Try.pinned (OpenSpec.ofChange packSaysSpec)

/-- ITS FALSE NEIGHBOUR: 'it returns false'. Refute it at one input. -/
def packSaysWrong : ChangeSpec := { name := "packSays", fn := fun _ => fun
  | [d] => { results := [.lit (.bool false)], args := [d] }
  | _ => none }
def PackSaysWrongFalsely : Prop := packSaysRow.holds Try.pinned (OpenSpec.ofChange packSaysWrong)

/- THE SECOND FORM. 'bulk': how many values and letters a reading holds, each counted each time it is reached (what is shared counts as often as it is met; a slice's spare places count too). A statement '..UptoSaid' is the law's where the arguments, and the package variables that the reading takes, are together of bulk at most 1048576: NARROWER than '..Said'. Prove '..Said' where nothing that the law and all that it calls make is longer than what came in: it says more and counts as full. Else prove '..UptoSaid'. A law counts once. -/
mutual
def uptoBulk {H : Type} : DataW H → Nat
  | .lit (.string bytes) => bytes.length + 1
  | .lit _ => 1
  | .nil => 1
  | .ptr d => uptoBulk d + 1
  | .slice elems spare => uptoBulkAll elems + uptoBulkAll spare + 1
  | .agg parts => uptoBulkAll parts + 1
  | .iface _ d => uptoBulk d + 1
  | .map entries => uptoBulkEntries entries + 1
  | .held _ => 1
def uptoBulkAll {H : Type} : List (DataW H) → Nat
  | [] => 0
  | d :: r => uptoBulk d + uptoBulkAll r
def uptoBulkEntries {H : Type} : List (Lit × DataW H) → Nat
  | [] => 0
  | x :: r => uptoBulkEntry x + uptoBulkEntries r
def uptoBulkEntry {H : Type} : Lit × DataW H → Nat
  | (.string bytes, d) => bytes.length + uptoBulk d + 1
  | (_, d) => uptoBulk d + 1
 end
def uptoSmall : (H : Type) → List (DataW H) → Bool := fun _ ds => decide (uptoBulkAll ds ≤ 1048576)
def OpenSpec.upto (s : _root_.Go.ChangeSpec) : _root_.Go.OpenSpec := { _root_.Go.OpenSpec.ofChange s with cond := some uptoSmall }

/-- 'presagelaw16.PackLays', WHERE WHAT IT READS IS OF BULK AT MOST 1048576: true; the input reads as it did. -/
def packLaysUptoRow : OpenClaim := { program := "ytlclbfkdaemilaa", sum := "19599820dbd1fa6627de74f94f69e91b5b762c1cbf4197d01f95407fb9da73ff", func := "presage/presagelaw16.PackLays", spec := "packLays", unfollowed := true, recurses := true, apart := false, narrowed := true }
def PackLaysUptoSaid : Prop := packLaysUptoRow.holds Try.pinned (OpenSpec.upto packLaysSpec)

/-- 'presagelaw16.PackAts', WHERE WHAT IT READS IS OF BULK AT MOST 1048576: true; the input reads as it did. -/
def packAtsUptoRow : OpenClaim := { program := "ytlclbfkdaemilaa", sum := "19599820dbd1fa6627de74f94f69e91b5b762c1cbf4197d01f95407fb9da73ff", func := "presage/presagelaw16.PackAts", spec := "packAts", unfollowed := true, recurses := true, apart := false, narrowed := true }
def PackAtsUptoSaid : Prop := packAtsUptoRow.holds Try.pinned (OpenSpec.upto packAtsSpec)

/-- 'presagelaw16.PackFits', WHERE WHAT IT READS IS OF BULK AT MOST 1048576: true; the input reads as it did. -/
def packFitsUptoRow : OpenClaim := { program := "ytlclbfkdaemilaa", sum := "19599820dbd1fa6627de74f94f69e91b5b762c1cbf4197d01f95407fb9da73ff", func := "presage/presagelaw16.PackFits", spec := "packFits", unfollowed := true, recurses := true, apart := false, narrowed := true }
def PackFitsUptoSaid : Prop := packFitsUptoRow.holds Try.pinned (OpenSpec.upto packFitsSpec)

/-- 'presagelaw16.PackReads', WHERE WHAT IT READS IS OF BULK AT MOST 1048576: true; the input reads as it did. -/
def packReadsUptoRow : OpenClaim := { program := "ytlclbfkdaemilaa", sum := "19599820dbd1fa6627de74f94f69e91b5b762c1cbf4197d01f95407fb9da73ff", func := "presage/presagelaw16.PackReads", spec := "packReads", unfollowed := true, recurses := true, apart := false, narrowed := true }
def PackReadsUptoSaid : Prop := packReadsUptoRow.holds Try.pinned (OpenSpec.upto packReadsSpec)

/-- 'presagelaw16.PackPacks', WHERE WHAT IT READS IS OF BULK AT MOST 1048576: true; the input reads as it did. -/
def packPacksUptoRow : OpenClaim := { program := "ytlclbfkdaemilaa", sum := "19599820dbd1fa6627de74f94f69e91b5b762c1cbf4197d01f95407fb9da73ff", func := "presage/presagelaw16.PackPacks", spec := "packPacks", unfollowed := true, recurses := true, apart := false, narrowed := true }
def PackPacksUptoSaid : Prop := packPacksUptoRow.holds Try.pinned (OpenSpec.upto packPacksSpec)

/-- 'presagelaw16.PackSays', WHERE WHAT IT READS IS OF BULK AT MOST 1048576: true; the input reads as it did. -/
def packSaysUptoRow : OpenClaim := { program := "ytlclbfkdaemilaa", sum := "19599820dbd1fa6627de74f94f69e91b5b762c1cbf4197d01f95407fb9da73ff", func := "presage/presagelaw16.PackSays", spec := "packSays", unfollowed := true, recurses := true, apart := false, narrowed := true }
def PackSaysUptoSaid : Prop := packSaysUptoRow.holds Try.pinned (OpenSpec.upto packSaysSpec)

end Rows
end Go.Proofs.Ytlclbfkdaemilaa
