/- Functions, compiled for the canonical machine (printed by a program). -/
import Derived.Test.YtlclbfkdaemilaaVmL
import Derived.Test.YtlclbfkdaemilaaProg
namespace Go.Proofs.Ytlclbfkdaemilaa
set_option linter.unusedSimpArgs false
set_option linter.unusedVariables false
open Go Go.Vm Go.Proofs
set_option maxRecDepth 100000
def k4 : List (List Nat) := [[1, 2, 3], [1, 2, 3, 7, 8], [7, 8, 9, 10], [6]]
def w4 : FRow := ⟨4, 36, VC.seq
 (VC.reg [VI.ef (some 3) none (VEf.box 26 (Od.t 0)), VI.rd 6 none (VOp.mv (Od.c (VV.bool false)))] [1, 2, 3])
 (VC.seq
 (VC.reg
 [VI.rd 12 none (VOp.load 3 true (Od.t 3)),
 VI.rd 13 none (VOp.mv (Od.t 1)),
 VI.rd 14 none (VOp.mv (Od.t 2)),
 VI.call (some 15) none (Od.c (VV.fn 16 [])) [Od.t 12, Od.t 13, Od.t 14],
 VI.rd 11 none (VOp.mv (Od.t 15)),
 VI.rd 16 none (VOp.ext 0 (Od.t 11)),
 VI.rd 17 none (VOp.ext 1 (Od.t 11)),
 VI.rd 7 none (VOp.mv (Od.t 16)),
 VI.rd 8 none (VOp.mv (Od.t 17))]
 [1, 2, 3, 7, 8])
 (VC.seq
 (VC.reg
 [VI.rd 19 none (VOp.load 3 true (Od.t 3)),
 VI.rd 20 none (VOp.mv (Od.t 1)),
 VI.rd 21 none (VOp.mv (Od.t 2)),
 VI.call (some 22) none (Od.c (VV.fn 17 [])) [Od.t 19, Od.t 20, Od.t 21],
 VI.rd 18 none (VOp.mv (Od.t 22)),
 VI.rd 23 none (VOp.ext 0 (Od.t 18)),
 VI.rd 24 none (VOp.ext 1 (Od.t 18)),
 VI.rd 9 none (VOp.mv (Od.t 23)),
 VI.rd 10 none (VOp.mv (Od.t 24))]
 [7, 8, 9, 10])
 (VC.seq
 (VC.reg
 [VI.rd 25 none (VOp.mv (Od.t 7)),
 VI.rd 26 none (VOp.mv (Od.t 9)),
 VI.rd 27 none (VOp.bin (BinOp.eql) (Od.t 25) (Od.t 26)),
 VI.rd 28 none (VOp.mv (Od.t 27)),
 VI.rd 29 (some (28, true)) (VOp.mv (Od.t 8)),
 VI.rd 30 (some (28, true)) (VOp.mv (Od.t 10)),
 VI.rd 31 (some (28, true)) (VOp.beq false (Od.t 29) (Od.t 30)),
 VI.rd 32 none (VOp.pick (Od.t 28) (Od.t 31) (Od.c (VV.bool false))),
 VI.rd 33 none (VOp.mv (Od.t 32)),
 VI.call (some 34) (some (33, true)) (Od.c (VV.fn 15 [])) [],
 VI.rd 35 none (VOp.pick (Od.t 33) (Od.t 34) (Od.c (VV.bool false))),
 VI.rd 6 none (VOp.mv (Od.t 35))]
 [6])
 (VC.ret)))),
 [RV.t 6]⟩
theorem ok4 : w4.Ok Try.prog := FRow.ok_of (fn := Try.f4) (ks := k4) (by kernel_rfl) (by kernel_rfl) (by kernel_rfl) (by kernel_rfl) (by kernel_rfl)
def k17 : List (List Nat) := [[1, 2, 3], [1, 2, 3, 22], [6, 7], [1, 2, 3, 8], [1, 2, 3, 8, 9], [2, 3, 8, 59], [6, 7], [6, 7]]
def w17 : FRow := ⟨17, 67, VC.seq
 (VC.reg [VI.ef (some 3) none (VEf.box 26 (Od.t 0)), VI.rd 6 none (VOp.mv (Od.c (VV.int (IntKind.i64) 0))), VI.rd 7 none (VOp.mv (Od.c (VV.bool false)))] [1, 2, 3])
 (VC.seq
 (VC.seq
 (VC.reg
 [VI.rd 10 none (VOp.mv (Od.t 1)),
 VI.rd 11 none (VOp.bin (BinOp.lss) (Od.t 10) (Od.c (VV.int (IntKind.i64) 0))),
 VI.rd 12 none (VOp.mv (Od.t 11)),
 VI.rd 13 (some (12, false)) (VOp.mv (Od.t 1)),
 VI.rd 14 (some (12, false)) (VOp.faddr 0 (Od.t 3)),
 VI.rd 15 (some (12, false)) (VOp.load 1 false (Od.t 14)),
 VI.rd 16 (some (12, false)) (VOp.lens (Od.t 15)),
 VI.rd 17 (some (12, false)) (VOp.bin (BinOp.geq) (Od.t 13) (Od.t 16)),
 VI.rd 18 none (VOp.pick (Od.t 12) (Od.c (VV.bool true)) (Od.t 17)),
 VI.rd 19 none (VOp.mv (Od.t 18)),
 VI.rd 20 (some (19, false)) (VOp.mv (Od.t 2)),
 VI.rd 21 (some (19, false)) (VOp.bin (BinOp.lss) (Od.t 20) (Od.c (VV.int (IntKind.i64) 0))),
 VI.rd 22 none (VOp.pick (Od.t 19) (Od.c (VV.bool true)) (Od.t 21))]
 [1, 2, 3, 22])
 (VC.cond 22 (VC.seq (VC.reg [VI.rd 6 none (VOp.mv (Od.c (VV.int (IntKind.i64) 0))), VI.rd 7 none (VOp.mv (Od.c (VV.bool false)))] [6, 7]) (VC.ret)) (VC.skip)))
 (VC.seq
 (VC.reg [VI.rd 23 none (VOp.faddr 0 (Od.t 3)), VI.rd 24 none (VOp.load 1 false (Od.t 23)), VI.rd 25 none (VOp.mv (Od.t 1)), VI.rd 26 none (VOp.ixa 1 (Od.t 24) (Od.t 25)), VI.rd 27 none (VOp.load 1 false (Od.t 26)), VI.rd 8 none (VOp.mv (Od.t 27))] [1, 2, 3, 8])
 (VC.seq
 (VC.reg
 [VI.rd 28 none (VOp.faddr 1 (Od.t 3)),
 VI.rd 29 none (VOp.load 1 false (Od.t 28)),
 VI.rd 30 none (VOp.lens (Od.t 29)),
 VI.rd 31 none (VOp.faddr 2 (Od.t 3)),
 VI.rd 32 none (VOp.load 1 false (Od.t 31)),
 VI.rd 33 none (VOp.lens (Od.t 32)),
 VI.rd 34 none (VOp.min2 (Od.t 30) (Od.t 33)),
 VI.rd 9 none (VOp.mv (Od.t 34))]
 [1, 2, 3, 8, 9])
 (VC.seq
 (VC.seq
 (VC.reg
 [VI.rd 35 none (VOp.mv (Od.t 8)),
 VI.rd 36 none (VOp.bin (BinOp.lss) (Od.t 35) (Od.c (VV.int (IntKind.i64) 0))),
 VI.rd 37 none (VOp.mv (Od.t 36)),
 VI.rd 38 (some (37, false)) (VOp.mv (Od.t 8)),
 VI.rd 39 (some (37, false)) (VOp.mv (Od.t 9)),
 VI.rd 40 (some (37, false)) (VOp.bin (BinOp.geq) (Od.t 38) (Od.t 39)),
 VI.rd 41 none (VOp.pick (Od.t 37) (Od.c (VV.bool true)) (Od.t 40)),
 VI.rd 42 none (VOp.mv (Od.t 41)),
 VI.rd 43 (some (42, false)) (VOp.mv (Od.t 2)),
 VI.rd 44 (some (42, false)) (VOp.mv (Od.t 9)),
 VI.rd 45 (some (42, false)) (VOp.mv (Od.t 8)),
 VI.rd 46 (some (42, false)) (VOp.bin (BinOp.sub) (Od.t 44) (Od.t 45)),
 VI.rd 47 (some (42, false)) (VOp.bin (BinOp.geq) (Od.t 43) (Od.t 46)),
 VI.rd 48 none (VOp.pick (Od.t 42) (Od.c (VV.bool true)) (Od.t 47)),
 VI.rd 49 none (VOp.mv (Od.t 48)),
 VI.rd 50 (some (49, false)) (VOp.faddr 2 (Od.t 3)),
 VI.rd 51 (some (49, false)) (VOp.load 1 false (Od.t 50)),
 VI.rd 52 (some (49, false)) (VOp.mv (Od.t 8)),
 VI.rd 53 (some (49, false)) (VOp.mv (Od.t 2)),
 VI.rd 54 (some (49, false)) (VOp.bin (BinOp.add) (Od.t 52) (Od.t 53)),
 VI.rd 55 (some (49, false)) (VOp.ixa 1 (Od.t 51) (Od.t 54)),
 VI.rd 56 (some (49, false)) (VOp.load 1 false (Od.t 55)),
 VI.rd 57 (some (49, false)) (VOp.mv (Od.t 1)),
 VI.rd 58 (some (49, false)) (VOp.bin (BinOp.neq) (Od.t 56) (Od.t 57)),
 VI.rd 59 none (VOp.pick (Od.t 49) (Od.c (VV.bool true)) (Od.t 58))]
 [2, 3, 8, 59])
 (VC.cond 59 (VC.seq (VC.reg [VI.rd 6 none (VOp.mv (Od.c (VV.int (IntKind.i64) 0))), VI.rd 7 none (VOp.mv (Od.c (VV.bool false)))] [6, 7]) (VC.ret)) (VC.skip)))
 (VC.seq
 (VC.reg
 [VI.rd 60 none (VOp.faddr 1 (Od.t 3)),
 VI.rd 61 none (VOp.load 1 false (Od.t 60)),
 VI.rd 62 none (VOp.mv (Od.t 8)),
 VI.rd 63 none (VOp.mv (Od.t 2)),
 VI.rd 64 none (VOp.bin (BinOp.add) (Od.t 62) (Od.t 63)),
 VI.rd 65 none (VOp.ixa 1 (Od.t 61) (Od.t 64)),
 VI.rd 66 none (VOp.load 1 false (Od.t 65)),
 VI.rd 6 none (VOp.mv (Od.t 66)),
 VI.rd 7 none (VOp.mv (Od.c (VV.bool true)))]
 [6, 7])
 (VC.ret)))))),
 [RV.t 6, RV.t 7]⟩
theorem ok17 : w17.Ok Try.prog := FRow.ok_of (fn := Try.f17) (ks := k17) (by kernel_rfl) (by kernel_rfl) (by kernel_rfl) (by kernel_rfl) (by kernel_rfl)
end Go.Proofs.Ytlclbfkdaemilaa
