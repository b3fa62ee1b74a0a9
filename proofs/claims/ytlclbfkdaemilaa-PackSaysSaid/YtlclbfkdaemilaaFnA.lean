/- Functions, compiled for the canonical machine (printed by a program). -/
import Derived.Test.YtlclbfkdaemilaaVmL
import Derived.Test.YtlclbfkdaemilaaProg
namespace Go.Proofs.Ytlclbfkdaemilaa
set_option linter.unusedSimpArgs false
set_option linter.unusedVariables false
open Go Go.Vm Go.Proofs
set_option maxRecDepth 100000
def k10 : List (List Nat) := [[1, 2], [1, 2, 15], [2, 3], [1, 2, 4], [1, 2, 4, 21, 22], [1, 2, 4, 21, 22, 23], [1, 2, 4, 5, 21, 22], [1, 2, 4, 21, 22], [1, 2, 4, 21, 22], [1, 2, 4], [1, 2, 4, 6], [1, 2, 6, 39, 40, 41], [1, 2, 6, 39, 40, 41, 42], [1, 2, 6, 8, 39, 40, 41], [1, 2, 6, 8, 39, 40, 41, 50], [1, 2, 6, 39, 40, 41], [1, 2, 6, 39, 40, 41], [2, 3]]
def w10 : FRow := ⟨10, 63, VC.seq
 (VC.reg [VI.ef (some 1) none (VEf.box 22 (Od.t 0)), VI.ef (some 2) none (VEf.alloc 26 [VV.sl none 0 0, VV.sl none 0 0, VV.sl none 0 0]), VI.rd 3 none (VOp.mv (Od.c (VV.int (IntKind.i64) 0)))] [1, 2])
 (VC.seq
 (VC.seq
 (VC.reg
 [VI.rd 9 none (VOp.load 1 false (Od.t 1)),
 VI.rd 10 none (VOp.lens (Od.t 9)),
 VI.rd 11 none (VOp.bin (BinOp.gtr) (Od.t 10) (Od.c (VV.int (IntKind.i64) 256))),
 VI.rd 12 none (VOp.mv (Od.t 11)),
 VI.rd 13 (some (12, false)) (VOp.load 1 false (Od.t 1)),
 VI.call (some 14) (some (12, false)) (Od.c (VV.fn 28 [])) [Od.t 13, Od.c (VV.fn 29 [])],
 VI.rd 15 none (VOp.pick (Od.t 12) (Od.c (VV.bool true)) (Od.t 14))]
 [1, 2, 15])
 (VC.cond 15 (VC.seq (VC.reg [VI.rd 16 none (VOp.build [VV.sl none 0 0, VV.sl none 0 0, VV.sl none 0 0] []), VI.ef none none (VEf.store 3 (Od.t 2) (Od.t 16)), VI.rd 3 none (VOp.mv (Od.c (VV.int (IntKind.i64) 1)))] [2, 3]) (VC.ret)) (VC.skip)))
 (VC.seq
 (VC.reg [VI.rd 17 none (VOp.load 1 false (Od.t 1)), VI.rd 18 none (VOp.lens (Od.t 17)), VI.ef (some 19) none (VEf.mksl 3 8 [VV.int (IntKind.i64) 0] (Od.t 18) (Od.t 18)), VI.rd 4 none (VOp.mv (Od.t 19))] [1, 2, 4])
 (VC.seq
 (VC.seq
 (VC.reg [VI.rd 20 none (VOp.mv (Od.t 4)), VI.rd 21 none (VOp.lens (Od.t 20)), VI.rd 22 none (VOp.mv (Od.c (VV.int (IntKind.i64) 0)))] [1, 2, 4, 21, 22])
 (VC.block
 0
 (VC.loop
 (VC.seq
 (VC.reg [VI.rd 23 none (VOp.bin (BinOp.lss) (Od.t 22) (Od.t 21))] [1, 2, 4, 21, 22, 23])
 (VC.seq
 (VC.cond 23 (VC.skip) (VC.exit 0))
 (VC.seq
 (VC.block
 1
 (VC.seq
 (VC.reg [VI.rd 24 none (VOp.mv (Od.t 22)), VI.rd 5 none (VOp.mv (Od.t 24))] [1, 2, 4, 5, 21, 22])
 (VC.reg [VI.rd 25 none (VOp.mv (Od.t 4)), VI.rd 26 none (VOp.mv (Od.t 5)), VI.rd 27 none (VOp.mv (Od.t 5)), VI.rd 28 none (VOp.ixa 1 (Od.t 25) (Od.t 26)), VI.ef none none (VEf.store 1 (Od.t 28) (Od.t 27))] [1, 2, 4, 21, 22])))
 (VC.reg [VI.rd 29 none (VOp.bin (BinOp.add) (Od.t 22) (Od.c (VV.int (IntKind.i64) 1))), VI.rd 22 none (VOp.mv (Od.t 29))] [1, 2, 4, 21, 22])))))))
 (VC.seq
 (VC.reg [VI.rd 30 none (VOp.mv (Od.t 4)), VI.rd 31 none (VOp.mkfn 32 [Od.t 1]), VI.call (some 32) none (Od.c (VV.fn 31 [])) [Od.t 30, Od.t 31]] [1, 2, 4])
 (VC.seq
 (VC.reg
 [VI.rd 33 none (VOp.load 1 false (Od.t 1)),
 VI.rd 34 none (VOp.lens (Od.t 33)),
 VI.ef (some 35) none (VEf.mksl 3 8 [VV.int (IntKind.i64) 0] (Od.t 34) (Od.t 34)),
 VI.rd 36 none (VOp.build [VV.sl none 0 0, VV.sl none 0 0, VV.sl none 0 0] [(0, 1, Od.t 35)]),
 VI.rd 37 none (VOp.build [VV.sl none 0 0, VV.sl none 0 0, VV.sl none 0 0] [(0, 3, Od.t 36)]),
 VI.ef (some 38) none (VEf.box 67 (Od.t 37)),
 VI.rd 6 none (VOp.mv (Od.t 38))]
 [1, 2, 4, 6])
 (VC.seq
 (VC.seq
 (VC.reg [VI.rd 39 none (VOp.mv (Od.t 4)), VI.rd 40 none (VOp.lens (Od.t 39)), VI.rd 41 none (VOp.mv (Od.c (VV.int (IntKind.i64) 0)))] [1, 2, 6, 39, 40, 41])
 (VC.block
 2
 (VC.loop
 (VC.seq
 (VC.reg [VI.rd 42 none (VOp.bin (BinOp.lss) (Od.t 41) (Od.t 40))] [1, 2, 6, 39, 40, 41, 42])
 (VC.seq
 (VC.cond 42 (VC.skip) (VC.exit 2))
 (VC.seq
 (VC.block
 3
 (VC.seq
 (VC.reg [VI.rd 43 none (VOp.ixa 1 (Od.t 39) (Od.t 41)), VI.rd 44 none (VOp.load 1 false (Od.t 43)), VI.rd 8 none (VOp.mv (Od.t 44))] [1, 2, 6, 8, 39, 40, 41])
 (VC.seq
 (VC.reg
 [VI.rd 45 none (VOp.load 1 false (Od.t 1)),
 VI.rd 46 none (VOp.mv (Od.t 8)),
 VI.rd 47 none (VOp.ixa 1 (Od.t 45) (Od.t 46)),
 VI.rd 48 none (VOp.load 1 false (Od.t 47)),
 VI.rd 49 none (VOp.lens (Od.t 48)),
 VI.rd 50 none (VOp.bin (BinOp.gtr) (Od.t 49) (Od.c (VV.int (IntKind.i64) 0)))]
 [1, 2, 6, 8, 39, 40, 41, 50])
 (VC.cond
 50
 (VC.reg
 [VI.rd 51 none (VOp.mv (Od.t 6)),
 VI.rd 52 none (VOp.mv (Od.t 8)),
 VI.rd 53 none (VOp.load 1 false (Od.t 1)),
 VI.rd 54 none (VOp.mv (Od.t 8)),
 VI.rd 55 none (VOp.ixa 1 (Od.t 53) (Od.t 54)),
 VI.rd 56 none (VOp.load 1 false (Od.t 55)),
 VI.call (some 57) none (Od.c (VV.fn 33 [])) [Od.t 51, Od.t 52, Od.t 56]]
 [1, 2, 6, 39, 40, 41])
 (VC.skip)))))
 (VC.reg [VI.rd 58 none (VOp.bin (BinOp.add) (Od.t 41) (Od.c (VV.int (IntKind.i64) 1))), VI.rd 41 none (VOp.mv (Od.t 58))] [1, 2, 6, 39, 40, 41])))))))
 (VC.seq
 (VC.reg
 [VI.rd 59 none (VOp.mv (Od.t 6)), VI.rd 60 none (VOp.nilck (Od.t 59)), VI.rd 61 none (VOp.faddr 0 (Od.t 60)), VI.rd 62 none (VOp.load 3 true (Od.t 61)), VI.ef none none (VEf.store 3 (Od.t 2) (Od.t 62)), VI.rd 3 none (VOp.mv (Od.c (VV.int (IntKind.i64) 0)))]
 [2, 3])
 (VC.ret)))))))),
 [RV.c 2 3 true, RV.t 3]⟩
theorem ok10 : w10.Ok Try.prog := FRow.ok_of (fn := Try.f10) (ks := k10) (by kernel_rfl) (by kernel_rfl) (by kernel_rfl) (by kernel_rfl) (by kernel_rfl)
def k12 : List (List Nat) := [[2, 3], [4]]
def w12 : FRow := ⟨12, 24, VC.seq
 (VC.reg [VI.ef (some 2) none (VEf.box 26 (Od.t 0)), VI.ef (some 3) none (VEf.box 26 (Od.t 1)), VI.rd 4 none (VOp.mv (Od.c (VV.bool false)))] [2, 3])
 (VC.seq
 (VC.reg
 [VI.rd 5 none (VOp.faddr 0 (Od.t 2)),
 VI.rd 6 none (VOp.load 1 false (Od.t 5)),
 VI.rd 7 none (VOp.faddr 0 (Od.t 3)),
 VI.rd 8 none (VOp.load 1 false (Od.t 7)),
 VI.call (some 9) none (Od.c (VV.fn 36 [])) [Od.t 6, Od.t 8],
 VI.rd 10 none (VOp.mv (Od.t 9)),
 VI.rd 11 (some (10, true)) (VOp.faddr 1 (Od.t 2)),
 VI.rd 12 (some (10, true)) (VOp.load 1 false (Od.t 11)),
 VI.rd 13 (some (10, true)) (VOp.faddr 1 (Od.t 3)),
 VI.rd 14 (some (10, true)) (VOp.load 1 false (Od.t 13)),
 VI.call (some 15) (some (10, true)) (Od.c (VV.fn 36 [])) [Od.t 12, Od.t 14],
 VI.rd 16 none (VOp.pick (Od.t 10) (Od.t 15) (Od.c (VV.bool false))),
 VI.rd 17 none (VOp.mv (Od.t 16)),
 VI.rd 18 (some (17, true)) (VOp.faddr 2 (Od.t 2)),
 VI.rd 19 (some (17, true)) (VOp.load 1 false (Od.t 18)),
 VI.rd 20 (some (17, true)) (VOp.faddr 2 (Od.t 3)),
 VI.rd 21 (some (17, true)) (VOp.load 1 false (Od.t 20)),
 VI.call (some 22) (some (17, true)) (Od.c (VV.fn 36 [])) [Od.t 19, Od.t 21],
 VI.rd 23 none (VOp.pick (Od.t 17) (Od.t 22) (Od.c (VV.bool false))),
 VI.rd 4 none (VOp.mv (Od.t 23))]
 [4])
 (VC.ret)),
 [RV.t 4]⟩
theorem ok12 : w12.Ok Try.prog := FRow.ok_of (fn := Try.f12) (ks := k12) (by kernel_rfl) (by kernel_rfl) (by kernel_rfl) (by kernel_rfl) (by kernel_rfl)
def k15 : List (List Nat) := [[], [1, 2], [1, 2, 3, 4], [0]]
def w15 : FRow := ⟨15, 41, VC.seq
 (VC.reg [VI.rd 0 none (VOp.mv (Od.c (VV.bool false)))] [])
 (VC.seq
 (VC.reg
 [VI.rd 6 none (VOp.build [VV.int (IntKind.i64) 0, VV.int (IntKind.i64) 0] [(0, 1, Od.c (VV.int (IntKind.i64) 0)), (1, 1, Od.c (VV.int (IntKind.i64) 7))]),
 VI.rd 7 none (VOp.build [VV.int (IntKind.i64) 0, VV.int (IntKind.i64) 0] [(0, 1, Od.c (VV.int (IntKind.i64) 2)), (1, 1, Od.c (VV.int (IntKind.i64) 8))]),
 VI.ef (some 8) none (VEf.mkrow 42 [VV.int (IntKind.i64) 0, VV.int (IntKind.i64) 0] 2 [(0, Od.t 6), (1, Od.t 7)]),
 VI.rd 9 none (VOp.build [VV.int (IntKind.i64) 0, VV.int (IntKind.i64) 0] [(0, 1, Od.c (VV.int (IntKind.i64) 0)), (1, 1, Od.c (VV.int (IntKind.i64) 5))]),
 VI.rd 10 none (VOp.build [VV.int (IntKind.i64) 0, VV.int (IntKind.i64) 0] [(0, 1, Od.c (VV.int (IntKind.i64) 1)), (1, 1, Od.c (VV.int (IntKind.i64) 6))]),
 VI.rd 11 none (VOp.build [VV.int (IntKind.i64) 0, VV.int (IntKind.i64) 0] [(0, 1, Od.c (VV.int (IntKind.i64) 2)), (1, 1, Od.c (VV.int (IntKind.i64) 4))]),
 VI.ef (some 12) none (VEf.mkrow 42 [VV.int (IntKind.i64) 0, VV.int (IntKind.i64) 0] 3 [(0, Od.t 9), (1, Od.t 10), (2, Od.t 11)]),
 VI.rd 13 none (VOp.build [VV.int (IntKind.i64) 0, VV.int (IntKind.i64) 0] [(0, 1, Od.c (VV.int (IntKind.i64) 1)), (1, 1, Od.c (VV.int (IntKind.i64) 9))]),
 VI.ef (some 14) none (VEf.mkrow 42 [VV.int (IntKind.i64) 0, VV.int (IntKind.i64) 0] 1 [(0, Od.t 13)]),
 VI.ef (some 15) none (VEf.mkrow 40 [VV.sl none 0 0] 4 [(0, Od.t 8), (1, Od.c (VV.sl none 0 0)), (2, Od.t 12), (3, Od.t 14)]),
 VI.call (some 16) none (Od.c (VV.fn 10 [])) [Od.t 15],
 VI.rd 5 none (VOp.mv (Od.t 16)),
 VI.rd 17 none (VOp.ext 0 (Od.t 5)),
 VI.rd 18 none (VOp.ext 1 (Od.t 5)),
 VI.ef (some 1) none (VEf.alloc 26 [VV.sl none 0 0, VV.sl none 0 0, VV.sl none 0 0]),
 VI.ef none none (VEf.store 3 (Od.t 1) (Od.t 17)),
 VI.rd 2 none (VOp.mv (Od.t 18))]
 [1, 2])
 (VC.seq
 (VC.reg
 [VI.rd 20 none (VOp.load 3 true (Od.t 1)),
 VI.call (some 21) none (Od.c (VV.fn 16 [])) [Od.t 20, Od.c (VV.int (IntKind.i64) 0), Od.c (VV.int (IntKind.i64) 2)],
 VI.rd 19 none (VOp.mv (Od.t 21)),
 VI.rd 22 none (VOp.ext 0 (Od.t 19)),
 VI.rd 23 none (VOp.ext 1 (Od.t 19)),
 VI.rd 3 none (VOp.mv (Od.t 22)),
 VI.rd 4 none (VOp.mv (Od.t 23))]
 [1, 2, 3, 4])
 (VC.seq
 (VC.reg
 [VI.rd 24 none (VOp.mv (Od.t 2)),
 VI.rd 25 none (VOp.bin (BinOp.eql) (Od.t 24) (Od.c (VV.int (IntKind.i64) 0))),
 VI.rd 26 none (VOp.mv (Od.t 25)),
 VI.rd 27 (some (26, true)) (VOp.load 3 true (Od.t 1)),
 VI.ef (some 28) (some (26, true)) (VEf.mkrow 3 [VV.int (IntKind.i64) 0] 4 [(0, Od.c (VV.int (IntKind.i64) 3)), (1, Od.c (VV.int (IntKind.i64) 0)), (2, Od.c (VV.int (IntKind.i64) 0)), (3, Od.c (VV.int (IntKind.i64) 3))]),
 VI.ef
 (some 29)
 (some (26, true))
 (VEf.mkrow 3 [VV.int (IntKind.i64) 0] 6 [(0, Od.c (VV.int (IntKind.i64) 5)), (1, Od.c (VV.int (IntKind.i64) 6)), (2, Od.c (VV.int (IntKind.i64) 4)), (3, Od.c (VV.int (IntKind.i64) 7)), (4, Od.c (VV.int (IntKind.i64) 9)), (5, Od.c (VV.int (IntKind.i64) 8))]),
 VI.ef
 (some 30)
 (some (26, true))
 (VEf.mkrow 3 [VV.int (IntKind.i64) 0] 6 [(0, Od.c (VV.int (IntKind.i64) 2)), (1, Od.c (VV.int (IntKind.i64) 2)), (2, Od.c (VV.int (IntKind.i64) 2)), (3, Od.c (VV.int (IntKind.i64) 0)), (4, Od.c (VV.int (IntKind.i64) 3)), (5, Od.c (VV.int (IntKind.i64) 0))]),
 VI.rd 31 (some (26, true)) (VOp.build [VV.sl none 0 0, VV.sl none 0 0, VV.sl none 0 0] [(0, 1, Od.t 28), (1, 1, Od.t 29), (2, 1, Od.t 30)]),
 VI.call (some 32) (some (26, true)) (Od.c (VV.fn 12 [])) [Od.t 27, Od.t 31],
 VI.rd 33 none (VOp.pick (Od.t 26) (Od.t 32) (Od.c (VV.bool false))),
 VI.rd 34 none (VOp.mv (Od.t 33)),
 VI.rd 35 (some (34, true)) (VOp.mv (Od.t 4)),
 VI.rd 36 none (VOp.pick (Od.t 34) (Od.t 35) (Od.c (VV.bool false))),
 VI.rd 37 none (VOp.mv (Od.t 36)),
 VI.rd 38 (some (37, true)) (VOp.mv (Od.t 3)),
 VI.rd 39 (some (37, true)) (VOp.bin (BinOp.eql) (Od.t 38) (Od.c (VV.int (IntKind.i64) 8))),
 VI.rd 40 none (VOp.pick (Od.t 37) (Od.t 39) (Od.c (VV.bool false))),
 VI.rd 0 none (VOp.mv (Od.t 40))]
 [0])
 (VC.ret)))),
 [RV.t 0]⟩
theorem ok15 : w15.Ok Try.prog := FRow.ok_of (fn := Try.f15) (ks := k15) (by kernel_rfl) (by kernel_rfl) (by kernel_rfl) (by kernel_rfl) (by kernel_rfl)
def k16 : List (List Nat) := [[1, 2, 3], [1, 2, 3, 22], [6, 7], [1, 2, 3, 8, 9], [2, 3, 8, 59], [6, 7], [6, 7]]
def w16 : FRow := ⟨16, 67, VC.seq
 (VC.reg [VI.ef (some 3) none (VEf.box 26 (Od.t 0)), VI.rd 6 none (VOp.mv (Od.c (VV.int (IntKind.i64) 0))), VI.rd 7 none (VOp.mv (Od.c (VV.bool false)))] [1, 2, 3])
 (VC.seq
 (VC.seq
 (VC.reg
 [VI.rd 10 none (VOp.mv (Od.t 1)),
 VI.rd 11 none (VOp.bin (BinOp.lss) (Od.t 10) (Od.c (VV.int (IntKind.i64) 0))),
 VI.rd 12 none (VOp.mv (Od.t 11)),
 VI.rd 13 (some (12, false)) (VOp.mv (Od.t 1)),
 VI.rd 14 (some (12, false)) (VOp.faddr 0 (Od.t 3)),
 VI.rd 15 (some (12, false)) (VOp.load 1 false (Od.t 14)),
 VI.rd 16 (some (12, false)) (VOp.lens (Od.t 15)),
 VI.rd 17 (some (12, false)) (VOp.bin (BinOp.geq) (Od.t 13) (Od.t 16)),
 VI.rd 18 none (VOp.pick (Od.t 12) (Od.c (VV.bool true)) (Od.t 17)),
 VI.rd 19 none (VOp.mv (Od.t 18)),
 VI.rd 20 (some (19, false)) (VOp.mv (Od.t 2)),
 VI.rd 21 (some (19, false)) (VOp.bin (BinOp.lss) (Od.t 20) (Od.c (VV.int (IntKind.i64) 0))),
 VI.rd 22 none (VOp.pick (Od.t 19) (Od.c (VV.bool true)) (Od.t 21))]
 [1, 2, 3, 22])
 (VC.cond 22 (VC.seq (VC.reg [VI.rd 6 none (VOp.mv (Od.c (VV.int (IntKind.i64) 0))), VI.rd 7 none (VOp.mv (Od.c (VV.bool false)))] [6, 7]) (VC.ret)) (VC.skip)))
 (VC.seq
 (VC.dreg
 [VI.rd 23 none (VOp.faddr 0 (Od.t 3)),
 VI.rd 24 none (VOp.load 1 false (Od.t 23)),
 VI.rd 25 none (VOp.mv (Od.t 1)),
 VI.rd 26 none (VOp.ixa 1 (Od.t 24) (Od.t 25)),
 VI.rd 27 none (VOp.load 1 false (Od.t 26)),
 VI.rd 28 none (VOp.faddr 1 (Od.t 3)),
 VI.rd 29 none (VOp.load 1 false (Od.t 28)),
 VI.rd 30 none (VOp.lens (Od.t 29)),
 VI.rd 31 none (VOp.faddr 2 (Od.t 3)),
 VI.rd 32 none (VOp.load 1 false (Od.t 31)),
 VI.rd 33 none (VOp.lens (Od.t 32)),
 VI.rd 34 none (VOp.min2 (Od.t 30) (Od.t 33)),
 VI.rd 8 none (VOp.mv (Od.t 27)),
 VI.rd 9 none (VOp.mv (Od.t 34))]
 [(0, 0), (0, 0), (0, 0), (0, 0), (0, 0), (0, 0), (0, 0), (0, 0), (0, 0), (0, 0), (0, 0), (0, 0), (0, 0), (0, 0)]
 [1, 2, 3, 8, 9])
 (VC.seq
 (VC.seq
 (VC.reg
 [VI.rd 35 none (VOp.mv (Od.t 8)),
 VI.rd 36 none (VOp.bin (BinOp.lss) (Od.t 35) (Od.c (VV.int (IntKind.i64) 0))),
 VI.rd 37 none (VOp.mv (Od.t 36)),
 VI.rd 38 (some (37, false)) (VOp.mv (Od.t 8)),
 VI.rd 39 (some (37, false)) (VOp.mv (Od.t 9)),
 VI.rd 40 (some (37, false)) (VOp.bin (BinOp.gtr) (Od.t 38) (Od.t 39)),
 VI.rd 41 none (VOp.pick (Od.t 37) (Od.c (VV.bool true)) (Od.t 40)),
 VI.rd 42 none (VOp.mv (Od.t 41)),
 VI.rd 43 (some (42, false)) (VOp.mv (Od.t 2)),
 VI.rd 44 (some (42, false)) (VOp.mv (Od.t 9)),
 VI.rd 45 (some (42, false)) (VOp.mv (Od.t 8)),
 VI.rd 46 (some (42, false)) (VOp.bin (BinOp.sub) (Od.t 44) (Od.t 45)),
 VI.rd 47 (some (42, false)) (VOp.bin (BinOp.geq) (Od.t 43) (Od.t 46)),
 VI.rd 48 none (VOp.pick (Od.t 42) (Od.c (VV.bool true)) (Od.t 47)),
 VI.rd 49 none (VOp.mv (Od.t 48)),
 VI.rd 50 (some (49, false)) (VOp.faddr 2 (Od.t 3)),
 VI.rd 51 (some (49, false)) (VOp.load 1 false (Od.t 50)),
 VI.rd 52 (some (49, false)) (VOp.mv (Od.t 8)),
 VI.rd 53 (some (49, false)) (VOp.mv (Od.t 2)),
 VI.rd 54 (some (49, false)) (VOp.bin (BinOp.add) (Od.t 52) (Od.t 53)),
 VI.rd 55 (some (49, false)) (VOp.ixa 1 (Od.t 51) (Od.t 54)),
 VI.rd 56 (some (49, false)) (VOp.load 1 false (Od.t 55)),
 VI.rd 57 (some (49, false)) (VOp.mv (Od.t 1)),
 VI.rd 58 (some (49, false)) (VOp.bin (BinOp.neq) (Od.t 56) (Od.t 57)),
 VI.rd 59 none (VOp.pick (Od.t 49) (Od.c (VV.bool true)) (Od.t 58))]
 [2, 3, 8, 59])
 (VC.cond 59 (VC.seq (VC.reg [VI.rd 6 none (VOp.mv (Od.c (VV.int (IntKind.i64) 0))), VI.rd 7 none (VOp.mv (Od.c (VV.bool false)))] [6, 7]) (VC.ret)) (VC.skip)))
 (VC.seq
 (VC.reg
 [VI.rd 60 none (VOp.faddr 1 (Od.t 3)),
 VI.rd 61 none (VOp.load 1 false (Od.t 60)),
 VI.rd 62 none (VOp.mv (Od.t 8)),
 VI.rd 63 none (VOp.mv (Od.t 2)),
 VI.rd 64 none (VOp.bin (BinOp.add) (Od.t 62) (Od.t 63)),
 VI.rd 65 none (VOp.ixa 1 (Od.t 61) (Od.t 64)),
 VI.rd 66 none (VOp.load 1 false (Od.t 65)),
 VI.rd 6 none (VOp.mv (Od.t 66)),
 VI.rd 7 none (VOp.mv (Od.c (VV.bool true)))]
 [6, 7])
 (VC.ret))))),
 [RV.t 6, RV.t 7]⟩
theorem ok16 : w16.Ok Try.prog := FRow.ok_of (fn := Try.f16) (ks := k16) (by kernel_rfl) (by kernel_rfl) (by kernel_rfl) (by kernel_rfl) (by kernel_rfl)
def k28 : List (List Nat) := [[0, 1], [4]]
def w28 : FRow := ⟨28, 9, VC.seq
 (VC.reg [VI.rd 4 none (VOp.mv (Od.c (VV.bool false)))] [0, 1])
 (VC.seq
 (VC.reg [VI.rd 5 none (VOp.mv (Od.t 0)), VI.rd 6 none (VOp.mv (Od.t 1)), VI.call (some 7) none (Od.c (VV.fn 45 [])) [Od.t 5, Od.t 6], VI.rd 8 none (VOp.bin (BinOp.geq) (Od.t 7) (Od.c (VV.int (IntKind.i64) 0))), VI.rd 4 none (VOp.mv (Od.t 8))] [4])
 (VC.ret)),
 [RV.t 4]⟩
theorem ok28 : w28.Ok Try.prog := FRow.ok_of (fn := Try.f28) (ks := k28) (by kernel_rfl) (by kernel_rfl) (by kernel_rfl) (by kernel_rfl) (by kernel_rfl)
def k29 : List (List Nat) := [[0], [2]]
def w29 : FRow := ⟨29, 6, VC.seq (VC.reg [VI.rd 2 none (VOp.mv (Od.c (VV.bool false)))] [0]) (VC.seq (VC.reg [VI.rd 3 none (VOp.mv (Od.t 0)), VI.call (some 4) none (Od.c (VV.fn 30 [])) [Od.t 3], VI.rd 5 none (VOp.not (Od.t 4)), VI.rd 2 none (VOp.mv (Od.t 5))] [2]) (VC.ret)),
 [RV.t 2]⟩
theorem ok29 : w29.Ok Try.prog := FRow.ok_of (fn := Try.f29) (ks := k29) (by kernel_rfl) (by kernel_rfl) (by kernel_rfl) (by kernel_rfl) (by kernel_rfl)
def k30 : List (List Nat) := [[0], [0, 3], [3, 6, 7, 8], [3, 6, 7, 8, 9], [3, 5, 6, 7, 8], [3, 5, 6, 7, 8, 25], [2], [3, 6, 7, 8], [3, 6, 7, 8], [2]]
def w30 : FRow := ⟨30, 30, VC.seq
 (VC.reg [VI.rd 2 none (VOp.mv (Od.c (VV.bool false)))] [0])
 (VC.seq
 (VC.reg
 [VI.ef
 (some 3)
 none
 (VEf.alloc
 78
 [VV.bool false,
 VV.bool false,
 VV.bool false,
 VV.bool false,
 VV.bool false,
 VV.bool false,
 VV.bool false,
 VV.bool false,
 VV.bool false,
 VV.bool false,
 VV.bool false,
 VV.bool false,
 VV.bool false,
 VV.bool false,
 VV.bool false,
 VV.bool false,
 VV.bool false,
 VV.bool false,
 VV.bool false,
 VV.bool false,
 VV.bool false,
 VV.bool false,
 VV.bool false,
 VV.bool false,
 VV.bool false,
 VV.bool false,
 VV.bool false,
 VV.bool false,
 VV.bool false,
 VV.bool false,
 VV.bool false,
 VV.bool false,
 VV.bool false,
 VV.bool false,
 VV.bool false,
 VV.bool false,
 VV.bool false,
 VV.bool false,
 VV.bool false,
 VV.bool false,
 VV.bool false,
 VV.bool false,
 VV.bool false,
 VV.bool false,
 VV.bool false,
 VV.bool false,
 VV.bool false,
 VV.bool false,
 VV.bool false,
 VV.bool false,
 VV.bool false,
 VV.bool false,
 VV.bool false,
 VV.bool false,
 VV.bool false,
 VV.bool false,
 VV.bool false,
 VV.bool false,
 VV.bool false,
 VV.bool false,
 VV.bool false,
 VV.bool false,
 VV.bool false,
 VV.bool false,
 VV.bool false,
 VV.bool false,
 VV.bool false,
 VV.bool false,
 VV.bool false,
 VV.bool false,
 VV.bool false,
 VV.bool false,
 VV.bool false,
 VV.bool false,
 VV.bool false,
 VV.bool false,
 VV.bool false,
 VV.bool false,
 VV.bool false,
 VV.bool false,
 VV.bool false,
 VV.bool false,
 VV.bool false,
 VV.bool false,
 VV.bool false,
 VV.bool false,
 VV.bool false,
 VV.bool false,
 VV.bool false,
 VV.bool false,
 VV.bool false,
 VV.bool false,
 VV.bool false,
 VV.bool false,
 VV.bool false,
 VV.bool false,
 VV.bool false,
 VV.bool false,
 VV.bool false,
 VV.bool false,
 VV.bool false,
 VV.bool false,
 VV.bool false,
 VV.bool false,
 VV.bool false,
 VV.bool false,
 VV.bool false,
 VV.bool false,
 VV.bool false,
 VV.bool false,
 VV.bool false,
 VV.bool false,
 VV.bool false,
 VV.bool false,
 VV.bool false,
 VV.bool false,
 VV.bool false,
 VV.bool false,
 VV.bool false,
 VV.bool false,
 VV.bool false,
 VV.bool false,
 VV.bool false,
 VV.bool false,
 VV.bool false,
 VV.bool false,
 VV.bool false,
 VV.bool false,
 VV.bool false,
 VV.bool false,
 VV.bool false,
 VV.bool false,
 VV.bool false,
 VV.bool false,
 VV.bool false,
 VV.bool false,
 VV.bool false,
 VV.bool false,
 VV.bool false,
 VV.bool false,
 VV.bool false,
 VV.bool false,
 VV.bool false,
 VV.bool false,
 VV.bool false,
 VV.bool false,
 VV.bool false,
 VV.bool false,
 VV.bool false,
 VV.bool false,
 VV.bool false,
 VV.bool false,
 VV.bool false,
 VV.bool false,
 VV.bool false,
 VV.bool false,
 VV.bool false,
 VV.bool false,
 VV.bool false,
 VV.bool false,
 VV.bool false,
 VV.bool false,
 VV.bool false,
 VV.bool false,
 VV.bool false,
 VV.bool false,
 VV.bool false,
 VV.bool false,
 VV.bool false,
 VV.bool false,
 VV.bool false,
 VV.bool false,
 VV.bool false,
 VV.bool false,
 VV.bool false,
 VV.bool false,
 VV.bool false,
 VV.bool false,
 VV.bool false,
 VV.bool false,
 VV.bool false,
 VV.bool false,
 VV.bool false,
 VV.bool false,
 VV.bool false,
 VV.bool false,
 VV.bool false,
 VV.bool false,
 VV.bool false,
 VV.bool false,
 VV.bool false,
 VV.bool false,
 VV.bool false,
 VV.bool false,
 VV.bool false,
 VV.bool false,
 VV.bool false,
 VV.bool false,
 VV.bool false,
 VV.bool false,
 VV.bool false,
 VV.bool false,
 VV.bool false,
 VV.bool false,
 VV.bool false,
 VV.bool false,
 VV.bool false,
 VV.bool false,
 VV.bool false,
 VV.bool false,
 VV.bool false,
 VV.bool false,
 VV.bool false,
 VV.bool false,
 VV.bool false,
 VV.bool false,
 VV.bool false,
 VV.bool false,
 VV.bool false,
 VV.bool false,
 VV.bool false,
 VV.bool false,
 VV.bool false,
 VV.bool false,
 VV.bool false,
 VV.bool false,
 VV.bool false,
 VV.bool false,
 VV.bool false,
 VV.bool false,
 VV.bool false,
 VV.bool false,
 VV.bool false,
 VV.bool false,
 VV.bool false,
 VV.bool false,
 VV.bool false,
 VV.bool false,
 VV.bool false,
 VV.bool false,
 VV.bool false,
 VV.bool false,
 VV.bool false,
 VV.bool false,
 VV.bool false,
 VV.bool false,
 VV.bool false,
 VV.bool false,
 VV.bool false,
 VV.bool false,
 VV.bool false,
 VV.bool false,
 VV.bool false,
 VV.bool false,
 VV.bool false,
 VV.bool false])]
 [0, 3])
 (VC.seq
 (VC.seq
 (VC.reg [VI.rd 6 none (VOp.mv (Od.t 0)), VI.rd 7 none (VOp.lens (Od.t 6)), VI.rd 8 none (VOp.mv (Od.c (VV.int (IntKind.i64) 0)))] [3, 6, 7, 8])
 (VC.block
 0
 (VC.loop
 (VC.seq
 (VC.reg [VI.rd 9 none (VOp.bin (BinOp.lss) (Od.t 8) (Od.t 7))] [3, 6, 7, 8, 9])
 (VC.seq
 (VC.cond 9 (VC.skip) (VC.exit 0))
 (VC.seq
 (VC.block
 1
 (VC.seq
 (VC.reg [VI.rd 10 none (VOp.ixa 2 (Od.t 6) (Od.t 8)), VI.rd 11 none (VOp.load 2 true (Od.t 10)), VI.ef (some 5) none (VEf.alloc 42 [VV.int (IntKind.i64) 0, VV.int (IntKind.i64) 0]), VI.ef none none (VEf.store 2 (Od.t 5) (Od.t 11))] [3, 5, 6, 7, 8])
 (VC.seq
 (VC.seq
 (VC.reg
 [VI.rd 12 none (VOp.faddr 0 (Od.t 5)),
 VI.rd 13 none (VOp.load 1 false (Od.t 12)),
 VI.rd 14 none (VOp.bin (BinOp.lss) (Od.t 13) (Od.c (VV.int (IntKind.i64) 0))),
 VI.rd 15 none (VOp.mv (Od.t 14)),
 VI.rd 16 (some (15, false)) (VOp.faddr 0 (Od.t 5)),
 VI.rd 17 (some (15, false)) (VOp.load 1 false (Od.t 16)),
 VI.rd 18 (some (15, false)) (VOp.bin (BinOp.geq) (Od.t 17) (Od.c (VV.int (IntKind.i64) 256))),
 VI.rd 19 none (VOp.pick (Od.t 15) (Od.c (VV.bool true)) (Od.t 18)),
 VI.rd 20 none (VOp.mv (Od.t 19)),
 VI.rd 21 (some (20, false)) (VOp.faddr 0 (Od.t 5)),
 VI.rd 22 (some (20, false)) (VOp.load 1 false (Od.t 21)),
 VI.rd 23 (some (20, false)) (VOp.ixar 256 1 (Od.t 3) (Od.t 22)),
 VI.rd 24 (some (20, false)) (VOp.load 1 false (Od.t 23)),
 VI.rd 25 none (VOp.pick (Od.t 20) (Od.c (VV.bool true)) (Od.t 24))]
 [3, 5, 6, 7, 8, 25])
 (VC.cond 25 (VC.seq (VC.reg [VI.rd 2 none (VOp.mv (Od.c (VV.bool false)))] [2]) (VC.ret)) (VC.skip)))
 (VC.reg [VI.rd 26 none (VOp.faddr 0 (Od.t 5)), VI.rd 27 none (VOp.load 1 false (Od.t 26)), VI.rd 28 none (VOp.ixar 256 1 (Od.t 3) (Od.t 27)), VI.ef none none (VEf.store 1 (Od.t 28) (Od.c (VV.bool true)))] [3, 6, 7, 8]))))
 (VC.reg [VI.rd 29 none (VOp.bin (BinOp.add) (Od.t 8) (Od.c (VV.int (IntKind.i64) 1))), VI.rd 8 none (VOp.mv (Od.t 29))] [3, 6, 7, 8])))))))
 (VC.seq (VC.reg [VI.rd 2 none (VOp.mv (Od.c (VV.bool true)))] [2]) (VC.ret)))),
 [RV.t 2]⟩
theorem ok30 : w30.Ok Try.prog := FRow.ok_of (fn := Try.f30) (ks := k30) (by kernel_rfl) (by kernel_rfl) (by kernel_rfl) (by kernel_rfl) (by kernel_rfl)
def k31 : List (List Nat) := [[]]
def w31 : FRow := ⟨31, 9, VC.reg [VI.rd 4 none (VOp.mv (Od.t 0)), VI.rd 5 none (VOp.mv (Od.t 0)), VI.rd 6 none (VOp.lens (Od.t 5)), VI.rd 7 none (VOp.mv (Od.t 1)), VI.call (some 8) none (Od.c (VV.fn 46 [])) [Od.t 4, Od.t 6, Od.t 7]] [],
 []⟩
theorem ok31 : w31.Ok Try.prog := FRow.ok_of (fn := Try.f31) (ks := k31) (by kernel_rfl) (by kernel_rfl) (by kernel_rfl) (by kernel_rfl) (by kernel_rfl)
def k32 : List (List Nat) := [[0, 1, 2], [5]]
def w32 : FRow := ⟨32, 17, VC.seq
 (VC.reg [VI.rd 5 none (VOp.mv (Od.c (VV.int (IntKind.i64) 0)))] [0, 1, 2])
 (VC.seq
 (VC.dreg
 [VI.rd 6 none (VOp.load 1 false (Od.t 2)),
 VI.rd 7 none (VOp.mv (Od.t 1)),
 VI.rd 8 none (VOp.ixa 1 (Od.t 6) (Od.t 7)),
 VI.rd 9 none (VOp.load 1 false (Od.t 8)),
 VI.rd 10 none (VOp.lens (Od.t 9)),
 VI.rd 11 none (VOp.load 1 false (Od.t 2)),
 VI.rd 12 none (VOp.mv (Od.t 0)),
 VI.rd 13 none (VOp.ixa 1 (Od.t 11) (Od.t 12)),
 VI.rd 14 none (VOp.load 1 false (Od.t 13)),
 VI.rd 15 none (VOp.lens (Od.t 14)),
 VI.rd 16 none (VOp.bin (BinOp.sub) (Od.t 10) (Od.t 15)),
 VI.rd 5 none (VOp.mv (Od.t 16))]
 [(0, 0), (0, 0), (0, 0), (0, 0), (0, 0), (0, 0), (0, 0), (0, 0), (0, 0), (0, 0), (0, 0), (0, 0)]
 [5])
 (VC.ret)),
 [RV.t 5]⟩
theorem ok32 : w32.Ok Try.prog := FRow.ok_of (fn := Try.f32) (ks := k32) (by kernel_rfl) (by kernel_rfl) (by kernel_rfl) (by kernel_rfl) (by kernel_rfl)
def k33 : List (List Nat) := [[0, 1, 2, 6], [0, 1, 2, 6, 13], [0, 1, 2, 6], [0, 1, 2, 6], [0, 1, 6, 24, 25, 26], [0, 1, 6, 24, 25, 26, 27], [0, 1, 6, 8, 24, 25, 26], [0, 1, 6, 8, 24, 25, 26, 40], [0, 1, 6, 8, 24, 25, 26], [0, 1, 6, 8, 24, 25, 26], [0, 1, 6, 24, 25, 26], [0, 1, 6, 24, 25, 26]]
def w33 : FRow := ⟨33, 87, VC.seq
 (VC.reg [VI.rd 6 none (VOp.mv (Od.c (VV.int (IntKind.i64) 0)))] [0, 1, 2, 6])
 (VC.seq
 (VC.block
 0
 (VC.loop
 (VC.seq
 (VC.seq
 (VC.reg [VI.rd 9 none (VOp.mv (Od.t 0)), VI.rd 10 none (VOp.mv (Od.t 6)), VI.rd 11 none (VOp.mv (Od.t 2)), VI.call (some 12) none (Od.c (VV.fn 47 [])) [Od.t 9, Od.t 10, Od.t 11], VI.rd 13 none (VOp.not (Od.t 12))] [0, 1, 2, 6, 13])
 (VC.cond 13 (VC.skip) (VC.exit 0)))
 (VC.block 1 (VC.reg [VI.rd 14 none (VOp.mv (Od.t 6)), VI.rd 15 none (VOp.bin (BinOp.add) (Od.t 14) (Od.c (VV.int (IntKind.i64) 1))), VI.rd 6 none (VOp.mv (Od.t 15))] [0, 1, 2, 6])))))
 (VC.seq
 (VC.reg
 [VI.rd 16 none (VOp.mv (Od.t 0)),
 VI.rd 17 none (VOp.nilck (Od.t 16)),
 VI.rd 18 none (VOp.faddr 0 (Od.t 17)),
 VI.rd 19 none (VOp.faddr 0 (Od.t 18)),
 VI.rd 20 none (VOp.load 1 false (Od.t 19)),
 VI.rd 21 none (VOp.mv (Od.t 1)),
 VI.rd 22 none (VOp.mv (Od.t 6)),
 VI.rd 23 none (VOp.ixa 1 (Od.t 20) (Od.t 21)),
 VI.ef none none (VEf.store 1 (Od.t 23) (Od.t 22))]
 [0, 1, 2, 6])
 (VC.seq
 (VC.reg [VI.rd 24 none (VOp.mv (Od.t 2)), VI.rd 25 none (VOp.lens (Od.t 24)), VI.rd 26 none (VOp.mv (Od.c (VV.int (IntKind.i64) 0)))] [0, 1, 6, 24, 25, 26])
 (VC.block
 2
 (VC.loop
 (VC.seq
 (VC.reg [VI.rd 27 none (VOp.bin (BinOp.lss) (Od.t 26) (Od.t 25))] [0, 1, 6, 24, 25, 26, 27])
 (VC.seq
 (VC.cond 27 (VC.skip) (VC.exit 2))
 (VC.seq
 (VC.block
 3
 (VC.seq
 (VC.reg [VI.rd 28 none (VOp.ixa 2 (Od.t 24) (Od.t 26)), VI.rd 29 none (VOp.load 2 true (Od.t 28)), VI.ef (some 8) none (VEf.alloc 42 [VV.int (IntKind.i64) 0, VV.int (IntKind.i64) 0]), VI.ef none none (VEf.store 2 (Od.t 8) (Od.t 29))] [0, 1, 6, 8, 24, 25, 26])
 (VC.seq
 (VC.block
 4
 (VC.loop
 (VC.seq
 (VC.seq
 (VC.dreg
 [VI.rd 30 none (VOp.mv (Od.t 0)),
 VI.rd 31 none (VOp.nilck (Od.t 30)),
 VI.rd 32 none (VOp.faddr 0 (Od.t 31)),
 VI.rd 33 none (VOp.faddr 2 (Od.t 32)),
 VI.rd 34 none (VOp.load 1 false (Od.t 33)),
 VI.rd 35 none (VOp.lens (Od.t 34)),
 VI.rd 36 none (VOp.mv (Od.t 6)),
 VI.rd 37 none (VOp.faddr 0 (Od.t 8)),
 VI.rd 38 none (VOp.load 1 false (Od.t 37)),
 VI.rd 39 none (VOp.bin (BinOp.add) (Od.t 36) (Od.t 38)),
 VI.rd 40 none (VOp.bin (BinOp.leq) (Od.t 35) (Od.t 39))]
 [(0, 0), (0, 0), (0, 0), (0, 0), (0, 0), (0, 0), (0, 0), (0, 0), (0, 0), (0, 0), (0, 0)]
 [0, 1, 6, 8, 24, 25, 26, 40])
 (VC.cond 40 (VC.skip) (VC.exit 4)))
 (VC.block
 5
 (VC.seq
 (VC.reg
 [VI.rd 41 none (VOp.mv (Od.t 0)),
 VI.rd 42 none (VOp.mv (Od.t 0)),
 VI.rd 43 none (VOp.nilck (Od.t 42)),
 VI.rd 44 none (VOp.faddr 0 (Od.t 43)),
 VI.rd 45 none (VOp.faddr 2 (Od.t 44)),
 VI.rd 46 none (VOp.load 1 false (Od.t 45)),
 VI.ef (some 47) none (VEf.mkrow 3 [VV.int (IntKind.i64) 0] 1 [(0, Od.c (VV.int (IntKind.i64) (-1)))]),
 VI.ef (some 48) none (VEf.app 3 1 8 (Od.t 46) (Od.t 47)),
 VI.rd 49 none (VOp.nilck (Od.t 41)),
 VI.rd 50 none (VOp.faddr 0 (Od.t 49)),
 VI.rd 51 none (VOp.faddr 2 (Od.t 50)),
 VI.ef none none (VEf.store 1 (Od.t 51) (Od.t 48))]
 [0, 1, 6, 8, 24, 25, 26])
 (VC.reg
 [VI.rd 52 none (VOp.mv (Od.t 0)),
 VI.rd 53 none (VOp.mv (Od.t 0)),
 VI.rd 54 none (VOp.nilck (Od.t 53)),
 VI.rd 55 none (VOp.faddr 0 (Od.t 54)),
 VI.rd 56 none (VOp.faddr 1 (Od.t 55)),
 VI.rd 57 none (VOp.load 1 false (Od.t 56)),
 VI.ef (some 58) none (VEf.mkrow 3 [VV.int (IntKind.i64) 0] 1 [(0, Od.c (VV.int (IntKind.i64) 0))]),
 VI.ef (some 59) none (VEf.app 3 1 8 (Od.t 57) (Od.t 58)),
 VI.rd 60 none (VOp.nilck (Od.t 52)),
 VI.rd 61 none (VOp.faddr 0 (Od.t 60)),
 VI.rd 62 none (VOp.faddr 1 (Od.t 61)),
 VI.ef none none (VEf.store 1 (Od.t 62) (Od.t 59))]
 [0, 1, 6, 8, 24, 25, 26]))))))
 (VC.dreg
 [VI.rd 63 none (VOp.mv (Od.t 0)),
 VI.rd 64 none (VOp.nilck (Od.t 63)),
 VI.rd 65 none (VOp.faddr 0 (Od.t 64)),
 VI.rd 66 none (VOp.faddr 2 (Od.t 65)),
 VI.rd 67 none (VOp.load 1 false (Od.t 66)),
 VI.rd 68 none (VOp.mv (Od.t 6)),
 VI.rd 69 none (VOp.faddr 0 (Od.t 8)),
 VI.rd 70 none (VOp.load 1 false (Od.t 69)),
 VI.rd 71 none (VOp.bin (BinOp.add) (Od.t 68) (Od.t 70)),
 VI.rd 72 none (VOp.mv (Od.t 0)),
 VI.rd 73 none (VOp.nilck (Od.t 72)),
 VI.rd 74 none (VOp.faddr 0 (Od.t 73)),
 VI.rd 75 none (VOp.faddr 1 (Od.t 74)),
 VI.rd 76 none (VOp.load 1 false (Od.t 75)),
 VI.rd 77 none (VOp.mv (Od.t 6)),
 VI.rd 78 none (VOp.faddr 0 (Od.t 8)),
 VI.rd 79 none (VOp.load 1 false (Od.t 78)),
 VI.rd 80 none (VOp.bin (BinOp.add) (Od.t 77) (Od.t 79)),
 VI.rd 81 none (VOp.mv (Od.t 1)),
 VI.rd 82 none (VOp.faddr 1 (Od.t 8)),
 VI.rd 83 none (VOp.load 1 false (Od.t 82)),
 VI.rd 84 none (VOp.ixa 1 (Od.t 67) (Od.t 71)),
 VI.ef none none (VEf.store 1 (Od.t 84) (Od.t 81)),
 VI.rd 85 none (VOp.ixa 1 (Od.t 76) (Od.t 80)),
 VI.ef none none (VEf.store 1 (Od.t 85) (Od.t 83))]
 [(0, 0), (0, 0), (0, 0), (0, 0), (0, 0), (0, 0), (0, 0), (0, 0), (0, 0), (0, 0), (0, 0), (0, 0), (0, 0), (0, 0), (0, 1), (0, 1), (0, 1), (0, 1), (0, 0), (0, 1), (0, 1), (0, 0), (0, 0), (1, 1), (1, 1)]
 [0, 1, 6, 24, 25, 26]))))
 (VC.reg [VI.rd 86 none (VOp.bin (BinOp.add) (Od.t 26) (Od.c (VV.int (IntKind.i64) 1))), VI.rd 26 none (VOp.mv (Od.t 86))] [0, 1, 6, 24, 25, 26]))))))))),
 []⟩
theorem ok33 : w33.Ok Try.prog := FRow.ok_of (fn := Try.f33) (ks := k33) (by kernel_rfl) (by kernel_rfl) (by kernel_rfl) (by kernel_rfl) (by kernel_rfl)
def k36 : List (List Nat) := [[0, 1], [0, 1, 10], [4], [0, 1, 5], [0, 1, 5, 14], [0, 1, 5], [0, 1, 5, 25], [4], [4]]
def w36 : FRow := ⟨36, 26, VC.seq
 (VC.reg [VI.rd 4 none (VOp.mv (Od.c (VV.bool false)))] [0, 1])
 (VC.seq
 (VC.seq
 (VC.reg [VI.rd 6 none (VOp.mv (Od.t 0)), VI.rd 7 none (VOp.lens (Od.t 6)), VI.rd 8 none (VOp.mv (Od.t 1)), VI.rd 9 none (VOp.lens (Od.t 8)), VI.rd 10 none (VOp.bin (BinOp.neq) (Od.t 7) (Od.t 9))] [0, 1, 10])
 (VC.cond 10 (VC.seq (VC.reg [VI.rd 4 none (VOp.mv (Od.c (VV.bool false)))] [4]) (VC.ret)) (VC.skip)))
 (VC.seq
 (VC.seq
 (VC.reg [VI.rd 5 none (VOp.mv (Od.c (VV.int (IntKind.i64) 0)))] [0, 1, 5])
 (VC.block
 0
 (VC.loop
 (VC.seq
 (VC.seq (VC.reg [VI.rd 11 none (VOp.mv (Od.t 5)), VI.rd 12 none (VOp.mv (Od.t 0)), VI.rd 13 none (VOp.lens (Od.t 12)), VI.rd 14 none (VOp.bin (BinOp.lss) (Od.t 11) (Od.t 13))] [0, 1, 5, 14]) (VC.cond 14 (VC.skip) (VC.exit 0)))
 (VC.seq
 (VC.block
 1
 (VC.seq
 (VC.dreg
 [VI.rd 17 none (VOp.mv (Od.t 0)),
 VI.rd 18 none (VOp.mv (Od.t 5)),
 VI.rd 19 none (VOp.ixa 1 (Od.t 17) (Od.t 18)),
 VI.rd 20 none (VOp.load 1 false (Od.t 19)),
 VI.rd 21 none (VOp.mv (Od.t 1)),
 VI.rd 22 none (VOp.mv (Od.t 5)),
 VI.rd 23 none (VOp.ixa 1 (Od.t 21) (Od.t 22)),
 VI.rd 24 none (VOp.load 1 false (Od.t 23)),
 VI.rd 25 none (VOp.bin (BinOp.neq) (Od.t 20) (Od.t 24))]
 [(0, 0), (0, 0), (0, 0), (0, 0), (0, 0), (0, 0), (0, 0), (0, 0), (0, 0)]
 [0, 1, 5, 25])
 (VC.cond 25 (VC.seq (VC.reg [VI.rd 4 none (VOp.mv (Od.c (VV.bool false)))] [4]) (VC.ret)) (VC.skip))))
 (VC.reg [VI.rd 15 none (VOp.mv (Od.t 5)), VI.rd 16 none (VOp.bin (BinOp.add) (Od.t 15) (Od.c (VV.int (IntKind.i64) 1))), VI.rd 5 none (VOp.mv (Od.t 16))] [0, 1, 5]))))))
 (VC.seq (VC.reg [VI.rd 4 none (VOp.mv (Od.c (VV.bool true)))] [4]) (VC.ret)))),
 [RV.t 4]⟩
theorem ok36 : w36.Ok Try.prog := FRow.ok_of (fn := Try.f36) (ks := k36) (by kernel_rfl) (by kernel_rfl) (by kernel_rfl) (by kernel_rfl) (by kernel_rfl)
def k45 : List (List Nat) := [[0, 1], [0, 1, 7, 8], [0, 1, 7, 8, 9], [0, 1, 5, 7, 8], [0, 1, 5, 7, 8, 16], [4], [0, 1, 7, 8], [4]]
def w45 : FRow := ⟨45, 19, VC.seq
 (VC.reg [VI.rd 4 none (VOp.mv (Od.c (VV.int (IntKind.i64) 0)))] [0, 1])
 (VC.seq
 (VC.seq
 (VC.reg [VI.rd 6 none (VOp.mv (Od.t 0)), VI.rd 7 none (VOp.lens (Od.t 6)), VI.rd 8 none (VOp.mv (Od.c (VV.int (IntKind.i64) 0)))] [0, 1, 7, 8])
 (VC.block
 0
 (VC.loop
 (VC.seq
 (VC.reg [VI.rd 9 none (VOp.bin (BinOp.lss) (Od.t 8) (Od.t 7))] [0, 1, 7, 8, 9])
 (VC.seq
 (VC.cond 9 (VC.skip) (VC.exit 0))
 (VC.seq
 (VC.block
 1
 (VC.seq
 (VC.reg [VI.rd 10 none (VOp.mv (Od.t 8)), VI.rd 5 none (VOp.mv (Od.t 10))] [0, 1, 5, 7, 8])
 (VC.seq
 (VC.reg
 [VI.rd 11 none (VOp.mv (Od.t 1)), VI.rd 12 none (VOp.mv (Od.t 0)), VI.rd 13 none (VOp.mv (Od.t 5)), VI.rd 14 none (VOp.ixa 1 (Od.t 12) (Od.t 13)), VI.rd 15 none (VOp.load 1 false (Od.t 14)), VI.call (some 16) none (Od.t 11) [Od.t 15]]
 [0, 1, 5, 7, 8, 16])
 (VC.cond 16 (VC.seq (VC.reg [VI.rd 17 none (VOp.mv (Od.t 5)), VI.rd 4 none (VOp.mv (Od.t 17))] [4]) (VC.ret)) (VC.skip)))))
 (VC.reg [VI.rd 18 none (VOp.bin (BinOp.add) (Od.t 8) (Od.c (VV.int (IntKind.i64) 1))), VI.rd 8 none (VOp.mv (Od.t 18))] [0, 1, 7, 8])))))))
 (VC.seq (VC.reg [VI.rd 4 none (VOp.mv (Od.c (VV.int (IntKind.i64) (-1))))] [4]) (VC.ret))),
 [RV.t 4]⟩
theorem ok45 : w45.Ok Try.prog := FRow.ok_of (fn := Try.f45) (ks := k45) (by kernel_rfl) (by kernel_rfl) (by kernel_rfl) (by kernel_rfl) (by kernel_rfl)
def k46 : List (List Nat) := [[0, 1, 2, 6], [0, 1, 2, 6, 7, 8], [0, 1, 2, 6, 7, 8, 13], [0, 1, 2, 6, 8], [0, 1, 2, 6, 7, 8], [0, 1, 2, 6, 7, 8], [0, 1, 2, 6], [0, 1, 2, 6, 30], [0, 1, 2, 6, 7, 8], [0, 1, 2, 6, 7, 8, 35], [0, 1, 2, 6, 8], [0, 1, 2, 6, 7, 8], [0, 1, 2, 6, 7, 8], [0, 1, 2, 6, 7, 9], [0, 1, 2, 6, 7, 9, 54], [0, 1, 2, 6], [0, 1, 2, 6]]
def w46 : FRow := ⟨46, 63, VC.seq
 (VC.reg [VI.rd 6 none (VOp.mv (Od.c (VV.int (IntKind.i64) 20)))] [0, 1, 2, 6])
 (VC.seq
 (VC.reg [VI.rd 10 none (VOp.mv (Od.t 6)), VI.rd 7 none (VOp.mv (Od.c (VV.int (IntKind.i64) 0))), VI.rd 8 none (VOp.mv (Od.t 10))] [0, 1, 2, 6, 7, 8])
 (VC.seq
 (VC.block
 0
 (VC.loop
 (VC.seq
 (VC.seq (VC.reg [VI.rd 11 none (VOp.mv (Od.t 8)), VI.rd 12 none (VOp.mv (Od.t 1)), VI.rd 13 none (VOp.bin (BinOp.leq) (Od.t 11) (Od.t 12))] [0, 1, 2, 6, 7, 8, 13]) (VC.cond 13 (VC.skip) (VC.exit 0)))
 (VC.block
 1
 (VC.seq
 (VC.reg [VI.rd 14 none (VOp.mv (Od.t 0)), VI.rd 15 none (VOp.mv (Od.t 7)), VI.rd 16 none (VOp.mv (Od.t 8)), VI.rd 17 none (VOp.mv (Od.t 2)), VI.call (some 18) none (Od.c (VV.fn 53 [])) [Od.t 14, Od.t 15, Od.t 16, Od.t 17]] [0, 1, 2, 6, 8])
 (VC.seq
 (VC.reg [VI.rd 19 none (VOp.mv (Od.t 8)), VI.rd 7 none (VOp.mv (Od.t 19))] [0, 1, 2, 6, 7, 8])
 (VC.reg [VI.rd 20 none (VOp.mv (Od.t 8)), VI.rd 21 none (VOp.mv (Od.t 6)), VI.rd 22 none (VOp.bin (BinOp.add) (Od.t 20) (Od.t 21)), VI.rd 8 none (VOp.mv (Od.t 22))] [0, 1, 2, 6, 7, 8])))))))
 (VC.seq
 (VC.reg [VI.rd 23 none (VOp.mv (Od.t 0)), VI.rd 24 none (VOp.mv (Od.t 7)), VI.rd 25 none (VOp.mv (Od.t 1)), VI.rd 26 none (VOp.mv (Od.t 2)), VI.call (some 27) none (Od.c (VV.fn 53 [])) [Od.t 23, Od.t 24, Od.t 25, Od.t 26]] [0, 1, 2, 6])
 (VC.block
 2
 (VC.loop
 (VC.seq
 (VC.seq (VC.reg [VI.rd 28 none (VOp.mv (Od.t 6)), VI.rd 29 none (VOp.mv (Od.t 1)), VI.rd 30 none (VOp.bin (BinOp.lss) (Od.t 28) (Od.t 29))] [0, 1, 2, 6, 30]) (VC.cond 30 (VC.skip) (VC.exit 2)))
 (VC.block
 3
 (VC.seq
 (VC.reg [VI.rd 31 none (VOp.mv (Od.t 6)), VI.rd 32 none (VOp.bin (BinOp.mul) (Od.c (VV.int (IntKind.i64) 2)) (Od.t 31)), VI.rd 7 none (VOp.mv (Od.c (VV.int (IntKind.i64) 0))), VI.rd 8 none (VOp.mv (Od.t 32))] [0, 1, 2, 6, 7, 8])
 (VC.seq
 (VC.block
 4
 (VC.loop
 (VC.seq
 (VC.seq (VC.reg [VI.rd 33 none (VOp.mv (Od.t 8)), VI.rd 34 none (VOp.mv (Od.t 1)), VI.rd 35 none (VOp.bin (BinOp.leq) (Od.t 33) (Od.t 34))] [0, 1, 2, 6, 7, 8, 35]) (VC.cond 35 (VC.skip) (VC.exit 4)))
 (VC.block
 5
 (VC.seq
 (VC.reg
 [VI.rd 36 none (VOp.mv (Od.t 0)),
 VI.rd 37 none (VOp.mv (Od.t 7)),
 VI.rd 38 none (VOp.mv (Od.t 7)),
 VI.rd 39 none (VOp.mv (Od.t 6)),
 VI.rd 40 none (VOp.bin (BinOp.add) (Od.t 38) (Od.t 39)),
 VI.rd 41 none (VOp.mv (Od.t 8)),
 VI.rd 42 none (VOp.mv (Od.t 2)),
 VI.call (some 43) none (Od.c (VV.fn 54 [])) [Od.t 36, Od.t 37, Od.t 40, Od.t 41, Od.t 42]]
 [0, 1, 2, 6, 8])
 (VC.seq
 (VC.reg [VI.rd 44 none (VOp.mv (Od.t 8)), VI.rd 7 none (VOp.mv (Od.t 44))] [0, 1, 2, 6, 7, 8])
 (VC.reg
 [VI.rd 45 none (VOp.mv (Od.t 8)), VI.rd 46 none (VOp.mv (Od.t 6)), VI.rd 47 none (VOp.bin (BinOp.mul) (Od.c (VV.int (IntKind.i64) 2)) (Od.t 46)), VI.rd 48 none (VOp.bin (BinOp.add) (Od.t 45) (Od.t 47)), VI.rd 8 none (VOp.mv (Od.t 48))]
 [0, 1, 2, 6, 7, 8])))))))
 (VC.seq
 (VC.seq
 (VC.reg [VI.rd 49 none (VOp.mv (Od.t 7)), VI.rd 50 none (VOp.mv (Od.t 6)), VI.rd 51 none (VOp.bin (BinOp.add) (Od.t 49) (Od.t 50)), VI.rd 9 none (VOp.mv (Od.t 51))] [0, 1, 2, 6, 7, 9])
 (VC.seq
 (VC.reg [VI.rd 52 none (VOp.mv (Od.t 9)), VI.rd 53 none (VOp.mv (Od.t 1)), VI.rd 54 none (VOp.bin (BinOp.lss) (Od.t 52) (Od.t 53))] [0, 1, 2, 6, 7, 9, 54])
 (VC.cond
 54
 (VC.reg
 [VI.rd 55 none (VOp.mv (Od.t 0)),
 VI.rd 56 none (VOp.mv (Od.t 7)),
 VI.rd 57 none (VOp.mv (Od.t 9)),
 VI.rd 58 none (VOp.mv (Od.t 1)),
 VI.rd 59 none (VOp.mv (Od.t 2)),
 VI.call (some 60) none (Od.c (VV.fn 54 [])) [Od.t 55, Od.t 56, Od.t 57, Od.t 58, Od.t 59]]
 [0, 1, 2, 6])
 (VC.skip))))
 (VC.reg [VI.rd 61 none (VOp.mv (Od.t 6)), VI.rd 62 none (VOp.bin (BinOp.mul) (Od.t 61) (Od.c (VV.int (IntKind.i64) 2))), VI.rd 6 none (VOp.mv (Od.t 62))] [0, 1, 2, 6]))))))))))),
 []⟩
theorem ok46 : w46.Ok Try.prog := FRow.ok_of (fn := Try.f46) (ks := k46) (by kernel_rfl) (by kernel_rfl) (by kernel_rfl) (by kernel_rfl) (by kernel_rfl)
def k47 : List (List Nat) := [[2, 3, 4], [6]]
def w47 : FRow := ⟨47, 11, VC.seq
 (VC.reg [VI.ef (some 3) none (VEf.box 65 (Od.t 0)), VI.ef (some 4) none (VEf.box 3 (Od.t 1)), VI.rd 6 none (VOp.mv (Od.c (VV.bool false)))] [2, 3, 4])
 (VC.seq (VC.reg [VI.rd 7 none (VOp.mv (Od.t 2)), VI.rd 8 none (VOp.mkfn 56 [Od.t 4, Od.t 3]), VI.call (some 9) none (Od.c (VV.fn 55 [])) [Od.t 7, Od.t 8], VI.rd 10 none (VOp.not (Od.t 9)), VI.rd 6 none (VOp.mv (Od.t 10))] [6]) (VC.ret)),
 [RV.t 6]⟩
theorem ok47 : w47.Ok Try.prog := FRow.ok_of (fn := Try.f47) (ks := k47) (by kernel_rfl) (by kernel_rfl) (by kernel_rfl) (by kernel_rfl) (by kernel_rfl)
def k53 : List (List Nat) := [[0, 1, 2, 3, 8], [0, 1, 2, 3, 8, 14], [0, 1, 2, 3, 8], [0, 1, 2, 3, 8, 9], [0, 1, 2, 3, 8, 9, 34], [0, 1, 2, 3, 8, 9], [0, 1, 2, 3, 8, 9]]
def w53 : FRow := ⟨53, 53, VC.seq
 (VC.reg [VI.rd 10 none (VOp.mv (Od.t 1)), VI.rd 11 none (VOp.bin (BinOp.add) (Od.t 10) (Od.c (VV.int (IntKind.i64) 1))), VI.rd 8 none (VOp.mv (Od.t 11))] [0, 1, 2, 3, 8])
 (VC.block
 0
 (VC.loop
 (VC.seq
 (VC.seq (VC.reg [VI.rd 12 none (VOp.mv (Od.t 8)), VI.rd 13 none (VOp.mv (Od.t 2)), VI.rd 14 none (VOp.bin (BinOp.lss) (Od.t 12) (Od.t 13))] [0, 1, 2, 3, 8, 14]) (VC.cond 14 (VC.skip) (VC.exit 0)))
 (VC.seq
 (VC.block
 1
 (VC.seq
 (VC.reg [VI.rd 17 none (VOp.mv (Od.t 8)), VI.rd 9 none (VOp.mv (Od.t 17))] [0, 1, 2, 3, 8, 9])
 (VC.block
 2
 (VC.loop
 (VC.seq
 (VC.seq
 (VC.dreg
 [VI.rd 18 none (VOp.mv (Od.t 9)),
 VI.rd 19 none (VOp.mv (Od.t 1)),
 VI.rd 20 none (VOp.bin (BinOp.gtr) (Od.t 18) (Od.t 19)),
 VI.rd 21 none (VOp.mv (Od.t 20)),
 VI.rd 22 (some (21, true)) (VOp.mv (Od.t 3)),
 VI.rd 23 (some (21, true)) (VOp.mv (Od.t 0)),
 VI.rd 24 (some (21, true)) (VOp.mv (Od.t 9)),
 VI.rd 25 (some (21, true)) (VOp.ixa 1 (Od.t 23) (Od.t 24)),
 VI.rd 26 (some (21, true)) (VOp.load 1 false (Od.t 25)),
 VI.rd 27 (some (21, true)) (VOp.mv (Od.t 0)),
 VI.rd 28 (some (21, true)) (VOp.mv (Od.t 9)),
 VI.rd 29 (some (21, true)) (VOp.bin (BinOp.sub) (Od.t 28) (Od.c (VV.int (IntKind.i64) 1))),
 VI.rd 30 (some (21, true)) (VOp.ixa 1 (Od.t 27) (Od.t 29)),
 VI.rd 31 (some (21, true)) (VOp.load 1 false (Od.t 30)),
 VI.call (some 32) (some (21, true)) (Od.t 22) [Od.t 26, Od.t 31],
 VI.rd 33 (some (21, true)) (VOp.bin (BinOp.lss) (Od.t 32) (Od.c (VV.int (IntKind.i64) 0))),
 VI.rd 34 none (VOp.pick (Od.t 21) (Od.t 33) (Od.c (VV.bool false)))]
 [(0, 0), (0, 0), (0, 0), (0, 0), (0, 0), (0, 0), (0, 0), (0, 0), (0, 0), (0, 0), (0, 0), (0, 0), (0, 0), (0, 0), (0, 0), (0, 0), (0, 0)]
 [0, 1, 2, 3, 8, 9, 34])
 (VC.cond 34 (VC.skip) (VC.exit 2)))
 (VC.seq
 (VC.block
 3
 (VC.dreg
 [VI.rd 37 none (VOp.mv (Od.t 0)),
 VI.rd 38 none (VOp.mv (Od.t 9)),
 VI.rd 39 none (VOp.mv (Od.t 0)),
 VI.rd 40 none (VOp.mv (Od.t 9)),
 VI.rd 41 none (VOp.bin (BinOp.sub) (Od.t 40) (Od.c (VV.int (IntKind.i64) 1))),
 VI.rd 42 none (VOp.mv (Od.t 0)),
 VI.rd 43 none (VOp.mv (Od.t 9)),
 VI.rd 44 none (VOp.bin (BinOp.sub) (Od.t 43) (Od.c (VV.int (IntKind.i64) 1))),
 VI.rd 45 none (VOp.ixa 1 (Od.t 42) (Od.t 44)),
 VI.rd 46 none (VOp.load 1 false (Od.t 45)),
 VI.rd 47 none (VOp.mv (Od.t 0)),
 VI.rd 48 none (VOp.mv (Od.t 9)),
 VI.rd 49 none (VOp.ixa 1 (Od.t 47) (Od.t 48)),
 VI.rd 50 none (VOp.load 1 false (Od.t 49)),
 VI.rd 51 none (VOp.ixa 1 (Od.t 37) (Od.t 38)),
 VI.ef none none (VEf.store 1 (Od.t 51) (Od.t 46)),
 VI.rd 52 none (VOp.ixa 1 (Od.t 39) (Od.t 41)),
 VI.ef none none (VEf.store 1 (Od.t 52) (Od.t 50))]
 [(0, 0), (0, 0), (0, 1), (0, 1), (0, 1), (0, 0), (0, 0), (0, 0), (0, 0), (0, 0), (0, 0), (0, 0), (0, 0), (0, 0), (0, 0), (0, 0), (1, 1), (1, 1)]
 [0, 1, 2, 3, 8, 9]))
 (VC.reg [VI.rd 35 none (VOp.mv (Od.t 9)), VI.rd 36 none (VOp.bin (BinOp.sub) (Od.t 35) (Od.c (VV.int (IntKind.i64) 1))), VI.rd 9 none (VOp.mv (Od.t 36))] [0, 1, 2, 3, 8, 9])))))))
 (VC.reg [VI.rd 15 none (VOp.mv (Od.t 8)), VI.rd 16 none (VOp.bin (BinOp.add) (Od.t 15) (Od.c (VV.int (IntKind.i64) 1))), VI.rd 8 none (VOp.mv (Od.t 16))] [0, 1, 2, 3, 8]))))),
 []⟩
theorem ok53 : w53.Ok Try.prog := FRow.ok_of (fn := Try.f53) (ks := k53) (by kernel_rfl) (by kernel_rfl) (by kernel_rfl) (by kernel_rfl) (by kernel_rfl)
def k55 : List (List Nat) := [[0, 1], [4]]
def w55 : FRow := ⟨55, 9, VC.seq
 (VC.reg [VI.rd 4 none (VOp.mv (Od.c (VV.bool false)))] [0, 1])
 (VC.seq
 (VC.reg [VI.rd 5 none (VOp.mv (Od.t 0)), VI.rd 6 none (VOp.mv (Od.t 1)), VI.call (some 7) none (Od.c (VV.fn 60 [])) [Od.t 5, Od.t 6], VI.rd 8 none (VOp.bin (BinOp.geq) (Od.t 7) (Od.c (VV.int (IntKind.i64) 0))), VI.rd 4 none (VOp.mv (Od.t 8))] [4])
 (VC.ret)),
 [RV.t 4]⟩
theorem ok55 : w55.Ok Try.prog := FRow.ok_of (fn := Try.f55) (ks := k55) (by kernel_rfl) (by kernel_rfl) (by kernel_rfl) (by kernel_rfl) (by kernel_rfl)
def k56 : List (List Nat) := [[1, 2, 3], [4]]
def w56 : FRow := ⟨56, 30, VC.seq
 (VC.reg [VI.ef (some 3) none (VEf.box 42 (Od.t 0)), VI.rd 4 none (VOp.mv (Od.c (VV.bool false)))] [1, 2, 3])
 (VC.seq
 (VC.dreg
 [VI.rd 5 none (VOp.load 1 false (Od.t 1)),
 VI.rd 6 none (VOp.faddr 0 (Od.t 3)),
 VI.rd 7 none (VOp.load 1 false (Od.t 6)),
 VI.rd 8 none (VOp.bin (BinOp.add) (Od.t 5) (Od.t 7)),
 VI.rd 9 none (VOp.load 1 false (Od.t 2)),
 VI.rd 10 none (VOp.nilck (Od.t 9)),
 VI.rd 11 none (VOp.faddr 0 (Od.t 10)),
 VI.rd 12 none (VOp.faddr 2 (Od.t 11)),
 VI.rd 13 none (VOp.load 1 false (Od.t 12)),
 VI.rd 14 none (VOp.lens (Od.t 13)),
 VI.rd 15 none (VOp.bin (BinOp.lss) (Od.t 8) (Od.t 14)),
 VI.rd 16 none (VOp.mv (Od.t 15)),
 VI.rd 17 (some (16, true)) (VOp.load 1 false (Od.t 2)),
 VI.rd 18 (some (16, true)) (VOp.nilck (Od.t 17)),
 VI.rd 19 (some (16, true)) (VOp.faddr 0 (Od.t 18)),
 VI.rd 20 (some (16, true)) (VOp.faddr 2 (Od.t 19)),
 VI.rd 21 (some (16, true)) (VOp.load 1 false (Od.t 20)),
 VI.rd 22 (some (16, true)) (VOp.load 1 false (Od.t 1)),
 VI.rd 23 (some (16, true)) (VOp.faddr 0 (Od.t 3)),
 VI.rd 24 (some (16, true)) (VOp.load 1 false (Od.t 23)),
 VI.rd 25 (some (16, true)) (VOp.bin (BinOp.add) (Od.t 22) (Od.t 24)),
 VI.rd 26 (some (16, true)) (VOp.ixa 1 (Od.t 21) (Od.t 25)),
 VI.rd 27 (some (16, true)) (VOp.load 1 false (Od.t 26)),
 VI.rd 28 (some (16, true)) (VOp.bin (BinOp.geq) (Od.t 27) (Od.c (VV.int (IntKind.i64) 0))),
 VI.rd 29 none (VOp.pick (Od.t 16) (Od.t 28) (Od.c (VV.bool false))),
 VI.rd 4 none (VOp.mv (Od.t 29))]
 [(0, 0), (0, 0), (0, 0), (0, 0), (0, 0), (0, 0), (0, 0), (0, 0), (0, 0), (0, 0), (0, 0), (0, 0), (0, 0), (0, 0), (0, 0), (0, 0), (0, 0), (0, 0), (0, 0), (0, 0), (0, 0), (0, 0), (0, 0), (0, 0), (0, 0), (0, 0)]
 [4])
 (VC.ret)),
 [RV.t 4]⟩
theorem ok56 : w56.Ok Try.prog := FRow.ok_of (fn := Try.f56) (ks := k56) (by kernel_rfl) (by kernel_rfl) (by kernel_rfl) (by kernel_rfl) (by kernel_rfl)
def k60 : List (List Nat) := [[0, 1], [0, 1, 7, 8], [0, 1, 7, 8, 9], [0, 1, 5, 7, 8], [0, 1, 5, 7, 8, 16], [4], [0, 1, 7, 8], [4]]
def w60 : FRow := ⟨60, 19, VC.seq
 (VC.reg [VI.rd 4 none (VOp.mv (Od.c (VV.int (IntKind.i64) 0)))] [0, 1])
 (VC.seq
 (VC.seq
 (VC.reg [VI.rd 6 none (VOp.mv (Od.t 0)), VI.rd 7 none (VOp.lens (Od.t 6)), VI.rd 8 none (VOp.mv (Od.c (VV.int (IntKind.i64) 0)))] [0, 1, 7, 8])
 (VC.block
 0
 (VC.loop
 (VC.seq
 (VC.reg [VI.rd 9 none (VOp.bin (BinOp.lss) (Od.t 8) (Od.t 7))] [0, 1, 7, 8, 9])
 (VC.seq
 (VC.cond 9 (VC.skip) (VC.exit 0))
 (VC.seq
 (VC.block
 1
 (VC.seq
 (VC.reg [VI.rd 10 none (VOp.mv (Od.t 8)), VI.rd 5 none (VOp.mv (Od.t 10))] [0, 1, 5, 7, 8])
 (VC.seq
 (VC.reg
 [VI.rd 11 none (VOp.mv (Od.t 1)), VI.rd 12 none (VOp.mv (Od.t 0)), VI.rd 13 none (VOp.mv (Od.t 5)), VI.rd 14 none (VOp.ixa 2 (Od.t 12) (Od.t 13)), VI.rd 15 none (VOp.load 2 true (Od.t 14)), VI.call (some 16) none (Od.t 11) [Od.t 15]]
 [0, 1, 5, 7, 8, 16])
 (VC.cond 16 (VC.seq (VC.reg [VI.rd 17 none (VOp.mv (Od.t 5)), VI.rd 4 none (VOp.mv (Od.t 17))] [4]) (VC.ret)) (VC.skip)))))
 (VC.reg [VI.rd 18 none (VOp.bin (BinOp.add) (Od.t 8) (Od.c (VV.int (IntKind.i64) 1))), VI.rd 8 none (VOp.mv (Od.t 18))] [0, 1, 7, 8])))))))
 (VC.seq (VC.reg [VI.rd 4 none (VOp.mv (Od.c (VV.int (IntKind.i64) (-1))))] [4]) (VC.ret))),
 [RV.t 4]⟩
theorem ok60 : w60.Ok Try.prog := FRow.ok_of (fn := Try.f60) (ks := k60) (by kernel_rfl) (by kernel_rfl) (by kernel_rfl) (by kernel_rfl) (by kernel_rfl)
end Go.Proofs.Ytlclbfkdaemilaa
