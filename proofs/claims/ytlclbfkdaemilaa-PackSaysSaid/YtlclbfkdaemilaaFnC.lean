/- Functions, compiled for the canonical machine (printed by a program). -/
import Derived.Test.YtlclbfkdaemilaaVmL
import Derived.Test.YtlclbfkdaemilaaProg
namespace Go.Proofs.Ytlclbfkdaemilaa
set_option linter.unusedSimpArgs false
set_option linter.unusedVariables false
open Go Go.Vm Go.Proofs
set_option maxRecDepth 100000
def k6 : List (List Nat) := [[1, 2, 3], [1, 2, 3, 7], [1, 2, 3, 7, 8], [6]]
def w6 : FRow := ⟨6, 34, VC.seq
 (VC.reg [VI.ef (some 3) none (VEf.box 44 (Od.t 0)), VI.rd 6 none (VOp.mv (Od.c (VV.bool false)))] [1, 2, 3])
 (VC.seq
 (VC.reg
 [VI.rd 9 none (VOp.load 8 true (Od.t 3)),
 VI.rd 10 none (VOp.mv (Od.t 1)),
 VI.rd 11 none (VOp.mv (Od.t 2)),
 VI.call (some 12) none (Od.c (VV.fn 18 [])) [Od.t 9, Od.t 10, Od.t 11],
 VI.ef (some 7) none (VEf.alloc 46 [VV.int (IntKind.i64) 0, VV.int (IntKind.i64) 0]),
 VI.ef none none (VEf.store 2 (Od.t 7) (Od.t 12))]
 [1, 2, 3, 7])
 (VC.seq
 (VC.reg [VI.rd 13 none (VOp.load 8 true (Od.t 3)), VI.rd 14 none (VOp.mv (Od.t 1)), VI.rd 15 none (VOp.mv (Od.t 2)), VI.call (some 16) none (Od.c (VV.fn 19 [])) [Od.t 13, Od.t 14, Od.t 15], VI.rd 8 none (VOp.mv (Od.t 16))] [1, 2, 3, 7, 8])
 (VC.seq
 (VC.dreg
 [VI.rd 17 none (VOp.load 2 true (Od.t 7)),
 VI.rd 18 none (VOp.load 8 true (Od.t 3)),
 VI.rd 19 none (VOp.mv (Od.t 1)),
 VI.rd 20 none (VOp.mv (Od.t 2)),
 VI.call (some 21) none (Od.c (VV.fn 20 [])) [Od.t 18, Od.t 19, Od.t 20],
 VI.rd 22 none (VOp.aeq false [0, 0] (Od.t 17) (Od.t 21)),
 VI.rd 23 none (VOp.mv (Od.t 22)),
 VI.rd 24 (some (23, true)) (VOp.mv (Od.t 8)),
 VI.rd 25 (some (23, true)) (VOp.load 8 true (Od.t 3)),
 VI.rd 26 (some (23, true)) (VOp.mv (Od.t 1)),
 VI.rd 27 (some (23, true)) (VOp.mv (Od.t 2)),
 VI.call (some 28) (some (23, true)) (Od.c (VV.fn 21 [])) [Od.t 25, Od.t 26, Od.t 27],
 VI.rd 29 (some (23, true)) (VOp.bin (BinOp.eql) (Od.t 24) (Od.t 28)),
 VI.rd 30 none (VOp.pick (Od.t 23) (Od.t 29) (Od.c (VV.bool false))),
 VI.rd 31 none (VOp.mv (Od.t 30)),
 VI.call (some 32) (some (31, true)) (Od.c (VV.fn 15 [])) [],
 VI.rd 33 none (VOp.pick (Od.t 31) (Od.t 32) (Od.c (VV.bool false))),
 VI.rd 6 none (VOp.mv (Od.t 33))]
 [(0, 0), (0, 0), (0, 0), (0, 0), (0, 0), (0, 0), (0, 0), (0, 0), (0, 0), (0, 0), (0, 0), (0, 0), (0, 0), (0, 0), (0, 0), (0, 0), (0, 0), (0, 0)]
 [6])
 (VC.ret)))),
 [RV.t 6]⟩
theorem ok6 : w6.Ok Try.prog := FRow.ok_of (fn := Try.f6) (ks := k6) (by kernel_rfl) (by kernel_rfl) (by kernel_rfl) (by kernel_rfl) (by kernel_rfl)
def k18 : List (List Nat) := [[1, 2, 3, 6], [1, 3, 6, 7, 8], [1, 3, 6, 7, 8, 17], [6], [1, 3, 6, 7, 8, 26], [6], [1, 3, 6, 8, 35], [6], [1, 3, 6, 42], [6], [1, 3, 6, 45], [6], [6]]
def w18 : FRow := ⟨18, 70, VC.seq
 (VC.reg [VI.ef (some 3) none (VEf.box 44 (Od.t 0)), VI.ef (some 6) none (VEf.alloc 46 [VV.int (IntKind.i64) 0, VV.int (IntKind.i64) 0])] [1, 2, 3, 6])
 (VC.seq
 (VC.reg
 [VI.rd 10 none (VOp.faddr 1 (Od.t 3)),
 VI.rd 11 none (VOp.load 3 true (Od.t 10)),
 VI.rd 12 none (VOp.mv (Od.t 1)),
 VI.rd 13 none (VOp.mv (Od.t 2)),
 VI.call (some 14) none (Od.c (VV.fn 16 [])) [Od.t 11, Od.t 12, Od.t 13],
 VI.rd 9 none (VOp.mv (Od.t 14)),
 VI.rd 15 none (VOp.ext 0 (Od.t 9)),
 VI.rd 16 none (VOp.ext 1 (Od.t 9)),
 VI.rd 7 none (VOp.mv (Od.t 15)),
 VI.rd 8 none (VOp.mv (Od.t 16))]
 [1, 3, 6, 7, 8])
 (VC.seq
 (VC.block
 0
 (VC.seq
 (VC.reg
 [VI.rd 18 none (VOp.mv (Od.t 8)),
 VI.rd 19 none (VOp.mv (Od.t 18)),
 VI.rd 20 (some (19, true)) (VOp.mv (Od.t 7)),
 VI.rd 21 (some (19, true)) (VOp.bin (BinOp.gtr) (Od.t 20) (Od.c (VV.int (IntKind.i64) 0))),
 VI.rd 22 none (VOp.pick (Od.t 19) (Od.t 21) (Od.c (VV.bool false))),
 VI.rd 17 none (VOp.mv (Od.t 22))]
 [1, 3, 6, 7, 8, 17])
 (VC.cond
 17
 (VC.seq
 (VC.reg
 [VI.rd 23 none (VOp.mv (Od.t 7)),
 VI.rd 24 none (VOp.bin (BinOp.sub) (Od.t 23) (Od.c (VV.int (IntKind.i64) 1))),
 VI.rd 25 none (VOp.build [VV.int (IntKind.i64) 0, VV.int (IntKind.i64) 0] [(0, 1, Od.c (VV.int (IntKind.i64) 1)), (1, 1, Od.t 24)]),
 VI.ef none none (VEf.store 2 (Od.t 6) (Od.t 25))]
 [6])
 (VC.ret))
 (VC.seq
 (VC.reg
 [VI.rd 27 none (VOp.mv (Od.t 8)),
 VI.rd 28 none (VOp.mv (Od.t 27)),
 VI.rd 29 (some (28, true)) (VOp.mv (Od.t 7)),
 VI.rd 30 (some (28, true)) (VOp.bin (BinOp.lss) (Od.t 29) (Od.c (VV.int (IntKind.i64) (-1)))),
 VI.rd 31 none (VOp.pick (Od.t 28) (Od.t 30) (Od.c (VV.bool false))),
 VI.rd 26 none (VOp.mv (Od.t 31))]
 [1, 3, 6, 7, 8, 26])
 (VC.cond
 26
 (VC.seq
 (VC.reg
 [VI.rd 32 none (VOp.mv (Od.t 7)),
 VI.rd 33 none (VOp.bin (BinOp.sub) (Od.c (VV.int (IntKind.i64) (-1))) (Od.t 32)),
 VI.rd 34 none (VOp.build [VV.int (IntKind.i64) 0, VV.int (IntKind.i64) 0] [(0, 1, Od.c (VV.int (IntKind.i64) 2)), (1, 1, Od.t 33)]),
 VI.ef none none (VEf.store 2 (Od.t 6) (Od.t 34))]
 [6])
 (VC.ret))
 (VC.seq
 (VC.reg
 [VI.rd 36 none (VOp.mv (Od.t 8)),
 VI.rd 37 none (VOp.mv (Od.t 36)),
 VI.rd 38 (some (37, true)) (VOp.mv (Od.t 7)),
 VI.rd 39 (some (37, true)) (VOp.bin (BinOp.lss) (Od.t 38) (Od.c (VV.int (IntKind.i64) 0))),
 VI.rd 40 none (VOp.pick (Od.t 37) (Od.t 39) (Od.c (VV.bool false))),
 VI.rd 35 none (VOp.mv (Od.t 40))]
 [1, 3, 6, 8, 35])
 (VC.cond
 35
 (VC.seq (VC.reg [VI.rd 41 none (VOp.build [VV.int (IntKind.i64) 0, VV.int (IntKind.i64) 0] [(0, 1, Od.c (VV.int (IntKind.i64) 3))]), VI.ef none none (VEf.store 2 (Od.t 6) (Od.t 41))] [6]) (VC.ret))
 (VC.seq
 (VC.reg [VI.rd 43 none (VOp.mv (Od.t 8)), VI.rd 42 none (VOp.mv (Od.t 43))] [1, 3, 6, 42])
 (VC.cond
 42
 (VC.seq (VC.reg [VI.rd 44 none (VOp.build [VV.int (IntKind.i64) 0, VV.int (IntKind.i64) 0] [(0, 1, Od.c (VV.int (IntKind.i64) 4))]), VI.ef none none (VEf.store 2 (Od.t 6) (Od.t 44))] [6]) (VC.ret))
 (VC.seq
 (VC.reg
 [VI.rd 46 none (VOp.mv (Od.t 1)),
 VI.rd 47 none (VOp.bin (BinOp.leq) (Od.c (VV.int (IntKind.i64) 0)) (Od.t 46)),
 VI.rd 48 none (VOp.mv (Od.t 47)),
 VI.rd 49 (some (48, true)) (VOp.mv (Od.t 1)),
 VI.rd 50 (some (48, true)) (VOp.faddr 0 (Od.t 3)),
 VI.rd 51 (some (48, true)) (VOp.load 1 false (Od.t 50)),
 VI.rd 52 (some (48, true)) (VOp.lens (Od.t 51)),
 VI.rd 53 (some (48, true)) (VOp.bin (BinOp.lss) (Od.t 49) (Od.t 52)),
 VI.rd 54 none (VOp.pick (Od.t 48) (Od.t 53) (Od.c (VV.bool false))),
 VI.rd 55 none (VOp.mv (Od.t 54)),
 VI.rd 56 (some (55, true)) (VOp.faddr 0 (Od.t 3)),
 VI.rd 57 (some (55, true)) (VOp.load 1 false (Od.t 56)),
 VI.rd 58 (some (55, true)) (VOp.mv (Od.t 1)),
 VI.rd 59 (some (55, true)) (VOp.ixa 1 (Od.t 57) (Od.t 58)),
 VI.rd 60 (some (55, true)) (VOp.load 1 false (Od.t 59)),
 VI.rd 61 (some (55, true)) (VOp.bin (BinOp.gtr) (Od.t 60) (Od.c (VV.int (IntKind.i64) 0))),
 VI.rd 62 none (VOp.pick (Od.t 55) (Od.t 61) (Od.c (VV.bool false))),
 VI.rd 45 none (VOp.mv (Od.t 62))]
 [1, 3, 6, 45])
 (VC.cond
 45
 (VC.seq
 (VC.reg
 [VI.rd 63 none (VOp.faddr 0 (Od.t 3)),
 VI.rd 64 none (VOp.load 1 false (Od.t 63)),
 VI.rd 65 none (VOp.mv (Od.t 1)),
 VI.rd 66 none (VOp.ixa 1 (Od.t 64) (Od.t 65)),
 VI.rd 67 none (VOp.load 1 false (Od.t 66)),
 VI.rd 68 none (VOp.build [VV.int (IntKind.i64) 0, VV.int (IntKind.i64) 0] [(0, 1, Od.c (VV.int (IntKind.i64) 2)), (1, 1, Od.t 67)]),
 VI.ef none none (VEf.store 2 (Od.t 6) (Od.t 68))]
 [6])
 (VC.ret))
 (VC.skip))))))))))))
 (VC.seq (VC.reg [VI.rd 69 none (VOp.build [VV.int (IntKind.i64) 0, VV.int (IntKind.i64) 0] []), VI.ef none none (VEf.store 2 (Od.t 6) (Od.t 69))] [6]) (VC.ret)))),
 [RV.c 6 2 true]⟩
theorem ok18 : w18.Ok Try.prog := FRow.ok_of (fn := Try.f18) (ks := k18) (by kernel_rfl) (by kernel_rfl) (by kernel_rfl) (by kernel_rfl) (by kernel_rfl)
def k19 : List (List Nat) := [[1, 2, 3], [2, 3, 7, 8], [2, 3, 7, 17], [6], [2, 3, 27], [6], [6]]
def w19 : FRow := ⟨19, 33, VC.seq
 (VC.reg [VI.ef (some 3) none (VEf.box 44 (Od.t 0)), VI.rd 6 none (VOp.mv (Od.c (VV.int (IntKind.i64) 0)))] [1, 2, 3])
 (VC.seq
 (VC.seq
 (VC.reg
 [VI.rd 10 none (VOp.faddr 5 (Od.t 3)),
 VI.rd 11 none (VOp.load 3 true (Od.t 10)),
 VI.rd 12 none (VOp.mv (Od.t 2)),
 VI.rd 13 none (VOp.mv (Od.t 1)),
 VI.call (some 14) none (Od.c (VV.fn 16 [])) [Od.t 11, Od.t 12, Od.t 13],
 VI.rd 9 none (VOp.mv (Od.t 14)),
 VI.rd 15 none (VOp.ext 0 (Od.t 9)),
 VI.rd 16 none (VOp.ext 1 (Od.t 9)),
 VI.rd 7 none (VOp.mv (Od.t 15)),
 VI.rd 8 none (VOp.mv (Od.t 16))]
 [2, 3, 7, 8])
 (VC.seq (VC.reg [VI.rd 17 none (VOp.mv (Od.t 8))] [2, 3, 7, 17]) (VC.cond 17 (VC.seq (VC.reg [VI.rd 18 none (VOp.mv (Od.t 7)), VI.rd 6 none (VOp.mv (Od.t 18))] [6]) (VC.ret)) (VC.skip))))
 (VC.seq
 (VC.seq
 (VC.reg
 [VI.rd 19 none (VOp.mv (Od.t 2)),
 VI.rd 20 none (VOp.bin (BinOp.leq) (Od.c (VV.int (IntKind.i64) 0)) (Od.t 19)),
 VI.rd 21 none (VOp.mv (Od.t 20)),
 VI.rd 22 (some (21, true)) (VOp.mv (Od.t 2)),
 VI.rd 23 (some (21, true)) (VOp.faddr 4 (Od.t 3)),
 VI.rd 24 (some (21, true)) (VOp.load 1 false (Od.t 23)),
 VI.rd 25 (some (21, true)) (VOp.lens (Od.t 24)),
 VI.rd 26 (some (21, true)) (VOp.bin (BinOp.lss) (Od.t 22) (Od.t 25)),
 VI.rd 27 none (VOp.pick (Od.t 21) (Od.t 26) (Od.c (VV.bool false)))]
 [2, 3, 27])
 (VC.cond
 27
 (VC.seq
 (VC.reg [VI.rd 28 none (VOp.faddr 4 (Od.t 3)), VI.rd 29 none (VOp.load 1 false (Od.t 28)), VI.rd 30 none (VOp.mv (Od.t 2)), VI.rd 31 none (VOp.ixa 1 (Od.t 29) (Od.t 30)), VI.rd 32 none (VOp.load 1 false (Od.t 31)), VI.rd 6 none (VOp.mv (Od.t 32))] [6])
 (VC.ret))
 (VC.skip)))
 (VC.seq (VC.reg [VI.rd 6 none (VOp.mv (Od.c (VV.int (IntKind.i64) (-1))))] [6]) (VC.ret)))),
 [RV.t 6]⟩
theorem ok19 : w19.Ok Try.prog := FRow.ok_of (fn := Try.f19) (ks := k19) (by kernel_rfl) (by kernel_rfl) (by kernel_rfl) (by kernel_rfl) (by kernel_rfl)
def k20 : List (List Nat) := [[1, 2, 3, 6], [1, 3, 6, 7, 8], [1, 3, 6, 7, 8, 17], [6], [1, 3, 6, 7, 8, 24], [6], [1, 3, 6, 7, 8, 33], [6], [1, 3, 6, 7, 40], [6], [1, 3, 6, 61], [6], [6]]
def w20 : FRow := ⟨20, 69, VC.seq
 (VC.reg [VI.ef (some 3) none (VEf.box 44 (Od.t 0)), VI.ef (some 6) none (VEf.alloc 46 [VV.int (IntKind.i64) 0, VV.int (IntKind.i64) 0])] [1, 2, 3, 6])
 (VC.seq
 (VC.reg
 [VI.rd 10 none (VOp.faddr 1 (Od.t 3)),
 VI.rd 11 none (VOp.load 3 true (Od.t 10)),
 VI.rd 12 none (VOp.mv (Od.t 1)),
 VI.rd 13 none (VOp.mv (Od.t 2)),
 VI.call (some 14) none (Od.c (VV.fn 17 [])) [Od.t 11, Od.t 12, Od.t 13],
 VI.rd 9 none (VOp.mv (Od.t 14)),
 VI.rd 15 none (VOp.ext 0 (Od.t 9)),
 VI.rd 16 none (VOp.ext 1 (Od.t 9)),
 VI.rd 7 none (VOp.mv (Od.t 15)),
 VI.rd 8 none (VOp.mv (Od.t 16))]
 [1, 3, 6, 7, 8])
 (VC.seq
 (VC.block
 0
 (VC.seq
 (VC.reg
 [VI.rd 18 none (VOp.mv (Od.t 8)),
 VI.rd 19 none (VOp.mv (Od.t 18)),
 VI.rd 20 (some (19, true)) (VOp.mv (Od.t 7)),
 VI.rd 21 (some (19, true)) (VOp.bin (BinOp.eql) (Od.t 20) (Od.c (VV.int (IntKind.i64) 0))),
 VI.rd 22 none (VOp.pick (Od.t 19) (Od.t 21) (Od.c (VV.bool false))),
 VI.rd 17 none (VOp.mv (Od.t 22))]
 [1, 3, 6, 7, 8, 17])
 (VC.cond
 17
 (VC.seq (VC.reg [VI.rd 23 none (VOp.build [VV.int (IntKind.i64) 0, VV.int (IntKind.i64) 0] [(0, 1, Od.c (VV.int (IntKind.i64) 4))]), VI.ef none none (VEf.store 2 (Od.t 6) (Od.t 23))] [6]) (VC.ret))
 (VC.seq
 (VC.reg
 [VI.rd 25 none (VOp.mv (Od.t 8)),
 VI.rd 26 none (VOp.mv (Od.t 25)),
 VI.rd 27 (some (26, true)) (VOp.mv (Od.t 7)),
 VI.rd 28 (some (26, true)) (VOp.bin (BinOp.gtr) (Od.t 27) (Od.c (VV.int (IntKind.i64) 0))),
 VI.rd 29 none (VOp.pick (Od.t 26) (Od.t 28) (Od.c (VV.bool false))),
 VI.rd 24 none (VOp.mv (Od.t 29))]
 [1, 3, 6, 7, 8, 24])
 (VC.cond
 24
 (VC.seq
 (VC.reg
 [VI.rd 30 none (VOp.mv (Od.t 7)),
 VI.rd 31 none (VOp.bin (BinOp.sub) (Od.t 30) (Od.c (VV.int (IntKind.i64) 1))),
 VI.rd 32 none (VOp.build [VV.int (IntKind.i64) 0, VV.int (IntKind.i64) 0] [(0, 1, Od.c (VV.int (IntKind.i64) 1)), (1, 1, Od.t 31)]),
 VI.ef none none (VEf.store 2 (Od.t 6) (Od.t 32))]
 [6])
 (VC.ret))
 (VC.seq
 (VC.reg
 [VI.rd 34 none (VOp.mv (Od.t 8)),
 VI.rd 35 none (VOp.mv (Od.t 34)),
 VI.rd 36 (some (35, true)) (VOp.mv (Od.t 7)),
 VI.rd 37 (some (35, true)) (VOp.bin (BinOp.eql) (Od.t 36) (Od.c (VV.int (IntKind.i64) (-1)))),
 VI.rd 38 none (VOp.pick (Od.t 35) (Od.t 37) (Od.c (VV.bool false))),
 VI.rd 33 none (VOp.mv (Od.t 38))]
 [1, 3, 6, 7, 8, 33])
 (VC.cond
 33
 (VC.seq (VC.reg [VI.rd 39 none (VOp.build [VV.int (IntKind.i64) 0, VV.int (IntKind.i64) 0] [(0, 1, Od.c (VV.int (IntKind.i64) 3))]), VI.ef none none (VEf.store 2 (Od.t 6) (Od.t 39))] [6]) (VC.ret))
 (VC.seq
 (VC.reg [VI.rd 41 none (VOp.mv (Od.t 8)), VI.rd 40 none (VOp.mv (Od.t 41))] [1, 3, 6, 7, 40])
 (VC.cond
 40
 (VC.seq
 (VC.reg
 [VI.rd 42 none (VOp.mv (Od.t 7)),
 VI.rd 43 none (VOp.bin (BinOp.sub) (Od.c (VV.int (IntKind.i64) (-1))) (Od.t 42)),
 VI.rd 44 none (VOp.build [VV.int (IntKind.i64) 0, VV.int (IntKind.i64) 0] [(0, 1, Od.c (VV.int (IntKind.i64) 2)), (1, 1, Od.t 43)]),
 VI.ef none none (VEf.store 2 (Od.t 6) (Od.t 44))]
 [6])
 (VC.ret))
 (VC.skip))))))))))
 (VC.seq
 (VC.seq
 (VC.reg
 [VI.rd 45 none (VOp.mv (Od.t 1)),
 VI.rd 46 none (VOp.bin (BinOp.geq) (Od.t 45) (Od.c (VV.int (IntKind.i64) 0))),
 VI.rd 47 none (VOp.mv (Od.t 46)),
 VI.rd 48 (some (47, true)) (VOp.mv (Od.t 1)),
 VI.rd 49 (some (47, true)) (VOp.faddr 0 (Od.t 3)),
 VI.rd 50 (some (47, true)) (VOp.load 1 false (Od.t 49)),
 VI.rd 51 (some (47, true)) (VOp.lens (Od.t 50)),
 VI.rd 52 (some (47, true)) (VOp.bin (BinOp.lss) (Od.t 48) (Od.t 51)),
 VI.rd 53 none (VOp.pick (Od.t 47) (Od.t 52) (Od.c (VV.bool false))),
 VI.rd 54 none (VOp.mv (Od.t 53)),
 VI.rd 55 (some (54, true)) (VOp.faddr 0 (Od.t 3)),
 VI.rd 56 (some (54, true)) (VOp.load 1 false (Od.t 55)),
 VI.rd 57 (some (54, true)) (VOp.mv (Od.t 1)),
 VI.rd 58 (some (54, true)) (VOp.ixa 1 (Od.t 56) (Od.t 57)),
 VI.rd 59 (some (54, true)) (VOp.load 1 false (Od.t 58)),
 VI.rd 60 (some (54, true)) (VOp.bin (BinOp.gtr) (Od.t 59) (Od.c (VV.int (IntKind.i64) 0))),
 VI.rd 61 none (VOp.pick (Od.t 54) (Od.t 60) (Od.c (VV.bool false)))]
 [1, 3, 6, 61])
 (VC.cond
 61
 (VC.seq
 (VC.reg
 [VI.rd 62 none (VOp.faddr 0 (Od.t 3)),
 VI.rd 63 none (VOp.load 1 false (Od.t 62)),
 VI.rd 64 none (VOp.mv (Od.t 1)),
 VI.rd 65 none (VOp.ixa 1 (Od.t 63) (Od.t 64)),
 VI.rd 66 none (VOp.load 1 false (Od.t 65)),
 VI.rd 67 none (VOp.build [VV.int (IntKind.i64) 0, VV.int (IntKind.i64) 0] [(0, 1, Od.c (VV.int (IntKind.i64) 2)), (1, 1, Od.t 66)]),
 VI.ef none none (VEf.store 2 (Od.t 6) (Od.t 67))]
 [6])
 (VC.ret))
 (VC.skip)))
 (VC.seq (VC.reg [VI.rd 68 none (VOp.build [VV.int (IntKind.i64) 0, VV.int (IntKind.i64) 0] []), VI.ef none none (VEf.store 2 (Od.t 6) (Od.t 68))] [6]) (VC.ret))))),
 [RV.c 6 2 true]⟩
theorem ok20 : w20.Ok Try.prog := FRow.ok_of (fn := Try.f20) (ks := k20) (by kernel_rfl) (by kernel_rfl) (by kernel_rfl) (by kernel_rfl) (by kernel_rfl)
def k21 : List (List Nat) := [[1, 2, 3], [2, 3, 7, 8], [2, 3, 7, 17], [6], [2, 3, 27], [6], [6]]
def w21 : FRow := ⟨21, 33, VC.seq
 (VC.reg [VI.ef (some 3) none (VEf.box 44 (Od.t 0)), VI.rd 6 none (VOp.mv (Od.c (VV.int (IntKind.i64) 0)))] [1, 2, 3])
 (VC.seq
 (VC.reg
 [VI.rd 10 none (VOp.faddr 5 (Od.t 3)),
 VI.rd 11 none (VOp.load 3 true (Od.t 10)),
 VI.rd 12 none (VOp.mv (Od.t 2)),
 VI.rd 13 none (VOp.mv (Od.t 1)),
 VI.call (some 14) none (Od.c (VV.fn 17 [])) [Od.t 11, Od.t 12, Od.t 13],
 VI.rd 9 none (VOp.mv (Od.t 14)),
 VI.rd 15 none (VOp.ext 0 (Od.t 9)),
 VI.rd 16 none (VOp.ext 1 (Od.t 9)),
 VI.rd 7 none (VOp.mv (Od.t 15)),
 VI.rd 8 none (VOp.mv (Od.t 16))]
 [2, 3, 7, 8])
 (VC.seq
 (VC.seq (VC.reg [VI.rd 17 none (VOp.mv (Od.t 8))] [2, 3, 7, 17]) (VC.cond 17 (VC.seq (VC.reg [VI.rd 18 none (VOp.mv (Od.t 7)), VI.rd 6 none (VOp.mv (Od.t 18))] [6]) (VC.ret)) (VC.skip)))
 (VC.seq
 (VC.seq
 (VC.reg
 [VI.rd 19 none (VOp.mv (Od.t 2)),
 VI.rd 20 none (VOp.bin (BinOp.geq) (Od.t 19) (Od.c (VV.int (IntKind.i64) 0))),
 VI.rd 21 none (VOp.mv (Od.t 20)),
 VI.rd 22 (some (21, true)) (VOp.mv (Od.t 2)),
 VI.rd 23 (some (21, true)) (VOp.faddr 4 (Od.t 3)),
 VI.rd 24 (some (21, true)) (VOp.load 1 false (Od.t 23)),
 VI.rd 25 (some (21, true)) (VOp.lens (Od.t 24)),
 VI.rd 26 (some (21, true)) (VOp.bin (BinOp.lss) (Od.t 22) (Od.t 25)),
 VI.rd 27 none (VOp.pick (Od.t 21) (Od.t 26) (Od.c (VV.bool false)))]
 [2, 3, 27])
 (VC.cond
 27
 (VC.seq
 (VC.reg [VI.rd 28 none (VOp.faddr 4 (Od.t 3)), VI.rd 29 none (VOp.load 1 false (Od.t 28)), VI.rd 30 none (VOp.mv (Od.t 2)), VI.rd 31 none (VOp.ixa 1 (Od.t 29) (Od.t 30)), VI.rd 32 none (VOp.load 1 false (Od.t 31)), VI.rd 6 none (VOp.mv (Od.t 32))] [6])
 (VC.ret))
 (VC.skip)))
 (VC.seq (VC.reg [VI.rd 6 none (VOp.mv (Od.c (VV.int (IntKind.i64) (-1))))] [6]) (VC.ret))))),
 [RV.t 6]⟩
theorem ok21 : w21.Ok Try.prog := FRow.ok_of (fn := Try.f21) (ks := k21) (by kernel_rfl) (by kernel_rfl) (by kernel_rfl) (by kernel_rfl) (by kernel_rfl)
end Go.Proofs.Ytlclbfkdaemilaa
