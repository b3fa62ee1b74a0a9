/- Functions, compiled for the canonical machine (printed by a program). -/
import Derived.Test.YtlclbfkdaemilaaVmL
import Derived.Test.YtlclbfkdaemilaaProg
namespace Go.Proofs.Ytlclbfkdaemilaa
set_option linter.unusedSimpArgs false
set_option linter.unusedVariables false
open Go Go.Vm Go.Proofs
set_option maxRecDepth 100000
def k22 : List (List Nat) := [[1, 2], [1, 2, 3], [1, 2, 3, 4], [1, 2, 3, 4, 10], [1, 2, 3, 4], [1, 2, 3, 4], [1, 2, 3, 5], [1, 2, 3, 5, 29], [1, 2, 3, 5], [1, 2, 3, 5], [2]]
def w22 : FRow := ⟨22, 45, VC.seq
 (VC.reg [VI.ef (some 1) none (VEf.box 53 (Od.t 0)), VI.ef (some 2) none (VEf.alloc 53 [VV.sl none 0 0, VV.sl none 0 0])] [1, 2])
 (VC.seq
 (VC.reg [VI.ef (some 3) none (VEf.alloc 53 [VV.sl none 0 0, VV.sl none 0 0])] [1, 2, 3])
 (VC.seq
 (VC.seq
 (VC.reg [VI.rd 4 none (VOp.mv (Od.c (VV.int (IntKind.i64) 0)))] [1, 2, 3, 4])
 (VC.block
 0
 (VC.loop
 (VC.seq
 (VC.seq
 (VC.reg [VI.rd 6 none (VOp.mv (Od.t 4)), VI.rd 7 none (VOp.faddr 0 (Od.t 1)), VI.rd 8 none (VOp.load 1 false (Od.t 7)), VI.rd 9 none (VOp.lens (Od.t 8)), VI.rd 10 none (VOp.bin (BinOp.lss) (Od.t 6) (Od.t 9))] [1, 2, 3, 4, 10])
 (VC.cond 10 (VC.skip) (VC.exit 0)))
 (VC.seq
 (VC.block
 1
 (VC.dreg
 [VI.rd 13 none (VOp.faddr 0 (Od.t 3)),
 VI.rd 14 none (VOp.load 1 false (Od.t 13)),
 VI.ef (some 15) none (VEf.mkrow 46 [VV.int (IntKind.i64) 0, VV.int (IntKind.i64) 0] 0 []),
 VI.rd 16 none (VOp.faddr 0 (Od.t 1)),
 VI.rd 17 none (VOp.load 1 false (Od.t 16)),
 VI.rd 18 none (VOp.mv (Od.t 4)),
 VI.rd 19 none (VOp.ixa 1 (Od.t 17) (Od.t 18)),
 VI.rd 20 none (VOp.load 1 false (Od.t 19)),
 VI.ef (some 21) none (VEf.app 46 2 16 (Od.t 15) (Od.t 20)),
 VI.ef (some 22) none (VEf.mkrow 60 [VV.sl none 0 0] 1 [(0, Od.t 21)]),
 VI.ef (some 23) none (VEf.app 60 1 24 (Od.t 14) (Od.t 22)),
 VI.rd 24 none (VOp.faddr 0 (Od.t 3)),
 VI.ef none none (VEf.store 1 (Od.t 24) (Od.t 23))]
 [(0, 3), (0, 3), (0, 0), (0, 1), (0, 1), (0, 1), (0, 1), (0, 1), (1, 1), (2, 2), (3, 3), (4, 4), (4, 4)]
 [1, 2, 3, 4]))
 (VC.reg [VI.rd 11 none (VOp.mv (Od.t 4)), VI.rd 12 none (VOp.bin (BinOp.add) (Od.t 11) (Od.c (VV.int (IntKind.i64) 1))), VI.rd 4 none (VOp.mv (Od.t 12))] [1, 2, 3, 4]))))))
 (VC.seq
 (VC.seq
 (VC.reg [VI.rd 5 none (VOp.mv (Od.c (VV.int (IntKind.i64) 0)))] [1, 2, 3, 5])
 (VC.block
 2
 (VC.loop
 (VC.seq
 (VC.seq
 (VC.reg [VI.rd 25 none (VOp.mv (Od.t 5)), VI.rd 26 none (VOp.faddr 1 (Od.t 1)), VI.rd 27 none (VOp.load 1 false (Od.t 26)), VI.rd 28 none (VOp.lens (Od.t 27)), VI.rd 29 none (VOp.bin (BinOp.lss) (Od.t 25) (Od.t 28))] [1, 2, 3, 5, 29])
 (VC.cond 29 (VC.skip) (VC.exit 2)))
 (VC.seq
 (VC.block
 3
 (VC.dreg
 [VI.rd 32 none (VOp.faddr 1 (Od.t 3)),
 VI.rd 33 none (VOp.load 1 false (Od.t 32)),
 VI.ef (some 34) none (VEf.mkrow 3 [VV.int (IntKind.i64) 0] 0 []),
 VI.rd 35 none (VOp.faddr 1 (Od.t 1)),
 VI.rd 36 none (VOp.load 1 false (Od.t 35)),
 VI.rd 37 none (VOp.mv (Od.t 5)),
 VI.rd 38 none (VOp.ixa 1 (Od.t 36) (Od.t 37)),
 VI.rd 39 none (VOp.load 1 false (Od.t 38)),
 VI.ef (some 40) none (VEf.app 3 1 8 (Od.t 34) (Od.t 39)),
 VI.ef (some 41) none (VEf.mkrow 24 [VV.sl none 0 0] 1 [(0, Od.t 40)]),
 VI.ef (some 42) none (VEf.app 24 1 24 (Od.t 33) (Od.t 41)),
 VI.rd 43 none (VOp.faddr 1 (Od.t 3)),
 VI.ef none none (VEf.store 1 (Od.t 43) (Od.t 42))]
 [(0, 3), (0, 3), (0, 0), (0, 1), (0, 1), (0, 1), (0, 1), (0, 1), (1, 1), (2, 2), (3, 3), (4, 4), (4, 4)]
 [1, 2, 3, 5]))
 (VC.reg [VI.rd 30 none (VOp.mv (Od.t 5)), VI.rd 31 none (VOp.bin (BinOp.add) (Od.t 30) (Od.c (VV.int (IntKind.i64) 1))), VI.rd 5 none (VOp.mv (Od.t 31))] [1, 2, 3, 5]))))))
 (VC.seq (VC.reg [VI.rd 44 none (VOp.load 2 true (Od.t 3)), VI.ef none none (VEf.store 2 (Od.t 2) (Od.t 44))] [2]) (VC.ret))))),
 [RV.c 2 2 true]⟩
theorem ok22 : w22.Ok Try.prog := FRow.ok_of (fn := Try.f22) (ks := k22) (by kernel_rfl) (by kernel_rfl) (by kernel_rfl) (by kernel_rfl) (by kernel_rfl)
def k23 : List (List Nat) := [[1, 2], [1, 2, 17], [2, 3], [1, 2, 4], [1, 2, 4, 5], [1, 2, 4, 5, 24, 25, 26], [1, 2, 4, 5, 24, 25, 26, 27], [1, 2, 4, 5, 6, 7, 24, 25, 26], [1, 2, 4, 5, 6, 7, 8, 24, 25, 26], [1, 2, 4, 5, 6, 7, 8, 24, 25, 26], [1, 2, 4, 5, 6, 8, 24, 25, 26, 39, 40, 41], [1, 2, 4, 5, 6, 8, 24, 25, 26, 39, 40, 41, 42], [1, 2, 4, 5, 6, 8, 9, 10, 24, 25, 26, 39, 40, 41], [1, 2, 4, 5, 6, 8, 9, 10, 24, 25, 26, 39, 40, 41, 59], [1, 2, 4, 5, 6, 8, 24, 25, 26, 39, 40, 41], [1, 2, 4, 5, 6, 8, 24, 25, 26, 39, 40, 41], [1, 2, 4, 5, 24, 25, 26], [1, 2, 4], [1, 2, 4, 5], [1, 2, 4, 5, 88, 89], [1, 2, 4, 5, 88, 89, 90], [1, 2, 4, 5, 11, 88, 89], [1, 2, 4, 5, 11, 12, 88, 89], [1, 2, 4, 5, 11, 12, 88, 89], [1, 2, 4, 5, 11, 12, 88, 89, 103, 104, 105], [1, 2, 4, 5, 11, 12, 88, 89, 103, 104, 105, 106], [1, 2, 4, 5, 11, 12, 13, 14, 88, 89, 103, 104, 105], [1, 2, 4, 5, 11, 12, 13, 14, 88, 89, 103, 104, 105, 122], [1, 2, 4, 5, 11, 12, 88, 89, 103, 104, 105], [1, 2, 4, 5, 11, 12, 88, 89, 103, 104, 105], [1, 2, 4, 5, 88, 89], [2, 4], [2, 3]]
def w23 : FRow := ⟨23, 147, VC.seq
 (VC.reg [VI.ef (some 1) none (VEf.box 53 (Od.t 0)), VI.ef (some 2) none (VEf.alloc 44 [VV.sl none 0 0, VV.sl none 0 0, VV.sl none 0 0, VV.sl none 0 0, VV.sl none 0 0, VV.sl none 0 0, VV.sl none 0 0, VV.sl none 0 0]), VI.rd 3 none (VOp.mv (Od.c (VV.int (IntKind.i64) 0)))] [1, 2])
 (VC.seq
 (VC.seq
 (VC.reg [VI.rd 15 none (VOp.load 2 true (Od.t 1)), VI.call (some 16) none (Od.c (VV.fn 37 [])) [Od.t 15], VI.rd 17 none (VOp.not (Od.t 16))] [1, 2, 17])
 (VC.cond
 17
 (VC.seq
 (VC.reg
 [VI.rd 18 none (VOp.build [VV.sl none 0 0, VV.sl none 0 0, VV.sl none 0 0, VV.sl none 0 0, VV.sl none 0 0, VV.sl none 0 0, VV.sl none 0 0, VV.sl none 0 0] []), VI.ef none none (VEf.store 8 (Od.t 2) (Od.t 18)), VI.rd 3 none (VOp.mv (Od.c (VV.int (IntKind.i64) 1)))]
 [2, 3])
 (VC.ret))
 (VC.skip)))
 (VC.seq
 (VC.reg [VI.ef (some 4) none (VEf.alloc 44 [VV.sl none 0 0, VV.sl none 0 0, VV.sl none 0 0, VV.sl none 0 0, VV.sl none 0 0, VV.sl none 0 0, VV.sl none 0 0, VV.sl none 0 0])] [1, 2, 4])
 (VC.seq
 (VC.reg [VI.rd 19 none (VOp.faddr 0 (Od.t 1)), VI.rd 20 none (VOp.load 1 false (Od.t 19)), VI.rd 21 none (VOp.lens (Od.t 20)), VI.ef (some 22) none (VEf.mksl 40 24 [VV.sl none 0 0] (Od.t 21) (Od.t 21)), VI.rd 5 none (VOp.mv (Od.t 22))] [1, 2, 4, 5])
 (VC.seq
 (VC.seq
 (VC.reg [VI.rd 23 none (VOp.faddr 0 (Od.t 1)), VI.rd 24 none (VOp.load 1 false (Od.t 23)), VI.rd 25 none (VOp.lens (Od.t 24)), VI.rd 26 none (VOp.mv (Od.c (VV.int (IntKind.i64) 0)))] [1, 2, 4, 5, 24, 25, 26])
 (VC.block
 0
 (VC.loop
 (VC.seq
 (VC.reg [VI.rd 27 none (VOp.bin (BinOp.lss) (Od.t 26) (Od.t 25))] [1, 2, 4, 5, 24, 25, 26, 27])
 (VC.seq
 (VC.cond 27 (VC.skip) (VC.exit 0))
 (VC.seq
 (VC.block
 1
 (VC.seq
 (VC.reg [VI.rd 28 none (VOp.mv (Od.t 26)), VI.rd 29 none (VOp.ixa 1 (Od.t 24) (Od.t 26)), VI.rd 30 none (VOp.load 1 false (Od.t 29)), VI.rd 6 none (VOp.mv (Od.t 28)), VI.rd 7 none (VOp.mv (Od.t 30))] [1, 2, 4, 5, 6, 7, 24, 25, 26])
 (VC.seq
 (VC.reg [VI.rd 31 none (VOp.mv (Od.t 7)), VI.call (some 32) none (Od.c (VV.fn 38 [])) [Od.t 31, Od.c (VV.fn 39 []), Od.c (VV.int (IntKind.i64) (-1))], VI.rd 8 none (VOp.mv (Od.t 32))] [1, 2, 4, 5, 6, 7, 8, 24, 25, 26])
 (VC.seq
 (VC.reg
 [VI.rd 33 none (VOp.faddr 0 (Od.t 4)),
 VI.rd 34 none (VOp.load 1 false (Od.t 33)),
 VI.rd 35 none (VOp.mv (Od.t 8)),
 VI.ef (some 36) none (VEf.mkrow 3 [VV.int (IntKind.i64) 0] 1 [(0, Od.t 35)]),
 VI.ef (some 37) none (VEf.app 3 1 8 (Od.t 34) (Od.t 36)),
 VI.rd 38 none (VOp.faddr 0 (Od.t 4)),
 VI.ef none none (VEf.store 1 (Od.t 38) (Od.t 37))]
 [1, 2, 4, 5, 6, 7, 8, 24, 25, 26])
 (VC.seq
 (VC.reg [VI.rd 39 none (VOp.mv (Od.t 7)), VI.rd 40 none (VOp.lens (Od.t 39)), VI.rd 41 none (VOp.mv (Od.c (VV.int (IntKind.i64) 0)))] [1, 2, 4, 5, 6, 8, 24, 25, 26, 39, 40, 41])
 (VC.block
 2
 (VC.loop
 (VC.seq
 (VC.reg [VI.rd 42 none (VOp.bin (BinOp.lss) (Od.t 41) (Od.t 40))] [1, 2, 4, 5, 6, 8, 24, 25, 26, 39, 40, 41, 42])
 (VC.seq
 (VC.cond 42 (VC.skip) (VC.exit 2))
 (VC.seq
 (VC.block
 3
 (VC.seq
 (VC.reg
 [VI.rd 43 none (VOp.mv (Od.t 41)),
 VI.rd 44 none (VOp.ixa 2 (Od.t 39) (Od.t 41)),
 VI.rd 45 none (VOp.load 2 true (Od.t 44)),
 VI.ef (some 10) none (VEf.alloc 46 [VV.int (IntKind.i64) 0, VV.int (IntKind.i64) 0]),
 VI.rd 9 none (VOp.mv (Od.t 43)),
 VI.ef none none (VEf.store 2 (Od.t 10) (Od.t 45))]
 [1, 2, 4, 5, 6, 8, 9, 10, 24, 25, 26, 39, 40, 41])
 (VC.seq
 (VC.reg
 [VI.rd 46 none (VOp.faddr 0 (Od.t 10)),
 VI.rd 47 none (VOp.load 1 false (Od.t 46)),
 VI.rd 48 none (VOp.bin (BinOp.neq) (Od.t 47) (Od.c (VV.int (IntKind.i64) 0))),
 VI.rd 49 none (VOp.mv (Od.t 48)),
 VI.rd 50 (some (49, true)) (VOp.faddr 0 (Od.t 10)),
 VI.rd 51 (some (49, true)) (VOp.load 1 false (Od.t 50)),
 VI.rd 52 (some (49, true)) (VOp.bin (BinOp.neq) (Od.t 51) (Od.c (VV.int (IntKind.i64) 2))),
 VI.rd 53 (some (49, true)) (VOp.mv (Od.t 52)),
 VI.rd 54 (some (53, false)) (VOp.faddr 1 (Od.t 10)),
 VI.rd 55 (some (53, false)) (VOp.load 1 false (Od.t 54)),
 VI.rd 56 (some (53, false)) (VOp.mv (Od.t 8)),
 VI.rd 57 (some (53, false)) (VOp.bin (BinOp.neq) (Od.t 55) (Od.t 56)),
 VI.rd 58 (some (49, true)) (VOp.pick (Od.t 53) (Od.c (VV.bool true)) (Od.t 57)),
 VI.rd 59 none (VOp.pick (Od.t 49) (Od.t 58) (Od.c (VV.bool false)))]
 [1, 2, 4, 5, 6, 8, 9, 10, 24, 25, 26, 39, 40, 41, 59])
 (VC.cond
 59
 (VC.dreg
 [VI.rd 60 none (VOp.mv (Od.t 5)),
 VI.rd 61 none (VOp.mv (Od.t 6)),
 VI.rd 62 none (VOp.mv (Od.t 5)),
 VI.rd 63 none (VOp.mv (Od.t 6)),
 VI.rd 64 none (VOp.ixa 1 (Od.t 62) (Od.t 63)),
 VI.rd 65 none (VOp.load 1 false (Od.t 64)),
 VI.rd 66 none (VOp.mv (Od.t 9)),
 VI.rd 67 none (VOp.load 2 true (Od.t 10)),
 VI.call (some 68) none (Od.c (VV.fn 40 [])) [Od.t 67],
 VI.rd 69 none (VOp.build [VV.int (IntKind.i64) 0, VV.int (IntKind.i64) 0] [(0, 1, Od.t 66), (1, 1, Od.t 68)]),
 VI.ef (some 70) none (VEf.mkrow 42 [VV.int (IntKind.i64) 0, VV.int (IntKind.i64) 0] 1 [(0, Od.t 69)]),
 VI.ef (some 71) none (VEf.app 42 2 16 (Od.t 65) (Od.t 70)),
 VI.rd 72 none (VOp.ixa 1 (Od.t 60) (Od.t 61)),
 VI.ef none none (VEf.store 1 (Od.t 72) (Od.t 71))]
 [(0, 2), (0, 2), (0, 1), (0, 1), (0, 1), (0, 1), (0, 0), (0, 0), (0, 0), (0, 0), (0, 0), (1, 1), (2, 2), (2, 2)]
 [1, 2, 4, 5, 6, 8, 24, 25, 26, 39, 40, 41])
 (VC.skip)))))
 (VC.reg [VI.rd 73 none (VOp.bin (BinOp.add) (Od.t 41) (Od.c (VV.int (IntKind.i64) 1))), VI.rd 41 none (VOp.mv (Od.t 73))] [1, 2, 4, 5, 6, 8, 24, 25, 26, 39, 40, 41])))))))))))
 (VC.reg [VI.rd 74 none (VOp.bin (BinOp.add) (Od.t 26) (Od.c (VV.int (IntKind.i64) 1))), VI.rd 26 none (VOp.mv (Od.t 74))] [1, 2, 4, 5, 24, 25, 26])))))))
 (VC.seq
 (VC.reg
 [VI.rd 76 none (VOp.mv (Od.t 5)),
 VI.call (some 77) none (Od.c (VV.fn 10 [])) [Od.t 76],
 VI.rd 75 none (VOp.mv (Od.t 77)),
 VI.rd 78 none (VOp.ext 0 (Od.t 75)),
 VI.rd 79 none (VOp.ext 1 (Od.t 75)),
 VI.rd 80 none (VOp.faddr 1 (Od.t 4)),
 VI.ef none none (VEf.store 3 (Od.t 80) (Od.t 78))]
 [1, 2, 4])
 (VC.seq
 (VC.reg
 [VI.rd 81 none (VOp.faddr 1 (Od.t 1)),
 VI.rd 82 none (VOp.load 1 false (Od.t 81)),
 VI.rd 83 none (VOp.ixa 1 (Od.t 82) (Od.c (VV.int (IntKind.i64) 0))),
 VI.rd 84 none (VOp.load 1 false (Od.t 83)),
 VI.rd 85 none (VOp.lens (Od.t 84)),
 VI.ef (some 86) none (VEf.mksl 40 24 [VV.sl none 0 0] (Od.t 85) (Od.t 85)),
 VI.rd 5 none (VOp.mv (Od.t 86))]
 [1, 2, 4, 5])
 (VC.seq
 (VC.seq
 (VC.reg [VI.rd 87 none (VOp.mv (Od.t 5)), VI.rd 88 none (VOp.lens (Od.t 87)), VI.rd 89 none (VOp.mv (Od.c (VV.int (IntKind.i64) 0)))] [1, 2, 4, 5, 88, 89])
 (VC.block
 4
 (VC.loop
 (VC.seq
 (VC.reg [VI.rd 90 none (VOp.bin (BinOp.lss) (Od.t 89) (Od.t 88))] [1, 2, 4, 5, 88, 89, 90])
 (VC.seq
 (VC.cond 90 (VC.skip) (VC.exit 4))
 (VC.seq
 (VC.block
 5
 (VC.seq
 (VC.reg [VI.rd 91 none (VOp.mv (Od.t 89)), VI.ef (some 11) none (VEf.alloc 3 [VV.int (IntKind.i64) 0]), VI.ef none none (VEf.store 1 (Od.t 11) (Od.t 91))] [1, 2, 4, 5, 11, 88, 89])
 (VC.seq
 (VC.reg
 [VI.rd 92 none (VOp.faddr 1 (Od.t 1)),
 VI.rd 93 none (VOp.load 1 false (Od.t 92)),
 VI.rd 94 none (VOp.mkfn 42 [Od.t 11]),
 VI.call (some 95) none (Od.c (VV.fn 41 [])) [Od.t 93, Od.t 94, Od.c (VV.int (IntKind.i64) (-1))],
 VI.rd 12 none (VOp.mv (Od.t 95))]
 [1, 2, 4, 5, 11, 12, 88, 89])
 (VC.seq
 (VC.reg
 [VI.rd 96 none (VOp.faddr 4 (Od.t 4)),
 VI.rd 97 none (VOp.load 1 false (Od.t 96)),
 VI.rd 98 none (VOp.mv (Od.t 12)),
 VI.ef (some 99) none (VEf.mkrow 3 [VV.int (IntKind.i64) 0] 1 [(0, Od.t 98)]),
 VI.ef (some 100) none (VEf.app 3 1 8 (Od.t 97) (Od.t 99)),
 VI.rd 101 none (VOp.faddr 4 (Od.t 4)),
 VI.ef none none (VEf.store 1 (Od.t 101) (Od.t 100))]
 [1, 2, 4, 5, 11, 12, 88, 89])
 (VC.seq
 (VC.reg [VI.rd 102 none (VOp.faddr 1 (Od.t 1)), VI.rd 103 none (VOp.load 1 false (Od.t 102)), VI.rd 104 none (VOp.lens (Od.t 103)), VI.rd 105 none (VOp.mv (Od.c (VV.int (IntKind.i64) 0)))] [1, 2, 4, 5, 11, 12, 88, 89, 103, 104, 105])
 (VC.block
 6
 (VC.loop
 (VC.seq
 (VC.reg [VI.rd 106 none (VOp.bin (BinOp.lss) (Od.t 105) (Od.t 104))] [1, 2, 4, 5, 11, 12, 88, 89, 103, 104, 105, 106])
 (VC.seq
 (VC.cond 106 (VC.skip) (VC.exit 6))
 (VC.seq
 (VC.block
 7
 (VC.seq
 (VC.reg
 [VI.rd 107 none (VOp.mv (Od.t 105)), VI.rd 108 none (VOp.ixa 1 (Od.t 103) (Od.t 105)), VI.rd 109 none (VOp.load 1 false (Od.t 108)), VI.rd 13 none (VOp.mv (Od.t 107)), VI.rd 14 none (VOp.mv (Od.t 109))]
 [1, 2, 4, 5, 11, 12, 13, 14, 88, 89, 103, 104, 105])
 (VC.seq
 (VC.reg
 [VI.rd 110 none (VOp.mv (Od.t 14)),
 VI.rd 111 none (VOp.load 1 false (Od.t 11)),
 VI.rd 112 none (VOp.ixa 1 (Od.t 110) (Od.t 111)),
 VI.rd 113 none (VOp.load 1 false (Od.t 112)),
 VI.rd 114 none (VOp.bin (BinOp.geq) (Od.t 113) (Od.c (VV.int (IntKind.i64) 0))),
 VI.rd 115 none (VOp.mv (Od.t 114)),
 VI.rd 116 (some (115, true)) (VOp.mv (Od.t 14)),
 VI.rd 117 (some (115, true)) (VOp.load 1 false (Od.t 11)),
 VI.rd 118 (some (115, true)) (VOp.ixa 1 (Od.t 116) (Od.t 117)),
 VI.rd 119 (some (115, true)) (VOp.load 1 false (Od.t 118)),
 VI.rd 120 (some (115, true)) (VOp.mv (Od.t 12)),
 VI.rd 121 (some (115, true)) (VOp.bin (BinOp.neq) (Od.t 119) (Od.t 120)),
 VI.rd 122 none (VOp.pick (Od.t 115) (Od.t 121) (Od.c (VV.bool false)))]
 [1, 2, 4, 5, 11, 12, 13, 14, 88, 89, 103, 104, 105, 122])
 (VC.cond
 122
 (VC.dreg
 [VI.rd 123 none (VOp.mv (Od.t 5)),
 VI.rd 124 none (VOp.load 1 false (Od.t 11)),
 VI.rd 125 none (VOp.mv (Od.t 5)),
 VI.rd 126 none (VOp.load 1 false (Od.t 11)),
 VI.rd 127 none (VOp.ixa 1 (Od.t 125) (Od.t 126)),
 VI.rd 128 none (VOp.load 1 false (Od.t 127)),
 VI.rd 129 none (VOp.mv (Od.t 13)),
 VI.rd 130 none (VOp.mv (Od.t 14)),
 VI.rd 131 none (VOp.load 1 false (Od.t 11)),
 VI.rd 132 none (VOp.ixa 1 (Od.t 130) (Od.t 131)),
 VI.rd 133 none (VOp.load 1 false (Od.t 132)),
 VI.rd 134 none (VOp.build [VV.int (IntKind.i64) 0, VV.int (IntKind.i64) 0] [(0, 1, Od.t 129), (1, 1, Od.t 133)]),
 VI.ef (some 135) none (VEf.mkrow 42 [VV.int (IntKind.i64) 0, VV.int (IntKind.i64) 0] 1 [(0, Od.t 134)]),
 VI.ef (some 136) none (VEf.app 42 2 16 (Od.t 128) (Od.t 135)),
 VI.rd 137 none (VOp.ixa 1 (Od.t 123) (Od.t 124)),
 VI.ef none none (VEf.store 1 (Od.t 137) (Od.t 136))]
 [(0, 2), (0, 2), (0, 1), (0, 1), (0, 1), (0, 1), (0, 0), (0, 0), (0, 0), (0, 0), (0, 0), (0, 0), (0, 0), (1, 1), (2, 2), (2, 2)]
 [1, 2, 4, 5, 11, 12, 88, 89, 103, 104, 105])
 (VC.skip)))))
 (VC.reg [VI.rd 138 none (VOp.bin (BinOp.add) (Od.t 105) (Od.c (VV.int (IntKind.i64) 1))), VI.rd 105 none (VOp.mv (Od.t 138))] [1, 2, 4, 5, 11, 12, 88, 89, 103, 104, 105])))))))))))
 (VC.reg [VI.rd 139 none (VOp.bin (BinOp.add) (Od.t 89) (Od.c (VV.int (IntKind.i64) 1))), VI.rd 89 none (VOp.mv (Od.t 139))] [1, 2, 4, 5, 88, 89])))))))
 (VC.seq
 (VC.reg
 [VI.rd 141 none (VOp.mv (Od.t 5)),
 VI.call (some 142) none (Od.c (VV.fn 10 [])) [Od.t 141],
 VI.rd 140 none (VOp.mv (Od.t 142)),
 VI.rd 143 none (VOp.ext 0 (Od.t 140)),
 VI.rd 144 none (VOp.ext 1 (Od.t 140)),
 VI.rd 145 none (VOp.faddr 5 (Od.t 4)),
 VI.ef none none (VEf.store 3 (Od.t 145) (Od.t 143))]
 [2, 4])
 (VC.seq (VC.reg [VI.rd 146 none (VOp.load 8 true (Od.t 4)), VI.ef none none (VEf.store 8 (Od.t 2) (Od.t 146)), VI.rd 3 none (VOp.mv (Od.c (VV.int (IntKind.i64) 0)))] [2, 3]) (VC.ret)))))))))),
 [RV.c 2 8 true, RV.t 3]⟩
theorem ok23 : w23.Ok Try.prog := FRow.ok_of (fn := Try.f23) (ks := k23) (by kernel_rfl) (by kernel_rfl) (by kernel_rfl) (by kernel_rfl) (by kernel_rfl)
def k24 : List (List Nat) := [[1, 2], [1, 2, 21], [2, 3], [1, 2, 4], [1, 2, 4, 5], [1, 2, 4, 5, 6], [1, 2, 4, 5, 6, 27], [1, 2, 4, 5, 6], [1, 2, 4, 5, 6, 7], [1, 2, 4, 5, 6, 7, 8], [1, 2, 4, 5, 6, 7, 8, 37], [1, 2, 4, 5, 6, 7, 8], [1, 2, 4, 5, 6, 7, 8, 49], [1, 2, 4, 5, 6, 7, 8], [1, 2, 4, 5, 6, 9], [1, 2, 4, 5, 6, 9], [1, 2, 4, 5, 6, 9, 10], [1, 2, 4, 5, 6, 9, 10, 11], [1, 2, 4, 5, 6, 9, 10, 11, 77], [1, 2, 4, 5, 6, 9, 10, 11], [1, 2, 4, 5, 6, 9, 10, 11, 12], [1, 2, 4, 5, 6, 9, 10, 11, 12, 101], [1, 2, 4, 5, 6, 9, 10, 11], [1, 2, 4, 5, 6], [1, 2, 4], [1, 2, 4, 5], [1, 2, 4, 5, 13], [1, 2, 4, 5, 13, 125], [1, 2, 4, 5, 13], [1, 2, 4, 5, 13, 14], [1, 2, 4, 5, 13, 14, 15], [1, 2, 4, 5, 13, 14, 15, 132], [1, 2, 4, 5, 13, 14, 15], [1, 2, 4, 5, 13, 14, 15], [1, 2, 4, 5, 13, 14, 16], [1, 2, 4, 5, 13, 14, 16], [1, 2, 4, 5, 13, 14, 16, 17], [1, 2, 4, 5, 13, 14, 16, 17, 18], [1, 2, 4, 5, 13, 14, 16, 17, 18, 157], [1, 2, 4, 5, 13, 14, 16, 17, 18], [1, 2, 4, 5, 13, 14, 16, 17, 18, 172], [1, 2, 4, 5, 13, 14, 16, 17, 18], [1, 2, 4, 5, 13], [2, 4], [2, 3]]
def w24 : FRow := ⟨24, 193, VC.seq
 (VC.reg [VI.ef (some 1) none (VEf.box 53 (Od.t 0)), VI.ef (some 2) none (VEf.alloc 44 [VV.sl none 0 0, VV.sl none 0 0, VV.sl none 0 0, VV.sl none 0 0, VV.sl none 0 0, VV.sl none 0 0, VV.sl none 0 0, VV.sl none 0 0]), VI.rd 3 none (VOp.mv (Od.c (VV.int (IntKind.i64) 0)))] [1, 2])
 (VC.seq
 (VC.seq
 (VC.reg [VI.rd 19 none (VOp.load 2 true (Od.t 1)), VI.call (some 20) none (Od.c (VV.fn 27 [])) [Od.t 19], VI.rd 21 none (VOp.not (Od.t 20))] [1, 2, 21])
 (VC.cond
 21
 (VC.seq
 (VC.reg
 [VI.rd 22 none (VOp.build [VV.sl none 0 0, VV.sl none 0 0, VV.sl none 0 0, VV.sl none 0 0, VV.sl none 0 0, VV.sl none 0 0, VV.sl none 0 0, VV.sl none 0 0] []), VI.ef none none (VEf.store 8 (Od.t 2) (Od.t 22)), VI.rd 3 none (VOp.mv (Od.c (VV.int (IntKind.i64) 1)))]
 [2, 3])
 (VC.ret))
 (VC.skip)))
 (VC.seq
 (VC.reg [VI.ef (some 4) none (VEf.alloc 44 [VV.sl none 0 0, VV.sl none 0 0, VV.sl none 0 0, VV.sl none 0 0, VV.sl none 0 0, VV.sl none 0 0, VV.sl none 0 0, VV.sl none 0 0])] [1, 2, 4])
 (VC.seq
 (VC.reg [VI.rd 5 none (VOp.mv (Od.c (VV.sl none 0 0)))] [1, 2, 4, 5])
 (VC.seq
 (VC.seq
 (VC.reg [VI.rd 6 none (VOp.mv (Od.c (VV.int (IntKind.i64) 0)))] [1, 2, 4, 5, 6])
 (VC.block
 0
 (VC.loop
 (VC.seq
 (VC.seq
 (VC.reg [VI.rd 23 none (VOp.mv (Od.t 6)), VI.rd 24 none (VOp.faddr 0 (Od.t 1)), VI.rd 25 none (VOp.load 1 false (Od.t 24)), VI.rd 26 none (VOp.lens (Od.t 25)), VI.rd 27 none (VOp.bin (BinOp.lss) (Od.t 23) (Od.t 26))] [1, 2, 4, 5, 6, 27])
 (VC.cond 27 (VC.skip) (VC.exit 0)))
 (VC.seq
 (VC.block
 1
 (VC.seq
 (VC.reg [VI.rd 7 none (VOp.mv (Od.c (VV.sl none 0 0)))] [1, 2, 4, 5, 6, 7])
 (VC.seq
 (VC.seq
 (VC.reg [VI.rd 8 none (VOp.mv (Od.c (VV.int (IntKind.i64) 0)))] [1, 2, 4, 5, 6, 7, 8])
 (VC.block
 2
 (VC.loop
 (VC.seq
 (VC.seq
 (VC.reg
 [VI.rd 30 none (VOp.mv (Od.t 8)),
 VI.rd 31 none (VOp.faddr 0 (Od.t 1)),
 VI.rd 32 none (VOp.load 1 false (Od.t 31)),
 VI.rd 33 none (VOp.mv (Od.t 6)),
 VI.rd 34 none (VOp.ixa 1 (Od.t 32) (Od.t 33)),
 VI.rd 35 none (VOp.load 1 false (Od.t 34)),
 VI.rd 36 none (VOp.lens (Od.t 35)),
 VI.rd 37 none (VOp.bin (BinOp.lss) (Od.t 30) (Od.t 36))]
 [1, 2, 4, 5, 6, 7, 8, 37])
 (VC.cond 37 (VC.skip) (VC.exit 2)))
 (VC.seq
 (VC.block
 3
 (VC.seq
 (VC.reg
 [VI.rd 40 none (VOp.faddr 0 (Od.t 1)),
 VI.rd 41 none (VOp.load 1 false (Od.t 40)),
 VI.rd 42 none (VOp.mv (Od.t 6)),
 VI.rd 43 none (VOp.ixa 1 (Od.t 41) (Od.t 42)),
 VI.rd 44 none (VOp.load 1 false (Od.t 43)),
 VI.rd 45 none (VOp.mv (Od.t 8)),
 VI.rd 46 none (VOp.ixa 2 (Od.t 44) (Od.t 45)),
 VI.rd 47 none (VOp.faddr 0 (Od.t 46)),
 VI.rd 48 none (VOp.load 1 false (Od.t 47)),
 VI.rd 49 none (VOp.bin (BinOp.eql) (Od.t 48) (Od.c (VV.int (IntKind.i64) 2)))]
 [1, 2, 4, 5, 6, 7, 8, 49])
 (VC.cond
 49
 (VC.reg
 [VI.rd 50 none (VOp.mv (Od.t 7)),
 VI.rd 51 none (VOp.faddr 0 (Od.t 1)),
 VI.rd 52 none (VOp.load 1 false (Od.t 51)),
 VI.rd 53 none (VOp.mv (Od.t 6)),
 VI.rd 54 none (VOp.ixa 1 (Od.t 52) (Od.t 53)),
 VI.rd 55 none (VOp.load 1 false (Od.t 54)),
 VI.rd 56 none (VOp.mv (Od.t 8)),
 VI.rd 57 none (VOp.ixa 2 (Od.t 55) (Od.t 56)),
 VI.rd 58 none (VOp.faddr 1 (Od.t 57)),
 VI.rd 59 none (VOp.load 1 false (Od.t 58)),
 VI.ef (some 60) none (VEf.mkrow 3 [VV.int (IntKind.i64) 0] 1 [(0, Od.t 59)]),
 VI.ef (some 61) none (VEf.app 3 1 8 (Od.t 50) (Od.t 60)),
 VI.rd 7 none (VOp.mv (Od.t 61))]
 [1, 2, 4, 5, 6, 7, 8])
 (VC.skip))))
 (VC.reg [VI.rd 38 none (VOp.mv (Od.t 8)), VI.rd 39 none (VOp.bin (BinOp.add) (Od.t 38) (Od.c (VV.int (IntKind.i64) 1))), VI.rd 8 none (VOp.mv (Od.t 39))] [1, 2, 4, 5, 6, 7, 8]))))))
 (VC.seq
 (VC.reg [VI.rd 62 none (VOp.mv (Od.t 7)), VI.call (some 63) none (Od.c (VV.fn 43 [])) [Od.t 62], VI.rd 9 none (VOp.mv (Od.t 63))] [1, 2, 4, 5, 6, 9])
 (VC.seq
 (VC.reg
 [VI.rd 64 none (VOp.faddr 0 (Od.t 4)),
 VI.rd 65 none (VOp.load 1 false (Od.t 64)),
 VI.rd 66 none (VOp.mv (Od.t 9)),
 VI.ef (some 67) none (VEf.mkrow 3 [VV.int (IntKind.i64) 0] 1 [(0, Od.t 66)]),
 VI.ef (some 68) none (VEf.app 3 1 8 (Od.t 65) (Od.t 67)),
 VI.rd 69 none (VOp.faddr 0 (Od.t 4)),
 VI.ef none none (VEf.store 1 (Od.t 69) (Od.t 68))]
 [1, 2, 4, 5, 6, 9])
 (VC.seq
 (VC.reg [VI.rd 10 none (VOp.mv (Od.c (VV.sl none 0 0)))] [1, 2, 4, 5, 6, 9, 10])
 (VC.seq
 (VC.seq
 (VC.reg [VI.rd 11 none (VOp.mv (Od.c (VV.int (IntKind.i64) 0)))] [1, 2, 4, 5, 6, 9, 10, 11])
 (VC.block
 4
 (VC.loop
 (VC.seq
 (VC.seq
 (VC.reg
 [VI.rd 70 none (VOp.mv (Od.t 11)),
 VI.rd 71 none (VOp.faddr 0 (Od.t 1)),
 VI.rd 72 none (VOp.load 1 false (Od.t 71)),
 VI.rd 73 none (VOp.mv (Od.t 6)),
 VI.rd 74 none (VOp.ixa 1 (Od.t 72) (Od.t 73)),
 VI.rd 75 none (VOp.load 1 false (Od.t 74)),
 VI.rd 76 none (VOp.lens (Od.t 75)),
 VI.rd 77 none (VOp.bin (BinOp.lss) (Od.t 70) (Od.t 76))]
 [1, 2, 4, 5, 6, 9, 10, 11, 77])
 (VC.cond 77 (VC.skip) (VC.exit 4)))
 (VC.seq
 (VC.block
 5
 (VC.seq
 (VC.reg
 [VI.rd 80 none (VOp.faddr 0 (Od.t 1)),
 VI.rd 81 none (VOp.load 1 false (Od.t 80)),
 VI.rd 82 none (VOp.mv (Od.t 6)),
 VI.rd 83 none (VOp.ixa 1 (Od.t 81) (Od.t 82)),
 VI.rd 84 none (VOp.load 1 false (Od.t 83)),
 VI.rd 85 none (VOp.mv (Od.t 11)),
 VI.rd 86 none (VOp.ixa 2 (Od.t 84) (Od.t 85)),
 VI.rd 87 none (VOp.load 2 true (Od.t 86)),
 VI.ef (some 12) none (VEf.alloc 46 [VV.int (IntKind.i64) 0, VV.int (IntKind.i64) 0]),
 VI.ef none none (VEf.store 2 (Od.t 12) (Od.t 87))]
 [1, 2, 4, 5, 6, 9, 10, 11, 12])
 (VC.seq
 (VC.reg
 [VI.rd 88 none (VOp.faddr 0 (Od.t 12)),
 VI.rd 89 none (VOp.load 1 false (Od.t 88)),
 VI.rd 90 none (VOp.bin (BinOp.neq) (Od.t 89) (Od.c (VV.int (IntKind.i64) 0))),
 VI.rd 91 none (VOp.mv (Od.t 90)),
 VI.rd 92 (some (91, true)) (VOp.faddr 0 (Od.t 12)),
 VI.rd 93 (some (91, true)) (VOp.load 1 false (Od.t 92)),
 VI.rd 94 (some (91, true)) (VOp.bin (BinOp.neq) (Od.t 93) (Od.c (VV.int (IntKind.i64) 2))),
 VI.rd 95 (some (91, true)) (VOp.mv (Od.t 94)),
 VI.rd 96 (some (95, false)) (VOp.faddr 1 (Od.t 12)),
 VI.rd 97 (some (95, false)) (VOp.load 1 false (Od.t 96)),
 VI.rd 98 (some (95, false)) (VOp.mv (Od.t 9)),
 VI.rd 99 (some (95, false)) (VOp.bin (BinOp.neq) (Od.t 97) (Od.t 98)),
 VI.rd 100 (some (91, true)) (VOp.pick (Od.t 95) (Od.c (VV.bool true)) (Od.t 99)),
 VI.rd 101 none (VOp.pick (Od.t 91) (Od.t 100) (Od.c (VV.bool false)))]
 [1, 2, 4, 5, 6, 9, 10, 11, 12, 101])
 (VC.cond
 101
 (VC.reg
 [VI.rd 102 none (VOp.mv (Od.t 10)),
 VI.rd 103 none (VOp.mv (Od.t 11)),
 VI.rd 104 none (VOp.load 2 true (Od.t 12)),
 VI.call (some 105) none (Od.c (VV.fn 44 [])) [Od.t 104],
 VI.rd 106 none (VOp.build [VV.int (IntKind.i64) 0, VV.int (IntKind.i64) 0] [(0, 1, Od.t 103), (1, 1, Od.t 105)]),
 VI.ef (some 107) none (VEf.mkrow 42 [VV.int (IntKind.i64) 0, VV.int (IntKind.i64) 0] 1 [(0, Od.t 106)]),
 VI.ef (some 108) none (VEf.app 42 2 16 (Od.t 102) (Od.t 107)),
 VI.rd 10 none (VOp.mv (Od.t 108))]
 [1, 2, 4, 5, 6, 9, 10, 11])
 (VC.skip)))))
 (VC.reg [VI.rd 78 none (VOp.mv (Od.t 11)), VI.rd 79 none (VOp.bin (BinOp.add) (Od.t 78) (Od.c (VV.int (IntKind.i64) 1))), VI.rd 11 none (VOp.mv (Od.t 79))] [1, 2, 4, 5, 6, 9, 10, 11]))))))
 (VC.reg
 [VI.rd 109 none (VOp.mv (Od.t 5)), VI.rd 110 none (VOp.mv (Od.t 10)), VI.ef (some 111) none (VEf.mkrow 40 [VV.sl none 0 0] 1 [(0, Od.t 110)]), VI.ef (some 112) none (VEf.app 40 1 24 (Od.t 109) (Od.t 111)), VI.rd 5 none (VOp.mv (Od.t 112))]
 [1, 2, 4, 5, 6]))))))))
 (VC.reg [VI.rd 28 none (VOp.mv (Od.t 6)), VI.rd 29 none (VOp.bin (BinOp.add) (Od.t 28) (Od.c (VV.int (IntKind.i64) 1))), VI.rd 6 none (VOp.mv (Od.t 29))] [1, 2, 4, 5, 6]))))))
 (VC.seq
 (VC.reg
 [VI.rd 114 none (VOp.mv (Od.t 5)),
 VI.call (some 115) none (Od.c (VV.fn 11 [])) [Od.t 114],
 VI.rd 113 none (VOp.mv (Od.t 115)),
 VI.rd 116 none (VOp.ext 0 (Od.t 113)),
 VI.rd 117 none (VOp.ext 1 (Od.t 113)),
 VI.rd 118 none (VOp.faddr 1 (Od.t 4)),
 VI.ef none none (VEf.store 3 (Od.t 118) (Od.t 116))]
 [1, 2, 4])
 (VC.seq
 (VC.reg [VI.rd 5 none (VOp.mv (Od.c (VV.sl none 0 0)))] [1, 2, 4, 5])
 (VC.seq
 (VC.seq
 (VC.reg [VI.rd 13 none (VOp.mv (Od.c (VV.int (IntKind.i64) 0)))] [1, 2, 4, 5, 13])
 (VC.block
 6
 (VC.loop
 (VC.seq
 (VC.seq
 (VC.reg
 [VI.rd 119 none (VOp.mv (Od.t 13)),
 VI.rd 120 none (VOp.faddr 1 (Od.t 1)),
 VI.rd 121 none (VOp.load 1 false (Od.t 120)),
 VI.rd 122 none (VOp.ixa 1 (Od.t 121) (Od.c (VV.int (IntKind.i64) 0))),
 VI.rd 123 none (VOp.load 1 false (Od.t 122)),
 VI.rd 124 none (VOp.lens (Od.t 123)),
 VI.rd 125 none (VOp.bin (BinOp.lss) (Od.t 119) (Od.t 124))]
 [1, 2, 4, 5, 13, 125])
 (VC.cond 125 (VC.skip) (VC.exit 6)))
 (VC.seq
 (VC.block
 7
 (VC.seq
 (VC.reg [VI.rd 14 none (VOp.mv (Od.c (VV.sl none 0 0)))] [1, 2, 4, 5, 13, 14])
 (VC.seq
 (VC.seq
 (VC.reg [VI.rd 15 none (VOp.mv (Od.c (VV.int (IntKind.i64) 0)))] [1, 2, 4, 5, 13, 14, 15])
 (VC.block
 8
 (VC.loop
 (VC.seq
 (VC.seq
 (VC.reg
 [VI.rd 128 none (VOp.mv (Od.t 15)), VI.rd 129 none (VOp.faddr 1 (Od.t 1)), VI.rd 130 none (VOp.load 1 false (Od.t 129)), VI.rd 131 none (VOp.lens (Od.t 130)), VI.rd 132 none (VOp.bin (BinOp.lss) (Od.t 128) (Od.t 131))]
 [1, 2, 4, 5, 13, 14, 15, 132])
 (VC.cond 132 (VC.skip) (VC.exit 8)))
 (VC.seq
 (VC.block
 9
 (VC.reg
 [VI.rd 135 none (VOp.mv (Od.t 14)),
 VI.rd 136 none (VOp.faddr 1 (Od.t 1)),
 VI.rd 137 none (VOp.load 1 false (Od.t 136)),
 VI.rd 138 none (VOp.mv (Od.t 15)),
 VI.rd 139 none (VOp.ixa 1 (Od.t 137) (Od.t 138)),
 VI.rd 140 none (VOp.load 1 false (Od.t 139)),
 VI.rd 141 none (VOp.mv (Od.t 13)),
 VI.rd 142 none (VOp.ixa 1 (Od.t 140) (Od.t 141)),
 VI.rd 143 none (VOp.load 1 false (Od.t 142)),
 VI.ef (some 144) none (VEf.mkrow 3 [VV.int (IntKind.i64) 0] 1 [(0, Od.t 143)]),
 VI.ef (some 145) none (VEf.app 3 1 8 (Od.t 135) (Od.t 144)),
 VI.rd 14 none (VOp.mv (Od.t 145))]
 [1, 2, 4, 5, 13, 14, 15]))
 (VC.reg [VI.rd 133 none (VOp.mv (Od.t 15)), VI.rd 134 none (VOp.bin (BinOp.add) (Od.t 133) (Od.c (VV.int (IntKind.i64) 1))), VI.rd 15 none (VOp.mv (Od.t 134))] [1, 2, 4, 5, 13, 14, 15]))))))
 (VC.seq
 (VC.reg [VI.rd 146 none (VOp.mv (Od.t 14)), VI.call (some 147) none (Od.c (VV.fn 43 [])) [Od.t 146], VI.rd 16 none (VOp.mv (Od.t 147))] [1, 2, 4, 5, 13, 14, 16])
 (VC.seq
 (VC.reg
 [VI.rd 148 none (VOp.faddr 4 (Od.t 4)),
 VI.rd 149 none (VOp.load 1 false (Od.t 148)),
 VI.rd 150 none (VOp.mv (Od.t 16)),
 VI.ef (some 151) none (VEf.mkrow 3 [VV.int (IntKind.i64) 0] 1 [(0, Od.t 150)]),
 VI.ef (some 152) none (VEf.app 3 1 8 (Od.t 149) (Od.t 151)),
 VI.rd 153 none (VOp.faddr 4 (Od.t 4)),
 VI.ef none none (VEf.store 1 (Od.t 153) (Od.t 152))]
 [1, 2, 4, 5, 13, 14, 16])
 (VC.seq
 (VC.reg [VI.rd 17 none (VOp.mv (Od.c (VV.sl none 0 0)))] [1, 2, 4, 5, 13, 14, 16, 17])
 (VC.seq
 (VC.seq
 (VC.reg [VI.rd 18 none (VOp.mv (Od.c (VV.int (IntKind.i64) 0)))] [1, 2, 4, 5, 13, 14, 16, 17, 18])
 (VC.block
 10
 (VC.loop
 (VC.seq
 (VC.seq
 (VC.reg [VI.rd 154 none (VOp.mv (Od.t 18)), VI.rd 155 none (VOp.mv (Od.t 14)), VI.rd 156 none (VOp.lens (Od.t 155)), VI.rd 157 none (VOp.bin (BinOp.lss) (Od.t 154) (Od.t 156))] [1, 2, 4, 5, 13, 14, 16, 17, 18, 157])
 (VC.cond 157 (VC.skip) (VC.exit 10)))
 (VC.seq
 (VC.block
 11
 (VC.seq
 (VC.reg
 [VI.rd 160 none (VOp.mv (Od.t 14)),
 VI.rd 161 none (VOp.mv (Od.t 18)),
 VI.rd 162 none (VOp.ixa 1 (Od.t 160) (Od.t 161)),
 VI.rd 163 none (VOp.load 1 false (Od.t 162)),
 VI.rd 164 none (VOp.bin (BinOp.geq) (Od.t 163) (Od.c (VV.int (IntKind.i64) 0))),
 VI.rd 165 none (VOp.mv (Od.t 164)),
 VI.rd 166 (some (165, true)) (VOp.mv (Od.t 14)),
 VI.rd 167 (some (165, true)) (VOp.mv (Od.t 18)),
 VI.rd 168 (some (165, true)) (VOp.ixa 1 (Od.t 166) (Od.t 167)),
 VI.rd 169 (some (165, true)) (VOp.load 1 false (Od.t 168)),
 VI.rd 170 (some (165, true)) (VOp.mv (Od.t 16)),
 VI.rd 171 (some (165, true)) (VOp.bin (BinOp.neq) (Od.t 169) (Od.t 170)),
 VI.rd 172 none (VOp.pick (Od.t 165) (Od.t 171) (Od.c (VV.bool false)))]
 [1, 2, 4, 5, 13, 14, 16, 17, 18, 172])
 (VC.cond
 172
 (VC.reg
 [VI.rd 173 none (VOp.mv (Od.t 17)),
 VI.rd 174 none (VOp.mv (Od.t 18)),
 VI.rd 175 none (VOp.mv (Od.t 14)),
 VI.rd 176 none (VOp.mv (Od.t 18)),
 VI.rd 177 none (VOp.ixa 1 (Od.t 175) (Od.t 176)),
 VI.rd 178 none (VOp.load 1 false (Od.t 177)),
 VI.rd 179 none (VOp.build [VV.int (IntKind.i64) 0, VV.int (IntKind.i64) 0] [(0, 1, Od.t 174), (1, 1, Od.t 178)]),
 VI.ef (some 180) none (VEf.mkrow 42 [VV.int (IntKind.i64) 0, VV.int (IntKind.i64) 0] 1 [(0, Od.t 179)]),
 VI.ef (some 181) none (VEf.app 42 2 16 (Od.t 173) (Od.t 180)),
 VI.rd 17 none (VOp.mv (Od.t 181))]
 [1, 2, 4, 5, 13, 14, 16, 17, 18])
 (VC.skip))))
 (VC.reg [VI.rd 158 none (VOp.mv (Od.t 18)), VI.rd 159 none (VOp.bin (BinOp.add) (Od.t 158) (Od.c (VV.int (IntKind.i64) 1))), VI.rd 18 none (VOp.mv (Od.t 159))] [1, 2, 4, 5, 13, 14, 16, 17, 18]))))))
 (VC.reg
 [VI.rd 182 none (VOp.mv (Od.t 5)), VI.rd 183 none (VOp.mv (Od.t 17)), VI.ef (some 184) none (VEf.mkrow 40 [VV.sl none 0 0] 1 [(0, Od.t 183)]), VI.ef (some 185) none (VEf.app 40 1 24 (Od.t 182) (Od.t 184)), VI.rd 5 none (VOp.mv (Od.t 185))]
 [1, 2, 4, 5, 13]))))))))
 (VC.reg [VI.rd 126 none (VOp.mv (Od.t 13)), VI.rd 127 none (VOp.bin (BinOp.add) (Od.t 126) (Od.c (VV.int (IntKind.i64) 1))), VI.rd 13 none (VOp.mv (Od.t 127))] [1, 2, 4, 5, 13]))))))
 (VC.seq
 (VC.reg
 [VI.rd 187 none (VOp.mv (Od.t 5)),
 VI.call (some 188) none (Od.c (VV.fn 11 [])) [Od.t 187],
 VI.rd 186 none (VOp.mv (Od.t 188)),
 VI.rd 189 none (VOp.ext 0 (Od.t 186)),
 VI.rd 190 none (VOp.ext 1 (Od.t 186)),
 VI.rd 191 none (VOp.faddr 5 (Od.t 4)),
 VI.ef none none (VEf.store 3 (Od.t 191) (Od.t 189))]
 [2, 4])
 (VC.seq (VC.reg [VI.rd 192 none (VOp.load 8 true (Od.t 4)), VI.ef none none (VEf.store 8 (Od.t 2) (Od.t 192)), VI.rd 3 none (VOp.mv (Od.c (VV.int (IntKind.i64) 0)))] [2, 3]) (VC.ret)))))))))),
 [RV.c 2 8 true, RV.t 3]⟩
theorem ok24 : w24.Ok Try.prog := FRow.ok_of (fn := Try.f24) (ks := k24) (by kernel_rfl) (by kernel_rfl) (by kernel_rfl) (by kernel_rfl) (by kernel_rfl)
def k25 : List (List Nat) := [[2, 3], [4]]
def w25 : FRow := ⟨25, 31, VC.seq
 (VC.reg [VI.ef (some 2) none (VEf.box 44 (Od.t 0)), VI.ef (some 3) none (VEf.box 44 (Od.t 1)), VI.rd 4 none (VOp.mv (Od.c (VV.bool false)))] [2, 3])
 (VC.seq
 (VC.reg
 [VI.rd 5 none (VOp.faddr 0 (Od.t 2)),
 VI.rd 6 none (VOp.load 1 false (Od.t 5)),
 VI.rd 7 none (VOp.faddr 0 (Od.t 3)),
 VI.rd 8 none (VOp.load 1 false (Od.t 7)),
 VI.call (some 9) none (Od.c (VV.fn 36 [])) [Od.t 6, Od.t 8],
 VI.rd 10 none (VOp.mv (Od.t 9)),
 VI.rd 11 (some (10, true)) (VOp.faddr 1 (Od.t 2)),
 VI.rd 12 (some (10, true)) (VOp.load 3 true (Od.t 11)),
 VI.rd 13 (some (10, true)) (VOp.faddr 1 (Od.t 3)),
 VI.rd 14 (some (10, true)) (VOp.load 3 true (Od.t 13)),
 VI.call (some 15) (some (10, true)) (Od.c (VV.fn 12 [])) [Od.t 12, Od.t 14],
 VI.rd 16 none (VOp.pick (Od.t 10) (Od.t 15) (Od.c (VV.bool false))),
 VI.rd 17 none (VOp.mv (Od.t 16)),
 VI.rd 18 (some (17, true)) (VOp.faddr 4 (Od.t 2)),
 VI.rd 19 (some (17, true)) (VOp.load 1 false (Od.t 18)),
 VI.rd 20 (some (17, true)) (VOp.faddr 4 (Od.t 3)),
 VI.rd 21 (some (17, true)) (VOp.load 1 false (Od.t 20)),
 VI.call (some 22) (some (17, true)) (Od.c (VV.fn 36 [])) [Od.t 19, Od.t 21],
 VI.rd 23 none (VOp.pick (Od.t 17) (Od.t 22) (Od.c (VV.bool false))),
 VI.rd 24 none (VOp.mv (Od.t 23)),
 VI.rd 25 (some (24, true)) (VOp.faddr 5 (Od.t 2)),
 VI.rd 26 (some (24, true)) (VOp.load 3 true (Od.t 25)),
 VI.rd 27 (some (24, true)) (VOp.faddr 5 (Od.t 3)),
 VI.rd 28 (some (24, true)) (VOp.load 3 true (Od.t 27)),
 VI.call (some 29) (some (24, true)) (Od.c (VV.fn 12 [])) [Od.t 26, Od.t 28],
 VI.rd 30 none (VOp.pick (Od.t 24) (Od.t 29) (Od.c (VV.bool false))),
 VI.rd 4 none (VOp.mv (Od.t 30))]
 [4])
 (VC.ret)),
 [RV.t 4]⟩
theorem ok25 : w25.Ok Try.prog := FRow.ok_of (fn := Try.f25) (ks := k25) (by kernel_rfl) (by kernel_rfl) (by kernel_rfl) (by kernel_rfl) (by kernel_rfl)
def k26 : List (List Nat) := [[2, 3], [2, 3, 24], [4], [2, 3, 5], [2, 3, 5, 29], [2, 3, 5], [2, 3, 5, 44], [4], [2, 3, 5, 6], [2, 3, 5, 6, 52], [2, 3, 5, 6], [2, 3, 5, 6, 71], [4], [2, 3, 7], [2, 3, 7, 76], [2, 3, 7], [2, 3, 7, 91], [4], [2, 3, 7, 8], [2, 3, 7, 8, 99], [2, 3, 7, 8], [2, 3, 7, 8, 118], [4], [4]]
def w26 : FRow := ⟨26, 119, VC.seq
 (VC.reg [VI.ef (some 2) none (VEf.box 53 (Od.t 0)), VI.ef (some 3) none (VEf.box 53 (Od.t 1)), VI.rd 4 none (VOp.mv (Od.c (VV.bool false)))] [2, 3])
 (VC.seq
 (VC.seq
 (VC.reg
 [VI.rd 9 none (VOp.faddr 0 (Od.t 2)),
 VI.rd 10 none (VOp.load 1 false (Od.t 9)),
 VI.rd 11 none (VOp.lens (Od.t 10)),
 VI.rd 12 none (VOp.faddr 0 (Od.t 3)),
 VI.rd 13 none (VOp.load 1 false (Od.t 12)),
 VI.rd 14 none (VOp.lens (Od.t 13)),
 VI.rd 15 none (VOp.bin (BinOp.neq) (Od.t 11) (Od.t 14)),
 VI.rd 16 none (VOp.mv (Od.t 15)),
 VI.rd 17 (some (16, false)) (VOp.faddr 1 (Od.t 2)),
 VI.rd 18 (some (16, false)) (VOp.load 1 false (Od.t 17)),
 VI.rd 19 (some (16, false)) (VOp.lens (Od.t 18)),
 VI.rd 20 (some (16, false)) (VOp.faddr 1 (Od.t 3)),
 VI.rd 21 (some (16, false)) (VOp.load 1 false (Od.t 20)),
 VI.rd 22 (some (16, false)) (VOp.lens (Od.t 21)),
 VI.rd 23 (some (16, false)) (VOp.bin (BinOp.neq) (Od.t 19) (Od.t 22)),
 VI.rd 24 none (VOp.pick (Od.t 16) (Od.c (VV.bool true)) (Od.t 23))]
 [2, 3, 24])
 (VC.cond 24 (VC.seq (VC.reg [VI.rd 4 none (VOp.mv (Od.c (VV.bool false)))] [4]) (VC.ret)) (VC.skip)))
 (VC.seq
 (VC.seq
 (VC.reg [VI.rd 5 none (VOp.mv (Od.c (VV.int (IntKind.i64) 0)))] [2, 3, 5])
 (VC.block
 0
 (VC.loop
 (VC.seq
 (VC.seq
 (VC.reg [VI.rd 25 none (VOp.mv (Od.t 5)), VI.rd 26 none (VOp.faddr 0 (Od.t 2)), VI.rd 27 none (VOp.load 1 false (Od.t 26)), VI.rd 28 none (VOp.lens (Od.t 27)), VI.rd 29 none (VOp.bin (BinOp.lss) (Od.t 25) (Od.t 28))] [2, 3, 5, 29])
 (VC.cond 29 (VC.skip) (VC.exit 0)))
 (VC.seq
 (VC.block
 1
 (VC.seq
 (VC.seq
 (VC.dreg
 [VI.rd 32 none (VOp.faddr 0 (Od.t 2)),
 VI.rd 33 none (VOp.load 1 false (Od.t 32)),
 VI.rd 34 none (VOp.mv (Od.t 5)),
 VI.rd 35 none (VOp.ixa 1 (Od.t 33) (Od.t 34)),
 VI.rd 36 none (VOp.load 1 false (Od.t 35)),
 VI.rd 37 none (VOp.lens (Od.t 36)),
 VI.rd 38 none (VOp.faddr 0 (Od.t 3)),
 VI.rd 39 none (VOp.load 1 false (Od.t 38)),
 VI.rd 40 none (VOp.mv (Od.t 5)),
 VI.rd 41 none (VOp.ixa 1 (Od.t 39) (Od.t 40)),
 VI.rd 42 none (VOp.load 1 false (Od.t 41)),
 VI.rd 43 none (VOp.lens (Od.t 42)),
 VI.rd 44 none (VOp.bin (BinOp.neq) (Od.t 37) (Od.t 43))]
 [(0, 0), (0, 0), (0, 0), (0, 0), (0, 0), (0, 0), (0, 0), (0, 0), (0, 0), (0, 0), (0, 0), (0, 0), (0, 0)]
 [2, 3, 5, 44])
 (VC.cond 44 (VC.seq (VC.reg [VI.rd 4 none (VOp.mv (Od.c (VV.bool false)))] [4]) (VC.ret)) (VC.skip)))
 (VC.seq
 (VC.reg [VI.rd 6 none (VOp.mv (Od.c (VV.int (IntKind.i64) 0)))] [2, 3, 5, 6])
 (VC.block
 2
 (VC.loop
 (VC.seq
 (VC.seq
 (VC.reg
 [VI.rd 45 none (VOp.mv (Od.t 6)),
 VI.rd 46 none (VOp.faddr 0 (Od.t 2)),
 VI.rd 47 none (VOp.load 1 false (Od.t 46)),
 VI.rd 48 none (VOp.mv (Od.t 5)),
 VI.rd 49 none (VOp.ixa 1 (Od.t 47) (Od.t 48)),
 VI.rd 50 none (VOp.load 1 false (Od.t 49)),
 VI.rd 51 none (VOp.lens (Od.t 50)),
 VI.rd 52 none (VOp.bin (BinOp.lss) (Od.t 45) (Od.t 51))]
 [2, 3, 5, 6, 52])
 (VC.cond 52 (VC.skip) (VC.exit 2)))
 (VC.seq
 (VC.block
 3
 (VC.seq
 (VC.dreg
 [VI.rd 55 none (VOp.faddr 0 (Od.t 2)),
 VI.rd 56 none (VOp.load 1 false (Od.t 55)),
 VI.rd 57 none (VOp.mv (Od.t 5)),
 VI.rd 58 none (VOp.ixa 1 (Od.t 56) (Od.t 57)),
 VI.rd 59 none (VOp.load 1 false (Od.t 58)),
 VI.rd 60 none (VOp.mv (Od.t 6)),
 VI.rd 61 none (VOp.ixa 2 (Od.t 59) (Od.t 60)),
 VI.rd 62 none (VOp.load 2 true (Od.t 61)),
 VI.rd 63 none (VOp.faddr 0 (Od.t 3)),
 VI.rd 64 none (VOp.load 1 false (Od.t 63)),
 VI.rd 65 none (VOp.mv (Od.t 5)),
 VI.rd 66 none (VOp.ixa 1 (Od.t 64) (Od.t 65)),
 VI.rd 67 none (VOp.load 1 false (Od.t 66)),
 VI.rd 68 none (VOp.mv (Od.t 6)),
 VI.rd 69 none (VOp.ixa 2 (Od.t 67) (Od.t 68)),
 VI.rd 70 none (VOp.load 2 true (Od.t 69)),
 VI.rd 71 none (VOp.aeq true [0, 0] (Od.t 62) (Od.t 70))]
 [(0, 0), (0, 0), (0, 0), (0, 0), (0, 0), (0, 0), (0, 0), (0, 0), (0, 0), (0, 0), (0, 0), (0, 0), (0, 0), (0, 0), (0, 0), (0, 0), (0, 0)]
 [2, 3, 5, 6, 71])
 (VC.cond 71 (VC.seq (VC.reg [VI.rd 4 none (VOp.mv (Od.c (VV.bool false)))] [4]) (VC.ret)) (VC.skip))))
 (VC.reg [VI.rd 53 none (VOp.mv (Od.t 6)), VI.rd 54 none (VOp.bin (BinOp.add) (Od.t 53) (Od.c (VV.int (IntKind.i64) 1))), VI.rd 6 none (VOp.mv (Od.t 54))] [2, 3, 5, 6]))))))))
 (VC.reg [VI.rd 30 none (VOp.mv (Od.t 5)), VI.rd 31 none (VOp.bin (BinOp.add) (Od.t 30) (Od.c (VV.int (IntKind.i64) 1))), VI.rd 5 none (VOp.mv (Od.t 31))] [2, 3, 5]))))))
 (VC.seq
 (VC.seq
 (VC.reg [VI.rd 7 none (VOp.mv (Od.c (VV.int (IntKind.i64) 0)))] [2, 3, 7])
 (VC.block
 4
 (VC.loop
 (VC.seq
 (VC.seq
 (VC.reg [VI.rd 72 none (VOp.mv (Od.t 7)), VI.rd 73 none (VOp.faddr 1 (Od.t 2)), VI.rd 74 none (VOp.load 1 false (Od.t 73)), VI.rd 75 none (VOp.lens (Od.t 74)), VI.rd 76 none (VOp.bin (BinOp.lss) (Od.t 72) (Od.t 75))] [2, 3, 7, 76])
 (VC.cond 76 (VC.skip) (VC.exit 4)))
 (VC.seq
 (VC.block
 5
 (VC.seq
 (VC.seq
 (VC.dreg
 [VI.rd 79 none (VOp.faddr 1 (Od.t 2)),
 VI.rd 80 none (VOp.load 1 false (Od.t 79)),
 VI.rd 81 none (VOp.mv (Od.t 7)),
 VI.rd 82 none (VOp.ixa 1 (Od.t 80) (Od.t 81)),
 VI.rd 83 none (VOp.load 1 false (Od.t 82)),
 VI.rd 84 none (VOp.lens (Od.t 83)),
 VI.rd 85 none (VOp.faddr 1 (Od.t 3)),
 VI.rd 86 none (VOp.load 1 false (Od.t 85)),
 VI.rd 87 none (VOp.mv (Od.t 7)),
 VI.rd 88 none (VOp.ixa 1 (Od.t 86) (Od.t 87)),
 VI.rd 89 none (VOp.load 1 false (Od.t 88)),
 VI.rd 90 none (VOp.lens (Od.t 89)),
 VI.rd 91 none (VOp.bin (BinOp.neq) (Od.t 84) (Od.t 90))]
 [(0, 0), (0, 0), (0, 0), (0, 0), (0, 0), (0, 0), (0, 0), (0, 0), (0, 0), (0, 0), (0, 0), (0, 0), (0, 0)]
 [2, 3, 7, 91])
 (VC.cond 91 (VC.seq (VC.reg [VI.rd 4 none (VOp.mv (Od.c (VV.bool false)))] [4]) (VC.ret)) (VC.skip)))
 (VC.seq
 (VC.reg [VI.rd 8 none (VOp.mv (Od.c (VV.int (IntKind.i64) 0)))] [2, 3, 7, 8])
 (VC.block
 6
 (VC.loop
 (VC.seq
 (VC.seq
 (VC.reg
 [VI.rd 92 none (VOp.mv (Od.t 8)),
 VI.rd 93 none (VOp.faddr 1 (Od.t 2)),
 VI.rd 94 none (VOp.load 1 false (Od.t 93)),
 VI.rd 95 none (VOp.mv (Od.t 7)),
 VI.rd 96 none (VOp.ixa 1 (Od.t 94) (Od.t 95)),
 VI.rd 97 none (VOp.load 1 false (Od.t 96)),
 VI.rd 98 none (VOp.lens (Od.t 97)),
 VI.rd 99 none (VOp.bin (BinOp.lss) (Od.t 92) (Od.t 98))]
 [2, 3, 7, 8, 99])
 (VC.cond 99 (VC.skip) (VC.exit 6)))
 (VC.seq
 (VC.block
 7
 (VC.seq
 (VC.dreg
 [VI.rd 102 none (VOp.faddr 1 (Od.t 2)),
 VI.rd 103 none (VOp.load 1 false (Od.t 102)),
 VI.rd 104 none (VOp.mv (Od.t 7)),
 VI.rd 105 none (VOp.ixa 1 (Od.t 103) (Od.t 104)),
 VI.rd 106 none (VOp.load 1 false (Od.t 105)),
 VI.rd 107 none (VOp.mv (Od.t 8)),
 VI.rd 108 none (VOp.ixa 1 (Od.t 106) (Od.t 107)),
 VI.rd 109 none (VOp.load 1 false (Od.t 108)),
 VI.rd 110 none (VOp.faddr 1 (Od.t 3)),
 VI.rd 111 none (VOp.load 1 false (Od.t 110)),
 VI.rd 112 none (VOp.mv (Od.t 7)),
 VI.rd 113 none (VOp.ixa 1 (Od.t 111) (Od.t 112)),
 VI.rd 114 none (VOp.load 1 false (Od.t 113)),
 VI.rd 115 none (VOp.mv (Od.t 8)),
 VI.rd 116 none (VOp.ixa 1 (Od.t 114) (Od.t 115)),
 VI.rd 117 none (VOp.load 1 false (Od.t 116)),
 VI.rd 118 none (VOp.bin (BinOp.neq) (Od.t 109) (Od.t 117))]
 [(0, 0), (0, 0), (0, 0), (0, 0), (0, 0), (0, 0), (0, 0), (0, 0), (0, 0), (0, 0), (0, 0), (0, 0), (0, 0), (0, 0), (0, 0), (0, 0), (0, 0)]
 [2, 3, 7, 8, 118])
 (VC.cond 118 (VC.seq (VC.reg [VI.rd 4 none (VOp.mv (Od.c (VV.bool false)))] [4]) (VC.ret)) (VC.skip))))
 (VC.reg [VI.rd 100 none (VOp.mv (Od.t 8)), VI.rd 101 none (VOp.bin (BinOp.add) (Od.t 100) (Od.c (VV.int (IntKind.i64) 1))), VI.rd 8 none (VOp.mv (Od.t 101))] [2, 3, 7, 8]))))))))
 (VC.reg [VI.rd 77 none (VOp.mv (Od.t 7)), VI.rd 78 none (VOp.bin (BinOp.add) (Od.t 77) (Od.c (VV.int (IntKind.i64) 1))), VI.rd 7 none (VOp.mv (Od.t 78))] [2, 3, 7]))))))
 (VC.seq (VC.reg [VI.rd 4 none (VOp.mv (Od.c (VV.bool true)))] [4]) (VC.ret))))),
 [RV.t 4]⟩
theorem ok26 : w26.Ok Try.prog := FRow.ok_of (fn := Try.f26) (ks := k26) (by kernel_rfl) (by kernel_rfl) (by kernel_rfl) (by kernel_rfl) (by kernel_rfl)
def k27 : List (List Nat) := [[1], [1, 3], [1, 3, 26], [2], [1, 3, 4], [1, 3, 4, 5], [1, 3, 4, 5, 50], [2], [1, 3, 4, 5, 6], [1, 3, 4, 5, 6, 53], [1, 3, 4, 5, 6], [1, 3, 4, 5, 6, 73], [2], [1, 3, 4, 5, 6, 7], [1, 3, 4, 5, 6, 7, 76], [1, 3, 4, 5, 6, 7], [1, 3, 4, 5, 6, 7, 8], [1, 3, 4, 5, 6, 7, 8, 9], [1, 3, 4, 5, 6, 7, 8, 9], [1, 3, 4, 5, 6, 7, 9], [1, 3, 4, 5, 6, 7, 139], [2], [1, 3, 4, 5, 6, 10], [1, 3, 4, 5, 6, 10, 142], [1, 3, 4, 5, 6, 10], [1, 3, 4, 5, 6, 10, 165], [2], [2]]
def w27 : FRow := ⟨27, 166, VC.seq
 (VC.reg [VI.ef (some 1) none (VEf.box 53 (Od.t 0)), VI.rd 2 none (VOp.mv (Od.c (VV.bool false)))] [1])
 (VC.seq
 (VC.reg [VI.rd 11 none (VOp.faddr 0 (Od.t 1)), VI.rd 12 none (VOp.load 1 false (Od.t 11)), VI.rd 13 none (VOp.lens (Od.t 12)), VI.rd 3 none (VOp.mv (Od.t 13))] [1, 3])
 (VC.seq
 (VC.seq
 (VC.reg
 [VI.rd 14 none (VOp.mv (Od.t 3)),
 VI.rd 15 none (VOp.bin (BinOp.lss) (Od.t 14) (Od.c (VV.int (IntKind.i64) 1))),
 VI.rd 16 none (VOp.mv (Od.t 15)),
 VI.rd 17 (some (16, false)) (VOp.mv (Od.t 3)),
 VI.rd 18 (some (16, false)) (VOp.bin (BinOp.gtr) (Od.t 17) (Od.c (VV.int (IntKind.i64) 256))),
 VI.rd 19 none (VOp.pick (Od.t 16) (Od.c (VV.bool true)) (Od.t 18)),
 VI.rd 20 none (VOp.mv (Od.t 19)),
 VI.rd 21 (some (20, false)) (VOp.faddr 1 (Od.t 1)),
 VI.rd 22 (some (20, false)) (VOp.load 1 false (Od.t 21)),
 VI.rd 23 (some (20, false)) (VOp.lens (Od.t 22)),
 VI.rd 24 (some (20, false)) (VOp.mv (Od.t 3)),
 VI.rd 25 (some (20, false)) (VOp.bin (BinOp.neq) (Od.t 23) (Od.t 24)),
 VI.rd 26 none (VOp.pick (Od.t 20) (Od.c (VV.bool true)) (Od.t 25))]
 [1, 3, 26])
 (VC.cond 26 (VC.seq (VC.reg [VI.rd 2 none (VOp.mv (Od.c (VV.bool false)))] [2]) (VC.ret)) (VC.skip)))
 (VC.seq
 (VC.reg
 [VI.rd 27 none (VOp.faddr 0 (Od.t 1)), VI.rd 28 none (VOp.load 1 false (Od.t 27)), VI.rd 29 none (VOp.ixa 1 (Od.t 28) (Od.c (VV.int (IntKind.i64) 0))), VI.rd 30 none (VOp.load 1 false (Od.t 29)), VI.rd 31 none (VOp.lens (Od.t 30)), VI.rd 4 none (VOp.mv (Od.t 31))]
 [1, 3, 4])
 (VC.seq
 (VC.reg
 [VI.rd 32 none (VOp.faddr 1 (Od.t 1)), VI.rd 33 none (VOp.load 1 false (Od.t 32)), VI.rd 34 none (VOp.ixa 1 (Od.t 33) (Od.c (VV.int (IntKind.i64) 0))), VI.rd 35 none (VOp.load 1 false (Od.t 34)), VI.rd 36 none (VOp.lens (Od.t 35)), VI.rd 5 none (VOp.mv (Od.t 36))]
 [1, 3, 4, 5])
 (VC.seq
 (VC.seq
 (VC.reg
 [VI.rd 37 none (VOp.mv (Od.t 4)),
 VI.rd 38 none (VOp.bin (BinOp.lss) (Od.t 37) (Od.c (VV.int (IntKind.i64) 1))),
 VI.rd 39 none (VOp.mv (Od.t 38)),
 VI.rd 40 (some (39, false)) (VOp.mv (Od.t 4)),
 VI.rd 41 (some (39, false)) (VOp.bin (BinOp.gtr) (Od.t 40) (Od.c (VV.int (IntKind.i64) 65))),
 VI.rd 42 none (VOp.pick (Od.t 39) (Od.c (VV.bool true)) (Od.t 41)),
 VI.rd 43 none (VOp.mv (Od.t 42)),
 VI.rd 44 (some (43, false)) (VOp.mv (Od.t 5)),
 VI.rd 45 (some (43, false)) (VOp.bin (BinOp.lss) (Od.t 44) (Od.c (VV.int (IntKind.i64) 1))),
 VI.rd 46 none (VOp.pick (Od.t 43) (Od.c (VV.bool true)) (Od.t 45)),
 VI.rd 47 none (VOp.mv (Od.t 46)),
 VI.rd 48 (some (47, false)) (VOp.mv (Od.t 5)),
 VI.rd 49 (some (47, false)) (VOp.bin (BinOp.gtr) (Od.t 48) (Od.c (VV.int (IntKind.i64) 65))),
 VI.rd 50 none (VOp.pick (Od.t 47) (Od.c (VV.bool true)) (Od.t 49))]
 [1, 3, 4, 5, 50])
 (VC.cond 50 (VC.seq (VC.reg [VI.rd 2 none (VOp.mv (Od.c (VV.bool false)))] [2]) (VC.ret)) (VC.skip)))
 (VC.seq
 (VC.seq
 (VC.reg [VI.rd 6 none (VOp.mv (Od.c (VV.int (IntKind.i64) 0)))] [1, 3, 4, 5, 6])
 (VC.block
 0
 (VC.loop
 (VC.seq
 (VC.seq (VC.reg [VI.rd 51 none (VOp.mv (Od.t 6)), VI.rd 52 none (VOp.mv (Od.t 3)), VI.rd 53 none (VOp.bin (BinOp.lss) (Od.t 51) (Od.t 52))] [1, 3, 4, 5, 6, 53]) (VC.cond 53 (VC.skip) (VC.exit 0)))
 (VC.seq
 (VC.block
 1
 (VC.seq
 (VC.seq
 (VC.reg
 [VI.rd 56 none (VOp.faddr 0 (Od.t 1)),
 VI.rd 57 none (VOp.load 1 false (Od.t 56)),
 VI.rd 58 none (VOp.mv (Od.t 6)),
 VI.rd 59 none (VOp.ixa 1 (Od.t 57) (Od.t 58)),
 VI.rd 60 none (VOp.load 1 false (Od.t 59)),
 VI.rd 61 none (VOp.lens (Od.t 60)),
 VI.rd 62 none (VOp.mv (Od.t 4)),
 VI.rd 63 none (VOp.bin (BinOp.neq) (Od.t 61) (Od.t 62)),
 VI.rd 64 none (VOp.mv (Od.t 63)),
 VI.rd 65 (some (64, false)) (VOp.faddr 1 (Od.t 1)),
 VI.rd 66 (some (64, false)) (VOp.load 1 false (Od.t 65)),
 VI.rd 67 (some (64, false)) (VOp.mv (Od.t 6)),
 VI.rd 68 (some (64, false)) (VOp.ixa 1 (Od.t 66) (Od.t 67)),
 VI.rd 69 (some (64, false)) (VOp.load 1 false (Od.t 68)),
 VI.rd 70 (some (64, false)) (VOp.lens (Od.t 69)),
 VI.rd 71 (some (64, false)) (VOp.mv (Od.t 5)),
 VI.rd 72 (some (64, false)) (VOp.bin (BinOp.neq) (Od.t 70) (Od.t 71)),
 VI.rd 73 none (VOp.pick (Od.t 64) (Od.c (VV.bool true)) (Od.t 72))]
 [1, 3, 4, 5, 6, 73])
 (VC.cond 73 (VC.seq (VC.reg [VI.rd 2 none (VOp.mv (Od.c (VV.bool false)))] [2]) (VC.ret)) (VC.skip)))
 (VC.seq
 (VC.seq
 (VC.reg [VI.rd 7 none (VOp.mv (Od.c (VV.int (IntKind.i64) 0)))] [1, 3, 4, 5, 6, 7])
 (VC.block
 2
 (VC.loop
 (VC.seq
 (VC.seq (VC.reg [VI.rd 74 none (VOp.mv (Od.t 7)), VI.rd 75 none (VOp.mv (Od.t 4)), VI.rd 76 none (VOp.bin (BinOp.lss) (Od.t 74) (Od.t 75))] [1, 3, 4, 5, 6, 7, 76]) (VC.cond 76 (VC.skip) (VC.exit 2)))
 (VC.seq
 (VC.block
 3
 (VC.seq
 (VC.reg
 [VI.rd 79 none (VOp.faddr 0 (Od.t 1)),
 VI.rd 80 none (VOp.load 1 false (Od.t 79)),
 VI.rd 81 none (VOp.mv (Od.t 6)),
 VI.rd 82 none (VOp.ixa 1 (Od.t 80) (Od.t 81)),
 VI.rd 83 none (VOp.load 1 false (Od.t 82)),
 VI.rd 84 none (VOp.mv (Od.t 7)),
 VI.rd 85 none (VOp.ixa 2 (Od.t 83) (Od.t 84)),
 VI.rd 86 none (VOp.load 2 true (Od.t 85)),
 VI.ef (some 8) none (VEf.alloc 46 [VV.int (IntKind.i64) 0, VV.int (IntKind.i64) 0]),
 VI.ef none none (VEf.store 2 (Od.t 8) (Od.t 86))]
 [1, 3, 4, 5, 6, 7, 8])
 (VC.seq
 (VC.reg
 [VI.rd 87 none (VOp.faddr 1 (Od.t 8)),
 VI.rd 88 none (VOp.load 1 false (Od.t 87)),
 VI.rd 89 none (VOp.bin (BinOp.eql) (Od.t 88) (Od.c (VV.int (IntKind.i64) 0))),
 VI.rd 90 none (VOp.mv (Od.t 89)),
 VI.rd 91 (some (90, true)) (VOp.faddr 0 (Od.t 8)),
 VI.rd 92 (some (90, true)) (VOp.load 1 false (Od.t 91)),
 VI.rd 93 (some (90, true)) (VOp.bin (BinOp.eql) (Od.t 92) (Od.c (VV.int (IntKind.i64) 0))),
 VI.rd 94 (some (90, true)) (VOp.mv (Od.t 93)),
 VI.rd 95 (some (94, false)) (VOp.faddr 0 (Od.t 8)),
 VI.rd 96 (some (94, false)) (VOp.load 1 false (Od.t 95)),
 VI.rd 97 (some (94, false)) (VOp.bin (BinOp.eql) (Od.t 96) (Od.c (VV.int (IntKind.i64) 3))),
 VI.rd 98 (some (90, true)) (VOp.pick (Od.t 94) (Od.c (VV.bool true)) (Od.t 97)),
 VI.rd 99 (some (90, true)) (VOp.mv (Od.t 98)),
 VI.rd 100 (some (99, false)) (VOp.faddr 0 (Od.t 8)),
 VI.rd 101 (some (99, false)) (VOp.load 1 false (Od.t 100)),
 VI.rd 102 (some (99, false)) (VOp.bin (BinOp.eql) (Od.t 101) (Od.c (VV.int (IntKind.i64) 4))),
 VI.rd 103 (some (90, true)) (VOp.pick (Od.t 99) (Od.c (VV.bool true)) (Od.t 102)),
 VI.rd 104 none (VOp.pick (Od.t 90) (Od.t 103) (Od.c (VV.bool false))),
 VI.rd 9 none (VOp.mv (Od.t 104))]
 [1, 3, 4, 5, 6, 7, 8, 9])
 (VC.seq
 (VC.reg
 [VI.rd 105 none (VOp.mv (Od.t 9)),
 VI.rd 106 none (VOp.mv (Od.t 105)),
 VI.rd 107 (some (106, false)) (VOp.faddr 0 (Od.t 8)),
 VI.rd 108 (some (106, false)) (VOp.load 1 false (Od.t 107)),
 VI.rd 109 (some (106, false)) (VOp.bin (BinOp.eql) (Od.t 108) (Od.c (VV.int (IntKind.i64) 1))),
 VI.rd 110 (some (106, false)) (VOp.mv (Od.t 109)),
 VI.rd 111 (some (110, true)) (VOp.faddr 1 (Od.t 8)),
 VI.rd 112 (some (110, true)) (VOp.load 1 false (Od.t 111)),
 VI.rd 113 (some (110, true)) (VOp.bin (BinOp.geq) (Od.t 112) (Od.c (VV.int (IntKind.i64) 0))),
 VI.rd 114 (some (106, false)) (VOp.pick (Od.t 110) (Od.t 113) (Od.c (VV.bool false))),
 VI.rd 115 (some (106, false)) (VOp.mv (Od.t 114)),
 VI.rd 116 (some (115, true)) (VOp.faddr 1 (Od.t 8)),
 VI.rd 117 (some (115, true)) (VOp.load 1 false (Od.t 116)),
 VI.rd 118 (some (115, true)) (VOp.mv (Od.t 3)),
 VI.rd 119 (some (115, true)) (VOp.bin (BinOp.lss) (Od.t 117) (Od.t 118)),
 VI.rd 120 (some (106, false)) (VOp.pick (Od.t 115) (Od.t 119) (Od.c (VV.bool false))),
 VI.rd 121 none (VOp.pick (Od.t 106) (Od.c (VV.bool true)) (Od.t 120)),
 VI.rd 9 none (VOp.mv (Od.t 121))]
 [1, 3, 4, 5, 6, 7, 8, 9])
 (VC.seq
 (VC.reg
 [VI.rd 122 none (VOp.mv (Od.t 9)),
 VI.rd 123 none (VOp.mv (Od.t 122)),
 VI.rd 124 (some (123, false)) (VOp.faddr 0 (Od.t 8)),
 VI.rd 125 (some (123, false)) (VOp.load 1 false (Od.t 124)),
 VI.rd 126 (some (123, false)) (VOp.bin (BinOp.eql) (Od.t 125) (Od.c (VV.int (IntKind.i64) 2))),
 VI.rd 127 (some (123, false)) (VOp.mv (Od.t 126)),
 VI.rd 128 (some (127, true)) (VOp.faddr 1 (Od.t 8)),
 VI.rd 129 (some (127, true)) (VOp.load 1 false (Od.t 128)),
 VI.rd 130 (some (127, true)) (VOp.bin (BinOp.geq) (Od.t 129) (Od.c (VV.int (IntKind.i64) 1))),
 VI.rd 131 (some (123, false)) (VOp.pick (Od.t 127) (Od.t 130) (Od.c (VV.bool false))),
 VI.rd 132 (some (123, false)) (VOp.mv (Od.t 131)),
 VI.rd 133 (some (132, true)) (VOp.faddr 1 (Od.t 8)),
 VI.rd 134 (some (132, true)) (VOp.load 1 false (Od.t 133)),
 VI.rd 135 (some (132, true)) (VOp.bin (BinOp.leq) (Od.t 134) (Od.c (VV.int (IntKind.i64) 96))),
 VI.rd 136 (some (123, false)) (VOp.pick (Od.t 132) (Od.t 135) (Od.c (VV.bool false))),
 VI.rd 137 none (VOp.pick (Od.t 123) (Od.c (VV.bool true)) (Od.t 136)),
 VI.rd 9 none (VOp.mv (Od.t 137))]
 [1, 3, 4, 5, 6, 7, 9])
 (VC.seq (VC.reg [VI.rd 138 none (VOp.mv (Od.t 9)), VI.rd 139 none (VOp.not (Od.t 138))] [1, 3, 4, 5, 6, 7, 139]) (VC.cond 139 (VC.seq (VC.reg [VI.rd 2 none (VOp.mv (Od.c (VV.bool false)))] [2]) (VC.ret)) (VC.skip))))))))
 (VC.reg [VI.rd 77 none (VOp.mv (Od.t 7)), VI.rd 78 none (VOp.bin (BinOp.add) (Od.t 77) (Od.c (VV.int (IntKind.i64) 1))), VI.rd 7 none (VOp.mv (Od.t 78))] [1, 3, 4, 5, 6, 7]))))))
 (VC.seq
 (VC.reg [VI.rd 10 none (VOp.mv (Od.c (VV.int (IntKind.i64) 0)))] [1, 3, 4, 5, 6, 10])
 (VC.block
 4
 (VC.loop
 (VC.seq
 (VC.seq (VC.reg [VI.rd 140 none (VOp.mv (Od.t 10)), VI.rd 141 none (VOp.mv (Od.t 5)), VI.rd 142 none (VOp.bin (BinOp.lss) (Od.t 140) (Od.t 141))] [1, 3, 4, 5, 6, 10, 142]) (VC.cond 142 (VC.skip) (VC.exit 4)))
 (VC.seq
 (VC.block
 5
 (VC.seq
 (VC.reg
 [VI.rd 145 none (VOp.faddr 1 (Od.t 1)),
 VI.rd 146 none (VOp.load 1 false (Od.t 145)),
 VI.rd 147 none (VOp.mv (Od.t 6)),
 VI.rd 148 none (VOp.ixa 1 (Od.t 146) (Od.t 147)),
 VI.rd 149 none (VOp.load 1 false (Od.t 148)),
 VI.rd 150 none (VOp.mv (Od.t 10)),
 VI.rd 151 none (VOp.ixa 1 (Od.t 149) (Od.t 150)),
 VI.rd 152 none (VOp.load 1 false (Od.t 151)),
 VI.rd 153 none (VOp.bin (BinOp.lss) (Od.t 152) (Od.c (VV.int (IntKind.i64) (-1)))),
 VI.rd 154 none (VOp.mv (Od.t 153)),
 VI.rd 155 (some (154, false)) (VOp.faddr 1 (Od.t 1)),
 VI.rd 156 (some (154, false)) (VOp.load 1 false (Od.t 155)),
 VI.rd 157 (some (154, false)) (VOp.mv (Od.t 6)),
 VI.rd 158 (some (154, false)) (VOp.ixa 1 (Od.t 156) (Od.t 157)),
 VI.rd 159 (some (154, false)) (VOp.load 1 false (Od.t 158)),
 VI.rd 160 (some (154, false)) (VOp.mv (Od.t 10)),
 VI.rd 161 (some (154, false)) (VOp.ixa 1 (Od.t 159) (Od.t 160)),
 VI.rd 162 (some (154, false)) (VOp.load 1 false (Od.t 161)),
 VI.rd 163 (some (154, false)) (VOp.mv (Od.t 3)),
 VI.rd 164 (some (154, false)) (VOp.bin (BinOp.geq) (Od.t 162) (Od.t 163)),
 VI.rd 165 none (VOp.pick (Od.t 154) (Od.c (VV.bool true)) (Od.t 164))]
 [1, 3, 4, 5, 6, 10, 165])
 (VC.cond 165 (VC.seq (VC.reg [VI.rd 2 none (VOp.mv (Od.c (VV.bool false)))] [2]) (VC.ret)) (VC.skip))))
 (VC.reg [VI.rd 143 none (VOp.mv (Od.t 10)), VI.rd 144 none (VOp.bin (BinOp.add) (Od.t 143) (Od.c (VV.int (IntKind.i64) 1))), VI.rd 10 none (VOp.mv (Od.t 144))] [1, 3, 4, 5, 6, 10])))))))))
 (VC.reg [VI.rd 54 none (VOp.mv (Od.t 6)), VI.rd 55 none (VOp.bin (BinOp.add) (Od.t 54) (Od.c (VV.int (IntKind.i64) 1))), VI.rd 6 none (VOp.mv (Od.t 55))] [1, 3, 4, 5, 6]))))))
 (VC.seq (VC.reg [VI.rd 2 none (VOp.mv (Od.c (VV.bool true)))] [2]) (VC.ret)))))))),
 [RV.t 2]⟩
theorem ok27 : w27.Ok Try.prog := FRow.ok_of (fn := Try.f27) (ks := k27) (by kernel_rfl) (by kernel_rfl) (by kernel_rfl) (by kernel_rfl) (by kernel_rfl)
def k37 : List (List Nat) := [[1], [1, 3], [1, 3, 22], [2], [1, 3, 4, 5], [1, 3, 4, 5, 42], [2], [1, 3, 4, 5, 43, 44], [1, 3, 4, 5, 43, 44, 45], [1, 3, 4, 5, 6, 43, 44], [1, 3, 4, 5, 6, 43, 44, 64], [2], [1, 3, 4, 5, 43, 44, 80], [2], [1, 3, 4, 5, 43, 44], [2]]
def w37 : FRow := ⟨37, 82, VC.seq
 (VC.reg [VI.ef (some 1) none (VEf.box 53 (Od.t 0)), VI.rd 2 none (VOp.mv (Od.c (VV.bool false)))] [1])
 (VC.seq
 (VC.reg [VI.rd 7 none (VOp.faddr 0 (Od.t 1)), VI.rd 8 none (VOp.load 1 false (Od.t 7)), VI.rd 9 none (VOp.lens (Od.t 8)), VI.ef (some 3) none (VEf.alloc 3 [VV.int (IntKind.i64) 0]), VI.ef none none (VEf.store 1 (Od.t 3) (Od.t 9))] [1, 3])
 (VC.seq
 (VC.seq
 (VC.reg
 [VI.rd 10 none (VOp.load 1 false (Od.t 3)),
 VI.rd 11 none (VOp.bin (BinOp.lss) (Od.t 10) (Od.c (VV.int (IntKind.i64) 1))),
 VI.rd 12 none (VOp.mv (Od.t 11)),
 VI.rd 13 (some (12, false)) (VOp.load 1 false (Od.t 3)),
 VI.rd 14 (some (12, false)) (VOp.bin (BinOp.gtr) (Od.t 13) (Od.c (VV.int (IntKind.i64) 256))),
 VI.rd 15 none (VOp.pick (Od.t 12) (Od.c (VV.bool true)) (Od.t 14)),
 VI.rd 16 none (VOp.mv (Od.t 15)),
 VI.rd 17 (some (16, false)) (VOp.faddr 1 (Od.t 1)),
 VI.rd 18 (some (16, false)) (VOp.load 1 false (Od.t 17)),
 VI.rd 19 (some (16, false)) (VOp.lens (Od.t 18)),
 VI.rd 20 (some (16, false)) (VOp.load 1 false (Od.t 3)),
 VI.rd 21 (some (16, false)) (VOp.bin (BinOp.neq) (Od.t 19) (Od.t 20)),
 VI.rd 22 none (VOp.pick (Od.t 16) (Od.c (VV.bool true)) (Od.t 21))]
 [1, 3, 22])
 (VC.cond 22 (VC.seq (VC.reg [VI.rd 2 none (VOp.mv (Od.c (VV.bool false)))] [2]) (VC.ret)) (VC.skip)))
 (VC.seq
 (VC.dreg
 [VI.rd 23 none (VOp.faddr 0 (Od.t 1)),
 VI.rd 24 none (VOp.load 1 false (Od.t 23)),
 VI.rd 25 none (VOp.ixa 1 (Od.t 24) (Od.c (VV.int (IntKind.i64) 0))),
 VI.rd 26 none (VOp.load 1 false (Od.t 25)),
 VI.rd 27 none (VOp.lens (Od.t 26)),
 VI.rd 28 none (VOp.faddr 1 (Od.t 1)),
 VI.rd 29 none (VOp.load 1 false (Od.t 28)),
 VI.rd 30 none (VOp.ixa 1 (Od.t 29) (Od.c (VV.int (IntKind.i64) 0))),
 VI.rd 31 none (VOp.load 1 false (Od.t 30)),
 VI.rd 32 none (VOp.lens (Od.t 31)),
 VI.rd 4 none (VOp.mv (Od.t 27)),
 VI.rd 5 none (VOp.mv (Od.t 32))]
 [(0, 0), (0, 0), (0, 0), (0, 0), (0, 0), (0, 0), (0, 0), (0, 0), (0, 0), (0, 0), (0, 0), (0, 0)]
 [1, 3, 4, 5])
 (VC.seq
 (VC.seq
 (VC.reg
 [VI.rd 33 none (VOp.mv (Od.t 4)),
 VI.rd 34 none (VOp.mv (Od.t 5)),
 VI.rd 35 none (VOp.min2 (Od.t 33) (Od.t 34)),
 VI.rd 36 none (VOp.bin (BinOp.lss) (Od.t 35) (Od.c (VV.int (IntKind.i64) 1))),
 VI.rd 37 none (VOp.mv (Od.t 36)),
 VI.rd 38 (some (37, false)) (VOp.mv (Od.t 4)),
 VI.rd 39 (some (37, false)) (VOp.mv (Od.t 5)),
 VI.rd 40 (some (37, false)) (VOp.max2 (Od.t 38) (Od.t 39)),
 VI.rd 41 (some (37, false)) (VOp.bin (BinOp.gtr) (Od.t 40) (Od.c (VV.int (IntKind.i64) 65))),
 VI.rd 42 none (VOp.pick (Od.t 37) (Od.c (VV.bool true)) (Od.t 41))]
 [1, 3, 4, 5, 42])
 (VC.cond 42 (VC.seq (VC.reg [VI.rd 2 none (VOp.mv (Od.c (VV.bool false)))] [2]) (VC.ret)) (VC.skip)))
 (VC.seq
 (VC.seq
 (VC.reg [VI.rd 43 none (VOp.load 1 false (Od.t 3)), VI.rd 44 none (VOp.mv (Od.c (VV.int (IntKind.i64) 0)))] [1, 3, 4, 5, 43, 44])
 (VC.block
 0
 (VC.loop
 (VC.seq
 (VC.reg [VI.rd 45 none (VOp.bin (BinOp.lss) (Od.t 44) (Od.t 43))] [1, 3, 4, 5, 43, 44, 45])
 (VC.seq
 (VC.cond 45 (VC.skip) (VC.exit 0))
 (VC.seq
 (VC.block
 1
 (VC.seq
 (VC.reg [VI.rd 46 none (VOp.mv (Od.t 44)), VI.rd 6 none (VOp.mv (Od.t 46))] [1, 3, 4, 5, 6, 43, 44])
 (VC.seq
 (VC.seq
 (VC.reg
 [VI.rd 47 none (VOp.faddr 0 (Od.t 1)),
 VI.rd 48 none (VOp.load 1 false (Od.t 47)),
 VI.rd 49 none (VOp.mv (Od.t 6)),
 VI.rd 50 none (VOp.ixa 1 (Od.t 48) (Od.t 49)),
 VI.rd 51 none (VOp.load 1 false (Od.t 50)),
 VI.rd 52 none (VOp.lens (Od.t 51)),
 VI.rd 53 none (VOp.mv (Od.t 4)),
 VI.rd 54 none (VOp.bin (BinOp.neq) (Od.t 52) (Od.t 53)),
 VI.rd 55 none (VOp.mv (Od.t 54)),
 VI.rd 56 (some (55, false)) (VOp.faddr 1 (Od.t 1)),
 VI.rd 57 (some (55, false)) (VOp.load 1 false (Od.t 56)),
 VI.rd 58 (some (55, false)) (VOp.mv (Od.t 6)),
 VI.rd 59 (some (55, false)) (VOp.ixa 1 (Od.t 57) (Od.t 58)),
 VI.rd 60 (some (55, false)) (VOp.load 1 false (Od.t 59)),
 VI.rd 61 (some (55, false)) (VOp.lens (Od.t 60)),
 VI.rd 62 (some (55, false)) (VOp.mv (Od.t 5)),
 VI.rd 63 (some (55, false)) (VOp.bin (BinOp.neq) (Od.t 61) (Od.t 62)),
 VI.rd 64 none (VOp.pick (Od.t 55) (Od.c (VV.bool true)) (Od.t 63))]
 [1, 3, 4, 5, 6, 43, 44, 64])
 (VC.cond 64 (VC.seq (VC.reg [VI.rd 2 none (VOp.mv (Od.c (VV.bool false)))] [2]) (VC.ret)) (VC.skip)))
 (VC.seq
 (VC.reg
 [VI.rd 65 none (VOp.faddr 0 (Od.t 1)),
 VI.rd 66 none (VOp.load 1 false (Od.t 65)),
 VI.rd 67 none (VOp.mv (Od.t 6)),
 VI.rd 68 none (VOp.ixa 1 (Od.t 66) (Od.t 67)),
 VI.rd 69 none (VOp.load 1 false (Od.t 68)),
 VI.rd 70 none (VOp.mkfn 49 [Od.t 3]),
 VI.call (some 71) none (Od.c (VV.fn 48 [])) [Od.t 69, Od.t 70],
 VI.rd 72 none (VOp.mv (Od.t 71)),
 VI.rd 73 (some (72, false)) (VOp.faddr 1 (Od.t 1)),
 VI.rd 74 (some (72, false)) (VOp.load 1 false (Od.t 73)),
 VI.rd 75 (some (72, false)) (VOp.mv (Od.t 6)),
 VI.rd 76 (some (72, false)) (VOp.ixa 1 (Od.t 74) (Od.t 75)),
 VI.rd 77 (some (72, false)) (VOp.load 1 false (Od.t 76)),
 VI.rd 78 (some (72, false)) (VOp.mkfn 52 [Od.t 3]),
 VI.call (some 79) (some (72, false)) (Od.c (VV.fn 51 [])) [Od.t 77, Od.t 78],
 VI.rd 80 none (VOp.pick (Od.t 72) (Od.c (VV.bool true)) (Od.t 79))]
 [1, 3, 4, 5, 43, 44, 80])
 (VC.cond 80 (VC.seq (VC.reg [VI.rd 2 none (VOp.mv (Od.c (VV.bool false)))] [2]) (VC.ret)) (VC.skip))))))
 (VC.reg [VI.rd 81 none (VOp.bin (BinOp.add) (Od.t 44) (Od.c (VV.int (IntKind.i64) 1))), VI.rd 44 none (VOp.mv (Od.t 81))] [1, 3, 4, 5, 43, 44])))))))
 (VC.seq (VC.reg [VI.rd 2 none (VOp.mv (Od.c (VV.bool true)))] [2]) (VC.ret))))))),
 [RV.t 2]⟩
theorem ok37 : w37.Ok Try.prog := FRow.ok_of (fn := Try.f37) (ks := k37) (by kernel_rfl) (by kernel_rfl) (by kernel_rfl) (by kernel_rfl) (by kernel_rfl)
def k39 : List (List Nat) := [[1], [2, 3]]
def w39 : FRow := ⟨39, 9, VC.seq
 (VC.reg [VI.ef (some 1) none (VEf.box 46 (Od.t 0)), VI.rd 2 none (VOp.mv (Od.c (VV.int (IntKind.i64) 0))), VI.rd 3 none (VOp.mv (Od.c (VV.bool false)))] [1])
 (VC.seq
 (VC.dreg
 [VI.rd 4 none (VOp.faddr 1 (Od.t 1)),
 VI.rd 5 none (VOp.load 1 false (Od.t 4)),
 VI.rd 6 none (VOp.faddr 0 (Od.t 1)),
 VI.rd 7 none (VOp.load 1 false (Od.t 6)),
 VI.rd 8 none (VOp.bin (BinOp.eql) (Od.t 7) (Od.c (VV.int (IntKind.i64) 2))),
 VI.rd 2 none (VOp.mv (Od.t 5)),
 VI.rd 3 none (VOp.mv (Od.t 8))]
 [(0, 0), (0, 0), (0, 0), (0, 0), (0, 0), (0, 0), (0, 0)]
 [2, 3])
 (VC.ret)),
 [RV.t 2, RV.t 3]⟩
theorem ok39 : w39.Ok Try.prog := FRow.ok_of (fn := Try.f39) (ks := k39) (by kernel_rfl) (by kernel_rfl) (by kernel_rfl) (by kernel_rfl) (by kernel_rfl)
def k40 : List (List Nat) := [[1], [1, 4], [1, 4, 5], [2], [1, 4, 10], [2], [15], [2], [2]]
def w40 : FRow := ⟨40, 17, VC.seq
 (VC.reg [VI.ef (some 1) none (VEf.box 46 (Od.t 0)), VI.rd 2 none (VOp.mv (Od.c (VV.int (IntKind.i64) 0)))] [1])
 (VC.seq
 (VC.seq
 (VC.reg [VI.rd 3 none (VOp.faddr 0 (Od.t 1)), VI.rd 4 none (VOp.load 1 false (Od.t 3))] [1, 4])
 (VC.block
 0
 (VC.seq
 (VC.reg [VI.rd 6 none (VOp.bin (BinOp.eql) (Od.t 4) (Od.c (VV.int (IntKind.i64) 1))), VI.rd 5 none (VOp.mv (Od.t 6))] [1, 4, 5])
 (VC.cond
 5
 (VC.seq (VC.reg [VI.rd 7 none (VOp.faddr 1 (Od.t 1)), VI.rd 8 none (VOp.load 1 false (Od.t 7)), VI.rd 9 none (VOp.bin (BinOp.add) (Od.c (VV.int (IntKind.i64) 1)) (Od.t 8)), VI.rd 2 none (VOp.mv (Od.t 9))] [2]) (VC.ret))
 (VC.seq
 (VC.reg [VI.rd 11 none (VOp.bin (BinOp.eql) (Od.t 4) (Od.c (VV.int (IntKind.i64) 2))), VI.rd 10 none (VOp.mv (Od.t 11))] [1, 4, 10])
 (VC.cond
 10
 (VC.seq (VC.reg [VI.rd 12 none (VOp.faddr 1 (Od.t 1)), VI.rd 13 none (VOp.load 1 false (Od.t 12)), VI.rd 14 none (VOp.bin (BinOp.sub) (Od.c (VV.int (IntKind.i64) (-1))) (Od.t 13)), VI.rd 2 none (VOp.mv (Od.t 14))] [2]) (VC.ret))
 (VC.seq (VC.reg [VI.rd 16 none (VOp.bin (BinOp.eql) (Od.t 4) (Od.c (VV.int (IntKind.i64) 3))), VI.rd 15 none (VOp.mv (Od.t 16))] [15]) (VC.cond 15 (VC.seq (VC.reg [VI.rd 2 none (VOp.mv (Od.c (VV.int (IntKind.i64) (-1))))] [2]) (VC.ret)) (VC.skip)))))))))
 (VC.seq (VC.reg [VI.rd 2 none (VOp.mv (Od.c (VV.int (IntKind.i64) 0)))] [2]) (VC.ret))),
 [RV.t 2]⟩
theorem ok40 : w40.Ok Try.prog := FRow.ok_of (fn := Try.f40) (ks := k40) (by kernel_rfl) (by kernel_rfl) (by kernel_rfl) (by kernel_rfl) (by kernel_rfl)
def k42 : List (List Nat) := [[0, 1], [3, 4]]
def w42 : FRow := ⟨42, 14, VC.seq
 (VC.reg [VI.rd 3 none (VOp.mv (Od.c (VV.int (IntKind.i64) 0))), VI.rd 4 none (VOp.mv (Od.c (VV.bool false)))] [0, 1])
 (VC.seq
 (VC.dreg
 [VI.rd 5 none (VOp.mv (Od.t 0)),
 VI.rd 6 none (VOp.load 1 false (Od.t 1)),
 VI.rd 7 none (VOp.ixa 1 (Od.t 5) (Od.t 6)),
 VI.rd 8 none (VOp.load 1 false (Od.t 7)),
 VI.rd 9 none (VOp.mv (Od.t 0)),
 VI.rd 10 none (VOp.load 1 false (Od.t 1)),
 VI.rd 11 none (VOp.ixa 1 (Od.t 9) (Od.t 10)),
 VI.rd 12 none (VOp.load 1 false (Od.t 11)),
 VI.rd 13 none (VOp.bin (BinOp.geq) (Od.t 12) (Od.c (VV.int (IntKind.i64) 0))),
 VI.rd 3 none (VOp.mv (Od.t 8)),
 VI.rd 4 none (VOp.mv (Od.t 13))]
 [(0, 0), (0, 0), (0, 0), (0, 0), (0, 0), (0, 0), (0, 0), (0, 0), (0, 0), (0, 0), (0, 0)]
 [3, 4])
 (VC.ret)),
 [RV.t 3, RV.t 4]⟩
theorem ok42 : w42.Ok Try.prog := FRow.ok_of (fn := Try.f42) (ks := k42) (by kernel_rfl) (by kernel_rfl) (by kernel_rfl) (by kernel_rfl) (by kernel_rfl)
def k43 : List (List Nat) := [[0], [0, 3], [0, 3, 4], [0, 3, 4, 5], [0, 3, 4, 5, 9], [0, 3, 4, 5], [0, 3, 4, 5, 6], [0, 3, 4, 5, 6, 7], [0, 3, 4, 5, 6, 7, 15], [0, 3, 4, 5, 6, 7], [0, 3, 4, 5, 6, 7, 23], [0, 3, 4, 5, 6, 7], [0, 3, 4, 5, 6, 28], [0, 3, 5, 6], [0, 3, 4, 5], [2]]
def w43 : FRow := ⟨43, 32, VC.seq
 (VC.reg [VI.rd 2 none (VOp.mv (Od.c (VV.int (IntKind.i64) 0)))] [0])
 (VC.seq
 (VC.reg [VI.rd 3 none (VOp.mv (Od.c (VV.int (IntKind.i64) (-1))))] [0, 3])
 (VC.seq
 (VC.reg [VI.rd 4 none (VOp.mv (Od.c (VV.int (IntKind.i64) 0)))] [0, 3, 4])
 (VC.seq
 (VC.seq
 (VC.reg [VI.rd 5 none (VOp.mv (Od.c (VV.int (IntKind.i64) 0)))] [0, 3, 4, 5])
 (VC.block
 0
 (VC.loop
 (VC.seq
 (VC.seq (VC.reg [VI.rd 8 none (VOp.mv (Od.t 5)), VI.rd 9 none (VOp.bin (BinOp.leq) (Od.t 8) (Od.c (VV.int (IntKind.i64) 256)))] [0, 3, 4, 5, 9]) (VC.cond 9 (VC.skip) (VC.exit 0)))
 (VC.seq
 (VC.block
 1
 (VC.seq
 (VC.reg [VI.rd 6 none (VOp.mv (Od.c (VV.int (IntKind.i64) 0)))] [0, 3, 4, 5, 6])
 (VC.seq
 (VC.seq
 (VC.reg [VI.rd 7 none (VOp.mv (Od.c (VV.int (IntKind.i64) 0)))] [0, 3, 4, 5, 6, 7])
 (VC.block
 2
 (VC.loop
 (VC.seq
 (VC.seq (VC.reg [VI.rd 12 none (VOp.mv (Od.t 7)), VI.rd 13 none (VOp.mv (Od.t 0)), VI.rd 14 none (VOp.lens (Od.t 13)), VI.rd 15 none (VOp.bin (BinOp.lss) (Od.t 12) (Od.t 14))] [0, 3, 4, 5, 6, 7, 15]) (VC.cond 15 (VC.skip) (VC.exit 2)))
 (VC.seq
 (VC.block
 3
 (VC.seq
 (VC.reg
 [VI.rd 18 none (VOp.mv (Od.t 0)),
 VI.rd 19 none (VOp.mv (Od.t 7)),
 VI.rd 20 none (VOp.ixa 1 (Od.t 18) (Od.t 19)),
 VI.rd 21 none (VOp.load 1 false (Od.t 20)),
 VI.rd 22 none (VOp.mv (Od.t 5)),
 VI.rd 23 none (VOp.bin (BinOp.eql) (Od.t 21) (Od.t 22))]
 [0, 3, 4, 5, 6, 7, 23])
 (VC.cond 23 (VC.reg [VI.rd 24 none (VOp.mv (Od.t 6)), VI.rd 25 none (VOp.bin (BinOp.add) (Od.t 24) (Od.c (VV.int (IntKind.i64) 1))), VI.rd 6 none (VOp.mv (Od.t 25))] [0, 3, 4, 5, 6, 7]) (VC.skip))))
 (VC.reg [VI.rd 16 none (VOp.mv (Od.t 7)), VI.rd 17 none (VOp.bin (BinOp.add) (Od.t 16) (Od.c (VV.int (IntKind.i64) 1))), VI.rd 7 none (VOp.mv (Od.t 17))] [0, 3, 4, 5, 6, 7]))))))
 (VC.seq
 (VC.reg [VI.rd 26 none (VOp.mv (Od.t 6)), VI.rd 27 none (VOp.mv (Od.t 4)), VI.rd 28 none (VOp.bin (BinOp.gtr) (Od.t 26) (Od.t 27))] [0, 3, 4, 5, 6, 28])
 (VC.cond 28 (VC.seq (VC.reg [VI.rd 29 none (VOp.mv (Od.t 5)), VI.rd 3 none (VOp.mv (Od.t 29))] [0, 3, 5, 6]) (VC.reg [VI.rd 30 none (VOp.mv (Od.t 6)), VI.rd 4 none (VOp.mv (Od.t 30))] [0, 3, 4, 5])) (VC.skip))))))
 (VC.reg [VI.rd 10 none (VOp.mv (Od.t 5)), VI.rd 11 none (VOp.bin (BinOp.add) (Od.t 10) (Od.c (VV.int (IntKind.i64) 1))), VI.rd 5 none (VOp.mv (Od.t 11))] [0, 3, 4, 5]))))))
 (VC.seq (VC.reg [VI.rd 31 none (VOp.mv (Od.t 3)), VI.rd 2 none (VOp.mv (Od.t 31))] [2]) (VC.ret))))),
 [RV.t 2]⟩
theorem ok43 : w43.Ok Try.prog := FRow.ok_of (fn := Try.f43) (ks := k43) (by kernel_rfl) (by kernel_rfl) (by kernel_rfl) (by kernel_rfl) (by kernel_rfl)
def k44 : List (List Nat) := [[1], [1, 4], [1, 4, 5], [2], [1, 4, 10], [2], [15], [2], [2]]
def w44 : FRow := ⟨44, 17, VC.seq
 (VC.reg [VI.ef (some 1) none (VEf.box 46 (Od.t 0)), VI.rd 2 none (VOp.mv (Od.c (VV.int (IntKind.i64) 0)))] [1])
 (VC.seq
 (VC.seq
 (VC.reg [VI.rd 3 none (VOp.faddr 0 (Od.t 1)), VI.rd 4 none (VOp.load 1 false (Od.t 3))] [1, 4])
 (VC.block
 0
 (VC.seq
 (VC.reg [VI.rd 6 none (VOp.bin (BinOp.eql) (Od.t 4) (Od.c (VV.int (IntKind.i64) 1))), VI.rd 5 none (VOp.mv (Od.t 6))] [1, 4, 5])
 (VC.cond
 5
 (VC.seq (VC.reg [VI.rd 7 none (VOp.faddr 1 (Od.t 1)), VI.rd 8 none (VOp.load 1 false (Od.t 7)), VI.rd 9 none (VOp.bin (BinOp.add) (Od.c (VV.int (IntKind.i64) 1)) (Od.t 8)), VI.rd 2 none (VOp.mv (Od.t 9))] [2]) (VC.ret))
 (VC.seq
 (VC.reg [VI.rd 11 none (VOp.bin (BinOp.eql) (Od.t 4) (Od.c (VV.int (IntKind.i64) 2))), VI.rd 10 none (VOp.mv (Od.t 11))] [1, 4, 10])
 (VC.cond
 10
 (VC.seq (VC.reg [VI.rd 12 none (VOp.faddr 1 (Od.t 1)), VI.rd 13 none (VOp.load 1 false (Od.t 12)), VI.rd 14 none (VOp.bin (BinOp.sub) (Od.c (VV.int (IntKind.i64) (-1))) (Od.t 13)), VI.rd 2 none (VOp.mv (Od.t 14))] [2]) (VC.ret))
 (VC.seq (VC.reg [VI.rd 16 none (VOp.bin (BinOp.eql) (Od.t 4) (Od.c (VV.int (IntKind.i64) 3))), VI.rd 15 none (VOp.mv (Od.t 16))] [15]) (VC.cond 15 (VC.seq (VC.reg [VI.rd 2 none (VOp.mv (Od.c (VV.int (IntKind.i64) (-1))))] [2]) (VC.ret)) (VC.skip)))))))))
 (VC.seq (VC.reg [VI.rd 2 none (VOp.mv (Od.c (VV.int (IntKind.i64) 0)))] [2]) (VC.ret))),
 [RV.t 2]⟩
theorem ok44 : w44.Ok Try.prog := FRow.ok_of (fn := Try.f44) (ks := k44) (by kernel_rfl) (by kernel_rfl) (by kernel_rfl) (by kernel_rfl) (by kernel_rfl)
def k48 : List (List Nat) := [[0, 1], [4]]
def w48 : FRow := ⟨48, 9, VC.seq
 (VC.reg [VI.rd 4 none (VOp.mv (Od.c (VV.bool false)))] [0, 1])
 (VC.seq
 (VC.reg [VI.rd 5 none (VOp.mv (Od.t 0)), VI.rd 6 none (VOp.mv (Od.t 1)), VI.call (some 7) none (Od.c (VV.fn 57 [])) [Od.t 5, Od.t 6], VI.rd 8 none (VOp.bin (BinOp.geq) (Od.t 7) (Od.c (VV.int (IntKind.i64) 0))), VI.rd 4 none (VOp.mv (Od.t 8))] [4])
 (VC.ret)),
 [RV.t 4]⟩
theorem ok48 : w48.Ok Try.prog := FRow.ok_of (fn := Try.f48) (ks := k48) (by kernel_rfl) (by kernel_rfl) (by kernel_rfl) (by kernel_rfl) (by kernel_rfl)
def k49 : List (List Nat) := [[1, 2], [3]]
def w49 : FRow := ⟨49, 8, VC.seq
 (VC.reg [VI.ef (some 2) none (VEf.box 46 (Od.t 0)), VI.rd 3 none (VOp.mv (Od.c (VV.bool false)))] [1, 2])
 (VC.seq (VC.reg [VI.rd 4 none (VOp.load 2 true (Od.t 2)), VI.rd 5 none (VOp.load 1 false (Od.t 1)), VI.call (some 6) none (Od.c (VV.fn 50 [])) [Od.t 4, Od.t 5], VI.rd 7 none (VOp.not (Od.t 6)), VI.rd 3 none (VOp.mv (Od.t 7))] [3]) (VC.ret)),
 [RV.t 3]⟩
theorem ok49 : w49.Ok Try.prog := FRow.ok_of (fn := Try.f49) (ks := k49) (by kernel_rfl) (by kernel_rfl) (by kernel_rfl) (by kernel_rfl) (by kernel_rfl)
def k50 : List (List Nat) := [[1, 2], [1, 2, 6], [1, 2, 6, 7], [4], [2, 18], [4], [4]]
def w50 : FRow := ⟨50, 41, VC.seq
 (VC.reg [VI.ef (some 2) none (VEf.box 46 (Od.t 0)), VI.rd 4 none (VOp.mv (Od.c (VV.bool false)))] [1, 2])
 (VC.seq
 (VC.seq
 (VC.reg [VI.rd 5 none (VOp.faddr 0 (Od.t 2)), VI.rd 6 none (VOp.load 1 false (Od.t 5))] [1, 2, 6])
 (VC.block
 0
 (VC.seq
 (VC.reg [VI.rd 8 none (VOp.bin (BinOp.eql) (Od.t 6) (Od.c (VV.int (IntKind.i64) 1))), VI.rd 7 none (VOp.mv (Od.t 8))] [1, 2, 6, 7])
 (VC.cond
 7
 (VC.seq
 (VC.reg
 [VI.rd 9 none (VOp.faddr 1 (Od.t 2)),
 VI.rd 10 none (VOp.load 1 false (Od.t 9)),
 VI.rd 11 none (VOp.bin (BinOp.leq) (Od.c (VV.int (IntKind.i64) 0)) (Od.t 10)),
 VI.rd 12 none (VOp.mv (Od.t 11)),
 VI.rd 13 (some (12, true)) (VOp.faddr 1 (Od.t 2)),
 VI.rd 14 (some (12, true)) (VOp.load 1 false (Od.t 13)),
 VI.rd 15 (some (12, true)) (VOp.mv (Od.t 1)),
 VI.rd 16 (some (12, true)) (VOp.bin (BinOp.lss) (Od.t 14) (Od.t 15)),
 VI.rd 17 none (VOp.pick (Od.t 12) (Od.t 16) (Od.c (VV.bool false))),
 VI.rd 4 none (VOp.mv (Od.t 17))]
 [4])
 (VC.ret))
 (VC.seq
 (VC.reg [VI.rd 19 none (VOp.bin (BinOp.eql) (Od.t 6) (Od.c (VV.int (IntKind.i64) 2))), VI.rd 18 none (VOp.mv (Od.t 19))] [2, 18])
 (VC.cond
 18
 (VC.seq
 (VC.reg
 [VI.rd 20 none (VOp.faddr 1 (Od.t 2)),
 VI.rd 21 none (VOp.load 1 false (Od.t 20)),
 VI.rd 22 none (VOp.bin (BinOp.leq) (Od.c (VV.int (IntKind.i64) 1)) (Od.t 21)),
 VI.rd 23 none (VOp.mv (Od.t 22)),
 VI.rd 24 (some (23, true)) (VOp.faddr 1 (Od.t 2)),
 VI.rd 25 (some (23, true)) (VOp.load 1 false (Od.t 24)),
 VI.rd 26 (some (23, true)) (VOp.bin (BinOp.leq) (Od.t 25) (Od.c (VV.int (IntKind.i64) 96))),
 VI.rd 27 none (VOp.pick (Od.t 23) (Od.t 26) (Od.c (VV.bool false))),
 VI.rd 4 none (VOp.mv (Od.t 27))]
 [4])
 (VC.ret))
 (VC.skip)))))))
 (VC.seq
 (VC.reg
 [VI.rd 28 none (VOp.faddr 0 (Od.t 2)),
 VI.rd 29 none (VOp.load 1 false (Od.t 28)),
 VI.rd 30 none (VOp.bin (BinOp.leq) (Od.c (VV.int (IntKind.i64) 0)) (Od.t 29)),
 VI.rd 31 none (VOp.mv (Od.t 30)),
 VI.rd 32 (some (31, true)) (VOp.faddr 0 (Od.t 2)),
 VI.rd 33 (some (31, true)) (VOp.load 1 false (Od.t 32)),
 VI.rd 34 (some (31, true)) (VOp.bin (BinOp.leq) (Od.t 33) (Od.c (VV.int (IntKind.i64) 4))),
 VI.rd 35 none (VOp.pick (Od.t 31) (Od.t 34) (Od.c (VV.bool false))),
 VI.rd 36 none (VOp.mv (Od.t 35)),
 VI.rd 37 (some (36, true)) (VOp.faddr 1 (Od.t 2)),
 VI.rd 38 (some (36, true)) (VOp.load 1 false (Od.t 37)),
 VI.rd 39 (some (36, true)) (VOp.bin (BinOp.eql) (Od.t 38) (Od.c (VV.int (IntKind.i64) 0))),
 VI.rd 40 none (VOp.pick (Od.t 36) (Od.t 39) (Od.c (VV.bool false))),
 VI.rd 4 none (VOp.mv (Od.t 40))]
 [4])
 (VC.ret))),
 [RV.t 4]⟩
theorem ok50 : w50.Ok Try.prog := FRow.ok_of (fn := Try.f50) (ks := k50) (by kernel_rfl) (by kernel_rfl) (by kernel_rfl) (by kernel_rfl) (by kernel_rfl)
def k51 : List (List Nat) := [[0, 1], [4]]
def w51 : FRow := ⟨51, 9, VC.seq
 (VC.reg [VI.rd 4 none (VOp.mv (Od.c (VV.bool false)))] [0, 1])
 (VC.seq
 (VC.reg [VI.rd 5 none (VOp.mv (Od.t 0)), VI.rd 6 none (VOp.mv (Od.t 1)), VI.call (some 7) none (Od.c (VV.fn 58 [])) [Od.t 5, Od.t 6], VI.rd 8 none (VOp.bin (BinOp.geq) (Od.t 7) (Od.c (VV.int (IntKind.i64) 0))), VI.rd 4 none (VOp.mv (Od.t 8))] [4])
 (VC.ret)),
 [RV.t 4]⟩
theorem ok51 : w51.Ok Try.prog := FRow.ok_of (fn := Try.f51) (ks := k51) (by kernel_rfl) (by kernel_rfl) (by kernel_rfl) (by kernel_rfl) (by kernel_rfl)
def k52 : List (List Nat) := [[0, 1], [3]]
def w52 : FRow := ⟨52, 11, VC.seq
 (VC.reg [VI.rd 3 none (VOp.mv (Od.c (VV.bool false)))] [0, 1])
 (VC.seq
 (VC.reg
 [VI.rd 4 none (VOp.mv (Od.t 0)),
 VI.rd 5 none (VOp.bin (BinOp.lss) (Od.t 4) (Od.c (VV.int (IntKind.i64) (-1)))),
 VI.rd 6 none (VOp.mv (Od.t 5)),
 VI.rd 7 (some (6, false)) (VOp.mv (Od.t 0)),
 VI.rd 8 (some (6, false)) (VOp.load 1 false (Od.t 1)),
 VI.rd 9 (some (6, false)) (VOp.bin (BinOp.geq) (Od.t 7) (Od.t 8)),
 VI.rd 10 none (VOp.pick (Od.t 6) (Od.c (VV.bool true)) (Od.t 9)),
 VI.rd 3 none (VOp.mv (Od.t 10))]
 [3])
 (VC.ret)),
 [RV.t 3]⟩
theorem ok52 : w52.Ok Try.prog := FRow.ok_of (fn := Try.f52) (ks := k52) (by kernel_rfl) (by kernel_rfl) (by kernel_rfl) (by kernel_rfl) (by kernel_rfl)
def k57 : List (List Nat) := [[0, 1], [0, 1, 7, 8], [0, 1, 7, 8, 9], [0, 1, 5, 7, 8], [0, 1, 5, 7, 8, 16], [4], [0, 1, 7, 8], [4]]
def w57 : FRow := ⟨57, 19, VC.seq
 (VC.reg [VI.rd 4 none (VOp.mv (Od.c (VV.int (IntKind.i64) 0)))] [0, 1])
 (VC.seq
 (VC.seq
 (VC.reg [VI.rd 6 none (VOp.mv (Od.t 0)), VI.rd 7 none (VOp.lens (Od.t 6)), VI.rd 8 none (VOp.mv (Od.c (VV.int (IntKind.i64) 0)))] [0, 1, 7, 8])
 (VC.block
 0
 (VC.loop
 (VC.seq
 (VC.reg [VI.rd 9 none (VOp.bin (BinOp.lss) (Od.t 8) (Od.t 7))] [0, 1, 7, 8, 9])
 (VC.seq
 (VC.cond 9 (VC.skip) (VC.exit 0))
 (VC.seq
 (VC.block
 1
 (VC.seq
 (VC.reg [VI.rd 10 none (VOp.mv (Od.t 8)), VI.rd 5 none (VOp.mv (Od.t 10))] [0, 1, 5, 7, 8])
 (VC.seq
 (VC.reg
 [VI.rd 11 none (VOp.mv (Od.t 1)), VI.rd 12 none (VOp.mv (Od.t 0)), VI.rd 13 none (VOp.mv (Od.t 5)), VI.rd 14 none (VOp.ixa 2 (Od.t 12) (Od.t 13)), VI.rd 15 none (VOp.load 2 true (Od.t 14)), VI.call (some 16) none (Od.t 11) [Od.t 15]]
 [0, 1, 5, 7, 8, 16])
 (VC.cond 16 (VC.seq (VC.reg [VI.rd 17 none (VOp.mv (Od.t 5)), VI.rd 4 none (VOp.mv (Od.t 17))] [4]) (VC.ret)) (VC.skip)))))
 (VC.reg [VI.rd 18 none (VOp.bin (BinOp.add) (Od.t 8) (Od.c (VV.int (IntKind.i64) 1))), VI.rd 8 none (VOp.mv (Od.t 18))] [0, 1, 7, 8])))))))
 (VC.seq (VC.reg [VI.rd 4 none (VOp.mv (Od.c (VV.int (IntKind.i64) (-1))))] [4]) (VC.ret))),
 [RV.t 4]⟩
theorem ok57 : w57.Ok Try.prog := FRow.ok_of (fn := Try.f57) (ks := k57) (by kernel_rfl) (by kernel_rfl) (by kernel_rfl) (by kernel_rfl) (by kernel_rfl)
def k58 : List (List Nat) := [[0, 1], [0, 1, 7, 8], [0, 1, 7, 8, 9], [0, 1, 5, 7, 8], [0, 1, 5, 7, 8, 16], [4], [0, 1, 7, 8], [4]]
def w58 : FRow := ⟨58, 19, VC.seq
 (VC.reg [VI.rd 4 none (VOp.mv (Od.c (VV.int (IntKind.i64) 0)))] [0, 1])
 (VC.seq
 (VC.seq
 (VC.reg [VI.rd 6 none (VOp.mv (Od.t 0)), VI.rd 7 none (VOp.lens (Od.t 6)), VI.rd 8 none (VOp.mv (Od.c (VV.int (IntKind.i64) 0)))] [0, 1, 7, 8])
 (VC.block
 0
 (VC.loop
 (VC.seq
 (VC.reg [VI.rd 9 none (VOp.bin (BinOp.lss) (Od.t 8) (Od.t 7))] [0, 1, 7, 8, 9])
 (VC.seq
 (VC.cond 9 (VC.skip) (VC.exit 0))
 (VC.seq
 (VC.block
 1
 (VC.seq
 (VC.reg [VI.rd 10 none (VOp.mv (Od.t 8)), VI.rd 5 none (VOp.mv (Od.t 10))] [0, 1, 5, 7, 8])
 (VC.seq
 (VC.reg
 [VI.rd 11 none (VOp.mv (Od.t 1)), VI.rd 12 none (VOp.mv (Od.t 0)), VI.rd 13 none (VOp.mv (Od.t 5)), VI.rd 14 none (VOp.ixa 1 (Od.t 12) (Od.t 13)), VI.rd 15 none (VOp.load 1 false (Od.t 14)), VI.call (some 16) none (Od.t 11) [Od.t 15]]
 [0, 1, 5, 7, 8, 16])
 (VC.cond 16 (VC.seq (VC.reg [VI.rd 17 none (VOp.mv (Od.t 5)), VI.rd 4 none (VOp.mv (Od.t 17))] [4]) (VC.ret)) (VC.skip)))))
 (VC.reg [VI.rd 18 none (VOp.bin (BinOp.add) (Od.t 8) (Od.c (VV.int (IntKind.i64) 1))), VI.rd 8 none (VOp.mv (Od.t 18))] [0, 1, 7, 8])))))))
 (VC.seq (VC.reg [VI.rd 4 none (VOp.mv (Od.c (VV.int (IntKind.i64) (-1))))] [4]) (VC.ret))),
 [RV.t 4]⟩
theorem ok58 : w58.Ok Try.prog := FRow.ok_of (fn := Try.f58) (ks := k58) (by kernel_rfl) (by kernel_rfl) (by kernel_rfl) (by kernel_rfl) (by kernel_rfl)
def k59 : List (List Nat) := [[0, 2, 3, 4, 10], [0, 2, 4, 10, 11], [0, 2, 4, 10, 11, 20], [0, 2, 4, 10, 11, 23], [0, 2, 4, 10, 11], [0, 2, 4, 10, 11], [0, 2, 4, 10, 11], [0, 2, 4, 10, 11], []]
def w59 : FRow := ⟨59, 58, VC.seq
 (VC.reg [VI.rd 12 none (VOp.mv (Od.t 2)), VI.rd 13 none (VOp.mv (Od.t 1)), VI.rd 14 none (VOp.bin (BinOp.sub) (Od.t 12) (Od.t 13)), VI.rd 10 none (VOp.mv (Od.t 14))] [0, 2, 3, 4, 10])
 (VC.seq
 (VC.reg [VI.rd 15 none (VOp.mv (Od.t 3)), VI.rd 16 none (VOp.mv (Od.t 2)), VI.rd 17 none (VOp.bin (BinOp.sub) (Od.t 15) (Od.t 16)), VI.rd 11 none (VOp.mv (Od.t 17))] [0, 2, 4, 10, 11])
 (VC.seq
 (VC.block
 0
 (VC.loop
 (VC.seq
 (VC.seq (VC.reg [VI.rd 18 none (VOp.mv (Od.t 10)), VI.rd 19 none (VOp.mv (Od.t 11)), VI.rd 20 none (VOp.bin (BinOp.neq) (Od.t 18) (Od.t 19))] [0, 2, 4, 10, 11, 20]) (VC.cond 20 (VC.skip) (VC.exit 0)))
 (VC.block
 1
 (VC.seq
 (VC.reg [VI.rd 21 none (VOp.mv (Od.t 10)), VI.rd 22 none (VOp.mv (Od.t 11)), VI.rd 23 none (VOp.bin (BinOp.gtr) (Od.t 21) (Od.t 22))] [0, 2, 4, 10, 11, 23])
 (VC.cond
 23
 (VC.seq
 (VC.reg
 [VI.rd 24 none (VOp.mv (Od.t 0)),
 VI.rd 25 none (VOp.mv (Od.t 2)),
 VI.rd 26 none (VOp.mv (Od.t 10)),
 VI.rd 27 none (VOp.bin (BinOp.sub) (Od.t 25) (Od.t 26)),
 VI.rd 28 none (VOp.mv (Od.t 2)),
 VI.rd 29 none (VOp.mv (Od.t 11)),
 VI.rd 30 none (VOp.mv (Od.t 4)),
 VI.call (some 31) none (Od.c (VV.fn 61 [])) [Od.t 24, Od.t 27, Od.t 28, Od.t 29, Od.t 30]]
 [0, 2, 4, 10, 11])
 (VC.reg [VI.rd 32 none (VOp.mv (Od.t 10)), VI.rd 33 none (VOp.mv (Od.t 11)), VI.rd 34 none (VOp.bin (BinOp.sub) (Od.t 32) (Od.t 33)), VI.rd 10 none (VOp.mv (Od.t 34))] [0, 2, 4, 10, 11]))
 (VC.seq
 (VC.reg
 [VI.rd 35 none (VOp.mv (Od.t 0)),
 VI.rd 36 none (VOp.mv (Od.t 2)),
 VI.rd 37 none (VOp.mv (Od.t 10)),
 VI.rd 38 none (VOp.bin (BinOp.sub) (Od.t 36) (Od.t 37)),
 VI.rd 39 none (VOp.mv (Od.t 2)),
 VI.rd 40 none (VOp.mv (Od.t 11)),
 VI.rd 41 none (VOp.bin (BinOp.add) (Od.t 39) (Od.t 40)),
 VI.rd 42 none (VOp.mv (Od.t 10)),
 VI.rd 43 none (VOp.bin (BinOp.sub) (Od.t 41) (Od.t 42)),
 VI.rd 44 none (VOp.mv (Od.t 10)),
 VI.rd 45 none (VOp.mv (Od.t 4)),
 VI.call (some 46) none (Od.c (VV.fn 61 [])) [Od.t 35, Od.t 38, Od.t 43, Od.t 44, Od.t 45]]
 [0, 2, 4, 10, 11])
 (VC.reg [VI.rd 47 none (VOp.mv (Od.t 11)), VI.rd 48 none (VOp.mv (Od.t 10)), VI.rd 49 none (VOp.bin (BinOp.sub) (Od.t 47) (Od.t 48)), VI.rd 11 none (VOp.mv (Od.t 49))] [0, 2, 4, 10, 11]))))))))
 (VC.reg
 [VI.rd 50 none (VOp.mv (Od.t 0)),
 VI.rd 51 none (VOp.mv (Od.t 2)),
 VI.rd 52 none (VOp.mv (Od.t 10)),
 VI.rd 53 none (VOp.bin (BinOp.sub) (Od.t 51) (Od.t 52)),
 VI.rd 54 none (VOp.mv (Od.t 2)),
 VI.rd 55 none (VOp.mv (Od.t 10)),
 VI.rd 56 none (VOp.mv (Od.t 4)),
 VI.call (some 57) none (Od.c (VV.fn 61 [])) [Od.t 50, Od.t 53, Od.t 54, Od.t 55, Od.t 56]]
 []))),
 []⟩
theorem ok59 : w59.Ok Try.prog := FRow.ok_of (fn := Try.f59) (ks := k59) (by kernel_rfl) (by kernel_rfl) (by kernel_rfl) (by kernel_rfl) (by kernel_rfl)
def k61 : List (List Nat) := [[0, 1, 2, 3, 10], [0, 1, 2, 3, 10, 13], [0, 1, 2, 3, 10], [0, 1, 2, 3, 10]]
def w61 : FRow := ⟨61, 38, VC.seq
 (VC.reg [VI.rd 10 none (VOp.mv (Od.c (VV.int (IntKind.i64) 0)))] [0, 1, 2, 3, 10])
 (VC.block
 0
 (VC.loop
 (VC.seq
 (VC.seq (VC.reg [VI.rd 11 none (VOp.mv (Od.t 10)), VI.rd 12 none (VOp.mv (Od.t 3)), VI.rd 13 none (VOp.bin (BinOp.lss) (Od.t 11) (Od.t 12))] [0, 1, 2, 3, 10, 13]) (VC.cond 13 (VC.skip) (VC.exit 0)))
 (VC.seq
 (VC.block
 1
 (VC.dreg
 [VI.rd 16 none (VOp.mv (Od.t 0)),
 VI.rd 17 none (VOp.mv (Od.t 1)),
 VI.rd 18 none (VOp.mv (Od.t 10)),
 VI.rd 19 none (VOp.bin (BinOp.add) (Od.t 17) (Od.t 18)),
 VI.rd 20 none (VOp.mv (Od.t 0)),
 VI.rd 21 none (VOp.mv (Od.t 2)),
 VI.rd 22 none (VOp.mv (Od.t 10)),
 VI.rd 23 none (VOp.bin (BinOp.add) (Od.t 21) (Od.t 22)),
 VI.rd 24 none (VOp.mv (Od.t 0)),
 VI.rd 25 none (VOp.mv (Od.t 2)),
 VI.rd 26 none (VOp.mv (Od.t 10)),
 VI.rd 27 none (VOp.bin (BinOp.add) (Od.t 25) (Od.t 26)),
 VI.rd 28 none (VOp.ixa 1 (Od.t 24) (Od.t 27)),
 VI.rd 29 none (VOp.load 1 false (Od.t 28)),
 VI.rd 30 none (VOp.mv (Od.t 0)),
 VI.rd 31 none (VOp.mv (Od.t 1)),
 VI.rd 32 none (VOp.mv (Od.t 10)),
 VI.rd 33 none (VOp.bin (BinOp.add) (Od.t 31) (Od.t 32)),
 VI.rd 34 none (VOp.ixa 1 (Od.t 30) (Od.t 33)),
 VI.rd 35 none (VOp.load 1 false (Od.t 34)),
 VI.rd 36 none (VOp.ixa 1 (Od.t 16) (Od.t 19)),
 VI.ef none none (VEf.store 1 (Od.t 36) (Od.t 29)),
 VI.rd 37 none (VOp.ixa 1 (Od.t 20) (Od.t 23)),
 VI.ef none none (VEf.store 1 (Od.t 37) (Od.t 35))]
 [(0, 0), (0, 0), (0, 0), (0, 0), (0, 1), (0, 1), (0, 1), (0, 1), (0, 0), (0, 0), (0, 0), (0, 0), (0, 0), (0, 0), (0, 0), (0, 0), (0, 0), (0, 0), (0, 0), (0, 0), (0, 0), (0, 0), (1, 1), (1, 1)]
 [0, 1, 2, 3, 10]))
 (VC.reg [VI.rd 14 none (VOp.mv (Od.t 10)), VI.rd 15 none (VOp.bin (BinOp.add) (Od.t 14) (Od.c (VV.int (IntKind.i64) 1))), VI.rd 10 none (VOp.mv (Od.t 15))] [0, 1, 2, 3, 10]))))),
 []⟩
theorem ok61 : w61.Ok Try.prog := FRow.ok_of (fn := Try.f61) (ks := k61) (by kernel_rfl) (by kernel_rfl) (by kernel_rfl) (by kernel_rfl) (by kernel_rfl)
end Go.Proofs.Ytlclbfkdaemilaa
