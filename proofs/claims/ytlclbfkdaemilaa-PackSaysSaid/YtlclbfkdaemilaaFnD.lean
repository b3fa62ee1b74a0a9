/- Functions, compiled for the canonical machine (printed by a program). -/
import Derived.Test.YtlclbfkdaemilaaVmL
import Derived.Test.YtlclbfkdaemilaaProg
namespace Go.Proofs.Ytlclbfkdaemilaa
set_option linter.unusedSimpArgs false
set_option linter.unusedVariables false
open Go Go.Vm Go.Proofs
set_option maxRecDepth 100000
def k3 : List (List Nat) := [[0], [0, 3], [0, 3, 4, 5], [0, 3, 4, 5, 6, 7], [0, 3, 4, 6, 7, 34], [2], [0, 3, 4, 6, 7], [0, 3, 4, 5, 6, 7], [2]]
def w3 : FRow := ⟨3, 58, VC.seq
 (VC.reg [VI.rd 2 none (VOp.mv (Od.c (VV.bool false)))] [0])
 (VC.seq
 (VC.reg [VI.rd 8 none (VOp.mv (Od.t 0)), VI.call (some 9) none (Od.c (VV.fn 9 [])) [Od.t 8], VI.rd 3 none (VOp.mv (Od.t 9))] [0, 3])
 (VC.seq
 (VC.reg
 [VI.rd 11 none (VOp.mv (Od.t 3)),
 VI.call (some 12) none (Od.c (VV.fn 10 [])) [Od.t 11],
 VI.rd 10 none (VOp.mv (Od.t 12)),
 VI.rd 13 none (VOp.ext 0 (Od.t 10)),
 VI.rd 14 none (VOp.ext 1 (Od.t 10)),
 VI.ef (some 4) none (VEf.alloc 26 [VV.sl none 0 0, VV.sl none 0 0, VV.sl none 0 0]),
 VI.ef none none (VEf.store 3 (Od.t 4) (Od.t 13)),
 VI.rd 5 none (VOp.mv (Od.t 14))]
 [0, 3, 4, 5])
 (VC.seq
 (VC.reg
 [VI.rd 16 none (VOp.mv (Od.t 0)),
 VI.call (some 17) none (Od.c (VV.fn 11 [])) [Od.t 16],
 VI.rd 15 none (VOp.mv (Od.t 17)),
 VI.rd 18 none (VOp.ext 0 (Od.t 15)),
 VI.rd 19 none (VOp.ext 1 (Od.t 15)),
 VI.ef (some 6) none (VEf.alloc 26 [VV.sl none 0 0, VV.sl none 0 0, VV.sl none 0 0]),
 VI.ef none none (VEf.store 3 (Od.t 6) (Od.t 18)),
 VI.rd 7 none (VOp.mv (Od.t 19))]
 [0, 3, 4, 5, 6, 7])
 (VC.seq
 (VC.seq
 (VC.reg
 [VI.rd 20 none (VOp.mv (Od.t 5)),
 VI.rd 21 none (VOp.mv (Od.t 7)),
 VI.rd 22 none (VOp.bin (BinOp.neq) (Od.t 20) (Od.t 21)),
 VI.rd 23 none (VOp.mv (Od.t 22)),
 VI.rd 24 (some (23, false)) (VOp.load 3 true (Od.t 4)),
 VI.rd 25 (some (23, false)) (VOp.load 3 true (Od.t 6)),
 VI.call (some 26) (some (23, false)) (Od.c (VV.fn 12 [])) [Od.t 24, Od.t 25],
 VI.rd 27 (some (23, false)) (VOp.not (Od.t 26)),
 VI.rd 28 none (VOp.pick (Od.t 23) (Od.c (VV.bool true)) (Od.t 27)),
 VI.rd 29 none (VOp.mv (Od.t 28)),
 VI.rd 30 (some (29, false)) (VOp.mv (Od.t 3)),
 VI.rd 31 (some (29, false)) (VOp.mv (Od.t 0)),
 VI.call (some 32) (some (29, false)) (Od.c (VV.fn 13 [])) [Od.t 30, Od.t 31],
 VI.rd 33 (some (29, false)) (VOp.not (Od.t 32)),
 VI.rd 34 none (VOp.pick (Od.t 29) (Od.c (VV.bool true)) (Od.t 33))]
 [0, 3, 4, 6, 7, 34])
 (VC.cond 34 (VC.seq (VC.reg [VI.rd 2 none (VOp.mv (Od.c (VV.bool false)))] [2]) (VC.ret)) (VC.skip)))
 (VC.seq
 (VC.reg [VI.rd 35 none (VOp.load 3 true (Od.t 4)), VI.call (some 36) none (Od.c (VV.fn 14 [])) [Od.t 35]] [0, 3, 4, 6, 7])
 (VC.seq
 (VC.reg
 [VI.rd 38 none (VOp.mv (Od.t 3)),
 VI.call (some 39) none (Od.c (VV.fn 10 [])) [Od.t 38],
 VI.rd 37 none (VOp.mv (Od.t 39)),
 VI.rd 40 none (VOp.ext 0 (Od.t 37)),
 VI.rd 41 none (VOp.ext 1 (Od.t 37)),
 VI.ef none none (VEf.store 3 (Od.t 4) (Od.t 40)),
 VI.rd 5 none (VOp.mv (Od.t 41))]
 [0, 3, 4, 5, 6, 7])
 (VC.seq
 (VC.reg
 [VI.rd 42 none (VOp.mv (Od.t 5)),
 VI.rd 43 none (VOp.mv (Od.t 7)),
 VI.rd 44 none (VOp.bin (BinOp.eql) (Od.t 42) (Od.t 43)),
 VI.rd 45 none (VOp.mv (Od.t 44)),
 VI.rd 46 (some (45, true)) (VOp.load 3 true (Od.t 4)),
 VI.rd 47 (some (45, true)) (VOp.load 3 true (Od.t 6)),
 VI.call (some 48) (some (45, true)) (Od.c (VV.fn 12 [])) [Od.t 46, Od.t 47],
 VI.rd 49 none (VOp.pick (Od.t 45) (Od.t 48) (Od.c (VV.bool false))),
 VI.rd 50 none (VOp.mv (Od.t 49)),
 VI.rd 51 (some (50, true)) (VOp.mv (Od.t 3)),
 VI.rd 52 (some (50, true)) (VOp.mv (Od.t 0)),
 VI.call (some 53) (some (50, true)) (Od.c (VV.fn 13 [])) [Od.t 51, Od.t 52],
 VI.rd 54 none (VOp.pick (Od.t 50) (Od.t 53) (Od.c (VV.bool false))),
 VI.rd 55 none (VOp.mv (Od.t 54)),
 VI.call (some 56) (some (55, true)) (Od.c (VV.fn 15 [])) [],
 VI.rd 57 none (VOp.pick (Od.t 55) (Od.t 56) (Od.c (VV.bool false))),
 VI.rd 2 none (VOp.mv (Od.t 57))]
 [2])
 (VC.ret)))))))),
 [RV.t 2]⟩
theorem ok3 : w3.Ok Try.prog := FRow.ok_of (fn := Try.f3) (ks := k3) (by kernel_rfl) (by kernel_rfl) (by kernel_rfl) (by kernel_rfl) (by kernel_rfl)
def k5 : List (List Nat) := [[0], [0, 3, 4], [0, 3, 4, 30], [2], [0, 3, 81], [2], [0, 3, 5], [0, 3, 5, 6], [0, 3, 5, 6, 85], [0, 3, 5, 6], [0, 3, 5, 6, 7], [0, 3, 5, 6, 7, 8], [0, 3, 5, 6, 7, 8, 95], [0, 3, 5, 6, 7, 8], [0, 3, 5, 6, 7, 8, 9], [0, 3, 5, 6, 7, 8, 9, 119], [2], [0, 3, 5, 6, 7, 8, 9], [0, 3, 5, 6, 7, 8, 9], [0, 3, 5, 6, 7, 8, 9, 10, 11], [0, 3, 5, 6, 7, 8, 141], [2], [0, 3, 5, 6, 7, 12], [0, 3, 5, 6, 7, 12, 146], [0, 3, 5, 6, 7, 12], [0, 3, 5, 6, 7, 12, 156], [0, 3, 5, 6, 7, 12, 13, 14], [0, 3, 5, 6, 7, 12, 168], [2], [0, 3, 5, 15], [0, 3, 5, 15, 16], [0, 3, 5, 15, 16, 173], [0, 3, 5, 15, 16], [0, 3, 5, 15, 16, 181], [0, 3, 5, 15, 16], [0, 3, 5, 15, 16, 189], [2], [0, 3, 5, 15, 17], [0, 3, 5, 15, 17, 193], [0, 3, 5, 15, 17], [0, 3, 5, 15, 17, 18], [0, 3, 5, 15, 17, 18, 202], [0, 3, 5, 15, 17, 18], [0, 3, 5, 15, 17, 18, 19], [0, 3, 5, 15, 17, 18, 19, 20], [0, 3, 5, 15, 17, 18, 19, 20, 215], [0, 3, 5, 15, 17, 18, 19, 20], [0, 3, 5, 15, 17, 18, 19, 20, 21], [0, 3, 5, 15, 17, 18, 19, 20, 21, 240], [0, 3, 5, 15, 17, 18, 20, 22], [0, 3, 5, 15, 17, 18, 19, 20], [0, 3, 5, 15, 17, 18, 282], [2], [2]]
def w5 : FRow := ⟨5, 289, VC.seq
 (VC.reg [VI.rd 2 none (VOp.mv (Od.c (VV.bool false)))] [0])
 (VC.seq
 (VC.reg
 [VI.rd 24 none (VOp.mv (Od.t 0)),
 VI.call (some 25) none (Od.c (VV.fn 9 [])) [Od.t 24],
 VI.call (some 26) none (Od.c (VV.fn 10 [])) [Od.t 25],
 VI.rd 23 none (VOp.mv (Od.t 26)),
 VI.rd 27 none (VOp.ext 0 (Od.t 23)),
 VI.rd 28 none (VOp.ext 1 (Od.t 23)),
 VI.ef (some 3) none (VEf.alloc 26 [VV.sl none 0 0, VV.sl none 0 0, VV.sl none 0 0]),
 VI.ef none none (VEf.store 3 (Od.t 3) (Od.t 27)),
 VI.rd 4 none (VOp.mv (Od.t 28))]
 [0, 3, 4])
 (VC.seq
 (VC.seq
 (VC.reg [VI.rd 29 none (VOp.mv (Od.t 4)), VI.rd 30 none (VOp.bin (BinOp.neq) (Od.t 29) (Od.c (VV.int (IntKind.i64) 0)))] [0, 3, 4, 30])
 (VC.cond
 30
 (VC.seq
 (VC.reg
 [VI.rd 31 none (VOp.mv (Od.t 4)),
 VI.rd 32 none (VOp.bin (BinOp.eql) (Od.t 31) (Od.c (VV.int (IntKind.i64) 1))),
 VI.rd 33 none (VOp.mv (Od.t 32)),
 VI.rd 34 (some (33, true)) (VOp.faddr 0 (Od.t 3)),
 VI.rd 35 (some (33, true)) (VOp.load 1 false (Od.t 34)),
 VI.rd 36 (some (33, true)) (VOp.lens (Od.t 35)),
 VI.rd 37 (some (33, true)) (VOp.faddr 1 (Od.t 3)),
 VI.rd 38 (some (33, true)) (VOp.load 1 false (Od.t 37)),
 VI.rd 39 (some (33, true)) (VOp.lens (Od.t 38)),
 VI.rd 40 (some (33, true)) (VOp.bin (BinOp.add) (Od.t 36) (Od.t 39)),
 VI.rd 41 (some (33, true)) (VOp.faddr 2 (Od.t 3)),
 VI.rd 42 (some (33, true)) (VOp.load 1 false (Od.t 41)),
 VI.rd 43 (some (33, true)) (VOp.lens (Od.t 42)),
 VI.rd 44 (some (33, true)) (VOp.bin (BinOp.add) (Od.t 40) (Od.t 43)),
 VI.rd 45 (some (33, true)) (VOp.bin (BinOp.eql) (Od.t 44) (Od.c (VV.int (IntKind.i64) 0))),
 VI.rd 46 none (VOp.pick (Od.t 33) (Od.t 45) (Od.c (VV.bool false))),
 VI.rd 47 none (VOp.mv (Od.t 46)),
 VI.call (some 48) (some (47, true)) (Od.c (VV.fn 15 [])) [],
 VI.rd 49 none (VOp.pick (Od.t 47) (Od.t 48) (Od.c (VV.bool false))),
 VI.rd 2 none (VOp.mv (Od.t 49))]
 [2])
 (VC.ret))
 (VC.skip)))
 (VC.seq
 (VC.seq
 (VC.reg
 [VI.rd 50 none (VOp.faddr 0 (Od.t 3)),
 VI.rd 51 none (VOp.load 1 false (Od.t 50)),
 VI.rd 52 none (VOp.lens (Od.t 51)),
 VI.rd 53 none (VOp.mv (Od.t 0)),
 VI.rd 54 none (VOp.lens (Od.t 53)),
 VI.rd 55 none (VOp.bin (BinOp.neq) (Od.t 52) (Od.t 54)),
 VI.rd 56 none (VOp.mv (Od.t 55)),
 VI.rd 57 (some (56, false)) (VOp.faddr 1 (Od.t 3)),
 VI.rd 58 (some (56, false)) (VOp.load 1 false (Od.t 57)),
 VI.rd 59 (some (56, false)) (VOp.lens (Od.t 58)),
 VI.rd 60 (some (56, false)) (VOp.faddr 2 (Od.t 3)),
 VI.rd 61 (some (56, false)) (VOp.load 1 false (Od.t 60)),
 VI.rd 62 (some (56, false)) (VOp.lens (Od.t 61)),
 VI.rd 63 (some (56, false)) (VOp.bin (BinOp.neq) (Od.t 59) (Od.t 62)),
 VI.rd 64 none (VOp.pick (Od.t 56) (Od.c (VV.bool true)) (Od.t 63)),
 VI.rd 65 none (VOp.mv (Od.t 64)),
 VI.rd 66 (some (65, false)) (VOp.faddr 2 (Od.t 3)),
 VI.rd 67 (some (65, false)) (VOp.load 1 false (Od.t 66)),
 VI.rd 68 (some (65, false)) (VOp.lens (Od.t 67)),
 VI.rd 69 (some (65, false)) (VOp.bin (BinOp.gtr) (Od.t 68) (Od.c (VV.int (IntKind.i64) 0))),
 VI.rd 70 (some (65, false)) (VOp.mv (Od.t 69)),
 VI.rd 71 (some (70, true)) (VOp.faddr 2 (Od.t 3)),
 VI.rd 72 (some (70, true)) (VOp.load 1 false (Od.t 71)),
 VI.rd 73 (some (70, true)) (VOp.faddr 2 (Od.t 3)),
 VI.rd 74 (some (70, true)) (VOp.load 1 false (Od.t 73)),
 VI.rd 75 (some (70, true)) (VOp.lens (Od.t 74)),
 VI.rd 76 (some (70, true)) (VOp.bin (BinOp.sub) (Od.t 75) (Od.c (VV.int (IntKind.i64) 1))),
 VI.rd 77 (some (70, true)) (VOp.ixa 1 (Od.t 72) (Od.t 76)),
 VI.rd 78 (some (70, true)) (VOp.load 1 false (Od.t 77)),
 VI.rd 79 (some (70, true)) (VOp.bin (BinOp.lss) (Od.t 78) (Od.c (VV.int (IntKind.i64) 0))),
 VI.rd 80 (some (65, false)) (VOp.pick (Od.t 70) (Od.t 79) (Od.c (VV.bool false))),
 VI.rd 81 none (VOp.pick (Od.t 65) (Od.c (VV.bool true)) (Od.t 80))]
 [0, 3, 81])
 (VC.cond 81 (VC.seq (VC.reg [VI.rd 2 none (VOp.mv (Od.c (VV.bool false)))] [2]) (VC.ret)) (VC.skip)))
 (VC.seq
 (VC.reg [VI.rd 5 none (VOp.mv (Od.c (VV.int (IntKind.i64) 0)))] [0, 3, 5])
 (VC.seq
 (VC.seq
 (VC.reg [VI.rd 6 none (VOp.mv (Od.c (VV.int (IntKind.i64) 0)))] [0, 3, 5, 6])
 (VC.block
 0
 (VC.loop
 (VC.seq
 (VC.seq (VC.reg [VI.rd 82 none (VOp.mv (Od.t 6)), VI.rd 83 none (VOp.mv (Od.t 0)), VI.rd 84 none (VOp.lens (Od.t 83)), VI.rd 85 none (VOp.bin (BinOp.lss) (Od.t 82) (Od.t 84))] [0, 3, 5, 6, 85]) (VC.cond 85 (VC.skip) (VC.exit 0)))
 (VC.seq
 (VC.block
 1
 (VC.seq
 (VC.reg [VI.ef (some 88) none (VEf.mksl 4 1 [VV.bool false] (Od.c (VV.int (IntKind.i64) 258)) (Od.c (VV.int (IntKind.i64) 258))), VI.rd 7 none (VOp.mv (Od.t 88))] [0, 3, 5, 6, 7])
 (VC.seq
 (VC.seq
 (VC.reg [VI.rd 8 none (VOp.mv (Od.c (VV.int (IntKind.i64) 0)))] [0, 3, 5, 6, 7, 8])
 (VC.block
 2
 (VC.loop
 (VC.seq
 (VC.seq
 (VC.reg
 [VI.rd 89 none (VOp.mv (Od.t 8)),
 VI.rd 90 none (VOp.mv (Od.t 0)),
 VI.rd 91 none (VOp.mv (Od.t 6)),
 VI.rd 92 none (VOp.ixa 1 (Od.t 90) (Od.t 91)),
 VI.rd 93 none (VOp.load 1 false (Od.t 92)),
 VI.rd 94 none (VOp.lens (Od.t 93)),
 VI.rd 95 none (VOp.bin (BinOp.lss) (Od.t 89) (Od.t 94))]
 [0, 3, 5, 6, 7, 8, 95])
 (VC.cond 95 (VC.skip) (VC.exit 2)))
 (VC.seq
 (VC.block
 3
 (VC.seq
 (VC.reg
 [VI.rd 98 none (VOp.mv (Od.t 0)),
 VI.rd 99 none (VOp.mv (Od.t 6)),
 VI.rd 100 none (VOp.ixa 1 (Od.t 98) (Od.t 99)),
 VI.rd 101 none (VOp.load 1 false (Od.t 100)),
 VI.rd 102 none (VOp.mv (Od.t 8)),
 VI.rd 103 none (VOp.ixa 2 (Od.t 101) (Od.t 102)),
 VI.rd 104 none (VOp.load 2 true (Od.t 103)),
 VI.ef (some 9) none (VEf.alloc 42 [VV.int (IntKind.i64) 0, VV.int (IntKind.i64) 0]),
 VI.ef none none (VEf.store 2 (Od.t 9) (Od.t 104))]
 [0, 3, 5, 6, 7, 8, 9])
 (VC.seq
 (VC.seq
 (VC.reg
 [VI.rd 105 none (VOp.faddr 0 (Od.t 9)),
 VI.rd 106 none (VOp.load 1 false (Od.t 105)),
 VI.rd 107 none (VOp.bin (BinOp.lss) (Od.t 106) (Od.c (VV.int (IntKind.i64) 0))),
 VI.rd 108 none (VOp.mv (Od.t 107)),
 VI.rd 109 (some (108, false)) (VOp.faddr 0 (Od.t 9)),
 VI.rd 110 (some (108, false)) (VOp.load 1 false (Od.t 109)),
 VI.rd 111 (some (108, false)) (VOp.bin (BinOp.geq) (Od.t 110) (Od.c (VV.int (IntKind.i64) 256))),
 VI.rd 112 none (VOp.pick (Od.t 108) (Od.c (VV.bool true)) (Od.t 111)),
 VI.rd 113 none (VOp.mv (Od.t 112)),
 VI.rd 114 (some (113, false)) (VOp.mv (Od.t 7)),
 VI.rd 115 (some (113, false)) (VOp.faddr 0 (Od.t 9)),
 VI.rd 116 (some (113, false)) (VOp.load 1 false (Od.t 115)),
 VI.rd 117 (some (113, false)) (VOp.ixa 1 (Od.t 114) (Od.t 116)),
 VI.rd 118 (some (113, false)) (VOp.load 1 false (Od.t 117)),
 VI.rd 119 none (VOp.pick (Od.t 113) (Od.c (VV.bool true)) (Od.t 118))]
 [0, 3, 5, 6, 7, 8, 9, 119])
 (VC.cond 119 (VC.seq (VC.reg [VI.rd 2 none (VOp.mv (Od.c (VV.bool false)))] [2]) (VC.ret)) (VC.skip)))
 (VC.seq
 (VC.reg
 [VI.rd 120 none (VOp.mv (Od.t 7)), VI.rd 121 none (VOp.faddr 0 (Od.t 9)), VI.rd 122 none (VOp.load 1 false (Od.t 121)), VI.rd 123 none (VOp.ixa 1 (Od.t 120) (Od.t 122)), VI.ef none none (VEf.store 1 (Od.t 123) (Od.c (VV.bool true)))]
 [0, 3, 5, 6, 7, 8, 9])
 (VC.seq
 (VC.reg [VI.rd 124 none (VOp.mv (Od.t 5)), VI.rd 125 none (VOp.bin (BinOp.add) (Od.t 124) (Od.c (VV.int (IntKind.i64) 1))), VI.rd 5 none (VOp.mv (Od.t 125))] [0, 3, 5, 6, 7, 8, 9])
 (VC.seq
 (VC.reg
 [VI.rd 127 none (VOp.load 3 true (Od.t 3)),
 VI.rd 128 none (VOp.mv (Od.t 6)),
 VI.rd 129 none (VOp.faddr 0 (Od.t 9)),
 VI.rd 130 none (VOp.load 1 false (Od.t 129)),
 VI.call (some 131) none (Od.c (VV.fn 16 [])) [Od.t 127, Od.t 128, Od.t 130],
 VI.rd 126 none (VOp.mv (Od.t 131)),
 VI.rd 132 none (VOp.ext 0 (Od.t 126)),
 VI.rd 133 none (VOp.ext 1 (Od.t 126)),
 VI.rd 10 none (VOp.mv (Od.t 132)),
 VI.rd 11 none (VOp.mv (Od.t 133))]
 [0, 3, 5, 6, 7, 8, 9, 10, 11])
 (VC.seq
 (VC.reg
 [VI.rd 134 none (VOp.mv (Od.t 11)),
 VI.rd 135 none (VOp.not (Od.t 134)),
 VI.rd 136 none (VOp.mv (Od.t 135)),
 VI.rd 137 (some (136, false)) (VOp.mv (Od.t 10)),
 VI.rd 138 (some (136, false)) (VOp.faddr 1 (Od.t 9)),
 VI.rd 139 (some (136, false)) (VOp.load 1 false (Od.t 138)),
 VI.rd 140 (some (136, false)) (VOp.bin (BinOp.neq) (Od.t 137) (Od.t 139)),
 VI.rd 141 none (VOp.pick (Od.t 136) (Od.c (VV.bool true)) (Od.t 140))]
 [0, 3, 5, 6, 7, 8, 141])
 (VC.cond 141 (VC.seq (VC.reg [VI.rd 2 none (VOp.mv (Od.c (VV.bool false)))] [2]) (VC.ret)) (VC.skip)))))))))
 (VC.reg [VI.rd 96 none (VOp.mv (Od.t 8)), VI.rd 97 none (VOp.bin (BinOp.add) (Od.t 96) (Od.c (VV.int (IntKind.i64) 1))), VI.rd 8 none (VOp.mv (Od.t 97))] [0, 3, 5, 6, 7, 8]))))))
 (VC.seq
 (VC.reg [VI.rd 12 none (VOp.mv (Od.c (VV.int (IntKind.i64) (-1))))] [0, 3, 5, 6, 7, 12])
 (VC.block
 4
 (VC.loop
 (VC.seq
 (VC.seq
 (VC.reg
 [VI.rd 142 none (VOp.mv (Od.t 12)),
 VI.rd 143 none (VOp.mv (Od.t 7)),
 VI.rd 144 none (VOp.lens (Od.t 143)),
 VI.rd 145 none (VOp.bin (BinOp.sub) (Od.t 144) (Od.c (VV.int (IntKind.i64) 1))),
 VI.rd 146 none (VOp.bin (BinOp.lss) (Od.t 142) (Od.t 145))]
 [0, 3, 5, 6, 7, 12, 146])
 (VC.cond 146 (VC.skip) (VC.exit 4)))
 (VC.seq
 (VC.block
 5
 (VC.seq
 (VC.seq
 (VC.reg
 [VI.rd 149 none (VOp.mv (Od.t 12)),
 VI.rd 150 none (VOp.bin (BinOp.geq) (Od.t 149) (Od.c (VV.int (IntKind.i64) 0))),
 VI.rd 151 none (VOp.mv (Od.t 150)),
 VI.rd 152 (some (151, true)) (VOp.mv (Od.t 7)),
 VI.rd 153 (some (151, true)) (VOp.mv (Od.t 12)),
 VI.rd 154 (some (151, true)) (VOp.ixa 1 (Od.t 152) (Od.t 153)),
 VI.rd 155 (some (151, true)) (VOp.load 1 false (Od.t 154)),
 VI.rd 156 none (VOp.pick (Od.t 151) (Od.t 155) (Od.c (VV.bool false)))]
 [0, 3, 5, 6, 7, 12, 156])
 (VC.cond 156 (VC.exit 5) (VC.skip)))
 (VC.seq
 (VC.reg
 [VI.rd 158 none (VOp.load 3 true (Od.t 3)),
 VI.rd 159 none (VOp.mv (Od.t 6)),
 VI.rd 160 none (VOp.mv (Od.t 12)),
 VI.call (some 161) none (Od.c (VV.fn 16 [])) [Od.t 158, Od.t 159, Od.t 160],
 VI.rd 157 none (VOp.mv (Od.t 161)),
 VI.rd 162 none (VOp.ext 0 (Od.t 157)),
 VI.rd 163 none (VOp.ext 1 (Od.t 157)),
 VI.rd 13 none (VOp.mv (Od.t 162)),
 VI.rd 14 none (VOp.mv (Od.t 163))]
 [0, 3, 5, 6, 7, 12, 13, 14])
 (VC.seq
 (VC.reg
 [VI.rd 164 none (VOp.mv (Od.t 14)),
 VI.rd 165 none (VOp.mv (Od.t 164)),
 VI.rd 166 (some (165, false)) (VOp.mv (Od.t 13)),
 VI.rd 167 (some (165, false)) (VOp.bin (BinOp.neq) (Od.t 166) (Od.c (VV.int (IntKind.i64) 0))),
 VI.rd 168 none (VOp.pick (Od.t 165) (Od.c (VV.bool true)) (Od.t 167))]
 [0, 3, 5, 6, 7, 12, 168])
 (VC.cond 168 (VC.seq (VC.reg [VI.rd 2 none (VOp.mv (Od.c (VV.bool false)))] [2]) (VC.ret)) (VC.skip))))))
 (VC.reg [VI.rd 147 none (VOp.mv (Od.t 12)), VI.rd 148 none (VOp.bin (BinOp.add) (Od.t 147) (Od.c (VV.int (IntKind.i64) 1))), VI.rd 12 none (VOp.mv (Od.t 148))] [0, 3, 5, 6, 7, 12])))))))))
 (VC.reg [VI.rd 86 none (VOp.mv (Od.t 6)), VI.rd 87 none (VOp.bin (BinOp.add) (Od.t 86) (Od.c (VV.int (IntKind.i64) 1))), VI.rd 6 none (VOp.mv (Od.t 87))] [0, 3, 5, 6]))))))
 (VC.seq
 (VC.reg [VI.rd 15 none (VOp.mv (Od.c (VV.int (IntKind.i64) 0)))] [0, 3, 5, 15])
 (VC.seq
 (VC.seq
 (VC.reg [VI.rd 16 none (VOp.mv (Od.c (VV.int (IntKind.i64) 0)))] [0, 3, 5, 15, 16])
 (VC.block
 6
 (VC.loop
 (VC.seq
 (VC.seq
 (VC.reg [VI.rd 169 none (VOp.mv (Od.t 16)), VI.rd 170 none (VOp.faddr 2 (Od.t 3)), VI.rd 171 none (VOp.load 1 false (Od.t 170)), VI.rd 172 none (VOp.lens (Od.t 171)), VI.rd 173 none (VOp.bin (BinOp.lss) (Od.t 169) (Od.t 172))] [0, 3, 5, 15, 16, 173])
 (VC.cond 173 (VC.skip) (VC.exit 6)))
 (VC.seq
 (VC.block
 7
 (VC.seq
 (VC.reg
 [VI.rd 176 none (VOp.faddr 2 (Od.t 3)),
 VI.rd 177 none (VOp.load 1 false (Od.t 176)),
 VI.rd 178 none (VOp.mv (Od.t 16)),
 VI.rd 179 none (VOp.ixa 1 (Od.t 177) (Od.t 178)),
 VI.rd 180 none (VOp.load 1 false (Od.t 179)),
 VI.rd 181 none (VOp.bin (BinOp.geq) (Od.t 180) (Od.c (VV.int (IntKind.i64) 0)))]
 [0, 3, 5, 15, 16, 181])
 (VC.cond
 181
 (VC.reg [VI.rd 182 none (VOp.mv (Od.t 15)), VI.rd 183 none (VOp.bin (BinOp.add) (Od.t 182) (Od.c (VV.int (IntKind.i64) 1))), VI.rd 15 none (VOp.mv (Od.t 183))] [0, 3, 5, 15, 16])
 (VC.seq
 (VC.reg
 [VI.rd 184 none (VOp.faddr 1 (Od.t 3)),
 VI.rd 185 none (VOp.load 1 false (Od.t 184)),
 VI.rd 186 none (VOp.mv (Od.t 16)),
 VI.rd 187 none (VOp.ixa 1 (Od.t 185) (Od.t 186)),
 VI.rd 188 none (VOp.load 1 false (Od.t 187)),
 VI.rd 189 none (VOp.bin (BinOp.neq) (Od.t 188) (Od.c (VV.int (IntKind.i64) 0)))]
 [0, 3, 5, 15, 16, 189])
 (VC.cond 189 (VC.seq (VC.reg [VI.rd 2 none (VOp.mv (Od.c (VV.bool false)))] [2]) (VC.ret)) (VC.skip))))))
 (VC.reg [VI.rd 174 none (VOp.mv (Od.t 16)), VI.rd 175 none (VOp.bin (BinOp.add) (Od.t 174) (Od.c (VV.int (IntKind.i64) 1))), VI.rd 16 none (VOp.mv (Od.t 175))] [0, 3, 5, 15, 16]))))))
 (VC.seq
 (VC.seq
 (VC.reg [VI.rd 17 none (VOp.mv (Od.c (VV.int (IntKind.i64) 0)))] [0, 3, 5, 15, 17])
 (VC.block
 8
 (VC.loop
 (VC.seq
 (VC.seq (VC.reg [VI.rd 190 none (VOp.mv (Od.t 17)), VI.rd 191 none (VOp.mv (Od.t 0)), VI.rd 192 none (VOp.lens (Od.t 191)), VI.rd 193 none (VOp.bin (BinOp.lss) (Od.t 190) (Od.t 192))] [0, 3, 5, 15, 17, 193]) (VC.cond 193 (VC.skip) (VC.exit 8)))
 (VC.seq
 (VC.block
 9
 (VC.seq
 (VC.reg [VI.rd 18 none (VOp.mv (Od.c (VV.int (IntKind.i64) 0)))] [0, 3, 5, 15, 17, 18])
 (VC.block
 10
 (VC.loop
 (VC.seq
 (VC.seq
 (VC.reg
 [VI.rd 196 none (VOp.mv (Od.t 18)),
 VI.rd 197 none (VOp.faddr 0 (Od.t 3)),
 VI.rd 198 none (VOp.load 1 false (Od.t 197)),
 VI.rd 199 none (VOp.mv (Od.t 17)),
 VI.rd 200 none (VOp.ixa 1 (Od.t 198) (Od.t 199)),
 VI.rd 201 none (VOp.load 1 false (Od.t 200)),
 VI.rd 202 none (VOp.bin (BinOp.lss) (Od.t 196) (Od.t 201))]
 [0, 3, 5, 15, 17, 18, 202])
 (VC.cond 202 (VC.skip) (VC.exit 10)))
 (VC.seq
 (VC.block
 11
 (VC.seq
 (VC.reg [VI.rd 19 none (VOp.mv (Od.c (VV.bool false)))] [0, 3, 5, 15, 17, 18, 19])
 (VC.seq
 (VC.seq
 (VC.reg [VI.rd 20 none (VOp.mv (Od.c (VV.int (IntKind.i64) 0)))] [0, 3, 5, 15, 17, 18, 19, 20])
 (VC.block
 12
 (VC.loop
 (VC.seq
 (VC.seq
 (VC.reg
 [VI.rd 205 none (VOp.mv (Od.t 20)),
 VI.rd 206 none (VOp.mv (Od.t 0)),
 VI.rd 207 none (VOp.mv (Od.t 17)),
 VI.rd 208 none (VOp.ixa 1 (Od.t 206) (Od.t 207)),
 VI.rd 209 none (VOp.load 1 false (Od.t 208)),
 VI.rd 210 none (VOp.lens (Od.t 209)),
 VI.rd 211 none (VOp.bin (BinOp.lss) (Od.t 205) (Od.t 210)),
 VI.rd 212 none (VOp.mv (Od.t 211)),
 VI.rd 213 (some (212, true)) (VOp.mv (Od.t 19)),
 VI.rd 214 (some (212, true)) (VOp.not (Od.t 213)),
 VI.rd 215 none (VOp.pick (Od.t 212) (Od.t 214) (Od.c (VV.bool false)))]
 [0, 3, 5, 15, 17, 18, 19, 20, 215])
 (VC.cond 215 (VC.skip) (VC.exit 12)))
 (VC.seq
 (VC.block
 13
 (VC.seq
 (VC.reg
 [VI.rd 218 none (VOp.mv (Od.t 18)),
 VI.rd 219 none (VOp.mv (Od.t 0)),
 VI.rd 220 none (VOp.mv (Od.t 17)),
 VI.rd 221 none (VOp.ixa 1 (Od.t 219) (Od.t 220)),
 VI.rd 222 none (VOp.load 1 false (Od.t 221)),
 VI.rd 223 none (VOp.mv (Od.t 20)),
 VI.rd 224 none (VOp.ixa 2 (Od.t 222) (Od.t 223)),
 VI.rd 225 none (VOp.faddr 0 (Od.t 224)),
 VI.rd 226 none (VOp.load 1 false (Od.t 225)),
 VI.rd 227 none (VOp.bin (BinOp.add) (Od.t 218) (Od.t 226)),
 VI.rd 21 none (VOp.mv (Od.t 227))]
 [0, 3, 5, 15, 17, 18, 19, 20, 21])
 (VC.seq
 (VC.reg
 [VI.rd 228 none (VOp.mv (Od.t 21)),
 VI.rd 229 none (VOp.faddr 2 (Od.t 3)),
 VI.rd 230 none (VOp.load 1 false (Od.t 229)),
 VI.rd 231 none (VOp.lens (Od.t 230)),
 VI.rd 232 none (VOp.bin (BinOp.lss) (Od.t 228) (Od.t 231)),
 VI.rd 233 none (VOp.mv (Od.t 232)),
 VI.rd 234 (some (233, true)) (VOp.faddr 2 (Od.t 3)),
 VI.rd 235 (some (233, true)) (VOp.load 1 false (Od.t 234)),
 VI.rd 236 (some (233, true)) (VOp.mv (Od.t 21)),
 VI.rd 237 (some (233, true)) (VOp.ixa 1 (Od.t 235) (Od.t 236)),
 VI.rd 238 (some (233, true)) (VOp.load 1 false (Od.t 237)),
 VI.rd 239 (some (233, true)) (VOp.bin (BinOp.geq) (Od.t 238) (Od.c (VV.int (IntKind.i64) 0))),
 VI.rd 240 none (VOp.pick (Od.t 233) (Od.t 239) (Od.c (VV.bool false)))]
 [0, 3, 5, 15, 17, 18, 19, 20, 21, 240])
 (VC.cond
 240
 (VC.seq
 (VC.reg
 [VI.rd 241 none (VOp.faddr 2 (Od.t 3)),
 VI.rd 242 none (VOp.load 1 false (Od.t 241)),
 VI.rd 243 none (VOp.mv (Od.t 21)),
 VI.rd 244 none (VOp.ixa 1 (Od.t 242) (Od.t 243)),
 VI.rd 245 none (VOp.load 1 false (Od.t 244)),
 VI.rd 22 none (VOp.mv (Od.t 245))]
 [0, 3, 5, 15, 17, 18, 20, 22])
 (VC.dreg
 [VI.rd 246 none (VOp.mv (Od.t 22)),
 VI.rd 247 none (VOp.mv (Od.t 0)),
 VI.rd 248 none (VOp.lens (Od.t 247)),
 VI.rd 249 none (VOp.bin (BinOp.lss) (Od.t 246) (Od.t 248)),
 VI.rd 250 none (VOp.mv (Od.t 249)),
 VI.rd 251 (some (250, true)) (VOp.mv (Od.t 0)),
 VI.rd 252 (some (250, true)) (VOp.mv (Od.t 22)),
 VI.rd 253 (some (250, true)) (VOp.ixa 1 (Od.t 251) (Od.t 252)),
 VI.rd 254 (some (250, true)) (VOp.load 1 false (Od.t 253)),
 VI.rd 255 (some (250, true)) (VOp.lens (Od.t 254)),
 VI.rd 256 (some (250, true)) (VOp.mv (Od.t 0)),
 VI.rd 257 (some (250, true)) (VOp.mv (Od.t 17)),
 VI.rd 258 (some (250, true)) (VOp.ixa 1 (Od.t 256) (Od.t 257)),
 VI.rd 259 (some (250, true)) (VOp.load 1 false (Od.t 258)),
 VI.rd 260 (some (250, true)) (VOp.lens (Od.t 259)),
 VI.rd 261 (some (250, true)) (VOp.bin (BinOp.gtr) (Od.t 255) (Od.t 260)),
 VI.rd 262 (some (250, true)) (VOp.mv (Od.t 261)),
 VI.rd 263 (some (262, false)) (VOp.mv (Od.t 0)),
 VI.rd 264 (some (262, false)) (VOp.mv (Od.t 22)),
 VI.rd 265 (some (262, false)) (VOp.ixa 1 (Od.t 263) (Od.t 264)),
 VI.rd 266 (some (262, false)) (VOp.load 1 false (Od.t 265)),
 VI.rd 267 (some (262, false)) (VOp.lens (Od.t 266)),
 VI.rd 268 (some (262, false)) (VOp.mv (Od.t 0)),
 VI.rd 269 (some (262, false)) (VOp.mv (Od.t 17)),
 VI.rd 270 (some (262, false)) (VOp.ixa 1 (Od.t 268) (Od.t 269)),
 VI.rd 271 (some (262, false)) (VOp.load 1 false (Od.t 270)),
 VI.rd 272 (some (262, false)) (VOp.lens (Od.t 271)),
 VI.rd 273 (some (262, false)) (VOp.bin (BinOp.eql) (Od.t 267) (Od.t 272)),
 VI.rd 274 (some (262, false)) (VOp.mv (Od.t 273)),
 VI.rd 275 (some (274, true)) (VOp.mv (Od.t 22)),
 VI.rd 276 (some (274, true)) (VOp.mv (Od.t 17)),
 VI.rd 277 (some (274, true)) (VOp.bin (BinOp.lss) (Od.t 275) (Od.t 276)),
 VI.rd 278 (some (262, false)) (VOp.pick (Od.t 274) (Od.t 277) (Od.c (VV.bool false))),
 VI.rd 279 (some (250, true)) (VOp.pick (Od.t 262) (Od.c (VV.bool true)) (Od.t 278)),
 VI.rd 280 none (VOp.pick (Od.t 250) (Od.t 279) (Od.c (VV.bool false))),
 VI.rd 19 none (VOp.mv (Od.t 280))]
 [(0, 0), (0, 0), (0, 0), (0, 0), (0, 0), (0, 0), (0, 0), (0, 0), (0, 0), (0, 0), (0, 0), (0, 0), (0, 0), (0, 0), (0, 0), (0, 0), (0, 0), (0, 0), (0, 0), (0, 0), (0, 0), (0, 0), (0, 0), (0, 0), (0, 0), (0, 0), (0, 0), (0, 0), (0, 0), (0, 0), (0, 0), (0, 0), (0, 0), (0, 0), (0, 0), (0, 0)]
 [0, 3, 5, 15, 17, 18, 19, 20]))
 (VC.skip)))))
 (VC.reg [VI.rd 216 none (VOp.mv (Od.t 20)), VI.rd 217 none (VOp.bin (BinOp.add) (Od.t 216) (Od.c (VV.int (IntKind.i64) 1))), VI.rd 20 none (VOp.mv (Od.t 217))] [0, 3, 5, 15, 17, 18, 19, 20]))))))
 (VC.seq (VC.reg [VI.rd 281 none (VOp.mv (Od.t 19)), VI.rd 282 none (VOp.not (Od.t 281))] [0, 3, 5, 15, 17, 18, 282]) (VC.cond 282 (VC.seq (VC.reg [VI.rd 2 none (VOp.mv (Od.c (VV.bool false)))] [2]) (VC.ret)) (VC.skip))))))
 (VC.reg [VI.rd 203 none (VOp.mv (Od.t 18)), VI.rd 204 none (VOp.bin (BinOp.add) (Od.t 203) (Od.c (VV.int (IntKind.i64) 1))), VI.rd 18 none (VOp.mv (Od.t 204))] [0, 3, 5, 15, 17, 18])))))))
 (VC.reg [VI.rd 194 none (VOp.mv (Od.t 17)), VI.rd 195 none (VOp.bin (BinOp.add) (Od.t 194) (Od.c (VV.int (IntKind.i64) 1))), VI.rd 17 none (VOp.mv (Od.t 195))] [0, 3, 5, 15, 17]))))))
 (VC.seq
 (VC.reg
 [VI.rd 283 none (VOp.mv (Od.t 15)),
 VI.rd 284 none (VOp.mv (Od.t 5)),
 VI.rd 285 none (VOp.bin (BinOp.eql) (Od.t 283) (Od.t 284)),
 VI.rd 286 none (VOp.mv (Od.t 285)),
 VI.call (some 287) (some (286, true)) (Od.c (VV.fn 15 [])) [],
 VI.rd 288 none (VOp.pick (Od.t 286) (Od.t 287) (Od.c (VV.bool false))),
 VI.rd 2 none (VOp.mv (Od.t 288))]
 [2])
 (VC.ret)))))))))),
 [RV.t 2]⟩
theorem ok5 : w5.Ok Try.prog := FRow.ok_of (fn := Try.f5) (ks := k5) (by kernel_rfl) (by kernel_rfl) (by kernel_rfl) (by kernel_rfl) (by kernel_rfl)
def k7 : List (List Nat) := [[1], [1, 3], [1, 3, 4, 5], [1, 3, 4, 5, 6, 7], [1, 3, 4, 6, 7, 28], [2], [1, 3, 4, 6, 7], [1, 3, 4, 6, 7], [1, 3, 4, 6, 7], [1, 3, 4, 5, 6, 7], [2]]
def w7 : FRow := ⟨7, 62, VC.seq
 (VC.reg [VI.ef (some 1) none (VEf.box 53 (Od.t 0)), VI.rd 2 none (VOp.mv (Od.c (VV.bool false)))] [1])
 (VC.seq
 (VC.reg [VI.rd 8 none (VOp.load 2 true (Od.t 1)), VI.call (some 9) none (Od.c (VV.fn 22 [])) [Od.t 8], VI.ef (some 3) none (VEf.alloc 53 [VV.sl none 0 0, VV.sl none 0 0]), VI.ef none none (VEf.store 2 (Od.t 3) (Od.t 9))] [1, 3])
 (VC.seq
 (VC.reg
 [VI.rd 11 none (VOp.load 2 true (Od.t 3)),
 VI.call (some 12) none (Od.c (VV.fn 23 [])) [Od.t 11],
 VI.rd 10 none (VOp.mv (Od.t 12)),
 VI.rd 13 none (VOp.ext 0 (Od.t 10)),
 VI.rd 14 none (VOp.ext 1 (Od.t 10)),
 VI.ef (some 4) none (VEf.alloc 44 [VV.sl none 0 0, VV.sl none 0 0, VV.sl none 0 0, VV.sl none 0 0, VV.sl none 0 0, VV.sl none 0 0, VV.sl none 0 0, VV.sl none 0 0]),
 VI.ef none none (VEf.store 8 (Od.t 4) (Od.t 13)),
 VI.rd 5 none (VOp.mv (Od.t 14))]
 [1, 3, 4, 5])
 (VC.seq
 (VC.reg
 [VI.rd 16 none (VOp.load 2 true (Od.t 1)),
 VI.call (some 17) none (Od.c (VV.fn 24 [])) [Od.t 16],
 VI.rd 15 none (VOp.mv (Od.t 17)),
 VI.rd 18 none (VOp.ext 0 (Od.t 15)),
 VI.rd 19 none (VOp.ext 1 (Od.t 15)),
 VI.ef (some 6) none (VEf.alloc 44 [VV.sl none 0 0, VV.sl none 0 0, VV.sl none 0 0, VV.sl none 0 0, VV.sl none 0 0, VV.sl none 0 0, VV.sl none 0 0, VV.sl none 0 0]),
 VI.ef none none (VEf.store 8 (Od.t 6) (Od.t 18)),
 VI.rd 7 none (VOp.mv (Od.t 19))]
 [1, 3, 4, 5, 6, 7])
 (VC.seq
 (VC.seq
 (VC.reg
 [VI.rd 20 none (VOp.mv (Od.t 5)),
 VI.rd 21 none (VOp.mv (Od.t 7)),
 VI.rd 22 none (VOp.bin (BinOp.neq) (Od.t 20) (Od.t 21)),
 VI.rd 23 none (VOp.mv (Od.t 22)),
 VI.rd 24 (some (23, false)) (VOp.load 8 true (Od.t 4)),
 VI.rd 25 (some (23, false)) (VOp.load 8 true (Od.t 6)),
 VI.call (some 26) (some (23, false)) (Od.c (VV.fn 25 [])) [Od.t 24, Od.t 25],
 VI.rd 27 (some (23, false)) (VOp.not (Od.t 26)),
 VI.rd 28 none (VOp.pick (Od.t 23) (Od.c (VV.bool true)) (Od.t 27))]
 [1, 3, 4, 6, 7, 28])
 (VC.cond 28 (VC.seq (VC.reg [VI.rd 2 none (VOp.mv (Od.c (VV.bool false)))] [2]) (VC.ret)) (VC.skip)))
 (VC.seq
 (VC.reg [VI.rd 29 none (VOp.faddr 1 (Od.t 4)), VI.rd 30 none (VOp.load 3 true (Od.t 29)), VI.call (some 31) none (Od.c (VV.fn 14 [])) [Od.t 30]] [1, 3, 4, 6, 7])
 (VC.seq
 (VC.reg [VI.rd 32 none (VOp.faddr 5 (Od.t 4)), VI.rd 33 none (VOp.load 3 true (Od.t 32)), VI.call (some 34) none (Od.c (VV.fn 14 [])) [Od.t 33]] [1, 3, 4, 6, 7])
 (VC.seq
 (VC.reg
 [VI.rd 35 none (VOp.faddr 0 (Od.t 4)),
 VI.rd 36 none (VOp.load 1 false (Od.t 35)),
 VI.rd 37 none (VOp.faddr 4 (Od.t 4)),
 VI.rd 38 none (VOp.load 1 false (Od.t 37)),
 VI.rd 39 none (VOp.build [VV.sl none 0 0, VV.sl none 0 0, VV.sl none 0 0] [(0, 1, Od.t 36), (1, 1, Od.t 38)]),
 VI.call (some 40) none (Od.c (VV.fn 14 [])) [Od.t 39]]
 [1, 3, 4, 6, 7])
 (VC.seq
 (VC.reg
 [VI.rd 42 none (VOp.load 2 true (Od.t 3)),
 VI.call (some 43) none (Od.c (VV.fn 23 [])) [Od.t 42],
 VI.rd 41 none (VOp.mv (Od.t 43)),
 VI.rd 44 none (VOp.ext 0 (Od.t 41)),
 VI.rd 45 none (VOp.ext 1 (Od.t 41)),
 VI.ef none none (VEf.store 8 (Od.t 4) (Od.t 44)),
 VI.rd 5 none (VOp.mv (Od.t 45))]
 [1, 3, 4, 5, 6, 7])
 (VC.seq
 (VC.reg
 [VI.rd 46 none (VOp.mv (Od.t 5)),
 VI.rd 47 none (VOp.mv (Od.t 7)),
 VI.rd 48 none (VOp.bin (BinOp.eql) (Od.t 46) (Od.t 47)),
 VI.rd 49 none (VOp.mv (Od.t 48)),
 VI.rd 50 (some (49, true)) (VOp.load 8 true (Od.t 4)),
 VI.rd 51 (some (49, true)) (VOp.load 8 true (Od.t 6)),
 VI.call (some 52) (some (49, true)) (Od.c (VV.fn 25 [])) [Od.t 50, Od.t 51],
 VI.rd 53 none (VOp.pick (Od.t 49) (Od.t 52) (Od.c (VV.bool false))),
 VI.rd 54 none (VOp.mv (Od.t 53)),
 VI.rd 55 (some (54, true)) (VOp.load 2 true (Od.t 3)),
 VI.rd 56 (some (54, true)) (VOp.load 2 true (Od.t 1)),
 VI.call (some 57) (some (54, true)) (Od.c (VV.fn 26 [])) [Od.t 55, Od.t 56],
 VI.rd 58 none (VOp.pick (Od.t 54) (Od.t 57) (Od.c (VV.bool false))),
 VI.rd 59 none (VOp.mv (Od.t 58)),
 VI.call (some 60) (some (59, true)) (Od.c (VV.fn 15 [])) [],
 VI.rd 61 none (VOp.pick (Od.t 59) (Od.t 60) (Od.c (VV.bool false))),
 VI.rd 2 none (VOp.mv (Od.t 61))]
 [2])
 (VC.ret)))))))))),
 [RV.t 2]⟩
theorem ok7 : w7.Ok Try.prog := FRow.ok_of (fn := Try.f7) (ks := k7) (by kernel_rfl) (by kernel_rfl) (by kernel_rfl) (by kernel_rfl) (by kernel_rfl)
def k8 : List (List Nat) := [[1], [1, 3, 4], [1, 3, 4, 19], [2], [1, 3, 46], [2], [1, 3, 5], [1, 3, 5, 51], [1, 3, 5], [1, 3, 5, 6], [1, 3, 5, 6, 7], [1, 3, 5, 6, 7, 61], [1, 3, 5, 6, 7], [1, 3, 5, 6, 7, 8], [1, 3, 5, 6, 7, 8, 9], [1, 3, 5, 6, 7, 8, 9], [1, 3, 5, 6, 7, 8, 9, 89], [2], [1, 3, 5, 6, 7, 8, 9, 112], [2], [1, 3, 5, 6, 7, 127], [2], [1, 3, 5, 150], [2], [1, 3, 5, 10], [1, 3, 5, 10, 158], [1, 3, 5, 10], [1, 3, 5, 10, 184], [2], [1, 3, 5, 200], [2], [2]]
def w8 : FRow := ⟨8, 217, VC.seq
 (VC.reg [VI.ef (some 1) none (VEf.box 53 (Od.t 0)), VI.rd 2 none (VOp.mv (Od.c (VV.bool false)))] [1])
 (VC.seq
 (VC.reg
 [VI.rd 12 none (VOp.load 2 true (Od.t 1)),
 VI.call (some 13) none (Od.c (VV.fn 22 [])) [Od.t 12],
 VI.call (some 14) none (Od.c (VV.fn 23 [])) [Od.t 13],
 VI.rd 11 none (VOp.mv (Od.t 14)),
 VI.rd 15 none (VOp.ext 0 (Od.t 11)),
 VI.rd 16 none (VOp.ext 1 (Od.t 11)),
 VI.ef (some 3) none (VEf.alloc 44 [VV.sl none 0 0, VV.sl none 0 0, VV.sl none 0 0, VV.sl none 0 0, VV.sl none 0 0, VV.sl none 0 0, VV.sl none 0 0, VV.sl none 0 0]),
 VI.ef none none (VEf.store 8 (Od.t 3) (Od.t 15)),
 VI.rd 4 none (VOp.mv (Od.t 16))]
 [1, 3, 4])
 (VC.seq
 (VC.seq
 (VC.reg [VI.rd 17 none (VOp.load 2 true (Od.t 1)), VI.call (some 18) none (Od.c (VV.fn 27 [])) [Od.t 17], VI.rd 19 none (VOp.not (Od.t 18))] [1, 3, 4, 19])
 (VC.cond
 19
 (VC.seq
 (VC.reg
 [VI.rd 20 none (VOp.mv (Od.t 4)),
 VI.rd 21 none (VOp.bin (BinOp.eql) (Od.t 20) (Od.c (VV.int (IntKind.i64) 1))),
 VI.rd 22 none (VOp.mv (Od.t 21)),
 VI.call (some 23) (some (22, true)) (Od.c (VV.fn 15 [])) [],
 VI.rd 24 none (VOp.pick (Od.t 22) (Od.t 23) (Od.c (VV.bool false))),
 VI.rd 2 none (VOp.mv (Od.t 24))]
 [2])
 (VC.ret))
 (VC.skip)))
 (VC.seq
 (VC.seq
 (VC.dreg
 [VI.rd 25 none (VOp.mv (Od.t 4)),
 VI.rd 26 none (VOp.bin (BinOp.neq) (Od.t 25) (Od.c (VV.int (IntKind.i64) 0))),
 VI.rd 27 none (VOp.mv (Od.t 26)),
 VI.rd 28 (some (27, false)) (VOp.faddr 0 (Od.t 3)),
 VI.rd 29 (some (27, false)) (VOp.load 1 false (Od.t 28)),
 VI.rd 30 (some (27, false)) (VOp.lens (Od.t 29)),
 VI.rd 31 (some (27, false)) (VOp.faddr 0 (Od.t 1)),
 VI.rd 32 (some (27, false)) (VOp.load 1 false (Od.t 31)),
 VI.rd 33 (some (27, false)) (VOp.lens (Od.t 32)),
 VI.rd 34 (some (27, false)) (VOp.bin (BinOp.neq) (Od.t 30) (Od.t 33)),
 VI.rd 35 none (VOp.pick (Od.t 27) (Od.c (VV.bool true)) (Od.t 34)),
 VI.rd 36 none (VOp.mv (Od.t 35)),
 VI.rd 37 (some (36, false)) (VOp.faddr 4 (Od.t 3)),
 VI.rd 38 (some (36, false)) (VOp.load 1 false (Od.t 37)),
 VI.rd 39 (some (36, false)) (VOp.lens (Od.t 38)),
 VI.rd 40 (some (36, false)) (VOp.faddr 1 (Od.t 1)),
 VI.rd 41 (some (36, false)) (VOp.load 1 false (Od.t 40)),
 VI.rd 42 (some (36, false)) (VOp.ixa 1 (Od.t 41) (Od.c (VV.int (IntKind.i64) 0))),
 VI.rd 43 (some (36, false)) (VOp.load 1 false (Od.t 42)),
 VI.rd 44 (some (36, false)) (VOp.lens (Od.t 43)),
 VI.rd 45 (some (36, false)) (VOp.bin (BinOp.neq) (Od.t 39) (Od.t 44)),
 VI.rd 46 none (VOp.pick (Od.t 36) (Od.c (VV.bool true)) (Od.t 45))]
 [(0, 0), (0, 0), (0, 0), (0, 0), (0, 0), (0, 0), (0, 0), (0, 0), (0, 0), (0, 0), (0, 0), (0, 0), (0, 0), (0, 0), (0, 0), (0, 0), (0, 0), (0, 0), (0, 0), (0, 0), (0, 0), (0, 0)]
 [1, 3, 46])
 (VC.cond 46 (VC.seq (VC.reg [VI.rd 2 none (VOp.mv (Od.c (VV.bool false)))] [2]) (VC.ret)) (VC.skip)))
 (VC.seq
 (VC.seq
 (VC.reg [VI.rd 5 none (VOp.mv (Od.c (VV.int (IntKind.i64) 0)))] [1, 3, 5])
 (VC.block
 0
 (VC.loop
 (VC.seq
 (VC.seq
 (VC.reg [VI.rd 47 none (VOp.mv (Od.t 5)), VI.rd 48 none (VOp.faddr 0 (Od.t 1)), VI.rd 49 none (VOp.load 1 false (Od.t 48)), VI.rd 50 none (VOp.lens (Od.t 49)), VI.rd 51 none (VOp.bin (BinOp.lss) (Od.t 47) (Od.t 50))] [1, 3, 5, 51])
 (VC.cond 51 (VC.skip) (VC.exit 0)))
 (VC.seq
 (VC.block
 1
 (VC.seq
 (VC.reg [VI.rd 6 none (VOp.mv (Od.c (VV.bool false)))] [1, 3, 5, 6])
 (VC.seq
 (VC.seq
 (VC.reg [VI.rd 7 none (VOp.mv (Od.c (VV.int (IntKind.i64) 0)))] [1, 3, 5, 6, 7])
 (VC.block
 2
 (VC.loop
 (VC.seq
 (VC.seq
 (VC.reg
 [VI.rd 54 none (VOp.mv (Od.t 7)),
 VI.rd 55 none (VOp.faddr 0 (Od.t 1)),
 VI.rd 56 none (VOp.load 1 false (Od.t 55)),
 VI.rd 57 none (VOp.mv (Od.t 5)),
 VI.rd 58 none (VOp.ixa 1 (Od.t 56) (Od.t 57)),
 VI.rd 59 none (VOp.load 1 false (Od.t 58)),
 VI.rd 60 none (VOp.lens (Od.t 59)),
 VI.rd 61 none (VOp.bin (BinOp.lss) (Od.t 54) (Od.t 60))]
 [1, 3, 5, 6, 7, 61])
 (VC.cond 61 (VC.skip) (VC.exit 2)))
 (VC.seq
 (VC.block
 3
 (VC.seq
 (VC.reg
 [VI.rd 64 none (VOp.faddr 0 (Od.t 1)),
 VI.rd 65 none (VOp.load 1 false (Od.t 64)),
 VI.rd 66 none (VOp.mv (Od.t 5)),
 VI.rd 67 none (VOp.ixa 1 (Od.t 65) (Od.t 66)),
 VI.rd 68 none (VOp.load 1 false (Od.t 67)),
 VI.rd 69 none (VOp.mv (Od.t 7)),
 VI.rd 70 none (VOp.ixa 2 (Od.t 68) (Od.t 69)),
 VI.rd 71 none (VOp.load 2 true (Od.t 70)),
 VI.ef (some 8) none (VEf.alloc 46 [VV.int (IntKind.i64) 0, VV.int (IntKind.i64) 0]),
 VI.ef none none (VEf.store 2 (Od.t 8) (Od.t 71))]
 [1, 3, 5, 6, 7, 8])
 (VC.seq
 (VC.reg
 [VI.rd 72 none (VOp.load 8 true (Od.t 3)),
 VI.rd 73 none (VOp.mv (Od.t 5)),
 VI.rd 74 none (VOp.mv (Od.t 7)),
 VI.call (some 75) none (Od.c (VV.fn 18 [])) [Od.t 72, Od.t 73, Od.t 74],
 VI.ef (some 9) none (VEf.alloc 46 [VV.int (IntKind.i64) 0, VV.int (IntKind.i64) 0]),
 VI.ef none none (VEf.store 2 (Od.t 9) (Od.t 75))]
 [1, 3, 5, 6, 7, 8, 9])
 (VC.seq
 (VC.reg
 [VI.rd 76 none (VOp.mv (Od.t 6)),
 VI.rd 77 none (VOp.mv (Od.t 76)),
 VI.rd 78 (some (77, false)) (VOp.faddr 0 (Od.t 8)),
 VI.rd 79 (some (77, false)) (VOp.load 1 false (Od.t 78)),
 VI.rd 80 (some (77, false)) (VOp.bin (BinOp.eql) (Od.t 79) (Od.c (VV.int (IntKind.i64) 2))),
 VI.rd 81 none (VOp.pick (Od.t 77) (Od.c (VV.bool true)) (Od.t 80)),
 VI.rd 6 none (VOp.mv (Od.t 81))]
 [1, 3, 5, 6, 7, 8, 9])
 (VC.seq
 (VC.seq
 (VC.reg
 [VI.rd 82 none (VOp.faddr 0 (Od.t 8)),
 VI.rd 83 none (VOp.load 1 false (Od.t 82)),
 VI.rd 84 none (VOp.bin (BinOp.neq) (Od.t 83) (Od.c (VV.int (IntKind.i64) 0))),
 VI.rd 85 none (VOp.mv (Od.t 84)),
 VI.rd 86 (some (85, true)) (VOp.load 2 true (Od.t 8)),
 VI.rd 87 (some (85, true)) (VOp.load 2 true (Od.t 9)),
 VI.rd 88 (some (85, true)) (VOp.aeq true [0, 0] (Od.t 86) (Od.t 87)),
 VI.rd 89 none (VOp.pick (Od.t 85) (Od.t 88) (Od.c (VV.bool false)))]
 [1, 3, 5, 6, 7, 8, 9, 89])
 (VC.cond 89 (VC.seq (VC.reg [VI.rd 2 none (VOp.mv (Od.c (VV.bool false)))] [2]) (VC.ret)) (VC.skip)))
 (VC.seq
 (VC.seq
 (VC.dreg
 [VI.rd 90 none (VOp.faddr 0 (Od.t 8)),
 VI.rd 91 none (VOp.load 1 false (Od.t 90)),
 VI.rd 92 none (VOp.bin (BinOp.eql) (Od.t 91) (Od.c (VV.int (IntKind.i64) 0))),
 VI.rd 93 none (VOp.mv (Od.t 92)),
 VI.rd 94 (some (93, true)) (VOp.load 2 true (Od.t 9)),
 VI.rd 95 (some (93, true)) (VOp.build [VV.int (IntKind.i64) 0, VV.int (IntKind.i64) 0] []),
 VI.rd 96 (some (93, true)) (VOp.aeq true [0, 0] (Od.t 94) (Od.t 95)),
 VI.rd 97 none (VOp.pick (Od.t 93) (Od.t 96) (Od.c (VV.bool false))),
 VI.rd 98 none (VOp.mv (Od.t 97)),
 VI.rd 99 (some (98, true)) (VOp.faddr 0 (Od.t 9)),
 VI.rd 100 (some (98, true)) (VOp.load 1 false (Od.t 99)),
 VI.rd 101 (some (98, true)) (VOp.bin (BinOp.neq) (Od.t 100) (Od.c (VV.int (IntKind.i64) 2))),
 VI.rd 102 (some (98, true)) (VOp.mv (Od.t 101)),
 VI.rd 103 (some (102, false)) (VOp.faddr 1 (Od.t 9)),
 VI.rd 104 (some (102, false)) (VOp.load 1 false (Od.t 103)),
 VI.rd 105 (some (102, false)) (VOp.faddr 0 (Od.t 3)),
 VI.rd 106 (some (102, false)) (VOp.load 1 false (Od.t 105)),
 VI.rd 107 (some (102, false)) (VOp.mv (Od.t 5)),
 VI.rd 108 (some (102, false)) (VOp.ixa 1 (Od.t 106) (Od.t 107)),
 VI.rd 109 (some (102, false)) (VOp.load 1 false (Od.t 108)),
 VI.rd 110 (some (102, false)) (VOp.bin (BinOp.neq) (Od.t 104) (Od.t 109)),
 VI.rd 111 (some (98, true)) (VOp.pick (Od.t 102) (Od.c (VV.bool true)) (Od.t 110)),
 VI.rd 112 none (VOp.pick (Od.t 98) (Od.t 111) (Od.c (VV.bool false)))]
 [(0, 0), (0, 0), (0, 0), (0, 0), (0, 0), (0, 0), (0, 0), (0, 0), (0, 0), (0, 0), (0, 0), (0, 0), (0, 0), (0, 0), (0, 0), (0, 0), (0, 0), (0, 0), (0, 0), (0, 0), (0, 0), (0, 0), (0, 0)]
 [1, 3, 5, 6, 7, 8, 9, 112])
 (VC.cond 112 (VC.seq (VC.reg [VI.rd 2 none (VOp.mv (Od.c (VV.bool false)))] [2]) (VC.ret)) (VC.skip)))
 (VC.seq
 (VC.dreg
 [VI.rd 113 none (VOp.faddr 0 (Od.t 8)),
 VI.rd 114 none (VOp.load 1 false (Od.t 113)),
 VI.rd 115 none (VOp.bin (BinOp.eql) (Od.t 114) (Od.c (VV.int (IntKind.i64) 0))),
 VI.rd 116 none (VOp.mv (Od.t 115)),
 VI.rd 117 (some (116, true)) (VOp.faddr 0 (Od.t 9)),
 VI.rd 118 (some (116, true)) (VOp.load 1 false (Od.t 117)),
 VI.rd 119 (some (116, true)) (VOp.bin (BinOp.eql) (Od.t 118) (Od.c (VV.int (IntKind.i64) 0))),
 VI.rd 120 (some (116, true)) (VOp.faddr 0 (Od.t 3)),
 VI.rd 121 (some (116, true)) (VOp.load 1 false (Od.t 120)),
 VI.rd 122 (some (116, true)) (VOp.mv (Od.t 5)),
 VI.rd 123 (some (116, true)) (VOp.ixa 1 (Od.t 121) (Od.t 122)),
 VI.rd 124 (some (116, true)) (VOp.load 1 false (Od.t 123)),
 VI.rd 125 (some (116, true)) (VOp.bin (BinOp.lss) (Od.t 124) (Od.c (VV.int (IntKind.i64) 0))),
 VI.rd 126 (some (116, true)) (VOp.beq true (Od.t 119) (Od.t 125)),
 VI.rd 127 none (VOp.pick (Od.t 116) (Od.t 126) (Od.c (VV.bool false)))]
 [(0, 0), (0, 0), (0, 0), (0, 0), (0, 0), (0, 0), (0, 0), (0, 0), (0, 0), (0, 0), (0, 0), (0, 0), (0, 0), (0, 0), (0, 0)]
 [1, 3, 5, 6, 7, 127])
 (VC.cond 127 (VC.seq (VC.reg [VI.rd 2 none (VOp.mv (Od.c (VV.bool false)))] [2]) (VC.ret)) (VC.skip)))))))))
 (VC.reg [VI.rd 62 none (VOp.mv (Od.t 7)), VI.rd 63 none (VOp.bin (BinOp.add) (Od.t 62) (Od.c (VV.int (IntKind.i64) 1))), VI.rd 7 none (VOp.mv (Od.t 63))] [1, 3, 5, 6, 7]))))))
 (VC.seq
 (VC.seq
 (VC.dreg
 [VI.rd 128 none (VOp.mv (Od.t 6)),
 VI.rd 129 none (VOp.faddr 0 (Od.t 3)),
 VI.rd 130 none (VOp.load 1 false (Od.t 129)),
 VI.rd 131 none (VOp.mv (Od.t 5)),
 VI.rd 132 none (VOp.ixa 1 (Od.t 130) (Od.t 131)),
 VI.rd 133 none (VOp.load 1 false (Od.t 132)),
 VI.rd 134 none (VOp.bin (BinOp.gtr) (Od.t 133) (Od.c (VV.int (IntKind.i64) 0))),
 VI.rd 135 none (VOp.beq true (Od.t 128) (Od.t 134)),
 VI.rd 136 none (VOp.mv (Od.t 135)),
 VI.rd 137 (some (136, false)) (VOp.load 8 true (Od.t 3)),
 VI.rd 138 (some (136, false)) (VOp.mv (Od.t 5)),
 VI.rd 139 (some (136, false)) (VOp.faddr 0 (Od.t 1)),
 VI.rd 140 (some (136, false)) (VOp.load 1 false (Od.t 139)),
 VI.rd 141 (some (136, false)) (VOp.mv (Od.t 5)),
 VI.rd 142 (some (136, false)) (VOp.ixa 1 (Od.t 140) (Od.t 141)),
 VI.rd 143 (some (136, false)) (VOp.load 1 false (Od.t 142)),
 VI.rd 144 (some (136, false)) (VOp.lens (Od.t 143)),
 VI.call (some 145) (some (136, false)) (Od.c (VV.fn 18 [])) [Od.t 137, Od.t 138, Od.t 144],
 VI.rd 146 (some (136, false)) (VOp.load 8 true (Od.t 3)),
 VI.rd 147 (some (136, false)) (VOp.mv (Od.t 5)),
 VI.call (some 148) (some (136, false)) (Od.c (VV.fn 18 [])) [Od.t 146, Od.t 147, Od.c (VV.int (IntKind.i64) (-1))],
 VI.rd 149 (some (136, false)) (VOp.aeq true [0, 0] (Od.t 145) (Od.t 148)),
 VI.rd 150 none (VOp.pick (Od.t 136) (Od.c (VV.bool true)) (Od.t 149))]
 [(0, 0), (0, 0), (0, 0), (0, 0), (0, 0), (0, 0), (0, 0), (0, 0), (0, 0), (0, 0), (0, 0), (0, 0), (0, 0), (0, 0), (0, 0), (0, 0), (0, 0), (0, 0), (0, 0), (0, 0), (0, 0), (0, 0), (0, 0)]
 [1, 3, 5, 150])
 (VC.cond 150 (VC.seq (VC.reg [VI.rd 2 none (VOp.mv (Od.c (VV.bool false)))] [2]) (VC.ret)) (VC.skip)))
 (VC.seq
 (VC.seq
 (VC.reg [VI.rd 10 none (VOp.mv (Od.c (VV.int (IntKind.i64) 0)))] [1, 3, 5, 10])
 (VC.block
 4
 (VC.loop
 (VC.seq
 (VC.seq
 (VC.reg
 [VI.rd 151 none (VOp.mv (Od.t 10)),
 VI.rd 152 none (VOp.faddr 1 (Od.t 1)),
 VI.rd 153 none (VOp.load 1 false (Od.t 152)),
 VI.rd 154 none (VOp.mv (Od.t 5)),
 VI.rd 155 none (VOp.ixa 1 (Od.t 153) (Od.t 154)),
 VI.rd 156 none (VOp.load 1 false (Od.t 155)),
 VI.rd 157 none (VOp.lens (Od.t 156)),
 VI.rd 158 none (VOp.bin (BinOp.lss) (Od.t 151) (Od.t 157))]
 [1, 3, 5, 10, 158])
 (VC.cond 158 (VC.skip) (VC.exit 4)))
 (VC.seq
 (VC.block
 5
 (VC.seq
 (VC.dreg
 [VI.rd 161 none (VOp.faddr 1 (Od.t 1)),
 VI.rd 162 none (VOp.load 1 false (Od.t 161)),
 VI.rd 163 none (VOp.mv (Od.t 5)),
 VI.rd 164 none (VOp.ixa 1 (Od.t 162) (Od.t 163)),
 VI.rd 165 none (VOp.load 1 false (Od.t 164)),
 VI.rd 166 none (VOp.mv (Od.t 10)),
 VI.rd 167 none (VOp.ixa 1 (Od.t 165) (Od.t 166)),
 VI.rd 168 none (VOp.load 1 false (Od.t 167)),
 VI.rd 169 none (VOp.bin (BinOp.geq) (Od.t 168) (Od.c (VV.int (IntKind.i64) 0))),
 VI.rd 170 none (VOp.mv (Od.t 169)),
 VI.rd 171 (some (170, true)) (VOp.load 8 true (Od.t 3)),
 VI.rd 172 (some (170, true)) (VOp.mv (Od.t 5)),
 VI.rd 173 (some (170, true)) (VOp.mv (Od.t 10)),
 VI.call (some 174) (some (170, true)) (Od.c (VV.fn 19 [])) [Od.t 171, Od.t 172, Od.t 173],
 VI.rd 175 (some (170, true)) (VOp.faddr 1 (Od.t 1)),
 VI.rd 176 (some (170, true)) (VOp.load 1 false (Od.t 175)),
 VI.rd 177 (some (170, true)) (VOp.mv (Od.t 5)),
 VI.rd 178 (some (170, true)) (VOp.ixa 1 (Od.t 176) (Od.t 177)),
 VI.rd 179 (some (170, true)) (VOp.load 1 false (Od.t 178)),
 VI.rd 180 (some (170, true)) (VOp.mv (Od.t 10)),
 VI.rd 181 (some (170, true)) (VOp.ixa 1 (Od.t 179) (Od.t 180)),
 VI.rd 182 (some (170, true)) (VOp.load 1 false (Od.t 181)),
 VI.rd 183 (some (170, true)) (VOp.bin (BinOp.neq) (Od.t 174) (Od.t 182)),
 VI.rd 184 none (VOp.pick (Od.t 170) (Od.t 183) (Od.c (VV.bool false)))]
 [(0, 0), (0, 0), (0, 0), (0, 0), (0, 0), (0, 0), (0, 0), (0, 0), (0, 0), (0, 0), (0, 0), (0, 0), (0, 0), (0, 0), (0, 0), (0, 0), (0, 0), (0, 0), (0, 0), (0, 0), (0, 0), (0, 0), (0, 0), (0, 0)]
 [1, 3, 5, 10, 184])
 (VC.cond 184 (VC.seq (VC.reg [VI.rd 2 none (VOp.mv (Od.c (VV.bool false)))] [2]) (VC.ret)) (VC.skip))))
 (VC.reg [VI.rd 159 none (VOp.mv (Od.t 10)), VI.rd 160 none (VOp.bin (BinOp.add) (Od.t 159) (Od.c (VV.int (IntKind.i64) 1))), VI.rd 10 none (VOp.mv (Od.t 160))] [1, 3, 5, 10]))))))
 (VC.seq
 (VC.dreg
 [VI.rd 185 none (VOp.load 8 true (Od.t 3)),
 VI.rd 186 none (VOp.mv (Od.t 5)),
 VI.rd 187 none (VOp.faddr 1 (Od.t 1)),
 VI.rd 188 none (VOp.load 1 false (Od.t 187)),
 VI.rd 189 none (VOp.mv (Od.t 5)),
 VI.rd 190 none (VOp.ixa 1 (Od.t 188) (Od.t 189)),
 VI.rd 191 none (VOp.load 1 false (Od.t 190)),
 VI.rd 192 none (VOp.lens (Od.t 191)),
 VI.call (some 193) none (Od.c (VV.fn 19 [])) [Od.t 185, Od.t 186, Od.t 192],
 VI.rd 194 none (VOp.bin (BinOp.neq) (Od.t 193) (Od.c (VV.int (IntKind.i64) (-1)))),
 VI.rd 195 none (VOp.mv (Od.t 194)),
 VI.rd 196 (some (195, false)) (VOp.load 8 true (Od.t 3)),
 VI.rd 197 (some (195, false)) (VOp.mv (Od.t 5)),
 VI.call (some 198) (some (195, false)) (Od.c (VV.fn 19 [])) [Od.t 196, Od.t 197, Od.c (VV.int (IntKind.i64) (-1))],
 VI.rd 199 (some (195, false)) (VOp.bin (BinOp.neq) (Od.t 198) (Od.c (VV.int (IntKind.i64) (-1)))),
 VI.rd 200 none (VOp.pick (Od.t 195) (Od.c (VV.bool true)) (Od.t 199))]
 [(0, 0), (0, 0), (0, 0), (0, 0), (0, 0), (0, 0), (0, 0), (0, 0), (0, 0), (0, 0), (0, 0), (0, 0), (0, 0), (0, 0), (0, 0), (0, 0)]
 [1, 3, 5, 200])
 (VC.cond 200 (VC.seq (VC.reg [VI.rd 2 none (VOp.mv (Od.c (VV.bool false)))] [2]) (VC.ret)) (VC.skip))))))))
 (VC.reg [VI.rd 52 none (VOp.mv (Od.t 5)), VI.rd 53 none (VOp.bin (BinOp.add) (Od.t 52) (Od.c (VV.int (IntKind.i64) 1))), VI.rd 5 none (VOp.mv (Od.t 53))] [1, 3, 5]))))))
 (VC.seq
 (VC.reg
 [VI.rd 201 none (VOp.load 8 true (Od.t 3)),
 VI.rd 202 none (VOp.faddr 0 (Od.t 1)),
 VI.rd 203 none (VOp.load 1 false (Od.t 202)),
 VI.rd 204 none (VOp.lens (Od.t 203)),
 VI.call (some 205) none (Od.c (VV.fn 18 [])) [Od.t 201, Od.t 204, Od.c (VV.int (IntKind.i64) 0)],
 VI.rd 206 none (VOp.build [VV.int (IntKind.i64) 0, VV.int (IntKind.i64) 0] []),
 VI.rd 207 none (VOp.aeq false [0, 0] (Od.t 205) (Od.t 206)),
 VI.rd 208 none (VOp.mv (Od.t 207)),
 VI.rd 209 (some (208, true)) (VOp.load 8 true (Od.t 3)),
 VI.call (some 210) (some (208, true)) (Od.c (VV.fn 18 [])) [Od.t 209, Od.c (VV.int (IntKind.i64) (-1)), Od.c (VV.int (IntKind.i64) 0)],
 VI.rd 211 (some (208, true)) (VOp.build [VV.int (IntKind.i64) 0, VV.int (IntKind.i64) 0] []),
 VI.rd 212 (some (208, true)) (VOp.aeq false [0, 0] (Od.t 210) (Od.t 211)),
 VI.rd 213 none (VOp.pick (Od.t 208) (Od.t 212) (Od.c (VV.bool false))),
 VI.rd 214 none (VOp.mv (Od.t 213)),
 VI.call (some 215) (some (214, true)) (Od.c (VV.fn 15 [])) [],
 VI.rd 216 none (VOp.pick (Od.t 214) (Od.t 215) (Od.c (VV.bool false))),
 VI.rd 2 none (VOp.mv (Od.t 216))]
 [2])
 (VC.ret)))))),
 [RV.t 2]⟩
theorem ok8 : w8.Ok Try.prog := FRow.ok_of (fn := Try.f8) (ks := k8) (by kernel_rfl) (by kernel_rfl) (by kernel_rfl) (by kernel_rfl) (by kernel_rfl)
def k9 : List (List Nat) := [[0], [0, 3], [0, 3, 4], [0, 3, 4, 9], [0, 3, 4], [0, 3, 4, 5], [0, 3, 4, 5], [0, 3, 4], [2]]
def w9 : FRow := ⟨9, 33, VC.seq
 (VC.reg [VI.rd 2 none (VOp.mv (Od.c (VV.sl none 0 0)))] [0])
 (VC.seq
 (VC.reg [VI.rd 3 none (VOp.mv (Od.c (VV.sl none 0 0)))] [0, 3])
 (VC.seq
 (VC.seq
 (VC.reg [VI.rd 4 none (VOp.mv (Od.c (VV.int (IntKind.i64) 0)))] [0, 3, 4])
 (VC.block
 0
 (VC.loop
 (VC.seq
 (VC.seq (VC.reg [VI.rd 6 none (VOp.mv (Od.t 4)), VI.rd 7 none (VOp.mv (Od.t 0)), VI.rd 8 none (VOp.lens (Od.t 7)), VI.rd 9 none (VOp.bin (BinOp.lss) (Od.t 6) (Od.t 8))] [0, 3, 4, 9]) (VC.cond 9 (VC.skip) (VC.exit 0)))
 (VC.seq
 (VC.block
 1
 (VC.seq
 (VC.reg
 [VI.ef (some 12) none (VEf.mkrow 42 [VV.int (IntKind.i64) 0, VV.int (IntKind.i64) 0] 0 []),
 VI.rd 13 none (VOp.mv (Od.t 0)),
 VI.rd 14 none (VOp.mv (Od.t 4)),
 VI.rd 15 none (VOp.ixa 1 (Od.t 13) (Od.t 14)),
 VI.rd 16 none (VOp.load 1 false (Od.t 15)),
 VI.ef (some 17) none (VEf.app 42 2 16 (Od.t 12) (Od.t 16)),
 VI.rd 5 none (VOp.mv (Od.t 17))]
 [0, 3, 4, 5])
 (VC.seq
 (VC.reg
 [VI.rd 18 none (VOp.mv (Od.t 5)),
 VI.rd 19 none (VOp.build [VV.int (IntKind.i64) 0, VV.int (IntKind.i64) 0] [(0, 1, Od.c (VV.int (IntKind.i64) (-5))), (1, 1, Od.c (VV.int (IntKind.i64) (-5)))]),
 VI.ef (some 20) none (VEf.mkrow 42 [VV.int (IntKind.i64) 0, VV.int (IntKind.i64) 0] 1 [(0, Od.t 19)]),
 VI.ef (some 21) none (VEf.app 42 2 16 (Od.t 18) (Od.t 20)),
 VI.rd 5 none (VOp.mv (Od.t 21))]
 [0, 3, 4, 5])
 (VC.reg
 [VI.rd 22 none (VOp.mv (Od.t 3)),
 VI.rd 23 none (VOp.mv (Od.t 5)),
 VI.rd 24 none (VOp.mv (Od.t 0)),
 VI.rd 25 none (VOp.mv (Od.t 4)),
 VI.rd 26 none (VOp.ixa 1 (Od.t 24) (Od.t 25)),
 VI.rd 27 none (VOp.load 1 false (Od.t 26)),
 VI.rd 28 none (VOp.lens (Od.t 27)),
 VI.rd 29 none (VOp.slc 2 (Od.t 23) none (some (Od.t 28)) none),
 VI.ef (some 30) none (VEf.mkrow 40 [VV.sl none 0 0] 1 [(0, Od.t 29)]),
 VI.ef (some 31) none (VEf.app 40 1 24 (Od.t 22) (Od.t 30)),
 VI.rd 3 none (VOp.mv (Od.t 31))]
 [0, 3, 4]))))
 (VC.reg [VI.rd 10 none (VOp.mv (Od.t 4)), VI.rd 11 none (VOp.bin (BinOp.add) (Od.t 10) (Od.c (VV.int (IntKind.i64) 1))), VI.rd 4 none (VOp.mv (Od.t 11))] [0, 3, 4]))))))
 (VC.seq (VC.reg [VI.rd 32 none (VOp.mv (Od.t 3)), VI.rd 2 none (VOp.mv (Od.t 32))] [2]) (VC.ret)))),
 [RV.t 2]⟩
theorem ok9 : w9.Ok Try.prog := FRow.ok_of (fn := Try.f9) (ks := k9) (by kernel_rfl) (by kernel_rfl) (by kernel_rfl) (by kernel_rfl) (by kernel_rfl)
def k11 : List (List Nat) := [[0, 2], [0, 2, 13], [2, 3], [0, 2, 4], [0, 2, 4, 18], [0, 2, 4], [0, 2, 4, 26], [2, 3], [0, 2, 5], [0, 2, 5, 6], [0, 2, 5, 6, 33], [0, 2, 5, 6], [0, 2, 5, 6, 7], [0, 2, 5, 6, 7, 39], [0, 2, 5, 6, 7], [0, 2, 5, 6, 7, 48], [0, 2, 5, 6, 7, 8], [0, 2, 5, 6, 7, 8, 57], [0, 2, 5, 6, 7, 8], [0, 2, 5, 6, 7, 8], [0, 2, 5, 6, 7, 8, 9], [0, 2, 5, 6, 7, 8, 9, 67], [0, 2, 5, 6, 7, 8, 9], [0, 2, 5, 6, 7, 8, 9, 10], [0, 2, 5, 6, 7, 8, 9, 10, 84], [0, 2, 5, 6, 7, 8, 9, 10], [0, 2, 5, 6, 7, 8, 9, 10], [0, 2, 5, 6, 7, 8, 9, 10], [0, 2, 5, 6, 7, 8, 9], [2, 3]]
def w11 : FRow := ⟨11, 113, VC.seq
 (VC.reg [VI.ef (some 2) none (VEf.alloc 26 [VV.sl none 0 0, VV.sl none 0 0, VV.sl none 0 0]), VI.rd 3 none (VOp.mv (Od.c (VV.int (IntKind.i64) 0)))] [0, 2])
 (VC.seq
 (VC.seq
 (VC.reg [VI.rd 11 none (VOp.mv (Od.t 0)), VI.rd 12 none (VOp.lens (Od.t 11)), VI.rd 13 none (VOp.bin (BinOp.gtr) (Od.t 12) (Od.c (VV.int (IntKind.i64) 256)))] [0, 2, 13])
 (VC.cond 13 (VC.seq (VC.reg [VI.rd 14 none (VOp.build [VV.sl none 0 0, VV.sl none 0 0, VV.sl none 0 0] []), VI.ef none none (VEf.store 3 (Od.t 2) (Od.t 14)), VI.rd 3 none (VOp.mv (Od.c (VV.int (IntKind.i64) 1)))] [2, 3]) (VC.ret)) (VC.skip)))
 (VC.seq
 (VC.seq
 (VC.reg [VI.rd 4 none (VOp.mv (Od.c (VV.int (IntKind.i64) 0)))] [0, 2, 4])
 (VC.block
 0
 (VC.loop
 (VC.seq
 (VC.seq (VC.reg [VI.rd 15 none (VOp.mv (Od.t 4)), VI.rd 16 none (VOp.mv (Od.t 0)), VI.rd 17 none (VOp.lens (Od.t 16)), VI.rd 18 none (VOp.bin (BinOp.lss) (Od.t 15) (Od.t 17))] [0, 2, 4, 18]) (VC.cond 18 (VC.skip) (VC.exit 0)))
 (VC.seq
 (VC.block
 1
 (VC.seq
 (VC.reg
 [VI.rd 21 none (VOp.mv (Od.t 0)), VI.rd 22 none (VOp.mv (Od.t 4)), VI.rd 23 none (VOp.ixa 1 (Od.t 21) (Od.t 22)), VI.rd 24 none (VOp.load 1 false (Od.t 23)), VI.call (some 25) none (Od.c (VV.fn 34 [])) [Od.t 24], VI.rd 26 none (VOp.not (Od.t 25))]
 [0, 2, 4, 26])
 (VC.cond 26 (VC.seq (VC.reg [VI.rd 27 none (VOp.build [VV.sl none 0 0, VV.sl none 0 0, VV.sl none 0 0] []), VI.ef none none (VEf.store 3 (Od.t 2) (Od.t 27)), VI.rd 3 none (VOp.mv (Od.c (VV.int (IntKind.i64) 1)))] [2, 3]) (VC.ret)) (VC.skip))))
 (VC.reg [VI.rd 19 none (VOp.mv (Od.t 4)), VI.rd 20 none (VOp.bin (BinOp.add) (Od.t 19) (Od.c (VV.int (IntKind.i64) 1))), VI.rd 4 none (VOp.mv (Od.t 20))] [0, 2, 4]))))))
 (VC.seq
 (VC.reg
 [VI.rd 28 none (VOp.mv (Od.t 0)),
 VI.rd 29 none (VOp.lens (Od.t 28)),
 VI.ef (some 30) none (VEf.mksl 3 8 [VV.int (IntKind.i64) 0] (Od.t 29) (Od.t 29)),
 VI.rd 31 none (VOp.build [VV.sl none 0 0, VV.sl none 0 0, VV.sl none 0 0] [(0, 1, Od.t 30)]),
 VI.ef (some 5) none (VEf.alloc 26 [VV.sl none 0 0, VV.sl none 0 0, VV.sl none 0 0]),
 VI.ef none none (VEf.store 3 (Od.t 5) (Od.t 31))]
 [0, 2, 5])
 (VC.seq
 (VC.seq
 (VC.reg [VI.rd 6 none (VOp.mv (Od.c (VV.int (IntKind.i64) 256)))] [0, 2, 5, 6])
 (VC.block
 2
 (VC.loop
 (VC.seq
 (VC.seq (VC.reg [VI.rd 32 none (VOp.mv (Od.t 6)), VI.rd 33 none (VOp.bin (BinOp.gtr) (Od.t 32) (Od.c (VV.int (IntKind.i64) 0)))] [0, 2, 5, 6, 33]) (VC.cond 33 (VC.skip) (VC.exit 2)))
 (VC.seq
 (VC.block
 3
 (VC.seq
 (VC.reg [VI.rd 7 none (VOp.mv (Od.c (VV.int (IntKind.i64) 0)))] [0, 2, 5, 6, 7])
 (VC.block
 4
 (VC.loop
 (VC.seq
 (VC.seq (VC.reg [VI.rd 36 none (VOp.mv (Od.t 7)), VI.rd 37 none (VOp.mv (Od.t 0)), VI.rd 38 none (VOp.lens (Od.t 37)), VI.rd 39 none (VOp.bin (BinOp.lss) (Od.t 36) (Od.t 38))] [0, 2, 5, 6, 7, 39]) (VC.cond 39 (VC.skip) (VC.exit 4)))
 (VC.seq
 (VC.block
 5
 (VC.seq
 (VC.seq
 (VC.reg
 [VI.rd 42 none (VOp.mv (Od.t 0)),
 VI.rd 43 none (VOp.mv (Od.t 7)),
 VI.rd 44 none (VOp.ixa 1 (Od.t 42) (Od.t 43)),
 VI.rd 45 none (VOp.load 1 false (Od.t 44)),
 VI.rd 46 none (VOp.lens (Od.t 45)),
 VI.rd 47 none (VOp.mv (Od.t 6)),
 VI.rd 48 none (VOp.bin (BinOp.neq) (Od.t 46) (Od.t 47))]
 [0, 2, 5, 6, 7, 48])
 (VC.cond 48 (VC.exit 5) (VC.skip)))
 (VC.seq
 (VC.reg [VI.rd 8 none (VOp.mv (Od.c (VV.int (IntKind.i64) 0)))] [0, 2, 5, 6, 7, 8])
 (VC.seq
 (VC.block
 6
 (VC.loop
 (VC.seq
 (VC.seq
 (VC.dreg
 [VI.rd 49 none (VOp.faddr 2 (Od.t 5)),
 VI.rd 50 none (VOp.load 1 false (Od.t 49)),
 VI.rd 51 none (VOp.mv (Od.t 0)),
 VI.rd 52 none (VOp.mv (Od.t 7)),
 VI.rd 53 none (VOp.ixa 1 (Od.t 51) (Od.t 52)),
 VI.rd 54 none (VOp.load 1 false (Od.t 53)),
 VI.rd 55 none (VOp.mv (Od.t 8)),
 VI.call (some 56) none (Od.c (VV.fn 35 [])) [Od.t 50, Od.t 54, Od.t 55],
 VI.rd 57 none (VOp.not (Od.t 56))]
 [(0, 0), (0, 0), (0, 0), (0, 0), (0, 0), (0, 0), (0, 0), (0, 0), (0, 0)]
 [0, 2, 5, 6, 7, 8, 57])
 (VC.cond 57 (VC.skip) (VC.exit 6)))
 (VC.block 7 (VC.reg [VI.rd 58 none (VOp.mv (Od.t 8)), VI.rd 59 none (VOp.bin (BinOp.add) (Od.t 58) (Od.c (VV.int (IntKind.i64) 1))), VI.rd 8 none (VOp.mv (Od.t 59))] [0, 2, 5, 6, 7, 8])))))
 (VC.seq
 (VC.reg
 [VI.rd 60 none (VOp.faddr 0 (Od.t 5)),
 VI.rd 61 none (VOp.load 1 false (Od.t 60)),
 VI.rd 62 none (VOp.mv (Od.t 7)),
 VI.rd 63 none (VOp.mv (Od.t 8)),
 VI.rd 64 none (VOp.ixa 1 (Od.t 61) (Od.t 62)),
 VI.ef none none (VEf.store 1 (Od.t 64) (Od.t 63))]
 [0, 2, 5, 6, 7, 8])
 (VC.seq
 (VC.reg [VI.rd 9 none (VOp.mv (Od.c (VV.int (IntKind.i64) 0)))] [0, 2, 5, 6, 7, 8, 9])
 (VC.block
 8
 (VC.loop
 (VC.seq
 (VC.seq (VC.reg [VI.rd 65 none (VOp.mv (Od.t 9)), VI.rd 66 none (VOp.mv (Od.t 6)), VI.rd 67 none (VOp.bin (BinOp.lss) (Od.t 65) (Od.t 66))] [0, 2, 5, 6, 7, 8, 9, 67]) (VC.cond 67 (VC.skip) (VC.exit 8)))
 (VC.seq
 (VC.block
 9
 (VC.seq
 (VC.reg
 [VI.rd 70 none (VOp.mv (Od.t 0)),
 VI.rd 71 none (VOp.mv (Od.t 7)),
 VI.rd 72 none (VOp.ixa 1 (Od.t 70) (Od.t 71)),
 VI.rd 73 none (VOp.load 1 false (Od.t 72)),
 VI.rd 74 none (VOp.mv (Od.t 9)),
 VI.rd 75 none (VOp.ixa 2 (Od.t 73) (Od.t 74)),
 VI.rd 76 none (VOp.load 2 true (Od.t 75)),
 VI.ef (some 10) none (VEf.alloc 42 [VV.int (IntKind.i64) 0, VV.int (IntKind.i64) 0]),
 VI.ef none none (VEf.store 2 (Od.t 10) (Od.t 76))]
 [0, 2, 5, 6, 7, 8, 9, 10])
 (VC.seq
 (VC.block
 10
 (VC.loop
 (VC.seq
 (VC.seq
 (VC.reg
 [VI.rd 77 none (VOp.faddr 2 (Od.t 5)),
 VI.rd 78 none (VOp.load 1 false (Od.t 77)),
 VI.rd 79 none (VOp.lens (Od.t 78)),
 VI.rd 80 none (VOp.mv (Od.t 8)),
 VI.rd 81 none (VOp.faddr 0 (Od.t 10)),
 VI.rd 82 none (VOp.load 1 false (Od.t 81)),
 VI.rd 83 none (VOp.bin (BinOp.add) (Od.t 80) (Od.t 82)),
 VI.rd 84 none (VOp.bin (BinOp.leq) (Od.t 79) (Od.t 83))]
 [0, 2, 5, 6, 7, 8, 9, 10, 84])
 (VC.cond 84 (VC.skip) (VC.exit 10)))
 (VC.block
 11
 (VC.seq
 (VC.reg
 [VI.rd 85 none (VOp.faddr 2 (Od.t 5)),
 VI.rd 86 none (VOp.load 1 false (Od.t 85)),
 VI.ef (some 87) none (VEf.mkrow 3 [VV.int (IntKind.i64) 0] 1 [(0, Od.c (VV.int (IntKind.i64) (-1)))]),
 VI.ef (some 88) none (VEf.app 3 1 8 (Od.t 86) (Od.t 87)),
 VI.rd 89 none (VOp.faddr 2 (Od.t 5)),
 VI.ef none none (VEf.store 1 (Od.t 89) (Od.t 88))]
 [0, 2, 5, 6, 7, 8, 9, 10])
 (VC.reg
 [VI.rd 90 none (VOp.faddr 1 (Od.t 5)),
 VI.rd 91 none (VOp.load 1 false (Od.t 90)),
 VI.ef (some 92) none (VEf.mkrow 3 [VV.int (IntKind.i64) 0] 1 [(0, Od.c (VV.int (IntKind.i64) 0))]),
 VI.ef (some 93) none (VEf.app 3 1 8 (Od.t 91) (Od.t 92)),
 VI.rd 94 none (VOp.faddr 1 (Od.t 5)),
 VI.ef none none (VEf.store 1 (Od.t 94) (Od.t 93))]
 [0, 2, 5, 6, 7, 8, 9, 10]))))))
 (VC.seq
 (VC.reg
 [VI.rd 95 none (VOp.faddr 2 (Od.t 5)),
 VI.rd 96 none (VOp.load 1 false (Od.t 95)),
 VI.rd 97 none (VOp.mv (Od.t 8)),
 VI.rd 98 none (VOp.faddr 0 (Od.t 10)),
 VI.rd 99 none (VOp.load 1 false (Od.t 98)),
 VI.rd 100 none (VOp.bin (BinOp.add) (Od.t 97) (Od.t 99)),
 VI.rd 101 none (VOp.mv (Od.t 7)),
 VI.rd 102 none (VOp.ixa 1 (Od.t 96) (Od.t 100)),
 VI.ef none none (VEf.store 1 (Od.t 102) (Od.t 101))]
 [0, 2, 5, 6, 7, 8, 9, 10])
 (VC.reg
 [VI.rd 103 none (VOp.faddr 1 (Od.t 5)),
 VI.rd 104 none (VOp.load 1 false (Od.t 103)),
 VI.rd 105 none (VOp.mv (Od.t 8)),
 VI.rd 106 none (VOp.faddr 0 (Od.t 10)),
 VI.rd 107 none (VOp.load 1 false (Od.t 106)),
 VI.rd 108 none (VOp.bin (BinOp.add) (Od.t 105) (Od.t 107)),
 VI.rd 109 none (VOp.faddr 1 (Od.t 10)),
 VI.rd 110 none (VOp.load 1 false (Od.t 109)),
 VI.rd 111 none (VOp.ixa 1 (Od.t 104) (Od.t 108)),
 VI.ef none none (VEf.store 1 (Od.t 111) (Od.t 110))]
 [0, 2, 5, 6, 7, 8, 9])))))
 (VC.reg [VI.rd 68 none (VOp.mv (Od.t 9)), VI.rd 69 none (VOp.bin (BinOp.add) (Od.t 68) (Od.c (VV.int (IntKind.i64) 1))), VI.rd 9 none (VOp.mv (Od.t 69))] [0, 2, 5, 6, 7, 8, 9])))))))))))
 (VC.reg [VI.rd 40 none (VOp.mv (Od.t 7)), VI.rd 41 none (VOp.bin (BinOp.add) (Od.t 40) (Od.c (VV.int (IntKind.i64) 1))), VI.rd 7 none (VOp.mv (Od.t 41))] [0, 2, 5, 6, 7])))))))
 (VC.reg [VI.rd 34 none (VOp.mv (Od.t 6)), VI.rd 35 none (VOp.bin (BinOp.sub) (Od.t 34) (Od.c (VV.int (IntKind.i64) 1))), VI.rd 6 none (VOp.mv (Od.t 35))] [0, 2, 5, 6]))))))
 (VC.seq (VC.reg [VI.rd 112 none (VOp.load 3 true (Od.t 5)), VI.ef none none (VEf.store 3 (Od.t 2) (Od.t 112)), VI.rd 3 none (VOp.mv (Od.c (VV.int (IntKind.i64) 0)))] [2, 3]) (VC.ret)))))),
 [RV.c 2 3 true, RV.t 3]⟩
theorem ok11 : w11.Ok Try.prog := FRow.ok_of (fn := Try.f11) (ks := k11) (by kernel_rfl) (by kernel_rfl) (by kernel_rfl) (by kernel_rfl) (by kernel_rfl)
def k13 : List (List Nat) := [[0, 1], [0, 1, 12], [4], [0, 1, 5], [0, 1, 5, 16], [0, 1, 5], [0, 1, 5, 29], [4], [0, 1, 5, 6], [0, 1, 5, 6, 50], [4], [0, 1, 5, 6, 7], [0, 1, 5, 6, 7, 57], [0, 1, 5, 6, 7], [0, 1, 5, 6, 7, 71], [4], [4]]
def w13 : FRow := ⟨13, 72, VC.seq
 (VC.reg [VI.rd 4 none (VOp.mv (Od.c (VV.bool false)))] [0, 1])
 (VC.seq
 (VC.seq
 (VC.reg [VI.rd 8 none (VOp.mv (Od.t 0)), VI.rd 9 none (VOp.lens (Od.t 8)), VI.rd 10 none (VOp.mv (Od.t 1)), VI.rd 11 none (VOp.lens (Od.t 10)), VI.rd 12 none (VOp.bin (BinOp.neq) (Od.t 9) (Od.t 11))] [0, 1, 12])
 (VC.cond 12 (VC.seq (VC.reg [VI.rd 4 none (VOp.mv (Od.c (VV.bool false)))] [4]) (VC.ret)) (VC.skip)))
 (VC.seq
 (VC.seq
 (VC.reg [VI.rd 5 none (VOp.mv (Od.c (VV.int (IntKind.i64) 0)))] [0, 1, 5])
 (VC.block
 0
 (VC.loop
 (VC.seq
 (VC.seq (VC.reg [VI.rd 13 none (VOp.mv (Od.t 5)), VI.rd 14 none (VOp.mv (Od.t 1)), VI.rd 15 none (VOp.lens (Od.t 14)), VI.rd 16 none (VOp.bin (BinOp.lss) (Od.t 13) (Od.t 15))] [0, 1, 5, 16]) (VC.cond 16 (VC.skip) (VC.exit 0)))
 (VC.seq
 (VC.block
 1
 (VC.seq
 (VC.seq
 (VC.dreg
 [VI.rd 19 none (VOp.mv (Od.t 0)),
 VI.rd 20 none (VOp.mv (Od.t 5)),
 VI.rd 21 none (VOp.ixa 1 (Od.t 19) (Od.t 20)),
 VI.rd 22 none (VOp.load 1 false (Od.t 21)),
 VI.rd 23 none (VOp.lens (Od.t 22)),
 VI.rd 24 none (VOp.mv (Od.t 1)),
 VI.rd 25 none (VOp.mv (Od.t 5)),
 VI.rd 26 none (VOp.ixa 1 (Od.t 24) (Od.t 25)),
 VI.rd 27 none (VOp.load 1 false (Od.t 26)),
 VI.rd 28 none (VOp.lens (Od.t 27)),
 VI.rd 29 none (VOp.bin (BinOp.neq) (Od.t 23) (Od.t 28))]
 [(0, 0), (0, 0), (0, 0), (0, 0), (0, 0), (0, 0), (0, 0), (0, 0), (0, 0), (0, 0), (0, 0)]
 [0, 1, 5, 29])
 (VC.cond 29 (VC.seq (VC.reg [VI.rd 4 none (VOp.mv (Od.c (VV.bool false)))] [4]) (VC.ret)) (VC.skip)))
 (VC.seq
 (VC.dreg
 [VI.rd 30 none (VOp.mv (Od.t 0)),
 VI.rd 31 none (VOp.mv (Od.t 5)),
 VI.rd 32 none (VOp.ixa 1 (Od.t 30) (Od.t 31)),
 VI.rd 33 none (VOp.load 1 false (Od.t 32)),
 VI.rd 34 none (VOp.mv (Od.t 1)),
 VI.rd 35 none (VOp.mv (Od.t 5)),
 VI.rd 36 none (VOp.ixa 1 (Od.t 34) (Od.t 35)),
 VI.rd 37 none (VOp.load 1 false (Od.t 36)),
 VI.rd 38 none (VOp.lens (Od.t 37)),
 VI.rd 39 none (VOp.bin (BinOp.add) (Od.t 38) (Od.c (VV.int (IntKind.i64) 1))),
 VI.rd 40 none (VOp.slc 2 (Od.t 33) none (some (Od.t 39)) none),
 VI.rd 6 none (VOp.mv (Od.t 40))]
 [(0, 0), (0, 0), (0, 0), (0, 0), (0, 0), (0, 0), (0, 0), (0, 0), (0, 0), (0, 0), (0, 0), (0, 0)]
 [0, 1, 5, 6])
 (VC.seq
 (VC.seq
 (VC.reg
 [VI.rd 41 none (VOp.mv (Od.t 6)),
 VI.rd 42 none (VOp.mv (Od.t 1)),
 VI.rd 43 none (VOp.mv (Od.t 5)),
 VI.rd 44 none (VOp.ixa 1 (Od.t 42) (Od.t 43)),
 VI.rd 45 none (VOp.load 1 false (Od.t 44)),
 VI.rd 46 none (VOp.lens (Od.t 45)),
 VI.rd 47 none (VOp.ixa 2 (Od.t 41) (Od.t 46)),
 VI.rd 48 none (VOp.load 2 true (Od.t 47)),
 VI.rd 49 none (VOp.build [VV.int (IntKind.i64) 0, VV.int (IntKind.i64) 0] [(0, 1, Od.c (VV.int (IntKind.i64) (-5))), (1, 1, Od.c (VV.int (IntKind.i64) (-5)))]),
 VI.rd 50 none (VOp.aeq true [0, 0] (Od.t 48) (Od.t 49))]
 [0, 1, 5, 6, 50])
 (VC.cond 50 (VC.seq (VC.reg [VI.rd 4 none (VOp.mv (Od.c (VV.bool false)))] [4]) (VC.ret)) (VC.skip)))
 (VC.seq
 (VC.reg [VI.rd 7 none (VOp.mv (Od.c (VV.int (IntKind.i64) 0)))] [0, 1, 5, 6, 7])
 (VC.block
 2
 (VC.loop
 (VC.seq
 (VC.seq
 (VC.reg
 [VI.rd 51 none (VOp.mv (Od.t 7)),
 VI.rd 52 none (VOp.mv (Od.t 1)),
 VI.rd 53 none (VOp.mv (Od.t 5)),
 VI.rd 54 none (VOp.ixa 1 (Od.t 52) (Od.t 53)),
 VI.rd 55 none (VOp.load 1 false (Od.t 54)),
 VI.rd 56 none (VOp.lens (Od.t 55)),
 VI.rd 57 none (VOp.bin (BinOp.lss) (Od.t 51) (Od.t 56))]
 [0, 1, 5, 6, 7, 57])
 (VC.cond 57 (VC.skip) (VC.exit 2)))
 (VC.seq
 (VC.block
 3
 (VC.seq
 (VC.dreg
 [VI.rd 60 none (VOp.mv (Od.t 6)),
 VI.rd 61 none (VOp.mv (Od.t 7)),
 VI.rd 62 none (VOp.ixa 2 (Od.t 60) (Od.t 61)),
 VI.rd 63 none (VOp.load 2 true (Od.t 62)),
 VI.rd 64 none (VOp.mv (Od.t 1)),
 VI.rd 65 none (VOp.mv (Od.t 5)),
 VI.rd 66 none (VOp.ixa 1 (Od.t 64) (Od.t 65)),
 VI.rd 67 none (VOp.load 1 false (Od.t 66)),
 VI.rd 68 none (VOp.mv (Od.t 7)),
 VI.rd 69 none (VOp.ixa 2 (Od.t 67) (Od.t 68)),
 VI.rd 70 none (VOp.load 2 true (Od.t 69)),
 VI.rd 71 none (VOp.aeq true [0, 0] (Od.t 63) (Od.t 70))]
 [(0, 0), (0, 0), (0, 0), (0, 0), (0, 0), (0, 0), (0, 0), (0, 0), (0, 0), (0, 0), (0, 0), (0, 0)]
 [0, 1, 5, 6, 7, 71])
 (VC.cond 71 (VC.seq (VC.reg [VI.rd 4 none (VOp.mv (Od.c (VV.bool false)))] [4]) (VC.ret)) (VC.skip))))
 (VC.reg [VI.rd 58 none (VOp.mv (Od.t 7)), VI.rd 59 none (VOp.bin (BinOp.add) (Od.t 58) (Od.c (VV.int (IntKind.i64) 1))), VI.rd 7 none (VOp.mv (Od.t 59))] [0, 1, 5, 6, 7]))))))))))
 (VC.reg [VI.rd 17 none (VOp.mv (Od.t 5)), VI.rd 18 none (VOp.bin (BinOp.add) (Od.t 17) (Od.c (VV.int (IntKind.i64) 1))), VI.rd 5 none (VOp.mv (Od.t 18))] [0, 1, 5]))))))
 (VC.seq (VC.reg [VI.rd 4 none (VOp.mv (Od.c (VV.bool true)))] [4]) (VC.ret)))),
 [RV.t 4]⟩
theorem ok13 : w13.Ok Try.prog := FRow.ok_of (fn := Try.f13) (ks := k13) (by kernel_rfl) (by kernel_rfl) (by kernel_rfl) (by kernel_rfl) (by kernel_rfl)
def k14 : List (List Nat) := [[1], [2], [2, 3], [2, 3, 15], [2, 3], [2, 3, 4], [2, 3, 4, 24], [2, 3, 4], [2, 3, 4], [2, 3]]
def w14 : FRow := ⟨14, 42, VC.seq
 (VC.reg [VI.ef (some 1) none (VEf.box 26 (Od.t 0))] [1])
 (VC.seq
 (VC.reg
 [VI.rd 5 none (VOp.faddr 0 (Od.t 1)),
 VI.rd 6 none (VOp.load 1 false (Od.t 5)),
 VI.rd 7 none (VOp.faddr 1 (Od.t 1)),
 VI.rd 8 none (VOp.load 1 false (Od.t 7)),
 VI.rd 9 none (VOp.faddr 2 (Od.t 1)),
 VI.rd 10 none (VOp.load 1 false (Od.t 9)),
 VI.ef (some 11) none (VEf.mkrow 24 [VV.sl none 0 0] 3 [(0, Od.t 6), (1, Od.t 8), (2, Od.t 10)]),
 VI.rd 2 none (VOp.mv (Od.t 11))]
 [2])
 (VC.seq
 (VC.reg [VI.rd 3 none (VOp.mv (Od.c (VV.int (IntKind.i64) 0)))] [2, 3])
 (VC.block
 0
 (VC.loop
 (VC.seq
 (VC.seq (VC.reg [VI.rd 12 none (VOp.mv (Od.t 3)), VI.rd 13 none (VOp.mv (Od.t 2)), VI.rd 14 none (VOp.lens (Od.t 13)), VI.rd 15 none (VOp.bin (BinOp.lss) (Od.t 12) (Od.t 14))] [2, 3, 15]) (VC.cond 15 (VC.skip) (VC.exit 0)))
 (VC.seq
 (VC.block
 1
 (VC.seq
 (VC.seq
 (VC.reg [VI.rd 4 none (VOp.mv (Od.c (VV.int (IntKind.i64) 0)))] [2, 3, 4])
 (VC.block
 2
 (VC.loop
 (VC.seq
 (VC.seq
 (VC.reg
 [VI.rd 18 none (VOp.mv (Od.t 4)),
 VI.rd 19 none (VOp.mv (Od.t 2)),
 VI.rd 20 none (VOp.mv (Od.t 3)),
 VI.rd 21 none (VOp.ixa 1 (Od.t 19) (Od.t 20)),
 VI.rd 22 none (VOp.load 1 false (Od.t 21)),
 VI.rd 23 none (VOp.lens (Od.t 22)),
 VI.rd 24 none (VOp.bin (BinOp.lss) (Od.t 18) (Od.t 23))]
 [2, 3, 4, 24])
 (VC.cond 24 (VC.skip) (VC.exit 2)))
 (VC.seq
 (VC.block
 3
 (VC.reg
 [VI.rd 27 none (VOp.mv (Od.t 2)),
 VI.rd 28 none (VOp.mv (Od.t 3)),
 VI.rd 29 none (VOp.ixa 1 (Od.t 27) (Od.t 28)),
 VI.rd 30 none (VOp.load 1 false (Od.t 29)),
 VI.rd 31 none (VOp.mv (Od.t 4)),
 VI.rd 32 none (VOp.ixa 1 (Od.t 30) (Od.t 31)),
 VI.ef none none (VEf.store 1 (Od.t 32) (Od.c (VV.int (IntKind.i64) (-77))))]
 [2, 3, 4]))
 (VC.reg [VI.rd 25 none (VOp.mv (Od.t 4)), VI.rd 26 none (VOp.bin (BinOp.add) (Od.t 25) (Od.c (VV.int (IntKind.i64) 1))), VI.rd 4 none (VOp.mv (Od.t 26))] [2, 3, 4]))))))
 (VC.reg
 [VI.rd 33 none (VOp.mv (Od.t 2)),
 VI.rd 34 none (VOp.mv (Od.t 3)),
 VI.rd 35 none (VOp.mv (Od.t 2)),
 VI.rd 36 none (VOp.mv (Od.t 3)),
 VI.rd 37 none (VOp.ixa 1 (Od.t 35) (Od.t 36)),
 VI.rd 38 none (VOp.load 1 false (Od.t 37)),
 VI.ef (some 39) none (VEf.mkrow 3 [VV.int (IntKind.i64) 0] 2 [(0, Od.c (VV.int (IntKind.i64) (-78))), (1, Od.c (VV.int (IntKind.i64) (-78)))]),
 VI.ef (some 40) none (VEf.app 3 1 8 (Od.t 38) (Od.t 39)),
 VI.rd 41 none (VOp.ixa 1 (Od.t 33) (Od.t 34)),
 VI.ef none none (VEf.store 1 (Od.t 41) (Od.t 40))]
 [2, 3])))
 (VC.reg [VI.rd 16 none (VOp.mv (Od.t 3)), VI.rd 17 none (VOp.bin (BinOp.add) (Od.t 16) (Od.c (VV.int (IntKind.i64) 1))), VI.rd 3 none (VOp.mv (Od.t 17))] [2, 3]))))))),
 []⟩
theorem ok14 : w14.Ok Try.prog := FRow.ok_of (fn := Try.f14) (ks := k14) (by kernel_rfl) (by kernel_rfl) (by kernel_rfl) (by kernel_rfl) (by kernel_rfl)
def k34 : List (List Nat) := [[0], [0, 7], [2], [0, 3], [0, 3, 4], [0, 3, 4, 12], [0, 3, 4], [0, 3, 4, 38], [2], [0, 3, 4], [2]]
def w34 : FRow := ⟨34, 46, VC.seq
 (VC.reg [VI.rd 2 none (VOp.mv (Od.c (VV.bool false)))] [0])
 (VC.seq
 (VC.seq
 (VC.reg [VI.rd 5 none (VOp.mv (Od.t 0)), VI.rd 6 none (VOp.lens (Od.t 5)), VI.rd 7 none (VOp.bin (BinOp.gtr) (Od.t 6) (Od.c (VV.int (IntKind.i64) 256)))] [0, 7])
 (VC.cond 7 (VC.seq (VC.reg [VI.rd 2 none (VOp.mv (Od.c (VV.bool false)))] [2]) (VC.ret)) (VC.skip)))
 (VC.seq
 (VC.reg [VI.ef (some 8) none (VEf.mksl 4 1 [VV.bool false] (Od.c (VV.int (IntKind.i64) 256)) (Od.c (VV.int (IntKind.i64) 256))), VI.rd 3 none (VOp.mv (Od.t 8))] [0, 3])
 (VC.seq
 (VC.seq
 (VC.reg [VI.rd 4 none (VOp.mv (Od.c (VV.int (IntKind.i64) 0)))] [0, 3, 4])
 (VC.block
 0
 (VC.loop
 (VC.seq
 (VC.seq (VC.reg [VI.rd 9 none (VOp.mv (Od.t 4)), VI.rd 10 none (VOp.mv (Od.t 0)), VI.rd 11 none (VOp.lens (Od.t 10)), VI.rd 12 none (VOp.bin (BinOp.lss) (Od.t 9) (Od.t 11))] [0, 3, 4, 12]) (VC.cond 12 (VC.skip) (VC.exit 0)))
 (VC.seq
 (VC.block
 1
 (VC.seq
 (VC.seq
 (VC.reg
 [VI.rd 15 none (VOp.mv (Od.t 0)),
 VI.rd 16 none (VOp.mv (Od.t 4)),
 VI.rd 17 none (VOp.ixa 2 (Od.t 15) (Od.t 16)),
 VI.rd 18 none (VOp.faddr 0 (Od.t 17)),
 VI.rd 19 none (VOp.load 1 false (Od.t 18)),
 VI.rd 20 none (VOp.bin (BinOp.lss) (Od.t 19) (Od.c (VV.int (IntKind.i64) 0))),
 VI.rd 21 none (VOp.mv (Od.t 20)),
 VI.rd 22 (some (21, false)) (VOp.mv (Od.t 0)),
 VI.rd 23 (some (21, false)) (VOp.mv (Od.t 4)),
 VI.rd 24 (some (21, false)) (VOp.ixa 2 (Od.t 22) (Od.t 23)),
 VI.rd 25 (some (21, false)) (VOp.faddr 0 (Od.t 24)),
 VI.rd 26 (some (21, false)) (VOp.load 1 false (Od.t 25)),
 VI.rd 27 (some (21, false)) (VOp.bin (BinOp.geq) (Od.t 26) (Od.c (VV.int (IntKind.i64) 256))),
 VI.rd 28 none (VOp.pick (Od.t 21) (Od.c (VV.bool true)) (Od.t 27)),
 VI.rd 29 none (VOp.mv (Od.t 28)),
 VI.rd 30 (some (29, false)) (VOp.mv (Od.t 3)),
 VI.rd 31 (some (29, false)) (VOp.mv (Od.t 0)),
 VI.rd 32 (some (29, false)) (VOp.mv (Od.t 4)),
 VI.rd 33 (some (29, false)) (VOp.ixa 2 (Od.t 31) (Od.t 32)),
 VI.rd 34 (some (29, false)) (VOp.faddr 0 (Od.t 33)),
 VI.rd 35 (some (29, false)) (VOp.load 1 false (Od.t 34)),
 VI.rd 36 (some (29, false)) (VOp.ixa 1 (Od.t 30) (Od.t 35)),
 VI.rd 37 (some (29, false)) (VOp.load 1 false (Od.t 36)),
 VI.rd 38 none (VOp.pick (Od.t 29) (Od.c (VV.bool true)) (Od.t 37))]
 [0, 3, 4, 38])
 (VC.cond 38 (VC.seq (VC.reg [VI.rd 2 none (VOp.mv (Od.c (VV.bool false)))] [2]) (VC.ret)) (VC.skip)))
 (VC.reg
 [VI.rd 39 none (VOp.mv (Od.t 3)),
 VI.rd 40 none (VOp.mv (Od.t 0)),
 VI.rd 41 none (VOp.mv (Od.t 4)),
 VI.rd 42 none (VOp.ixa 2 (Od.t 40) (Od.t 41)),
 VI.rd 43 none (VOp.faddr 0 (Od.t 42)),
 VI.rd 44 none (VOp.load 1 false (Od.t 43)),
 VI.rd 45 none (VOp.ixa 1 (Od.t 39) (Od.t 44)),
 VI.ef none none (VEf.store 1 (Od.t 45) (Od.c (VV.bool true)))]
 [0, 3, 4])))
 (VC.reg [VI.rd 13 none (VOp.mv (Od.t 4)), VI.rd 14 none (VOp.bin (BinOp.add) (Od.t 13) (Od.c (VV.int (IntKind.i64) 1))), VI.rd 4 none (VOp.mv (Od.t 14))] [0, 3, 4]))))))
 (VC.seq (VC.reg [VI.rd 2 none (VOp.mv (Od.c (VV.bool true)))] [2]) (VC.ret))))),
 [RV.t 2]⟩
theorem ok34 : w34.Ok Try.prog := FRow.ok_of (fn := Try.f34) (ks := k34) (by kernel_rfl) (by kernel_rfl) (by kernel_rfl) (by kernel_rfl) (by kernel_rfl)
def k35 : List (List Nat) := [[0, 1, 2], [0, 1, 2, 7], [0, 1, 2, 7, 11], [0, 1, 2, 7], [0, 1, 2, 7, 36], [6], [6]]
def w35 : FRow := ⟨35, 37, VC.seq
 (VC.reg [VI.rd 6 none (VOp.mv (Od.c (VV.bool false)))] [0, 1, 2])
 (VC.seq
 (VC.seq
 (VC.reg [VI.rd 7 none (VOp.mv (Od.c (VV.int (IntKind.i64) 0)))] [0, 1, 2, 7])
 (VC.block
 0
 (VC.loop
 (VC.seq
 (VC.seq (VC.reg [VI.rd 8 none (VOp.mv (Od.t 7)), VI.rd 9 none (VOp.mv (Od.t 1)), VI.rd 10 none (VOp.lens (Od.t 9)), VI.rd 11 none (VOp.bin (BinOp.lss) (Od.t 8) (Od.t 10))] [0, 1, 2, 7, 11]) (VC.cond 11 (VC.skip) (VC.exit 0)))
 (VC.seq
 (VC.block
 1
 (VC.seq
 (VC.reg
 [VI.rd 14 none (VOp.mv (Od.t 2)),
 VI.rd 15 none (VOp.mv (Od.t 1)),
 VI.rd 16 none (VOp.mv (Od.t 7)),
 VI.rd 17 none (VOp.ixa 2 (Od.t 15) (Od.t 16)),
 VI.rd 18 none (VOp.faddr 0 (Od.t 17)),
 VI.rd 19 none (VOp.load 1 false (Od.t 18)),
 VI.rd 20 none (VOp.bin (BinOp.add) (Od.t 14) (Od.t 19)),
 VI.rd 21 none (VOp.mv (Od.t 0)),
 VI.rd 22 none (VOp.lens (Od.t 21)),
 VI.rd 23 none (VOp.bin (BinOp.lss) (Od.t 20) (Od.t 22)),
 VI.rd 24 none (VOp.mv (Od.t 23)),
 VI.rd 25 (some (24, true)) (VOp.mv (Od.t 0)),
 VI.rd 26 (some (24, true)) (VOp.mv (Od.t 2)),
 VI.rd 27 (some (24, true)) (VOp.mv (Od.t 1)),
 VI.rd 28 (some (24, true)) (VOp.mv (Od.t 7)),
 VI.rd 29 (some (24, true)) (VOp.ixa 2 (Od.t 27) (Od.t 28)),
 VI.rd 30 (some (24, true)) (VOp.faddr 0 (Od.t 29)),
 VI.rd 31 (some (24, true)) (VOp.load 1 false (Od.t 30)),
 VI.rd 32 (some (24, true)) (VOp.bin (BinOp.add) (Od.t 26) (Od.t 31)),
 VI.rd 33 (some (24, true)) (VOp.ixa 1 (Od.t 25) (Od.t 32)),
 VI.rd 34 (some (24, true)) (VOp.load 1 false (Od.t 33)),
 VI.rd 35 (some (24, true)) (VOp.bin (BinOp.geq) (Od.t 34) (Od.c (VV.int (IntKind.i64) 0))),
 VI.rd 36 none (VOp.pick (Od.t 24) (Od.t 35) (Od.c (VV.bool false)))]
 [0, 1, 2, 7, 36])
 (VC.cond 36 (VC.seq (VC.reg [VI.rd 6 none (VOp.mv (Od.c (VV.bool false)))] [6]) (VC.ret)) (VC.skip))))
 (VC.reg [VI.rd 12 none (VOp.mv (Od.t 7)), VI.rd 13 none (VOp.bin (BinOp.add) (Od.t 12) (Od.c (VV.int (IntKind.i64) 1))), VI.rd 7 none (VOp.mv (Od.t 13))] [0, 1, 2, 7]))))))
 (VC.seq (VC.reg [VI.rd 6 none (VOp.mv (Od.c (VV.bool true)))] [6]) (VC.ret))),
 [RV.t 6]⟩
theorem ok35 : w35.Ok Try.prog := FRow.ok_of (fn := Try.f35) (ks := k35) (by kernel_rfl) (by kernel_rfl) (by kernel_rfl) (by kernel_rfl) (by kernel_rfl)
end Go.Proofs.Ytlclbfkdaemilaa
