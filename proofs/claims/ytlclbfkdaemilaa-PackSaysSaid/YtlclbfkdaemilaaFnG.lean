/- Functions, compiled for the canonical machine (printed by a program). -/
import Derived.Test.YtlclbfkdaemilaaVmL
import Derived.Test.YtlclbfkdaemilaaProg
namespace Go.Proofs.Ytlclbfkdaemilaa
set_option linter.unusedSimpArgs false
set_option linter.unusedVariables false
open Go Go.Vm Go.Proofs
set_option maxRecDepth 100000
def k38 : List (List Nat) := [[0, 1, 2], [0, 1, 2, 7], [0, 1, 7, 8], [1, 7, 8, 17, 18, 19], [1, 7, 8, 17, 18, 19, 20], [1, 7, 8, 10, 17, 18, 19], [1, 7, 8, 11, 12, 17, 18, 19], [1, 7, 8, 11, 17, 18, 19, 29], [1, 7, 8, 17, 18, 19], [1, 7, 8, 17, 18, 19], [7, 8, 36], [7, 8, 36, 38], [7, 8, 13, 14, 36], [7, 8, 13, 36, 58], [7, 8, 36], [6]]
def w38 : FRow := ⟨38, 61, VC.seq
 (VC.reg [VI.rd 6 none (VOp.mv (Od.c (VV.int (IntKind.i64) 0)))] [0, 1, 2])
 (VC.seq
 (VC.reg [VI.ef (some 15) none (VEf.mkmap), VI.rd 7 none (VOp.mv (Od.t 15))] [0, 1, 2, 7])
 (VC.seq
 (VC.reg [VI.rd 16 none (VOp.mv (Od.t 2)), VI.rd 8 none (VOp.mv (Od.t 16))] [0, 1, 7, 8])
 (VC.seq
 (VC.seq
 (VC.reg [VI.rd 17 none (VOp.mv (Od.t 0)), VI.rd 18 none (VOp.lens (Od.t 17)), VI.rd 19 none (VOp.mv (Od.c (VV.int (IntKind.i64) 0)))] [1, 7, 8, 17, 18, 19])
 (VC.block
 0
 (VC.loop
 (VC.seq
 (VC.reg [VI.rd 20 none (VOp.bin (BinOp.lss) (Od.t 19) (Od.t 18))] [1, 7, 8, 17, 18, 19, 20])
 (VC.seq
 (VC.cond 20 (VC.skip) (VC.exit 0))
 (VC.seq
 (VC.block
 1
 (VC.seq
 (VC.reg [VI.rd 21 none (VOp.ixa 2 (Od.t 17) (Od.t 19)), VI.rd 22 none (VOp.load 2 true (Od.t 21)), VI.ef (some 10) none (VEf.alloc 46 [VV.int (IntKind.i64) 0, VV.int (IntKind.i64) 0]), VI.ef none none (VEf.store 2 (Od.t 10) (Od.t 22))] [1, 7, 8, 10, 17, 18, 19])
 (VC.seq
 (VC.reg
 [VI.rd 24 none (VOp.mv (Od.t 1)),
 VI.rd 25 none (VOp.load 2 true (Od.t 10)),
 VI.call (some 26) none (Od.t 24) [Od.t 25],
 VI.rd 23 none (VOp.mv (Od.t 26)),
 VI.rd 27 none (VOp.ext 0 (Od.t 23)),
 VI.rd 28 none (VOp.ext 1 (Od.t 23)),
 VI.rd 11 none (VOp.mv (Od.t 27)),
 VI.rd 12 none (VOp.mv (Od.t 28))]
 [1, 7, 8, 11, 12, 17, 18, 19])
 (VC.seq
 (VC.reg [VI.rd 29 none (VOp.mv (Od.t 12))] [1, 7, 8, 11, 17, 18, 19, 29])
 (VC.cond
 29
 (VC.reg
 [VI.rd 30 none (VOp.mv (Od.t 7)),
 VI.rd 31 none (VOp.mv (Od.t 11)),
 VI.rd 32 none (VOp.lkp (KK.int (IntKind.i64)) (VV.int (IntKind.i64) 0) false (Od.t 30) (Od.t 31)),
 VI.rd 33 none (VOp.bin (BinOp.add) (Od.t 32) (Od.c (VV.int (IntKind.i64) 1))),
 VI.ef none none (VEf.mset (KK.int (IntKind.i64)) (Od.t 30) (Od.t 31) (Od.t 33))]
 [1, 7, 8, 17, 18, 19])
 (VC.skip))))))
 (VC.reg [VI.rd 34 none (VOp.bin (BinOp.add) (Od.t 19) (Od.c (VV.int (IntKind.i64) 1))), VI.rd 19 none (VOp.mv (Od.t 34))] [1, 7, 8, 17, 18, 19])))))))
 (VC.seq
 (VC.seq
 (VC.reg [VI.rd 35 none (VOp.mv (Od.t 7)), VI.ef (some 36) none (VEf.rng (Od.t 35))] [7, 8, 36])
 (VC.block
 2
 (VC.loop
 (VC.seq
 (VC.reg [VI.nx 37 none (Od.t 36), VI.rd 38 none (VOp.ext 0 (Od.t 37))] [7, 8, 36, 38])
 (VC.seq
 (VC.cond 38 (VC.skip) (VC.exit 2))
 (VC.block
 3
 (VC.seq
 (VC.reg [VI.rd 39 none (VOp.ent (Od.t 36)), VI.rd 40 none (VOp.ext 0 (Od.t 39)), VI.rd 41 none (VOp.ext 1 (Od.t 39)), VI.rd 13 none (VOp.mv (Od.t 40)), VI.rd 14 none (VOp.mv (Od.t 41))] [7, 8, 13, 14, 36])
 (VC.seq
 (VC.reg
 [VI.rd 42 none (VOp.mv (Od.t 14)),
 VI.rd 43 none (VOp.mv (Od.t 7)),
 VI.rd 44 none (VOp.mv (Od.t 8)),
 VI.rd 45 none (VOp.lkp (KK.int (IntKind.i64)) (VV.int (IntKind.i64) 0) false (Od.t 43) (Od.t 44)),
 VI.rd 46 none (VOp.bin (BinOp.gtr) (Od.t 42) (Od.t 45)),
 VI.rd 47 none (VOp.mv (Od.t 46)),
 VI.rd 48 (some (47, false)) (VOp.mv (Od.t 14)),
 VI.rd 49 (some (47, false)) (VOp.mv (Od.t 7)),
 VI.rd 50 (some (47, false)) (VOp.mv (Od.t 8)),
 VI.rd 51 (some (47, false)) (VOp.lkp (KK.int (IntKind.i64)) (VV.int (IntKind.i64) 0) false (Od.t 49) (Od.t 50)),
 VI.rd 52 (some (47, false)) (VOp.bin (BinOp.eql) (Od.t 48) (Od.t 51)),
 VI.rd 53 (some (47, false)) (VOp.mv (Od.t 52)),
 VI.rd 54 (some (53, true)) (VOp.mv (Od.t 13)),
 VI.rd 55 (some (53, true)) (VOp.mv (Od.t 8)),
 VI.rd 56 (some (53, true)) (VOp.bin (BinOp.lss) (Od.t 54) (Od.t 55)),
 VI.rd 57 (some (47, false)) (VOp.pick (Od.t 53) (Od.t 56) (Od.c (VV.bool false))),
 VI.rd 58 none (VOp.pick (Od.t 47) (Od.c (VV.bool true)) (Od.t 57))]
 [7, 8, 13, 36, 58])
 (VC.cond 58 (VC.reg [VI.rd 59 none (VOp.mv (Od.t 13)), VI.rd 8 none (VOp.mv (Od.t 59))] [7, 8, 36]) (VC.skip))))))))))
 (VC.seq (VC.reg [VI.rd 60 none (VOp.mv (Od.t 8)), VI.rd 6 none (VOp.mv (Od.t 60))] [6]) (VC.ret)))))),
 [RV.t 6]⟩
theorem ok38 : w38.Ok Try.prog := FRow.ok_of (fn := Try.f38) (ks := k38) (by kernel_rfl) (by kernel_rfl) (by kernel_rfl) (by kernel_rfl) (by kernel_rfl)
def k41 : List (List Nat) := [[0, 1, 2], [0, 1, 2, 7], [0, 1, 7, 8], [1, 7, 8, 17, 18, 19], [1, 7, 8, 17, 18, 19, 20], [1, 7, 8, 10, 17, 18, 19], [1, 7, 8, 11, 12, 17, 18, 19], [1, 7, 8, 11, 17, 18, 19, 29], [1, 7, 8, 17, 18, 19], [1, 7, 8, 17, 18, 19], [7, 8, 36], [7, 8, 36, 38], [7, 8, 13, 14, 36], [7, 8, 13, 36, 58], [7, 8, 36], [6]]
def w41 : FRow := ⟨41, 61, VC.seq
 (VC.reg [VI.rd 6 none (VOp.mv (Od.c (VV.int (IntKind.i64) 0)))] [0, 1, 2])
 (VC.seq
 (VC.reg [VI.ef (some 15) none (VEf.mkmap), VI.rd 7 none (VOp.mv (Od.t 15))] [0, 1, 2, 7])
 (VC.seq
 (VC.reg [VI.rd 16 none (VOp.mv (Od.t 2)), VI.rd 8 none (VOp.mv (Od.t 16))] [0, 1, 7, 8])
 (VC.seq
 (VC.seq
 (VC.reg [VI.rd 17 none (VOp.mv (Od.t 0)), VI.rd 18 none (VOp.lens (Od.t 17)), VI.rd 19 none (VOp.mv (Od.c (VV.int (IntKind.i64) 0)))] [1, 7, 8, 17, 18, 19])
 (VC.block
 0
 (VC.loop
 (VC.seq
 (VC.reg [VI.rd 20 none (VOp.bin (BinOp.lss) (Od.t 19) (Od.t 18))] [1, 7, 8, 17, 18, 19, 20])
 (VC.seq
 (VC.cond 20 (VC.skip) (VC.exit 0))
 (VC.seq
 (VC.block
 1
 (VC.seq
 (VC.reg [VI.rd 21 none (VOp.ixa 1 (Od.t 17) (Od.t 19)), VI.rd 22 none (VOp.load 1 false (Od.t 21)), VI.rd 10 none (VOp.mv (Od.t 22))] [1, 7, 8, 10, 17, 18, 19])
 (VC.seq
 (VC.reg
 [VI.rd 24 none (VOp.mv (Od.t 1)),
 VI.rd 25 none (VOp.mv (Od.t 10)),
 VI.call (some 26) none (Od.t 24) [Od.t 25],
 VI.rd 23 none (VOp.mv (Od.t 26)),
 VI.rd 27 none (VOp.ext 0 (Od.t 23)),
 VI.rd 28 none (VOp.ext 1 (Od.t 23)),
 VI.rd 11 none (VOp.mv (Od.t 27)),
 VI.rd 12 none (VOp.mv (Od.t 28))]
 [1, 7, 8, 11, 12, 17, 18, 19])
 (VC.seq
 (VC.reg [VI.rd 29 none (VOp.mv (Od.t 12))] [1, 7, 8, 11, 17, 18, 19, 29])
 (VC.cond
 29
 (VC.reg
 [VI.rd 30 none (VOp.mv (Od.t 7)),
 VI.rd 31 none (VOp.mv (Od.t 11)),
 VI.rd 32 none (VOp.lkp (KK.int (IntKind.i64)) (VV.int (IntKind.i64) 0) false (Od.t 30) (Od.t 31)),
 VI.rd 33 none (VOp.bin (BinOp.add) (Od.t 32) (Od.c (VV.int (IntKind.i64) 1))),
 VI.ef none none (VEf.mset (KK.int (IntKind.i64)) (Od.t 30) (Od.t 31) (Od.t 33))]
 [1, 7, 8, 17, 18, 19])
 (VC.skip))))))
 (VC.reg [VI.rd 34 none (VOp.bin (BinOp.add) (Od.t 19) (Od.c (VV.int (IntKind.i64) 1))), VI.rd 19 none (VOp.mv (Od.t 34))] [1, 7, 8, 17, 18, 19])))))))
 (VC.seq
 (VC.seq
 (VC.reg [VI.rd 35 none (VOp.mv (Od.t 7)), VI.ef (some 36) none (VEf.rng (Od.t 35))] [7, 8, 36])
 (VC.block
 2
 (VC.loop
 (VC.seq
 (VC.reg [VI.nx 37 none (Od.t 36), VI.rd 38 none (VOp.ext 0 (Od.t 37))] [7, 8, 36, 38])
 (VC.seq
 (VC.cond 38 (VC.skip) (VC.exit 2))
 (VC.block
 3
 (VC.seq
 (VC.reg [VI.rd 39 none (VOp.ent (Od.t 36)), VI.rd 40 none (VOp.ext 0 (Od.t 39)), VI.rd 41 none (VOp.ext 1 (Od.t 39)), VI.rd 13 none (VOp.mv (Od.t 40)), VI.rd 14 none (VOp.mv (Od.t 41))] [7, 8, 13, 14, 36])
 (VC.seq
 (VC.reg
 [VI.rd 42 none (VOp.mv (Od.t 14)),
 VI.rd 43 none (VOp.mv (Od.t 7)),
 VI.rd 44 none (VOp.mv (Od.t 8)),
 VI.rd 45 none (VOp.lkp (KK.int (IntKind.i64)) (VV.int (IntKind.i64) 0) false (Od.t 43) (Od.t 44)),
 VI.rd 46 none (VOp.bin (BinOp.gtr) (Od.t 42) (Od.t 45)),
 VI.rd 47 none (VOp.mv (Od.t 46)),
 VI.rd 48 (some (47, false)) (VOp.mv (Od.t 14)),
 VI.rd 49 (some (47, false)) (VOp.mv (Od.t 7)),
 VI.rd 50 (some (47, false)) (VOp.mv (Od.t 8)),
 VI.rd 51 (some (47, false)) (VOp.lkp (KK.int (IntKind.i64)) (VV.int (IntKind.i64) 0) false (Od.t 49) (Od.t 50)),
 VI.rd 52 (some (47, false)) (VOp.bin (BinOp.eql) (Od.t 48) (Od.t 51)),
 VI.rd 53 (some (47, false)) (VOp.mv (Od.t 52)),
 VI.rd 54 (some (53, true)) (VOp.mv (Od.t 13)),
 VI.rd 55 (some (53, true)) (VOp.mv (Od.t 8)),
 VI.rd 56 (some (53, true)) (VOp.bin (BinOp.lss) (Od.t 54) (Od.t 55)),
 VI.rd 57 (some (47, false)) (VOp.pick (Od.t 53) (Od.t 56) (Od.c (VV.bool false))),
 VI.rd 58 none (VOp.pick (Od.t 47) (Od.c (VV.bool true)) (Od.t 57))]
 [7, 8, 13, 36, 58])
 (VC.cond 58 (VC.reg [VI.rd 59 none (VOp.mv (Od.t 13)), VI.rd 8 none (VOp.mv (Od.t 59))] [7, 8, 36]) (VC.skip))))))))))
 (VC.seq (VC.reg [VI.rd 60 none (VOp.mv (Od.t 8)), VI.rd 6 none (VOp.mv (Od.t 60))] [6]) (VC.ret)))))),
 [RV.t 6]⟩
theorem ok41 : w41.Ok Try.prog := FRow.ok_of (fn := Try.f41) (ks := k41) (by kernel_rfl) (by kernel_rfl) (by kernel_rfl) (by kernel_rfl) (by kernel_rfl)
end Go.Proofs.Ytlclbfkdaemilaa
