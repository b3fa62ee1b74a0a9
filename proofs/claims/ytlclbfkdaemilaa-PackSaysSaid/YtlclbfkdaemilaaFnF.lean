/- Functions, compiled for the canonical machine (printed by a program). -/
import Derived.Test.YtlclbfkdaemilaaVmL
import Derived.Test.YtlclbfkdaemilaaProg
namespace Go.Proofs.Ytlclbfkdaemilaa
set_option linter.unusedSimpArgs false
set_option linter.unusedVariables false
open Go Go.Vm Go.Proofs
set_option maxRecDepth 100000
def k54 : List (List Nat) := [[0, 1, 2, 3, 4, 28], [0, 1, 3, 4, 10], [0, 1, 4, 10, 11], [0, 1, 4, 10, 11, 33], [0, 1, 4, 10, 11, 12], [0, 1, 4, 10, 11, 12, 50], [0, 1, 4, 10, 11], [0, 1, 4, 10, 11], [0, 10, 13], [0, 10, 13, 58], [0, 10, 13], [0, 10, 13], [0, 1, 2, 3, 4, 80], [0, 2, 4, 14], [0, 2, 4, 14, 15], [0, 2, 4, 14, 15, 85], [0, 2, 4, 14, 15, 16], [0, 2, 4, 14, 15, 16, 103], [0, 2, 4, 14, 15], [0, 2, 4, 14, 15], [0, 14, 17], [0, 14, 17, 110], [0, 14, 17], [0, 14, 17], [0, 1, 2, 3, 4, 18], [0, 1, 2, 3, 4, 18, 19], [0, 1, 2, 3, 4, 18, 19], [0, 1, 2, 3, 4, 18, 19, 140], [0, 1, 2, 3, 4, 18, 19, 20], [0, 1, 2, 3, 4, 18, 19, 20, 21], [0, 1, 2, 3, 4, 18, 19, 20], [0, 1, 2, 3, 4, 18, 19, 20, 21], [0, 1, 2, 3, 4, 18, 19, 20, 21, 22], [0, 1, 2, 3, 4, 18, 19, 20, 21, 22, 151], [0, 1, 2, 3, 4, 18, 19, 20, 21, 22, 23], [0, 1, 2, 3, 4, 18, 19, 20, 21, 22, 23, 171], [0, 1, 2, 3, 4, 18, 19, 20, 21, 22], [0, 1, 2, 3, 4, 18, 19, 20, 21, 22], [0, 1, 2, 3, 4, 18, 20, 24], [0, 1, 2, 3, 4, 18, 20, 24, 185], [0, 1, 3, 4, 18, 20, 24], [0, 1, 3, 4, 18, 20, 24, 199], [0, 3, 4, 18, 24], [0, 3, 4, 18, 24, 213], []]
def w54 : FRow := ⟨54, 220, VC.seq
 (VC.seq
 (VC.reg [VI.rd 25 none (VOp.mv (Od.t 2)), VI.rd 26 none (VOp.mv (Od.t 1)), VI.rd 27 none (VOp.bin (BinOp.sub) (Od.t 25) (Od.t 26)), VI.rd 28 none (VOp.bin (BinOp.eql) (Od.t 27) (Od.c (VV.int (IntKind.i64) 1)))] [0, 1, 2, 3, 4, 28])
 (VC.cond
 28
 (VC.seq
 (VC.reg [VI.rd 29 none (VOp.mv (Od.t 2)), VI.rd 10 none (VOp.mv (Od.t 29))] [0, 1, 3, 4, 10])
 (VC.seq
 (VC.reg [VI.rd 30 none (VOp.mv (Od.t 3)), VI.rd 11 none (VOp.mv (Od.t 30))] [0, 1, 4, 10, 11])
 (VC.seq
 (VC.block
 0
 (VC.loop
 (VC.seq
 (VC.seq (VC.reg [VI.rd 31 none (VOp.mv (Od.t 10)), VI.rd 32 none (VOp.mv (Od.t 11)), VI.rd 33 none (VOp.bin (BinOp.lss) (Od.t 31) (Od.t 32))] [0, 1, 4, 10, 11, 33]) (VC.cond 33 (VC.skip) (VC.exit 0)))
 (VC.block
 1
 (VC.seq
 (VC.reg
 [VI.rd 34 none (VOp.mv (Od.t 10)),
 VI.rd 35 none (VOp.mv (Od.t 11)),
 VI.rd 36 none (VOp.bin (BinOp.add) (Od.t 34) (Od.t 35)),
 VI.rd 37 none (VOp.conv (IntKind.u64) (Od.t 36)),
 VI.rd 38 none (VOp.sh false (Od.t 37) (Od.c (VV.int (IntKind.u64) 1))),
 VI.rd 39 none (VOp.conv (IntKind.i64) (Od.t 38)),
 VI.rd 12 none (VOp.mv (Od.t 39))]
 [0, 1, 4, 10, 11, 12])
 (VC.seq
 (VC.dreg
 [VI.rd 40 none (VOp.mv (Od.t 4)),
 VI.rd 41 none (VOp.mv (Od.t 0)),
 VI.rd 42 none (VOp.mv (Od.t 12)),
 VI.rd 43 none (VOp.ixa 1 (Od.t 41) (Od.t 42)),
 VI.rd 44 none (VOp.load 1 false (Od.t 43)),
 VI.rd 45 none (VOp.mv (Od.t 0)),
 VI.rd 46 none (VOp.mv (Od.t 1)),
 VI.rd 47 none (VOp.ixa 1 (Od.t 45) (Od.t 46)),
 VI.rd 48 none (VOp.load 1 false (Od.t 47)),
 VI.call (some 49) none (Od.t 40) [Od.t 44, Od.t 48],
 VI.rd 50 none (VOp.bin (BinOp.lss) (Od.t 49) (Od.c (VV.int (IntKind.i64) 0)))]
 [(0, 0), (0, 0), (0, 0), (0, 0), (0, 0), (0, 0), (0, 0), (0, 0), (0, 0), (0, 0), (0, 0)]
 [0, 1, 4, 10, 11, 12, 50])
 (VC.cond
 50
 (VC.reg [VI.rd 51 none (VOp.mv (Od.t 12)), VI.rd 52 none (VOp.bin (BinOp.add) (Od.t 51) (Od.c (VV.int (IntKind.i64) 1))), VI.rd 10 none (VOp.mv (Od.t 52))] [0, 1, 4, 10, 11])
 (VC.reg [VI.rd 53 none (VOp.mv (Od.t 12)), VI.rd 11 none (VOp.mv (Od.t 53))] [0, 1, 4, 10, 11]))))))))
 (VC.seq
 (VC.seq
 (VC.reg [VI.rd 54 none (VOp.mv (Od.t 1)), VI.rd 13 none (VOp.mv (Od.t 54))] [0, 10, 13])
 (VC.block
 2
 (VC.loop
 (VC.seq
 (VC.seq
 (VC.reg [VI.rd 55 none (VOp.mv (Od.t 13)), VI.rd 56 none (VOp.mv (Od.t 10)), VI.rd 57 none (VOp.bin (BinOp.sub) (Od.t 56) (Od.c (VV.int (IntKind.i64) 1))), VI.rd 58 none (VOp.bin (BinOp.lss) (Od.t 55) (Od.t 57))] [0, 10, 13, 58])
 (VC.cond 58 (VC.skip) (VC.exit 2)))
 (VC.seq
 (VC.block
 3
 (VC.dreg
 [VI.rd 61 none (VOp.mv (Od.t 0)),
 VI.rd 62 none (VOp.mv (Od.t 13)),
 VI.rd 63 none (VOp.mv (Od.t 0)),
 VI.rd 64 none (VOp.mv (Od.t 13)),
 VI.rd 65 none (VOp.bin (BinOp.add) (Od.t 64) (Od.c (VV.int (IntKind.i64) 1))),
 VI.rd 66 none (VOp.mv (Od.t 0)),
 VI.rd 67 none (VOp.mv (Od.t 13)),
 VI.rd 68 none (VOp.bin (BinOp.add) (Od.t 67) (Od.c (VV.int (IntKind.i64) 1))),
 VI.rd 69 none (VOp.ixa 1 (Od.t 66) (Od.t 68)),
 VI.rd 70 none (VOp.load 1 false (Od.t 69)),
 VI.rd 71 none (VOp.mv (Od.t 0)),
 VI.rd 72 none (VOp.mv (Od.t 13)),
 VI.rd 73 none (VOp.ixa 1 (Od.t 71) (Od.t 72)),
 VI.rd 74 none (VOp.load 1 false (Od.t 73)),
 VI.rd 75 none (VOp.ixa 1 (Od.t 61) (Od.t 62)),
 VI.ef none none (VEf.store 1 (Od.t 75) (Od.t 70)),
 VI.rd 76 none (VOp.ixa 1 (Od.t 63) (Od.t 65)),
 VI.ef none none (VEf.store 1 (Od.t 76) (Od.t 74))]
 [(0, 0), (0, 0), (0, 1), (0, 1), (0, 1), (0, 0), (0, 0), (0, 0), (0, 0), (0, 0), (0, 0), (0, 0), (0, 0), (0, 0), (0, 0), (0, 0), (1, 1), (1, 1)]
 [0, 10, 13]))
 (VC.reg [VI.rd 59 none (VOp.mv (Od.t 13)), VI.rd 60 none (VOp.bin (BinOp.add) (Od.t 59) (Od.c (VV.int (IntKind.i64) 1))), VI.rd 13 none (VOp.mv (Od.t 60))] [0, 10, 13]))))))
 (VC.ret)))))
 (VC.skip)))
 (VC.seq
 (VC.seq
 (VC.reg [VI.rd 77 none (VOp.mv (Od.t 3)), VI.rd 78 none (VOp.mv (Od.t 2)), VI.rd 79 none (VOp.bin (BinOp.sub) (Od.t 77) (Od.t 78)), VI.rd 80 none (VOp.bin (BinOp.eql) (Od.t 79) (Od.c (VV.int (IntKind.i64) 1)))] [0, 1, 2, 3, 4, 80])
 (VC.cond
 80
 (VC.seq
 (VC.reg [VI.rd 81 none (VOp.mv (Od.t 1)), VI.rd 14 none (VOp.mv (Od.t 81))] [0, 2, 4, 14])
 (VC.seq
 (VC.reg [VI.rd 82 none (VOp.mv (Od.t 2)), VI.rd 15 none (VOp.mv (Od.t 82))] [0, 2, 4, 14, 15])
 (VC.seq
 (VC.block
 4
 (VC.loop
 (VC.seq
 (VC.seq (VC.reg [VI.rd 83 none (VOp.mv (Od.t 14)), VI.rd 84 none (VOp.mv (Od.t 15)), VI.rd 85 none (VOp.bin (BinOp.lss) (Od.t 83) (Od.t 84))] [0, 2, 4, 14, 15, 85]) (VC.cond 85 (VC.skip) (VC.exit 4)))
 (VC.block
 5
 (VC.seq
 (VC.reg
 [VI.rd 86 none (VOp.mv (Od.t 14)),
 VI.rd 87 none (VOp.mv (Od.t 15)),
 VI.rd 88 none (VOp.bin (BinOp.add) (Od.t 86) (Od.t 87)),
 VI.rd 89 none (VOp.conv (IntKind.u64) (Od.t 88)),
 VI.rd 90 none (VOp.sh false (Od.t 89) (Od.c (VV.int (IntKind.u64) 1))),
 VI.rd 91 none (VOp.conv (IntKind.i64) (Od.t 90)),
 VI.rd 16 none (VOp.mv (Od.t 91))]
 [0, 2, 4, 14, 15, 16])
 (VC.seq
 (VC.dreg
 [VI.rd 92 none (VOp.mv (Od.t 4)),
 VI.rd 93 none (VOp.mv (Od.t 0)),
 VI.rd 94 none (VOp.mv (Od.t 2)),
 VI.rd 95 none (VOp.ixa 1 (Od.t 93) (Od.t 94)),
 VI.rd 96 none (VOp.load 1 false (Od.t 95)),
 VI.rd 97 none (VOp.mv (Od.t 0)),
 VI.rd 98 none (VOp.mv (Od.t 16)),
 VI.rd 99 none (VOp.ixa 1 (Od.t 97) (Od.t 98)),
 VI.rd 100 none (VOp.load 1 false (Od.t 99)),
 VI.call (some 101) none (Od.t 92) [Od.t 96, Od.t 100],
 VI.rd 102 none (VOp.bin (BinOp.lss) (Od.t 101) (Od.c (VV.int (IntKind.i64) 0))),
 VI.rd 103 none (VOp.not (Od.t 102))]
 [(0, 0), (0, 0), (0, 0), (0, 0), (0, 0), (0, 0), (0, 0), (0, 0), (0, 0), (0, 0), (0, 0), (0, 0)]
 [0, 2, 4, 14, 15, 16, 103])
 (VC.cond
 103
 (VC.reg [VI.rd 104 none (VOp.mv (Od.t 16)), VI.rd 105 none (VOp.bin (BinOp.add) (Od.t 104) (Od.c (VV.int (IntKind.i64) 1))), VI.rd 14 none (VOp.mv (Od.t 105))] [0, 2, 4, 14, 15])
 (VC.reg [VI.rd 106 none (VOp.mv (Od.t 16)), VI.rd 15 none (VOp.mv (Od.t 106))] [0, 2, 4, 14, 15]))))))))
 (VC.seq
 (VC.seq
 (VC.reg [VI.rd 107 none (VOp.mv (Od.t 2)), VI.rd 17 none (VOp.mv (Od.t 107))] [0, 14, 17])
 (VC.block
 6
 (VC.loop
 (VC.seq
 (VC.seq (VC.reg [VI.rd 108 none (VOp.mv (Od.t 17)), VI.rd 109 none (VOp.mv (Od.t 14)), VI.rd 110 none (VOp.bin (BinOp.gtr) (Od.t 108) (Od.t 109))] [0, 14, 17, 110]) (VC.cond 110 (VC.skip) (VC.exit 6)))
 (VC.seq
 (VC.block
 7
 (VC.dreg
 [VI.rd 113 none (VOp.mv (Od.t 0)),
 VI.rd 114 none (VOp.mv (Od.t 17)),
 VI.rd 115 none (VOp.mv (Od.t 0)),
 VI.rd 116 none (VOp.mv (Od.t 17)),
 VI.rd 117 none (VOp.bin (BinOp.sub) (Od.t 116) (Od.c (VV.int (IntKind.i64) 1))),
 VI.rd 118 none (VOp.mv (Od.t 0)),
 VI.rd 119 none (VOp.mv (Od.t 17)),
 VI.rd 120 none (VOp.bin (BinOp.sub) (Od.t 119) (Od.c (VV.int (IntKind.i64) 1))),
 VI.rd 121 none (VOp.ixa 1 (Od.t 118) (Od.t 120)),
 VI.rd 122 none (VOp.load 1 false (Od.t 121)),
 VI.rd 123 none (VOp.mv (Od.t 0)),
 VI.rd 124 none (VOp.mv (Od.t 17)),
 VI.rd 125 none (VOp.ixa 1 (Od.t 123) (Od.t 124)),
 VI.rd 126 none (VOp.load 1 false (Od.t 125)),
 VI.rd 127 none (VOp.ixa 1 (Od.t 113) (Od.t 114)),
 VI.ef none none (VEf.store 1 (Od.t 127) (Od.t 122)),
 VI.rd 128 none (VOp.ixa 1 (Od.t 115) (Od.t 117)),
 VI.ef none none (VEf.store 1 (Od.t 128) (Od.t 126))]
 [(0, 0), (0, 0), (0, 1), (0, 1), (0, 1), (0, 0), (0, 0), (0, 0), (0, 0), (0, 0), (0, 0), (0, 0), (0, 0), (0, 0), (0, 0), (0, 0), (1, 1), (1, 1)]
 [0, 14, 17]))
 (VC.reg [VI.rd 111 none (VOp.mv (Od.t 17)), VI.rd 112 none (VOp.bin (BinOp.sub) (Od.t 111) (Od.c (VV.int (IntKind.i64) 1))), VI.rd 17 none (VOp.mv (Od.t 112))] [0, 14, 17]))))))
 (VC.ret)))))
 (VC.skip)))
 (VC.seq
 (VC.reg
 [VI.rd 129 none (VOp.mv (Od.t 1)),
 VI.rd 130 none (VOp.mv (Od.t 3)),
 VI.rd 131 none (VOp.bin (BinOp.add) (Od.t 129) (Od.t 130)),
 VI.rd 132 none (VOp.conv (IntKind.u64) (Od.t 131)),
 VI.rd 133 none (VOp.sh false (Od.t 132) (Od.c (VV.int (IntKind.u64) 1))),
 VI.rd 134 none (VOp.conv (IntKind.i64) (Od.t 133)),
 VI.rd 18 none (VOp.mv (Od.t 134))]
 [0, 1, 2, 3, 4, 18])
 (VC.seq
 (VC.reg [VI.rd 135 none (VOp.mv (Od.t 18)), VI.rd 136 none (VOp.mv (Od.t 2)), VI.rd 137 none (VOp.bin (BinOp.add) (Od.t 135) (Od.t 136)), VI.rd 19 none (VOp.mv (Od.t 137))] [0, 1, 2, 3, 4, 18, 19])
 (VC.seq
 (VC.reg [VI.rd 20 none (VOp.mv (Od.c (VV.int (IntKind.i64) 0))), VI.rd 21 none (VOp.mv (Od.c (VV.int (IntKind.i64) 0)))] [0, 1, 2, 3, 4, 18, 19])
 (VC.seq
 (VC.seq
 (VC.reg [VI.rd 138 none (VOp.mv (Od.t 2)), VI.rd 139 none (VOp.mv (Od.t 18)), VI.rd 140 none (VOp.bin (BinOp.gtr) (Od.t 138) (Od.t 139))] [0, 1, 2, 3, 4, 18, 19, 140])
 (VC.cond
 140
 (VC.seq
 (VC.reg [VI.rd 141 none (VOp.mv (Od.t 19)), VI.rd 142 none (VOp.mv (Od.t 3)), VI.rd 143 none (VOp.bin (BinOp.sub) (Od.t 141) (Od.t 142)), VI.rd 20 none (VOp.mv (Od.t 143))] [0, 1, 2, 3, 4, 18, 19, 20])
 (VC.reg [VI.rd 144 none (VOp.mv (Od.t 18)), VI.rd 21 none (VOp.mv (Od.t 144))] [0, 1, 2, 3, 4, 18, 19, 20, 21]))
 (VC.seq (VC.reg [VI.rd 145 none (VOp.mv (Od.t 1)), VI.rd 20 none (VOp.mv (Od.t 145))] [0, 1, 2, 3, 4, 18, 19, 20]) (VC.reg [VI.rd 146 none (VOp.mv (Od.t 2)), VI.rd 21 none (VOp.mv (Od.t 146))] [0, 1, 2, 3, 4, 18, 19, 20, 21]))))
 (VC.seq
 (VC.reg [VI.rd 147 none (VOp.mv (Od.t 19)), VI.rd 148 none (VOp.bin (BinOp.sub) (Od.t 147) (Od.c (VV.int (IntKind.i64) 1))), VI.rd 22 none (VOp.mv (Od.t 148))] [0, 1, 2, 3, 4, 18, 19, 20, 21, 22])
 (VC.seq
 (VC.block
 8
 (VC.loop
 (VC.seq
 (VC.seq (VC.reg [VI.rd 149 none (VOp.mv (Od.t 20)), VI.rd 150 none (VOp.mv (Od.t 21)), VI.rd 151 none (VOp.bin (BinOp.lss) (Od.t 149) (Od.t 150))] [0, 1, 2, 3, 4, 18, 19, 20, 21, 22, 151]) (VC.cond 151 (VC.skip) (VC.exit 8)))
 (VC.block
 9
 (VC.seq
 (VC.reg
 [VI.rd 152 none (VOp.mv (Od.t 20)),
 VI.rd 153 none (VOp.mv (Od.t 21)),
 VI.rd 154 none (VOp.bin (BinOp.add) (Od.t 152) (Od.t 153)),
 VI.rd 155 none (VOp.conv (IntKind.u64) (Od.t 154)),
 VI.rd 156 none (VOp.sh false (Od.t 155) (Od.c (VV.int (IntKind.u64) 1))),
 VI.rd 157 none (VOp.conv (IntKind.i64) (Od.t 156)),
 VI.rd 23 none (VOp.mv (Od.t 157))]
 [0, 1, 2, 3, 4, 18, 19, 20, 21, 22, 23])
 (VC.seq
 (VC.dreg
 [VI.rd 158 none (VOp.mv (Od.t 4)),
 VI.rd 159 none (VOp.mv (Od.t 0)),
 VI.rd 160 none (VOp.mv (Od.t 22)),
 VI.rd 161 none (VOp.mv (Od.t 23)),
 VI.rd 162 none (VOp.bin (BinOp.sub) (Od.t 160) (Od.t 161)),
 VI.rd 163 none (VOp.ixa 1 (Od.t 159) (Od.t 162)),
 VI.rd 164 none (VOp.load 1 false (Od.t 163)),
 VI.rd 165 none (VOp.mv (Od.t 0)),
 VI.rd 166 none (VOp.mv (Od.t 23)),
 VI.rd 167 none (VOp.ixa 1 (Od.t 165) (Od.t 166)),
 VI.rd 168 none (VOp.load 1 false (Od.t 167)),
 VI.call (some 169) none (Od.t 158) [Od.t 164, Od.t 168],
 VI.rd 170 none (VOp.bin (BinOp.lss) (Od.t 169) (Od.c (VV.int (IntKind.i64) 0))),
 VI.rd 171 none (VOp.not (Od.t 170))]
 [(0, 0), (0, 0), (0, 0), (0, 0), (0, 0), (0, 0), (0, 0), (0, 0), (0, 0), (0, 0), (0, 0), (0, 0), (0, 0), (0, 0)]
 [0, 1, 2, 3, 4, 18, 19, 20, 21, 22, 23, 171])
 (VC.cond
 171
 (VC.reg [VI.rd 172 none (VOp.mv (Od.t 23)), VI.rd 173 none (VOp.bin (BinOp.add) (Od.t 172) (Od.c (VV.int (IntKind.i64) 1))), VI.rd 20 none (VOp.mv (Od.t 173))] [0, 1, 2, 3, 4, 18, 19, 20, 21, 22])
 (VC.reg [VI.rd 174 none (VOp.mv (Od.t 23)), VI.rd 21 none (VOp.mv (Od.t 174))] [0, 1, 2, 3, 4, 18, 19, 20, 21, 22]))))))))
 (VC.seq
 (VC.reg [VI.rd 175 none (VOp.mv (Od.t 19)), VI.rd 176 none (VOp.mv (Od.t 20)), VI.rd 177 none (VOp.bin (BinOp.sub) (Od.t 175) (Od.t 176)), VI.rd 24 none (VOp.mv (Od.t 177))] [0, 1, 2, 3, 4, 18, 20, 24])
 (VC.seq
 (VC.seq
 (VC.reg
 [VI.rd 178 none (VOp.mv (Od.t 20)),
 VI.rd 179 none (VOp.mv (Od.t 2)),
 VI.rd 180 none (VOp.bin (BinOp.lss) (Od.t 178) (Od.t 179)),
 VI.rd 181 none (VOp.mv (Od.t 180)),
 VI.rd 182 (some (181, true)) (VOp.mv (Od.t 2)),
 VI.rd 183 (some (181, true)) (VOp.mv (Od.t 24)),
 VI.rd 184 (some (181, true)) (VOp.bin (BinOp.lss) (Od.t 182) (Od.t 183)),
 VI.rd 185 none (VOp.pick (Od.t 181) (Od.t 184) (Od.c (VV.bool false)))]
 [0, 1, 2, 3, 4, 18, 20, 24, 185])
 (VC.cond
 185
 (VC.reg
 [VI.rd 186 none (VOp.mv (Od.t 0)),
 VI.rd 187 none (VOp.mv (Od.t 20)),
 VI.rd 188 none (VOp.mv (Od.t 2)),
 VI.rd 189 none (VOp.mv (Od.t 24)),
 VI.rd 190 none (VOp.mv (Od.t 4)),
 VI.call (some 191) none (Od.c (VV.fn 59 [])) [Od.t 186, Od.t 187, Od.t 188, Od.t 189, Od.t 190]]
 [0, 1, 3, 4, 18, 20, 24])
 (VC.skip)))
 (VC.seq
 (VC.seq
 (VC.reg
 [VI.rd 192 none (VOp.mv (Od.t 1)),
 VI.rd 193 none (VOp.mv (Od.t 20)),
 VI.rd 194 none (VOp.bin (BinOp.lss) (Od.t 192) (Od.t 193)),
 VI.rd 195 none (VOp.mv (Od.t 194)),
 VI.rd 196 (some (195, true)) (VOp.mv (Od.t 20)),
 VI.rd 197 (some (195, true)) (VOp.mv (Od.t 18)),
 VI.rd 198 (some (195, true)) (VOp.bin (BinOp.lss) (Od.t 196) (Od.t 197)),
 VI.rd 199 none (VOp.pick (Od.t 195) (Od.t 198) (Od.c (VV.bool false)))]
 [0, 1, 3, 4, 18, 20, 24, 199])
 (VC.cond
 199
 (VC.reg
 [VI.rd 200 none (VOp.mv (Od.t 0)),
 VI.rd 201 none (VOp.mv (Od.t 1)),
 VI.rd 202 none (VOp.mv (Od.t 20)),
 VI.rd 203 none (VOp.mv (Od.t 18)),
 VI.rd 204 none (VOp.mv (Od.t 4)),
 VI.call (some 205) none (Od.c (VV.fn 54 [])) [Od.t 200, Od.t 201, Od.t 202, Od.t 203, Od.t 204]]
 [0, 3, 4, 18, 24])
 (VC.skip)))
 (VC.seq
 (VC.reg
 [VI.rd 206 none (VOp.mv (Od.t 18)),
 VI.rd 207 none (VOp.mv (Od.t 24)),
 VI.rd 208 none (VOp.bin (BinOp.lss) (Od.t 206) (Od.t 207)),
 VI.rd 209 none (VOp.mv (Od.t 208)),
 VI.rd 210 (some (209, true)) (VOp.mv (Od.t 24)),
 VI.rd 211 (some (209, true)) (VOp.mv (Od.t 3)),
 VI.rd 212 (some (209, true)) (VOp.bin (BinOp.lss) (Od.t 210) (Od.t 211)),
 VI.rd 213 none (VOp.pick (Od.t 209) (Od.t 212) (Od.c (VV.bool false)))]
 [0, 3, 4, 18, 24, 213])
 (VC.cond
 213
 (VC.reg
 [VI.rd 214 none (VOp.mv (Od.t 0)),
 VI.rd 215 none (VOp.mv (Od.t 18)),
 VI.rd 216 none (VOp.mv (Od.t 24)),
 VI.rd 217 none (VOp.mv (Od.t 3)),
 VI.rd 218 none (VOp.mv (Od.t 4)),
 VI.call (some 219) none (Od.c (VV.fn 54 [])) [Od.t 214, Od.t 215, Od.t 216, Od.t 217, Od.t 218]]
 [])
 (VC.skip))))))))))))),
 []⟩
theorem ok54 : w54.Ok Try.prog := FRow.ok_of (fn := Try.f54) (ks := k54) (by kernel_rfl) (by kernel_rfl) (by kernel_rfl) (by kernel_rfl) (by kernel_rfl)
end Go.Proofs.Ytlclbfkdaemilaa
