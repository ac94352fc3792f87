/-
  The code of functions that the statement reaches, as the evaluator reads it (part 2).
-/
import Derived.Test.YtiecbbepfjiceaaGreatDoorLit1
set_option linter.unusedVariables false
set_option linter.unusedSimpArgs false
namespace Go.Proofs.YtiecbbepfjiceaaGreatDoor
open Go.Clean
set_option maxRecDepth 100000
def c157 : CFunc := ⟨125, (.seq (.ops [op 4 (.move (.const (.str [])))])
 (.seq (.seq (.ops [mv 11 1])
 (.block 0 (.seq (.ops [op 13 (.arith .eql (.tmp 11) (.const (.int .i64 (.ofNat 0)))),
 mv 12 13])
 (.cond (.tmp 12) (.seq (.ops [op 4 (.move (.const (.str [])))])
 .ret)
 (.seq (.ops [op 15 (.arith .eql (.tmp 11) (.const (.int .i64 (.ofNat 1)))),
 mv 14 15])
 (.cond (.tmp 14) (.seq (.ops [mv 16 0,
 mv 4 16])
 .ret)
 .skip))))))
 (.seq (.seq (.ops [mv 17 1,
 op 18 (.arith .lss (.tmp 17) (.const (.int .i64 (.ofNat 0))))])
 (.cond (.tmp 18) (.ops [op 19 (.makeIface 9 (.const (.str [115,116,114,105,110,103,115,58,32,110,101,103,97,116,105,118,101,32,82,101,112,101,97,116,32,99,111,117,110,116]))),
 ⟨.none,.none,(.op (.fail))⟩])
 .skip))
 (.seq (.ops [mv 21 0,
 op 22 (.lenStr (.tmp 21)),
 op 23 (.toInt .u64 (.tmp 22)),
 mv 24 1,
 op 25 (.toInt .u64 (.tmp 24)),
 ⟨(.some 26),.none,(.call (.func 194) [(.tmp 23),(.tmp 25)])⟩,
 mv 20 26,
 op 27 (.extract (.tmp 20) 0),
 op 28 (.extract (.tmp 20) 1),
 mv 5 27,
 mv 6 28])
 (.seq (.seq (.ops [mv 29 5,
 op 30 (.arith .gtr (.tmp 29) (.const (.int .u64 (.ofNat 0)))),
 mv 31 30,
 ⟨(.some 32),(.some (31,false)),(.op (.move (.tmp 6)))⟩,
 ⟨(.some 33),(.some (31,false)),(.op (.arith .gtr (.tmp 32) (.const (.int .u64 (.ofNat 9223372036854775807)))))⟩,
 op 34 (.pick (.tmp 31) (.const (.bool true)) (.tmp 33))])
 (.cond (.tmp 34) (.ops [op 35 (.makeIface 9 (.const (.str [115,116,114,105,110,103,115,58,32,82,101,112,101,97,116,32,111,117,116,112,117,116,32,108,101,110,103,116,104,32,111,118,101,114,102,108,111,119]))),
 ⟨.none,.none,(.op (.fail))⟩])
 .skip))
 (.seq (.ops [mv 36 6,
 op 37 (.toInt .i64 (.tmp 36)),
 mv 7 37])
 (.seq (.seq (.ops [mv 38 0,
 op 39 (.lenStr (.tmp 38)),
 op 40 (.arith .eql (.tmp 39) (.const (.int .i64 (.ofNat 0))))])
 (.cond (.tmp 40) (.seq (.ops [op 4 (.move (.const (.str [])))])
 .ret)
 .skip))
 (.seq (.seq (.ops [mv 41 0,
 op 42 (.idxStr (.tmp 41) (.const (.int .i64 (.ofNat 0))))])
 (.block 1 (.seq (.seq (.ops [op 44 (.arith .eql (.tmp 42) (.const (.int .u8 (.ofNat 32)))),
 mv 43 44])
 (.cond (.tmp 43) .skip
 (.seq (.ops [op 45 (.arith .eql (.tmp 42) (.const (.int .u8 (.ofNat 45)))),
 mv 43 45])
 (.cond (.tmp 43) .skip
 (.seq (.ops [op 46 (.arith .eql (.tmp 42) (.const (.int .u8 (.ofNat 48)))),
 mv 43 46])
 (.cond (.tmp 43) .skip
 (.seq (.ops [op 47 (.arith .eql (.tmp 42) (.const (.int .u8 (.ofNat 61)))),
 mv 43 47])
 (.cond (.tmp 43) .skip
 (.ops [op 48 (.arith .eql (.tmp 42) (.const (.int .u8 (.ofNat 9)))),
 mv 43 48])))))))))
 (.cond (.tmp 43) (.block 2 (.seq (.ops [mv 50 7,
 op 51 (.arith .leq (.tmp 50) (.const (.int .i64 (.ofNat 128)))),
 mv 52 51,
 ⟨(.some 53),(.some (52,true)),(.op (.move (.tmp 0)))⟩,
 ⟨(.some 54),(.some (52,true)),(.call (.func 160) [(.const (.str [32,32,32,32,32,32,32,32,32,32,32,32,32,32,32,32,32,32,32,32,32,32,32,32,32,32,32,32,32,32,32,32,32,32,32,32,32,32,32,32,32,32,32,32,32,32,32,32,32,32,32,32,32,32,32,32,32,32,32,32,32,32,32,32,32,32,32,32,32,32,32,32,32,32,32,32,32,32,32,32,32,32,32,32,32,32,32,32,32,32,32,32,32,32,32,32,32,32,32,32,32,32,32,32,32,32,32,32,32,32,32,32,32,32,32,32,32,32,32,32,32,32,32,32,32,32,32,32])),(.tmp 53)])⟩,
 op 55 (.pick (.tmp 52) (.tmp 54) (.const (.bool false))),
 mv 49 55])
 (.cond (.tmp 49) (.seq (.ops [mv 56 7,
 op 57 (.slice .str (.const (.str [32,32,32,32,32,32,32,32,32,32,32,32,32,32,32,32,32,32,32,32,32,32,32,32,32,32,32,32,32,32,32,32,32,32,32,32,32,32,32,32,32,32,32,32,32,32,32,32,32,32,32,32,32,32,32,32,32,32,32,32,32,32,32,32,32,32,32,32,32,32,32,32,32,32,32,32,32,32,32,32,32,32,32,32,32,32,32,32,32,32,32,32,32,32,32,32,32,32,32,32,32,32,32,32,32,32,32,32,32,32,32,32,32,32,32,32,32,32,32,32,32,32,32,32,32,32,32,32])) .none (.some (.tmp 56)) .none),
 mv 4 57])
 .ret)
 (.seq (.ops [mv 59 7,
 op 60 (.arith .leq (.tmp 59) (.const (.int .i64 (.ofNat 128)))),
 mv 61 60,
 ⟨(.some 62),(.some (61,true)),(.op (.move (.tmp 0)))⟩,
 ⟨(.some 63),(.some (61,true)),(.call (.func 160) [(.const (.str [45,45,45,45,45,45,45,45,45,45,45,45,45,45,45,45,45,45,45,45,45,45,45,45,45,45,45,45,45,45,45,45,45,45,45,45,45,45,45,45,45,45,45,45,45,45,45,45,45,45,45,45,45,45,45,45,45,45,45,45,45,45,45,45,45,45,45,45,45,45,45,45,45,45,45,45,45,45,45,45,45,45,45,45,45,45,45,45,45,45,45,45,45,45,45,45,45,45,45,45,45,45,45,45,45,45,45,45,45,45,45,45,45,45,45,45,45,45,45,45,45,45,45,45,45,45,45,45])),(.tmp 62)])⟩,
 op 64 (.pick (.tmp 61) (.tmp 63) (.const (.bool false))),
 mv 58 64])
 (.cond (.tmp 58) (.seq (.ops [mv 65 7,
 op 66 (.slice .str (.const (.str [45,45,45,45,45,45,45,45,45,45,45,45,45,45,45,45,45,45,45,45,45,45,45,45,45,45,45,45,45,45,45,45,45,45,45,45,45,45,45,45,45,45,45,45,45,45,45,45,45,45,45,45,45,45,45,45,45,45,45,45,45,45,45,45,45,45,45,45,45,45,45,45,45,45,45,45,45,45,45,45,45,45,45,45,45,45,45,45,45,45,45,45,45,45,45,45,45,45,45,45,45,45,45,45,45,45,45,45,45,45,45,45,45,45,45,45,45,45,45,45,45,45,45,45,45,45,45,45])) .none (.some (.tmp 65)) .none),
 mv 4 66])
 .ret)
 (.seq (.ops [mv 68 7,
 op 69 (.arith .leq (.tmp 68) (.const (.int .i64 (.ofNat 64)))),
 mv 70 69,
 ⟨(.some 71),(.some (70,true)),(.op (.move (.tmp 0)))⟩,
 ⟨(.some 72),(.some (70,true)),(.call (.func 160) [(.const (.str [48,48,48,48,48,48,48,48,48,48,48,48,48,48,48,48,48,48,48,48,48,48,48,48,48,48,48,48,48,48,48,48,48,48,48,48,48,48,48,48,48,48,48,48,48,48,48,48,48,48,48,48,48,48,48,48,48,48,48,48,48,48,48,48])),(.tmp 71)])⟩,
 op 73 (.pick (.tmp 70) (.tmp 72) (.const (.bool false))),
 mv 67 73])
 (.cond (.tmp 67) (.seq (.ops [mv 74 7,
 op 75 (.slice .str (.const (.str [48,48,48,48,48,48,48,48,48,48,48,48,48,48,48,48,48,48,48,48,48,48,48,48,48,48,48,48,48,48,48,48,48,48,48,48,48,48,48,48,48,48,48,48,48,48,48,48,48,48,48,48,48,48,48,48,48,48,48,48,48,48,48,48])) .none (.some (.tmp 74)) .none),
 mv 4 75])
 .ret)
 (.seq (.ops [mv 77 7,
 op 78 (.arith .leq (.tmp 77) (.const (.int .i64 (.ofNat 128)))),
 mv 79 78,
 ⟨(.some 80),(.some (79,true)),(.op (.move (.tmp 0)))⟩,
 ⟨(.some 81),(.some (79,true)),(.call (.func 160) [(.const (.str [61,61,61,61,61,61,61,61,61,61,61,61,61,61,61,61,61,61,61,61,61,61,61,61,61,61,61,61,61,61,61,61,61,61,61,61,61,61,61,61,61,61,61,61,61,61,61,61,61,61,61,61,61,61,61,61,61,61,61,61,61,61,61,61,61,61,61,61,61,61,61,61,61,61,61,61,61,61,61,61,61,61,61,61,61,61,61,61,61,61,61,61,61,61,61,61,61,61,61,61,61,61,61,61,61,61,61,61,61,61,61,61,61,61,61,61,61,61,61,61,61,61,61,61,61,61,61,61])),(.tmp 80)])⟩,
 op 82 (.pick (.tmp 79) (.tmp 81) (.const (.bool false))),
 mv 76 82])
 (.cond (.tmp 76) (.seq (.ops [mv 83 7,
 op 84 (.slice .str (.const (.str [61,61,61,61,61,61,61,61,61,61,61,61,61,61,61,61,61,61,61,61,61,61,61,61,61,61,61,61,61,61,61,61,61,61,61,61,61,61,61,61,61,61,61,61,61,61,61,61,61,61,61,61,61,61,61,61,61,61,61,61,61,61,61,61,61,61,61,61,61,61,61,61,61,61,61,61,61,61,61,61,61,61,61,61,61,61,61,61,61,61,61,61,61,61,61,61,61,61,61,61,61,61,61,61,61,61,61,61,61,61,61,61,61,61,61,61,61,61,61,61,61,61,61,61,61,61,61,61])) .none (.some (.tmp 83)) .none),
 mv 4 84])
 .ret)
 (.seq (.ops [mv 86 7,
 op 87 (.arith .leq (.tmp 86) (.const (.int .i64 (.ofNat 64)))),
 mv 88 87,
 ⟨(.some 89),(.some (88,true)),(.op (.move (.tmp 0)))⟩,
 ⟨(.some 90),(.some (88,true)),(.call (.func 160) [(.const (.str [9,9,9,9,9,9,9,9,9,9,9,9,9,9,9,9,9,9,9,9,9,9,9,9,9,9,9,9,9,9,9,9,9,9,9,9,9,9,9,9,9,9,9,9,9,9,9,9,9,9,9,9,9,9,9,9,9,9,9,9,9,9,9,9])),(.tmp 89)])⟩,
 op 91 (.pick (.tmp 88) (.tmp 90) (.const (.bool false))),
 mv 85 91])
 (.cond (.tmp 85) (.seq (.ops [mv 92 7,
 op 93 (.slice .str (.const (.str [9,9,9,9,9,9,9,9,9,9,9,9,9,9,9,9,9,9,9,9,9,9,9,9,9,9,9,9,9,9,9,9,9,9,9,9,9,9,9,9,9,9,9,9,9,9,9,9,9,9,9,9,9,9,9,9,9,9,9,9,9,9,9,9])) .none (.some (.tmp 92)) .none),
 mv 4 93])
 .ret)
 .skip)))))))))))
 .skip))))
 (.seq (.ops [mv 94 7,
 mv 8 94])
 (.seq (.seq (.ops [mv 95 7,
 op 96 (.arith .gtr (.tmp 95) (.const (.int .i64 (.ofNat 8192))))])
 (.cond (.tmp 96) (.seq (.ops [mv 97 0,
 op 98 (.lenStr (.tmp 97)),
 op 99 (.arith .quo (.const (.int .i64 (.ofNat 8192))) (.tmp 98)),
 mv 100 0,
 op 101 (.lenStr (.tmp 100)),
 op 102 (.arith .mul (.tmp 99) (.tmp 101)),
 mv 8 102])
 (.seq (.ops [mv 103 8,
 op 104 (.arith .eql (.tmp 103) (.const (.int .i64 (.ofNat 0))))])
 (.cond (.tmp 104) (.ops [mv 105 0,
 op 106 (.lenStr (.tmp 105)),
 mv 8 106])
 .skip)))
 .skip))
 (.seq (.ops [op 9 (.alloc 110 [.nilPtr,.nilSlice])])
 (.seq (.ops [mv 107 7,
 ⟨(.some 108),.none,(.call (.func 195) [(.tmp 9),(.tmp 107)])⟩])
 (.seq (.ops [mv 109 0,
 ⟨(.some 110),.none,(.call (.func 97) [(.tmp 9),(.tmp 109)])⟩])
 (.seq (.block 3 (.loop (.seq (.seq (.ops [⟨(.some 111),.none,(.call (.func 196) [(.tmp 9)])⟩,
 mv 112 7,
 op 113 (.arith .lss (.tmp 111) (.tmp 112))])
 (.cond (.tmp 113) .skip
 (.exit 3)))
 (.block 4 (.seq (.ops [mv 114 7,
 ⟨(.some 115),.none,(.call (.func 196) [(.tmp 9)])⟩,
 op 116 (.arith .sub (.tmp 114) (.tmp 115)),
 ⟨(.some 117),.none,(.call (.func 196) [(.tmp 9)])⟩,
 mv 118 8,
 op 119 (.fail),
 mv 10 119])
 (.ops [⟨(.some 120),.none,(.call (.func 54) [(.tmp 9)])⟩,
 mv 121 10,
 op 122 (.slice .str (.tmp 120) .none (.some (.tmp 121)) .none),
 ⟨(.some 123),.none,(.call (.func 97) [(.tmp 9),(.tmp 122)])⟩]))))))
 (.seq (.ops [⟨(.some 124),.none,(.call (.func 54) [(.tmp 9)])⟩,
 mv 4 124])
 .ret))))))))))))))), [.tmp 4]⟩
def c158 : CFunc := ⟨11, (.seq (.ops [op 2 (.alloc 160 [(.int .i64 (.ofNat 0)),(.int .i64 (.ofNat 0))])])
 (.seq (.ops [mv 6 0,
 ⟨(.some 7),.none,(.call (.func 197) [(.tmp 6)])⟩,
 mv 5 7,
 op 8 (.extract (.tmp 5) 0),
 op 9 (.extract (.tmp 5) 1),
 op 4 (.alloc 160 [(.int .i64 (.ofNat 0)),(.int .i64 (.ofNat 0))]),
 mv 3 8,
 ⟨.none,.none,(.op (.store 2 (.tmp 4) (.tmp 9)))⟩])
 (.seq (.ops [op 10 (.load true 2 (.tmp 4)),
 ⟨.none,.none,(.op (.store 2 (.tmp 2) (.tmp 10)))⟩])
 .ret))), [.cell true 2 2]⟩
def c159 : CFunc := ⟨69, (.seq (.ops [mv 8 1,
 op 9 (.lenRow (.tmp 8)),
 op 10 (.move (.const (.int .i64 (.ofNat 0))))])
 (.block 0 (.loop (.seq (.ops [op 11 (.arith .lss (.tmp 10) (.tmp 9))])
 (.seq (.cond (.tmp 11) .skip
 (.exit 0))
 (.seq (.block 1 (.seq (.ops [op 12 (.idxRow 21 (.tmp 8) (.tmp 10)),
 op 13 (.load true 21 (.tmp 12)),
 op 5 (.alloc 234 [(.int .i64 (.ofNat 0)),(.int .i64 (.ofNat 0)),(.int .i64 (.ofNat 0)),.nilSlice,(.int .i64 (.ofNat 0)),.nilSlice,(.bool false),.nilSlice,(.bool false),.nilSlice,(.bool false),.nilSlice,(.bool false),.nilSlice,(.int .i64 (.ofNat 0)),.nilSlice,(.str []),(.str []),(.int .i64 (.ofNat 0)),(.int .i64 (.ofNat 0)),.nilSlice]),
 ⟨.none,.none,(.op (.store 21 (.tmp 5) (.tmp 13)))⟩])
 (.seq (.seq (.ops [mv 14 0,
 op 15 (.nilCheck (.tmp 14)),
 op 16 (.fieldAddr 10 (.tmp 15)),
 op 17 (.fieldAddr 0 (.tmp 16)),
 op 18 (.load false 1 (.tmp 17)),
 op 19 (.arith .neq (.tmp 18) (.const (.int .i64 (.ofNat 0))))])
 (.cond (.tmp 19) .ret
 .skip))
 (.seq (.ops [mv 20 0,
 op 21 (.makeFunc 198 [(.tmp 20)] []),
 mv 6 21])
 (.seq (.seq (.ops [op 22 (.fieldAddr 0 (.tmp 5)),
 op 23 (.load false 1 (.tmp 22))])
 (.block 2 (.seq (.ops [op 25 (.arith .eql (.tmp 23) (.const (.int .i64 (.ofNat 3)))),
 mv 24 25])
 (.cond (.tmp 24) (.ops [mv 26 0,
 op 27 (.makeFunc 199 [(.tmp 26)] []),
 mv 6 27])
 (.seq (.ops [op 29 (.arith .eql (.tmp 23) (.const (.int .i64 (.ofNat 2)))),
 mv 28 29])
 (.cond (.tmp 28) (.ops [mv 30 0,
 op 31 (.makeFunc 200 [(.tmp 30)] []),
 mv 6 31])
 (.seq (.ops [op 33 (.arith .eql (.tmp 23) (.const (.int .i64 (.ofNat 4)))),
 mv 32 33])
 (.cond (.tmp 32) (.ops [mv 34 0,
 op 35 (.makeFunc 201 [(.tmp 34)] []),
 mv 6 35])
 .skip))))))))
 (.seq (.ops [mv 36 0,
 op 37 (.nilCheck (.tmp 36)),
 op 38 (.fieldAddr 7 (.tmp 37)),
 op 39 (.load false 1 (.tmp 38)),
 op 40 (.arith .add (.tmp 39) (.const (.int .i64 (.ofNat 1)))),
 op 41 (.nilCheck (.tmp 36)),
 op 42 (.fieldAddr 7 (.tmp 41)),
 ⟨.none,.none,(.op (.store 1 (.tmp 42) (.tmp 40)))⟩])
 (.seq (.ops [op 7 (.move (.const (.int .i64 (.ofNat 111))))])
 (.seq (.seq (.ops [mv 43 0,
 op 44 (.nilCheck (.tmp 43)),
 op 45 (.fieldAddr 7 (.tmp 44)),
 op 46 (.load false 1 (.tmp 45)),
 op 47 (.arith .leq (.tmp 46) (.const (.int .i64 (.ofNat 4096))))])
 (.cond (.tmp 47) (.ops [mv 48 6,
 op 49 (.load true 21 (.tmp 5)),
 ⟨(.some 50),.none,(.call (.tmp 48) [(.tmp 49)])⟩,
 mv 7 50])
 .skip))
 (.seq (.ops [mv 51 7,
 op 52 (.arith .neq (.tmp 51) (.const (.int .i64 (.ofNat 0)))),
 mv 53 52,
 ⟨(.some 54),(.some (53,true)),(.op (.move (.tmp 0)))⟩,
 ⟨(.some 55),(.some (53,true)),(.op (.nilCheck (.tmp 54)))⟩,
 ⟨(.some 56),(.some (53,true)),(.op (.fieldAddr 10 (.tmp 55)))⟩,
 ⟨(.some 57),(.some (53,true)),(.op (.fieldAddr 0 (.tmp 56)))⟩,
 ⟨(.some 58),(.some (53,true)),(.op (.load false 1 (.tmp 57)))⟩,
 ⟨(.some 59),(.some (53,true)),(.op (.arith .eql (.tmp 58) (.const (.int .i64 (.ofNat 0)))))⟩,
 op 60 (.pick (.tmp 53) (.tmp 59) (.const (.bool false)))])
 (.cond (.tmp 60) (.ops [mv 61 0,
 mv 62 7,
 op 63 (.fieldAddr 1 (.tmp 5)),
 op 64 (.load false 1 (.tmp 63)),
 op 65 (.build [(.int .i64 (.ofNat 0)),(.int .i64 (.ofNat 0))] [(0,1,(.tmp 62)),(1,1,(.tmp 64))]),
 op 66 (.nilCheck (.tmp 61)),
 op 67 (.fieldAddr 10 (.tmp 66)),
 ⟨.none,.none,(.op (.store 2 (.tmp 67) (.tmp 65)))⟩])
 .skip))))))))))
 (.ops [op 68 (.arith .add (.tmp 10) (.const (.int .i64 (.ofNat 1)))),
 mv 10 68]))))))), []⟩
def c160 : CFunc := ⟨8, (.seq (.ops [op 4 (.move (.const (.bool false)))])
 (.seq (.ops [mv 5 0,
 mv 6 1,
 ⟨(.some 7),.none,(.call (.func 202) [(.tmp 5),(.tmp 6)])⟩,
 mv 4 7])
 .ret)), [.tmp 4]⟩
def c161 : CFunc := ⟨8, (.seq (.ops [op 4 (.move (.const (.int .i64 (.ofNat 0))))])
 (.seq (.ops [mv 5 0,
 mv 6 1,
 ⟨(.some 7),.none,(.call (.func 203) [(.tmp 5),(.tmp 6)])⟩,
 mv 4 7])
 .ret)), [.tmp 4]⟩
def c162 : CFunc := ⟨11, (.seq (.ops [op 2 (.move (.const (.bool false)))])
 (.seq (.ops [mv 3 0,
 op 4 (.arith .or (.tmp 3) (.const (.int .u8 (.ofNat 32)))),
 op 5 (.arith .leq (.const (.int .u8 (.ofNat 97))) (.tmp 4)),
 mv 6 5,
 ⟨(.some 7),(.some (6,true)),(.op (.move (.tmp 0)))⟩,
 ⟨(.some 8),(.some (6,true)),(.op (.arith .or (.tmp 7) (.const (.int .u8 (.ofNat 32)))))⟩,
 ⟨(.some 9),(.some (6,true)),(.op (.arith .leq (.tmp 8) (.const (.int .u8 (.ofNat 122)))))⟩,
 op 10 (.pick (.tmp 6) (.tmp 9) (.const (.bool false))),
 mv 2 10])
 .ret)), [.tmp 2]⟩
def c163 : CFunc := ⟨9, (.seq (.ops [op 2 (.move (.const (.bool false)))])
 (.seq (.ops [mv 3 0,
 op 4 (.arith .leq (.const (.int .u8 (.ofNat 48))) (.tmp 3)),
 mv 5 4,
 ⟨(.some 6),(.some (5,true)),(.op (.move (.tmp 0)))⟩,
 ⟨(.some 7),(.some (5,true)),(.op (.arith .leq (.tmp 6) (.const (.int .u8 (.ofNat 57)))))⟩,
 op 8 (.pick (.tmp 5) (.tmp 7) (.const (.bool false))),
 mv 2 8])
 .ret)), [.tmp 2]⟩
def c164 : CFunc := ⟨118, (.seq (.ops [op 2 (.alloc 234 [(.int .i64 (.ofNat 0)),(.int .i64 (.ofNat 0)),(.int .i64 (.ofNat 0)),.nilSlice,(.int .i64 (.ofNat 0)),.nilSlice,(.bool false),.nilSlice,(.bool false),.nilSlice,(.bool false),.nilSlice,(.bool false),.nilSlice,(.int .i64 (.ofNat 0)),.nilSlice,(.str []),(.str []),(.int .i64 (.ofNat 0)),(.int .i64 (.ofNat 0)),.nilSlice])])
 (.seq (.draw [⟨mv 6 0,0,[]⟩,
 ⟨op 7 (.nilCheck (.tmp 6)),0,[]⟩,
 ⟨op 8 (.fieldAddr 1 (.tmp 7)),0,[]⟩,
 ⟨op 9 (.fieldAddr 2 (.tmp 8)),0,[]⟩,
 ⟨op 10 (.load false 1 (.tmp 9)),1,[0,11]⟩,
 ⟨mv 11 0,0,[]⟩,
 ⟨op 12 (.nilCheck (.tmp 11)),0,[]⟩,
 ⟨op 13 (.fieldAddr 1 (.tmp 12)),0,[]⟩,
 ⟨op 14 (.fieldAddr 1 (.tmp 13)),0,[]⟩,
 ⟨op 15 (.load false 1 (.tmp 14)),1,[0]⟩,
 ⟨⟨(.some 16),.none,(.call (.func 204) [(.tmp 15)])⟩,2,[]⟩,
 ⟨⟨(.some 17),.none,(.op (.build [(.int .i64 (.ofNat 0)),(.int .i64 (.ofNat 0)),(.int .i64 (.ofNat 0)),.nilSlice,(.int .i64 (.ofNat 0)),.nilSlice,(.bool false),.nilSlice,(.bool false),.nilSlice,(.bool false),.nilSlice,(.bool false),.nilSlice,(.int .i64 (.ofNat 0)),.nilSlice,(.str []),(.str []),(.int .i64 (.ofNat 0)),(.int .i64 (.ofNat 0)),.nilSlice] [(0,1,(.const (.int .i64 (.ofNat 1)))),(1,1,(.tmp 10)),(2,1,(.tmp 16))]))⟩,0,[]⟩,
 ⟨op 3 (.alloc 234 [(.int .i64 (.ofNat 0)),(.int .i64 (.ofNat 0)),(.int .i64 (.ofNat 0)),.nilSlice,(.int .i64 (.ofNat 0)),.nilSlice,(.bool false),.nilSlice,(.bool false),.nilSlice,(.bool false),.nilSlice,(.bool false),.nilSlice,(.int .i64 (.ofNat 0)),.nilSlice,(.str []),(.str []),(.int .i64 (.ofNat 0)),(.int .i64 (.ofNat 0)),.nilSlice]),3,[]⟩,
 ⟨⟨.none,.none,(.op (.store 21 (.tmp 3) (.tmp 17)))⟩,2,[]⟩])
 (.seq (.ops [mv 18 0,
 ⟨(.some 19),.none,(.call (.func 205) [(.tmp 18)])⟩])
 (.seq (.ops [mv 20 0,
 ⟨(.some 21),.none,(.call (.func 206) [(.tmp 20)])⟩,
 op 22 (.fieldAddr 3 (.tmp 3)),
 ⟨.none,.none,(.op (.store 1 (.tmp 22) (.tmp 21)))⟩])
 (.seq (.seq (.ops [op 23 (.fieldAddr 2 (.tmp 3)),
 op 24 (.load false 1 (.tmp 23)),
 op 25 (.arith .eql (.tmp 24) (.const (.int .i64 (.ofNat 1)))),
 mv 26 25,
 ⟨(.some 27),(.some (26,true)),(.op (.move (.tmp 0)))⟩,
 ⟨(.some 28),(.some (26,true)),(.call (.func 169) [(.tmp 27),(.const (.str [111,110]))])⟩,
 op 29 (.pick (.tmp 26) (.tmp 28) (.const (.bool false)))])
 (.cond (.tmp 29) (.seq (.ops [mv 30 0,
 ⟨(.some 31),.none,(.call (.func 205) [(.tmp 30)])⟩])
 (.seq (.ops [mv 32 0,
 ⟨(.some 33),.none,(.call (.func 206) [(.tmp 32)])⟩,
 op 34 (.buildSlice 230 [.nilSlice] 1 [(0,1,(.tmp 33))]),
 op 35 (.fieldAddr 4 (.tmp 3)),
 ⟨.none,.none,(.op (.store 1 (.tmp 35) (.const (.int .i64 (.ofNat 2)))))⟩,
 op 36 (.fieldAddr 5 (.tmp 3)),
 ⟨.none,.none,(.op (.store 1 (.tmp 36) (.tmp 34)))⟩])
 (.seq (.ops [mv 37 0,
 ⟨(.some 38),.none,(.call (.func 207) [(.tmp 37),(.const (.str [97,116]))])⟩])
 (.seq (.ops [mv 39 0,
 ⟨(.some 40),.none,(.call (.func 208) [(.tmp 39)])⟩,
 op 41 (.fieldAddr 6 (.tmp 3)),
 ⟨.none,.none,(.op (.store 4 (.tmp 41) (.tmp 40)))⟩])
 (.seq (.ops [op 42 (.load true 21 (.tmp 3)),
 ⟨.none,.none,(.op (.store 21 (.tmp 2) (.tmp 42)))⟩])
 .ret)))))
 .skip))
 (.seq (.ops [mv 43 0,
 ⟨(.some 44),.none,(.call (.func 171) [(.tmp 43),(.const (.int .u8 (.ofNat 61)))])⟩])
 (.seq (.seq (.ops [op 45 (.fieldAddr 2 (.tmp 3)),
 op 46 (.load false 1 (.tmp 45)),
 op 47 (.arith .eql (.tmp 46) (.const (.int .i64 (.ofNat 1)))),
 mv 48 47,
 ⟨(.some 49),(.some (48,true)),(.op (.move (.tmp 0)))⟩,
 ⟨(.some 50),(.some (48,true)),(.call (.func 168) [(.tmp 49),(.const (.int .u8 (.ofNat 40)))])⟩,
 op 51 (.pick (.tmp 48) (.tmp 50) (.const (.bool false)))])
 (.cond (.tmp 51) (.seq (.ops [mv 52 0,
 ⟨(.some 53),.none,(.call (.func 208) [(.tmp 52)])⟩,
 op 54 (.fieldAddr 4 (.tmp 3)),
 ⟨.none,.none,(.op (.store 1 (.tmp 54) (.const (.int .i64 (.ofNat 1)))))⟩,
 op 55 (.fieldAddr 6 (.tmp 3)),
 ⟨.none,.none,(.op (.store 4 (.tmp 55) (.tmp 53)))⟩])
 (.seq (.ops [mv 56 0,
 ⟨(.some 57),.none,(.call (.func 171) [(.tmp 56),(.const (.int .u8 (.ofNat 44)))])⟩])
 (.seq (.ops [mv 58 0,
 ⟨(.some 59),.none,(.call (.func 208) [(.tmp 58)])⟩,
 op 60 (.fieldAddr 10 (.tmp 3)),
 ⟨.none,.none,(.op (.store 4 (.tmp 60) (.tmp 59)))⟩])
 (.seq (.ops [mv 61 0,
 ⟨(.some 62),.none,(.call (.func 171) [(.tmp 61),(.const (.int .u8 (.ofNat 41)))])⟩])
 (.seq (.ops [op 63 (.load true 21 (.tmp 3)),
 ⟨.none,.none,(.op (.store 21 (.tmp 2) (.tmp 63)))⟩])
 .ret)))))
 .skip))
 (.seq (.ops [mv 65 0,
 op 66 (.nilCheck (.tmp 65)),
 op 67 (.fieldAddr 1 (.tmp 66)),
 op 68 (.fieldAddr 1 (.tmp 67)),
 op 69 (.load false 1 (.tmp 68)),
 ⟨(.some 70),.none,(.call (.func 209) [(.tmp 69)])⟩,
 mv 64 70,
 op 71 (.extract (.tmp 64) 0),
 op 72 (.extract (.tmp 64) 1),
 mv 4 71,
 mv 5 72])
 (.seq (.seq (.ops [mv 73 5,
 op 74 (.un .not (.tmp 73))])
 (.cond (.tmp 74) (.ops [mv 75 0,
 mv 76 0,
 op 77 (.nilCheck (.tmp 76)),
 op 78 (.fieldAddr 1 (.tmp 77)),
 op 79 (.load true 3 (.tmp 78)),
 ⟨(.some 80),.none,(.call (.func 170) [(.tmp 75),(.const (.int .i64 (.ofNat 91))),(.tmp 79)])⟩])
 .skip))
 (.seq (.ops [mv 81 0,
 ⟨(.some 82),.none,(.call (.func 205) [(.tmp 81)])⟩])
 (.seq (.ops [mv 83 4,
 mv 84 0,
 ⟨(.some 85),.none,(.call (.func 210) [(.tmp 84),(.const (.int .i64 (.ofNat 1)))])⟩,
 op 86 (.fieldAddr 4 (.tmp 3)),
 ⟨.none,.none,(.op (.store 1 (.tmp 86) (.tmp 83)))⟩,
 op 87 (.fieldAddr 5 (.tmp 3)),
 ⟨.none,.none,(.op (.store 1 (.tmp 87) (.tmp 85)))⟩])
 (.seq (.seq (.ops [mv 88 0,
 ⟨(.some 89),.none,(.call (.func 168) [(.tmp 88),(.const (.int .u8 (.ofNat 35)))])⟩])
 (.cond (.tmp 89) (.seq (.seq (.ops [mv 90 0,
 op 91 (.nilCheck (.tmp 90)),
 op 92 (.fieldAddr 1 (.tmp 91)),
 op 93 (.fieldAddr 1 (.tmp 92)),
 op 94 (.load false 1 (.tmp 93)),
 op 95 (.arith .neq (.tmp 94) (.const (.str [49]))),
 mv 96 95,
 ⟨(.some 97),(.some (96,true)),(.op (.move (.tmp 0)))⟩,
 ⟨(.some 98),(.some (96,true)),(.op (.nilCheck (.tmp 97)))⟩,
 ⟨(.some 99),(.some (96,true)),(.op (.fieldAddr 1 (.tmp 98)))⟩,
 ⟨(.some 100),(.some (96,true)),(.op (.fieldAddr 1 (.tmp 99)))⟩,
 ⟨(.some 101),(.some (96,true)),(.op (.load false 1 (.tmp 100)))⟩,
 ⟨(.some 102),(.some (96,true)),(.op (.arith .neq (.tmp 101) (.const (.str [50]))))⟩,
 op 103 (.pick (.tmp 96) (.tmp 102) (.const (.bool false)))])
 (.cond (.tmp 103) (.ops [mv 104 0,
 mv 105 0,
 op 106 (.nilCheck (.tmp 105)),
 op 107 (.fieldAddr 1 (.tmp 106)),
 op 108 (.load true 3 (.tmp 107)),
 ⟨(.some 109),.none,(.call (.func 170) [(.tmp 104),(.const (.int .i64 (.ofNat 91))),(.tmp 108)])⟩])
 .skip))
 (.ops [mv 110 0,
 ⟨(.some 111),.none,(.call (.func 205) [(.tmp 110)])⟩,
 op 112 (.field false 1 1 (.tmp 111)),
 op 113 (.idxStr (.tmp 112) (.const (.int .i64 (.ofNat 0)))),
 op 114 (.arith .sub (.tmp 113) (.const (.int .u8 (.ofNat 48)))),
 op 115 (.toInt .i64 (.tmp 114)),
 op 116 (.fieldAddr 14 (.tmp 3)),
 ⟨.none,.none,(.op (.store 1 (.tmp 116) (.tmp 115)))⟩]))
 .skip))
 (.seq (.ops [op 117 (.load true 21 (.tmp 3)),
 ⟨.none,.none,(.op (.store 21 (.tmp 2) (.tmp 117)))⟩])
 .ret))))))))))))), [.cell true 21 2]⟩
def c168 : CFunc := ⟨14, (.seq (.ops [op 4 (.move (.const (.bool false)))])
 (.seq (.seq (.ops [mv 5 0,
 op 6 (.nilCheck (.tmp 5)),
 op 7 (.fieldAddr 1 (.tmp 6)),
 op 8 (.fieldAddr 0 (.tmp 7)),
 op 9 (.load false 1 (.tmp 8)),
 mv 10 1,
 op 11 (.arith .neq (.tmp 9) (.tmp 10))])
 (.cond (.tmp 11) (.seq (.ops [op 4 (.move (.const (.bool false)))])
 .ret)
 .skip))
 (.seq (.ops [mv 12 0,
 ⟨(.some 13),.none,(.call (.func 205) [(.tmp 12)])⟩])
 (.seq (.ops [op 4 (.move (.const (.bool true)))])
 .ret)))), [.tmp 4]⟩
def c169 : CFunc := ⟨20, (.seq (.ops [op 4 (.move (.const (.bool false)))])
 (.seq (.ops [mv 5 0,
 op 6 (.nilCheck (.tmp 5)),
 op 7 (.fieldAddr 1 (.tmp 6)),
 op 8 (.fieldAddr 0 (.tmp 7)),
 op 9 (.load false 1 (.tmp 8)),
 op 10 (.arith .eql (.tmp 9) (.const (.int .u8 (.ofNat 119)))),
 mv 11 10,
 ⟨(.some 12),(.some (11,true)),(.op (.move (.tmp 0)))⟩,
 ⟨(.some 13),(.some (11,true)),(.op (.nilCheck (.tmp 12)))⟩,
 ⟨(.some 14),(.some (11,true)),(.op (.fieldAddr 1 (.tmp 13)))⟩,
 ⟨(.some 15),(.some (11,true)),(.op (.fieldAddr 1 (.tmp 14)))⟩,
 ⟨(.some 16),(.some (11,true)),(.op (.load false 1 (.tmp 15)))⟩,
 ⟨(.some 17),(.some (11,true)),(.op (.move (.tmp 1)))⟩,
 ⟨(.some 18),(.some (11,true)),(.op (.arith .eql (.tmp 16) (.tmp 17)))⟩,
 op 19 (.pick (.tmp 11) (.tmp 18) (.const (.bool false))),
 mv 4 19])
 .ret)), [.tmp 4]⟩
def c171 : CFunc := ⟨20, (.seq (.ops [op 4 (.alloc 223 [(.int .u8 (.ofNat 0)),(.str []),(.int .i64 (.ofNat 0))])])
 (.seq (.seq (.ops [mv 5 0,
 op 6 (.nilCheck (.tmp 5)),
 op 7 (.fieldAddr 1 (.tmp 6)),
 op 8 (.fieldAddr 0 (.tmp 7)),
 op 9 (.load false 1 (.tmp 8)),
 mv 10 1,
 op 11 (.arith .neq (.tmp 9) (.tmp 10))])
 (.cond (.tmp 11) (.ops [mv 12 0,
 mv 13 0,
 op 14 (.nilCheck (.tmp 13)),
 op 15 (.fieldAddr 1 (.tmp 14)),
 op 16 (.load true 3 (.tmp 15)),
 ⟨(.some 17),.none,(.call (.func 170) [(.tmp 12),(.const (.int .i64 (.ofNat 91))),(.tmp 16)])⟩])
 .skip))
 (.seq (.ops [mv 18 0,
 ⟨(.some 19),.none,(.call (.func 205) [(.tmp 18)])⟩,
 ⟨.none,.none,(.op (.store 3 (.tmp 4) (.tmp 19)))⟩])
 .ret))), [.cell true 3 4]⟩
def c173 : CFunc := ⟨17, (.seq (.ops [op 4 (.move (.const (.int .u64 (.ofNat 0))))])
 (.seq (.ops [mv 6 1,
 op 7 (.toInt .u64 (.tmp 6)),
 op 8 (.arith .and (.tmp 7) (.const (.int .u64 (.ofNat 63)))),
 mv 5 8])
 (.seq (.ops [mv 9 0,
 mv 10 5,
 op 11 (.arith .shl (.tmp 9) (.tmp 10)),
 mv 12 0,
 mv 13 5,
 op 14 (.arith .sub (.const (.int .u64 (.ofNat 64))) (.tmp 13)),
 op 15 (.arith .shr (.tmp 12) (.tmp 14)),
 op 16 (.arith .or (.tmp 11) (.tmp 15)),
 mv 4 16])
 .ret))), [.tmp 4]⟩
def c176 : CFunc := ⟨27, (.seq (.ops [op 4 (.alloc 116 [(.bool false),.nilSlice]),
 op 5 (.move (.const (.int .i64 (.ofNat 0))))])
 (.seq (.ops [mv 7 1,
 ⟨(.some 8),.none,(.call (.func 217) [(.tmp 7)])⟩,
 mv 1 8])
 (.seq (.seq (.ops [mv 9 1,
 op 10 (.lenRow (.tmp 9)),
 op 11 (.arith .gtr (.tmp 10) (.const (.int .i64 (.ofNat 128))))])
 (.cond (.tmp 11) (.seq (.ops [op 12 (.build [(.bool false),.nilSlice] []),
 ⟨.none,.none,(.op (.store 2 (.tmp 4) (.tmp 12)))⟩,
 op 5 (.move (.const (.int .i64 (.ofNat 2))))])
 .ret)
 .skip))
 (.seq (.ops [mv 13 1,
 op 14 (.lenRow (.tmp 13)),
 op 15 (.makeSlice 194 [(.int .u32 (.ofNat 0))] 4 (.tmp 14) (.tmp 14)),
 mv 6 15])
 (.seq (.ops [mv 16 6,
 mv 17 1,
 op 18 (.copy 1 (.tmp 16) (.tmp 17))])
 (.seq (.ops [mv 19 0,
 mv 20 19,
 ⟨(.some 21),(.some (20,true)),(.op (.move (.tmp 1)))⟩,
 ⟨(.some 22),(.some (20,true)),(.op (.lenRow (.tmp 21)))⟩,
 ⟨(.some 23),(.some (20,true)),(.op (.arith .gtr (.tmp 22) (.const (.int .i64 (.ofNat 0)))))⟩,
 op 24 (.pick (.tmp 20) (.tmp 23) (.const (.bool false))),
 mv 25 6,
 op 26 (.build [(.bool false),.nilSlice] [(0,1,(.tmp 24)),(1,1,(.tmp 25))]),
 ⟨.none,.none,(.op (.store 2 (.tmp 4) (.tmp 26)))⟩,
 op 5 (.move (.const (.int .i64 (.ofNat 0))))])
 .ret)))))), [.cell true 2 4, .tmp 5]⟩
def c179 : CFunc := ⟨6, (.seq (.ops [op 2 (.move (.const (.bool false)))])
 (.seq (.ops [mv 3 0,
 mv 4 0,
 op 5 (.arith .neq (.tmp 3) (.tmp 4)),
 mv 2 5])
 .ret)), [.tmp 2]⟩
def c196 : CFunc := ⟨8, (.seq (.ops [op 2 (.move (.const (.int .i64 (.ofNat 0))))])
 (.seq (.ops [mv 3 0,
 op 4 (.nilCheck (.tmp 3)),
 op 5 (.fieldAddr 1 (.tmp 4)),
 op 6 (.load false 1 (.tmp 5)),
 op 7 (.lenRow (.tmp 6)),
 mv 2 7])
 .ret)), [.tmp 2]⟩
def c197 : CFunc := ⟨28, (.seq (.ops [op 2 (.move (.const .nilPtr)),
 op 3 (.alloc 160 [(.int .i64 (.ofNat 0)),(.int .i64 (.ofNat 0))])])
 (.seq (.seq (.ops [mv 9 0,
 ⟨(.some 10),.none,(.call (.func 255) [(.tmp 9)])⟩,
 mv 8 10,
 op 11 (.extract (.tmp 8) 0),
 op 12 (.extract (.tmp 8) 1),
 mv 4 11,
 mv 5 12])
 (.seq (.ops [mv 13 5,
 op 14 (.arith .eql (.tmp 13) (.const (.int .i64 (.ofNat 3))))])
 (.cond (.tmp 14) (.seq (.ops [⟨(.some 15),.none,(.op (.build [(.int .i64 (.ofNat 0)),(.int .i64 (.ofNat 0))] [(0,1,(.const (.int .i64 (.ofNat 3))))]))⟩,
 op 2 (.move (.const .nilPtr)),
 ⟨.none,.none,(.op (.store 2 (.tmp 3) (.tmp 15)))⟩])
 .ret)
 .skip)))
 (.seq (.ops [⟨(.some 16),.none,(.call (.func 256) [])⟩,
 op 17 (.makeMap),
 op 18 (.build [.nilPtr,.nilSlice,.nilMap,(.bool false)] [(0,1,(.tmp 16)),(2,1,(.tmp 17))]),
 op 19 (.box 411 (.tmp 18)),
 mv 6 19])
 (.seq (.ops [mv 20 6,
 mv 21 0,
 ⟨(.some 22),.none,(.call (.func 257) [(.tmp 20),(.tmp 21)])⟩,
 op 7 (.alloc 160 [(.int .i64 (.ofNat 0)),(.int .i64 (.ofNat 0))]),
 ⟨.none,.none,(.op (.store 2 (.tmp 7) (.tmp 22)))⟩])
 (.seq (.draw [⟨mv 23 6,0,[]⟩,
 ⟨op 24 (.nilCheck (.tmp 23)),0,[]⟩,
 ⟨op 25 (.fieldAddr 0 (.tmp 24)),0,[]⟩,
 ⟨op 26 (.load false 1 (.tmp 25)),1,[0]⟩,
 ⟨op 27 (.load true 2 (.tmp 7)),1,[0]⟩,
 ⟨mv 2 26,0,[]⟩,
 ⟨⟨.none,.none,(.op (.store 2 (.tmp 3) (.tmp 27)))⟩,2,[]⟩])
 .ret))))), [.tmp 2, .cell true 2 3]⟩
def c198 : CFunc := ⟨139, (.seq (.ops [op 3 (.box 234 (.tmp 1)),
 op 4 (.move (.const (.int .i64 (.ofNat 0))))])
 (.seq (.ops [mv 16 0,
 op 17 (.fieldAddr 5 (.tmp 3)),
 op 18 (.load false 1 (.tmp 17)),
 ⟨(.some 19),.none,(.call (.func 258) [(.tmp 16),(.tmp 18)])⟩,
 mv 15 19,
 op 20 (.extract (.tmp 15) 0),
 op 21 (.extract (.tmp 15) 1),
 mv 5 20,
 mv 6 21])
 (.seq (.seq (.ops [mv 22 6,
 op 23 (.arith .neq (.tmp 22) (.const (.int .i64 (.ofNat 0))))])
 (.cond (.tmp 23) (.seq (.ops [mv 24 6,
 mv 4 24])
 .ret)
 .skip))
 (.seq (.ops [mv 26 0,
 op 27 (.fieldAddr 3 (.tmp 3)),
 op 28 (.load false 1 (.tmp 27)),
 ⟨(.some 29),.none,(.call (.func 259) [(.tmp 26),(.tmp 28)])⟩,
 mv 25 29,
 op 30 (.extract (.tmp 25) 0),
 op 31 (.extract (.tmp 25) 1),
 mv 7 30,
 mv 8 31])
 (.seq (.seq (.ops [mv 32 8,
 op 33 (.un .not (.tmp 32))])
 (.cond (.tmp 33) (.seq (.ops [op 4 (.move (.const (.int .i64 (.ofNat 110))))])
 .ret)
 .skip))
 (.seq (.seq (.ops [mv 35 0,
 op 36 (.nilCheck (.tmp 35)),
 op 37 (.fieldAddr 4 (.tmp 36)),
 op 38 (.load false 1 (.tmp 37)),
 mv 39 7,
 op 40 (.lookup .str (.int .i64 (.ofNat 0)) (.tmp 38) (.tmp 39) true),
 mv 34 40,
 op 41 (.extract (.tmp 34) 0),
 op 42 (.extract (.tmp 34) 1),
 mv 9 41,
 mv 10 42])
 (.seq (.ops [mv 43 10])
 (.cond (.tmp 43) (.seq (.ops [op 4 (.move (.const (.int .i64 (.ofNat 101))))])
 .ret)
 .skip)))
 (.seq (.draw [⟨mv 44 7,0,[]⟩,
 ⟨op 45 (.fieldAddr 4 (.tmp 3)),0,[]⟩,
 ⟨op 46 (.load false 1 (.tmp 45)),1,[0,7,10]⟩,
 ⟨mv 47 5,0,[]⟩,
 ⟨op 48 (.fieldAddr 6 (.tmp 3)),0,[]⟩,
 ⟨op 49 (.load true 4 (.tmp 48)),1,[0]⟩,
 ⟨⟨(.some 50),.none,(.call (.func 260) [(.tmp 49)])⟩,2,[]⟩,
 ⟨op 51 (.fieldAddr 10 (.tmp 3)),0,[]⟩,
 ⟨op 52 (.load true 4 (.tmp 51)),1,[0,7]⟩,
 ⟨⟨(.some 53),.none,(.call (.func 260) [(.tmp 52)])⟩,2,[]⟩,
 ⟨op 54 (.fieldAddr 14 (.tmp 3)),0,[]⟩,
 ⟨op 55 (.load false 1 (.tmp 54)),1,[0,7,10]⟩,
 ⟨op 56 (.build [(.str []),(.int .i64 (.ofNat 0)),.nilSlice,(.bool false),.nilSlice,(.bool false),.nilSlice,(.bool false),.nilSlice,(.bool false),.nilSlice,(.int .i64 (.ofNat 0))] [(0,1,(.tmp 44)),(1,1,(.tmp 46)),(2,1,(.tmp 47)),(3,4,(.tmp 50)),(7,4,(.tmp 53)),(11,1,(.tmp 55))]),0,[]⟩,
 ⟨op 11 (.alloc 132 [(.str []),(.int .i64 (.ofNat 0)),.nilSlice,(.bool false),.nilSlice,(.bool false),.nilSlice,(.bool false),.nilSlice,(.bool false),.nilSlice,(.int .i64 (.ofNat 0))]),3,[]⟩,
 ⟨⟨.none,.none,(.op (.store 12 (.tmp 11) (.tmp 56)))⟩,2,[]⟩])
 (.seq (.seq (.ops [op 58 (.fieldAddr 4 (.tmp 3)),
 op 59 (.load false 1 (.tmp 58)),
 ⟨(.some 60),.none,(.call (.func 139) [(.tmp 59)])⟩,
 mv 57 60,
 op 61 (.extract (.tmp 57) 0),
 op 62 (.extract (.tmp 57) 1),
 op 63 (.extract (.tmp 57) 2),
 mv 12 61,
 mv 13 62,
 mv 14 63])
 (.block 0 (.seq (.ops [mv 65 14,
 mv 64 65])
 (.cond (.tmp 64) (.seq (.ops [mv 66 0,
 op 67 (.nilCheck (.tmp 66)),
 op 68 (.fieldAddr 8 (.tmp 67)),
 op 69 (.load false 1 (.tmp 68)),
 op 70 (.arith .add (.tmp 69) (.const (.int .i64 (.ofNat 1)))),
 op 71 (.nilCheck (.tmp 66)),
 op 72 (.fieldAddr 8 (.tmp 71)),
 ⟨.none,.none,(.op (.store 1 (.tmp 72) (.tmp 70)))⟩])
 (.ops [op 73 (.fieldAddr 11 (.tmp 11)),
 op 74 (.load false 1 (.tmp 73)),
 op 75 (.minmax true (.tmp 74) (.const (.int .i64 (.ofNat 1)))),
 op 76 (.fieldAddr 11 (.tmp 11)),
 ⟨.none,.none,(.op (.store 1 (.tmp 76) (.tmp 75)))⟩]))
 (.seq (.ops [op 78 (.fieldAddr 4 (.tmp 3)),
 op 79 (.load false 1 (.tmp 78)),
 op 80 (.arith .eql (.tmp 79) (.const (.int .i64 (.ofNat 1)))),
 mv 77 80])
 (.cond (.tmp 77) (.ops [mv 81 0,
 op 82 (.nilCheck (.tmp 81)),
 op 83 (.fieldAddr 9 (.tmp 82)),
 op 84 (.load false 1 (.tmp 83)),
 op 85 (.arith .add (.tmp 84) (.const (.int .i64 (.ofNat 2)))),
 op 86 (.nilCheck (.tmp 81)),
 op 87 (.fieldAddr 9 (.tmp 86)),
 ⟨.none,.none,(.op (.store 1 (.tmp 87) (.tmp 85)))⟩])
 (.seq (.ops [op 89 (.fieldAddr 4 (.tmp 3)),
 op 90 (.load false 1 (.tmp 89)),
 op 91 (.arith .eql (.tmp 90) (.const (.int .i64 (.ofNat 2)))),
 mv 88 91])
 (.cond (.tmp 88) (.ops [mv 92 0,
 op 93 (.nilCheck (.tmp 92)),
 op 94 (.fieldAddr 9 (.tmp 93)),
 op 95 (.load false 1 (.tmp 94)),
 op 96 (.arith .add (.tmp 95) (.const (.int .i64 (.ofNat 1)))),
 op 97 (.nilCheck (.tmp 92)),
 op 98 (.fieldAddr 9 (.tmp 97)),
 ⟨.none,.none,(.op (.store 1 (.tmp 98) (.tmp 96)))⟩])
 .skip))))))))
 (.seq (.draw [⟨mv 99 0,0,[]⟩,
 ⟨op 100 (.nilCheck (.tmp 99)),0,[]⟩,
 ⟨op 101 (.fieldAddr 4 (.tmp 100)),0,[]⟩,
 ⟨op 102 (.load false 1 (.tmp 101)),1,[0]⟩,
 ⟨mv 103 7,0,[]⟩,
 ⟨mv 104 0,0,[]⟩,
 ⟨op 105 (.nilCheck (.tmp 104)),0,[]⟩,
 ⟨op 106 (.fieldAddr 3 (.tmp 105)),0,[]⟩,
 ⟨op 107 (.load false 1 (.tmp 106)),1,[0]⟩,
 ⟨op 108 (.lenRow (.tmp 107)),0,[]⟩,
 ⟨⟨.none,.none,(.op (.mapUpdate .str (.tmp 102) (.tmp 103) (.tmp 108)))⟩,2,[]⟩])
 (.seq (.draw [⟨mv 109 0,0,[]⟩,
 ⟨mv 110 0,0,[]⟩,
 ⟨op 111 (.nilCheck (.tmp 110)),0,[]⟩,
 ⟨op 112 (.fieldAddr 3 (.tmp 111)),0,[]⟩,
 ⟨op 113 (.load false 1 (.tmp 112)),1,[0,7]⟩,
 ⟨op 114 (.load true 12 (.tmp 11)),1,[0]⟩,
 ⟨op 115 (.buildSlice 132 [(.str []),(.int .i64 (.ofNat 0)),.nilSlice,(.bool false),.nilSlice,(.bool false),.nilSlice,(.bool false),.nilSlice,(.bool false),.nilSlice,(.int .i64 (.ofNat 0))] 1 [(0,12,(.tmp 114))]),2,[]⟩,
 ⟨op 116 (.append 12 132 184 (.tmp 113) (.tmp 115)),2,[]⟩,
 ⟨op 117 (.nilCheck (.tmp 109)),0,[]⟩,
 ⟨op 118 (.fieldAddr 3 (.tmp 117)),0,[]⟩,
 ⟨⟨.none,.none,(.op (.store 1 (.tmp 118) (.tmp 116)))⟩,2,[]⟩])
 (.seq (.seq (.ops [mv 119 0,
 op 120 (.nilCheck (.tmp 119)),
 op 121 (.fieldAddr 3 (.tmp 120)),
 op 122 (.load false 1 (.tmp 121)),
 op 123 (.lenRow (.tmp 122)),
 op 124 (.arith .gtr (.tmp 123) (.const (.int .i64 (.ofNat 40)))),
 mv 125 124,
 ⟨(.some 126),(.some (125,false)),(.op (.move (.tmp 0)))⟩,
 ⟨(.some 127),(.some (125,false)),(.op (.nilCheck (.tmp 126)))⟩,
 ⟨(.some 128),(.some (125,false)),(.op (.fieldAddr 8 (.tmp 127)))⟩,
 ⟨(.some 129),(.some (125,false)),(.op (.load false 1 (.tmp 128)))⟩,
 ⟨(.some 130),(.some (125,false)),(.op (.arith .gtr (.tmp 129) (.const (.int .i64 (.ofNat 5)))))⟩,
 op 131 (.pick (.tmp 125) (.const (.bool true)) (.tmp 130)),
 mv 132 131,
 ⟨(.some 133),(.some (132,false)),(.op (.move (.tmp 0)))⟩,
 ⟨(.some 134),(.some (132,false)),(.op (.nilCheck (.tmp 133)))⟩,
 ⟨(.some 135),(.some (132,false)),(.op (.fieldAddr 9 (.tmp 134)))⟩,
 ⟨(.some 136),(.some (132,false)),(.op (.load false 1 (.tmp 135)))⟩,
 ⟨(.some 137),(.some (132,false)),(.op (.arith .gtr (.tmp 136) (.const (.int .i64 (.ofNat 20)))))⟩,
 op 138 (.pick (.tmp 132) (.const (.bool true)) (.tmp 137))])
 (.cond (.tmp 138) (.seq (.ops [op 4 (.move (.const (.int .i64 (.ofNat 111))))])
 .ret)
 .skip))
 (.seq (.ops [op 4 (.move (.const (.int .i64 (.ofNat 0))))])
 .ret)))))))))))), [.tmp 4]⟩
def c202 : CFunc := ⟨18, (.seq (.ops [op 4 (.move (.const (.bool false)))])
 (.seq (.ops [mv 5 0,
 op 6 (.lenStr (.tmp 5)),
 mv 7 1,
 op 8 (.lenStr (.tmp 7)),
 op 9 (.arith .geq (.tmp 6) (.tmp 8)),
 mv 10 9,
 ⟨(.some 11),(.some (10,true)),(.op (.move (.tmp 0)))⟩,
 ⟨(.some 12),(.some (10,true)),(.op (.move (.tmp 1)))⟩,
 ⟨(.some 13),(.some (10,true)),(.op (.lenStr (.tmp 12)))⟩,
 ⟨(.some 14),(.some (10,true)),(.op (.slice .str (.tmp 11) .none (.some (.tmp 13)) .none))⟩,
 ⟨(.some 15),(.some (10,true)),(.op (.move (.tmp 1)))⟩,
 ⟨(.some 16),(.some (10,true)),(.op (.arith .eql (.tmp 14) (.tmp 15)))⟩,
 op 17 (.pick (.tmp 10) (.tmp 16) (.const (.bool false))),
 mv 4 17])
 .ret)), [.tmp 4]⟩
def c203 : CFunc := ⟨8, (.seq (.ops [op 4 (.move (.const (.int .i64 (.ofNat 0))))])
 (.seq (.ops [mv 5 0,
 mv 6 1,
 op 7 (.idxByteStr (.tmp 5) (.tmp 6)),
 mv 4 7])
 .ret)), [.tmp 4]⟩
def c204 : CFunc := ⟨7, (.seq (.ops [op 2 (.move (.const (.int .i64 (.ofNat 0))))])
 (.seq (.ops [⟨(.some 3),.none,(.call (.func 263) [(.const (.str [112,111,105,110,116,32,108,105,110,101,32,99,105,114,99,108,101]))])⟩,
 mv 4 0,
 ⟨(.some 5),.none,(.call (.func 262) [(.tmp 3),(.tmp 4)])⟩,
 op 6 (.arith .add (.tmp 5) (.const (.int .i64 (.ofNat 1)))),
 mv 2 6])
 .ret)), [.tmp 2]⟩
def c205 : CFunc := ⟨26, (.seq (.ops [op 2 (.alloc 223 [(.int .u8 (.ofNat 0)),(.str []),(.int .i64 (.ofNat 0))])])
 (.seq (.ops [mv 4 0,
 op 5 (.nilCheck (.tmp 4)),
 op 6 (.fieldAddr 1 (.tmp 5)),
 op 7 (.load true 3 (.tmp 6)),
 op 3 (.alloc 223 [(.int .u8 (.ofNat 0)),(.str []),(.int .i64 (.ofNat 0))]),
 ⟨.none,.none,(.op (.store 3 (.tmp 3) (.tmp 7)))⟩])
 (.seq (.seq (.ops [op 8 (.fieldAddr 0 (.tmp 3)),
 op 9 (.load false 1 (.tmp 8)),
 op 10 (.arith .neq (.tmp 9) (.const (.int .u8 (.ofNat 36))))])
 (.cond (.tmp 10) (.draw [⟨mv 11 0,0,[]⟩,
 ⟨mv 12 0,0,[]⟩,
 ⟨op 13 (.nilCheck (.tmp 12)),0,[]⟩,
 ⟨op 14 (.fieldAddr 0 (.tmp 13)),0,[]⟩,
 ⟨op 15 (.load false 1 (.tmp 14)),1,[0]⟩,
 ⟨op 16 (.fieldAddr 2 (.tmp 3)),0,[]⟩,
 ⟨op 17 (.load false 1 (.tmp 16)),1,[0]⟩,
 ⟨op 18 (.fieldAddr 1 (.tmp 3)),0,[]⟩,
 ⟨op 19 (.load false 1 (.tmp 18)),1,[0]⟩,
 ⟨op 20 (.lenStr (.tmp 19)),0,[]⟩,
 ⟨op 21 (.arith .add (.tmp 17) (.tmp 20)),0,[]⟩,
 ⟨⟨(.some 22),.none,(.call (.func 123) [(.tmp 15),(.tmp 21)])⟩,2,[]⟩,
 ⟨op 23 (.nilCheck (.tmp 11)),0,[]⟩,
 ⟨op 24 (.fieldAddr 1 (.tmp 23)),0,[]⟩,
 ⟨⟨.none,.none,(.op (.store 3 (.tmp 24) (.tmp 22)))⟩,2,[]⟩])
 .skip))
 (.seq (.ops [op 25 (.load true 3 (.tmp 3)),
 ⟨.none,.none,(.op (.store 3 (.tmp 2) (.tmp 25)))⟩])
 .ret)))), [.cell true 3 2]⟩
def c206 : CFunc := ⟨15, (.seq (.ops [op 2 (.move (.const .nilSlice))])
 (.seq (.ops [mv 4 0,
 ⟨(.some 5),.none,(.call (.func 264) [(.tmp 4)])⟩,
 op 6 (.buildSlice 238 [(.str []),(.bool false),(.str []),(.int .i64 (.ofNat 0))] 1 [(0,4,(.tmp 5))]),
 mv 3 6])
 (.seq (.block 0 (.loop (.seq (.seq (.ops [mv 7 0,
 ⟨(.some 8),.none,(.call (.func 168) [(.tmp 7),(.const (.int .u8 (.ofNat 46)))])⟩])
 (.cond (.tmp 8) .skip
 (.exit 0)))
 (.block 1 (.ops [mv 9 3,
 mv 10 0,
 ⟨(.some 11),.none,(.call (.func 264) [(.tmp 10)])⟩,
 op 12 (.buildSlice 238 [(.str []),(.bool false),(.str []),(.int .i64 (.ofNat 0))] 1 [(0,4,(.tmp 11))]),
 op 13 (.append 4 238 48 (.tmp 9) (.tmp 12)),
 mv 3 13])))))
 (.seq (.ops [mv 14 3,
 mv 2 14])
 .ret)))), [.tmp 2]⟩
def c208 : CFunc := ⟨44, (.seq (.ops [op 2 (.alloc 118 [(.bool false),.nilSlice,(.bool false),.nilSlice])])
 (.seq (.ops [mv 7 0,
 op 8 (.nilCheck (.tmp 7)),
 op 9 (.fieldAddr 1 (.tmp 8)),
 op 10 (.load true 3 (.tmp 9)),
 op 3 (.alloc 223 [(.int .u8 (.ofNat 0)),(.str []),(.int .i64 (.ofNat 0))]),
 ⟨.none,.none,(.op (.store 3 (.tmp 3) (.tmp 10)))⟩])
 (.seq (.ops [op 4 (.move (.const (.str [])))])
 (.seq (.seq (.ops [mv 11 0,
 ⟨(.some 12),.none,(.call (.func 168) [(.tmp 11),(.const (.int .u8 (.ofNat 45)))])⟩])
 (.cond (.tmp 12) (.ops [op 4 (.move (.const (.str [45])))])
 .skip))
 (.seq (.ops [mv 13 4,
 mv 14 0,
 ⟨(.some 15),.none,(.call (.func 171) [(.tmp 14),(.const (.int .u8 (.ofNat 48)))])⟩,
 op 16 (.field false 1 1 (.tmp 15)),
 op 17 (.arith .add (.tmp 13) (.tmp 16)),
 mv 4 17])
 (.seq (.seq (.ops [mv 18 0,
 ⟨(.some 19),.none,(.call (.func 168) [(.tmp 18),(.const (.int .u8 (.ofNat 47)))])⟩])
 (.cond (.tmp 19) (.ops [mv 20 4,
 mv 21 0,
 ⟨(.some 22),.none,(.call (.func 171) [(.tmp 21),(.const (.int .u8 (.ofNat 48)))])⟩,
 op 23 (.field false 1 1 (.tmp 22)),
 op 24 (.arith .add (.const (.str [47])) (.tmp 23)),
 op 25 (.arith .add (.tmp 20) (.tmp 24)),
 mv 4 25])
 .skip))
 (.seq (.ops [mv 27 4,
 ⟨(.some 28),.none,(.call (.func 265) [(.tmp 27)])⟩,
 mv 26 28,
 op 29 (.extract (.tmp 26) 0),
 op 30 (.extract (.tmp 26) 1),
 op 5 (.alloc 118 [(.bool false),.nilSlice,(.bool false),.nilSlice]),
 ⟨.none,.none,(.op (.store 4 (.tmp 5) (.tmp 29)))⟩,
 mv 6 30])
 (.seq (.seq (.ops [mv 31 6])
 (.block 0 (.seq (.ops [op 33 (.arith .eql (.tmp 31) (.const (.int .i64 (.ofNat 0)))),
 mv 32 33])
 (.cond (.tmp 32) (.seq (.ops [op 34 (.load true 4 (.tmp 5)),
 ⟨.none,.none,(.op (.store 4 (.tmp 2) (.tmp 34)))⟩])
 .ret)
 (.seq (.ops [op 36 (.arith .eql (.tmp 31) (.const (.int .i64 (.ofNat 2)))),
 mv 35 36])
 (.cond (.tmp 35) (.ops [mv 37 0,
 op 38 (.load true 3 (.tmp 3)),
 ⟨(.some 39),.none,(.call (.func 170) [(.tmp 37),(.const (.int .i64 (.ofNat 2))),(.tmp 38)])⟩])
 .skip))))))
 (.seq (.ops [mv 40 0,
 op 41 (.load true 3 (.tmp 3)),
 ⟨(.some 42),.none,(.call (.func 170) [(.tmp 40),(.const (.int .i64 (.ofNat 91))),(.tmp 41)])⟩])
 (.seq (.ops [op 43 (.load true 4 (.tmp 5)),
 ⟨.none,.none,(.op (.store 4 (.tmp 2) (.tmp 43)))⟩])
 .ret)))))))))), [.cell true 4 2]⟩
def c209 : CFunc := ⟨12, (.seq (.ops [op 2 (.move (.const (.int .i64 (.ofNat 0)))),
 op 3 (.move (.const (.bool false)))])
 (.seq (.ops [⟨(.some 5),.none,(.call (.func 263) [(.const (.str [106,111,105,110,32,109,101,101,116,32,99,111,109,112,97,115,115,32,99,97,114,114,121,32,116,104,114,111,117,103,104,32,99,117,116,32,99,114,111,115,115,32,112,101,114,112,32,112,97,114,97,32,109,105,100,32,114,101,102,108,101,99,116,32,98,105,115,101,99,116,111,114,32,116,97,110,103,101,110,116,32,99,101,110,116,101,114]))])⟩,
 mv 6 0,
 ⟨(.some 7),.none,(.call (.func 262) [(.tmp 5),(.tmp 6)])⟩,
 mv 4 7])
 (.seq (.seq (.ops [mv 8 4,
 op 9 (.arith .lss (.tmp 8) (.const (.int .i64 (.ofNat 0))))])
 (.cond (.tmp 9) (.seq (.ops [op 2 (.move (.const (.int .i64 (.ofNat 0)))),
 op 3 (.move (.const (.bool false)))])
 .ret)
 .skip))
 (.seq (.ops [mv 10 4,
 op 11 (.arith .add (.const (.int .i64 (.ofNat 3))) (.tmp 10)),
 mv 2 11,
 op 3 (.move (.const (.bool true)))])
 .ret)))), [.tmp 2, .tmp 3]⟩
def c211 : CFunc := ⟨26, (.seq (.ops [op 2 (.move (.const (.str [])))])
 (.seq (.seq (.ops [mv 3 0,
 op 4 (.nilCheck (.tmp 3)),
 op 5 (.fieldAddr 1 (.tmp 4)),
 op 6 (.fieldAddr 0 (.tmp 5)),
 op 7 (.load false 1 (.tmp 6)),
 op 8 (.arith .eql (.tmp 7) (.const (.int .u8 (.ofNat 119)))),
 mv 9 8,
 ⟨(.some 10),(.some (9,true)),(.op (.move (.tmp 0)))⟩,
 ⟨(.some 11),(.some (9,true)),(.op (.nilCheck (.tmp 10)))⟩,
 ⟨(.some 12),(.some (9,true)),(.op (.fieldAddr 1 (.tmp 11)))⟩,
 ⟨(.some 13),(.some (9,true)),(.op (.fieldAddr 1 (.tmp 12)))⟩,
 ⟨(.some 14),(.some (9,true)),(.op (.load false 1 (.tmp 13)))⟩,
 ⟨(.some 15),(.some (9,true)),(.call (.func 266) [(.tmp 14)])⟩,
 op 16 (.pick (.tmp 9) (.tmp 15) (.const (.bool false)))])
 (.cond (.tmp 16) (.ops [mv 17 0,
 mv 18 0,
 op 19 (.nilCheck (.tmp 18)),
 op 20 (.fieldAddr 1 (.tmp 19)),
 op 21 (.load true 3 (.tmp 20)),
 ⟨(.some 22),.none,(.call (.func 170) [(.tmp 17),(.const (.int .i64 (.ofNat 91))),(.tmp 21)])⟩])
 .skip))
 (.seq (.ops [mv 23 0,
 ⟨(.some 24),.none,(.call (.func 171) [(.tmp 23),(.const (.int .u8 (.ofNat 119)))])⟩,
 op 25 (.field false 1 1 (.tmp 24)),
 mv 2 25])
 .ret))), [.tmp 2]⟩
def c216 : CFunc := ⟨49, (.seq (.ops [op 4 (.move (.const .nilSlice)),
 op 5 (.move (.const (.int .u32 (.ofNat 0))))])
 (.seq (.ops [mv 11 0,
 op 12 (.lenRow (.tmp 11)),
 op 13 (.makeSlice 194 [(.int .u32 (.ofNat 0))] 4 (.tmp 12) (.tmp 12)),
 mv 6 13])
 (.seq (.ops [op 7 (.move (.const (.int .u64 (.ofNat 0))))])
 (.seq (.seq (.ops [mv 14 0,
 op 15 (.lenRow (.tmp 14)),
 op 16 (.move (.const (.int .i64 (.ofNat 0))))])
 (.block 0 (.loop (.seq (.ops [op 17 (.arith .lss (.tmp 16) (.tmp 15))])
 (.seq (.cond (.tmp 17) .skip
 (.exit 0))
 (.seq (.block 1 (.seq (.ops [mv 18 16,
 mv 8 18])
 (.seq (.ops [mv 19 0,
 op 20 (.lenRow (.tmp 19)),
 op 21 (.arith .sub (.tmp 20) (.const (.int .i64 (.ofNat 1)))),
 mv 22 8,
 op 23 (.arith .sub (.tmp 21) (.tmp 22)),
 mv 9 23])
 (.seq (.ops [mv 24 7,
 op 25 (.arith .shl (.tmp 24) (.const (.int .u64 (.ofNat 32)))),
 mv 26 0,
 mv 27 9,
 op 28 (.idxRow 1 (.tmp 26) (.tmp 27)),
 op 29 (.load false 1 (.tmp 28)),
 op 30 (.toInt .u64 (.tmp 29)),
 op 31 (.arith .or (.tmp 25) (.tmp 30)),
 mv 10 31])
 (.seq (.ops [mv 32 6,
 mv 33 9,
 mv 34 10,
 mv 35 1,
 op 36 (.toInt .u64 (.tmp 35)),
 op 37 (.arith .quo (.tmp 34) (.tmp 36)),
 op 38 (.toInt .u32 (.tmp 37)),
 op 39 (.idxRow 1 (.tmp 32) (.tmp 33)),
 ⟨.none,.none,(.op (.store 1 (.tmp 39) (.tmp 38)))⟩])
 (.ops [mv 40 10,
 mv 41 1,
 op 42 (.toInt .u64 (.tmp 41)),
 op 43 (.arith .rem (.tmp 40) (.tmp 42)),
 mv 7 43]))))))
 (.ops [op 44 (.arith .add (.tmp 16) (.const (.int .i64 (.ofNat 1)))),
 mv 16 44])))))))
 (.seq (.ops [mv 45 6,
 ⟨(.some 46),.none,(.call (.func 217) [(.tmp 45)])⟩,
 mv 47 7,
 op 48 (.toInt .u32 (.tmp 47)),
 mv 4 46,
 mv 5 48])
 .ret))))), [.tmp 4, .tmp 5]⟩
def c217 : CFunc := ⟨21, (.seq (.ops [op 2 (.move (.const .nilSlice))])
 (.seq (.ops [mv 4 0,
 op 5 (.lenRow (.tmp 4)),
 mv 3 5])
 (.seq (.block 0 (.loop (.seq (.seq (.ops [mv 6 3,
 op 7 (.arith .gtr (.tmp 6) (.const (.int .i64 (.ofNat 0)))),
 mv 8 7,
 ⟨(.some 9),(.some (8,true)),(.op (.move (.tmp 0)))⟩,
 ⟨(.some 10),(.some (8,true)),(.op (.move (.tmp 3)))⟩,
 ⟨(.some 11),(.some (8,true)),(.op (.arith .sub (.tmp 10) (.const (.int .i64 (.ofNat 1)))))⟩,
 ⟨(.some 12),(.some (8,true)),(.op (.idxRow 1 (.tmp 9) (.tmp 11)))⟩,
 ⟨(.some 13),(.some (8,true)),(.op (.load false 1 (.tmp 12)))⟩,
 ⟨(.some 14),(.some (8,true)),(.op (.arith .eql (.tmp 13) (.const (.int .u32 (.ofNat 0)))))⟩,
 op 15 (.pick (.tmp 8) (.tmp 14) (.const (.bool false)))])
 (.cond (.tmp 15) .skip
 (.exit 0)))
 (.block 1 (.ops [mv 16 3,
 op 17 (.arith .sub (.tmp 16) (.const (.int .i64 (.ofNat 1)))),
 mv 3 17])))))
 (.seq (.ops [mv 18 0,
 mv 19 3,
 op 20 (.slice (.row 1) (.tmp 18) .none (.some (.tmp 19)) .none),
 mv 2 20])
 .ret)))), [.tmp 2]⟩
def c255 : CFunc := ⟨16, (.seq (.ops [op 2 (.move (.const (.str []))),
 op 3 (.move (.const (.int .i64 (.ofNat 0))))])
 (.seq (.ops [op 4 (.alloc 453 [.nilPtr,.nilSlice,(.bool false)])])
 (.seq (.ops [mv 5 0,
 ⟨(.some 6),.none,(.call (.func 303) [(.tmp 4),(.tmp 5),(.const (.int .i64 (.ofNat 0)))])⟩])
 (.seq (.block 0 (.seq (.ops [op 8 (.fieldAddr 2 (.tmp 4)),
 op 9 (.load false 1 (.tmp 8)),
 mv 7 9])
 (.cond (.tmp 7) (.seq (.ops [op 2 (.move (.const (.str []))),
 op 3 (.move (.const (.int .i64 (.ofNat 3))))])
 .ret)
 (.seq (.ops [op 11 (.fieldAddr 0 (.tmp 4)),
 ⟨(.some 12),.none,(.call (.func 196) [(.tmp 11)])⟩,
 op 13 (.arith .gtr (.tmp 12) (.const (.int .i64 (.ofNat 4096)))),
 mv 10 13])
 (.cond (.tmp 10) (.seq (.ops [op 2 (.move (.const (.str []))),
 op 3 (.move (.const (.int .i64 (.ofNat 2))))])
 .ret)
 .skip)))))
 (.seq (.ops [op 14 (.fieldAddr 0 (.tmp 4)),
 ⟨(.some 15),.none,(.call (.func 54) [(.tmp 14)])⟩,
 mv 2 15,
 op 3 (.move (.const (.int .i64 (.ofNat 0))))])
 .ret))))), [.tmp 2, .tmp 3]⟩
def c256 : CFunc := ⟨4, (.seq (.ops [op 0 (.move (.const .nilPtr))])
 (.seq (.ops [op 1 (.makeMap),
 op 2 (.build [.nilSlice,.nilMap] [(1,1,(.tmp 1))]),
 op 3 (.box 458 (.tmp 2)),
 mv 0 3])
 .ret)), [.tmp 0]⟩
def c257 : CFunc := ⟨37, (.seq (.ops [op 4 (.alloc 160 [(.int .i64 (.ofNat 0)),(.int .i64 (.ofNat 0))])])
 (.seq (.ops [op 9 (.makeMap),
 mv 10 0,
 op 11 (.makeFunc 304 [(.tmp 10)] []),
 ⟨.none,.none,(.op (.mapUpdate .int (.tmp 9) (.const (.int .i64 (.ofNat 1))) (.tmp 11)))⟩,
 mv 12 0,
 op 13 (.makeFunc 305 [(.tmp 12)] []),
 ⟨.none,.none,(.op (.mapUpdate .int (.tmp 9) (.const (.int .i64 (.ofNat 3))) (.tmp 13)))⟩,
 mv 14 0,
 op 15 (.makeFunc 306 [(.tmp 14)] []),
 ⟨.none,.none,(.op (.mapUpdate .int (.tmp 9) (.const (.int .i64 (.ofNat 2))) (.tmp 15)))⟩,
 mv 16 0,
 op 17 (.makeFunc 307 [(.tmp 16)] []),
 ⟨.none,.none,(.op (.mapUpdate .int (.tmp 9) (.const (.int .i64 (.ofNat 4))) (.tmp 17)))⟩,
 mv 18 9,
 mv 5 18])
 (.seq (.seq (.ops [mv 19 1,
 op 20 (.lenRow (.tmp 19)),
 op 21 (.move (.const (.int .i64 (.ofNat 0))))])
 (.block 0 (.loop (.seq (.ops [op 22 (.arith .lss (.tmp 21) (.tmp 20))])
 (.seq (.cond (.tmp 22) .skip
 (.exit 0))
 (.seq (.block 1 (.seq (.ops [op 23 (.idxRow 21 (.tmp 19) (.tmp 21)),
 op 24 (.load true 21 (.tmp 23)),
 op 7 (.alloc 234 [(.int .i64 (.ofNat 0)),(.int .i64 (.ofNat 0)),(.int .i64 (.ofNat 0)),.nilSlice,(.int .i64 (.ofNat 0)),.nilSlice,(.bool false),.nilSlice,(.bool false),.nilSlice,(.bool false),.nilSlice,(.bool false),.nilSlice,(.int .i64 (.ofNat 0)),.nilSlice,(.str []),(.str []),(.int .i64 (.ofNat 0)),(.int .i64 (.ofNat 0)),.nilSlice]),
 ⟨.none,.none,(.op (.store 21 (.tmp 7) (.tmp 24)))⟩])
 (.seq (.ops [mv 25 5,
 op 26 (.fieldAddr 0 (.tmp 7)),
 op 27 (.load false 1 (.tmp 26)),
 op 28 (.lookup .int .nilFunc (.tmp 25) (.tmp 27) false),
 op 29 (.load true 21 (.tmp 7)),
 ⟨(.some 30),.none,(.call (.tmp 28) [(.tmp 29)])⟩,
 op 8 (.alloc 160 [(.int .i64 (.ofNat 0)),(.int .i64 (.ofNat 0))]),
 ⟨.none,.none,(.op (.store 2 (.tmp 8) (.tmp 30)))⟩])
 (.seq (.ops [op 31 (.fieldAddr 0 (.tmp 8)),
 op 32 (.load false 1 (.tmp 31)),
 op 33 (.arith .neq (.tmp 32) (.const (.int .i64 (.ofNat 0))))])
 (.cond (.tmp 33) (.seq (.ops [op 34 (.load true 2 (.tmp 8)),
 ⟨.none,.none,(.op (.store 2 (.tmp 4) (.tmp 34)))⟩])
 .ret)
 .skip)))))
 (.ops [op 35 (.arith .add (.tmp 21) (.const (.int .i64 (.ofNat 1)))),
 mv 21 35])))))))
 (.seq (.ops [op 36 (.build [(.int .i64 (.ofNat 0)),(.int .i64 (.ofNat 0))] []),
 ⟨.none,.none,(.op (.store 2 (.tmp 4) (.tmp 36)))⟩])
 .ret)))), [.cell true 2 4]⟩
def c258 : CFunc := ⟨59, (.seq (.ops [op 4 (.move (.const .nilSlice)),
 op 5 (.move (.const (.int .i64 (.ofNat 0))))])
 (.seq (.ops [op 6 (.move (.const .nilSlice))])
 (.seq (.seq (.ops [mv 13 1,
 op 14 (.lenRow (.tmp 13)),
 op 15 (.move (.const (.int .i64 (.ofNat 0))))])
 (.block 0 (.loop (.seq (.ops [op 16 (.arith .lss (.tmp 15) (.tmp 14))])
 (.seq (.cond (.tmp 16) .skip
 (.exit 0))
 (.seq (.block 1 (.seq (.ops [op 17 (.idxRow 1 (.tmp 13) (.tmp 15)),
 op 18 (.load false 1 (.tmp 17)),
 mv 8 18])
 (.seq (.draw [⟨mv 20 0,0,[]⟩,
 ⟨op 21 (.nilCheck (.tmp 20)),0,[]⟩,
 ⟨op 22 (.fieldAddr 0 (.tmp 21)),0,[]⟩,
 ⟨op 23 (.fieldAddr 1 (.tmp 22)),0,[]⟩,
 ⟨op 24 (.load false 1 (.tmp 23)),1,[0]⟩,
 ⟨mv 25 8,0,[]⟩,
 ⟨op 26 (.idxRow 4 (.tmp 25) (.const (.int .i64 (.ofNat 0)))),0,[]⟩,
 ⟨op 27 (.fieldAddr 0 (.tmp 26)),0,[]⟩,
 ⟨op 28 (.load false 1 (.tmp 27)),1,[0]⟩,
 ⟨op 29 (.lookup .str (.int .i64 (.ofNat 0)) (.tmp 24) (.tmp 28) true),1,[0]⟩,
 ⟨mv 19 29,0,[]⟩,
 ⟨op 30 (.extract (.tmp 19) 0),0,[]⟩,
 ⟨op 31 (.extract (.tmp 19) 1),0,[]⟩,
 ⟨mv 9 30,0,[]⟩,
 ⟨mv 10 31,0,[]⟩])
 (.seq (.seq (.ops [mv 32 10,
 op 33 (.un .not (.tmp 32))])
 (.cond (.tmp 33) (.seq (.ops [mv 35 0,
 mv 36 8,
 ⟨(.some 37),.none,(.call (.func 259) [(.tmp 35),(.tmp 36)])⟩,
 mv 34 37,
 op 38 (.extract (.tmp 34) 0),
 op 39 (.extract (.tmp 34) 1),
 mv 11 38,
 mv 12 39])
 (.seq (.seq (.ops [mv 40 12,
 op 41 (.un .not (.tmp 40))])
 (.cond (.tmp 41) (.seq (.ops [op 4 (.move (.const .nilSlice)),
 op 5 (.move (.const (.int .i64 (.ofNat 110))))])
 .ret)
 .skip))
 (.seq (.ops [mv 43 0,
 op 44 (.nilCheck (.tmp 43)),
 op 45 (.fieldAddr 4 (.tmp 44)),
 op 46 (.load false 1 (.tmp 45)),
 mv 47 11,
 op 48 (.lookup .str (.int .i64 (.ofNat 0)) (.tmp 46) (.tmp 47) true),
 mv 42 48,
 op 49 (.extract (.tmp 42) 0),
 op 50 (.extract (.tmp 42) 1),
 mv 9 49,
 mv 10 50])
 (.seq (.ops [mv 51 10,
 op 52 (.un .not (.tmp 51))])
 (.cond (.tmp 52) (.seq (.ops [op 4 (.move (.const .nilSlice)),
 op 5 (.move (.const (.int .i64 (.ofNat 100))))])
 .ret)
 .skip)))))
 .skip))
 (.ops [mv 53 6,
 mv 54 9,
 op 55 (.buildSlice 3 [(.int .i64 (.ofNat 0))] 1 [(0,1,(.tmp 54))]),
 op 56 (.append 1 3 8 (.tmp 53) (.tmp 55)),
 mv 6 56])))))
 (.ops [op 57 (.arith .add (.tmp 15) (.const (.int .i64 (.ofNat 1)))),
 mv 15 57])))))))
 (.seq (.ops [mv 58 6,
 mv 4 58,
 op 5 (.move (.const (.int .i64 (.ofNat 0))))])
 .ret)))), [.tmp 4, .tmp 5]⟩
def c259 : CFunc := ⟨63, (.seq (.ops [op 4 (.move (.const (.str []))),
 op 5 (.move (.const (.bool false)))])
 (.seq (.ops [op 6 (.alloc 110 [.nilPtr,.nilSlice])])
 (.seq (.ops [mv 10 0,
 op 11 (.nilCheck (.tmp 10)),
 op 12 (.fieldAddr 0 (.tmp 11)),
 op 13 (.fieldAddr 0 (.tmp 12)),
 op 14 (.load false 1 (.tmp 13)),
 ⟨(.some 15),.none,(.call (.func 97) [(.tmp 6),(.tmp 14)])⟩])
 (.seq (.seq (.ops [mv 16 1,
 op 17 (.lenRow (.tmp 16)),
 op 18 (.move (.const (.int .i64 (.ofNat 0))))])
 (.block 0 (.loop (.seq (.ops [op 19 (.arith .lss (.tmp 18) (.tmp 17))])
 (.seq (.cond (.tmp 19) .skip
 (.exit 0))
 (.seq (.block 1 (.seq (.ops [mv 20 18,
 op 21 (.idxRow 4 (.tmp 16) (.tmp 18)),
 op 22 (.load true 4 (.tmp 21)),
 op 8 (.alloc 238 [(.str []),(.bool false),(.str []),(.int .i64 (.ofNat 0))]),
 mv 7 20,
 ⟨.none,.none,(.op (.store 4 (.tmp 8) (.tmp 22)))⟩])
 (.seq (.seq (.ops [mv 23 7,
 op 24 (.arith .gtr (.tmp 23) (.const (.int .i64 (.ofNat 0))))])
 (.cond (.tmp 24) (.ops [⟨(.some 25),.none,(.call (.func 96) [(.tmp 6),(.const (.int .u8 (.ofNat 46)))])⟩])
 .skip))
 (.seq (.ops [op 26 (.fieldAddr 0 (.tmp 8)),
 op 27 (.load false 1 (.tmp 26)),
 ⟨(.some 28),.none,(.call (.func 97) [(.tmp 6),(.tmp 27)])⟩])
 (.seq (.seq (.ops [op 29 (.fieldAddr 1 (.tmp 8)),
 op 30 (.load false 1 (.tmp 29)),
 op 31 (.un .not (.tmp 30))])
 (.cond (.tmp 31) (.exit 1)
 .skip))
 (.seq (.ops [op 32 (.fieldAddr 2 (.tmp 8)),
 op 33 (.fieldAddr 1 (.tmp 32)),
 op 34 (.load false 1 (.tmp 33)),
 mv 9 34])
 (.seq (.seq (.ops [op 35 (.fieldAddr 2 (.tmp 8)),
 op 36 (.fieldAddr 0 (.tmp 35)),
 op 37 (.load false 1 (.tmp 36)),
 op 38 (.arith .neq (.tmp 37) (.const (.str [])))])
 (.cond (.tmp 38) (.draw [⟨mv 39 9,0,[]⟩,
 ⟨mv 40 0,0,[]⟩,
 ⟨op 41 (.nilCheck (.tmp 40)),0,[]⟩,
 ⟨op 42 (.fieldAddr 0 (.tmp 41)),0,[]⟩,
 ⟨op 43 (.fieldAddr 2 (.tmp 42)),0,[]⟩,
 ⟨op 44 (.load false 1 (.tmp 43)),1,[0]⟩,
 ⟨op 45 (.fieldAddr 2 (.tmp 8)),0,[]⟩,
 ⟨op 46 (.fieldAddr 0 (.tmp 45)),0,[]⟩,
 ⟨op 47 (.load false 1 (.tmp 46)),1,[0]⟩,
 ⟨op 48 (.lookup .str (.int .i64 (.ofNat 0)) (.tmp 44) (.tmp 47) false),1,[0]⟩,
 ⟨op 49 (.arith .add (.tmp 39) (.tmp 48)),0,[]⟩,
 ⟨mv 9 49,0,[]⟩])
 .skip))
 (.seq (.seq (.ops [mv 50 9,
 op 51 (.arith .lss (.tmp 50) (.const (.int .i64 (.ofNat 0)))),
 mv 52 51,
 ⟨(.some 53),(.some (52,false)),(.op (.move (.tmp 9)))⟩,
 ⟨(.some 54),(.some (52,false)),(.op (.arith .gtr (.tmp 53) (.const (.int .i64 (.ofNat 9999)))))⟩,
 op 55 (.pick (.tmp 52) (.const (.bool true)) (.tmp 54))])
 (.cond (.tmp 55) (.seq (.ops [op 4 (.move (.const (.str []))),
 op 5 (.move (.const (.bool false)))])
 .ret)
 .skip))
 (.seq (.ops [⟨(.some 56),.none,(.call (.func 96) [(.tmp 6),(.const (.int .u8 (.ofNat 91)))])⟩])
 (.seq (.ops [mv 57 9,
 ⟨(.some 58),.none,(.call (.func 276) [(.tmp 57)])⟩,
 ⟨(.some 59),.none,(.call (.func 97) [(.tmp 6),(.tmp 58)])⟩])
 (.ops [⟨(.some 60),.none,(.call (.func 96) [(.tmp 6),(.const (.int .u8 (.ofNat 93)))])⟩])))))))))))
 (.ops [op 61 (.arith .add (.tmp 18) (.const (.int .i64 (.ofNat 1)))),
 mv 18 61])))))))
 (.seq (.ops [⟨(.some 62),.none,(.call (.func 54) [(.tmp 6)])⟩,
 mv 4 62,
 op 5 (.move (.const (.bool true)))])
 .ret))))), [.tmp 4, .tmp 5]⟩
def c260 : CFunc := ⟨20, (.seq (.ops [op 1 (.box 118 (.tmp 0)),
 op 2 (.alloc 118 [(.bool false),.nilSlice,(.bool false),.nilSlice])])
 (.seq (.draw [⟨op 3 (.fieldAddr 0 (.tmp 1)),0,[]⟩,
 ⟨op 4 (.fieldAddr 0 (.tmp 3)),0,[]⟩,
 ⟨op 5 (.load false 1 (.tmp 4)),1,[0,7,15]⟩,
 ⟨op 6 (.fieldAddr 0 (.tmp 1)),0,[]⟩,
 ⟨op 7 (.fieldAddr 1 (.tmp 6)),0,[]⟩,
 ⟨op 8 (.load false 1 (.tmp 7)),1,[0]⟩,
 ⟨op 9 (.append 1 194 4 (.const .nilSlice) (.tmp 8)),2,[]⟩,
 ⟨op 10 (.build [(.bool false),.nilSlice] [(0,1,(.tmp 5)),(1,1,(.tmp 9))]),0,[]⟩,
 ⟨op 11 (.fieldAddr 2 (.tmp 1)),0,[]⟩,
 ⟨op 12 (.fieldAddr 0 (.tmp 11)),0,[]⟩,
 ⟨op 13 (.load false 1 (.tmp 12)),1,[0,7,15]⟩,
 ⟨op 14 (.fieldAddr 2 (.tmp 1)),0,[]⟩,
 ⟨op 15 (.fieldAddr 1 (.tmp 14)),0,[]⟩,
 ⟨op 16 (.load false 1 (.tmp 15)),1,[0,7]⟩,
 ⟨op 17 (.append 1 194 4 (.const .nilSlice) (.tmp 16)),2,[]⟩,
 ⟨op 18 (.build [(.bool false),.nilSlice] [(0,1,(.tmp 13)),(1,1,(.tmp 17))]),0,[]⟩,
 ⟨op 19 (.build [(.bool false),.nilSlice,(.bool false),.nilSlice] [(0,2,(.tmp 10)),(2,2,(.tmp 18))]),0,[]⟩,
 ⟨⟨.none,.none,(.op (.store 4 (.tmp 2) (.tmp 19)))⟩,2,[]⟩])
 .ret)), [.cell true 4 2]⟩
def c262 : CFunc := ⟨19, (.seq (.ops [op 4 (.move (.const (.int .i64 (.ofNat 0))))])
 (.seq (.seq (.ops [mv 6 0,
 op 7 (.lenRow (.tmp 6)),
 op 8 (.move (.const (.int .i64 (.ofNat 0))))])
 (.block 0 (.loop (.seq (.ops [op 9 (.arith .lss (.tmp 8) (.tmp 7))])
 (.seq (.cond (.tmp 9) .skip
 (.exit 0))
 (.seq (.block 1 (.seq (.ops [mv 10 8,
 mv 5 10])
 (.seq (.ops [mv 11 1,
 mv 12 0,
 mv 13 5,
 op 14 (.idxRow 1 (.tmp 12) (.tmp 13)),
 op 15 (.load false 1 (.tmp 14)),
 op 16 (.arith .eql (.tmp 11) (.tmp 15))])
 (.cond (.tmp 16) (.seq (.ops [mv 17 5,
 mv 4 17])
 .ret)
 .skip))))
 (.ops [op 18 (.arith .add (.tmp 8) (.const (.int .i64 (.ofNat 1)))),
 mv 8 18])))))))
 (.seq (.ops [op 4 (.move (.const (.int .i64 (.negSucc 0))))])
 .ret))), [.tmp 4]⟩
def c263 : CFunc := ⟨106, (.seq (.ops [op 2 (.move (.const .nilSlice))])
 (.seq (.ops [op 3 (.move (.const (.int .i64 (.ofNat 0))))])
 (.seq (.ops [op 4 (.move (.const (.int .i64 (.ofNat 1))))])
 (.seq (.ops [op 5 (.move (.const (.int .u8 (.ofNat 0))))])
 (.seq (.seq (.ops [op 6 (.move (.const (.int .i64 (.ofNat 0))))])
 (.block 0 (.loop (.seq (.seq (.ops [mv 13 6,
 mv 14 0,
 op 15 (.lenStr (.tmp 14)),
 op 16 (.arith .lss (.tmp 13) (.tmp 15))])
 (.cond (.tmp 16) .skip
 (.exit 0)))
 (.seq (.block 1 (.seq (.ops [mv 19 0,
 mv 20 6,
 op 21 (.idxStr (.tmp 19) (.tmp 20)),
 mv 7 21])
 (.seq (.ops [mv 22 5,
 mv 23 7,
 op 24 (.arith .or (.tmp 22) (.tmp 23)),
 mv 5 24])
 (.seq (.ops [mv 25 7,
 op 26 (.idxArr 256 1 (.glob 1) (.tmp 25)),
 op 27 (.load false 1 (.tmp 26)),
 op 28 (.toInt .i64 (.tmp 27)),
 mv 8 28])
 (.seq (.ops [mv 29 3,
 mv 30 4,
 mv 31 8,
 op 32 (.un .xor (.tmp 31)),
 op 33 (.arith .and (.tmp 30) (.tmp 32)),
 op 34 (.arith .add (.tmp 29) (.tmp 33)),
 mv 3 34])
 (.ops [mv 35 8,
 mv 4 35]))))))
 (.ops [mv 17 6,
 op 18 (.arith .add (.tmp 17) (.const (.int .i64 (.ofNat 1)))),
 mv 6 18]))))))
 (.seq (.seq (.ops [mv 36 5,
 op 37 (.arith .geq (.tmp 36) (.const (.int .u8 (.ofNat 128))))])
 (.cond (.tmp 37) (.seq (.ops [mv 38 0,
 ⟨(.some 39),.none,(.call (.func 308) [(.tmp 38),(.func 309)])⟩,
 mv 2 39])
 .ret)
 .skip))
 (.seq (.ops [mv 40 3,
 op 41 (.makeSlice 9 [(.str [])] 16 (.tmp 40) (.tmp 40)),
 mv 9 41])
 (.seq (.ops [op 10 (.move (.const (.int .i64 (.ofNat 0))))])
 (.seq (.ops [op 11 (.move (.const (.int .i64 (.ofNat 0))))])
 (.seq (.ops [op 12 (.move (.const (.int .i64 (.ofNat 0))))])
 (.seq (.block 2 (.loop (.seq (.seq (.ops [mv 42 12,
 mv 43 0,
 op 44 (.lenStr (.tmp 43)),
 op 45 (.arith .lss (.tmp 42) (.tmp 44)),
 mv 46 45,
 ⟨(.some 47),(.some (46,true)),(.op (.move (.tmp 0)))⟩,
 ⟨(.some 48),(.some (46,true)),(.op (.move (.tmp 12)))⟩,
 ⟨(.some 49),(.some (46,true)),(.op (.idxStr (.tmp 47) (.tmp 48)))⟩,
 ⟨(.some 50),(.some (46,true)),(.op (.idxArr 256 1 (.glob 1) (.tmp 49)))⟩,
 ⟨(.some 51),(.some (46,true)),(.op (.load false 1 (.tmp 50)))⟩,
 ⟨(.some 52),(.some (46,true)),(.op (.arith .neq (.tmp 51) (.const (.int .u8 (.ofNat 0)))))⟩,
 op 53 (.pick (.tmp 46) (.tmp 52) (.const (.bool false)))])
 (.cond (.tmp 53) .skip
 (.exit 2)))
 (.block 3 (.ops [mv 54 12,
 op 55 (.arith .add (.tmp 54) (.const (.int .i64 (.ofNat 1)))),
 mv 12 55])))))
 (.seq (.ops [mv 56 12,
 mv 11 56])
 (.seq (.block 4 (.loop (.seq (.seq (.ops [mv 57 12,
 mv 58 0,
 op 59 (.lenStr (.tmp 58)),
 op 60 (.arith .lss (.tmp 57) (.tmp 59))])
 (.cond (.tmp 60) .skip
 (.exit 4)))
 (.block 5 (.seq (.seq (.ops [mv 61 0,
 mv 62 12,
 op 63 (.idxStr (.tmp 61) (.tmp 62)),
 op 64 (.idxArr 256 1 (.glob 1) (.tmp 63)),
 op 65 (.load false 1 (.tmp 64)),
 op 66 (.arith .eql (.tmp 65) (.const (.int .u8 (.ofNat 0))))])
 (.cond (.tmp 66) (.seq (.ops [mv 67 12,
 op 68 (.arith .add (.tmp 67) (.const (.int .i64 (.ofNat 1)))),
 mv 12 68])
 (.exit 5))
 .skip))
 (.seq (.ops [mv 69 9,
 mv 70 10,
 mv 71 0,
 mv 72 11,
 mv 73 12,
 op 74 (.slice .str (.tmp 71) (.some (.tmp 72)) (.some (.tmp 73)) .none),
 op 75 (.idxRow 1 (.tmp 69) (.tmp 70)),
 ⟨.none,.none,(.op (.store 1 (.tmp 75) (.tmp 74)))⟩])
 (.seq (.ops [mv 76 10,
 op 77 (.arith .add (.tmp 76) (.const (.int .i64 (.ofNat 1)))),
 mv 10 77])
 (.seq (.ops [mv 78 12,
 op 79 (.arith .add (.tmp 78) (.const (.int .i64 (.ofNat 1)))),
 mv 12 79])
 (.seq (.block 6 (.loop (.seq (.seq (.ops [mv 80 12,
 mv 81 0,
 op 82 (.lenStr (.tmp 81)),
 op 83 (.arith .lss (.tmp 80) (.tmp 82)),
 mv 84 83,
 ⟨(.some 85),(.some (84,true)),(.op (.move (.tmp 0)))⟩,
 ⟨(.some 86),(.some (84,true)),(.op (.move (.tmp 12)))⟩,
 ⟨(.some 87),(.some (84,true)),(.op (.idxStr (.tmp 85) (.tmp 86)))⟩,
 ⟨(.some 88),(.some (84,true)),(.op (.idxArr 256 1 (.glob 1) (.tmp 87)))⟩,
 ⟨(.some 89),(.some (84,true)),(.op (.load false 1 (.tmp 88)))⟩,
 ⟨(.some 90),(.some (84,true)),(.op (.arith .neq (.tmp 89) (.const (.int .u8 (.ofNat 0)))))⟩,
 op 91 (.pick (.tmp 84) (.tmp 90) (.const (.bool false)))])
 (.cond (.tmp 91) .skip
 (.exit 6)))
 (.block 7 (.ops [mv 92 12,
 op 93 (.arith .add (.tmp 92) (.const (.int .i64 (.ofNat 1)))),
 mv 12 93])))))
 (.ops [mv 94 12,
 mv 11 94]))))))))))
 (.seq (.seq (.ops [mv 95 11,
 mv 96 0,
 op 97 (.lenStr (.tmp 96)),
 op 98 (.arith .lss (.tmp 95) (.tmp 97))])
 (.cond (.tmp 98) (.ops [mv 99 9,
 mv 100 10,
 mv 101 0,
 mv 102 11,
 op 103 (.slice .str (.tmp 101) (.some (.tmp 102)) .none .none),
 op 104 (.idxRow 1 (.tmp 99) (.tmp 100)),
 ⟨.none,.none,(.op (.store 1 (.tmp 104) (.tmp 103)))⟩])
 .skip))
 (.seq (.ops [mv 105 9,
 mv 2 105])
 .ret))))))))))))))), [.tmp 2]⟩
def c264 : CFunc := ⟨44, (.seq (.ops [op 2 (.alloc 238 [(.str []),(.bool false),(.str []),(.int .i64 (.ofNat 0))])])
 (.seq (.ops [mv 4 0,
 ⟨(.some 5),.none,(.call (.func 211) [(.tmp 4)])⟩,
 op 6 (.build [(.str []),(.bool false),(.str []),(.int .i64 (.ofNat 0))] [(0,1,(.tmp 5))]),
 op 3 (.alloc 238 [(.str []),(.bool false),(.str []),(.int .i64 (.ofNat 0))]),
 ⟨.none,.none,(.op (.store 4 (.tmp 3) (.tmp 6)))⟩])
 (.seq (.seq (.ops [mv 7 0,
 ⟨(.some 8),.none,(.call (.func 168) [(.tmp 7),(.const (.int .u8 (.ofNat 91)))])⟩,
 op 9 (.un .not (.tmp 8))])
 (.cond (.tmp 9) (.seq (.ops [op 10 (.load true 4 (.tmp 3)),
 ⟨.none,.none,(.op (.store 4 (.tmp 2) (.tmp 10)))⟩])
 .ret)
 .skip))
 (.seq (.ops [op 11 (.fieldAddr 1 (.tmp 3)),
 ⟨.none,.none,(.op (.store 1 (.tmp 11) (.const (.bool true))))⟩])
 (.seq (.seq (.ops [mv 12 0,
 op 13 (.nilCheck (.tmp 12)),
 op 14 (.fieldAddr 1 (.tmp 13)),
 op 15 (.fieldAddr 0 (.tmp 14)),
 op 16 (.load false 1 (.tmp 15)),
 op 17 (.arith .eql (.tmp 16) (.const (.int .u8 (.ofNat 48))))])
 (.cond (.tmp 17) (.ops [mv 18 0,
 ⟨(.some 19),.none,(.call (.func 267) [(.tmp 18)])⟩,
 op 20 (.fieldAddr 2 (.tmp 3)),
 op 21 (.fieldAddr 1 (.tmp 20)),
 ⟨.none,.none,(.op (.store 1 (.tmp 21) (.tmp 19)))⟩])
 (.seq (.ops [mv 22 0,
 ⟨(.some 23),.none,(.call (.func 211) [(.tmp 22)])⟩,
 op 24 (.fieldAddr 2 (.tmp 3)),
 op 25 (.fieldAddr 0 (.tmp 24)),
 ⟨.none,.none,(.op (.store 1 (.tmp 25) (.tmp 23)))⟩])
 (.block 0 (.seq (.ops [mv 27 0,
 ⟨(.some 28),.none,(.call (.func 168) [(.tmp 27),(.const (.int .u8 (.ofNat 43)))])⟩,
 mv 26 28])
 (.cond (.tmp 26) (.ops [mv 29 0,
 ⟨(.some 30),.none,(.call (.func 267) [(.tmp 29)])⟩,
 op 31 (.fieldAddr 2 (.tmp 3)),
 op 32 (.fieldAddr 1 (.tmp 31)),
 ⟨.none,.none,(.op (.store 1 (.tmp 32) (.tmp 30)))⟩])
 (.seq (.ops [mv 34 0,
 ⟨(.some 35),.none,(.call (.func 168) [(.tmp 34),(.const (.int .u8 (.ofNat 45)))])⟩,
 mv 33 35])
 (.cond (.tmp 33) (.ops [mv 36 0,
 ⟨(.some 37),.none,(.call (.func 267) [(.tmp 36)])⟩,
 op 38 (.un .neg (.tmp 37)),
 op 39 (.fieldAddr 2 (.tmp 3)),
 op 40 (.fieldAddr 1 (.tmp 39)),
 ⟨.none,.none,(.op (.store 1 (.tmp 40) (.tmp 38)))⟩])
 .skip))))))))
 (.seq (.ops [mv 41 0,
 ⟨(.some 42),.none,(.call (.func 171) [(.tmp 41),(.const (.int .u8 (.ofNat 93)))])⟩])
 (.seq (.ops [op 43 (.load true 4 (.tmp 3)),
 ⟨.none,.none,(.op (.store 4 (.tmp 2) (.tmp 43)))⟩])
 .ret))))))), [.cell true 4 2]⟩
def c265 : CFunc := ⟨52, (.seq (.ops [op 2 (.alloc 118 [(.bool false),.nilSlice,(.bool false),.nilSlice]),
 op 3 (.move (.const (.int .i64 (.ofNat 0))))])
 (.seq (.ops [mv 12 0,
 ⟨(.some 13),.none,(.call (.func 310) [(.tmp 12),(.const (.str [47]))])⟩,
 mv 11 13,
 op 14 (.extract (.tmp 11) 0),
 op 15 (.extract (.tmp 11) 1),
 op 16 (.extract (.tmp 11) 2),
 mv 4 14,
 mv 5 15,
 mv 6 16])
 (.seq (.ops [mv 18 4,
 ⟨(.some 19),.none,(.call (.func 311) [(.tmp 18)])⟩,
 mv 17 19,
 op 20 (.extract (.tmp 17) 0),
 op 21 (.extract (.tmp 17) 1),
 op 7 (.alloc 116 [(.bool false),.nilSlice]),
 ⟨.none,.none,(.op (.store 2 (.tmp 7) (.tmp 20)))⟩,
 mv 8 21])
 (.seq (.seq (.ops [mv 22 8,
 op 23 (.arith .neq (.tmp 22) (.const (.int .i64 (.ofNat 0))))])
 (.cond (.tmp 23) (.seq (.ops [op 24 (.build [(.bool false),.nilSlice,(.bool false),.nilSlice] []),
 mv 25 8,
 ⟨.none,.none,(.op (.store 4 (.tmp 2) (.tmp 24)))⟩,
 mv 3 25])
 .ret)
 .skip))
 (.seq (.seq (.ops [mv 26 6,
 op 27 (.un .not (.tmp 26))])
 (.cond (.tmp 27) (.seq (.draw [⟨op 28 (.load true 2 (.tmp 7)),1,[2]⟩,
 ⟨⟨(.some 29),.none,(.call (.func 288) [(.const (.int .i64 (.ofNat 1)))])⟩,2,[]⟩,
 ⟨op 30 (.build [(.bool false),.nilSlice,(.bool false),.nilSlice] [(0,2,(.tmp 28)),(2,2,(.tmp 29))]),0,[]⟩,
 ⟨⟨.none,.none,(.op (.store 4 (.tmp 2) (.tmp 30)))⟩,2,[]⟩,
 ⟨op 3 (.move (.const (.int .i64 (.ofNat 0)))),0,[]⟩])
 .ret)
 .skip))
 (.seq (.ops [mv 32 5,
 ⟨(.some 33),.none,(.call (.func 311) [(.tmp 32)])⟩,
 mv 31 33,
 op 34 (.extract (.tmp 31) 0),
 op 35 (.extract (.tmp 31) 1),
 op 9 (.alloc 116 [(.bool false),.nilSlice]),
 ⟨.none,.none,(.op (.store 2 (.tmp 9) (.tmp 34)))⟩,
 mv 8 35])
 (.seq (.seq (.ops [mv 36 8,
 op 37 (.arith .neq (.tmp 36) (.const (.int .i64 (.ofNat 0))))])
 (.cond (.tmp 37) (.seq (.ops [op 38 (.build [(.bool false),.nilSlice,(.bool false),.nilSlice] []),
 mv 39 8,
 ⟨.none,.none,(.op (.store 4 (.tmp 2) (.tmp 38)))⟩,
 mv 3 39])
 .ret)
 .skip))
 (.seq (.ops [op 40 (.load true 2 (.tmp 7)),
 op 41 (.load true 2 (.tmp 9)),
 op 42 (.build [(.bool false),.nilSlice,(.bool false),.nilSlice] [(0,2,(.tmp 40)),(2,2,(.tmp 41))]),
 op 10 (.alloc 118 [(.bool false),.nilSlice,(.bool false),.nilSlice]),
 ⟨.none,.none,(.op (.store 4 (.tmp 10) (.tmp 42)))⟩])
 (.seq (.seq (.ops [op 43 (.load true 2 (.tmp 9)),
 ⟨(.some 44),.none,(.call (.func 132) [(.tmp 43)])⟩,
 mv 45 44,
 ⟨(.some 46),(.some (45,false)),(.op (.load true 4 (.tmp 10)))⟩,
 ⟨(.some 47),(.some (45,false)),(.call (.func 88) [(.tmp 46)])⟩,
 ⟨(.some 48),(.some (45,false)),(.op (.un .not (.tmp 47)))⟩,
 op 49 (.pick (.tmp 45) (.const (.bool true)) (.tmp 48))])
 (.cond (.tmp 49) (.seq (.ops [op 50 (.build [(.bool false),.nilSlice,(.bool false),.nilSlice] []),
 ⟨.none,.none,(.op (.store 4 (.tmp 2) (.tmp 50)))⟩,
 op 3 (.move (.const (.int .i64 (.ofNat 3))))])
 .ret)
 .skip))
 (.seq (.ops [op 51 (.load true 4 (.tmp 10)),
 ⟨.none,.none,(.op (.store 4 (.tmp 2) (.tmp 51)))⟩,
 op 3 (.move (.const (.int .i64 (.ofNat 0))))])
 .ret)))))))))), [.cell true 4 2, .tmp 3]⟩
def c266 : CFunc := ⟨16, (.seq (.ops [op 2 (.move (.const (.bool false)))])
 (.seq (.ops [mv 6 0,
 ⟨(.some 7),.none,(.call (.func 209) [(.tmp 6)])⟩,
 mv 5 7,
 op 8 (.extract (.tmp 5) 0),
 op 9 (.extract (.tmp 5) 1),
 mv 3 8,
 mv 4 9])
 (.seq (.ops [mv 10 4,
 mv 11 10,
 ⟨(.some 12),(.some (11,false)),(.call (.func 263) [(.const (.str [112,111,105,110,116,32,108,105,110,101,32,99,105,114,99,108,101,32,111,110,32,97,116,32,109,97,99,114,111,32,117,115,101,32,114,101,112,101,97,116,32,102,114,111,109,32,116,111,32,101,110,100]))])⟩,
 ⟨(.some 13),(.some (11,false)),(.op (.move (.tmp 0)))⟩,
 ⟨(.some 14),(.some (11,false)),(.call (.func 312) [(.tmp 12),(.tmp 13)])⟩,
 op 15 (.pick (.tmp 11) (.const (.bool true)) (.tmp 14)),
 mv 2 15])
 .ret))), [.tmp 2]⟩
def c269 : CFunc := ⟨62, (.seq (.ops [op 4 (.move (.const .nilSlice))])
 (.seq (.seq (.ops [mv 9 0,
 op 10 (.lenRow (.tmp 9)),
 mv 11 1,
 op 12 (.lenRow (.tmp 11)),
 op 13 (.arith .lss (.tmp 10) (.tmp 12))])
 (.cond (.tmp 13) (.ops [mv 14 1,
 mv 15 0,
 mv 0 14,
 mv 1 15])
 .skip))
 (.seq (.ops [mv 16 0,
 op 17 (.lenRow (.tmp 16)),
 op 18 (.arith .add (.tmp 17) (.const (.int .i64 (.ofNat 1)))),
 op 19 (.makeSlice 194 [(.int .u32 (.ofNat 0))] 4 (.tmp 18) (.tmp 18)),
 mv 5 19])
 (.seq (.ops [mv 20 5,
 mv 21 0,
 op 22 (.copy 1 (.tmp 20) (.tmp 21))])
 (.seq (.ops [op 6 (.move (.const (.int .u64 (.ofNat 0))))])
 (.seq (.seq (.ops [mv 23 0,
 op 24 (.lenRow (.tmp 23)),
 op 25 (.move (.const (.int .i64 (.ofNat 0))))])
 (.block 0 (.loop (.seq (.ops [op 26 (.arith .lss (.tmp 25) (.tmp 24))])
 (.seq (.cond (.tmp 26) .skip
 (.exit 0))
 (.seq (.block 1 (.seq (.ops [mv 27 25,
 mv 7 27])
 (.seq (.ops [mv 28 0,
 mv 29 7,
 op 30 (.idxRow 1 (.tmp 28) (.tmp 29)),
 op 31 (.load false 1 (.tmp 30)),
 op 32 (.toInt .u64 (.tmp 31)),
 mv 33 6,
 op 34 (.arith .add (.tmp 32) (.tmp 33)),
 mv 8 34])
 (.seq (.seq (.ops [mv 35 7,
 mv 36 1,
 op 37 (.lenRow (.tmp 36)),
 op 38 (.arith .lss (.tmp 35) (.tmp 37))])
 (.cond (.tmp 38) (.ops [mv 39 8,
 mv 40 1,
 mv 41 7,
 op 42 (.idxRow 1 (.tmp 40) (.tmp 41)),
 op 43 (.load false 1 (.tmp 42)),
 op 44 (.toInt .u64 (.tmp 43)),
 op 45 (.arith .add (.tmp 39) (.tmp 44)),
 mv 8 45])
 .skip))
 (.seq (.ops [mv 46 5,
 mv 47 7,
 mv 48 8,
 op 49 (.toInt .u32 (.tmp 48)),
 op 50 (.idxRow 1 (.tmp 46) (.tmp 47)),
 ⟨.none,.none,(.op (.store 1 (.tmp 50) (.tmp 49)))⟩])
 (.ops [mv 51 8,
 op 52 (.arith .shr (.tmp 51) (.const (.int .u64 (.ofNat 32)))),
 mv 6 52]))))))
 (.ops [op 53 (.arith .add (.tmp 25) (.const (.int .i64 (.ofNat 1)))),
 mv 25 53])))))))
 (.seq (.ops [mv 54 5,
 mv 55 0,
 op 56 (.lenRow (.tmp 55)),
 mv 57 6,
 op 58 (.toInt .u32 (.tmp 57)),
 op 59 (.idxRow 1 (.tmp 54) (.tmp 56)),
 ⟨.none,.none,(.op (.store 1 (.tmp 59) (.tmp 58)))⟩])
 (.seq (.ops [mv 60 5,
 ⟨(.some 61),.none,(.call (.func 217) [(.tmp 60)])⟩,
 mv 4 61])
 .ret)))))))), [.tmp 4]⟩
def c288 : CFunc := ⟨25, (.seq (.ops [op 2 (.alloc 116 [(.bool false),.nilSlice])])
 (.seq (.ops [mv 6 0,
 op 7 (.toInt .u64 (.tmp 6)),
 mv 3 7])
 (.seq (.seq (.ops [mv 8 0,
 op 9 (.arith .lss (.tmp 8) (.const (.int .i64 (.ofNat 0))))])
 (.cond (.tmp 9) (.ops [mv 10 3,
 op 11 (.un .neg (.tmp 10)),
 mv 3 11])
 .skip))
 (.seq (.ops [mv 13 0,
 op 14 (.arith .lss (.tmp 13) (.const (.int .i64 (.ofNat 0)))),
 mv 15 3,
 op 16 (.toInt .u32 (.tmp 15)),
 mv 17 3,
 op 18 (.arith .shr (.tmp 17) (.const (.int .u64 (.ofNat 32)))),
 op 19 (.toInt .u32 (.tmp 18)),
 op 20 (.buildSlice 194 [(.int .u32 (.ofNat 0))] 2 [(0,1,(.tmp 16)),(1,1,(.tmp 19))]),
 ⟨(.some 21),.none,(.call (.func 176) [(.tmp 14),(.tmp 20)])⟩,
 mv 12 21,
 op 22 (.extract (.tmp 12) 0),
 op 23 (.extract (.tmp 12) 1),
 op 4 (.alloc 116 [(.bool false),.nilSlice]),
 ⟨.none,.none,(.op (.store 2 (.tmp 4) (.tmp 22)))⟩,
 mv 5 23])
 (.seq (.ops [op 24 (.load true 2 (.tmp 4)),
 ⟨.none,.none,(.op (.store 2 (.tmp 2) (.tmp 24)))⟩])
 .ret))))), [.cell true 2 2]⟩
def c303 : CFunc := ⟨103, (.seq (.ops [mv 9 2,
 ⟨(.some 10),.none,(.call (.func 157) [(.const (.str [32,32])),(.tmp 9)])⟩,
 mv 6 10])
 (.seq (.ops [mv 11 1,
 op 12 (.lenRow (.tmp 11)),
 op 13 (.move (.const (.int .i64 (.ofNat 0))))])
 (.block 0 (.loop (.seq (.ops [op 14 (.arith .lss (.tmp 13) (.tmp 12))])
 (.seq (.cond (.tmp 14) .skip
 (.exit 0))
 (.seq (.block 1 (.seq (.ops [op 15 (.idxRow 21 (.tmp 11) (.tmp 13)),
 op 16 (.load true 21 (.tmp 15)),
 op 8 (.alloc 234 [(.int .i64 (.ofNat 0)),(.int .i64 (.ofNat 0)),(.int .i64 (.ofNat 0)),.nilSlice,(.int .i64 (.ofNat 0)),.nilSlice,(.bool false),.nilSlice,(.bool false),.nilSlice,(.bool false),.nilSlice,(.bool false),.nilSlice,(.int .i64 (.ofNat 0)),.nilSlice,(.str []),(.str []),(.int .i64 (.ofNat 0)),(.int .i64 (.ofNat 0)),.nilSlice]),
 ⟨.none,.none,(.op (.store 21 (.tmp 8) (.tmp 16)))⟩])
 (.seq (.draw [⟨mv 17 0,0,[]⟩,
 ⟨op 18 (.fieldAddr 0 (.tmp 8)),0,[]⟩,
 ⟨op 19 (.load false 1 (.tmp 18)),1,[0]⟩,
 ⟨op 20 (.arith .geq (.tmp 19) (.const (.int .i64 (.ofNat 1)))),0,[]⟩,
 ⟨mv 21 20,0,[]⟩,
 ⟨⟨(.some 22),(.some (21,true)),(.op (.fieldAddr 0 (.tmp 8)))⟩,0,[]⟩,
 ⟨⟨(.some 23),(.some (21,true)),(.op (.load false 1 (.tmp 22)))⟩,1,[0]⟩,
 ⟨⟨(.some 24),(.some (21,true)),(.op (.arith .leq (.tmp 23) (.const (.int .i64 (.ofNat 4)))))⟩,0,[]⟩,
 ⟨op 25 (.pick (.tmp 21) (.tmp 24) (.const (.bool false))),0,[]⟩,
 ⟨mv 26 25,0,[]⟩,
 ⟨⟨(.some 27),(.some (26,true)),(.op (.load true 21 (.tmp 8)))⟩,1,[0,13]⟩,
 ⟨⟨(.some 28),(.some (26,true)),(.op (.load true 21 (.tmp 8)))⟩,1,[0]⟩,
 ⟨⟨(.some 29),(.some (26,true)),(.call (.func 345) [(.tmp 28)])⟩,2,[]⟩,
 ⟨⟨(.some 30),(.some (26,true)),(.call (.func 344) [(.tmp 27),(.tmp 29)])⟩,2,[]⟩,
 ⟨op 31 (.pick (.tmp 26) (.tmp 30) (.const (.bool false))),0,[]⟩,
 ⟨⟨(.some 32),.none,(.call (.func 343) [(.tmp 17),(.tmp 31)])⟩,2,[]⟩])
 (.seq (.seq (.ops [mv 33 0,
 op 34 (.nilCheck (.tmp 33)),
 op 35 (.fieldAddr 2 (.tmp 34)),
 op 36 (.load false 1 (.tmp 35))])
 (.cond (.tmp 36) .ret
 .skip))
 (.seq (.ops [mv 37 0,
 op 38 (.nilCheck (.tmp 37)),
 op 39 (.fieldAddr 0 (.tmp 38)),
 mv 40 6,
 ⟨(.some 41),.none,(.call (.func 97) [(.tmp 39),(.tmp 40)])⟩])
 (.seq (.seq (.ops [op 42 (.fieldAddr 0 (.tmp 8)),
 op 43 (.load false 1 (.tmp 42))])
 (.block 2 (.seq (.ops [op 72 (.arith .eql (.tmp 43) (.const (.int .i64 (.ofNat 1)))),
 mv 71 72])
 (.cond (.tmp 71) (.ops [mv 73 0,
 op 74 (.load true 21 (.tmp 8)),
 ⟨(.some 75),.none,(.call (.func 346) [(.tmp 73),(.tmp 74)])⟩])
 (.seq (.ops [op 77 (.arith .eql (.tmp 43) (.const (.int .i64 (.ofNat 3)))),
 mv 76 77])
 (.cond (.tmp 76) (.seq (.ops [mv 78 0,
 op 79 (.nilCheck (.tmp 78)),
 op 80 (.fieldAddr 0 (.tmp 79)),
 ⟨(.some 81),.none,(.call (.func 97) [(.tmp 80),(.const (.str [117,115,101,32]))])⟩])
 (.seq (.ops [mv 82 0,
 op 83 (.fieldAddr 3 (.tmp 8)),
 op 84 (.load false 1 (.tmp 83)),
 ⟨(.some 85),.none,(.call (.func 347) [(.tmp 82),(.tmp 84)])⟩])
 (.seq (.ops [mv 86 0,
 op 87 (.nilCheck (.tmp 86)),
 op 88 (.fieldAddr 0 (.tmp 87)),
 ⟨(.some 89),.none,(.call (.func 97) [(.tmp 88),(.const (.str [32,61,32]))])⟩])
 (.seq (.ops [mv 90 0,
 op 91 (.fieldAddr 16 (.tmp 8)),
 op 92 (.load false 1 (.tmp 91)),
 ⟨(.some 93),.none,(.call (.func 348) [(.tmp 90),(.tmp 92)])⟩])
 (.ops [mv 94 0,
 op 95 (.fieldAddr 5 (.tmp 8)),
 op 96 (.load false 1 (.tmp 95)),
 ⟨(.some 97),.none,(.call (.func 349) [(.tmp 94),(.tmp 96)])⟩])))))
 (.seq (.ops [mv 44 0,
 mv 45 2,
 op 46 (.arith .lss (.tmp 45) (.const (.int .i64 (.ofNat 6)))),
 ⟨(.some 47),.none,(.call (.func 343) [(.tmp 44),(.tmp 46)])⟩])
 (.seq (.seq (.ops [mv 48 0,
 op 49 (.nilCheck (.tmp 48)),
 op 50 (.fieldAddr 2 (.tmp 49)),
 op 51 (.load false 1 (.tmp 50))])
 (.cond (.tmp 51) .ret
 .skip))
 (.seq (.ops [mv 52 0,
 op 53 (.load true 21 (.tmp 8)),
 ⟨(.some 54),.none,(.call (.func 350) [(.tmp 52),(.tmp 53)])⟩])
 (.seq (.ops [mv 55 0,
 op 56 (.nilCheck (.tmp 55)),
 op 57 (.fieldAddr 0 (.tmp 56)),
 ⟨(.some 58),.none,(.call (.func 97) [(.tmp 57),(.const (.str [10]))])⟩])
 (.seq (.ops [mv 59 0,
 op 60 (.fieldAddr 20 (.tmp 8)),
 op 61 (.load false 1 (.tmp 60)),
 mv 62 2,
 op 63 (.arith .add (.tmp 62) (.const (.int .i64 (.ofNat 1)))),
 ⟨(.some 64),.none,(.call (.func 303) [(.tmp 59),(.tmp 61),(.tmp 63)])⟩])
 (.ops [mv 65 0,
 op 66 (.nilCheck (.tmp 65)),
 op 67 (.fieldAddr 0 (.tmp 66)),
 mv 68 6,
 op 69 (.arith .add (.tmp 68) (.const (.str [101,110,100]))),
 ⟨(.some 70),.none,(.call (.func 97) [(.tmp 67),(.tmp 69)])⟩]))))))))))))
 (.ops [mv 98 0,
 op 99 (.nilCheck (.tmp 98)),
 op 100 (.fieldAddr 0 (.tmp 99)),
 ⟨(.some 101),.none,(.call (.func 97) [(.tmp 100),(.const (.str [10]))])⟩])))))))
 (.ops [op 102 (.arith .add (.tmp 13) (.const (.int .i64 (.ofNat 1)))),
 mv 13 102])))))))), []⟩
def c304 : CFunc := ⟨99, (.seq (.ops [op 3 (.box 234 (.tmp 1)),
 op 4 (.alloc 160 [(.int .i64 (.ofNat 0)),(.int .i64 (.ofNat 0))])])
 (.seq (.ops [mv 14 0,
 op 15 (.fieldAddr 5 (.tmp 3)),
 op 16 (.load false 1 (.tmp 15)),
 ⟨(.some 17),.none,(.call (.func 351) [(.tmp 14),(.tmp 16)])⟩,
 mv 13 17,
 op 18 (.extract (.tmp 13) 0),
 op 19 (.extract (.tmp 13) 1),
 mv 5 18,
 mv 6 19])
 (.seq (.seq (.ops [mv 20 6,
 op 21 (.arith .neq (.tmp 20) (.const (.int .i64 (.ofNat 0))))])
 (.cond (.tmp 21) (.seq (.ops [op 22 (.load true 21 (.tmp 3)),
 mv 23 6,
 ⟨(.some 24),.none,(.call (.func 352) [(.tmp 22),(.tmp 23)])⟩,
 ⟨.none,.none,(.op (.store 2 (.tmp 4) (.tmp 24)))⟩])
 .ret)
 .skip))
 (.seq (.ops [op 26 (.fieldAddr 4 (.tmp 3)),
 op 27 (.load false 1 (.tmp 26)),
 ⟨(.some 28),.none,(.call (.func 139) [(.tmp 27)])⟩,
 mv 25 28,
 op 29 (.extract (.tmp 25) 0),
 op 30 (.extract (.tmp 25) 1),
 op 31 (.extract (.tmp 25) 2),
 mv 7 29,
 mv 8 30,
 mv 9 31])
 (.seq (.seq (.ops [mv 32 5,
 op 33 (.lenRow (.tmp 32)),
 mv 34 7,
 op 35 (.lenRow (.tmp 34)),
 op 36 (.arith .neq (.tmp 33) (.tmp 35))])
 (.cond (.tmp 36) (.seq (.ops [op 37 (.load true 21 (.tmp 3)),
 ⟨(.some 38),.none,(.call (.func 352) [(.tmp 37),(.const (.int .i64 (.ofNat 103)))])⟩,
 ⟨.none,.none,(.op (.store 2 (.tmp 4) (.tmp 38)))⟩])
 .ret)
 .skip))
 (.seq (.seq (.ops [mv 39 7,
 op 40 (.lenRow (.tmp 39)),
 op 41 (.move (.const (.int .i64 (.ofNat 0))))])
 (.block 0 (.loop (.seq (.ops [op 42 (.arith .lss (.tmp 41) (.tmp 40))])
 (.seq (.cond (.tmp 42) .skip
 (.exit 0))
 (.seq (.block 1 (.seq (.ops [mv 43 41,
 op 44 (.idxRow 1 (.tmp 39) (.tmp 41)),
 op 45 (.load false 1 (.tmp 44)),
 mv 10 43,
 mv 11 45])
 (.seq (.ops [mv 46 5,
 mv 47 10,
 op 48 (.idxRow 1 (.tmp 46) (.tmp 47)),
 op 49 (.load false 1 (.tmp 48)),
 op 50 (.arith .eql (.tmp 49) (.const (.int .i64 (.ofNat 2)))),
 mv 51 50,
 ⟨(.some 52),(.some (51,false)),(.op (.move (.tmp 5)))⟩,
 ⟨(.some 53),(.some (51,false)),(.op (.move (.tmp 10)))⟩,
 ⟨(.some 54),(.some (51,false)),(.op (.idxRow 1 (.tmp 52) (.tmp 53)))⟩,
 ⟨(.some 55),(.some (51,false)),(.op (.load false 1 (.tmp 54)))⟩,
 ⟨(.some 56),(.some (51,false)),(.op (.arith .eql (.tmp 55) (.const (.int .i64 (.ofNat 3)))))⟩,
 op 57 (.pick (.tmp 51) (.const (.bool true)) (.tmp 56)),
 mv 12 57])
 (.seq (.ops [mv 58 5,
 mv 59 10,
 op 60 (.idxRow 1 (.tmp 58) (.tmp 59)),
 op 61 (.load false 1 (.tmp 60)),
 mv 62 11,
 op 63 (.arith .neq (.tmp 61) (.tmp 62)),
 mv 64 63,
 ⟨(.some 65),(.some (64,true)),(.op (.move (.tmp 11)))⟩,
 ⟨(.some 66),(.some (64,true)),(.op (.arith .eql (.tmp 65) (.const (.int .i64 (.ofNat 0)))))⟩,
 ⟨(.some 67),(.some (64,true)),(.op (.move (.tmp 66)))⟩,
 ⟨(.some 68),(.some (67,true)),(.op (.move (.tmp 12)))⟩,
 ⟨(.some 69),(.some (64,true)),(.op (.pick (.tmp 67) (.tmp 68) (.const (.bool false))))⟩,
 ⟨(.some 70),(.some (64,true)),(.op (.un .not (.tmp 69)))⟩,
 op 71 (.pick (.tmp 64) (.tmp 70) (.const (.bool false)))])
 (.cond (.tmp 71) (.seq (.ops [op 72 (.load true 21 (.tmp 3)),
 ⟨(.some 73),.none,(.call (.func 352) [(.tmp 72),(.const (.int .i64 (.ofNat 102)))])⟩,
 ⟨.none,.none,(.op (.store 2 (.tmp 4) (.tmp 73)))⟩])
 .ret)
 .skip)))))
 (.ops [op 74 (.arith .add (.tmp 41) (.const (.int .i64 (.ofNat 1)))),
 mv 41 74])))))))
 (.seq (.seq (.ops [op 75 (.fieldAddr 2 (.tmp 3)),
 op 76 (.load false 1 (.tmp 75)),
 mv 77 8,
 op 78 (.arith .neq (.tmp 76) (.tmp 77))])
 (.cond (.tmp 78) (.seq (.ops [op 79 (.load true 21 (.tmp 3)),
 ⟨(.some 80),.none,(.call (.func 352) [(.tmp 79),(.const (.int .i64 (.ofNat 102)))])⟩,
 ⟨.none,.none,(.op (.store 2 (.tmp 4) (.tmp 80)))⟩])
 .ret)
 .skip))
 (.seq (.seq (.ops [op 81 (.fieldAddr 14 (.tmp 3)),
 op 82 (.load false 1 (.tmp 81)),
 op 83 (.arith .neq (.tmp 82) (.const (.int .i64 (.ofNat 0)))),
 mv 84 83,
 ⟨(.some 85),(.some (84,true)),(.op (.move (.tmp 9)))⟩,
 ⟨(.some 86),(.some (84,true)),(.op (.un .not (.tmp 85)))⟩,
 op 87 (.pick (.tmp 84) (.tmp 86) (.const (.bool false)))])
 (.cond (.tmp 87) (.seq (.ops [op 88 (.load true 21 (.tmp 3)),
 ⟨(.some 89),.none,(.call (.func 352) [(.tmp 88),(.const (.int .i64 (.ofNat 104)))])⟩,
 ⟨.none,.none,(.op (.store 2 (.tmp 4) (.tmp 89)))⟩])
 .ret)
 .skip))
 (.seq (.draw [⟨op 90 (.load true 21 (.tmp 3)),1,[8]⟩,
 ⟨mv 91 0,0,[]⟩,
 ⟨op 92 (.fieldAddr 3 (.tmp 3)),0,[]⟩,
 ⟨op 93 (.load false 1 (.tmp 92)),1,[0]⟩,
 ⟨op 94 (.fieldAddr 2 (.tmp 3)),0,[]⟩,
 ⟨op 95 (.load false 1 (.tmp 94)),1,[0]⟩,
 ⟨op 96 (.build [(.str []),(.int .i64 (.ofNat 0)),.nilPtr,(.bool false),(.bool false)] [(1,1,(.tmp 95))]),0,[]⟩,
 ⟨⟨(.some 97),.none,(.call (.func 353) [(.tmp 91),(.tmp 93),(.tmp 96)])⟩,2,[]⟩,
 ⟨⟨(.some 98),.none,(.call (.func 352) [(.tmp 90),(.tmp 97)])⟩,2,[]⟩,
 ⟨⟨.none,.none,(.op (.store 2 (.tmp 4) (.tmp 98)))⟩,2,[]⟩])
 .ret))))))))), [.cell true 2 4]⟩
def c310 : CFunc := ⟨13, (.seq (.ops [op 4 (.move (.const (.str []))),
 op 5 (.move (.const (.str []))),
 op 6 (.move (.const (.bool false)))])
 (.seq (.ops [mv 7 0,
 mv 8 1,
 ⟨(.some 9),.none,(.call (.func 356) [(.tmp 7),(.tmp 8)])⟩,
 op 10 (.extract (.tmp 9) 0),
 op 11 (.extract (.tmp 9) 1),
 op 12 (.extract (.tmp 9) 2),
 mv 4 10,
 mv 5 11,
 mv 6 12])
 .ret)), [.tmp 4, .tmp 5, .tmp 6]⟩
def c311 : CFunc := ⟨64, (.seq (.ops [op 2 (.alloc 116 [(.bool false),.nilSlice]),
 op 3 (.move (.const (.int .i64 (.ofNat 0))))])
 (.seq (.ops [mv 13 0,
 ⟨(.some 14),.none,(.call (.func 357) [(.tmp 13)])⟩,
 mv 12 14,
 op 15 (.extract (.tmp 12) 0),
 op 16 (.extract (.tmp 12) 1),
 op 17 (.extract (.tmp 12) 2),
 mv 4 15,
 mv 5 16,
 mv 6 17])
 (.seq (.seq (.ops [mv 18 6,
 op 19 (.un .not (.tmp 18))])
 (.cond (.tmp 19) (.seq (.ops [op 20 (.build [(.bool false),.nilSlice] []),
 ⟨.none,.none,(.op (.store 2 (.tmp 2) (.tmp 20)))⟩,
 op 3 (.move (.const (.int .i64 (.ofNat 3))))])
 .ret)
 .skip))
 (.seq (.seq (.ops [mv 21 4,
 op 22 (.lenStr (.tmp 21)),
 op 23 (.arith .gtr (.tmp 22) (.const (.int .i64 (.ofNat 1280))))])
 (.cond (.tmp 23) (.seq (.ops [op 24 (.build [(.bool false),.nilSlice] []),
 ⟨.none,.none,(.op (.store 2 (.tmp 2) (.tmp 24)))⟩,
 op 3 (.move (.const (.int .i64 (.ofNat 2))))])
 .ret)
 .skip))
 (.seq (.ops [op 7 (.move (.const .nilSlice))])
 (.seq (.seq (.ops [op 8 (.move (.const (.int .i64 (.ofNat 0))))])
 (.block 0 (.loop (.seq (.seq (.ops [mv 25 8,
 mv 26 4,
 op 27 (.lenStr (.tmp 26)),
 op 28 (.arith .lss (.tmp 25) (.tmp 27))])
 (.cond (.tmp 28) .skip
 (.exit 0)))
 (.seq (.block 1 (.seq (.ops [op 9 (.move (.const (.int .u32 (.ofNat 0)))),
 op 10 (.move (.const (.int .u32 (.ofNat 1))))])
 (.seq (.seq (.ops [mv 31 8,
 mv 11 31])
 (.block 2 (.loop (.seq (.seq (.ops [mv 32 11,
 mv 33 8,
 op 34 (.arith .add (.tmp 33) (.const (.int .i64 (.ofNat 9)))),
 mv 35 4,
 op 36 (.lenStr (.tmp 35)),
 op 37 (.minmax false (.tmp 34) (.tmp 36)),
 op 38 (.arith .lss (.tmp 32) (.tmp 37))])
 (.cond (.tmp 38) .skip
 (.exit 2)))
 (.seq (.block 3 (.seq (.ops [mv 41 9,
 op 42 (.arith .mul (.tmp 41) (.const (.int .u32 (.ofNat 10)))),
 mv 43 4,
 mv 44 11,
 op 45 (.idxStr (.tmp 43) (.tmp 44)),
 op 46 (.arith .sub (.tmp 45) (.const (.int .u8 (.ofNat 48)))),
 op 47 (.toInt .u32 (.tmp 46)),
 op 48 (.arith .add (.tmp 42) (.tmp 47)),
 mv 9 48])
 (.ops [mv 49 10,
 op 50 (.arith .mul (.tmp 49) (.const (.int .u32 (.ofNat 10)))),
 mv 10 50])))
 (.ops [mv 39 11,
 op 40 (.arith .add (.tmp 39) (.const (.int .i64 (.ofNat 1)))),
 mv 11 40]))))))
 (.ops [mv 51 7,
 mv 52 10,
 op 53 (.buildSlice 194 [(.int .u32 (.ofNat 0))] 1 [(0,1,(.tmp 52))]),
 ⟨(.some 54),.none,(.call (.func 358) [(.tmp 51),(.tmp 53)])⟩,
 mv 55 9,
 op 56 (.buildSlice 194 [(.int .u32 (.ofNat 0))] 1 [(0,1,(.tmp 55))]),
 ⟨(.some 57),.none,(.call (.func 217) [(.tmp 56)])⟩,
 ⟨(.some 58),.none,(.call (.func 269) [(.tmp 54),(.tmp 57)])⟩,
 mv 7 58]))))
 (.ops [mv 29 8,
 op 30 (.arith .add (.tmp 29) (.const (.int .i64 (.ofNat 9)))),
 mv 8 30]))))))
 (.seq (.ops [mv 59 5,
 mv 60 7,
 ⟨(.some 61),.none,(.call (.func 176) [(.tmp 59),(.tmp 60)])⟩,
 op 62 (.extract (.tmp 61) 0),
 op 63 (.extract (.tmp 61) 1),
 ⟨.none,.none,(.op (.store 2 (.tmp 2) (.tmp 62)))⟩,
 mv 3 63])
 .ret))))))), [.cell true 2 2, .tmp 3]⟩
def c312 : CFunc := ⟨9, (.seq (.ops [op 4 (.move (.const (.bool false)))])
 (.seq (.ops [mv 5 0,
 mv 6 1,
 ⟨(.some 7),.none,(.call (.func 262) [(.tmp 5),(.tmp 6)])⟩,
 op 8 (.arith .geq (.tmp 7) (.const (.int .i64 (.ofNat 0)))),
 mv 4 8])
 .ret)), [.tmp 4]⟩
def c343 : CFunc := ⟨15, (.ops [mv 4 0,
 mv 5 0,
 op 6 (.nilCheck (.tmp 5)),
 op 7 (.fieldAddr 2 (.tmp 6)),
 op 8 (.load false 1 (.tmp 7)),
 mv 9 8,
 ⟨(.some 10),(.some (9,false)),(.op (.move (.tmp 1)))⟩,
 ⟨(.some 11),(.some (9,false)),(.op (.un .not (.tmp 10)))⟩,
 op 12 (.pick (.tmp 9) (.const (.bool true)) (.tmp 11)),
 op 13 (.nilCheck (.tmp 4)),
 op 14 (.fieldAddr 2 (.tmp 13)),
 ⟨.none,.none,(.op (.store 1 (.tmp 14) (.tmp 12)))⟩]), []⟩
def c344 : CFunc := ⟨84, (.seq (.ops [op 2 (.box 234 (.tmp 0)),
 op 3 (.box 234 (.tmp 1)),
 op 4 (.move (.const (.bool false)))])
 (.seq (.block 0 (.seq (.seq (.ops [op 6 (.fieldAddr 0 (.tmp 2)),
 op 7 (.load false 1 (.tmp 6)),
 op 8 (.fieldAddr 0 (.tmp 3)),
 op 9 (.load false 1 (.tmp 8)),
 op 10 (.arith .neq (.tmp 7) (.tmp 9)),
 mv 5 10])
 (.cond (.tmp 5) .skip
 (.seq (.ops [op 11 (.fieldAddr 2 (.tmp 2)),
 op 12 (.load false 1 (.tmp 11)),
 op 13 (.fieldAddr 2 (.tmp 3)),
 op 14 (.load false 1 (.tmp 13)),
 op 15 (.arith .neq (.tmp 12) (.tmp 14)),
 mv 5 15])
 (.cond (.tmp 5) .skip
 (.seq (.ops [op 16 (.fieldAddr 4 (.tmp 2)),
 op 17 (.load false 1 (.tmp 16)),
 op 18 (.fieldAddr 4 (.tmp 3)),
 op 19 (.load false 1 (.tmp 18)),
 op 20 (.arith .neq (.tmp 17) (.tmp 19)),
 mv 5 20])
 (.cond (.tmp 5) .skip
 (.seq (.ops [op 21 (.fieldAddr 14 (.tmp 2)),
 op 22 (.load false 1 (.tmp 21)),
 op 23 (.fieldAddr 14 (.tmp 3)),
 op 24 (.load false 1 (.tmp 23)),
 op 25 (.arith .neq (.tmp 22) (.tmp 24)),
 mv 5 25])
 (.cond (.tmp 5) .skip
 (.ops [op 26 (.fieldAddr 16 (.tmp 2)),
 op 27 (.load false 1 (.tmp 26)),
 op 28 (.fieldAddr 16 (.tmp 3)),
 op 29 (.load false 1 (.tmp 28)),
 op 30 (.arith .neq (.tmp 27) (.tmp 29)),
 mv 5 30])))))))))
 (.cond (.tmp 5) (.seq (.ops [op 4 (.move (.const (.bool false)))])
 .ret)
 (.seq (.seq (.ops [op 32 (.fieldAddr 17 (.tmp 2)),
 op 33 (.load false 1 (.tmp 32)),
 op 34 (.fieldAddr 17 (.tmp 3)),
 op 35 (.load false 1 (.tmp 34)),
 op 36 (.arith .neq (.tmp 33) (.tmp 35)),
 mv 31 36])
 (.cond (.tmp 31) .skip
 (.seq (.ops [op 37 (.fieldAddr 18 (.tmp 2)),
 op 38 (.load false 1 (.tmp 37)),
 op 39 (.fieldAddr 18 (.tmp 3)),
 op 40 (.load false 1 (.tmp 39)),
 op 41 (.arith .neq (.tmp 38) (.tmp 40)),
 mv 31 41])
 (.cond (.tmp 31) .skip
 (.seq (.ops [op 42 (.fieldAddr 19 (.tmp 2)),
 op 43 (.load false 1 (.tmp 42)),
 op 44 (.fieldAddr 19 (.tmp 3)),
 op 45 (.load false 1 (.tmp 44)),
 op 46 (.arith .neq (.tmp 43) (.tmp 45)),
 mv 31 46])
 (.cond (.tmp 31) .skip
 (.ops [op 47 (.fieldAddr 3 (.tmp 2)),
 op 48 (.load false 1 (.tmp 47)),
 op 49 (.fieldAddr 3 (.tmp 3)),
 op 50 (.load false 1 (.tmp 49)),
 ⟨(.some 51),.none,(.call (.func 387) [(.tmp 48),(.tmp 50)])⟩,
 op 52 (.un .not (.tmp 51)),
 mv 31 52])))))))
 (.cond (.tmp 31) (.seq (.ops [op 4 (.move (.const (.bool false)))])
 .ret)
 (.seq (.seq (.ops [op 54 (.fieldAddr 5 (.tmp 2)),
 op 55 (.load false 1 (.tmp 54)),
 op 56 (.fieldAddr 5 (.tmp 3)),
 op 57 (.load false 1 (.tmp 56)),
 ⟨(.some 58),.none,(.call (.func 388) [(.tmp 55),(.tmp 57),(.func 387)])⟩,
 op 59 (.un .not (.tmp 58)),
 mv 53 59])
 (.cond (.tmp 53) .skip
 (.seq (.ops [op 60 (.fieldAddr 6 (.tmp 2)),
 op 61 (.load true 4 (.tmp 60)),
 op 62 (.fieldAddr 6 (.tmp 3)),
 op 63 (.load true 4 (.tmp 62)),
 ⟨(.some 64),.none,(.call (.func 389) [(.tmp 61),(.tmp 63)])⟩,
 op 65 (.un .not (.tmp 64)),
 mv 53 65])
 (.cond (.tmp 53) .skip
 (.ops [op 66 (.fieldAddr 10 (.tmp 2)),
 op 67 (.load true 4 (.tmp 66)),
 op 68 (.fieldAddr 10 (.tmp 3)),
 op 69 (.load true 4 (.tmp 68)),
 ⟨(.some 70),.none,(.call (.func 389) [(.tmp 67),(.tmp 69)])⟩,
 op 71 (.un .not (.tmp 70)),
 mv 53 71])))))
 (.cond (.tmp 53) (.seq (.ops [op 4 (.move (.const (.bool false)))])
 .ret)
 .skip)))))))
 (.seq (.ops [op 72 (.fieldAddr 15 (.tmp 2)),
 op 73 (.load false 1 (.tmp 72)),
 op 74 (.fieldAddr 15 (.tmp 3)),
 op 75 (.load false 1 (.tmp 74)),
 ⟨(.some 76),.none,(.call (.func 390) [(.tmp 73),(.tmp 75)])⟩,
 mv 77 76,
 ⟨(.some 78),(.some (77,true)),(.op (.fieldAddr 20 (.tmp 2)))⟩,
 ⟨(.some 79),(.some (77,true)),(.op (.load false 1 (.tmp 78)))⟩,
 ⟨(.some 80),(.some (77,true)),(.op (.fieldAddr 20 (.tmp 3)))⟩,
 ⟨(.some 81),(.some (77,true)),(.op (.load false 1 (.tmp 80)))⟩,
 ⟨(.some 82),(.some (77,true)),(.call (.func 391) [(.tmp 79),(.tmp 81)])⟩,
 op 83 (.pick (.tmp 77) (.tmp 82) (.const (.bool false))),
 mv 4 83])
 .ret))), [.tmp 4]⟩
def c345 : CFunc := ⟨60, (.seq (.ops [op 1 (.box 234 (.tmp 0)),
 op 2 (.alloc 234 [(.int .i64 (.ofNat 0)),(.int .i64 (.ofNat 0)),(.int .i64 (.ofNat 0)),.nilSlice,(.int .i64 (.ofNat 0)),.nilSlice,(.bool false),.nilSlice,(.bool false),.nilSlice,(.bool false),.nilSlice,(.bool false),.nilSlice,(.int .i64 (.ofNat 0)),.nilSlice,(.str []),(.str []),(.int .i64 (.ofNat 0)),(.int .i64 (.ofNat 0)),.nilSlice])])
 (.seq (.seq (.ops [op 3 (.fieldAddr 0 (.tmp 1)),
 op 4 (.load false 1 (.tmp 3))])
 (.block 0 (.seq (.ops [op 6 (.arith .eql (.tmp 4) (.const (.int .i64 (.ofNat 1)))),
 mv 5 6])
 (.cond (.tmp 5) (.seq (.ops [op 7 (.fieldAddr 0 (.tmp 1)),
 op 8 (.load false 1 (.tmp 7)),
 op 9 (.fieldAddr 2 (.tmp 1)),
 op 10 (.load false 1 (.tmp 9)),
 op 11 (.fieldAddr 3 (.tmp 1)),
 op 12 (.load false 1 (.tmp 11)),
 op 13 (.fieldAddr 4 (.tmp 1)),
 op 14 (.load false 1 (.tmp 13)),
 op 15 (.fieldAddr 5 (.tmp 1)),
 op 16 (.load false 1 (.tmp 15)),
 op 17 (.fieldAddr 6 (.tmp 1)),
 op 18 (.load true 4 (.tmp 17)),
 op 19 (.fieldAddr 10 (.tmp 1)),
 op 20 (.load true 4 (.tmp 19)),
 op 21 (.fieldAddr 14 (.tmp 1)),
 op 22 (.load false 1 (.tmp 21)),
 op 23 (.build [(.int .i64 (.ofNat 0)),(.int .i64 (.ofNat 0)),(.int .i64 (.ofNat 0)),.nilSlice,(.int .i64 (.ofNat 0)),.nilSlice,(.bool false),.nilSlice,(.bool false),.nilSlice,(.bool false),.nilSlice,(.bool false),.nilSlice,(.int .i64 (.ofNat 0)),.nilSlice,(.str []),(.str []),(.int .i64 (.ofNat 0)),(.int .i64 (.ofNat 0)),.nilSlice] [(0,1,(.tmp 8)),(2,1,(.tmp 10)),(3,1,(.tmp 12)),(4,1,(.tmp 14)),(5,1,(.tmp 16)),(6,4,(.tmp 18)),(10,4,(.tmp 20)),(14,1,(.tmp 22))]),
 ⟨.none,.none,(.op (.store 21 (.tmp 2) (.tmp 23)))⟩])
 .ret)
 (.seq (.ops [op 25 (.arith .eql (.tmp 4) (.const (.int .i64 (.ofNat 2)))),
 mv 24 25])
 (.cond (.tmp 24) (.seq (.ops [op 26 (.fieldAddr 0 (.tmp 1)),
 op 27 (.load false 1 (.tmp 26)),
 op 28 (.fieldAddr 3 (.tmp 1)),
 op 29 (.load false 1 (.tmp 28)),
 op 30 (.fieldAddr 15 (.tmp 1)),
 op 31 (.load false 1 (.tmp 30)),
 op 32 (.fieldAddr 20 (.tmp 1)),
 op 33 (.load false 1 (.tmp 32)),
 op 34 (.build [(.int .i64 (.ofNat 0)),(.int .i64 (.ofNat 0)),(.int .i64 (.ofNat 0)),.nilSlice,(.int .i64 (.ofNat 0)),.nilSlice,(.bool false),.nilSlice,(.bool false),.nilSlice,(.bool false),.nilSlice,(.bool false),.nilSlice,(.int .i64 (.ofNat 0)),.nilSlice,(.str []),(.str []),(.int .i64 (.ofNat 0)),(.int .i64 (.ofNat 0)),.nilSlice] [(0,1,(.tmp 27)),(3,1,(.tmp 29)),(15,1,(.tmp 31)),(20,1,(.tmp 33))]),
 ⟨.none,.none,(.op (.store 21 (.tmp 2) (.tmp 34)))⟩])
 .ret)
 (.seq (.ops [op 36 (.arith .eql (.tmp 4) (.const (.int .i64 (.ofNat 3)))),
 mv 35 36])
 (.cond (.tmp 35) (.seq (.ops [op 37 (.fieldAddr 0 (.tmp 1)),
 op 38 (.load false 1 (.tmp 37)),
 op 39 (.fieldAddr 3 (.tmp 1)),
 op 40 (.load false 1 (.tmp 39)),
 op 41 (.fieldAddr 16 (.tmp 1)),
 op 42 (.load false 1 (.tmp 41)),
 op 43 (.fieldAddr 5 (.tmp 1)),
 op 44 (.load false 1 (.tmp 43)),
 op 45 (.build [(.int .i64 (.ofNat 0)),(.int .i64 (.ofNat 0)),(.int .i64 (.ofNat 0)),.nilSlice,(.int .i64 (.ofNat 0)),.nilSlice,(.bool false),.nilSlice,(.bool false),.nilSlice,(.bool false),.nilSlice,(.bool false),.nilSlice,(.int .i64 (.ofNat 0)),.nilSlice,(.str []),(.str []),(.int .i64 (.ofNat 0)),(.int .i64 (.ofNat 0)),.nilSlice] [(0,1,(.tmp 38)),(3,1,(.tmp 40)),(16,1,(.tmp 42)),(5,1,(.tmp 44))]),
 ⟨.none,.none,(.op (.store 21 (.tmp 2) (.tmp 45)))⟩])
 .ret)
 (.seq (.ops [op 47 (.arith .eql (.tmp 4) (.const (.int .i64 (.ofNat 4)))),
 mv 46 47])
 (.cond (.tmp 46) (.seq (.ops [op 48 (.fieldAddr 0 (.tmp 1)),
 op 49 (.load false 1 (.tmp 48)),
 op 50 (.fieldAddr 17 (.tmp 1)),
 op 51 (.load false 1 (.tmp 50)),
 op 52 (.fieldAddr 18 (.tmp 1)),
 op 53 (.load false 1 (.tmp 52)),
 op 54 (.fieldAddr 19 (.tmp 1)),
 op 55 (.load false 1 (.tmp 54)),
 op 56 (.fieldAddr 20 (.tmp 1)),
 op 57 (.load false 1 (.tmp 56)),
 op 58 (.build [(.int .i64 (.ofNat 0)),(.int .i64 (.ofNat 0)),(.int .i64 (.ofNat 0)),.nilSlice,(.int .i64 (.ofNat 0)),.nilSlice,(.bool false),.nilSlice,(.bool false),.nilSlice,(.bool false),.nilSlice,(.bool false),.nilSlice,(.int .i64 (.ofNat 0)),.nilSlice,(.str []),(.str []),(.int .i64 (.ofNat 0)),(.int .i64 (.ofNat 0)),.nilSlice] [(0,1,(.tmp 49)),(17,1,(.tmp 51)),(18,1,(.tmp 53)),(19,1,(.tmp 55)),(20,1,(.tmp 57))]),
 ⟨.none,.none,(.op (.store 21 (.tmp 2) (.tmp 58)))⟩])
 .ret)
 .skip))))))))))
 (.seq (.ops [op 59 (.build [(.int .i64 (.ofNat 0)),(.int .i64 (.ofNat 0)),(.int .i64 (.ofNat 0)),.nilSlice,(.int .i64 (.ofNat 0)),.nilSlice,(.bool false),.nilSlice,(.bool false),.nilSlice,(.bool false),.nilSlice,(.bool false),.nilSlice,(.int .i64 (.ofNat 0)),.nilSlice,(.str []),(.str []),(.int .i64 (.ofNat 0)),(.int .i64 (.ofNat 0)),.nilSlice] []),
 ⟨.none,.none,(.op (.store 21 (.tmp 2) (.tmp 59)))⟩])
 .ret))), [.cell true 21 2]⟩
def c346 : CFunc := ⟨159, (.seq (.ops [op 3 (.box 234 (.tmp 1))])
 (.seq (.ops [mv 4 0,
 op 5 (.fieldAddr 2 (.tmp 3)),
 op 6 (.load false 1 (.tmp 5)),
 ⟨(.some 7),.none,(.call (.func 392) [(.tmp 4),(.tmp 6)])⟩])
 (.seq (.ops [mv 8 0,
 op 9 (.fieldAddr 3 (.tmp 3)),
 op 10 (.load false 1 (.tmp 9)),
 ⟨(.some 11),.none,(.call (.func 347) [(.tmp 8),(.tmp 10)])⟩])
 (.block 0 (.seq (.ops [op 65 (.fieldAddr 4 (.tmp 3)),
 op 66 (.load false 1 (.tmp 65)),
 op 67 (.arith .eql (.tmp 66) (.const (.int .i64 (.ofNat 1)))),
 mv 64 67])
 (.cond (.tmp 64) (.seq (.ops [mv 68 0,
 op 69 (.fieldAddr 2 (.tmp 3)),
 op 70 (.load false 1 (.tmp 69)),
 op 71 (.arith .eql (.tmp 70) (.const (.int .i64 (.ofNat 1)))),
 mv 72 71,
 ⟨(.some 73),(.some (72,true)),(.op (.fieldAddr 5 (.tmp 3)))⟩,
 ⟨(.some 74),(.some (72,true)),(.op (.load false 1 (.tmp 73)))⟩,
 ⟨(.some 75),(.some (72,true)),(.op (.lenRow (.tmp 74)))⟩,
 ⟨(.some 76),(.some (72,true)),(.op (.arith .eql (.tmp 75) (.const (.int .i64 (.ofNat 0)))))⟩,
 op 77 (.pick (.tmp 72) (.tmp 76) (.const (.bool false))),
 mv 78 77,
 ⟨(.some 79),(.some (78,true)),(.op (.fieldAddr 14 (.tmp 3)))⟩,
 ⟨(.some 80),(.some (78,true)),(.op (.load false 1 (.tmp 79)))⟩,
 ⟨(.some 81),(.some (78,true)),(.op (.arith .eql (.tmp 80) (.const (.int .i64 (.ofNat 0)))))⟩,
 op 82 (.pick (.tmp 78) (.tmp 81) (.const (.bool false))),
 ⟨(.some 83),.none,(.call (.func 343) [(.tmp 68),(.tmp 82)])⟩])
 (.seq (.ops [mv 84 0,
 op 85 (.nilCheck (.tmp 84)),
 op 86 (.fieldAddr 0 (.tmp 85)),
 ⟨(.some 87),.none,(.call (.func 97) [(.tmp 86),(.const (.str [32,61,32,40]))])⟩])
 (.seq (.ops [mv 88 0,
 op 89 (.fieldAddr 6 (.tmp 3)),
 op 90 (.load true 4 (.tmp 89)),
 ⟨(.some 91),.none,(.call (.func 393) [(.tmp 88),(.tmp 90)])⟩])
 (.seq (.ops [mv 92 0,
 op 93 (.nilCheck (.tmp 92)),
 op 94 (.fieldAddr 0 (.tmp 93)),
 ⟨(.some 95),.none,(.call (.func 97) [(.tmp 94),(.const (.str [44,32]))])⟩])
 (.seq (.ops [mv 96 0,
 op 97 (.fieldAddr 10 (.tmp 3)),
 op 98 (.load true 4 (.tmp 97)),
 ⟨(.some 99),.none,(.call (.func 393) [(.tmp 96),(.tmp 98)])⟩])
 (.ops [mv 100 0,
 op 101 (.nilCheck (.tmp 100)),
 op 102 (.fieldAddr 0 (.tmp 101)),
 ⟨(.some 103),.none,(.call (.func 97) [(.tmp 102),(.const (.str [41]))])⟩]))))))
 (.seq (.ops [op 105 (.fieldAddr 4 (.tmp 3)),
 op 106 (.load false 1 (.tmp 105)),
 op 107 (.arith .eql (.tmp 106) (.const (.int .i64 (.ofNat 2)))),
 mv 108 107,
 ⟨(.some 109),(.some (108,true)),(.op (.fieldAddr 5 (.tmp 3)))⟩,
 ⟨(.some 110),(.some (108,true)),(.op (.load false 1 (.tmp 109)))⟩,
 ⟨(.some 111),(.some (108,true)),(.op (.lenRow (.tmp 110)))⟩,
 ⟨(.some 112),(.some (108,true)),(.op (.arith .eql (.tmp 111) (.const (.int .i64 (.ofNat 1)))))⟩,
 op 113 (.pick (.tmp 108) (.tmp 112) (.const (.bool false))),
 mv 104 113])
 (.cond (.tmp 104) (.seq (.ops [mv 114 0,
 op 115 (.fieldAddr 2 (.tmp 3)),
 op 116 (.load false 1 (.tmp 115)),
 op 117 (.arith .eql (.tmp 116) (.const (.int .i64 (.ofNat 1)))),
 mv 118 117,
 ⟨(.some 119),(.some (118,true)),(.op (.fieldAddr 14 (.tmp 3)))⟩,
 ⟨(.some 120),(.some (118,true)),(.op (.load false 1 (.tmp 119)))⟩,
 ⟨(.some 121),(.some (118,true)),(.op (.arith .eql (.tmp 120) (.const (.int .i64 (.ofNat 0)))))⟩,
 op 122 (.pick (.tmp 118) (.tmp 121) (.const (.bool false))),
 mv 123 122,
 ⟨(.some 124),(.some (123,true)),(.op (.fieldAddr 10 (.tmp 3)))⟩,
 ⟨(.some 125),(.some (123,true)),(.op (.load true 4 (.tmp 124)))⟩,
 ⟨(.some 126),(.some (123,true)),(.call (.func 394) [(.tmp 125)])⟩,
 op 127 (.pick (.tmp 123) (.tmp 126) (.const (.bool false))),
 ⟨(.some 128),.none,(.call (.func 343) [(.tmp 114),(.tmp 127)])⟩])
 (.seq (.ops [mv 129 0,
 op 130 (.nilCheck (.tmp 129)),
 op 131 (.fieldAddr 0 (.tmp 130)),
 ⟨(.some 132),.none,(.call (.func 97) [(.tmp 131),(.const (.str [32,111,110,32]))])⟩])
 (.seq (.ops [mv 133 0,
 op 134 (.fieldAddr 5 (.tmp 3)),
 op 135 (.load false 1 (.tmp 134)),
 op 136 (.idxRow 1 (.tmp 135) (.const (.int .i64 (.ofNat 0)))),
 op 137 (.load false 1 (.tmp 136)),
 ⟨(.some 138),.none,(.call (.func 347) [(.tmp 133),(.tmp 137)])⟩])
 (.seq (.ops [mv 139 0,
 op 140 (.nilCheck (.tmp 139)),
 op 141 (.fieldAddr 0 (.tmp 140)),
 ⟨(.some 142),.none,(.call (.func 97) [(.tmp 141),(.const (.str [32,97,116,32]))])⟩])
 (.ops [mv 143 0,
 op 144 (.fieldAddr 6 (.tmp 3)),
 op 145 (.load true 4 (.tmp 144)),
 ⟨(.some 146),.none,(.call (.func 393) [(.tmp 143),(.tmp 145)])⟩])))))
 (.seq (.ops [op 148 (.fieldAddr 4 (.tmp 3)),
 op 149 (.load false 1 (.tmp 148)),
 op 150 (.arith .lss (.tmp 149) (.const (.int .i64 (.ofNat 3)))),
 mv 151 150,
 ⟨(.some 152),(.some (151,false)),(.op (.fieldAddr 4 (.tmp 3)))⟩,
 ⟨(.some 153),(.some (151,false)),(.op (.load false 1 (.tmp 152)))⟩,
 ⟨(.some 154),(.some (151,false)),(.op (.arith .gtr (.tmp 153) (.const (.int .i64 (.ofNat 16)))))⟩,
 op 155 (.pick (.tmp 151) (.const (.bool true)) (.tmp 154)),
 mv 147 155])
 (.cond (.tmp 147) (.ops [mv 156 0,
 op 157 (.nilCheck (.tmp 156)),
 op 158 (.fieldAddr 2 (.tmp 157)),
 ⟨.none,.none,(.op (.store 1 (.tmp 158) (.const (.bool true))))⟩])
 (.seq (.ops [mv 12 0,
 op 13 (.fieldAddr 5 (.tmp 3)),
 op 14 (.load false 1 (.tmp 13)),
 op 15 (.lenRow (.tmp 14)),
 op 16 (.arith .gtr (.tmp 15) (.const (.int .i64 (.ofNat 0)))),
 mv 17 16,
 ⟨(.some 18),(.some (17,true)),(.op (.fieldAddr 6 (.tmp 3)))⟩,
 ⟨(.some 19),(.some (17,true)),(.op (.load true 4 (.tmp 18)))⟩,
 ⟨(.some 20),(.some (17,true)),(.call (.func 394) [(.tmp 19)])⟩,
 op 21 (.pick (.tmp 17) (.tmp 20) (.const (.bool false))),
 mv 22 21,
 ⟨(.some 23),(.some (22,true)),(.op (.fieldAddr 10 (.tmp 3)))⟩,
 ⟨(.some 24),(.some (22,true)),(.op (.load true 4 (.tmp 23)))⟩,
 ⟨(.some 25),(.some (22,true)),(.call (.func 394) [(.tmp 24)])⟩,
 op 26 (.pick (.tmp 22) (.tmp 25) (.const (.bool false))),
 mv 27 26,
 ⟨(.some 28),(.some (27,true)),(.op (.fieldAddr 14 (.tmp 3)))⟩,
 ⟨(.some 29),(.some (27,true)),(.op (.load false 1 (.tmp 28)))⟩,
 ⟨(.some 30),(.some (27,true)),(.op (.arith .geq (.tmp 29) (.const (.int .i64 (.ofNat 0)))))⟩,
 op 31 (.pick (.tmp 27) (.tmp 30) (.const (.bool false))),
 mv 32 31,
 ⟨(.some 33),(.some (32,true)),(.op (.fieldAddr 14 (.tmp 3)))⟩,
 ⟨(.some 34),(.some (32,true)),(.op (.load false 1 (.tmp 33)))⟩,
 ⟨(.some 35),(.some (32,true)),(.op (.arith .leq (.tmp 34) (.const (.int .i64 (.ofNat 2)))))⟩,
 op 36 (.pick (.tmp 32) (.tmp 35) (.const (.bool false))),
 ⟨(.some 37),.none,(.call (.func 343) [(.tmp 12),(.tmp 36)])⟩])
 (.seq (.draw [⟨mv 38 0,0,[]⟩,
 ⟨op 39 (.nilCheck (.tmp 38)),0,[]⟩,
 ⟨op 40 (.fieldAddr 0 (.tmp 39)),0,[]⟩,
 ⟨⟨(.some 41),.none,(.call (.func 263) [(.const (.str [106,111,105,110,32,109,101,101,116,32,99,111,109,112,97,115,115,32,99,97,114,114,121,32,116,104,114,111,117,103,104,32,99,117,116,32,99,114,111,115,115,32,112,101,114,112,32,112,97,114,97,32,109,105,100,32,114,101,102,108,101,99,116,32,98,105,115,101,99,116,111,114,32,116,97,110,103,101,110,116,32,99,101,110,116,101,114]))])⟩,2,[]⟩,
 ⟨op 42 (.fieldAddr 4 (.tmp 3)),0,[]⟩,
 ⟨op 43 (.load false 1 (.tmp 42)),1,[0,4]⟩,
 ⟨op 44 (.arith .sub (.tmp 43) (.const (.int .i64 (.ofNat 3)))),0,[]⟩,
 ⟨op 45 (.idxRow 1 (.tmp 41) (.tmp 44)),0,[]⟩,
 ⟨op 46 (.load false 1 (.tmp 45)),1,[4]⟩,
 ⟨op 47 (.arith .add (.const (.str [32,61,32])) (.tmp 46)),0,[]⟩,
 ⟨⟨(.some 48),.none,(.call (.func 97) [(.tmp 40),(.tmp 47)])⟩,2,[]⟩])
 (.seq (.ops [mv 49 0,
 op 50 (.fieldAddr 5 (.tmp 3)),
 op 51 (.load false 1 (.tmp 50)),
 ⟨(.some 52),.none,(.call (.func 349) [(.tmp 49),(.tmp 51)])⟩])
 (.seq (.ops [op 53 (.fieldAddr 14 (.tmp 3)),
 op 54 (.load false 1 (.tmp 53)),
 op 55 (.arith .gtr (.tmp 54) (.const (.int .i64 (.ofNat 0))))])
 (.cond (.tmp 55) (.draw [⟨mv 56 0,0,[]⟩,
 ⟨op 57 (.nilCheck (.tmp 56)),0,[]⟩,
 ⟨op 58 (.fieldAddr 0 (.tmp 57)),0,[]⟩,
 ⟨op 59 (.fieldAddr 14 (.tmp 3)),0,[]⟩,
 ⟨op 60 (.load false 1 (.tmp 59)),1,[0]⟩,
 ⟨⟨(.some 61),.none,(.call (.func 276) [(.tmp 60)])⟩,2,[]⟩,
 ⟨op 62 (.arith .add (.const (.str [32,35,32])) (.tmp 61)),0,[]⟩,
 ⟨⟨(.some 63),.none,(.call (.func 97) [(.tmp 58),(.tmp 62)])⟩,2,[]⟩])
 .skip))))))))))))))), []⟩
def c347 : CFunc := ⟨113, (.seq (.ops [mv 6 0,
 mv 7 1,
 op 8 (.lenRow (.tmp 7)),
 op 9 (.arith .gtr (.tmp 8) (.const (.int .i64 (.ofNat 0)))),
 ⟨(.some 10),.none,(.call (.func 343) [(.tmp 6),(.tmp 9)])⟩])
 (.seq (.ops [mv 11 1,
 op 12 (.lenRow (.tmp 11)),
 op 13 (.move (.const (.int .i64 (.ofNat 0))))])
 (.block 0 (.loop (.seq (.ops [op 14 (.arith .lss (.tmp 13) (.tmp 12))])
 (.seq (.cond (.tmp 14) .skip
 (.exit 0))
 (.seq (.block 1 (.seq (.ops [mv 15 13,
 op 16 (.idxRow 4 (.tmp 11) (.tmp 13)),
 op 17 (.load true 4 (.tmp 16)),
 op 5 (.alloc 238 [(.str []),(.bool false),(.str []),(.int .i64 (.ofNat 0))]),
 mv 4 15,
 ⟨.none,.none,(.op (.store 4 (.tmp 5) (.tmp 17)))⟩])
 (.seq (.seq (.ops [mv 18 4,
 op 19 (.arith .gtr (.tmp 18) (.const (.int .i64 (.ofNat 0))))])
 (.cond (.tmp 19) (.ops [mv 20 0,
 op 21 (.nilCheck (.tmp 20)),
 op 22 (.fieldAddr 0 (.tmp 21)),
 ⟨(.some 23),.none,(.call (.func 97) [(.tmp 22),(.const (.str [46]))])⟩])
 .skip))
 (.seq (.ops [mv 24 0,
 op 25 (.fieldAddr 0 (.tmp 5)),
 op 26 (.load false 1 (.tmp 25)),
 ⟨(.some 27),.none,(.call (.func 348) [(.tmp 24),(.tmp 26)])⟩])
 (.seq (.seq (.ops [op 28 (.fieldAddr 1 (.tmp 5)),
 op 29 (.load false 1 (.tmp 28)),
 op 30 (.un .not (.tmp 29))])
 (.cond (.tmp 30) (.seq (.ops [mv 31 0,
 op 32 (.fieldAddr 2 (.tmp 5)),
 op 33 (.load true 2 (.tmp 32)),
 op 34 (.build [(.str []),(.int .i64 (.ofNat 0))] []),
 op 35 (.eq false (.struct [(0,1,false,.str),(1,1,false,.int)]) (.tmp 33) (.tmp 34)),
 ⟨(.some 36),.none,(.call (.func 343) [(.tmp 31),(.tmp 35)])⟩])
 (.exit 1))
 .skip))
 (.seq (.ops [mv 37 0,
 op 38 (.fieldAddr 2 (.tmp 5)),
 op 39 (.fieldAddr 1 (.tmp 38)),
 op 40 (.load false 1 (.tmp 39)),
 ⟨(.some 41),.none,(.call (.func 395) [(.tmp 40)])⟩,
 ⟨(.some 42),.none,(.call (.func 343) [(.tmp 37),(.tmp 41)])⟩])
 (.seq (.ops [mv 43 0,
 op 44 (.nilCheck (.tmp 43)),
 op 45 (.fieldAddr 0 (.tmp 44)),
 ⟨(.some 46),.none,(.call (.func 97) [(.tmp 45),(.const (.str [91]))])⟩])
 (.seq (.block 2 (.seq (.ops [op 53 (.fieldAddr 2 (.tmp 5)),
 op 54 (.fieldAddr 0 (.tmp 53)),
 op 55 (.load false 1 (.tmp 54)),
 op 56 (.arith .eql (.tmp 55) (.const (.str []))),
 mv 52 56])
 (.cond (.tmp 52) (.seq (.ops [mv 57 0,
 op 58 (.fieldAddr 2 (.tmp 5)),
 op 59 (.fieldAddr 1 (.tmp 58)),
 op 60 (.load false 1 (.tmp 59)),
 op 61 (.arith .geq (.tmp 60) (.const (.int .i64 (.ofNat 0)))),
 ⟨(.some 62),.none,(.call (.func 343) [(.tmp 57),(.tmp 61)])⟩])
 (.draw [⟨mv 63 0,0,[]⟩,
 ⟨op 64 (.nilCheck (.tmp 63)),0,[]⟩,
 ⟨op 65 (.fieldAddr 0 (.tmp 64)),0,[]⟩,
 ⟨op 66 (.fieldAddr 2 (.tmp 5)),0,[]⟩,
 ⟨op 67 (.fieldAddr 1 (.tmp 66)),0,[]⟩,
 ⟨op 68 (.load false 1 (.tmp 67)),1,[0]⟩,
 ⟨⟨(.some 69),.none,(.call (.func 276) [(.tmp 68)])⟩,2,[]⟩,
 ⟨⟨(.some 70),.none,(.call (.func 97) [(.tmp 65),(.tmp 69)])⟩,2,[]⟩]))
 (.seq (.ops [op 72 (.fieldAddr 2 (.tmp 5)),
 op 73 (.fieldAddr 1 (.tmp 72)),
 op 74 (.load false 1 (.tmp 73)),
 op 75 (.arith .gtr (.tmp 74) (.const (.int .i64 (.ofNat 0)))),
 mv 71 75])
 (.cond (.tmp 71) (.seq (.ops [mv 76 0,
 op 77 (.fieldAddr 2 (.tmp 5)),
 op 78 (.fieldAddr 0 (.tmp 77)),
 op 79 (.load false 1 (.tmp 78)),
 ⟨(.some 80),.none,(.call (.func 348) [(.tmp 76),(.tmp 79)])⟩])
 (.draw [⟨mv 81 0,0,[]⟩,
 ⟨op 82 (.nilCheck (.tmp 81)),0,[]⟩,
 ⟨op 83 (.fieldAddr 0 (.tmp 82)),0,[]⟩,
 ⟨op 84 (.fieldAddr 2 (.tmp 5)),0,[]⟩,
 ⟨op 85 (.fieldAddr 1 (.tmp 84)),0,[]⟩,
 ⟨op 86 (.load false 1 (.tmp 85)),1,[0]⟩,
 ⟨⟨(.some 87),.none,(.call (.func 276) [(.tmp 86)])⟩,2,[]⟩,
 ⟨op 88 (.arith .add (.const (.str [43])) (.tmp 87)),0,[]⟩,
 ⟨⟨(.some 89),.none,(.call (.func 97) [(.tmp 83),(.tmp 88)])⟩,2,[]⟩]))
 (.seq (.ops [op 91 (.fieldAddr 2 (.tmp 5)),
 op 92 (.fieldAddr 1 (.tmp 91)),
 op 93 (.load false 1 (.tmp 92)),
 op 94 (.arith .lss (.tmp 93) (.const (.int .i64 (.ofNat 0)))),
 mv 90 94])
 (.cond (.tmp 90) (.seq (.ops [mv 95 0,
 op 96 (.fieldAddr 2 (.tmp 5)),
 op 97 (.fieldAddr 0 (.tmp 96)),
 op 98 (.load false 1 (.tmp 97)),
 ⟨(.some 99),.none,(.call (.func 348) [(.tmp 95),(.tmp 98)])⟩])
 (.draw [⟨mv 100 0,0,[]⟩,
 ⟨op 101 (.nilCheck (.tmp 100)),0,[]⟩,
 ⟨op 102 (.fieldAddr 0 (.tmp 101)),0,[]⟩,
 ⟨op 103 (.fieldAddr 2 (.tmp 5)),0,[]⟩,
 ⟨op 104 (.fieldAddr 1 (.tmp 103)),0,[]⟩,
 ⟨op 105 (.load false 1 (.tmp 104)),1,[0]⟩,
 ⟨⟨(.some 106),.none,(.call (.func 276) [(.tmp 105)])⟩,2,[]⟩,
 ⟨⟨(.some 107),.none,(.call (.func 97) [(.tmp 102),(.tmp 106)])⟩,2,[]⟩]))
 (.ops [mv 47 0,
 op 48 (.fieldAddr 2 (.tmp 5)),
 op 49 (.fieldAddr 0 (.tmp 48)),
 op 50 (.load false 1 (.tmp 49)),
 ⟨(.some 51),.none,(.call (.func 348) [(.tmp 47),(.tmp 50)])⟩]))))))))
 (.ops [mv 108 0,
 op 109 (.nilCheck (.tmp 108)),
 op 110 (.fieldAddr 0 (.tmp 109)),
 ⟨(.some 111),.none,(.call (.func 97) [(.tmp 110),(.const (.str [93]))])⟩])))))))))
 (.ops [op 112 (.arith .add (.tmp 13) (.const (.int .i64 (.ofNat 1)))),
 mv 13 112])))))))), []⟩
def c348 : CFunc := ⟨13, (.seq (.ops [mv 4 0,
 mv 5 1,
 ⟨(.some 6),.none,(.call (.func 396) [(.tmp 5)])⟩,
 ⟨(.some 7),.none,(.call (.func 343) [(.tmp 4),(.tmp 6)])⟩])
 (.ops [mv 8 0,
 op 9 (.nilCheck (.tmp 8)),
 op 10 (.fieldAddr 0 (.tmp 9)),
 mv 11 1,
 ⟨(.some 12),.none,(.call (.func 97) [(.tmp 10),(.tmp 11)])⟩])), []⟩
def c351 : CFunc := ⟨32, (.seq (.ops [op 4 (.move (.const .nilSlice)),
 op 5 (.move (.const (.int .i64 (.ofNat 0))))])
 (.seq (.ops [op 6 (.move (.const .nilSlice))])
 (.seq (.seq (.ops [mv 11 1,
 op 12 (.lenRow (.tmp 11)),
 op 13 (.move (.const (.int .i64 (.ofNat 0))))])
 (.block 0 (.loop (.seq (.ops [op 14 (.arith .lss (.tmp 13) (.tmp 12))])
 (.seq (.cond (.tmp 14) .skip
 (.exit 0))
 (.seq (.block 1 (.seq (.ops [op 15 (.idxRow 1 (.tmp 11) (.tmp 13)),
 op 16 (.load false 1 (.tmp 15)),
 mv 8 16])
 (.seq (.ops [mv 18 0,
 mv 19 8,
 ⟨(.some 20),.none,(.call (.func 397) [(.tmp 18),(.tmp 19)])⟩,
 mv 17 20,
 op 21 (.extract (.tmp 17) 0),
 op 22 (.extract (.tmp 17) 1),
 mv 9 21,
 mv 10 22])
 (.seq (.seq (.ops [mv 23 10,
 op 24 (.arith .neq (.tmp 23) (.const (.int .i64 (.ofNat 0))))])
 (.cond (.tmp 24) (.seq (.ops [mv 25 10,
 op 4 (.move (.const .nilSlice)),
 mv 5 25])
 .ret)
 .skip))
 (.ops [mv 26 6,
 mv 27 9,
 op 28 (.buildSlice 3 [(.int .i64 (.ofNat 0))] 1 [(0,1,(.tmp 27))]),
 op 29 (.append 1 3 8 (.tmp 26) (.tmp 28)),
 mv 6 29])))))
 (.ops [op 30 (.arith .add (.tmp 13) (.const (.int .i64 (.ofNat 1)))),
 mv 13 30])))))))
 (.seq (.ops [mv 31 6,
 mv 4 31,
 op 5 (.move (.const (.int .i64 (.ofNat 0))))])
 .ret)))), [.tmp 4, .tmp 5]⟩
def c352 : CFunc := ⟨12, (.seq (.ops [op 2 (.box 234 (.tmp 0)),
 op 4 (.alloc 160 [(.int .i64 (.ofNat 0)),(.int .i64 (.ofNat 0))])])
 (.seq (.seq (.ops [mv 5 1,
 op 6 (.arith .eql (.tmp 5) (.const (.int .i64 (.ofNat 0))))])
 (.cond (.tmp 6) (.seq (.ops [op 7 (.build [(.int .i64 (.ofNat 0)),(.int .i64 (.ofNat 0))] []),
 ⟨.none,.none,(.op (.store 2 (.tmp 4) (.tmp 7)))⟩])
 .ret)
 .skip))
 (.seq (.ops [mv 8 1,
 op 9 (.fieldAddr 1 (.tmp 2)),
 op 10 (.load false 1 (.tmp 9)),
 op 11 (.build [(.int .i64 (.ofNat 0)),(.int .i64 (.ofNat 0))] [(0,1,(.tmp 8)),(1,1,(.tmp 10))]),
 ⟨.none,.none,(.op (.store 2 (.tmp 4) (.tmp 11)))⟩])
 .ret))), [.cell true 2 4]⟩
def c353 : CFunc := ⟨92, (.seq (.ops [op 5 (.box 502 (.tmp 2)),
 op 6 (.move (.const (.int .i64 (.ofNat 0))))])
 (.seq (.ops [mv 9 1,
 op 10 (.idxRow 4 (.tmp 9) (.const (.int .i64 (.ofNat 0)))),
 op 11 (.load true 4 (.tmp 10)),
 op 7 (.alloc 238 [(.str []),(.bool false),(.str []),(.int .i64 (.ofNat 0))]),
 ⟨.none,.none,(.op (.store 4 (.tmp 7) (.tmp 11)))⟩])
 (.seq (.seq (.ops [mv 12 1,
 op 13 (.lenRow (.tmp 12)),
 op 14 (.arith .gtr (.tmp 13) (.const (.int .i64 (.ofNat 1)))),
 mv 15 14,
 ⟨(.some 16),(.some (15,false)),(.op (.move (.tmp 0)))⟩,
 ⟨(.some 17),(.some (15,false)),(.op (.load true 4 (.tmp 7)))⟩,
 ⟨(.some 18),(.some (15,false)),(.call (.func 398) [(.tmp 16),(.tmp 17)])⟩,
 ⟨(.some 19),(.some (15,false)),(.op (.un .not (.tmp 18)))⟩,
 op 20 (.pick (.tmp 15) (.const (.bool true)) (.tmp 19))])
 (.cond (.tmp 20) (.seq (.ops [op 6 (.move (.const (.int .i64 (.ofNat 100))))])
 .ret)
 .skip))
 (.seq (.seq (.draw [⟨mv 21 0,0,[]⟩,
 ⟨op 22 (.nilCheck (.tmp 21)),0,[]⟩,
 ⟨op 23 (.fieldAddr 1 (.tmp 22)),0,[]⟩,
 ⟨op 24 (.load false 1 (.tmp 23)),1,[0]⟩,
 ⟨op 25 (.fieldAddr 0 (.tmp 7)),0,[]⟩,
 ⟨op 26 (.load false 1 (.tmp 25)),1,[0]⟩,
 ⟨⟨(.some 27),.none,(.call (.func 312) [(.tmp 24),(.tmp 26)])⟩,2,[]⟩,
 ⟨mv 28 27,0,[]⟩,
 ⟨⟨(.some 29),(.some (28,false)),(.op (.move (.tmp 0)))⟩,0,[]⟩,
 ⟨⟨(.some 30),(.some (28,false)),(.op (.nilCheck (.tmp 29)))⟩,0,[]⟩,
 ⟨⟨(.some 31),(.some (28,false)),(.op (.fieldAddr 1 (.tmp 30)))⟩,0,[]⟩,
 ⟨⟨(.some 32),(.some (28,false)),(.op (.load false 1 (.tmp 31)))⟩,1,[7]⟩,
 ⟨⟨(.some 33),(.some (28,false)),(.op (.lenRow (.tmp 32)))⟩,0,[]⟩,
 ⟨⟨(.some 34),(.some (28,false)),(.op (.arith .gtr (.tmp 33) (.const (.int .i64 (.ofNat 0)))))⟩,0,[]⟩,
 ⟨⟨(.some 35),(.some (28,false)),(.op (.move (.tmp 34)))⟩,0,[]⟩,
 ⟨⟨(.some 36),(.some (35,true)),(.op (.fieldAddr 1 (.tmp 7)))⟩,0,[]⟩,
 ⟨⟨(.some 37),(.some (35,true)),(.op (.load false 1 (.tmp 36)))⟩,1,[7]⟩,
 ⟨⟨(.some 38),(.some (35,true)),(.op (.un .not (.tmp 37)))⟩,0,[]⟩,
 ⟨⟨(.some 39),(.some (28,false)),(.op (.pick (.tmp 35) (.tmp 38) (.const (.bool false))))⟩,0,[]⟩,
 ⟨op 40 (.pick (.tmp 28) (.const (.bool true)) (.tmp 39)),0,[]⟩])
 (.cond (.tmp 40) (.seq (.ops [op 6 (.move (.const (.int .i64 (.ofNat 101))))])
 .ret)
 .skip))
 (.seq (.draw [⟨mv 41 0,0,[]⟩,
 ⟨op 42 (.nilCheck (.tmp 41)),0,[]⟩,
 ⟨op 43 (.fieldAddr 0 (.tmp 42)),0,[]⟩,
 ⟨op 44 (.load false 1 (.tmp 43)),1,[0]⟩,
 ⟨op 45 (.nilCheck (.tmp 44)),0,[]⟩,
 ⟨op 46 (.fieldAddr 1 (.tmp 45)),0,[]⟩,
 ⟨op 47 (.load false 1 (.tmp 46)),1,[0]⟩,
 ⟨op 48 (.fieldAddr 0 (.tmp 7)),0,[]⟩,
 ⟨op 49 (.load false 1 (.tmp 48)),1,[0]⟩,
 ⟨op 50 (.lookup .str .nilPtr (.tmp 47) (.tmp 49) false),1,[0]⟩,
 ⟨mv 8 50,0,[]⟩])
 (.seq (.seq (.ops [mv 51 8,
 op 52 (.eq false .ptr (.tmp 51) (.const .nilPtr))])
 (.cond (.tmp 52) (.seq (.draw [⟨op 53 (.fieldAddr 0 (.tmp 7)),0,[]⟩,
 ⟨op 54 (.load false 1 (.tmp 53)),1,[0]⟩,
 ⟨op 55 (.fieldAddr 1 (.tmp 7)),0,[]⟩,
 ⟨op 56 (.load false 1 (.tmp 55)),1,[0,6]⟩,
 ⟨op 57 (.fieldAddr 0 (.tmp 5)),0,[]⟩,
 ⟨⟨.none,.none,(.op (.store 1 (.tmp 57) (.tmp 54)))⟩,2,[]⟩,
 ⟨op 58 (.fieldAddr 3 (.tmp 5)),0,[]⟩,
 ⟨⟨.none,.none,(.op (.store 1 (.tmp 58) (.tmp 56)))⟩,2,[]⟩])
 (.seq (.ops [mv 59 0,
 op 60 (.nilCheck (.tmp 59)),
 op 61 (.fieldAddr 0 (.tmp 60)),
 op 62 (.load false 1 (.tmp 61)),
 ⟨(.some 63),.none,(.call (.func 354) [(.tmp 62),(.tmp 5)])⟩])
 (.seq (.ops [op 6 (.move (.const (.int .i64 (.ofNat 0))))])
 .ret)))
 .skip))
 (.seq (.seq (.draw [⟨mv 64 8,0,[]⟩,
 ⟨op 65 (.nilCheck (.tmp 64)),0,[]⟩,
 ⟨op 66 (.fieldAddr 3 (.tmp 65)),0,[]⟩,
 ⟨op 67 (.load false 1 (.tmp 66)),1,[0]⟩,
 ⟨op 68 (.un .not (.tmp 67)),0,[]⟩,
 ⟨mv 69 68,0,[]⟩,
 ⟨⟨(.some 70),(.some (69,false)),(.op (.fieldAddr 1 (.tmp 7)))⟩,0,[]⟩,
 ⟨⟨(.some 71),(.some (69,false)),(.op (.load false 1 (.tmp 70)))⟩,1,[0]⟩,
 ⟨⟨(.some 72),(.some (69,false)),(.op (.un .not (.tmp 71)))⟩,0,[]⟩,
 ⟨op 73 (.pick (.tmp 69) (.const (.bool true)) (.tmp 72)),0,[]⟩,
 ⟨mv 74 73,0,[]⟩,
 ⟨⟨(.some 75),(.some (74,false)),(.op (.move (.tmp 8)))⟩,0,[]⟩,
 ⟨⟨(.some 76),(.some (74,false)),(.op (.nilCheck (.tmp 75)))⟩,0,[]⟩,
 ⟨⟨(.some 77),(.some (74,false)),(.op (.fieldAddr 1 (.tmp 76)))⟩,0,[]⟩,
 ⟨⟨(.some 78),(.some (74,false)),(.op (.load false 1 (.tmp 77)))⟩,1,[0]⟩,
 ⟨⟨(.some 79),(.some (74,false)),(.op (.fieldAddr 1 (.tmp 5)))⟩,0,[]⟩,
 ⟨⟨(.some 80),(.some (74,false)),(.op (.load false 1 (.tmp 79)))⟩,1,[0]⟩,
 ⟨⟨(.some 81),(.some (74,false)),(.op (.arith .neq (.tmp 78) (.tmp 80)))⟩,0,[]⟩,
 ⟨op 82 (.pick (.tmp 74) (.const (.bool true)) (.tmp 81)),0,[]⟩,
 ⟨mv 83 82,0,[]⟩,
 ⟨⟨(.some 84),(.some (83,false)),(.op (.move (.tmp 8)))⟩,0,[]⟩,
 ⟨⟨(.some 85),(.some (83,false)),(.op (.nilCheck (.tmp 84)))⟩,0,[]⟩,
 ⟨⟨(.some 86),(.some (83,false)),(.op (.fieldAddr 2 (.tmp 85)))⟩,0,[]⟩,
 ⟨⟨(.some 87),(.some (83,false)),(.op (.load false 1 (.tmp 86)))⟩,1,[0]⟩,
 ⟨⟨(.some 88),(.some (83,false)),(.op (.fieldAddr 2 (.tmp 5)))⟩,0,[]⟩,
 ⟨⟨(.some 89),(.some (83,false)),(.op (.load false 1 (.tmp 88)))⟩,1,[0]⟩,
 ⟨⟨(.some 90),(.some (83,false)),(.op (.eq true .ptr (.tmp 87) (.tmp 89)))⟩,0,[]⟩,
 ⟨op 91 (.pick (.tmp 83) (.const (.bool true)) (.tmp 90)),0,[]⟩])
 (.cond (.tmp 91) (.seq (.ops [op 6 (.move (.const (.int .i64 (.ofNat 101))))])
 .ret)
 .skip))
 (.seq (.ops [op 6 (.move (.const (.int .i64 (.ofNat 0))))])
 .ret)))))))), [.tmp 6]⟩
def c354 : CFunc := ⟨23, (.seq (.ops [mv 4 0,
 mv 5 0,
 op 6 (.nilCheck (.tmp 5)),
 op 7 (.fieldAddr 0 (.tmp 6)),
 op 8 (.load false 1 (.tmp 7)),
 mv 9 1,
 op 10 (.buildSlice 505 [.nilPtr] 1 [(0,1,(.tmp 9))]),
 op 11 (.append 1 505 8 (.tmp 8) (.tmp 10)),
 op 12 (.nilCheck (.tmp 4)),
 op 13 (.fieldAddr 0 (.tmp 12)),
 ⟨.none,.none,(.op (.store 1 (.tmp 13) (.tmp 11)))⟩])
 (.draw [⟨mv 14 0,0,[]⟩,
 ⟨op 15 (.nilCheck (.tmp 14)),0,[]⟩,
 ⟨op 16 (.fieldAddr 1 (.tmp 15)),0,[]⟩,
 ⟨op 17 (.load false 1 (.tmp 16)),1,[0]⟩,
 ⟨mv 18 1,0,[]⟩,
 ⟨op 19 (.nilCheck (.tmp 18)),0,[]⟩,
 ⟨op 20 (.fieldAddr 0 (.tmp 19)),0,[]⟩,
 ⟨op 21 (.load false 1 (.tmp 20)),1,[0]⟩,
 ⟨mv 22 1,0,[]⟩,
 ⟨⟨.none,.none,(.op (.mapUpdate .str (.tmp 17) (.tmp 21) (.tmp 22)))⟩,2,[]⟩])), []⟩
def c356 : CFunc := ⟨23, (.seq (.ops [op 4 (.move (.const (.str []))),
 op 5 (.move (.const (.str []))),
 op 6 (.move (.const (.bool false)))])
 (.seq (.seq (.ops [mv 8 0,
 mv 9 1,
 ⟨(.some 10),.none,(.call (.func 401) [(.tmp 8),(.tmp 9)])⟩,
 mv 7 10])
 (.seq (.ops [mv 11 7,
 op 12 (.arith .geq (.tmp 11) (.const (.int .i64 (.ofNat 0))))])
 (.cond (.tmp 12) (.seq (.draw [⟨mv 13 0,0,[]⟩,
 ⟨mv 14 7,0,[]⟩,
 ⟨op 15 (.slice .str (.tmp 13) .none (.some (.tmp 14)) .none),0,[]⟩,
 ⟨mv 16 0,0,[]⟩,
 ⟨mv 17 7,0,[]⟩,
 ⟨mv 18 1,0,[]⟩,
 ⟨op 19 (.lenStr (.tmp 18)),0,[]⟩,
 ⟨op 20 (.arith .add (.tmp 17) (.tmp 19)),0,[]⟩,
 ⟨op 21 (.slice .str (.tmp 16) (.some (.tmp 20)) .none .none),0,[]⟩,
 ⟨mv 4 15,0,[]⟩,
 ⟨mv 5 21,0,[]⟩,
 ⟨op 6 (.move (.const (.bool true))),0,[]⟩])
 .ret)
 .skip)))
 (.seq (.ops [mv 22 0,
 mv 4 22,
 op 5 (.move (.const (.str []))),
 op 6 (.move (.const (.bool false)))])
 .ret))), [.tmp 4, .tmp 5, .tmp 6]⟩
def c357 : CFunc := ⟨49, (.seq (.ops [op 2 (.move (.const (.str []))),
 op 3 (.move (.const (.bool false))),
 op 4 (.move (.const (.bool false)))])
 (.seq (.ops [mv 8 0,
 op 9 (.lenStr (.tmp 8)),
 op 10 (.arith .gtr (.tmp 9) (.const (.int .i64 (.ofNat 0)))),
 mv 11 10,
 ⟨(.some 12),(.some (11,true)),(.op (.move (.tmp 0)))⟩,
 ⟨(.some 13),(.some (11,true)),(.op (.idxStr (.tmp 12) (.const (.int .i64 (.ofNat 0)))))⟩,
 ⟨(.some 14),(.some (11,true)),(.op (.arith .eql (.tmp 13) (.const (.int .u8 (.ofNat 45)))))⟩,
 op 15 (.pick (.tmp 11) (.tmp 14) (.const (.bool false))),
 mv 5 15])
 (.seq (.ops [mv 16 0,
 mv 6 16])
 (.seq (.seq (.ops [mv 17 5])
 (.cond (.tmp 17) (.ops [mv 18 0,
 ⟨(.some 19),.none,(.op (.slice .str (.tmp 18) (.some (.const (.int .i64 (.ofNat 1)))) .none .none))⟩,
 mv 6 19])
 .skip))
 (.seq (.seq (.ops [mv 20 6,
 op 21 (.arith .eql (.tmp 20) (.const (.str []))),
 mv 22 21,
 ⟨(.some 23),(.some (22,false)),(.op (.move (.tmp 6)))⟩,
 ⟨(.some 24),(.some (22,false)),(.op (.idxStr (.tmp 23) (.const (.int .i64 (.ofNat 0)))))⟩,
 ⟨(.some 25),(.some (22,false)),(.op (.arith .eql (.tmp 24) (.const (.int .u8 (.ofNat 48)))))⟩,
 ⟨(.some 26),(.some (22,false)),(.op (.move (.tmp 25)))⟩,
 ⟨(.some 27),(.some (26,true)),(.op (.move (.tmp 0)))⟩,
 ⟨(.some 28),(.some (26,true)),(.op (.arith .neq (.tmp 27) (.const (.str [48]))))⟩,
 ⟨(.some 29),(.some (22,false)),(.op (.pick (.tmp 26) (.tmp 28) (.const (.bool false))))⟩,
 op 30 (.pick (.tmp 22) (.const (.bool true)) (.tmp 29))])
 (.cond (.tmp 30) (.seq (.ops [op 2 (.move (.const (.str []))),
 op 3 (.move (.const (.bool false))),
 op 4 (.move (.const (.bool false)))])
 .ret)
 .skip))
 (.seq (.seq (.ops [mv 31 6,
 op 32 (.lenStr (.tmp 31)),
 op 33 (.move (.const (.int .i64 (.ofNat 0))))])
 (.block 0 (.loop (.seq (.ops [op 34 (.arith .lss (.tmp 33) (.tmp 32))])
 (.seq (.cond (.tmp 34) .skip
 (.exit 0))
 (.seq (.block 1 (.seq (.ops [mv 35 33,
 mv 7 35])
 (.seq (.ops [mv 36 6,
 mv 37 7,
 op 38 (.idxStr (.tmp 36) (.tmp 37)),
 op 39 (.arith .lss (.tmp 38) (.const (.int .u8 (.ofNat 48)))),
 mv 40 39,
 ⟨(.some 41),(.some (40,false)),(.op (.move (.tmp 6)))⟩,
 ⟨(.some 42),(.some (40,false)),(.op (.move (.tmp 7)))⟩,
 ⟨(.some 43),(.some (40,false)),(.op (.idxStr (.tmp 41) (.tmp 42)))⟩,
 ⟨(.some 44),(.some (40,false)),(.op (.arith .gtr (.tmp 43) (.const (.int .u8 (.ofNat 57)))))⟩,
 op 45 (.pick (.tmp 40) (.const (.bool true)) (.tmp 44))])
 (.cond (.tmp 45) (.seq (.ops [op 2 (.move (.const (.str []))),
 op 3 (.move (.const (.bool false))),
 op 4 (.move (.const (.bool false)))])
 .ret)
 .skip))))
 (.ops [op 46 (.arith .add (.tmp 33) (.const (.int .i64 (.ofNat 1)))),
 mv 33 46])))))))
 (.seq (.ops [mv 47 6,
 mv 48 5,
 mv 2 47,
 mv 3 48,
 op 4 (.move (.const (.bool true)))])
 .ret))))))), [.tmp 2, .tmp 3, .tmp 4]⟩
def c358 : CFunc := ⟨68, (.seq (.ops [op 4 (.move (.const .nilSlice))])
 (.seq (.ops [mv 10 0,
 op 11 (.lenRow (.tmp 10)),
 mv 12 1,
 op 13 (.lenRow (.tmp 12)),
 op 14 (.arith .add (.tmp 11) (.tmp 13)),
 op 15 (.makeSlice 194 [(.int .u32 (.ofNat 0))] 4 (.tmp 14) (.tmp 14)),
 mv 5 15])
 (.seq (.seq (.ops [mv 16 0,
 op 17 (.lenRow (.tmp 16)),
 op 18 (.move (.const (.int .i64 (.ofNat 0))))])
 (.block 0 (.loop (.seq (.ops [op 19 (.arith .lss (.tmp 18) (.tmp 17))])
 (.seq (.cond (.tmp 19) .skip
 (.exit 0))
 (.seq (.block 1 (.seq (.ops [mv 20 18,
 mv 6 20])
 (.seq (.ops [op 7 (.move (.const (.int .u64 (.ofNat 0))))])
 (.seq (.seq (.ops [mv 21 1,
 op 22 (.lenRow (.tmp 21)),
 op 23 (.move (.const (.int .i64 (.ofNat 0))))])
 (.block 2 (.loop (.seq (.ops [op 24 (.arith .lss (.tmp 23) (.tmp 22))])
 (.seq (.cond (.tmp 24) .skip
 (.exit 2))
 (.seq (.block 3 (.seq (.ops [mv 25 23,
 mv 8 25])
 (.seq (.draw [⟨mv 26 0,0,[]⟩,
 ⟨mv 27 6,0,[]⟩,
 ⟨op 28 (.idxRow 1 (.tmp 26) (.tmp 27)),0,[]⟩,
 ⟨op 29 (.load false 1 (.tmp 28)),1,[0]⟩,
 ⟨op 30 (.toInt .u64 (.tmp 29)),0,[]⟩,
 ⟨mv 31 1,0,[]⟩,
 ⟨mv 32 8,0,[]⟩,
 ⟨op 33 (.idxRow 1 (.tmp 31) (.tmp 32)),0,[]⟩,
 ⟨op 34 (.load false 1 (.tmp 33)),1,[0]⟩,
 ⟨op 35 (.toInt .u64 (.tmp 34)),0,[]⟩,
 ⟨op 36 (.arith .mul (.tmp 30) (.tmp 35)),0,[]⟩,
 ⟨mv 37 5,0,[]⟩,
 ⟨mv 38 6,0,[]⟩,
 ⟨mv 39 8,0,[]⟩,
 ⟨op 40 (.arith .add (.tmp 38) (.tmp 39)),0,[]⟩,
 ⟨op 41 (.idxRow 1 (.tmp 37) (.tmp 40)),0,[]⟩,
 ⟨op 42 (.load false 1 (.tmp 41)),1,[0]⟩,
 ⟨op 43 (.toInt .u64 (.tmp 42)),0,[]⟩,
 ⟨op 44 (.arith .add (.tmp 36) (.tmp 43)),0,[]⟩,
 ⟨mv 45 7,0,[]⟩,
 ⟨op 46 (.arith .add (.tmp 44) (.tmp 45)),0,[]⟩,
 ⟨mv 9 46,0,[]⟩])
 (.seq (.ops [mv 47 5,
 mv 48 6,
 mv 49 8,
 op 50 (.arith .add (.tmp 48) (.tmp 49)),
 mv 51 9,
 op 52 (.toInt .u32 (.tmp 51)),
 op 53 (.idxRow 1 (.tmp 47) (.tmp 50)),
 ⟨.none,.none,(.op (.store 1 (.tmp 53) (.tmp 52)))⟩])
 (.ops [mv 54 9,
 op 55 (.arith .shr (.tmp 54) (.const (.int .u64 (.ofNat 32)))),
 mv 7 55])))))
 (.ops [op 56 (.arith .add (.tmp 23) (.const (.int .i64 (.ofNat 1)))),
 mv 23 56])))))))
 (.ops [mv 57 5,
 mv 58 6,
 mv 59 1,
 op 60 (.lenRow (.tmp 59)),
 op 61 (.arith .add (.tmp 58) (.tmp 60)),
 mv 62 7,
 op 63 (.toInt .u32 (.tmp 62)),
 op 64 (.idxRow 1 (.tmp 57) (.tmp 61)),
 ⟨.none,.none,(.op (.store 1 (.tmp 64) (.tmp 63)))⟩])))))
 (.ops [op 65 (.arith .add (.tmp 18) (.const (.int .i64 (.ofNat 1)))),
 mv 18 65])))))))
 (.seq (.ops [mv 66 5,
 ⟨(.some 67),.none,(.call (.func 217) [(.tmp 66)])⟩,
 mv 4 67])
 .ret)))), [.tmp 4]⟩
def c387 : CFunc := ⟨8, (.seq (.ops [op 4 (.move (.const (.bool false)))])
 (.seq (.ops [mv 5 0,
 mv 6 1,
 ⟨(.some 7),.none,(.call (.func 422) [(.tmp 5),(.tmp 6)])⟩,
 mv 4 7])
 .ret)), [.tmp 4]⟩
def c388 : CFunc := ⟨32, (.seq (.ops [op 6 (.move (.const (.bool false)))])
 (.seq (.seq (.ops [mv 10 0,
 op 11 (.lenRow (.tmp 10)),
 mv 12 1,
 op 13 (.lenRow (.tmp 12)),
 op 14 (.arith .neq (.tmp 11) (.tmp 13))])
 (.cond (.tmp 14) (.seq (.ops [op 6 (.move (.const (.bool false)))])
 .ret)
 .skip))
 (.seq (.seq (.ops [mv 15 0,
 op 16 (.lenRow (.tmp 15)),
 op 17 (.move (.const (.int .i64 (.ofNat 0))))])
 (.block 0 (.loop (.seq (.ops [op 18 (.arith .lss (.tmp 17) (.tmp 16))])
 (.seq (.cond (.tmp 18) .skip
 (.exit 0))
 (.seq (.block 1 (.seq (.ops [mv 19 17,
 op 20 (.idxRow 1 (.tmp 15) (.tmp 17)),
 op 21 (.load false 1 (.tmp 20)),
 mv 7 19,
 mv 8 21])
 (.seq (.ops [mv 22 1,
 mv 23 7,
 op 24 (.idxRow 1 (.tmp 22) (.tmp 23)),
 op 25 (.load false 1 (.tmp 24)),
 mv 9 25])
 (.seq (.ops [mv 26 2,
 mv 27 8,
 mv 28 9,
 ⟨(.some 29),.none,(.call (.tmp 26) [(.tmp 27),(.tmp 28)])⟩,
 op 30 (.un .not (.tmp 29))])
 (.cond (.tmp 30) (.seq (.ops [op 6 (.move (.const (.bool false)))])
 .ret)
 .skip)))))
 (.ops [op 31 (.arith .add (.tmp 17) (.const (.int .i64 (.ofNat 1)))),
 mv 17 31])))))))
 (.seq (.ops [op 6 (.move (.const (.bool true)))])
 .ret)))), [.tmp 6]⟩
def c389 : CFunc := ⟨17, (.seq (.ops [op 2 (.box 118 (.tmp 0)),
 op 3 (.box 118 (.tmp 1)),
 op 4 (.move (.const (.bool false)))])
 (.seq (.ops [op 5 (.fieldAddr 0 (.tmp 2)),
 op 6 (.load true 2 (.tmp 5)),
 op 7 (.fieldAddr 0 (.tmp 3)),
 op 8 (.load true 2 (.tmp 7)),
 ⟨(.some 9),.none,(.call (.func 423) [(.tmp 6),(.tmp 8)])⟩,
 mv 10 9,
 ⟨(.some 11),(.some (10,true)),(.op (.fieldAddr 2 (.tmp 2)))⟩,
 ⟨(.some 12),(.some (10,true)),(.op (.load true 2 (.tmp 11)))⟩,
 ⟨(.some 13),(.some (10,true)),(.op (.fieldAddr 2 (.tmp 3)))⟩,
 ⟨(.some 14),(.some (10,true)),(.op (.load true 2 (.tmp 13)))⟩,
 ⟨(.some 15),(.some (10,true)),(.call (.func 423) [(.tmp 12),(.tmp 14)])⟩,
 op 16 (.pick (.tmp 10) (.tmp 15) (.const (.bool false))),
 mv 4 16])
 .ret)), [.tmp 4]⟩
def c390 : CFunc := ⟨26, (.seq (.ops [op 4 (.move (.const (.bool false)))])
 (.seq (.seq (.ops [mv 6 0,
 op 7 (.lenRow (.tmp 6)),
 mv 8 1,
 op 9 (.lenRow (.tmp 8)),
 op 10 (.arith .neq (.tmp 7) (.tmp 9))])
 (.cond (.tmp 10) (.seq (.ops [op 4 (.move (.const (.bool false)))])
 .ret)
 .skip))
 (.seq (.seq (.ops [mv 11 0,
 op 12 (.lenRow (.tmp 11)),
 op 13 (.move (.const (.int .i64 (.ofNat 0))))])
 (.block 0 (.loop (.seq (.ops [op 14 (.arith .lss (.tmp 13) (.tmp 12))])
 (.seq (.cond (.tmp 14) .skip
 (.exit 0))
 (.seq (.block 1 (.seq (.ops [mv 15 13,
 mv 5 15])
 (.seq (.draw [⟨mv 16 0,0,[]⟩,
 ⟨mv 17 5,0,[]⟩,
 ⟨op 18 (.idxRow 2 (.tmp 16) (.tmp 17)),0,[]⟩,
 ⟨op 19 (.load true 2 (.tmp 18)),1,[0]⟩,
 ⟨mv 20 1,0,[]⟩,
 ⟨mv 21 5,0,[]⟩,
 ⟨op 22 (.idxRow 2 (.tmp 20) (.tmp 21)),0,[]⟩,
 ⟨op 23 (.load true 2 (.tmp 22)),1,[0]⟩,
 ⟨op 24 (.eq true (.struct [(0,1,false,.int),(1,1,false,.str)]) (.tmp 19) (.tmp 23)),0,[]⟩])
 (.cond (.tmp 24) (.seq (.ops [op 4 (.move (.const (.bool false)))])
 .ret)
 .skip))))
 (.ops [op 25 (.arith .add (.tmp 13) (.const (.int .i64 (.ofNat 1)))),
 mv 13 25])))))))
 (.seq (.ops [op 4 (.move (.const (.bool true)))])
 .ret)))), [.tmp 4]⟩
def c391 : CFunc := ⟨8, (.seq (.ops [op 4 (.move (.const (.bool false)))])
 (.seq (.ops [mv 5 0,
 mv 6 1,
 ⟨(.some 7),.none,(.call (.func 424) [(.tmp 5),(.tmp 6),(.func 344)])⟩,
 mv 4 7])
 .ret)), [.tmp 4]⟩
def c392 : CFunc := ⟨23, (.seq (.seq (.ops [mv 4 1,
 op 5 (.arith .lss (.tmp 4) (.const (.int .i64 (.ofNat 1)))),
 mv 6 5,
 ⟨(.some 7),(.some (6,false)),(.op (.move (.tmp 1)))⟩,
 ⟨(.some 8),(.some (6,false)),(.op (.arith .gtr (.tmp 7) (.const (.int .i64 (.ofNat 3)))))⟩,
 op 9 (.pick (.tmp 6) (.const (.bool true)) (.tmp 8))])
 (.cond (.tmp 9) (.seq (.ops [mv 10 0,
 op 11 (.nilCheck (.tmp 10)),
 op 12 (.fieldAddr 2 (.tmp 11)),
 ⟨.none,.none,(.op (.store 1 (.tmp 12) (.const (.bool true))))⟩])
 .ret)
 .skip))
 (.draw [⟨mv 13 0,0,[]⟩,
 ⟨op 14 (.nilCheck (.tmp 13)),0,[]⟩,
 ⟨op 15 (.fieldAddr 0 (.tmp 14)),0,[]⟩,
 ⟨⟨(.some 16),.none,(.call (.func 263) [(.const (.str [112,111,105,110,116,32,108,105,110,101,32,99,105,114,99,108,101]))])⟩,2,[]⟩,
 ⟨mv 17 1,0,[]⟩,
 ⟨op 18 (.arith .sub (.tmp 17) (.const (.int .i64 (.ofNat 1)))),0,[]⟩,
 ⟨op 19 (.idxRow 1 (.tmp 16) (.tmp 18)),0,[]⟩,
 ⟨op 20 (.load false 1 (.tmp 19)),1,[4]⟩,
 ⟨op 21 (.arith .add (.tmp 20) (.const (.str [32]))),0,[]⟩,
 ⟨⟨(.some 22),.none,(.call (.func 97) [(.tmp 15),(.tmp 21)])⟩,2,[]⟩])), []⟩
def c393 : CFunc := ⟨20, (.seq (.ops [op 3 (.box 118 (.tmp 1))])
 (.seq (.ops [op 7 (.load true 4 (.tmp 3)),
 ⟨(.some 8),.none,(.call (.func 425) [(.tmp 7)])⟩,
 mv 6 8,
 op 9 (.extract (.tmp 6) 0),
 op 10 (.extract (.tmp 6) 1),
 mv 4 9,
 mv 5 10])
 (.seq (.ops [mv 11 0,
 mv 12 5,
 op 13 (.arith .eql (.tmp 12) (.const (.int .i64 (.ofNat 0)))),
 ⟨(.some 14),.none,(.call (.func 343) [(.tmp 11),(.tmp 13)])⟩])
 (.ops [mv 15 0,
 op 16 (.nilCheck (.tmp 15)),
 op 17 (.fieldAddr 0 (.tmp 16)),
 mv 18 4,
 ⟨(.some 19),.none,(.call (.func 97) [(.tmp 17),(.tmp 18)])⟩])))), []⟩
def c396 : CFunc := ⟨39, (.seq (.ops [op 2 (.move (.const (.bool false)))])
 (.seq (.seq (.ops [mv 4 0,
 op 5 (.arith .eql (.tmp 4) (.const (.str []))),
 mv 6 5,
 ⟨(.some 7),(.some (6,false)),(.op (.move (.tmp 0)))⟩,
 ⟨(.some 8),(.some (6,false)),(.op (.lenStr (.tmp 7)))⟩,
 ⟨(.some 9),(.some (6,false)),(.op (.arith .gtr (.tmp 8) (.const (.int .i64 (.ofNat 12)))))⟩,
 op 10 (.pick (.tmp 6) (.const (.bool true)) (.tmp 9)),
 mv 11 10,
 ⟨(.some 12),(.some (11,false)),(.op (.move (.tmp 0)))⟩,
 ⟨(.some 13),(.some (11,false)),(.op (.idxStr (.tmp 12) (.const (.int .i64 (.ofNat 0)))))⟩,
 ⟨(.some 14),(.some (11,false)),(.call (.func 162) [(.tmp 13)])⟩,
 ⟨(.some 15),(.some (11,false)),(.op (.un .not (.tmp 14)))⟩,
 op 16 (.pick (.tmp 11) (.const (.bool true)) (.tmp 15)),
 mv 17 16,
 ⟨(.some 18),(.some (17,false)),(.op (.move (.tmp 0)))⟩,
 ⟨(.some 19),(.some (17,false)),(.call (.func 266) [(.tmp 18)])⟩,
 op 20 (.pick (.tmp 17) (.const (.bool true)) (.tmp 19))])
 (.cond (.tmp 20) (.seq (.ops [op 2 (.move (.const (.bool false)))])
 .ret)
 .skip))
 (.seq (.seq (.ops [mv 21 0,
 op 22 (.lenStr (.tmp 21)),
 op 23 (.move (.const (.int .i64 (.ofNat 0))))])
 (.block 0 (.loop (.seq (.ops [op 24 (.arith .lss (.tmp 23) (.tmp 22))])
 (.seq (.cond (.tmp 24) .skip
 (.exit 0))
 (.seq (.block 1 (.seq (.ops [mv 25 23,
 mv 3 25])
 (.seq (.ops [mv 26 0,
 mv 27 3,
 op 28 (.idxStr (.tmp 26) (.tmp 27)),
 ⟨(.some 29),.none,(.call (.func 162) [(.tmp 28)])⟩,
 op 30 (.un .not (.tmp 29)),
 mv 31 30,
 ⟨(.some 32),(.some (31,true)),(.op (.move (.tmp 0)))⟩,
 ⟨(.some 33),(.some (31,true)),(.op (.move (.tmp 3)))⟩,
 ⟨(.some 34),(.some (31,true)),(.op (.idxStr (.tmp 32) (.tmp 33)))⟩,
 ⟨(.some 35),(.some (31,true)),(.call (.func 163) [(.tmp 34)])⟩,
 ⟨(.some 36),(.some (31,true)),(.op (.un .not (.tmp 35)))⟩,
 op 37 (.pick (.tmp 31) (.tmp 36) (.const (.bool false)))])
 (.cond (.tmp 37) (.seq (.ops [op 2 (.move (.const (.bool false)))])
 .ret)
 .skip))))
 (.ops [op 38 (.arith .add (.tmp 23) (.const (.int .i64 (.ofNat 1)))),
 mv 23 38])))))))
 (.seq (.ops [op 2 (.move (.const (.bool true)))])
 .ret)))), [.tmp 2]⟩
def c398 : CFunc := ⟨24, (.seq (.ops [op 3 (.box 238 (.tmp 1)),
 op 4 (.move (.const (.bool false)))])
 (.seq (.draw [⟨op 5 (.fieldAddr 1 (.tmp 3)),0,[]⟩,
 ⟨op 6 (.load false 1 (.tmp 5)),1,[0]⟩,
 ⟨op 7 (.un .not (.tmp 6)),0,[]⟩,
 ⟨mv 8 7,0,[]⟩,
 ⟨⟨(.some 9),(.some (8,false)),(.op (.fieldAddr 2 (.tmp 3)))⟩,0,[]⟩,
 ⟨⟨(.some 10),(.some (8,false)),(.op (.fieldAddr 0 (.tmp 9)))⟩,0,[]⟩,
 ⟨⟨(.some 11),(.some (8,false)),(.op (.load false 1 (.tmp 10)))⟩,1,[0]⟩,
 ⟨⟨(.some 12),(.some (8,false)),(.op (.arith .eql (.tmp 11) (.const (.str []))))⟩,0,[]⟩,
 ⟨op 13 (.pick (.tmp 8) (.const (.bool true)) (.tmp 12)),0,[]⟩,
 ⟨mv 14 13,0,[]⟩,
 ⟨⟨(.some 15),(.some (14,false)),(.op (.move (.tmp 0)))⟩,0,[]⟩,
 ⟨⟨(.some 16),(.some (14,false)),(.op (.nilCheck (.tmp 15)))⟩,0,[]⟩,
 ⟨⟨(.some 17),(.some (14,false)),(.op (.fieldAddr 1 (.tmp 16)))⟩,0,[]⟩,
 ⟨⟨(.some 18),(.some (14,false)),(.op (.load false 1 (.tmp 17)))⟩,1,[0]⟩,
 ⟨⟨(.some 19),(.some (14,false)),(.op (.fieldAddr 2 (.tmp 3)))⟩,0,[]⟩,
 ⟨⟨(.some 20),(.some (14,false)),(.op (.fieldAddr 0 (.tmp 19)))⟩,0,[]⟩,
 ⟨⟨(.some 21),(.some (14,false)),(.op (.load false 1 (.tmp 20)))⟩,1,[0]⟩,
 ⟨⟨(.some 22),(.some (14,false)),(.call (.func 312) [(.tmp 18),(.tmp 21)])⟩,2,[]⟩,
 ⟨op 23 (.pick (.tmp 14) (.const (.bool true)) (.tmp 22)),0,[]⟩,
 ⟨mv 4 23,0,[]⟩])
 .ret)), [.tmp 4]⟩
def c401 : CFunc := ⟨143, (.seq (.ops [op 4 (.move (.const (.int .i64 (.ofNat 0))))])
 (.seq (.ops [mv 14 1,
 op 15 (.lenStr (.tmp 14)),
 mv 5 15])
 (.seq (.block 0 (.seq (.ops [mv 17 5,
 op 18 (.arith .eql (.tmp 17) (.const (.int .i64 (.ofNat 0)))),
 mv 19 18,
 ⟨(.some 20),(.some (19,false)),(.op (.move (.tmp 1)))⟩,
 ⟨(.some 21),(.some (19,false)),(.op (.move (.tmp 0)))⟩,
 ⟨(.some 22),(.some (19,false)),(.op (.arith .eql (.tmp 20) (.tmp 21)))⟩,
 op 23 (.pick (.tmp 19) (.const (.bool true)) (.tmp 22)),
 mv 16 23])
 (.cond (.tmp 16) (.seq (.ops [op 4 (.move (.const (.int .i64 (.ofNat 0))))])
 .ret)
 (.seq (.ops [mv 25 5,
 op 26 (.arith .eql (.tmp 25) (.const (.int .i64 (.ofNat 1)))),
 mv 24 26])
 (.cond (.tmp 24) (.seq (.ops [mv 27 0,
 mv 28 1,
 op 29 (.idxStr (.tmp 28) (.const (.int .i64 (.ofNat 0)))),
 ⟨(.some 30),.none,(.call (.func 203) [(.tmp 27),(.tmp 29)])⟩,
 mv 4 30])
 .ret)
 (.seq (.ops [mv 32 5,
 mv 33 0,
 op 34 (.lenStr (.tmp 33)),
 op 35 (.arith .geq (.tmp 32) (.tmp 34)),
 mv 31 35])
 (.cond (.tmp 31) (.seq (.ops [op 4 (.move (.const (.int .i64 (.negSucc 0))))])
 .ret)
 (.seq (.ops [mv 37 5,
 op 38 (.load false 1 (.glob 0)),
 op 39 (.arith .leq (.tmp 37) (.tmp 38)),
 mv 40 39,
 ⟨(.some 41),(.some (40,true)),(.op (.move (.tmp 0)))⟩,
 ⟨(.some 42),(.some (40,true)),(.op (.lenStr (.tmp 41)))⟩,
 ⟨(.some 43),(.some (40,true)),(.op (.arith .leq (.tmp 42) (.const (.int .i64 (.ofNat 64)))))⟩,
 op 44 (.pick (.tmp 40) (.tmp 43) (.const (.bool false))),
 mv 36 44])
 (.cond (.tmp 36) (.seq (.ops [mv 45 0,
 mv 46 1,
 ⟨(.some 47),.none,(.call (.func 426) [(.tmp 45),(.tmp 46)])⟩,
 mv 4 47])
 .ret)
 .skip)))))))))
 (.seq (.ops [mv 48 1,
 op 49 (.idxStr (.tmp 48) (.const (.int .i64 (.ofNat 0)))),
 mv 6 49])
 (.seq (.ops [mv 50 1,
 op 51 (.idxStr (.tmp 50) (.const (.int .i64 (.ofNat 1)))),
 mv 7 51])
 (.seq (.ops [op 8 (.move (.const (.int .i64 (.ofNat 0))))])
 (.seq (.ops [mv 52 0,
 op 53 (.lenStr (.tmp 52)),
 mv 54 5,
 op 55 (.arith .sub (.tmp 53) (.tmp 54)),
 op 56 (.arith .add (.tmp 55) (.const (.int .i64 (.ofNat 1)))),
 mv 9 56])
 (.seq (.ops [op 10 (.move (.const (.int .i64 (.ofNat 0))))])
 (.seq (.block 1 (.loop (.seq (.seq (.ops [mv 57 8,
 mv 58 9,
 op 59 (.arith .lss (.tmp 57) (.tmp 58))])
 (.cond (.tmp 59) .skip
 (.exit 1)))
 (.block 2 (.seq (.seq (.ops [mv 60 0,
 mv 61 8,
 op 62 (.idxStr (.tmp 60) (.tmp 61)),
 mv 63 6,
 op 64 (.arith .neq (.tmp 62) (.tmp 63))])
 (.cond (.tmp 64) (.seq (.ops [mv 65 0,
 mv 66 8,
 op 67 (.arith .add (.tmp 66) (.const (.int .i64 (.ofNat 1)))),
 mv 68 9,
 op 69 (.slice .str (.tmp 65) (.some (.tmp 67)) (.some (.tmp 68)) .none),
 mv 70 6,
 ⟨(.some 71),.none,(.call (.func 203) [(.tmp 69),(.tmp 70)])⟩,
 mv 11 71])
 (.seq (.seq (.ops [mv 72 11,
 op 73 (.arith .lss (.tmp 72) (.const (.int .i64 (.ofNat 0))))])
 (.cond (.tmp 73) (.seq (.ops [op 4 (.move (.const (.int .i64 (.negSucc 0))))])
 .ret)
 .skip))
 (.ops [mv 74 8,
 mv 75 11,
 op 76 (.arith .add (.tmp 75) (.const (.int .i64 (.ofNat 1)))),
 op 77 (.arith .add (.tmp 74) (.tmp 76)),
 mv 8 77])))
 .skip))
 (.seq (.seq (.ops [mv 78 0,
 mv 79 8,
 op 80 (.arith .add (.tmp 79) (.const (.int .i64 (.ofNat 1)))),
 op 81 (.idxStr (.tmp 78) (.tmp 80)),
 mv 82 7,
 op 83 (.arith .eql (.tmp 81) (.tmp 82)),
 mv 84 83,
 ⟨(.some 85),(.some (84,true)),(.op (.move (.tmp 0)))⟩,
 ⟨(.some 86),(.some (84,true)),(.op (.move (.tmp 8)))⟩,
 ⟨(.some 87),(.some (84,true)),(.op (.move (.tmp 8)))⟩,
 ⟨(.some 88),(.some (84,true)),(.op (.move (.tmp 5)))⟩,
 ⟨(.some 89),(.some (84,true)),(.op (.arith .add (.tmp 87) (.tmp 88)))⟩,
 ⟨(.some 90),(.some (84,true)),(.op (.slice .str (.tmp 85) (.some (.tmp 86)) (.some (.tmp 89)) .none))⟩,
 ⟨(.some 91),(.some (84,true)),(.op (.move (.tmp 1)))⟩,
 ⟨(.some 92),(.some (84,true)),(.op (.arith .eql (.tmp 90) (.tmp 91)))⟩,
 op 93 (.pick (.tmp 84) (.tmp 92) (.const (.bool false)))])
 (.cond (.tmp 93) (.seq (.ops [mv 94 8,
 mv 4 94])
 .ret)
 .skip))
 (.seq (.ops [mv 95 8,
 op 96 (.arith .add (.tmp 95) (.const (.int .i64 (.ofNat 1)))),
 mv 8 96])
 (.seq (.ops [mv 97 10,
 op 98 (.arith .add (.tmp 97) (.const (.int .i64 (.ofNat 1)))),
 mv 10 98])
 (.seq (.ops [mv 99 5,
 op 100 (.load false 1 (.glob 0)),
 op 101 (.arith .leq (.tmp 99) (.tmp 100)),
 mv 102 101,
 ⟨(.some 103),(.some (102,true)),(.op (.move (.tmp 10)))⟩,
 ⟨(.some 104),(.some (102,true)),(.op (.move (.tmp 8)))⟩,
 ⟨(.some 105),(.some (102,true)),(.call (.func 427) [(.tmp 104)])⟩,
 ⟨(.some 106),(.some (102,true)),(.op (.arith .gtr (.tmp 103) (.tmp 105)))⟩,
 op 107 (.pick (.tmp 102) (.tmp 106) (.const (.bool false)))])
 (.cond (.tmp 107) (.seq (.ops [mv 108 0,
 mv 109 8,
 op 110 (.slice .str (.tmp 108) (.some (.tmp 109)) .none .none),
 mv 111 1,
 ⟨(.some 112),.none,(.call (.func 426) [(.tmp 110),(.tmp 111)])⟩,
 mv 12 112])
 (.seq (.seq (.ops [mv 113 12,
 op 114 (.arith .geq (.tmp 113) (.const (.int .i64 (.ofNat 0))))])
 (.cond (.tmp 114) (.seq (.ops [mv 115 12,
 mv 116 8,
 op 117 (.arith .add (.tmp 115) (.tmp 116)),
 mv 4 117])
 .ret)
 .skip))
 (.seq (.ops [op 4 (.move (.const (.int .i64 (.negSucc 0))))])
 .ret)))
 (.seq (.ops [mv 118 5,
 op 119 (.load false 1 (.glob 0)),
 op 120 (.arith .gtr (.tmp 118) (.tmp 119)),
 mv 121 120,
 ⟨(.some 122),(.some (121,true)),(.op (.move (.tmp 10)))⟩,
 ⟨(.some 123),(.some (121,true)),(.op (.move (.tmp 8)))⟩,
 ⟨(.some 124),(.some (121,true)),(.op (.arith .shr (.tmp 123) (.const (.int .u64 (.ofNat 4)))))⟩,
 ⟨(.some 125),(.some (121,true)),(.op (.arith .add (.const (.int .i64 (.ofNat 4))) (.tmp 124)))⟩,
 ⟨(.some 126),(.some (121,true)),(.op (.arith .geq (.tmp 122) (.tmp 125)))⟩,
 op 127 (.pick (.tmp 121) (.tmp 126) (.const (.bool false))),
 mv 128 127,
 ⟨(.some 129),(.some (128,true)),(.op (.move (.tmp 8)))⟩,
 ⟨(.some 130),(.some (128,true)),(.op (.move (.tmp 9)))⟩,
 ⟨(.some 131),(.some (128,true)),(.op (.arith .lss (.tmp 129) (.tmp 130)))⟩,
 op 132 (.pick (.tmp 128) (.tmp 131) (.const (.bool false)))])
 (.cond (.tmp 132) (.seq (.ops [mv 133 0,
 mv 134 8,
 op 135 (.slice .str (.tmp 133) (.some (.tmp 134)) .none .none),
 mv 136 1,
 ⟨(.some 137),.none,(.call (.func 428) [(.tmp 135),(.tmp 136)])⟩,
 mv 13 137])
 (.seq (.seq (.ops [mv 138 13,
 op 139 (.arith .lss (.tmp 138) (.const (.int .i64 (.ofNat 0))))])
 (.cond (.tmp 139) (.seq (.ops [op 4 (.move (.const (.int .i64 (.negSucc 0))))])
 .ret)
 .skip))
 (.seq (.ops [mv 140 8,
 mv 141 13,
 op 142 (.arith .add (.tmp 140) (.tmp 141)),
 mv 4 142])
 .ret)))
 .skip))))))))))))
 (.seq (.ops [op 4 (.move (.const (.int .i64 (.negSucc 0))))])
 .ret)))))))))), [.tmp 4]⟩
def c422 : CFunc := ⟨26, (.seq (.ops [op 4 (.move (.const (.bool false)))])
 (.seq (.seq (.ops [mv 6 0,
 op 7 (.lenRow (.tmp 6)),
 mv 8 1,
 op 9 (.lenRow (.tmp 8)),
 op 10 (.arith .neq (.tmp 7) (.tmp 9))])
 (.cond (.tmp 10) (.seq (.ops [op 4 (.move (.const (.bool false)))])
 .ret)
 .skip))
 (.seq (.seq (.ops [mv 11 0,
 op 12 (.lenRow (.tmp 11)),
 op 13 (.move (.const (.int .i64 (.ofNat 0))))])
 (.block 0 (.loop (.seq (.ops [op 14 (.arith .lss (.tmp 13) (.tmp 12))])
 (.seq (.cond (.tmp 14) .skip
 (.exit 0))
 (.seq (.block 1 (.seq (.ops [mv 15 13,
 mv 5 15])
 (.seq (.draw [⟨mv 16 0,0,[]⟩,
 ⟨mv 17 5,0,[]⟩,
 ⟨op 18 (.idxRow 4 (.tmp 16) (.tmp 17)),0,[]⟩,
 ⟨op 19 (.load true 4 (.tmp 18)),1,[0]⟩,
 ⟨mv 20 1,0,[]⟩,
 ⟨mv 21 5,0,[]⟩,
 ⟨op 22 (.idxRow 4 (.tmp 20) (.tmp 21)),0,[]⟩,
 ⟨op 23 (.load true 4 (.tmp 22)),1,[0]⟩,
 ⟨⟨(.some 24),.none,(.op (.eq true (.struct [(0,1,false,.str),(1,1,false,.bool),(2,2,true,(.struct [(0,1,false,.str),(1,1,false,.int)]))]) (.tmp 19) (.tmp 23)))⟩,0,[]⟩])
 (.cond (.tmp 24) (.seq (.ops [op 4 (.move (.const (.bool false)))])
 .ret)
 .skip))))
 (.ops [op 25 (.arith .add (.tmp 13) (.const (.int .i64 (.ofNat 1)))),
 mv 13 25])))))))
 (.seq (.ops [op 4 (.move (.const (.bool true)))])
 .ret)))), [.tmp 4]⟩
def c423 : CFunc := ⟨17, (.seq (.ops [op 2 (.box 116 (.tmp 0)),
 op 3 (.box 116 (.tmp 1)),
 op 4 (.move (.const (.bool false)))])
 (.seq (.ops [op 5 (.fieldAddr 0 (.tmp 2)),
 op 6 (.load false 1 (.tmp 5)),
 op 7 (.fieldAddr 0 (.tmp 3)),
 op 8 (.load false 1 (.tmp 7)),
 op 9 (.eq false .bool (.tmp 6) (.tmp 8)),
 mv 10 9,
 ⟨(.some 11),(.some (10,true)),(.op (.fieldAddr 1 (.tmp 2)))⟩,
 ⟨(.some 12),(.some (10,true)),(.op (.load false 1 (.tmp 11)))⟩,
 ⟨(.some 13),(.some (10,true)),(.op (.fieldAddr 1 (.tmp 3)))⟩,
 ⟨(.some 14),(.some (10,true)),(.op (.load false 1 (.tmp 13)))⟩,
 ⟨(.some 15),(.some (10,true)),(.call (.func 444) [(.tmp 12),(.tmp 14)])⟩,
 op 16 (.pick (.tmp 10) (.tmp 15) (.const (.bool false))),
 mv 4 16])
 .ret)), [.tmp 4]⟩
def c424 : CFunc := ⟨32, (.seq (.ops [op 6 (.move (.const (.bool false)))])
 (.seq (.seq (.ops [mv 10 0,
 op 11 (.lenRow (.tmp 10)),
 mv 12 1,
 op 13 (.lenRow (.tmp 12)),
 op 14 (.arith .neq (.tmp 11) (.tmp 13))])
 (.cond (.tmp 14) (.seq (.ops [op 6 (.move (.const (.bool false)))])
 .ret)
 .skip))
 (.seq (.seq (.ops [mv 15 0,
 op 16 (.lenRow (.tmp 15)),
 op 17 (.move (.const (.int .i64 (.ofNat 0))))])
 (.block 0 (.loop (.seq (.ops [op 18 (.arith .lss (.tmp 17) (.tmp 16))])
 (.seq (.cond (.tmp 18) .skip
 (.exit 0))
 (.seq (.block 1 (.seq (.ops [mv 19 17,
 op 20 (.idxRow 21 (.tmp 15) (.tmp 17)),
 op 21 (.load true 21 (.tmp 20)),
 op 8 (.alloc 234 [(.int .i64 (.ofNat 0)),(.int .i64 (.ofNat 0)),(.int .i64 (.ofNat 0)),.nilSlice,(.int .i64 (.ofNat 0)),.nilSlice,(.bool false),.nilSlice,(.bool false),.nilSlice,(.bool false),.nilSlice,(.bool false),.nilSlice,(.int .i64 (.ofNat 0)),.nilSlice,(.str []),(.str []),(.int .i64 (.ofNat 0)),(.int .i64 (.ofNat 0)),.nilSlice]),
 mv 7 19,
 ⟨.none,.none,(.op (.store 21 (.tmp 8) (.tmp 21)))⟩])
 (.seq (.ops [mv 22 1,
 mv 23 7,
 op 24 (.idxRow 21 (.tmp 22) (.tmp 23)),
 op 25 (.load true 21 (.tmp 24)),
 op 9 (.alloc 234 [(.int .i64 (.ofNat 0)),(.int .i64 (.ofNat 0)),(.int .i64 (.ofNat 0)),.nilSlice,(.int .i64 (.ofNat 0)),.nilSlice,(.bool false),.nilSlice,(.bool false),.nilSlice,(.bool false),.nilSlice,(.bool false),.nilSlice,(.int .i64 (.ofNat 0)),.nilSlice,(.str []),(.str []),(.int .i64 (.ofNat 0)),(.int .i64 (.ofNat 0)),.nilSlice]),
 ⟨.none,.none,(.op (.store 21 (.tmp 9) (.tmp 25)))⟩])
 (.seq (.ops [mv 26 2,
 op 27 (.load true 21 (.tmp 8)),
 op 28 (.load true 21 (.tmp 9)),
 ⟨(.some 29),.none,(.call (.tmp 26) [(.tmp 27),(.tmp 28)])⟩,
 op 30 (.un .not (.tmp 29))])
 (.cond (.tmp 30) (.seq (.ops [op 6 (.move (.const (.bool false)))])
 .ret)
 .skip)))))
 (.ops [op 31 (.arith .add (.tmp 17) (.const (.int .i64 (.ofNat 1)))),
 mv 17 31])))))))
 (.seq (.ops [op 6 (.move (.const (.bool true)))])
 .ret)))), [.tmp 6]⟩
def c425 : CFunc := ⟨38, (.seq (.ops [op 1 (.box 118 (.tmp 0)),
 op 2 (.move (.const (.str []))),
 op 3 (.move (.const (.int .i64 (.ofNat 0))))])
 (.seq (.seq (.ops [op 7 (.load true 4 (.tmp 1)),
 ⟨(.some 8),.none,(.call (.func 88) [(.tmp 7)])⟩,
 op 9 (.un .not (.tmp 8))])
 (.cond (.tmp 9) (.seq (.ops [op 2 (.move (.const (.str []))),
 op 3 (.move (.const (.int .i64 (.ofNat 1))))])
 .ret)
 .skip))
 (.seq (.ops [op 11 (.fieldAddr 0 (.tmp 1)),
 op 12 (.load true 2 (.tmp 11)),
 ⟨(.some 13),.none,(.call (.func 445) [(.tmp 12)])⟩,
 mv 10 13,
 op 14 (.extract (.tmp 10) 0),
 op 15 (.extract (.tmp 10) 1),
 mv 4 14,
 mv 5 15])
 (.seq (.seq (.ops [mv 16 5,
 op 17 (.arith .neq (.tmp 16) (.const (.int .i64 (.ofNat 0)))),
 mv 18 17,
 ⟨(.some 19),(.some (18,false)),(.op (.fieldAddr 2 (.tmp 1)))⟩,
 ⟨(.some 20),(.some (18,false)),(.op (.load true 2 (.tmp 19)))⟩,
 ⟨(.some 21),(.some (18,false)),(.call (.func 132) [(.tmp 20)])⟩,
 op 22 (.pick (.tmp 18) (.const (.bool true)) (.tmp 21))])
 (.cond (.tmp 22) (.seq (.ops [mv 23 4,
 mv 24 5,
 mv 2 23,
 mv 3 24])
 .ret)
 .skip))
 (.seq (.ops [op 26 (.fieldAddr 2 (.tmp 1)),
 op 27 (.load true 2 (.tmp 26)),
 ⟨(.some 28),.none,(.call (.func 445) [(.tmp 27)])⟩,
 mv 25 28,
 op 29 (.extract (.tmp 25) 0),
 op 30 (.extract (.tmp 25) 1),
 mv 6 29,
 mv 5 30])
 (.seq (.seq (.ops [mv 31 5,
 op 32 (.arith .neq (.tmp 31) (.const (.int .i64 (.ofNat 0))))])
 (.cond (.tmp 32) (.seq (.ops [mv 33 5,
 op 2 (.move (.const (.str []))),
 mv 3 33])
 .ret)
 .skip))
 (.seq (.ops [mv 34 4,
 op 35 (.arith .add (.tmp 34) (.const (.str [47]))),
 mv 36 6,
 op 37 (.arith .add (.tmp 35) (.tmp 36)),
 mv 2 37,
 op 3 (.move (.const (.int .i64 (.ofNat 0))))])
 .ret))))))), [.tmp 2, .tmp 3]⟩
def c444 : CFunc := ⟨26, (.seq (.ops [op 4 (.move (.const (.bool false)))])
 (.seq (.seq (.ops [mv 6 0,
 op 7 (.lenRow (.tmp 6)),
 mv 8 1,
 op 9 (.lenRow (.tmp 8)),
 op 10 (.arith .neq (.tmp 7) (.tmp 9))])
 (.cond (.tmp 10) (.seq (.ops [op 4 (.move (.const (.bool false)))])
 .ret)
 .skip))
 (.seq (.seq (.ops [mv 11 0,
 op 12 (.lenRow (.tmp 11)),
 op 13 (.move (.const (.int .i64 (.ofNat 0))))])
 (.block 0 (.loop (.seq (.ops [op 14 (.arith .lss (.tmp 13) (.tmp 12))])
 (.seq (.cond (.tmp 14) .skip
 (.exit 0))
 (.seq (.block 1 (.seq (.ops [mv 15 13,
 mv 5 15])
 (.seq (.draw [⟨mv 16 0,0,[]⟩,
 ⟨mv 17 5,0,[]⟩,
 ⟨op 18 (.idxRow 1 (.tmp 16) (.tmp 17)),0,[]⟩,
 ⟨op 19 (.load false 1 (.tmp 18)),1,[0]⟩,
 ⟨mv 20 1,0,[]⟩,
 ⟨mv 21 5,0,[]⟩,
 ⟨op 22 (.idxRow 1 (.tmp 20) (.tmp 21)),0,[]⟩,
 ⟨op 23 (.load false 1 (.tmp 22)),1,[0]⟩,
 ⟨op 24 (.arith .neq (.tmp 19) (.tmp 23)),0,[]⟩])
 (.cond (.tmp 24) (.seq (.ops [op 4 (.move (.const (.bool false)))])
 .ret)
 .skip))))
 (.ops [op 25 (.arith .add (.tmp 13) (.const (.int .i64 (.ofNat 1)))),
 mv 13 25])))))))
 (.seq (.ops [op 4 (.move (.const (.bool true)))])
 .ret)))), [.tmp 4]⟩
def c445 : CFunc := ⟨86, (.seq (.ops [op 1 (.box 116 (.tmp 0)),
 op 2 (.move (.const (.str []))),
 op 3 (.move (.const (.int .i64 (.ofNat 0))))])
 (.seq (.seq (.ops [op 11 (.load true 2 (.tmp 1)),
 ⟨(.some 12),.none,(.call (.func 130) [(.tmp 11)])⟩,
 op 13 (.un .not (.tmp 12))])
 (.cond (.tmp 13) (.seq (.ops [op 2 (.move (.const (.str []))),
 op 3 (.move (.const (.int .i64 (.ofNat 1))))])
 .ret)
 .skip))
 (.seq (.ops [op 4 (.move (.const .nilSlice))])
 (.seq (.seq (.ops [op 14 (.fieldAddr 1 (.tmp 1)),
 op 15 (.load false 1 (.tmp 14)),
 mv 5 15])
 (.block 0 (.loop (.seq (.seq (.ops [mv 16 5,
 op 17 (.lenRow (.tmp 16)),
 op 18 (.arith .gtr (.tmp 17) (.const (.int .i64 (.ofNat 0))))])
 (.cond (.tmp 18) .skip
 (.exit 0)))
 (.block 1 (.seq (.ops [mv 20 5,
 ⟨(.some 21),.none,(.call (.func 216) [(.tmp 20),(.const (.int .u32 (.ofNat 1000000000)))])⟩,
 mv 19 21,
 op 22 (.extract (.tmp 19) 0),
 op 23 (.extract (.tmp 19) 1),
 mv 6 22,
 mv 7 23])
 (.seq (.seq (.ops [op 24 (.move (.const (.int .i64 (.ofNat 0))))])
 (.block 2 (.loop (.seq (.ops [op 25 (.arith .lss (.tmp 24) (.const (.int .i64 (.ofNat 9))))])
 (.seq (.cond (.tmp 25) .skip
 (.exit 2))
 (.seq (.block 3 (.seq (.ops [mv 26 24,
 mv 8 26])
 (.seq (.seq (.ops [mv 27 6,
 op 28 (.lenRow (.tmp 27)),
 op 29 (.arith .eql (.tmp 28) (.const (.int .i64 (.ofNat 0)))),
 mv 30 29,
 ⟨(.some 31),(.some (30,true)),(.op (.move (.tmp 7)))⟩,
 ⟨(.some 32),(.some (30,true)),(.op (.arith .eql (.tmp 31) (.const (.int .u32 (.ofNat 0)))))⟩,
 op 33 (.pick (.tmp 30) (.tmp 32) (.const (.bool false))),
 mv 34 33,
 ⟨(.some 35),(.some (34,true)),(.op (.move (.tmp 8)))⟩,
 ⟨(.some 36),(.some (34,true)),(.op (.arith .gtr (.tmp 35) (.const (.int .i64 (.ofNat 0)))))⟩,
 op 37 (.pick (.tmp 34) (.tmp 36) (.const (.bool false)))])
 (.cond (.tmp 37) (.exit 2)
 .skip))
 (.seq (.ops [mv 38 4,
 mv 39 7,
 op 40 (.arith .rem (.tmp 39) (.const (.int .u32 (.ofNat 10)))),
 op 41 (.arith .add (.const (.int .u32 (.ofNat 48))) (.tmp 40)),
 op 42 (.toInt .u8 (.tmp 41)),
 op 43 (.buildSlice 5 [(.int .u8 (.ofNat 0))] 1 [(0,1,(.tmp 42))]),
 op 44 (.append 1 5 1 (.tmp 38) (.tmp 43)),
 mv 4 44])
 (.ops [mv 45 7,
 op 46 (.arith .quo (.tmp 45) (.const (.int .u32 (.ofNat 10)))),
 mv 7 46])))))
 (.ops [op 47 (.arith .add (.tmp 24) (.const (.int .i64 (.ofNat 1)))),
 mv 24 47])))))))
 (.ops [mv 48 6,
 mv 5 48]))))))))
 (.seq (.seq (.ops [mv 49 4,
 op 50 (.lenRow (.tmp 49)),
 op 51 (.arith .eql (.tmp 50) (.const (.int .i64 (.ofNat 0))))])
 (.cond (.tmp 51) (.ops [⟨(.some 52),.none,(.op (.buildSlice 5 [(.int .u8 (.ofNat 0))] 1 [(0,1,(.const (.int .u8 (.ofNat 48))))]))⟩,
 mv 4 52])
 .skip))
 (.seq (.seq (.ops [op 53 (.fieldAddr 0 (.tmp 1)),
 op 54 (.load false 1 (.tmp 53))])
 (.cond (.tmp 54) (.ops [mv 55 4,
 ⟨(.some 56),.none,(.op (.buildSlice 5 [(.int .u8 (.ofNat 0))] 1 [(0,1,(.const (.int .u8 (.ofNat 45))))]))⟩,
 op 57 (.append 1 5 1 (.tmp 55) (.tmp 56)),
 mv 4 57])
 .skip))
 (.seq (.seq (.ops [mv 58 4,
 op 59 (.lenRow (.tmp 58)),
 op 60 (.arith .quo (.tmp 59) (.const (.int .i64 (.ofNat 2)))),
 op 61 (.move (.const (.int .i64 (.ofNat 0))))])
 (.block 4 (.loop (.seq (.ops [op 62 (.arith .lss (.tmp 61) (.tmp 60))])
 (.seq (.cond (.tmp 62) .skip
 (.exit 4))
 (.seq (.block 5 (.seq (.ops [mv 63 61,
 mv 9 63])
 (.seq (.ops [mv 64 4,
 op 65 (.lenRow (.tmp 64)),
 op 66 (.arith .sub (.tmp 65) (.const (.int .i64 (.ofNat 1)))),
 mv 67 9,
 op 68 (.arith .sub (.tmp 66) (.tmp 67)),
 mv 10 68])
 (.draw [⟨mv 69 4,0,[]⟩,
 ⟨mv 70 9,0,[]⟩,
 ⟨mv 71 4,0,[]⟩,
 ⟨mv 72 10,0,[]⟩,
 ⟨mv 73 4,0,[]⟩,
 ⟨mv 74 10,0,[]⟩,
 ⟨op 75 (.idxRow 1 (.tmp 73) (.tmp 74)),0,[]⟩,
 ⟨op 76 (.load false 1 (.tmp 75)),1,[0]⟩,
 ⟨mv 77 4,0,[]⟩,
 ⟨mv 78 9,0,[]⟩,
 ⟨op 79 (.idxRow 1 (.tmp 77) (.tmp 78)),0,[]⟩,
 ⟨op 80 (.load false 1 (.tmp 79)),1,[0]⟩,
 ⟨op 81 (.idxRow 1 (.tmp 69) (.tmp 70)),0,[]⟩,
 ⟨⟨.none,.none,(.op (.store 1 (.tmp 81) (.tmp 76)))⟩,2,[]⟩,
 ⟨op 82 (.idxRow 1 (.tmp 71) (.tmp 72)),0,[]⟩,
 ⟨⟨.none,.none,(.op (.store 1 (.tmp 82) (.tmp 80)))⟩,2,[]⟩]))))
 (.ops [op 83 (.arith .add (.tmp 61) (.const (.int .i64 (.ofNat 1)))),
 mv 61 83])))))))
 (.seq (.ops [mv 84 4,
 op 85 (.bytesToStr (.tmp 84)),
 mv 2 85,
 op 3 (.move (.const (.int .i64 (.ofNat 0))))])
 .ret)))))))), [.tmp 2, .tmp 3]⟩
end Go.Proofs.YtiecbbepfjiceaaGreatDoor
