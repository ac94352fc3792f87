/-
  The code of functions that the statement reaches, as the evaluator reads it (part 1).
-/
import Derived.Test.YtiecbbepfjiceaaGreatDoorCleanF
set_option linter.unusedVariables false
set_option linter.unusedSimpArgs false
namespace Go.Proofs.YtiecbbepfjiceaaGreatDoor
open Go.Clean
set_option maxRecDepth 100000
abbrev mv (d t : Nat) : COper := ⟨some d, none, .op (.move (.tmp t))⟩
abbrev op (d : Nat) (c : COp) : COper := ⟨some d, none, .op c⟩
def c3 : CFunc := ⟨103, (.seq (.ops [op 4 (.move (.const (.bool false)))])
 (.seq (.ops [⟨(.some 12),.none,(.call (.func 4) [])⟩,
 mv 5 12])
 (.seq (.ops [mv 14 0,
 mv 15 1,
 ⟨(.some 16),.none,(.call (.func 5) [(.tmp 14),(.tmp 15)])⟩,
 mv 13 16,
 op 17 (.extract (.tmp 13) 0),
 op 18 (.extract (.tmp 13) 1),
 mv 6 17,
 mv 7 18])
 (.seq (.ops [mv 20 0,
 mv 21 1,
 ⟨(.some 22),.none,(.call (.func 6) [(.tmp 20),(.tmp 21)])⟩,
 mv 19 22,
 op 23 (.extract (.tmp 19) 0),
 op 24 (.extract (.tmp 19) 1),
 mv 8 23,
 mv 9 24])
 (.seq (.seq (.ops [mv 25 7,
 mv 26 9,
 op 27 (.arith .neq (.tmp 25) (.tmp 26)),
 mv 28 27,
 ⟨(.some 29),(.some (28,false)),(.op (.move (.tmp 6)))⟩,
 ⟨(.some 30),(.some (28,false)),(.op (.eq true .ptr (.tmp 29) (.const .nilPtr)))⟩,
 ⟨(.some 31),(.some (28,false)),(.op (.move (.tmp 7)))⟩,
 ⟨(.some 32),(.some (28,false)),(.op (.arith .eql (.tmp 31) (.const (.int .i64 (.ofNat 0)))))⟩,
 ⟨(.some 33),(.some (28,false)),(.op (.eq true .bool (.tmp 30) (.tmp 32)))⟩,
 op 34 (.pick (.tmp 28) (.const (.bool true)) (.tmp 33))])
 (.cond (.tmp 34) (.seq (.ops [op 4 (.move (.const (.bool false)))])
 .ret)
 .skip))
 (.seq (.seq (.ops [mv 35 6,
 op 36 (.eq false .ptr (.tmp 35) (.const .nilPtr))])
 (.cond (.tmp 36) (.seq (.ops [mv 37 5,
 mv 4 37])
 .ret)
 .skip))
 (.seq (.ops [mv 39 6,
 ⟨(.some 40),.none,(.call (.func 7) [(.tmp 39)])⟩,
 mv 38 40,
 op 41 (.extract (.tmp 38) 0),
 op 42 (.extract (.tmp 38) 1),
 mv 10 41,
 mv 11 42])
 (.seq (.draw [⟨mv 43 5,0,[]⟩,
 ⟨mv 44 43,0,[]⟩,
 ⟨⟨(.some 45),(.some (44,true)),(.op (.move (.tmp 6)))⟩,0,[]⟩,
 ⟨⟨(.some 46),(.some (44,true)),(.call (.func 8) [(.tmp 45)])⟩,2,[]⟩,
 ⟨⟨(.some 47),(.some (44,true)),(.op (.lenRow (.tmp 46)))⟩,0,[]⟩,
 ⟨⟨(.some 48),(.some (44,true)),(.op (.arith .eql (.tmp 47) (.const (.int .i64 (.ofNat 0)))))⟩,0,[]⟩,
 ⟨op 49 (.pick (.tmp 44) (.tmp 48) (.const (.bool false))),0,[]⟩,
 ⟨mv 50 49,0,[]⟩,
 ⟨⟨(.some 51),(.some (50,true)),(.op (.move (.tmp 6)))⟩,0,[]⟩,
 ⟨⟨(.some 52),(.some (50,true)),(.call (.func 9) [(.tmp 51)])⟩,2,[]⟩,
 ⟨⟨(.some 53),(.some (50,true)),(.op (.arith .eql (.tmp 52) (.const (.int .i64 (.ofNat 0)))))⟩,0,[]⟩,
 ⟨op 54 (.pick (.tmp 50) (.tmp 53) (.const (.bool false))),0,[]⟩,
 ⟨mv 55 54,0,[]⟩,
 ⟨⟨(.some 56),(.some (55,true)),(.op (.move (.tmp 6)))⟩,0,[]⟩,
 ⟨⟨(.some 57),(.some (55,true)),(.call (.func 10) [(.tmp 56)])⟩,2,[]⟩,
 ⟨⟨(.some 58),(.some (55,true)),(.op (.lenRow (.tmp 57)))⟩,0,[]⟩,
 ⟨⟨(.some 59),(.some (55,true)),(.op (.arith .eql (.tmp 58) (.const (.int .i64 (.ofNat 0)))))⟩,0,[]⟩,
 ⟨op 60 (.pick (.tmp 55) (.tmp 59) (.const (.bool false))),0,[]⟩,
 ⟨mv 61 60,0,[]⟩,
 ⟨⟨(.some 62),(.some (61,true)),(.op (.move (.tmp 10)))⟩,0,[]⟩,
 ⟨⟨(.some 63),(.some (61,true)),(.op (.lenRow (.tmp 62)))⟩,0,[]⟩,
 ⟨⟨(.some 64),(.some (61,true)),(.op (.arith .eql (.tmp 63) (.const (.int .i64 (.ofNat 1)))))⟩,0,[]⟩,
 ⟨op 65 (.pick (.tmp 61) (.tmp 64) (.const (.bool false))),0,[]⟩,
 ⟨mv 66 65,0,[]⟩,
 ⟨⟨(.some 67),(.some (66,true)),(.op (.move (.tmp 10)))⟩,0,[]⟩,
 ⟨⟨(.some 68),(.some (66,true)),(.op (.idxRow 1 (.tmp 67) (.const (.int .i64 (.ofNat 0)))))⟩,0,[]⟩,
 ⟨⟨(.some 69),(.some (66,true)),(.op (.load false 1 (.tmp 68)))⟩,1,[15]⟩,
 ⟨⟨(.some 70),(.some (66,true)),(.op (.lenRow (.tmp 69)))⟩,0,[]⟩,
 ⟨⟨(.some 71),(.some (66,true)),(.op (.arith .eql (.tmp 70) (.const (.int .i64 (.ofNat 0)))))⟩,0,[]⟩,
 ⟨op 72 (.pick (.tmp 66) (.tmp 71) (.const (.bool false))),0,[]⟩,
 ⟨mv 73 72,0,[]⟩,
 ⟨⟨(.some 74),(.some (73,true)),(.op (.move (.tmp 11)))⟩,0,[]⟩,
 ⟨⟨(.some 75),(.some (73,true)),(.op (.lenRow (.tmp 74)))⟩,0,[]⟩,
 ⟨⟨(.some 76),(.some (73,true)),(.op (.arith .eql (.tmp 75) (.const (.int .i64 (.ofNat 1)))))⟩,0,[]⟩,
 ⟨op 77 (.pick (.tmp 73) (.tmp 76) (.const (.bool false))),0,[]⟩,
 ⟨mv 78 77,0,[]⟩,
 ⟨⟨(.some 79),(.some (78,true)),(.op (.move (.tmp 11)))⟩,0,[]⟩,
 ⟨⟨(.some 80),(.some (78,true)),(.op (.idxRow 1 (.tmp 79) (.const (.int .i64 (.ofNat 0)))))⟩,0,[]⟩,
 ⟨⟨(.some 81),(.some (78,true)),(.op (.load false 1 (.tmp 80)))⟩,1,[15]⟩,
 ⟨⟨(.some 82),(.some (78,true)),(.op (.lenRow (.tmp 81)))⟩,0,[]⟩,
 ⟨⟨(.some 83),(.some (78,true)),(.op (.arith .eql (.tmp 82) (.const (.int .i64 (.ofNat 0)))))⟩,0,[]⟩,
 ⟨op 84 (.pick (.tmp 78) (.tmp 83) (.const (.bool false))),0,[]⟩,
 ⟨mv 85 84,0,[]⟩,
 ⟨⟨(.some 86),(.some (85,true)),(.op (.move (.tmp 6)))⟩,0,[]⟩,
 ⟨⟨(.some 87),(.some (85,true)),(.call (.func 11) [(.tmp 86)])⟩,2,[]⟩,
 ⟨⟨(.some 88),(.some (85,true)),(.op (.lenRow (.tmp 87)))⟩,0,[]⟩,
 ⟨⟨(.some 89),(.some (85,true)),(.op (.arith .eql (.tmp 88) (.const (.int .i64 (.ofNat 0)))))⟩,0,[]⟩,
 ⟨op 90 (.pick (.tmp 85) (.tmp 89) (.const (.bool false))),0,[]⟩,
 ⟨mv 91 90,0,[]⟩,
 ⟨⟨(.some 92),(.some (91,true)),(.op (.move (.tmp 6)))⟩,0,[]⟩,
 ⟨⟨(.some 93),(.some (91,true)),(.call (.func 12) [(.tmp 92),(.const .nilSlice)])⟩,2,[]⟩,
 ⟨⟨(.some 94),(.some (91,true)),(.op (.lenRow (.tmp 93)))⟩,0,[]⟩,
 ⟨⟨(.some 95),(.some (91,true)),(.op (.arith .eql (.tmp 94) (.const (.int .i64 (.ofNat 0)))))⟩,0,[]⟩,
 ⟨op 96 (.pick (.tmp 91) (.tmp 95) (.const (.bool false))),0,[]⟩,
 ⟨mv 97 96,0,[]⟩,
 ⟨⟨(.some 98),(.some (97,true)),(.op (.move (.tmp 6)))⟩,0,[]⟩,
 ⟨⟨(.some 99),(.some (97,true)),(.call (.func 14) [(.tmp 98)])⟩,2,[]⟩,
 ⟨⟨(.some 100),(.some (97,true)),(.op (.makeSlice 3 [(.int .i64 (.ofNat 0))] 8 (.const (.int .i64 (.ofNat 12))) (.const (.int .i64 (.ofNat 12)))))⟩,3,[]⟩,
 ⟨⟨(.some 101),(.some (97,true)),(.call (.func 13) [(.tmp 99),(.tmp 100)])⟩,2,[]⟩,
 ⟨op 102 (.pick (.tmp 97) (.tmp 101) (.const (.bool false))),0,[]⟩,
 ⟨mv 4 102,0,[]⟩])
 .ret)))))))), [.tmp 4]⟩
def c4 : CFunc := ⟨108, (.seq (.ops [op 0 (.move (.const (.bool false)))])
 (.seq (.ops [⟨(.some 13),.none,(.call (.func 15) [])⟩,
 mv 12 13,
 op 14 (.extract (.tmp 12) 0),
 op 15 (.extract (.tmp 12) 1),
 mv 1 14,
 mv 2 15])
 (.seq (.seq (.ops [mv 16 1,
 op 17 (.eq false .slice (.tmp 16) (.const .nilSlice))])
 (.cond (.tmp 17) (.seq (.ops [op 0 (.move (.const (.bool false)))])
 .ret)
 .skip))
 (.seq (.draw [⟨mv 19 1,0,[]⟩,
 ⟨op 20 (.idxRow 1 (.tmp 19) (.const (.int .i64 (.ofNat 0)))),0,[]⟩,
 ⟨op 21 (.load false 1 (.tmp 20)),1,[0,4]⟩,
 ⟨⟨(.some 22),.none,(.call (.func 17) [(.const (.int .i64 (.ofNat 1))),(.const (.str [112,111,105,110,116,32,65,32,61,32,40,48,44,32,48,41]))])⟩,2,[]⟩,
 ⟨⟨(.some 23),.none,(.call (.func 16) [(.tmp 21),(.tmp 22)])⟩,2,[]⟩,
 ⟨mv 18 23,0,[]⟩,
 ⟨op 24 (.extract (.tmp 18) 0),0,[]⟩,
 ⟨op 25 (.extract (.tmp 18) 1),0,[]⟩,
 ⟨mv 3 24,0,[]⟩,
 ⟨mv 4 25,0,[]⟩])
 (.seq (.draw [⟨mv 27 1,0,[]⟩,
 ⟨op 28 (.idxRow 1 (.tmp 27) (.const (.int .i64 (.ofNat 0)))),0,[]⟩,
 ⟨op 29 (.load false 1 (.tmp 28)),1,[0,4]⟩,
 ⟨⟨(.some 30),.none,(.call (.func 17) [(.const (.int .i64 (.ofNat 1))),(.const (.str [112,111,105,110,116,32,66,32,61,32,40,52,44,32,48,41]))])⟩,2,[]⟩,
 ⟨⟨(.some 31),.none,(.call (.func 16) [(.tmp 29),(.tmp 30)])⟩,2,[]⟩,
 ⟨mv 26 31,0,[]⟩,
 ⟨op 32 (.extract (.tmp 26) 0),0,[]⟩,
 ⟨op 33 (.extract (.tmp 26) 1),0,[]⟩,
 ⟨mv 5 32,0,[]⟩,
 ⟨mv 6 33,0,[]⟩])
 (.seq (.ops [mv 34 1,
 op 35 (.idxRow 1 (.tmp 34) (.const (.int .i64 (.ofNat 1)))),
 op 36 (.load false 1 (.tmp 35)),
 mv 37 5,
 ⟨(.some 38),.none,(.call (.func 18) [(.tmp 36),(.tmp 37)])⟩,
 mv 7 38])
 (.seq (.ops [mv 39 1,
 op 40 (.idxRow 1 (.tmp 39) (.const (.int .i64 (.ofNat 1)))),
 op 41 (.load false 1 (.tmp 40)),
 ⟨(.some 42),.none,(.call (.func 9) [(.tmp 41)])⟩,
 mv 8 42])
 (.seq (.ops [mv 43 1,
 op 44 (.idxRow 1 (.tmp 43) (.const (.int .i64 (.ofNat 1)))),
 op 45 (.load false 1 (.tmp 44)),
 mv 46 3,
 ⟨(.some 47),.none,(.call (.func 18) [(.tmp 45),(.tmp 46)])⟩,
 mv 9 47])
 (.seq (.ops [mv 49 1,
 op 50 (.idxRow 1 (.tmp 49) (.const (.int .i64 (.ofNat 1)))),
 op 51 (.load false 1 (.tmp 50)),
 ⟨(.some 52),.none,(.call (.func 7) [(.tmp 51)])⟩,
 mv 48 52,
 op 53 (.extract (.tmp 48) 0),
 op 54 (.extract (.tmp 48) 1),
 mv 10 53,
 mv 11 54])
 (.seq (.ops [mv 55 4,
 op 56 (.arith .eql (.tmp 55) (.const (.int .i64 (.ofNat 0)))),
 mv 57 56,
 ⟨(.some 58),(.some (57,true)),(.op (.move (.tmp 6)))⟩,
 ⟨(.some 59),(.some (57,true)),(.op (.arith .eql (.tmp 58) (.const (.int .i64 (.ofNat 0)))))⟩,
 op 60 (.pick (.tmp 57) (.tmp 59) (.const (.bool false))),
 mv 61 60,
 ⟨(.some 62),(.some (61,true)),(.op (.move (.tmp 7)))⟩,
 ⟨(.some 63),(.some (61,true)),(.op (.arith .eql (.tmp 62) (.const (.int .i64 (.ofNat 0)))))⟩,
 op 64 (.pick (.tmp 61) (.tmp 63) (.const (.bool false))),
 mv 65 64,
 ⟨(.some 66),(.some (65,true)),(.op (.move (.tmp 8)))⟩,
 ⟨(.some 67),(.some (65,true)),(.op (.arith .eql (.tmp 66) (.const (.int .i64 (.ofNat 1)))))⟩,
 op 68 (.pick (.tmp 65) (.tmp 67) (.const (.bool false))),
 mv 69 68,
 ⟨(.some 70),(.some (69,true)),(.op (.move (.tmp 9)))⟩,
 ⟨(.some 71),(.some (69,true)),(.op (.arith .eql (.tmp 70) (.const (.int .i64 (.ofNat 0)))))⟩,
 op 72 (.pick (.tmp 69) (.tmp 71) (.const (.bool false))),
 mv 73 72,
 ⟨(.some 74),(.some (73,true)),(.op (.move (.tmp 1)))⟩,
 ⟨(.some 75),(.some (73,true)),(.op (.idxRow 1 (.tmp 74) (.const (.int .i64 (.ofNat 1)))))⟩,
 ⟨(.some 76),(.some (73,true)),(.op (.load false 1 (.tmp 75)))⟩,
 ⟨(.some 77),(.some (73,true)),(.call (.func 9) [(.tmp 76)])⟩,
 ⟨(.some 78),(.some (73,true)),(.op (.arith .eql (.tmp 77) (.const (.int .i64 (.ofNat 0)))))⟩,
 op 79 (.pick (.tmp 73) (.tmp 78) (.const (.bool false))),
 mv 80 79,
 ⟨(.some 81),(.some (80,true)),(.op (.move (.tmp 1)))⟩,
 ⟨(.some 82),(.some (80,true)),(.op (.idxRow 1 (.tmp 81) (.const (.int .i64 (.ofNat 1)))))⟩,
 ⟨(.some 83),(.some (80,true)),(.op (.load false 1 (.tmp 82)))⟩,
 ⟨(.some 84),(.some (80,true)),(.call (.func 8) [(.tmp 83)])⟩,
 ⟨(.some 85),(.some (80,true)),(.op (.lenRow (.tmp 84)))⟩,
 ⟨(.some 86),(.some (80,true)),(.op (.arith .eql (.tmp 85) (.const (.int .i64 (.ofNat 2)))))⟩,
 op 87 (.pick (.tmp 80) (.tmp 86) (.const (.bool false))),
 mv 88 87,
 ⟨(.some 89),(.some (88,true)),(.op (.move (.tmp 1)))⟩,
 ⟨(.some 90),(.some (88,true)),(.op (.idxRow 1 (.tmp 89) (.const (.int .i64 (.ofNat 1)))))⟩,
 ⟨(.some 91),(.some (88,true)),(.op (.load false 1 (.tmp 90)))⟩,
 ⟨(.some 92),(.some (88,true)),(.call (.func 10) [(.tmp 91)])⟩,
 ⟨(.some 93),(.some (88,true)),(.op (.lenRow (.tmp 92)))⟩,
 ⟨(.some 94),(.some (88,true)),(.op (.arith .eql (.tmp 93) (.const (.int .i64 (.ofNat 2)))))⟩,
 op 95 (.pick (.tmp 88) (.tmp 94) (.const (.bool false))),
 mv 96 95,
 ⟨(.some 97),(.some (96,true)),(.op (.move (.tmp 10)))⟩,
 ⟨(.some 98),(.some (96,true)),(.op (.lenRow (.tmp 97)))⟩,
 ⟨(.some 99),(.some (96,true)),(.op (.arith .eql (.tmp 98) (.const (.int .i64 (.ofNat 1)))))⟩,
 op 100 (.pick (.tmp 96) (.tmp 99) (.const (.bool false))),
 mv 101 100,
 ⟨(.some 102),(.some (101,true)),(.op (.move (.tmp 10)))⟩,
 ⟨(.some 103),(.some (101,true)),(.op (.idxRow 1 (.tmp 102) (.const (.int .i64 (.ofNat 0)))))⟩,
 ⟨(.some 104),(.some (101,true)),(.op (.load false 1 (.tmp 103)))⟩,
 ⟨(.some 105),(.some (101,true)),(.op (.lenRow (.tmp 104)))⟩,
 ⟨(.some 106),(.some (101,true)),(.op (.arith .eql (.tmp 105) (.const (.int .i64 (.ofNat 4)))))⟩,
 op 107 (.pick (.tmp 101) (.tmp 106) (.const (.bool false))),
 mv 0 107])
 .ret)))))))))), [.tmp 0]⟩
def c5 : CFunc := ⟨25, (.seq (.ops [op 4 (.move (.const .nilPtr)),
 op 5 (.move (.const (.int .i64 (.ofNat 0))))])
 (.seq (.seq (.ops [mv 6 0,
 op 7 (.arith .lss (.tmp 6) (.const (.int .i64 (.ofNat 1)))),
 mv 8 7,
 ⟨(.some 9),(.some (8,false)),(.op (.move (.tmp 0)))⟩,
 ⟨(.some 10),(.some (8,false)),(.op (.arith .gtr (.tmp 9) (.const (.int .i64 (.ofNat 12)))))⟩,
 op 11 (.pick (.tmp 8) (.const (.bool true)) (.tmp 10)),
 mv 12 11,
 ⟨(.some 13),(.some (12,false)),(.op (.move (.tmp 1)))⟩,
 ⟨(.some 14),(.some (12,false)),(.op (.arith .lss (.tmp 13) (.const (.int .i64 (.ofNat 1)))))⟩,
 op 15 (.pick (.tmp 12) (.const (.bool true)) (.tmp 14)),
 mv 16 15,
 ⟨(.some 17),(.some (16,false)),(.op (.move (.tmp 1)))⟩,
 ⟨(.some 18),(.some (16,false)),(.op (.arith .gtr (.tmp 17) (.const (.int .i64 (.ofNat 4096)))))⟩,
 op 19 (.pick (.tmp 16) (.const (.bool true)) (.tmp 18))])
 (.cond (.tmp 19) (.seq (.ops [op 4 (.move (.const .nilPtr)),
 op 5 (.move (.const (.int .i64 (.ofNat 1))))])
 .ret)
 .skip))
 (.seq (.ops [mv 20 0,
 mv 21 1,
 op 22 (.makeMap),
 op 23 (.build [(.int .i64 (.ofNat 0)),(.int .i64 (.ofNat 0)),.nilMap,.nilSlice,.nilSlice] [(0,1,(.tmp 20)),(1,1,(.tmp 21)),(2,1,(.tmp 22))]),
 op 24 (.box 63 (.tmp 23)),
 mv 4 24,
 op 5 (.move (.const (.int .i64 (.ofNat 0))))])
 .ret))), [.tmp 4, .tmp 5]⟩
def c6 : CFunc := ⟨24, (.seq (.ops [op 4 (.move (.const .nilPtr)),
 op 5 (.move (.const (.int .i64 (.ofNat 0))))])
 (.seq (.seq (.ops [mv 6 0,
 op 7 (.arith .lss (.tmp 6) (.const (.int .i64 (.ofNat 1)))),
 mv 8 7,
 ⟨(.some 9),(.some (8,false)),(.op (.move (.tmp 0)))⟩,
 ⟨(.some 10),(.some (8,false)),(.op (.arith .gtr (.tmp 9) (.const (.int .i64 (.ofNat 12)))))⟩,
 op 11 (.pick (.tmp 8) (.const (.bool true)) (.tmp 10)),
 mv 12 11,
 ⟨(.some 13),(.some (12,false)),(.op (.move (.tmp 1)))⟩,
 ⟨(.some 14),(.some (12,false)),(.op (.arith .lss (.tmp 13) (.const (.int .i64 (.ofNat 1)))))⟩,
 op 15 (.pick (.tmp 12) (.const (.bool true)) (.tmp 14)),
 mv 16 15,
 ⟨(.some 17),(.some (16,false)),(.op (.move (.tmp 1)))⟩,
 ⟨(.some 18),(.some (16,false)),(.op (.arith .gtr (.tmp 17) (.const (.int .i64 (.ofNat 4096)))))⟩,
 op 19 (.pick (.tmp 16) (.const (.bool true)) (.tmp 18))])
 (.cond (.tmp 19) (.seq (.ops [op 4 (.move (.const .nilPtr)),
 op 5 (.move (.const (.int .i64 (.ofNat 1))))])
 .ret)
 .skip))
 (.seq (.ops [mv 20 0,
 mv 21 1,
 op 22 (.build [(.int .i64 (.ofNat 0)),(.int .i64 (.ofNat 0)),.nilSlice,.nilSlice] [(0,1,(.tmp 20)),(1,1,(.tmp 21))]),
 op 23 (.box 65 (.tmp 22)),
 mv 4 23,
 op 5 (.move (.const (.int .i64 (.ofNat 0))))])
 .ret))), [.tmp 4, .tmp 5]⟩
def c7 : CFunc := ⟨31, (.seq (.ops [op 2 (.move (.const .nilSlice)),
 op 3 (.move (.const .nilSlice))])
 (.seq (.ops [op 4 (.move (.const .nilSlice))])
 (.seq (.ops [op 5 (.move (.const .nilSlice))])
 (.seq (.seq (.ops [mv 8 0,
 ⟨(.some 9),.none,(.call (.func 19) [(.tmp 8)])⟩,
 op 10 (.nilCheck (.tmp 9)),
 op 11 (.fieldAddr 2 (.tmp 10)),
 op 12 (.load false 1 (.tmp 11)),
 op 13 (.lenRow (.tmp 12)),
 op 14 (.move (.const (.int .i64 (.ofNat 0))))])
 (.block 0 (.loop (.seq (.ops [op 15 (.arith .lss (.tmp 14) (.tmp 13))])
 (.seq (.cond (.tmp 15) .skip
 (.exit 0))
 (.seq (.block 1 (.seq (.ops [op 16 (.idxRow 2 (.tmp 12) (.tmp 14)),
 op 17 (.load true 2 (.tmp 16)),
 op 7 (.alloc 72 [.nilSlice,.nilSlice]),
 ⟨.none,.none,(.op (.store 2 (.tmp 7) (.tmp 17)))⟩])
 (.seq (.ops [mv 18 4,
 op 19 (.fieldAddr 0 (.tmp 7)),
 op 20 (.load false 1 (.tmp 19)),
 op 21 (.buildSlice 39 [.nilSlice] 1 [(0,1,(.tmp 20))]),
 op 22 (.append 1 39 24 (.tmp 18) (.tmp 21)),
 mv 4 22])
 (.ops [mv 23 5,
 op 24 (.fieldAddr 1 (.tmp 7)),
 op 25 (.load false 1 (.tmp 24)),
 op 26 (.buildSlice 40 [.nilSlice] 1 [(0,1,(.tmp 25))]),
 op 27 (.append 1 40 24 (.tmp 23) (.tmp 26)),
 mv 5 27]))))
 (.ops [op 28 (.arith .add (.tmp 14) (.const (.int .i64 (.ofNat 1)))),
 mv 14 28])))))))
 (.seq (.ops [mv 29 4,
 mv 30 5,
 mv 2 29,
 mv 3 30])
 .ret))))), [.tmp 2, .tmp 3]⟩
def c8 : CFunc := ⟨22, (.seq (.ops [op 2 (.move (.const .nilSlice))])
 (.seq (.ops [op 3 (.move (.const .nilSlice))])
 (.seq (.seq (.ops [mv 6 0,
 op 7 (.nilCheck (.tmp 6)),
 op 8 (.fieldAddr 3 (.tmp 7)),
 op 9 (.load false 1 (.tmp 8)),
 op 10 (.lenRow (.tmp 9)),
 op 11 (.move (.const (.int .i64 (.ofNat 0))))])
 (.block 0 (.loop (.seq (.ops [op 12 (.arith .lss (.tmp 11) (.tmp 10))])
 (.seq (.cond (.tmp 12) .skip
 (.exit 0))
 (.seq (.block 1 (.seq (.ops [op 13 (.idxRow 11 (.tmp 9) (.tmp 11)),
 op 14 (.load true 11 (.tmp 13)),
 op 5 (.alloc 58 [(.int .i64 (.ofNat 0)),(.int .i64 (.ofNat 0)),(.int .i64 (.ofNat 0)),.nilSlice,(.int .i64 (.ofNat 0)),(.str []),.nilSlice,.nilSlice,(.int .i64 (.ofNat 0)),(.int .i64 (.ofNat 0)),(.int .i64 (.ofNat 0))]),
 ⟨.none,.none,(.op (.store 11 (.tmp 5) (.tmp 14)))⟩])
 (.ops [mv 15 3,
 op 16 (.load true 11 (.tmp 5)),
 ⟨(.some 17),.none,(.call (.func 20) [(.tmp 16)])⟩,
 op 18 (.buildSlice 58 [(.int .i64 (.ofNat 0)),(.int .i64 (.ofNat 0)),(.int .i64 (.ofNat 0)),.nilSlice,(.int .i64 (.ofNat 0)),(.str []),.nilSlice,.nilSlice,(.int .i64 (.ofNat 0)),(.int .i64 (.ofNat 0)),(.int .i64 (.ofNat 0))] 1 [(0,11,(.tmp 17))]),
 op 19 (.append 11 58 144 (.tmp 15) (.tmp 18)),
 mv 3 19])))
 (.ops [op 20 (.arith .add (.tmp 11) (.const (.int .i64 (.ofNat 1)))),
 mv 11 20])))))))
 (.seq (.ops [mv 21 3,
 mv 2 21])
 .ret)))), [.tmp 2]⟩
def c9 : CFunc := ⟨8, (.seq (.ops [op 2 (.move (.const (.int .i64 (.ofNat 0))))])
 (.seq (.ops [mv 3 0,
 op 4 (.nilCheck (.tmp 3)),
 op 5 (.fieldAddr 4 (.tmp 4)),
 op 6 (.load false 1 (.tmp 5)),
 op 7 (.lenRow (.tmp 6)),
 mv 2 7])
 .ret)), [.tmp 2]⟩
def c10 : CFunc := ⟨10, (.seq (.ops [op 2 (.move (.const .nilSlice))])
 (.seq (.ops [mv 3 0,
 mv 4 0,
 ⟨(.some 5),.none,(.call (.func 22) [(.tmp 4)])⟩,
 ⟨(.some 6),.none,(.call (.func 21) [(.tmp 3),(.tmp 5)])⟩,
 op 7 (.nilCheck (.tmp 6)),
 op 8 (.fieldAddr 1 (.tmp 7)),
 op 9 (.load false 1 (.tmp 8)),
 mv 2 9])
 .ret)), [.tmp 2]⟩
def c11 : CFunc := ⟨37, (.seq (.ops [op 2 (.move (.const .nilSlice))])
 (.seq (.ops [mv 7 0,
 ⟨(.some 8),.none,(.call (.func 19) [(.tmp 7)])⟩,
 op 9 (.nilCheck (.tmp 8)),
 op 10 (.fieldAddr 3 (.tmp 9)),
 op 11 (.load false 1 (.tmp 10)),
 mv 3 11])
 (.seq (.seq (.ops [mv 12 3,
 op 13 (.lenRow (.tmp 12)),
 op 14 (.move (.const (.int .i64 (.ofNat 0))))])
 (.block 0 (.loop (.seq (.ops [op 15 (.arith .lss (.tmp 14) (.tmp 13))])
 (.seq (.cond (.tmp 15) .skip
 (.exit 0))
 (.seq (.block 1 (.seq (.ops [mv 16 14,
 mv 4 16])
 (.seq (.ops [mv 17 3,
 mv 18 4,
 op 19 (.idxRow 6 (.tmp 17) (.tmp 18)),
 op 20 (.fieldAddr 4 (.tmp 19)),
 op 21 (.load true 2 (.tmp 20)),
 op 22 (.move (.const (.int .i64 (.ofNat 0))))])
 (.block 2 (.loop (.seq (.ops [op 23 (.arith .lss (.tmp 22) (.const (.int .i64 (.ofNat 2))))])
 (.seq (.cond (.tmp 23) .skip
 (.exit 2))
 (.seq (.block 3 (.seq (.ops [mv 24 22,
 op 25 (.idxAgg false 2 1 (.tmp 21) (.tmp 22)),
 mv 5 24,
 mv 6 25])
 (.draw [⟨mv 26 3,0,[]⟩,
 ⟨mv 27 4,0,[]⟩,
 ⟨mv 28 5,0,[]⟩,
 ⟨mv 29 6,0,[]⟩,
 ⟨⟨(.some 30),.none,(.call (.func 23) [(.tmp 29)])⟩,2,[]⟩,
 ⟨op 31 (.idxRow 6 (.tmp 26) (.tmp 27)),0,[]⟩,
 ⟨op 32 (.fieldAddr 4 (.tmp 31)),0,[]⟩,
 ⟨op 33 (.idxArr 2 1 (.tmp 32) (.tmp 28)),0,[]⟩,
 ⟨⟨.none,.none,(.op (.store 1 (.tmp 33) (.tmp 30)))⟩,2,[]⟩])))
 (.ops [op 34 (.arith .add (.tmp 22) (.const (.int .i64 (.ofNat 1)))),
 mv 22 34])))))))))
 (.ops [op 35 (.arith .add (.tmp 14) (.const (.int .i64 (.ofNat 1)))),
 mv 14 35])))))))
 (.seq (.ops [mv 36 3,
 mv 2 36])
 .ret)))), [.tmp 2]⟩
def c12 : CFunc := ⟨50, (.seq (.ops [op 4 (.move (.const .nilSlice))])
 (.seq (.ops [op 5 (.move (.const .nilSlice))])
 (.seq (.seq (.ops [mv 11 0,
 op 12 (.nilCheck (.tmp 11)),
 op 13 (.fieldAddr 3 (.tmp 12)),
 op 14 (.load false 1 (.tmp 13)),
 op 15 (.lenRow (.tmp 14)),
 op 16 (.move (.const (.int .i64 (.ofNat 0))))])
 (.block 0 (.loop (.seq (.ops [op 17 (.arith .lss (.tmp 16) (.tmp 15))])
 (.seq (.cond (.tmp 17) .skip
 (.exit 0))
 (.seq (.block 1 (.seq (.ops [op 18 (.idxRow 11 (.tmp 14) (.tmp 16)),
 op 19 (.load true 11 (.tmp 18)),
 op 7 (.alloc 58 [(.int .i64 (.ofNat 0)),(.int .i64 (.ofNat 0)),(.int .i64 (.ofNat 0)),.nilSlice,(.int .i64 (.ofNat 0)),(.str []),.nilSlice,.nilSlice,(.int .i64 (.ofNat 0)),(.int .i64 (.ofNat 0)),(.int .i64 (.ofNat 0))]),
 ⟨.none,.none,(.op (.store 11 (.tmp 7) (.tmp 19)))⟩])
 (.seq (.ops [op 8 (.move (.const (.int .i64 (.ofNat 0))))])
 (.seq (.seq (.ops [op 20 (.fieldAddr 0 (.tmp 7)),
 op 21 (.fieldAddr 0 (.tmp 20)),
 op 22 (.load false 1 (.tmp 21)),
 mv 23 1,
 op 24 (.lenRow (.tmp 23)),
 op 25 (.arith .leq (.tmp 22) (.tmp 24))])
 (.cond (.tmp 25) (.ops [mv 26 1,
 op 27 (.fieldAddr 0 (.tmp 7)),
 op 28 (.fieldAddr 0 (.tmp 27)),
 op 29 (.load false 1 (.tmp 28)),
 op 30 (.arith .sub (.tmp 29) (.const (.int .i64 (.ofNat 1)))),
 op 31 (.idxRow 1 (.tmp 26) (.tmp 30)),
 op 32 (.load false 1 (.tmp 31)),
 op 33 (.minmax true (.tmp 32) (.const (.int .i64 (.ofNat 0)))),
 mv 8 33])
 .skip))
 (.seq (.ops [op 34 (.fieldAddr 0 (.tmp 7)),
 op 35 (.fieldAddr 1 (.tmp 34)),
 op 36 (.load false 1 (.tmp 35)),
 mv 37 8,
 op 38 (.arith .gtr (.tmp 36) (.tmp 37))])
 (.cond (.tmp 38) (.seq (.ops [op 40 (.load true 11 (.tmp 7)),
 ⟨(.some 41),.none,(.call (.func 24) [(.tmp 40)])⟩,
 mv 39 41,
 op 42 (.extract (.tmp 39) 0),
 op 43 (.extract (.tmp 39) 1),
 mv 9 42,
 mv 10 43])
 (.ops [mv 44 5,
 mv 45 9,
 op 46 (.buildSlice 9 [(.str [])] 1 [(0,1,(.tmp 45))]),
 op 47 (.append 1 9 16 (.tmp 44) (.tmp 46)),
 mv 5 47]))
 .skip))))))
 (.ops [op 48 (.arith .add (.tmp 16) (.const (.int .i64 (.ofNat 1)))),
 mv 16 48])))))))
 (.seq (.ops [mv 49 5,
 mv 4 49])
 .ret)))), [.tmp 4]⟩
def c13 : CFunc := ⟨26, (.seq (.ops [op 4 (.move (.const (.bool false)))])
 (.seq (.seq (.ops [mv 6 0,
 op 7 (.lenRow (.tmp 6)),
 mv 8 1,
 op 9 (.lenRow (.tmp 8)),
 op 10 (.arith .neq (.tmp 7) (.tmp 9))])
 (.cond (.tmp 10) (.seq (.ops [op 4 (.move (.const (.bool false)))])
 .ret)
 .skip))
 (.seq (.seq (.ops [op 5 (.move (.const (.int .i64 (.ofNat 0))))])
 (.block 0 (.loop (.seq (.seq (.ops [mv 11 5,
 mv 12 0,
 op 13 (.lenRow (.tmp 12)),
 op 14 (.arith .lss (.tmp 11) (.tmp 13))])
 (.cond (.tmp 14) .skip
 (.exit 0)))
 (.seq (.block 1 (.seq (.draw [⟨mv 17 0,0,[]⟩,
 ⟨mv 18 5,0,[]⟩,
 ⟨op 19 (.idxRow 1 (.tmp 17) (.tmp 18)),0,[]⟩,
 ⟨op 20 (.load false 1 (.tmp 19)),1,[0]⟩,
 ⟨mv 21 1,0,[]⟩,
 ⟨mv 22 5,0,[]⟩,
 ⟨op 23 (.idxRow 1 (.tmp 21) (.tmp 22)),0,[]⟩,
 ⟨op 24 (.load false 1 (.tmp 23)),1,[0]⟩,
 ⟨op 25 (.arith .neq (.tmp 20) (.tmp 24)),0,[]⟩])
 (.cond (.tmp 25) (.seq (.ops [op 4 (.move (.const (.bool false)))])
 .ret)
 .skip)))
 (.ops [mv 15 5,
 op 16 (.arith .add (.tmp 15) (.const (.int .i64 (.ofNat 1)))),
 mv 5 16]))))))
 (.seq (.ops [op 4 (.move (.const (.bool true)))])
 .ret)))), [.tmp 4]⟩
def c14 : CFunc := ⟨27, (.seq (.ops [op 2 (.move (.const .nilSlice))])
 (.seq (.ops [op 6 (.makeSlice 3 [(.int .i64 (.ofNat 0))] 8 (.const (.int .i64 (.ofNat 12))) (.const (.int .i64 (.ofNat 12)))),
 mv 3 6])
 (.seq (.seq (.ops [mv 7 0,
 op 8 (.nilCheck (.tmp 7)),
 op 9 (.fieldAddr 3 (.tmp 8)),
 op 10 (.load false 1 (.tmp 9)),
 op 11 (.lenRow (.tmp 10)),
 op 12 (.move (.const (.int .i64 (.ofNat 0))))])
 (.block 0 (.loop (.seq (.ops [op 13 (.arith .lss (.tmp 12) (.tmp 11))])
 (.seq (.cond (.tmp 13) .skip
 (.exit 0))
 (.seq (.block 1 (.seq (.ops [op 14 (.idxRow 11 (.tmp 10) (.tmp 12)),
 op 15 (.load true 11 (.tmp 14)),
 op 5 (.alloc 58 [(.int .i64 (.ofNat 0)),(.int .i64 (.ofNat 0)),(.int .i64 (.ofNat 0)),.nilSlice,(.int .i64 (.ofNat 0)),(.str []),.nilSlice,.nilSlice,(.int .i64 (.ofNat 0)),(.int .i64 (.ofNat 0)),(.int .i64 (.ofNat 0))]),
 ⟨.none,.none,(.op (.store 11 (.tmp 5) (.tmp 15)))⟩])
 (.ops [mv 16 3,
 op 17 (.fieldAddr 0 (.tmp 5)),
 op 18 (.fieldAddr 0 (.tmp 17)),
 op 19 (.load false 1 (.tmp 18)),
 op 20 (.arith .sub (.tmp 19) (.const (.int .i64 (.ofNat 1)))),
 op 21 (.idxRow 1 (.tmp 16) (.tmp 20)),
 op 22 (.load false 1 (.tmp 21)),
 op 23 (.arith .add (.tmp 22) (.const (.int .i64 (.ofNat 1)))),
 op 24 (.idxRow 1 (.tmp 16) (.tmp 20)),
 ⟨.none,.none,(.op (.store 1 (.tmp 24) (.tmp 23)))⟩])))
 (.ops [op 25 (.arith .add (.tmp 12) (.const (.int .i64 (.ofNat 1)))),
 mv 12 25])))))))
 (.seq (.ops [mv 26 3,
 mv 2 26])
 .ret)))), [.tmp 2]⟩
def c15 : CFunc := ⟨35, (.seq (.ops [op 0 (.move (.const .nilSlice)),
 op 1 (.move (.const .nilSlice))])
 (.seq (.ops [op 2 (.move (.const .nilSlice))])
 (.seq (.ops [op 3 (.move (.const .nilSlice))])
 (.seq (.seq (.ops [op 4 (.move (.const (.int .i64 (.ofNat 1))))])
 (.block 0 (.loop (.seq (.seq (.ops [mv 9 4,
 op 10 (.arith .leq (.tmp 9) (.const (.int .i64 (.ofNat 3))))])
 (.cond (.tmp 10) .skip
 (.exit 0)))
 (.seq (.block 1 (.seq (.ops [mv 14 4,
 ⟨(.some 15),.none,(.call (.func 5) [(.tmp 14),(.const (.int .i64 (.ofNat 64)))])⟩,
 mv 13 15,
 op 16 (.extract (.tmp 13) 0),
 op 17 (.extract (.tmp 13) 1),
 mv 5 16,
 mv 6 17])
 (.seq (.ops [mv 19 4,
 ⟨(.some 20),.none,(.call (.func 6) [(.tmp 19),(.const (.int .i64 (.ofNat 64)))])⟩,
 mv 18 20,
 op 21 (.extract (.tmp 18) 0),
 op 22 (.extract (.tmp 18) 1),
 mv 7 21,
 mv 8 22])
 (.seq (.seq (.ops [mv 23 5,
 op 24 (.eq false .ptr (.tmp 23) (.const .nilPtr))])
 (.cond (.tmp 24) (.seq (.ops [op 0 (.move (.const .nilSlice)),
 op 1 (.move (.const .nilSlice))])
 .ret)
 .skip))
 (.seq (.ops [mv 25 2,
 mv 26 5,
 op 27 (.buildSlice 23 [.nilPtr] 1 [(0,1,(.tmp 26))]),
 op 28 (.append 1 23 8 (.tmp 25) (.tmp 27)),
 mv 2 28])
 (.ops [mv 29 3,
 mv 30 7,
 op 31 (.buildSlice 27 [.nilPtr] 1 [(0,1,(.tmp 30))]),
 op 32 (.append 1 27 8 (.tmp 29) (.tmp 31)),
 mv 3 32]))))))
 (.ops [mv 11 4,
 op 12 (.arith .add (.tmp 11) (.const (.int .i64 (.ofNat 1)))),
 mv 4 12]))))))
 (.seq (.ops [mv 33 2,
 mv 34 3,
 mv 0 33,
 mv 1 34])
 .ret))))), [.tmp 0, .tmp 1]⟩
def c16 : CFunc := ⟨66, (.seq (.ops [op 3 (.box 58 (.tmp 1)),
 op 4 (.move (.const (.str []))),
 op 5 (.move (.const (.int .i64 (.ofNat 0))))])
 (.seq (.ops [mv 10 0,
 ⟨(.some 11),.none,(.call (.func 14) [(.tmp 10)])⟩,
 op 12 (.fieldAddr 3 (.tmp 3)),
 ⟨.none,.none,(.op (.store 1 (.tmp 12) (.tmp 11)))⟩])
 (.seq (.draw [⟨mv 13 0,0,[]⟩,
 ⟨op 14 (.nilCheck (.tmp 13)),0,[]⟩,
 ⟨op 15 (.fieldAddr 0 (.tmp 14)),0,[]⟩,
 ⟨op 16 (.load false 1 (.tmp 15)),1,[0]⟩,
 ⟨op 17 (.fieldAddr 3 (.tmp 3)),0,[]⟩,
 ⟨op 18 (.load false 1 (.tmp 17)),1,[0]⟩,
 ⟨mv 19 0,0,[]⟩,
 ⟨op 20 (.nilCheck (.tmp 19)),0,[]⟩,
 ⟨op 21 (.fieldAddr 0 (.tmp 20)),0,[]⟩,
 ⟨op 22 (.load false 1 (.tmp 21)),1,[0]⟩,
 ⟨op 23 (.arith .sub (.tmp 22) (.const (.int .i64 (.ofNat 1)))),0,[]⟩,
 ⟨op 24 (.idxRow 1 (.tmp 18) (.tmp 23)),0,[]⟩,
 ⟨op 25 (.load false 1 (.tmp 24)),1,[0]⟩,
 ⟨op 26 (.arith .add (.tmp 25) (.const (.int .i64 (.ofNat 1)))),0,[]⟩,
 ⟨op 27 (.build [(.int .i64 (.ofNat 0)),(.int .i64 (.ofNat 0))] [(0,1,(.tmp 16)),(1,1,(.tmp 26))]),0,[]⟩,
 ⟨op 28 (.fieldAddr 0 (.tmp 3)),0,[]⟩,
 ⟨⟨.none,.none,(.op (.store 2 (.tmp 28) (.tmp 27)))⟩,2,[]⟩])
 (.seq (.ops [op 29 (.fieldAddr 2 (.tmp 3)),
 ⟨.none,.none,(.op (.store 1 (.tmp 29) (.const (.int .i64 (.ofNat 1)))))⟩])
 (.seq (.seq (.ops [mv 30 0,
 op 31 (.nilCheck (.tmp 30)),
 op 32 (.fieldAddr 3 (.tmp 31)),
 op 33 (.load false 1 (.tmp 32)),
 op 34 (.lenRow (.tmp 33)),
 op 35 (.move (.const (.int .i64 (.ofNat 0))))])
 (.block 0 (.loop (.seq (.ops [op 36 (.arith .lss (.tmp 35) (.tmp 34))])
 (.seq (.cond (.tmp 36) .skip
 (.exit 0))
 (.seq (.block 1 (.seq (.ops [op 37 (.idxRow 11 (.tmp 33) (.tmp 35)),
 op 38 (.load true 11 (.tmp 37)),
 op 7 (.alloc 58 [(.int .i64 (.ofNat 0)),(.int .i64 (.ofNat 0)),(.int .i64 (.ofNat 0)),.nilSlice,(.int .i64 (.ofNat 0)),(.str []),.nilSlice,.nilSlice,(.int .i64 (.ofNat 0)),(.int .i64 (.ofNat 0)),(.int .i64 (.ofNat 0))]),
 ⟨.none,.none,(.op (.store 11 (.tmp 7) (.tmp 38)))⟩])
 (.ops [op 39 (.fieldAddr 2 (.tmp 3)),
 op 40 (.load false 1 (.tmp 39)),
 op 41 (.fieldAddr 2 (.tmp 7)),
 op 42 (.load false 1 (.tmp 41)),
 op 43 (.arith .add (.tmp 42) (.const (.int .i64 (.ofNat 1)))),
 op 44 (.minmax true (.tmp 40) (.tmp 43)),
 op 45 (.fieldAddr 2 (.tmp 3)),
 ⟨.none,.none,(.op (.store 1 (.tmp 45) (.tmp 44)))⟩])))
 (.ops [op 46 (.arith .add (.tmp 35) (.const (.int .i64 (.ofNat 1)))),
 mv 35 46])))))))
 (.seq (.seq (.ops [op 47 (.load true 11 (.tmp 3)),
 ⟨(.some 48),.none,(.call (.func 25) [(.tmp 47)])⟩,
 op 49 (.un .not (.tmp 48))])
 (.cond (.tmp 49) (.seq (.ops [op 4 (.move (.const (.str []))),
 op 5 (.move (.const (.int .i64 (.ofNat 320))))])
 .ret)
 .skip))
 (.seq (.seq (.ops [mv 50 0,
 ⟨(.some 51),.none,(.call (.func 26) [(.tmp 50)])⟩])
 (.cond (.tmp 51) (.seq (.ops [op 4 (.move (.const (.str []))),
 op 5 (.move (.const (.int .i64 (.ofNat 8))))])
 .ret)
 .skip))
 (.seq (.ops [op 53 (.load true 11 (.tmp 3)),
 ⟨(.some 54),.none,(.call (.func 24) [(.tmp 53)])⟩,
 mv 52 54,
 op 55 (.extract (.tmp 52) 0),
 op 56 (.extract (.tmp 52) 1),
 mv 8 55,
 mv 9 56])
 (.seq (.seq (.ops [mv 57 9,
 op 58 (.arith .neq (.tmp 57) (.const (.int .i64 (.ofNat 0))))])
 (.cond (.tmp 58) (.seq (.ops [op 4 (.move (.const (.str []))),
 op 5 (.move (.const (.int .i64 (.ofNat 320))))])
 .ret)
 .skip))
 (.seq (.ops [mv 59 0,
 op 60 (.load true 11 (.tmp 3)),
 ⟨(.some 61),.none,(.call (.func 20) [(.tmp 60)])⟩,
 ⟨(.some 62),.none,(.call (.func 27) [(.tmp 59),(.tmp 61)])⟩])
 (.seq (.ops [mv 63 0,
 ⟨(.some 64),.none,(.call (.func 28) [(.tmp 63)])⟩])
 (.seq (.ops [mv 65 8,
 mv 4 65,
 op 5 (.move (.const (.int .i64 (.ofNat 0))))])
 .ret)))))))))))), [.tmp 4, .tmp 5]⟩
def c17 : CFunc := ⟨8, (.seq (.ops [op 4 (.alloc 58 [(.int .i64 (.ofNat 0)),(.int .i64 (.ofNat 0)),(.int .i64 (.ofNat 0)),.nilSlice,(.int .i64 (.ofNat 0)),(.str []),.nilSlice,.nilSlice,(.int .i64 (.ofNat 0)),(.int .i64 (.ofNat 0)),(.int .i64 (.ofNat 0))])])
 (.seq (.ops [mv 5 0,
 mv 6 1,
 op 7 (.build [(.int .i64 (.ofNat 0)),(.int .i64 (.ofNat 0)),(.int .i64 (.ofNat 0)),.nilSlice,(.int .i64 (.ofNat 0)),(.str []),.nilSlice,.nilSlice,(.int .i64 (.ofNat 0)),(.int .i64 (.ofNat 0)),(.int .i64 (.ofNat 0))] [(4,1,(.tmp 5)),(5,1,(.tmp 6))]),
 ⟨.none,.none,(.op (.store 11 (.tmp 4) (.tmp 7)))⟩])
 .ret)), [.cell true 11 4]⟩
def c18 : CFunc := ⟨81, (.seq (.ops [op 4 (.move (.const (.int .i64 (.ofNat 0))))])
 (.seq (.ops [mv 15 1,
 ⟨(.some 16),.none,(.call (.func 29) [(.tmp 15)])⟩,
 mv 14 16,
 op 17 (.extract (.tmp 14) 0),
 op 18 (.extract (.tmp 14) 1),
 op 5 (.alloc 58 [(.int .i64 (.ofNat 0)),(.int .i64 (.ofNat 0)),(.int .i64 (.ofNat 0)),.nilSlice,(.int .i64 (.ofNat 0)),(.str []),.nilSlice,.nilSlice,(.int .i64 (.ofNat 0)),(.int .i64 (.ofNat 0)),(.int .i64 (.ofNat 0))]),
 ⟨.none,.none,(.op (.store 11 (.tmp 5) (.tmp 17)))⟩,
 mv 6 18])
 (.seq (.seq (.ops [mv 19 6,
 op 20 (.arith .neq (.tmp 19) (.const (.int .i64 (.ofNat 0))))])
 (.cond (.tmp 20) (.seq (.ops [mv 21 6,
 mv 4 21])
 .ret)
 .skip))
 (.seq (.seq (.ops [op 22 (.load true 11 (.tmp 5)),
 ⟨(.some 23),.none,(.call (.func 25) [(.tmp 22)])⟩,
 op 24 (.un .not (.tmp 23))])
 (.cond (.tmp 24) (.seq (.ops [op 4 (.move (.const (.int .i64 (.ofNat 320))))])
 .ret)
 .skip))
 (.seq (.draw [⟨mv 26 0,0,[]⟩,
 ⟨op 27 (.nilCheck (.tmp 26)),0,[]⟩,
 ⟨op 28 (.fieldAddr 2 (.tmp 27)),0,[]⟩,
 ⟨op 29 (.load false 1 (.tmp 28)),1,[0]⟩,
 ⟨op 30 (.fieldAddr 0 (.tmp 5)),0,[]⟩,
 ⟨op 31 (.load true 2 (.tmp 30)),1,[0]⟩,
 ⟨op 32 (.lookup (.struct [(0,1,false,.int),(1,1,false,.int)]) (.agg [(.int .i64 (.ofNat 0)),(.int .i64 (.ofNat 0)),(.int .i64 (.ofNat 0)),.nilSlice,(.int .i64 (.ofNat 0)),(.str []),.nilSlice,.nilSlice,(.int .i64 (.ofNat 0)),(.int .i64 (.ofNat 0)),(.int .i64 (.ofNat 0))]) (.tmp 29) (.tmp 31) true),1,[0]⟩,
 ⟨mv 25 32,0,[]⟩,
 ⟨op 33 (.extract (.tmp 25) 0),0,[]⟩,
 ⟨op 34 (.extract (.tmp 25) 1),0,[]⟩,
 ⟨op 7 (.alloc 58 [(.int .i64 (.ofNat 0)),(.int .i64 (.ofNat 0)),(.int .i64 (.ofNat 0)),.nilSlice,(.int .i64 (.ofNat 0)),(.str []),.nilSlice,.nilSlice,(.int .i64 (.ofNat 0)),(.int .i64 (.ofNat 0)),(.int .i64 (.ofNat 0))]),3,[]⟩,
 ⟨⟨.none,.none,(.op (.store 11 (.tmp 7) (.tmp 33)))⟩,2,[]⟩,
 ⟨mv 8 34,0,[]⟩])
 (.seq (.seq (.ops [mv 35 0,
 op 36 (.nilCheck (.tmp 35)),
 op 37 (.fieldAddr 4 (.tmp 36)),
 op 38 (.load false 1 (.tmp 37)),
 op 39 (.makeFunc 31 [] [(.tmp 5)]),
 ⟨(.some 40),.none,(.call (.func 30) [(.tmp 38),(.tmp 39)])⟩,
 mv 9 40])
 (.seq (.ops [mv 41 8,
 op 42 (.un .not (.tmp 41)),
 mv 43 42,
 ⟨(.some 44),(.some (43,true)),(.op (.move (.tmp 9)))⟩,
 ⟨(.some 45),(.some (43,true)),(.op (.arith .geq (.tmp 44) (.const (.int .i64 (.ofNat 0)))))⟩,
 op 46 (.pick (.tmp 43) (.tmp 45) (.const (.bool false)))])
 (.cond (.tmp 46) (.ops [mv 47 0,
 op 48 (.nilCheck (.tmp 47)),
 op 49 (.fieldAddr 4 (.tmp 48)),
 op 50 (.load false 1 (.tmp 49)),
 mv 51 9,
 op 52 (.idxRow 11 (.tmp 50) (.tmp 51)),
 op 53 (.load true 11 (.tmp 52)),
 ⟨.none,.none,(.op (.store 11 (.tmp 7) (.tmp 53)))⟩,
 op 8 (.move (.const (.bool true)))])
 .skip)))
 (.seq (.seq (.ops [mv 54 8])
 (.cond (.tmp 54) (.seq (.ops [op 56 (.load true 11 (.tmp 7)),
 ⟨(.some 57),.none,(.call (.func 32) [(.tmp 56)])⟩,
 mv 55 57,
 op 58 (.extract (.tmp 55) 0),
 op 59 (.extract (.tmp 55) 1),
 mv 10 58,
 mv 11 59])
 (.seq (.ops [op 61 (.load true 11 (.tmp 5)),
 ⟨(.some 62),.none,(.call (.func 32) [(.tmp 61)])⟩,
 mv 60 62,
 op 63 (.extract (.tmp 60) 0),
 op 64 (.extract (.tmp 60) 1),
 mv 12 63,
 mv 13 64])
 (.seq (.seq (.ops [mv 65 10,
 mv 66 12,
 op 67 (.arith .eql (.tmp 65) (.tmp 66))])
 (.cond (.tmp 67) (.seq (.ops [op 4 (.move (.const (.int .i64 (.ofNat 0))))])
 .ret)
 .skip))
 (.seq (.ops [op 4 (.move (.const (.int .i64 (.ofNat 320))))])
 .ret))))
 .skip))
 (.seq (.seq (.ops [mv 68 0,
 ⟨(.some 69),.none,(.call (.func 26) [(.tmp 68)])⟩])
 (.cond (.tmp 69) (.seq (.ops [op 4 (.move (.const (.int .i64 (.ofNat 8))))])
 .ret)
 .skip))
 (.seq (.draw [⟨mv 70 0,0,[]⟩,
 ⟨mv 71 0,0,[]⟩,
 ⟨op 72 (.nilCheck (.tmp 71)),0,[]⟩,
 ⟨op 73 (.fieldAddr 4 (.tmp 72)),0,[]⟩,
 ⟨op 74 (.load false 1 (.tmp 73)),1,[0]⟩,
 ⟨op 75 (.load true 11 (.tmp 5)),1,[0]⟩,
 ⟨⟨(.some 76),.none,(.call (.func 33) [(.tmp 74),(.tmp 75)])⟩,2,[]⟩,
 ⟨op 77 (.nilCheck (.tmp 70)),0,[]⟩,
 ⟨op 78 (.fieldAddr 4 (.tmp 77)),0,[]⟩,
 ⟨⟨.none,.none,(.op (.store 1 (.tmp 78) (.tmp 76)))⟩,2,[]⟩])
 (.seq (.ops [mv 79 0,
 ⟨(.some 80),.none,(.call (.func 28) [(.tmp 79)])⟩])
 (.seq (.ops [op 4 (.move (.const (.int .i64 (.ofNat 0))))])
 .ret))))))))))), [.tmp 4]⟩
def c19 : CFunc := ⟨203, (.seq (.ops [op 2 (.move (.const .nilPtr))])
 (.seq (.ops [mv 19 0,
 ⟨(.some 20),.none,(.call (.func 22) [(.tmp 19)])⟩,
 mv 3 20])
 (.seq (.draw [⟨mv 21 0,0,[]⟩,
 ⟨mv 22 3,0,[]⟩,
 ⟨⟨(.some 23),.none,(.call (.func 21) [(.tmp 21),(.tmp 22)])⟩,2,[]⟩,
 ⟨op 24 (.nilCheck (.tmp 23)),0,[]⟩,
 ⟨op 25 (.fieldAddr 1 (.tmp 24)),0,[]⟩,
 ⟨op 26 (.load false 1 (.tmp 25)),1,[3]⟩,
 ⟨mv 27 0,0,[]⟩,
 ⟨op 28 (.nilCheck (.tmp 27)),0,[]⟩,
 ⟨op 29 (.fieldAddr 1 (.tmp 28)),0,[]⟩,
 ⟨op 30 (.load false 1 (.tmp 29)),1,[0,3]⟩,
 ⟨op 31 (.build [.nilSlice,(.int .i64 (.ofNat 0)),.nilSlice,.nilSlice] [(0,1,(.tmp 26)),(1,1,(.tmp 30))]),0,[]⟩,
 ⟨op 32 (.box 68 (.tmp 31)),2,[]⟩,
 ⟨mv 4 32,0,[]⟩])
 (.seq (.ops [mv 34 4,
 op 35 (.nilCheck (.tmp 34)),
 op 36 (.fieldAddr 0 (.tmp 35)),
 op 37 (.load false 1 (.tmp 36)),
 ⟨(.some 38),.none,(.call (.func 34) [(.tmp 37)])⟩,
 mv 33 38,
 op 39 (.extract (.tmp 33) 0),
 op 40 (.extract (.tmp 33) 1),
 mv 5 39,
 mv 6 40])
 (.seq (.ops [mv 42 4,
 op 43 (.nilCheck (.tmp 42)),
 op 44 (.fieldAddr 0 (.tmp 43)),
 op 45 (.load false 1 (.tmp 44)),
 ⟨(.some 46),.none,(.call (.func 35) [(.tmp 45)])⟩,
 mv 41 46,
 op 47 (.extract (.tmp 41) 0),
 op 48 (.extract (.tmp 41) 1),
 mv 7 47,
 mv 8 48])
 (.seq (.ops [mv 49 4,
 mv 50 5,
 mv 51 7,
 op 52 (.build [.nilSlice,.nilSlice] [(0,1,(.tmp 50)),(1,1,(.tmp 51))]),
 op 53 (.buildSlice 72 [.nilSlice,.nilSlice] 1 [(0,2,(.tmp 52))]),
 op 54 (.nilCheck (.tmp 49)),
 op 55 (.fieldAddr 2 (.tmp 54)),
 ⟨.none,.none,(.op (.store 1 (.tmp 55) (.tmp 53)))⟩])
 (.seq (.ops [op 56 (.makeMap),
 mv 9 56])
 (.seq (.ops [op 10 (.move (.const .nilSlice))])
 (.seq (.ops [op 11 (.move (.const .nilSlice))])
 (.seq (.seq (.ops [mv 57 3,
 op 58 (.lenRow (.tmp 57)),
 op 59 (.move (.const (.int .i64 (.ofNat 0))))])
 (.block 0 (.loop (.seq (.ops [op 60 (.arith .lss (.tmp 59) (.tmp 58))])
 (.seq (.cond (.tmp 60) .skip
 (.exit 0))
 (.seq (.block 1 (.seq (.ops [op 61 (.idxRow 11 (.tmp 57) (.tmp 59)),
 op 62 (.load true 11 (.tmp 61)),
 op 13 (.alloc 58 [(.int .i64 (.ofNat 0)),(.int .i64 (.ofNat 0)),(.int .i64 (.ofNat 0)),.nilSlice,(.int .i64 (.ofNat 0)),(.str []),.nilSlice,.nilSlice,(.int .i64 (.ofNat 0)),(.int .i64 (.ofNat 0)),(.int .i64 (.ofNat 0))]),
 ⟨.none,.none,(.op (.store 11 (.tmp 13) (.tmp 62)))⟩])
 (.seq (.ops [op 63 (.fieldAddr 4 (.tmp 13)),
 op 64 (.load false 1 (.tmp 63))])
 (.block 2 (.seq (.ops [op 66 (.arith .eql (.tmp 64) (.const (.int .i64 (.ofNat 5)))),
 mv 65 66])
 (.cond (.tmp 65) (.ops [mv 67 9,
 op 68 (.fieldAddr 8 (.tmp 13)),
 op 69 (.load true 2 (.tmp 68)),
 op 70 (.fieldAddr 10 (.tmp 13)),
 op 71 (.load false 1 (.tmp 70)),
 ⟨.none,.none,(.op (.mapUpdate (.struct [(0,1,false,.int),(1,1,false,.int)]) (.tmp 67) (.tmp 69) (.tmp 71)))⟩])
 (.seq (.ops [op 73 (.arith .eql (.tmp 64) (.const (.int .i64 (.ofNat 3)))),
 mv 72 73])
 (.cond (.tmp 72) (.seq (.ops [mv 74 4,
 op 75 (.load true 11 (.tmp 13)),
 ⟨(.some 76),.none,(.call (.func 36) [(.tmp 74),(.tmp 75)])⟩,
 mv 14 76])
 (.seq (.ops [mv 77 14,
 op 78 (.lenRow (.tmp 77)),
 op 79 (.arith .gtr (.tmp 78) (.const (.int .i64 (.ofNat 0))))])
 (.cond (.tmp 79) (.seq (.ops [mv 80 10,
 op 81 (.load true 11 (.tmp 13)),
 op 82 (.buildSlice 58 [(.int .i64 (.ofNat 0)),(.int .i64 (.ofNat 0)),(.int .i64 (.ofNat 0)),.nilSlice,(.int .i64 (.ofNat 0)),(.str []),.nilSlice,.nilSlice,(.int .i64 (.ofNat 0)),(.int .i64 (.ofNat 0)),(.int .i64 (.ofNat 0))] 1 [(0,11,(.tmp 81))]),
 op 83 (.append 11 58 144 (.tmp 80) (.tmp 82)),
 mv 10 83])
 (.ops [mv 84 11,
 mv 85 14,
 op 86 (.buildSlice 56 [.nilSlice] 1 [(0,1,(.tmp 85))]),
 op 87 (.append 1 56 24 (.tmp 84) (.tmp 86)),
 mv 11 87]))
 .skip)))
 .skip))))))))
 (.ops [op 88 (.arith .add (.tmp 59) (.const (.int .i64 (.ofNat 1)))),
 mv 59 88])))))))
 (.seq (.seq (.ops [op 15 (.move (.const (.int .i64 (.ofNat 0))))])
 (.block 3 (.loop (.seq (.seq (.ops [mv 89 15,
 mv 90 10,
 op 91 (.lenRow (.tmp 90)),
 op 92 (.arith .lss (.tmp 89) (.tmp 91))])
 (.cond (.tmp 92) .skip
 (.exit 3)))
 (.seq (.block 4 (.seq (.seq (.draw [⟨mv 95 15,0,[]⟩,
 ⟨op 96 (.arith .add (.tmp 95) (.const (.int .i64 (.ofNat 1)))),0,[]⟩,
 ⟨mv 97 10,0,[]⟩,
 ⟨op 98 (.lenRow (.tmp 97)),0,[]⟩,
 ⟨op 99 (.arith .lss (.tmp 96) (.tmp 98)),0,[]⟩,
 ⟨mv 100 99,0,[]⟩,
 ⟨⟨(.some 101),(.some (100,true)),(.op (.move (.tmp 10)))⟩,0,[]⟩,
 ⟨⟨(.some 102),(.some (100,true)),(.op (.move (.tmp 15)))⟩,0,[]⟩,
 ⟨⟨(.some 103),(.some (100,true)),(.op (.idxRow 11 (.tmp 101) (.tmp 102)))⟩,0,[]⟩,
 ⟨⟨(.some 104),(.some (100,true)),(.op (.load true 11 (.tmp 103)))⟩,1,[0]⟩,
 ⟨⟨(.some 105),(.some (100,true)),(.op (.move (.tmp 10)))⟩,0,[]⟩,
 ⟨⟨(.some 106),(.some (100,true)),(.op (.move (.tmp 15)))⟩,0,[]⟩,
 ⟨⟨(.some 107),(.some (100,true)),(.op (.arith .add (.tmp 106) (.const (.int .i64 (.ofNat 1)))))⟩,0,[]⟩,
 ⟨⟨(.some 108),(.some (100,true)),(.op (.idxRow 11 (.tmp 105) (.tmp 107)))⟩,0,[]⟩,
 ⟨⟨(.some 109),(.some (100,true)),(.op (.load true 11 (.tmp 108)))⟩,1,[0]⟩,
 ⟨⟨(.some 110),(.some (100,true)),(.call (.func 37) [(.tmp 104),(.tmp 109)])⟩,2,[]⟩,
 ⟨⟨(.some 111),(.some (100,true)),(.op (.un .not (.tmp 110)))⟩,0,[]⟩,
 ⟨op 112 (.pick (.tmp 100) (.tmp 111) (.const (.bool false))),0,[]⟩,
 ⟨mv 113 112,0,[]⟩,
 ⟨⟨(.some 114),(.some (113,true)),(.op (.move (.tmp 10)))⟩,0,[]⟩,
 ⟨⟨(.some 115),(.some (113,true)),(.op (.move (.tmp 15)))⟩,0,[]⟩,
 ⟨⟨(.some 116),(.some (113,true)),(.op (.arith .add (.tmp 115) (.const (.int .i64 (.ofNat 1)))))⟩,0,[]⟩,
 ⟨⟨(.some 117),(.some (113,true)),(.op (.idxRow 11 (.tmp 114) (.tmp 116)))⟩,0,[]⟩,
 ⟨⟨(.some 118),(.some (113,true)),(.op (.load true 11 (.tmp 117)))⟩,1,[16]⟩,
 ⟨⟨(.some 119),(.some (113,true)),(.op (.move (.tmp 10)))⟩,0,[]⟩,
 ⟨⟨(.some 120),(.some (113,true)),(.op (.move (.tmp 15)))⟩,0,[]⟩,
 ⟨⟨(.some 121),(.some (113,true)),(.op (.idxRow 11 (.tmp 119) (.tmp 120)))⟩,0,[]⟩,
 ⟨⟨(.some 122),(.some (113,true)),(.op (.load true 11 (.tmp 121)))⟩,1,[16]⟩,
 ⟨⟨(.some 123),(.some (113,true)),(.call (.func 37) [(.tmp 118),(.tmp 122)])⟩,2,[]⟩,
 ⟨⟨(.some 124),(.some (113,true)),(.op (.un .not (.tmp 123)))⟩,0,[]⟩,
 ⟨op 125 (.pick (.tmp 113) (.tmp 124) (.const (.bool false))),0,[]⟩,
 ⟨mv 126 125,0,[]⟩,
 ⟨⟨(.some 127),(.some (126,true)),(.op (.move (.tmp 11)))⟩,0,[]⟩,
 ⟨⟨(.some 128),(.some (126,true)),(.op (.move (.tmp 15)))⟩,0,[]⟩,
 ⟨⟨(.some 129),(.some (126,true)),(.op (.idxRow 1 (.tmp 127) (.tmp 128)))⟩,0,[]⟩,
 ⟨⟨(.some 130),(.some (126,true)),(.op (.load false 1 (.tmp 129)))⟩,1,[29]⟩,
 ⟨⟨(.some 131),(.some (126,true)),(.op (.move (.tmp 11)))⟩,0,[]⟩,
 ⟨⟨(.some 132),(.some (126,true)),(.op (.move (.tmp 15)))⟩,0,[]⟩,
 ⟨⟨(.some 133),(.some (126,true)),(.op (.arith .add (.tmp 132) (.const (.int .i64 (.ofNat 1)))))⟩,0,[]⟩,
 ⟨⟨(.some 134),(.some (126,true)),(.op (.idxRow 1 (.tmp 131) (.tmp 133)))⟩,0,[]⟩,
 ⟨⟨(.some 135),(.some (126,true)),(.op (.load false 1 (.tmp 134)))⟩,1,[29]⟩,
 ⟨⟨(.some 136),(.some (126,true)),(.call (.func 38) [(.tmp 130),(.tmp 135)])⟩,2,[]⟩,
 ⟨⟨(.some 137),(.some (126,true)),(.op (.un .not (.tmp 136)))⟩,0,[]⟩,
 ⟨op 138 (.pick (.tmp 126) (.tmp 137) (.const (.bool false))),0,[]⟩])
 (.cond (.tmp 138) (.seq (.ops [mv 140 9,
 mv 141 10,
 mv 142 15,
 op 143 (.idxRow 11 (.tmp 141) (.tmp 142)),
 op 144 (.fieldAddr 0 (.tmp 143)),
 op 145 (.load true 2 (.tmp 144)),
 op 146 (.lookup (.struct [(0,1,false,.int),(1,1,false,.int)]) (.int .i64 (.ofNat 0)) (.tmp 140) (.tmp 145) true),
 mv 139 146,
 op 147 (.extract (.tmp 139) 0),
 op 148 (.extract (.tmp 139) 1),
 mv 16 147,
 mv 17 148])
 (.seq (.seq (.ops [mv 149 17,
 op 150 (.un .not (.tmp 149))])
 (.cond (.tmp 150) (.ops [op 16 (.move (.const (.int .i64 (.negSucc 0))))])
 .skip))
 (.seq (.draw [⟨mv 151 4,0,[]⟩,
 ⟨mv 152 10,0,[]⟩,
 ⟨mv 153 15,0,[]⟩,
 ⟨op 154 (.idxRow 11 (.tmp 152) (.tmp 153)),0,[]⟩,
 ⟨op 155 (.load true 11 (.tmp 154)),1,[0]⟩,
 ⟨mv 156 10,0,[]⟩,
 ⟨mv 157 15,0,[]⟩,
 ⟨op 158 (.arith .add (.tmp 157) (.const (.int .i64 (.ofNat 1)))),0,[]⟩,
 ⟨op 159 (.idxRow 11 (.tmp 156) (.tmp 158)),0,[]⟩,
 ⟨op 160 (.load true 11 (.tmp 159)),1,[0]⟩,
 ⟨mv 161 11,0,[]⟩,
 ⟨mv 162 15,0,[]⟩,
 ⟨op 163 (.idxRow 1 (.tmp 161) (.tmp 162)),0,[]⟩,
 ⟨op 164 (.load false 1 (.tmp 163)),1,[0]⟩,
 ⟨mv 165 11,0,[]⟩,
 ⟨mv 166 15,0,[]⟩,
 ⟨op 167 (.arith .add (.tmp 166) (.const (.int .i64 (.ofNat 1)))),0,[]⟩,
 ⟨op 168 (.idxRow 1 (.tmp 165) (.tmp 167)),0,[]⟩,
 ⟨op 169 (.load false 1 (.tmp 168)),1,[0]⟩,
 ⟨mv 170 16,0,[]⟩,
 ⟨⟨(.some 171),.none,(.call (.func 39) [(.tmp 151),(.tmp 155),(.tmp 160),(.tmp 164),(.tmp 169),(.tmp 170)])⟩,2,[]⟩])
 (.seq (.ops [mv 172 15,
 op 173 (.arith .add (.tmp 172) (.const (.int .i64 (.ofNat 1)))),
 mv 15 173])
 (.exit 4)))))
 .skip))
 (.seq (.ops [mv 174 4,
 op 175 (.nilCheck (.tmp 174)),
 op 176 (.fieldAddr 2 (.tmp 175)),
 op 177 (.load false 1 (.tmp 176)),
 op 178 (.lenRow (.tmp 177)),
 op 179 (.move (.const (.int .i64 (.ofNat 0))))])
 (.block 5 (.loop (.seq (.ops [op 180 (.arith .lss (.tmp 179) (.tmp 178))])
 (.seq (.cond (.tmp 180) .skip
 (.exit 5))
 (.seq (.block 6 (.seq (.ops [mv 181 179,
 mv 18 181])
 (.draw [⟨mv 182 4,0,[]⟩,
 ⟨op 183 (.nilCheck (.tmp 182)),0,[]⟩,
 ⟨op 184 (.fieldAddr 2 (.tmp 183)),0,[]⟩,
 ⟨op 185 (.load false 1 (.tmp 184)),1,[0,18]⟩,
 ⟨mv 186 18,0,[]⟩,
 ⟨mv 187 4,0,[]⟩,
 ⟨mv 188 4,0,[]⟩,
 ⟨op 189 (.nilCheck (.tmp 188)),0,[]⟩,
 ⟨op 190 (.fieldAddr 2 (.tmp 189)),0,[]⟩,
 ⟨op 191 (.load false 1 (.tmp 190)),1,[0]⟩,
 ⟨mv 192 18,0,[]⟩,
 ⟨op 193 (.idxRow 2 (.tmp 191) (.tmp 192)),0,[]⟩,
 ⟨op 194 (.load true 2 (.tmp 193)),1,[0]⟩,
 ⟨mv 195 11,0,[]⟩,
 ⟨mv 196 15,0,[]⟩,
 ⟨op 197 (.idxRow 1 (.tmp 195) (.tmp 196)),0,[]⟩,
 ⟨op 198 (.load false 1 (.tmp 197)),1,[0]⟩,
 ⟨⟨(.some 199),.none,(.call (.func 40) [(.tmp 187),(.tmp 194),(.tmp 198)])⟩,2,[]⟩,
 ⟨op 200 (.idxRow 2 (.tmp 185) (.tmp 186)),0,[]⟩,
 ⟨⟨.none,.none,(.op (.store 2 (.tmp 200) (.tmp 199)))⟩,2,[]⟩])))
 (.ops [op 201 (.arith .add (.tmp 179) (.const (.int .i64 (.ofNat 1)))),
 mv 179 201])))))))))
 (.ops [mv 93 15,
 op 94 (.arith .add (.tmp 93) (.const (.int .i64 (.ofNat 1)))),
 mv 15 94]))))))
 (.seq (.ops [mv 202 4,
 mv 2 202])
 .ret)))))))))))), [.tmp 2]⟩
def c20 : CFunc := ⟨18, (.seq (.ops [op 1 (.box 58 (.tmp 0)),
 op 2 (.alloc 58 [(.int .i64 (.ofNat 0)),(.int .i64 (.ofNat 0)),(.int .i64 (.ofNat 0)),.nilSlice,(.int .i64 (.ofNat 0)),(.str []),.nilSlice,.nilSlice,(.int .i64 (.ofNat 0)),(.int .i64 (.ofNat 0)),(.int .i64 (.ofNat 0))])])
 (.seq (.ops [op 8 (.load true 11 (.tmp 1)),
 ⟨(.some 9),.none,(.call (.func 32) [(.tmp 8)])⟩,
 mv 7 9,
 op 10 (.extract (.tmp 7) 0),
 op 11 (.extract (.tmp 7) 1),
 mv 3 10,
 mv 4 11])
 (.seq (.ops [mv 13 3,
 ⟨(.some 14),.none,(.call (.func 41) [(.tmp 13)])⟩,
 mv 12 14,
 op 15 (.extract (.tmp 12) 0),
 op 16 (.extract (.tmp 12) 1),
 op 5 (.alloc 58 [(.int .i64 (.ofNat 0)),(.int .i64 (.ofNat 0)),(.int .i64 (.ofNat 0)),.nilSlice,(.int .i64 (.ofNat 0)),(.str []),.nilSlice,.nilSlice,(.int .i64 (.ofNat 0)),(.int .i64 (.ofNat 0)),(.int .i64 (.ofNat 0))]),
 ⟨.none,.none,(.op (.store 11 (.tmp 5) (.tmp 15)))⟩,
 mv 6 16])
 (.seq (.ops [op 17 (.load true 11 (.tmp 5)),
 ⟨.none,.none,(.op (.store 11 (.tmp 2) (.tmp 17)))⟩])
 .ret)))), [.cell true 11 2]⟩
def c21 : CFunc := ⟨36, (.seq (.ops [op 4 (.move (.const .nilPtr))])
 (.seq (.ops [op 10 (.build [.nilSlice,.nilSlice] []),
 op 11 (.box 75 (.tmp 10)),
 mv 5 11])
 (.seq (.ops [op 12 (.makeMap),
 mv 13 5,
 op 14 (.makeFunc 42 [(.tmp 13)] []),
 ⟨.none,.none,(.op (.mapUpdate .int (.tmp 12) (.const (.int .i64 (.ofNat 1))) (.tmp 14)))⟩,
 mv 15 5,
 op 16 (.makeFunc 43 [(.tmp 15)] []),
 ⟨.none,.none,(.op (.mapUpdate .int (.tmp 12) (.const (.int .i64 (.ofNat 2))) (.tmp 16)))⟩,
 mv 17 12,
 mv 6 17])
 (.seq (.seq (.ops [mv 18 1,
 op 19 (.lenRow (.tmp 18)),
 op 20 (.move (.const (.int .i64 (.ofNat 0))))])
 (.block 0 (.loop (.seq (.ops [op 21 (.arith .lss (.tmp 20) (.tmp 19))])
 (.seq (.cond (.tmp 21) .skip
 (.exit 0))
 (.seq (.block 1 (.seq (.ops [op 22 (.idxRow 11 (.tmp 18) (.tmp 20)),
 op 23 (.load true 11 (.tmp 22)),
 op 8 (.alloc 58 [(.int .i64 (.ofNat 0)),(.int .i64 (.ofNat 0)),(.int .i64 (.ofNat 0)),.nilSlice,(.int .i64 (.ofNat 0)),(.str []),.nilSlice,.nilSlice,(.int .i64 (.ofNat 0)),(.int .i64 (.ofNat 0)),(.int .i64 (.ofNat 0))]),
 ⟨.none,.none,(.op (.store 11 (.tmp 8) (.tmp 23)))⟩])
 (.seq (.ops [mv 24 6,
 op 25 (.fieldAddr 4 (.tmp 8)),
 op 26 (.load false 1 (.tmp 25)),
 op 27 (.lookup .int .nilFunc (.tmp 24) (.tmp 26) false),
 mv 9 27])
 (.seq (.ops [mv 28 9,
 op 29 (.eq true .func (.tmp 28) (.const .nilFunc))])
 (.cond (.tmp 29) (.ops [mv 30 9,
 op 31 (.fieldAddr 5 (.tmp 8)),
 op 32 (.load false 1 (.tmp 31)),
 ⟨(.some 33),.none,(.call (.tmp 30) [(.tmp 32)])⟩])
 .skip)))))
 (.ops [op 34 (.arith .add (.tmp 20) (.const (.int .i64 (.ofNat 1)))),
 mv 20 34])))))))
 (.seq (.ops [mv 35 5,
 mv 4 35])
 .ret))))), [.tmp 4]⟩
def c22 : CFunc := ⟨42, (.seq (.ops [op 2 (.move (.const .nilSlice))])
 (.seq (.ops [op 7 (.makeMap),
 mv 3 7])
 (.seq (.ops [op 4 (.move (.const .nilSlice))])
 (.seq (.seq (.ops [mv 8 0,
 op 9 (.nilCheck (.tmp 8)),
 op 10 (.fieldAddr 3 (.tmp 9)),
 op 11 (.load false 1 (.tmp 10)),
 op 12 (.lenRow (.tmp 11)),
 op 13 (.arith .sub (.tmp 12) (.const (.int .i64 (.ofNat 1)))),
 mv 5 13])
 (.block 0 (.loop (.seq (.seq (.ops [mv 14 5,
 op 15 (.arith .geq (.tmp 14) (.const (.int .i64 (.ofNat 0))))])
 (.cond (.tmp 15) .skip
 (.exit 0)))
 (.seq (.block 1 (.seq (.ops [mv 18 0,
 op 19 (.nilCheck (.tmp 18)),
 op 20 (.fieldAddr 3 (.tmp 19)),
 op 21 (.load false 1 (.tmp 20)),
 mv 22 5,
 op 23 (.idxRow 11 (.tmp 21) (.tmp 22)),
 op 24 (.load true 11 (.tmp 23)),
 op 6 (.alloc 58 [(.int .i64 (.ofNat 0)),(.int .i64 (.ofNat 0)),(.int .i64 (.ofNat 0)),.nilSlice,(.int .i64 (.ofNat 0)),(.str []),.nilSlice,.nilSlice,(.int .i64 (.ofNat 0)),(.int .i64 (.ofNat 0)),(.int .i64 (.ofNat 0))]),
 ⟨.none,.none,(.op (.store 11 (.tmp 6) (.tmp 24)))⟩])
 (.seq (.seq (.ops [mv 25 3,
 op 26 (.fieldAddr 0 (.tmp 6)),
 op 27 (.load true 2 (.tmp 26)),
 op 28 (.lookup (.struct [(0,1,false,.int),(1,1,false,.int)]) (.bool false) (.tmp 25) (.tmp 27) false)])
 (.cond (.tmp 28) (.exit 1)
 .skip))
 (.seq (.seq (.ops [op 29 (.fieldAddr 4 (.tmp 6)),
 op 30 (.load false 1 (.tmp 29)),
 op 31 (.arith .eql (.tmp 30) (.const (.int .i64 (.ofNat 4))))])
 (.cond (.tmp 31) (.ops [mv 32 3,
 op 33 (.fieldAddr 8 (.tmp 6)),
 op 34 (.load true 2 (.tmp 33)),
 ⟨.none,.none,(.op (.mapUpdate (.struct [(0,1,false,.int),(1,1,false,.int)]) (.tmp 32) (.tmp 34) (.const (.bool true))))⟩])
 .skip))
 (.ops [mv 35 4,
 op 36 (.load true 11 (.tmp 6)),
 op 37 (.buildSlice 58 [(.int .i64 (.ofNat 0)),(.int .i64 (.ofNat 0)),(.int .i64 (.ofNat 0)),.nilSlice,(.int .i64 (.ofNat 0)),(.str []),.nilSlice,.nilSlice,(.int .i64 (.ofNat 0)),(.int .i64 (.ofNat 0)),(.int .i64 (.ofNat 0))] 1 [(0,11,(.tmp 36))]),
 op 38 (.append 11 58 144 (.tmp 35) (.tmp 37)),
 mv 4 38])))))
 (.ops [mv 16 5,
 op 17 (.arith .sub (.tmp 16) (.const (.int .i64 (.ofNat 1)))),
 mv 5 17]))))))
 (.seq (.ops [mv 39 4,
 ⟨(.some 40),.none,(.call (.func 44) [(.tmp 39)])⟩])
 (.seq (.ops [mv 41 4,
 mv 2 41])
 .ret)))))), [.tmp 2]⟩
def c24 : CFunc := ⟨21, (.seq (.ops [op 1 (.box 58 (.tmp 0)),
 op 2 (.move (.const (.str []))),
 op 3 (.move (.const (.int .i64 (.ofNat 0))))])
 (.seq (.ops [op 7 (.load true 11 (.tmp 1)),
 ⟨(.some 8),.none,(.call (.func 32) [(.tmp 7)])⟩,
 mv 6 8,
 op 9 (.extract (.tmp 6) 0),
 op 10 (.extract (.tmp 6) 1),
 mv 4 9,
 mv 5 10])
 (.seq (.seq (.ops [mv 11 5,
 op 12 (.arith .neq (.tmp 11) (.const (.int .i64 (.ofNat 0))))])
 (.cond (.tmp 12) (.seq (.ops [mv 13 5,
 op 2 (.move (.const (.str []))),
 mv 3 13])
 .ret)
 .skip))
 (.seq (.ops [mv 14 4,
 op 15 (.fieldAddr 0 (.tmp 1)),
 op 16 (.fieldAddr 0 (.tmp 15)),
 op 17 (.load false 1 (.tmp 16)),
 mv 18 4,
 ⟨(.some 19),.none,(.call (.func 45) [(.tmp 17),(.tmp 18)])⟩,
 op 20 (.arith .add (.tmp 14) (.tmp 19)),
 mv 2 20,
 op 3 (.move (.const (.int .i64 (.ofNat 0))))])
 .ret)))), [.tmp 2, .tmp 3]⟩
def c25 : CFunc := ⟨81, (.seq (.ops [op 1 (.box 58 (.tmp 0)),
 op 2 (.move (.const (.bool false)))])
 (.seq (.seq (.ops [op 7 (.load true 11 (.tmp 1)),
 ⟨(.some 8),.none,(.call (.func 32) [(.tmp 7)])⟩,
 mv 6 8,
 op 9 (.extract (.tmp 6) 0),
 op 10 (.extract (.tmp 6) 1),
 mv 3 9,
 mv 4 10])
 (.seq (.ops [mv 11 4,
 op 12 (.arith .neq (.tmp 11) (.const (.int .i64 (.ofNat 0)))),
 mv 13 12,
 ⟨(.some 14),(.some (13,false)),(.op (.fieldAddr 5 (.tmp 1)))⟩,
 ⟨(.some 15),(.some (13,false)),(.op (.load false 1 (.tmp 14)))⟩,
 ⟨(.some 16),(.some (13,false)),(.op (.lenStr (.tmp 15)))⟩,
 ⟨(.some 17),(.some (13,false)),(.op (.arith .gtr (.tmp 16) (.const (.int .i64 (.ofNat 200)))))⟩,
 op 18 (.pick (.tmp 13) (.const (.bool true)) (.tmp 17))])
 (.cond (.tmp 18) (.seq (.ops [op 2 (.move (.const (.bool false)))])
 .ret)
 .skip)))
 (.seq (.ops [op 19 (.load true 11 (.tmp 1)),
 op 5 (.alloc 58 [(.int .i64 (.ofNat 0)),(.int .i64 (.ofNat 0)),(.int .i64 (.ofNat 0)),.nilSlice,(.int .i64 (.ofNat 0)),(.str []),.nilSlice,.nilSlice,(.int .i64 (.ofNat 0)),(.int .i64 (.ofNat 0)),(.int .i64 (.ofNat 0))]),
 ⟨.none,.none,(.op (.store 11 (.tmp 5) (.tmp 19)))⟩])
 (.seq (.ops [op 20 (.build [(.int .i64 (.ofNat 0)),(.int .i64 (.ofNat 0))] []),
 op 21 (.fieldAddr 4 (.tmp 5)),
 ⟨.none,.none,(.op (.store 1 (.tmp 21) (.const (.int .i64 (.ofNat 0)))))⟩,
 op 22 (.fieldAddr 0 (.tmp 5)),
 ⟨.none,.none,(.op (.store 2 (.tmp 22) (.tmp 20)))⟩,
 op 23 (.fieldAddr 2 (.tmp 5)),
 ⟨.none,.none,(.op (.store 1 (.tmp 23) (.const (.int .i64 (.ofNat 0)))))⟩,
 op 24 (.fieldAddr 3 (.tmp 5)),
 ⟨.none,.none,(.op (.store 1 (.tmp 24) (.const .nilSlice)))⟩])
 (.seq (.seq (.ops [op 25 (.fieldAddr 4 (.tmp 1)),
 op 26 (.load false 1 (.tmp 25))])
 (.block 0 (.seq (.seq (.ops [op 28 (.arith .eql (.tmp 26) (.const (.int .i64 (.ofNat 1)))),
 mv 27 28])
 (.cond (.tmp 27) .skip
 (.ops [op 29 (.arith .eql (.tmp 26) (.const (.int .i64 (.ofNat 2)))),
 mv 27 29])))
 (.cond (.tmp 27) (.ops [op 30 (.fieldAddr 5 (.tmp 5)),
 ⟨.none,.none,(.op (.store 1 (.tmp 30) (.const (.str []))))⟩])
 (.seq (.ops [op 32 (.arith .eql (.tmp 26) (.const (.int .i64 (.ofNat 3)))),
 mv 31 32])
 (.cond (.tmp 31) (.seq (.seq (.ops [op 33 (.load true 11 (.tmp 1)),
 ⟨(.some 34),.none,(.call (.func 46) [(.tmp 33)])⟩,
 op 35 (.un .not (.tmp 34))])
 (.cond (.tmp 35) (.seq (.ops [op 2 (.move (.const (.bool false)))])
 .ret)
 .skip))
 (.ops [op 36 (.fieldAddr 6 (.tmp 5)),
 ⟨.none,.none,(.op (.store 1 (.tmp 36) (.const .nilSlice)))⟩,
 op 37 (.fieldAddr 7 (.tmp 5)),
 ⟨.none,.none,(.op (.store 1 (.tmp 37) (.const .nilSlice)))⟩]))
 (.seq (.ops [op 39 (.arith .eql (.tmp 26) (.const (.int .i64 (.ofNat 4)))),
 mv 38 39])
 (.cond (.tmp 38) (.ops [op 40 (.build [(.int .i64 (.ofNat 0)),(.int .i64 (.ofNat 0))] []),
 op 41 (.fieldAddr 8 (.tmp 5)),
 ⟨.none,.none,(.op (.store 2 (.tmp 41) (.tmp 40)))⟩])
 (.seq (.ops [op 43 (.arith .eql (.tmp 26) (.const (.int .i64 (.ofNat 5)))),
 mv 42 43])
 (.cond (.tmp 42) (.seq (.seq (.ops [op 44 (.fieldAddr 10 (.tmp 1)),
 op 45 (.load false 1 (.tmp 44)),
 op 46 (.arith .neq (.tmp 45) (.const (.int .i64 (.ofNat 0)))),
 mv 47 46,
 ⟨(.some 48),(.some (47,true)),(.op (.fieldAddr 10 (.tmp 1)))⟩,
 ⟨(.some 49),(.some (47,true)),(.op (.load false 1 (.tmp 48)))⟩,
 ⟨(.some 50),(.some (47,true)),(.op (.arith .neq (.tmp 49) (.const (.int .i64 (.ofNat 1)))))⟩,
 op 51 (.pick (.tmp 47) (.tmp 50) (.const (.bool false)))])
 (.cond (.tmp 51) (.seq (.ops [op 2 (.move (.const (.bool false)))])
 .ret)
 .skip))
 (.ops [op 52 (.build [(.int .i64 (.ofNat 0)),(.int .i64 (.ofNat 0))] []),
 op 53 (.fieldAddr 8 (.tmp 5)),
 ⟨.none,.none,(.op (.store 2 (.tmp 53) (.tmp 52)))⟩,
 op 54 (.fieldAddr 10 (.tmp 5)),
 ⟨.none,.none,(.op (.store 1 (.tmp 54) (.const (.int .i64 (.ofNat 0)))))⟩]))
 (.seq (.ops [op 2 (.move (.const (.bool false)))])
 .ret)))))))))))
 (.seq (.ops [op 55 (.fieldAddr 5 (.tmp 5)),
 op 56 (.load false 1 (.tmp 55)),
 op 57 (.arith .eql (.tmp 56) (.const (.str []))),
 mv 58 57,
 ⟨(.some 59),(.some (58,true)),(.op (.fieldAddr 6 (.tmp 5)))⟩,
 ⟨(.some 60),(.some (58,true)),(.op (.load false 1 (.tmp 59)))⟩,
 ⟨(.some 61),(.some (58,true)),(.op (.lenRow (.tmp 60)))⟩,
 ⟨(.some 62),(.some (58,true)),(.op (.arith .eql (.tmp 61) (.const (.int .i64 (.ofNat 0)))))⟩,
 op 63 (.pick (.tmp 58) (.tmp 62) (.const (.bool false))),
 mv 64 63,
 ⟨(.some 65),(.some (64,true)),(.op (.fieldAddr 7 (.tmp 5)))⟩,
 ⟨(.some 66),(.some (64,true)),(.op (.load false 1 (.tmp 65)))⟩,
 ⟨(.some 67),(.some (64,true)),(.op (.lenRow (.tmp 66)))⟩,
 ⟨(.some 68),(.some (64,true)),(.op (.arith .eql (.tmp 67) (.const (.int .i64 (.ofNat 0)))))⟩,
 op 69 (.pick (.tmp 64) (.tmp 68) (.const (.bool false))),
 mv 70 69,
 ⟨(.some 71),(.some (70,true)),(.op (.fieldAddr 8 (.tmp 5)))⟩,
 ⟨(.some 72),(.some (70,true)),(.op (.load true 2 (.tmp 71)))⟩,
 ⟨(.some 73),(.some (70,true)),(.op (.build [(.int .i64 (.ofNat 0)),(.int .i64 (.ofNat 0))] []))⟩,
 ⟨(.some 74),(.some (70,true)),(.op (.eq false (.struct [(0,1,false,.int),(1,1,false,.int)]) (.tmp 72) (.tmp 73)))⟩,
 op 75 (.pick (.tmp 70) (.tmp 74) (.const (.bool false))),
 mv 76 75,
 ⟨(.some 77),(.some (76,true)),(.op (.fieldAddr 10 (.tmp 5)))⟩,
 ⟨(.some 78),(.some (76,true)),(.op (.load false 1 (.tmp 77)))⟩,
 ⟨(.some 79),(.some (76,true)),(.op (.arith .eql (.tmp 78) (.const (.int .i64 (.ofNat 0)))))⟩,
 op 80 (.pick (.tmp 76) (.tmp 79) (.const (.bool false))),
 mv 2 80])
 .ret)))))), [.tmp 2]⟩
def c26 : CFunc := ⟨15, (.seq (.ops [op 2 (.move (.const (.bool false)))])
 (.seq (.draw [⟨mv 3 0,0,[]⟩,
 ⟨op 4 (.nilCheck (.tmp 3)),0,[]⟩,
 ⟨op 5 (.fieldAddr 3 (.tmp 4)),0,[]⟩,
 ⟨op 6 (.load false 1 (.tmp 5)),1,[0]⟩,
 ⟨op 7 (.lenRow (.tmp 6)),0,[]⟩,
 ⟨mv 8 0,0,[]⟩,
 ⟨op 9 (.nilCheck (.tmp 8)),0,[]⟩,
 ⟨op 10 (.fieldAddr 4 (.tmp 9)),0,[]⟩,
 ⟨op 11 (.load false 1 (.tmp 10)),1,[0]⟩,
 ⟨op 12 (.lenRow (.tmp 11)),0,[]⟩,
 ⟨op 13 (.arith .add (.tmp 7) (.tmp 12)),0,[]⟩,
 ⟨op 14 (.arith .geq (.tmp 13) (.const (.int .i64 (.ofNat 64)))),0,[]⟩,
 ⟨mv 2 14,0,[]⟩])
 .ret)), [.tmp 2]⟩
def c27 : CFunc := ⟨20, (.seq (.ops [op 3 (.box 58 (.tmp 1))])
 (.seq (.draw [⟨mv 4 0,0,[]⟩,
 ⟨op 5 (.nilCheck (.tmp 4)),0,[]⟩,
 ⟨op 6 (.fieldAddr 2 (.tmp 5)),0,[]⟩,
 ⟨op 7 (.load false 1 (.tmp 6)),1,[0]⟩,
 ⟨op 8 (.fieldAddr 0 (.tmp 3)),0,[]⟩,
 ⟨op 9 (.load true 2 (.tmp 8)),1,[0]⟩,
 ⟨op 10 (.load true 11 (.tmp 3)),1,[0]⟩,
 ⟨⟨.none,.none,(.op (.mapUpdate (.struct [(0,1,false,.int),(1,1,false,.int)]) (.tmp 7) (.tmp 9) (.tmp 10)))⟩,2,[]⟩])
 (.draw [⟨mv 11 0,0,[]⟩,
 ⟨mv 12 0,0,[]⟩,
 ⟨op 13 (.nilCheck (.tmp 12)),0,[]⟩,
 ⟨op 14 (.fieldAddr 3 (.tmp 13)),0,[]⟩,
 ⟨op 15 (.load false 1 (.tmp 14)),1,[0]⟩,
 ⟨op 16 (.load true 11 (.tmp 3)),1,[0]⟩,
 ⟨⟨(.some 17),.none,(.call (.func 33) [(.tmp 15),(.tmp 16)])⟩,2,[]⟩,
 ⟨op 18 (.nilCheck (.tmp 11)),0,[]⟩,
 ⟨op 19 (.fieldAddr 3 (.tmp 18)),0,[]⟩,
 ⟨⟨.none,.none,(.op (.store 1 (.tmp 19) (.tmp 17)))⟩,2,[]⟩]))), []⟩
def c28 : CFunc := ⟨38, (.block 0 (.loop (.block 1 (.seq (.ops [mv 4 0,
 op 5 (.nilCheck (.tmp 4)),
 op 6 (.fieldAddr 4 (.tmp 5)),
 op 7 (.load false 1 (.tmp 6)),
 mv 8 0,
 op 9 (.makeFunc 47 [(.tmp 8)] []),
 ⟨(.some 10),.none,(.call (.func 30) [(.tmp 7),(.tmp 9)])⟩,
 mv 2 10])
 (.seq (.seq (.ops [mv 11 2,
 op 12 (.arith .lss (.tmp 11) (.const (.int .i64 (.ofNat 0))))])
 (.cond (.tmp 12) .ret
 .skip))
 (.seq (.ops [mv 13 0,
 op 14 (.nilCheck (.tmp 13)),
 op 15 (.fieldAddr 4 (.tmp 14)),
 op 16 (.load false 1 (.tmp 15)),
 mv 17 2,
 op 18 (.idxRow 11 (.tmp 16) (.tmp 17)),
 op 19 (.load true 11 (.tmp 18)),
 op 3 (.alloc 58 [(.int .i64 (.ofNat 0)),(.int .i64 (.ofNat 0)),(.int .i64 (.ofNat 0)),.nilSlice,(.int .i64 (.ofNat 0)),(.str []),.nilSlice,.nilSlice,(.int .i64 (.ofNat 0)),(.int .i64 (.ofNat 0)),(.int .i64 (.ofNat 0))]),
 ⟨.none,.none,(.op (.store 11 (.tmp 3) (.tmp 19)))⟩])
 (.seq (.ops [mv 20 0,
 mv 21 0,
 op 22 (.nilCheck (.tmp 21)),
 op 23 (.fieldAddr 4 (.tmp 22)),
 op 24 (.load false 1 (.tmp 23)),
 mv 25 2,
 mv 26 2,
 op 27 (.arith .add (.tmp 26) (.const (.int .i64 (.ofNat 1)))),
 ⟨(.some 28),.none,(.call (.func 48) [(.tmp 24),(.tmp 25),(.tmp 27)])⟩,
 op 29 (.nilCheck (.tmp 20)),
 op 30 (.fieldAddr 4 (.tmp 29)),
 ⟨.none,.none,(.op (.store 1 (.tmp 30) (.tmp 28)))⟩])
 (.seq (.ops [mv 31 0,
 op 32 (.load true 11 (.tmp 3)),
 ⟨(.some 33),.none,(.call (.func 49) [(.tmp 31),(.tmp 32)])⟩,
 op 34 (.un .not (.tmp 33))])
 (.cond (.tmp 34) (.ops [mv 35 0,
 op 36 (.load true 11 (.tmp 3)),
 ⟨(.some 37),.none,(.call (.func 27) [(.tmp 35),(.tmp 36)])⟩])
 .skip))))))))), []⟩
def c29 : CFunc := ⟨39, (.seq (.ops [op 2 (.alloc 58 [(.int .i64 (.ofNat 0)),(.int .i64 (.ofNat 0)),(.int .i64 (.ofNat 0)),.nilSlice,(.int .i64 (.ofNat 0)),(.str []),.nilSlice,.nilSlice,(.int .i64 (.ofNat 0)),(.int .i64 (.ofNat 0)),(.int .i64 (.ofNat 0))]),
 op 3 (.move (.const (.int .i64 (.ofNat 0))))])
 (.seq (.ops [mv 7 0,
 op 8 (.lenStr (.tmp 7)),
 op 9 (.arith .sub (.tmp 8) (.const (.int .i64 (.ofNat 8)))),
 mv 4 9])
 (.seq (.seq (.ops [mv 10 4,
 op 11 (.arith .lss (.tmp 10) (.const (.int .i64 (.ofNat 0))))])
 (.cond (.tmp 11) (.seq (.ops [op 12 (.build [(.int .i64 (.ofNat 0)),(.int .i64 (.ofNat 0)),(.int .i64 (.ofNat 0)),.nilSlice,(.int .i64 (.ofNat 0)),(.str []),.nilSlice,.nilSlice,(.int .i64 (.ofNat 0)),(.int .i64 (.ofNat 0)),(.int .i64 (.ofNat 0))] []),
 ⟨.none,.none,(.op (.store 11 (.tmp 2) (.tmp 12)))⟩,
 op 3 (.move (.const (.int .i64 (.ofNat 9))))])
 .ret)
 .skip))
 (.seq (.ops [mv 14 0,
 mv 15 4,
 op 16 (.slice .str (.tmp 14) .none (.some (.tmp 15)) .none),
 ⟨(.some 17),.none,(.call (.func 41) [(.tmp 16)])⟩,
 mv 13 17,
 op 18 (.extract (.tmp 13) 0),
 op 19 (.extract (.tmp 13) 1),
 op 5 (.alloc 58 [(.int .i64 (.ofNat 0)),(.int .i64 (.ofNat 0)),(.int .i64 (.ofNat 0)),.nilSlice,(.int .i64 (.ofNat 0)),(.str []),.nilSlice,.nilSlice,(.int .i64 (.ofNat 0)),(.int .i64 (.ofNat 0)),(.int .i64 (.ofNat 0))]),
 ⟨.none,.none,(.op (.store 11 (.tmp 5) (.tmp 18)))⟩,
 mv 6 19])
 (.seq (.block 0 (.seq (.ops [mv 21 6,
 op 22 (.arith .neq (.tmp 21) (.const (.int .i64 (.ofNat 0)))),
 mv 20 22])
 (.cond (.tmp 20) (.seq (.ops [op 23 (.build [(.int .i64 (.ofNat 0)),(.int .i64 (.ofNat 0)),(.int .i64 (.ofNat 0)),.nilSlice,(.int .i64 (.ofNat 0)),(.str []),.nilSlice,.nilSlice,(.int .i64 (.ofNat 0)),(.int .i64 (.ofNat 0)),(.int .i64 (.ofNat 0))] []),
 mv 24 6,
 ⟨.none,.none,(.op (.store 11 (.tmp 2) (.tmp 23)))⟩,
 mv 3 24])
 .ret)
 (.seq (.draw [⟨op 26 (.fieldAddr 0 (.tmp 5)),0,[]⟩,
 ⟨op 27 (.fieldAddr 0 (.tmp 26)),0,[]⟩,
 ⟨op 28 (.load false 1 (.tmp 27)),1,[0]⟩,
 ⟨mv 29 0,0,[]⟩,
 ⟨mv 30 4,0,[]⟩,
 ⟨op 31 (.slice .str (.tmp 29) .none (.some (.tmp 30)) .none),0,[]⟩,
 ⟨⟨(.some 32),.none,(.call (.func 45) [(.tmp 28),(.tmp 31)])⟩,2,[]⟩,
 ⟨mv 33 0,0,[]⟩,
 ⟨mv 34 4,0,[]⟩,
 ⟨op 35 (.slice .str (.tmp 33) (.some (.tmp 34)) .none .none),0,[]⟩,
 ⟨op 36 (.arith .neq (.tmp 32) (.tmp 35)),0,[]⟩,
 ⟨mv 25 36,0,[]⟩])
 (.cond (.tmp 25) (.seq (.ops [op 37 (.build [(.int .i64 (.ofNat 0)),(.int .i64 (.ofNat 0)),(.int .i64 (.ofNat 0)),.nilSlice,(.int .i64 (.ofNat 0)),(.str []),.nilSlice,.nilSlice,(.int .i64 (.ofNat 0)),(.int .i64 (.ofNat 0)),(.int .i64 (.ofNat 0))] []),
 ⟨.none,.none,(.op (.store 11 (.tmp 2) (.tmp 37)))⟩,
 op 3 (.move (.const (.int .i64 (.ofNat 310))))])
 .ret)
 .skip)))))
 (.seq (.ops [op 38 (.load true 11 (.tmp 5)),
 ⟨.none,.none,(.op (.store 11 (.tmp 2) (.tmp 38)))⟩,
 op 3 (.move (.const (.int .i64 (.ofNat 0))))])
 .ret)))))), [.cell true 11 2, .tmp 3]⟩
def c30 : CFunc := ⟨19, (.seq (.ops [op 4 (.move (.const (.int .i64 (.ofNat 0))))])
 (.seq (.seq (.ops [mv 6 0,
 op 7 (.lenRow (.tmp 6)),
 op 8 (.move (.const (.int .i64 (.ofNat 0))))])
 (.block 0 (.loop (.seq (.ops [op 9 (.arith .lss (.tmp 8) (.tmp 7))])
 (.seq (.cond (.tmp 9) .skip
 (.exit 0))
 (.seq (.block 1 (.seq (.ops [mv 10 8,
 mv 5 10])
 (.seq (.ops [mv 11 1,
 mv 12 0,
 mv 13 5,
 op 14 (.idxRow 11 (.tmp 12) (.tmp 13)),
 op 15 (.load true 11 (.tmp 14)),
 ⟨(.some 16),.none,(.call (.tmp 11) [(.tmp 15)])⟩])
 (.cond (.tmp 16) (.seq (.ops [mv 17 5,
 mv 4 17])
 .ret)
 .skip))))
 (.ops [op 18 (.arith .add (.tmp 8) (.const (.int .i64 (.ofNat 1)))),
 mv 8 18])))))))
 (.seq (.ops [op 4 (.move (.const (.int .i64 (.negSucc 0))))])
 .ret))), [.tmp 4]⟩
def c31 : CFunc := ⟨9, (.seq (.ops [op 2 (.box 58 (.tmp 0)),
 op 3 (.move (.const (.bool false)))])
 (.seq (.ops [op 4 (.fieldAddr 0 (.tmp 2)),
 op 5 (.load true 2 (.tmp 4)),
 op 6 (.fieldAddr 0 (.tmp 1)),
 op 7 (.load true 2 (.tmp 6)),
 op 8 (.eq false (.struct [(0,1,false,.int),(1,1,false,.int)]) (.tmp 5) (.tmp 7)),
 mv 3 8])
 .ret)), [.tmp 3]⟩
def c32 : CFunc := ⟨86, (.seq (.ops [op 1 (.box 58 (.tmp 0)),
 op 2 (.move (.const (.str []))),
 op 3 (.move (.const (.int .i64 (.ofNat 0))))])
 (.seq (.seq (.ops [op 11 (.load true 11 (.tmp 1)),
 ⟨(.some 12),.none,(.call (.func 50) [(.tmp 11)])⟩,
 op 13 (.un .not (.tmp 12))])
 (.cond (.tmp 13) (.seq (.ops [op 2 (.move (.const (.str []))),
 op 3 (.move (.const (.int .i64 (.ofNat 3))))])
 .ret)
 .skip))
 (.seq (.ops [op 4 (.alloc 112 [.nilPtr,.nilSlice])])
 (.seq (.ops [op 14 (.fieldAddr 0 (.tmp 1)),
 op 15 (.fieldAddr 0 (.tmp 14)),
 op 16 (.load false 1 (.tmp 15)),
 ⟨(.some 17),.none,(.call (.func 51) [(.tmp 4),(.tmp 16)])⟩])
 (.seq (.ops [op 18 (.fieldAddr 0 (.tmp 1)),
 op 19 (.fieldAddr 1 (.tmp 18)),
 op 20 (.load false 1 (.tmp 19)),
 ⟨(.some 21),.none,(.call (.func 51) [(.tmp 4),(.tmp 20)])⟩])
 (.seq (.ops [op 22 (.fieldAddr 2 (.tmp 1)),
 op 23 (.load false 1 (.tmp 22)),
 ⟨(.some 24),.none,(.call (.func 51) [(.tmp 4),(.tmp 23)])⟩])
 (.seq (.ops [op 25 (.fieldAddr 3 (.tmp 1)),
 op 26 (.load false 1 (.tmp 25)),
 op 27 (.lenRow (.tmp 26)),
 ⟨(.some 28),.none,(.call (.func 51) [(.tmp 4),(.tmp 27)])⟩])
 (.seq (.seq (.ops [op 29 (.fieldAddr 3 (.tmp 1)),
 op 30 (.load false 1 (.tmp 29)),
 op 31 (.lenRow (.tmp 30)),
 op 32 (.move (.const (.int .i64 (.ofNat 0))))])
 (.block 0 (.loop (.seq (.ops [op 33 (.arith .lss (.tmp 32) (.tmp 31))])
 (.seq (.cond (.tmp 33) .skip
 (.exit 0))
 (.seq (.block 1 (.seq (.ops [op 34 (.idxRow 1 (.tmp 30) (.tmp 32)),
 op 35 (.load false 1 (.tmp 34)),
 mv 6 35])
 (.ops [mv 36 6,
 ⟨(.some 37),.none,(.call (.func 51) [(.tmp 4),(.tmp 36)])⟩])))
 (.ops [op 38 (.arith .add (.tmp 32) (.const (.int .i64 (.ofNat 1)))),
 mv 32 38])))))))
 (.seq (.ops [op 39 (.fieldAddr 4 (.tmp 1)),
 op 40 (.load false 1 (.tmp 39)),
 ⟨(.some 41),.none,(.call (.func 51) [(.tmp 4),(.tmp 40)])⟩])
 (.seq (.ops [op 42 (.fieldAddr 5 (.tmp 1)),
 op 43 (.load false 1 (.tmp 42)),
 ⟨(.some 44),.none,(.call (.func 52) [(.tmp 4),(.tmp 43)])⟩])
 (.seq (.ops [op 45 (.fieldAddr 6 (.tmp 1)),
 op 46 (.load false 1 (.tmp 45)),
 op 47 (.lenRow (.tmp 46)),
 ⟨(.some 48),.none,(.call (.func 51) [(.tmp 4),(.tmp 47)])⟩])
 (.seq (.seq (.ops [op 49 (.fieldAddr 6 (.tmp 1)),
 op 50 (.load false 1 (.tmp 49)),
 op 51 (.lenRow (.tmp 50)),
 op 52 (.move (.const (.int .i64 (.ofNat 0))))])
 (.block 2 (.loop (.seq (.ops [op 53 (.arith .lss (.tmp 52) (.tmp 51))])
 (.seq (.cond (.tmp 53) .skip
 (.exit 2))
 (.seq (.block 3 (.seq (.ops [op 54 (.idxRow 1 (.tmp 50) (.tmp 52)),
 op 55 (.load false 1 (.tmp 54)),
 mv 8 55])
 (.ops [mv 56 8,
 ⟨(.some 57),.none,(.call (.func 52) [(.tmp 4),(.tmp 56)])⟩])))
 (.ops [op 58 (.arith .add (.tmp 52) (.const (.int .i64 (.ofNat 1)))),
 mv 52 58])))))))
 (.seq (.ops [op 59 (.fieldAddr 7 (.tmp 1)),
 op 60 (.load false 1 (.tmp 59)),
 op 61 (.lenRow (.tmp 60)),
 ⟨(.some 62),.none,(.call (.func 51) [(.tmp 4),(.tmp 61)])⟩])
 (.seq (.seq (.ops [op 63 (.fieldAddr 7 (.tmp 1)),
 op 64 (.load false 1 (.tmp 63)),
 op 65 (.lenRow (.tmp 64)),
 op 66 (.move (.const (.int .i64 (.ofNat 0))))])
 (.block 4 (.loop (.seq (.ops [op 67 (.arith .lss (.tmp 66) (.tmp 65))])
 (.seq (.cond (.tmp 67) .skip
 (.exit 4))
 (.seq (.block 5 (.seq (.ops [op 68 (.idxRow 6 (.tmp 64) (.tmp 66)),
 op 69 (.load true 6 (.tmp 68)),
 op 10 (.alloc 120 [(.int .i64 (.ofNat 0)),(.int .i64 (.ofNat 0)),(.bool false),.nilSlice,(.bool false),.nilSlice]),
 ⟨.none,.none,(.op (.store 6 (.tmp 10) (.tmp 69)))⟩])
 (.ops [op 70 (.load true 6 (.tmp 10)),
 ⟨(.some 71),.none,(.call (.func 53) [(.tmp 4),(.tmp 70)])⟩])))
 (.ops [op 72 (.arith .add (.tmp 66) (.const (.int .i64 (.ofNat 1)))),
 mv 66 72])))))))
 (.seq (.ops [op 73 (.fieldAddr 8 (.tmp 1)),
 op 74 (.fieldAddr 0 (.tmp 73)),
 op 75 (.load false 1 (.tmp 74)),
 ⟨(.some 76),.none,(.call (.func 51) [(.tmp 4),(.tmp 75)])⟩])
 (.seq (.ops [op 77 (.fieldAddr 8 (.tmp 1)),
 op 78 (.fieldAddr 1 (.tmp 77)),
 op 79 (.load false 1 (.tmp 78)),
 ⟨(.some 80),.none,(.call (.func 51) [(.tmp 4),(.tmp 79)])⟩])
 (.seq (.ops [op 81 (.fieldAddr 10 (.tmp 1)),
 op 82 (.load false 1 (.tmp 81)),
 ⟨(.some 83),.none,(.call (.func 51) [(.tmp 4),(.tmp 82)])⟩])
 (.seq (.ops [op 84 (.fieldAddr 0 (.tmp 4)),
 ⟨(.some 85),.none,(.call (.func 54) [(.tmp 84)])⟩,
 mv 2 85,
 op 3 (.move (.const (.int .i64 (.ofNat 0))))])
 .ret)))))))))))))))))), [.tmp 2, .tmp 3]⟩
def c33 : CFunc := ⟨18, (.seq (.ops [op 3 (.box 58 (.tmp 1)),
 op 4 (.move (.const .nilSlice))])
 (.seq (.ops [mv 8 0,
 op 9 (.load true 11 (.tmp 3)),
 ⟨(.some 10),.none,(.call (.func 55) [(.tmp 8),(.tmp 9),(.func 56)])⟩,
 mv 7 10,
 op 11 (.extract (.tmp 7) 0),
 op 12 (.extract (.tmp 7) 1),
 mv 5 11,
 mv 6 12])
 (.seq (.ops [mv 13 0,
 mv 14 5,
 op 15 (.load true 11 (.tmp 3)),
 op 16 (.buildSlice 58 [(.int .i64 (.ofNat 0)),(.int .i64 (.ofNat 0)),(.int .i64 (.ofNat 0)),.nilSlice,(.int .i64 (.ofNat 0)),(.str []),.nilSlice,.nilSlice,(.int .i64 (.ofNat 0)),(.int .i64 (.ofNat 0)),(.int .i64 (.ofNat 0))] 1 [(0,11,(.tmp 15))]),
 ⟨(.some 17),.none,(.call (.func 57) [(.tmp 13),(.tmp 14),(.tmp 16)])⟩,
 mv 4 17])
 .ret))), [.tmp 4]⟩
def c34 : CFunc := ⟨42, (.seq (.ops [op 2 (.move (.const .nilSlice)),
 op 3 (.move (.const (.int .i64 (.ofNat 0))))])
 (.seq (.seq (.ops [mv 8 0,
 ⟨(.some 9),.none,(.call (.func 58) [(.tmp 8)])⟩,
 mv 4 9])
 (.seq (.ops [mv 10 4,
 op 11 (.arith .neq (.tmp 10) (.const (.int .i64 (.ofNat 0))))])
 (.cond (.tmp 11) (.seq (.ops [mv 12 4,
 op 2 (.move (.const .nilSlice)),
 mv 3 12])
 .ret)
 .skip)))
 (.seq (.ops [op 5 (.move (.const .nilSlice))])
 (.seq (.seq (.ops [mv 13 0,
 ⟨(.some 14),.none,(.call (.func 59) [(.tmp 13)])⟩,
 op 15 (.lenRow (.tmp 14)),
 op 16 (.move (.const (.int .i64 (.ofNat 0))))])
 (.block 0 (.loop (.seq (.ops [op 17 (.arith .lss (.tmp 16) (.tmp 15))])
 (.seq (.cond (.tmp 17) .skip
 (.exit 0))
 (.seq (.block 1 (.seq (.ops [op 18 (.idxRow 2 (.tmp 14) (.tmp 16)),
 op 19 (.load true 2 (.tmp 18)),
 op 7 (.alloc 129 [(.int .i64 (.ofNat 0)),(.int .i64 (.ofNat 0))]),
 ⟨.none,.none,(.op (.store 2 (.tmp 7) (.tmp 19)))⟩])
 (.draw [⟨mv 20 5,0,[]⟩,
 ⟨mv 21 0,0,[]⟩,
 ⟨op 22 (.idxArr 2 1 (.tmp 7) (.const (.int .i64 (.ofNat 0)))),0,[]⟩,
 ⟨op 23 (.load false 1 (.tmp 22)),1,[0]⟩,
 ⟨op 24 (.idxRow 12 (.tmp 21) (.tmp 23)),0,[]⟩,
 ⟨op 25 (.fieldAddr 3 (.tmp 24)),0,[]⟩,
 ⟨op 26 (.load true 4 (.tmp 25)),1,[0]⟩,
 ⟨mv 27 0,0,[]⟩,
 ⟨op 28 (.idxArr 2 1 (.tmp 7) (.const (.int .i64 (.ofNat 0)))),0,[]⟩,
 ⟨op 29 (.load false 1 (.tmp 28)),1,[0]⟩,
 ⟨op 30 (.idxRow 12 (.tmp 27) (.tmp 29)),0,[]⟩,
 ⟨op 31 (.fieldAddr 7 (.tmp 30)),0,[]⟩,
 ⟨op 32 (.load true 4 (.tmp 31)),1,[0]⟩,
 ⟨op 33 (.build [(.bool false),.nilSlice,(.bool false),.nilSlice,(.bool false),.nilSlice,(.bool false),.nilSlice] [(0,4,(.tmp 26)),(4,4,(.tmp 32))]),0,[]⟩,
 ⟨op 34 (.idxArr 2 1 (.tmp 7) (.const (.int .i64 (.ofNat 1)))),0,[]⟩,
 ⟨op 35 (.load false 1 (.tmp 34)),1,[0]⟩,
 ⟨op 36 (.idxAgg true 2 4 (.tmp 33) (.tmp 35)),0,[]⟩,
 ⟨⟨(.some 37),.none,(.call (.func 60) [(.tmp 36)])⟩,2,[]⟩,
 ⟨op 38 (.buildSlice 118 [(.bool false),.nilSlice,(.bool false),.nilSlice] 1 [(0,4,(.tmp 37))]),2,[]⟩,
 ⟨op 39 (.append 4 118 64 (.tmp 20) (.tmp 38)),2,[]⟩,
 ⟨mv 5 39,0,[]⟩])))
 (.ops [op 40 (.arith .add (.tmp 16) (.const (.int .i64 (.ofNat 1)))),
 mv 16 40])))))))
 (.seq (.ops [mv 41 5,
 mv 2 41,
 op 3 (.move (.const (.int .i64 (.ofNat 0))))])
 .ret))))), [.tmp 2, .tmp 3]⟩
def c35 : CFunc := ⟨41, (.seq (.ops [op 2 (.move (.const .nilSlice)),
 op 3 (.move (.const (.int .i64 (.ofNat 0))))])
 (.seq (.ops [mv 10 0,
 ⟨(.some 11),.none,(.call (.func 61) [(.tmp 10)])⟩,
 mv 9 11,
 op 12 (.extract (.tmp 9) 0),
 op 13 (.extract (.tmp 9) 1),
 mv 4 12,
 mv 5 13])
 (.seq (.seq (.ops [mv 14 5,
 op 15 (.arith .neq (.tmp 14) (.const (.int .i64 (.ofNat 0))))])
 (.cond (.tmp 15) (.seq (.ops [mv 16 5,
 op 2 (.move (.const .nilSlice)),
 mv 3 16])
 .ret)
 .skip))
 (.seq (.ops [mv 17 4,
 op 18 (.lenRow (.tmp 17)),
 op 19 (.makeSlice 3 [(.int .i64 (.ofNat 0))] 8 (.tmp 18) (.tmp 18)),
 mv 6 19])
 (.seq (.seq (.ops [mv 20 4,
 op 21 (.lenRow (.tmp 20)),
 op 22 (.move (.const (.int .i64 (.ofNat 0))))])
 (.block 0 (.loop (.seq (.ops [op 23 (.arith .lss (.tmp 22) (.tmp 21))])
 (.seq (.cond (.tmp 23) .skip
 (.exit 0))
 (.seq (.block 1 (.seq (.ops [mv 24 22,
 op 25 (.idxRow 1 (.tmp 20) (.tmp 22)),
 op 26 (.load false 1 (.tmp 25)),
 mv 7 24,
 mv 8 26])
 (.seq (.ops [mv 27 6,
 mv 28 7,
 op 29 (.idxRow 1 (.tmp 27) (.tmp 28)),
 ⟨.none,.none,(.op (.store 1 (.tmp 29) (.const (.int .i64 (.ofNat 1)))))⟩])
 (.seq (.ops [mv 30 0,
 mv 31 8,
 op 32 (.idxRow 12 (.tmp 30) (.tmp 31)),
 op 33 (.fieldAddr 11 (.tmp 32)),
 op 34 (.load false 1 (.tmp 33)),
 op 35 (.arith .eql (.tmp 34) (.const (.int .i64 (.ofNat 2))))])
 (.cond (.tmp 35) (.ops [mv 36 6,
 mv 37 7,
 op 38 (.idxRow 1 (.tmp 36) (.tmp 37)),
 ⟨.none,.none,(.op (.store 1 (.tmp 38) (.const (.int .i64 (.negSucc 0)))))⟩])
 .skip)))))
 (.ops [op 39 (.arith .add (.tmp 22) (.const (.int .i64 (.ofNat 1)))),
 mv 22 39])))))))
 (.seq (.ops [mv 40 6,
 mv 2 40,
 op 3 (.move (.const (.int .i64 (.ofNat 0))))])
 .ret)))))), [.tmp 2, .tmp 3]⟩
def c41 : CFunc := ⟨98, (.seq (.ops [op 2 (.alloc 58 [(.int .i64 (.ofNat 0)),(.int .i64 (.ofNat 0)),(.int .i64 (.ofNat 0)),.nilSlice,(.int .i64 (.ofNat 0)),(.str []),.nilSlice,.nilSlice,(.int .i64 (.ofNat 0)),(.int .i64 (.ofNat 0)),(.int .i64 (.ofNat 0))]),
 op 3 (.move (.const (.int .i64 (.ofNat 0))))])
 (.seq (.ops [mv 6 0,
 op 7 (.build [(.str []),(.int .i64 (.ofNat 0))] [(0,1,(.tmp 6))]),
 op 8 (.box 155 (.tmp 7)),
 mv 4 8])
 (.seq (.ops [mv 9 4,
 ⟨(.some 10),.none,(.call (.func 76) [(.tmp 9),(.const (.int .i64 (.ofNat 2147483647)))])⟩,
 mv 11 4,
 ⟨(.some 12),.none,(.call (.func 76) [(.tmp 11),(.const (.int .i64 (.ofNat 2147483647)))])⟩,
 op 13 (.build [(.int .i64 (.ofNat 0)),(.int .i64 (.ofNat 0))] [(0,1,(.tmp 10)),(1,1,(.tmp 12))]),
 mv 14 4,
 ⟨(.some 15),.none,(.call (.func 76) [(.tmp 14),(.const (.int .i64 (.ofNat 2147483647)))])⟩,
 op 16 (.build [(.int .i64 (.ofNat 0)),(.int .i64 (.ofNat 0)),(.int .i64 (.ofNat 0)),.nilSlice,(.int .i64 (.ofNat 0)),(.str []),.nilSlice,.nilSlice,(.int .i64 (.ofNat 0)),(.int .i64 (.ofNat 0)),(.int .i64 (.ofNat 0))] [(0,2,(.tmp 13)),(2,1,(.tmp 15))]),
 op 5 (.alloc 58 [(.int .i64 (.ofNat 0)),(.int .i64 (.ofNat 0)),(.int .i64 (.ofNat 0)),.nilSlice,(.int .i64 (.ofNat 0)),(.str []),.nilSlice,.nilSlice,(.int .i64 (.ofNat 0)),(.int .i64 (.ofNat 0)),(.int .i64 (.ofNat 0))]),
 ⟨.none,.none,(.op (.store 11 (.tmp 5) (.tmp 16)))⟩])
 (.seq (.seq (.ops [mv 17 4,
 ⟨(.some 18),.none,(.call (.func 76) [(.tmp 17),(.const (.int .i64 (.ofNat 12)))])⟩,
 op 19 (.move (.const (.int .i64 (.ofNat 0))))])
 (.block 0 (.loop (.seq (.ops [op 20 (.arith .lss (.tmp 19) (.tmp 18))])
 (.seq (.cond (.tmp 20) .skip
 (.exit 0))
 (.seq (.block 1 (.draw [⟨op 21 (.fieldAddr 3 (.tmp 5)),0,[]⟩,
 ⟨op 22 (.load false 1 (.tmp 21)),1,[0,4,5]⟩,
 ⟨mv 23 4,0,[]⟩,
 ⟨⟨(.some 24),.none,(.call (.func 76) [(.tmp 23),(.const (.int .i64 (.ofNat 2147483647)))])⟩,2,[]⟩,
 ⟨op 25 (.buildSlice 3 [(.int .i64 (.ofNat 0))] 1 [(0,1,(.tmp 24))]),2,[]⟩,
 ⟨op 26 (.append 1 3 8 (.tmp 22) (.tmp 25)),2,[]⟩,
 ⟨op 27 (.fieldAddr 3 (.tmp 5)),0,[]⟩,
 ⟨⟨.none,.none,(.op (.store 1 (.tmp 27) (.tmp 26)))⟩,2,[]⟩]))
 (.ops [op 28 (.arith .add (.tmp 19) (.const (.int .i64 (.ofNat 1)))),
 mv 19 28])))))))
 (.seq (.ops [mv 29 4,
 ⟨(.some 30),.none,(.call (.func 76) [(.tmp 29),(.const (.int .i64 (.ofNat 2147483647)))])⟩,
 mv 31 4,
 ⟨(.some 32),.none,(.call (.func 77) [(.tmp 31)])⟩,
 op 33 (.fieldAddr 4 (.tmp 5)),
 ⟨.none,.none,(.op (.store 1 (.tmp 33) (.tmp 30)))⟩,
 op 34 (.fieldAddr 5 (.tmp 5)),
 ⟨.none,.none,(.op (.store 1 (.tmp 34) (.tmp 32)))⟩])
 (.seq (.seq (.ops [mv 35 4,
 ⟨(.some 36),.none,(.call (.func 76) [(.tmp 35),(.const (.int .i64 (.ofNat 4)))])⟩,
 op 37 (.move (.const (.int .i64 (.ofNat 0))))])
 (.block 2 (.loop (.seq (.ops [op 38 (.arith .lss (.tmp 37) (.tmp 36))])
 (.seq (.cond (.tmp 38) .skip
 (.exit 2))
 (.seq (.block 3 (.draw [⟨op 39 (.fieldAddr 6 (.tmp 5)),0,[]⟩,
 ⟨op 40 (.load false 1 (.tmp 39)),1,[0,4,5]⟩,
 ⟨mv 41 4,0,[]⟩,
 ⟨⟨(.some 42),.none,(.call (.func 77) [(.tmp 41)])⟩,2,[]⟩,
 ⟨op 43 (.buildSlice 9 [(.str [])] 1 [(0,1,(.tmp 42))]),2,[]⟩,
 ⟨op 44 (.append 1 9 16 (.tmp 40) (.tmp 43)),2,[]⟩,
 ⟨op 45 (.fieldAddr 6 (.tmp 5)),0,[]⟩,
 ⟨⟨.none,.none,(.op (.store 1 (.tmp 45) (.tmp 44)))⟩,2,[]⟩]))
 (.ops [op 46 (.arith .add (.tmp 37) (.const (.int .i64 (.ofNat 1)))),
 mv 37 46])))))))
 (.seq (.seq (.ops [mv 47 4,
 ⟨(.some 48),.none,(.call (.func 76) [(.tmp 47),(.const (.int .i64 (.ofNat 4)))])⟩,
 op 49 (.move (.const (.int .i64 (.ofNat 0))))])
 (.block 4 (.loop (.seq (.ops [op 50 (.arith .lss (.tmp 49) (.tmp 48))])
 (.seq (.cond (.tmp 50) .skip
 (.exit 4))
 (.seq (.block 5 (.draw [⟨op 51 (.fieldAddr 7 (.tmp 5)),0,[]⟩,
 ⟨op 52 (.load false 1 (.tmp 51)),1,[0,4,5]⟩,
 ⟨mv 53 4,0,[]⟩,
 ⟨⟨(.some 54),.none,(.call (.func 78) [(.tmp 53)])⟩,2,[]⟩,
 ⟨op 55 (.buildSlice 120 [(.int .i64 (.ofNat 0)),(.int .i64 (.ofNat 0)),(.bool false),.nilSlice,(.bool false),.nilSlice] 1 [(0,6,(.tmp 54))]),2,[]⟩,
 ⟨op 56 (.append 6 120 80 (.tmp 52) (.tmp 55)),2,[]⟩,
 ⟨op 57 (.fieldAddr 7 (.tmp 5)),0,[]⟩,
 ⟨⟨.none,.none,(.op (.store 1 (.tmp 57) (.tmp 56)))⟩,2,[]⟩]))
 (.ops [op 58 (.arith .add (.tmp 49) (.const (.int .i64 (.ofNat 1)))),
 mv 49 58])))))))
 (.seq (.ops [mv 59 4,
 ⟨(.some 60),.none,(.call (.func 76) [(.tmp 59),(.const (.int .i64 (.ofNat 2147483647)))])⟩,
 mv 61 4,
 ⟨(.some 62),.none,(.call (.func 76) [(.tmp 61),(.const (.int .i64 (.ofNat 2147483647)))])⟩,
 op 63 (.build [(.int .i64 (.ofNat 0)),(.int .i64 (.ofNat 0))] [(0,1,(.tmp 60)),(1,1,(.tmp 62))]),
 op 64 (.fieldAddr 8 (.tmp 5)),
 ⟨.none,.none,(.op (.store 2 (.tmp 64) (.tmp 63)))⟩])
 (.seq (.ops [mv 65 4,
 ⟨(.some 66),.none,(.call (.func 76) [(.tmp 65),(.const (.int .i64 (.ofNat 2147483647)))])⟩,
 op 67 (.fieldAddr 10 (.tmp 5)),
 ⟨.none,.none,(.op (.store 1 (.tmp 67) (.tmp 66)))⟩])
 (.seq (.seq (.ops [mv 68 4,
 op 69 (.nilCheck (.tmp 68)),
 op 70 (.fieldAddr 1 (.tmp 69)),
 op 71 (.load false 1 (.tmp 70)),
 op 72 (.arith .eql (.tmp 71) (.const (.int .i64 (.ofNat 0)))),
 mv 73 72,
 ⟨(.some 74),(.some (73,true)),(.op (.move (.tmp 4)))⟩,
 ⟨(.some 75),(.some (73,true)),(.op (.nilCheck (.tmp 74)))⟩,
 ⟨(.some 76),(.some (73,true)),(.op (.fieldAddr 0 (.tmp 75)))⟩,
 ⟨(.some 77),(.some (73,true)),(.op (.load false 1 (.tmp 76)))⟩,
 ⟨(.some 78),(.some (73,true)),(.op (.arith .neq (.tmp 77) (.const (.str []))))⟩,
 ⟨(.some 79),(.some (73,true)),(.op (.move (.tmp 78)))⟩,
 ⟨(.some 80),(.some (79,false)),(.op (.load true 11 (.tmp 5)))⟩,
 ⟨(.some 81),(.some (79,false)),(.call (.func 50) [(.tmp 80)])⟩,
 ⟨(.some 82),(.some (79,false)),(.op (.un .not (.tmp 81)))⟩,
 ⟨(.some 83),(.some (73,true)),(.op (.pick (.tmp 79) (.const (.bool true)) (.tmp 82)))⟩,
 op 84 (.pick (.tmp 73) (.tmp 83) (.const (.bool false)))])
 (.cond (.tmp 84) (.ops [mv 85 4,
 ⟨(.some 86),.none,(.call (.func 79) [(.tmp 85),(.const (.int .i64 (.ofNat 3)))])⟩])
 .skip))
 (.seq (.seq (.ops [mv 87 4,
 op 88 (.nilCheck (.tmp 87)),
 op 89 (.fieldAddr 1 (.tmp 88)),
 op 90 (.load false 1 (.tmp 89)),
 op 91 (.arith .neq (.tmp 90) (.const (.int .i64 (.ofNat 0))))])
 (.cond (.tmp 91) (.seq (.draw [⟨op 92 (.build [(.int .i64 (.ofNat 0)),(.int .i64 (.ofNat 0)),(.int .i64 (.ofNat 0)),.nilSlice,(.int .i64 (.ofNat 0)),(.str []),.nilSlice,.nilSlice,(.int .i64 (.ofNat 0)),(.int .i64 (.ofNat 0)),(.int .i64 (.ofNat 0))] []),0,[]⟩,
 ⟨mv 93 4,0,[]⟩,
 ⟨op 94 (.nilCheck (.tmp 93)),0,[]⟩,
 ⟨op 95 (.fieldAddr 1 (.tmp 94)),0,[]⟩,
 ⟨op 96 (.load false 1 (.tmp 95)),1,[0,6]⟩,
 ⟨⟨.none,.none,(.op (.store 11 (.tmp 2) (.tmp 92)))⟩,2,[]⟩,
 ⟨mv 3 96,0,[]⟩])
 .ret)
 .skip))
 (.seq (.ops [op 97 (.load true 11 (.tmp 5)),
 ⟨.none,.none,(.op (.store 11 (.tmp 2) (.tmp 97)))⟩,
 op 3 (.move (.const (.int .i64 (.ofNat 0))))])
 .ret)))))))))))), [.cell true 11 2, .tmp 3]⟩
def c42 : CFunc := ⟨48, (.seq (.ops [op 4 (.move (.const (.str [])))])
 (.seq (.seq (.ops [mv 9 0,
 op 10 (.nilCheck (.tmp 9)),
 op 11 (.fieldAddr 0 (.tmp 10)),
 op 12 (.load false 1 (.tmp 11)),
 op 13 (.lenRow (.tmp 12)),
 op 14 (.move (.const (.int .i64 (.ofNat 0))))])
 (.block 0 (.loop (.seq (.ops [op 15 (.arith .lss (.tmp 14) (.tmp 13))])
 (.seq (.cond (.tmp 15) .skip
 (.exit 0))
 (.seq (.block 1 (.seq (.ops [op 16 (.idxRow 1 (.tmp 12) (.tmp 14)),
 op 17 (.load false 1 (.tmp 16)),
 mv 6 17])
 (.ops [mv 18 4,
 mv 19 6,
 op 20 (.arith .add (.tmp 19) (.const (.str [10]))),
 op 21 (.arith .add (.tmp 18) (.tmp 20)),
 mv 4 21])))
 (.ops [op 22 (.arith .add (.tmp 14) (.const (.int .i64 (.ofNat 1)))),
 mv 14 22])))))))
 (.seq (.ops [mv 24 4,
 mv 25 1,
 op 26 (.arith .add (.tmp 24) (.tmp 25)),
 op 27 (.arith .add (.tmp 26) (.const (.str [10]))),
 ⟨(.some 28),.none,(.call (.func 80) [(.tmp 27)])⟩,
 mv 23 28,
 op 29 (.extract (.tmp 23) 0),
 op 30 (.extract (.tmp 23) 1),
 op 8 (.alloc 160 [(.int .i64 (.ofNat 0)),(.int .i64 (.ofNat 0))]),
 mv 7 29,
 ⟨.none,.none,(.op (.store 2 (.tmp 8) (.tmp 30)))⟩])
 (.seq (.ops [op 31 (.fieldAddr 0 (.tmp 8)),
 op 32 (.load false 1 (.tmp 31)),
 op 33 (.arith .eql (.tmp 32) (.const (.int .i64 (.ofNat 0))))])
 (.cond (.tmp 33) (.seq (.ops [mv 34 0,
 mv 35 0,
 op 36 (.nilCheck (.tmp 35)),
 op 37 (.fieldAddr 0 (.tmp 36)),
 op 38 (.load false 1 (.tmp 37)),
 mv 39 1,
 op 40 (.buildSlice 9 [(.str [])] 1 [(0,1,(.tmp 39))]),
 op 41 (.append 1 9 16 (.tmp 38) (.tmp 40)),
 op 42 (.nilCheck (.tmp 34)),
 op 43 (.fieldAddr 0 (.tmp 42)),
 ⟨.none,.none,(.op (.store 1 (.tmp 43) (.tmp 41)))⟩])
 (.ops [mv 44 0,
 mv 45 7,
 op 46 (.nilCheck (.tmp 44)),
 op 47 (.fieldAddr 1 (.tmp 46)),
 ⟨.none,.none,(.op (.store 1 (.tmp 47) (.tmp 45)))⟩]))
 .skip))))), []⟩
def c44 : CFunc := ⟨28, (.seq (.ops [mv 4 0,
 op 5 (.lenRow (.tmp 4)),
 op 6 (.arith .sub (.tmp 5) (.const (.int .i64 (.ofNat 1)))),
 op 2 (.move (.const (.int .i64 (.ofNat 0)))),
 mv 3 6])
 (.block 0 (.loop (.seq (.seq (.ops [mv 7 2,
 mv 8 3,
 op 9 (.arith .lss (.tmp 7) (.tmp 8))])
 (.cond (.tmp 9) .skip
 (.exit 0)))
 (.seq (.block 1 (.draw [⟨mv 14 0,0,[]⟩,
 ⟨mv 15 2,0,[]⟩,
 ⟨mv 16 0,0,[]⟩,
 ⟨mv 17 3,0,[]⟩,
 ⟨mv 18 0,0,[]⟩,
 ⟨mv 19 3,0,[]⟩,
 ⟨op 20 (.idxRow 11 (.tmp 18) (.tmp 19)),0,[]⟩,
 ⟨op 21 (.load true 11 (.tmp 20)),1,[0]⟩,
 ⟨mv 22 0,0,[]⟩,
 ⟨mv 23 2,0,[]⟩,
 ⟨op 24 (.idxRow 11 (.tmp 22) (.tmp 23)),0,[]⟩,
 ⟨op 25 (.load true 11 (.tmp 24)),1,[0]⟩,
 ⟨op 26 (.idxRow 11 (.tmp 14) (.tmp 15)),0,[]⟩,
 ⟨⟨.none,.none,(.op (.store 11 (.tmp 26) (.tmp 21)))⟩,2,[]⟩,
 ⟨op 27 (.idxRow 11 (.tmp 16) (.tmp 17)),0,[]⟩,
 ⟨⟨.none,.none,(.op (.store 11 (.tmp 27) (.tmp 25)))⟩,2,[]⟩]))
 (.ops [mv 10 2,
 op 11 (.arith .add (.tmp 10) (.const (.int .i64 (.ofNat 1)))),
 mv 12 3,
 op 13 (.arith .sub (.tmp 12) (.const (.int .i64 (.ofNat 1)))),
 mv 2 11,
 mv 3 13])))))), []⟩
def c45 : CFunc := ⟨36, (.seq (.ops [op 4 (.move (.const (.str [])))])
 (.seq (.ops [mv 11 0,
 ⟨(.some 12),.none,(.call (.func 86) [(.tmp 11)])⟩,
 mv 10 12,
 op 13 (.extract (.tmp 10) 0),
 op 14 (.extract (.tmp 10) 1),
 op 5 (.alloc 171 [(.int .u64 (.ofNat 0)),(.int .u64 (.ofNat 0))]),
 ⟨.none,.none,(.op (.store 2 (.tmp 5) (.tmp 13)))⟩,
 mv 6 14])
 (.seq (.ops [op 15 (.load true 2 (.tmp 5)),
 mv 16 1,
 op 17 (.strToBytes 5 (.tmp 16)),
 ⟨(.some 18),.none,(.call (.func 87) [(.tmp 15),(.tmp 17)])⟩,
 mv 7 18])
 (.seq (.ops [op 19 (.makeSlice 5 [(.int .u8 (.ofNat 0))] 1 (.const (.int .i64 (.ofNat 8))) (.const (.int .i64 (.ofNat 8)))),
 mv 8 19])
 (.seq (.seq (.ops [mv 20 8,
 op 21 (.lenRow (.tmp 20)),
 op 22 (.move (.const (.int .i64 (.ofNat 0))))])
 (.block 0 (.loop (.seq (.ops [op 23 (.arith .lss (.tmp 22) (.tmp 21))])
 (.seq (.cond (.tmp 23) .skip
 (.exit 0))
 (.seq (.block 1 (.seq (.ops [mv 24 22,
 mv 9 24])
 (.ops [mv 25 8,
 mv 26 9,
 mv 27 7,
 mv 28 9,
 op 29 (.arith .mul (.const (.int .i64 (.ofNat 8))) (.tmp 28)),
 op 30 (.arith .shr (.tmp 27) (.tmp 29)),
 op 31 (.toInt .u8 (.tmp 30)),
 op 32 (.idxRow 1 (.tmp 25) (.tmp 26)),
 ⟨.none,.none,(.op (.store 1 (.tmp 32) (.tmp 31)))⟩])))
 (.ops [op 33 (.arith .add (.tmp 22) (.const (.int .i64 (.ofNat 1)))),
 mv 22 33])))))))
 (.seq (.ops [mv 34 8,
 op 35 (.bytesToStr (.tmp 34)),
 mv 4 35])
 .ret)))))), [.tmp 4]⟩
def c47 : CFunc := ⟨47, (.seq (.ops [op 3 (.box 58 (.tmp 1)),
 op 4 (.move (.const (.bool false)))])
 (.seq (.ops [mv 8 0,
 ⟨(.some 9),.none,(.call (.func 14) [(.tmp 8)])⟩,
 mv 5 9])
 (.seq (.seq (.draw [⟨mv 10 5,0,[]⟩,
 ⟨op 11 (.fieldAddr 0 (.tmp 3)),0,[]⟩,
 ⟨op 12 (.fieldAddr 0 (.tmp 11)),0,[]⟩,
 ⟨op 13 (.load false 1 (.tmp 12)),1,[0]⟩,
 ⟨op 14 (.arith .sub (.tmp 13) (.const (.int .i64 (.ofNat 1)))),0,[]⟩,
 ⟨op 15 (.idxRow 1 (.tmp 10) (.tmp 14)),0,[]⟩,
 ⟨op 16 (.load false 1 (.tmp 15)),1,[0]⟩,
 ⟨op 17 (.arith .add (.tmp 16) (.const (.int .i64 (.ofNat 1)))),0,[]⟩,
 ⟨op 18 (.fieldAddr 0 (.tmp 3)),0,[]⟩,
 ⟨op 19 (.fieldAddr 1 (.tmp 18)),0,[]⟩,
 ⟨op 20 (.load false 1 (.tmp 19)),1,[0]⟩,
 ⟨op 21 (.arith .neq (.tmp 17) (.tmp 20)),0,[]⟩])
 (.cond (.tmp 21) (.seq (.ops [op 4 (.move (.const (.bool false)))])
 .ret)
 .skip))
 (.seq (.seq (.ops [op 22 (.fieldAddr 3 (.tmp 3)),
 op 23 (.load false 1 (.tmp 22)),
 op 24 (.lenRow (.tmp 23)),
 op 25 (.move (.const (.int .i64 (.ofNat 0))))])
 (.block 0 (.loop (.seq (.ops [op 26 (.arith .lss (.tmp 25) (.tmp 24))])
 (.seq (.cond (.tmp 26) .skip
 (.exit 0))
 (.seq (.block 1 (.seq (.ops [mv 27 25,
 op 28 (.idxRow 1 (.tmp 23) (.tmp 25)),
 op 29 (.load false 1 (.tmp 28)),
 mv 6 27,
 mv 7 29])
 (.seq (.ops [mv 30 7,
 op 31 (.arith .gtr (.tmp 30) (.const (.int .i64 (.ofNat 0)))),
 mv 32 31,
 ⟨(.some 33),(.some (32,true)),(.op (.move (.tmp 6)))⟩,
 ⟨(.some 34),(.some (32,true)),(.op (.move (.tmp 5)))⟩,
 ⟨(.some 35),(.some (32,true)),(.op (.lenRow (.tmp 34)))⟩,
 ⟨(.some 36),(.some (32,true)),(.op (.arith .geq (.tmp 33) (.tmp 35)))⟩,
 ⟨(.some 37),(.some (32,true)),(.op (.move (.tmp 36)))⟩,
 ⟨(.some 38),(.some (37,false)),(.op (.move (.tmp 7)))⟩,
 ⟨(.some 39),(.some (37,false)),(.op (.move (.tmp 5)))⟩,
 ⟨(.some 40),(.some (37,false)),(.op (.move (.tmp 6)))⟩,
 ⟨(.some 41),(.some (37,false)),(.op (.idxRow 1 (.tmp 39) (.tmp 40)))⟩,
 ⟨(.some 42),(.some (37,false)),(.op (.load false 1 (.tmp 41)))⟩,
 ⟨(.some 43),(.some (37,false)),(.op (.arith .gtr (.tmp 38) (.tmp 42)))⟩,
 ⟨(.some 44),(.some (32,true)),(.op (.pick (.tmp 37) (.const (.bool true)) (.tmp 43)))⟩,
 op 45 (.pick (.tmp 32) (.tmp 44) (.const (.bool false)))])
 (.cond (.tmp 45) (.seq (.ops [op 4 (.move (.const (.bool false)))])
 .ret)
 .skip))))
 (.ops [op 46 (.arith .add (.tmp 25) (.const (.int .i64 (.ofNat 1)))),
 mv 25 46])))))))
 (.seq (.ops [op 4 (.move (.const (.bool true)))])
 .ret))))), [.tmp 4]⟩
def c48 : CFunc := ⟨33, (.seq (.ops [op 6 (.move (.const .nilSlice))])
 (.seq (.ops [mv 8 0,
 mv 9 1,
 mv 10 2,
 mv 11 0,
 op 12 (.lenRow (.tmp 11)),
 op 13 (.slice (.row 11) (.tmp 8) (.some (.tmp 9)) (.some (.tmp 10)) (.some (.tmp 12)))])
 (.seq (.seq (.ops [mv 14 1,
 mv 15 2,
 op 16 (.arith .eql (.tmp 14) (.tmp 15))])
 (.cond (.tmp 16) (.seq (.ops [mv 17 0,
 mv 6 17])
 .ret)
 .skip))
 (.seq (.ops [mv 18 0,
 op 19 (.lenRow (.tmp 18)),
 mv 7 19])
 (.seq (.draw [⟨mv 20 0,0,[]⟩,
 ⟨mv 21 1,0,[]⟩,
 ⟨op 22 (.slice (.row 11) (.tmp 20) .none (.some (.tmp 21)) .none),0,[]⟩,
 ⟨mv 23 0,0,[]⟩,
 ⟨mv 24 2,0,[]⟩,
 ⟨op 25 (.slice (.row 11) (.tmp 23) (.some (.tmp 24)) .none .none),0,[]⟩,
 ⟨op 26 (.append 11 58 144 (.tmp 22) (.tmp 25)),2,[]⟩,
 ⟨mv 0 26,0,[]⟩])
 (.seq (.ops [mv 27 0,
 mv 28 0,
 op 29 (.lenRow (.tmp 28)),
 mv 30 7,
 op 31 (.slice (.row 11) (.tmp 27) (.some (.tmp 29)) (.some (.tmp 30)) .none),
 ⟨.none,.none,(.op (.clear [(.int .i64 (.ofNat 0)),(.int .i64 (.ofNat 0)),(.int .i64 (.ofNat 0)),.nilSlice,(.int .i64 (.ofNat 0)),(.str []),.nilSlice,.nilSlice,(.int .i64 (.ofNat 0)),(.int .i64 (.ofNat 0)),(.int .i64 (.ofNat 0))] (.tmp 31)))⟩])
 (.seq (.ops [mv 32 0,
 mv 6 32])
 .ret))))))), [.tmp 6]⟩
def c49 : CFunc := ⟨11, (.seq (.ops [op 3 (.box 58 (.tmp 1)),
 op 4 (.move (.const (.bool false)))])
 (.seq (.ops [mv 5 0,
 op 6 (.nilCheck (.tmp 5)),
 op 7 (.fieldAddr 3 (.tmp 6)),
 op 8 (.load false 1 (.tmp 7)),
 op 9 (.makeFunc 90 [] [(.tmp 3)]),
 ⟨(.some 10),.none,(.call (.func 89) [(.tmp 8),(.tmp 9)])⟩,
 mv 4 10])
 .ret)), [.tmp 4]⟩
def c50 : CFunc := ⟨66, (.seq (.ops [op 1 (.box 58 (.tmp 0)),
 op 2 (.move (.const (.bool false)))])
 (.seq (.block 0 (.seq (.seq (.ops [op 4 (.fieldAddr 0 (.tmp 1)),
 op 5 (.fieldAddr 0 (.tmp 4)),
 op 6 (.load false 1 (.tmp 5)),
 ⟨(.some 7),.none,(.call (.func 67) [(.const (.int .i64 (.ofNat 1))),(.tmp 6),(.const (.int .i64 (.ofNat 12)))])⟩,
 op 8 (.un .not (.tmp 7)),
 mv 3 8])
 (.cond (.tmp 3) .skip
 (.seq (.ops [op 9 (.fieldAddr 0 (.tmp 1)),
 op 10 (.fieldAddr 1 (.tmp 9)),
 op 11 (.load false 1 (.tmp 10)),
 ⟨(.some 12),.none,(.call (.func 67) [(.const (.int .i64 (.ofNat 1))),(.tmp 11),(.const (.int .i64 (.ofNat 65535)))])⟩,
 op 13 (.un .not (.tmp 12)),
 mv 3 13])
 (.cond (.tmp 3) .skip
 (.ops [op 14 (.fieldAddr 2 (.tmp 1)),
 op 15 (.load false 1 (.tmp 14)),
 ⟨(.some 16),.none,(.call (.func 67) [(.const (.int .i64 (.ofNat 1))),(.tmp 15),(.const (.int .i64 (.ofNat 2147483647)))])⟩,
 op 17 (.un .not (.tmp 16)),
 mv 3 17])))))
 (.cond (.tmp 3) (.seq (.ops [op 2 (.move (.const (.bool false)))])
 .ret)
 (.seq (.seq (.ops [op 19 (.fieldAddr 3 (.tmp 1)),
 op 20 (.load false 1 (.tmp 19)),
 op 21 (.lenRow (.tmp 20)),
 op 22 (.arith .gtr (.tmp 21) (.const (.int .i64 (.ofNat 12)))),
 mv 18 22])
 (.cond (.tmp 18) .skip
 (.seq (.ops [op 23 (.fieldAddr 5 (.tmp 1)),
 op 24 (.load false 1 (.tmp 23)),
 op 25 (.lenStr (.tmp 24)),
 op 26 (.arith .gtr (.tmp 25) (.const (.int .i64 (.ofNat 200)))),
 mv 18 26])
 (.cond (.tmp 18) .skip
 (.ops [op 27 (.fieldAddr 6 (.tmp 1)),
 op 28 (.load false 1 (.tmp 27)),
 op 29 (.lenRow (.tmp 28)),
 op 30 (.fieldAddr 7 (.tmp 1)),
 op 31 (.load false 1 (.tmp 30)),
 op 32 (.lenRow (.tmp 31)),
 op 33 (.minmax true (.tmp 29) (.tmp 32)),
 op 34 (.arith .gtr (.tmp 33) (.const (.int .i64 (.ofNat 4)))),
 mv 18 34])))))
 (.cond (.tmp 18) (.seq (.ops [op 2 (.move (.const (.bool false)))])
 .ret)
 (.seq (.seq (.ops [op 36 (.fieldAddr 4 (.tmp 1)),
 op 37 (.load false 1 (.tmp 36)),
 ⟨(.some 38),.none,(.call (.func 67) [(.const (.int .i64 (.ofNat 1))),(.tmp 37),(.const (.int .i64 (.ofNat 5)))])⟩,
 op 39 (.un .not (.tmp 38)),
 mv 35 39])
 (.cond (.tmp 35) .skip
 (.seq (.ops [op 40 (.fieldAddr 8 (.tmp 1)),
 op 41 (.fieldAddr 0 (.tmp 40)),
 op 42 (.load false 1 (.tmp 41)),
 ⟨(.some 43),.none,(.call (.func 67) [(.const (.int .i64 (.ofNat 0))),(.tmp 42),(.const (.int .i64 (.ofNat 12)))])⟩,
 op 44 (.un .not (.tmp 43)),
 mv 35 44])
 (.cond (.tmp 35) .skip
 (.seq (.ops [op 45 (.fieldAddr 8 (.tmp 1)),
 op 46 (.fieldAddr 1 (.tmp 45)),
 op 47 (.load false 1 (.tmp 46)),
 ⟨(.some 48),.none,(.call (.func 67) [(.const (.int .i64 (.ofNat 0))),(.tmp 47),(.const (.int .i64 (.ofNat 65535)))])⟩,
 op 49 (.un .not (.tmp 48)),
 mv 35 49])
 (.cond (.tmp 35) .skip
 (.ops [op 50 (.fieldAddr 10 (.tmp 1)),
 op 51 (.load false 1 (.tmp 50)),
 ⟨(.some 52),.none,(.call (.func 67) [(.const (.int .i64 (.ofNat 0))),(.tmp 51),(.const (.int .i64 (.ofNat 1)))])⟩,
 op 53 (.un .not (.tmp 52)),
 mv 35 53])))))))
 (.cond (.tmp 35) (.seq (.ops [op 2 (.move (.const (.bool false)))])
 .ret)
 (.seq (.ops [op 55 (.fieldAddr 3 (.tmp 1)),
 op 56 (.load false 1 (.tmp 55)),
 ⟨(.some 57),.none,(.call (.func 91) [(.tmp 56),(.func 92)])⟩,
 mv 54 57])
 (.cond (.tmp 54) (.seq (.ops [op 2 (.move (.const (.bool false)))])
 .ret)
 (.seq (.ops [op 59 (.fieldAddr 6 (.tmp 1)),
 op 60 (.load false 1 (.tmp 59)),
 ⟨(.some 61),.none,(.call (.func 93) [(.tmp 60),(.func 94)])⟩,
 mv 58 61])
 (.cond (.tmp 58) (.seq (.ops [op 2 (.move (.const (.bool false)))])
 .ret)
 .skip)))))))))))
 (.seq (.ops [op 62 (.fieldAddr 7 (.tmp 1)),
 op 63 (.load false 1 (.tmp 62)),
 ⟨(.some 64),.none,(.call (.func 68) [(.tmp 63),(.func 95)])⟩,
 op 65 (.un .not (.tmp 64)),
 mv 2 65])
 .ret))), [.tmp 2]⟩
def c51 : CFunc := ⟨21, (.seq (.block 0 (.loop (.seq (.seq (.ops [mv 4 1,
 op 5 (.arith .geq (.tmp 4) (.const (.int .i64 (.ofNat 128))))])
 (.cond (.tmp 5) .skip
 (.exit 0)))
 (.seq (.block 1 (.ops [mv 8 0,
 op 9 (.nilCheck (.tmp 8)),
 op 10 (.fieldAddr 0 (.tmp 9)),
 mv 11 1,
 op 12 (.toInt .u8 (.tmp 11)),
 op 13 (.arith .or (.tmp 12) (.const (.int .u8 (.ofNat 128)))),
 ⟨(.some 14),.none,(.call (.func 96) [(.tmp 10),(.tmp 13)])⟩]))
 (.ops [mv 6 1,
 op 7 (.arith .shr (.tmp 6) (.const (.int .u64 (.ofNat 7)))),
 mv 1 7])))))
 (.ops [mv 15 0,
 op 16 (.nilCheck (.tmp 15)),
 op 17 (.fieldAddr 0 (.tmp 16)),
 mv 18 1,
 op 19 (.toInt .u8 (.tmp 18)),
 ⟨(.some 20),.none,(.call (.func 96) [(.tmp 17),(.tmp 19)])⟩])), []⟩
def c52 : CFunc := ⟨13, (.seq (.ops [mv 4 0,
 mv 5 1,
 op 6 (.lenStr (.tmp 5)),
 ⟨(.some 7),.none,(.call (.func 51) [(.tmp 4),(.tmp 6)])⟩])
 (.ops [mv 8 0,
 op 9 (.nilCheck (.tmp 8)),
 op 10 (.fieldAddr 0 (.tmp 9)),
 mv 11 1,
 ⟨(.some 12),.none,(.call (.func 97) [(.tmp 10),(.tmp 11)])⟩])), []⟩
def c54 : CFunc := ⟨14, (.seq (.ops [op 2 (.move (.const (.str [])))])
 (.seq (.draw [⟨mv 3 0,0,[]⟩,
 ⟨op 4 (.nilCheck (.tmp 3)),0,[]⟩,
 ⟨op 5 (.fieldAddr 1 (.tmp 4)),0,[]⟩,
 ⟨op 6 (.load false 1 (.tmp 5)),1,[0]⟩,
 ⟨op 7 (.sliceData (.tmp 6)),0,[]⟩,
 ⟨mv 8 0,0,[]⟩,
 ⟨op 9 (.nilCheck (.tmp 8)),0,[]⟩,
 ⟨op 10 (.fieldAddr 1 (.tmp 9)),0,[]⟩,
 ⟨op 11 (.load false 1 (.tmp 10)),1,[0]⟩,
 ⟨op 12 (.lenRow (.tmp 11)),0,[]⟩,
 ⟨op 13 (.unsafeStr 5 (.tmp 7) (.tmp 12)),2,[]⟩,
 ⟨mv 2 13,0,[]⟩])
 .ret)), [.tmp 2]⟩
def c55 : CFunc := ⟨49, (.seq (.ops [op 4 (.box 58 (.tmp 1)),
 op 6 (.move (.const (.int .i64 (.ofNat 0)))),
 op 7 (.move (.const (.bool false)))])
 (.seq (.ops [mv 12 0,
 op 13 (.lenRow (.tmp 12)),
 mv 8 13])
 (.seq (.ops [mv 14 8,
 op 9 (.move (.const (.int .i64 (.ofNat 0)))),
 mv 10 14])
 (.seq (.block 0 (.loop (.seq (.seq (.ops [mv 15 9,
 mv 16 10,
 op 17 (.arith .lss (.tmp 15) (.tmp 16))])
 (.cond (.tmp 17) .skip
 (.exit 0)))
 (.block 1 (.seq (.ops [mv 18 9,
 mv 19 10,
 op 20 (.arith .add (.tmp 18) (.tmp 19)),
 op 21 (.toInt .u64 (.tmp 20)),
 op 22 (.arith .shr (.tmp 21) (.const (.int .u64 (.ofNat 1)))),
 op 23 (.toInt .i64 (.tmp 22)),
 mv 11 23])
 (.seq (.draw [⟨mv 24 2,0,[]⟩,
 ⟨mv 25 0,0,[]⟩,
 ⟨mv 26 11,0,[]⟩,
 ⟨op 27 (.idxRow 11 (.tmp 25) (.tmp 26)),0,[]⟩,
 ⟨op 28 (.load true 11 (.tmp 27)),1,[0]⟩,
 ⟨op 29 (.load true 11 (.tmp 4)),1,[0]⟩,
 ⟨⟨(.some 30),.none,(.call (.tmp 24) [(.tmp 28),(.tmp 29)])⟩,2,[]⟩,
 ⟨op 31 (.arith .lss (.tmp 30) (.const (.int .i64 (.ofNat 0)))),0,[]⟩])
 (.cond (.tmp 31) (.ops [mv 32 11,
 op 33 (.arith .add (.tmp 32) (.const (.int .i64 (.ofNat 1)))),
 mv 9 33])
 (.ops [mv 34 11,
 mv 10 34]))))))))
 (.seq (.draw [⟨mv 35 9,0,[]⟩,
 ⟨mv 36 9,0,[]⟩,
 ⟨mv 37 8,0,[]⟩,
 ⟨op 38 (.arith .lss (.tmp 36) (.tmp 37)),0,[]⟩,
 ⟨mv 39 38,0,[]⟩,
 ⟨⟨(.some 40),(.some (39,true)),(.op (.move (.tmp 2)))⟩,0,[]⟩,
 ⟨⟨(.some 41),(.some (39,true)),(.op (.move (.tmp 0)))⟩,0,[]⟩,
 ⟨⟨(.some 42),(.some (39,true)),(.op (.move (.tmp 9)))⟩,0,[]⟩,
 ⟨⟨(.some 43),(.some (39,true)),(.op (.idxRow 11 (.tmp 41) (.tmp 42)))⟩,0,[]⟩,
 ⟨⟨(.some 44),(.some (39,true)),(.op (.load true 11 (.tmp 43)))⟩,1,[0]⟩,
 ⟨⟨(.some 45),(.some (39,true)),(.op (.load true 11 (.tmp 4)))⟩,1,[0]⟩,
 ⟨⟨(.some 46),(.some (39,true)),(.call (.tmp 40) [(.tmp 44),(.tmp 45)])⟩,2,[]⟩,
 ⟨⟨(.some 47),(.some (39,true)),(.op (.arith .eql (.tmp 46) (.const (.int .i64 (.ofNat 0)))))⟩,0,[]⟩,
 ⟨op 48 (.pick (.tmp 39) (.tmp 47) (.const (.bool false))),0,[]⟩,
 ⟨mv 6 35,0,[]⟩,
 ⟨mv 7 48,0,[]⟩])
 .ret))))), [.tmp 6, .tmp 7]⟩
def c56 : CFunc := ⟨13, (.seq (.ops [op 2 (.box 58 (.tmp 0)),
 op 3 (.box 58 (.tmp 1)),
 op 4 (.move (.const (.int .i64 (.ofNat 0))))])
 (.seq (.block 0 (.seq (.ops [op 6 (.load true 11 (.tmp 2)),
 op 7 (.load true 11 (.tmp 3)),
 ⟨(.some 8),.none,(.call (.func 99) [(.tmp 6),(.tmp 7)])⟩,
 mv 5 8])
 (.cond (.tmp 5) (.seq (.ops [op 4 (.move (.const (.int .i64 (.negSucc 0))))])
 .ret)
 (.seq (.ops [op 10 (.load true 11 (.tmp 3)),
 op 11 (.load true 11 (.tmp 2)),
 ⟨(.some 12),.none,(.call (.func 99) [(.tmp 10),(.tmp 11)])⟩,
 mv 9 12])
 (.cond (.tmp 9) (.seq (.ops [op 4 (.move (.const (.int .i64 (.ofNat 1))))])
 .ret)
 .skip)))))
 (.seq (.ops [op 4 (.move (.const (.int .i64 (.ofNat 0))))])
 .ret))), [.tmp 4]⟩
def c57 : CFunc := ⟨95, (.seq (.ops [op 6 (.move (.const .nilSlice))])
 (.seq (.ops [mv 10 0,
 mv 11 1,
 op 12 (.slice (.row 11) (.tmp 10) (.some (.tmp 11)) .none .none)])
 (.seq (.ops [mv 13 2,
 op 14 (.lenRow (.tmp 13)),
 mv 7 14])
 (.seq (.seq (.ops [mv 15 7,
 op 16 (.arith .eql (.tmp 15) (.const (.int .i64 (.ofNat 0))))])
 (.cond (.tmp 16) (.seq (.ops [mv 17 0,
 mv 6 17])
 .ret)
 .skip))
 (.seq (.ops [mv 18 0,
 op 19 (.lenRow (.tmp 18)),
 mv 8 19])
 (.seq (.seq (.ops [mv 20 1,
 mv 21 8,
 op 22 (.arith .eql (.tmp 20) (.tmp 21))])
 (.cond (.tmp 22) (.seq (.ops [mv 23 0,
 mv 24 2,
 op 25 (.append 11 58 144 (.tmp 23) (.tmp 24)),
 mv 6 25])
 .ret)
 .skip))
 (.seq (.seq (.ops [mv 26 8,
 mv 27 7,
 op 28 (.arith .add (.tmp 26) (.tmp 27)),
 mv 29 0,
 op 30 (.capRow (.tmp 29)),
 op 31 (.arith .gtr (.tmp 28) (.tmp 30))])
 (.cond (.tmp 31) (.seq (.ops [mv 32 0,
 mv 33 1,
 op 34 (.slice (.row 11) (.tmp 32) .none (.some (.tmp 33)) .none),
 mv 35 8,
 mv 36 7,
 op 37 (.arith .add (.tmp 35) (.tmp 36)),
 mv 38 1,
 op 39 (.arith .sub (.tmp 37) (.tmp 38)),
 op 40 (.appendZ 11 58 144 [(.int .i64 (.ofNat 0)),(.int .i64 (.ofNat 0)),(.int .i64 (.ofNat 0)),.nilSlice,(.int .i64 (.ofNat 0)),(.str []),.nilSlice,.nilSlice,(.int .i64 (.ofNat 0)),(.int .i64 (.ofNat 0)),(.int .i64 (.ofNat 0))] (.tmp 34) (.tmp 39)),
 mv 9 40])
 (.seq (.ops [mv 41 9,
 mv 42 1,
 op 43 (.slice (.row 11) (.tmp 41) (.some (.tmp 42)) .none .none),
 mv 44 2,
 op 45 (.copy 11 (.tmp 43) (.tmp 44))])
 (.seq (.draw [⟨mv 46 9,0,[]⟩,
 ⟨mv 47 1,0,[]⟩,
 ⟨mv 48 7,0,[]⟩,
 ⟨op 49 (.arith .add (.tmp 47) (.tmp 48)),0,[]⟩,
 ⟨op 50 (.slice (.row 11) (.tmp 46) (.some (.tmp 49)) .none .none),0,[]⟩,
 ⟨mv 51 0,0,[]⟩,
 ⟨mv 52 1,0,[]⟩,
 ⟨op 53 (.slice (.row 11) (.tmp 51) (.some (.tmp 52)) .none .none),0,[]⟩,
 ⟨op 54 (.copy 11 (.tmp 50) (.tmp 53)),2,[]⟩])
 (.seq (.ops [mv 55 9,
 mv 6 55])
 .ret))))
 .skip))
 (.seq (.ops [mv 56 0,
 mv 57 8,
 mv 58 7,
 op 59 (.arith .add (.tmp 57) (.tmp 58)),
 op 60 (.slice (.row 11) (.tmp 56) .none (.some (.tmp 59)) .none),
 mv 0 60])
 (.seq (.seq (.ops [mv 61 2,
 mv 62 0,
 mv 63 1,
 mv 64 7,
 op 65 (.arith .add (.tmp 63) (.tmp 64)),
 op 66 (.slice (.row 11) (.tmp 62) (.some (.tmp 65)) .none .none),
 op 67 (.overlaps 58 (.tmp 61) (.tmp 66)),
 op 68 (.un .not (.tmp 67))])
 (.cond (.tmp 68) (.seq (.draw [⟨mv 69 0,0,[]⟩,
 ⟨mv 70 1,0,[]⟩,
 ⟨mv 71 7,0,[]⟩,
 ⟨op 72 (.arith .add (.tmp 70) (.tmp 71)),0,[]⟩,
 ⟨op 73 (.slice (.row 11) (.tmp 69) (.some (.tmp 72)) .none .none),0,[]⟩,
 ⟨mv 74 0,0,[]⟩,
 ⟨mv 75 1,0,[]⟩,
 ⟨op 76 (.slice (.row 11) (.tmp 74) (.some (.tmp 75)) .none .none),0,[]⟩,
 ⟨op 77 (.copy 11 (.tmp 73) (.tmp 76)),2,[]⟩])
 (.seq (.ops [mv 78 0,
 mv 79 1,
 op 80 (.slice (.row 11) (.tmp 78) (.some (.tmp 79)) .none .none),
 mv 81 2,
 op 82 (.copy 11 (.tmp 80) (.tmp 81))])
 (.seq (.ops [mv 83 0,
 mv 6 83])
 .ret)))
 .skip))
 (.seq (.ops [mv 84 0,
 mv 85 8,
 op 86 (.slice (.row 11) (.tmp 84) (.some (.tmp 85)) .none .none),
 mv 87 2,
 op 88 (.copy 11 (.tmp 86) (.tmp 87))])
 (.seq (.ops [mv 89 0,
 mv 90 1,
 op 91 (.slice (.row 11) (.tmp 89) (.some (.tmp 90)) .none .none),
 mv 92 7,
 ⟨(.some 93),.none,(.call (.func 101) [(.tmp 91),(.tmp 92)])⟩])
 (.seq (.ops [mv 94 0,
 mv 6 94])
 .ret)))))))))))), [.tmp 6]⟩
def c58 : CFunc := ⟨37, (.seq (.ops [op 2 (.move (.const (.int .i64 (.ofNat 0))))])
 (.seq (.ops [op 3 (.move (.const (.int .i64 (.ofNat 0))))])
 (.seq (.seq (.ops [mv 6 0,
 op 7 (.lenRow (.tmp 6)),
 op 8 (.move (.const (.int .i64 (.ofNat 0))))])
 (.block 0 (.loop (.seq (.ops [op 9 (.arith .lss (.tmp 8) (.tmp 7))])
 (.seq (.cond (.tmp 9) .skip
 (.exit 0))
 (.seq (.block 1 (.seq (.ops [mv 10 8,
 op 11 (.idxRow 12 (.tmp 6) (.tmp 8)),
 op 12 (.load true 12 (.tmp 11)),
 op 5 (.alloc 132 [(.str []),(.int .i64 (.ofNat 0)),.nilSlice,(.bool false),.nilSlice,(.bool false),.nilSlice,(.bool false),.nilSlice,(.bool false),.nilSlice,(.int .i64 (.ofNat 0))]),
 mv 4 10,
 ⟨.none,.none,(.op (.store 12 (.tmp 5) (.tmp 12)))⟩])
 (.seq (.seq (.ops [mv 13 0,
 mv 14 4,
 op 15 (.arith .add (.tmp 14) (.const (.int .i64 (.ofNat 1)))),
 op 16 (.slice (.row 12) (.tmp 13) .none (.some (.tmp 15)) .none),
 ⟨(.some 17),.none,(.call (.func 102) [(.tmp 16)])⟩,
 op 18 (.un .not (.tmp 17))])
 (.cond (.tmp 18) (.seq (.ops [op 2 (.move (.const (.int .i64 (.ofNat 120))))])
 .ret)
 .skip))
 (.seq (.ops [op 19 (.load true 12 (.tmp 5)),
 ⟨(.some 20),.none,(.call (.func 103) [(.tmp 19)])⟩])
 (.cond (.tmp 20) (.ops [mv 21 3,
 op 22 (.arith .add (.tmp 21) (.const (.int .i64 (.ofNat 1)))),
 mv 3 22])
 .skip)))))
 (.ops [op 23 (.arith .add (.tmp 8) (.const (.int .i64 (.ofNat 1)))),
 mv 8 23])))))))
 (.seq (.seq (.ops [mv 24 0,
 op 25 (.lenRow (.tmp 24)),
 op 26 (.arith .gtr (.tmp 25) (.const (.int .i64 (.ofNat 40)))),
 mv 27 26,
 ⟨(.some 28),(.some (27,false)),(.op (.move (.tmp 3)))⟩,
 ⟨(.some 29),(.some (27,false)),(.op (.arith .gtr (.tmp 28) (.const (.int .i64 (.ofNat 5)))))⟩,
 op 30 (.pick (.tmp 27) (.const (.bool true)) (.tmp 29)),
 mv 31 30,
 ⟨(.some 32),(.some (31,false)),(.op (.move (.tmp 0)))⟩,
 ⟨(.some 33),(.some (31,false)),(.call (.func 59) [(.tmp 32)])⟩,
 ⟨(.some 34),(.some (31,false)),(.op (.lenRow (.tmp 33)))⟩,
 ⟨(.some 35),(.some (31,false)),(.op (.arith .gtr (.tmp 34) (.const (.int .i64 (.ofNat 20)))))⟩,
 op 36 (.pick (.tmp 31) (.const (.bool true)) (.tmp 35))])
 (.cond (.tmp 36) (.seq (.ops [op 2 (.move (.const (.int .i64 (.ofNat 111))))])
 .ret)
 .skip))
 (.seq (.ops [op 2 (.move (.const (.int .i64 (.ofNat 0))))])
 .ret))))), [.tmp 2]⟩
def c59 : CFunc := ⟨33, (.seq (.ops [op 2 (.move (.const .nilSlice))])
 (.seq (.ops [op 3 (.move (.const .nilSlice))])
 (.seq (.seq (.ops [mv 6 0,
 op 7 (.lenRow (.tmp 6)),
 op 8 (.move (.const (.int .i64 (.ofNat 0))))])
 (.block 0 (.loop (.seq (.ops [op 9 (.arith .lss (.tmp 8) (.tmp 7))])
 (.seq (.cond (.tmp 9) .skip
 (.exit 0))
 (.seq (.block 1 (.seq (.ops [mv 10 8,
 op 11 (.idxRow 12 (.tmp 6) (.tmp 8)),
 op 12 (.load true 12 (.tmp 11)),
 op 5 (.alloc 132 [(.str []),(.int .i64 (.ofNat 0)),.nilSlice,(.bool false),.nilSlice,(.bool false),.nilSlice,(.bool false),.nilSlice,(.bool false),.nilSlice,(.int .i64 (.ofNat 0))]),
 mv 4 10,
 ⟨.none,.none,(.op (.store 12 (.tmp 5) (.tmp 12)))⟩])
 (.seq (.ops [op 13 (.fieldAddr 1 (.tmp 5)),
 op 14 (.load false 1 (.tmp 13))])
 (.block 2 (.seq (.ops [op 16 (.arith .eql (.tmp 14) (.const (.int .i64 (.ofNat 1)))),
 mv 15 16])
 (.cond (.tmp 15) (.ops [mv 17 3,
 mv 18 4,
 ⟨(.some 19),.none,(.op (.build [(.int .i64 (.ofNat 0)),(.int .i64 (.ofNat 0))] [(0,1,(.tmp 18)),(1,1,(.const (.int .i64 (.ofNat 0))))]))⟩,
 mv 20 4,
 ⟨(.some 21),.none,(.op (.build [(.int .i64 (.ofNat 0)),(.int .i64 (.ofNat 0))] [(0,1,(.tmp 20)),(1,1,(.const (.int .i64 (.ofNat 1))))]))⟩,
 op 22 (.buildSlice 129 [(.int .i64 (.ofNat 0)),(.int .i64 (.ofNat 0))] 2 [(0,2,(.tmp 19)),(2,2,(.tmp 21))]),
 op 23 (.append 2 129 16 (.tmp 17) (.tmp 22)),
 mv 3 23])
 (.seq (.ops [op 25 (.arith .eql (.tmp 14) (.const (.int .i64 (.ofNat 2)))),
 mv 24 25])
 (.cond (.tmp 24) (.ops [mv 26 3,
 mv 27 4,
 ⟨(.some 28),.none,(.op (.build [(.int .i64 (.ofNat 0)),(.int .i64 (.ofNat 0))] [(0,1,(.tmp 27)),(1,1,(.const (.int .i64 (.ofNat 0))))]))⟩,
 op 29 (.buildSlice 129 [(.int .i64 (.ofNat 0)),(.int .i64 (.ofNat 0))] 1 [(0,2,(.tmp 28))]),
 op 30 (.append 2 129 16 (.tmp 26) (.tmp 29)),
 mv 3 30])
 .skip))))))))
 (.ops [op 31 (.arith .add (.tmp 8) (.const (.int .i64 (.ofNat 1)))),
 mv 8 31])))))))
 (.seq (.ops [mv 32 3,
 mv 2 32])
 .ret)))), [.tmp 2]⟩
def c60 : CFunc := ⟨16, (.seq (.ops [op 1 (.box 118 (.tmp 0)),
 op 2 (.alloc 118 [(.bool false),.nilSlice,(.bool false),.nilSlice])])
 (.seq (.ops [op 3 (.fieldAddr 0 (.tmp 1)),
 op 4 (.fieldAddr 1 (.tmp 3)),
 op 5 (.load false 1 (.tmp 4)),
 ⟨(.some 6),.none,(.call (.func 104) [(.tmp 5)])⟩,
 op 7 (.fieldAddr 0 (.tmp 1)),
 op 8 (.fieldAddr 1 (.tmp 7)),
 ⟨.none,.none,(.op (.store 1 (.tmp 8) (.tmp 6)))⟩])
 (.seq (.ops [op 9 (.fieldAddr 2 (.tmp 1)),
 op 10 (.fieldAddr 1 (.tmp 9)),
 op 11 (.load false 1 (.tmp 10)),
 ⟨(.some 12),.none,(.call (.func 104) [(.tmp 11)])⟩,
 op 13 (.fieldAddr 2 (.tmp 1)),
 op 14 (.fieldAddr 1 (.tmp 13)),
 ⟨.none,.none,(.op (.store 1 (.tmp 14) (.tmp 12)))⟩])
 (.seq (.ops [op 15 (.load true 4 (.tmp 1)),
 ⟨.none,.none,(.op (.store 4 (.tmp 2) (.tmp 15)))⟩])
 .ret)))), [.cell true 4 2]⟩
def c61 : CFunc := ⟨28, (.seq (.ops [op 2 (.move (.const .nilSlice)),
 op 3 (.move (.const (.int .i64 (.ofNat 0))))])
 (.seq (.seq (.ops [mv 8 0,
 ⟨(.some 9),.none,(.call (.func 58) [(.tmp 8)])⟩,
 mv 4 9])
 (.seq (.ops [mv 10 4,
 op 11 (.arith .neq (.tmp 10) (.const (.int .i64 (.ofNat 0))))])
 (.cond (.tmp 11) (.seq (.ops [mv 12 4,
 op 2 (.move (.const .nilSlice)),
 mv 3 12])
 .ret)
 .skip)))
 (.seq (.ops [op 5 (.move (.const .nilSlice))])
 (.seq (.seq (.ops [mv 13 0,
 op 14 (.lenRow (.tmp 13)),
 op 15 (.move (.const (.int .i64 (.ofNat 0))))])
 (.block 0 (.loop (.seq (.ops [op 16 (.arith .lss (.tmp 15) (.tmp 14))])
 (.seq (.cond (.tmp 16) .skip
 (.exit 0))
 (.seq (.block 1 (.seq (.ops [mv 17 15,
 op 18 (.idxRow 12 (.tmp 13) (.tmp 15)),
 op 19 (.load true 12 (.tmp 18)),
 op 7 (.alloc 132 [(.str []),(.int .i64 (.ofNat 0)),.nilSlice,(.bool false),.nilSlice,(.bool false),.nilSlice,(.bool false),.nilSlice,(.bool false),.nilSlice,(.int .i64 (.ofNat 0))]),
 mv 6 17,
 ⟨.none,.none,(.op (.store 12 (.tmp 7) (.tmp 19)))⟩])
 (.seq (.ops [op 20 (.load true 12 (.tmp 7)),
 ⟨(.some 21),.none,(.call (.func 103) [(.tmp 20)])⟩])
 (.cond (.tmp 21) (.ops [mv 22 5,
 mv 23 6,
 op 24 (.buildSlice 3 [(.int .i64 (.ofNat 0))] 1 [(0,1,(.tmp 23))]),
 op 25 (.append 1 3 8 (.tmp 22) (.tmp 24)),
 mv 5 25])
 .skip))))
 (.ops [op 26 (.arith .add (.tmp 15) (.const (.int .i64 (.ofNat 1)))),
 mv 15 26])))))))
 (.seq (.ops [mv 27 5,
 mv 2 27,
 op 3 (.move (.const (.int .i64 (.ofNat 0))))])
 .ret))))), [.tmp 2, .tmp 3]⟩
def c67 : CFunc := ⟨15, (.seq (.ops [op 6 (.move (.const (.bool false)))])
 (.seq (.ops [mv 7 0,
 mv 8 1,
 op 9 (.arith .leq (.tmp 7) (.tmp 8)),
 mv 10 9,
 ⟨(.some 11),(.some (10,true)),(.op (.move (.tmp 1)))⟩,
 ⟨(.some 12),(.some (10,true)),(.op (.move (.tmp 2)))⟩,
 ⟨(.some 13),(.some (10,true)),(.op (.arith .leq (.tmp 11) (.tmp 12)))⟩,
 op 14 (.pick (.tmp 10) (.tmp 13) (.const (.bool false))),
 mv 6 14])
 .ret)), [.tmp 6]⟩
def c68 : CFunc := ⟨9, (.seq (.ops [op 4 (.move (.const (.bool false)))])
 (.seq (.ops [mv 5 0,
 mv 6 1,
 ⟨(.some 7),.none,(.call (.func 108) [(.tmp 5),(.tmp 6)])⟩,
 op 8 (.arith .geq (.tmp 7) (.const (.int .i64 (.ofNat 0)))),
 mv 4 8])
 .ret)), [.tmp 4]⟩
def c76 : CFunc := ⟨50, (.seq (.ops [op 4 (.move (.const (.int .i64 (.ofNat 0))))])
 (.seq (.ops [op 5 (.move (.const (.int .i64 (.ofNat 0)))),
 op 6 (.move (.const (.int .i64 (.ofNat 0))))])
 (.seq (.block 0 (.loop (.block 1 (.seq (.ops [mv 8 0,
 ⟨(.some 9),.none,(.call (.func 119) [(.tmp 8),(.const (.int .i64 (.ofNat 1)))])⟩,
 op 10 (.idxStr (.tmp 9) (.const (.int .i64 (.ofNat 0)))),
 op 11 (.toInt .i64 (.tmp 10)),
 mv 7 11])
 (.seq (.ops [mv 12 5,
 mv 13 7,
 op 14 (.arith .and (.tmp 13) (.const (.int .i64 (.ofNat 127)))),
 mv 15 6,
 op 16 (.arith .mul (.const (.int .i64 (.ofNat 7))) (.tmp 15)),
 op 17 (.arith .shl (.tmp 14) (.tmp 16)),
 op 18 (.arith .or (.tmp 12) (.tmp 17)),
 mv 5 18])
 (.seq (.ops [mv 19 6,
 op 20 (.arith .add (.tmp 19) (.const (.int .i64 (.ofNat 1)))),
 mv 6 20])
 (.seq (.seq (.ops [mv 21 7,
 op 22 (.arith .lss (.tmp 21) (.const (.int .i64 (.ofNat 128))))])
 (.cond (.tmp 22) (.seq (.seq (.ops [mv 23 5,
 op 24 (.arith .gtr (.tmp 23) (.const (.int .i64 (.ofNat 2147483647)))),
 mv 25 24,
 ⟨(.some 26),(.some (25,false)),(.op (.move (.tmp 7)))⟩,
 ⟨(.some 27),(.some (25,false)),(.op (.arith .eql (.tmp 26) (.const (.int .i64 (.ofNat 0)))))⟩,
 ⟨(.some 28),(.some (25,false)),(.op (.move (.tmp 27)))⟩,
 ⟨(.some 29),(.some (28,true)),(.op (.move (.tmp 6)))⟩,
 ⟨(.some 30),(.some (28,true)),(.op (.arith .gtr (.tmp 29) (.const (.int .i64 (.ofNat 1)))))⟩,
 ⟨(.some 31),(.some (25,false)),(.op (.pick (.tmp 28) (.tmp 30) (.const (.bool false))))⟩,
 op 32 (.pick (.tmp 25) (.const (.bool true)) (.tmp 31))])
 (.cond (.tmp 32) (.ops [mv 33 0,
 ⟨(.some 34),.none,(.call (.func 79) [(.tmp 33),(.const (.int .i64 (.ofNat 3)))])⟩])
 .skip))
 (.exit 0))
 .skip))
 (.seq (.ops [mv 35 6,
 op 36 (.arith .eql (.tmp 35) (.const (.int .i64 (.ofNat 5))))])
 (.cond (.tmp 36) (.seq (.ops [mv 37 0,
 ⟨(.some 38),.none,(.call (.func 79) [(.tmp 37),(.const (.int .i64 (.ofNat 3)))])⟩])
 (.exit 0))
 .skip)))))))))
 (.seq (.seq (.ops [mv 39 5,
 mv 40 1,
 op 41 (.arith .gtr (.tmp 39) (.tmp 40))])
 (.cond (.tmp 41) (.ops [mv 42 0,
 ⟨(.some 43),.none,(.call (.func 79) [(.tmp 42),(.const (.int .i64 (.ofNat 3)))])⟩])
 .skip))
 (.seq (.seq (.ops [mv 44 0,
 op 45 (.nilCheck (.tmp 44)),
 op 46 (.fieldAddr 1 (.tmp 45)),
 op 47 (.load false 1 (.tmp 46)),
 op 48 (.arith .neq (.tmp 47) (.const (.int .i64 (.ofNat 0))))])
 (.cond (.tmp 48) (.seq (.ops [op 4 (.move (.const (.int .i64 (.ofNat 0))))])
 .ret)
 .skip))
 (.seq (.ops [mv 49 5,
 mv 4 49])
 .ret)))))), [.tmp 4]⟩
def c77 : CFunc := ⟨7, (.seq (.ops [op 2 (.move (.const (.str [])))])
 (.seq (.ops [mv 3 0,
 mv 4 0,
 ⟨(.some 5),.none,(.call (.func 76) [(.tmp 4),(.const (.int .i64 (.ofNat 200)))])⟩,
 ⟨(.some 6),.none,(.call (.func 119) [(.tmp 3),(.tmp 5)])⟩,
 mv 2 6])
 .ret)), [.tmp 2]⟩
def c80 : CFunc := ⟨19, (.seq (.ops [op 2 (.move (.const .nilSlice)),
 op 3 (.alloc 160 [(.int .i64 (.ofNat 0)),(.int .i64 (.ofNat 0))])])
 (.seq (.ops [mv 7 0,
 ⟨(.some 8),.none,(.call (.func 82) [(.tmp 7)])⟩,
 mv 6 8,
 op 9 (.extract (.tmp 6) 0),
 op 10 (.extract (.tmp 6) 1),
 op 5 (.alloc 160 [(.int .i64 (.ofNat 0)),(.int .i64 (.ofNat 0))]),
 mv 4 9,
 ⟨.none,.none,(.op (.store 2 (.tmp 5) (.tmp 10)))⟩])
 (.seq (.seq (.ops [op 11 (.fieldAddr 0 (.tmp 5)),
 op 12 (.load false 1 (.tmp 11)),
 op 13 (.arith .neq (.tmp 12) (.const (.int .i64 (.ofNat 0))))])
 (.cond (.tmp 13) (.seq (.draw [⟨op 14 (.load true 2 (.tmp 5)),1,[]⟩,
 ⟨op 2 (.move (.const .nilSlice)),0,[]⟩,
 ⟨⟨.none,.none,(.op (.store 2 (.tmp 3) (.tmp 14)))⟩,2,[]⟩])
 .ret)
 .skip))
 (.seq (.ops [mv 15 4,
 ⟨(.some 16),.none,(.call (.func 121) [(.tmp 15)])⟩,
 op 17 (.extract (.tmp 16) 0),
 op 18 (.extract (.tmp 16) 1),
 mv 2 17,
 ⟨.none,.none,(.op (.store 2 (.tmp 3) (.tmp 18)))⟩])
 .ret)))), [.tmp 2, .cell true 2 3]⟩
def c82 : CFunc := ⟨18, (.seq (.ops [op 2 (.alloc 163 [.nilSlice]),
 op 3 (.alloc 160 [(.int .i64 (.ofNat 0)),(.int .i64 (.ofNat 0))])])
 (.seq (.seq (.ops [mv 5 0,
 op 6 (.lenStr (.tmp 5)),
 op 7 (.arith .gtr (.tmp 6) (.const (.int .i64 (.ofNat 4096))))])
 (.cond (.tmp 7) (.seq (.ops [⟨(.some 8),.none,(.op (.build [(.int .i64 (.ofNat 0)),(.int .i64 (.ofNat 0))] [(0,1,(.const (.int .i64 (.ofNat 2)))),(1,1,(.const (.int .i64 (.ofNat 4096))))]))⟩,
 ⟨.none,.none,(.op (.store 1 (.tmp 2) (.const .nilSlice)))⟩,
 ⟨.none,.none,(.op (.store 2 (.tmp 3) (.tmp 8)))⟩])
 .ret)
 .skip))
 (.seq (.opsDefer [op 9 (.makeFunc 122 [] [(.tmp 2),(.tmp 3)])] (.tmp 9))
 (.seq (.ops [mv 10 0,
 mv 11 0,
 ⟨(.some 12),.none,(.call (.func 123) [(.tmp 11),(.const (.int .i64 (.ofNat 0)))])⟩,
 op 13 (.build [(.str []),(.int .u8 (.ofNat 0)),(.str []),(.int .i64 (.ofNat 0)),(.int .i64 (.ofNat 0))] [(0,1,(.tmp 10)),(1,3,(.tmp 12))]),
 op 14 (.box 226 (.tmp 13)),
 mv 4 14])
 (.seq (.ops [mv 15 4,
 ⟨(.some 16),.none,(.call (.func 124) [(.tmp 15)])⟩,
 op 17 (.build [(.int .i64 (.ofNat 0)),(.int .i64 (.ofNat 0))] []),
 ⟨.none,.none,(.op (.store 1 (.tmp 2) (.tmp 16)))⟩,
 ⟨.none,.none,(.op (.store 2 (.tmp 3) (.tmp 17)))⟩])
 .ret))))), [.cell false 1 2, .cell true 2 3]⟩
def c84 : CFunc := ⟨19, (.seq (.ops [op 4 (.move (.const (.int .i64 (.ofNat 0))))])
 (.seq (.seq (.ops [mv 6 0,
 op 7 (.lenRow (.tmp 6)),
 op 8 (.move (.const (.int .i64 (.ofNat 0))))])
 (.block 0 (.loop (.seq (.ops [op 9 (.arith .lss (.tmp 8) (.tmp 7))])
 (.seq (.cond (.tmp 9) .skip
 (.exit 0))
 (.seq (.block 1 (.seq (.ops [mv 10 8,
 mv 5 10])
 (.seq (.ops [mv 11 1,
 mv 12 0,
 mv 13 5,
 op 14 (.idxRow 1 (.tmp 12) (.tmp 13)),
 op 15 (.load false 1 (.tmp 14)),
 ⟨(.some 16),.none,(.call (.tmp 11) [(.tmp 15)])⟩])
 (.cond (.tmp 16) (.seq (.ops [mv 17 5,
 mv 4 17])
 .ret)
 .skip))))
 (.ops [op 18 (.arith .add (.tmp 8) (.const (.int .i64 (.ofNat 1)))),
 mv 8 18])))))))
 (.seq (.ops [op 4 (.move (.const (.int .i64 (.negSucc 0))))])
 .ret))), [.tmp 4]⟩
def c86 : CFunc := ⟨26, (.seq (.ops [op 2 (.alloc 171 [(.int .u64 (.ofNat 0)),(.int .u64 (.ofNat 0))]),
 op 3 (.move (.const (.int .i64 (.ofNat 0))))])
 (.seq (.seq (.ops [mv 5 0,
 ⟨(.some 6),.none,(.call (.func 67) [(.const (.int .i64 (.ofNat 1))),(.tmp 5),(.const (.int .i64 (.ofNat 12)))])⟩,
 op 7 (.un .not (.tmp 6))])
 (.cond (.tmp 7) (.seq (.ops [op 8 (.load true 2 (.tmp 2)),
 ⟨.none,.none,(.op (.store 2 (.tmp 2) (.tmp 8)))⟩,
 op 3 (.move (.const (.int .i64 (.ofNat 1))))])
 .ret)
 .skip))
 (.seq (.seq (.ops [op 9 (.move (.const (.int .i64 (.ofNat 0))))])
 (.block 0 (.loop (.seq (.ops [op 10 (.arith .lss (.tmp 9) (.const (.int .i64 (.ofNat 2))))])
 (.seq (.cond (.tmp 10) .skip
 (.exit 0))
 (.seq (.block 1 (.seq (.ops [mv 11 9,
 mv 4 11])
 (.ops [mv 12 4,
 ⟨(.some 13),.none,(.op (.build [(.int .u64 (.ofNat 0)),(.int .u64 (.ofNat 0))] [(0,1,(.const (.int .u64 (.ofNat 506097522914230528)))),(1,1,(.const (.int .u64 (.ofNat 1084818905618843912))))]))⟩,
 ⟨(.some 14),.none,(.op (.buildSlice 5 [(.int .u8 (.ofNat 0))] 12 [(0,1,(.const (.int .u8 (.ofNat 115)))),(1,1,(.const (.int .u8 (.ofNat 116)))),(2,1,(.const (.int .u8 (.ofNat 114)))),(3,1,(.const (.int .u8 (.ofNat 97)))),(4,1,(.const (.int .u8 (.ofNat 105)))),(5,1,(.const (.int .u8 (.ofNat 103)))),(6,1,(.const (.int .u8 (.ofNat 104)))),(7,1,(.const (.int .u8 (.ofNat 116)))),(8,1,(.const (.int .u8 (.ofNat 101)))),(9,1,(.const (.int .u8 (.ofNat 100)))),(10,1,(.const (.int .u8 (.ofNat 103)))),(11,1,(.const (.int .u8 (.ofNat 101))))]))⟩,
 op 15 (.bytesMark (.tmp 14)),
 mv 16 0,
 op 17 (.toInt .u8 (.tmp 16)),
 mv 18 4,
 op 19 (.toInt .u8 (.tmp 18)),
 op 20 (.buildSlice 5 [(.int .u8 (.ofNat 0))] 2 [(0,1,(.tmp 17)),(1,1,(.tmp 19))]),
 op 21 (.append 1 5 1 (.tmp 15) (.tmp 20)),
 ⟨(.some 22),.none,(.call (.func 87) [(.tmp 13),(.tmp 21)])⟩,
 op 23 (.idxArr 2 1 (.tmp 2) (.tmp 12)),
 ⟨.none,.none,(.op (.store 1 (.tmp 23) (.tmp 22)))⟩])))
 (.ops [op 24 (.arith .add (.tmp 9) (.const (.int .i64 (.ofNat 1)))),
 mv 9 24])))))))
 (.seq (.ops [op 25 (.load true 2 (.tmp 2)),
 ⟨.none,.none,(.op (.store 2 (.tmp 2) (.tmp 25)))⟩,
 op 3 (.move (.const (.int .i64 (.ofNat 0))))])
 .ret)))), [.cell true 2 2, .tmp 3]⟩
def c87 : CFunc := ⟨83, (.seq (.ops [op 2 (.box 171 (.tmp 0)),
 op 4 (.move (.const (.int .u64 (.ofNat 0))))])
 (.seq (.ops [op 10 (.idxArr 2 1 (.tmp 2) (.const (.int .i64 (.ofNat 0)))),
 op 11 (.load false 1 (.tmp 10)),
 op 12 (.arith .xor (.tmp 11) (.const (.int .u64 (.ofNat 8317987319222330741)))),
 op 13 (.idxArr 2 1 (.tmp 2) (.const (.int .i64 (.ofNat 1)))),
 op 14 (.load false 1 (.tmp 13)),
 op 15 (.arith .xor (.tmp 14) (.const (.int .u64 (.ofNat 7237128888997146477)))),
 op 16 (.idxArr 2 1 (.tmp 2) (.const (.int .i64 (.ofNat 0)))),
 op 17 (.load false 1 (.tmp 16)),
 op 18 (.arith .xor (.tmp 17) (.const (.int .u64 (.ofNat 7816392313619706465)))),
 op 19 (.idxArr 2 1 (.tmp 2) (.const (.int .i64 (.ofNat 1)))),
 op 20 (.load false 1 (.tmp 19)),
 op 21 (.arith .xor (.tmp 20) (.const (.int .u64 (.ofNat 8387220255154660723)))),
 op 22 (.build [(.int .u64 (.ofNat 0)),(.int .u64 (.ofNat 0)),(.int .u64 (.ofNat 0)),(.int .u64 (.ofNat 0))] [(0,1,(.tmp 12)),(1,1,(.tmp 15)),(2,1,(.tmp 18)),(3,1,(.tmp 21))]),
 op 23 (.box 242 (.tmp 22)),
 mv 5 23])
 (.seq (.ops [mv 24 1,
 mv 6 24])
 (.seq (.block 0 (.loop (.seq (.seq (.ops [mv 25 6,
 op 26 (.lenRow (.tmp 25)),
 op 27 (.arith .geq (.tmp 26) (.const (.int .i64 (.ofNat 8))))])
 (.cond (.tmp 27) .skip
 (.exit 0)))
 (.block 1 (.seq (.ops [op 7 (.move (.const (.int .u64 (.ofNat 0))))])
 (.seq (.seq (.ops [mv 28 6,
 ⟨(.some 29),.none,(.op (.slice (.row 1) (.tmp 28) .none (.some (.const (.int .i64 (.ofNat 8)))) .none))⟩,
 op 30 (.lenRow (.tmp 29)),
 op 31 (.move (.const (.int .i64 (.ofNat 0))))])
 (.block 2 (.loop (.seq (.ops [op 32 (.arith .lss (.tmp 31) (.tmp 30))])
 (.seq (.cond (.tmp 32) .skip
 (.exit 2))
 (.seq (.block 3 (.seq (.ops [mv 33 31,
 op 34 (.idxRow 1 (.tmp 29) (.tmp 31)),
 op 35 (.load false 1 (.tmp 34)),
 mv 8 33,
 mv 9 35])
 (.ops [mv 36 7,
 mv 37 9,
 op 38 (.toInt .u64 (.tmp 37)),
 mv 39 8,
 op 40 (.arith .mul (.const (.int .i64 (.ofNat 8))) (.tmp 39)),
 op 41 (.arith .shl (.tmp 38) (.tmp 40)),
 op 42 (.arith .or (.tmp 36) (.tmp 41)),
 mv 7 42])))
 (.ops [op 43 (.arith .add (.tmp 31) (.const (.int .i64 (.ofNat 1)))),
 mv 31 43])))))))
 (.seq (.ops [mv 44 5,
 mv 45 7,
 ⟨(.some 46),.none,(.call (.func 127) [(.tmp 44),(.tmp 45)])⟩])
 (.ops [mv 47 6,
 ⟨(.some 48),.none,(.op (.slice (.row 1) (.tmp 47) (.some (.const (.int .i64 (.ofNat 8)))) .none .none))⟩,
 mv 6 48]))))))))
 (.seq (.ops [mv 49 5,
 mv 50 6,
 mv 51 1,
 op 52 (.lenRow (.tmp 51)),
 ⟨(.some 53),.none,(.call (.func 128) [(.tmp 50),(.tmp 52)])⟩,
 ⟨(.some 54),.none,(.call (.func 127) [(.tmp 49),(.tmp 53)])⟩])
 (.seq (.draw [⟨mv 55 5,0,[]⟩,
 ⟨op 56 (.nilCheck (.tmp 55)),0,[]⟩,
 ⟨op 57 (.idxArr 4 1 (.tmp 56) (.const (.int .i64 (.ofNat 2)))),0,[]⟩,
 ⟨op 58 (.load false 1 (.tmp 57)),1,[0]⟩,
 ⟨op 59 (.arith .xor (.tmp 58) (.const (.int .u64 (.ofNat 255)))),0,[]⟩,
 ⟨op 60 (.nilCheck (.tmp 55)),0,[]⟩,
 ⟨op 61 (.idxArr 4 1 (.tmp 60) (.const (.int .i64 (.ofNat 2)))),0,[]⟩,
 ⟨⟨.none,.none,(.op (.store 1 (.tmp 61) (.tmp 59)))⟩,2,[]⟩])
 (.seq (.ops [mv 62 5,
 ⟨(.some 63),.none,(.call (.func 129) [(.tmp 62),(.const (.int .i64 (.ofNat 4)))])⟩])
 (.seq (.draw [⟨mv 64 5,0,[]⟩,
 ⟨op 65 (.nilCheck (.tmp 64)),0,[]⟩,
 ⟨op 66 (.idxArr 4 1 (.tmp 65) (.const (.int .i64 (.ofNat 0)))),0,[]⟩,
 ⟨op 67 (.load false 1 (.tmp 66)),1,[0]⟩,
 ⟨mv 68 5,0,[]⟩,
 ⟨op 69 (.nilCheck (.tmp 68)),0,[]⟩,
 ⟨op 70 (.idxArr 4 1 (.tmp 69) (.const (.int .i64 (.ofNat 1)))),0,[]⟩,
 ⟨op 71 (.load false 1 (.tmp 70)),1,[0]⟩,
 ⟨op 72 (.arith .xor (.tmp 67) (.tmp 71)),0,[]⟩,
 ⟨mv 73 5,0,[]⟩,
 ⟨op 74 (.nilCheck (.tmp 73)),0,[]⟩,
 ⟨op 75 (.idxArr 4 1 (.tmp 74) (.const (.int .i64 (.ofNat 2)))),0,[]⟩,
 ⟨op 76 (.load false 1 (.tmp 75)),1,[0]⟩,
 ⟨op 77 (.arith .xor (.tmp 72) (.tmp 76)),0,[]⟩,
 ⟨mv 78 5,0,[]⟩,
 ⟨op 79 (.nilCheck (.tmp 78)),0,[]⟩,
 ⟨op 80 (.idxArr 4 1 (.tmp 79) (.const (.int .i64 (.ofNat 3)))),0,[]⟩,
 ⟨op 81 (.load false 1 (.tmp 80)),1,[0]⟩,
 ⟨op 82 (.arith .xor (.tmp 77) (.tmp 81)),0,[]⟩,
 ⟨mv 4 82,0,[]⟩])
 .ret)))))))), [.tmp 4]⟩
def c88 : CFunc := ⟨38, (.seq (.ops [op 1 (.box 118 (.tmp 0)),
 op 2 (.move (.const (.bool false)))])
 (.seq (.seq (.ops [op 5 (.fieldAddr 0 (.tmp 1)),
 op 6 (.load true 2 (.tmp 5)),
 ⟨(.some 7),.none,(.call (.func 130) [(.tmp 6)])⟩,
 op 8 (.un .not (.tmp 7)),
 mv 9 8,
 ⟨(.some 10),(.some (9,false)),(.op (.fieldAddr 2 (.tmp 1)))⟩,
 ⟨(.some 11),(.some (9,false)),(.op (.load true 2 (.tmp 10)))⟩,
 ⟨(.some 12),(.some (9,false)),(.call (.func 130) [(.tmp 11)])⟩,
 ⟨(.some 13),(.some (9,false)),(.op (.un .not (.tmp 12)))⟩,
 op 14 (.pick (.tmp 9) (.const (.bool true)) (.tmp 13)),
 mv 15 14,
 ⟨(.some 16),(.some (15,false)),(.op (.fieldAddr 2 (.tmp 1)))⟩,
 ⟨(.some 17),(.some (15,false)),(.op (.fieldAddr 0 (.tmp 16)))⟩,
 ⟨(.some 18),(.some (15,false)),(.op (.load false 1 (.tmp 17)))⟩,
 op 19 (.pick (.tmp 15) (.const (.bool true)) (.tmp 18)),
 mv 20 19,
 ⟨(.some 21),(.some (20,false)),(.op (.fieldAddr 2 (.tmp 1)))⟩,
 ⟨(.some 22),(.some (20,false)),(.op (.load true 2 (.tmp 21)))⟩,
 ⟨(.some 23),(.some (20,false)),(.call (.func 131) [(.tmp 22)])⟩,
 op 24 (.pick (.tmp 20) (.const (.bool true)) (.tmp 23))])
 (.cond (.tmp 24) (.seq (.ops [op 2 (.move (.const (.bool false)))])
 .ret)
 .skip))
 (.seq (.seq (.ops [op 25 (.fieldAddr 2 (.tmp 1)),
 op 26 (.load true 2 (.tmp 25)),
 ⟨(.some 27),.none,(.call (.func 132) [(.tmp 26)])⟩])
 (.cond (.tmp 27) (.seq (.ops [op 2 (.move (.const (.bool true)))])
 .ret)
 .skip))
 (.seq (.ops [op 29 (.fieldAddr 0 (.tmp 1)),
 op 30 (.load true 2 (.tmp 29)),
 op 31 (.fieldAddr 2 (.tmp 1)),
 op 32 (.load true 2 (.tmp 31)),
 ⟨(.some 33),.none,(.call (.func 133) [(.tmp 30),(.tmp 32)])⟩,
 mv 28 33,
 op 34 (.extract (.tmp 28) 0),
 op 35 (.extract (.tmp 28) 1),
 op 3 (.alloc 116 [(.bool false),.nilSlice]),
 ⟨.none,.none,(.op (.store 2 (.tmp 3) (.tmp 34)))⟩,
 mv 4 35])
 (.seq (.ops [op 36 (.load true 2 (.tmp 3)),
 ⟨(.some 37),.none,(.call (.func 132) [(.tmp 36)])⟩,
 mv 2 37])
 .ret))))), [.tmp 2]⟩
def c89 : CFunc := ⟨9, (.seq (.ops [op 4 (.move (.const (.bool false)))])
 (.seq (.ops [mv 5 0,
 mv 6 1,
 ⟨(.some 7),.none,(.call (.func 30) [(.tmp 5),(.tmp 6)])⟩,
 op 8 (.arith .geq (.tmp 7) (.const (.int .i64 (.ofNat 0)))),
 mv 4 8])
 .ret)), [.tmp 4]⟩
def c90 : CFunc := ⟨32, (.seq (.ops [op 2 (.box 58 (.tmp 0)),
 op 3 (.move (.const (.bool false)))])
 (.seq (.ops [op 5 (.fieldAddr 0 (.tmp 2)),
 op 6 (.fieldAddr 0 (.tmp 5)),
 op 7 (.load false 1 (.tmp 6)),
 op 8 (.arith .sub (.tmp 7) (.const (.int .i64 (.ofNat 1)))),
 mv 4 8])
 (.seq (.draw [⟨mv 9 4,0,[]⟩,
 ⟨op 10 (.fieldAddr 3 (.tmp 1)),0,[]⟩,
 ⟨op 11 (.load false 1 (.tmp 10)),1,[0]⟩,
 ⟨op 12 (.lenRow (.tmp 11)),0,[]⟩,
 ⟨op 13 (.arith .lss (.tmp 9) (.tmp 12)),0,[]⟩,
 ⟨mv 14 13,0,[]⟩,
 ⟨⟨(.some 15),(.some (14,true)),(.op (.fieldAddr 0 (.tmp 2)))⟩,0,[]⟩,
 ⟨⟨(.some 16),(.some (14,true)),(.op (.fieldAddr 1 (.tmp 15)))⟩,0,[]⟩,
 ⟨⟨(.some 17),(.some (14,true)),(.op (.load false 1 (.tmp 16)))⟩,1,[0]⟩,
 ⟨⟨(.some 18),(.some (14,true)),(.op (.fieldAddr 3 (.tmp 1)))⟩,0,[]⟩,
 ⟨⟨(.some 19),(.some (14,true)),(.op (.load false 1 (.tmp 18)))⟩,1,[0]⟩,
 ⟨⟨(.some 20),(.some (14,true)),(.op (.move (.tmp 4)))⟩,0,[]⟩,
 ⟨⟨(.some 21),(.some (14,true)),(.op (.idxRow 1 (.tmp 19) (.tmp 20)))⟩,0,[]⟩,
 ⟨⟨(.some 22),(.some (14,true)),(.op (.load false 1 (.tmp 21)))⟩,1,[0]⟩,
 ⟨⟨(.some 23),(.some (14,true)),(.op (.arith .leq (.tmp 17) (.tmp 22)))⟩,0,[]⟩,
 ⟨op 24 (.pick (.tmp 14) (.tmp 23) (.const (.bool false))),0,[]⟩,
 ⟨mv 25 24,0,[]⟩,
 ⟨⟨(.some 26),(.some (25,true)),(.op (.fieldAddr 2 (.tmp 2)))⟩,0,[]⟩,
 ⟨⟨(.some 27),(.some (25,true)),(.op (.load false 1 (.tmp 26)))⟩,1,[0]⟩,
 ⟨⟨(.some 28),(.some (25,true)),(.op (.fieldAddr 2 (.tmp 1)))⟩,0,[]⟩,
 ⟨⟨(.some 29),(.some (25,true)),(.op (.load false 1 (.tmp 28)))⟩,1,[0]⟩,
 ⟨⟨(.some 30),(.some (25,true)),(.op (.arith .geq (.tmp 27) (.tmp 29)))⟩,0,[]⟩,
 ⟨op 31 (.pick (.tmp 25) (.tmp 30) (.const (.bool false))),0,[]⟩,
 ⟨mv 3 31,0,[]⟩])
 .ret))), [.tmp 3]⟩
def c91 : CFunc := ⟨9, (.seq (.ops [op 4 (.move (.const (.bool false)))])
 (.seq (.ops [mv 5 0,
 mv 6 1,
 ⟨(.some 7),.none,(.call (.func 134) [(.tmp 5),(.tmp 6)])⟩,
 op 8 (.arith .geq (.tmp 7) (.const (.int .i64 (.ofNat 0)))),
 mv 4 8])
 .ret)), [.tmp 4]⟩
def c92 : CFunc := ⟨6, (.seq (.ops [op 2 (.move (.const (.bool false)))])
 (.seq (.ops [mv 3 0,
 ⟨(.some 4),.none,(.call (.func 67) [(.const (.int .i64 (.ofNat 0))),(.tmp 3),(.const (.int .i64 (.ofNat 65535)))])⟩,
 op 5 (.un .not (.tmp 4)),
 mv 2 5])
 .ret)), [.tmp 2]⟩
def c93 : CFunc := ⟨9, (.seq (.ops [op 4 (.move (.const (.bool false)))])
 (.seq (.ops [mv 5 0,
 mv 6 1,
 ⟨(.some 7),.none,(.call (.func 84) [(.tmp 5),(.tmp 6)])⟩,
 op 8 (.arith .geq (.tmp 7) (.const (.int .i64 (.ofNat 0)))),
 mv 4 8])
 .ret)), [.tmp 4]⟩
def c96 : CFunc := ⟨17, (.seq (.ops [op 4 (.move (.const .nilIface))])
 (.seq (.ops [mv 5 0,
 ⟨(.some 6),.none,(.call (.func 135) [(.tmp 5)])⟩])
 (.seq (.ops [mv 7 0,
 mv 8 0,
 op 9 (.nilCheck (.tmp 8)),
 op 10 (.fieldAddr 1 (.tmp 9)),
 op 11 (.load false 1 (.tmp 10)),
 mv 12 1,
 op 13 (.buildSlice 5 [(.int .u8 (.ofNat 0))] 1 [(0,1,(.tmp 12))]),
 op 14 (.append 1 5 1 (.tmp 11) (.tmp 13)),
 op 15 (.nilCheck (.tmp 7)),
 op 16 (.fieldAddr 1 (.tmp 15)),
 ⟨.none,.none,(.op (.store 1 (.tmp 16) (.tmp 14)))⟩])
 (.seq (.ops [op 4 (.move (.const .nilIface))])
 .ret)))), [.tmp 4]⟩
def c97 : CFunc := ⟨19, (.seq (.ops [op 4 (.move (.const (.int .i64 (.ofNat 0)))),
 op 5 (.move (.const .nilIface))])
 (.seq (.ops [mv 6 0,
 ⟨(.some 7),.none,(.call (.func 135) [(.tmp 6)])⟩])
 (.seq (.ops [mv 8 0,
 mv 9 0,
 op 10 (.nilCheck (.tmp 9)),
 op 11 (.fieldAddr 1 (.tmp 10)),
 op 12 (.load false 1 (.tmp 11)),
 mv 13 1,
 op 14 (.append 1 5 1 (.tmp 12) (.tmp 13)),
 op 15 (.nilCheck (.tmp 8)),
 op 16 (.fieldAddr 1 (.tmp 15)),
 ⟨.none,.none,(.op (.store 1 (.tmp 16) (.tmp 14)))⟩])
 (.seq (.ops [mv 17 1,
 op 18 (.lenStr (.tmp 17)),
 mv 4 18,
 op 5 (.move (.const .nilIface))])
 .ret)))), [.tmp 4, .tmp 5]⟩
def c99 : CFunc := ⟨27, (.seq (.ops [op 2 (.box 58 (.tmp 0)),
 op 3 (.box 58 (.tmp 1)),
 op 4 (.move (.const (.bool false)))])
 (.seq (.draw [⟨op 5 (.fieldAddr 2 (.tmp 2)),0,[]⟩,
 ⟨op 6 (.load false 1 (.tmp 5)),1,[0]⟩,
 ⟨op 7 (.fieldAddr 2 (.tmp 3)),0,[]⟩,
 ⟨op 8 (.load false 1 (.tmp 7)),1,[0]⟩,
 ⟨⟨(.some 9),.none,(.call (.func 137) [(.tmp 6),(.tmp 8)])⟩,2,[]⟩,
 ⟨op 10 (.fieldAddr 0 (.tmp 2)),0,[]⟩,
 ⟨op 11 (.fieldAddr 0 (.tmp 10)),0,[]⟩,
 ⟨op 12 (.load false 1 (.tmp 11)),1,[0,5]⟩,
 ⟨op 13 (.fieldAddr 0 (.tmp 3)),0,[]⟩,
 ⟨op 14 (.fieldAddr 0 (.tmp 13)),0,[]⟩,
 ⟨op 15 (.load false 1 (.tmp 14)),1,[0,5]⟩,
 ⟨⟨(.some 16),.none,(.call (.func 137) [(.tmp 12),(.tmp 15)])⟩,2,[]⟩,
 ⟨op 17 (.fieldAddr 0 (.tmp 2)),0,[]⟩,
 ⟨op 18 (.fieldAddr 1 (.tmp 17)),0,[]⟩,
 ⟨op 19 (.load false 1 (.tmp 18)),1,[0,5,12]⟩,
 ⟨op 20 (.fieldAddr 0 (.tmp 3)),0,[]⟩,
 ⟨op 21 (.fieldAddr 1 (.tmp 20)),0,[]⟩,
 ⟨op 22 (.load false 1 (.tmp 21)),1,[0,5,12]⟩,
 ⟨⟨(.some 23),.none,(.call (.func 137) [(.tmp 19),(.tmp 22)])⟩,2,[]⟩,
 ⟨op 24 (.buildSlice 3 [(.int .i64 (.ofNat 0))] 3 [(0,1,(.tmp 9)),(1,1,(.tmp 16)),(2,1,(.tmp 23))]),2,[]⟩,
 ⟨⟨(.some 25),.none,(.call (.func 136) [(.tmp 24)])⟩,2,[]⟩,
 ⟨op 26 (.arith .lss (.tmp 25) (.const (.int .i64 (.ofNat 0)))),0,[]⟩,
 ⟨mv 4 26,0,[]⟩])
 .ret)), [.tmp 4]⟩
def c102 : CFunc := ⟨142, (.seq (.ops [op 2 (.move (.const (.bool false)))])
 (.seq (.ops [mv 12 0,
 op 13 (.lenRow (.tmp 12)),
 op 14 (.arith .sub (.tmp 13) (.const (.int .i64 (.ofNat 1)))),
 mv 3 14])
 (.seq (.ops [mv 15 0,
 mv 16 3,
 op 17 (.idxRow 12 (.tmp 15) (.tmp 16)),
 op 18 (.load true 12 (.tmp 17)),
 op 4 (.alloc 132 [(.str []),(.int .i64 (.ofNat 0)),.nilSlice,(.bool false),.nilSlice,(.bool false),.nilSlice,(.bool false),.nilSlice,(.bool false),.nilSlice,(.int .i64 (.ofNat 0))]),
 ⟨.none,.none,(.op (.store 12 (.tmp 4) (.tmp 18)))⟩])
 (.seq (.ops [op 20 (.fieldAddr 1 (.tmp 4)),
 op 21 (.load false 1 (.tmp 20)),
 ⟨(.some 22),.none,(.call (.func 139) [(.tmp 21)])⟩,
 mv 19 22,
 op 23 (.extract (.tmp 19) 0),
 op 24 (.extract (.tmp 19) 1),
 op 25 (.extract (.tmp 19) 2),
 mv 5 23,
 mv 6 24,
 mv 7 25])
 (.seq (.seq (.ops [mv 26 6,
 op 27 (.arith .eql (.tmp 26) (.const (.int .i64 (.ofNat 0)))),
 mv 28 27,
 ⟨(.some 29),(.some (28,false)),(.op (.move (.tmp 5)))⟩,
 ⟨(.some 30),(.some (28,false)),(.op (.lenRow (.tmp 29)))⟩,
 ⟨(.some 31),(.some (28,false)),(.op (.fieldAddr 2 (.tmp 4)))⟩,
 ⟨(.some 32),(.some (28,false)),(.op (.load false 1 (.tmp 31)))⟩,
 ⟨(.some 33),(.some (28,false)),(.op (.lenRow (.tmp 32)))⟩,
 ⟨(.some 34),(.some (28,false)),(.op (.arith .neq (.tmp 30) (.tmp 33)))⟩,
 op 35 (.pick (.tmp 28) (.const (.bool true)) (.tmp 34)),
 mv 36 35,
 ⟨(.some 37),(.some (36,false)),(.op (.fieldAddr 0 (.tmp 4)))⟩,
 ⟨(.some 38),(.some (36,false)),(.op (.load false 1 (.tmp 37)))⟩,
 ⟨(.some 39),(.some (36,false)),(.op (.arith .eql (.tmp 38) (.const (.str []))))⟩,
 op 40 (.pick (.tmp 36) (.const (.bool true)) (.tmp 39))])
 (.cond (.tmp 40) (.seq (.ops [op 2 (.move (.const (.bool false)))])
 .ret)
 .skip))
 (.seq (.seq (.ops [op 41 (.fieldAddr 2 (.tmp 4)),
 op 42 (.load false 1 (.tmp 41)),
 op 43 (.lenRow (.tmp 42)),
 op 44 (.move (.const (.int .i64 (.ofNat 0))))])
 (.block 0 (.loop (.seq (.ops [op 45 (.arith .lss (.tmp 44) (.tmp 43))])
 (.seq (.cond (.tmp 45) .skip
 (.exit 0))
 (.seq (.block 1 (.seq (.ops [mv 46 44,
 op 47 (.idxRow 1 (.tmp 42) (.tmp 44)),
 op 48 (.load false 1 (.tmp 47)),
 mv 8 46,
 mv 9 48])
 (.seq (.draw [⟨mv 49 9,0,[]⟩,
 ⟨op 50 (.arith .lss (.tmp 49) (.const (.int .i64 (.ofNat 0)))),0,[]⟩,
 ⟨mv 51 50,0,[]⟩,
 ⟨⟨(.some 52),(.some (51,false)),(.op (.move (.tmp 9)))⟩,0,[]⟩,
 ⟨⟨(.some 53),(.some (51,false)),(.op (.move (.tmp 3)))⟩,0,[]⟩,
 ⟨⟨(.some 54),(.some (51,false)),(.op (.arith .geq (.tmp 52) (.tmp 53)))⟩,0,[]⟩,
 ⟨op 55 (.pick (.tmp 51) (.const (.bool true)) (.tmp 54)),0,[]⟩,
 ⟨mv 56 55,0,[]⟩,
 ⟨⟨(.some 57),(.some (56,false)),(.op (.move (.tmp 5)))⟩,0,[]⟩,
 ⟨⟨(.some 58),(.some (56,false)),(.op (.move (.tmp 8)))⟩,0,[]⟩,
 ⟨⟨(.some 59),(.some (56,false)),(.op (.idxRow 1 (.tmp 57) (.tmp 58)))⟩,0,[]⟩,
 ⟨⟨(.some 60),(.some (56,false)),(.op (.load false 1 (.tmp 59)))⟩,1,[0,17]⟩,
 ⟨⟨(.some 61),(.some (56,false)),(.op (.move (.tmp 0)))⟩,0,[]⟩,
 ⟨⟨(.some 62),(.some (56,false)),(.op (.move (.tmp 9)))⟩,0,[]⟩,
 ⟨⟨(.some 63),(.some (56,false)),(.op (.idxRow 12 (.tmp 61) (.tmp 62)))⟩,0,[]⟩,
 ⟨⟨(.some 64),(.some (56,false)),(.op (.load true 12 (.tmp 63)))⟩,1,[0]⟩,
 ⟨⟨(.some 65),(.some (56,false)),(.call (.func 141) [(.tmp 64)])⟩,2,[]⟩,
 ⟨⟨(.some 66),(.some (56,false)),(.call (.func 140) [(.tmp 60),(.tmp 65)])⟩,2,[]⟩,
 ⟨⟨(.some 67),(.some (56,false)),(.op (.un .not (.tmp 66)))⟩,0,[]⟩,
 ⟨op 68 (.pick (.tmp 56) (.const (.bool true)) (.tmp 67)),0,[]⟩])
 (.cond (.tmp 68) (.seq (.ops [op 2 (.move (.const (.bool false)))])
 .ret)
 .skip))))
 (.ops [op 69 (.arith .add (.tmp 44) (.const (.int .i64 (.ofNat 1)))),
 mv 44 69])))))))
 (.seq (.seq (.ops [mv 70 7,
 op 71 (.fieldAddr 11 (.tmp 4)),
 op 72 (.load false 1 (.tmp 71)),
 op 73 (.arith .eql (.tmp 72) (.const (.int .i64 (.ofNat 1)))),
 mv 74 73,
 ⟨(.some 75),(.some (74,false)),(.op (.fieldAddr 11 (.tmp 4)))⟩,
 ⟨(.some 76),(.some (74,false)),(.op (.load false 1 (.tmp 75)))⟩,
 ⟨(.some 77),(.some (74,false)),(.op (.arith .eql (.tmp 76) (.const (.int .i64 (.ofNat 2)))))⟩,
 op 78 (.pick (.tmp 74) (.const (.bool true)) (.tmp 77)),
 op 79 (.eq true .bool (.tmp 70) (.tmp 78)),
 mv 80 79,
 ⟨(.some 81),(.some (80,false)),(.op (.move (.tmp 7)))⟩,
 ⟨(.some 82),(.some (80,false)),(.op (.un .not (.tmp 81)))⟩,
 ⟨(.some 83),(.some (80,false)),(.op (.move (.tmp 82)))⟩,
 ⟨(.some 84),(.some (83,true)),(.op (.fieldAddr 11 (.tmp 4)))⟩,
 ⟨(.some 85),(.some (83,true)),(.op (.load false 1 (.tmp 84)))⟩,
 ⟨(.some 86),(.some (83,true)),(.op (.arith .neq (.tmp 85) (.const (.int .i64 (.ofNat 0)))))⟩,
 ⟨(.some 87),(.some (80,false)),(.op (.pick (.tmp 83) (.tmp 86) (.const (.bool false))))⟩,
 op 88 (.pick (.tmp 80) (.const (.bool true)) (.tmp 87))])
 (.cond (.tmp 88) (.seq (.ops [op 2 (.move (.const (.bool false)))])
 .ret)
 .skip))
 (.seq (.draw [⟨op 89 (.fieldAddr 1 (.tmp 4)),0,[]⟩,
 ⟨op 90 (.load false 1 (.tmp 89)),1,[0]⟩,
 ⟨op 91 (.arith .eql (.tmp 90) (.const (.int .i64 (.ofNat 1)))),0,[]⟩,
 ⟨mv 92 91,0,[]⟩,
 ⟨⟨(.some 93),(.some (92,false)),(.op (.fieldAddr 1 (.tmp 4)))⟩,0,[]⟩,
 ⟨⟨(.some 94),(.some (92,false)),(.op (.load false 1 (.tmp 93)))⟩,1,[0]⟩,
 ⟨⟨(.some 95),(.some (92,false)),(.op (.arith .eql (.tmp 94) (.const (.int .i64 (.ofNat 2)))))⟩,0,[]⟩,
 ⟨op 96 (.pick (.tmp 92) (.const (.bool true)) (.tmp 95)),0,[]⟩,
 ⟨op 97 (.fieldAddr 1 (.tmp 4)),0,[]⟩,
 ⟨op 98 (.load false 1 (.tmp 97)),1,[0]⟩,
 ⟨op 99 (.arith .eql (.tmp 98) (.const (.int .i64 (.ofNat 1)))),0,[]⟩,
 ⟨mv 10 96,0,[]⟩,
 ⟨mv 11 99,0,[]⟩])
 (.seq (.seq (.ops [mv 100 10,
 mv 101 100,
 ⟨(.some 102),(.some (101,true)),(.op (.fieldAddr 3 (.tmp 4)))⟩,
 ⟨(.some 103),(.some (101,true)),(.op (.load true 4 (.tmp 102)))⟩,
 ⟨(.some 104),(.some (101,true)),(.call (.func 88) [(.tmp 103)])⟩,
 ⟨(.some 105),(.some (101,true)),(.op (.un .not (.tmp 104)))⟩,
 op 106 (.pick (.tmp 101) (.tmp 105) (.const (.bool false))),
 mv 107 106,
 ⟨(.some 108),(.some (107,false)),(.op (.move (.tmp 10)))⟩,
 ⟨(.some 109),(.some (107,false)),(.op (.un .not (.tmp 108)))⟩,
 ⟨(.some 110),(.some (107,false)),(.op (.move (.tmp 109)))⟩,
 ⟨(.some 111),(.some (110,true)),(.op (.fieldAddr 3 (.tmp 4)))⟩,
 ⟨(.some 112),(.some (110,true)),(.op (.load true 4 (.tmp 111)))⟩,
 ⟨(.some 113),(.some (110,true)),(.call (.func 142) [(.tmp 112)])⟩,
 ⟨(.some 114),(.some (110,true)),(.op (.un .not (.tmp 113)))⟩,
 ⟨(.some 115),(.some (107,false)),(.op (.pick (.tmp 110) (.tmp 114) (.const (.bool false))))⟩,
 op 116 (.pick (.tmp 107) (.const (.bool true)) (.tmp 115)),
 mv 117 116,
 ⟨(.some 118),(.some (117,false)),(.op (.move (.tmp 11)))⟩,
 ⟨(.some 119),(.some (117,false)),(.op (.move (.tmp 118)))⟩,
 ⟨(.some 120),(.some (119,true)),(.op (.fieldAddr 7 (.tmp 4)))⟩,
 ⟨(.some 121),(.some (119,true)),(.op (.load true 4 (.tmp 120)))⟩,
 ⟨(.some 122),(.some (119,true)),(.call (.func 88) [(.tmp 121)])⟩,
 ⟨(.some 123),(.some (119,true)),(.op (.un .not (.tmp 122)))⟩,
 ⟨(.some 124),(.some (117,false)),(.op (.pick (.tmp 119) (.tmp 123) (.const (.bool false))))⟩,
 op 125 (.pick (.tmp 117) (.const (.bool true)) (.tmp 124)),
 mv 126 125,
 ⟨(.some 127),(.some (126,false)),(.op (.move (.tmp 11)))⟩,
 ⟨(.some 128),(.some (126,false)),(.op (.un .not (.tmp 127)))⟩,
 ⟨(.some 129),(.some (126,false)),(.op (.move (.tmp 128)))⟩,
 ⟨(.some 130),(.some (129,true)),(.op (.fieldAddr 7 (.tmp 4)))⟩,
 ⟨(.some 131),(.some (129,true)),(.op (.load true 4 (.tmp 130)))⟩,
 ⟨(.some 132),(.some (129,true)),(.call (.func 142) [(.tmp 131)])⟩,
 ⟨(.some 133),(.some (129,true)),(.op (.un .not (.tmp 132)))⟩,
 ⟨(.some 134),(.some (126,false)),(.op (.pick (.tmp 129) (.tmp 133) (.const (.bool false))))⟩,
 op 135 (.pick (.tmp 126) (.const (.bool true)) (.tmp 134))])
 (.cond (.tmp 135) (.seq (.ops [op 2 (.move (.const (.bool false)))])
 .ret)
 .skip))
 (.seq (.ops [mv 136 0,
 mv 137 3,
 op 138 (.slice (.row 12) (.tmp 136) .none (.some (.tmp 137)) .none),
 op 139 (.makeFunc 144 [] [(.tmp 4)]),
 ⟨(.some 140),.none,(.call (.func 143) [(.tmp 138),(.tmp 139)])⟩,
 op 141 (.un .not (.tmp 140)),
 mv 2 141])
 .ret)))))))))), [.tmp 2]⟩
def c103 : CFunc := ⟨14, (.seq (.ops [op 1 (.box 132 (.tmp 0)),
 op 2 (.move (.const (.bool false)))])
 (.seq (.ops [op 7 (.fieldAddr 1 (.tmp 1)),
 op 8 (.load false 1 (.tmp 7)),
 ⟨(.some 9),.none,(.call (.func 139) [(.tmp 8)])⟩,
 mv 6 9,
 op 10 (.extract (.tmp 6) 0),
 op 11 (.extract (.tmp 6) 1),
 op 12 (.extract (.tmp 6) 2),
 mv 3 10,
 mv 4 11,
 mv 5 12])
 (.seq (.ops [mv 13 5,
 mv 2 13])
 .ret))), [.tmp 2]⟩
def c104 : CFunc := ⟨8, (.seq (.ops [op 2 (.move (.const .nilSlice))])
 (.seq (.seq (.ops [mv 3 0,
 op 4 (.eq false .slice (.tmp 3) (.const .nilSlice))])
 (.cond (.tmp 4) (.seq (.ops [op 2 (.move (.const .nilSlice))])
 .ret)
 .skip))
 (.seq (.ops [op 5 (.buildSlice 194 [] 0 []),
 mv 6 0,
 op 7 (.append 1 194 4 (.tmp 5) (.tmp 6)),
 mv 2 7])
 .ret))), [.tmp 2]⟩
def c105 : CFunc := ⟨19, (.seq (.ops [op 4 (.move (.const (.int .i64 (.ofNat 0))))])
 (.seq (.seq (.ops [mv 6 0,
 op 7 (.lenRow (.tmp 6)),
 op 8 (.move (.const (.int .i64 (.ofNat 0))))])
 (.block 0 (.loop (.seq (.ops [op 9 (.arith .lss (.tmp 8) (.tmp 7))])
 (.seq (.cond (.tmp 9) .skip
 (.exit 0))
 (.seq (.block 1 (.seq (.ops [mv 10 8,
 mv 5 10])
 (.seq (.ops [mv 11 1,
 mv 12 0,
 mv 13 5,
 op 14 (.idxRow 12 (.tmp 12) (.tmp 13)),
 op 15 (.load true 12 (.tmp 14)),
 ⟨(.some 16),.none,(.call (.tmp 11) [(.tmp 15)])⟩])
 (.cond (.tmp 16) (.seq (.ops [mv 17 5,
 mv 4 17])
 .ret)
 .skip))))
 (.ops [op 18 (.arith .add (.tmp 8) (.const (.int .i64 (.ofNat 1)))),
 mv 8 18])))))))
 (.seq (.ops [op 4 (.move (.const (.int .i64 (.negSucc 0))))])
 .ret))), [.tmp 4]⟩
def c108 : CFunc := ⟨19, (.seq (.ops [op 4 (.move (.const (.int .i64 (.ofNat 0))))])
 (.seq (.seq (.ops [mv 6 0,
 op 7 (.lenRow (.tmp 6)),
 op 8 (.move (.const (.int .i64 (.ofNat 0))))])
 (.block 0 (.loop (.seq (.ops [op 9 (.arith .lss (.tmp 8) (.tmp 7))])
 (.seq (.cond (.tmp 9) .skip
 (.exit 0))
 (.seq (.block 1 (.seq (.ops [mv 10 8,
 mv 5 10])
 (.seq (.ops [mv 11 1,
 mv 12 0,
 mv 13 5,
 op 14 (.idxRow 6 (.tmp 12) (.tmp 13)),
 op 15 (.load true 6 (.tmp 14)),
 ⟨(.some 16),.none,(.call (.tmp 11) [(.tmp 15)])⟩])
 (.cond (.tmp 16) (.seq (.ops [mv 17 5,
 mv 4 17])
 .ret)
 .skip))))
 (.ops [op 18 (.arith .add (.tmp 8) (.const (.int .i64 (.ofNat 1)))),
 mv 8 18])))))))
 (.seq (.ops [op 4 (.move (.const (.int .i64 (.negSucc 0))))])
 .ret))), [.tmp 4]⟩
def c119 : CFunc := ⟨33, (.seq (.ops [op 4 (.move (.const (.str [])))])
 (.seq (.seq (.ops [mv 6 0,
 op 7 (.nilCheck (.tmp 6)),
 op 8 (.fieldAddr 0 (.tmp 7)),
 op 9 (.load false 1 (.tmp 8)),
 op 10 (.lenStr (.tmp 9)),
 mv 11 1,
 op 12 (.arith .lss (.tmp 10) (.tmp 11))])
 (.cond (.tmp 12) (.seq (.ops [mv 13 0,
 ⟨(.some 14),.none,(.call (.func 79) [(.tmp 13),(.const (.int .i64 (.ofNat 9)))])⟩])
 (.seq (.ops [mv 15 1,
 ⟨(.some 16),.none,(.call (.func 157) [(.const (.str [0])),(.tmp 15)])⟩,
 mv 4 16])
 .ret))
 .skip))
 (.seq (.ops [mv 17 0,
 op 18 (.nilCheck (.tmp 17)),
 op 19 (.fieldAddr 0 (.tmp 18)),
 op 20 (.load false 1 (.tmp 19)),
 mv 21 1,
 op 22 (.slice .str (.tmp 20) .none (.some (.tmp 21)) .none),
 mv 5 22])
 (.seq (.ops [mv 23 0,
 mv 24 0,
 op 25 (.nilCheck (.tmp 24)),
 op 26 (.fieldAddr 0 (.tmp 25)),
 op 27 (.load false 1 (.tmp 26)),
 mv 28 1,
 op 29 (.slice .str (.tmp 27) (.some (.tmp 28)) .none .none),
 op 30 (.nilCheck (.tmp 23)),
 op 31 (.fieldAddr 0 (.tmp 30)),
 ⟨.none,.none,(.op (.store 1 (.tmp 31) (.tmp 29)))⟩])
 (.seq (.ops [mv 32 5,
 mv 4 32])
 .ret))))), [.tmp 4]⟩
def c121 : CFunc := ⟨38, (.seq (.ops [op 2 (.move (.const .nilSlice)),
 op 3 (.alloc 160 [(.int .i64 (.ofNat 0)),(.int .i64 (.ofNat 0))])])
 (.seq (.seq (.ops [mv 6 0,
 ⟨(.some 7),.none,(.call (.func 158) [(.tmp 6)])⟩,
 op 4 (.alloc 160 [(.int .i64 (.ofNat 0)),(.int .i64 (.ofNat 0))]),
 ⟨.none,.none,(.op (.store 2 (.tmp 4) (.tmp 7)))⟩])
 (.seq (.ops [op 8 (.fieldAddr 0 (.tmp 4)),
 op 9 (.load false 1 (.tmp 8)),
 op 10 (.arith .neq (.tmp 9) (.const (.int .i64 (.ofNat 0))))])
 (.cond (.tmp 10) (.seq (.draw [⟨op 11 (.load true 2 (.tmp 4)),1,[]⟩,
 ⟨op 2 (.move (.const .nilSlice)),0,[]⟩,
 ⟨⟨.none,.none,(.op (.store 2 (.tmp 3) (.tmp 11)))⟩,2,[]⟩])
 .ret)
 .skip)))
 (.seq (.ops [op 12 (.makeMap),
 op 13 (.makeMap),
 op 14 (.build [(.str []),.nilMap,.nilMap] [(1,1,(.tmp 12)),(2,1,(.tmp 13))]),
 op 15 (.makeMap),
 op 16 (.makeMap),
 op 17 (.makeMap),
 op 18 (.build [(.str []),.nilMap,.nilMap,.nilSlice,.nilMap,.nilMap,.nilMap,(.int .i64 (.ofNat 0)),(.int .i64 (.ofNat 0)),(.int .i64 (.ofNat 0)),(.int .i64 (.ofNat 0)),(.int .i64 (.ofNat 0))] [(0,3,(.tmp 14)),(4,1,(.tmp 15)),(5,1,(.tmp 16)),(6,1,(.tmp 17))]),
 op 19 (.box 288 (.tmp 18)),
 mv 5 19])
 (.seq (.ops [mv 20 5,
 mv 21 0,
 ⟨(.some 22),.none,(.call (.func 159) [(.tmp 20),(.tmp 21)])⟩])
 (.seq (.seq (.ops [mv 23 5,
 op 24 (.nilCheck (.tmp 23)),
 op 25 (.fieldAddr 10 (.tmp 24)),
 op 26 (.fieldAddr 0 (.tmp 25)),
 op 27 (.load false 1 (.tmp 26)),
 op 28 (.arith .neq (.tmp 27) (.const (.int .i64 (.ofNat 0))))])
 (.cond (.tmp 28) (.seq (.draw [⟨mv 29 5,0,[]⟩,
 ⟨op 30 (.nilCheck (.tmp 29)),0,[]⟩,
 ⟨op 31 (.fieldAddr 10 (.tmp 30)),0,[]⟩,
 ⟨op 32 (.load true 2 (.tmp 31)),1,[0]⟩,
 ⟨op 2 (.move (.const .nilSlice)),0,[]⟩,
 ⟨⟨.none,.none,(.op (.store 2 (.tmp 3) (.tmp 32)))⟩,2,[]⟩])
 .ret)
 .skip))
 (.seq (.ops [mv 33 5,
 op 34 (.nilCheck (.tmp 33)),
 op 35 (.fieldAddr 3 (.tmp 34)),
 op 36 (.load false 1 (.tmp 35)),
 op 37 (.build [(.int .i64 (.ofNat 0)),(.int .i64 (.ofNat 0))] []),
 mv 2 36,
 ⟨.none,.none,(.op (.store 2 (.tmp 3) (.tmp 37)))⟩])
 .ret)))))), [.tmp 2, .cell true 2 3]⟩
def c123 : CFunc := ⟨115, (.seq (.ops [op 4 (.alloc 223 [(.int .u8 (.ofNat 0)),(.str []),(.int .i64 (.ofNat 0))])])
 (.seq (.block 0 (.loop (.seq (.seq (.ops [mv 8 1,
 mv 9 0,
 op 10 (.lenStr (.tmp 9)),
 op 11 (.arith .lss (.tmp 8) (.tmp 10)),
 mv 12 11,
 ⟨(.some 13),(.some (12,true)),(.op (.move (.tmp 0)))⟩,
 ⟨(.some 14),(.some (12,true)),(.op (.move (.tmp 1)))⟩,
 ⟨(.some 15),(.some (12,true)),(.op (.idxStr (.tmp 13) (.tmp 14)))⟩,
 ⟨(.some 16),(.some (12,true)),(.op (.arith .eql (.tmp 15) (.const (.int .u8 (.ofNat 32)))))⟩,
 op 17 (.pick (.tmp 12) (.tmp 16) (.const (.bool false)))])
 (.cond (.tmp 17) .skip
 (.exit 0)))
 (.block 1 (.ops [mv 18 1,
 op 19 (.arith .add (.tmp 18) (.const (.int .i64 (.ofNat 1)))),
 mv 1 19])))))
 (.seq (.seq (.ops [mv 20 0,
 mv 21 1,
 op 22 (.slice .str (.tmp 20) (.some (.tmp 21)) .none .none),
 ⟨(.some 23),.none,(.call (.func 160) [(.tmp 22),(.const (.str [45,45]))])⟩])
 (.cond (.tmp 23) (.seq (.ops [mv 24 0,
 mv 25 1,
 op 26 (.slice .str (.tmp 24) (.some (.tmp 25)) .none .none),
 ⟨(.some 27),.none,(.call (.func 161) [(.tmp 26),(.const (.int .u8 (.ofNat 10)))])⟩,
 mv 5 27])
 (.seq (.ops [mv 28 5,
 op 29 (.arith .geq (.tmp 28) (.const (.int .i64 (.ofNat 0))))])
 (.cond (.tmp 29) (.ops [mv 30 1,
 mv 31 5,
 op 32 (.arith .add (.tmp 30) (.tmp 31)),
 mv 1 32])
 (.ops [mv 33 0,
 op 34 (.lenStr (.tmp 33)),
 mv 1 34]))))
 .skip))
 (.seq (.seq (.ops [mv 35 1,
 mv 36 0,
 op 37 (.lenStr (.tmp 36)),
 op 38 (.arith .eql (.tmp 35) (.tmp 37))])
 (.cond (.tmp 38) (.seq (.ops [mv 39 1,
 ⟨(.some 40),.none,(.op (.build [(.int .u8 (.ofNat 0)),(.str []),(.int .i64 (.ofNat 0))] [(0,1,(.const (.int .u8 (.ofNat 36)))),(1,1,(.const (.str []))),(2,1,(.tmp 39))]))⟩,
 ⟨.none,.none,(.op (.store 3 (.tmp 4) (.tmp 40)))⟩])
 .ret)
 .skip))
 (.seq (.ops [mv 41 0,
 mv 42 1,
 op 43 (.idxStr (.tmp 41) (.tmp 42)),
 mv 44 1,
 op 45 (.arith .add (.tmp 44) (.const (.int .i64 (.ofNat 1)))),
 mv 6 43,
 mv 7 45])
 (.seq (.block 2 (.seq (.ops [mv 47 6,
 ⟨(.some 48),.none,(.call (.func 162) [(.tmp 47)])⟩,
 mv 46 48])
 (.cond (.tmp 46) (.seq (.block 3 (.loop (.seq (.seq (.ops [mv 49 7,
 mv 50 0,
 op 51 (.lenStr (.tmp 50)),
 op 52 (.arith .lss (.tmp 49) (.tmp 51)),
 mv 53 52,
 ⟨(.some 54),(.some (53,true)),(.op (.move (.tmp 0)))⟩,
 ⟨(.some 55),(.some (53,true)),(.op (.move (.tmp 7)))⟩,
 ⟨(.some 56),(.some (53,true)),(.op (.idxStr (.tmp 54) (.tmp 55)))⟩,
 ⟨(.some 57),(.some (53,true)),(.call (.func 162) [(.tmp 56)])⟩,
 ⟨(.some 58),(.some (53,true)),(.op (.move (.tmp 57)))⟩,
 ⟨(.some 59),(.some (58,false)),(.op (.move (.tmp 0)))⟩,
 ⟨(.some 60),(.some (58,false)),(.op (.move (.tmp 7)))⟩,
 ⟨(.some 61),(.some (58,false)),(.op (.idxStr (.tmp 59) (.tmp 60)))⟩,
 ⟨(.some 62),(.some (58,false)),(.call (.func 163) [(.tmp 61)])⟩,
 ⟨(.some 63),(.some (53,true)),(.op (.pick (.tmp 58) (.const (.bool true)) (.tmp 62)))⟩,
 op 64 (.pick (.tmp 53) (.tmp 63) (.const (.bool false)))])
 (.cond (.tmp 64) .skip
 (.exit 3)))
 (.block 4 (.ops [mv 65 7,
 op 66 (.arith .add (.tmp 65) (.const (.int .i64 (.ofNat 1)))),
 mv 7 66])))))
 (.seq (.seq (.ops [mv 67 7,
 mv 68 1,
 op 69 (.arith .sub (.tmp 67) (.tmp 68)),
 op 70 (.arith .gtr (.tmp 69) (.const (.int .i64 (.ofNat 12))))])
 (.cond (.tmp 70) (.seq (.ops [mv 71 1,
 ⟨(.some 72),.none,(.op (.build [(.int .u8 (.ofNat 0)),(.str []),(.int .i64 (.ofNat 0))] [(0,1,(.const (.int .u8 (.ofNat 33)))),(1,1,(.const (.str []))),(2,1,(.tmp 71))]))⟩,
 ⟨.none,.none,(.op (.store 3 (.tmp 4) (.tmp 72)))⟩])
 .ret)
 .skip))
 (.seq (.ops [mv 73 0,
 mv 74 1,
 mv 75 7,
 op 76 (.slice .str (.tmp 73) (.some (.tmp 74)) (.some (.tmp 75)) .none),
 mv 77 1,
 ⟨(.some 78),.none,(.op (.build [(.int .u8 (.ofNat 0)),(.str []),(.int .i64 (.ofNat 0))] [(0,1,(.const (.int .u8 (.ofNat 119)))),(1,1,(.tmp 76)),(2,1,(.tmp 77))]))⟩,
 ⟨.none,.none,(.op (.store 3 (.tmp 4) (.tmp 78)))⟩])
 .ret)))
 (.seq (.ops [mv 80 6,
 ⟨(.some 81),.none,(.call (.func 163) [(.tmp 80)])⟩,
 mv 79 81])
 (.cond (.tmp 79) (.seq (.block 5 (.loop (.seq (.seq (.ops [mv 82 7,
 mv 83 0,
 op 84 (.lenStr (.tmp 83)),
 op 85 (.arith .lss (.tmp 82) (.tmp 84)),
 mv 86 85,
 ⟨(.some 87),(.some (86,true)),(.op (.move (.tmp 0)))⟩,
 ⟨(.some 88),(.some (86,true)),(.op (.move (.tmp 7)))⟩,
 ⟨(.some 89),(.some (86,true)),(.op (.idxStr (.tmp 87) (.tmp 88)))⟩,
 ⟨(.some 90),(.some (86,true)),(.call (.func 163) [(.tmp 89)])⟩,
 op 91 (.pick (.tmp 86) (.tmp 90) (.const (.bool false)))])
 (.cond (.tmp 91) .skip
 (.exit 5)))
 (.block 6 (.ops [mv 92 7,
 op 93 (.arith .add (.tmp 92) (.const (.int .i64 (.ofNat 1)))),
 mv 7 93])))))
 (.seq (.ops [mv 94 0,
 mv 95 1,
 mv 96 7,
 op 97 (.slice .str (.tmp 94) (.some (.tmp 95)) (.some (.tmp 96)) .none),
 mv 98 1,
 ⟨(.some 99),.none,(.op (.build [(.int .u8 (.ofNat 0)),(.str []),(.int .i64 (.ofNat 0))] [(0,1,(.const (.int .u8 (.ofNat 48)))),(1,1,(.tmp 97)),(2,1,(.tmp 98))]))⟩,
 ⟨.none,.none,(.op (.store 3 (.tmp 4) (.tmp 99)))⟩])
 .ret))
 (.seq (.seq (.ops [mv 101 6,
 op 102 (.arith .eql (.tmp 101) (.const (.int .u8 (.ofNat 10)))),
 mv 100 102])
 (.cond (.tmp 100) .skip
 (.ops [mv 103 6,
 ⟨(.some 104),.none,(.call (.func 161) [(.const (.str [61,40,41,44,46,91,93,43,45,47,35])),(.tmp 103)])⟩,
 op 105 (.arith .geq (.tmp 104) (.const (.int .i64 (.ofNat 0)))),
 mv 100 105])))
 (.cond (.tmp 100) (.seq (.ops [mv 106 6,
 mv 107 0,
 mv 108 1,
 mv 109 7,
 op 110 (.slice .str (.tmp 107) (.some (.tmp 108)) (.some (.tmp 109)) .none),
 mv 111 1,
 op 112 (.build [(.int .u8 (.ofNat 0)),(.str []),(.int .i64 (.ofNat 0))] [(0,1,(.tmp 106)),(1,1,(.tmp 110)),(2,1,(.tmp 111))]),
 ⟨.none,.none,(.op (.store 3 (.tmp 4) (.tmp 112)))⟩])
 .ret)
 .skip)))))))
 (.seq (.ops [mv 113 1,
 ⟨(.some 114),.none,(.op (.build [(.int .u8 (.ofNat 0)),(.str []),(.int .i64 (.ofNat 0))] [(0,1,(.const (.int .u8 (.ofNat 33)))),(1,1,(.const (.str []))),(2,1,(.tmp 113))]))⟩,
 ⟨.none,.none,(.op (.store 3 (.tmp 4) (.tmp 114)))⟩])
 .ret))))))), [.cell true 3 4]⟩
def c124 : CFunc := ⟨87, (.seq (.ops [op 2 (.move (.const .nilSlice))])
 (.seq (.ops [op 7 (.makeMap),
 mv 8 0,
 op 9 (.makeFunc 164 [(.tmp 8)] []),
 ⟨.none,.none,(.op (.mapUpdate .str (.tmp 7) (.const (.str [112,111,105,110,116])) (.tmp 9)))⟩,
 mv 10 0,
 op 11 (.makeFunc 164 [(.tmp 10)] []),
 ⟨.none,.none,(.op (.mapUpdate .str (.tmp 7) (.const (.str [108,105,110,101])) (.tmp 11)))⟩,
 mv 12 0,
 op 13 (.makeFunc 164 [(.tmp 12)] []),
 ⟨.none,.none,(.op (.mapUpdate .str (.tmp 7) (.const (.str [99,105,114,99,108,101])) (.tmp 13)))⟩,
 mv 14 0,
 op 15 (.makeFunc 165 [(.tmp 14)] []),
 ⟨.none,.none,(.op (.mapUpdate .str (.tmp 7) (.const (.str [117,115,101])) (.tmp 15)))⟩,
 mv 16 0,
 op 17 (.makeFunc 166 [(.tmp 16)] []),
 ⟨.none,.none,(.op (.mapUpdate .str (.tmp 7) (.const (.str [109,97,99,114,111])) (.tmp 17)))⟩,
 mv 18 0,
 op 19 (.makeFunc 167 [(.tmp 18)] []),
 ⟨.none,.none,(.op (.mapUpdate .str (.tmp 7) (.const (.str [114,101,112,101,97,116])) (.tmp 19)))⟩,
 mv 20 7,
 mv 3 20])
 (.seq (.ops [op 4 (.move (.const .nilSlice))])
 (.block 0 (.loop (.block 1 (.seq (.block 2 (.loop (.seq (.seq (.ops [mv 21 0,
 ⟨(.some 22),.none,(.call (.func 168) [(.tmp 21),(.const (.int .u8 (.ofNat 10)))])⟩])
 (.cond (.tmp 22) .skip
 (.exit 2)))
 (.block 3 .skip))))
 (.seq (.seq (.ops [mv 23 0,
 op 24 (.nilCheck (.tmp 23)),
 op 25 (.fieldAddr 4 (.tmp 24)),
 op 26 (.load false 1 (.tmp 25)),
 op 27 (.arith .eql (.tmp 26) (.const (.int .i64 (.ofNat 0)))),
 mv 28 27,
 ⟨(.some 29),(.some (28,true)),(.op (.move (.tmp 0)))⟩,
 ⟨(.some 30),(.some (28,true)),(.op (.nilCheck (.tmp 29)))⟩,
 ⟨(.some 31),(.some (28,true)),(.op (.fieldAddr 1 (.tmp 30)))⟩,
 ⟨(.some 32),(.some (28,true)),(.op (.fieldAddr 0 (.tmp 31)))⟩,
 ⟨(.some 33),(.some (28,true)),(.op (.load false 1 (.tmp 32)))⟩,
 ⟨(.some 34),(.some (28,true)),(.op (.arith .eql (.tmp 33) (.const (.int .u8 (.ofNat 36)))))⟩,
 op 35 (.pick (.tmp 28) (.tmp 34) (.const (.bool false))),
 mv 36 35,
 ⟨(.some 37),(.some (36,false)),(.op (.move (.tmp 0)))⟩,
 ⟨(.some 38),(.some (36,false)),(.op (.nilCheck (.tmp 37)))⟩,
 ⟨(.some 39),(.some (36,false)),(.op (.fieldAddr 4 (.tmp 38)))⟩,
 ⟨(.some 40),(.some (36,false)),(.op (.load false 1 (.tmp 39)))⟩,
 ⟨(.some 41),(.some (36,false)),(.op (.arith .gtr (.tmp 40) (.const (.int .i64 (.ofNat 0)))))⟩,
 ⟨(.some 42),(.some (36,false)),(.op (.move (.tmp 41)))⟩,
 ⟨(.some 43),(.some (42,true)),(.op (.move (.tmp 0)))⟩,
 ⟨(.some 44),(.some (42,true)),(.call (.func 169) [(.tmp 43),(.const (.str [101,110,100]))])⟩,
 ⟨(.some 45),(.some (36,false)),(.op (.pick (.tmp 42) (.tmp 44) (.const (.bool false))))⟩,
 op 46 (.pick (.tmp 36) (.const (.bool true)) (.tmp 45))])
 (.cond (.tmp 46) (.seq (.ops [mv 47 4,
 mv 2 47])
 .ret)
 .skip))
 (.seq (.ops [mv 49 3,
 mv 50 0,
 op 51 (.nilCheck (.tmp 50)),
 op 52 (.fieldAddr 1 (.tmp 51)),
 op 53 (.fieldAddr 1 (.tmp 52)),
 op 54 (.load false 1 (.tmp 53)),
 op 55 (.lookup .str .nilFunc (.tmp 49) (.tmp 54) true),
 mv 48 55,
 op 56 (.extract (.tmp 48) 0),
 op 57 (.extract (.tmp 48) 1),
 mv 5 56,
 mv 6 57])
 (.seq (.seq (.ops [mv 58 6,
 op 59 (.un .not (.tmp 58)),
 mv 60 59,
 ⟨(.some 61),(.some (60,false)),(.op (.move (.tmp 0)))⟩,
 ⟨(.some 62),(.some (60,false)),(.op (.nilCheck (.tmp 61)))⟩,
 ⟨(.some 63),(.some (60,false)),(.op (.fieldAddr 1 (.tmp 62)))⟩,
 ⟨(.some 64),(.some (60,false)),(.op (.fieldAddr 0 (.tmp 63)))⟩,
 ⟨(.some 65),(.some (60,false)),(.op (.load false 1 (.tmp 64)))⟩,
 ⟨(.some 66),(.some (60,false)),(.op (.arith .neq (.tmp 65) (.const (.int .u8 (.ofNat 119)))))⟩,
 op 67 (.pick (.tmp 60) (.const (.bool true)) (.tmp 66))])
 (.cond (.tmp 67) (.ops [mv 68 0,
 mv 69 0,
 op 70 (.nilCheck (.tmp 69)),
 op 71 (.fieldAddr 1 (.tmp 70)),
 op 72 (.load true 3 (.tmp 71)),
 ⟨(.some 73),.none,(.call (.func 170) [(.tmp 68),(.const (.int .i64 (.ofNat 91))),(.tmp 72)])⟩])
 .skip))
 (.seq (.ops [mv 74 4,
 mv 75 5,
 ⟨(.some 76),.none,(.call (.tmp 75) [])⟩,
 op 77 (.buildSlice 234 [(.int .i64 (.ofNat 0)),(.int .i64 (.ofNat 0)),(.int .i64 (.ofNat 0)),.nilSlice,(.int .i64 (.ofNat 0)),.nilSlice,(.bool false),.nilSlice,(.bool false),.nilSlice,(.bool false),.nilSlice,(.bool false),.nilSlice,(.int .i64 (.ofNat 0)),.nilSlice,(.str []),(.str []),(.int .i64 (.ofNat 0)),(.int .i64 (.ofNat 0)),.nilSlice] 1 [(0,21,(.tmp 76))]),
 op 78 (.append 21 234 312 (.tmp 74) (.tmp 77)),
 mv 4 78])
 (.seq (.ops [mv 79 0,
 op 80 (.nilCheck (.tmp 79)),
 op 81 (.fieldAddr 1 (.tmp 80)),
 op 82 (.fieldAddr 0 (.tmp 81)),
 op 83 (.load false 1 (.tmp 82)),
 op 84 (.arith .neq (.tmp 83) (.const (.int .u8 (.ofNat 36))))])
 (.cond (.tmp 84) (.ops [mv 85 0,
 ⟨(.some 86),.none,(.call (.func 171) [(.tmp 85),(.const (.int .u8 (.ofNat 10)))])⟩])
 .skip))))))))))))), [.tmp 2]⟩
def c127 : CFunc := ⟨22, (.seq (.draw [⟨mv 4 0,0,[]⟩,
 ⟨op 5 (.nilCheck (.tmp 4)),0,[]⟩,
 ⟨op 6 (.idxArr 4 1 (.tmp 5) (.const (.int .i64 (.ofNat 3)))),0,[]⟩,
 ⟨op 7 (.load false 1 (.tmp 6)),1,[0]⟩,
 ⟨mv 8 1,0,[]⟩,
 ⟨op 9 (.arith .xor (.tmp 7) (.tmp 8)),0,[]⟩,
 ⟨op 10 (.nilCheck (.tmp 4)),0,[]⟩,
 ⟨op 11 (.idxArr 4 1 (.tmp 10) (.const (.int .i64 (.ofNat 3)))),0,[]⟩,
 ⟨⟨.none,.none,(.op (.store 1 (.tmp 11) (.tmp 9)))⟩,2,[]⟩])
 (.seq (.ops [mv 12 0,
 ⟨(.some 13),.none,(.call (.func 129) [(.tmp 12),(.const (.int .i64 (.ofNat 2)))])⟩])
 (.draw [⟨mv 14 0,0,[]⟩,
 ⟨op 15 (.nilCheck (.tmp 14)),0,[]⟩,
 ⟨op 16 (.idxArr 4 1 (.tmp 15) (.const (.int .i64 (.ofNat 0)))),0,[]⟩,
 ⟨op 17 (.load false 1 (.tmp 16)),1,[0]⟩,
 ⟨mv 18 1,0,[]⟩,
 ⟨op 19 (.arith .xor (.tmp 17) (.tmp 18)),0,[]⟩,
 ⟨op 20 (.nilCheck (.tmp 14)),0,[]⟩,
 ⟨op 21 (.idxArr 4 1 (.tmp 20) (.const (.int .i64 (.ofNat 0)))),0,[]⟩,
 ⟨⟨.none,.none,(.op (.store 1 (.tmp 21) (.tmp 19)))⟩,2,[]⟩]))), []⟩
def c128 : CFunc := ⟨74, (.seq (.ops [op 4 (.move (.const (.int .u64 (.ofNat 0))))])
 (.seq (.ops [mv 6 1,
 op 7 (.toInt .u64 (.tmp 6)),
 op 8 (.arith .shl (.tmp 7) (.const (.int .u64 (.ofNat 56)))),
 mv 5 8])
 (.seq (.seq (.ops [mv 9 0,
 op 10 (.lenRow (.tmp 9))])
 (.block 0 (.seq (.block 7 (.seq (.block 6 (.seq (.block 5 (.seq (.block 4 (.seq (.block 3 (.seq (.block 2 (.seq (.block 1 (.seq (.seq (.seq (.ops [op 12 (.arith .eql (.tmp 10) (.const (.int .i64 (.ofNat 7)))),
 mv 11 12])
 (.cond (.tmp 11) (.exit 1)
 .skip))
 (.seq (.seq (.ops [op 14 (.arith .eql (.tmp 10) (.const (.int .i64 (.ofNat 6)))),
 mv 13 14])
 (.cond (.tmp 13) (.exit 2)
 .skip))
 (.seq (.seq (.ops [op 16 (.arith .eql (.tmp 10) (.const (.int .i64 (.ofNat 5)))),
 mv 15 16])
 (.cond (.tmp 15) (.exit 3)
 .skip))
 (.seq (.seq (.ops [op 18 (.arith .eql (.tmp 10) (.const (.int .i64 (.ofNat 4)))),
 mv 17 18])
 (.cond (.tmp 17) (.exit 4)
 .skip))
 (.seq (.seq (.ops [op 20 (.arith .eql (.tmp 10) (.const (.int .i64 (.ofNat 3)))),
 mv 19 20])
 (.cond (.tmp 19) (.exit 5)
 .skip))
 (.seq (.seq (.ops [op 22 (.arith .eql (.tmp 10) (.const (.int .i64 (.ofNat 2)))),
 mv 21 22])
 (.cond (.tmp 21) (.exit 6)
 .skip))
 (.seq (.ops [op 24 (.arith .eql (.tmp 10) (.const (.int .i64 (.ofNat 1)))),
 mv 23 24])
 (.cond (.tmp 23) (.exit 7)
 .skip))))))))
 (.exit 0)))
 (.ops [mv 25 5,
 mv 26 0,
 op 27 (.idxRow 1 (.tmp 26) (.const (.int .i64 (.ofNat 6)))),
 op 28 (.load false 1 (.tmp 27)),
 op 29 (.toInt .u64 (.tmp 28)),
 op 30 (.arith .shl (.tmp 29) (.const (.int .u64 (.ofNat 48)))),
 op 31 (.arith .or (.tmp 25) (.tmp 30)),
 mv 5 31])))
 (.ops [mv 32 5,
 mv 33 0,
 op 34 (.idxRow 1 (.tmp 33) (.const (.int .i64 (.ofNat 5)))),
 op 35 (.load false 1 (.tmp 34)),
 op 36 (.toInt .u64 (.tmp 35)),
 op 37 (.arith .shl (.tmp 36) (.const (.int .u64 (.ofNat 40)))),
 op 38 (.arith .or (.tmp 32) (.tmp 37)),
 mv 5 38])))
 (.ops [mv 39 5,
 mv 40 0,
 op 41 (.idxRow 1 (.tmp 40) (.const (.int .i64 (.ofNat 4)))),
 op 42 (.load false 1 (.tmp 41)),
 op 43 (.toInt .u64 (.tmp 42)),
 op 44 (.arith .shl (.tmp 43) (.const (.int .u64 (.ofNat 32)))),
 op 45 (.arith .or (.tmp 39) (.tmp 44)),
 mv 5 45])))
 (.ops [mv 46 5,
 mv 47 0,
 op 48 (.idxRow 1 (.tmp 47) (.const (.int .i64 (.ofNat 3)))),
 op 49 (.load false 1 (.tmp 48)),
 op 50 (.toInt .u64 (.tmp 49)),
 op 51 (.arith .shl (.tmp 50) (.const (.int .u64 (.ofNat 24)))),
 op 52 (.arith .or (.tmp 46) (.tmp 51)),
 mv 5 52])))
 (.ops [mv 53 5,
 mv 54 0,
 op 55 (.idxRow 1 (.tmp 54) (.const (.int .i64 (.ofNat 2)))),
 op 56 (.load false 1 (.tmp 55)),
 op 57 (.toInt .u64 (.tmp 56)),
 op 58 (.arith .shl (.tmp 57) (.const (.int .u64 (.ofNat 16)))),
 op 59 (.arith .or (.tmp 53) (.tmp 58)),
 mv 5 59])))
 (.ops [mv 60 5,
 mv 61 0,
 op 62 (.idxRow 1 (.tmp 61) (.const (.int .i64 (.ofNat 1)))),
 op 63 (.load false 1 (.tmp 62)),
 op 64 (.toInt .u64 (.tmp 63)),
 op 65 (.arith .shl (.tmp 64) (.const (.int .u64 (.ofNat 8)))),
 op 66 (.arith .or (.tmp 60) (.tmp 65)),
 mv 5 66])))
 (.seq (.ops [mv 67 5,
 mv 68 0,
 op 69 (.idxRow 1 (.tmp 68) (.const (.int .i64 (.ofNat 0)))),
 op 70 (.load false 1 (.tmp 69)),
 op 71 (.toInt .u64 (.tmp 70)),
 op 72 (.arith .or (.tmp 67) (.tmp 71)),
 mv 5 72])
 (.exit 0)))))
 (.seq (.ops [mv 73 5,
 mv 4 73])
 .ret)))), [.tmp 4]⟩
def c129 : CFunc := ⟨120, (.seq (.ops [mv 4 1,
 op 5 (.move (.const (.int .i64 (.ofNat 0))))])
 (.block 0 (.loop (.seq (.ops [op 6 (.arith .lss (.tmp 5) (.tmp 4))])
 (.seq (.cond (.tmp 6) .skip
 (.exit 0))
 (.seq (.block 1 (.seq (.draw [⟨mv 7 0,0,[]⟩,
 ⟨op 8 (.nilCheck (.tmp 7)),0,[]⟩,
 ⟨op 9 (.idxArr 4 1 (.tmp 8) (.const (.int .i64 (.ofNat 0)))),0,[]⟩,
 ⟨op 10 (.load false 1 (.tmp 9)),1,[0]⟩,
 ⟨mv 11 0,0,[]⟩,
 ⟨op 12 (.nilCheck (.tmp 11)),0,[]⟩,
 ⟨op 13 (.idxArr 4 1 (.tmp 12) (.const (.int .i64 (.ofNat 1)))),0,[]⟩,
 ⟨op 14 (.load false 1 (.tmp 13)),1,[0]⟩,
 ⟨op 15 (.arith .add (.tmp 10) (.tmp 14)),0,[]⟩,
 ⟨op 16 (.nilCheck (.tmp 7)),0,[]⟩,
 ⟨op 17 (.idxArr 4 1 (.tmp 16) (.const (.int .i64 (.ofNat 0)))),0,[]⟩,
 ⟨⟨.none,.none,(.op (.store 1 (.tmp 17) (.tmp 15)))⟩,2,[]⟩])
 (.seq (.draw [⟨mv 18 0,0,[]⟩,
 ⟨mv 19 0,0,[]⟩,
 ⟨op 20 (.nilCheck (.tmp 19)),0,[]⟩,
 ⟨op 21 (.idxArr 4 1 (.tmp 20) (.const (.int .i64 (.ofNat 1)))),0,[]⟩,
 ⟨op 22 (.load false 1 (.tmp 21)),1,[0]⟩,
 ⟨⟨(.some 23),.none,(.call (.func 173) [(.tmp 22),(.const (.int .i64 (.ofNat 13)))])⟩,2,[]⟩,
 ⟨mv 24 0,0,[]⟩,
 ⟨op 25 (.nilCheck (.tmp 24)),0,[]⟩,
 ⟨op 26 (.idxArr 4 1 (.tmp 25) (.const (.int .i64 (.ofNat 0)))),0,[]⟩,
 ⟨op 27 (.load false 1 (.tmp 26)),1,[0,6]⟩,
 ⟨op 28 (.arith .xor (.tmp 23) (.tmp 27)),0,[]⟩,
 ⟨op 29 (.nilCheck (.tmp 18)),0,[]⟩,
 ⟨op 30 (.idxArr 4 1 (.tmp 29) (.const (.int .i64 (.ofNat 1)))),0,[]⟩,
 ⟨⟨.none,.none,(.op (.store 1 (.tmp 30) (.tmp 28)))⟩,2,[]⟩])
 (.seq (.draw [⟨mv 31 0,0,[]⟩,
 ⟨mv 32 0,0,[]⟩,
 ⟨op 33 (.nilCheck (.tmp 32)),0,[]⟩,
 ⟨op 34 (.idxArr 4 1 (.tmp 33) (.const (.int .i64 (.ofNat 0)))),0,[]⟩,
 ⟨op 35 (.load false 1 (.tmp 34)),1,[0]⟩,
 ⟨⟨(.some 36),.none,(.call (.func 173) [(.tmp 35),(.const (.int .i64 (.ofNat 32)))])⟩,2,[]⟩,
 ⟨op 37 (.nilCheck (.tmp 31)),0,[]⟩,
 ⟨op 38 (.idxArr 4 1 (.tmp 37) (.const (.int .i64 (.ofNat 0)))),0,[]⟩,
 ⟨⟨.none,.none,(.op (.store 1 (.tmp 38) (.tmp 36)))⟩,2,[]⟩])
 (.seq (.draw [⟨mv 39 0,0,[]⟩,
 ⟨op 40 (.nilCheck (.tmp 39)),0,[]⟩,
 ⟨op 41 (.idxArr 4 1 (.tmp 40) (.const (.int .i64 (.ofNat 2)))),0,[]⟩,
 ⟨op 42 (.load false 1 (.tmp 41)),1,[0]⟩,
 ⟨mv 43 0,0,[]⟩,
 ⟨op 44 (.nilCheck (.tmp 43)),0,[]⟩,
 ⟨op 45 (.idxArr 4 1 (.tmp 44) (.const (.int .i64 (.ofNat 3)))),0,[]⟩,
 ⟨op 46 (.load false 1 (.tmp 45)),1,[0]⟩,
 ⟨op 47 (.arith .add (.tmp 42) (.tmp 46)),0,[]⟩,
 ⟨op 48 (.nilCheck (.tmp 39)),0,[]⟩,
 ⟨op 49 (.idxArr 4 1 (.tmp 48) (.const (.int .i64 (.ofNat 2)))),0,[]⟩,
 ⟨⟨.none,.none,(.op (.store 1 (.tmp 49) (.tmp 47)))⟩,2,[]⟩])
 (.seq (.draw [⟨mv 50 0,0,[]⟩,
 ⟨mv 51 0,0,[]⟩,
 ⟨op 52 (.nilCheck (.tmp 51)),0,[]⟩,
 ⟨op 53 (.idxArr 4 1 (.tmp 52) (.const (.int .i64 (.ofNat 3)))),0,[]⟩,
 ⟨op 54 (.load false 1 (.tmp 53)),1,[0]⟩,
 ⟨⟨(.some 55),.none,(.call (.func 173) [(.tmp 54),(.const (.int .i64 (.ofNat 16)))])⟩,2,[]⟩,
 ⟨mv 56 0,0,[]⟩,
 ⟨op 57 (.nilCheck (.tmp 56)),0,[]⟩,
 ⟨op 58 (.idxArr 4 1 (.tmp 57) (.const (.int .i64 (.ofNat 2)))),0,[]⟩,
 ⟨op 59 (.load false 1 (.tmp 58)),1,[0,6]⟩,
 ⟨op 60 (.arith .xor (.tmp 55) (.tmp 59)),0,[]⟩,
 ⟨op 61 (.nilCheck (.tmp 50)),0,[]⟩,
 ⟨op 62 (.idxArr 4 1 (.tmp 61) (.const (.int .i64 (.ofNat 3)))),0,[]⟩,
 ⟨⟨.none,.none,(.op (.store 1 (.tmp 62) (.tmp 60)))⟩,2,[]⟩])
 (.seq (.draw [⟨mv 63 0,0,[]⟩,
 ⟨op 64 (.nilCheck (.tmp 63)),0,[]⟩,
 ⟨op 65 (.idxArr 4 1 (.tmp 64) (.const (.int .i64 (.ofNat 0)))),0,[]⟩,
 ⟨op 66 (.load false 1 (.tmp 65)),1,[0]⟩,
 ⟨mv 67 0,0,[]⟩,
 ⟨op 68 (.nilCheck (.tmp 67)),0,[]⟩,
 ⟨op 69 (.idxArr 4 1 (.tmp 68) (.const (.int .i64 (.ofNat 3)))),0,[]⟩,
 ⟨op 70 (.load false 1 (.tmp 69)),1,[0]⟩,
 ⟨op 71 (.arith .add (.tmp 66) (.tmp 70)),0,[]⟩,
 ⟨op 72 (.nilCheck (.tmp 63)),0,[]⟩,
 ⟨op 73 (.idxArr 4 1 (.tmp 72) (.const (.int .i64 (.ofNat 0)))),0,[]⟩,
 ⟨⟨.none,.none,(.op (.store 1 (.tmp 73) (.tmp 71)))⟩,2,[]⟩])
 (.seq (.draw [⟨mv 74 0,0,[]⟩,
 ⟨mv 75 0,0,[]⟩,
 ⟨op 76 (.nilCheck (.tmp 75)),0,[]⟩,
 ⟨op 77 (.idxArr 4 1 (.tmp 76) (.const (.int .i64 (.ofNat 3)))),0,[]⟩,
 ⟨op 78 (.load false 1 (.tmp 77)),1,[0]⟩,
 ⟨⟨(.some 79),.none,(.call (.func 173) [(.tmp 78),(.const (.int .i64 (.ofNat 21)))])⟩,2,[]⟩,
 ⟨mv 80 0,0,[]⟩,
 ⟨op 81 (.nilCheck (.tmp 80)),0,[]⟩,
 ⟨op 82 (.idxArr 4 1 (.tmp 81) (.const (.int .i64 (.ofNat 0)))),0,[]⟩,
 ⟨op 83 (.load false 1 (.tmp 82)),1,[0,6]⟩,
 ⟨op 84 (.arith .xor (.tmp 79) (.tmp 83)),0,[]⟩,
 ⟨op 85 (.nilCheck (.tmp 74)),0,[]⟩,
 ⟨op 86 (.idxArr 4 1 (.tmp 85) (.const (.int .i64 (.ofNat 3)))),0,[]⟩,
 ⟨⟨.none,.none,(.op (.store 1 (.tmp 86) (.tmp 84)))⟩,2,[]⟩])
 (.seq (.draw [⟨mv 87 0,0,[]⟩,
 ⟨op 88 (.nilCheck (.tmp 87)),0,[]⟩,
 ⟨op 89 (.idxArr 4 1 (.tmp 88) (.const (.int .i64 (.ofNat 2)))),0,[]⟩,
 ⟨op 90 (.load false 1 (.tmp 89)),1,[0]⟩,
 ⟨mv 91 0,0,[]⟩,
 ⟨op 92 (.nilCheck (.tmp 91)),0,[]⟩,
 ⟨op 93 (.idxArr 4 1 (.tmp 92) (.const (.int .i64 (.ofNat 1)))),0,[]⟩,
 ⟨op 94 (.load false 1 (.tmp 93)),1,[0]⟩,
 ⟨op 95 (.arith .add (.tmp 90) (.tmp 94)),0,[]⟩,
 ⟨op 96 (.nilCheck (.tmp 87)),0,[]⟩,
 ⟨op 97 (.idxArr 4 1 (.tmp 96) (.const (.int .i64 (.ofNat 2)))),0,[]⟩,
 ⟨⟨.none,.none,(.op (.store 1 (.tmp 97) (.tmp 95)))⟩,2,[]⟩])
 (.seq (.draw [⟨mv 98 0,0,[]⟩,
 ⟨mv 99 0,0,[]⟩,
 ⟨op 100 (.nilCheck (.tmp 99)),0,[]⟩,
 ⟨op 101 (.idxArr 4 1 (.tmp 100) (.const (.int .i64 (.ofNat 1)))),0,[]⟩,
 ⟨op 102 (.load false 1 (.tmp 101)),1,[0]⟩,
 ⟨⟨(.some 103),.none,(.call (.func 173) [(.tmp 102),(.const (.int .i64 (.ofNat 17)))])⟩,2,[]⟩,
 ⟨mv 104 0,0,[]⟩,
 ⟨op 105 (.nilCheck (.tmp 104)),0,[]⟩,
 ⟨op 106 (.idxArr 4 1 (.tmp 105) (.const (.int .i64 (.ofNat 2)))),0,[]⟩,
 ⟨op 107 (.load false 1 (.tmp 106)),1,[0,6]⟩,
 ⟨op 108 (.arith .xor (.tmp 103) (.tmp 107)),0,[]⟩,
 ⟨op 109 (.nilCheck (.tmp 98)),0,[]⟩,
 ⟨op 110 (.idxArr 4 1 (.tmp 109) (.const (.int .i64 (.ofNat 1)))),0,[]⟩,
 ⟨⟨.none,.none,(.op (.store 1 (.tmp 110) (.tmp 108)))⟩,2,[]⟩])
 (.draw [⟨mv 111 0,0,[]⟩,
 ⟨mv 112 0,0,[]⟩,
 ⟨op 113 (.nilCheck (.tmp 112)),0,[]⟩,
 ⟨op 114 (.idxArr 4 1 (.tmp 113) (.const (.int .i64 (.ofNat 2)))),0,[]⟩,
 ⟨op 115 (.load false 1 (.tmp 114)),1,[0]⟩,
 ⟨⟨(.some 116),.none,(.call (.func 173) [(.tmp 115),(.const (.int .i64 (.ofNat 32)))])⟩,2,[]⟩,
 ⟨op 117 (.nilCheck (.tmp 111)),0,[]⟩,
 ⟨op 118 (.idxArr 4 1 (.tmp 117) (.const (.int .i64 (.ofNat 2)))),0,[]⟩,
 ⟨⟨.none,.none,(.op (.store 1 (.tmp 118) (.tmp 116)))⟩,2,[]⟩])))))))))))
 (.ops [op 119 (.arith .add (.tmp 5) (.const (.int .i64 (.ofNat 1)))),
 mv 5 119]))))))), []⟩
def c130 : CFunc := ⟨23, (.seq (.ops [op 1 (.box 116 (.tmp 0)),
 op 2 (.move (.const (.bool false)))])
 (.seq (.ops [op 4 (.fieldAddr 1 (.tmp 1)),
 op 5 (.load false 1 (.tmp 4)),
 op 6 (.lenRow (.tmp 5)),
 mv 3 6])
 (.seq (.seq (.ops [mv 7 3,
 op 8 (.arith .eql (.tmp 7) (.const (.int .i64 (.ofNat 0))))])
 (.cond (.tmp 8) (.seq (.ops [op 9 (.fieldAddr 0 (.tmp 1)),
 op 10 (.load false 1 (.tmp 9)),
 op 11 (.un .not (.tmp 10)),
 mv 2 11])
 .ret)
 .skip))
 (.seq (.ops [mv 12 3,
 op 13 (.arith .leq (.tmp 12) (.const (.int .i64 (.ofNat 128)))),
 mv 14 13,
 ⟨(.some 15),(.some (14,true)),(.op (.fieldAddr 1 (.tmp 1)))⟩,
 ⟨(.some 16),(.some (14,true)),(.op (.load false 1 (.tmp 15)))⟩,
 ⟨(.some 17),(.some (14,true)),(.op (.move (.tmp 3)))⟩,
 ⟨(.some 18),(.some (14,true)),(.op (.arith .sub (.tmp 17) (.const (.int .i64 (.ofNat 1)))))⟩,
 ⟨(.some 19),(.some (14,true)),(.op (.idxRow 1 (.tmp 16) (.tmp 18)))⟩,
 ⟨(.some 20),(.some (14,true)),(.op (.load false 1 (.tmp 19)))⟩,
 ⟨(.some 21),(.some (14,true)),(.op (.arith .neq (.tmp 20) (.const (.int .u32 (.ofNat 0)))))⟩,
 op 22 (.pick (.tmp 14) (.tmp 21) (.const (.bool false))),
 mv 2 22])
 .ret)))), [.tmp 2]⟩
def c131 : CFunc := ⟨7, (.seq (.ops [op 1 (.box 116 (.tmp 0)),
 op 2 (.move (.const (.bool false)))])
 (.seq (.ops [op 3 (.fieldAddr 1 (.tmp 1)),
 op 4 (.load false 1 (.tmp 3)),
 op 5 (.lenRow (.tmp 4)),
 op 6 (.arith .eql (.tmp 5) (.const (.int .i64 (.ofNat 0)))),
 mv 2 6])
 .ret)), [.tmp 2]⟩
def c132 : CFunc := ⟨19, (.seq (.ops [op 1 (.box 116 (.tmp 0)),
 op 2 (.move (.const (.bool false)))])
 (.seq (.ops [op 3 (.fieldAddr 0 (.tmp 1)),
 op 4 (.load false 1 (.tmp 3)),
 op 5 (.un .not (.tmp 4)),
 mv 6 5,
 ⟨(.some 7),(.some (6,true)),(.op (.fieldAddr 1 (.tmp 1)))⟩,
 ⟨(.some 8),(.some (6,true)),(.op (.load false 1 (.tmp 7)))⟩,
 ⟨(.some 9),(.some (6,true)),(.op (.lenRow (.tmp 8)))⟩,
 ⟨(.some 10),(.some (6,true)),(.op (.arith .eql (.tmp 9) (.const (.int .i64 (.ofNat 1)))))⟩,
 op 11 (.pick (.tmp 6) (.tmp 10) (.const (.bool false))),
 mv 12 11,
 ⟨(.some 13),(.some (12,true)),(.op (.fieldAddr 1 (.tmp 1)))⟩,
 ⟨(.some 14),(.some (12,true)),(.op (.load false 1 (.tmp 13)))⟩,
 ⟨(.some 15),(.some (12,true)),(.op (.idxRow 1 (.tmp 14) (.const (.int .i64 (.ofNat 0)))))⟩,
 ⟨(.some 16),(.some (12,true)),(.op (.load false 1 (.tmp 15)))⟩,
 ⟨(.some 17),(.some (12,true)),(.op (.arith .eql (.tmp 16) (.const (.int .u32 (.ofNat 1)))))⟩,
 op 18 (.pick (.tmp 12) (.tmp 17) (.const (.bool false))),
 mv 2 18])
 .ret)), [.tmp 2]⟩
def c134 : CFunc := ⟨19, (.seq (.ops [op 4 (.move (.const (.int .i64 (.ofNat 0))))])
 (.seq (.seq (.ops [mv 6 0,
 op 7 (.lenRow (.tmp 6)),
 op 8 (.move (.const (.int .i64 (.ofNat 0))))])
 (.block 0 (.loop (.seq (.ops [op 9 (.arith .lss (.tmp 8) (.tmp 7))])
 (.seq (.cond (.tmp 9) .skip
 (.exit 0))
 (.seq (.block 1 (.seq (.ops [mv 10 8,
 mv 5 10])
 (.seq (.ops [mv 11 1,
 mv 12 0,
 mv 13 5,
 op 14 (.idxRow 1 (.tmp 12) (.tmp 13)),
 op 15 (.load false 1 (.tmp 14)),
 ⟨(.some 16),.none,(.call (.tmp 11) [(.tmp 15)])⟩])
 (.cond (.tmp 16) (.seq (.ops [mv 17 5,
 mv 4 17])
 .ret)
 .skip))))
 (.ops [op 18 (.arith .add (.tmp 8) (.const (.int .i64 (.ofNat 1)))),
 mv 8 18])))))))
 (.seq (.ops [op 4 (.move (.const (.int .i64 (.negSucc 0))))])
 .ret))), [.tmp 4]⟩
def c135 : CFunc := ⟨20, (.seq (.ops [mv 2 0,
 op 3 (.nilCheck (.tmp 2)),
 op 4 (.fieldAddr 0 (.tmp 3)),
 op 5 (.load false 1 (.tmp 4)),
 op 6 (.eq false .ptr (.tmp 5) (.const .nilPtr))])
 (.cond (.tmp 6) (.ops [mv 7 0,
 mv 8 0,
 op 9 (.toUnsafe (.tmp 8)),
 mv 10 9,
 op 11 (.fromUnsafe 110 [(109,2),(110,2),(111,2),(112,2),(452,3),(453,3)] (.tmp 10)),
 op 12 (.nilCheck (.tmp 7)),
 op 13 (.fieldAddr 0 (.tmp 12)),
 ⟨.none,.none,(.op (.store 1 (.tmp 13) (.tmp 11)))⟩])
 (.seq (.ops [mv 14 0,
 op 15 (.nilCheck (.tmp 14)),
 op 16 (.fieldAddr 0 (.tmp 15)),
 op 17 (.load false 1 (.tmp 16)),
 mv 18 0,
 op 19 (.eq true .ptr (.tmp 17) (.tmp 18))])
 (.cond (.tmp 19) .fail
 .skip)))), []⟩
def c136 : CFunc := ⟨18, (.seq (.ops [op 2 (.move (.const (.int .i64 (.ofNat 0))))])
 (.seq (.ops [op 3 (.move (.const (.int .i64 (.ofNat 0))))])
 (.seq (.seq (.ops [mv 6 0,
 op 7 (.lenRow (.tmp 6)),
 op 8 (.move (.const (.int .i64 (.ofNat 0))))])
 (.block 0 (.loop (.seq (.ops [op 9 (.arith .lss (.tmp 8) (.tmp 7))])
 (.seq (.cond (.tmp 9) .skip
 (.exit 0))
 (.seq (.block 1 (.seq (.ops [op 10 (.idxRow 1 (.tmp 6) (.tmp 8)),
 op 11 (.load false 1 (.tmp 10)),
 mv 5 11])
 (.seq (.ops [mv 12 5,
 mv 13 3,
 op 14 (.arith .neq (.tmp 12) (.tmp 13))])
 (.cond (.tmp 14) (.seq (.ops [mv 15 5,
 mv 2 15])
 .ret)
 .skip))))
 (.ops [op 16 (.arith .add (.tmp 8) (.const (.int .i64 (.ofNat 1)))),
 mv 8 16])))))))
 (.seq (.ops [mv 17 3,
 mv 2 17])
 .ret)))), [.tmp 2]⟩
def c137 : CFunc := ⟨20, (.seq (.ops [op 4 (.move (.const (.int .i64 (.ofNat 0))))])
 (.seq (.ops [mv 7 0,
 ⟨(.some 8),.none,(.call (.func 179) [(.tmp 7)])⟩,
 mv 5 8])
 (.seq (.ops [mv 9 1,
 ⟨(.some 10),.none,(.call (.func 179) [(.tmp 9)])⟩,
 mv 6 10])
 (.seq (.seq (.ops [mv 11 5])
 (.cond (.tmp 11) (.seq (.seq (.ops [mv 12 6])
 (.cond (.tmp 12) (.seq (.ops [op 4 (.move (.const (.int .i64 (.ofNat 0))))])
 .ret)
 .skip))
 (.seq (.ops [op 4 (.move (.const (.int .i64 (.negSucc 0))))])
 .ret))
 .skip))
 (.seq (.seq (.ops [mv 13 6])
 (.cond (.tmp 13) (.seq (.ops [op 4 (.move (.const (.int .i64 (.ofNat 1))))])
 .ret)
 .skip))
 (.seq (.seq (.ops [mv 14 0,
 mv 15 1,
 op 16 (.arith .lss (.tmp 14) (.tmp 15))])
 (.cond (.tmp 16) (.seq (.ops [op 4 (.move (.const (.int .i64 (.negSucc 0))))])
 .ret)
 .skip))
 (.seq (.seq (.ops [mv 17 0,
 mv 18 1,
 op 19 (.arith .gtr (.tmp 17) (.tmp 18))])
 (.cond (.tmp 19) (.seq (.ops [op 4 (.move (.const (.int .i64 (.ofNat 1))))])
 .ret)
 .skip))
 (.seq (.ops [op 4 (.move (.const (.int .i64 (.ofNat 0))))])
 .ret)))))))), [.tmp 4]⟩
def c139 : CFunc := ⟨49, (.seq (.ops [op 2 (.move (.const .nilSlice)),
 op 3 (.move (.const (.int .i64 (.ofNat 0)))),
 op 4 (.move (.const (.bool false)))])
 (.seq (.seq (.ops [mv 5 0])
 (.block 0 (.seq (.ops [op 7 (.arith .eql (.tmp 5) (.const (.int .i64 (.ofNat 1)))),
 mv 6 7])
 (.cond (.tmp 6) (.seq (.ops [op 2 (.move (.const .nilSlice)),
 op 3 (.move (.const (.int .i64 (.ofNat 1)))),
 op 4 (.move (.const (.bool false)))])
 .ret)
 (.seq (.ops [op 9 (.arith .eql (.tmp 5) (.const (.int .i64 (.ofNat 2)))),
 mv 8 9])
 (.cond (.tmp 8) (.seq (.ops [⟨(.some 10),.none,(.op (.buildSlice 3 [(.int .i64 (.ofNat 0))] 1 [(0,1,(.const (.int .i64 (.ofNat 0))))]))⟩,
 mv 2 10,
 op 3 (.move (.const (.int .i64 (.ofNat 1)))),
 op 4 (.move (.const (.bool false)))])
 .ret)
 (.seq (.ops [op 12 (.arith .eql (.tmp 5) (.const (.int .i64 (.ofNat 3)))),
 mv 11 12])
 (.cond (.tmp 11) (.seq (.ops [⟨(.some 13),.none,(.op (.buildSlice 3 [(.int .i64 (.ofNat 0))] 2 [(0,1,(.const (.int .i64 (.ofNat 1)))),(1,1,(.const (.int .i64 (.ofNat 1))))]))⟩,
 mv 2 13,
 op 3 (.move (.const (.int .i64 (.ofNat 2)))),
 op 4 (.move (.const (.bool false)))])
 .ret)
 (.seq (.ops [op 15 (.arith .eql (.tmp 5) (.const (.int .i64 (.ofNat 4)))),
 mv 14 15])
 (.cond (.tmp 14) (.seq (.ops [⟨(.some 16),.none,(.op (.buildSlice 3 [(.int .i64 (.ofNat 0))] 2 [(0,1,(.const (.int .i64 (.ofNat 2)))),(1,1,(.const (.int .i64 (.ofNat 2))))]))⟩,
 mv 2 16,
 op 3 (.move (.const (.int .i64 (.ofNat 1)))),
 op 4 (.move (.const (.bool false)))])
 .ret)
 (.seq (.ops [op 18 (.arith .eql (.tmp 5) (.const (.int .i64 (.ofNat 5)))),
 mv 17 18])
 (.cond (.tmp 17) (.seq (.ops [⟨(.some 19),.none,(.op (.buildSlice 3 [(.int .i64 (.ofNat 0))] 2 [(0,1,(.const (.int .i64 (.ofNat 1)))),(1,1,(.const (.int .i64 (.ofNat 1))))]))⟩,
 mv 2 19,
 op 3 (.move (.const (.int .i64 (.ofNat 3)))),
 op 4 (.move (.const (.bool false)))])
 .ret)
 (.seq (.seq (.ops [op 21 (.arith .eql (.tmp 5) (.const (.int .i64 (.ofNat 6)))),
 mv 20 21])
 (.cond (.tmp 20) .skip
 (.ops [op 22 (.arith .eql (.tmp 5) (.const (.int .i64 (.ofNat 7)))),
 mv 20 22])))
 (.cond (.tmp 20) (.seq (.ops [⟨(.some 23),.none,(.op (.buildSlice 3 [(.int .i64 (.ofNat 0))] 3 [(0,1,(.const (.int .i64 (.ofNat 1)))),(1,1,(.const (.int .i64 (.ofNat 1)))),(2,1,(.const (.int .i64 (.ofNat 1))))]))⟩,
 mv 2 23,
 op 3 (.move (.const (.int .i64 (.ofNat 3)))),
 op 4 (.move (.const (.bool false)))])
 .ret)
 (.seq (.ops [op 25 (.arith .eql (.tmp 5) (.const (.int .i64 (.ofNat 8)))),
 mv 24 25])
 (.cond (.tmp 24) (.seq (.ops [⟨(.some 26),.none,(.op (.buildSlice 3 [(.int .i64 (.ofNat 0))] 2 [(0,1,(.const (.int .i64 (.ofNat 2)))),(1,1,(.const (.int .i64 (.ofNat 3))))]))⟩,
 mv 2 26,
 op 3 (.move (.const (.int .i64 (.ofNat 1)))),
 op 4 (.move (.const (.bool true)))])
 .ret)
 (.seq (.ops [op 28 (.arith .eql (.tmp 5) (.const (.int .i64 (.ofNat 9)))),
 mv 27 28])
 (.cond (.tmp 27) (.seq (.ops [⟨(.some 29),.none,(.op (.buildSlice 3 [(.int .i64 (.ofNat 0))] 2 [(0,1,(.const (.int .i64 (.ofNat 3)))),(1,1,(.const (.int .i64 (.ofNat 3))))]))⟩,
 mv 2 29,
 op 3 (.move (.const (.int .i64 (.ofNat 1)))),
 op 4 (.move (.const (.bool true)))])
 .ret)
 (.seq (.seq (.ops [op 31 (.arith .eql (.tmp 5) (.const (.int .i64 (.ofNat 10)))),
 mv 30 31])
 (.cond (.tmp 30) .skip
 (.ops [op 32 (.arith .eql (.tmp 5) (.const (.int .i64 (.ofNat 11)))),
 mv 30 32])))
 (.cond (.tmp 30) (.seq (.ops [⟨(.some 33),.none,(.op (.buildSlice 3 [(.int .i64 (.ofNat 0))] 2 [(0,1,(.const (.int .i64 (.ofNat 1)))),(1,1,(.const (.int .i64 (.ofNat 2))))]))⟩,
 mv 2 33,
 op 3 (.move (.const (.int .i64 (.ofNat 2)))),
 op 4 (.move (.const (.bool false)))])
 .ret)
 (.seq (.ops [op 35 (.arith .eql (.tmp 5) (.const (.int .i64 (.ofNat 12)))),
 mv 34 35])
 (.cond (.tmp 34) (.seq (.ops [⟨(.some 36),.none,(.op (.buildSlice 3 [(.int .i64 (.ofNat 0))] 2 [(0,1,(.const (.int .i64 (.ofNat 1)))),(1,1,(.const (.int .i64 (.ofNat 1))))]))⟩,
 mv 2 36,
 op 3 (.move (.const (.int .i64 (.ofNat 1)))),
 op 4 (.move (.const (.bool false)))])
 .ret)
 (.seq (.ops [op 38 (.arith .eql (.tmp 5) (.const (.int .i64 (.ofNat 13)))),
 mv 37 38])
 (.cond (.tmp 37) (.seq (.ops [⟨(.some 39),.none,(.op (.buildSlice 3 [(.int .i64 (.ofNat 0))] 2 [(0,1,(.const (.int .i64 (.ofNat 1)))),(1,1,(.const (.int .i64 (.ofNat 2))))]))⟩,
 mv 2 39,
 op 3 (.move (.const (.int .i64 (.ofNat 1)))),
 op 4 (.move (.const (.bool false)))])
 .ret)
 (.seq (.ops [op 41 (.arith .eql (.tmp 5) (.const (.int .i64 (.ofNat 14)))),
 mv 40 41])
 (.cond (.tmp 40) (.seq (.ops [⟨(.some 42),.none,(.op (.buildSlice 3 [(.int .i64 (.ofNat 0))] 3 [(0,1,(.const (.int .i64 (.ofNat 1)))),(1,1,(.const (.int .i64 (.ofNat 1)))),(2,1,(.const (.int .i64 (.ofNat 1))))]))⟩,
 mv 2 42,
 op 3 (.move (.const (.int .i64 (.ofNat 2)))),
 op 4 (.move (.const (.bool true)))])
 .ret)
 (.seq (.ops [op 44 (.arith .eql (.tmp 5) (.const (.int .i64 (.ofNat 15)))),
 mv 43 44])
 (.cond (.tmp 43) (.seq (.ops [⟨(.some 45),.none,(.op (.buildSlice 3 [(.int .i64 (.ofNat 0))] 2 [(0,1,(.const (.int .i64 (.ofNat 1)))),(1,1,(.const (.int .i64 (.ofNat 3))))]))⟩,
 mv 2 45,
 op 3 (.move (.const (.int .i64 (.ofNat 2)))),
 op 4 (.move (.const (.bool true)))])
 .ret)
 (.seq (.ops [op 47 (.arith .eql (.tmp 5) (.const (.int .i64 (.ofNat 16)))),
 mv 46 47])
 (.cond (.tmp 46) (.seq (.ops [⟨(.some 48),.none,(.op (.buildSlice 3 [(.int .i64 (.ofNat 0))] 1 [(0,1,(.const (.int .i64 (.ofNat 3))))]))⟩,
 mv 2 48,
 op 3 (.move (.const (.int .i64 (.ofNat 1)))),
 op 4 (.move (.const (.bool false)))])
 .ret)
 .skip))))))))))))))))))))))))))))))
 (.seq (.ops [op 2 (.move (.const .nilSlice)),
 op 3 (.move (.const (.int .i64 (.ofNat 0)))),
 op 4 (.move (.const (.bool false)))])
 .ret))), [.tmp 2, .tmp 3, .tmp 4]⟩
def c143 : CFunc := ⟨9, (.seq (.ops [op 4 (.move (.const (.bool false)))])
 (.seq (.ops [mv 5 0,
 mv 6 1,
 ⟨(.some 7),.none,(.call (.func 105) [(.tmp 5),(.tmp 6)])⟩,
 op 8 (.arith .geq (.tmp 7) (.const (.int .i64 (.ofNat 0)))),
 mv 4 8])
 .ret)), [.tmp 4]⟩
def c144 : CFunc := ⟨9, (.seq (.ops [op 2 (.box 132 (.tmp 0)),
 op 3 (.move (.const (.bool false)))])
 (.seq (.ops [op 4 (.fieldAddr 0 (.tmp 2)),
 op 5 (.load false 1 (.tmp 4)),
 op 6 (.fieldAddr 0 (.tmp 1)),
 op 7 (.load false 1 (.tmp 6)),
 op 8 (.arith .eql (.tmp 5) (.tmp 7)),
 mv 3 8])
 .ret)), [.tmp 3]⟩
end Go.Proofs.YtiecbbepfjiceaaGreatDoor
