/- The functions of chapter 15 as shadow code. No conditions. -/
import Derived.Test.YtdnhajjjaldhkaaVAD
import Derived.KernelRfl
import Derived.Test.YtdnhajjjaldhkaaChecked
set_option linter.unusedVariables false
set_option maxRecDepth 100000
namespace Go.Vam.C15
open Go.Proofs
def vc5_1 : VC := .post (.ops [⟨some 3, (.box (.t 0)), none⟩,
  ⟨some 5, (.box (.t 2)), none⟩,
  ⟨some 6, (.mov (.c (D.b false))), none⟩] false) (.keep [1, 3, 5] [])
def vc5_3 : VC := .post (.ops [⟨some 12, (.fld (.t 3) 0), none⟩,
  ⟨some 13, (.ldF (.t 12)), none⟩,
  ⟨some 14, (.fld (.t 3) 1), none⟩,
  ⟨some 15, (.ldF (.t 14)), none⟩,
  ⟨some 8, .alA, none⟩,
  ⟨some 7, (.mov (.t 13)), none⟩,
  ⟨none, (.ini 8 (.t 15)), none⟩] true) (.keep [1, 5, 7, 8] [])
def vc5_5 : VC := (.seq (.post (.ops [⟨some 16, (.call 7 [] []), none⟩, ⟨some 17, (.un .not (.t 16)), none⟩, ⟨some 18, (.mov (.t 17)), none⟩, ⟨some 19, (.fld (.t 8) 2), some (18, false)⟩, ⟨some 20, (.ldF (.t 19)), some (18, false)⟩, ⟨some 21, (.len (.t 20)), some (18, false)⟩, ⟨some 22, (.bin .gtI (.t 21) (.c (D.i 100))), some (18, false)⟩, ⟨some 23, (.pick (.t 18) (.c (D.b true)) (.t 22)), none⟩, ⟨some 24, (.mov (.t 23)), none⟩, ⟨some 25, (.fld (.t 5) 3), some (24, false)⟩, ⟨some 26, (.ldF (.t 25)), some (24, false)⟩, ⟨some 27, (.lenS (.t 26)), some (24, false)⟩, ⟨some 28, (.bin .gtI (.t 27) (.c (D.i 100))), some (24, false)⟩, ⟨some 29, (.pick (.t 24) (.c (D.b true)) (.t 28)), none⟩] false) (.keep [1, 5, 7, 8, 29] [])) (.cond (.t 29) (.pre (.keep [] []) (.seq (.post (.ops [⟨some 30, (.call 7 [] []), none⟩, ⟨some 6, (.mov (.t 30)), none⟩] false) (.keep [6] [])) .ret)) (.pre (.keep [1, 5, 7, 8] []) .skip)))
def vc5_14 : VC := .post (.ops [⟨some 31, (.mov (.t 1)), none⟩,
  ⟨some 32, (.bsl .f [(D.s []), (D.s []), (D.s []), (D.s []), (D.s []), (D.s []), (D.s [])] [(0, (.t 31)), (1, (.c (D.s [61]))), (2, (.c (D.s [60, 62]))), (3, (.c (D.s [60]))), (4, (.c (D.s [60, 61]))), (5, (.c (D.s [62]))), (6, (.c (D.s [62, 61])))]), none⟩,
  ⟨some 33, (.len (.t 32)), none⟩,
  ⟨some 34, (.mov (.c (D.i 0))), none⟩] false) (.keep [5, 7, 8, 32, 33, 34] [])
def vc5_18 : VC := .post (.ops [⟨some 35, (.bin .ltI (.t 34) (.t 33)), none⟩] false) (.keep [5, 7, 8, 32, 33, 34, 35] [])
def vc5_20 : VC := (.cond (.t 35) (.pre (.keep [5, 7, 8, 32, 33, 34] []) .skip) (.pre (.keep [] []) (.exit 0)))
def vc5_26 : VC := .post (.ops [⟨some 36, (.ixa (.t 32) (.t 34)), none⟩,
  ⟨some 37, (.ldF (.t 36)), none⟩,
  ⟨some 10, (.mov (.t 37)), none⟩] false) (.keep [5, 7, 8, 10, 32, 33, 34] [])
def vc5_28 : VC := .post (.ops [⟨some 38, (.mov (.t 7)), none⟩,
  ⟨some 39, (.ldF (.t 8)), none⟩,
  ⟨some 40, (.mov (.t 10)), none⟩,
  ⟨some 41, (.ldF (.t 5)), none⟩,
  ⟨some 42, (.call 12 [(.t 38), (.t 39), (.t 40), (.t 41)] []), none⟩,
  ⟨some 11, (.mov (.t 42)), none⟩] false) (.keep [5, 7, 8, 10, 11, 32, 33, 34] [])
def vc5_30 : VC := .post (.ops [⟨some 43, (.mov (.t 11)), none⟩,
  ⟨some 44, (.mov (.t 7)), none⟩,
  ⟨some 45, (.ldF (.t 8)), none⟩,
  ⟨some 46, (.mov (.t 10)), none⟩,
  ⟨some 47, (.ldF (.t 5)), none⟩,
  ⟨some 48, (.call 13 [(.t 44), (.t 45), (.t 46), (.t 47)] []), none⟩,
  ⟨some 49, (.bin .neI (.t 43) (.t 48)), none⟩,
  ⟨some 50, (.mov (.t 49)), none⟩,
  ⟨some 51, (.mov (.t 11)), some (50, false)⟩,
  ⟨some 52, (.bin .ltI (.t 51) (.c (D.i 0))), some (50, false)⟩,
  ⟨some 53, (.pick (.t 50) (.c (D.b true)) (.t 52)), none⟩,
  ⟨some 54, (.mov (.t 53)), none⟩,
  ⟨some 55, (.mov (.t 11)), some (54, false)⟩,
  ⟨some 56, (.bin .gtI (.t 55) (.c (D.i 1000))), some (54, false)⟩,
  ⟨some 57, (.pick (.t 54) (.c (D.b true)) (.t 56)), none⟩,
  ⟨some 58, (.mov (.t 57)), none⟩,
  ⟨some 59, (.mov (.t 10)), some (58, false)⟩,
  ⟨some 60, (.call 14 [(.t 59)] []), some (58, false)⟩,
  ⟨some 61, (.mov (.t 10)), some (58, false)⟩,
  ⟨some 62, (.call 15 [(.t 61)] []), some (58, false)⟩,
  ⟨some 63, (.bin .sne (.t 60) (.t 62)), some (58, false)⟩,
  ⟨some 64, (.pick (.t 58) (.c (D.b true)) (.t 63)), none⟩,
  ⟨some 65, (.mov (.t 64)), none⟩,
  ⟨some 66, (.mov (.t 10)), some (65, false)⟩,
  ⟨some 67, (.call 14 [(.t 66)] []), some (65, false)⟩,
  ⟨some 68, (.call 14 [(.t 67)] []), some (65, false)⟩,
  ⟨some 69, (.mov (.t 10)), some (65, false)⟩,
  ⟨some 70, (.bin .sne (.t 68) (.t 69)), some (65, false)⟩,
  ⟨some 71, (.pick (.t 65) (.c (D.b true)) (.t 70)), none⟩] false) (.keep [5, 7, 8, 32, 33, 34, 71] [])
def vc5_31 : VC := (.cond (.t 71) (.pre (.keep [] []) (.seq (.post (.ops [⟨some 6, (.mov (.c (D.b false))), none⟩] false) (.keep [6] [])) .ret)) (.pre (.keep [5, 7, 8, 32, 33, 34] []) .skip))
def vc5_29 : VC := .seq vc5_30 vc5_31
def vc5_27 : VC := .seq vc5_28 vc5_29
def vc5_25 : VC := .seq vc5_26 vc5_27
def vc5_24 : VC := .block 1 vc5_25
def vc5_36 : VC := .post (.ops [⟨some 72, (.bin (.add .i64) (.t 34) (.c (D.i 1))), none⟩,
  ⟨some 34, (.mov (.t 72)), none⟩] false) (.keep [5, 7, 8, 32, 33, 34] [])
def vc5_23 : VC := .seq vc5_24 vc5_36
def vc5_19 : VC := .seq vc5_20 vc5_23
def vc5_17 : VC := .seq vc5_18 vc5_19
def vc5_16 : VC := .loop vc5_17
def vc5_15 : VC := .block 0 vc5_16
def vc5_13 : VC := .seq vc5_14 vc5_15
def vc5_37 : VC := (.seq (.post (.ops [⟨some 6, (.mov (.c (D.b true))), none⟩] false) (.keep [6] [])) .ret)
def vc5_12 : VC := .seq vc5_13 vc5_37
def vc5_4 : VC := .seq vc5_5 vc5_12
def vc5_2 : VC := .seq vc5_3 vc5_4
def vc5_0 : VC := .seq vc5_1 vc5_2
def vc6_1 : VC := .post (.ops [⟨some 3, (.box (.t 0)), none⟩,
  ⟨some 6, (.mov (.c (D.b false))), none⟩] false) (.keep [1, 2, 3] [])
def vc6_3 : VC := (.seq (.post (.ops [⟨some 17, (.call 7 [] []), none⟩, ⟨some 18, (.un .not (.t 17)), none⟩, ⟨some 19, (.mov (.t 18)), none⟩, ⟨some 20, (.ldF (.t 3)), some (19, false)⟩, ⟨some 21, (.call 16 [(.t 20), (.c (D.i 200))] []), some (19, false)⟩, ⟨some 22, (.bin .gtI (.t 21) (.c (D.i 200))), some (19, false)⟩, ⟨some 23, (.pick (.t 19) (.c (D.b true)) (.t 22)), none⟩, ⟨some 24, (.mov (.t 23)), none⟩, ⟨some 25, (.mov (.t 1)), some (24, false)⟩, ⟨some 26, (.len (.t 25)), some (24, false)⟩, ⟨some 27, (.bin .gtI (.t 26) (.c (D.i 30))), some (24, false)⟩, ⟨some 28, (.pick (.t 24) (.c (D.b true)) (.t 27)), none⟩, ⟨some 29, (.mov (.t 28)), none⟩, ⟨some 30, (.mov (.t 2)), some (29, false)⟩, ⟨some 31, (.len (.t 30)), some (29, false)⟩, ⟨some 32, (.bin .gtI (.t 31) (.c (D.i 30))), some (29, false)⟩, ⟨some 33, (.pick (.t 29) (.c (D.b true)) (.t 32)), none⟩] false) (.keep [1, 2, 3, 33] [])) (.cond (.t 33) (.pre (.keep [] []) (.seq (.post (.ops [⟨some 34, (.call 7 [] []), none⟩, ⟨some 6, (.mov (.t 34)), none⟩] false) (.keep [6] [])) .ret)) (.pre (.keep [1, 2, 3] []) .skip)))
def vc6_12 : VC := .post (.ops [⟨some 35, (.mov (.t 2)), none⟩,
  ⟨some 36, (.len (.t 35)), none⟩,
  ⟨some 37, (.mov (.c (D.i 0))), none⟩] false) (.keep [1, 2, 3, 35, 36, 37] [])
def vc6_15 : VC := (.seq (.post (.ops [⟨some 38, (.bin .ltI (.t 37) (.t 36)), none⟩] false) (.keep [1, 2, 3, 35, 36, 37, 38] [])) (.seq (.cond (.t 38) (.pre (.keep [1, 2, 3, 35, 36, 37] []) .skip) (.pre (.keep [1, 2, 3] []) (.exit 0))) (.seq (.block 1 (.seq (.post (.ops [⟨some 39, (.ixa (.t 35) (.t 37)), none⟩, ⟨some 40, (.ldF (.t 39)), none⟩, ⟨some 8, .alA, none⟩, ⟨none, (.ini 8 (.t 40)), none⟩] false) (.keep [1, 2, 3, 8, 35, 36, 37] [])) (.seq (.post (.ops [⟨some 41, (.fld (.t 8) 2), none⟩, ⟨some 42, (.ldF (.t 41)), none⟩, ⟨some 43, (.len (.t 42)), none⟩, ⟨some 44, (.bin .gtI (.t 43) (.c (D.i 100))), none⟩] false) (.keep [1, 2, 3, 35, 36, 37, 44] [])) (.cond (.t 44) (.pre (.keep [] []) (.seq (.post (.ops [⟨some 6, (.mov (.c (D.b true))), none⟩] false) (.keep [6] [])) .ret)) (.pre (.keep [1, 2, 3, 35, 36, 37] []) .skip))))) (.post (.ops [⟨some 45, (.bin (.add .i64) (.t 37) (.c (D.i 1))), none⟩, ⟨some 37, (.mov (.t 45)), none⟩] false) (.keep [1, 2, 3, 35, 36, 37] [])))))
def vc6_14 : VC := .loop vc6_15
def vc6_13 : VC := .block 0 vc6_14
def vc6_11 : VC := .seq vc6_12 vc6_13
def vc6_34 : VC := .post (.ops [⟨some 47, (.ldF (.t 3)), none⟩,
  ⟨some 48, (.call 17 [(.t 47)] []), none⟩,
  ⟨some 46, (.mov (.t 48)), none⟩,
  ⟨some 49, (.ext (.t 46) 0), none⟩,
  ⟨some 50, (.ext (.t 46) 1), none⟩,
  ⟨some 51, (.ext (.t 46) 2), none⟩,
  ⟨some 52, (.ext (.t 46) 3), none⟩,
  ⟨some 11, .alA, none⟩,
  ⟨some 9, (.mov (.t 49)), none⟩,
  ⟨some 10, (.mov (.t 50)), none⟩,
  ⟨none, (.ini 11 (.t 51)), none⟩,
  ⟨some 12, (.mov (.t 52)), none⟩] false) (.keep [1, 2, 3, 9, 10, 11, 12] [])
def vc6_36 : VC := .post (.ops [⟨some 54, (.ldF (.t 3)), none⟩,
  ⟨some 55, (.call 18 [(.t 54)] []), none⟩,
  ⟨some 53, (.mov (.t 55)), none⟩,
  ⟨some 56, (.ext (.t 53) 0), none⟩,
  ⟨some 57, (.ext (.t 53) 1), none⟩,
  ⟨some 58, (.ext (.t 53) 2), none⟩,
  ⟨some 59, (.ext (.t 53) 3), none⟩,
  ⟨some 15, .alA, none⟩,
  ⟨some 13, (.mov (.t 56)), none⟩,
  ⟨some 14, (.mov (.t 57)), none⟩,
  ⟨none, (.ini 15 (.t 58)), none⟩,
  ⟨some 16, (.mov (.t 59)), none⟩] false) (.keep [1, 2, 3, 9, 10, 11, 12, 13, 14, 15, 16] [])
def vc6_39 : VC := .post (.ops [⟨some 60, (.mov (.t 9)), none⟩,
  ⟨some 61, (.mov (.t 13)), none⟩,
  ⟨some 62, (.bin .neI (.t 60) (.t 61)), none⟩,
  ⟨some 63, (.mov (.t 62)), none⟩,
  ⟨some 64, (.mov (.t 10)), some (63, false)⟩,
  ⟨some 65, (.mov (.t 14)), some (63, false)⟩,
  ⟨some 66, (.bin .sne (.t 64) (.t 65)), some (63, false)⟩,
  ⟨some 67, (.pick (.t 63) (.c (D.b true)) (.t 66)), none⟩,
  ⟨some 68, (.mov (.t 67)), none⟩,
  ⟨some 69, (.mov (.t 12)), some (68, false)⟩,
  ⟨some 70, (.mov (.t 16)), some (68, false)⟩,
  ⟨some 71, (.bin .neB (.t 69) (.t 70)), some (68, false)⟩,
  ⟨some 72, (.pick (.t 68) (.c (D.b true)) (.t 71)), none⟩,
  ⟨some 73, (.mov (.t 72)), none⟩,
  ⟨some 74, (.ldF (.t 11)), some (73, false)⟩,
  ⟨some 75, (.ldF (.t 15)), some (73, false)⟩,
  ⟨some 76, (.call 19 [(.t 74), (.t 75)] []), some (73, false)⟩,
  ⟨some 77, (.un .not (.t 76)), some (73, false)⟩,
  ⟨some 78, (.pick (.t 73) (.c (D.b true)) (.t 77)), none⟩,
  ⟨some 79, (.mov (.t 78)), none⟩,
  ⟨some 80, (.ldF (.t 3)), some (79, false)⟩,
  ⟨some 81, (.call 20 [(.t 80)] []), some (79, false)⟩,
  ⟨some 82, (.ldF (.t 3)), some (79, false)⟩,
  ⟨some 83, (.call 21 [(.t 82)] []), some (79, false)⟩,
  ⟨some 84, (.bin .neB (.t 81) (.t 83)), some (79, false)⟩,
  ⟨some 85, (.pick (.t 79) (.c (D.b true)) (.t 84)), none⟩] true) (.keep [1, 2, 3, 85] [])
def vc6_40 : VC := (.cond (.t 85) (.pre (.keep [] []) (.seq (.post (.ops [⟨some 6, (.mov (.c (D.b false))), none⟩] false) (.keep [6] [])) .ret)) (.pre (.keep [1, 2, 3] []) .skip))
def vc6_38 : VC := .seq vc6_39 vc6_40
def vc6_45 : VC := (.seq (.post (.ops [⟨some 86, (.ldF (.t 3)), none⟩, ⟨some 87, (.mov (.t 1)), none⟩, ⟨some 88, (.mov (.t 2)), none⟩, ⟨some 89, (.call 22 [(.t 86), (.t 87), (.t 88)] []), none⟩, ⟨some 90, (.ldF (.t 3)), none⟩, ⟨some 91, (.mov (.t 1)), none⟩, ⟨some 92, (.mov (.t 2)), none⟩, ⟨some 93, (.call 23 [(.t 90), (.t 91), (.t 92)] []), none⟩, ⟨some 94, (.bin .eqI (.t 89) (.t 93)), none⟩, ⟨some 6, (.mov (.t 94)), none⟩] true) (.keep [6] [])) .ret)
def vc6_37 : VC := .seq vc6_38 vc6_45
def vc6_35 : VC := .seq vc6_36 vc6_37
def vc6_33 : VC := .seq vc6_34 vc6_35
def vc6_10 : VC := .seq vc6_11 vc6_33
def vc6_2 : VC := .seq vc6_3 vc6_10
def vc6_0 : VC := .seq vc6_1 vc6_2
def vc7_0 : VC := (.seq (.post (.ops [⟨some 0, (.mov (.c (D.b false))), none⟩] false) (.keep [] [])) (.seq (.post (.ops [⟨some 1, (.mov (.fn 24)), none⟩] false) (.keep [1] [])) (.seq (.post (.ops [⟨some 3, (.mov (.t 1)), none⟩, ⟨some 4, (.callv (.t 3) [(.c (D.i 1))] [Ty.v 32, Ty.v 2] []), none⟩, ⟨some 5, (.mov (.t 1)), none⟩, ⟨some 6, (.callv (.t 5) [(.c (D.i 2))] [Ty.v 32, Ty.v 2] []), none⟩, ⟨some 7, (.mov (.t 1)), none⟩, ⟨some 8, (.callv (.t 7) [(.c (D.i 2))] [Ty.v 32, Ty.v 2] []), none⟩, ⟨some 9, (.bsl .f [] []), none⟩, ⟨some 10, (.bsl .f [(D.sz []), (D.sz []), (D.sz []), (D.sz [])] [(0, (.t 4)), (1, (.t 6)), (2, (.t 8)), (3, (.t 9))]), none⟩, ⟨some 11, (.call 9 [(.c (D.i 1)), (.t 10)] []), none⟩, ⟨some 2, .alA, none⟩, ⟨none, (.ini 2 (.t 11)), none⟩] false) (.keep [2] [])) (.seq (.post (.ops [⟨some 12, (.fld (.t 2) 0), none⟩, ⟨some 13, (.ldF (.t 12)), none⟩, ⟨some 14, (.bin .eqI (.t 13) (.c (D.i 4))), none⟩, ⟨some 15, (.mov (.t 14)), none⟩, ⟨some 16, (.fld (.t 2) 1), some (15, true)⟩, ⟨some 17, (.ldF (.t 16)), some (15, true)⟩, ⟨some 18, (.len (.t 17)), some (15, true)⟩, ⟨some 19, (.bin .eqI (.t 18) (.c (D.i 1))), some (15, true)⟩, ⟨some 20, (.pick (.t 15) (.t 19) (.c (D.b false))), none⟩, ⟨some 21, (.mov (.t 20)), none⟩, ⟨some 22, (.fld (.t 2) 1), some (21, true)⟩, ⟨some 23, (.ldF (.t 22)), some (21, true)⟩, ⟨some 24, (.ixa (.t 23) (.c (D.i 0))), some (21, true)⟩, ⟨some 25, (.fld (.t 24) 0), some (21, true)⟩, ⟨some 26, (.ldF (.t 25)), some (21, true)⟩, ⟨some 27, (.bin .eqI (.t 26) (.c (D.i 2))), some (21, true)⟩, ⟨some 28, (.pick (.t 21) (.t 27) (.c (D.b false))), none⟩, ⟨some 29, (.mov (.t 28)), none⟩, ⟨some 30, (.fld (.t 2) 1), some (29, true)⟩, ⟨some 31, (.ldF (.t 30)), some (29, true)⟩, ⟨some 32, (.ixa (.t 31) (.c (D.i 0))), some (29, true)⟩, ⟨some 33, (.fld (.t 32) 1), some (29, true)⟩, ⟨some 34, (.ldF (.t 33)), some (29, true)⟩, ⟨some 35, (.bin .eqI (.t 34) (.c (D.i 1))), some (29, true)⟩, ⟨some 36, (.pick (.t 29) (.t 35) (.c (D.b false))), none⟩, ⟨some 37, (.mov (.t 36)), none⟩, ⟨some 38, (.fld (.t 2) 1), some (37, true)⟩, ⟨some 39, (.ldF (.t 38)), some (37, true)⟩, ⟨some 40, (.ixa (.t 39) (.c (D.i 0))), some (37, true)⟩, ⟨some 41, (.fld (.t 40) 2), some (37, true)⟩, ⟨some 42, (.ldF (.t 41)), some (37, true)⟩, ⟨some 43, (.len (.t 42)), some (37, true)⟩, ⟨some 44, (.bin .eqI (.t 43) (.c (D.i 9))), some (37, true)⟩, ⟨some 45, (.pick (.t 37) (.t 44) (.c (D.b false))), none⟩, ⟨some 46, (.mov (.t 45)), none⟩, ⟨some 47, (.fld (.t 2) 1), some (46, true)⟩, ⟨some 48, (.ldF (.t 47)), some (46, true)⟩, ⟨some 49, (.ixa (.t 48) (.c (D.i 0))), some (46, true)⟩, ⟨some 50, (.ldF (.t 49)), some (46, true)⟩, ⟨some 51, (.build (D.ag [(D.i 0), (D.i 0), (D.f 0), (D.s [])]) [(0, (.c (D.i 1))), (1, (.c (D.i 2)))]), some (46, true)⟩, ⟨some 52, (.call 12 [(.c (D.i 4)), (.t 50), (.c (D.s [61])), (.t 51)] []), some (46, true)⟩, ⟨some 53, (.bin .eqI (.t 52) (.c (D.i 375))), some (46, true)⟩, ⟨some 54, (.pick (.t 46) (.t 53) (.c (D.b false))), none⟩, ⟨some 0, (.mov (.t 54)), none⟩] false) (.keep [0] [])) .ret))))
def vc9_1 : VC := .post (.ops [⟨some 4, .alA, none⟩] false) (.keep [0, 1, 4] [])
def vc9_3 : VC := .post (.ops [⟨some 11, (.mov (.t 1)), none⟩,
  ⟨some 12, (.len (.t 11)), none⟩,
  ⟨some 13, (.build (D.ag [(D.i 0), (D.sz [])]) [(0, (.t 12))]), none⟩,
  ⟨some 5, (.alM 0 (.f (D.ag [(D.i 0), (D.sz [])]))), none⟩,
  ⟨none, (.st (.t 5) (.t 13)), none⟩] false) (.keep [0, 1, 4, 5] [0])
def vc9_6 : VC := .post (.ops [⟨some 14, (.mov (.t 0)), none⟩,
  ⟨some 15, (.mm false (.t 14) [(.c (D.i 6))]), none⟩,
  ⟨some 16, (.mm true (.c (D.i 0)) [(.t 15)]), none⟩,
  ⟨some 17, (.mov (.c (D.i 0))), none⟩] false) (.keep [1, 4, 5, 16, 17] [0])
def vc9_10 : VC := .post (.ops [⟨some 18, (.bin .ltI (.t 17) (.t 16)), none⟩] false) (.keep [1, 4, 5, 16, 17, 18] [0])
def vc9_12 : VC := (.cond (.t 18) (.pre (.keep [1, 4, 5, 16, 17] [0]) .skip) (.pre (.keep [4, 5] [0]) (.exit 0)))
def vc9_18 : VC := .post (.ops [⟨some 19, (.mov (.t 17)), none⟩,
  ⟨some 6, (.mov (.t 19)), none⟩] false) (.keep [1, 4, 5, 6, 16, 17] [0])
def vc9_20 : VC := .post (.ops [⟨some 7, (.nilw .o), none⟩] false) (.keep [1, 4, 5, 6, 7, 16, 17] [0])
def vc9_23 : VC := .post (.ops [⟨some 20, (.mov (.t 1)), none⟩,
  ⟨some 21, (.len (.t 20)), none⟩,
  ⟨some 22, (.mov (.c (D.i 0))), none⟩] false) (.keep [1, 4, 5, 6, 7, 16, 17, 20, 21, 22] [0])
def vc9_26 : VC := (.seq (.post (.ops [⟨some 23, (.bin .ltI (.t 22) (.t 21)), none⟩] false) (.keep [1, 4, 5, 6, 7, 16, 17, 20, 21, 22, 23] [0])) (.seq (.cond (.t 23) (.pre (.keep [1, 4, 5, 6, 7, 16, 17, 20, 21, 22] [0]) .skip) (.pre (.keep [1, 4, 5, 7, 16, 17] [0]) (.exit 2))) (.seq (.block 3 (.seq (.post (.ops [⟨some 24, (.ixa (.t 20) (.t 22)), none⟩, ⟨some 25, (.ldF (.t 24)), none⟩, ⟨some 9, (.mov (.t 25)), none⟩] false) (.keep [1, 4, 5, 6, 7, 9, 16, 17, 20, 21, 22] [0])) (.seq (.post (.ops [⟨some 26, (.mov (.t 6)), none⟩, ⟨some 27, (.build (D.ag [(D.i 0), (D.s []), (D.ag [(D.i 0), (D.i 0), (D.f 0), (D.s [])]), (D.i 0), (D.b false), (D.i 0), (D.sz [])]) [(0, (.c (D.i 2))), (3, (.t 26))]), none⟩, ⟨some 28, (.mov (.t 9)), none⟩, ⟨some 29, (.call 25 [(.t 27), (.t 28)] []), none⟩, ⟨some 10, .alA, none⟩, ⟨none, (.ini 10 (.t 29)), none⟩] false) (.keep [1, 4, 5, 6, 7, 10, 16, 17, 20, 21, 22] [0])) (.seq (.post (.ops [⟨some 30, (.fld (.t 10) 0), none⟩, ⟨some 31, (.ldF (.t 30)), none⟩, ⟨some 32, (.bin .neI (.t 31) (.c (D.i 0))), none⟩] false) (.keep [1, 4, 5, 6, 7, 10, 16, 17, 20, 21, 22, 32] [0])) (.cond (.t 32) (.pre (.keep [1, 4, 5, 6, 7, 10, 16, 17, 20, 21, 22] [0]) (.post (.ops [⟨some 33, (.tak 7), none⟩, ⟨some 34, (.ldF (.t 10)), none⟩, ⟨some 35, (.bsl .f [(D.ag [(D.i 0), (D.i 0), (D.f 0), (D.s [])])] [(0, (.t 34))]), none⟩, ⟨some 36, (.app .o 3518437208883 (.t 33) true (.t 35)), none⟩, ⟨some 7, (.tak 36), none⟩] false) (.keep [1, 4, 5, 6, 7, 16, 17, 20, 21, 22] [0]))) (.pre (.keep [1, 4, 5, 6, 7, 16, 17, 20, 21, 22] [0]) .skip)))))) (.post (.ops [⟨some 37, (.bin (.add .i64) (.t 22) (.c (D.i 1))), none⟩, ⟨some 22, (.mov (.t 37)), none⟩] false) (.keep [1, 4, 5, 6, 7, 16, 17, 20, 21, 22] [0])))))
def vc9_25 : VC := .loop vc9_26
def vc9_24 : VC := .block 2 vc9_25
def vc9_22 : VC := .seq vc9_23 vc9_24
def vc9_44 : VC := (.seq (.post (.ops [⟨some 38, (.mov (.t 7)), none⟩, ⟨some 39, (.call 26 [(.t 38), (.fn 27)] []), none⟩] false) (.keep [1, 4, 5, 7, 16, 17] [0])) (.post (.ops [⟨some 40, (.fld (.t 5) 1), none⟩, ⟨some 41, (.ldT (.t 40)), none⟩, ⟨some 42, (.mov (.t 7)), none⟩, ⟨some 43, (.mov (.t 1)), none⟩, ⟨some 44, (.len (.t 43)), none⟩, ⟨some 45, (.call 28 [(.t 42), (.t 44)] []), none⟩, ⟨some 46, (.bsl .f [(D.ag [(D.i 0), (D.i 0), (D.sz [])])] [(0, (.t 45))]), none⟩, ⟨some 47, (.app .o 3518437208883 (.t 41) true (.t 46)), none⟩, ⟨some 48, (.fld (.t 5) 1), none⟩, ⟨none, (.stT (.t 48) 47), none⟩] true) (.keep [1, 4, 5, 16, 17] [0])))
def vc9_21 : VC := .seq vc9_22 vc9_44
def vc9_19 : VC := .seq vc9_20 vc9_21
def vc9_17 : VC := .seq vc9_18 vc9_19
def vc9_16 : VC := .block 1 vc9_17
def vc9_47 : VC := .post (.ops [⟨some 49, (.bin (.add .i64) (.t 17) (.c (D.i 1))), none⟩,
  ⟨some 17, (.mov (.t 49)), none⟩] false) (.keep [1, 4, 5, 16, 17] [0])
def vc9_15 : VC := .seq vc9_16 vc9_47
def vc9_11 : VC := .seq vc9_12 vc9_15
def vc9_9 : VC := .seq vc9_10 vc9_11
def vc9_8 : VC := .loop vc9_9
def vc9_7 : VC := .block 0 vc9_8
def vc9_5 : VC := .seq vc9_6 (.pre (.opn 0 1) vc9_7)
def vc9_48 : VC := (.seq (.post (.ops [⟨some 50, (.ld (.t 5)), none⟩, ⟨none, (.ini 4 (.t 50)), none⟩] false) (.keep [4] [0])) .ret)
def vc9_4 : VC := .seq vc9_5 (.pre (.cls 0) vc9_48)
def vc9_2 : VC := .seq vc9_3 vc9_4
def vc9_0 : VC := .seq vc9_1 vc9_2
def vc10_1 : VC := .post (.ops [⟨some 1, (.box (.t 0)), none⟩,
  ⟨some 2, .alA, none⟩] false) (.keep [1, 2] [])
def vc10_3 : VC := .post (.ops [⟨some 4, (.build (D.ag [(D.i 0), (D.i 0), (D.f 0), (D.s [])]) []), none⟩,
  ⟨some 3, (.alM 0 (.f (D.ag [(D.i 0), (D.i 0), (D.f 0), (D.s [])]))), none⟩,
  ⟨none, (.st (.t 3) (.t 4)), none⟩] false) (.keep [1, 2, 3] [0])
def vc10_5 : VC := (.seq (.post (.ops [⟨some 5, (.fld (.t 1) 0), none⟩, ⟨some 6, (.ldF (.t 5)), none⟩, ⟨some 7, (.bin .ltI (.t 6) (.c (D.i 0))), none⟩, ⟨some 8, (.mov (.t 7)), none⟩, ⟨some 9, (.fld (.t 1) 0), some (8, false)⟩, ⟨some 10, (.ldF (.t 9)), some (8, false)⟩, ⟨some 11, (.bin .gtI (.t 10) (.c (D.i 4))), some (8, false)⟩, ⟨some 12, (.pick (.t 8) (.c (D.b true)) (.t 11)), none⟩] false) (.keep [1, 2, 3, 12] [0])) (.cond (.t 12) (.pre (.keep [2, 3] [0]) (.seq (.post (.ops [⟨some 13, (.ld (.t 3)), none⟩, ⟨none, (.ini 2 (.t 13)), none⟩] false) (.keep [2] [0])) .ret)) (.pre (.keep [1, 2, 3] [0]) .skip)))
def vc10_13 : VC := .post (.ops [⟨some 14, (.fld (.t 1) 0), none⟩,
  ⟨some 15, (.ldF (.t 14)), none⟩,
  ⟨some 16, (.fld (.t 3) 0), none⟩,
  ⟨none, (.st (.t 16) (.t 15)), none⟩] false) (.keep [1, 2, 3] [0])
def vc10_15 : VC := (.seq (.post (.ops [⟨some 17, (.fld (.t 1) 0), none⟩, ⟨some 18, (.ldF (.t 17)), none⟩, ⟨some 19, (.bin .eqI (.t 18) (.c (D.i 1))), none⟩] false) (.keep [1, 2, 3, 19] [0])) (.cond (.t 19) (.pre (.keep [1, 2, 3] [0]) (.post (.ops [⟨some 20, (.fld (.t 1) 1), none⟩, ⟨some 21, (.ldF (.t 20)), none⟩, ⟨some 22, (.fld (.t 3) 1), none⟩, ⟨none, (.st (.t 22) (.t 21)), none⟩] false) (.keep [1, 2, 3] [0]))) (.pre (.keep [1, 2, 3] [0]) .skip)))
def vc10_21 : VC := (.seq (.post (.ops [⟨some 23, (.fld (.t 1) 0), none⟩, ⟨some 24, (.ldF (.t 23)), none⟩, ⟨some 25, (.bin .eqI (.t 24) (.c (D.i 2))), none⟩, ⟨some 26, (.mov (.t 25)), none⟩, ⟨some 27, (.fld (.t 1) 2), some (26, true)⟩, ⟨some 28, (.ldF (.t 27)), some (26, true)⟩, ⟨some 29, (.bin .fne (.t 28) (.c (D.f 0))), some (26, true)⟩, ⟨some 30, (.pick (.t 26) (.t 29) (.c (D.b false))), none⟩] false) (.keep [1, 2, 3, 30] [0])) (.cond (.t 30) (.pre (.keep [1, 2, 3] [0]) (.post (.ops [⟨some 31, (.fld (.t 1) 2), none⟩, ⟨some 32, (.ldF (.t 31)), none⟩, ⟨some 33, (.fld (.t 3) 2), none⟩, ⟨none, (.st (.t 33) (.t 32)), none⟩] false) (.keep [1, 2, 3] [0]))) (.pre (.keep [1, 2, 3] [0]) .skip)))
def vc10_26 : VC := (.seq (.seq (.post (.ops [⟨some 34, (.fld (.t 1) 0), none⟩, ⟨some 35, (.ldF (.t 34)), none⟩, ⟨some 36, (.bin .eqI (.t 35) (.c (D.i 3))), none⟩] false) (.keep [1, 2, 3, 36] [0])) (.cond (.t 36) (.pre (.keep [1, 2, 3] [0]) (.post (.ops [⟨some 37, (.fld (.t 1) 3), none⟩, ⟨some 38, (.ldF (.t 37)), none⟩, ⟨some 39, (.fld (.t 3) 3), none⟩, ⟨none, (.st (.t 39) (.t 38)), none⟩] false) (.keep [1, 2, 3] [0]))) (.pre (.keep [1, 2, 3] [0]) .skip))) (.seq (.seq (.post (.ops [⟨some 40, (.fld (.t 1) 0), none⟩, ⟨some 41, (.ldF (.t 40)), none⟩, ⟨some 42, (.bin .eqI (.t 41) (.c (D.i 4))), none⟩, ⟨some 43, (.mov (.t 42)), none⟩, ⟨some 44, (.fld (.t 1) 1), some (43, true)⟩, ⟨some 45, (.ldF (.t 44)), some (43, true)⟩, ⟨some 46, (.bin .neI (.t 45) (.c (D.i 0))), some (43, true)⟩, ⟨some 47, (.pick (.t 43) (.t 46) (.c (D.b false))), none⟩] false) (.keep [2, 3, 47] [0])) (.cond (.t 47) (.pre (.keep [2, 3] [0]) (.post (.ops [⟨some 48, (.fld (.t 3) 1), none⟩, ⟨none, (.st (.t 48) (.c (D.i 1))), none⟩] false) (.keep [2, 3] [0]))) (.pre (.keep [2, 3] [0]) .skip))) (.seq (.post (.ops [⟨some 49, (.ld (.t 3)), none⟩, ⟨none, (.ini 2 (.t 49)), none⟩] false) (.keep [2] [0])) .ret)))
def vc10_20 : VC := .seq vc10_21 vc10_26
def vc10_14 : VC := .seq vc10_15 vc10_20
def vc10_12 : VC := .seq vc10_13 vc10_14
def vc10_4 : VC := .seq vc10_5 vc10_12
def vc10_2 : VC := .seq vc10_3 vc10_4
def vc10_0 : VC := .seq vc10_1 vc10_2
def vc12_1 : VC := .post (.ops [⟨some 5, (.boxM 0 (.t 1)), none⟩,
  ⟨some 7, (.boxM 1 (.t 3)), none⟩,
  ⟨some 8, (.mov (.c (D.i 0))), none⟩] false) (.keep [0, 2, 5, 7] [0, 1])
def vc12_3 : VC := .post (.ops [⟨some 13, (.mov (.t 0)), none⟩,
  ⟨some 14, (.ld (.t 5)), none⟩,
  ⟨some 15, (.call 29 [(.t 13), (.t 14)] []), none⟩,
  ⟨some 12, (.mov (.t 15)), none⟩,
  ⟨some 16, (.ext (.t 12) 0), none⟩,
  ⟨some 17, (.ext (.t 12) 1), none⟩,
  ⟨some 0, (.mov (.t 16)), none⟩,
  ⟨none, (.st (.t 5) (.t 17)), none⟩] false) (.keep [0, 2, 5, 7] [0, 1])
def vc12_5 : VC := .post (.ops [⟨some 18, (.ld (.t 7)), none⟩,
  ⟨some 19, (.call 30 [(.t 18)] []), none⟩,
  ⟨none, (.st (.t 7) (.t 19)), none⟩] false) (.keep [0, 2, 5, 7] [1])
def vc12_7 : VC := (.seq (.post (.ops [⟨some 20, (.mov (.t 0)), none⟩, ⟨some 21, (.bin .eqI (.t 20) (.c (D.i 0))), none⟩, ⟨some 22, (.mov (.t 21)), none⟩, ⟨some 23, (.fld (.t 7) 0), some (22, false)⟩, ⟨some 24, (.ldF (.t 23)), some (22, false)⟩, ⟨some 25, (.bin .eqI (.t 24) (.c (D.i 0))), some (22, false)⟩, ⟨some 26, (.pick (.t 22) (.c (D.b true)) (.t 25)), none⟩] false) (.keep [0, 2, 5, 7, 26] [])) (.cond (.t 26) (.pre (.keep [] []) (.seq (.post (.ops [⟨some 8, (.mov (.c (D.i 0))), none⟩] false) (.keep [8] [])) .ret)) (.pre (.keep [0, 2, 5, 7] []) .skip)))
def vc12_15 : VC := .post (.ops [⟨some 27, (.mov (.t 0)), none⟩,
  ⟨some 28, (.fld (.t 5) 1), none⟩,
  ⟨some 29, (.ldF (.t 28)), none⟩,
  ⟨some 30, (.bin (.sub .i64) (.t 27) (.t 29)), none⟩,
  ⟨some 31, (.bin (.mul .i64) (.c (D.i 1000)) (.t 30)), none⟩,
  ⟨some 32, (.mov (.t 0)), none⟩,
  ⟨some 33, (.bin (.quo .i64) (.t 31) (.t 32)), none⟩,
  ⟨some 9, .alA, none⟩,
  ⟨none, (.ini 9 (.t 33)), none⟩] false) (.keep [2, 5, 7, 9] [])
def vc12_17 : VC := .post (.ops [⟨some 10, (.mov (.c (D.i 0))), none⟩] false) (.keep [2, 5, 7, 9, 10] [])
def vc12_19 : VC := (.seq (.post (.ops [⟨some 34, (.fld (.t 5) 0), none⟩, ⟨some 35, (.ldF (.t 34)), none⟩, ⟨some 36, (.bin .gtI (.t 35) (.c (D.i 0))), none⟩] false) (.keep [2, 5, 7, 9, 10, 36] [])) (.cond (.t 36) (.pre (.keep [2, 5, 7, 9] []) (.post (.ops [⟨some 37, (.ldF (.t 9)), none⟩, ⟨some 38, (.fld (.t 5) 0), none⟩, ⟨some 39, (.ldF (.t 38)), none⟩, ⟨some 40, (.bin (.quo .i64) (.t 37) (.t 39)), none⟩, ⟨some 41, (.mm true (.c (D.i 1)) [(.t 40)]), none⟩, ⟨some 10, (.mov (.t 41)), none⟩] false) (.keep [2, 5, 7, 9, 10] []))) (.pre (.keep [2, 5, 7, 9, 10] []) .skip)))
def vc12_24 : VC := (.seq (.post (.ops [⟨some 42, (.clo 31 [(.t 7), (.t 5), (.t 9)] [Ty.p 35, Ty.p 31, Ty.p 2]), none⟩, ⟨some 11, (.mov (.t 42)), none⟩] false) (.keep [2, 7, 9, 10, 11] [])) (.seq (.seq (.post (.ops [⟨some 43, (.mov (.t 2)), none⟩] false) (.keep [7, 9, 10, 11, 43] [])) (.block 0 (.seq (.post (.ops [⟨some 45, (.bin .seq (.t 43) (.c (D.s [61]))), none⟩, ⟨some 44, (.mov (.t 45)), none⟩] false) (.keep [7, 9, 10, 11, 43, 44] [])) (.cond (.t 44) (.pre (.keep [10] []) (.seq (.post (.ops [⟨some 46, (.mov (.t 10)), none⟩, ⟨some 8, (.mov (.t 46)), none⟩] false) (.keep [8] [])) .ret)) (.pre (.keep [7, 9, 10, 11, 43] []) (.seq (.post (.ops [⟨some 48, (.bin .seq (.t 43) (.c (D.s [60, 62]))), none⟩, ⟨some 47, (.mov (.t 48)), none⟩] false) (.keep [7, 9, 10, 11, 43, 47] [])) (.cond (.t 47) (.pre (.keep [9, 10] []) (.seq (.post (.ops [⟨some 49, (.ldF (.t 9)), none⟩, ⟨some 50, (.mov (.t 10)), none⟩, ⟨some 51, (.bin (.sub .i64) (.t 49) (.t 50)), none⟩, ⟨some 52, (.mm true (.c (D.i 0)) [(.t 51)]), none⟩, ⟨some 8, (.mov (.t 52)), none⟩] false) (.keep [8] [])) .ret)) (.pre (.keep [7, 9, 11, 43] []) (.seq (.post (.ops [⟨some 54, (.bin .seq (.t 43) (.c (D.s [60]))), none⟩, ⟨some 53, (.mov (.t 54)), none⟩] false) (.keep [7, 9, 11, 43, 53] [])) (.cond (.t 53) (.pre (.keep [7, 11] []) (.seq (.post (.ops [⟨some 55, (.mov (.t 11)), none⟩, ⟨some 56, (.clo 32 [(.t 7)] [Ty.p 35]), none⟩, ⟨some 57, (.callv (.t 55) [(.t 56)] [Ty.v 2, Ty.v 63] []), none⟩, ⟨some 8, (.mov (.t 57)), none⟩] false) (.keep [8] [])) .ret)) (.pre (.keep [7, 9, 11, 43] []) (.seq (.post (.ops [⟨some 59, (.bin .seq (.t 43) (.c (D.s [60, 61]))), none⟩, ⟨some 58, (.mov (.t 59)), none⟩] false) (.keep [7, 9, 11, 43, 58] [])) (.cond (.t 58) (.pre (.keep [7, 11] []) (.seq (.post (.ops [⟨some 60, (.mov (.t 11)), none⟩, ⟨some 61, (.clo 33 [(.t 7)] [Ty.p 35]), none⟩, ⟨some 62, (.callv (.t 60) [(.t 61)] [Ty.v 2, Ty.v 63] []), none⟩, ⟨some 8, (.mov (.t 62)), none⟩] false) (.keep [8] [])) .ret)) (.pre (.keep [7, 9, 11, 43] []) (.seq (.post (.ops [⟨some 64, (.bin .seq (.t 43) (.c (D.s [62]))), none⟩, ⟨some 63, (.mov (.t 64)), none⟩] false) (.keep [7, 9, 11, 43, 63] [])) (.cond (.t 63) (.pre (.keep [7, 11] []) (.seq (.post (.ops [⟨some 65, (.mov (.t 11)), none⟩, ⟨some 66, (.clo 34 [(.t 7)] [Ty.p 35]), none⟩, ⟨some 67, (.callv (.t 65) [(.t 66)] [Ty.v 2, Ty.v 63] []), none⟩, ⟨some 8, (.mov (.t 67)), none⟩] false) (.keep [8] [])) .ret)) (.pre (.keep [7, 9, 11, 43] []) (.seq (.post (.ops [⟨some 69, (.bin .seq (.t 43) (.c (D.s [62, 61]))), none⟩, ⟨some 68, (.mov (.t 69)), none⟩] false) (.keep [7, 9, 11, 68] [])) (.cond (.t 68) (.pre (.keep [7, 11] []) (.seq (.post (.ops [⟨some 70, (.mov (.t 11)), none⟩, ⟨some 71, (.clo 35 [(.t 7)] [Ty.p 35]), none⟩, ⟨some 72, (.callv (.t 70) [(.t 71)] [Ty.v 2, Ty.v 63] []), none⟩, ⟨some 8, (.mov (.t 72)), none⟩] false) (.keep [8] [])) .ret)) (.pre (.keep [9] []) .skip)))))))))))))))))))) (.seq (.post (.ops [⟨some 73, (.ldF (.t 9)), none⟩, ⟨some 74, (.bin (.quo .i64) (.t 73) (.c (D.i 3))), none⟩, ⟨some 8, (.mov (.t 74)), none⟩] false) (.keep [8] [])) .ret)))
def vc12_18 : VC := .seq vc12_19 vc12_24
def vc12_16 : VC := .seq vc12_17 vc12_18
def vc12_14 : VC := .seq vc12_15 vc12_16
def vc12_6 : VC := .seq vc12_7 vc12_14
def vc12_4 : VC := .seq vc12_5 (.pre (.frz 1) vc12_6)
def vc12_2 : VC := .seq vc12_3 (.pre (.frz 0) vc12_4)
def vc12_0 : VC := .seq vc12_1 vc12_2
def vc13_1 : VC := .post (.ops [⟨some 5, (.box (.t 1)), none⟩,
  ⟨some 7, (.boxM 0 (.t 3)), none⟩,
  ⟨some 8, (.mov (.c (D.i 0))), none⟩] false) (.keep [0, 2, 5, 7] [0])
def vc13_3 : VC := .post (.ops [⟨some 16, (.mov (.t 0)), none⟩,
  ⟨some 17, (.call 36 [(.t 16), (.c (D.i 1099511627776))] []), none⟩,
  ⟨some 0, (.mov (.t 17)), none⟩] false) (.keep [0, 2, 5, 7] [0])
def vc13_5 : VC := .post (.ops [⟨some 18, (.ld (.t 7)), none⟩,
  ⟨some 19, (.call 10 [(.t 18)] []), none⟩,
  ⟨none, (.st (.t 7) (.t 19)), none⟩] false) (.keep [0, 2, 5, 7] [0])
def vc13_7 : VC := (.seq (.post (.ops [⟨some 20, (.mov (.t 0)), none⟩, ⟨some 21, (.bin .eqI (.t 20) (.c (D.i 0))), none⟩, ⟨some 22, (.mov (.t 21)), none⟩, ⟨some 23, (.fld (.t 7) 0), some (22, false)⟩, ⟨some 24, (.ld (.t 23)), some (22, false)⟩, ⟨some 25, (.bin .eqI (.t 24) (.c (D.i 0))), some (22, false)⟩, ⟨some 26, (.pick (.t 22) (.c (D.b true)) (.t 25)), none⟩] false) (.keep [0, 2, 5, 7, 26] [0])) (.cond (.t 26) (.pre (.keep [] [0]) (.seq (.post (.ops [⟨some 8, (.mov (.c (D.i 0))), none⟩] false) (.keep [8] [0])) .ret)) (.pre (.keep [0, 2, 5, 7] [0]) .skip)))
def vc13_15 : VC := .post (.ops [⟨some 27, (.fld (.t 5) 1), none⟩,
  ⟨some 28, (.ldF (.t 27)), none⟩,
  ⟨some 29, (.mov (.t 0)), none⟩,
  ⟨some 30, (.call 36 [(.t 28), (.t 29)] []), none⟩,
  ⟨some 31, (.fld (.t 5) 0), none⟩,
  ⟨some 32, (.ldF (.t 31)), none⟩,
  ⟨some 33, (.mov (.t 0)), none⟩,
  ⟨some 34, (.call 36 [(.t 32), (.t 33)] []), none⟩,
  ⟨some 9, (.mov (.t 30)), none⟩,
  ⟨some 10, (.mov (.t 34)), none⟩] true) (.keep [0, 2, 5, 7, 9, 10] [0])
def vc13_17 : VC := .post (.ops [⟨some 35, (.mov (.t 0)), none⟩,
  ⟨some 36, (.mov (.t 9)), none⟩,
  ⟨some 37, (.bin (.sub .i64) (.t 35) (.t 36)), none⟩,
  ⟨some 38, (.bin (.mul .i64) (.c (D.i 1000)) (.t 37)), none⟩,
  ⟨some 39, (.mov (.t 0)), none⟩,
  ⟨some 40, (.bin (.quo .i64) (.t 38) (.t 39)), none⟩,
  ⟨some 11, (.mov (.t 40)), none⟩,
  ⟨some 12, (.mov (.c (D.i 0))), none⟩] false) (.keep [2, 5, 7, 10, 11, 12] [0])
def vc13_19 : VC := (.seq (.post (.ops [⟨some 41, (.mov (.t 10)), none⟩, ⟨some 42, (.bin .gtI (.t 41) (.c (D.i 0))), none⟩] false) (.keep [2, 5, 7, 10, 11, 12, 42] [0])) (.cond (.t 42) (.pre (.keep [2, 5, 7, 10, 11] [0]) (.post (.ops [⟨some 43, (.mov (.t 11)), none⟩, ⟨some 44, (.mov (.t 10)), none⟩, ⟨some 45, (.bin (.quo .i64) (.t 43) (.t 44)), none⟩, ⟨some 46, (.mm true (.c (D.i 1)) [(.t 45)]), none⟩, ⟨some 12, (.mov (.t 46)), none⟩] false) (.keep [2, 5, 7, 11, 12] [0]))) (.pre (.keep [2, 5, 7, 11, 12] [0]) .skip)))
def vc13_25 : VC := (.seq (.post (.ops [⟨some 47, (.mov (.t 2)), none⟩, ⟨some 48, (.bin .seq (.t 47) (.c (D.s [61]))), none⟩] false) (.keep [2, 5, 7, 11, 12, 48] [0])) (.cond (.t 48) (.pre (.keep [12] [0]) (.seq (.post (.ops [⟨some 49, (.mov (.t 12)), none⟩, ⟨some 8, (.mov (.t 49)), none⟩] false) (.keep [8] [0])) .ret)) (.pre (.keep [2, 5, 7, 11, 12] [0]) .skip)))
def vc13_33 : VC := (.seq (.post (.ops [⟨some 50, (.mov (.t 2)), none⟩, ⟨some 51, (.bin .seq (.t 50) (.c (D.s [60, 62]))), none⟩] false) (.keep [2, 5, 7, 11, 12, 51] [0])) (.cond (.t 51) (.pre (.keep [11, 12] [0]) (.seq (.post (.ops [⟨some 52, (.mov (.t 11)), none⟩, ⟨some 53, (.mov (.t 12)), none⟩, ⟨some 54, (.bin (.sub .i64) (.t 52) (.t 53)), none⟩, ⟨some 55, (.mm true (.c (D.i 0)) [(.t 54)]), none⟩, ⟨some 8, (.mov (.t 55)), none⟩] false) (.keep [8] [0])) .ret)) (.pre (.keep [2, 5, 7, 11] [0]) .skip)))
def vc13_42 : VC := .post (.ops [⟨some 56, (.fld (.t 7) 0), none⟩,
  ⟨some 57, (.ld (.t 56)), none⟩,
  ⟨some 58, (.bin .neI (.t 57) (.c (D.i 1))), none⟩,
  ⟨some 59, (.mov (.t 58)), none⟩,
  ⟨some 60, (.fld (.t 5) 2), some (59, false)⟩,
  ⟨some 61, (.ldF (.t 60)), some (59, false)⟩,
  ⟨some 62, (.len (.t 61)), some (59, false)⟩,
  ⟨some 63, (.bin .eqI (.t 62) (.c (D.i 0))), some (59, false)⟩,
  ⟨some 64, (.pick (.t 59) (.c (D.b true)) (.t 63)), none⟩,
  ⟨some 65, (.mov (.t 64)), none⟩,
  ⟨some 66, (.mov (.t 2)), some (65, false)⟩,
  ⟨some 67, (.bin .sne (.t 66) (.c (D.s [60]))), some (65, false)⟩,
  ⟨some 68, (.mov (.t 67)), some (65, false)⟩,
  ⟨some 69, (.mov (.t 2)), some (68, true)⟩,
  ⟨some 70, (.bin .sne (.t 69) (.c (D.s [60, 61]))), some (68, true)⟩,
  ⟨some 71, (.pick (.t 68) (.t 70) (.c (D.b false))), some (65, false)⟩,
  ⟨some 72, (.mov (.t 71)), some (65, false)⟩,
  ⟨some 73, (.mov (.t 2)), some (72, true)⟩,
  ⟨some 74, (.bin .sne (.t 73) (.c (D.s [62]))), some (72, true)⟩,
  ⟨some 75, (.pick (.t 72) (.t 74) (.c (D.b false))), some (65, false)⟩,
  ⟨some 76, (.mov (.t 75)), some (65, false)⟩,
  ⟨some 77, (.mov (.t 2)), some (76, true)⟩,
  ⟨some 78, (.bin .sne (.t 77) (.c (D.s [62, 61]))), some (76, true)⟩,
  ⟨some 79, (.pick (.t 76) (.t 78) (.c (D.b false))), some (65, false)⟩,
  ⟨some 80, (.pick (.t 65) (.c (D.b true)) (.t 79)), none⟩] false) (.keep [2, 5, 7, 11, 80] [0])
def vc13_43 : VC := (.cond (.t 80) (.pre (.keep [11] [0]) (.seq (.post (.ops [⟨some 81, (.mov (.t 11)), none⟩, ⟨some 82, (.bin (.quo .i64) (.t 81) (.c (D.i 3))), none⟩, ⟨some 8, (.mov (.t 82)), none⟩] false) (.keep [8] [0])) .ret)) (.pre (.keep [2, 5, 7, 11] [0]) .skip))
def vc13_41 : VC := .seq vc13_42 vc13_43
def vc13_49 : VC := .post (.ops [⟨some 13, (.mov (.c (D.i 0))), none⟩] false) (.keep [2, 5, 7, 11, 13] [0])
def vc13_52 : VC := .post (.ops [⟨some 14, (.mov (.c (D.i 0))), none⟩] false) (.keep [2, 5, 7, 11, 13, 14] [0])
def vc13_55 : VC := (.seq (.seq (.post (.ops [⟨some 83, (.mov (.t 14)), none⟩, ⟨some 84, (.fld (.t 5) 2), none⟩, ⟨some 85, (.ldF (.t 84)), none⟩, ⟨some 86, (.len (.t 85)), none⟩, ⟨some 87, (.bin .ltI (.t 83) (.t 86)), none⟩] false) (.keep [2, 5, 7, 11, 13, 14, 87] [0])) (.cond (.t 87) (.pre (.keep [2, 5, 7, 11, 13, 14] [0]) .skip) (.pre (.keep [5, 11, 13] [0]) (.exit 0)))) (.seq (.block 1 (.seq (.post (.ops [⟨some 90, (.mov (.t 2)), none⟩, ⟨some 91, (.fld (.t 5) 2), none⟩, ⟨some 92, (.ldF (.t 91)), none⟩, ⟨some 93, (.mov (.t 14)), none⟩, ⟨some 94, (.ixa (.t 92) (.t 93)), none⟩, ⟨some 95, (.ldF (.t 94)), none⟩, ⟨some 96, (.build (D.ag [(D.i 0), (D.i 0), (D.f 0), (D.s [])]) [(0, (.c (D.i 1))), (1, (.t 95))]), none⟩, ⟨some 97, (.ld (.t 7)), none⟩, ⟨some 98, (.call 37 [(.t 90), (.t 96), (.t 97)] []), none⟩, ⟨some 15, .alA, none⟩, ⟨none, (.ini 15 (.t 98)), none⟩] true) (.keep [2, 5, 7, 11, 13, 14, 15] [0])) (.post (.ops [⟨some 99, (.mov (.t 13)), none⟩, ⟨some 100, (.fld (.t 15) 1), none⟩, ⟨some 101, (.ldF (.t 100)), none⟩, ⟨some 102, (.bin (.add .i64) (.t 99) (.t 101)), none⟩, ⟨some 13, (.mov (.t 102)), none⟩] false) (.keep [2, 5, 7, 11, 13, 14] [0])))) (.post (.ops [⟨some 88, (.mov (.t 14)), none⟩, ⟨some 89, (.bin (.add .i64) (.t 88) (.c (D.i 1))), none⟩, ⟨some 14, (.mov (.t 89)), none⟩] false) (.keep [2, 5, 7, 11, 13, 14] [0]))))
def vc13_54 : VC := .loop vc13_55
def vc13_53 : VC := .block 0 vc13_54
def vc13_51 : VC := .seq vc13_52 vc13_53
def vc13_67 : VC := (.seq (.post (.ops [⟨some 103, (.mov (.t 11)), none⟩, ⟨some 104, (.mov (.t 13)), none⟩, ⟨some 105, (.bin (.mul .i64) (.t 103) (.t 104)), none⟩, ⟨some 106, (.fld (.t 5) 2), none⟩, ⟨some 107, (.ldF (.t 106)), none⟩, ⟨some 108, (.len (.t 107)), none⟩, ⟨some 109, (.bin (.quo .i64) (.t 105) (.t 108)), none⟩, ⟨some 8, (.mov (.t 109)), none⟩] false) (.keep [8] [0])) .ret)
def vc13_50 : VC := .seq vc13_51 vc13_67
def vc13_48 : VC := .seq vc13_49 vc13_50
def vc13_40 : VC := .seq vc13_41 vc13_48
def vc13_32 : VC := .seq vc13_33 vc13_40
def vc13_24 : VC := .seq vc13_25 vc13_32
def vc13_18 : VC := .seq vc13_19 vc13_24
def vc13_16 : VC := .seq vc13_17 vc13_18
def vc13_14 : VC := .seq vc13_15 vc13_16
def vc13_6 : VC := .seq vc13_7 vc13_14
def vc13_4 : VC := .seq vc13_5 vc13_6
def vc13_2 : VC := .seq vc13_3 vc13_4
def vc13_0 : VC := .seq vc13_1 vc13_2
def vc14_0 : VC := (.seq (.post (.ops [⟨some 2, (.mov (.c (D.s []))), none⟩] false) (.keep [0] [])) (.seq (.seq (.post (.ops [⟨some 3, (.mov (.t 0)), none⟩] false) (.keep [0, 3] [])) (.block 0 (.seq (.post (.ops [⟨some 5, (.bin .seq (.t 3) (.c (D.s [60]))), none⟩, ⟨some 4, (.mov (.t 5)), none⟩] false) (.keep [0, 3, 4] [])) (.cond (.t 4) (.pre (.keep [] []) (.seq (.post (.ops [⟨some 2, (.mov (.c (D.s [62]))), none⟩] false) (.keep [2] [])) .ret)) (.pre (.keep [0, 3] []) (.seq (.post (.ops [⟨some 7, (.bin .seq (.t 3) (.c (D.s [60, 61]))), none⟩, ⟨some 6, (.mov (.t 7)), none⟩] false) (.keep [0, 3, 6] [])) (.cond (.t 6) (.pre (.keep [] []) (.seq (.post (.ops [⟨some 2, (.mov (.c (D.s [62, 61]))), none⟩] false) (.keep [2] [])) .ret)) (.pre (.keep [0, 3] []) (.seq (.post (.ops [⟨some 9, (.bin .seq (.t 3) (.c (D.s [62]))), none⟩, ⟨some 8, (.mov (.t 9)), none⟩] false) (.keep [0, 3, 8] [])) (.cond (.t 8) (.pre (.keep [] []) (.seq (.post (.ops [⟨some 2, (.mov (.c (D.s [60]))), none⟩] false) (.keep [2] [])) .ret)) (.pre (.keep [0, 3] []) (.seq (.post (.ops [⟨some 11, (.bin .seq (.t 3) (.c (D.s [62, 61]))), none⟩, ⟨some 10, (.mov (.t 11)), none⟩] false) (.keep [0, 10] [])) (.cond (.t 10) (.pre (.keep [] []) (.seq (.post (.ops [⟨some 2, (.mov (.c (D.s [60, 61]))), none⟩] false) (.keep [2] [])) .ret)) (.pre (.keep [0] []) .skip)))))))))))))) (.seq (.post (.ops [⟨some 12, (.mov (.t 0)), none⟩, ⟨some 2, (.mov (.t 12)), none⟩] false) (.keep [2] [])) .ret)))
def vc15_1 : VC := .post (.ops [⟨some 2, (.mov (.c (D.s []))), none⟩] false) (.keep [0] [])
def vc15_3 : VC := .post (.ops [⟨some 6, (.bsl .f [(D.s []), (D.s []), (D.s []), (D.s [])] [(0, (.c (D.s [60]))), (1, (.c (D.s [60, 61]))), (2, (.c (D.s [62]))), (3, (.c (D.s [62, 61])))]), none⟩,
  ⟨some 7, (.bsl .f [(D.s []), (D.s []), (D.s []), (D.s [])] [(0, (.c (D.s [62]))), (1, (.c (D.s [62, 61]))), (2, (.c (D.s [60]))), (3, (.c (D.s [60, 61])))]), none⟩,
  ⟨some 3, (.mov (.t 6)), none⟩,
  ⟨some 4, (.mov (.t 7)), none⟩] false) (.keep [0, 3, 4] [])
def vc15_6 : VC := .post (.ops [⟨some 5, (.mov (.c (D.i 0))), none⟩] false) (.keep [0, 3, 4, 5] [])
def vc15_9 : VC := (.seq (.seq (.post (.ops [⟨some 8, (.mov (.t 5)), none⟩, ⟨some 9, (.bin .ltI (.t 8) (.c (D.i 4))), none⟩] false) (.keep [0, 3, 4, 5, 9] [])) (.cond (.t 9) (.pre (.keep [0, 3, 4, 5] []) .skip) (.pre (.keep [0] []) (.exit 0)))) (.seq (.block 1 (.seq (.post (.ops [⟨some 12, (.mov (.t 3)), none⟩, ⟨some 13, (.mov (.t 5)), none⟩, ⟨some 14, (.ixa (.t 12) (.t 13)), none⟩, ⟨some 15, (.ldF (.t 14)), none⟩, ⟨some 16, (.mov (.t 0)), none⟩, ⟨some 17, (.bin .seq (.t 15) (.t 16)), none⟩] false) (.keep [0, 3, 4, 5, 17] [])) (.cond (.t 17) (.pre (.keep [4, 5] []) (.seq (.post (.ops [⟨some 18, (.mov (.t 4)), none⟩, ⟨some 19, (.mov (.t 5)), none⟩, ⟨some 20, (.ixa (.t 18) (.t 19)), none⟩, ⟨some 21, (.ldF (.t 20)), none⟩, ⟨some 2, (.mov (.t 21)), none⟩] false) (.keep [2] [])) .ret)) (.pre (.keep [0, 3, 4, 5] []) .skip)))) (.post (.ops [⟨some 10, (.mov (.t 5)), none⟩, ⟨some 11, (.bin (.add .i64) (.t 10) (.c (D.i 1))), none⟩, ⟨some 5, (.mov (.t 11)), none⟩] false) (.keep [0, 3, 4, 5] []))))
def vc15_8 : VC := .loop vc15_9
def vc15_7 : VC := .block 0 vc15_8
def vc15_5 : VC := .seq vc15_6 vc15_7
def vc15_25 : VC := (.seq (.post (.ops [⟨some 22, (.mov (.t 0)), none⟩, ⟨some 2, (.mov (.t 22)), none⟩] false) (.keep [2] [])) .ret)
def vc15_4 : VC := .seq vc15_5 vc15_25
def vc15_2 : VC := .seq vc15_3 vc15_4
def vc15_0 : VC := .seq vc15_1 vc15_2
def vc16_1 : VC := .post (.ops [⟨some 2, (.box (.t 0)), none⟩,
  ⟨some 4, (.mov (.c (D.i 0))), none⟩] false) (.keep [1, 2] [])
def vc16_3 : VC := .post (.ops [⟨some 5, (.mov (.c (D.i 1))), none⟩] false) (.keep [1, 2, 5] [])
def vc16_6 : VC := .post (.ops [⟨some 8, (.fld (.t 2) 6), none⟩,
  ⟨some 9, (.ldF (.t 8)), none⟩,
  ⟨some 10, (.len (.t 9)), none⟩,
  ⟨some 11, (.mov (.c (D.i 0))), none⟩] false) (.keep [1, 5, 9, 10, 11] [])
def vc16_9 : VC := (.seq (.post (.ops [⟨some 12, (.bin .ltI (.t 11) (.t 10)), none⟩] false) (.keep [1, 5, 9, 10, 11, 12] [])) (.seq (.cond (.t 12) (.pre (.keep [1, 5, 9, 10, 11] []) .skip) (.pre (.keep [5] []) (.exit 0))) (.seq (.block 1 (.seq (.post (.ops [⟨some 13, (.ixa (.t 9) (.t 11)), none⟩, ⟨some 14, (.ldF (.t 13)), none⟩, ⟨some 7, .alA, none⟩, ⟨none, (.ini 7 (.t 14)), none⟩] false) (.keep [1, 5, 7, 9, 10, 11] [])) (.seq (.seq (.post (.ops [⟨some 15, (.mov (.t 5)), none⟩, ⟨some 16, (.mov (.t 1)), none⟩, ⟨some 17, (.bin .gtI (.t 15) (.t 16)), none⟩] false) (.keep [1, 5, 7, 9, 10, 11, 17] [])) (.cond (.t 17) (.pre (.keep [5] []) (.exit 0)) (.pre (.keep [1, 5, 7, 9, 10, 11] []) .skip))) (.post (.ops [⟨some 18, (.mov (.t 5)), none⟩, ⟨some 19, (.ldF (.t 7)), none⟩, ⟨some 20, (.mov (.t 1)), none⟩, ⟨some 21, (.mov (.t 5)), none⟩, ⟨some 22, (.bin (.sub .i64) (.t 20) (.t 21)), none⟩, ⟨some 23, (.call 16 [(.t 19), (.t 22)] []), none⟩, ⟨some 24, (.bin (.add .i64) (.t 18) (.t 23)), none⟩, ⟨some 5, (.mov (.t 24)), none⟩] false) (.keep [1, 5, 9, 10, 11] []))))) (.post (.ops [⟨some 25, (.bin (.add .i64) (.t 11) (.c (D.i 1))), none⟩, ⟨some 11, (.mov (.t 25)), none⟩] false) (.keep [1, 5, 9, 10, 11] [])))))
def vc16_8 : VC := .loop vc16_9
def vc16_7 : VC := .block 0 vc16_8
def vc16_5 : VC := .seq vc16_6 vc16_7
def vc16_27 : VC := (.seq (.post (.ops [⟨some 26, (.mov (.t 5)), none⟩, ⟨some 4, (.mov (.t 26)), none⟩] false) (.keep [4] [])) .ret)
def vc16_4 : VC := .seq vc16_5 vc16_27
def vc16_2 : VC := .seq vc16_3 vc16_4
def vc16_0 : VC := .seq vc16_1 vc16_2
def vc17_1 : VC := .post (.ops [⟨some 1, (.box (.t 0)), none⟩,
  ⟨some 2, (.mov (.c (D.i 0))), none⟩,
  ⟨some 3, (.mov (.c (D.s []))), none⟩,
  ⟨some 4, .alA, none⟩,
  ⟨some 5, (.mov (.c (D.b false))), none⟩] false) (.keep [1, 4] [])
def vc17_3 : VC := (.seq (.post (.ops [⟨some 8, (.fld (.t 1) 0), none⟩, ⟨some 9, (.ldF (.t 8)), none⟩, ⟨some 10, (.bin .neI (.t 9) (.c (D.i 7))), none⟩, ⟨some 11, (.mov (.t 10)), none⟩, ⟨some 12, (.fld (.t 1) 6), some (11, false)⟩, ⟨some 13, (.ldF (.t 12)), some (11, false)⟩, ⟨some 14, (.len (.t 13)), some (11, false)⟩, ⟨some 15, (.bin .neI (.t 14) (.c (D.i 2))), some (11, false)⟩, ⟨some 16, (.pick (.t 11) (.c (D.b true)) (.t 15)), none⟩] false) (.keep [1, 4, 16] [])) (.cond (.t 16) (.pre (.keep [4] []) (.seq (.post (.ops [⟨some 17, (.build (D.ag [(D.i 0), (D.i 0), (D.f 0), (D.s [])]) []), none⟩, ⟨some 2, (.mov (.c (D.i 0))), none⟩, ⟨some 3, (.mov (.c (D.s []))), none⟩, ⟨none, (.ini 4 (.t 17)), none⟩, ⟨some 5, (.mov (.c (D.b false))), none⟩] false) (.keep [2, 3, 4, 5] [])) .ret)) (.pre (.keep [1, 4] []) .skip)))
def vc17_11 : VC := .post (.ops [⟨some 18, (.fld (.t 1) 6), none⟩,
  ⟨some 19, (.ldF (.t 18)), none⟩,
  ⟨some 20, (.ixa (.t 19) (.c (D.i 0))), none⟩,
  ⟨some 21, (.ldF (.t 20)), none⟩,
  ⟨some 22, (.fld (.t 1) 6), none⟩,
  ⟨some 23, (.ldF (.t 22)), none⟩,
  ⟨some 24, (.ixa (.t 23) (.c (D.i 1))), none⟩,
  ⟨some 25, (.ldF (.t 24)), none⟩,
  ⟨some 6, .alA, none⟩,
  ⟨some 7, .alA, none⟩,
  ⟨none, (.ini 6 (.t 21)), none⟩,
  ⟨none, (.ini 7 (.t 25)), none⟩] true) (.keep [1, 4, 6, 7] [])
def vc17_15 : VC := .post (.ops [⟨some 27, (.fld (.t 6) 0), none⟩,
  ⟨some 28, (.ldF (.t 27)), none⟩,
  ⟨some 29, (.bin .eqI (.t 28) (.c (D.i 2))), none⟩,
  ⟨some 30, (.mov (.t 29)), none⟩,
  ⟨some 31, (.ldF (.t 7)), some (30, true)⟩,
  ⟨some 32, (.call 20 [(.t 31)] []), some (30, true)⟩,
  ⟨some 33, (.un .not (.t 32)), some (30, true)⟩,
  ⟨some 34, (.pick (.t 30) (.t 33) (.c (D.b false))), none⟩,
  ⟨some 26, (.mov (.t 34)), none⟩] false) (.keep [1, 4, 6, 7, 26] [])
def vc17_16 : VC := (.cond (.t 26) (.pre (.keep [1, 4, 6, 7] []) (.seq (.post (.ops [⟨some 35, (.fld (.t 6) 3), none⟩, ⟨some 36, (.ldF (.t 35)), none⟩, ⟨some 37, (.fld (.t 1) 1), none⟩, ⟨some 38, (.ldF (.t 37)), none⟩, ⟨some 39, (.ldF (.t 7)), none⟩, ⟨some 40, (.call 25 [(.t 39), (.c (D.sz []))] []), none⟩, ⟨some 2, (.mov (.t 36)), none⟩, ⟨some 3, (.mov (.t 38)), none⟩, ⟨none, (.ini 4 (.t 40)), none⟩, ⟨some 5, (.mov (.c (D.b true))), none⟩] true) (.keep [2, 3, 4, 5] [])) .ret)) (.pre (.keep [1, 4, 6, 7] []) (.seq (.post (.ops [⟨some 42, (.fld (.t 7) 0), none⟩, ⟨some 43, (.ldF (.t 42)), none⟩, ⟨some 44, (.bin .eqI (.t 43) (.c (D.i 2))), none⟩, ⟨some 45, (.mov (.t 44)), none⟩, ⟨some 46, (.ldF (.t 6)), some (45, true)⟩, ⟨some 47, (.call 20 [(.t 46)] []), some (45, true)⟩, ⟨some 48, (.un .not (.t 47)), some (45, true)⟩, ⟨some 49, (.pick (.t 45) (.t 48) (.c (D.b false))), none⟩, ⟨some 41, (.mov (.t 49)), none⟩] false) (.keep [1, 4, 6, 7, 41] [])) (.cond (.t 41) (.pre (.keep [1, 4, 6, 7] []) (.seq (.post (.ops [⟨some 50, (.fld (.t 7) 3), none⟩, ⟨some 51, (.ldF (.t 50)), none⟩, ⟨some 52, (.fld (.t 1) 1), none⟩, ⟨some 53, (.ldF (.t 52)), none⟩, ⟨some 54, (.call 14 [(.t 53)] []), none⟩, ⟨some 55, (.ldF (.t 6)), none⟩, ⟨some 56, (.call 25 [(.t 55), (.c (D.sz []))] []), none⟩, ⟨some 2, (.mov (.t 51)), none⟩, ⟨some 3, (.mov (.t 54)), none⟩, ⟨none, (.ini 4 (.t 56)), none⟩, ⟨some 5, (.mov (.c (D.b true))), none⟩] true) (.keep [2, 3, 4, 5] [])) .ret)) (.pre (.keep [4] []) .skip)))))
def vc17_14 : VC := .seq vc17_15 vc17_16
def vc17_13 : VC := .block 0 vc17_14
def vc17_27 : VC := (.seq (.post (.ops [⟨some 57, (.build (D.ag [(D.i 0), (D.i 0), (D.f 0), (D.s [])]) []), none⟩, ⟨some 2, (.mov (.c (D.i 0))), none⟩, ⟨some 3, (.mov (.c (D.s []))), none⟩, ⟨none, (.ini 4 (.t 57)), none⟩, ⟨some 5, (.mov (.c (D.b false))), none⟩] false) (.keep [2, 3, 4, 5] [])) .ret)
def vc17_12 : VC := .seq vc17_13 vc17_27
def vc17_10 : VC := .seq vc17_11 vc17_12
def vc17_2 : VC := .seq vc17_3 vc17_10
def vc17_0 : VC := .seq vc17_1 vc17_2
def vc18_1 : VC := .post (.ops [⟨some 1, (.box (.t 0)), none⟩,
  ⟨some 2, (.mov (.c (D.i 0))), none⟩,
  ⟨some 3, (.mov (.c (D.s []))), none⟩,
  ⟨some 4, .alA, none⟩,
  ⟨some 5, (.mov (.c (D.b false))), none⟩] false) (.keep [1, 4] [])
def vc18_4 : VC := .post (.ops [⟨some 10, (.fld (.t 1) 0), none⟩,
  ⟨some 11, (.ldF (.t 10)), none⟩,
  ⟨some 12, (.bin .eqI (.t 11) (.c (D.i 7))), none⟩,
  ⟨some 13, (.mov (.t 12)), none⟩,
  ⟨some 14, (.fld (.t 1) 6), some (13, true)⟩,
  ⟨some 15, (.ldF (.t 14)), some (13, true)⟩,
  ⟨some 16, (.len (.t 15)), some (13, true)⟩,
  ⟨some 17, (.bin .eqI (.t 16) (.c (D.i 2))), some (13, true)⟩,
  ⟨some 18, (.pick (.t 13) (.t 17) (.c (D.b false))), none⟩] false) (.keep [1, 4, 18] [])
def vc18_7 : VC := .post (.ops [⟨some 6, (.mov (.c (D.i 0))), none⟩] false) (.keep [1, 4, 6] [])
def vc18_11 : VC := (.seq (.post (.ops [⟨some 19, (.mov (.t 6)), none⟩, ⟨some 20, (.bin .ltI (.t 19) (.c (D.i 2))), none⟩] false) (.keep [1, 4, 6, 20] [])) (.cond (.t 20) (.pre (.keep [1, 4, 6] []) .skip) (.pre (.keep [4] []) (.exit 0))))
def vc18_16 : VC := (.seq (.block 1 (.seq (.post (.ops [⟨some 23, (.fld (.t 1) 6), none⟩, ⟨some 24, (.ldF (.t 23)), none⟩, ⟨some 25, (.mov (.t 6)), none⟩, ⟨some 26, (.ixa (.t 24) (.t 25)), none⟩, ⟨some 27, (.ldF (.t 26)), none⟩, ⟨some 28, (.fld (.t 1) 6), none⟩, ⟨some 29, (.ldF (.t 28)), none⟩, ⟨some 30, (.mov (.t 6)), none⟩, ⟨some 31, (.bin (.sub .i64) (.c (D.i 1)) (.t 30)), none⟩, ⟨some 32, (.ixa (.t 29) (.t 31)), none⟩, ⟨some 33, (.ldF (.t 32)), none⟩, ⟨some 34, (.fld (.t 1) 1), none⟩, ⟨some 35, (.ldF (.t 34)), none⟩, ⟨some 7, .alA, none⟩, ⟨some 8, .alA, none⟩, ⟨none, (.ini 7 (.t 27)), none⟩, ⟨none, (.ini 8 (.t 33)), none⟩, ⟨some 9, (.mov (.t 35)), none⟩] true) (.keep [1, 4, 6, 7, 8, 9] [])) (.seq (.seq (.post (.ops [⟨some 36, (.mov (.t 6)), none⟩, ⟨some 37, (.bin .eqI (.t 36) (.c (D.i 1))), none⟩] false) (.keep [1, 4, 6, 7, 8, 9, 37] [])) (.cond (.t 37) (.pre (.keep [1, 4, 6, 7, 8, 9] []) (.post (.ops [⟨some 38, (.mov (.t 9)), none⟩, ⟨some 39, (.call 15 [(.t 38)] []), none⟩, ⟨some 9, (.mov (.t 39)), none⟩] false) (.keep [1, 4, 6, 7, 8, 9] []))) (.pre (.keep [1, 4, 6, 7, 8, 9] []) .skip))) (.seq (.post (.ops [⟨some 40, (.fld (.t 7) 0), none⟩, ⟨some 41, (.ldF (.t 40)), none⟩, ⟨some 42, (.bin .eqI (.t 41) (.c (D.i 2))), none⟩, ⟨some 43, (.mov (.t 42)), none⟩, ⟨some 44, (.ldF (.t 8)), some (43, true)⟩, ⟨some 45, (.call 21 [(.t 44)] []), some (43, true)⟩, ⟨some 46, (.un .not (.t 45)), some (43, true)⟩, ⟨some 47, (.pick (.t 43) (.t 46) (.c (D.b false))), none⟩] false) (.keep [1, 4, 6, 7, 8, 9, 47] [])) (.cond (.t 47) (.pre (.keep [4, 7, 8, 9] []) (.seq (.post (.ops [⟨some 48, (.fld (.t 7) 3), none⟩, ⟨some 49, (.ldF (.t 48)), none⟩, ⟨some 50, (.mov (.t 9)), none⟩, ⟨some 51, (.ldF (.t 8)), none⟩, ⟨some 52, (.call 38 [(.t 51), (.c (D.sz []))] []), none⟩, ⟨some 2, (.mov (.t 49)), none⟩, ⟨some 3, (.mov (.t 50)), none⟩, ⟨none, (.ini 4 (.t 52)), none⟩, ⟨some 5, (.mov (.c (D.b true))), none⟩] true) (.keep [2, 3, 4, 5] [])) .ret)) (.pre (.keep [1, 4, 6] []) .skip)))))) (.post (.ops [⟨some 21, (.mov (.t 6)), none⟩, ⟨some 22, (.bin (.add .i64) (.t 21) (.c (D.i 1))), none⟩, ⟨some 6, (.mov (.t 22)), none⟩] false) (.keep [1, 4, 6] [])))
def vc18_10 : VC := .seq vc18_11 vc18_16
def vc18_9 : VC := .loop vc18_10
def vc18_8 : VC := .block 0 vc18_9
def vc18_6 : VC := .seq vc18_7 vc18_8
def vc18_34 : VC := .skip
def vc18_5 : VC := .cond (.t 18) (.pre (.keep [1, 4] []) vc18_6) (.pre (.keep [4] []) vc18_34)
def vc18_3 : VC := .seq vc18_4 vc18_5
def vc18_35 : VC := (.seq (.post (.ops [⟨some 53, (.build (D.ag [(D.i 0), (D.i 0), (D.f 0), (D.s [])]) []), none⟩, ⟨some 2, (.mov (.c (D.i 0))), none⟩, ⟨some 3, (.mov (.c (D.s []))), none⟩, ⟨none, (.ini 4 (.t 53)), none⟩, ⟨some 5, (.mov (.c (D.b false))), none⟩] false) (.keep [2, 3, 4, 5] [])) .ret)
def vc18_2 : VC := .seq vc18_3 vc18_35
def vc18_0 : VC := .seq vc18_1 vc18_2
def vc19_0 : VC := (.seq (.post (.ops [⟨some 2, (.box (.t 0)), none⟩, ⟨some 3, (.box (.t 1)), none⟩, ⟨some 4, (.mov (.c (D.b false))), none⟩] false) (.keep [2, 3] [])) (.seq (.post (.ops [⟨some 5, (.fld (.t 2) 0), none⟩, ⟨some 6, (.ldF (.t 5)), none⟩, ⟨some 7, (.fld (.t 3) 0), none⟩, ⟨some 8, (.ldF (.t 7)), none⟩, ⟨some 9, (.bin .eqI (.t 6) (.t 8)), none⟩, ⟨some 10, (.mov (.t 9)), none⟩, ⟨some 11, (.fld (.t 2) 1), some (10, true)⟩, ⟨some 12, (.ldF (.t 11)), some (10, true)⟩, ⟨some 13, (.fld (.t 3) 1), some (10, true)⟩, ⟨some 14, (.ldF (.t 13)), some (10, true)⟩, ⟨some 15, (.bin .eqI (.t 12) (.t 14)), some (10, true)⟩, ⟨some 16, (.pick (.t 10) (.t 15) (.c (D.b false))), none⟩, ⟨some 17, (.mov (.t 16)), none⟩, ⟨some 18, (.fld (.t 2) 3), some (17, true)⟩, ⟨some 19, (.ldF (.t 18)), some (17, true)⟩, ⟨some 20, (.fld (.t 3) 3), some (17, true)⟩, ⟨some 21, (.ldF (.t 20)), some (17, true)⟩, ⟨some 22, (.bin .seq (.t 19) (.t 21)), some (17, true)⟩, ⟨some 23, (.pick (.t 17) (.t 22) (.c (D.b false))), none⟩, ⟨some 24, (.mov (.t 23)), none⟩, ⟨some 25, (.fld (.t 2) 2), some (24, true)⟩, ⟨some 26, (.ldF (.t 25)), some (24, true)⟩, ⟨some 27, (.call 39 [(.t 26)] []), some (24, true)⟩, ⟨some 28, (.fld (.t 3) 2), some (24, true)⟩, ⟨some 29, (.ldF (.t 28)), some (24, true)⟩, ⟨some 30, (.call 39 [(.t 29)] []), some (24, true)⟩, ⟨some 31, (.bin .eqB (.t 27) (.t 30)), some (24, true)⟩, ⟨some 32, (.mov (.t 31)), some (24, true)⟩, ⟨some 33, (.fld (.t 2) 2), some (32, true)⟩, ⟨some 34, (.ldF (.t 33)), some (32, true)⟩, ⟨some 35, (.call 39 [(.t 34)] []), some (32, true)⟩, ⟨some 36, (.un .not (.t 35)), some (32, true)⟩, ⟨some 37, (.mov (.t 36)), some (32, true)⟩, ⟨some 38, (.fld (.t 2) 2), some (37, false)⟩, ⟨some 39, (.ldF (.t 38)), some (37, false)⟩, ⟨some 40, (.fld (.t 3) 2), some (37, false)⟩, ⟨some 41, (.ldF (.t 40)), some (37, false)⟩, ⟨some 42, (.bin .feq (.t 39) (.t 41)), some (37, false)⟩, ⟨some 43, (.mov (.t 42)), some (37, false)⟩, ⟨some 44, (.fld (.t 2) 2), some (43, true)⟩, ⟨some 45, (.ldF (.t 44)), some (43, true)⟩, ⟨some 46, (.call 40 [(.t 45)] []), some (43, true)⟩, ⟨some 47, (.fld (.t 3) 2), some (43, true)⟩, ⟨some 48, (.ldF (.t 47)), some (43, true)⟩, ⟨some 49, (.call 40 [(.t 48)] []), some (43, true)⟩, ⟨some 50, (.bin .eqB (.t 46) (.t 49)), some (43, true)⟩, ⟨some 51, (.pick (.t 43) (.t 50) (.c (D.b false))), some (37, false)⟩, ⟨some 52, (.pick (.t 37) (.c (D.b true)) (.t 51)), some (32, true)⟩, ⟨some 53, (.pick (.t 32) (.t 52) (.c (D.b false))), some (24, true)⟩, ⟨some 54, (.pick (.t 24) (.t 53) (.c (D.b false))), none⟩, ⟨some 4, (.mov (.t 54)), none⟩] true) (.keep [4] [])) .ret))
def vc20_0 : VC := (.seq (.post (.ops [⟨some 1, (.box (.t 0)), none⟩, ⟨some 2, (.mov (.c (D.b false))), none⟩] false) (.keep [1] [])) (.seq (.post (.ops [⟨some 3, (.fld (.t 1) 0), none⟩, ⟨some 4, (.ldF (.t 3)), none⟩, ⟨some 5, (.bin .eqI (.t 4) (.c (D.i 2))), none⟩, ⟨some 6, (.mov (.t 5)), none⟩, ⟨some 7, (.fld (.t 1) 6), some (6, false)⟩, ⟨some 8, (.ldF (.t 7)), some (6, false)⟩, ⟨some 9, (.call 41 [(.t 8), (.fn 20)] []), some (6, false)⟩, ⟨some 10, (.pick (.t 6) (.c (D.b true)) (.t 9)), none⟩, ⟨some 2, (.mov (.t 10)), none⟩] false) (.keep [2] [])) .ret))
def vc21_1 : VC := .post (.ops [⟨some 1, (.box (.t 0)), none⟩,
  ⟨some 2, (.mov (.c (D.b false))), none⟩] false) (.keep [1] [])
def vc21_3 : VC := (.seq (.post (.ops [⟨some 4, (.fld (.t 1) 0), none⟩, ⟨some 5, (.ldF (.t 4)), none⟩, ⟨some 6, (.bin .eqI (.t 5) (.c (D.i 2))), none⟩] false) (.keep [1, 6] [])) (.cond (.t 6) (.pre (.keep [] []) (.seq (.post (.ops [⟨some 2, (.mov (.c (D.b true))), none⟩] false) (.keep [2] [])) .ret)) (.pre (.keep [1] []) .skip)))
def vc21_12 : VC := .post (.ops [⟨some 3, (.mov (.c (D.i 0))), none⟩] false) (.keep [1, 3] [])
def vc21_15 : VC := (.seq (.seq (.post (.ops [⟨some 7, (.mov (.t 3)), none⟩, ⟨some 8, (.fld (.t 1) 6), none⟩, ⟨some 9, (.ldF (.t 8)), none⟩, ⟨some 10, (.len (.t 9)), none⟩, ⟨some 11, (.bin .ltI (.t 7) (.t 10)), none⟩] false) (.keep [1, 3, 11] [])) (.cond (.t 11) (.pre (.keep [1, 3] []) .skip) (.pre (.keep [] []) (.exit 0)))) (.seq (.block 1 (.seq (.post (.ops [⟨some 14, (.fld (.t 1) 6), none⟩, ⟨some 15, (.ldF (.t 14)), none⟩, ⟨some 16, (.mov (.t 3)), none⟩, ⟨some 17, (.ixa (.t 15) (.t 16)), none⟩, ⟨some 18, (.ldF (.t 17)), none⟩, ⟨some 19, (.call 21 [(.t 18)] []), none⟩] false) (.keep [1, 3, 19] [])) (.cond (.t 19) (.pre (.keep [] []) (.seq (.post (.ops [⟨some 2, (.mov (.c (D.b true))), none⟩] false) (.keep [2] [])) .ret)) (.pre (.keep [1, 3] []) .skip)))) (.post (.ops [⟨some 12, (.mov (.t 3)), none⟩, ⟨some 13, (.bin (.add .i64) (.t 12) (.c (D.i 1))), none⟩, ⟨some 3, (.mov (.t 13)), none⟩] false) (.keep [1, 3] []))))
def vc21_14 : VC := .loop vc21_15
def vc21_13 : VC := .block 0 vc21_14
def vc21_11 : VC := .seq vc21_12 vc21_13
def vc21_31 : VC := (.seq (.post (.ops [⟨some 2, (.mov (.c (D.b false))), none⟩] false) (.keep [2] [])) .ret)
def vc21_10 : VC := .seq vc21_11 vc21_31
def vc21_2 : VC := .seq vc21_3 vc21_10
def vc21_0 : VC := .seq vc21_1 vc21_2
def vc22_1 : VC := .post (.ops [⟨some 3, (.box (.t 0)), none⟩,
  ⟨some 4, (.box (.t 1)), none⟩,
  ⟨some 5, (.box (.t 2)), none⟩,
  ⟨some 6, (.mov (.c (D.i 0))), none⟩] false) (.keep [3, 4, 5] [])
def vc22_3 : VC := .post (.ops [⟨some 20, (.clo 42 [(.t 4), (.t 5)] [Ty.p 29, Ty.p 25]), none⟩,
  ⟨some 7, (.mov (.t 20)), none⟩] false) (.keep [3, 7] [])
def vc22_5 : VC := (.seq (.post (.ops [⟨some 22, (.ldF (.t 3)), none⟩, ⟨some 23, (.call 17 [(.t 22)] []), none⟩, ⟨some 21, (.mov (.t 23)), none⟩, ⟨some 24, (.ext (.t 21) 0), none⟩, ⟨some 25, (.ext (.t 21) 1), none⟩, ⟨some 26, (.ext (.t 21) 2), none⟩, ⟨some 27, (.ext (.t 21) 3), none⟩, ⟨some 10, .alA, none⟩, ⟨some 8, (.mov (.t 24)), none⟩, ⟨some 9, (.mov (.t 25)), none⟩, ⟨none, (.ini 10 (.t 26)), none⟩, ⟨some 11, (.mov (.t 27)), none⟩] false) (.keep [3, 7, 8, 9, 10, 11] [])) (.seq (.post (.ops [⟨some 28, (.mov (.t 11)), none⟩] false) (.keep [3, 7, 8, 9, 10, 28] [])) (.cond (.t 28) (.pre (.keep [7, 8, 9, 10] []) (.seq (.post (.ops [⟨some 30, (.mov (.t 7)), none⟩, ⟨some 31, (.mov (.t 8)), none⟩, ⟨some 32, (.callv (.t 30) [(.t 31)] [Ty.tup [Ty.v 2, Ty.v 31], Ty.v 3] []), none⟩, ⟨some 29, (.mov (.t 32)), none⟩, ⟨some 33, (.ext (.t 29) 0), none⟩, ⟨some 34, (.ext (.t 29) 1), none⟩, ⟨some 13, .alA, none⟩, ⟨some 12, (.mov (.t 33)), none⟩, ⟨none, (.ini 13 (.t 34)), none⟩] false) (.keep [9, 10, 12, 13] [])) (.seq (.post (.ops [⟨some 35, (.mov (.t 12)), none⟩, ⟨some 36, (.ldF (.t 13)), none⟩, ⟨some 37, (.mov (.t 9)), none⟩, ⟨some 38, (.ldF (.t 10)), none⟩, ⟨some 39, (.call 12 [(.t 35), (.t 36), (.t 37), (.t 38)] []), none⟩, ⟨some 6, (.mov (.t 39)), none⟩] false) (.keep [6] [])) .ret))) (.pre (.keep [3, 7] []) .skip))))
def vc22_18 : VC := .post (.ops [⟨some 40, (.fld (.t 3) 0), none⟩,
  ⟨some 41, (.ldF (.t 40)), none⟩,
  ⟨some 42, (.bin .eqI (.t 41) (.c (D.i 9))), none⟩,
  ⟨some 43, (.mov (.t 42)), none⟩,
  ⟨some 44, (.fld (.t 3) 6), some (43, true)⟩,
  ⟨some 45, (.ldF (.t 44)), some (43, true)⟩,
  ⟨some 46, (.len (.t 45)), some (43, true)⟩,
  ⟨some 47, (.bin .eqI (.t 46) (.c (D.i 1))), some (43, true)⟩,
  ⟨some 48, (.pick (.t 43) (.t 47) (.c (D.b false))), none⟩,
  ⟨some 49, (.mov (.t 48)), none⟩,
  ⟨some 50, (.fld (.t 3) 6), some (49, true)⟩,
  ⟨some 51, (.ldF (.t 50)), some (49, true)⟩,
  ⟨some 52, (.ixa (.t 51) (.c (D.i 0))), some (49, true)⟩,
  ⟨some 53, (.fld (.t 52) 0), some (49, true)⟩,
  ⟨some 54, (.ldF (.t 53)), some (49, true)⟩,
  ⟨some 55, (.bin .eqI (.t 54) (.c (D.i 2))), some (49, true)⟩,
  ⟨some 56, (.pick (.t 49) (.t 55) (.c (D.b false))), none⟩] false) (.keep [3, 7, 56] [])
def vc22_19 : VC := (.cond (.t 56) (.pre (.keep [3, 7] []) (.seq (.post (.ops [⟨some 58, (.mov (.t 7)), none⟩, ⟨some 59, (.fld (.t 3) 6), none⟩, ⟨some 60, (.ldF (.t 59)), none⟩, ⟨some 61, (.ixa (.t 60) (.c (D.i 0))), none⟩, ⟨some 62, (.fld (.t 61) 3), none⟩, ⟨some 63, (.ldF (.t 62)), none⟩, ⟨some 64, (.callv (.t 58) [(.t 63)] [Ty.tup [Ty.v 2, Ty.v 31], Ty.v 3] []), none⟩, ⟨some 57, (.mov (.t 64)), none⟩, ⟨some 65, (.ext (.t 57) 0), none⟩, ⟨some 66, (.ext (.t 57) 1), none⟩, ⟨some 15, .alA, none⟩, ⟨some 14, (.mov (.t 65)), none⟩, ⟨none, (.ini 15 (.t 66)), none⟩] false) (.keep [3, 14, 15] [])) (.seq (.seq (.post (.ops [⟨some 67, (.mov (.t 14)), none⟩, ⟨some 68, (.bin .eqI (.t 67) (.c (D.i 0))), none⟩] false) (.keep [3, 14, 15, 68] [])) (.cond (.t 68) (.pre (.keep [] []) (.seq (.post (.ops [⟨some 6, (.mov (.c (D.i 0))), none⟩] false) (.keep [6] [])) .ret)) (.pre (.keep [3, 14, 15] []) .skip))) (.seq (.seq (.post (.ops [⟨some 69, (.fld (.t 3) 4), none⟩, ⟨some 70, (.ldF (.t 69)), none⟩] false) (.keep [14, 15, 70] [])) (.cond (.t 70) (.pre (.keep [14, 15] []) (.seq (.post (.ops [⟨some 71, (.mov (.t 14)), none⟩, ⟨some 72, (.fld (.t 15) 1), none⟩, ⟨some 73, (.ldF (.t 72)), none⟩, ⟨some 74, (.bin (.sub .i64) (.t 71) (.t 73)), none⟩, ⟨some 75, (.bin (.mul .i64) (.c (D.i 1000)) (.t 74)), none⟩, ⟨some 76, (.mov (.t 14)), none⟩, ⟨some 77, (.bin (.quo .i64) (.t 75) (.t 76)), none⟩, ⟨some 6, (.mov (.t 77)), none⟩] false) (.keep [6] [])) .ret)) (.pre (.keep [14, 15] []) .skip))) (.seq (.post (.ops [⟨some 78, (.fld (.t 15) 1), none⟩, ⟨some 79, (.ldF (.t 78)), none⟩, ⟨some 80, (.bin (.mul .i64) (.c (D.i 1000)) (.t 79)), none⟩, ⟨some 81, (.mov (.t 14)), none⟩, ⟨some 82, (.bin (.quo .i64) (.t 80) (.t 81)), none⟩, ⟨some 6, (.mov (.t 82)), none⟩] false) (.keep [6] [])) .ret))))) (.pre (.keep [3, 7] []) .skip))
def vc22_17 : VC := .seq vc22_18 vc22_19
def vc22_44 : VC := .post (.ops [⟨some 83, (.fld (.t 3) 0), none⟩,
  ⟨some 84, (.ldF (.t 83)), none⟩,
  ⟨some 85, (.bin .eqI (.t 84) (.c (D.i 7))), none⟩,
  ⟨some 86, (.mov (.t 85)), none⟩,
  ⟨some 87, (.fld (.t 3) 1), some (86, true)⟩,
  ⟨some 88, (.ldF (.t 87)), some (86, true)⟩,
  ⟨some 89, (.bin .seq (.t 88) (.c (D.s [61]))), some (86, true)⟩,
  ⟨some 90, (.pick (.t 86) (.t 89) (.c (D.b false))), none⟩,
  ⟨some 91, (.mov (.t 90)), none⟩,
  ⟨some 92, (.fld (.t 3) 6), some (91, true)⟩,
  ⟨some 93, (.ldF (.t 92)), some (91, true)⟩,
  ⟨some 94, (.len (.t 93)), some (91, true)⟩,
  ⟨some 95, (.bin .eqI (.t 94) (.c (D.i 2))), some (91, true)⟩,
  ⟨some 96, (.pick (.t 91) (.t 95) (.c (D.b false))), none⟩,
  ⟨some 97, (.mov (.t 96)), none⟩,
  ⟨some 98, (.fld (.t 3) 6), some (97, true)⟩,
  ⟨some 99, (.ldF (.t 98)), some (97, true)⟩,
  ⟨some 100, (.ixa (.t 99) (.c (D.i 0))), some (97, true)⟩,
  ⟨some 101, (.fld (.t 100) 0), some (97, true)⟩,
  ⟨some 102, (.ldF (.t 101)), some (97, true)⟩,
  ⟨some 103, (.bin .eqI (.t 102) (.c (D.i 2))), some (97, true)⟩,
  ⟨some 104, (.pick (.t 97) (.t 103) (.c (D.b false))), none⟩,
  ⟨some 105, (.mov (.t 104)), none⟩,
  ⟨some 106, (.fld (.t 3) 6), some (105, true)⟩,
  ⟨some 107, (.ldF (.t 106)), some (105, true)⟩,
  ⟨some 108, (.ixa (.t 107) (.c (D.i 1))), some (105, true)⟩,
  ⟨some 109, (.fld (.t 108) 0), some (105, true)⟩,
  ⟨some 110, (.ldF (.t 109)), some (105, true)⟩,
  ⟨some 111, (.bin .eqI (.t 110) (.c (D.i 2))), some (105, true)⟩,
  ⟨some 112, (.pick (.t 105) (.t 111) (.c (D.b false))), none⟩] false) (.keep [3, 7, 112] [])
def vc22_45 : VC := (.cond (.t 112) (.pre (.keep [3, 7] []) (.seq (.post (.ops [⟨some 114, (.mov (.t 7)), none⟩, ⟨some 115, (.fld (.t 3) 6), none⟩, ⟨some 116, (.ldF (.t 115)), none⟩, ⟨some 117, (.ixa (.t 116) (.c (D.i 0))), none⟩, ⟨some 118, (.fld (.t 117) 3), none⟩, ⟨some 119, (.ldF (.t 118)), none⟩, ⟨some 120, (.callv (.t 114) [(.t 119)] [Ty.tup [Ty.v 2, Ty.v 31], Ty.v 3] []), none⟩, ⟨some 113, (.mov (.t 120)), none⟩, ⟨some 121, (.ext (.t 113) 0), none⟩, ⟨some 122, (.ext (.t 113) 1), none⟩, ⟨some 17, .alA, none⟩, ⟨some 16, (.mov (.t 121)), none⟩, ⟨none, (.ini 17 (.t 122)), none⟩] false) (.keep [3, 7, 17] [])) (.seq (.post (.ops [⟨some 124, (.mov (.t 7)), none⟩, ⟨some 125, (.fld (.t 3) 6), none⟩, ⟨some 126, (.ldF (.t 125)), none⟩, ⟨some 127, (.ixa (.t 126) (.c (D.i 1))), none⟩, ⟨some 128, (.fld (.t 127) 3), none⟩, ⟨some 129, (.ldF (.t 128)), none⟩, ⟨some 130, (.callv (.t 124) [(.t 129)] [Ty.tup [Ty.v 2, Ty.v 31], Ty.v 3] []), none⟩, ⟨some 123, (.mov (.t 130)), none⟩, ⟨some 131, (.ext (.t 123) 0), none⟩, ⟨some 132, (.ext (.t 123) 1), none⟩, ⟨some 19, .alA, none⟩, ⟨some 18, (.mov (.t 131)), none⟩, ⟨none, (.ini 19 (.t 132)), none⟩] false) (.keep [17, 19] [])) (.seq (.post (.ops [⟨some 133, (.fld (.t 17) 0), none⟩, ⟨some 134, (.ldF (.t 133)), none⟩, ⟨some 135, (.fld (.t 19) 0), none⟩, ⟨some 136, (.ldF (.t 135)), none⟩, ⟨some 137, (.mm true (.c (D.i 1)) [(.t 134), (.t 136)]), none⟩, ⟨some 138, (.bin (.quo .i64) (.c (D.i 1000)) (.t 137)), none⟩, ⟨some 6, (.mov (.t 138)), none⟩] false) (.keep [6] [])) .ret)))) (.pre (.keep [] []) .skip))
def vc22_43 : VC := .seq vc22_44 vc22_45
def vc22_54 : VC := (.seq (.post (.ops [⟨some 6, (.mov (.c (D.i 333))), none⟩] false) (.keep [6] [])) .ret)
def vc22_42 : VC := .seq vc22_43 vc22_54
def vc22_16 : VC := .seq vc22_17 vc22_42
def vc22_4 : VC := .seq vc22_5 vc22_16
def vc22_2 : VC := .seq vc22_3 vc22_4
def vc22_0 : VC := .seq vc22_1 vc22_2
def vc23_1 : VC := .post (.ops [⟨some 3, (.box (.t 0)), none⟩,
  ⟨some 6, (.mov (.c (D.i 0))), none⟩] false) (.keep [1, 2, 3] [])
def vc23_3 : VC := .post (.ops [⟨some 20, (.ldF (.t 3)), none⟩,
  ⟨some 21, (.call 18 [(.t 20)] []), none⟩,
  ⟨some 19, (.mov (.t 21)), none⟩,
  ⟨some 22, (.ext (.t 19) 0), none⟩,
  ⟨some 23, (.ext (.t 19) 1), none⟩,
  ⟨some 24, (.ext (.t 19) 2), none⟩,
  ⟨some 25, (.ext (.t 19) 3), none⟩,
  ⟨some 9, .alA, none⟩,
  ⟨some 7, (.mov (.t 22)), none⟩,
  ⟨some 8, (.mov (.t 23)), none⟩,
  ⟨none, (.ini 9 (.t 24)), none⟩,
  ⟨some 10, (.mov (.t 25)), none⟩] false) (.keep [1, 2, 3, 7, 8, 9, 10] [])
def vc23_5 : VC := (.seq (.post (.ops [⟨some 26, (.mov (.t 10)), none⟩] false) (.keep [1, 2, 3, 7, 8, 9, 26] [])) (.cond (.t 26) (.pre (.keep [1, 2, 7, 8, 9] []) (.seq (.post (.ops [⟨some 28, (.mov (.t 7)), none⟩, ⟨some 29, (.mov (.t 1)), none⟩, ⟨some 30, (.mov (.t 2)), none⟩, ⟨some 31, (.call 43 [(.t 28), (.t 29), (.t 30)] []), none⟩, ⟨some 27, (.mov (.t 31)), none⟩, ⟨some 32, (.ext (.t 27) 0), none⟩, ⟨some 33, (.ext (.t 27) 1), none⟩, ⟨some 12, .alA, none⟩, ⟨some 11, (.mov (.t 32)), none⟩, ⟨none, (.ini 12 (.t 33)), none⟩] false) (.keep [8, 9, 11, 12] [])) (.seq (.post (.ops [⟨some 34, (.mov (.t 11)), none⟩, ⟨some 35, (.ldF (.t 12)), none⟩, ⟨some 36, (.mov (.t 8)), none⟩, ⟨some 37, (.ldF (.t 9)), none⟩, ⟨some 38, (.call 13 [(.t 34), (.t 35), (.t 36), (.t 37)] []), none⟩, ⟨some 6, (.mov (.t 38)), none⟩] false) (.keep [6] [])) .ret))) (.pre (.keep [1, 2, 3] []) .skip)))
def vc23_16 : VC := .post (.ops [⟨some 39, (.fld (.t 3) 0), none⟩,
  ⟨some 40, (.ldF (.t 39)), none⟩,
  ⟨some 41, (.bin .eqI (.t 40) (.c (D.i 9))), none⟩,
  ⟨some 42, (.mov (.t 41)), none⟩,
  ⟨some 43, (.fld (.t 3) 6), some (42, true)⟩,
  ⟨some 44, (.ldF (.t 43)), some (42, true)⟩,
  ⟨some 45, (.len (.t 44)), some (42, true)⟩,
  ⟨some 46, (.bin .eqI (.t 45) (.c (D.i 1))), some (42, true)⟩,
  ⟨some 47, (.pick (.t 42) (.t 46) (.c (D.b false))), none⟩,
  ⟨some 48, (.mov (.t 47)), none⟩,
  ⟨some 49, (.fld (.t 3) 6), some (48, true)⟩,
  ⟨some 50, (.ldF (.t 49)), some (48, true)⟩,
  ⟨some 51, (.ixa (.t 50) (.c (D.i 0))), some (48, true)⟩,
  ⟨some 52, (.fld (.t 51) 0), some (48, true)⟩,
  ⟨some 53, (.ldF (.t 52)), some (48, true)⟩,
  ⟨some 54, (.bin .eqI (.t 53) (.c (D.i 2))), some (48, true)⟩,
  ⟨some 55, (.pick (.t 48) (.t 54) (.c (D.b false))), none⟩] false) (.keep [1, 2, 3, 55] [])
def vc23_17 : VC := (.cond (.t 55) (.pre (.keep [1, 2, 3] []) (.seq (.post (.ops [⟨some 57, (.fld (.t 3) 6), none⟩, ⟨some 58, (.ldF (.t 57)), none⟩, ⟨some 59, (.ixa (.t 58) (.c (D.i 0))), none⟩, ⟨some 60, (.fld (.t 59) 3), none⟩, ⟨some 61, (.ldF (.t 60)), none⟩, ⟨some 62, (.mov (.t 1)), none⟩, ⟨some 63, (.mov (.t 2)), none⟩, ⟨some 64, (.call 43 [(.t 61), (.t 62), (.t 63)] []), none⟩, ⟨some 56, (.mov (.t 64)), none⟩, ⟨some 65, (.ext (.t 56) 0), none⟩, ⟨some 66, (.ext (.t 56) 1), none⟩, ⟨some 14, .alA, none⟩, ⟨some 13, (.mov (.t 65)), none⟩, ⟨none, (.ini 14 (.t 66)), none⟩] false) (.keep [3, 13, 14] [])) (.seq (.seq (.post (.ops [⟨some 67, (.mov (.t 13)), none⟩, ⟨some 68, (.bin .eqI (.t 67) (.c (D.i 0))), none⟩] false) (.keep [3, 13, 14, 68] [])) (.cond (.t 68) (.pre (.keep [] []) (.seq (.post (.ops [⟨some 6, (.mov (.c (D.i 0))), none⟩] false) (.keep [6] [])) .ret)) (.pre (.keep [3, 13, 14] []) .skip))) (.seq (.seq (.post (.ops [⟨some 69, (.fld (.t 3) 4), none⟩, ⟨some 70, (.ldF (.t 69)), none⟩] false) (.keep [13, 14, 70] [])) (.cond (.t 70) (.pre (.keep [13, 14] []) (.seq (.post (.ops [⟨some 71, (.mov (.t 13)), none⟩, ⟨some 72, (.fld (.t 14) 1), none⟩, ⟨some 73, (.ldF (.t 72)), none⟩, ⟨some 74, (.bin (.sub .i64) (.t 71) (.t 73)), none⟩, ⟨some 75, (.bin (.mul .i64) (.c (D.i 1000)) (.t 74)), none⟩, ⟨some 76, (.mov (.t 13)), none⟩, ⟨some 77, (.bin (.quo .i64) (.t 75) (.t 76)), none⟩, ⟨some 6, (.mov (.t 77)), none⟩] false) (.keep [6] [])) .ret)) (.pre (.keep [13, 14] []) .skip))) (.seq (.post (.ops [⟨some 78, (.fld (.t 14) 1), none⟩, ⟨some 79, (.ldF (.t 78)), none⟩, ⟨some 80, (.bin (.mul .i64) (.c (D.i 1000)) (.t 79)), none⟩, ⟨some 81, (.mov (.t 13)), none⟩, ⟨some 82, (.bin (.quo .i64) (.t 80) (.t 81)), none⟩, ⟨some 6, (.mov (.t 82)), none⟩] false) (.keep [6] [])) .ret))))) (.pre (.keep [1, 2, 3] []) .skip))
def vc23_15 : VC := .seq vc23_16 vc23_17
def vc23_42 : VC := .post (.ops [⟨some 83, (.fld (.t 3) 0), none⟩,
  ⟨some 84, (.ldF (.t 83)), none⟩,
  ⟨some 85, (.bin .eqI (.t 84) (.c (D.i 7))), none⟩,
  ⟨some 86, (.mov (.t 85)), none⟩,
  ⟨some 87, (.fld (.t 3) 1), some (86, true)⟩,
  ⟨some 88, (.ldF (.t 87)), some (86, true)⟩,
  ⟨some 89, (.bin .seq (.t 88) (.c (D.s [61]))), some (86, true)⟩,
  ⟨some 90, (.pick (.t 86) (.t 89) (.c (D.b false))), none⟩,
  ⟨some 91, (.mov (.t 90)), none⟩,
  ⟨some 92, (.fld (.t 3) 6), some (91, true)⟩,
  ⟨some 93, (.ldF (.t 92)), some (91, true)⟩,
  ⟨some 94, (.len (.t 93)), some (91, true)⟩,
  ⟨some 95, (.bin .eqI (.t 94) (.c (D.i 2))), some (91, true)⟩,
  ⟨some 96, (.pick (.t 91) (.t 95) (.c (D.b false))), none⟩,
  ⟨some 97, (.mov (.t 96)), none⟩,
  ⟨some 98, (.fld (.t 3) 6), some (97, true)⟩,
  ⟨some 99, (.ldF (.t 98)), some (97, true)⟩,
  ⟨some 100, (.ixa (.t 99) (.c (D.i 0))), some (97, true)⟩,
  ⟨some 101, (.fld (.t 100) 0), some (97, true)⟩,
  ⟨some 102, (.ldF (.t 101)), some (97, true)⟩,
  ⟨some 103, (.bin .eqI (.t 102) (.c (D.i 2))), some (97, true)⟩,
  ⟨some 104, (.pick (.t 97) (.t 103) (.c (D.b false))), none⟩,
  ⟨some 105, (.mov (.t 104)), none⟩,
  ⟨some 106, (.fld (.t 3) 6), some (105, true)⟩,
  ⟨some 107, (.ldF (.t 106)), some (105, true)⟩,
  ⟨some 108, (.ixa (.t 107) (.c (D.i 1))), some (105, true)⟩,
  ⟨some 109, (.fld (.t 108) 0), some (105, true)⟩,
  ⟨some 110, (.ldF (.t 109)), some (105, true)⟩,
  ⟨some 111, (.bin .eqI (.t 110) (.c (D.i 2))), some (105, true)⟩,
  ⟨some 112, (.pick (.t 105) (.t 111) (.c (D.b false))), none⟩] false) (.keep [1, 2, 3, 112] [])
def vc23_43 : VC := (.cond (.t 112) (.pre (.keep [1, 2, 3] []) (.seq (.post (.ops [⟨some 114, (.fld (.t 3) 6), none⟩, ⟨some 115, (.ldF (.t 114)), none⟩, ⟨some 116, (.ixa (.t 115) (.c (D.i 0))), none⟩, ⟨some 117, (.fld (.t 116) 3), none⟩, ⟨some 118, (.ldF (.t 117)), none⟩, ⟨some 119, (.mov (.t 1)), none⟩, ⟨some 120, (.mov (.t 2)), none⟩, ⟨some 121, (.call 43 [(.t 118), (.t 119), (.t 120)] []), none⟩, ⟨some 113, (.mov (.t 121)), none⟩, ⟨some 122, (.ext (.t 113) 0), none⟩, ⟨some 123, (.ext (.t 113) 1), none⟩, ⟨some 16, .alA, none⟩, ⟨some 15, (.mov (.t 122)), none⟩, ⟨none, (.ini 16 (.t 123)), none⟩] false) (.keep [1, 2, 3, 16] [])) (.seq (.post (.ops [⟨some 125, (.fld (.t 3) 6), none⟩, ⟨some 126, (.ldF (.t 125)), none⟩, ⟨some 127, (.ixa (.t 126) (.c (D.i 1))), none⟩, ⟨some 128, (.fld (.t 127) 3), none⟩, ⟨some 129, (.ldF (.t 128)), none⟩, ⟨some 130, (.mov (.t 1)), none⟩, ⟨some 131, (.mov (.t 2)), none⟩, ⟨some 132, (.call 43 [(.t 129), (.t 130), (.t 131)] []), none⟩, ⟨some 124, (.mov (.t 132)), none⟩, ⟨some 133, (.ext (.t 124) 0), none⟩, ⟨some 134, (.ext (.t 124) 1), none⟩, ⟨some 18, .alA, none⟩, ⟨some 17, (.mov (.t 133)), none⟩, ⟨none, (.ini 18 (.t 134)), none⟩] false) (.keep [16, 18] [])) (.seq (.post (.ops [⟨some 135, (.fld (.t 16) 0), none⟩, ⟨some 136, (.ldF (.t 135)), none⟩, ⟨some 137, (.fld (.t 18) 0), none⟩, ⟨some 138, (.ldF (.t 137)), none⟩, ⟨some 139, (.mm true (.c (D.i 1)) [(.t 136), (.t 138)]), none⟩, ⟨some 140, (.bin (.quo .i64) (.c (D.i 1000)) (.t 139)), none⟩, ⟨some 6, (.mov (.t 140)), none⟩] false) (.keep [6] [])) .ret)))) (.pre (.keep [] []) .skip))
def vc23_41 : VC := .seq vc23_42 vc23_43
def vc23_52 : VC := (.seq (.post (.ops [⟨some 6, (.mov (.c (D.i 333))), none⟩] false) (.keep [6] [])) .ret)
def vc23_40 : VC := .seq vc23_41 vc23_52
def vc23_14 : VC := .seq vc23_15 vc23_40
def vc23_4 : VC := .seq vc23_5 vc23_14
def vc23_2 : VC := .seq vc23_3 vc23_4
def vc23_0 : VC := .seq vc23_1 vc23_2
def vc24_0 : VC := (.seq (.post (.ops [⟨some 2, (.mov (.c (D.sz []))), none⟩] false) (.keep [0] [])) (.seq (.post (.ops [⟨some 3, (.mov (.t 0)), none⟩, ⟨some 4, (.build (D.ag [(D.i 0), (D.i 0), (D.f 0), (D.s [])]) [(0, (.c (D.i 1))), (1, (.t 3))]), none⟩, ⟨some 5, (.bsl .f [(D.ag [(D.i 0), (D.i 0), (D.f 0), (D.s [])])] [(0, (.t 4))]), none⟩, ⟨some 2, (.mov (.t 5)), none⟩] false) (.keep [2] [])) .ret))
def vc25_1 : VC := .post (.ops [⟨some 2, (.box (.t 0)), none⟩,
  ⟨some 3, (.box (.t 1)), none⟩,
  ⟨some 4, .alA, none⟩] false) (.keep [2, 3, 4] [])
def vc25_3 : VC := .post (.ops [⟨some 6, (.clo 44 [(.t 2), (.t 3)] [Ty.p 48, Ty.p 32]), none⟩,
  ⟨some 5, (.mov (.t 6)), none⟩] false) (.keep [2, 3, 4, 5] [])
def vc25_6 : VC := .post (.ops [⟨some 7, (.fld (.t 2) 0), none⟩,
  ⟨some 8, (.ldF (.t 7)), none⟩] false) (.keep [2, 3, 4, 5, 8] [])
def vc25_9 : VC := .post (.ops [⟨some 10, (.bin .eqI (.t 8) (.c (D.i 1))), none⟩,
  ⟨some 9, (.mov (.t 10)), none⟩] false) (.keep [2, 3, 4, 5, 8, 9] [])
def vc25_11 : VC := (.seq (.post (.ops [⟨some 11, (.fld (.t 2) 2), none⟩, ⟨some 12, (.ldF (.t 11)), none⟩, ⟨some 13, (.call 30 [(.t 12)] []), none⟩, ⟨none, (.ini 4 (.t 13)), none⟩] false) (.keep [4] [])) .ret)
def vc25_15 : VC := .post (.ops [⟨some 15, (.bin .eqI (.t 8) (.c (D.i 2))), none⟩,
  ⟨some 14, (.mov (.t 15)), none⟩] false) (.keep [2, 3, 4, 5, 8, 14] [])
def vc25_17 : VC := (.seq (.post (.ops [⟨some 16, (.fld (.t 2) 3), none⟩, ⟨some 17, (.ldF (.t 16)), none⟩, ⟨some 18, (.bin .geI (.t 17) (.c (D.i 0))), none⟩, ⟨some 19, (.mov (.t 18)), none⟩, ⟨some 20, (.fld (.t 2) 3), some (19, true)⟩, ⟨some 21, (.ldF (.t 20)), some (19, true)⟩, ⟨some 22, (.ldF (.t 3)), some (19, true)⟩, ⟨some 23, (.len (.t 22)), some (19, true)⟩, ⟨some 24, (.bin .ltI (.t 21) (.t 23)), some (19, true)⟩, ⟨some 25, (.pick (.t 19) (.t 24) (.c (D.b false))), none⟩] false) (.keep [2, 3, 4, 25] [])) (.cond (.t 25) (.pre (.keep [2, 3, 4] []) (.seq (.post (.ops [⟨some 26, (.ldF (.t 3)), none⟩, ⟨some 27, (.fld (.t 2) 3), none⟩, ⟨some 28, (.ldF (.t 27)), none⟩, ⟨some 29, (.ixa (.t 26) (.t 28)), none⟩, ⟨some 30, (.ldF (.t 29)), none⟩, ⟨some 31, (.call 30 [(.t 30)] []), none⟩, ⟨none, (.ini 4 (.t 31)), none⟩] false) (.keep [4] [])) .ret)) (.pre (.keep [4] []) .skip)))
def vc25_24 : VC := (.seq (.post (.ops [⟨some 33, (.bin .eqI (.t 8) (.c (D.i 3))), none⟩, ⟨some 32, (.mov (.t 33)), none⟩] false) (.keep [2, 4, 5, 8, 32] [])) (.cond (.t 32) (.pre (.keep [4, 5] []) (.seq (.post (.ops [⟨some 34, (.mov (.t 5)), none⟩, ⟨some 35, (.callv (.t 34) [(.c (D.i 0))] [Ty.v 35, Ty.v 3] []), none⟩, ⟨some 36, (.call 45 [(.t 35)] []), none⟩, ⟨none, (.ini 4 (.t 36)), none⟩] false) (.keep [4] [])) .ret)) (.pre (.keep [2, 4, 5, 8] []) (.seq (.post (.ops [⟨some 38, (.bin .eqI (.t 8) (.c (D.i 4))), none⟩, ⟨some 37, (.mov (.t 38)), none⟩] false) (.keep [2, 4, 5, 8, 37] [])) (.cond (.t 37) (.pre (.keep [4, 5] []) (.seq (.post (.ops [⟨some 39, (.mov (.t 5)), none⟩, ⟨some 40, (.callv (.t 39) [(.c (D.i 0))] [Ty.v 35, Ty.v 3] []), none⟩, ⟨some 41, (.call 46 [(.t 40)] []), none⟩, ⟨none, (.ini 4 (.t 41)), none⟩] false) (.keep [4] [])) .ret)) (.pre (.keep [2, 4, 5, 8] []) (.seq (.post (.ops [⟨some 43, (.bin .eqI (.t 8) (.c (D.i 5))), none⟩, ⟨some 42, (.mov (.t 43)), none⟩] false) (.keep [2, 4, 5, 8, 42] [])) (.cond (.t 42) (.pre (.keep [4, 5] []) (.seq (.post (.ops [⟨some 44, (.mov (.t 5)), none⟩, ⟨some 45, (.callv (.t 44) [(.c (D.i 0))] [Ty.v 35, Ty.v 3] []), none⟩, ⟨some 46, (.mov (.t 5)), none⟩, ⟨some 47, (.callv (.t 46) [(.c (D.i 1))] [Ty.v 35, Ty.v 3] []), none⟩, ⟨some 48, (.call 47 [(.t 45), (.t 47)] []), none⟩, ⟨none, (.ini 4 (.t 48)), none⟩] false) (.keep [4] [])) .ret)) (.pre (.keep [2, 4, 5, 8] []) (.seq (.post (.ops [⟨some 50, (.bin .eqI (.t 8) (.c (D.i 6))), none⟩, ⟨some 49, (.mov (.t 50)), none⟩] false) (.keep [2, 4, 5, 8, 49] [])) (.cond (.t 49) (.pre (.keep [4, 5] []) (.seq (.post (.ops [⟨some 51, (.mov (.t 5)), none⟩, ⟨some 52, (.callv (.t 51) [(.c (D.i 0))] [Ty.v 35, Ty.v 3] []), none⟩, ⟨some 53, (.mov (.t 5)), none⟩, ⟨some 54, (.callv (.t 53) [(.c (D.i 1))] [Ty.v 35, Ty.v 3] []), none⟩, ⟨some 55, (.call 48 [(.t 52), (.t 54)] []), none⟩, ⟨none, (.ini 4 (.t 55)), none⟩] false) (.keep [4] [])) .ret)) (.pre (.keep [2, 4, 5, 8] []) (.seq (.post (.ops [⟨some 57, (.bin .eqI (.t 8) (.c (D.i 7))), none⟩, ⟨some 56, (.mov (.t 57)), none⟩] false) (.keep [2, 4, 5, 8, 56] [])) (.cond (.t 56) (.pre (.keep [2, 4, 5] []) (.seq (.post (.ops [⟨some 58, (.fld (.t 2) 1), none⟩, ⟨some 59, (.ldF (.t 58)), none⟩, ⟨some 60, (.mov (.t 5)), none⟩, ⟨some 61, (.callv (.t 60) [(.c (D.i 0))] [Ty.v 35, Ty.v 3] []), none⟩, ⟨some 62, (.mov (.t 5)), none⟩, ⟨some 63, (.callv (.t 62) [(.c (D.i 1))] [Ty.v 35, Ty.v 3] []), none⟩, ⟨some 64, (.call 49 [(.t 59), (.t 61), (.t 63)] []), none⟩, ⟨none, (.ini 4 (.t 64)), none⟩] true) (.keep [4] [])) .ret)) (.pre (.keep [2, 4, 5, 8] []) (.seq (.post (.ops [⟨some 66, (.bin .eqI (.t 8) (.c (D.i 8))), none⟩, ⟨some 65, (.mov (.t 66)), none⟩] false) (.keep [2, 4, 5, 8, 65] [])) (.cond (.t 65) (.pre (.keep [2, 4, 5] []) (.seq (.post (.ops [⟨some 67, (.fld (.t 2) 1), none⟩, ⟨some 68, (.ldF (.t 67)), none⟩, ⟨some 69, (.mov (.t 5)), none⟩, ⟨some 70, (.callv (.t 69) [(.c (D.i 0))] [Ty.v 35, Ty.v 3] []), none⟩, ⟨some 71, (.mov (.t 5)), none⟩, ⟨some 72, (.callv (.t 71) [(.c (D.i 1))] [Ty.v 35, Ty.v 3] []), none⟩, ⟨some 73, (.call 50 [(.t 68), (.t 70), (.t 72)] []), none⟩, ⟨none, (.ini 4 (.t 73)), none⟩] true) (.keep [4] [])) .ret)) (.pre (.keep [2, 4, 5, 8] []) (.seq (.post (.ops [⟨some 75, (.bin .eqI (.t 8) (.c (D.i 9))), none⟩, ⟨some 74, (.mov (.t 75)), none⟩] false) (.keep [2, 4, 5, 74] [])) (.cond (.t 74) (.pre (.keep [2, 4, 5] []) (.seq (.post (.ops [⟨some 76, (.mov (.t 5)), none⟩, ⟨some 77, (.callv (.t 76) [(.c (D.i 0))] [Ty.v 35, Ty.v 3] []), none⟩, ⟨some 78, (.getf (.t 77) 0), none⟩, ⟨some 79, (.bin .eqI (.t 78) (.c (D.i 0))), none⟩, ⟨some 80, (.fld (.t 2) 4), none⟩, ⟨some 81, (.ldF (.t 80)), none⟩, ⟨some 82, (.bin .neB (.t 79) (.t 81)), none⟩, ⟨some 83, (.call 51 [(.t 82)] []), none⟩, ⟨none, (.ini 4 (.t 83)), none⟩] true) (.keep [4] [])) .ret)) (.pre (.keep [4] []) .skip)))))))))))))))))))))
def vc25_16 : VC := .cond (.t 14) (.pre (.keep [2, 3, 4] []) vc25_17) (.pre (.keep [2, 4, 5, 8] []) vc25_24)
def vc25_14 : VC := .seq vc25_15 vc25_16
def vc25_10 : VC := .cond (.t 9) (.pre (.keep [2, 4] []) vc25_11) (.pre (.keep [2, 3, 4, 5, 8] []) vc25_14)
def vc25_8 : VC := .seq vc25_9 vc25_10
def vc25_7 : VC := .block 0 vc25_8
def vc25_5 : VC := .seq vc25_6 vc25_7
def vc25_67 : VC := (.seq (.post (.ops [⟨some 84, (.build (D.ag [(D.i 0), (D.i 0), (D.f 0), (D.s [])]) []), none⟩, ⟨none, (.ini 4 (.t 84)), none⟩] false) (.keep [4] [])) .ret)
def vc25_4 : VC := .seq vc25_5 vc25_67
def vc25_2 : VC := .seq vc25_3 vc25_4
def vc25_0 : VC := .seq vc25_1 vc25_2
def vc26_0 : VC := (.seq (.post (.ops [⟨some 5, (.mov (.t 0)), none⟩, ⟨some 6, (.len (.t 5)), none⟩, ⟨some 4, (.mov (.t 6)), none⟩] false) (.keep [0, 1, 4] [])) (.post (.ops [⟨some 7, (.mov (.t 0)), none⟩, ⟨some 8, (.mov (.t 4)), none⟩, ⟨some 9, (.mov (.t 4)), none⟩, ⟨some 10, (.un (.conv .u64) (.t 9)), none⟩, ⟨some 11, (.call 53 [(.t 10)] []), none⟩, ⟨some 12, (.mov (.t 1)), none⟩, ⟨some 13, (.call 52 [(.t 7), (.c (D.i 0)), (.t 8), (.t 11), (.t 12)] []), none⟩] false) (.keep [] [])))
def vc27_1 : VC := .post (.ops [⟨some 2, (.boxM 0 (.t 0)), none⟩,
  ⟨some 3, (.boxM 1 (.t 1)), none⟩,
  ⟨some 4, (.mov (.c (D.i 0))), none⟩] false) (.keep [2, 3] [0, 1])
def vc27_3 : VC := .post (.ops [⟨some 7, (.ld (.t 2)), none⟩,
  ⟨some 8, (.call 30 [(.t 7)] []), none⟩,
  ⟨some 9, (.ld (.t 3)), none⟩,
  ⟨some 10, (.call 30 [(.t 9)] []), none⟩,
  ⟨none, (.st (.t 2) (.t 8)), none⟩,
  ⟨none, (.st (.t 3) (.t 10)), none⟩] true) (.keep [2, 3] [0, 1])
def vc27_5 : VC := (.seq (.post (.ops [⟨some 11, (.fld (.t 2) 0), none⟩, ⟨some 12, (.ld (.t 11)), none⟩, ⟨some 13, (.fld (.t 3) 0), none⟩, ⟨some 14, (.ld (.t 13)), none⟩, ⟨some 15, (.bin .neI (.t 12) (.t 14)), none⟩] false) (.keep [2, 3, 15] [0, 1])) (.cond (.t 15) (.pre (.keep [2, 3] [0, 1]) (.seq (.post (.ops [⟨some 16, (.fld (.t 2) 0), none⟩, ⟨some 17, (.ld (.t 16)), none⟩, ⟨some 18, (.fld (.t 3) 0), none⟩, ⟨some 19, (.ld (.t 18)), none⟩, ⟨some 20, (.call 54 [(.t 17), (.t 19)] []), none⟩, ⟨some 4, (.mov (.t 20)), none⟩] false) (.keep [4] [0, 1])) .ret)) (.pre (.keep [2, 3] [0, 1]) .skip)))
def vc27_14 : VC := .post (.ops [⟨some 21, (.fld (.t 2) 0), none⟩,
  ⟨some 22, (.ld (.t 21)), none⟩] false) (.keep [2, 3, 22] [0, 1])
def vc27_17 : VC := .post (.ops [⟨some 24, (.bin .eqI (.t 22) (.c (D.i 2))), none⟩,
  ⟨some 23, (.mov (.t 24)), none⟩] false) (.keep [2, 3, 22, 23] [0, 1])
def vc27_19 : VC := (.seq (.post (.ops [⟨some 25, (.fld (.t 2) 2), none⟩, ⟨some 26, (.ld (.t 25)), none⟩, ⟨some 27, (.call 55 [(.t 26)] []), none⟩, ⟨some 28, (.fld (.t 3) 2), none⟩, ⟨some 29, (.ld (.t 28)), none⟩, ⟨some 30, (.call 55 [(.t 29)] []), none⟩, ⟨some 5, (.mov (.t 27)), none⟩, ⟨some 6, (.mov (.t 30)), none⟩] true) (.keep [2, 3, 5, 6] [0, 1])) (.seq (.block 1 (.seq (.post (.ops [⟨some 32, (.mov (.t 5)), none⟩, ⟨some 33, (.mov (.t 32)), none⟩, ⟨some 34, (.mov (.t 6)), some (33, true)⟩, ⟨some 35, (.pick (.t 33) (.t 34) (.c (D.b false))), none⟩, ⟨some 31, (.mov (.t 35)), none⟩] false) (.keep [2, 3, 5, 6, 31] [0, 1])) (.cond (.t 31) (.pre (.keep [] [0, 1]) (.seq (.post (.ops [⟨some 4, (.mov (.c (D.i 0))), none⟩] false) (.keep [4] [0, 1])) .ret)) (.pre (.keep [2, 3, 5, 6] [0, 1]) (.seq (.post (.ops [⟨some 37, (.mov (.t 5)), none⟩, ⟨some 36, (.mov (.t 37)), none⟩] false) (.keep [2, 3, 6, 36] [0, 1])) (.cond (.t 36) (.pre (.keep [] [0, 1]) (.seq (.post (.ops [⟨some 4, (.mov (.c (D.i 1))), none⟩] false) (.keep [4] [0, 1])) .ret)) (.pre (.keep [2, 3, 6] [0, 1]) (.seq (.post (.ops [⟨some 39, (.mov (.t 6)), none⟩, ⟨some 38, (.mov (.t 39)), none⟩] false) (.keep [2, 3, 38] [0, 1])) (.cond (.t 38) (.pre (.keep [] [0, 1]) (.seq (.post (.ops [⟨some 4, (.mov (.c (D.i (-1)))), none⟩] false) (.keep [4] [0, 1])) .ret)) (.pre (.keep [2, 3] [0, 1]) .skip)))))))))) (.seq (.post (.ops [⟨some 40, (.fld (.t 2) 2), none⟩, ⟨some 41, (.ld (.t 40)), none⟩, ⟨some 42, (.fld (.t 3) 2), none⟩, ⟨some 43, (.ld (.t 42)), none⟩, ⟨some 44, (.call 56 [(.t 41), (.t 43)] []), none⟩, ⟨some 4, (.mov (.t 44)), none⟩] false) (.keep [4] [0, 1])) .ret)))
def vc27_45 : VC := (.seq (.post (.ops [⟨some 46, (.bin .eqI (.t 22) (.c (D.i 3))), none⟩, ⟨some 45, (.mov (.t 46)), none⟩] false) (.keep [2, 3, 45] [0, 1])) (.cond (.t 45) (.pre (.keep [2, 3] [0, 1]) (.seq (.post (.ops [⟨some 47, (.fld (.t 2) 3), none⟩, ⟨some 48, (.ld (.t 47)), none⟩, ⟨some 49, (.fld (.t 3) 3), none⟩, ⟨some 50, (.ld (.t 49)), none⟩, ⟨some 51, (.call 57 [(.t 48), (.t 50)] []), none⟩, ⟨some 4, (.mov (.t 51)), none⟩] false) (.keep [4] [0, 1])) .ret)) (.pre (.keep [2, 3] [0, 1]) .skip)))
def vc27_18 : VC := .cond (.t 23) (.pre (.keep [2, 3] [0, 1]) vc27_19) (.pre (.keep [2, 3, 22] [0, 1]) vc27_45)
def vc27_16 : VC := .seq vc27_17 vc27_18
def vc27_15 : VC := .block 0 vc27_16
def vc27_13 : VC := .seq vc27_14 vc27_15
def vc27_52 : VC := (.seq (.post (.ops [⟨some 52, (.fld (.t 2) 1), none⟩, ⟨some 53, (.ld (.t 52)), none⟩, ⟨some 54, (.fld (.t 3) 1), none⟩, ⟨some 55, (.ld (.t 54)), none⟩, ⟨some 56, (.call 58 [(.t 53), (.t 55)] []), none⟩, ⟨some 4, (.mov (.t 56)), none⟩] false) (.keep [4] [0, 1])) .ret)
def vc27_12 : VC := .seq vc27_13 vc27_52
def vc27_4 : VC := .seq vc27_5 vc27_12
def vc27_2 : VC := .seq vc27_3 vc27_4
def vc27_0 : VC := .seq vc27_1 vc27_2
def vc28_1 : VC := .post (.ops [⟨some 4, .alA, none⟩] false) (.keep [0, 1, 4] [])
def vc28_3 : VC := .post (.ops [⟨some 10, (.mov (.t 1)), none⟩,
  ⟨some 11, (.mov (.t 0)), none⟩,
  ⟨some 12, (.len (.t 11)), none⟩,
  ⟨some 13, (.bin (.sub .i64) (.t 10) (.t 12)), none⟩,
  ⟨some 14, (.build (D.ag [(D.i 0), (D.i 0), (D.sz [])]) [(1, (.t 13))]), none⟩,
  ⟨some 5, (.alM 0 (.f (D.ag [(D.i 0), (D.i 0), (D.sz [])]))), none⟩,
  ⟨none, (.st (.t 5) (.t 14)), none⟩] false) (.keep [0, 4, 5] [0])
def vc28_5 : VC := .post (.ops [⟨some 6, (.nilw .o), none⟩] false) (.keep [0, 4, 5, 6] [0])
def vc28_8 : VC := .post (.ops [⟨some 15, (.mov (.t 0)), none⟩,
  ⟨some 16, (.len (.t 15)), none⟩,
  ⟨some 17, (.mov (.c (D.i 0))), none⟩] false) (.keep [0, 4, 5, 6, 15, 16, 17] [0])
def vc28_12 : VC := .post (.ops [⟨some 18, (.bin .ltI (.t 17) (.t 16)), none⟩] false) (.keep [0, 4, 5, 6, 15, 16, 17, 18] [0])
def vc28_14 : VC := (.cond (.t 18) (.pre (.keep [0, 4, 5, 6, 15, 16, 17] [0]) .skip) (.pre (.keep [4, 5, 6] [0]) (.exit 0)))
def vc28_17 : VC := (.seq (.block 1 (.seq (.post (.ops [⟨some 19, (.mov (.t 17)), none⟩, ⟨some 20, (.ixa (.t 15) (.t 17)), none⟩, ⟨some 21, (.ldF (.t 20)), none⟩, ⟨some 8, .alA, none⟩, ⟨some 7, (.mov (.t 19)), none⟩, ⟨none, (.ini 8 (.t 21)), none⟩] false) (.keep [0, 4, 5, 6, 7, 8, 15, 16, 17] [0])) (.seq (.seq (.post (.ops [⟨some 22, (.mov (.t 7)), none⟩, ⟨some 23, (.bin .eqI (.t 22) (.c (D.i 0))), none⟩, ⟨some 24, (.mov (.t 23)), none⟩, ⟨some 25, (.mov (.t 0)), some (24, false)⟩, ⟨some 26, (.mov (.t 7)), some (24, false)⟩, ⟨some 27, (.bin (.sub .i64) (.t 26) (.c (D.i 1))), some (24, false)⟩, ⟨some 28, (.ixa (.t 25) (.t 27)), some (24, false)⟩, ⟨some 29, (.ldF (.t 28)), some (24, false)⟩, ⟨some 30, (.ldF (.t 8)), some (24, false)⟩, ⟨some 31, (.call 59 [(.t 29), (.t 30)] []), some (24, false)⟩, ⟨some 32, (.un .not (.t 31)), some (24, false)⟩, ⟨some 33, (.pick (.t 24) (.c (D.b true)) (.t 32)), none⟩] true) (.keep [0, 4, 5, 6, 8, 15, 16, 17, 33] [0])) (.cond (.t 33) (.pre (.keep [0, 4, 5, 6, 8, 15, 16, 17] [0]) (.post (.ops [⟨some 34, (.fld (.t 5) 0), none⟩, ⟨some 35, (.ld (.t 34)), none⟩, ⟨some 36, (.bin (.add .i64) (.t 35) (.c (D.i 1))), none⟩, ⟨some 37, (.fld (.t 5) 0), none⟩, ⟨none, (.st (.t 37) (.t 36)), none⟩] false) (.keep [0, 4, 5, 6, 8, 15, 16, 17] [0]))) (.pre (.keep [0, 4, 5, 6, 8, 15, 16, 17] [0]) .skip))) (.seq (.post (.ops [⟨some 38, (.fld (.t 8) 0), none⟩, ⟨some 39, (.ldF (.t 38)), none⟩, ⟨some 40, (.bin .eqI (.t 39) (.c (D.i 1))), none⟩] false) (.keep [0, 4, 5, 6, 8, 15, 16, 17, 40] [0])) (.cond (.t 40) (.pre (.keep [0, 4, 5, 6, 8, 15, 16, 17] [0]) (.post (.ops [⟨some 41, (.tak 6), none⟩, ⟨some 42, (.fld (.t 8) 1), none⟩, ⟨some 43, (.ldF (.t 42)), none⟩, ⟨some 44, (.bsl .f [(D.i 0)] [(0, (.t 43))]), none⟩, ⟨some 45, (.app .o 17592186044416 (.t 41) true (.t 44)), none⟩, ⟨some 6, (.tak 45), none⟩] false) (.keep [0, 4, 5, 6, 15, 16, 17] [0]))) (.pre (.keep [0, 4, 5, 6, 15, 16, 17] [0]) .skip)))))) (.post (.ops [⟨some 46, (.bin (.add .i64) (.t 17) (.c (D.i 1))), none⟩, ⟨some 17, (.mov (.t 46)), none⟩] false) (.keep [0, 4, 5, 6, 15, 16, 17] [0])))
def vc28_13 : VC := .seq vc28_14 vc28_17
def vc28_11 : VC := .seq vc28_12 vc28_13
def vc28_10 : VC := .loop vc28_11
def vc28_9 : VC := .block 0 vc28_10
def vc28_7 : VC := .seq vc28_8 vc28_9
def vc28_35 : VC := .post (.ops [⟨some 9, (.mov (.c (D.i 0))), none⟩] false) (.keep [4, 5, 6, 9] [0])
def vc28_38 : VC := (.seq (.seq (.post (.ops [⟨some 47, (.mov (.t 9)), none⟩, ⟨some 48, (.bin .leI (.t 47) (.c (D.i 8))), none⟩, ⟨some 49, (.mov (.t 48)), none⟩, ⟨some 50, (.mov (.t 6)), some (49, true)⟩, ⟨some 51, (.len (.t 50)), some (49, true)⟩, ⟨some 52, (.bin .gtI (.t 51) (.c (D.i 0))), some (49, true)⟩, ⟨some 53, (.pick (.t 49) (.t 52) (.c (D.b false))), none⟩] false) (.keep [4, 5, 6, 9, 53] [0])) (.cond (.t 53) (.pre (.keep [4, 5, 6, 9] [0]) .skip) (.pre (.keep [4, 5] [0]) (.exit 2)))) (.seq (.block 3 (.post (.ops [⟨some 56, (.fld (.t 5) 2), none⟩, ⟨some 57, (.ldT (.t 56)), none⟩, ⟨some 58, (.mov (.t 6)), none⟩, ⟨some 59, (.mov (.t 9)), none⟩, ⟨some 60, (.mov (.t 6)), none⟩, ⟨some 61, (.len (.t 60)), none⟩, ⟨some 62, (.bin (.sub .i64) (.t 61) (.c (D.i 1))), none⟩, ⟨some 63, (.bin (.mul .i64) (.t 59) (.t 62)), none⟩, ⟨some 64, (.bin (.quo .i64) (.t 63) (.c (D.i 8))), none⟩, ⟨some 65, (.ixa (.t 58) (.t 64)), none⟩, ⟨some 66, (.ldF (.t 65)), none⟩, ⟨some 67, (.bsl .f [(D.i 0)] [(0, (.t 66))]), none⟩, ⟨some 68, (.app .o 17592186044416 (.t 57) true (.t 67)), none⟩, ⟨some 69, (.fld (.t 5) 2), none⟩, ⟨none, (.stT (.t 69) 68), none⟩] true) (.keep [4, 5, 6, 9] [0]))) (.post (.ops [⟨some 54, (.mov (.t 9)), none⟩, ⟨some 55, (.bin (.add .i64) (.t 54) (.c (D.i 1))), none⟩, ⟨some 9, (.mov (.t 55)), none⟩] false) (.keep [4, 5, 6, 9] [0]))))
def vc28_37 : VC := .loop vc28_38
def vc28_36 : VC := .block 2 vc28_37
def vc28_34 : VC := .seq vc28_35 (.pre (.opn 0 2) vc28_36)
def vc28_48 : VC := (.seq (.post (.ops [⟨some 70, (.ld (.t 5)), none⟩, ⟨none, (.ini 4 (.t 70)), none⟩] false) (.keep [4] [0])) .ret)
def vc28_33 : VC := .seq vc28_34 (.pre (.cls 0) vc28_48)
def vc28_6 : VC := .seq vc28_7 vc28_33
def vc28_4 : VC := .seq vc28_5 vc28_6
def vc28_2 : VC := .seq vc28_3 vc28_4
def vc28_0 : VC := .seq vc28_1 vc28_2
def vc29_0 : VC := (.seq (.post (.ops [⟨some 3, (.boxM 0 (.t 1)), none⟩, ⟨some 4, (.mov (.c (D.i 0))), none⟩, ⟨some 5, .alA, none⟩] false) (.keep [0, 3, 5] [0])) (.seq (.post (.ops [⟨some 6, (.mov (.t 0)), none⟩, ⟨some 7, (.mm false (.t 6) [(.c (D.i 1099511627776))]), none⟩, ⟨some 8, (.mm true (.c (D.i 0)) [(.t 7)]), none⟩, ⟨some 0, (.mov (.t 8)), none⟩] false) (.keep [0, 3, 5] [0])) (.seq (.post (.ops [⟨some 9, (.fld (.t 3) 1), none⟩, ⟨some 10, (.ld (.t 9)), none⟩, ⟨some 11, (.mov (.t 0)), none⟩, ⟨some 12, (.mm false (.t 10) [(.t 11)]), none⟩, ⟨some 13, (.mm true (.c (D.i 0)) [(.t 12)]), none⟩, ⟨some 14, (.fld (.t 3) 1), none⟩, ⟨none, (.st (.t 14) (.t 13)), none⟩] false) (.keep [0, 3, 5] [0])) (.seq (.post (.ops [⟨some 15, (.fld (.t 3) 0), none⟩, ⟨some 16, (.ld (.t 15)), none⟩, ⟨some 17, (.mov (.t 0)), none⟩, ⟨some 18, (.mm false (.t 16) [(.t 17)]), none⟩, ⟨some 19, (.mm true (.c (D.i 0)) [(.t 18)]), none⟩, ⟨some 20, (.fld (.t 3) 0), none⟩, ⟨none, (.st (.t 20) (.t 19)), none⟩] false) (.keep [0, 3, 5] [0])) (.seq (.post (.ops [⟨some 21, (.mov (.t 0)), none⟩, ⟨some 22, (.ld (.t 3)), none⟩, ⟨some 4, (.mov (.t 21)), none⟩, ⟨none, (.ini 5 (.t 22)), none⟩] true) (.keep [4, 5] [0])) .ret)))))
def vc30_0 : VC := (.seq (.post (.ops [⟨some 1, (.box (.t 0)), none⟩, ⟨some 2, .alA, none⟩] false) (.keep [1, 2] [])) (.seq (.seq (.post (.ops [⟨some 3, (.fld (.t 1) 0), none⟩, ⟨some 4, (.ldF (.t 3)), none⟩] false) (.keep [1, 2, 4] [])) (.block 0 (.seq (.post (.ops [⟨some 6, (.bin .eqI (.t 4) (.c (D.i 1))), none⟩, ⟨some 5, (.mov (.t 6)), none⟩] false) (.keep [1, 2, 4, 5] [])) (.cond (.t 5) (.pre (.keep [1, 2] []) (.seq (.post (.ops [⟨some 7, (.fld (.t 1) 1), none⟩, ⟨some 8, (.ldF (.t 7)), none⟩, ⟨some 9, (.call 60 [(.t 8)] []), none⟩, ⟨none, (.ini 2 (.t 9)), none⟩] false) (.keep [2] [])) .ret)) (.pre (.keep [1, 2, 4] []) (.seq (.post (.ops [⟨some 11, (.bin .eqI (.t 4) (.c (D.i 2))), none⟩, ⟨some 10, (.mov (.t 11)), none⟩] false) (.keep [1, 2, 4, 10] [])) (.cond (.t 10) (.pre (.keep [1, 2] []) (.seq (.post (.ops [⟨some 12, (.fld (.t 1) 2), none⟩, ⟨some 13, (.ldF (.t 12)), none⟩, ⟨some 14, (.call 61 [(.t 13)] []), none⟩, ⟨none, (.ini 2 (.t 14)), none⟩] false) (.keep [2] [])) .ret)) (.pre (.keep [1, 2, 4] []) (.seq (.post (.ops [⟨some 16, (.bin .eqI (.t 4) (.c (D.i 3))), none⟩, ⟨some 15, (.mov (.t 16)), none⟩] false) (.keep [1, 2, 4, 15] [])) (.cond (.t 15) (.pre (.keep [1, 2] []) (.seq (.post (.ops [⟨some 17, (.fld (.t 1) 3), none⟩, ⟨some 18, (.ldF (.t 17)), none⟩, ⟨some 19, (.call 62 [(.t 18)] []), none⟩, ⟨none, (.ini 2 (.t 19)), none⟩] false) (.keep [2] [])) .ret)) (.pre (.keep [1, 2, 4] []) (.seq (.post (.ops [⟨some 21, (.bin .eqI (.t 4) (.c (D.i 4))), none⟩, ⟨some 20, (.mov (.t 21)), none⟩] false) (.keep [1, 2, 20] [])) (.cond (.t 20) (.pre (.keep [1, 2] []) (.seq (.post (.ops [⟨some 22, (.fld (.t 1) 1), none⟩, ⟨some 23, (.ldF (.t 22)), none⟩, ⟨some 24, (.bin .neI (.t 23) (.c (D.i 0))), none⟩, ⟨some 25, (.call 51 [(.t 24)] []), none⟩, ⟨none, (.ini 2 (.t 25)), none⟩] false) (.keep [2] [])) .ret)) (.pre (.keep [2] []) .skip)))))))))))))) (.seq (.post (.ops [⟨some 26, (.build (D.ag [(D.i 0), (D.i 0), (D.f 0), (D.s [])]) []), none⟩, ⟨none, (.ini 2 (.t 26)), none⟩] false) (.keep [2] [])) .ret)))
def vc31_1 : VC := .post (.ops [⟨some 5, (.mov (.c (D.i 0))), none⟩] false) (.keep [0, 1, 2, 3] [])
def vc31_3 : VC := (.seq (.post (.ops [⟨some 9, (.fld (.t 1) 0), none⟩, ⟨some 10, (.ldF (.t 9)), none⟩, ⟨some 11, (.bin .neI (.t 10) (.c (D.i 1))), none⟩, ⟨some 12, (.mov (.t 11)), none⟩, ⟨some 13, (.fld (.t 2) 2), some (12, false)⟩, ⟨some 14, (.ldF (.t 13)), some (12, false)⟩, ⟨some 15, (.len (.t 14)), some (12, false)⟩, ⟨some 16, (.bin .eqI (.t 15) (.c (D.i 0))), some (12, false)⟩, ⟨some 17, (.pick (.t 12) (.c (D.b true)) (.t 16)), none⟩] false) (.keep [0, 2, 3, 17] [])) (.cond (.t 17) (.pre (.keep [3] []) (.seq (.post (.ops [⟨some 18, (.ldF (.t 3)), none⟩, ⟨some 19, (.bin (.quo .i64) (.t 18) (.c (D.i 3))), none⟩, ⟨some 5, (.mov (.t 19)), none⟩] false) (.keep [5] [])) .ret)) (.pre (.keep [0, 2, 3] []) .skip)))
def vc31_11 : VC := .post (.ops [⟨some 6, (.mov (.c (D.i 0))), none⟩] false) (.keep [0, 2, 3, 6] [])
def vc31_14 : VC := .post (.ops [⟨some 20, (.fld (.t 2) 2), none⟩,
  ⟨some 21, (.ldF (.t 20)), none⟩,
  ⟨some 22, (.len (.t 21)), none⟩,
  ⟨some 23, (.mov (.c (D.i 0))), none⟩] false) (.keep [0, 2, 3, 6, 21, 22, 23] [])
def vc31_17 : VC := (.seq (.post (.ops [⟨some 24, (.bin .ltI (.t 23) (.t 22)), none⟩] false) (.keep [0, 2, 3, 6, 21, 22, 23, 24] [])) (.seq (.cond (.t 24) (.pre (.keep [0, 2, 3, 6, 21, 22, 23] []) .skip) (.pre (.keep [2, 3, 6] []) (.exit 0))) (.seq (.block 1 (.seq (.post (.ops [⟨some 25, (.ixa (.t 21) (.t 23)), none⟩, ⟨some 26, (.ldF (.t 25)), none⟩, ⟨some 8, (.mov (.t 26)), none⟩] false) (.keep [0, 2, 3, 6, 8, 21, 22, 23] [])) (.seq (.post (.ops [⟨some 27, (.mov (.t 0)), none⟩, ⟨some 28, (.mov (.t 8)), none⟩, ⟨some 29, (.callv (.t 27) [(.t 28)] [Ty.v 4, Ty.v 2] []), none⟩] false) (.keep [0, 2, 3, 6, 21, 22, 23, 29] [])) (.cond (.t 29) (.pre (.keep [0, 2, 3, 6, 21, 22, 23] []) (.post (.ops [⟨some 30, (.mov (.t 6)), none⟩, ⟨some 31, (.bin (.add .i64) (.t 30) (.c (D.i 1))), none⟩, ⟨some 6, (.mov (.t 31)), none⟩] false) (.keep [0, 2, 3, 6, 21, 22, 23] []))) (.pre (.keep [0, 2, 3, 6, 21, 22, 23] []) .skip))))) (.post (.ops [⟨some 32, (.bin (.add .i64) (.t 23) (.c (D.i 1))), none⟩, ⟨some 23, (.mov (.t 32)), none⟩] false) (.keep [0, 2, 3, 6, 21, 22, 23] [])))))
def vc31_16 : VC := .loop vc31_17
def vc31_15 : VC := .block 0 vc31_16
def vc31_13 : VC := .seq vc31_14 vc31_15
def vc31_33 : VC := (.seq (.post (.ops [⟨some 33, (.ldF (.t 3)), none⟩, ⟨some 34, (.mov (.t 6)), none⟩, ⟨some 35, (.bin (.mul .i64) (.t 33) (.t 34)), none⟩, ⟨some 36, (.fld (.t 2) 2), none⟩, ⟨some 37, (.ldF (.t 36)), none⟩, ⟨some 38, (.len (.t 37)), none⟩, ⟨some 39, (.bin (.quo .i64) (.t 35) (.t 38)), none⟩, ⟨some 5, (.mov (.t 39)), none⟩] false) (.keep [5] [])) .ret)
def vc31_12 : VC := .seq vc31_13 vc31_33
def vc31_10 : VC := .seq vc31_11 vc31_12
def vc31_2 : VC := .seq vc31_3 vc31_10
def vc31_0 : VC := .seq vc31_1 vc31_2
def vc32_0 : VC := (.seq (.post (.ops [⟨some 3, (.mov (.c (D.b false))), none⟩] false) (.keep [0, 1] [])) (.seq (.post (.ops [⟨some 4, (.mov (.t 0)), none⟩, ⟨some 5, (.fld (.t 1) 1), none⟩, ⟨some 6, (.ldF (.t 5)), none⟩, ⟨some 7, (.bin .ltI (.t 4) (.t 6)), none⟩, ⟨some 3, (.mov (.t 7)), none⟩] false) (.keep [3] [])) .ret))
def vc33_0 : VC := (.seq (.post (.ops [⟨some 3, (.mov (.c (D.b false))), none⟩] false) (.keep [0, 1] [])) (.seq (.post (.ops [⟨some 4, (.mov (.t 0)), none⟩, ⟨some 5, (.fld (.t 1) 1), none⟩, ⟨some 6, (.ldF (.t 5)), none⟩, ⟨some 7, (.bin .leI (.t 4) (.t 6)), none⟩, ⟨some 3, (.mov (.t 7)), none⟩] false) (.keep [3] [])) .ret))
def vc34_0 : VC := (.seq (.post (.ops [⟨some 3, (.mov (.c (D.b false))), none⟩] false) (.keep [0, 1] [])) (.seq (.post (.ops [⟨some 4, (.mov (.t 0)), none⟩, ⟨some 5, (.fld (.t 1) 1), none⟩, ⟨some 6, (.ldF (.t 5)), none⟩, ⟨some 7, (.bin .gtI (.t 4) (.t 6)), none⟩, ⟨some 3, (.mov (.t 7)), none⟩] false) (.keep [3] [])) .ret))
def vc35_0 : VC := (.seq (.post (.ops [⟨some 3, (.mov (.c (D.b false))), none⟩] false) (.keep [0, 1] [])) (.seq (.post (.ops [⟨some 4, (.mov (.t 0)), none⟩, ⟨some 5, (.fld (.t 1) 1), none⟩, ⟨some 6, (.ldF (.t 5)), none⟩, ⟨some 7, (.bin .geI (.t 4) (.t 6)), none⟩, ⟨some 3, (.mov (.t 7)), none⟩] false) (.keep [3] [])) .ret))
def vc36_0 : VC := (.seq (.post (.ops [⟨some 4, (.mov (.c (D.i 0))), none⟩] false) (.keep [0, 1] [])) (.seq (.post (.ops [⟨some 5, (.mov (.t 0)), none⟩, ⟨some 6, (.mov (.t 1)), none⟩, ⟨some 7, (.mm false (.t 5) [(.t 6)]), none⟩, ⟨some 8, (.mm true (.c (D.i 0)) [(.t 7)]), none⟩, ⟨some 4, (.mov (.t 8)), none⟩] false) (.keep [4] [])) .ret))
def vc37_1 : VC := .post (.ops [⟨some 4, (.boxM 0 (.t 1)), none⟩,
  ⟨some 5, (.boxM 1 (.t 2)), none⟩,
  ⟨some 6, .alA, none⟩] false) (.keep [0, 4, 5, 6] [0, 1])
def vc37_3 : VC := .post (.ops [⟨some 8, (.ld (.t 4)), none⟩,
  ⟨some 9, (.call 10 [(.t 8)] []), none⟩,
  ⟨some 10, (.ld (.t 5)), none⟩,
  ⟨some 11, (.call 10 [(.t 10)] []), none⟩,
  ⟨none, (.st (.t 4) (.t 9)), none⟩,
  ⟨none, (.st (.t 5) (.t 11)), none⟩] true) (.keep [0, 4, 5, 6] [0, 1])
def vc37_5 : VC := (.seq (.post (.ops [⟨some 12, (.fld (.t 4) 0), none⟩, ⟨some 13, (.ld (.t 12)), none⟩, ⟨some 14, (.fld (.t 5) 0), none⟩, ⟨some 15, (.ld (.t 14)), none⟩, ⟨some 16, (.bin .neI (.t 13) (.t 15)), none⟩, ⟨some 17, (.mov (.t 16)), none⟩, ⟨some 18, (.fld (.t 4) 0), some (17, false)⟩, ⟨some 19, (.ld (.t 18)), some (17, false)⟩, ⟨some 20, (.bin .eqI (.t 19) (.c (D.i 0))), some (17, false)⟩, ⟨some 21, (.pick (.t 17) (.c (D.b true)) (.t 20)), none⟩] false) (.keep [0, 4, 5, 6, 21] [0, 1])) (.cond (.t 21) (.pre (.keep [6] [0, 1]) (.seq (.post (.ops [⟨some 22, (.build (D.ag [(D.i 0), (D.i 0), (D.f 0), (D.s [])]) []), none⟩, ⟨none, (.ini 6 (.t 22)), none⟩] false) (.keep [6] [0, 1])) .ret)) (.pre (.keep [0, 4, 5, 6] [0, 1]) .skip)))
def vc37_12 : VC := (.seq (.post (.ops [⟨some 23, (.build (D.ag [(D.b false), (D.b false), (D.b false)]) []), none⟩, ⟨some 7, (.alM 2 (.f (D.ag [(D.b false), (D.b false), (D.b false)]))), none⟩, ⟨none, (.st (.t 7) (.t 23)), none⟩] false) (.keep [0, 4, 5, 6, 7] [0, 1, 2])) (.seq (.seq (.post (.ops [⟨some 24, (.mov (.t 0)), none⟩] false) (.keep [4, 5, 6, 7, 24] [0, 1, 2])) (.block 0 (.seq (.post (.ops [⟨some 27, (.bin .seq (.t 24) (.c (D.s [61]))), none⟩, ⟨some 26, (.mov (.t 27)), none⟩] false) (.keep [4, 5, 6, 7, 24, 26] [0, 1, 2])) (.cond (.t 26) (.pre (.keep [4, 5, 6, 7] [0, 1, 2]) (.post (.ops [⟨some 28, (.ixA 3 (.t 7) (.c (D.i 1))), none⟩, ⟨none, (.st (.t 28) (.c (D.b true))), none⟩] false) (.keep [4, 5, 6, 7] [0, 1, 2]))) (.pre (.keep [4, 5, 6, 7, 24] [0, 1, 2]) (.seq (.post (.ops [⟨some 30, (.bin .seq (.t 24) (.c (D.s [60, 62]))), none⟩, ⟨some 29, (.mov (.t 30)), none⟩] false) (.keep [4, 5, 6, 7, 24, 29] [0, 1, 2])) (.cond (.t 29) (.pre (.keep [4, 5, 6, 7] [0, 1, 2]) (.post (.ops [⟨some 31, (.ixA 3 (.t 7) (.c (D.i 0))), none⟩, ⟨none, (.st (.t 31) (.c (D.b true))), none⟩, ⟨some 32, (.ixA 3 (.t 7) (.c (D.i 2))), none⟩, ⟨none, (.st (.t 32) (.c (D.b true))), none⟩] false) (.keep [4, 5, 6, 7] [0, 1, 2]))) (.pre (.keep [4, 5, 6, 7, 24] [0, 1, 2]) (.seq (.post (.ops [⟨some 34, (.bin .seq (.t 24) (.c (D.s [60]))), none⟩, ⟨some 33, (.mov (.t 34)), none⟩] false) (.keep [4, 5, 6, 7, 24, 33] [0, 1, 2])) (.cond (.t 33) (.pre (.keep [4, 5, 6, 7] [0, 1, 2]) (.post (.ops [⟨some 35, (.ixA 3 (.t 7) (.c (D.i 0))), none⟩, ⟨none, (.st (.t 35) (.c (D.b true))), none⟩] false) (.keep [4, 5, 6, 7] [0, 1, 2]))) (.pre (.keep [4, 5, 6, 7, 24] [0, 1, 2]) (.seq (.post (.ops [⟨some 37, (.bin .seq (.t 24) (.c (D.s [60, 61]))), none⟩, ⟨some 36, (.mov (.t 37)), none⟩] false) (.keep [4, 5, 6, 7, 24, 36] [0, 1, 2])) (.cond (.t 36) (.pre (.keep [4, 5, 6, 7] [0, 1, 2]) (.post (.ops [⟨some 38, (.ixA 3 (.t 7) (.c (D.i 0))), none⟩, ⟨none, (.st (.t 38) (.c (D.b true))), none⟩, ⟨some 39, (.ixA 3 (.t 7) (.c (D.i 1))), none⟩, ⟨none, (.st (.t 39) (.c (D.b true))), none⟩] false) (.keep [4, 5, 6, 7] [0, 1, 2]))) (.pre (.keep [4, 5, 6, 7, 24] [0, 1, 2]) (.seq (.post (.ops [⟨some 41, (.bin .seq (.t 24) (.c (D.s [62]))), none⟩, ⟨some 40, (.mov (.t 41)), none⟩] false) (.keep [4, 5, 6, 7, 24, 40] [0, 1, 2])) (.cond (.t 40) (.pre (.keep [4, 5, 6, 7] [0, 1, 2]) (.post (.ops [⟨some 42, (.ixA 3 (.t 7) (.c (D.i 2))), none⟩, ⟨none, (.st (.t 42) (.c (D.b true))), none⟩] false) (.keep [4, 5, 6, 7] [0, 1, 2]))) (.pre (.keep [4, 5, 6, 7, 24] [0, 1, 2]) (.seq (.post (.ops [⟨some 44, (.bin .seq (.t 24) (.c (D.s [62, 61]))), none⟩, ⟨some 43, (.mov (.t 44)), none⟩] false) (.keep [4, 5, 6, 7, 43] [0, 1, 2])) (.cond (.t 43) (.pre (.keep [4, 5, 6, 7] [0, 1, 2]) (.post (.ops [⟨some 45, (.ixA 3 (.t 7) (.c (D.i 1))), none⟩, ⟨none, (.st (.t 45) (.c (D.b true))), none⟩, ⟨some 46, (.ixA 3 (.t 7) (.c (D.i 2))), none⟩, ⟨none, (.st (.t 46) (.c (D.b true))), none⟩] false) (.keep [4, 5, 6, 7] [0, 1, 2]))) (.pre (.keep [6] [0, 1, 2]) (.seq (.post (.ops [⟨some 25, (.build (D.ag [(D.i 0), (D.i 0), (D.f 0), (D.s [])]) []), none⟩, ⟨none, (.ini 6 (.t 25)), none⟩] false) (.keep [6] [0, 1, 2])) (.pre (.keep [6] [0, 1]) .ret)))))))))))))))))))))) (.seq (.post (.ops [⟨some 47, (.ld (.t 4)), none⟩, ⟨some 48, (.ld (.t 5)), none⟩, ⟨some 49, (.call 64 [(.t 47), (.t 48)] []), none⟩, ⟨some 50, (.bin (.add .i64) (.c (D.i 1)) (.t 49)), none⟩, ⟨some 51, (.ixA 3 (.t 7) (.t 50)), none⟩, ⟨some 52, (.ld (.t 51)), none⟩, ⟨some 53, (.call 63 [(.t 52)] []), none⟩, ⟨none, (.ini 6 (.t 53)), none⟩] false) (.keep [6] [0, 1, 2])) (.pre (.keep [6] [0, 1]) .ret))))
def vc37_4 : VC := .seq vc37_5 vc37_12
def vc37_2 : VC := .seq vc37_3 vc37_4
def vc37_0 : VC := .seq vc37_1 vc37_2
def vc38_1 : VC := .post (.ops [⟨some 2, (.box (.t 0)), none⟩,
  ⟨some 4, .alA, none⟩] false) (.keep [1, 2, 4] [])
def vc38_4 : VC := .post (.ops [⟨some 6, (.fld (.t 2) 0), none⟩,
  ⟨some 7, (.ldF (.t 6)), none⟩] false) (.keep [1, 2, 4, 7] [])
def vc38_7 : VC := .post (.ops [⟨some 9, (.bin .eqI (.t 7) (.c (D.i 1))), none⟩,
  ⟨some 8, (.mov (.t 9)), none⟩] false) (.keep [1, 2, 4, 7, 8] [])
def vc38_9 : VC := (.seq (.post (.ops [⟨some 10, (.fld (.t 2) 2), none⟩, ⟨some 11, (.ldF (.t 10)), none⟩, ⟨some 12, (.call 10 [(.t 11)] []), none⟩, ⟨none, (.ini 4 (.t 12)), none⟩] false) (.keep [4] [])) .ret)
def vc38_13 : VC := .post (.ops [⟨some 14, (.bin .eqI (.t 7) (.c (D.i 2))), none⟩,
  ⟨some 13, (.mov (.t 14)), none⟩] false) (.keep [1, 2, 4, 7, 13] [])
def vc38_15 : VC := (.seq (.post (.ops [⟨some 15, (.mov (.t 1)), none⟩, ⟨some 16, (.fld (.t 2) 3), none⟩, ⟨some 17, (.ldF (.t 16)), none⟩, ⟨some 18, (.call 65 [(.t 15), (.t 17)] []), none⟩, ⟨none, (.ini 4 (.t 18)), none⟩] false) (.keep [4] [])) .ret)
def vc38_19 : VC := .post (.ops [⟨some 20, (.bin .eqI (.t 7) (.c (D.i 3))), none⟩,
  ⟨some 19, (.mov (.t 20)), none⟩] false) (.keep [1, 2, 4, 7, 19] [])
def vc38_21 : VC := (.seq (.post (.ops [⟨some 21, (.ldF (.t 2)), none⟩, ⟨some 22, (.mov (.t 1)), none⟩, ⟨some 23, (.call 67 [(.t 21), (.c (D.i 0)), (.t 22)] []), none⟩, ⟨some 24, (.call 66 [(.t 23)] []), none⟩, ⟨none, (.ini 4 (.t 24)), none⟩] false) (.keep [4] [])) .ret)
def vc38_24 : VC := (.seq (.post (.ops [⟨some 26, (.bin .eqI (.t 7) (.c (D.i 4))), none⟩, ⟨some 25, (.mov (.t 26)), none⟩] false) (.keep [1, 2, 4, 7, 25] [])) (.cond (.t 25) (.pre (.keep [1, 2, 4] []) (.seq (.post (.ops [⟨some 27, (.ldF (.t 2)), none⟩, ⟨some 28, (.mov (.t 1)), none⟩, ⟨some 29, (.call 67 [(.t 27), (.c (D.i 0)), (.t 28)] []), none⟩, ⟨some 30, (.call 68 [(.t 29)] []), none⟩, ⟨none, (.ini 4 (.t 30)), none⟩] false) (.keep [4] [])) .ret)) (.pre (.keep [1, 2, 4, 7] []) (.seq (.post (.ops [⟨some 32, (.bin .eqI (.t 7) (.c (D.i 5))), none⟩, ⟨some 31, (.mov (.t 32)), none⟩] false) (.keep [1, 2, 4, 7, 31] [])) (.cond (.t 31) (.pre (.keep [1, 2, 4] []) (.seq (.post (.ops [⟨some 33, (.ldF (.t 2)), none⟩, ⟨some 34, (.mov (.t 1)), none⟩, ⟨some 35, (.call 67 [(.t 33), (.c (D.i 0)), (.t 34)] []), none⟩, ⟨some 36, (.ldF (.t 2)), none⟩, ⟨some 37, (.mov (.t 1)), none⟩, ⟨some 38, (.call 67 [(.t 36), (.c (D.i 1)), (.t 37)] []), none⟩, ⟨some 39, (.call 69 [(.t 35), (.t 38)] []), none⟩, ⟨none, (.ini 4 (.t 39)), none⟩] true) (.keep [4] [])) .ret)) (.pre (.keep [1, 2, 4, 7] []) (.seq (.post (.ops [⟨some 41, (.bin .eqI (.t 7) (.c (D.i 6))), none⟩, ⟨some 40, (.mov (.t 41)), none⟩] false) (.keep [1, 2, 4, 7, 40] [])) (.cond (.t 40) (.pre (.keep [1, 2, 4] []) (.seq (.post (.ops [⟨some 42, (.ldF (.t 2)), none⟩, ⟨some 43, (.mov (.t 1)), none⟩, ⟨some 44, (.call 67 [(.t 42), (.c (D.i 0)), (.t 43)] []), none⟩, ⟨some 45, (.ldF (.t 2)), none⟩, ⟨some 46, (.mov (.t 1)), none⟩, ⟨some 47, (.call 67 [(.t 45), (.c (D.i 1)), (.t 46)] []), none⟩, ⟨some 48, (.call 70 [(.t 44), (.t 47)] []), none⟩, ⟨none, (.ini 4 (.t 48)), none⟩] true) (.keep [4] [])) .ret)) (.pre (.keep [1, 2, 4, 7] []) (.seq (.post (.ops [⟨some 50, (.bin .eqI (.t 7) (.c (D.i 7))), none⟩, ⟨some 49, (.mov (.t 50)), none⟩] false) (.keep [1, 2, 4, 7, 49] [])) (.cond (.t 49) (.pre (.keep [1, 2, 4] []) (.seq (.post (.ops [⟨some 51, (.fld (.t 2) 1), none⟩, ⟨some 52, (.ldF (.t 51)), none⟩, ⟨some 53, (.ldF (.t 2)), none⟩, ⟨some 54, (.mov (.t 1)), none⟩, ⟨some 55, (.call 67 [(.t 53), (.c (D.i 0)), (.t 54)] []), none⟩, ⟨some 56, (.ldF (.t 2)), none⟩, ⟨some 57, (.mov (.t 1)), none⟩, ⟨some 58, (.call 67 [(.t 56), (.c (D.i 1)), (.t 57)] []), none⟩, ⟨some 59, (.call 37 [(.t 52), (.t 55), (.t 58)] []), none⟩, ⟨none, (.ini 4 (.t 59)), none⟩] true) (.keep [4] [])) .ret)) (.pre (.keep [1, 2, 4, 7] []) (.seq (.post (.ops [⟨some 61, (.bin .eqI (.t 7) (.c (D.i 8))), none⟩, ⟨some 60, (.mov (.t 61)), none⟩] false) (.keep [1, 2, 4, 7, 60] [])) (.cond (.t 60) (.pre (.keep [1, 2, 4] []) (.seq (.post (.ops [⟨some 62, (.fld (.t 2) 1), none⟩, ⟨some 63, (.ldF (.t 62)), none⟩, ⟨some 64, (.ldF (.t 2)), none⟩, ⟨some 65, (.mov (.t 1)), none⟩, ⟨some 66, (.call 67 [(.t 64), (.c (D.i 0)), (.t 65)] []), none⟩, ⟨some 67, (.ldF (.t 2)), none⟩, ⟨some 68, (.mov (.t 1)), none⟩, ⟨some 69, (.call 67 [(.t 67), (.c (D.i 1)), (.t 68)] []), none⟩, ⟨some 70, (.call 71 [(.t 63), (.t 66), (.t 69)] []), none⟩, ⟨none, (.ini 4 (.t 70)), none⟩] true) (.keep [4] [])) .ret)) (.pre (.keep [1, 2, 4, 7] []) (.seq (.post (.ops [⟨some 72, (.bin .eqI (.t 7) (.c (D.i 9))), none⟩, ⟨some 71, (.mov (.t 72)), none⟩] false) (.keep [1, 2, 4, 71] [])) (.cond (.t 71) (.pre (.keep [1, 2, 4] []) (.seq (.post (.ops [⟨some 73, (.ldF (.t 2)), none⟩, ⟨some 74, (.mov (.t 1)), none⟩, ⟨some 75, (.call 67 [(.t 73), (.c (D.i 0)), (.t 74)] []), none⟩, ⟨some 5, .alA, none⟩, ⟨none, (.ini 5 (.t 75)), none⟩] false) (.keep [2, 4, 5] [])) (.seq (.seq (.post (.ops [⟨some 76, (.fld (.t 2) 4), none⟩, ⟨some 77, (.ldF (.t 76)), none⟩] false) (.keep [4, 5, 77] [])) (.cond (.t 77) (.pre (.keep [4, 5] []) (.seq (.post (.ops [⟨some 78, (.fld (.t 5) 0), none⟩, ⟨some 79, (.ldF (.t 78)), none⟩, ⟨some 80, (.bin .neI (.t 79) (.c (D.i 0))), none⟩, ⟨some 81, (.call 63 [(.t 80)] []), none⟩, ⟨none, (.ini 4 (.t 81)), none⟩] false) (.keep [4] [])) .ret)) (.pre (.keep [4, 5] []) .skip))) (.seq (.post (.ops [⟨some 82, (.fld (.t 5) 0), none⟩, ⟨some 83, (.ldF (.t 82)), none⟩, ⟨some 84, (.bin .eqI (.t 83) (.c (D.i 0))), none⟩, ⟨some 85, (.call 63 [(.t 84)] []), none⟩, ⟨none, (.ini 4 (.t 85)), none⟩] false) (.keep [4] [])) .ret)))) (.pre (.keep [4] []) .skip))))))))))))))))))
def vc38_20 : VC := .cond (.t 19) (.pre (.keep [1, 2, 4] []) vc38_21) (.pre (.keep [1, 2, 4, 7] []) vc38_24)
def vc38_18 : VC := .seq vc38_19 vc38_20
def vc38_14 : VC := .cond (.t 13) (.pre (.keep [1, 2, 4] []) vc38_15) (.pre (.keep [1, 2, 4, 7] []) vc38_18)
def vc38_12 : VC := .seq vc38_13 vc38_14
def vc38_8 : VC := .cond (.t 8) (.pre (.keep [2, 4] []) vc38_9) (.pre (.keep [1, 2, 4, 7] []) vc38_12)
def vc38_6 : VC := .seq vc38_7 vc38_8
def vc38_5 : VC := .block 0 vc38_6
def vc38_3 : VC := .seq vc38_4 vc38_5
def vc38_71 : VC := (.seq (.post (.ops [⟨some 86, (.build (D.ag [(D.i 0), (D.i 0), (D.f 0), (D.s [])]) []), none⟩, ⟨none, (.ini 4 (.t 86)), none⟩] false) (.keep [4] [])) .ret)
def vc38_2 : VC := .seq vc38_3 vc38_71
def vc38_0 : VC := .seq vc38_1 vc38_2
def vc39_0 : VC := (.seq (.post (.ops [⟨some 2, (.mov (.c (D.b false))), none⟩] false) (.keep [0] [])) (.seq (.post (.ops [⟨some 3, (.mov (.t 0)), none⟩, ⟨some 4, (.mov (.t 0)), none⟩, ⟨some 5, (.bin .feq (.t 3) (.t 4)), none⟩, ⟨some 2, (.mov (.t 5)), none⟩] false) (.keep [2] [])) .ret))
def vc40_0 : VC := (.seq (.post (.ops [⟨some 2, (.mov (.c (D.b false))), none⟩] false) (.keep [0] [])) (.seq (.post (.ops [⟨some 3, (.mov (.t 0)), none⟩, ⟨some 4, (.un .fbits (.t 3)), none⟩, ⟨some 5, (.un (.conv .i64) (.t 4)), none⟩, ⟨some 6, (.bin .ltI (.t 5) (.c (D.i 0))), none⟩, ⟨some 2, (.mov (.t 6)), none⟩] false) (.keep [2] [])) .ret))
def vc41_0 : VC := (.seq (.post (.ops [⟨some 4, (.mov (.c (D.b false))), none⟩] false) (.keep [0, 1] [])) (.seq (.post (.ops [⟨some 5, (.mov (.t 0)), none⟩, ⟨some 6, (.mov (.t 1)), none⟩, ⟨some 7, (.call 73 [(.t 5), (.t 6)] []), none⟩, ⟨some 8, (.bin .geI (.t 7) (.c (D.i 0))), none⟩, ⟨some 4, (.mov (.t 8)), none⟩] false) (.keep [4] [])) .ret))
def vc42_0 : VC := (.seq (.post (.ops [⟨some 4, (.mov (.c (D.i 0))), none⟩, ⟨some 5, .alA, none⟩] false) (.keep [0, 1, 2, 5] [])) (.seq (.seq (.post (.ops [⟨some 6, (.mov (.t 0)), none⟩, ⟨some 7, (.bin .ltI (.t 6) (.c (D.i 0))), none⟩, ⟨some 8, (.mov (.t 7)), none⟩, ⟨some 9, (.mov (.t 0)), some (8, false)⟩, ⟨some 10, (.ldF (.t 1)), some (8, false)⟩, ⟨some 11, (.len (.t 10)), some (8, false)⟩, ⟨some 12, (.bin .geI (.t 9) (.t 11)), some (8, false)⟩, ⟨some 13, (.pick (.t 8) (.c (D.b true)) (.t 12)), none⟩, ⟨some 14, (.mov (.t 13)), none⟩, ⟨some 15, (.mov (.t 0)), some (14, false)⟩, ⟨some 16, (.ldF (.t 2)), some (14, false)⟩, ⟨some 17, (.len (.t 16)), some (14, false)⟩, ⟨some 18, (.bin .geI (.t 15) (.t 17)), some (14, false)⟩, ⟨some 19, (.pick (.t 14) (.c (D.b true)) (.t 18)), none⟩] false) (.keep [0, 1, 2, 5, 19] [])) (.cond (.t 19) (.pre (.keep [5] []) (.seq (.post (.ops [⟨some 20, (.build (D.ag [(D.i 0), (D.i 0), (D.sz [])]) []), none⟩, ⟨some 4, (.mov (.c (D.i 0))), none⟩, ⟨none, (.ini 5 (.t 20)), none⟩] false) (.keep [4, 5] [])) .ret)) (.pre (.keep [0, 1, 2, 5] []) .skip))) (.seq (.post (.ops [⟨some 21, (.ldF (.t 1)), none⟩, ⟨some 22, (.mov (.t 0)), none⟩, ⟨some 23, (.ixa (.t 21) (.t 22)), none⟩, ⟨some 24, (.ldF (.t 23)), none⟩, ⟨some 25, (.ldF (.t 2)), none⟩, ⟨some 26, (.mov (.t 0)), none⟩, ⟨some 27, (.ixa (.t 25) (.t 26)), none⟩, ⟨some 28, (.ldF (.t 27)), none⟩, ⟨some 29, (.call 29 [(.t 24), (.t 28)] []), none⟩, ⟨some 30, (.ext (.t 29) 0), none⟩, ⟨some 31, (.ext (.t 29) 1), none⟩, ⟨some 4, (.mov (.t 30)), none⟩, ⟨none, (.ini 5 (.t 31)), none⟩] true) (.keep [4, 5] [])) .ret)))
def vc43_0 : VC := (.seq (.post (.ops [⟨some 6, (.mov (.c (D.i 0))), none⟩, ⟨some 7, .alA, none⟩] false) (.keep [0, 1, 2, 7] [])) (.seq (.seq (.post (.ops [⟨some 10, (.mov (.t 0)), none⟩, ⟨some 11, (.bin .ltI (.t 10) (.c (D.i 0))), none⟩, ⟨some 12, (.mov (.t 11)), none⟩, ⟨some 13, (.mov (.t 0)), some (12, false)⟩, ⟨some 14, (.mov (.t 1)), some (12, false)⟩, ⟨some 15, (.len (.t 14)), some (12, false)⟩, ⟨some 16, (.bin .geI (.t 13) (.t 15)), some (12, false)⟩, ⟨some 17, (.pick (.t 12) (.c (D.b true)) (.t 16)), none⟩, ⟨some 18, (.mov (.t 17)), none⟩, ⟨some 19, (.mov (.t 0)), some (18, false)⟩, ⟨some 20, (.mov (.t 2)), some (18, false)⟩, ⟨some 21, (.len (.t 20)), some (18, false)⟩, ⟨some 22, (.bin .geI (.t 19) (.t 21)), some (18, false)⟩, ⟨some 23, (.pick (.t 18) (.c (D.b true)) (.t 22)), none⟩] false) (.keep [0, 1, 2, 7, 23] [])) (.cond (.t 23) (.pre (.keep [7] []) (.seq (.post (.ops [⟨some 24, (.build (D.ag [(D.i 0), (D.i 0), (D.sz [])]) []), none⟩, ⟨some 6, (.mov (.c (D.i 0))), none⟩, ⟨none, (.ini 7 (.t 24)), none⟩] false) (.keep [6, 7] [])) .ret)) (.pre (.keep [0, 1, 2, 7] []) .skip))) (.seq (.post (.ops [⟨some 25, (.mov (.t 1)), none⟩, ⟨some 26, (.mov (.t 0)), none⟩, ⟨some 27, (.ixa (.t 25) (.t 26)), none⟩, ⟨some 28, (.ldF (.t 27)), none⟩, ⟨some 29, (.call 36 [(.t 28), (.c (D.i 1099511627776))] []), none⟩, ⟨some 8, (.mov (.t 29)), none⟩] false) (.keep [0, 2, 7, 8] [])) (.seq (.post (.ops [⟨some 30, (.mov (.t 2)), none⟩, ⟨some 31, (.mov (.t 0)), none⟩, ⟨some 32, (.ixa (.t 30) (.t 31)), none⟩, ⟨some 33, (.ldF (.t 32)), none⟩, ⟨some 9, .alA, none⟩, ⟨none, (.ini 9 (.t 33)), none⟩] false) (.keep [7, 8, 9] [])) (.seq (.post (.ops [⟨some 34, (.mov (.t 8)), none⟩, ⟨some 35, (.fld (.t 9) 0), none⟩, ⟨some 36, (.ldF (.t 35)), none⟩, ⟨some 37, (.mov (.t 8)), none⟩, ⟨some 38, (.call 36 [(.t 36), (.t 37)] []), none⟩, ⟨some 39, (.fld (.t 9) 1), none⟩, ⟨some 40, (.ldF (.t 39)), none⟩, ⟨some 41, (.mov (.t 8)), none⟩, ⟨some 42, (.call 36 [(.t 40), (.t 41)] []), none⟩, ⟨some 43, (.fld (.t 9) 2), none⟩, ⟨some 44, (.ldF (.t 43)), none⟩, ⟨some 45, (.build (D.ag [(D.i 0), (D.i 0), (D.sz [])]) [(0, (.t 38)), (1, (.t 42)), (2, (.t 44))]), none⟩, ⟨some 6, (.mov (.t 34)), none⟩, ⟨none, (.ini 7 (.t 45)), none⟩] true) (.keep [6, 7] [])) .ret)))))
def vc44_0 : VC := (.seq (.post (.ops [⟨some 4, .alA, none⟩] false) (.keep [0, 1, 2, 4] [])) (.seq (.seq (.post (.ops [⟨some 5, (.mov (.t 0)), none⟩, ⟨some 6, (.fld (.t 1) 6), none⟩, ⟨some 7, (.ldF (.t 6)), none⟩, ⟨some 8, (.len (.t 7)), none⟩, ⟨some 9, (.bin .ltI (.t 5) (.t 8)), none⟩] false) (.keep [0, 1, 2, 4, 9] [])) (.cond (.t 9) (.pre (.keep [0, 1, 2, 4] []) (.seq (.post (.ops [⟨some 10, (.fld (.t 1) 6), none⟩, ⟨some 11, (.ldF (.t 10)), none⟩, ⟨some 12, (.mov (.t 0)), none⟩, ⟨some 13, (.ixa (.t 11) (.t 12)), none⟩, ⟨some 14, (.ldF (.t 13)), none⟩, ⟨some 15, (.ldF (.t 2)), none⟩, ⟨some 16, (.call 25 [(.t 14), (.t 15)] []), none⟩, ⟨none, (.ini 4 (.t 16)), none⟩] true) (.keep [4] [])) .ret)) (.pre (.keep [4] []) .skip))) (.seq (.post (.ops [⟨some 17, (.build (D.ag [(D.i 0), (D.i 0), (D.f 0), (D.s [])]) []), none⟩, ⟨none, (.ini 4 (.t 17)), none⟩] false) (.keep [4] [])) .ret)))
def vc45_0 : VC := (.seq (.post (.ops [⟨some 1, (.boxM 0 (.t 0)), none⟩, ⟨some 2, .alA, none⟩] false) (.keep [1, 2] [0])) (.seq (.seq (.post (.ops [⟨some 3, (.ld (.t 1)), none⟩, ⟨some 4, (.call 30 [(.t 3)] []), none⟩, ⟨none, (.st (.t 1) (.t 4)), none⟩] false) (.keep [1, 2] [0])) (.seq (.post (.ops [⟨some 5, (.fld (.t 1) 0), none⟩, ⟨some 6, (.ld (.t 5)), none⟩, ⟨some 7, (.bin .eqI (.t 6) (.c (D.i 2))), none⟩] false) (.keep [1, 2, 7] [0])) (.cond (.t 7) (.pre (.keep [1, 2] [0]) (.seq (.post (.ops [⟨some 8, (.fld (.t 1) 2), none⟩, ⟨some 9, (.ld (.t 8)), none⟩, ⟨some 10, (.un .fneg (.t 9)), none⟩, ⟨some 11, (.call 61 [(.t 10)] []), none⟩, ⟨none, (.ini 2 (.t 11)), none⟩] false) (.keep [2] [0])) .ret)) (.pre (.keep [1, 2] [0]) .skip)))) (.seq (.post (.ops [⟨some 12, (.call 60 [(.c (D.i 0))] []), none⟩, ⟨some 13, (.ld (.t 1)), none⟩, ⟨some 14, (.call 50 [(.c (D.s [45])), (.t 12), (.t 13)] []), none⟩, ⟨none, (.ini 2 (.t 14)), none⟩] true) (.keep [2] [0])) .ret)))
def vc46_0 : VC := (.seq (.post (.ops [⟨some 1, (.box (.t 0)), none⟩, ⟨some 2, .alA, none⟩] false) (.keep [1, 2] [])) (.seq (.seq (.post (.ops [⟨some 4, (.ldF (.t 1)), none⟩, ⟨some 5, (.call 74 [(.t 4)] []), none⟩, ⟨some 3, (.mov (.t 5)), none⟩] false) (.keep [2, 3] [])) (.seq (.post (.ops [⟨some 6, (.mov (.t 3)), none⟩, ⟨some 7, (.bin .geI (.t 6) (.c (D.i 0))), none⟩] false) (.keep [2, 3, 7] [])) (.cond (.t 7) (.pre (.keep [2, 3] []) (.seq (.post (.ops [⟨some 8, (.mov (.t 3)), none⟩, ⟨some 9, (.bin (.sub .i64) (.c (D.i 1)) (.t 8)), none⟩, ⟨some 10, (.call 75 [(.t 9)] []), none⟩, ⟨none, (.ini 2 (.t 10)), none⟩] false) (.keep [2] [])) .ret)) (.pre (.keep [2] []) .skip)))) (.seq (.post (.ops [⟨some 11, (.call 75 [(.c (D.i (-1)))] []), none⟩, ⟨none, (.ini 2 (.t 11)), none⟩] false) (.keep [2] [])) .ret)))
def vc47_1 : VC := .post (.ops [⟨some 2, (.box (.t 0)), none⟩,
  ⟨some 3, (.box (.t 1)), none⟩,
  ⟨some 4, .alA, none⟩] false) (.keep [2, 3, 4] [])
def vc47_3 : VC := .post (.ops [⟨some 7, (.ldF (.t 2)), none⟩,
  ⟨some 8, (.call 74 [(.t 7)] []), none⟩,
  ⟨some 9, (.ldF (.t 3)), none⟩,
  ⟨some 10, (.call 74 [(.t 9)] []), none⟩,
  ⟨some 5, (.mov (.t 8)), none⟩,
  ⟨some 6, (.mov (.t 10)), none⟩] true) (.keep [4, 5, 6] [])
def vc47_7 : VC := .post (.ops [⟨some 12, (.mov (.t 5)), none⟩,
  ⟨some 13, (.bin .eqI (.t 12) (.c (D.i 0))), none⟩,
  ⟨some 14, (.mov (.t 13)), none⟩,
  ⟨some 15, (.mov (.t 6)), some (14, false)⟩,
  ⟨some 16, (.bin .eqI (.t 15) (.c (D.i 0))), some (14, false)⟩,
  ⟨some 17, (.pick (.t 14) (.c (D.b true)) (.t 16)), none⟩,
  ⟨some 11, (.mov (.t 17)), none⟩] false) (.keep [4, 5, 6, 11] [])
def vc47_8 : VC := (.cond (.t 11) (.pre (.keep [4] []) (.seq (.post (.ops [⟨some 18, (.call 75 [(.c (D.i 0))] []), none⟩, ⟨none, (.ini 4 (.t 18)), none⟩] false) (.keep [4] [])) .ret)) (.pre (.keep [4, 5, 6] []) (.seq (.post (.ops [⟨some 20, (.mov (.t 5)), none⟩, ⟨some 21, (.bin .ltI (.t 20) (.c (D.i 0))), none⟩, ⟨some 22, (.mov (.t 21)), none⟩, ⟨some 23, (.mov (.t 6)), some (22, false)⟩, ⟨some 24, (.bin .ltI (.t 23) (.c (D.i 0))), some (22, false)⟩, ⟨some 25, (.pick (.t 22) (.c (D.b true)) (.t 24)), none⟩, ⟨some 19, (.mov (.t 25)), none⟩] false) (.keep [4, 19] [])) (.cond (.t 19) (.pre (.keep [4] []) (.seq (.post (.ops [⟨some 26, (.call 75 [(.c (D.i (-1)))] []), none⟩, ⟨none, (.ini 4 (.t 26)), none⟩] false) (.keep [4] [])) .ret)) (.pre (.keep [4] []) .skip)))))
def vc47_6 : VC := .seq vc47_7 vc47_8
def vc47_5 : VC := .block 0 vc47_6
def vc47_19 : VC := (.seq (.post (.ops [⟨some 27, (.call 75 [(.c (D.i 1))] []), none⟩, ⟨none, (.ini 4 (.t 27)), none⟩] false) (.keep [4] [])) .ret)
def vc47_4 : VC := .seq vc47_5 vc47_19
def vc47_2 : VC := .seq vc47_3 vc47_4
def vc47_0 : VC := .seq vc47_1 vc47_2
def vc48_0 : VC := (.seq (.post (.ops [⟨some 2, (.box (.t 0)), none⟩, ⟨some 3, (.box (.t 1)), none⟩, ⟨some 4, .alA, none⟩] false) (.keep [2, 3, 4] [])) (.seq (.post (.ops [⟨some 5, (.ldF (.t 2)), none⟩, ⟨some 6, (.call 46 [(.t 5)] []), none⟩, ⟨some 7, (.ldF (.t 3)), none⟩, ⟨some 8, (.call 46 [(.t 7)] []), none⟩, ⟨some 9, (.call 47 [(.t 6), (.t 8)] []), none⟩, ⟨some 10, (.call 46 [(.t 9)] []), none⟩, ⟨none, (.ini 4 (.t 10)), none⟩] true) (.keep [4] [])) .ret))
def vc49_1 : VC := .post (.ops [⟨some 4, (.boxM 0 (.t 1)), none⟩,
  ⟨some 5, (.boxM 1 (.t 2)), none⟩,
  ⟨some 6, .alA, none⟩] false) (.keep [0, 4, 5, 6] [0, 1])
def vc49_3 : VC := .post (.ops [⟨some 8, (.ld (.t 4)), none⟩,
  ⟨some 9, (.call 30 [(.t 8)] []), none⟩,
  ⟨some 10, (.ld (.t 5)), none⟩,
  ⟨some 11, (.call 30 [(.t 10)] []), none⟩,
  ⟨none, (.st (.t 4) (.t 9)), none⟩,
  ⟨none, (.st (.t 5) (.t 11)), none⟩] true) (.keep [0, 4, 5, 6] [0, 1])
def vc49_5 : VC := (.seq (.post (.ops [⟨some 12, (.fld (.t 4) 0), none⟩, ⟨some 13, (.ld (.t 12)), none⟩, ⟨some 14, (.bin .eqI (.t 13) (.c (D.i 0))), none⟩, ⟨some 15, (.mov (.t 14)), none⟩, ⟨some 16, (.fld (.t 4) 0), some (15, false)⟩, ⟨some 17, (.ld (.t 16)), some (15, false)⟩, ⟨some 18, (.fld (.t 5) 0), some (15, false)⟩, ⟨some 19, (.ld (.t 18)), some (15, false)⟩, ⟨some 20, (.bin .neI (.t 17) (.t 19)), some (15, false)⟩, ⟨some 21, (.pick (.t 15) (.c (D.b true)) (.t 20)), none⟩] false) (.keep [0, 4, 5, 6, 21] [0, 1])) (.cond (.t 21) (.pre (.keep [6] [0, 1]) (.seq (.post (.ops [⟨some 22, (.build (D.ag [(D.i 0), (D.i 0), (D.f 0), (D.s [])]) []), none⟩, ⟨none, (.ini 6 (.t 22)), none⟩] false) (.keep [6] [0, 1])) .ret)) (.pre (.keep [0, 4, 5, 6] [0, 1]) .skip)))
def vc49_12 : VC := (.seq (.post (.ops [⟨some 23, (.ld (.t 4)), none⟩, ⟨some 24, (.ld (.t 5)), none⟩, ⟨some 25, (.call 27 [(.t 23), (.t 24)] []), none⟩, ⟨some 7, (.mov (.t 25)), none⟩] false) (.keep [0, 6, 7] [0, 1])) (.seq (.seq (.post (.ops [⟨some 26, (.mov (.t 0)), none⟩] false) (.keep [6, 7, 26] [0, 1])) (.block 0 (.seq (.post (.ops [⟨some 28, (.bin .seq (.t 26) (.c (D.s [61]))), none⟩, ⟨some 27, (.mov (.t 28)), none⟩] false) (.keep [6, 7, 26, 27] [0, 1])) (.cond (.t 27) (.pre (.keep [6, 7] [0, 1]) (.seq (.post (.ops [⟨some 29, (.mov (.t 7)), none⟩, ⟨some 30, (.bin .eqI (.t 29) (.c (D.i 0))), none⟩, ⟨some 31, (.call 51 [(.t 30)] []), none⟩, ⟨none, (.ini 6 (.t 31)), none⟩] false) (.keep [6] [0, 1])) .ret)) (.pre (.keep [6, 7, 26] [0, 1]) (.seq (.post (.ops [⟨some 33, (.bin .seq (.t 26) (.c (D.s [60, 62]))), none⟩, ⟨some 32, (.mov (.t 33)), none⟩] false) (.keep [6, 7, 26, 32] [0, 1])) (.cond (.t 32) (.pre (.keep [6, 7] [0, 1]) (.seq (.post (.ops [⟨some 34, (.mov (.t 7)), none⟩, ⟨some 35, (.bin .neI (.t 34) (.c (D.i 0))), none⟩, ⟨some 36, (.call 51 [(.t 35)] []), none⟩, ⟨none, (.ini 6 (.t 36)), none⟩] false) (.keep [6] [0, 1])) .ret)) (.pre (.keep [6, 7, 26] [0, 1]) (.seq (.post (.ops [⟨some 38, (.bin .seq (.t 26) (.c (D.s [60]))), none⟩, ⟨some 37, (.mov (.t 38)), none⟩] false) (.keep [6, 7, 26, 37] [0, 1])) (.cond (.t 37) (.pre (.keep [6, 7] [0, 1]) (.seq (.post (.ops [⟨some 39, (.mov (.t 7)), none⟩, ⟨some 40, (.bin .ltI (.t 39) (.c (D.i 0))), none⟩, ⟨some 41, (.call 51 [(.t 40)] []), none⟩, ⟨none, (.ini 6 (.t 41)), none⟩] false) (.keep [6] [0, 1])) .ret)) (.pre (.keep [6, 7, 26] [0, 1]) (.seq (.post (.ops [⟨some 43, (.bin .seq (.t 26) (.c (D.s [60, 61]))), none⟩, ⟨some 42, (.mov (.t 43)), none⟩] false) (.keep [6, 7, 26, 42] [0, 1])) (.cond (.t 42) (.pre (.keep [6, 7] [0, 1]) (.seq (.post (.ops [⟨some 44, (.mov (.t 7)), none⟩, ⟨some 45, (.bin .leI (.t 44) (.c (D.i 0))), none⟩, ⟨some 46, (.call 51 [(.t 45)] []), none⟩, ⟨none, (.ini 6 (.t 46)), none⟩] false) (.keep [6] [0, 1])) .ret)) (.pre (.keep [6, 7, 26] [0, 1]) (.seq (.post (.ops [⟨some 48, (.bin .seq (.t 26) (.c (D.s [62]))), none⟩, ⟨some 47, (.mov (.t 48)), none⟩] false) (.keep [6, 7, 26, 47] [0, 1])) (.cond (.t 47) (.pre (.keep [6, 7] [0, 1]) (.seq (.post (.ops [⟨some 49, (.mov (.t 7)), none⟩, ⟨some 50, (.bin .gtI (.t 49) (.c (D.i 0))), none⟩, ⟨some 51, (.call 51 [(.t 50)] []), none⟩, ⟨none, (.ini 6 (.t 51)), none⟩] false) (.keep [6] [0, 1])) .ret)) (.pre (.keep [6, 7, 26] [0, 1]) (.seq (.post (.ops [⟨some 53, (.bin .seq (.t 26) (.c (D.s [62, 61]))), none⟩, ⟨some 52, (.mov (.t 53)), none⟩] false) (.keep [6, 7, 52] [0, 1])) (.cond (.t 52) (.pre (.keep [6, 7] [0, 1]) (.seq (.post (.ops [⟨some 54, (.mov (.t 7)), none⟩, ⟨some 55, (.bin .geI (.t 54) (.c (D.i 0))), none⟩, ⟨some 56, (.call 51 [(.t 55)] []), none⟩, ⟨none, (.ini 6 (.t 56)), none⟩] false) (.keep [6] [0, 1])) .ret)) (.pre (.keep [6] [0, 1]) .skip)))))))))))))))))))) (.seq (.post (.ops [⟨some 57, (.build (D.ag [(D.i 0), (D.i 0), (D.f 0), (D.s [])]) []), none⟩, ⟨none, (.ini 6 (.t 57)), none⟩] false) (.keep [6] [0, 1])) .ret)))
def vc49_4 : VC := .seq vc49_5 vc49_12
def vc49_2 : VC := .seq vc49_3 vc49_4
def vc49_0 : VC := .seq vc49_1 vc49_2
def vc50_1 : VC := .post (.ops [⟨some 4, (.boxM 0 (.t 1)), none⟩,
  ⟨some 5, (.boxM 1 (.t 2)), none⟩,
  ⟨some 6, .alA, none⟩] false) (.keep [0, 4, 5, 6] [0, 1])
def vc50_3 : VC := .post (.ops [⟨some 9, (.ld (.t 4)), none⟩,
  ⟨some 10, (.call 30 [(.t 9)] []), none⟩,
  ⟨some 11, (.ld (.t 5)), none⟩,
  ⟨some 12, (.call 30 [(.t 11)] []), none⟩,
  ⟨none, (.st (.t 4) (.t 10)), none⟩,
  ⟨none, (.st (.t 5) (.t 12)), none⟩] true) (.keep [0, 4, 5, 6] [0, 1])
def vc50_7 : VC := .post (.ops [⟨some 14, (.fld (.t 4) 0), none⟩,
  ⟨some 15, (.ld (.t 14)), none⟩,
  ⟨some 16, (.bin .eqI (.t 15) (.c (D.i 1))), none⟩,
  ⟨some 17, (.mov (.t 16)), none⟩,
  ⟨some 18, (.fld (.t 5) 0), some (17, true)⟩,
  ⟨some 19, (.ld (.t 18)), some (17, true)⟩,
  ⟨some 20, (.bin .eqI (.t 19) (.c (D.i 1))), some (17, true)⟩,
  ⟨some 21, (.pick (.t 17) (.t 20) (.c (D.b false))), none⟩,
  ⟨some 13, (.mov (.t 21)), none⟩] false) (.keep [0, 4, 5, 6, 13] [0, 1])
def vc50_9 : VC := (.seq (.post (.ops [⟨some 23, (.mov (.t 0)), none⟩, ⟨some 24, (.fld (.t 4) 1), none⟩, ⟨some 25, (.ld (.t 24)), none⟩, ⟨some 26, (.fld (.t 5) 1), none⟩, ⟨some 27, (.ld (.t 26)), none⟩, ⟨some 28, (.call 76 [(.t 23), (.t 25), (.t 27)] []), none⟩, ⟨some 22, (.mov (.t 28)), none⟩, ⟨some 29, (.ext (.t 22) 0), none⟩, ⟨some 30, (.ext (.t 22) 1), none⟩, ⟨some 7, (.mov (.t 29)), none⟩, ⟨some 8, (.mov (.t 30)), none⟩] false) (.keep [6, 7, 8] [0, 1])) (.seq (.post (.ops [⟨some 31, (.mov (.t 8)), none⟩] false) (.keep [6, 7, 31] [0, 1])) (.cond (.t 31) (.pre (.keep [6, 7] [0, 1]) (.seq (.post (.ops [⟨some 32, (.mov (.t 7)), none⟩, ⟨some 33, (.call 60 [(.t 32)] []), none⟩, ⟨none, (.ini 6 (.t 33)), none⟩] false) (.keep [6] [0, 1])) .ret)) (.pre (.keep [6] [0, 1]) .skip))))
def vc50_19 : VC := .post (.ops [⟨some 35, (.fld (.t 4) 0), none⟩,
  ⟨some 36, (.ld (.t 35)), none⟩,
  ⟨some 37, (.bin .eqI (.t 36) (.c (D.i 2))), none⟩,
  ⟨some 38, (.mov (.t 37)), none⟩,
  ⟨some 39, (.fld (.t 5) 0), some (38, true)⟩,
  ⟨some 40, (.ld (.t 39)), some (38, true)⟩,
  ⟨some 41, (.bin .eqI (.t 40) (.c (D.i 2))), some (38, true)⟩,
  ⟨some 42, (.pick (.t 38) (.t 41) (.c (D.b false))), none⟩,
  ⟨some 34, (.mov (.t 42)), none⟩] false) (.keep [0, 4, 5, 6, 34] [0, 1])
def vc50_20 : VC := (.cond (.t 34) (.pre (.keep [0, 4, 5, 6] [0, 1]) (.seq (.post (.ops [⟨some 43, (.mov (.t 0)), none⟩] false) (.keep [4, 5, 6, 43] [0, 1])) (.block 1 (.seq (.post (.ops [⟨some 45, (.bin .seq (.t 43) (.c (D.s [43]))), none⟩, ⟨some 44, (.mov (.t 45)), none⟩] false) (.keep [4, 5, 6, 43, 44] [0, 1])) (.cond (.t 44) (.pre (.keep [4, 5, 6] [0, 1]) (.seq (.post (.ops [⟨some 46, (.fld (.t 4) 2), none⟩, ⟨some 47, (.ld (.t 46)), none⟩, ⟨some 48, (.fld (.t 5) 2), none⟩, ⟨some 49, (.ld (.t 48)), none⟩, ⟨some 50, (.bin .fadd (.t 47) (.t 49)), none⟩, ⟨some 51, (.call 61 [(.t 50)] []), none⟩, ⟨none, (.ini 6 (.t 51)), none⟩] false) (.keep [6] [0, 1])) .ret)) (.pre (.keep [4, 5, 6, 43] [0, 1]) (.seq (.post (.ops [⟨some 53, (.bin .seq (.t 43) (.c (D.s [45]))), none⟩, ⟨some 52, (.mov (.t 53)), none⟩] false) (.keep [4, 5, 6, 43, 52] [0, 1])) (.cond (.t 52) (.pre (.keep [4, 5, 6] [0, 1]) (.seq (.post (.ops [⟨some 54, (.fld (.t 4) 2), none⟩, ⟨some 55, (.ld (.t 54)), none⟩, ⟨some 56, (.fld (.t 5) 2), none⟩, ⟨some 57, (.ld (.t 56)), none⟩, ⟨some 58, (.bin .fsub (.t 55) (.t 57)), none⟩, ⟨some 59, (.call 61 [(.t 58)] []), none⟩, ⟨none, (.ini 6 (.t 59)), none⟩] false) (.keep [6] [0, 1])) .ret)) (.pre (.keep [4, 5, 6, 43] [0, 1]) (.seq (.post (.ops [⟨some 61, (.bin .seq (.t 43) (.c (D.s [42]))), none⟩, ⟨some 60, (.mov (.t 61)), none⟩] false) (.keep [4, 5, 6, 60] [0, 1])) (.cond (.t 60) (.pre (.keep [4, 5, 6] [0, 1]) (.seq (.post (.ops [⟨some 62, (.fld (.t 4) 2), none⟩, ⟨some 63, (.ld (.t 62)), none⟩, ⟨some 64, (.fld (.t 5) 2), none⟩, ⟨some 65, (.ld (.t 64)), none⟩, ⟨some 66, (.bin .fmul (.t 63) (.t 65)), none⟩, ⟨some 67, (.call 61 [(.t 66)] []), none⟩, ⟨none, (.ini 6 (.t 67)), none⟩] false) (.keep [6] [0, 1])) .ret)) (.pre (.keep [6] [0, 1]) .skip)))))))))))) (.pre (.keep [6] [0, 1]) .skip))
def vc50_18 : VC := .seq vc50_19 vc50_20
def vc50_8 : VC := .cond (.t 13) (.pre (.keep [0, 4, 5, 6] [0, 1]) vc50_9) (.pre (.keep [0, 4, 5, 6] [0, 1]) vc50_18)
def vc50_6 : VC := .seq vc50_7 vc50_8
def vc50_5 : VC := .block 0 vc50_6
def vc50_44 : VC := (.seq (.post (.ops [⟨some 68, (.build (D.ag [(D.i 0), (D.i 0), (D.f 0), (D.s [])]) []), none⟩, ⟨none, (.ini 6 (.t 68)), none⟩] false) (.keep [6] [0, 1])) .ret)
def vc50_4 : VC := .seq vc50_5 vc50_44
def vc50_2 : VC := .seq vc50_3 vc50_4
def vc50_0 : VC := .seq vc50_1 vc50_2
def vc51_0 : VC := (.seq (.post (.ops [⟨some 2, .alA, none⟩] false) (.keep [0, 2] [])) (.seq (.post (.ops [⟨some 4, (.build (D.ag [(D.i 0), (D.i 0), (D.f 0), (D.s [])]) [(0, (.c (D.i 4)))]), none⟩, ⟨some 3, (.alM 0 (.f (D.ag [(D.i 0), (D.i 0), (D.f 0), (D.s [])]))), none⟩, ⟨none, (.st (.t 3) (.t 4)), none⟩] false) (.keep [0, 2, 3] [0])) (.seq (.seq (.post (.ops [⟨some 5, (.mov (.t 0)), none⟩] false) (.keep [2, 3, 5] [0])) (.cond (.t 5) (.pre (.keep [2, 3] [0]) (.post (.ops [⟨some 6, (.fld (.t 3) 1), none⟩, ⟨none, (.st (.t 6) (.c (D.i 1))), none⟩] false) (.keep [2, 3] [0]))) (.pre (.keep [2, 3] [0]) .skip))) (.seq (.post (.ops [⟨some 7, (.ld (.t 3)), none⟩, ⟨none, (.ini 2 (.t 7)), none⟩] false) (.keep [2] [0])) .ret))))
def vc52_1 : VC := .post (.ops [⟨some 10, (.mov (.c (D.b true))), none⟩] false) (.keep [0, 1, 2, 3, 4, 10] [])
def vc52_3 : VC := .post (.ops [⟨some 11, (.mov (.c (D.b true))), none⟩] false) (.keep [0, 1, 2, 3, 4, 10, 11] [])
def vc52_6 : VC := (.block 1 (.seq (.post (.ops [⟨some 21, (.mov (.t 2)), none⟩, ⟨some 22, (.mov (.t 1)), none⟩, ⟨some 23, (.bin (.sub .i64) (.t 21) (.t 22)), none⟩, ⟨some 12, (.mov (.t 23)), none⟩] false) (.keep [0, 1, 2, 3, 4, 10, 11, 12] [])) (.seq (.seq (.post (.ops [⟨some 24, (.mov (.t 12)), none⟩, ⟨some 25, (.bin .leI (.t 24) (.c (D.i 12))), none⟩] false) (.keep [0, 1, 2, 3, 4, 10, 11, 12, 25] [])) (.cond (.t 25) (.pre (.keep [0, 1, 2, 4] []) (.seq (.post (.ops [⟨some 26, (.mov (.t 0)), none⟩, ⟨some 27, (.mov (.t 1)), none⟩, ⟨some 28, (.mov (.t 2)), none⟩, ⟨some 29, (.mov (.t 4)), none⟩, ⟨some 30, (.call 77 [(.t 26), (.t 27), (.t 28), (.t 29)] []), none⟩] false) (.keep [] [])) .ret)) (.pre (.keep [0, 1, 2, 3, 4, 10, 11, 12] []) .skip))) (.seq (.seq (.post (.ops [⟨some 31, (.mov (.t 3)), none⟩, ⟨some 32, (.bin .eqI (.t 31) (.c (D.i 0))), none⟩] false) (.keep [0, 1, 2, 3, 4, 10, 11, 12, 32] [])) (.cond (.t 32) (.pre (.keep [0, 1, 2, 4] []) (.seq .bad .bad)) (.pre (.keep [0, 1, 2, 3, 4, 10, 11, 12] []) .skip))) (.seq (.seq (.post (.ops [⟨some 38, (.mov (.t 10)), none⟩, ⟨some 39, (.un .not (.t 38)), none⟩] false) (.keep [0, 1, 2, 3, 4, 10, 11, 12, 39] [])) (.cond (.t 39) (.pre (.keep [0, 1, 2, 3, 4, 10, 11, 12] []) (.seq .bad .bad)) (.pre (.keep [0, 1, 2, 3, 4, 10, 11, 12] []) .skip))) (.seq .bad .bad))))))
def vc52_5 : VC := .loop vc52_6
def vc52_4 : VC := .block 0 vc52_5
def vc52_2 : VC := .seq vc52_3 vc52_4
def vc52_0 : VC := .seq vc52_1 vc52_2
def vc53_1 : VC := .post (.ops [⟨some 2, (.mov (.c (D.i 0))), none⟩] false) (.keep [0] [])
def vc53_7 : VC := .skip
def vc53_3 : VC := .cond (.c (.b false)) .bad vc53_7
def vc53_8 : VC := (.seq (.post (.ops [⟨some 6, (.mov (.t 0)), none⟩, ⟨some 7, (.call 86 [(.t 6)] []), none⟩, ⟨some 2, (.mov (.t 7)), none⟩] false) (.keep [2] [])) .ret)
def vc53_2 : VC := .seq vc53_3 vc53_8
def vc53_0 : VC := .seq vc53_1 vc53_2
def vc54_0 : VC := (.seq (.post (.ops [⟨some 4, (.mov (.c (D.i 0))), none⟩] false) (.keep [0, 1] [])) (.seq (.post (.ops [⟨some 7, (.mov (.t 0)), none⟩, ⟨some 8, (.call 87 [(.t 7)] []), none⟩, ⟨some 5, (.mov (.t 8)), none⟩] false) (.keep [0, 1, 5] [])) (.seq (.post (.ops [⟨some 9, (.mov (.t 1)), none⟩, ⟨some 10, (.call 87 [(.t 9)] []), none⟩, ⟨some 6, (.mov (.t 10)), none⟩] false) (.keep [0, 1, 5, 6] [])) (.seq (.seq (.post (.ops [⟨some 11, (.mov (.t 5)), none⟩] false) (.keep [0, 1, 6, 11] [])) (.cond (.t 11) (.pre (.keep [6] []) (.seq (.seq (.post (.ops [⟨some 12, (.mov (.t 6)), none⟩] false) (.keep [12] [])) (.cond (.t 12) (.pre (.keep [] []) (.seq (.post (.ops [⟨some 4, (.mov (.c (D.i 0))), none⟩] false) (.keep [4] [])) .ret)) (.pre (.keep [] []) .skip))) (.seq (.post (.ops [⟨some 4, (.mov (.c (D.i (-1)))), none⟩] false) (.keep [4] [])) .ret))) (.pre (.keep [0, 1, 6] []) .skip))) (.seq (.seq (.post (.ops [⟨some 13, (.mov (.t 6)), none⟩] false) (.keep [0, 1, 13] [])) (.cond (.t 13) (.pre (.keep [] []) (.seq (.post (.ops [⟨some 4, (.mov (.c (D.i 1))), none⟩] false) (.keep [4] [])) .ret)) (.pre (.keep [0, 1] []) .skip))) (.seq (.seq (.post (.ops [⟨some 14, (.mov (.t 0)), none⟩, ⟨some 15, (.mov (.t 1)), none⟩, ⟨some 16, (.bin .ltI (.t 14) (.t 15)), none⟩] false) (.keep [0, 1, 16] [])) (.cond (.t 16) (.pre (.keep [] []) (.seq (.post (.ops [⟨some 4, (.mov (.c (D.i (-1)))), none⟩] false) (.keep [4] [])) .ret)) (.pre (.keep [0, 1] []) .skip))) (.seq (.seq (.post (.ops [⟨some 17, (.mov (.t 0)), none⟩, ⟨some 18, (.mov (.t 1)), none⟩, ⟨some 19, (.bin .gtI (.t 17) (.t 18)), none⟩] false) (.keep [19] [])) (.cond (.t 19) (.pre (.keep [] []) (.seq (.post (.ops [⟨some 4, (.mov (.c (D.i 1))), none⟩] false) (.keep [4] [])) .ret)) (.pre (.keep [] []) .skip))) (.seq (.post (.ops [⟨some 4, (.mov (.c (D.i 0))), none⟩] false) (.keep [4] [])) .ret))))))))
def vc55_0 : VC := (.seq (.post (.ops [⟨some 2, (.mov (.c (D.b false))), none⟩] false) (.keep [0] [])) (.seq (.post (.ops [⟨some 3, (.mov (.t 0)), none⟩, ⟨some 4, (.mov (.t 0)), none⟩, ⟨some 5, (.bin .fne (.t 3) (.t 4)), none⟩, ⟨some 2, (.mov (.t 5)), none⟩] false) (.keep [2] [])) .ret))
def vc56_0 : VC := (.seq (.post (.ops [⟨some 4, (.mov (.c (D.i 0))), none⟩] false) (.keep [0, 1] [])) (.seq (.post (.ops [⟨some 7, (.mov (.t 0)), none⟩, ⟨some 8, (.call 88 [(.t 7)] []), none⟩, ⟨some 5, (.mov (.t 8)), none⟩] false) (.keep [0, 1, 5] [])) (.seq (.post (.ops [⟨some 9, (.mov (.t 1)), none⟩, ⟨some 10, (.call 88 [(.t 9)] []), none⟩, ⟨some 6, (.mov (.t 10)), none⟩] false) (.keep [0, 1, 5, 6] [])) (.seq (.seq (.post (.ops [⟨some 11, (.mov (.t 5)), none⟩] false) (.keep [0, 1, 6, 11] [])) (.cond (.t 11) (.pre (.keep [6] []) (.seq (.seq (.post (.ops [⟨some 12, (.mov (.t 6)), none⟩] false) (.keep [12] [])) (.cond (.t 12) (.pre (.keep [] []) (.seq (.post (.ops [⟨some 4, (.mov (.c (D.i 0))), none⟩] false) (.keep [4] [])) .ret)) (.pre (.keep [] []) .skip))) (.seq (.post (.ops [⟨some 4, (.mov (.c (D.i (-1)))), none⟩] false) (.keep [4] [])) .ret))) (.pre (.keep [0, 1, 6] []) .skip))) (.seq (.seq (.post (.ops [⟨some 13, (.mov (.t 6)), none⟩] false) (.keep [0, 1, 13] [])) (.cond (.t 13) (.pre (.keep [] []) (.seq (.post (.ops [⟨some 4, (.mov (.c (D.i 1))), none⟩] false) (.keep [4] [])) .ret)) (.pre (.keep [0, 1] []) .skip))) (.seq (.seq (.post (.ops [⟨some 14, (.mov (.t 0)), none⟩, ⟨some 15, (.mov (.t 1)), none⟩, ⟨some 16, (.bin .flt (.t 14) (.t 15)), none⟩] false) (.keep [0, 1, 16] [])) (.cond (.t 16) (.pre (.keep [] []) (.seq (.post (.ops [⟨some 4, (.mov (.c (D.i (-1)))), none⟩] false) (.keep [4] [])) .ret)) (.pre (.keep [0, 1] []) .skip))) (.seq (.seq (.post (.ops [⟨some 17, (.mov (.t 0)), none⟩, ⟨some 18, (.mov (.t 1)), none⟩, ⟨some 19, (.bin .fgt (.t 17) (.t 18)), none⟩] false) (.keep [19] [])) (.cond (.t 19) (.pre (.keep [] []) (.seq (.post (.ops [⟨some 4, (.mov (.c (D.i 1))), none⟩] false) (.keep [4] [])) .ret)) (.pre (.keep [] []) .skip))) (.seq (.post (.ops [⟨some 4, (.mov (.c (D.i 0))), none⟩] false) (.keep [4] [])) .ret))))))))
def vc57_0 : VC := (.seq (.post (.ops [⟨some 4, (.mov (.c (D.i 0))), none⟩] false) (.keep [0, 1] [])) (.seq (.post (.ops [⟨some 5, (.mov (.t 0)), none⟩, ⟨some 6, (.mov (.t 1)), none⟩, ⟨some 7, (.call 89 [(.t 5), (.t 6)] []), none⟩, ⟨some 4, (.mov (.t 7)), none⟩] false) (.keep [4] [])) .ret))
def vc58_0 : VC := (.seq (.post (.ops [⟨some 4, (.mov (.c (D.i 0))), none⟩] false) (.keep [0, 1] [])) (.seq (.post (.ops [⟨some 7, (.mov (.t 0)), none⟩, ⟨some 8, (.call 90 [(.t 7)] []), none⟩, ⟨some 5, (.mov (.t 8)), none⟩] false) (.keep [0, 1, 5] [])) (.seq (.post (.ops [⟨some 9, (.mov (.t 1)), none⟩, ⟨some 10, (.call 90 [(.t 9)] []), none⟩, ⟨some 6, (.mov (.t 10)), none⟩] false) (.keep [0, 1, 5, 6] [])) (.seq (.seq (.post (.ops [⟨some 11, (.mov (.t 5)), none⟩] false) (.keep [0, 1, 6, 11] [])) (.cond (.t 11) (.pre (.keep [6] []) (.seq (.seq (.post (.ops [⟨some 12, (.mov (.t 6)), none⟩] false) (.keep [12] [])) (.cond (.t 12) (.pre (.keep [] []) (.seq (.post (.ops [⟨some 4, (.mov (.c (D.i 0))), none⟩] false) (.keep [4] [])) .ret)) (.pre (.keep [] []) .skip))) (.seq (.post (.ops [⟨some 4, (.mov (.c (D.i (-1)))), none⟩] false) (.keep [4] [])) .ret))) (.pre (.keep [0, 1, 6] []) .skip))) (.seq (.seq (.post (.ops [⟨some 13, (.mov (.t 6)), none⟩] false) (.keep [0, 1, 13] [])) (.cond (.t 13) (.pre (.keep [] []) (.seq (.post (.ops [⟨some 4, (.mov (.c (D.i 1))), none⟩] false) (.keep [4] [])) .ret)) (.pre (.keep [0, 1] []) .skip))) (.seq (.seq (.post (.ops [⟨some 14, (.mov (.t 0)), none⟩, ⟨some 15, (.mov (.t 1)), none⟩, ⟨some 16, (.bin .ltI (.t 14) (.t 15)), none⟩] false) (.keep [0, 1, 16] [])) (.cond (.t 16) (.pre (.keep [] []) (.seq (.post (.ops [⟨some 4, (.mov (.c (D.i (-1)))), none⟩] false) (.keep [4] [])) .ret)) (.pre (.keep [0, 1] []) .skip))) (.seq (.seq (.post (.ops [⟨some 17, (.mov (.t 0)), none⟩, ⟨some 18, (.mov (.t 1)), none⟩, ⟨some 19, (.bin .gtI (.t 17) (.t 18)), none⟩] false) (.keep [19] [])) (.cond (.t 19) (.pre (.keep [] []) (.seq (.post (.ops [⟨some 4, (.mov (.c (D.i 1))), none⟩] false) (.keep [4] [])) .ret)) (.pre (.keep [] []) .skip))) (.seq (.post (.ops [⟨some 4, (.mov (.c (D.i 0))), none⟩] false) (.keep [4] [])) .ret))))))))
def vc59_0 : VC := (.seq (.post (.ops [⟨some 2, (.box (.t 0)), none⟩, ⟨some 3, (.box (.t 1)), none⟩, ⟨some 4, (.mov (.c (D.b false))), none⟩] false) (.keep [2, 3] [])) (.seq (.post (.ops [⟨some 5, (.ldF (.t 2)), none⟩, ⟨some 6, (.ldF (.t 3)), none⟩, ⟨some 7, (.call 27 [(.t 5), (.t 6)] []), none⟩, ⟨some 8, (.bin .eqI (.t 7) (.c (D.i 0))), none⟩, ⟨some 4, (.mov (.t 8)), none⟩] false) (.keep [4] [])) .ret))
def vc60_0 : VC := (.seq (.post (.ops [⟨some 2, .alA, none⟩] false) (.keep [0, 2] [])) (.seq (.post (.ops [⟨some 3, (.mov (.t 0)), none⟩, ⟨some 4, (.build (D.ag [(D.i 0), (D.i 0), (D.f 0), (D.s [])]) [(0, (.c (D.i 1))), (1, (.t 3))]), none⟩, ⟨none, (.ini 2 (.t 4)), none⟩] false) (.keep [2] [])) .ret))
def vc61_0 : VC := (.seq (.post (.ops [⟨some 2, .alA, none⟩] false) (.keep [0, 2] [])) (.seq (.block 0 (.seq (.post (.ops [⟨some 4, (.mov (.t 0)), none⟩, ⟨some 5, (.call 55 [(.t 4)] []), none⟩, ⟨some 3, (.mov (.t 5)), none⟩] false) (.keep [0, 2, 3] [])) (.cond (.t 3) (.pre (.keep [2] []) (.post (.ops [⟨some 6, (.call 91 [] []), none⟩, ⟨some 0, (.mov (.t 6)), none⟩] false) (.keep [0, 2] []))) (.pre (.keep [0, 2] []) (.seq (.post (.ops [⟨some 8, (.mov (.t 0)), none⟩, ⟨some 9, (.bin .feq (.t 8) (.c (D.f 0))), none⟩, ⟨some 7, (.mov (.t 9)), none⟩] false) (.keep [0, 2, 7] [])) (.cond (.t 7) (.pre (.keep [2] []) (.post (.ops [⟨some 0, (.mov (.c (D.f 0))), none⟩] false) (.keep [0, 2] []))) (.pre (.keep [0, 2] []) .skip))))))) (.seq (.post (.ops [⟨some 10, (.mov (.t 0)), none⟩, ⟨some 11, (.build (D.ag [(D.i 0), (D.i 0), (D.f 0), (D.s [])]) [(0, (.c (D.i 2))), (2, (.t 10))]), none⟩, ⟨none, (.ini 2 (.t 11)), none⟩] false) (.keep [2] [])) .ret)))
def vc62_0 : VC := (.seq (.post (.ops [⟨some 2, .alA, none⟩] false) (.keep [0, 2] [])) (.seq (.post (.ops [⟨some 3, (.mov (.t 0)), none⟩, ⟨some 4, (.build (D.ag [(D.i 0), (D.i 0), (D.f 0), (D.s [])]) [(0, (.c (D.i 3))), (3, (.t 3))]), none⟩, ⟨none, (.ini 2 (.t 4)), none⟩] false) (.keep [2] [])) .ret))
def vc63_0 : VC := (.seq (.post (.ops [⟨some 2, .alA, none⟩] false) (.keep [0, 2] [])) (.seq (.seq (.post (.ops [⟨some 3, (.mov (.t 0)), none⟩] false) (.keep [2, 3] [])) (.cond (.t 3) (.pre (.keep [2] []) (.seq (.post (.ops [⟨some 4, (.build (D.ag [(D.i 0), (D.i 0), (D.f 0), (D.s [])]) [(0, (.c (D.i 4))), (1, (.c (D.i 1)))]), none⟩, ⟨none, (.ini 2 (.t 4)), none⟩] false) (.keep [2] [])) .ret)) (.pre (.keep [2] []) .skip))) (.seq (.post (.ops [⟨some 5, (.build (D.ag [(D.i 0), (D.i 0), (D.f 0), (D.s [])]) [(0, (.c (D.i 4)))]), none⟩, ⟨none, (.ini 2 (.t 5)), none⟩] false) (.keep [2] [])) .ret)))
def vc64_1 : VC := .post (.ops [⟨some 2, (.boxM 0 (.t 0)), none⟩,
  ⟨some 3, (.boxM 1 (.t 1)), none⟩,
  ⟨some 4, (.mov (.c (D.i 0))), none⟩] false) (.keep [2, 3] [0, 1])
def vc64_3 : VC := .post (.ops [⟨some 7, (.ld (.t 2)), none⟩,
  ⟨some 8, (.call 10 [(.t 7)] []), none⟩,
  ⟨some 9, (.ld (.t 3)), none⟩,
  ⟨some 10, (.call 10 [(.t 9)] []), none⟩,
  ⟨none, (.st (.t 2) (.t 8)), none⟩,
  ⟨none, (.st (.t 3) (.t 10)), none⟩] true) (.keep [2, 3] [0, 1])
def vc64_5 : VC := .post (.ops [⟨some 11, (.fld (.t 2) 0), none⟩,
  ⟨some 12, (.ld (.t 11)), none⟩,
  ⟨some 13, (.fld (.t 3) 0), none⟩,
  ⟨some 14, (.ld (.t 13)), none⟩,
  ⟨some 15, (.bin .ltI (.t 12) (.t 14)), none⟩,
  ⟨some 16, (.fld (.t 2) 0), none⟩,
  ⟨some 17, (.ld (.t 16)), none⟩,
  ⟨some 18, (.fld (.t 3) 0), none⟩,
  ⟨some 19, (.ld (.t 18)), none⟩,
  ⟨some 20, (.bin .gtI (.t 17) (.t 19)), none⟩,
  ⟨some 5, (.mov (.t 15)), none⟩,
  ⟨some 6, (.mov (.t 20)), none⟩] true) (.keep [2, 3, 5, 6] [0, 1])
def vc64_8 : VC := .post (.ops [⟨some 21, (.fld (.t 2) 0), none⟩,
  ⟨some 22, (.ld (.t 21)), none⟩,
  ⟨some 23, (.fld (.t 3) 0), none⟩,
  ⟨some 24, (.ld (.t 23)), none⟩,
  ⟨some 25, (.bin .eqI (.t 22) (.t 24)), none⟩] false) (.keep [2, 3, 5, 6, 25] [0, 1])
def vc64_11 : VC := .post (.ops [⟨some 26, (.fld (.t 2) 1), none⟩,
  ⟨some 27, (.ld (.t 26)), none⟩,
  ⟨some 28, (.fld (.t 3) 1), none⟩,
  ⟨some 29, (.ld (.t 28)), none⟩,
  ⟨some 30, (.bin .ltI (.t 27) (.t 29)), none⟩,
  ⟨some 31, (.fld (.t 2) 1), none⟩,
  ⟨some 32, (.ld (.t 31)), none⟩,
  ⟨some 33, (.fld (.t 3) 1), none⟩,
  ⟨some 34, (.ld (.t 33)), none⟩,
  ⟨some 35, (.bin .gtI (.t 32) (.t 34)), none⟩,
  ⟨some 5, (.mov (.t 30)), none⟩,
  ⟨some 6, (.mov (.t 35)), none⟩] true) (.keep [2, 3, 5, 6] [0, 1])
def vc64_14 : VC := .post (.ops [⟨some 36, (.fld (.t 2) 0), none⟩,
  ⟨some 37, (.ld (.t 36)), none⟩,
  ⟨some 38, (.bin .eqI (.t 37) (.c (D.i 2))), none⟩] false) (.keep [2, 3, 5, 6, 38] [0, 1])
def vc64_17 : VC := .post (.ops [⟨some 39, (.fld (.t 2) 2), none⟩,
  ⟨some 40, (.ld (.t 39)), none⟩,
  ⟨some 41, (.call 39 [(.t 40)] []), none⟩,
  ⟨some 42, (.mov (.t 41)), none⟩,
  ⟨some 43, (.fld (.t 3) 2), some (42, true)⟩,
  ⟨some 44, (.ld (.t 43)), some (42, true)⟩,
  ⟨some 45, (.call 39 [(.t 44)] []), some (42, true)⟩,
  ⟨some 46, (.un .not (.t 45)), some (42, true)⟩,
  ⟨some 47, (.pick (.t 42) (.t 46) (.c (D.b false))), none⟩,
  ⟨some 48, (.mov (.t 47)), none⟩,
  ⟨some 49, (.fld (.t 2) 2), some (48, false)⟩,
  ⟨some 50, (.ld (.t 49)), some (48, false)⟩,
  ⟨some 51, (.fld (.t 3) 2), some (48, false)⟩,
  ⟨some 52, (.ld (.t 51)), some (48, false)⟩,
  ⟨some 53, (.bin .flt (.t 50) (.t 52)), some (48, false)⟩,
  ⟨some 54, (.pick (.t 48) (.c (D.b true)) (.t 53)), none⟩,
  ⟨some 5, (.mov (.t 54)), none⟩] false) (.keep [2, 3, 5] [0, 1])
def vc64_18 : VC := .post (.ops [⟨some 55, (.fld (.t 2) 2), none⟩,
  ⟨some 56, (.ld (.t 55)), none⟩,
  ⟨some 57, (.call 39 [(.t 56)] []), none⟩,
  ⟨some 58, (.un .not (.t 57)), none⟩,
  ⟨some 59, (.mov (.t 58)), none⟩,
  ⟨some 60, (.fld (.t 3) 2), some (59, true)⟩,
  ⟨some 61, (.ld (.t 60)), some (59, true)⟩,
  ⟨some 62, (.call 39 [(.t 61)] []), some (59, true)⟩,
  ⟨some 63, (.pick (.t 59) (.t 62) (.c (D.b false))), none⟩,
  ⟨some 64, (.mov (.t 63)), none⟩,
  ⟨some 65, (.fld (.t 2) 2), some (64, false)⟩,
  ⟨some 66, (.ld (.t 65)), some (64, false)⟩,
  ⟨some 67, (.fld (.t 3) 2), some (64, false)⟩,
  ⟨some 68, (.ld (.t 67)), some (64, false)⟩,
  ⟨some 69, (.bin .fgt (.t 66) (.t 68)), some (64, false)⟩,
  ⟨some 70, (.pick (.t 64) (.c (D.b true)) (.t 69)), none⟩,
  ⟨some 6, (.mov (.t 70)), none⟩] false) (.keep [2, 3, 5, 6] [0, 1])
def vc64_16 : VC := .seq vc64_17 vc64_18
def vc64_19 : VC := .skip
def vc64_15 : VC := .cond (.t 38) (.pre (.keep [2, 3] [0, 1]) vc64_16) (.pre (.keep [2, 3, 5, 6] [0, 1]) vc64_19)
def vc64_13 : VC := .seq vc64_14 vc64_15
def vc64_20 : VC := (.seq (.post (.ops [⟨some 71, (.fld (.t 2) 0), none⟩, ⟨some 72, (.ld (.t 71)), none⟩, ⟨some 73, (.bin .eqI (.t 72) (.c (D.i 3))), none⟩] false) (.keep [2, 3, 5, 6, 73] [0, 1])) (.cond (.t 73) (.pre (.keep [2, 3] [0, 1]) (.post (.ops [⟨some 74, (.fld (.t 2) 3), none⟩, ⟨some 75, (.ld (.t 74)), none⟩, ⟨some 76, (.fld (.t 3) 3), none⟩, ⟨some 77, (.ld (.t 76)), none⟩, ⟨some 78, (.bin .slt (.t 75) (.t 77)), none⟩, ⟨some 79, (.fld (.t 2) 3), none⟩, ⟨some 80, (.ld (.t 79)), none⟩, ⟨some 81, (.fld (.t 3) 3), none⟩, ⟨some 82, (.ld (.t 81)), none⟩, ⟨some 83, (.bin .sgt (.t 80) (.t 82)), none⟩, ⟨some 5, (.mov (.t 78)), none⟩, ⟨some 6, (.mov (.t 83)), none⟩] true) (.keep [5, 6] [0, 1]))) (.pre (.keep [5, 6] [0, 1]) .skip)))
def vc64_12 : VC := .seq vc64_13 vc64_20
def vc64_10 : VC := .seq vc64_11 vc64_12
def vc64_25 : VC := .skip
def vc64_9 : VC := .cond (.t 25) (.pre (.keep [2, 3] [0, 1]) vc64_10) (.pre (.keep [5, 6] [0, 1]) vc64_25)
def vc64_7 : VC := .seq vc64_8 vc64_9
def vc64_26 : VC := (.seq (.seq (.post (.ops [⟨some 84, (.mov (.t 5)), none⟩] false) (.keep [6, 84] [0, 1])) (.cond (.t 84) (.pre (.keep [] [0, 1]) (.seq (.post (.ops [⟨some 4, (.mov (.c (D.i (-1)))), none⟩] false) (.keep [4] [0, 1])) .ret)) (.pre (.keep [6] [0, 1]) .skip))) (.seq (.seq (.post (.ops [⟨some 85, (.mov (.t 6)), none⟩] false) (.keep [85] [0, 1])) (.cond (.t 85) (.pre (.keep [] [0, 1]) (.seq (.post (.ops [⟨some 4, (.mov (.c (D.i 1))), none⟩] false) (.keep [4] [0, 1])) .ret)) (.pre (.keep [] [0, 1]) .skip))) (.seq (.post (.ops [⟨some 4, (.mov (.c (D.i 0))), none⟩] false) (.keep [4] [0, 1])) .ret)))
def vc64_6 : VC := .seq vc64_7 vc64_26
def vc64_4 : VC := .seq vc64_5 vc64_6
def vc64_2 : VC := .seq vc64_3 vc64_4
def vc64_0 : VC := .seq vc64_1 vc64_2
def vc65_0 : VC := (.seq (.post (.ops [⟨some 4, .alA, none⟩] false) (.keep [0, 1, 4] [])) (.seq (.seq (.post (.ops [⟨some 5, (.mov (.t 1)), none⟩, ⟨some 6, (.bin .ltI (.t 5) (.c (D.i 0))), none⟩, ⟨some 7, (.mov (.t 6)), none⟩, ⟨some 8, (.mov (.t 1)), some (7, false)⟩, ⟨some 9, (.mov (.t 0)), some (7, false)⟩, ⟨some 10, (.len (.t 9)), some (7, false)⟩, ⟨some 11, (.bin .geI (.t 8) (.t 10)), some (7, false)⟩, ⟨some 12, (.pick (.t 7) (.c (D.b true)) (.t 11)), none⟩] false) (.keep [0, 1, 4, 12] [])) (.cond (.t 12) (.pre (.keep [4] []) (.seq (.post (.ops [⟨some 13, (.build (D.ag [(D.i 0), (D.i 0), (D.f 0), (D.s [])]) []), none⟩, ⟨none, (.ini 4 (.t 13)), none⟩] false) (.keep [4] [])) .ret)) (.pre (.keep [0, 1, 4] []) .skip))) (.seq (.post (.ops [⟨some 14, (.mov (.t 0)), none⟩, ⟨some 15, (.mov (.t 1)), none⟩, ⟨some 16, (.ixa (.t 14) (.t 15)), none⟩, ⟨some 17, (.ldF (.t 16)), none⟩, ⟨some 18, (.call 10 [(.t 17)] []), none⟩, ⟨none, (.ini 4 (.t 18)), none⟩] false) (.keep [4] [])) .ret)))
def vc66_0 : VC := (.seq (.post (.ops [⟨some 1, (.boxM 0 (.t 0)), none⟩, ⟨some 2, .alA, none⟩] false) (.keep [1, 2] [0])) (.seq (.post (.ops [⟨some 3, (.ld (.t 1)), none⟩, ⟨some 4, (.call 10 [(.t 3)] []), none⟩, ⟨none, (.st (.t 1) (.t 4)), none⟩] false) (.keep [1, 2] [0])) (.seq (.seq (.post (.ops [⟨some 5, (.fld (.t 1) 0), none⟩, ⟨some 6, (.ld (.t 5)), none⟩, ⟨some 7, (.bin .eqI (.t 6) (.c (D.i 2))), none⟩] false) (.keep [1, 2, 7] [0])) (.cond (.t 7) (.pre (.keep [1, 2] [0]) (.seq (.post (.ops [⟨some 8, (.fld (.t 1) 2), none⟩, ⟨some 9, (.ld (.t 8)), none⟩, ⟨some 10, (.un .fneg (.t 9)), none⟩, ⟨some 11, (.build (D.ag [(D.i 0), (D.i 0), (D.f 0), (D.s [])]) [(0, (.c (D.i 2))), (2, (.t 10))]), none⟩, ⟨some 12, (.call 10 [(.t 11)] []), none⟩, ⟨none, (.ini 2 (.t 12)), none⟩] false) (.keep [2] [0])) .ret)) (.pre (.keep [1, 2] [0]) .skip))) (.seq (.seq (.post (.ops [⟨some 13, (.fld (.t 1) 0), none⟩, ⟨some 14, (.ld (.t 13)), none⟩, ⟨some 15, (.bin .neI (.t 14) (.c (D.i 1))), none⟩, ⟨some 16, (.mov (.t 15)), none⟩, ⟨some 17, (.fld (.t 1) 1), some (16, false)⟩, ⟨some 18, (.ld (.t 17)), some (16, false)⟩, ⟨some 19, (.bin .eqI (.t 18) (.c (D.i (-9223372036854775808)))), some (16, false)⟩, ⟨some 20, (.pick (.t 16) (.c (D.b true)) (.t 19)), none⟩] false) (.keep [1, 2, 20] [0])) (.cond (.t 20) (.pre (.keep [2] [0]) (.seq (.post (.ops [⟨some 21, (.build (D.ag [(D.i 0), (D.i 0), (D.f 0), (D.s [])]) []), none⟩, ⟨none, (.ini 2 (.t 21)), none⟩] false) (.keep [2] [0])) .ret)) (.pre (.keep [1, 2] [0]) .skip))) (.seq (.post (.ops [⟨some 22, (.fld (.t 1) 1), none⟩, ⟨some 23, (.ld (.t 22)), none⟩, ⟨some 24, (.un (.neg .i64) (.t 23)), none⟩, ⟨some 25, (.build (D.ag [(D.i 0), (D.i 0), (D.f 0), (D.s [])]) [(0, (.c (D.i 1))), (1, (.t 24))]), none⟩, ⟨none, (.ini 2 (.t 25)), none⟩] false) (.keep [2] [0])) .ret)))))
def vc67_0 : VC := (.seq (.post (.ops [⟨some 3, (.box (.t 0)), none⟩, ⟨some 6, .alA, none⟩] false) (.keep [1, 2, 3, 6] [])) (.seq (.seq (.post (.ops [⟨some 7, (.mov (.t 1)), none⟩, ⟨some 8, (.fld (.t 3) 6), none⟩, ⟨some 9, (.ldF (.t 8)), none⟩, ⟨some 10, (.len (.t 9)), none⟩, ⟨some 11, (.bin .geI (.t 7) (.t 10)), none⟩] false) (.keep [1, 2, 3, 6, 11] [])) (.cond (.t 11) (.pre (.keep [6] []) (.seq (.post (.ops [⟨some 12, (.build (D.ag [(D.i 0), (D.i 0), (D.f 0), (D.s [])]) []), none⟩, ⟨none, (.ini 6 (.t 12)), none⟩] false) (.keep [6] [])) .ret)) (.pre (.keep [1, 2, 3, 6] []) .skip))) (.seq (.post (.ops [⟨some 13, (.fld (.t 3) 6), none⟩, ⟨some 14, (.ldF (.t 13)), none⟩, ⟨some 15, (.mov (.t 1)), none⟩, ⟨some 16, (.ixa (.t 14) (.t 15)), none⟩, ⟨some 17, (.ldF (.t 16)), none⟩, ⟨some 18, (.mov (.t 2)), none⟩, ⟨some 19, (.call 38 [(.t 17), (.t 18)] []), none⟩, ⟨none, (.ini 6 (.t 19)), none⟩] false) (.keep [6] [])) .ret)))
def vc68_0 : VC := (.seq (.post (.ops [⟨some 1, (.box (.t 0)), none⟩, ⟨some 2, .alA, none⟩] false) (.keep [1, 2] [])) (.seq (.post (.ops [⟨some 3, (.ldF (.t 1)), none⟩, ⟨some 4, (.call 93 [(.t 3)] []), none⟩, ⟨some 5, (.bin (.sub .i64) (.c (D.i 2)) (.t 4)), none⟩, ⟨some 6, (.call 92 [(.t 5)] []), none⟩, ⟨none, (.ini 2 (.t 6)), none⟩] false) (.keep [2] [])) .ret))
def vc69_0 : VC := (.seq (.post (.ops [⟨some 2, (.box (.t 0)), none⟩, ⟨some 3, (.box (.t 1)), none⟩, ⟨some 4, .alA, none⟩] false) (.keep [2, 3, 4] [])) (.seq (.post (.ops [⟨some 5, (.ldF (.t 2)), none⟩, ⟨some 6, (.call 93 [(.t 5)] []), none⟩, ⟨some 7, (.ldF (.t 3)), none⟩, ⟨some 8, (.call 93 [(.t 7)] []), none⟩, ⟨some 9, (.mm false (.t 6) [(.t 8)]), none⟩, ⟨some 10, (.call 92 [(.t 9)] []), none⟩, ⟨none, (.ini 4 (.t 10)), none⟩] true) (.keep [4] [])) .ret))
def vc70_0 : VC := (.seq (.post (.ops [⟨some 2, (.box (.t 0)), none⟩, ⟨some 3, (.box (.t 1)), none⟩, ⟨some 4, .alA, none⟩] false) (.keep [2, 3, 4] [])) (.seq (.post (.ops [⟨some 5, (.ldF (.t 2)), none⟩, ⟨some 6, (.call 93 [(.t 5)] []), none⟩, ⟨some 7, (.ldF (.t 3)), none⟩, ⟨some 8, (.call 93 [(.t 7)] []), none⟩, ⟨some 9, (.mm true (.t 6) [(.t 8)]), none⟩, ⟨some 10, (.call 92 [(.t 9)] []), none⟩, ⟨none, (.ini 4 (.t 10)), none⟩] true) (.keep [4] [])) .ret))
def vc71_1 : VC := .post (.ops [⟨some 4, (.boxM 0 (.t 1)), none⟩,
  ⟨some 5, (.boxM 1 (.t 2)), none⟩,
  ⟨some 6, .alA, none⟩] false) (.keep [0, 4, 5, 6] [0, 1])
def vc71_3 : VC := .post (.ops [⟨some 9, (.ld (.t 4)), none⟩,
  ⟨some 10, (.call 10 [(.t 9)] []), none⟩,
  ⟨some 11, (.ld (.t 5)), none⟩,
  ⟨some 12, (.call 10 [(.t 11)] []), none⟩,
  ⟨none, (.st (.t 4) (.t 10)), none⟩,
  ⟨none, (.st (.t 5) (.t 12)), none⟩] true) (.keep [0, 4, 5, 6] [0, 1])
def vc71_6 : VC := .post (.ops [⟨some 13, (.fld (.t 4) 0), none⟩,
  ⟨some 14, (.ld (.t 13)), none⟩,
  ⟨some 15, (.bin .eqI (.t 14) (.c (D.i 1))), none⟩,
  ⟨some 16, (.mov (.t 15)), none⟩,
  ⟨some 17, (.fld (.t 5) 0), some (16, true)⟩,
  ⟨some 18, (.ld (.t 17)), some (16, true)⟩,
  ⟨some 19, (.bin .eqI (.t 18) (.c (D.i 1))), some (16, true)⟩,
  ⟨some 20, (.pick (.t 16) (.t 19) (.c (D.b false))), none⟩] false) (.keep [0, 4, 5, 6, 20] [0, 1])
def vc71_9 : VC := .post (.ops [⟨some 7, (.mov (.c (D.i 0))), none⟩,
  ⟨some 8, (.mov (.c (D.b false))), none⟩] false) (.keep [0, 4, 5, 6, 7, 8] [0, 1])
def vc71_11 : VC := (.seq (.post (.ops [⟨some 21, (.mov (.t 0)), none⟩] false) (.keep [4, 5, 6, 7, 8, 21] [0, 1])) (.block 0 (.seq (.post (.ops [⟨some 23, (.bin .seq (.t 21) (.c (D.s [43]))), none⟩, ⟨some 22, (.mov (.t 23)), none⟩] false) (.keep [4, 5, 6, 7, 8, 21, 22] [0, 1])) (.cond (.t 22) (.pre (.keep [4, 5, 6] [0, 1]) (.post (.ops [⟨some 25, (.fld (.t 4) 1), none⟩, ⟨some 26, (.ld (.t 25)), none⟩, ⟨some 27, (.fld (.t 5) 1), none⟩, ⟨some 28, (.ld (.t 27)), none⟩, ⟨some 29, (.call 94 [(.t 26), (.t 28)] []), none⟩, ⟨some 24, (.mov (.t 29)), none⟩, ⟨some 30, (.ext (.t 24) 0), none⟩, ⟨some 31, (.ext (.t 24) 1), none⟩, ⟨some 7, (.mov (.t 30)), none⟩, ⟨some 8, (.mov (.t 31)), none⟩] false) (.keep [6, 7, 8] [0, 1]))) (.pre (.keep [4, 5, 6, 7, 8, 21] [0, 1]) (.seq (.post (.ops [⟨some 33, (.bin .seq (.t 21) (.c (D.s [45]))), none⟩, ⟨some 32, (.mov (.t 33)), none⟩] false) (.keep [4, 5, 6, 7, 8, 21, 32] [0, 1])) (.cond (.t 32) (.pre (.keep [4, 5, 6] [0, 1]) (.seq (.post (.ops [⟨some 34, (.fld (.t 5) 1), none⟩, ⟨some 35, (.ld (.t 34)), none⟩, ⟨some 36, (.bin .eqI (.t 35) (.c (D.i (-9223372036854775808)))), none⟩] false) (.keep [4, 5, 6, 36] [0, 1])) (.cond (.t 36) (.pre (.keep [4, 6] [0, 1]) (.seq (.post (.ops [⟨some 38, (.fld (.t 4) 1), none⟩, ⟨some 39, (.ld (.t 38)), none⟩, ⟨some 40, (.call 94 [(.t 39), (.c (D.i 9223372036854775807))] []), none⟩, ⟨some 37, (.mov (.t 40)), none⟩, ⟨some 41, (.ext (.t 37) 0), none⟩, ⟨some 42, (.ext (.t 37) 1), none⟩, ⟨some 7, (.mov (.t 41)), none⟩, ⟨some 8, (.mov (.t 42)), none⟩] false) (.keep [4, 6, 7, 8] [0, 1])) (.seq (.post (.ops [⟨some 43, (.mov (.t 8)), none⟩] false) (.keep [4, 6, 7, 8, 43] [0, 1])) (.cond (.t 43) (.pre (.keep [6, 7] [0, 1]) (.post (.ops [⟨some 45, (.mov (.t 7)), none⟩, ⟨some 46, (.call 94 [(.t 45), (.c (D.i 1))] []), none⟩, ⟨some 44, (.mov (.t 46)), none⟩, ⟨some 47, (.ext (.t 44) 0), none⟩, ⟨some 48, (.ext (.t 44) 1), none⟩, ⟨some 7, (.mov (.t 47)), none⟩, ⟨some 8, (.mov (.t 48)), none⟩] false) (.keep [6, 7, 8] [0, 1]))) (.pre (.keep [4, 6, 7, 8] [0, 1]) (.seq (.post (.ops [⟨some 49, (.fld (.t 4) 1), none⟩, ⟨some 50, (.ld (.t 49)), none⟩, ⟨some 51, (.bin .ltI (.t 50) (.c (D.i 0))), none⟩] false) (.keep [6, 7, 8, 51] [0, 1])) (.cond (.t 51) (.pre (.keep [6, 7] [0, 1]) (.post (.ops [⟨some 8, (.mov (.c (D.b false))), none⟩] false) (.keep [6, 7, 8] [0, 1]))) (.pre (.keep [6, 7, 8] [0, 1]) .skip)))))))) (.pre (.keep [4, 5, 6] [0, 1]) (.post (.ops [⟨some 53, (.fld (.t 4) 1), none⟩, ⟨some 54, (.ld (.t 53)), none⟩, ⟨some 55, (.fld (.t 5) 1), none⟩, ⟨some 56, (.ld (.t 55)), none⟩, ⟨some 57, (.un (.neg .i64) (.t 56)), none⟩, ⟨some 58, (.call 94 [(.t 54), (.t 57)] []), none⟩, ⟨some 52, (.mov (.t 58)), none⟩, ⟨some 59, (.ext (.t 52) 0), none⟩, ⟨some 60, (.ext (.t 52) 1), none⟩, ⟨some 7, (.mov (.t 59)), none⟩, ⟨some 8, (.mov (.t 60)), none⟩] false) (.keep [6, 7, 8] [0, 1])))))) (.pre (.keep [4, 5, 6, 7, 8, 21] [0, 1]) (.seq (.post (.ops [⟨some 62, (.bin .seq (.t 21) (.c (D.s [42]))), none⟩, ⟨some 61, (.mov (.t 62)), none⟩] false) (.keep [4, 5, 6, 7, 8, 61] [0, 1])) (.cond (.t 61) (.pre (.keep [4, 5, 6] [0, 1]) (.post (.ops [⟨some 64, (.fld (.t 4) 1), none⟩, ⟨some 65, (.ld (.t 64)), none⟩, ⟨some 66, (.fld (.t 5) 1), none⟩, ⟨some 67, (.ld (.t 66)), none⟩, ⟨some 68, (.call 95 [(.t 65), (.t 67)] []), none⟩, ⟨some 63, (.mov (.t 68)), none⟩, ⟨some 69, (.ext (.t 63) 0), none⟩, ⟨some 70, (.ext (.t 63) 1), none⟩, ⟨some 7, (.mov (.t 69)), none⟩, ⟨some 8, (.mov (.t 70)), none⟩] false) (.keep [6, 7, 8] [0, 1]))) (.pre (.keep [6, 7, 8] [0, 1]) .skip)))))))))))
def vc71_41 : VC := (.seq (.seq (.post (.ops [⟨some 71, (.mov (.t 8)), none⟩, ⟨some 72, (.un .not (.t 71)), none⟩] false) (.keep [6, 7, 72] [0, 1])) (.cond (.t 72) (.pre (.keep [6] [0, 1]) (.seq (.post (.ops [⟨some 73, (.build (D.ag [(D.i 0), (D.i 0), (D.f 0), (D.s [])]) []), none⟩, ⟨none, (.ini 6 (.t 73)), none⟩] false) (.keep [6] [0, 1])) .ret)) (.pre (.keep [6, 7] [0, 1]) .skip))) (.seq (.post (.ops [⟨some 74, (.mov (.t 7)), none⟩, ⟨some 75, (.build (D.ag [(D.i 0), (D.i 0), (D.f 0), (D.s [])]) [(0, (.c (D.i 1))), (1, (.t 74))]), none⟩, ⟨none, (.ini 6 (.t 75)), none⟩] false) (.keep [6] [0, 1])) .ret))
def vc71_10 : VC := .seq vc71_11 vc71_41
def vc71_8 : VC := .seq vc71_9 vc71_10
def vc71_52 : VC := .skip
def vc71_7 : VC := .cond (.t 20) (.pre (.keep [0, 4, 5, 6] [0, 1]) vc71_8) (.pre (.keep [0, 4, 5, 6] [0, 1]) vc71_52)
def vc71_5 : VC := .seq vc71_6 vc71_7
def vc71_55 : VC := .post (.ops [⟨some 76, (.fld (.t 4) 0), none⟩,
  ⟨some 77, (.ld (.t 76)), none⟩,
  ⟨some 78, (.bin .eqI (.t 77) (.c (D.i 2))), none⟩,
  ⟨some 79, (.mov (.t 78)), none⟩,
  ⟨some 80, (.fld (.t 5) 0), some (79, true)⟩,
  ⟨some 81, (.ld (.t 80)), some (79, true)⟩,
  ⟨some 82, (.bin .eqI (.t 81) (.c (D.i 2))), some (79, true)⟩,
  ⟨some 83, (.pick (.t 79) (.t 82) (.c (D.b false))), none⟩] false) (.keep [0, 4, 5, 6, 83] [0, 1])
def vc71_56 : VC := (.cond (.t 83) (.pre (.keep [0, 4, 5, 6] [0, 1]) (.seq (.post (.ops [⟨some 84, (.mov (.t 0)), none⟩] false) (.keep [4, 5, 6, 84] [0, 1])) (.block 1 (.seq (.post (.ops [⟨some 86, (.bin .seq (.t 84) (.c (D.s [43]))), none⟩, ⟨some 85, (.mov (.t 86)), none⟩] false) (.keep [4, 5, 6, 84, 85] [0, 1])) (.cond (.t 85) (.pre (.keep [4, 5, 6] [0, 1]) (.seq (.post (.ops [⟨some 87, (.fld (.t 4) 2), none⟩, ⟨some 88, (.ld (.t 87)), none⟩, ⟨some 89, (.fld (.t 5) 2), none⟩, ⟨some 90, (.ld (.t 89)), none⟩, ⟨some 91, (.bin .fadd (.t 88) (.t 90)), none⟩, ⟨some 92, (.build (D.ag [(D.i 0), (D.i 0), (D.f 0), (D.s [])]) [(0, (.c (D.i 2))), (2, (.t 91))]), none⟩, ⟨some 93, (.call 10 [(.t 92)] []), none⟩, ⟨none, (.ini 6 (.t 93)), none⟩] false) (.keep [6] [0, 1])) .ret)) (.pre (.keep [4, 5, 6, 84] [0, 1]) (.seq (.post (.ops [⟨some 95, (.bin .seq (.t 84) (.c (D.s [45]))), none⟩, ⟨some 94, (.mov (.t 95)), none⟩] false) (.keep [4, 5, 6, 84, 94] [0, 1])) (.cond (.t 94) (.pre (.keep [4, 5, 6] [0, 1]) (.seq (.post (.ops [⟨some 96, (.fld (.t 4) 2), none⟩, ⟨some 97, (.ld (.t 96)), none⟩, ⟨some 98, (.fld (.t 5) 2), none⟩, ⟨some 99, (.ld (.t 98)), none⟩, ⟨some 100, (.bin .fsub (.t 97) (.t 99)), none⟩, ⟨some 101, (.build (D.ag [(D.i 0), (D.i 0), (D.f 0), (D.s [])]) [(0, (.c (D.i 2))), (2, (.t 100))]), none⟩, ⟨some 102, (.call 10 [(.t 101)] []), none⟩, ⟨none, (.ini 6 (.t 102)), none⟩] false) (.keep [6] [0, 1])) .ret)) (.pre (.keep [4, 5, 6, 84] [0, 1]) (.seq (.post (.ops [⟨some 104, (.bin .seq (.t 84) (.c (D.s [42]))), none⟩, ⟨some 103, (.mov (.t 104)), none⟩] false) (.keep [4, 5, 6, 103] [0, 1])) (.cond (.t 103) (.pre (.keep [4, 5, 6] [0, 1]) (.seq (.post (.ops [⟨some 105, (.fld (.t 4) 2), none⟩, ⟨some 106, (.ld (.t 105)), none⟩, ⟨some 107, (.fld (.t 5) 2), none⟩, ⟨some 108, (.ld (.t 107)), none⟩, ⟨some 109, (.bin .fmul (.t 106) (.t 108)), none⟩, ⟨some 110, (.build (D.ag [(D.i 0), (D.i 0), (D.f 0), (D.s [])]) [(0, (.c (D.i 2))), (2, (.t 109))]), none⟩, ⟨some 111, (.call 10 [(.t 110)] []), none⟩, ⟨none, (.ini 6 (.t 111)), none⟩] false) (.keep [6] [0, 1])) .ret)) (.pre (.keep [6] [0, 1]) .skip)))))))))))) (.pre (.keep [6] [0, 1]) .skip))
def vc71_54 : VC := .seq vc71_55 vc71_56
def vc71_80 : VC := (.seq (.post (.ops [⟨some 112, (.build (D.ag [(D.i 0), (D.i 0), (D.f 0), (D.s [])]) []), none⟩, ⟨none, (.ini 6 (.t 112)), none⟩] false) (.keep [6] [0, 1])) .ret)
def vc71_53 : VC := .seq vc71_54 vc71_80
def vc71_4 : VC := .seq vc71_5 vc71_53
def vc71_2 : VC := .seq vc71_3 vc71_4
def vc71_0 : VC := .seq vc71_1 vc71_2
def vc73_1 : VC := .post (.ops [⟨some 4, (.mov (.c (D.i 0))), none⟩] false) (.keep [0, 1] [])
def vc73_4 : VC := .post (.ops [⟨some 6, (.mov (.t 0)), none⟩,
  ⟨some 7, (.len (.t 6)), none⟩,
  ⟨some 8, (.mov (.c (D.i 0))), none⟩] false) (.keep [0, 1, 7, 8] [])
def vc73_7 : VC := (.seq (.post (.ops [⟨some 9, (.bin .ltI (.t 8) (.t 7)), none⟩] false) (.keep [0, 1, 7, 8, 9] [])) (.seq (.cond (.t 9) (.pre (.keep [0, 1, 7, 8] []) .skip) (.pre (.keep [] []) (.exit 0))) (.seq (.block 1 (.seq (.post (.ops [⟨some 10, (.mov (.t 8)), none⟩, ⟨some 5, (.mov (.t 10)), none⟩] false) (.keep [0, 1, 5, 7, 8] [])) (.seq (.post (.ops [⟨some 11, (.mov (.t 1)), none⟩, ⟨some 12, (.mov (.t 0)), none⟩, ⟨some 13, (.mov (.t 5)), none⟩, ⟨some 14, (.ixa (.t 12) (.t 13)), none⟩, ⟨some 15, (.ldF (.t 14)), none⟩, ⟨some 16, (.callv (.t 11) [(.t 15)] [Ty.v 4, Ty.v 48] []), none⟩] false) (.keep [0, 1, 5, 7, 8, 16] [])) (.cond (.t 16) (.pre (.keep [5] []) (.seq (.post (.ops [⟨some 17, (.mov (.t 5)), none⟩, ⟨some 4, (.mov (.t 17)), none⟩] false) (.keep [4] [])) .ret)) (.pre (.keep [0, 1, 7, 8] []) .skip))))) (.post (.ops [⟨some 18, (.bin (.add .i64) (.t 8) (.c (D.i 1))), none⟩, ⟨some 8, (.mov (.t 18)), none⟩] false) (.keep [0, 1, 7, 8] [])))))
def vc73_6 : VC := .loop vc73_7
def vc73_5 : VC := .block 0 vc73_6
def vc73_3 : VC := .seq vc73_4 vc73_5
def vc73_25 : VC := (.seq (.post (.ops [⟨some 4, (.mov (.c (D.i (-1)))), none⟩] false) (.keep [4] [])) .ret)
def vc73_2 : VC := .seq vc73_3 vc73_25
def vc73_0 : VC := .seq vc73_1 vc73_2
def vc74_0 : VC := (.seq (.post (.ops [⟨some 1, (.box (.t 0)), none⟩, ⟨some 2, (.mov (.c (D.i 0))), none⟩] false) (.keep [1] [])) (.seq (.seq (.post (.ops [⟨some 3, (.fld (.t 1) 0), none⟩, ⟨some 4, (.ldF (.t 3)), none⟩, ⟨some 5, (.bin .neI (.t 4) (.c (D.i 4))), none⟩] false) (.keep [1, 5] [])) (.cond (.t 5) (.pre (.keep [] []) (.seq (.post (.ops [⟨some 2, (.mov (.c (D.i (-1)))), none⟩] false) (.keep [2] [])) .ret)) (.pre (.keep [1] []) .skip))) (.seq (.seq (.post (.ops [⟨some 6, (.fld (.t 1) 1), none⟩, ⟨some 7, (.ldF (.t 6)), none⟩, ⟨some 8, (.bin .neI (.t 7) (.c (D.i 0))), none⟩] false) (.keep [8] [])) (.cond (.t 8) (.pre (.keep [] []) (.seq (.post (.ops [⟨some 2, (.mov (.c (D.i 1))), none⟩] false) (.keep [2] [])) .ret)) (.pre (.keep [] []) .skip))) (.seq (.post (.ops [⟨some 2, (.mov (.c (D.i 0))), none⟩] false) (.keep [2] [])) .ret))))
def vc75_0 : VC := (.seq (.post (.ops [⟨some 2, .alA, none⟩] false) (.keep [0, 2] [])) (.seq (.seq (.post (.ops [⟨some 3, (.mov (.t 0)), none⟩, ⟨some 4, (.bin .ltI (.t 3) (.c (D.i 0))), none⟩] false) (.keep [0, 2, 4] [])) (.cond (.t 4) (.pre (.keep [2] []) (.seq (.post (.ops [⟨some 5, (.build (D.ag [(D.i 0), (D.i 0), (D.f 0), (D.s [])]) []), none⟩, ⟨none, (.ini 2 (.t 5)), none⟩] false) (.keep [2] [])) .ret)) (.pre (.keep [0, 2] []) .skip))) (.seq (.post (.ops [⟨some 6, (.mov (.t 0)), none⟩, ⟨some 7, (.bin .eqI (.t 6) (.c (D.i 1))), none⟩, ⟨some 8, (.call 51 [(.t 7)] []), none⟩, ⟨none, (.ini 2 (.t 8)), none⟩] false) (.keep [2] [])) .ret)))
def vc76_1 : VC := .post (.ops [⟨some 6, (.mov (.c (D.i 0))), none⟩,
  ⟨some 7, (.mov (.c (D.b false))), none⟩] false) (.keep [0, 1, 2] [])
def vc76_4 : VC := .post (.ops [⟨some 11, (.mov (.t 0)), none⟩] false) (.keep [1, 2, 11] [])
def vc76_7 : VC := .post (.ops [⟨some 13, (.bin .seq (.t 11) (.c (D.s [43]))), none⟩,
  ⟨some 12, (.mov (.t 13)), none⟩] false) (.keep [1, 2, 11, 12] [])
def vc76_9 : VC := (.seq (.post (.ops [⟨some 14, (.mov (.t 1)), none⟩, ⟨some 15, (.mov (.t 2)), none⟩, ⟨some 16, (.bin (.add .i64) (.t 14) (.t 15)), none⟩, ⟨some 8, (.mov (.t 16)), none⟩] false) (.keep [1, 2, 8] [])) (.seq (.post (.ops [⟨some 17, (.mov (.t 8)), none⟩, ⟨some 18, (.mov (.t 8)), none⟩, ⟨some 19, (.mov (.t 1)), none⟩, ⟨some 20, (.bin .gtI (.t 18) (.t 19)), none⟩, ⟨some 21, (.mov (.t 2)), none⟩, ⟨some 22, (.bin .gtI (.t 21) (.c (D.i 0))), none⟩, ⟨some 23, (.bin .eqB (.t 20) (.t 22)), none⟩, ⟨some 6, (.mov (.t 17)), none⟩, ⟨some 7, (.mov (.t 23)), none⟩] false) (.keep [6, 7] [])) .ret))
def vc76_15 : VC := .post (.ops [⟨some 25, (.bin .seq (.t 11) (.c (D.s [45]))), none⟩,
  ⟨some 24, (.mov (.t 25)), none⟩] false) (.keep [1, 2, 11, 24] [])
def vc76_17 : VC := (.seq (.post (.ops [⟨some 26, (.mov (.t 1)), none⟩, ⟨some 27, (.mov (.t 2)), none⟩, ⟨some 28, (.bin (.sub .i64) (.t 26) (.t 27)), none⟩, ⟨some 9, (.mov (.t 28)), none⟩] false) (.keep [1, 2, 9] [])) (.seq (.post (.ops [⟨some 29, (.mov (.t 9)), none⟩, ⟨some 30, (.mov (.t 9)), none⟩, ⟨some 31, (.mov (.t 1)), none⟩, ⟨some 32, (.bin .ltI (.t 30) (.t 31)), none⟩, ⟨some 33, (.mov (.t 2)), none⟩, ⟨some 34, (.bin .gtI (.t 33) (.c (D.i 0))), none⟩, ⟨some 35, (.bin .eqB (.t 32) (.t 34)), none⟩, ⟨some 6, (.mov (.t 29)), none⟩, ⟨some 7, (.mov (.t 35)), none⟩] false) (.keep [6, 7] [])) .ret))
def vc76_23 : VC := .post (.ops [⟨some 37, (.bin .seq (.t 11) (.c (D.s [42]))), none⟩,
  ⟨some 36, (.mov (.t 37)), none⟩] false) (.keep [1, 2, 36] [])
def vc76_26 : VC := (.seq (.post (.ops [⟨some 38, (.mov (.t 1)), none⟩, ⟨some 39, (.bin .eqI (.t 38) (.c (D.i 0))), none⟩, ⟨some 40, (.mov (.t 39)), none⟩, ⟨some 41, (.mov (.t 2)), some (40, false)⟩, ⟨some 42, (.bin .eqI (.t 41) (.c (D.i 0))), some (40, false)⟩, ⟨some 43, (.pick (.t 40) (.c (D.b true)) (.t 42)), none⟩] false) (.keep [1, 2, 43] [])) (.cond (.t 43) (.pre (.keep [] []) (.seq (.post (.ops [⟨some 6, (.mov (.c (D.i 0))), none⟩, ⟨some 7, (.mov (.c (D.b true))), none⟩] false) (.keep [6, 7] [])) .ret)) (.pre (.keep [1, 2] []) .skip)))
def vc76_33 : VC := (.seq (.post (.ops [⟨some 44, (.mov (.t 1)), none⟩, ⟨some 45, (.mov (.t 2)), none⟩, ⟨some 46, (.bin (.mul .i64) (.t 44) (.t 45)), none⟩, ⟨some 10, (.mov (.t 46)), none⟩] false) (.keep [1, 2, 10] [])) (.seq (.post (.ops [⟨some 47, (.mov (.t 10)), none⟩, ⟨some 48, (.mov (.t 10)), none⟩, ⟨some 49, (.mov (.t 2)), none⟩, ⟨some 50, (.bin (.quo .i64) (.t 48) (.t 49)), none⟩, ⟨some 51, (.mov (.t 1)), none⟩, ⟨some 52, (.bin .eqI (.t 50) (.t 51)), none⟩, ⟨some 53, (.mov (.t 52)), none⟩, ⟨some 54, (.mov (.t 1)), some (53, true)⟩, ⟨some 55, (.bin .eqI (.t 54) (.c (D.i (-1)))), some (53, true)⟩, ⟨some 56, (.mov (.t 55)), some (53, true)⟩, ⟨some 57, (.mov (.t 2)), some (56, true)⟩, ⟨some 58, (.bin .eqI (.t 57) (.c (D.i (-9223372036854775808)))), some (56, true)⟩, ⟨some 59, (.pick (.t 56) (.t 58) (.c (D.b false))), some (53, true)⟩, ⟨some 60, (.un .not (.t 59)), some (53, true)⟩, ⟨some 61, (.pick (.t 53) (.t 60) (.c (D.b false))), none⟩, ⟨some 62, (.mov (.t 61)), none⟩, ⟨some 63, (.mov (.t 2)), some (62, true)⟩, ⟨some 64, (.bin .eqI (.t 63) (.c (D.i (-1)))), some (62, true)⟩, ⟨some 65, (.mov (.t 64)), some (62, true)⟩, ⟨some 66, (.mov (.t 1)), some (65, true)⟩, ⟨some 67, (.bin .eqI (.t 66) (.c (D.i (-9223372036854775808)))), some (65, true)⟩, ⟨some 68, (.pick (.t 65) (.t 67) (.c (D.b false))), some (62, true)⟩, ⟨some 69, (.un .not (.t 68)), some (62, true)⟩, ⟨some 70, (.pick (.t 62) (.t 69) (.c (D.b false))), none⟩, ⟨some 6, (.mov (.t 47)), none⟩, ⟨some 7, (.mov (.t 70)), none⟩] false) (.keep [6, 7] [])) .ret))
def vc76_25 : VC := .seq vc76_26 vc76_33
def vc76_38 : VC := .skip
def vc76_24 : VC := .cond (.t 36) (.pre (.keep [1, 2] []) vc76_25) (.pre (.keep [] []) vc76_38)
def vc76_22 : VC := .seq vc76_23 vc76_24
def vc76_16 : VC := .cond (.t 24) (.pre (.keep [1, 2] []) vc76_17) (.pre (.keep [1, 2, 11] []) vc76_22)
def vc76_14 : VC := .seq vc76_15 vc76_16
def vc76_8 : VC := .cond (.t 12) (.pre (.keep [1, 2] []) vc76_9) (.pre (.keep [1, 2, 11] []) vc76_14)
def vc76_6 : VC := .seq vc76_7 vc76_8
def vc76_5 : VC := .block 0 vc76_6
def vc76_3 : VC := .seq vc76_4 vc76_5
def vc76_39 : VC := (.seq (.post (.ops [⟨some 6, (.mov (.c (D.i 0))), none⟩, ⟨some 7, (.mov (.c (D.b false))), none⟩] false) (.keep [6, 7] [])) .ret)
def vc76_2 : VC := .seq vc76_3 vc76_39
def vc76_0 : VC := .seq vc76_1 vc76_2
def vc77_1 : VC := .post (.ops [⟨some 10, (.mov (.t 1)), none⟩,
  ⟨some 11, (.bin (.add .i64) (.t 10) (.c (D.i 1))), none⟩,
  ⟨some 8, (.mov (.t 11)), none⟩] false) (.keep [0, 1, 2, 3, 8] [])
def vc77_5 : VC := (.seq (.post (.ops [⟨some 12, (.mov (.t 8)), none⟩, ⟨some 13, (.mov (.t 2)), none⟩, ⟨some 14, (.bin .ltI (.t 12) (.t 13)), none⟩] false) (.keep [0, 1, 2, 3, 8, 14] [])) (.cond (.t 14) (.pre (.keep [0, 1, 2, 3, 8] []) .skip) (.pre (.keep [] []) (.exit 0))))
def vc77_13 : VC := .post (.ops [⟨some 17, (.mov (.t 8)), none⟩,
  ⟨some 9, (.mov (.t 17)), none⟩] false) (.keep [0, 1, 2, 3, 8, 9] [])
def vc77_16 : VC := (.seq (.seq (.post (.ops [⟨some 18, (.mov (.t 9)), none⟩, ⟨some 19, (.mov (.t 1)), none⟩, ⟨some 20, (.bin .gtI (.t 18) (.t 19)), none⟩, ⟨some 21, (.mov (.t 20)), none⟩, ⟨some 22, (.mov (.t 3)), some (21, true)⟩, ⟨some 23, (.mov (.t 0)), some (21, true)⟩, ⟨some 24, (.mov (.t 9)), some (21, true)⟩, ⟨some 25, (.ixa (.t 23) (.t 24)), some (21, true)⟩, ⟨some 26, (.ldF (.t 25)), some (21, true)⟩, ⟨some 27, (.mov (.t 0)), some (21, true)⟩, ⟨some 28, (.mov (.t 9)), some (21, true)⟩, ⟨some 29, (.bin (.sub .i64) (.t 28) (.c (D.i 1))), some (21, true)⟩, ⟨some 30, (.ixa (.t 27) (.t 29)), some (21, true)⟩, ⟨some 31, (.ldF (.t 30)), some (21, true)⟩, ⟨some 32, (.callv (.t 22) [(.t 26), (.t 31)] [Ty.v 3, Ty.v 35, Ty.v 35] []), some (21, true)⟩, ⟨some 33, (.bin .ltI (.t 32) (.c (D.i 0))), some (21, true)⟩, ⟨some 34, (.pick (.t 21) (.t 33) (.c (D.b false))), none⟩] true) (.keep [0, 1, 2, 3, 8, 9, 34] [])) (.cond (.t 34) (.pre (.keep [0, 1, 2, 3, 8, 9] []) .skip) (.pre (.keep [0, 1, 2, 3, 8] []) (.exit 2)))) (.seq (.block 3 .bad) .bad))
def vc77_15 : VC := .loop vc77_16
def vc77_14 : VC := .block 2 vc77_15
def vc77_12 : VC := .seq vc77_13 vc77_14
def vc77_11 : VC := .block 1 vc77_12
def vc77_26 : VC := .post (.ops [⟨some 15, (.mov (.t 8)), none⟩,
  ⟨some 16, (.bin (.add .i64) (.t 15) (.c (D.i 1))), none⟩,
  ⟨some 8, (.mov (.t 16)), none⟩] false) (.keep [0, 1, 2, 3, 8] [])
def vc77_10 : VC := .seq vc77_11 vc77_26
def vc77_4 : VC := .seq vc77_5 vc77_10
def vc77_3 : VC := .loop vc77_4
def vc77_2 : VC := .block 0 vc77_3
def vc77_0 : VC := .seq vc77_1 vc77_2
def vc85_1 : VC := .post (.ops [⟨some 2, (.mov (.c (D.i 0))), none⟩] false) (.keep [0, 2] [])
def vc85_3 : VC := (.seq (.post (.ops [⟨some 3, (.mov (.t 0)), none⟩, ⟨some 4, (.bin .geI (.t 3) (.c (D.i 65536))), none⟩] false) (.keep [0, 2, 4] [])) (.cond (.t 4) (.pre (.keep [0] []) (.seq (.post (.ops [⟨some 5, (.mov (.t 0)), none⟩, ⟨some 6, (.bin (.shr .u32) (.t 5) (.c (D.i 16))), none⟩, ⟨some 0, (.mov (.t 6)), none⟩] false) (.keep [0] [])) (.post (.ops [⟨some 2, (.mov (.c (D.i 16))), none⟩] false) (.keep [0, 2] [])))) (.pre (.keep [0, 2] []) .skip)))
def vc85_11 : VC := (.seq (.post (.ops [⟨some 7, (.mov (.t 0)), none⟩, ⟨some 8, (.bin .geI (.t 7) (.c (D.i 256))), none⟩] false) (.keep [0, 2, 8] [])) (.cond (.t 8) (.pre (.keep [0, 2] []) (.seq (.post (.ops [⟨some 9, (.mov (.t 0)), none⟩, ⟨some 10, (.bin (.shr .u32) (.t 9) (.c (D.i 8))), none⟩, ⟨some 0, (.mov (.t 10)), none⟩] false) (.keep [0, 2] [])) (.post (.ops [⟨some 11, (.mov (.t 2)), none⟩, ⟨some 12, (.bin (.add .i64) (.t 11) (.c (D.i 8))), none⟩, ⟨some 2, (.mov (.t 12)), none⟩] false) (.keep [0, 2] [])))) (.pre (.keep [0, 2] []) .skip)))
def vc85_18 : VC := (.seq (.post (.ops [⟨some 13, (.mov (.t 2)), none⟩, ⟨some 14, (.mov (.t 0)), none⟩, ⟨some 15, (.un (.conv .u8) (.t 14)), none⟩, ⟨some 16, (.ixS (.c (D.s [0, 1, 2, 2, 3, 3, 3, 3, 4, 4, 4, 4, 4, 4, 4, 4, 5, 5, 5, 5, 5, 5, 5, 5, 5, 5, 5, 5, 5, 5, 5, 5, 6, 6, 6, 6, 6, 6, 6, 6, 6, 6, 6, 6, 6, 6, 6, 6, 6, 6, 6, 6, 6, 6, 6, 6, 6, 6, 6, 6, 6, 6, 6, 6, 7, 7, 7, 7, 7, 7, 7, 7, 7, 7, 7, 7, 7, 7, 7, 7, 7, 7, 7, 7, 7, 7, 7, 7, 7, 7, 7, 7, 7, 7, 7, 7, 7, 7, 7, 7, 7, 7, 7, 7, 7, 7, 7, 7, 7, 7, 7, 7, 7, 7, 7, 7, 7, 7, 7, 7, 7, 7, 7, 7, 7, 7, 7, 7, 8, 8, 8, 8, 8, 8, 8, 8, 8, 8, 8, 8, 8, 8, 8, 8, 8, 8, 8, 8, 8, 8, 8, 8, 8, 8, 8, 8, 8, 8, 8, 8, 8, 8, 8, 8, 8, 8, 8, 8, 8, 8, 8, 8, 8, 8, 8, 8, 8, 8, 8, 8, 8, 8, 8, 8, 8, 8, 8, 8, 8, 8, 8, 8, 8, 8, 8, 8, 8, 8, 8, 8, 8, 8, 8, 8, 8, 8, 8, 8, 8, 8, 8, 8, 8, 8, 8, 8, 8, 8, 8, 8, 8, 8, 8, 8, 8, 8, 8, 8, 8, 8, 8, 8, 8, 8, 8, 8, 8, 8, 8, 8, 8, 8, 8, 8, 8, 8, 8, 8, 8, 8, 8, 8, 8, 8, 8, 8])) (.t 15)), none⟩, ⟨some 17, (.un (.conv .i64) (.t 16)), none⟩, ⟨some 18, (.bin (.add .i64) (.t 13) (.t 17)), none⟩, ⟨some 2, (.mov (.t 18)), none⟩] false) (.keep [2] [])) .ret)
def vc85_10 : VC := .seq vc85_11 vc85_18
def vc85_2 : VC := .seq vc85_3 vc85_10
def vc85_0 : VC := .seq vc85_1 vc85_2
def vc86_1 : VC := .post (.ops [⟨some 2, (.mov (.c (D.i 0))), none⟩] false) (.keep [0, 2] [])
def vc86_3 : VC := (.seq (.post (.ops [⟨some 3, (.mov (.t 0)), none⟩, ⟨some 4, (.bin .geI (.t 3) (.c (D.i 4294967296))), none⟩] false) (.keep [0, 2, 4] [])) (.cond (.t 4) (.pre (.keep [0] []) (.seq (.post (.ops [⟨some 5, (.mov (.t 0)), none⟩, ⟨some 6, (.bin (.shr .u64) (.t 5) (.c (D.i 32))), none⟩, ⟨some 0, (.mov (.t 6)), none⟩] false) (.keep [0] [])) (.post (.ops [⟨some 2, (.mov (.c (D.i 32))), none⟩] false) (.keep [0, 2] [])))) (.pre (.keep [0, 2] []) .skip)))
def vc86_11 : VC := (.seq (.post (.ops [⟨some 7, (.mov (.t 0)), none⟩, ⟨some 8, (.bin .geI (.t 7) (.c (D.i 65536))), none⟩] false) (.keep [0, 2, 8] [])) (.cond (.t 8) (.pre (.keep [0, 2] []) (.seq (.post (.ops [⟨some 9, (.mov (.t 0)), none⟩, ⟨some 10, (.bin (.shr .u64) (.t 9) (.c (D.i 16))), none⟩, ⟨some 0, (.mov (.t 10)), none⟩] false) (.keep [0, 2] [])) (.post (.ops [⟨some 11, (.mov (.t 2)), none⟩, ⟨some 12, (.bin (.add .i64) (.t 11) (.c (D.i 16))), none⟩, ⟨some 2, (.mov (.t 12)), none⟩] false) (.keep [0, 2] [])))) (.pre (.keep [0, 2] []) .skip)))
def vc86_19 : VC := (.seq (.post (.ops [⟨some 13, (.mov (.t 0)), none⟩, ⟨some 14, (.bin .geI (.t 13) (.c (D.i 256))), none⟩] false) (.keep [0, 2, 14] [])) (.cond (.t 14) (.pre (.keep [0, 2] []) (.seq (.post (.ops [⟨some 15, (.mov (.t 0)), none⟩, ⟨some 16, (.bin (.shr .u64) (.t 15) (.c (D.i 8))), none⟩, ⟨some 0, (.mov (.t 16)), none⟩] false) (.keep [0, 2] [])) (.post (.ops [⟨some 17, (.mov (.t 2)), none⟩, ⟨some 18, (.bin (.add .i64) (.t 17) (.c (D.i 8))), none⟩, ⟨some 2, (.mov (.t 18)), none⟩] false) (.keep [0, 2] [])))) (.pre (.keep [0, 2] []) .skip)))
def vc86_26 : VC := (.seq (.post (.ops [⟨some 19, (.mov (.t 2)), none⟩, ⟨some 20, (.mov (.t 0)), none⟩, ⟨some 21, (.un (.conv .u8) (.t 20)), none⟩, ⟨some 22, (.ixS (.c (D.s [0, 1, 2, 2, 3, 3, 3, 3, 4, 4, 4, 4, 4, 4, 4, 4, 5, 5, 5, 5, 5, 5, 5, 5, 5, 5, 5, 5, 5, 5, 5, 5, 6, 6, 6, 6, 6, 6, 6, 6, 6, 6, 6, 6, 6, 6, 6, 6, 6, 6, 6, 6, 6, 6, 6, 6, 6, 6, 6, 6, 6, 6, 6, 6, 7, 7, 7, 7, 7, 7, 7, 7, 7, 7, 7, 7, 7, 7, 7, 7, 7, 7, 7, 7, 7, 7, 7, 7, 7, 7, 7, 7, 7, 7, 7, 7, 7, 7, 7, 7, 7, 7, 7, 7, 7, 7, 7, 7, 7, 7, 7, 7, 7, 7, 7, 7, 7, 7, 7, 7, 7, 7, 7, 7, 7, 7, 7, 7, 8, 8, 8, 8, 8, 8, 8, 8, 8, 8, 8, 8, 8, 8, 8, 8, 8, 8, 8, 8, 8, 8, 8, 8, 8, 8, 8, 8, 8, 8, 8, 8, 8, 8, 8, 8, 8, 8, 8, 8, 8, 8, 8, 8, 8, 8, 8, 8, 8, 8, 8, 8, 8, 8, 8, 8, 8, 8, 8, 8, 8, 8, 8, 8, 8, 8, 8, 8, 8, 8, 8, 8, 8, 8, 8, 8, 8, 8, 8, 8, 8, 8, 8, 8, 8, 8, 8, 8, 8, 8, 8, 8, 8, 8, 8, 8, 8, 8, 8, 8, 8, 8, 8, 8, 8, 8, 8, 8, 8, 8, 8, 8, 8, 8, 8, 8, 8, 8, 8, 8, 8, 8, 8, 8, 8, 8, 8, 8])) (.t 21)), none⟩, ⟨some 23, (.un (.conv .i64) (.t 22)), none⟩, ⟨some 24, (.bin (.add .i64) (.t 19) (.t 23)), none⟩, ⟨some 2, (.mov (.t 24)), none⟩] false) (.keep [2] [])) .ret)
def vc86_18 : VC := .seq vc86_19 vc86_26
def vc86_10 : VC := .seq vc86_11 vc86_18
def vc86_2 : VC := .seq vc86_3 vc86_10
def vc86_0 : VC := .seq vc86_1 vc86_2
def vc87_0 : VC := (.seq (.post (.ops [⟨some 2, (.mov (.c (D.b false))), none⟩] false) (.keep [0] [])) (.seq (.post (.ops [⟨some 3, (.mov (.t 0)), none⟩, ⟨some 4, (.mov (.t 0)), none⟩, ⟨some 5, (.bin .neI (.t 3) (.t 4)), none⟩, ⟨some 2, (.mov (.t 5)), none⟩] false) (.keep [2] [])) .ret))
def vc88_0 : VC := (.seq (.post (.ops [⟨some 2, (.mov (.c (D.b false))), none⟩] false) (.keep [0] [])) (.seq (.post (.ops [⟨some 3, (.mov (.t 0)), none⟩, ⟨some 4, (.mov (.t 0)), none⟩, ⟨some 5, (.bin .fne (.t 3) (.t 4)), none⟩, ⟨some 2, (.mov (.t 5)), none⟩] false) (.keep [2] [])) .ret))
def vc89_0 : VC := (.seq (.post (.ops [⟨some 4, (.mov (.c (D.i 0))), none⟩] false) (.keep [0, 1] [])) (.seq (.post (.ops [⟨some 5, (.mov (.t 0)), none⟩, ⟨some 6, (.mov (.t 1)), none⟩, ⟨some 7, (.bin .scmp (.t 5) (.t 6)), none⟩, ⟨some 4, (.mov (.t 7)), none⟩] false) (.keep [4] [])) .ret))
def vc90_0 : VC := (.seq (.post (.ops [⟨some 2, (.mov (.c (D.b false))), none⟩] false) (.keep [0] [])) (.seq (.post (.ops [⟨some 3, (.mov (.t 0)), none⟩, ⟨some 4, (.mov (.t 0)), none⟩, ⟨some 5, (.bin .neI (.t 3) (.t 4)), none⟩, ⟨some 2, (.mov (.t 5)), none⟩] false) (.keep [2] [])) .ret))
def vc91_0 : VC := (.seq (.post (.ops [⟨some 0, (.mov (.c (D.f 0))), none⟩] false) (.keep [] [])) (.seq (.post (.ops [⟨some 1, (.un .fofbits (.c (D.i 9221120237041090561))), none⟩, ⟨some 0, (.mov (.t 1)), none⟩] false) (.keep [0] [])) .ret))
def vc92_0 : VC := (.seq (.post (.ops [⟨some 2, .alA, none⟩] false) (.keep [0, 2] [])) (.seq (.seq (.post (.ops [⟨some 3, (.mov (.t 0)), none⟩, ⟨some 4, (.bin .eqI (.t 3) (.c (D.i 1))), none⟩] false) (.keep [0, 2, 4] [])) (.cond (.t 4) (.pre (.keep [2] []) (.seq (.post (.ops [⟨some 5, (.build (D.ag [(D.i 0), (D.i 0), (D.f 0), (D.s [])]) []), none⟩, ⟨none, (.ini 2 (.t 5)), none⟩] false) (.keep [2] [])) .ret)) (.pre (.keep [0, 2] []) .skip))) (.seq (.post (.ops [⟨some 6, (.mov (.t 0)), none⟩, ⟨some 7, (.bin .eqI (.t 6) (.c (D.i 2))), none⟩, ⟨some 8, (.call 63 [(.t 7)] []), none⟩, ⟨none, (.ini 2 (.t 8)), none⟩] false) (.keep [2] [])) .ret)))
def vc93_0 : VC := (.seq (.post (.ops [⟨some 1, (.box (.t 0)), none⟩, ⟨some 2, (.mov (.c (D.i 0))), none⟩] false) (.keep [1] [])) (.seq (.seq (.post (.ops [⟨some 3, (.fld (.t 1) 0), none⟩, ⟨some 4, (.ldF (.t 3)), none⟩, ⟨some 5, (.bin .neI (.t 4) (.c (D.i 4))), none⟩] false) (.keep [1, 5] [])) (.cond (.t 5) (.pre (.keep [] []) (.seq (.post (.ops [⟨some 2, (.mov (.c (D.i 1))), none⟩] false) (.keep [2] [])) .ret)) (.pre (.keep [1] []) .skip))) (.seq (.seq (.post (.ops [⟨some 6, (.fld (.t 1) 1), none⟩, ⟨some 7, (.ldF (.t 6)), none⟩, ⟨some 8, (.bin .eqI (.t 7) (.c (D.i 0))), none⟩] false) (.keep [8] [])) (.cond (.t 8) (.pre (.keep [] []) (.seq (.post (.ops [⟨some 2, (.mov (.c (D.i 0))), none⟩] false) (.keep [2] [])) .ret)) (.pre (.keep [] []) .skip))) (.seq (.post (.ops [⟨some 2, (.mov (.c (D.i 2))), none⟩] false) (.keep [2] [])) .ret))))
def vc94_0 : VC := (.seq (.post (.ops [⟨some 4, (.mov (.c (D.i 0))), none⟩, ⟨some 5, (.mov (.c (D.b false))), none⟩] false) (.keep [0, 1] [])) (.seq (.post (.ops [⟨some 8, (.mov (.t 0)), none⟩, ⟨some 9, (.call 103 [(.t 8)] []), none⟩, ⟨some 10, (.mov (.t 1)), none⟩, ⟨some 11, (.call 103 [(.t 10)] []), none⟩, ⟨some 6, (.mov (.t 9)), none⟩, ⟨some 7, (.mov (.t 11)), none⟩] false) (.keep [0, 1, 6, 7] [])) (.seq (.block 0 (.seq (.post (.ops [⟨some 13, (.mov (.t 0)), none⟩, ⟨some 14, (.bin .ltI (.t 13) (.c (D.i 0))), none⟩, ⟨some 15, (.mov (.t 1)), none⟩, ⟨some 16, (.bin .ltI (.t 15) (.c (D.i 0))), none⟩, ⟨some 17, (.bin .eqB (.t 14) (.t 16)), none⟩, ⟨some 18, (.mov (.t 17)), none⟩, ⟨some 19, (.mov (.t 6)), some (18, true)⟩, ⟨some 20, (.mov (.t 7)), some (18, true)⟩, ⟨some 21, (.bin (.sub .u64) (.c (D.i 9223372036854775808)) (.t 20)), some (18, true)⟩, ⟨some 22, (.bin .gtI (.t 19) (.t 21)), some (18, true)⟩, ⟨some 23, (.pick (.t 18) (.t 22) (.c (D.b false))), none⟩, ⟨some 12, (.mov (.t 23)), none⟩] false) (.keep [0, 1, 6, 7, 12] [])) (.cond (.t 12) (.pre (.keep [] []) (.seq (.post (.ops [⟨some 4, (.mov (.c (D.i 0))), none⟩, ⟨some 5, (.mov (.c (D.b false))), none⟩] false) (.keep [4, 5] [])) .ret)) (.pre (.keep [0, 1, 6, 7] []) (.seq (.post (.ops [⟨some 25, (.mov (.t 0)), none⟩, ⟨some 26, (.bin .ltI (.t 25) (.c (D.i 0))), none⟩, ⟨some 27, (.mov (.t 1)), none⟩, ⟨some 28, (.bin .ltI (.t 27) (.c (D.i 0))), none⟩, ⟨some 29, (.bin .eqB (.t 26) (.t 28)), none⟩, ⟨some 24, (.mov (.t 29)), none⟩] false) (.keep [0, 1, 6, 7, 24] [])) (.cond (.t 24) (.pre (.keep [0, 6, 7] []) (.seq (.post (.ops [⟨some 30, (.mov (.t 0)), none⟩, ⟨some 31, (.bin .ltI (.t 30) (.c (D.i 0))), none⟩, ⟨some 32, (.mov (.t 6)), none⟩, ⟨some 33, (.mov (.t 7)), none⟩, ⟨some 34, (.bin (.add .u64) (.t 32) (.t 33)), none⟩, ⟨some 35, (.call 104 [(.t 31), (.t 34)] []), none⟩, ⟨some 36, (.ext (.t 35) 0), none⟩, ⟨some 37, (.ext (.t 35) 1), none⟩, ⟨some 4, (.mov (.t 36)), none⟩, ⟨some 5, (.mov (.t 37)), none⟩] false) (.keep [4, 5] [])) .ret)) (.pre (.keep [0, 1, 6, 7] []) (.seq (.post (.ops [⟨some 39, (.mov (.t 6)), none⟩, ⟨some 40, (.mov (.t 7)), none⟩, ⟨some 41, (.bin .geI (.t 39) (.t 40)), none⟩, ⟨some 38, (.mov (.t 41)), none⟩] false) (.keep [0, 1, 6, 7, 38] [])) (.cond (.t 38) (.pre (.keep [0, 6, 7] []) (.seq (.post (.ops [⟨some 42, (.mov (.t 0)), none⟩, ⟨some 43, (.bin .ltI (.t 42) (.c (D.i 0))), none⟩, ⟨some 44, (.mov (.t 6)), none⟩, ⟨some 45, (.mov (.t 7)), none⟩, ⟨some 46, (.bin (.sub .u64) (.t 44) (.t 45)), none⟩, ⟨some 47, (.call 104 [(.t 43), (.t 46)] []), none⟩, ⟨some 48, (.ext (.t 47) 0), none⟩, ⟨some 49, (.ext (.t 47) 1), none⟩, ⟨some 4, (.mov (.t 48)), none⟩, ⟨some 5, (.mov (.t 49)), none⟩] false) (.keep [4, 5] [])) .ret)) (.pre (.keep [1, 6, 7] []) .skip)))))))))) (.seq (.post (.ops [⟨some 50, (.mov (.t 1)), none⟩, ⟨some 51, (.bin .ltI (.t 50) (.c (D.i 0))), none⟩, ⟨some 52, (.mov (.t 7)), none⟩, ⟨some 53, (.mov (.t 6)), none⟩, ⟨some 54, (.bin (.sub .u64) (.t 52) (.t 53)), none⟩, ⟨some 55, (.call 104 [(.t 51), (.t 54)] []), none⟩, ⟨some 56, (.ext (.t 55) 0), none⟩, ⟨some 57, (.ext (.t 55) 1), none⟩, ⟨some 4, (.mov (.t 56)), none⟩, ⟨some 5, (.mov (.t 57)), none⟩] false) (.keep [4, 5] [])) .ret))))
def vc95_1 : VC := .post (.ops [⟨some 4, (.mov (.c (D.i 0))), none⟩,
  ⟨some 5, (.mov (.c (D.b false))), none⟩] false) (.keep [0, 1] [])
def vc95_3 : VC := .post (.ops [⟨some 9, (.mov (.t 0)), none⟩,
  ⟨some 10, (.call 103 [(.t 9)] []), none⟩,
  ⟨some 11, (.mov (.t 1)), none⟩,
  ⟨some 12, (.call 103 [(.t 11)] []), none⟩,
  ⟨some 6, (.mov (.t 10)), none⟩,
  ⟨some 7, (.mov (.t 12)), none⟩,
  ⟨some 8, (.mov (.c (D.i 0))), none⟩] false) (.keep [0, 1, 6, 7, 8] [])
def vc95_8 : VC := (.seq (.post (.ops [⟨some 13, (.mov (.t 7)), none⟩, ⟨some 14, (.bin .gtI (.t 13) (.c (D.i 0))), none⟩] false) (.keep [0, 1, 6, 7, 8, 14] [])) (.cond (.t 14) (.pre (.keep [0, 1, 6, 7, 8] []) .skip) (.pre (.keep [0, 1, 8] []) (.exit 0))))
def vc95_15 : VC := (.seq (.post (.ops [⟨some 15, (.mov (.t 7)), none⟩, ⟨some 16, (.bin (.rem .u64) (.t 15) (.c (D.i 2))), none⟩, ⟨some 17, (.bin .eqI (.t 16) (.c (D.i 1))), none⟩] false) (.keep [0, 1, 6, 7, 8, 17] [])) (.cond (.t 17) (.pre (.keep [0, 1, 6, 7, 8] []) (.post (.ops [⟨some 18, (.mov (.t 8)), none⟩, ⟨some 19, (.mov (.t 6)), none⟩, ⟨some 20, (.bin (.add .u64) (.t 18) (.t 19)), none⟩, ⟨some 8, (.mov (.t 20)), none⟩] false) (.keep [0, 1, 6, 7, 8] []))) (.pre (.keep [0, 1, 6, 7, 8] []) .skip)))
def vc95_20 : VC := (.seq (.seq (.post (.ops [⟨some 21, (.mov (.t 8)), none⟩, ⟨some 22, (.bin .gtI (.t 21) (.c (D.i 9223372036854775808))), none⟩, ⟨some 23, (.mov (.t 22)), none⟩, ⟨some 24, (.mov (.t 7)), some (23, false)⟩, ⟨some 25, (.bin .gtI (.t 24) (.c (D.i 1))), some (23, false)⟩, ⟨some 26, (.mov (.t 25)), some (23, false)⟩, ⟨some 27, (.mov (.t 6)), some (26, true)⟩, ⟨some 28, (.bin .gtI (.t 27) (.c (D.i 4611686018427387904))), some (26, true)⟩, ⟨some 29, (.pick (.t 26) (.t 28) (.c (D.b false))), some (23, false)⟩, ⟨some 30, (.pick (.t 23) (.c (D.b true)) (.t 29)), none⟩] false) (.keep [0, 1, 6, 7, 8, 30] [])) (.cond (.t 30) (.pre (.keep [] []) (.seq (.post (.ops [⟨some 4, (.mov (.c (D.i 0))), none⟩, ⟨some 5, (.mov (.c (D.b false))), none⟩] false) (.keep [4, 5] [])) .ret)) (.pre (.keep [0, 1, 6, 7, 8] []) .skip))) (.post (.ops [⟨some 31, (.mov (.t 6)), none⟩, ⟨some 32, (.bin (.mul .u64) (.t 31) (.c (D.i 2))), none⟩, ⟨some 33, (.mov (.t 7)), none⟩, ⟨some 34, (.bin (.quo .u64) (.t 33) (.c (D.i 2))), none⟩, ⟨some 6, (.mov (.t 32)), none⟩, ⟨some 7, (.mov (.t 34)), none⟩] false) (.keep [0, 1, 6, 7, 8] [])))
def vc95_14 : VC := .seq vc95_15 vc95_20
def vc95_13 : VC := .block 1 vc95_14
def vc95_7 : VC := .seq vc95_8 vc95_13
def vc95_6 : VC := .loop vc95_7
def vc95_5 : VC := .block 0 vc95_6
def vc95_29 : VC := (.seq (.post (.ops [⟨some 35, (.mov (.t 0)), none⟩, ⟨some 36, (.bin .ltI (.t 35) (.c (D.i 0))), none⟩, ⟨some 37, (.mov (.t 1)), none⟩, ⟨some 38, (.bin .ltI (.t 37) (.c (D.i 0))), none⟩, ⟨some 39, (.bin .neB (.t 36) (.t 38)), none⟩, ⟨some 40, (.mov (.t 8)), none⟩, ⟨some 41, (.call 104 [(.t 39), (.t 40)] []), none⟩, ⟨some 42, (.ext (.t 41) 0), none⟩, ⟨some 43, (.ext (.t 41) 1), none⟩, ⟨some 4, (.mov (.t 42)), none⟩, ⟨some 5, (.mov (.t 43)), none⟩] false) (.keep [4, 5] [])) .ret)
def vc95_4 : VC := .seq vc95_5 vc95_29
def vc95_2 : VC := .seq vc95_3 vc95_4
def vc95_0 : VC := .seq vc95_1 vc95_2
def vc103_0 : VC := (.seq (.post (.ops [⟨some 2, (.mov (.c (D.i 0))), none⟩] false) (.keep [0] [])) (.seq (.seq (.post (.ops [⟨some 3, (.mov (.t 0)), none⟩, ⟨some 4, (.bin .ltI (.t 3) (.c (D.i 0))), none⟩] false) (.keep [0, 4] [])) (.cond (.t 4) (.pre (.keep [0] []) (.seq (.post (.ops [⟨some 5, (.mov (.t 0)), none⟩, ⟨some 6, (.bin (.add .i64) (.t 5) (.c (D.i 1))), none⟩, ⟨some 7, (.un (.neg .i64) (.t 6)), none⟩, ⟨some 8, (.un (.conv .u64) (.t 7)), none⟩, ⟨some 9, (.bin (.add .u64) (.t 8) (.c (D.i 1))), none⟩, ⟨some 2, (.mov (.t 9)), none⟩] false) (.keep [2] [])) .ret)) (.pre (.keep [0] []) .skip))) (.seq (.post (.ops [⟨some 10, (.mov (.t 0)), none⟩, ⟨some 11, (.un (.conv .u64) (.t 10)), none⟩, ⟨some 2, (.mov (.t 11)), none⟩] false) (.keep [2] [])) .ret)))
def vc104_0 : VC := (.seq (.post (.ops [⟨some 4, (.mov (.c (D.i 0))), none⟩, ⟨some 5, (.mov (.c (D.b false))), none⟩] false) (.keep [0, 1] [])) (.seq (.seq (.post (.ops [⟨some 6, (.mov (.t 0)), none⟩, ⟨some 7, (.mov (.t 6)), none⟩, ⟨some 8, (.mov (.t 1)), some (7, true)⟩, ⟨some 9, (.bin .gtI (.t 8) (.c (D.i 0))), some (7, true)⟩, ⟨some 10, (.pick (.t 7) (.t 9) (.c (D.b false))), none⟩] false) (.keep [1, 10] [])) (.cond (.t 10) (.pre (.keep [1] []) (.seq (.post (.ops [⟨some 11, (.mov (.t 1)), none⟩, ⟨some 12, (.bin (.sub .u64) (.t 11) (.c (D.i 1))), none⟩, ⟨some 13, (.un (.conv .i64) (.t 12)), none⟩, ⟨some 14, (.un (.neg .i64) (.t 13)), none⟩, ⟨some 15, (.bin (.sub .i64) (.t 14) (.c (D.i 1))), none⟩, ⟨some 16, (.mov (.t 1)), none⟩, ⟨some 17, (.bin .leI (.t 16) (.c (D.i 9223372036854775808))), none⟩, ⟨some 4, (.mov (.t 15)), none⟩, ⟨some 5, (.mov (.t 17)), none⟩] false) (.keep [4, 5] [])) .ret)) (.pre (.keep [1] []) .skip))) (.seq (.post (.ops [⟨some 18, (.mov (.t 1)), none⟩, ⟨some 19, (.un (.conv .i64) (.t 18)), none⟩, ⟨some 20, (.mov (.t 1)), none⟩, ⟨some 21, (.bin .ltI (.t 20) (.c (D.i 9223372036854775808))), none⟩, ⟨some 4, (.mov (.t 19)), none⟩, ⟨some 5, (.mov (.t 21)), none⟩] false) (.keep [4, 5] [])) .ret)))
end Go.Vam.C15
