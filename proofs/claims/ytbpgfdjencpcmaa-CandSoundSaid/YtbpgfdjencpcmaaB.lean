/- The functions of chapter 20 as shadow code; each passes the checker. No conditions. -/
import Derived.Test.YtbpgfdjencpcmaaVAD
import Derived.KernelRfl
import Derived.Test.YtbpgfdjencpcmaaChecked
set_option linter.unusedVariables false
set_option maxRecDepth 100000
namespace Go.Vam.C20
open Go.Proofs
def vc3_0 : VC := (.seq (.post (.ops [⟨some 1, (.box (.t 0)), none⟩, ⟨some 2, (.mov (.c (D.b false))), none⟩] false) (.keep [1] [])) (.seq (.seq (.post (.ops [⟨some 3, (.call 7 [] []), none⟩, ⟨some 4, (.un .not (.t 3)), none⟩, ⟨some 5, (.mov (.t 4)), none⟩, ⟨some 6, (.ldF (.t 1)), some (5, false)⟩, ⟨some 7, (.call 8 [(.t 6)] []), some (5, false)⟩, ⟨some 8, (.un .not (.t 7)), some (5, false)⟩, ⟨some 9, (.pick (.t 5) (.c (D.b true)) (.t 8)), none⟩] false) (.keep [1, 9] [])) (.cond (.t 9) (.pre (.keep [] []) (.seq (.post (.ops [⟨some 10, (.call 7 [] []), none⟩, ⟨some 2, (.mov (.t 10)), none⟩] false) (.keep [2] [])) .ret)) (.pre (.keep [1] []) .skip))) (.seq (.post (.ops [⟨some 11, (.ldF (.t 1)), none⟩, ⟨some 12, (.call 10 [(.t 11)] []), none⟩, ⟨some 13, (.ldF (.t 1)), none⟩, ⟨some 14, (.call 11 [(.t 13)] []), none⟩, ⟨some 15, (.call 9 [(.t 12), (.t 14)] []), none⟩, ⟨some 2, (.mov (.t 15)), none⟩] true) (.keep [2] [])) .ret)))
def vc4_1 : VC := .post (.ops [⟨some 4, (.mov (.c (D.b false))), none⟩] false) (.keep [0, 1] [])
def vc4_3 : VC := (.seq (.post (.ops [⟨some 7, (.call 7 [] []), none⟩, ⟨some 8, (.un .not (.t 7)), none⟩, ⟨some 9, (.mov (.t 8)), none⟩, ⟨some 10, (.mov (.t 0)), some (9, false)⟩, ⟨some 11, (.len (.t 10)), some (9, false)⟩, ⟨some 12, (.bin .gtI (.t 11) (.c (D.i 8))), some (9, false)⟩, ⟨some 13, (.pick (.t 9) (.c (D.b true)) (.t 12)), none⟩] false) (.keep [0, 1, 13] [])) (.cond (.t 13) (.pre (.keep [] []) (.seq (.post (.ops [⟨some 14, (.call 7 [] []), none⟩, ⟨some 4, (.mov (.t 14)), none⟩] false) (.keep [4] [])) .ret)) (.pre (.keep [0, 1] []) .skip)))
def vc4_12 : VC := .post (.ops [⟨some 15, (.mov (.t 0)), none⟩,
  ⟨some 16, (.len (.t 15)), none⟩,
  ⟨some 17, (.mov (.c (D.i 0))), none⟩] false) (.keep [0, 1, 15, 16, 17] [])
def vc4_15 : VC := (.seq (.post (.ops [⟨some 18, (.bin .ltI (.t 17) (.t 16)), none⟩] false) (.keep [0, 1, 15, 16, 17, 18] [])) (.seq (.cond (.t 18) (.pre (.keep [0, 1, 15, 16, 17] []) .skip) (.pre (.keep [0, 1] []) (.exit 0))) (.seq (.block 1 (.seq (.post (.ops [⟨some 19, (.ixa (.t 15) (.t 17)), none⟩, ⟨some 20, (.ldF (.t 19)), none⟩, ⟨some 6, .alA, none⟩, ⟨none, (.ini 6 (.t 20)), none⟩] false) (.keep [0, 1, 6, 15, 16, 17] [])) (.seq (.post (.ops [⟨some 21, (.ldF (.t 6)), none⟩, ⟨some 22, (.call 8 [(.t 21)] []), none⟩, ⟨some 23, (.un .not (.t 22)), none⟩] false) (.keep [0, 1, 15, 16, 17, 23] [])) (.cond (.t 23) (.pre (.keep [] []) (.seq (.post (.ops [⟨some 4, (.mov (.c (D.b true))), none⟩] false) (.keep [4] [])) .ret)) (.pre (.keep [0, 1, 15, 16, 17] []) .skip))))) (.post (.ops [⟨some 24, (.bin (.add .i64) (.t 17) (.c (D.i 1))), none⟩, ⟨some 17, (.mov (.t 24)), none⟩] false) (.keep [0, 1, 15, 16, 17] [])))))
def vc4_14 : VC := .loop vc4_15
def vc4_13 : VC := .block 0 vc4_14
def vc4_11 : VC := .seq vc4_12 vc4_13
def vc4_33 : VC := (.seq (.post (.ops [⟨some 25, (.mov (.t 0)), none⟩, ⟨some 26, (.mov (.t 1)), none⟩, ⟨some 27, (.call 12 [(.t 25), (.t 26)] []), none⟩, ⟨some 28, (.mov (.t 0)), none⟩, ⟨some 29, (.mov (.t 1)), none⟩, ⟨some 30, (.call 13 [(.t 28), (.t 29)] []), none⟩, ⟨some 31, (.call 9 [(.t 27), (.t 30)] []), none⟩, ⟨some 4, (.mov (.t 31)), none⟩] false) (.keep [4] [])) .ret)
def vc4_10 : VC := .seq vc4_11 vc4_33
def vc4_2 : VC := .seq vc4_3 vc4_10
def vc4_0 : VC := .seq vc4_1 vc4_2
def vc5_1 : VC := .post (.ops [⟨some 4, (.mov (.c (D.b false))), none⟩] false) (.keep [0, 1] [])
def vc5_3 : VC := (.seq (.post (.ops [⟨some 16, (.call 7 [] []), none⟩, ⟨some 17, (.un .not (.t 16)), none⟩, ⟨some 18, (.mov (.t 17)), none⟩, ⟨some 19, (.mov (.t 0)), some (18, false)⟩, ⟨some 20, (.len (.t 19)), some (18, false)⟩, ⟨some 21, (.bin .gtI (.t 20) (.c (D.i 8))), some (18, false)⟩, ⟨some 22, (.pick (.t 18) (.c (D.b true)) (.t 21)), none⟩] false) (.keep [0, 1, 22] [])) (.cond (.t 22) (.pre (.keep [] []) (.seq (.post (.ops [⟨some 23, (.call 7 [] []), none⟩, ⟨some 4, (.mov (.t 23)), none⟩] false) (.keep [4] [])) .ret)) (.pre (.keep [0, 1] []) .skip)))
def vc5_12 : VC := .post (.ops [⟨some 24, (.mov (.t 0)), none⟩,
  ⟨some 25, (.len (.t 24)), none⟩,
  ⟨some 26, (.mov (.c (D.i 0))), none⟩] false) (.keep [0, 1, 24, 25, 26] [])
def vc5_15 : VC := (.seq (.post (.ops [⟨some 27, (.bin .ltI (.t 26) (.t 25)), none⟩] false) (.keep [0, 1, 24, 25, 26, 27] [])) (.seq (.cond (.t 27) (.pre (.keep [0, 1, 24, 25, 26] []) .skip) (.pre (.keep [0, 1] []) (.exit 0))) (.seq (.block 1 (.seq (.post (.ops [⟨some 28, (.ixa (.t 24) (.t 26)), none⟩, ⟨some 29, (.ldF (.t 28)), none⟩, ⟨some 6, .alA, none⟩, ⟨none, (.ini 6 (.t 29)), none⟩] false) (.keep [0, 1, 6, 24, 25, 26] [])) (.seq (.post (.ops [⟨some 30, (.ldF (.t 6)), none⟩, ⟨some 31, (.call 8 [(.t 30)] []), none⟩, ⟨some 32, (.un .not (.t 31)), none⟩] false) (.keep [0, 1, 24, 25, 26, 32] [])) (.cond (.t 32) (.pre (.keep [] []) (.seq (.post (.ops [⟨some 4, (.mov (.c (D.b true))), none⟩] false) (.keep [4] [])) .ret)) (.pre (.keep [0, 1, 24, 25, 26] []) .skip))))) (.post (.ops [⟨some 33, (.bin (.add .i64) (.t 26) (.c (D.i 1))), none⟩, ⟨some 26, (.mov (.t 33)), none⟩] false) (.keep [0, 1, 24, 25, 26] [])))))
def vc5_14 : VC := .loop vc5_15
def vc5_13 : VC := .block 0 vc5_14
def vc5_11 : VC := .seq vc5_12 vc5_13
def vc5_34 : VC := .post (.ops [⟨some 34, (.mov (.t 0)), none⟩,
  ⟨some 35, (.mov (.t 1)), none⟩,
  ⟨some 36, (.call 12 [(.t 34), (.t 35)] []), none⟩,
  ⟨some 7, (.mov (.t 36)), none⟩] false) (.keep [1, 7] [])
def vc5_36 : VC := (.seq (.post (.ops [⟨some 37, (.mov (.t 7)), none⟩, ⟨some 38, (.len (.t 37)), none⟩, ⟨some 39, (.mov (.t 1)), none⟩, ⟨some 40, (.mm false (.t 39) [(.c (D.i 16))]), none⟩, ⟨some 41, (.mm true (.c (D.i 0)) [(.t 40)]), none⟩, ⟨some 42, (.bin .gtI (.t 38) (.t 41)), none⟩] false) (.keep [7, 42] [])) (.cond (.t 42) (.pre (.keep [] []) (.seq (.post (.ops [⟨some 4, (.mov (.c (D.b false))), none⟩] false) (.keep [4] [])) .ret)) (.pre (.keep [7] []) .skip)))
def vc5_45 : VC := .post (.ops [⟨some 43, (.mov (.t 7)), none⟩,
  ⟨some 44, (.len (.t 43)), none⟩,
  ⟨some 45, (.mov (.c (D.i 0))), none⟩] false) (.keep [7, 43, 44, 45] [])
def vc5_49 : VC := .post (.ops [⟨some 46, (.bin .ltI (.t 45) (.t 44)), none⟩] false) (.keep [7, 43, 44, 45, 46] [])
def vc5_51 : VC := (.cond (.t 46) (.pre (.keep [7, 43, 44, 45] []) .skip) (.pre (.keep [] []) (.exit 2)))
def vc5_57 : VC := .post (.ops [⟨some 47, (.mov (.t 45)), none⟩,
  ⟨some 48, (.ixa (.t 43) (.t 45)), none⟩,
  ⟨some 49, (.ldF (.t 48)), none⟩,
  ⟨some 9, .alA, none⟩,
  ⟨some 8, (.mov (.t 47)), none⟩,
  ⟨none, (.ini 9 (.t 49)), none⟩] false) (.keep [7, 8, 9, 43, 44, 45] [])
def vc5_59 : VC := (.seq (.post (.ops [⟨some 50, (.fld (.t 9) 1), none⟩, ⟨some 51, (.ldF (.t 50)), none⟩, ⟨some 52, (.len (.t 51)), none⟩, ⟨some 53, (.bin .ltI (.t 52) (.c (D.i 1))), none⟩, ⟨some 54, (.mov (.t 53)), none⟩, ⟨some 55, (.fld (.t 9) 1), some (54, false)⟩, ⟨some 56, (.ldF (.t 55)), some (54, false)⟩, ⟨some 57, (.len (.t 56)), some (54, false)⟩, ⟨some 58, (.bin .gtI (.t 57) (.c (D.i 3))), some (54, false)⟩, ⟨some 59, (.pick (.t 54) (.c (D.b true)) (.t 58)), none⟩, ⟨some 60, (.mov (.t 59)), none⟩, ⟨some 61, (.fld (.t 9) 2), some (60, false)⟩, ⟨some 62, (.ldF (.t 61)), some (60, false)⟩, ⟨some 63, (.pick (.t 60) (.c (D.b true)) (.t 62)), none⟩] false) (.keep [7, 8, 9, 43, 44, 45, 63] [])) (.cond (.t 63) (.pre (.keep [] []) (.seq (.post (.ops [⟨some 4, (.mov (.c (D.b false))), none⟩] false) (.keep [4] [])) .ret)) (.pre (.keep [7, 8, 9, 43, 44, 45] []) .skip)))
def vc5_68 : VC := .post (.ops [⟨some 64, (.fld (.t 9) 1), none⟩,
  ⟨some 65, (.ldF (.t 64)), none⟩,
  ⟨some 66, (.len (.t 65)), none⟩,
  ⟨some 67, (.mov (.c (D.i 0))), none⟩] false) (.keep [7, 8, 9, 43, 44, 45, 65, 66, 67] [])
def vc5_72 : VC := .post (.ops [⟨some 68, (.bin .ltI (.t 67) (.t 66)), none⟩] false) (.keep [7, 8, 9, 43, 44, 45, 65, 66, 67, 68] [])
def vc5_74 : VC := (.cond (.t 68) (.pre (.keep [7, 8, 9, 43, 44, 45, 65, 66, 67] []) .skip) (.pre (.keep [7, 8, 9, 43, 44, 45] []) (.exit 4)))
def vc5_80 : VC := .post (.ops [⟨some 69, (.mov (.t 67)), none⟩,
  ⟨some 70, (.ixa (.t 65) (.t 67)), none⟩,
  ⟨some 71, (.ldF (.t 70)), none⟩,
  ⟨some 10, (.mov (.t 69)), none⟩,
  ⟨some 11, (.mov (.t 71)), none⟩] false) (.keep [7, 8, 9, 10, 11, 43, 44, 45, 65, 66, 67] [])
def vc5_82 : VC := .post (.ops [⟨some 72, (.fld (.t 9) 1), none⟩,
  ⟨some 73, (.ldF (.t 72)), none⟩,
  ⟨some 74, (.mov (.t 10)), none⟩,
  ⟨some 75, (.slF (.t 73) none (some (.t 74))), none⟩,
  ⟨some 76, (.len (.t 75)), none⟩,
  ⟨some 77, (.mov (.c (D.i 0))), none⟩] false) (.keep [7, 8, 9, 11, 43, 44, 45, 65, 66, 67, 75, 76, 77] [])
def vc5_85 : VC := (.seq (.post (.ops [⟨some 78, (.bin .ltI (.t 77) (.t 76)), none⟩] false) (.keep [7, 8, 9, 11, 43, 44, 45, 65, 66, 67, 75, 76, 77, 78] [])) (.seq (.cond (.t 78) (.pre (.keep [7, 8, 9, 11, 43, 44, 45, 65, 66, 67, 75, 76, 77] []) .skip) (.pre (.keep [7, 8, 9, 43, 44, 45, 65, 66, 67] []) (.exit 6))) (.seq (.block 7 (.seq (.post (.ops [⟨some 79, (.ixa (.t 75) (.t 77)), none⟩, ⟨some 80, (.ldF (.t 79)), none⟩, ⟨some 13, (.mov (.t 80)), none⟩] false) (.keep [7, 8, 9, 11, 13, 43, 44, 45, 65, 66, 67, 75, 76, 77] [])) (.seq (.post (.ops [⟨some 81, (.mov (.t 13)), none⟩, ⟨some 82, (.mov (.t 11)), none⟩, ⟨some 83, (.bin .eqI (.t 81) (.t 82)), none⟩] false) (.keep [7, 8, 9, 11, 43, 44, 45, 65, 66, 67, 75, 76, 77, 83] [])) (.cond (.t 83) (.pre (.keep [] []) (.seq (.post (.ops [⟨some 4, (.mov (.c (D.b false))), none⟩] false) (.keep [4] [])) .ret)) (.pre (.keep [7, 8, 9, 11, 43, 44, 45, 65, 66, 67, 75, 76, 77] []) .skip))))) (.post (.ops [⟨some 84, (.bin (.add .i64) (.t 77) (.c (D.i 1))), none⟩, ⟨some 77, (.mov (.t 84)), none⟩] false) (.keep [7, 8, 9, 11, 43, 44, 45, 65, 66, 67, 75, 76, 77] [])))))
def vc5_84 : VC := .loop vc5_85
def vc5_83 : VC := .block 6 vc5_84
def vc5_81 : VC := .seq vc5_82 vc5_83
def vc5_79 : VC := .seq vc5_80 vc5_81
def vc5_78 : VC := .block 5 vc5_79
def vc5_103 : VC := .post (.ops [⟨some 85, (.bin (.add .i64) (.t 67) (.c (D.i 1))), none⟩,
  ⟨some 67, (.mov (.t 85)), none⟩] false) (.keep [7, 8, 9, 43, 44, 45, 65, 66, 67] [])
def vc5_77 : VC := .seq vc5_78 vc5_103
def vc5_73 : VC := .seq vc5_74 vc5_77
def vc5_71 : VC := .seq vc5_72 vc5_73
def vc5_70 : VC := .loop vc5_71
def vc5_69 : VC := .block 4 vc5_70
def vc5_67 : VC := .seq vc5_68 vc5_69
def vc5_105 : VC := .post (.ops [⟨some 86, (.mov (.t 7)), none⟩,
  ⟨some 87, (.mov (.t 8)), none⟩,
  ⟨some 88, (.slF (.t 86) none (some (.t 87))), none⟩,
  ⟨some 89, (.len (.t 88)), none⟩,
  ⟨some 90, (.mov (.c (D.i 0))), none⟩] false) (.keep [7, 9, 43, 44, 45, 88, 89, 90] [])
def vc5_108 : VC := (.seq (.post (.ops [⟨some 91, (.bin .ltI (.t 90) (.t 89)), none⟩] false) (.keep [7, 9, 43, 44, 45, 88, 89, 90, 91] [])) (.seq (.cond (.t 91) (.pre (.keep [7, 9, 43, 44, 45, 88, 89, 90] []) .skip) (.pre (.keep [7, 43, 44, 45] []) (.exit 8))) (.seq (.block 9 (.seq (.post (.ops [⟨some 92, (.ixa (.t 88) (.t 90)), none⟩, ⟨some 93, (.ldF (.t 92)), none⟩, ⟨some 15, .alA, none⟩, ⟨none, (.ini 15 (.t 93)), none⟩] false) (.keep [7, 9, 15, 43, 44, 45, 88, 89, 90] [])) (.seq (.post (.ops [⟨some 94, (.ldF (.t 15)), none⟩, ⟨some 95, (.ldF (.t 9)), none⟩, ⟨some 96, (.call 14 [(.t 94), (.t 95)] []), none⟩] false) (.keep [7, 9, 43, 44, 45, 88, 89, 90, 96] [])) (.cond (.t 96) (.pre (.keep [] []) (.seq (.post (.ops [⟨some 4, (.mov (.c (D.b false))), none⟩] false) (.keep [4] [])) .ret)) (.pre (.keep [7, 9, 43, 44, 45, 88, 89, 90] []) .skip))))) (.post (.ops [⟨some 97, (.bin (.add .i64) (.t 90) (.c (D.i 1))), none⟩, ⟨some 90, (.mov (.t 97)), none⟩] false) (.keep [7, 9, 43, 44, 45, 88, 89, 90] [])))))
def vc5_107 : VC := .loop vc5_108
def vc5_106 : VC := .block 8 vc5_107
def vc5_104 : VC := .seq vc5_105 vc5_106
def vc5_66 : VC := .seq vc5_67 vc5_104
def vc5_58 : VC := .seq vc5_59 vc5_66
def vc5_56 : VC := .seq vc5_57 vc5_58
def vc5_55 : VC := .block 3 vc5_56
def vc5_126 : VC := .post (.ops [⟨some 98, (.bin (.add .i64) (.t 45) (.c (D.i 1))), none⟩,
  ⟨some 45, (.mov (.t 98)), none⟩] false) (.keep [7, 43, 44, 45] [])
def vc5_54 : VC := .seq vc5_55 vc5_126
def vc5_50 : VC := .seq vc5_51 vc5_54
def vc5_48 : VC := .seq vc5_49 vc5_50
def vc5_47 : VC := .loop vc5_48
def vc5_46 : VC := .block 2 vc5_47
def vc5_44 : VC := .seq vc5_45 vc5_46
def vc5_127 : VC := (.seq (.post (.ops [⟨some 4, (.mov (.c (D.b true))), none⟩] false) (.keep [4] [])) .ret)
def vc5_43 : VC := .seq vc5_44 vc5_127
def vc5_35 : VC := .seq vc5_36 vc5_43
def vc5_33 : VC := .seq vc5_34 vc5_35
def vc5_10 : VC := .seq vc5_11 vc5_33
def vc5_2 : VC := .seq vc5_3 vc5_10
def vc5_0 : VC := .seq vc5_1 vc5_2
def vc6_1 : VC := .post (.ops [⟨some 4, (.mov (.c (D.b false))), none⟩] false) (.keep [0, 1] [])
def vc6_3 : VC := (.seq (.post (.ops [⟨some 14, (.call 7 [] []), none⟩, ⟨some 15, (.un .not (.t 14)), none⟩, ⟨some 16, (.mov (.t 15)), none⟩, ⟨some 17, (.mov (.t 0)), some (16, false)⟩, ⟨some 18, (.len (.t 17)), some (16, false)⟩, ⟨some 19, (.bin .gtI (.t 18) (.c (D.i 8))), some (16, false)⟩, ⟨some 20, (.pick (.t 16) (.c (D.b true)) (.t 19)), none⟩, ⟨some 21, (.mov (.t 20)), none⟩, ⟨some 22, (.mov (.t 0)), some (21, false)⟩, ⟨some 23, (.len (.t 22)), some (21, false)⟩, ⟨some 24, (.bin .eqI (.t 23) (.c (D.i 0))), some (21, false)⟩, ⟨some 25, (.pick (.t 21) (.c (D.b true)) (.t 24)), none⟩] false) (.keep [0, 1, 25] [])) (.cond (.t 25) (.pre (.keep [] []) (.seq (.post (.ops [⟨some 26, (.call 7 [] []), none⟩, ⟨some 4, (.mov (.t 26)), none⟩] false) (.keep [4] [])) .ret)) (.pre (.keep [0, 1] []) .skip)))
def vc6_12 : VC := .post (.ops [⟨some 27, (.mov (.t 0)), none⟩,
  ⟨some 28, (.len (.t 27)), none⟩,
  ⟨some 29, (.mov (.c (D.i 0))), none⟩] false) (.keep [0, 1, 27, 28, 29] [])
def vc6_15 : VC := (.seq (.post (.ops [⟨some 30, (.bin .ltI (.t 29) (.t 28)), none⟩] false) (.keep [0, 1, 27, 28, 29, 30] [])) (.seq (.cond (.t 30) (.pre (.keep [0, 1, 27, 28, 29] []) .skip) (.pre (.keep [0, 1] []) (.exit 0))) (.seq (.block 1 (.seq (.post (.ops [⟨some 31, (.ixa (.t 27) (.t 29)), none⟩, ⟨some 32, (.ldF (.t 31)), none⟩, ⟨some 6, .alA, none⟩, ⟨none, (.ini 6 (.t 32)), none⟩] false) (.keep [0, 1, 6, 27, 28, 29] [])) (.seq (.post (.ops [⟨some 33, (.ldF (.t 6)), none⟩, ⟨some 34, (.call 8 [(.t 33)] []), none⟩, ⟨some 35, (.un .not (.t 34)), none⟩] false) (.keep [0, 1, 27, 28, 29, 35] [])) (.cond (.t 35) (.pre (.keep [] []) (.seq (.post (.ops [⟨some 4, (.mov (.c (D.b true))), none⟩] false) (.keep [4] [])) .ret)) (.pre (.keep [0, 1, 27, 28, 29] []) .skip))))) (.post (.ops [⟨some 36, (.bin (.add .i64) (.t 29) (.c (D.i 1))), none⟩, ⟨some 29, (.mov (.t 36)), none⟩] false) (.keep [0, 1, 27, 28, 29] [])))))
def vc6_14 : VC := .loop vc6_15
def vc6_13 : VC := .block 0 vc6_14
def vc6_11 : VC := .seq vc6_12 vc6_13
def vc6_34 : VC := .post (.ops [⟨some 37, (.mov (.t 0)), none⟩,
  ⟨some 38, (.ixa (.t 37) (.c (D.i 0))), none⟩,
  ⟨some 39, (.ldF (.t 38)), none⟩,
  ⟨some 40, (.call 10 [(.t 39)] []), none⟩,
  ⟨some 41, (.mov (.t 0)), none⟩,
  ⟨some 42, (.call 12 [(.t 41), (.c (D.i 16))] []), none⟩,
  ⟨some 7, (.mov (.t 40)), none⟩,
  ⟨some 8, (.mov (.t 42)), none⟩] false) (.keep [0, 1, 7, 8] [])
def vc6_37 : VC := .post (.ops [⟨some 43, (.mov (.t 7)), none⟩,
  ⟨some 44, (.len (.t 43)), none⟩,
  ⟨some 45, (.mov (.c (D.i 0))), none⟩] false) (.keep [0, 1, 7, 8, 43, 44, 45] [])
def vc6_40 : VC := (.seq (.post (.ops [⟨some 46, (.bin .ltI (.t 45) (.t 44)), none⟩] false) (.keep [0, 1, 7, 8, 43, 44, 45, 46] [])) (.seq (.cond (.t 46) (.pre (.keep [0, 1, 7, 8, 43, 44, 45] []) .skip) (.pre (.keep [0, 1, 7, 8] []) (.exit 2))) (.seq (.block 3 (.seq (.post (.ops [⟨some 47, (.mov (.t 45)), none⟩, ⟨some 48, (.ixa (.t 43) (.t 45)), none⟩, ⟨some 49, (.ldF (.t 48)), none⟩, ⟨some 10, .alA, none⟩, ⟨some 9, (.mov (.t 47)), none⟩, ⟨none, (.ini 10 (.t 49)), none⟩] false) (.keep [0, 1, 7, 8, 9, 10, 43, 44, 45] [])) (.seq (.post (.ops [⟨some 50, (.mov (.t 9)), none⟩, ⟨some 51, (.mov (.t 8)), none⟩, ⟨some 52, (.len (.t 51)), none⟩, ⟨some 53, (.bin .ltI (.t 50) (.t 52)), none⟩, ⟨some 54, (.mov (.t 53)), none⟩, ⟨some 55, (.mov (.t 8)), some (54, true)⟩, ⟨some 56, (.mov (.t 9)), some (54, true)⟩, ⟨some 57, (.ixa (.t 55) (.t 56)), some (54, true)⟩, ⟨some 58, (.ldF (.t 57)), some (54, true)⟩, ⟨some 59, (.ldF (.t 10)), some (54, true)⟩, ⟨some 60, (.call 14 [(.t 58), (.t 59)] []), some (54, true)⟩, ⟨some 61, (.un .not (.t 60)), some (54, true)⟩, ⟨some 62, (.pick (.t 54) (.t 61) (.c (D.b false))), none⟩] true) (.keep [0, 1, 7, 8, 43, 44, 45, 62] [])) (.cond (.t 62) (.pre (.keep [] []) (.seq (.post (.ops [⟨some 4, (.mov (.c (D.b false))), none⟩] false) (.keep [4] [])) .ret)) (.pre (.keep [0, 1, 7, 8, 43, 44, 45] []) .skip))))) (.post (.ops [⟨some 63, (.bin (.add .i64) (.t 45) (.c (D.i 1))), none⟩, ⟨some 45, (.mov (.t 63)), none⟩] false) (.keep [0, 1, 7, 8, 43, 44, 45] [])))))
def vc6_39 : VC := .loop vc6_40
def vc6_38 : VC := .block 2 vc6_39
def vc6_36 : VC := .seq vc6_37 vc6_38
def vc6_59 : VC := .post (.ops [⟨some 64, (.mov (.t 0)), none⟩,
  ⟨some 65, (.mov (.t 1)), none⟩,
  ⟨some 66, (.mov (.t 8)), none⟩,
  ⟨some 67, (.len (.t 66)), none⟩,
  ⟨some 68, (.mm false (.t 65) [(.t 67)]), none⟩,
  ⟨some 69, (.mm true (.c (D.i 0)) [(.t 68)]), none⟩,
  ⟨some 70, (.call 12 [(.t 64), (.t 69)] []), none⟩,
  ⟨some 11, (.mov (.t 70)), none⟩] false) (.keep [7, 8, 11] [])
def vc6_62 : VC := .post (.ops [⟨some 71, (.mov (.t 11)), none⟩,
  ⟨some 72, (.len (.t 71)), none⟩,
  ⟨some 73, (.mov (.c (D.i 0))), none⟩] false) (.keep [7, 8, 11, 71, 72, 73] [])
def vc6_65 : VC := (.seq (.post (.ops [⟨some 74, (.bin .ltI (.t 73) (.t 72)), none⟩] false) (.keep [7, 8, 11, 71, 72, 73, 74] [])) (.seq (.cond (.t 74) (.pre (.keep [7, 8, 11, 71, 72, 73] []) .skip) (.pre (.keep [8, 11] []) (.exit 4))) (.seq (.block 5 (.seq (.post (.ops [⟨some 75, (.mov (.t 73)), none⟩, ⟨some 76, (.ixa (.t 71) (.t 73)), none⟩, ⟨some 77, (.ldF (.t 76)), none⟩, ⟨some 13, .alA, none⟩, ⟨some 12, (.mov (.t 75)), none⟩, ⟨none, (.ini 13 (.t 77)), none⟩] false) (.keep [7, 8, 11, 12, 13, 71, 72, 73] [])) (.seq (.post (.ops [⟨some 78, (.mov (.t 12)), none⟩, ⟨some 79, (.mov (.t 7)), none⟩, ⟨some 80, (.len (.t 79)), none⟩, ⟨some 81, (.bin .ltI (.t 78) (.t 80)), none⟩, ⟨some 82, (.mov (.t 81)), none⟩, ⟨some 83, (.mov (.t 7)), some (82, true)⟩, ⟨some 84, (.mov (.t 12)), some (82, true)⟩, ⟨some 85, (.ixa (.t 83) (.t 84)), some (82, true)⟩, ⟨some 86, (.ldF (.t 85)), some (82, true)⟩, ⟨some 87, (.ldF (.t 13)), some (82, true)⟩, ⟨some 88, (.call 14 [(.t 86), (.t 87)] []), some (82, true)⟩, ⟨some 89, (.un .not (.t 88)), some (82, true)⟩, ⟨some 90, (.pick (.t 82) (.t 89) (.c (D.b false))), none⟩] true) (.keep [7, 8, 11, 71, 72, 73, 90] [])) (.cond (.t 90) (.pre (.keep [] []) (.seq (.post (.ops [⟨some 4, (.mov (.c (D.b false))), none⟩] false) (.keep [4] [])) .ret)) (.pre (.keep [7, 8, 11, 71, 72, 73] []) .skip))))) (.post (.ops [⟨some 91, (.bin (.add .i64) (.t 73) (.c (D.i 1))), none⟩, ⟨some 73, (.mov (.t 91)), none⟩] false) (.keep [7, 8, 11, 71, 72, 73] [])))))
def vc6_64 : VC := .loop vc6_65
def vc6_63 : VC := .block 4 vc6_64
def vc6_61 : VC := .seq vc6_62 vc6_63
def vc6_83 : VC := (.seq (.post (.ops [⟨some 92, (.mov (.t 11)), none⟩, ⟨some 93, (.len (.t 92)), none⟩, ⟨some 94, (.mov (.t 8)), none⟩, ⟨some 95, (.len (.t 94)), none⟩, ⟨some 96, (.bin .leI (.t 93) (.t 95)), none⟩, ⟨some 4, (.mov (.t 96)), none⟩] false) (.keep [4] [])) .ret)
def vc6_60 : VC := .seq vc6_61 vc6_83
def vc6_58 : VC := .seq vc6_59 vc6_60
def vc6_35 : VC := .seq vc6_36 vc6_58
def vc6_33 : VC := .seq vc6_34 vc6_35
def vc6_10 : VC := .seq vc6_11 vc6_33
def vc6_2 : VC := .seq vc6_3 vc6_10
def vc6_0 : VC := .seq vc6_1 vc6_2
def vc7_1 : VC := .post (.ops [⟨some 0, (.mov (.c (D.b false))), none⟩] false) (.keep [] [])
def vc7_3 : VC := .post (.ops [⟨some 4, (.build (D.ag [(D.i 0), (D.i 0), (D.f 0), (D.s [])]) [(0, (.c (D.i 1))), (1, (.c (D.i 1)))]), none⟩,
  ⟨some 5, (.build (D.ag [(D.i 0), (D.s []), (D.ag [(D.i 0), (D.i 0), (D.f 0), (D.s [])]), (D.i 0), (D.b false), (D.i 0), (D.sz [])]) [(0, (.c (D.i 1))), (2, (.t 4))]), none⟩,
  ⟨some 1, .alA, none⟩,
  ⟨none, (.ini 1 (.t 5)), none⟩] false) (.keep [1] [])
def vc7_5 : VC := .post (.ops [⟨some 6, (.bsl .f [(D.i 0)] [(0, (.c (D.i 0)))]), none⟩,
  ⟨some 7, (.bsl .f [(D.i 0)] [(0, (.c (D.i 0)))]), none⟩,
  ⟨some 8, (.build (D.ag [(D.i 0), (D.b false)]) [(0, (.c (D.i 1)))]), none⟩,
  ⟨some 9, (.bsl .f [(D.ag [(D.i 0), (D.b false)])] [(0, (.t 8))]), none⟩,
  ⟨some 10, (.call 15 [(.c (D.i 0))] []), none⟩,
  ⟨some 11, (.ldF (.t 1)), none⟩,
  ⟨some 12, (.bsl .f [(D.ag [(D.i 0), (D.s []), (D.ag [(D.i 0), (D.i 0), (D.f 0), (D.s [])]), (D.i 0), (D.b false), (D.i 0), (D.sz [])]), (D.ag [(D.i 0), (D.s []), (D.ag [(D.i 0), (D.i 0), (D.f 0), (D.s [])]), (D.i 0), (D.b false), (D.i 0), (D.sz [])])] [(0, (.t 10)), (1, (.t 11))]), none⟩,
  ⟨some 13, (.build (D.ag [(D.i 0), (D.s []), (D.ag [(D.i 0), (D.i 0), (D.f 0), (D.s [])]), (D.i 0), (D.b false), (D.i 0), (D.sz [])]) [(0, (.c (D.i 7))), (1, (.c (D.s [61]))), (6, (.t 12))]), none⟩,
  ⟨some 14, (.ldF (.t 1)), none⟩,
  ⟨some 15, (.call 15 [(.c (D.i 2))] []), none⟩,
  ⟨some 16, (.bsl .f [(D.ag [(D.i 0), (D.s []), (D.ag [(D.i 0), (D.i 0), (D.f 0), (D.s [])]), (D.i 0), (D.b false), (D.i 0), (D.sz [])]), (D.ag [(D.i 0), (D.s []), (D.ag [(D.i 0), (D.i 0), (D.f 0), (D.s [])]), (D.i 0), (D.b false), (D.i 0), (D.sz [])])] [(0, (.t 14)), (1, (.t 15))]), none⟩,
  ⟨some 17, (.build (D.ag [(D.i 0), (D.s []), (D.ag [(D.i 0), (D.i 0), (D.f 0), (D.s [])]), (D.i 0), (D.b false), (D.i 0), (D.sz [])]) [(0, (.c (D.i 7))), (1, (.c (D.s [60]))), (6, (.t 16))]), none⟩,
  ⟨some 18, (.bsl .f [(D.ag [(D.i 0), (D.s []), (D.ag [(D.i 0), (D.i 0), (D.f 0), (D.s [])]), (D.i 0), (D.b false), (D.i 0), (D.sz [])]), (D.ag [(D.i 0), (D.s []), (D.ag [(D.i 0), (D.i 0), (D.f 0), (D.s [])]), (D.i 0), (D.b false), (D.i 0), (D.sz [])])] [(0, (.t 13)), (1, (.t 17))]), none⟩,
  ⟨some 19, (.build (D.ag [(D.sz []), (D.sz []), (D.i 0), (D.sz []), (D.sz []), (D.b false), (D.sz []), (D.sz []), (D.i 0)]) [(0, (.t 6)), (1, (.t 7)), (2, (.c (D.i 3))), (8, (.c (D.i (-1)))), (7, (.t 9)), (3, (.t 18))]), none⟩,
  ⟨some 2, .alA, none⟩,
  ⟨none, (.ini 2 (.t 19)), none⟩] true) (.keep [2] [])
def vc7_6 : VC := (.seq (.post (.ops [⟨some 20, (.ldF (.t 2)), none⟩, ⟨some 21, (.call 10 [(.t 20)] []), none⟩, ⟨some 3, (.mov (.t 21)), none⟩] false) (.keep [3] [])) (.seq (.post (.ops [⟨some 22, (.mov (.t 3)), none⟩, ⟨some 23, (.len (.t 22)), none⟩, ⟨some 24, (.bin .eqI (.t 23) (.c (D.i 5))), none⟩, ⟨some 25, (.mov (.t 24)), none⟩, ⟨some 26, (.mov (.t 3)), some (25, true)⟩, ⟨some 27, (.ixa (.t 26) (.c (D.i 1))), some (25, true)⟩, ⟨some 28, (.fld (.t 27) 1), some (25, true)⟩, ⟨some 29, (.ldF (.t 28)), some (25, true)⟩, ⟨some 30, (.len (.t 29)), some (25, true)⟩, ⟨some 31, (.bin .eqI (.t 30) (.c (D.i 2))), some (25, true)⟩, ⟨some 32, (.pick (.t 25) (.t 31) (.c (D.b false))), none⟩, ⟨some 33, (.mov (.t 32)), none⟩, ⟨some 34, (.mov (.t 3)), some (33, true)⟩, ⟨some 35, (.ixa (.t 34) (.c (D.i 1))), some (33, true)⟩, ⟨some 36, (.fld (.t 35) 1), some (33, true)⟩, ⟨some 37, (.ldF (.t 36)), some (33, true)⟩, ⟨some 38, (.ixa (.t 37) (.c (D.i 1))), some (33, true)⟩, ⟨some 39, (.ldF (.t 38)), some (33, true)⟩, ⟨some 40, (.bin .eqI (.t 39) (.c (D.i 2))), some (33, true)⟩, ⟨some 41, (.pick (.t 33) (.t 40) (.c (D.b false))), none⟩, ⟨some 42, (.mov (.t 41)), none⟩, ⟨some 43, (.mov (.t 3)), some (42, true)⟩, ⟨some 44, (.ixa (.t 43) (.c (D.i 3))), some (42, true)⟩, ⟨some 45, (.fld (.t 44) 1), some (42, true)⟩, ⟨some 46, (.ldF (.t 45)), some (42, true)⟩, ⟨some 47, (.ixa (.t 46) (.c (D.i 0))), some (42, true)⟩, ⟨some 48, (.ldF (.t 47)), some (42, true)⟩, ⟨some 49, (.bin .eqI (.t 48) (.c (D.i 1))), some (42, true)⟩, ⟨some 50, (.pick (.t 42) (.t 49) (.c (D.b false))), none⟩, ⟨some 0, (.mov (.t 50)), none⟩] false) (.keep [0] [])) .ret))
def vc7_4 : VC := .seq vc7_5 vc7_6
def vc7_2 : VC := .seq vc7_3 vc7_4
def vc7_0 : VC := .seq vc7_1 vc7_2
def vc8_1 : VC := .post (.ops [⟨some 1, (.box (.t 0)), none⟩,
  ⟨some 2, (.mov (.c (D.b false))), none⟩] false) (.keep [1] [])
def vc8_3 : VC := (.seq (.post (.ops [⟨some 5, (.fld (.t 1) 0), none⟩, ⟨some 6, (.ldF (.t 5)), none⟩, ⟨some 7, (.len (.t 6)), none⟩, ⟨some 8, (.bin .gtI (.t 7) (.c (D.i 6))), none⟩, ⟨some 9, (.mov (.t 8)), none⟩, ⟨some 10, (.fld (.t 1) 1), some (9, false)⟩, ⟨some 11, (.ldF (.t 10)), some (9, false)⟩, ⟨some 12, (.len (.t 11)), some (9, false)⟩, ⟨some 13, (.bin .gtI (.t 12) (.c (D.i 6))), some (9, false)⟩, ⟨some 14, (.pick (.t 9) (.c (D.b true)) (.t 13)), none⟩, ⟨some 15, (.mov (.t 14)), none⟩, ⟨some 16, (.fld (.t 1) 3), some (15, false)⟩, ⟨some 17, (.ldF (.t 16)), some (15, false)⟩, ⟨some 18, (.len (.t 17)), some (15, false)⟩, ⟨some 19, (.bin .gtI (.t 18) (.c (D.i 12))), some (15, false)⟩, ⟨some 20, (.pick (.t 15) (.c (D.b true)) (.t 19)), none⟩, ⟨some 21, (.mov (.t 20)), none⟩, ⟨some 22, (.fld (.t 1) 7), some (21, false)⟩, ⟨some 23, (.ldF (.t 22)), some (21, false)⟩, ⟨some 24, (.len (.t 23)), some (21, false)⟩, ⟨some 25, (.bin .gtI (.t 24) (.c (D.i 6))), some (21, false)⟩, ⟨some 26, (.pick (.t 21) (.c (D.b true)) (.t 25)), none⟩] false) (.keep [1, 26] [])) (.cond (.t 26) (.pre (.keep [] []) (.seq (.post (.ops [⟨some 2, (.mov (.c (D.b false))), none⟩] false) (.keep [2] [])) .ret)) (.pre (.keep [1] []) .skip)))
def vc8_12 : VC := .post (.ops [⟨some 27, (.fld (.t 1) 3), none⟩,
  ⟨some 28, (.ldF (.t 27)), none⟩,
  ⟨some 29, (.len (.t 28)), none⟩,
  ⟨some 30, (.mov (.c (D.i 0))), none⟩] false) (.keep [28, 29, 30] [])
def vc8_15 : VC := (.seq (.post (.ops [⟨some 31, (.bin .ltI (.t 30) (.t 29)), none⟩] false) (.keep [28, 29, 30, 31] [])) (.seq (.cond (.t 31) (.pre (.keep [28, 29, 30] []) .skip) (.pre (.keep [] []) (.exit 0))) (.seq (.block 1 (.seq (.post (.ops [⟨some 32, (.ixa (.t 28) (.t 30)), none⟩, ⟨some 33, (.ldF (.t 32)), none⟩, ⟨some 4, .alA, none⟩, ⟨none, (.ini 4 (.t 33)), none⟩] false) (.keep [4, 28, 29, 30] [])) (.seq (.post (.ops [⟨some 34, (.ldF (.t 4)), none⟩, ⟨some 35, (.call 16 [(.t 34), (.c (D.i 100))] []), none⟩, ⟨some 36, (.bin .gtI (.t 35) (.c (D.i 100))), none⟩] false) (.keep [28, 29, 30, 36] [])) (.cond (.t 36) (.pre (.keep [] []) (.seq (.post (.ops [⟨some 2, (.mov (.c (D.b false))), none⟩] false) (.keep [2] [])) .ret)) (.pre (.keep [28, 29, 30] []) .skip))))) (.post (.ops [⟨some 37, (.bin (.add .i64) (.t 30) (.c (D.i 1))), none⟩, ⟨some 30, (.mov (.t 37)), none⟩] false) (.keep [28, 29, 30] [])))))
def vc8_14 : VC := .loop vc8_15
def vc8_13 : VC := .block 0 vc8_14
def vc8_11 : VC := .seq vc8_12 vc8_13
def vc8_33 : VC := (.seq (.post (.ops [⟨some 2, (.mov (.c (D.b true))), none⟩] false) (.keep [2] [])) .ret)
def vc8_10 : VC := .seq vc8_11 vc8_33
def vc8_2 : VC := .seq vc8_3 vc8_10
def vc8_0 : VC := .seq vc8_1 vc8_2
def vc9_1 : VC := .post (.ops [⟨some 4, (.mov (.c (D.b false))), none⟩] false) (.keep [0, 1] [])
def vc9_3 : VC := (.seq (.post (.ops [⟨some 6, (.mov (.t 0)), none⟩, ⟨some 7, (.len (.t 6)), none⟩, ⟨some 8, (.mov (.t 1)), none⟩, ⟨some 9, (.len (.t 8)), none⟩, ⟨some 10, (.bin .neI (.t 7) (.t 9)), none⟩] false) (.keep [0, 1, 10] [])) (.cond (.t 10) (.pre (.keep [] []) (.seq (.post (.ops [⟨some 4, (.mov (.c (D.b false))), none⟩] false) (.keep [4] [])) .ret)) (.pre (.keep [0, 1] []) .skip)))
def vc9_12 : VC := .post (.ops [⟨some 11, (.mov (.t 0)), none⟩,
  ⟨some 12, (.len (.t 11)), none⟩,
  ⟨some 13, (.mov (.c (D.i 0))), none⟩] false) (.keep [0, 1, 12, 13] [])
def vc9_15 : VC := (.seq (.post (.ops [⟨some 14, (.bin .ltI (.t 13) (.t 12)), none⟩] false) (.keep [0, 1, 12, 13, 14] [])) (.seq (.cond (.t 14) (.pre (.keep [0, 1, 12, 13] []) .skip) (.pre (.keep [] []) (.exit 0))) (.seq (.block 1 (.seq (.post (.ops [⟨some 15, (.mov (.t 13)), none⟩, ⟨some 5, (.mov (.t 15)), none⟩] false) (.keep [0, 1, 5, 12, 13] [])) (.seq (.post (.ops [⟨some 16, (.mov (.t 0)), none⟩, ⟨some 17, (.mov (.t 5)), none⟩, ⟨some 18, (.ixa (.t 16) (.t 17)), none⟩, ⟨some 19, (.ldF (.t 18)), none⟩, ⟨some 20, (.mov (.t 1)), none⟩, ⟨some 21, (.mov (.t 5)), none⟩, ⟨some 22, (.ixa (.t 20) (.t 21)), none⟩, ⟨some 23, (.ldF (.t 22)), none⟩, ⟨some 24, (.call 14 [(.t 19), (.t 23)] []), none⟩, ⟨some 25, (.un .not (.t 24)), none⟩] true) (.keep [0, 1, 12, 13, 25] [])) (.cond (.t 25) (.pre (.keep [] []) (.seq (.post (.ops [⟨some 4, (.mov (.c (D.b false))), none⟩] false) (.keep [4] [])) .ret)) (.pre (.keep [0, 1, 12, 13] []) .skip))))) (.post (.ops [⟨some 26, (.bin (.add .i64) (.t 13) (.c (D.i 1))), none⟩, ⟨some 13, (.mov (.t 26)), none⟩] false) (.keep [0, 1, 12, 13] [])))))
def vc9_14 : VC := .loop vc9_15
def vc9_13 : VC := .block 0 vc9_14
def vc9_11 : VC := .seq vc9_12 vc9_13
def vc9_33 : VC := (.seq (.post (.ops [⟨some 4, (.mov (.c (D.b true))), none⟩] false) (.keep [4] [])) .ret)
def vc9_10 : VC := .seq vc9_11 vc9_33
def vc9_2 : VC := .seq vc9_3 vc9_10
def vc9_0 : VC := .seq vc9_1 vc9_2
def vc10_1 : VC := .post (.ops [⟨some 1, (.box (.t 0)), none⟩,
  ⟨some 2, (.mov (.c (D.sz []))), none⟩] false) (.keep [1] [])
def vc10_3 : VC := .post (.ops [⟨some 3, (.mov (.c (D.sz []))), none⟩] false) (.keep [1, 3] [])
def vc10_6 : VC := .post (.ops [⟨some 15, (.fld (.t 1) 0), none⟩,
  ⟨some 16, (.ldF (.t 15)), none⟩,
  ⟨some 17, (.len (.t 16)), none⟩,
  ⟨some 18, (.mov (.c (D.i 0))), none⟩] false) (.keep [1, 3, 16, 17, 18] [])
def vc10_10 : VC := .post (.ops [⟨some 19, (.bin .ltI (.t 18) (.t 17)), none⟩] false) (.keep [1, 3, 16, 17, 18, 19] [])
def vc10_12 : VC := (.cond (.t 19) (.pre (.keep [1, 3, 16, 17, 18] []) .skip) (.pre (.keep [3] []) (.exit 0)))
def vc10_18 : VC := .post (.ops [⟨some 20, (.mov (.t 18)), none⟩,
  ⟨some 21, (.ixa (.t 16) (.t 18)), none⟩,
  ⟨some 22, (.ldF (.t 21)), none⟩,
  ⟨some 4, (.mov (.t 20)), none⟩,
  ⟨some 5, (.mov (.t 22)), none⟩] false) (.keep [1, 3, 4, 5, 16, 17, 18] [])
def vc10_20 : VC := (.seq (.post (.ops [⟨some 23, (.mov (.t 4)), none⟩, ⟨some 24, (.fld (.t 1) 1), none⟩, ⟨some 25, (.ldF (.t 24)), none⟩, ⟨some 26, (.len (.t 25)), none⟩, ⟨some 27, (.bin .geI (.t 23) (.t 26)), none⟩] false) (.keep [1, 3, 4, 5, 16, 17, 18, 27] [])) (.cond (.t 27) (.pre (.keep [3] []) (.exit 0)) (.pre (.keep [1, 3, 4, 5, 16, 17, 18] []) .skip)))
def vc10_26 : VC := .post (.ops [⟨some 28, (.ldF (.t 1)), none⟩,
  ⟨some 29, (.mov (.t 4)), none⟩,
  ⟨some 30, (.bsl .f [(D.s [])] [(0, (.c (D.s [61])))]), none⟩,
  ⟨some 31, (.call 17 [(.t 28), (.t 29), (.t 30)] []), none⟩,
  ⟨some 32, (.ldF (.t 1)), none⟩,
  ⟨some 33, (.mov (.t 4)), none⟩,
  ⟨some 34, (.bsl .f [(D.s []), (D.s []), (D.s []), (D.s [])] [(0, (.c (D.s [60]))), (1, (.c (D.s [60, 61]))), (2, (.c (D.s [62]))), (3, (.c (D.s [62, 61])))]), none⟩,
  ⟨some 35, (.call 17 [(.t 32), (.t 33), (.t 34)] []), none⟩,
  ⟨some 6, (.mov (.t 31)), none⟩,
  ⟨some 7, (.mov (.t 35)), none⟩] true) (.keep [1, 3, 4, 5, 6, 7, 16, 17, 18] [])
def vc10_28 : VC := .post (.ops [⟨some 36, (.mov (.t 3)), none⟩,
  ⟨some 37, (.mov (.t 5)), none⟩,
  ⟨some 38, (.mov (.t 6)), none⟩,
  ⟨some 39, (.call 18 [(.t 36), (.t 37), (.t 38)] []), none⟩,
  ⟨some 3, (.mov (.t 39)), none⟩] false) (.keep [1, 3, 4, 5, 6, 7, 16, 17, 18] [])
def vc10_31 : VC := .post (.ops [⟨some 40, (.mov (.t 7)), none⟩,
  ⟨some 41, (.len (.t 40)), none⟩,
  ⟨some 42, (.mov (.c (D.i 0))), none⟩] false) (.keep [1, 3, 4, 5, 6, 7, 16, 17, 18, 40, 41, 42] [])
def vc10_34 : VC := (.seq (.post (.ops [⟨some 43, (.bin .ltI (.t 42) (.t 41)), none⟩] false) (.keep [1, 3, 4, 5, 6, 7, 16, 17, 18, 40, 41, 42, 43] [])) (.seq (.cond (.t 43) (.pre (.keep [1, 3, 4, 5, 6, 7, 16, 17, 18, 40, 41, 42] []) .skip) (.pre (.keep [1, 3, 4, 5, 6, 7, 16, 17, 18] []) (.exit 2))) (.seq (.block 3 (.seq (.post (.ops [⟨some 44, (.ixa (.t 40) (.t 42)), none⟩, ⟨some 45, (.ldF (.t 44)), none⟩, ⟨some 9, (.mov (.t 45)), none⟩] false) (.keep [1, 3, 4, 5, 6, 7, 9, 16, 17, 18, 40, 41, 42] [])) (.post (.ops [⟨some 46, (.mov (.t 3)), none⟩, ⟨some 47, (.mov (.t 5)), none⟩, ⟨some 48, (.mov (.t 6)), none⟩, ⟨some 49, (.mov (.t 6)), none⟩, ⟨some 50, (.len (.t 49)), none⟩, ⟨some 51, (.mm false (.t 50) [(.c (D.i 2))]), none⟩, ⟨some 52, (.slF (.t 48) none (some (.t 51))), none⟩, ⟨some 53, (.mov (.t 9)), none⟩, ⟨some 54, (.bsl .f [(D.i 0)] [(0, (.t 53))]), none⟩, ⟨some 55, (.call 19 [(.t 52), (.t 54)] []), none⟩, ⟨some 56, (.call 18 [(.t 46), (.t 47), (.t 55)] []), none⟩, ⟨some 3, (.mov (.t 56)), none⟩] false) (.keep [1, 3, 4, 5, 6, 7, 16, 17, 18, 40, 41, 42] [])))) (.post (.ops [⟨some 57, (.bin (.add .i64) (.t 42) (.c (D.i 1))), none⟩, ⟨some 42, (.mov (.t 57)), none⟩] false) (.keep [1, 3, 4, 5, 6, 7, 16, 17, 18, 40, 41, 42] [])))))
def vc10_33 : VC := .loop vc10_34
def vc10_32 : VC := .block 2 vc10_33
def vc10_30 : VC := .seq vc10_31 vc10_32
def vc10_48 : VC := .post (.ops [⟨some 58, (.mov (.t 6)), none⟩,
  ⟨some 59, (.mov (.t 7)), none⟩,
  ⟨some 60, (.call 19 [(.t 58), (.t 59)] []), none⟩,
  ⟨some 61, (.len (.t 60)), none⟩,
  ⟨some 62, (.mov (.c (D.i 0))), none⟩] false) (.keep [1, 3, 4, 5, 6, 16, 17, 18, 60, 61, 62] [])
def vc10_51 : VC := (.seq (.post (.ops [⟨some 63, (.bin .ltI (.t 62) (.t 61)), none⟩] false) (.keep [1, 3, 4, 5, 6, 16, 17, 18, 60, 61, 62, 63] [])) (.seq (.cond (.t 63) (.pre (.keep [1, 3, 4, 5, 6, 16, 17, 18, 60, 61, 62] []) .skip) (.pre (.keep [1, 3, 4, 5, 6, 16, 17, 18] []) (.exit 4))) (.seq (.block 5 (.seq (.post (.ops [⟨some 64, (.ixa (.t 60) (.t 62)), none⟩, ⟨some 65, (.ldF (.t 64)), none⟩, ⟨some 11, (.mov (.t 65)), none⟩] false) (.keep [1, 3, 4, 5, 6, 11, 16, 17, 18, 60, 61, 62] [])) (.post (.ops [⟨some 66, (.mov (.t 3)), none⟩, ⟨some 67, (.mov (.t 5)), none⟩, ⟨some 68, (.mov (.t 11)), none⟩, ⟨some 69, (.bsl .f [(D.i 0)] [(0, (.t 68))]), none⟩, ⟨some 70, (.call 18 [(.t 66), (.t 67), (.t 69)] []), none⟩, ⟨some 3, (.mov (.t 70)), none⟩] false) (.keep [1, 3, 4, 5, 6, 16, 17, 18, 60, 61, 62] [])))) (.post (.ops [⟨some 71, (.bin (.add .i64) (.t 62) (.c (D.i 1))), none⟩, ⟨some 62, (.mov (.t 71)), none⟩] false) (.keep [1, 3, 4, 5, 6, 16, 17, 18, 60, 61, 62] [])))))
def vc10_50 : VC := .loop vc10_51
def vc10_49 : VC := .block 4 vc10_50
def vc10_47 : VC := .seq vc10_48 vc10_49
def vc10_64 : VC := .post (.ops [⟨some 12, (.nilw .o), none⟩] false) (.keep [1, 3, 4, 5, 6, 12, 16, 17, 18] [])
def vc10_67 : VC := .post (.ops [⟨some 72, (.ldF (.t 1)), none⟩,
  ⟨some 73, (.call 20 [(.t 72)] []), none⟩,
  ⟨some 74, (.mov (.t 73)), none⟩,
  ⟨some 75, (.fld (.t 1) 7), some (74, true)⟩,
  ⟨some 76, (.ldF (.t 75)), some (74, true)⟩,
  ⟨some 77, (.call 21 [(.t 76), (.fn 22)] []), some (74, true)⟩,
  ⟨some 78, (.un .not (.t 77)), some (74, true)⟩,
  ⟨some 79, (.pick (.t 74) (.t 78) (.c (D.b false))), none⟩] false) (.keep [1, 3, 4, 5, 6, 12, 16, 17, 18, 79] [])
def vc10_71 : VC := .post (.ops [⟨some 80, (.fld (.t 1) 7), none⟩,
  ⟨some 81, (.ldF (.t 80)), none⟩,
  ⟨some 82, (.len (.t 81)), none⟩,
  ⟨some 83, (.mov (.c (D.i 0))), none⟩] false) (.keep [1, 3, 4, 5, 6, 12, 16, 17, 18, 81, 82, 83] [])
def vc10_74 : VC := (.seq (.post (.ops [⟨some 84, (.bin .ltI (.t 83) (.t 82)), none⟩] false) (.keep [1, 3, 4, 5, 6, 12, 16, 17, 18, 81, 82, 83, 84] [])) (.seq (.cond (.t 84) (.pre (.keep [1, 3, 4, 5, 6, 12, 16, 17, 18, 81, 82, 83] []) .skip) (.pre (.keep [1, 3, 4, 5, 6, 12, 16, 17, 18] []) (.exit 6))) (.seq (.block 7 (.seq (.post (.ops [⟨some 85, (.ixa (.t 81) (.t 83)), none⟩, ⟨some 86, (.ldF (.t 85)), none⟩, ⟨some 14, .alA, none⟩, ⟨none, (.ini 14 (.t 86)), none⟩] false) (.keep [1, 3, 4, 5, 6, 12, 14, 16, 17, 18, 81, 82, 83] [])) (.post (.ops [⟨some 87, (.tak 12), none⟩, ⟨some 88, (.fld (.t 14) 0), none⟩, ⟨some 89, (.ldF (.t 88)), none⟩, ⟨some 90, (.bsl .f [(D.i 0)] [(0, (.t 89))]), none⟩, ⟨some 91, (.app .o 17592186044416 (.t 87) true (.t 90)), none⟩, ⟨some 12, (.tak 91), none⟩] false) (.keep [1, 3, 4, 5, 6, 12, 16, 17, 18, 81, 82, 83] [])))) (.post (.ops [⟨some 92, (.bin (.add .i64) (.t 83) (.c (D.i 1))), none⟩, ⟨some 83, (.mov (.t 92)), none⟩] false) (.keep [1, 3, 4, 5, 6, 12, 16, 17, 18, 81, 82, 83] [])))))
def vc10_73 : VC := .loop vc10_74
def vc10_72 : VC := .block 6 vc10_73
def vc10_70 : VC := .seq vc10_71 vc10_72
def vc10_86 : VC := .post (.ops [⟨some 93, (.ldF (.t 1)), none⟩,
  ⟨some 94, (.mov (.t 4)), none⟩,
  ⟨some 95, (.mov (.t 12)), none⟩,
  ⟨some 96, (.call 23 [(.t 93), (.t 94), (.t 95)] []), none⟩,
  ⟨some 12, (.mov (.t 96)), none⟩] false) (.keep [1, 3, 5, 6, 12, 16, 17, 18] [])
def vc10_69 : VC := .seq vc10_70 vc10_86
def vc10_87 : VC := .skip
def vc10_68 : VC := .cond (.t 79) (.pre (.keep [1, 3, 4, 5, 6, 12, 16, 17, 18] []) vc10_69) (.pre (.keep [1, 3, 5, 6, 12, 16, 17, 18] []) (.post vc10_87 (.weak [12])))
def vc10_66 : VC := .seq vc10_67 vc10_68
def vc10_88 : VC := (.seq (.post (.ops [⟨some 97, (.mov (.t 3)), none⟩, ⟨some 98, (.mov (.t 5)), none⟩, ⟨some 99, (.mov (.t 12)), none⟩, ⟨some 100, (.call 18 [(.t 97), (.t 98), (.t 99)] []), none⟩, ⟨some 3, (.mov (.t 100)), none⟩] false) (.keep [1, 3, 5, 6, 12, 16, 17, 18] [])) (.seq (.post (.ops [⟨some 101, (.mov (.t 12)), none⟩, ⟨some 102, (.len (.t 101)), none⟩, ⟨some 103, (.bin .gtI (.t 102) (.c (D.i 0))), none⟩] false) (.keep [1, 3, 5, 6, 12, 16, 17, 18, 103] [])) (.cond (.t 103) (.pre (.keep [1, 3, 5, 6, 12, 16, 17, 18] []) (.post (.ops [⟨some 104, (.mov (.t 3)), none⟩, ⟨some 105, (.mov (.t 5)), none⟩, ⟨some 106, (.mov (.t 6)), none⟩, ⟨some 107, (.mov (.t 12)), none⟩, ⟨some 108, (.call 19 [(.t 106), (.t 107)] []), none⟩, ⟨some 109, (.call 18 [(.t 104), (.t 105), (.t 108)] []), none⟩, ⟨some 3, (.mov (.t 109)), none⟩] false) (.keep [1, 3, 16, 17, 18] []))) (.pre (.keep [1, 3, 16, 17, 18] []) .skip))))
def vc10_65 : VC := .seq vc10_66 vc10_88
def vc10_63 : VC := .seq vc10_64 vc10_65
def vc10_46 : VC := .seq vc10_47 vc10_63
def vc10_29 : VC := .seq vc10_30 vc10_46
def vc10_27 : VC := .seq vc10_28 vc10_29
def vc10_25 : VC := .seq vc10_26 vc10_27
def vc10_19 : VC := .seq vc10_20 vc10_25
def vc10_17 : VC := .seq vc10_18 vc10_19
def vc10_16 : VC := .block 1 vc10_17
def vc10_95 : VC := .post (.ops [⟨some 110, (.bin (.add .i64) (.t 18) (.c (D.i 1))), none⟩,
  ⟨some 18, (.mov (.t 110)), none⟩] false) (.keep [1, 3, 16, 17, 18] [])
def vc10_15 : VC := .seq vc10_16 vc10_95
def vc10_11 : VC := .seq vc10_12 vc10_15
def vc10_9 : VC := .seq vc10_10 vc10_11
def vc10_8 : VC := .loop vc10_9
def vc10_7 : VC := .block 0 vc10_8
def vc10_5 : VC := .seq vc10_6 vc10_7
def vc10_96 : VC := (.seq (.post (.ops [⟨some 111, (.mov (.t 3)), none⟩, ⟨some 2, (.mov (.t 111)), none⟩] false) (.keep [2] [])) .ret)
def vc10_4 : VC := .seq vc10_5 vc10_96
def vc10_2 : VC := .seq vc10_3 vc10_4
def vc10_0 : VC := .seq vc10_1 vc10_2
def vc11_1 : VC := .post (.ops [⟨some 1, (.box (.t 0)), none⟩,
  ⟨some 2, (.mov (.c (D.sz []))), none⟩] false) (.keep [1] [])
def vc11_3 : VC := .post (.ops [⟨some 3, (.mov (.c (D.sz []))), none⟩] false) (.keep [1, 3] [])
def vc11_6 : VC := .post (.ops [⟨some 4, (.mov (.c (D.i 0))), none⟩] false) (.keep [1, 3, 4] [])
def vc11_10 : VC := (.seq (.post (.ops [⟨some 12, (.mov (.t 4)), none⟩, ⟨some 13, (.fld (.t 1) 0), none⟩, ⟨some 14, (.ldF (.t 13)), none⟩, ⟨some 15, (.len (.t 14)), none⟩, ⟨some 16, (.bin .ltI (.t 12) (.t 15)), none⟩, ⟨some 17, (.mov (.t 16)), none⟩, ⟨some 18, (.mov (.t 4)), some (17, true)⟩, ⟨some 19, (.fld (.t 1) 1), some (17, true)⟩, ⟨some 20, (.ldF (.t 19)), some (17, true)⟩, ⟨some 21, (.len (.t 20)), some (17, true)⟩, ⟨some 22, (.bin .ltI (.t 18) (.t 21)), some (17, true)⟩, ⟨some 23, (.pick (.t 17) (.t 22) (.c (D.b false))), none⟩] false) (.keep [1, 3, 4, 23] [])) (.cond (.t 23) (.pre (.keep [1, 3, 4] []) .skip) (.pre (.keep [3] []) (.exit 0))))
def vc11_18 : VC := .post (.ops [⟨some 26, (.fld (.t 1) 0), none⟩,
  ⟨some 27, (.ldF (.t 26)), none⟩,
  ⟨some 28, (.mov (.t 4)), none⟩,
  ⟨some 29, (.ixa (.t 27) (.t 28)), none⟩,
  ⟨some 30, (.ldF (.t 29)), none⟩,
  ⟨some 5, (.mov (.t 30)), none⟩] false) (.keep [1, 3, 4, 5] [])
def vc11_20 : VC := .post (.ops [⟨some 31, (.ldF (.t 1)), none⟩,
  ⟨some 32, (.mov (.t 4)), none⟩,
  ⟨some 33, (.call 24 [(.t 31), (.t 32), (.c (D.b true))] []), none⟩,
  ⟨some 34, (.ldF (.t 1)), none⟩,
  ⟨some 35, (.mov (.t 4)), none⟩,
  ⟨some 36, (.call 24 [(.t 34), (.t 35), (.c (D.b false))] []), none⟩,
  ⟨some 6, (.mov (.t 33)), none⟩,
  ⟨some 7, (.mov (.t 36)), none⟩] true) (.keep [1, 3, 4, 5, 6, 7] [])
def vc11_22 : VC := .post (.ops [⟨some 37, (.mov (.t 3)), none⟩,
  ⟨some 38, (.mov (.t 5)), none⟩,
  ⟨some 39, (.mov (.t 6)), none⟩,
  ⟨some 40, (.call 25 [(.t 37), (.t 38), (.t 39)] []), none⟩,
  ⟨some 3, (.mov (.t 40)), none⟩] false) (.keep [1, 3, 4, 5, 6, 7] [])
def vc11_25 : VC := .post (.ops [⟨some 8, (.mov (.c (D.i 0))), none⟩] false) (.keep [1, 3, 4, 5, 6, 7, 8] [])
def vc11_28 : VC := (.seq (.seq (.post (.ops [⟨some 41, (.mov (.t 8)), none⟩, ⟨some 42, (.mov (.t 7)), none⟩, ⟨some 43, (.len (.t 42)), none⟩, ⟨some 44, (.bin .ltI (.t 41) (.t 43)), none⟩] false) (.keep [1, 3, 4, 5, 6, 7, 8, 44] [])) (.cond (.t 44) (.pre (.keep [1, 3, 4, 5, 6, 7, 8] []) .skip) (.pre (.keep [1, 3, 4, 5, 6, 7] []) (.exit 2)))) (.seq (.block 3 (.post (.ops [⟨some 47, (.mov (.t 3)), none⟩, ⟨some 48, (.mov (.t 5)), none⟩, ⟨some 49, (.mov (.t 6)), none⟩, ⟨some 50, (.call 27 [(.t 49), (.c (D.i 2))] []), none⟩, ⟨some 51, (.mov (.t 7)), none⟩, ⟨some 52, (.mov (.t 8)), none⟩, ⟨some 53, (.ixa (.t 51) (.t 52)), none⟩, ⟨some 54, (.ldF (.t 53)), none⟩, ⟨some 55, (.call 26 [(.t 50), (.t 54)] []), none⟩, ⟨some 56, (.call 25 [(.t 47), (.t 48), (.t 55)] []), none⟩, ⟨some 3, (.mov (.t 56)), none⟩] true) (.keep [1, 3, 4, 5, 6, 7, 8] []))) (.post (.ops [⟨some 45, (.mov (.t 8)), none⟩, ⟨some 46, (.bin (.add .i64) (.t 45) (.c (D.i 1))), none⟩, ⟨some 8, (.mov (.t 46)), none⟩] false) (.keep [1, 3, 4, 5, 6, 7, 8] []))))
def vc11_27 : VC := .loop vc11_28
def vc11_26 : VC := .block 2 vc11_27
def vc11_24 : VC := .seq vc11_25 vc11_26
def vc11_39 : VC := .post (.ops [⟨some 57, (.mov (.t 6)), none⟩,
  ⟨some 58, (.mov (.t 7)), none⟩,
  ⟨some 59, (.call 28 [(.t 57), (.t 58)] []), none⟩,
  ⟨some 9, (.mov (.t 59)), none⟩] false) (.keep [1, 3, 4, 5, 6, 9] [])
def vc11_42 : VC := .post (.ops [⟨some 10, (.mov (.c (D.i 0))), none⟩] false) (.keep [1, 3, 4, 5, 6, 9, 10] [])
def vc11_45 : VC := (.seq (.seq (.post (.ops [⟨some 60, (.mov (.t 10)), none⟩, ⟨some 61, (.mov (.t 9)), none⟩, ⟨some 62, (.len (.t 61)), none⟩, ⟨some 63, (.bin .ltI (.t 60) (.t 62)), none⟩] false) (.keep [1, 3, 4, 5, 6, 9, 10, 63] [])) (.cond (.t 63) (.pre (.keep [1, 3, 4, 5, 6, 9, 10] []) .skip) (.pre (.keep [1, 3, 4, 5, 6] []) (.exit 4)))) (.seq (.block 5 (.post (.ops [⟨some 66, (.mov (.t 3)), none⟩, ⟨some 67, (.mov (.t 5)), none⟩, ⟨some 68, (.mov (.t 9)), none⟩, ⟨some 69, (.mov (.t 10)), none⟩, ⟨some 70, (.ixa (.t 68) (.t 69)), none⟩, ⟨some 71, (.ldF (.t 70)), none⟩, ⟨some 72, (.bsl .f [(D.i 0)] [(0, (.t 71))]), none⟩, ⟨some 73, (.call 25 [(.t 66), (.t 67), (.t 72)] []), none⟩, ⟨some 3, (.mov (.t 73)), none⟩] false) (.keep [1, 3, 4, 5, 6, 9, 10] []))) (.post (.ops [⟨some 64, (.mov (.t 10)), none⟩, ⟨some 65, (.bin (.add .i64) (.t 64) (.c (D.i 1))), none⟩, ⟨some 10, (.mov (.t 65)), none⟩] false) (.keep [1, 3, 4, 5, 6, 9, 10] []))))
def vc11_44 : VC := .loop vc11_45
def vc11_43 : VC := .block 4 vc11_44
def vc11_41 : VC := .seq vc11_42 vc11_43
def vc11_55 : VC := (.seq (.post (.ops [⟨some 74, (.ldF (.t 1)), none⟩, ⟨some 75, (.mov (.t 4)), none⟩, ⟨some 76, (.call 29 [(.t 74), (.t 75)] []), none⟩, ⟨some 11, (.mov (.t 76)), none⟩] false) (.keep [1, 3, 4, 5, 6, 11] [])) (.seq (.post (.ops [⟨some 77, (.mov (.t 3)), none⟩, ⟨some 78, (.mov (.t 5)), none⟩, ⟨some 79, (.mov (.t 11)), none⟩, ⟨some 80, (.call 25 [(.t 77), (.t 78), (.t 79)] []), none⟩, ⟨some 3, (.mov (.t 80)), none⟩] false) (.keep [1, 3, 4, 5, 6, 11] [])) (.seq (.post (.ops [⟨some 81, (.mov (.t 11)), none⟩, ⟨some 82, (.len (.t 81)), none⟩, ⟨some 83, (.bin .gtI (.t 82) (.c (D.i 0))), none⟩] false) (.keep [1, 3, 4, 5, 6, 11, 83] [])) (.cond (.t 83) (.pre (.keep [1, 3, 4, 5, 6, 11] []) (.post (.ops [⟨some 84, (.mov (.t 3)), none⟩, ⟨some 85, (.mov (.t 5)), none⟩, ⟨some 86, (.mov (.t 6)), none⟩, ⟨some 87, (.mov (.t 11)), none⟩, ⟨some 88, (.call 28 [(.t 86), (.t 87)] []), none⟩, ⟨some 89, (.call 25 [(.t 84), (.t 85), (.t 88)] []), none⟩, ⟨some 3, (.mov (.t 89)), none⟩] false) (.keep [1, 3, 4] []))) (.pre (.keep [1, 3, 4] []) .skip)))))
def vc11_40 : VC := .seq vc11_41 vc11_55
def vc11_38 : VC := .seq vc11_39 vc11_40
def vc11_23 : VC := .seq vc11_24 vc11_38
def vc11_21 : VC := .seq vc11_22 vc11_23
def vc11_19 : VC := .seq vc11_20 vc11_21
def vc11_17 : VC := .seq vc11_18 vc11_19
def vc11_16 : VC := .block 1 vc11_17
def vc11_64 : VC := .post (.ops [⟨some 24, (.mov (.t 4)), none⟩,
  ⟨some 25, (.bin (.add .i64) (.t 24) (.c (D.i 1))), none⟩,
  ⟨some 4, (.mov (.t 25)), none⟩] false) (.keep [1, 3, 4] [])
def vc11_15 : VC := .seq vc11_16 vc11_64
def vc11_9 : VC := .seq vc11_10 vc11_15
def vc11_8 : VC := .loop vc11_9
def vc11_7 : VC := .block 0 vc11_8
def vc11_5 : VC := .seq vc11_6 vc11_7
def vc11_65 : VC := (.seq (.post (.ops [⟨some 90, (.mov (.t 3)), none⟩, ⟨some 2, (.mov (.t 90)), none⟩] false) (.keep [2] [])) .ret)
def vc11_4 : VC := .seq vc11_5 vc11_65
def vc11_2 : VC := .seq vc11_3 vc11_4
def vc11_0 : VC := .seq vc11_1 vc11_2
def vc12_1 : VC := .post (.ops [⟨some 4, (.mov (.c (D.sz []))), none⟩] false) (.keep [0, 1] [])
def vc12_3 : VC := .post (.ops [⟨some 17, (.mov (.t 1)), none⟩,
  ⟨some 18, (.mm false (.t 17) [(.c (D.i 16))]), none⟩,
  ⟨some 19, (.mm true (.c (D.i 0)) [(.t 18)]), none⟩,
  ⟨some 1, (.mov (.t 19)), none⟩] false) (.keep [0, 1] [])
def vc12_5 : VC := .post (.ops [⟨some 5, (.mov (.c (D.sz []))), none⟩] false) (.keep [0, 1, 5] [])
def vc12_8 : VC := .post (.ops [⟨some 20, (.mov (.t 0)), none⟩,
  ⟨some 21, (.len (.t 20)), none⟩,
  ⟨some 22, (.mov (.c (D.i 0))), none⟩] false) (.keep [1, 5, 20, 21, 22] [])
def vc12_12 : VC := .post (.ops [⟨some 23, (.bin .ltI (.t 22) (.t 21)), none⟩] false) (.keep [1, 5, 20, 21, 22, 23] [])
def vc12_14 : VC := (.cond (.t 23) (.pre (.keep [1, 5, 20, 21, 22] []) .skip) (.pre (.keep [1, 5] []) (.exit 0)))
def vc12_20 : VC := .post (.ops [⟨some 24, (.ixa (.t 20) (.t 22)), none⟩,
  ⟨some 25, (.ldF (.t 24)), none⟩,
  ⟨some 7, .alA, none⟩,
  ⟨none, (.ini 7 (.t 25)), none⟩] false) (.keep [1, 5, 7, 20, 21, 22] [])
def vc12_22 : VC := .post (.ops [⟨some 26, (.ldF (.t 7)), none⟩,
  ⟨some 27, (.call 10 [(.t 26)] []), none⟩,
  ⟨some 28, (.len (.t 27)), none⟩,
  ⟨some 29, (.mov (.c (D.i 0))), none⟩] false) (.keep [1, 5, 20, 21, 22, 27, 28, 29] [])
def vc12_25 : VC := (.seq (.post (.ops [⟨some 30, (.bin .ltI (.t 29) (.t 28)), none⟩] false) (.keep [1, 5, 20, 21, 22, 27, 28, 29, 30] [])) (.seq (.cond (.t 30) (.pre (.keep [1, 5, 20, 21, 22, 27, 28, 29] []) .skip) (.pre (.keep [1, 5, 20, 21, 22] []) (.exit 2))) (.seq (.block 3 (.seq (.post (.ops [⟨some 31, (.ixa (.t 27) (.t 29)), none⟩, ⟨some 32, (.ldF (.t 31)), none⟩, ⟨some 9, .alA, none⟩, ⟨none, (.ini 9 (.t 32)), none⟩] false) (.keep [1, 5, 9, 20, 21, 22, 27, 28, 29] [])) (.seq (.post (.ops [⟨some 33, (.mov (.t 5)), none⟩, ⟨some 34, (.len (.t 33)), none⟩, ⟨some 35, (.mov (.t 1)), none⟩, ⟨some 36, (.bin .ltI (.t 34) (.t 35)), none⟩] false) (.keep [1, 5, 9, 20, 21, 22, 27, 28, 29, 36] [])) (.cond (.t 36) (.pre (.keep [1, 5, 9, 20, 21, 22, 27, 28, 29] []) (.post (.ops [⟨some 37, (.mov (.t 5)), none⟩, ⟨some 38, (.fld (.t 9) 0), none⟩, ⟨some 39, (.ldF (.t 38)), none⟩, ⟨some 40, (.fld (.t 9) 1), none⟩, ⟨some 41, (.ldF (.t 40)), none⟩, ⟨some 42, (.call 18 [(.t 37), (.t 39), (.t 41)] []), none⟩, ⟨some 5, (.mov (.t 42)), none⟩] false) (.keep [1, 5, 20, 21, 22, 27, 28, 29] []))) (.pre (.keep [1, 5, 20, 21, 22, 27, 28, 29] []) .skip))))) (.post (.ops [⟨some 43, (.bin (.add .i64) (.t 29) (.c (D.i 1))), none⟩, ⟨some 29, (.mov (.t 43)), none⟩] false) (.keep [1, 5, 20, 21, 22, 27, 28, 29] [])))))
def vc12_24 : VC := .loop vc12_25
def vc12_23 : VC := .block 2 vc12_24
def vc12_21 : VC := .seq vc12_22 vc12_23
def vc12_19 : VC := .seq vc12_20 vc12_21
def vc12_18 : VC := .block 1 vc12_19
def vc12_41 : VC := .post (.ops [⟨some 44, (.bin (.add .i64) (.t 22) (.c (D.i 1))), none⟩,
  ⟨some 22, (.mov (.t 44)), none⟩] false) (.keep [1, 5, 20, 21, 22] [])
def vc12_17 : VC := .seq vc12_18 vc12_41
def vc12_13 : VC := .seq vc12_14 vc12_17
def vc12_11 : VC := .seq vc12_12 vc12_13
def vc12_10 : VC := .loop vc12_11
def vc12_9 : VC := .block 0 vc12_10
def vc12_7 : VC := .seq vc12_8 vc12_9
def vc12_43 : VC := .post (.ops [⟨some 45, (.mov (.t 5)), none⟩,
  ⟨some 10, (.mov (.t 45)), none⟩] false) (.keep [1, 5, 10] [])
def vc12_46 : VC := .post (.ops [⟨some 46, (.mov (.t 10)), none⟩,
  ⟨some 47, (.len (.t 46)), none⟩,
  ⟨some 48, (.mov (.c (D.i 0))), none⟩] false) (.keep [1, 5, 10, 46, 47, 48] [])
def vc12_50 : VC := .post (.ops [⟨some 49, (.bin .ltI (.t 48) (.t 47)), none⟩] false) (.keep [1, 5, 10, 46, 47, 48, 49] [])
def vc12_52 : VC := (.cond (.t 49) (.pre (.keep [1, 5, 10, 46, 47, 48] []) .skip) (.pre (.keep [5] []) (.exit 4)))
def vc12_58 : VC := .post (.ops [⟨some 50, (.ixa (.t 46) (.t 48)), none⟩,
  ⟨some 51, (.ldF (.t 50)), none⟩,
  ⟨some 12, .alA, none⟩,
  ⟨none, (.ini 12 (.t 51)), none⟩] false) (.keep [1, 5, 10, 12, 46, 47, 48] [])
def vc12_60 : VC := .post (.ops [⟨some 52, (.mov (.t 10)), none⟩,
  ⟨some 53, (.len (.t 52)), none⟩,
  ⟨some 54, (.mov (.c (D.i 0))), none⟩] false) (.keep [1, 5, 10, 12, 46, 47, 48, 52, 53, 54] [])
def vc12_63 : VC := (.seq (.post (.ops [⟨some 55, (.bin .ltI (.t 54) (.t 53)), none⟩] false) (.keep [1, 5, 10, 12, 46, 47, 48, 52, 53, 54, 55] [])) (.seq (.cond (.t 55) (.pre (.keep [1, 5, 10, 12, 46, 47, 48, 52, 53, 54] []) .skip) (.pre (.keep [1, 5, 10, 46, 47, 48] []) (.exit 6))) (.seq (.block 7 (.seq (.post (.ops [⟨some 56, (.ixa (.t 52) (.t 54)), none⟩, ⟨some 57, (.ldF (.t 56)), none⟩, ⟨some 14, .alA, none⟩, ⟨none, (.ini 14 (.t 57)), none⟩] false) (.keep [1, 5, 10, 12, 14, 46, 47, 48, 52, 53, 54] [])) (.seq (.post (.ops [⟨some 59, (.ldF (.t 12)), none⟩, ⟨some 60, (.ldF (.t 14)), none⟩, ⟨some 61, (.call 30 [(.t 59), (.t 60)] []), none⟩, ⟨some 58, (.mov (.t 61)), none⟩, ⟨some 62, (.ext (.t 58) 0), none⟩, ⟨some 63, (.ext (.t 58) 1), none⟩, ⟨some 15, .alA, none⟩, ⟨none, (.ini 15 (.t 62)), none⟩, ⟨some 16, (.mov (.t 63)), none⟩] false) (.keep [1, 5, 10, 12, 15, 16, 46, 47, 48, 52, 53, 54] [])) (.seq (.post (.ops [⟨some 64, (.mov (.t 16)), none⟩, ⟨some 65, (.mov (.t 64)), none⟩, ⟨some 66, (.mov (.t 5)), some (65, true)⟩, ⟨some 67, (.len (.t 66)), some (65, true)⟩, ⟨some 68, (.mov (.t 1)), some (65, true)⟩, ⟨some 69, (.bin .ltI (.t 67) (.t 68)), some (65, true)⟩, ⟨some 70, (.pick (.t 65) (.t 69) (.c (D.b false))), none⟩] false) (.keep [1, 5, 10, 12, 15, 46, 47, 48, 52, 53, 54, 70] [])) (.cond (.t 70) (.pre (.keep [1, 5, 10, 12, 15, 46, 47, 48, 52, 53, 54] []) (.post (.ops [⟨some 71, (.mov (.t 5)), none⟩, ⟨some 72, (.fld (.t 15) 0), none⟩, ⟨some 73, (.ldF (.t 72)), none⟩, ⟨some 74, (.fld (.t 15) 1), none⟩, ⟨some 75, (.ldF (.t 74)), none⟩, ⟨some 76, (.call 18 [(.t 71), (.t 73), (.t 75)] []), none⟩, ⟨some 5, (.mov (.t 76)), none⟩] false) (.keep [1, 5, 10, 12, 46, 47, 48, 52, 53, 54] []))) (.pre (.keep [1, 5, 10, 12, 46, 47, 48, 52, 53, 54] []) .skip)))))) (.post (.ops [⟨some 77, (.bin (.add .i64) (.t 54) (.c (D.i 1))), none⟩, ⟨some 54, (.mov (.t 77)), none⟩] false) (.keep [1, 5, 10, 12, 46, 47, 48, 52, 53, 54] [])))))
def vc12_62 : VC := .loop vc12_63
def vc12_61 : VC := .block 6 vc12_62
def vc12_59 : VC := .seq vc12_60 vc12_61
def vc12_57 : VC := .seq vc12_58 vc12_59
def vc12_56 : VC := .block 5 vc12_57
def vc12_81 : VC := .post (.ops [⟨some 78, (.bin (.add .i64) (.t 48) (.c (D.i 1))), none⟩,
  ⟨some 48, (.mov (.t 78)), none⟩] false) (.keep [1, 5, 10, 46, 47, 48] [])
def vc12_55 : VC := .seq vc12_56 vc12_81
def vc12_51 : VC := .seq vc12_52 vc12_55
def vc12_49 : VC := .seq vc12_50 vc12_51
def vc12_48 : VC := .loop vc12_49
def vc12_47 : VC := .block 4 vc12_48
def vc12_45 : VC := .seq vc12_46 vc12_47
def vc12_82 : VC := (.seq (.post (.ops [⟨some 79, (.mov (.t 5)), none⟩, ⟨some 4, (.mov (.t 79)), none⟩] false) (.keep [4] [])) .ret)
def vc12_44 : VC := .seq vc12_45 vc12_82
def vc12_42 : VC := .seq vc12_43 vc12_44
def vc12_6 : VC := .seq vc12_7 vc12_42
def vc12_4 : VC := .seq vc12_5 vc12_6
def vc12_2 : VC := .seq vc12_3 vc12_4
def vc12_0 : VC := .seq vc12_1 vc12_2
def vc13_1 : VC := .post (.ops [⟨some 4, (.mov (.c (D.sz []))), none⟩] false) (.keep [0, 1] [])
def vc13_3 : VC := .post (.ops [⟨some 14, (.mov (.t 1)), none⟩,
  ⟨some 15, (.mm false (.t 14) [(.c (D.i 16))]), none⟩,
  ⟨some 16, (.mm true (.c (D.i 0)) [(.t 15)]), none⟩,
  ⟨some 1, (.mov (.t 16)), none⟩] false) (.keep [0, 1] [])
def vc13_5 : VC := .post (.ops [⟨some 5, (.mov (.c (D.sz []))), none⟩] false) (.keep [0, 1, 5] [])
def vc13_8 : VC := .post (.ops [⟨some 6, (.mov (.c (D.i 0))), none⟩] false) (.keep [0, 1, 5, 6] [])
def vc13_12 : VC := (.seq (.post (.ops [⟨some 17, (.mov (.t 6)), none⟩, ⟨some 18, (.mov (.t 0)), none⟩, ⟨some 19, (.len (.t 18)), none⟩, ⟨some 20, (.bin .ltI (.t 17) (.t 19)), none⟩] false) (.keep [0, 1, 5, 6, 20] [])) (.cond (.t 20) (.pre (.keep [0, 1, 5, 6] []) .skip) (.pre (.keep [1, 5] []) (.exit 0))))
def vc13_20 : VC := .post (.ops [⟨some 23, (.mov (.t 0)), none⟩,
  ⟨some 24, (.mov (.t 6)), none⟩,
  ⟨some 25, (.ixa (.t 23) (.t 24)), none⟩,
  ⟨some 26, (.ldF (.t 25)), none⟩,
  ⟨some 27, (.call 11 [(.t 26)] []), none⟩,
  ⟨some 7, (.mov (.t 27)), none⟩] false) (.keep [0, 1, 5, 6, 7] [])
def vc13_22 : VC := .post (.ops [⟨some 8, (.mov (.c (D.i 0))), none⟩] false) (.keep [0, 1, 5, 6, 7, 8] [])
def vc13_25 : VC := (.seq (.seq (.post (.ops [⟨some 28, (.mov (.t 8)), none⟩, ⟨some 29, (.mov (.t 7)), none⟩, ⟨some 30, (.len (.t 29)), none⟩, ⟨some 31, (.bin .ltI (.t 28) (.t 30)), none⟩, ⟨some 32, (.mov (.t 31)), none⟩, ⟨some 33, (.mov (.t 5)), some (32, true)⟩, ⟨some 34, (.len (.t 33)), some (32, true)⟩, ⟨some 35, (.mov (.t 1)), some (32, true)⟩, ⟨some 36, (.bin .ltI (.t 34) (.t 35)), some (32, true)⟩, ⟨some 37, (.pick (.t 32) (.t 36) (.c (D.b false))), none⟩] false) (.keep [0, 1, 5, 6, 7, 8, 37] [])) (.cond (.t 37) (.pre (.keep [0, 1, 5, 6, 7, 8] []) .skip) (.pre (.keep [0, 1, 5, 6] []) (.exit 2)))) (.seq (.block 3 (.post (.ops [⟨some 40, (.mov (.t 5)), none⟩, ⟨some 41, (.mov (.t 7)), none⟩, ⟨some 42, (.mov (.t 8)), none⟩, ⟨some 43, (.ixa (.t 41) (.t 42)), none⟩, ⟨some 44, (.fld (.t 43) 0), none⟩, ⟨some 45, (.ldF (.t 44)), none⟩, ⟨some 46, (.mov (.t 7)), none⟩, ⟨some 47, (.mov (.t 8)), none⟩, ⟨some 48, (.ixa (.t 46) (.t 47)), none⟩, ⟨some 49, (.fld (.t 48) 1), none⟩, ⟨some 50, (.ldF (.t 49)), none⟩, ⟨some 51, (.call 25 [(.t 40), (.t 45), (.t 50)] []), none⟩, ⟨some 5, (.mov (.t 51)), none⟩] true) (.keep [0, 1, 5, 6, 7, 8] []))) (.post (.ops [⟨some 38, (.mov (.t 8)), none⟩, ⟨some 39, (.bin (.add .i64) (.t 38) (.c (D.i 1))), none⟩, ⟨some 8, (.mov (.t 39)), none⟩] false) (.keep [0, 1, 5, 6, 7, 8] []))))
def vc13_24 : VC := .loop vc13_25
def vc13_23 : VC := .block 2 vc13_24
def vc13_21 : VC := .seq vc13_22 vc13_23
def vc13_19 : VC := .seq vc13_20 vc13_21
def vc13_18 : VC := .block 1 vc13_19
def vc13_35 : VC := .post (.ops [⟨some 21, (.mov (.t 6)), none⟩,
  ⟨some 22, (.bin (.add .i64) (.t 21) (.c (D.i 1))), none⟩,
  ⟨some 6, (.mov (.t 22)), none⟩] false) (.keep [0, 1, 5, 6] [])
def vc13_17 : VC := .seq vc13_18 vc13_35
def vc13_11 : VC := .seq vc13_12 vc13_17
def vc13_10 : VC := .loop vc13_11
def vc13_9 : VC := .block 0 vc13_10
def vc13_7 : VC := .seq vc13_8 vc13_9
def vc13_37 : VC := .post (.ops [⟨some 52, (.mov (.t 5)), none⟩,
  ⟨some 9, (.mov (.t 52)), none⟩] false) (.keep [1, 5, 9] [])
def vc13_40 : VC := .post (.ops [⟨some 10, (.mov (.c (D.i 0))), none⟩] false) (.keep [1, 5, 9, 10] [])
def vc13_44 : VC := (.seq (.post (.ops [⟨some 53, (.mov (.t 10)), none⟩, ⟨some 54, (.mov (.t 9)), none⟩, ⟨some 55, (.len (.t 54)), none⟩, ⟨some 56, (.bin .ltI (.t 53) (.t 55)), none⟩] false) (.keep [1, 5, 9, 10, 56] [])) (.cond (.t 56) (.pre (.keep [1, 5, 9, 10] []) .skip) (.pre (.keep [5] []) (.exit 4))))
def vc13_52 : VC := .post (.ops [⟨some 11, (.mov (.c (D.i 0))), none⟩] false) (.keep [1, 5, 9, 10, 11] [])
def vc13_55 : VC := (.seq (.seq (.post (.ops [⟨some 59, (.mov (.t 11)), none⟩, ⟨some 60, (.mov (.t 9)), none⟩, ⟨some 61, (.len (.t 60)), none⟩, ⟨some 62, (.bin .ltI (.t 59) (.t 61)), none⟩, ⟨some 63, (.mov (.t 62)), none⟩, ⟨some 64, (.mov (.t 5)), some (63, true)⟩, ⟨some 65, (.len (.t 64)), some (63, true)⟩, ⟨some 66, (.mov (.t 1)), some (63, true)⟩, ⟨some 67, (.bin .ltI (.t 65) (.t 66)), some (63, true)⟩, ⟨some 68, (.pick (.t 63) (.t 67) (.c (D.b false))), none⟩] false) (.keep [1, 5, 9, 10, 11, 68] [])) (.cond (.t 68) (.pre (.keep [1, 5, 9, 10, 11] []) .skip) (.pre (.keep [1, 5, 9, 10] []) (.exit 6)))) (.seq (.block 7 (.seq (.post (.ops [⟨some 72, (.mov (.t 9)), none⟩, ⟨some 73, (.mov (.t 10)), none⟩, ⟨some 74, (.ixa (.t 72) (.t 73)), none⟩, ⟨some 75, (.ldF (.t 74)), none⟩, ⟨some 76, (.mov (.t 9)), none⟩, ⟨some 77, (.mov (.t 11)), none⟩, ⟨some 78, (.ixa (.t 76) (.t 77)), none⟩, ⟨some 79, (.ldF (.t 78)), none⟩, ⟨some 80, (.call 31 [(.t 75), (.t 79)] []), none⟩, ⟨some 71, (.mov (.t 80)), none⟩, ⟨some 81, (.ext (.t 71) 0), none⟩, ⟨some 82, (.ext (.t 71) 1), none⟩, ⟨some 12, .alA, none⟩, ⟨none, (.ini 12 (.t 81)), none⟩, ⟨some 13, (.mov (.t 82)), none⟩] true) (.keep [1, 5, 9, 10, 11, 12, 13] [])) (.seq (.post (.ops [⟨some 83, (.mov (.t 13)), none⟩] false) (.keep [1, 5, 9, 10, 11, 12, 83] [])) (.cond (.t 83) (.pre (.keep [1, 5, 9, 10, 11, 12] []) (.post (.ops [⟨some 84, (.mov (.t 5)), none⟩, ⟨some 85, (.fld (.t 12) 0), none⟩, ⟨some 86, (.ldF (.t 85)), none⟩, ⟨some 87, (.fld (.t 12) 1), none⟩, ⟨some 88, (.ldF (.t 87)), none⟩, ⟨some 89, (.call 25 [(.t 84), (.t 86), (.t 88)] []), none⟩, ⟨some 5, (.mov (.t 89)), none⟩] false) (.keep [1, 5, 9, 10, 11] []))) (.pre (.keep [1, 5, 9, 10, 11] []) .skip))))) (.post (.ops [⟨some 69, (.mov (.t 11)), none⟩, ⟨some 70, (.bin (.add .i64) (.t 69) (.c (D.i 1))), none⟩, ⟨some 11, (.mov (.t 70)), none⟩] false) (.keep [1, 5, 9, 10, 11] []))))
def vc13_54 : VC := .loop vc13_55
def vc13_53 : VC := .block 6 vc13_54
def vc13_51 : VC := .seq vc13_52 vc13_53
def vc13_50 : VC := .block 5 vc13_51
def vc13_71 : VC := .post (.ops [⟨some 57, (.mov (.t 10)), none⟩,
  ⟨some 58, (.bin (.add .i64) (.t 57) (.c (D.i 1))), none⟩,
  ⟨some 10, (.mov (.t 58)), none⟩] false) (.keep [1, 5, 9, 10] [])
def vc13_49 : VC := .seq vc13_50 vc13_71
def vc13_43 : VC := .seq vc13_44 vc13_49
def vc13_42 : VC := .loop vc13_43
def vc13_41 : VC := .block 4 vc13_42
def vc13_39 : VC := .seq vc13_40 vc13_41
def vc13_72 : VC := (.seq (.post (.ops [⟨some 90, (.mov (.t 5)), none⟩, ⟨some 4, (.mov (.t 90)), none⟩] false) (.keep [4] [])) .ret)
def vc13_38 : VC := .seq vc13_39 vc13_72
def vc13_36 : VC := .seq vc13_37 vc13_38
def vc13_6 : VC := .seq vc13_7 vc13_36
def vc13_4 : VC := .seq vc13_5 vc13_6
def vc13_2 : VC := .seq vc13_3 vc13_4
def vc13_0 : VC := .seq vc13_1 vc13_2
def vc14_1 : VC := .post (.ops [⟨some 2, (.box (.t 0)), none⟩,
  ⟨some 3, (.box (.t 1)), none⟩,
  ⟨some 4, (.mov (.c (D.b false))), none⟩] false) (.keep [2, 3] [])
def vc14_3 : VC := (.seq (.post (.ops [⟨some 6, (.fld (.t 2) 0), none⟩, ⟨some 7, (.ldF (.t 6)), none⟩, ⟨some 8, (.fld (.t 3) 0), none⟩, ⟨some 9, (.ldF (.t 8)), none⟩, ⟨some 10, (.bin .neI (.t 7) (.t 9)), none⟩, ⟨some 11, (.mov (.t 10)), none⟩, ⟨some 12, (.fld (.t 2) 2), some (11, false)⟩, ⟨some 13, (.ldF (.t 12)), some (11, false)⟩, ⟨some 14, (.fld (.t 3) 2), some (11, false)⟩, ⟨some 15, (.ldF (.t 14)), some (11, false)⟩, ⟨some 16, (.bin .neB (.t 13) (.t 15)), some (11, false)⟩, ⟨some 17, (.pick (.t 11) (.c (D.b true)) (.t 16)), none⟩, ⟨some 18, (.mov (.t 17)), none⟩, ⟨some 19, (.fld (.t 2) 1), some (18, false)⟩, ⟨some 20, (.ldF (.t 19)), some (18, false)⟩, ⟨some 21, (.len (.t 20)), some (18, false)⟩, ⟨some 22, (.fld (.t 3) 1), some (18, false)⟩, ⟨some 23, (.ldF (.t 22)), some (18, false)⟩, ⟨some 24, (.len (.t 23)), some (18, false)⟩, ⟨some 25, (.bin .neI (.t 21) (.t 24)), some (18, false)⟩, ⟨some 26, (.pick (.t 18) (.c (D.b true)) (.t 25)), none⟩] false) (.keep [2, 3, 26] [])) (.cond (.t 26) (.pre (.keep [] []) (.seq (.post (.ops [⟨some 4, (.mov (.c (D.b false))), none⟩] false) (.keep [4] [])) .ret)) (.pre (.keep [2, 3] []) .skip)))
def vc14_12 : VC := .post (.ops [⟨some 5, (.mov (.c (D.i 0))), none⟩] false) (.keep [2, 3, 5] [])
def vc14_15 : VC := (.seq (.seq (.post (.ops [⟨some 27, (.mov (.t 5)), none⟩, ⟨some 28, (.fld (.t 2) 1), none⟩, ⟨some 29, (.ldF (.t 28)), none⟩, ⟨some 30, (.len (.t 29)), none⟩, ⟨some 31, (.bin .ltI (.t 27) (.t 30)), none⟩] false) (.keep [2, 3, 5, 31] [])) (.cond (.t 31) (.pre (.keep [2, 3, 5] []) .skip) (.pre (.keep [] []) (.exit 0)))) (.seq (.block 1 (.seq (.post (.ops [⟨some 34, (.fld (.t 2) 1), none⟩, ⟨some 35, (.ldF (.t 34)), none⟩, ⟨some 36, (.mov (.t 5)), none⟩, ⟨some 37, (.ixa (.t 35) (.t 36)), none⟩, ⟨some 38, (.ldF (.t 37)), none⟩, ⟨some 39, (.fld (.t 3) 1), none⟩, ⟨some 40, (.ldF (.t 39)), none⟩, ⟨some 41, (.mov (.t 5)), none⟩, ⟨some 42, (.ixa (.t 40) (.t 41)), none⟩, ⟨some 43, (.ldF (.t 42)), none⟩, ⟨some 44, (.bin .neI (.t 38) (.t 43)), none⟩] true) (.keep [2, 3, 5, 44] [])) (.cond (.t 44) (.pre (.keep [] []) (.seq (.post (.ops [⟨some 4, (.mov (.c (D.b false))), none⟩] false) (.keep [4] [])) .ret)) (.pre (.keep [2, 3, 5] []) .skip)))) (.post (.ops [⟨some 32, (.mov (.t 5)), none⟩, ⟨some 33, (.bin (.add .i64) (.t 32) (.c (D.i 1))), none⟩, ⟨some 5, (.mov (.t 33)), none⟩] false) (.keep [2, 3, 5] []))))
def vc14_14 : VC := .loop vc14_15
def vc14_13 : VC := .block 0 vc14_14
def vc14_11 : VC := .seq vc14_12 vc14_13
def vc14_31 : VC := (.seq (.post (.ops [⟨some 4, (.mov (.c (D.b true))), none⟩] false) (.keep [4] [])) .ret)
def vc14_10 : VC := .seq vc14_11 vc14_31
def vc14_2 : VC := .seq vc14_3 vc14_10
def vc14_0 : VC := .seq vc14_1 vc14_2
def vc15_0 : VC := (.seq (.post (.ops [⟨some 2, .alA, none⟩] false) (.keep [0, 2] [])) (.seq (.post (.ops [⟨some 3, (.mov (.t 0)), none⟩, ⟨some 4, (.build (D.ag [(D.i 0), (D.s []), (D.ag [(D.i 0), (D.i 0), (D.f 0), (D.s [])]), (D.i 0), (D.b false), (D.i 0), (D.sz [])]) [(0, (.c (D.i 2))), (3, (.t 3)), (5, (.c (D.i 1)))]), none⟩, ⟨none, (.ini 2 (.t 4)), none⟩] false) (.keep [2] [])) .ret))
def vc16_1 : VC := .post (.ops [⟨some 2, (.box (.t 0)), none⟩,
  ⟨some 4, (.mov (.c (D.i 0))), none⟩] false) (.keep [1, 2] [])
def vc16_3 : VC := .post (.ops [⟨some 5, (.mov (.c (D.i 1))), none⟩] false) (.keep [1, 2, 5] [])
def vc16_6 : VC := .post (.ops [⟨some 8, (.fld (.t 2) 6), none⟩,
  ⟨some 9, (.ldF (.t 8)), none⟩,
  ⟨some 10, (.len (.t 9)), none⟩,
  ⟨some 11, (.mov (.c (D.i 0))), none⟩] false) (.keep [1, 5, 9, 10, 11] [])
def vc16_9 : VC := (.seq (.post (.ops [⟨some 12, (.bin .ltI (.t 11) (.t 10)), none⟩] false) (.keep [1, 5, 9, 10, 11, 12] [])) (.seq (.cond (.t 12) (.pre (.keep [1, 5, 9, 10, 11] []) .skip) (.pre (.keep [5] []) (.exit 0))) (.seq (.block 1 (.seq (.post (.ops [⟨some 13, (.ixa (.t 9) (.t 11)), none⟩, ⟨some 14, (.ldF (.t 13)), none⟩, ⟨some 7, .alA, none⟩, ⟨none, (.ini 7 (.t 14)), none⟩] false) (.keep [1, 5, 7, 9, 10, 11] [])) (.seq (.seq (.post (.ops [⟨some 15, (.mov (.t 5)), none⟩, ⟨some 16, (.mov (.t 1)), none⟩, ⟨some 17, (.bin .gtI (.t 15) (.t 16)), none⟩] false) (.keep [1, 5, 7, 9, 10, 11, 17] [])) (.cond (.t 17) (.pre (.keep [5] []) (.exit 0)) (.pre (.keep [1, 5, 7, 9, 10, 11] []) .skip))) (.post (.ops [⟨some 18, (.mov (.t 5)), none⟩, ⟨some 19, (.ldF (.t 7)), none⟩, ⟨some 20, (.mov (.t 1)), none⟩, ⟨some 21, (.mov (.t 5)), none⟩, ⟨some 22, (.bin (.sub .i64) (.t 20) (.t 21)), none⟩, ⟨some 23, (.call 16 [(.t 19), (.t 22)] []), none⟩, ⟨some 24, (.bin (.add .i64) (.t 18) (.t 23)), none⟩, ⟨some 5, (.mov (.t 24)), none⟩] false) (.keep [1, 5, 9, 10, 11] []))))) (.post (.ops [⟨some 25, (.bin (.add .i64) (.t 11) (.c (D.i 1))), none⟩, ⟨some 11, (.mov (.t 25)), none⟩] false) (.keep [1, 5, 9, 10, 11] [])))))
def vc16_8 : VC := .loop vc16_9
def vc16_7 : VC := .block 0 vc16_8
def vc16_5 : VC := .seq vc16_6 vc16_7
def vc16_27 : VC := (.seq (.post (.ops [⟨some 26, (.mov (.t 5)), none⟩, ⟨some 4, (.mov (.t 26)), none⟩] false) (.keep [4] [])) .ret)
def vc16_4 : VC := .seq vc16_5 vc16_27
def vc16_2 : VC := .seq vc16_3 vc16_4
def vc16_0 : VC := .seq vc16_1 vc16_2
def vc17_1 : VC := .post (.ops [⟨some 3, (.box (.t 0)), none⟩,
  ⟨some 6, (.mov (.c (D.sz []))), none⟩] false) (.keep [1, 2, 3] [])
def vc17_3 : VC := .post (.ops [⟨some 7, (.nilw .o), none⟩] false) (.keep [1, 2, 3, 7] [])
def vc17_6 : VC := .post (.ops [⟨some 16, (.fld (.t 3) 3), none⟩,
  ⟨some 17, (.ldF (.t 16)), none⟩,
  ⟨some 18, (.len (.t 17)), none⟩,
  ⟨some 19, (.mov (.c (D.i 0))), none⟩] false) (.keep [1, 2, 3, 7, 17, 18, 19] [])
def vc17_10 : VC := .post (.ops [⟨some 20, (.bin .ltI (.t 19) (.t 18)), none⟩] false) (.keep [1, 2, 3, 7, 17, 18, 19, 20] [])
def vc17_12 : VC := (.cond (.t 20) (.pre (.keep [1, 2, 3, 7, 17, 18, 19] []) .skip) (.pre (.keep [7] []) (.exit 0)))
def vc17_18 : VC := .post (.ops [⟨some 21, (.ixa (.t 17) (.t 19)), none⟩,
  ⟨some 22, (.ldF (.t 21)), none⟩,
  ⟨some 9, .alA, none⟩,
  ⟨none, (.ini 9 (.t 22)), none⟩] false) (.keep [1, 2, 3, 7, 9, 17, 18, 19] [])
def vc17_20 : VC := (.seq (.post (.ops [⟨some 23, (.fld (.t 9) 0), none⟩, ⟨some 24, (.ldF (.t 23)), none⟩, ⟨some 25, (.bin .neI (.t 24) (.c (D.i 7))), none⟩, ⟨some 26, (.mov (.t 25)), none⟩, ⟨some 27, (.fld (.t 9) 6), some (26, false)⟩, ⟨some 28, (.ldF (.t 27)), some (26, false)⟩, ⟨some 29, (.len (.t 28)), some (26, false)⟩, ⟨some 30, (.bin .neI (.t 29) (.c (D.i 2))), some (26, false)⟩, ⟨some 31, (.pick (.t 26) (.c (D.b true)) (.t 30)), none⟩] false) (.keep [1, 2, 3, 7, 9, 17, 18, 19, 31] [])) (.cond (.t 31) (.pre (.keep [1, 2, 3, 7, 17, 18, 19] []) (.exit 1)) (.pre (.keep [1, 2, 3, 7, 9, 17, 18, 19] []) .skip)))
def vc17_26 : VC := .post (.ops [⟨some 32, (.fld (.t 9) 6), none⟩,
  ⟨some 33, (.ldF (.t 32)), none⟩,
  ⟨some 34, (.len (.t 33)), none⟩,
  ⟨some 35, (.mov (.c (D.i 0))), none⟩] false) (.keep [1, 2, 3, 7, 9, 17, 18, 19, 33, 34, 35] [])
def vc17_30 : VC := .post (.ops [⟨some 36, (.bin .ltI (.t 35) (.t 34)), none⟩] false) (.keep [1, 2, 3, 7, 9, 17, 18, 19, 33, 34, 35, 36] [])
def vc17_32 : VC := (.cond (.t 36) (.pre (.keep [1, 2, 3, 7, 9, 17, 18, 19, 33, 34, 35] []) .skip) (.pre (.keep [1, 2, 3, 7, 17, 18, 19] []) (.exit 2)))
def vc17_38 : VC := .post (.ops [⟨some 37, (.mov (.t 35)), none⟩,
  ⟨some 38, (.ixa (.t 33) (.t 35)), none⟩,
  ⟨some 39, (.ldF (.t 38)), none⟩,
  ⟨some 11, .alA, none⟩,
  ⟨some 10, (.mov (.t 37)), none⟩,
  ⟨none, (.ini 11 (.t 39)), none⟩] false) (.keep [1, 2, 3, 7, 9, 10, 11, 17, 18, 19, 33, 34, 35] [])
def vc17_40 : VC := .post (.ops [⟨some 40, (.fld (.t 9) 1), none⟩,
  ⟨some 41, (.ldF (.t 40)), none⟩,
  ⟨some 12, (.mov (.t 41)), none⟩] false) (.keep [1, 2, 3, 7, 9, 10, 11, 12, 17, 18, 19, 33, 34, 35] [])
def vc17_42 : VC := (.seq (.post (.ops [⟨some 42, (.mov (.t 10)), none⟩, ⟨some 43, (.bin .eqI (.t 42) (.c (D.i 1))), none⟩] false) (.keep [1, 2, 3, 7, 9, 10, 11, 12, 17, 18, 19, 33, 34, 35, 43] [])) (.cond (.t 43) (.pre (.keep [1, 2, 3, 7, 9, 10, 11, 12, 17, 18, 19, 33, 34, 35] []) (.post (.ops [⟨some 44, (.mov (.t 12)), none⟩, ⟨some 45, (.call 32 [(.t 44)] []), none⟩, ⟨some 12, (.mov (.t 45)), none⟩] false) (.keep [1, 2, 3, 7, 9, 10, 11, 12, 17, 18, 19, 33, 34, 35] []))) (.pre (.keep [1, 2, 3, 7, 9, 10, 11, 12, 17, 18, 19, 33, 34, 35] []) .skip)))
def vc17_48 : VC := .post (.ops [⟨some 47, (.ldF (.t 3)), none⟩,
  ⟨some 48, (.fld (.t 11) 3), none⟩,
  ⟨some 49, (.ldF (.t 48)), none⟩,
  ⟨some 50, (.call 33 [(.t 47), (.t 49)] []), none⟩,
  ⟨some 46, (.mov (.t 50)), none⟩,
  ⟨some 51, (.ext (.t 46) 0), none⟩,
  ⟨some 52, (.ext (.t 46) 1), none⟩,
  ⟨some 53, (.ext (.t 46) 2), none⟩,
  ⟨some 13, (.mov (.t 51)), none⟩,
  ⟨some 14, (.mov (.t 52)), none⟩,
  ⟨some 15, (.mov (.t 53)), none⟩] false) (.keep [1, 2, 3, 7, 9, 10, 11, 12, 13, 14, 15, 17, 18, 19, 33, 34, 35] [])
def vc17_50 : VC := .post (.ops [⟨some 54, (.fld (.t 11) 0), none⟩,
  ⟨some 55, (.ldF (.t 54)), none⟩,
  ⟨some 56, (.bin .eqI (.t 55) (.c (D.i 2))), none⟩,
  ⟨some 57, (.mov (.t 56)), none⟩,
  ⟨some 58, (.mov (.t 15)), some (57, true)⟩,
  ⟨some 59, (.pick (.t 57) (.t 58) (.c (D.b false))), none⟩,
  ⟨some 60, (.mov (.t 59)), none⟩,
  ⟨some 61, (.mov (.t 13)), some (60, true)⟩,
  ⟨some 62, (.mov (.t 1)), some (60, true)⟩,
  ⟨some 63, (.bin .eqI (.t 61) (.t 62)), some (60, true)⟩,
  ⟨some 64, (.pick (.t 60) (.t 63) (.c (D.b false))), none⟩,
  ⟨some 65, (.mov (.t 64)), none⟩,
  ⟨some 66, (.mov (.t 2)), some (65, true)⟩,
  ⟨some 67, (.mov (.t 12)), some (65, true)⟩,
  ⟨some 68, (.call 34 [(.t 66), (.t 67)] []), some (65, true)⟩,
  ⟨some 69, (.pick (.t 65) (.t 68) (.c (D.b false))), none⟩,
  ⟨some 70, (.mov (.t 69)), none⟩,
  ⟨some 71, (.ldF (.t 3)), some (70, true)⟩,
  ⟨some 72, (.fld (.t 9) 6), some (70, true)⟩,
  ⟨some 73, (.ldF (.t 72)), some (70, true)⟩,
  ⟨some 74, (.mov (.t 10)), some (70, true)⟩,
  ⟨some 75, (.bin (.sub .i64) (.c (D.i 1)) (.t 74)), some (70, true)⟩,
  ⟨some 76, (.ixa (.t 73) (.t 75)), some (70, true)⟩,
  ⟨some 77, (.ldF (.t 76)), some (70, true)⟩,
  ⟨some 78, (.mov (.t 1)), some (70, true)⟩,
  ⟨some 79, (.call 35 [(.t 71), (.t 77), (.t 78)] []), some (70, true)⟩,
  ⟨some 80, (.un .not (.t 79)), some (70, true)⟩,
  ⟨some 81, (.pick (.t 70) (.t 80) (.c (D.b false))), none⟩,
  ⟨some 82, (.mov (.t 81)), none⟩,
  ⟨some 83, (.mov (.t 7)), some (82, true)⟩,
  ⟨some 84, (.mov (.t 14)), some (82, true)⟩,
  ⟨some 85, (.call 36 [(.t 83), (.t 84)] []), some (82, true)⟩,
  ⟨some 86, (.un .not (.t 85)), some (82, true)⟩,
  ⟨some 87, (.pick (.t 82) (.t 86) (.c (D.b false))), none⟩] true) (.keep [1, 2, 3, 7, 9, 14, 17, 18, 19, 33, 34, 35, 87] [])
def vc17_51 : VC := (.cond (.t 87) (.pre (.keep [1, 2, 3, 7, 9, 14, 17, 18, 19, 33, 34, 35] []) (.post (.ops [⟨some 88, (.tak 7), none⟩, ⟨some 89, (.mov (.t 14)), none⟩, ⟨some 90, (.bsl .f [(D.i 0)] [(0, (.t 89))]), none⟩, ⟨some 91, (.app .o 17592186044416 (.t 88) true (.t 90)), none⟩, ⟨some 7, (.tak 91), none⟩] false) (.keep [1, 2, 3, 7, 9, 17, 18, 19, 33, 34, 35] []))) (.pre (.keep [1, 2, 3, 7, 9, 17, 18, 19, 33, 34, 35] []) .skip))
def vc17_49 : VC := .seq vc17_50 vc17_51
def vc17_47 : VC := .seq vc17_48 vc17_49
def vc17_41 : VC := .seq vc17_42 vc17_47
def vc17_39 : VC := .seq vc17_40 vc17_41
def vc17_37 : VC := .seq vc17_38 vc17_39
def vc17_36 : VC := .block 3 vc17_37
def vc17_54 : VC := .post (.ops [⟨some 92, (.bin (.add .i64) (.t 35) (.c (D.i 1))), none⟩,
  ⟨some 35, (.mov (.t 92)), none⟩] false) (.keep [1, 2, 3, 7, 9, 17, 18, 19, 33, 34, 35] [])
def vc17_35 : VC := .seq vc17_36 vc17_54
def vc17_31 : VC := .seq vc17_32 vc17_35
def vc17_29 : VC := .seq vc17_30 vc17_31
def vc17_28 : VC := .loop vc17_29
def vc17_27 : VC := .block 2 vc17_28
def vc17_25 : VC := .seq vc17_26 vc17_27
def vc17_19 : VC := .seq vc17_20 vc17_25
def vc17_17 : VC := .seq vc17_18 vc17_19
def vc17_16 : VC := .block 1 vc17_17
def vc17_55 : VC := .post (.ops [⟨some 93, (.bin (.add .i64) (.t 19) (.c (D.i 1))), none⟩,
  ⟨some 19, (.mov (.t 93)), none⟩] false) (.keep [1, 2, 3, 7, 17, 18, 19] [])
def vc17_15 : VC := .seq vc17_16 vc17_55
def vc17_11 : VC := .seq vc17_12 vc17_15
def vc17_9 : VC := .seq vc17_10 vc17_11
def vc17_8 : VC := .loop vc17_9
def vc17_7 : VC := .block 0 vc17_8
def vc17_5 : VC := .seq vc17_6 vc17_7
def vc17_56 : VC := (.seq (.post (.ops [⟨some 94, (.mov (.t 7)), none⟩, ⟨some 6, (.mov (.t 94)), none⟩] false) (.keep [6] [])) .ret)
def vc17_4 : VC := .seq vc17_5 vc17_56
def vc17_2 : VC := .seq vc17_3 vc17_4
def vc17_0 : VC := .seq vc17_1 vc17_2
def vc18_0 : VC := (.seq (.post (.ops [⟨some 4, (.box (.t 1)), none⟩, ⟨some 5, (.boxM 0 (.t 2)), none⟩, ⟨some 6, (.mov (.c (D.sz []))), none⟩] false) (.keep [0, 4, 5] [0])) (.seq (.post (.ops [⟨some 7, (.ld (.t 5)), none⟩, ⟨some 8, (.ld (.t 5)), none⟩, ⟨some 9, (.len (.t 8)), none⟩, ⟨some 10, (.mm false (.t 9) [(.c (D.i 3))]), none⟩, ⟨some 11, (.slF (.t 7) none (some (.t 10))), none⟩, ⟨some 12, (.call 37 [(.t 11)] []), none⟩, ⟨none, (.st (.t 5) (.t 12)), none⟩] false) (.keep [0, 4, 5] [0])) (.pre (.frz 0) (.seq (.seq (.post (.ops [⟨some 13, (.ldF (.t 5)), none⟩, ⟨some 14, (.len (.t 13)), none⟩, ⟨some 15, (.bin .eqI (.t 14) (.c (D.i 0))), none⟩, ⟨some 16, (.mov (.t 15)), none⟩, ⟨some 17, (.mov (.t 0)), some (16, false)⟩, ⟨some 18, (.clo 39 [(.t 4), (.t 5)] [Ty.p 3, Ty.p 22]), some (16, false)⟩, ⟨some 19, (.call 38 [(.t 17), (.t 18)] []), some (16, false)⟩, ⟨some 20, (.pick (.t 16) (.c (D.b true)) (.t 19)), none⟩] false) (.keep [0, 4, 5, 20] [])) (.cond (.t 20) (.pre (.keep [0] []) (.seq (.post (.ops [⟨some 21, (.mov (.t 0)), none⟩, ⟨some 6, (.mov (.t 21)), none⟩] false) (.keep [6] [])) .ret)) (.pre (.keep [0, 4, 5] []) .skip))) (.seq (.post (.ops [⟨some 22, (.mov (.t 0)), none⟩, ⟨some 23, (.call 41 [(.t 22)] []), none⟩, ⟨some 24, (.ldF (.t 4)), none⟩, ⟨some 25, (.ldF (.t 5)), none⟩, ⟨some 26, (.build (D.ag [(D.i 0), (D.sz []), (D.b false)]) [(0, (.t 24)), (1, (.t 25))]), none⟩, ⟨some 27, (.bsl .f [(D.ag [(D.i 0), (D.sz []), (D.b false)])] [(0, (.t 26))]), none⟩, ⟨some 28, (.app .f 3518437208883 (.t 23) false (.t 27)), none⟩, ⟨some 6, (.mov (.t 28)), none⟩] true) (.keep [6] [])) .ret)))))
def vc19_1 : VC := .post (.ops [⟨some 4, (.mov (.c (D.sz []))), none⟩] false) (.keep [0, 1] [])
def vc19_3 : VC := .post (.ops [⟨some 8, (.mov (.t 0)), none⟩,
  ⟨some 9, (.call 37 [(.t 8)] []), none⟩,
  ⟨some 5, (.tak 9), none⟩] false) (.keep [1, 5] [])
def vc19_6 : VC := .post (.ops [⟨some 10, (.mov (.t 1)), none⟩,
  ⟨some 11, (.len (.t 10)), none⟩,
  ⟨some 12, (.mov (.c (D.i 0))), none⟩] false) (.keep [5, 10, 11, 12] [])
def vc19_9 : VC := (.seq (.post (.ops [⟨some 13, (.bin .ltI (.t 12) (.t 11)), none⟩] false) (.keep [5, 10, 11, 12, 13] [])) (.seq (.cond (.t 13) (.pre (.keep [5, 10, 11, 12] []) .skip) (.pre (.keep [5] []) (.exit 0))) (.seq (.block 1 (.seq (.post (.ops [⟨some 14, (.ixa (.t 10) (.t 12)), none⟩, ⟨some 15, (.ldF (.t 14)), none⟩, ⟨some 7, (.mov (.t 15)), none⟩] false) (.keep [5, 7, 10, 11, 12] [])) (.seq (.post (.ops [⟨some 16, (.mov (.t 5)), none⟩, ⟨some 17, (.mov (.t 7)), none⟩, ⟨some 18, (.call 36 [(.t 16), (.t 17)] []), none⟩, ⟨some 19, (.un .not (.t 18)), none⟩] false) (.keep [5, 7, 10, 11, 12, 19] [])) (.cond (.t 19) (.pre (.keep [5, 7, 10, 11, 12] []) (.post (.ops [⟨some 20, (.tak 5), none⟩, ⟨some 21, (.mov (.t 7)), none⟩, ⟨some 22, (.bsl .f [(D.i 0)] [(0, (.t 21))]), none⟩, ⟨some 23, (.app .o 17592186044416 (.t 20) true (.t 22)), none⟩, ⟨some 5, (.tak 23), none⟩] false) (.keep [5, 10, 11, 12] []))) (.pre (.keep [5, 10, 11, 12] []) .skip))))) (.post (.ops [⟨some 24, (.bin (.add .i64) (.t 12) (.c (D.i 1))), none⟩, ⟨some 12, (.mov (.t 24)), none⟩] false) (.keep [5, 10, 11, 12] [])))))
def vc19_8 : VC := .loop vc19_9
def vc19_7 : VC := .block 0 vc19_8
def vc19_5 : VC := .seq vc19_6 vc19_7
def vc19_25 : VC := (.seq (.post (.ops [⟨some 25, (.mov (.t 5)), none⟩, ⟨some 4, (.mov (.t 25)), none⟩] false) (.keep [4] [])) .ret)
def vc19_4 : VC := .seq vc19_5 vc19_25
def vc19_2 : VC := .seq vc19_3 vc19_4
def vc19_0 : VC := .seq vc19_1 vc19_2
def vc20_0 : VC := (.seq (.post (.ops [⟨some 1, (.box (.t 0)), none⟩, ⟨some 2, (.mov (.c (D.b false))), none⟩] false) (.keep [1] [])) (.seq (.post (.ops [⟨some 3, (.fld (.t 1) 5), none⟩, ⟨some 4, (.ldF (.t 3)), none⟩, ⟨some 5, (.un .not (.t 4)), none⟩, ⟨some 6, (.mov (.t 5)), none⟩, ⟨some 7, (.fld (.t 1) 7), some (6, true)⟩, ⟨some 8, (.ldF (.t 7)), some (6, true)⟩, ⟨some 9, (.len (.t 8)), some (6, true)⟩, ⟨some 10, (.bin .gtI (.t 9) (.c (D.i 0))), some (6, true)⟩, ⟨some 11, (.pick (.t 6) (.t 10) (.c (D.b false))), none⟩, ⟨some 2, (.mov (.t 11)), none⟩] false) (.keep [2] [])) .ret))
def vc21_0 : VC := (.seq (.post (.ops [⟨some 4, (.mov (.c (D.b false))), none⟩] false) (.keep [0, 1] [])) (.seq (.post (.ops [⟨some 5, (.mov (.t 0)), none⟩, ⟨some 6, (.mov (.t 1)), none⟩, ⟨some 7, (.call 42 [(.t 5), (.t 6)] []), none⟩, ⟨some 8, (.bin .geI (.t 7) (.c (D.i 0))), none⟩, ⟨some 4, (.mov (.t 8)), none⟩] false) (.keep [4] [])) .ret))
def vc22_0 : VC := (.seq (.post (.ops [⟨some 1, (.box (.t 0)), none⟩, ⟨some 2, (.mov (.c (D.b false))), none⟩] false) (.keep [1] [])) (.seq (.post (.ops [⟨some 3, (.fld (.t 1) 1), none⟩, ⟨some 4, (.ldF (.t 3)), none⟩, ⟨some 2, (.mov (.t 4)), none⟩] false) (.keep [2] [])) .ret))
def vc23_1 : VC := .post (.ops [⟨some 3, (.box (.t 0)), none⟩,
  ⟨some 6, (.mov (.c (D.sz []))), none⟩] false) (.keep [1, 2, 3] [])
def vc23_3 : VC := .post (.ops [⟨some 7, (.nilw .o), none⟩] false) (.keep [1, 2, 3, 7] [])
def vc23_6 : VC := .post (.ops [⟨some 13, (.mov (.t 2)), none⟩,
  ⟨some 14, (.len (.t 13)), none⟩,
  ⟨some 15, (.mov (.c (D.i 0))), none⟩] false) (.keep [1, 3, 7, 13, 14, 15] [])
def vc23_9 : VC := (.seq (.post (.ops [⟨some 16, (.bin .ltI (.t 15) (.t 14)), none⟩] false) (.keep [1, 3, 7, 13, 14, 15, 16] [])) (.seq (.cond (.t 16) (.pre (.keep [1, 3, 7, 13, 14, 15] []) .skip) (.pre (.keep [7] []) (.exit 0))) (.seq (.block 1 (.seq (.post (.ops [⟨some 17, (.ixa (.t 13) (.t 15)), none⟩, ⟨some 18, (.ldF (.t 17)), none⟩, ⟨some 9, (.mov (.t 18)), none⟩] false) (.keep [1, 3, 7, 9, 13, 14, 15] [])) (.seq (.post (.ops [⟨some 20, (.ldF (.t 3)), none⟩, ⟨some 21, (.mov (.t 9)), none⟩, ⟨some 22, (.call 33 [(.t 20), (.t 21)] []), none⟩, ⟨some 19, (.mov (.t 22)), none⟩, ⟨some 23, (.ext (.t 19) 0), none⟩, ⟨some 24, (.ext (.t 19) 1), none⟩, ⟨some 25, (.ext (.t 19) 2), none⟩, ⟨some 10, (.mov (.t 23)), none⟩, ⟨some 11, (.mov (.t 24)), none⟩, ⟨some 12, (.mov (.t 25)), none⟩] false) (.keep [1, 3, 7, 10, 11, 12, 13, 14, 15] [])) (.seq (.seq (.post (.ops [⟨some 26, (.mov (.t 12)), none⟩, ⟨some 27, (.un .not (.t 26)), none⟩, ⟨some 28, (.mov (.t 27)), none⟩, ⟨some 29, (.mov (.t 10)), some (28, false)⟩, ⟨some 30, (.mov (.t 1)), some (28, false)⟩, ⟨some 31, (.bin .neI (.t 29) (.t 30)), some (28, false)⟩, ⟨some 32, (.pick (.t 28) (.c (D.b true)) (.t 31)), none⟩] false) (.keep [1, 3, 7, 11, 13, 14, 15, 32] [])) (.cond (.t 32) (.pre (.keep [] []) (.seq (.post (.ops [⟨some 6, (.mov (.c (D.sz []))), none⟩] false) (.keep [6] [])) .ret)) (.pre (.keep [1, 3, 7, 11, 13, 14, 15] []) .skip))) (.seq (.post (.ops [⟨some 33, (.mov (.t 7)), none⟩, ⟨some 34, (.mov (.t 11)), none⟩, ⟨some 35, (.call 36 [(.t 33), (.t 34)] []), none⟩, ⟨some 36, (.un .not (.t 35)), none⟩] false) (.keep [1, 3, 7, 11, 13, 14, 15, 36] [])) (.cond (.t 36) (.pre (.keep [1, 3, 7, 11, 13, 14, 15] []) (.post (.ops [⟨some 37, (.tak 7), none⟩, ⟨some 38, (.mov (.t 11)), none⟩, ⟨some 39, (.bsl .f [(D.i 0)] [(0, (.t 38))]), none⟩, ⟨some 40, (.app .o 17592186044416 (.t 37) true (.t 39)), none⟩, ⟨some 7, (.tak 40), none⟩] false) (.keep [1, 3, 7, 13, 14, 15] []))) (.pre (.keep [1, 3, 7, 13, 14, 15] []) .skip))))))) (.post (.ops [⟨some 41, (.bin (.add .i64) (.t 15) (.c (D.i 1))), none⟩, ⟨some 15, (.mov (.t 41)), none⟩] false) (.keep [1, 3, 7, 13, 14, 15] [])))))
def vc23_8 : VC := .loop vc23_9
def vc23_7 : VC := .block 0 vc23_8
def vc23_5 : VC := .seq vc23_6 vc23_7
def vc23_35 : VC := (.seq (.post (.ops [⟨some 42, (.mov (.t 7)), none⟩, ⟨some 6, (.mov (.t 42)), none⟩] false) (.keep [6] [])) .ret)
def vc23_4 : VC := .seq vc23_5 vc23_35
def vc23_2 : VC := .seq vc23_3 vc23_4
def vc23_0 : VC := .seq vc23_1 vc23_2
def vc24_1 : VC := .post (.ops [⟨some 3, (.box (.t 0)), none⟩,
  ⟨some 6, (.mov (.c (D.sz []))), none⟩] false) (.keep [1, 2, 3] [])
def vc24_3 : VC := .post (.ops [⟨some 7, (.mov (.c (D.sz []))), none⟩] false) (.keep [1, 2, 3, 7] [])
def vc24_6 : VC := .post (.ops [⟨some 8, (.mov (.c (D.i 0))), none⟩] false) (.keep [1, 2, 3, 7, 8] [])
def vc24_10 : VC := (.seq (.post (.ops [⟨some 14, (.mov (.t 8)), none⟩, ⟨some 15, (.fld (.t 3) 3), none⟩, ⟨some 16, (.ldF (.t 15)), none⟩, ⟨some 17, (.len (.t 16)), none⟩, ⟨some 18, (.bin .ltI (.t 14) (.t 17)), none⟩] false) (.keep [1, 2, 3, 7, 8, 18] [])) (.cond (.t 18) (.pre (.keep [1, 2, 3, 7, 8] []) .skip) (.pre (.keep [7] []) (.exit 0))))
def vc24_18 : VC := .post (.ops [⟨some 21, (.fld (.t 3) 3), none⟩,
  ⟨some 22, (.ldF (.t 21)), none⟩,
  ⟨some 23, (.mov (.t 8)), none⟩,
  ⟨some 24, (.ixa (.t 22) (.t 23)), none⟩,
  ⟨some 25, (.ldF (.t 24)), none⟩,
  ⟨some 9, .alA, none⟩,
  ⟨none, (.ini 9 (.t 25)), none⟩] false) (.keep [1, 2, 3, 7, 8, 9] [])
def vc24_20 : VC := (.seq (.post (.ops [⟨some 26, (.fld (.t 9) 0), none⟩, ⟨some 27, (.ldF (.t 26)), none⟩, ⟨some 28, (.bin .neI (.t 27) (.c (D.i 7))), none⟩, ⟨some 29, (.mov (.t 28)), none⟩, ⟨some 30, (.fld (.t 9) 6), some (29, false)⟩, ⟨some 31, (.ldF (.t 30)), some (29, false)⟩, ⟨some 32, (.len (.t 31)), some (29, false)⟩, ⟨some 33, (.bin .neI (.t 32) (.c (D.i 2))), some (29, false)⟩, ⟨some 34, (.pick (.t 29) (.c (D.b true)) (.t 33)), none⟩] false) (.keep [1, 2, 3, 7, 8, 9, 34] [])) (.cond (.t 34) (.pre (.keep [1, 2, 3, 7, 8] []) (.exit 1)) (.pre (.keep [1, 2, 3, 7, 8, 9] []) .skip)))
def vc24_26 : VC := .post (.ops [⟨some 35, (.fld (.t 9) 1), none⟩,
  ⟨some 36, (.ldF (.t 35)), none⟩,
  ⟨some 10, (.mov (.t 36)), none⟩] false) (.keep [1, 2, 3, 7, 8, 9, 10] [])
def vc24_28 : VC := .post (.ops [⟨some 11, (.mov (.c (D.i 0))), none⟩] false) (.keep [1, 2, 3, 7, 8, 9, 10, 11] [])
def vc24_32 : VC := (.seq (.post (.ops [⟨some 37, (.mov (.t 11)), none⟩, ⟨some 38, (.bin .ltI (.t 37) (.c (D.i 2))), none⟩] false) (.keep [1, 2, 3, 7, 8, 9, 10, 11, 38] [])) (.cond (.t 38) (.pre (.keep [1, 2, 3, 7, 8, 9, 10, 11] []) .skip) (.pre (.keep [1, 2, 3, 7, 8] []) (.exit 2))))
def vc24_40 : VC := .post (.ops [⟨some 41, (.fld (.t 9) 6), none⟩,
  ⟨some 42, (.ldF (.t 41)), none⟩,
  ⟨some 43, (.mov (.t 11)), none⟩,
  ⟨some 44, (.ixa (.t 42) (.t 43)), none⟩,
  ⟨some 45, (.ldF (.t 44)), none⟩,
  ⟨some 12, .alA, none⟩,
  ⟨none, (.ini 12 (.t 45)), none⟩] false) (.keep [1, 2, 3, 7, 8, 9, 10, 11, 12] [])
def vc24_42 : VC := .post (.ops [⟨some 46, (.mov (.t 10)), none⟩,
  ⟨some 47, (.bin .seq (.t 46) (.c (D.s [61]))), none⟩,
  ⟨some 48, (.mov (.t 47)), none⟩,
  ⟨some 49, (.mov (.t 2)), some (48, true)⟩,
  ⟨some 50, (.pick (.t 48) (.t 49) (.c (D.b false))), none⟩,
  ⟨some 51, (.mov (.t 50)), none⟩,
  ⟨some 52, (.mov (.t 2)), some (51, false)⟩,
  ⟨some 53, (.un .not (.t 52)), some (51, false)⟩,
  ⟨some 54, (.mov (.t 53)), some (51, false)⟩,
  ⟨some 55, (.mov (.t 10)), some (54, true)⟩,
  ⟨some 56, (.bin .seq (.t 55) (.c (D.s [60]))), some (54, true)⟩,
  ⟨some 57, (.mov (.t 56)), some (54, true)⟩,
  ⟨some 58, (.mov (.t 10)), some (57, false)⟩,
  ⟨some 59, (.bin .seq (.t 58) (.c (D.s [60, 61]))), some (57, false)⟩,
  ⟨some 60, (.pick (.t 57) (.c (D.b true)) (.t 59)), some (54, true)⟩,
  ⟨some 61, (.mov (.t 60)), some (54, true)⟩,
  ⟨some 62, (.mov (.t 10)), some (61, false)⟩,
  ⟨some 63, (.bin .seq (.t 62) (.c (D.s [62]))), some (61, false)⟩,
  ⟨some 64, (.pick (.t 61) (.c (D.b true)) (.t 63)), some (54, true)⟩,
  ⟨some 65, (.mov (.t 64)), some (54, true)⟩,
  ⟨some 66, (.mov (.t 10)), some (65, false)⟩,
  ⟨some 67, (.bin .seq (.t 66) (.c (D.s [62, 61]))), some (65, false)⟩,
  ⟨some 68, (.pick (.t 65) (.c (D.b true)) (.t 67)), some (54, true)⟩,
  ⟨some 69, (.pick (.t 54) (.t 68) (.c (D.b false))), some (51, false)⟩,
  ⟨some 70, (.pick (.t 51) (.c (D.b true)) (.t 69)), none⟩,
  ⟨some 13, (.mov (.t 70)), none⟩] false) (.keep [1, 2, 3, 7, 8, 9, 10, 11, 12, 13] [])
def vc24_43 : VC := (.seq (.seq (.post (.ops [⟨some 71, (.fld (.t 12) 0), none⟩, ⟨some 72, (.ldF (.t 71)), none⟩, ⟨some 73, (.bin .eqI (.t 72) (.c (D.i 2))), none⟩, ⟨some 74, (.mov (.t 73)), none⟩, ⟨some 75, (.ldF (.t 3)), some (74, true)⟩, ⟨some 76, (.fld (.t 12) 3), some (74, true)⟩, ⟨some 77, (.ldF (.t 76)), some (74, true)⟩, ⟨some 78, (.call 43 [(.t 75), (.t 77)] []), some (74, true)⟩, ⟨some 79, (.mov (.t 1)), some (74, true)⟩, ⟨some 80, (.bin .eqI (.t 78) (.t 79)), some (74, true)⟩, ⟨some 81, (.pick (.t 74) (.t 80) (.c (D.b false))), none⟩, ⟨some 82, (.mov (.t 81)), none⟩, ⟨some 83, (.mov (.t 13)), some (82, true)⟩, ⟨some 84, (.pick (.t 82) (.t 83) (.c (D.b false))), none⟩, ⟨some 85, (.mov (.t 84)), none⟩, ⟨some 86, (.ldF (.t 3)), some (85, true)⟩, ⟨some 87, (.fld (.t 9) 6), some (85, true)⟩, ⟨some 88, (.ldF (.t 87)), some (85, true)⟩, ⟨some 89, (.mov (.t 11)), some (85, true)⟩, ⟨some 90, (.bin (.sub .i64) (.c (D.i 1)) (.t 89)), some (85, true)⟩, ⟨some 91, (.ixa (.t 88) (.t 90)), some (85, true)⟩, ⟨some 92, (.ldF (.t 91)), some (85, true)⟩, ⟨some 93, (.mov (.t 1)), some (85, true)⟩, ⟨some 94, (.call 44 [(.t 86), (.t 92), (.t 93)] []), some (85, true)⟩, ⟨some 95, (.un .not (.t 94)), some (85, true)⟩, ⟨some 96, (.pick (.t 85) (.t 95) (.c (D.b false))), none⟩] true) (.keep [1, 2, 3, 7, 8, 9, 10, 11, 12, 96] [])) (.cond (.t 96) (.pre (.keep [1, 2, 3, 7, 8, 9, 10, 11, 12] []) (.post (.ops [⟨some 97, (.mov (.t 7)), none⟩, ⟨some 98, (.fld (.t 12) 3), none⟩, ⟨some 99, (.ldF (.t 98)), none⟩, ⟨some 100, (.fld (.t 3) 1), none⟩, ⟨some 101, (.ldF (.t 100)), none⟩, ⟨some 102, (.mov (.t 1)), none⟩, ⟨some 103, (.ixa (.t 101) (.t 102)), none⟩, ⟨some 104, (.ldF (.t 103)), none⟩, ⟨some 105, (.bin (.sub .i64) (.t 99) (.t 104)), none⟩, ⟨some 106, (.call 26 [(.t 97), (.t 105)] []), none⟩, ⟨some 7, (.mov (.t 106)), none⟩] true) (.keep [1, 2, 3, 7, 8, 9, 10, 11] []))) (.pre (.keep [1, 2, 3, 7, 8, 9, 10, 11] []) .skip))) (.post (.ops [⟨some 107, (.mov (.t 10)), none⟩, ⟨some 108, (.call 45 [(.t 107)] []), none⟩, ⟨some 10, (.mov (.t 108)), none⟩] false) (.keep [1, 2, 3, 7, 8, 9, 10, 11] [])))
def vc24_41 : VC := .seq vc24_42 vc24_43
def vc24_39 : VC := .seq vc24_40 vc24_41
def vc24_38 : VC := .block 3 vc24_39
def vc24_50 : VC := .post (.ops [⟨some 39, (.mov (.t 11)), none⟩,
  ⟨some 40, (.bin (.add .i64) (.t 39) (.c (D.i 1))), none⟩,
  ⟨some 11, (.mov (.t 40)), none⟩] false) (.keep [1, 2, 3, 7, 8, 9, 10, 11] [])
def vc24_37 : VC := .seq vc24_38 vc24_50
def vc24_31 : VC := .seq vc24_32 vc24_37
def vc24_30 : VC := .loop vc24_31
def vc24_29 : VC := .block 2 vc24_30
def vc24_27 : VC := .seq vc24_28 vc24_29
def vc24_25 : VC := .seq vc24_26 vc24_27
def vc24_19 : VC := .seq vc24_20 vc24_25
def vc24_17 : VC := .seq vc24_18 vc24_19
def vc24_16 : VC := .block 1 vc24_17
def vc24_51 : VC := .post (.ops [⟨some 19, (.mov (.t 8)), none⟩,
  ⟨some 20, (.bin (.add .i64) (.t 19) (.c (D.i 1))), none⟩,
  ⟨some 8, (.mov (.t 20)), none⟩] false) (.keep [1, 2, 3, 7, 8] [])
def vc24_15 : VC := .seq vc24_16 vc24_51
def vc24_9 : VC := .seq vc24_10 vc24_15
def vc24_8 : VC := .loop vc24_9
def vc24_7 : VC := .block 0 vc24_8
def vc24_5 : VC := .seq vc24_6 vc24_7
def vc24_52 : VC := (.seq (.post (.ops [⟨some 109, (.mov (.t 7)), none⟩, ⟨some 6, (.mov (.t 109)), none⟩] false) (.keep [6] [])) .ret)
def vc24_4 : VC := .seq vc24_5 vc24_52
def vc24_2 : VC := .seq vc24_3 vc24_4
def vc24_0 : VC := .seq vc24_1 vc24_2
def vc25_1 : VC := .post (.ops [⟨some 6, (.mov (.c (D.sz []))), none⟩] false) (.keep [0, 1, 2] [])
def vc25_3 : VC := .post (.ops [⟨some 10, (.mov (.t 1)), none⟩,
  ⟨some 11, (.mov (.t 2)), none⟩,
  ⟨some 12, (.call 27 [(.t 11), (.c (D.i 3))] []), none⟩,
  ⟨some 13, (.build (D.ag [(D.i 0), (D.sz []), (D.b false)]) [(0, (.t 10)), (1, (.t 12))]), none⟩,
  ⟨some 7, .alA, none⟩,
  ⟨none, (.ini 7 (.t 13)), none⟩] false) (.keep [0, 7] [])
def vc25_5 : VC := (.seq (.post (.ops [⟨some 14, (.fld (.t 7) 1), none⟩, ⟨some 15, (.ldF (.t 14)), none⟩, ⟨some 16, (.len (.t 15)), none⟩, ⟨some 17, (.bin .eqI (.t 16) (.c (D.i 0))), none⟩] false) (.keep [0, 7, 17] [])) (.cond (.t 17) (.pre (.keep [0] []) (.seq (.post (.ops [⟨some 18, (.mov (.t 0)), none⟩, ⟨some 6, (.mov (.t 18)), none⟩] false) (.keep [6] [])) .ret)) (.pre (.keep [0, 7] []) .skip)))
def vc25_14 : VC := .post (.ops [⟨some 8, (.mov (.c (D.i 0))), none⟩] false) (.keep [0, 7, 8] [])
def vc25_17 : VC := (.seq (.seq (.post (.ops [⟨some 19, (.mov (.t 8)), none⟩, ⟨some 20, (.mov (.t 0)), none⟩, ⟨some 21, (.len (.t 20)), none⟩, ⟨some 22, (.bin .ltI (.t 19) (.t 21)), none⟩] false) (.keep [0, 7, 8, 22] [])) (.cond (.t 22) (.pre (.keep [0, 7, 8] []) .skip) (.pre (.keep [0, 7] []) (.exit 0)))) (.seq (.block 1 (.seq (.post (.ops [⟨some 25, (.mov (.t 0)), none⟩, ⟨some 26, (.mov (.t 8)), none⟩, ⟨some 27, (.ixa (.t 25) (.t 26)), none⟩, ⟨some 28, (.ldF (.t 27)), none⟩, ⟨some 29, (.ldF (.t 7)), none⟩, ⟨some 30, (.call 14 [(.t 28), (.t 29)] []), none⟩] true) (.keep [0, 7, 8, 30] [])) (.cond (.t 30) (.pre (.keep [0] []) (.seq (.post (.ops [⟨some 31, (.mov (.t 0)), none⟩, ⟨some 6, (.mov (.t 31)), none⟩] false) (.keep [6] [])) .ret)) (.pre (.keep [0, 7, 8] []) .skip)))) (.post (.ops [⟨some 23, (.mov (.t 8)), none⟩, ⟨some 24, (.bin (.add .i64) (.t 23) (.c (D.i 1))), none⟩, ⟨some 8, (.mov (.t 24)), none⟩] false) (.keep [0, 7, 8] []))))
def vc25_16 : VC := .loop vc25_17
def vc25_15 : VC := .block 0 vc25_16
def vc25_13 : VC := .seq vc25_14 vc25_15
def vc25_33 : VC := (.seq (.post (.ops [⟨some 32, (.bsl .o [] []), none⟩, ⟨some 33, (.mov (.t 0)), none⟩, ⟨some 34, (.app .o 3518437208883 (.t 32) true (.t 33)), none⟩, ⟨some 9, (.tak 34), none⟩] false) (.keep [7, 9] [])) (.seq (.post (.ops [⟨some 35, (.tak 9), none⟩, ⟨some 36, (.ldF (.t 7)), none⟩, ⟨some 37, (.bsl .f [(D.ag [(D.i 0), (D.sz []), (D.b false)])] [(0, (.t 36))]), none⟩, ⟨some 38, (.app .f 3518437208883 (.t 35) true (.t 37)), none⟩, ⟨some 6, (.mov (.t 38)), none⟩] false) (.keep [6] [])) .ret))
def vc25_12 : VC := .seq vc25_13 vc25_33
def vc25_4 : VC := .seq vc25_5 vc25_12
def vc25_2 : VC := .seq vc25_3 vc25_4
def vc25_0 : VC := .seq vc25_1 vc25_2
def vc26_1 : VC := .post (.ops [⟨some 4, (.mov (.c (D.sz []))), none⟩] false) (.keep [0, 1] [])
def vc26_4 : VC := .post (.ops [⟨some 5, (.mov (.c (D.i 0))), none⟩] false) (.keep [0, 1, 5] [])
def vc26_7 : VC := (.seq (.seq (.post (.ops [⟨some 7, (.mov (.t 5)), none⟩, ⟨some 8, (.mov (.t 0)), none⟩, ⟨some 9, (.len (.t 8)), none⟩, ⟨some 10, (.bin .ltI (.t 7) (.t 9)), none⟩] false) (.keep [0, 1, 5, 10] [])) (.cond (.t 10) (.pre (.keep [0, 1, 5] []) .skip) (.pre (.keep [0, 1] []) (.exit 0)))) (.seq (.block 1 (.seq (.post (.ops [⟨some 13, (.mov (.t 0)), none⟩, ⟨some 14, (.mov (.t 5)), none⟩, ⟨some 15, (.ixa (.t 13) (.t 14)), none⟩, ⟨some 16, (.ldF (.t 15)), none⟩, ⟨some 17, (.mov (.t 1)), none⟩, ⟨some 18, (.bin .eqI (.t 16) (.t 17)), none⟩] false) (.keep [0, 1, 5, 18] [])) (.cond (.t 18) (.pre (.keep [0] []) (.seq (.post (.ops [⟨some 19, (.mov (.t 0)), none⟩, ⟨some 4, (.mov (.t 19)), none⟩] false) (.keep [4] [])) .ret)) (.pre (.keep [0, 1, 5] []) .skip)))) (.post (.ops [⟨some 11, (.mov (.t 5)), none⟩, ⟨some 12, (.bin (.add .i64) (.t 11) (.c (D.i 1))), none⟩, ⟨some 5, (.mov (.t 12)), none⟩] false) (.keep [0, 1, 5] []))))
def vc26_6 : VC := .loop vc26_7
def vc26_5 : VC := .block 0 vc26_6
def vc26_3 : VC := .seq vc26_4 vc26_5
def vc26_23 : VC := (.seq (.post (.ops [⟨some 20, (.bsl .o [] []), none⟩, ⟨some 21, (.mov (.t 0)), none⟩, ⟨some 22, (.app .o 17592186044416 (.t 20) true (.t 21)), none⟩, ⟨some 6, (.tak 22), none⟩] false) (.keep [1, 6] [])) (.seq (.post (.ops [⟨some 23, (.tak 6), none⟩, ⟨some 24, (.mov (.t 1)), none⟩, ⟨some 25, (.bsl .f [(D.i 0)] [(0, (.t 24))]), none⟩, ⟨some 26, (.app .f 17592186044416 (.t 23) true (.t 25)), none⟩, ⟨some 4, (.mov (.t 26)), none⟩] false) (.keep [4] [])) .ret))
def vc26_2 : VC := .seq vc26_3 vc26_23
def vc26_0 : VC := .seq vc26_1 vc26_2
def vc27_0 : VC := (.seq (.post (.ops [⟨some 4, (.mov (.c (D.sz []))), none⟩] false) (.keep [0, 1] [])) (.seq (.post (.ops [⟨some 5, (.mov (.t 0)), none⟩, ⟨some 6, (.mov (.t 0)), none⟩, ⟨some 7, (.len (.t 6)), none⟩, ⟨some 8, (.mov (.t 1)), none⟩, ⟨some 9, (.mm false (.t 7) [(.t 8)]), none⟩, ⟨some 10, (.slF (.t 5) none (some (.t 9))), none⟩, ⟨some 4, (.mov (.t 10)), none⟩] false) (.keep [4] [])) .ret))
def vc28_1 : VC := .post (.ops [⟨some 4, (.mov (.c (D.sz []))), none⟩] false) (.keep [0, 1] [])
def vc28_4 : VC := .post (.ops [⟨some 5, (.mov (.c (D.i 0))), none⟩] false) (.keep [0, 1, 5] [])
def vc28_7 : VC := (.seq (.seq (.post (.ops [⟨some 6, (.mov (.t 5)), none⟩, ⟨some 7, (.mov (.t 1)), none⟩, ⟨some 8, (.len (.t 7)), none⟩, ⟨some 9, (.bin .ltI (.t 6) (.t 8)), none⟩] false) (.keep [0, 1, 5, 9] [])) (.cond (.t 9) (.pre (.keep [0, 1, 5] []) .skip) (.pre (.keep [0] []) (.exit 0)))) (.seq (.block 1 (.post (.ops [⟨some 12, (.mov (.t 0)), none⟩, ⟨some 13, (.mov (.t 1)), none⟩, ⟨some 14, (.mov (.t 5)), none⟩, ⟨some 15, (.ixa (.t 13) (.t 14)), none⟩, ⟨some 16, (.ldF (.t 15)), none⟩, ⟨some 17, (.call 26 [(.t 12), (.t 16)] []), none⟩, ⟨some 0, (.mov (.t 17)), none⟩] false) (.keep [0, 1, 5] []))) (.post (.ops [⟨some 10, (.mov (.t 5)), none⟩, ⟨some 11, (.bin (.add .i64) (.t 10) (.c (D.i 1))), none⟩, ⟨some 5, (.mov (.t 11)), none⟩] false) (.keep [0, 1, 5] []))))
def vc28_6 : VC := .loop vc28_7
def vc28_5 : VC := .block 0 vc28_6
def vc28_3 : VC := .seq vc28_4 vc28_5
def vc28_17 : VC := (.seq (.post (.ops [⟨some 18, (.mov (.t 0)), none⟩, ⟨some 4, (.mov (.t 18)), none⟩] false) (.keep [4] [])) .ret)
def vc28_2 : VC := .seq vc28_3 vc28_17
def vc28_0 : VC := .seq vc28_1 vc28_2
def vc29_1 : VC := .post (.ops [⟨some 2, (.box (.t 0)), none⟩,
  ⟨some 4, (.mov (.c (D.sz []))), none⟩] false) (.keep [1, 2] [])
def vc29_3 : VC := .post (.ops [⟨some 5, (.mov (.c (D.sz []))), none⟩] false) (.keep [1, 2, 5] [])
def vc29_6 : VC := .post (.ops [⟨some 6, (.mov (.c (D.i 0))), none⟩] false) (.keep [1, 2, 5, 6] [])
def vc29_9 : VC := (.seq (.seq (.post (.ops [⟨some 7, (.mov (.t 6)), none⟩, ⟨some 8, (.fld (.t 2) 7), none⟩, ⟨some 9, (.ldF (.t 8)), none⟩, ⟨some 10, (.len (.t 9)), none⟩, ⟨some 11, (.bin .ltI (.t 7) (.t 10)), none⟩] false) (.keep [1, 2, 5, 6, 11] [])) (.cond (.t 11) (.pre (.keep [1, 2, 5, 6] []) .skip) (.pre (.keep [2, 5] []) (.exit 0)))) (.seq (.block 1 (.seq (.seq (.post (.ops [⟨some 14, (.fld (.t 2) 7), none⟩, ⟨some 15, (.ldF (.t 14)), none⟩, ⟨some 16, (.mov (.t 6)), none⟩, ⟨some 17, (.ixa (.t 15) (.t 16)), none⟩, ⟨some 18, (.fld (.t 17) 1), none⟩, ⟨some 19, (.ldF (.t 18)), none⟩, ⟨some 20, (.mov (.t 19)), none⟩, ⟨some 21, (.ldF (.t 2)), some (20, false)⟩, ⟨some 22, (.fld (.t 2) 7), some (20, false)⟩, ⟨some 23, (.ldF (.t 22)), some (20, false)⟩, ⟨some 24, (.mov (.t 6)), some (20, false)⟩, ⟨some 25, (.ixa (.t 23) (.t 24)), some (20, false)⟩, ⟨some 26, (.fld (.t 25) 0), some (20, false)⟩, ⟨some 27, (.ldF (.t 26)), some (20, false)⟩, ⟨some 28, (.call 43 [(.t 21), (.t 27)] []), some (20, false)⟩, ⟨some 29, (.mov (.t 1)), some (20, false)⟩, ⟨some 30, (.bin .neI (.t 28) (.t 29)), some (20, false)⟩, ⟨some 31, (.pick (.t 20) (.c (D.b true)) (.t 30)), none⟩] true) (.keep [1, 2, 5, 6, 31] [])) (.cond (.t 31) (.pre (.keep [] []) (.seq (.post (.ops [⟨some 4, (.mov (.c (D.sz []))), none⟩] false) (.keep [4] [])) .ret)) (.pre (.keep [1, 2, 5, 6] []) .skip))) (.post (.ops [⟨some 32, (.mov (.t 5)), none⟩, ⟨some 33, (.fld (.t 2) 7), none⟩, ⟨some 34, (.ldF (.t 33)), none⟩, ⟨some 35, (.mov (.t 6)), none⟩, ⟨some 36, (.ixa (.t 34) (.t 35)), none⟩, ⟨some 37, (.fld (.t 36) 0), none⟩, ⟨some 38, (.ldF (.t 37)), none⟩, ⟨some 39, (.fld (.t 2) 1), none⟩, ⟨some 40, (.ldF (.t 39)), none⟩, ⟨some 41, (.mov (.t 1)), none⟩, ⟨some 42, (.ixa (.t 40) (.t 41)), none⟩, ⟨some 43, (.ldF (.t 42)), none⟩, ⟨some 44, (.bin (.sub .i64) (.t 38) (.t 43)), none⟩, ⟨some 45, (.call 26 [(.t 32), (.t 44)] []), none⟩, ⟨some 5, (.mov (.t 45)), none⟩] true) (.keep [1, 2, 5, 6] [])))) (.post (.ops [⟨some 12, (.mov (.t 6)), none⟩, ⟨some 13, (.bin (.add .i64) (.t 12) (.c (D.i 1))), none⟩, ⟨some 6, (.mov (.t 13)), none⟩] false) (.keep [1, 2, 5, 6] []))))
def vc29_8 : VC := .loop vc29_9
def vc29_7 : VC := .block 0 vc29_8
def vc29_5 : VC := .seq vc29_6 vc29_7
def vc29_27 : VC := (.seq (.seq (.post (.ops [⟨some 46, (.ldF (.t 2)), none⟩, ⟨some 47, (.call 46 [(.t 46)] []), none⟩, ⟨some 48, (.un .not (.t 47)), none⟩] false) (.keep [5, 48] [])) (.cond (.t 48) (.pre (.keep [] []) (.seq (.post (.ops [⟨some 4, (.mov (.c (D.sz []))), none⟩] false) (.keep [4] [])) .ret)) (.pre (.keep [5] []) .skip))) (.seq (.post (.ops [⟨some 49, (.mov (.t 5)), none⟩, ⟨some 4, (.mov (.t 49)), none⟩] false) (.keep [4] [])) .ret))
def vc29_4 : VC := .seq vc29_5 vc29_27
def vc29_2 : VC := .seq vc29_3 vc29_4
def vc29_0 : VC := .seq vc29_1 vc29_2
def vc30_0 : VC := (.seq (.post (.ops [⟨some 2, (.box (.t 0)), none⟩, ⟨some 3, (.box (.t 1)), none⟩, ⟨some 4, .alA, none⟩, ⟨some 5, (.mov (.c (D.b false))), none⟩] false) (.keep [2, 3, 4] [])) (.seq (.seq (.post (.ops [⟨some 7, (.fld (.t 2) 0), none⟩, ⟨some 8, (.ldF (.t 7)), none⟩, ⟨some 9, (.fld (.t 3) 0), none⟩, ⟨some 10, (.ldF (.t 9)), none⟩, ⟨some 11, (.bin .neI (.t 8) (.t 10)), none⟩] false) (.keep [2, 3, 4, 11] [])) (.cond (.t 11) (.pre (.keep [4] []) (.seq (.post (.ops [⟨some 12, (.build (D.ag [(D.i 0), (D.sz []), (D.b false)]) []), none⟩, ⟨none, (.ini 4 (.t 12)), none⟩, ⟨some 5, (.mov (.c (D.b false))), none⟩] false) (.keep [4, 5] [])) .ret)) (.pre (.keep [2, 3, 4] []) .skip))) (.seq (.post (.ops [⟨some 13, (.fld (.t 2) 1), none⟩, ⟨some 14, (.ldF (.t 13)), none⟩, ⟨some 15, (.fld (.t 3) 1), none⟩, ⟨some 16, (.ldF (.t 15)), none⟩, ⟨some 17, (.call 19 [(.t 14), (.t 16)] []), none⟩, ⟨some 6, (.mov (.t 17)), none⟩] false) (.keep [2, 4, 6] [])) (.seq (.post (.ops [⟨some 18, (.fld (.t 2) 0), none⟩, ⟨some 19, (.ldF (.t 18)), none⟩, ⟨some 20, (.mov (.t 6)), none⟩, ⟨some 21, (.mov (.t 6)), none⟩, ⟨some 22, (.len (.t 21)), none⟩, ⟨some 23, (.mm false (.t 22) [(.c (D.i 3))]), none⟩, ⟨some 24, (.slF (.t 20) none (some (.t 23))), none⟩, ⟨some 25, (.build (D.ag [(D.i 0), (D.sz []), (D.b false)]) [(0, (.t 19)), (1, (.t 24))]), none⟩, ⟨none, (.ini 4 (.t 25)), none⟩, ⟨some 5, (.mov (.c (D.b true))), none⟩] true) (.keep [4, 5] [])) .ret))))
def vc31_0 : VC := (.seq (.post (.ops [⟨some 2, (.box (.t 0)), none⟩, ⟨some 3, (.box (.t 1)), none⟩, ⟨some 4, .alA, none⟩, ⟨some 5, (.mov (.c (D.b false))), none⟩] false) (.keep [2, 3, 4] [])) (.seq (.seq (.post (.ops [⟨some 6, (.fld (.t 2) 0), none⟩, ⟨some 7, (.ldF (.t 6)), none⟩, ⟨some 8, (.fld (.t 3) 0), none⟩, ⟨some 9, (.ldF (.t 8)), none⟩, ⟨some 10, (.bin .neI (.t 7) (.t 9)), none⟩] false) (.keep [2, 3, 4, 10] [])) (.cond (.t 10) (.pre (.keep [4] []) (.seq (.post (.ops [⟨some 11, (.build (D.ag [(D.i 0), (D.sz []), (D.b false)]) []), none⟩, ⟨none, (.ini 4 (.t 11)), none⟩, ⟨some 5, (.mov (.c (D.b false))), none⟩] false) (.keep [4, 5] [])) .ret)) (.pre (.keep [2, 3, 4] []) .skip))) (.seq (.post (.ops [⟨some 12, (.fld (.t 2) 0), none⟩, ⟨some 13, (.ldF (.t 12)), none⟩, ⟨some 14, (.fld (.t 2) 1), none⟩, ⟨some 15, (.ldF (.t 14)), none⟩, ⟨some 16, (.fld (.t 3) 1), none⟩, ⟨some 17, (.ldF (.t 16)), none⟩, ⟨some 18, (.call 28 [(.t 15), (.t 17)] []), none⟩, ⟨some 19, (.call 27 [(.t 18), (.c (D.i 3))] []), none⟩, ⟨some 20, (.build (D.ag [(D.i 0), (D.sz []), (D.b false)]) [(0, (.t 13)), (1, (.t 19))]), none⟩, ⟨none, (.ini 4 (.t 20)), none⟩, ⟨some 5, (.mov (.c (D.b true))), none⟩] true) (.keep [4, 5] [])) .ret)))
def vc32_0 : VC := (.seq (.post (.ops [⟨some 2, (.mov (.c (D.s []))), none⟩] false) (.keep [0] [])) (.seq (.seq (.post (.ops [⟨some 3, (.mov (.t 0)), none⟩] false) (.keep [0, 3] [])) (.block 0 (.seq (.post (.ops [⟨some 5, (.bin .seq (.t 3) (.c (D.s [60]))), none⟩, ⟨some 4, (.mov (.t 5)), none⟩] false) (.keep [0, 3, 4] [])) (.cond (.t 4) (.pre (.keep [] []) (.seq (.post (.ops [⟨some 2, (.mov (.c (D.s [62]))), none⟩] false) (.keep [2] [])) .ret)) (.pre (.keep [0, 3] []) (.seq (.post (.ops [⟨some 7, (.bin .seq (.t 3) (.c (D.s [60, 61]))), none⟩, ⟨some 6, (.mov (.t 7)), none⟩] false) (.keep [0, 3, 6] [])) (.cond (.t 6) (.pre (.keep [] []) (.seq (.post (.ops [⟨some 2, (.mov (.c (D.s [62, 61]))), none⟩] false) (.keep [2] [])) .ret)) (.pre (.keep [0, 3] []) (.seq (.post (.ops [⟨some 9, (.bin .seq (.t 3) (.c (D.s [62]))), none⟩, ⟨some 8, (.mov (.t 9)), none⟩] false) (.keep [0, 3, 8] [])) (.cond (.t 8) (.pre (.keep [] []) (.seq (.post (.ops [⟨some 2, (.mov (.c (D.s [60]))), none⟩] false) (.keep [2] [])) .ret)) (.pre (.keep [0, 3] []) (.seq (.post (.ops [⟨some 11, (.bin .seq (.t 3) (.c (D.s [62, 61]))), none⟩, ⟨some 10, (.mov (.t 11)), none⟩] false) (.keep [0, 10] [])) (.cond (.t 10) (.pre (.keep [] []) (.seq (.post (.ops [⟨some 2, (.mov (.c (D.s [60, 61]))), none⟩] false) (.keep [2] [])) .ret)) (.pre (.keep [0] []) .skip)))))))))))))) (.seq (.post (.ops [⟨some 12, (.mov (.t 0)), none⟩, ⟨some 2, (.mov (.t 12)), none⟩] false) (.keep [2] [])) .ret)))
def vc33_1 : VC := .post (.ops [⟨some 2, (.box (.t 0)), none⟩,
  ⟨some 4, (.mov (.c (D.i 0))), none⟩,
  ⟨some 5, (.mov (.c (D.i 0))), none⟩,
  ⟨some 6, (.mov (.c (D.b false))), none⟩] false) (.keep [1, 2] [])
def vc33_4 : VC := .post (.ops [⟨some 8, (.fld (.t 2) 1), none⟩,
  ⟨some 9, (.ldF (.t 8)), none⟩,
  ⟨some 10, (.len (.t 9)), none⟩,
  ⟨some 11, (.bin (.sub .i64) (.t 10) (.c (D.i 1))), none⟩,
  ⟨some 7, (.mov (.t 11)), none⟩] false) (.keep [1, 2, 7] [])
def vc33_8 : VC := (.seq (.post (.ops [⟨some 12, (.mov (.t 7)), none⟩, ⟨some 13, (.bin .geI (.t 12) (.c (D.i 0))), none⟩, ⟨some 14, (.mov (.t 13)), none⟩, ⟨some 15, (.mov (.t 1)), some (14, true)⟩, ⟨some 16, (.bin .geI (.t 15) (.c (D.i 0))), some (14, true)⟩, ⟨some 17, (.pick (.t 14) (.t 16) (.c (D.b false))), none⟩] false) (.keep [1, 2, 7, 17] [])) (.cond (.t 17) (.pre (.keep [1, 2, 7] []) .skip) (.pre (.keep [] []) (.exit 0))))
def vc33_13 : VC := (.seq (.block 1 (.seq (.post (.ops [⟨some 20, (.mov (.t 1)), none⟩, ⟨some 21, (.fld (.t 2) 1), none⟩, ⟨some 22, (.ldF (.t 21)), none⟩, ⟨some 23, (.mov (.t 7)), none⟩, ⟨some 24, (.ixa (.t 22) (.t 23)), none⟩, ⟨some 25, (.ldF (.t 24)), none⟩, ⟨some 26, (.bin .geI (.t 20) (.t 25)), none⟩, ⟨some 27, (.mov (.t 26)), none⟩, ⟨some 28, (.mov (.t 1)), some (27, true)⟩, ⟨some 29, (.fld (.t 2) 2), some (27, true)⟩, ⟨some 30, (.ldF (.t 29)), some (27, true)⟩, ⟨some 31, (.bin .ltI (.t 28) (.t 30)), some (27, true)⟩, ⟨some 32, (.pick (.t 27) (.t 31) (.c (D.b false))), none⟩] false) (.keep [1, 2, 7, 32] [])) (.cond (.t 32) (.pre (.keep [1, 2, 7] []) (.seq (.post (.ops [⟨some 33, (.mov (.t 7)), none⟩, ⟨some 34, (.mov (.t 1)), none⟩, ⟨some 35, (.fld (.t 2) 1), none⟩, ⟨some 36, (.ldF (.t 35)), none⟩, ⟨some 37, (.mov (.t 7)), none⟩, ⟨some 38, (.ixa (.t 36) (.t 37)), none⟩, ⟨some 39, (.ldF (.t 38)), none⟩, ⟨some 40, (.bin (.sub .i64) (.t 34) (.t 39)), none⟩, ⟨some 41, (.mov (.t 7)), none⟩, ⟨some 42, (.fld (.t 2) 0), none⟩, ⟨some 43, (.ldF (.t 42)), none⟩, ⟨some 44, (.len (.t 43)), none⟩, ⟨some 45, (.bin .ltI (.t 41) (.t 44)), none⟩, ⟨some 4, (.mov (.t 33)), none⟩, ⟨some 5, (.mov (.t 40)), none⟩, ⟨some 6, (.mov (.t 45)), none⟩] true) (.keep [4, 5, 6] [])) .ret)) (.pre (.keep [1, 2, 7] []) .skip)))) (.post (.ops [⟨some 18, (.mov (.t 7)), none⟩, ⟨some 19, (.bin (.sub .i64) (.t 18) (.c (D.i 1))), none⟩, ⟨some 7, (.mov (.t 19)), none⟩] false) (.keep [1, 2, 7] [])))
def vc33_7 : VC := .seq vc33_8 vc33_13
def vc33_6 : VC := .loop vc33_7
def vc33_5 : VC := .block 0 vc33_6
def vc33_3 : VC := .seq vc33_4 vc33_5
def vc33_23 : VC := (.seq (.post (.ops [⟨some 4, (.mov (.c (D.i 0))), none⟩, ⟨some 5, (.mov (.c (D.i 0))), none⟩, ⟨some 6, (.mov (.c (D.b false))), none⟩] false) (.keep [4, 5, 6] [])) .ret)
def vc33_2 : VC := .seq vc33_3 vc33_23
def vc33_0 : VC := .seq vc33_1 vc33_2
def vc34_0 : VC := (.seq (.post (.ops [⟨some 4, (.mov (.c (D.b false))), none⟩] false) (.keep [0, 1] [])) (.seq (.post (.ops [⟨some 5, (.mov (.t 0)), none⟩, ⟨some 6, (.mov (.t 1)), none⟩, ⟨some 7, (.call 47 [(.t 5), (.t 6)] []), none⟩, ⟨some 8, (.bin .geI (.t 7) (.c (D.i 0))), none⟩, ⟨some 4, (.mov (.t 8)), none⟩] false) (.keep [4] [])) .ret))
def vc35_0 : VC := (.seq (.post (.ops [⟨some 3, (.box (.t 0)), none⟩, ⟨some 4, (.box (.t 1)), none⟩, ⟨some 5, (.box (.t 2)), none⟩, ⟨some 6, (.mov (.c (D.b false))), none⟩] false) (.keep [3, 4, 5] [])) (.seq (.seq (.post (.ops [⟨some 10, (.fld (.t 4) 0), none⟩, ⟨some 11, (.ldF (.t 10)), none⟩, ⟨some 12, (.bin .eqI (.t 11) (.c (D.i 2))), none⟩] false) (.keep [3, 4, 5, 12] [])) (.cond (.t 12) (.pre (.keep [3, 4, 5] []) (.seq (.post (.ops [⟨some 14, (.ldF (.t 3)), none⟩, ⟨some 15, (.fld (.t 4) 3), none⟩, ⟨some 16, (.ldF (.t 15)), none⟩, ⟨some 17, (.call 33 [(.t 14), (.t 16)] []), none⟩, ⟨some 13, (.mov (.t 17)), none⟩, ⟨some 18, (.ext (.t 13) 0), none⟩, ⟨some 19, (.ext (.t 13) 1), none⟩, ⟨some 20, (.ext (.t 13) 2), none⟩, ⟨some 7, (.mov (.t 18)), none⟩, ⟨some 8, (.mov (.t 19)), none⟩, ⟨some 9, (.mov (.t 20)), none⟩] false) (.keep [5, 7, 9] [])) (.seq (.post (.ops [⟨some 21, (.mov (.t 9)), none⟩, ⟨some 22, (.mov (.t 21)), none⟩, ⟨some 23, (.mov (.t 7)), some (22, true)⟩, ⟨some 24, (.ldF (.t 5)), some (22, true)⟩, ⟨some 25, (.bin .eqI (.t 23) (.t 24)), some (22, true)⟩, ⟨some 26, (.pick (.t 22) (.t 25) (.c (D.b false))), none⟩, ⟨some 6, (.mov (.t 26)), none⟩] false) (.keep [6] [])) .ret))) (.pre (.keep [3, 4, 5] []) .skip))) (.seq (.post (.ops [⟨some 27, (.fld (.t 4) 6), none⟩, ⟨some 28, (.ldF (.t 27)), none⟩, ⟨some 29, (.clo 49 [(.t 3), (.t 5)] [Ty.p 26, Ty.p 3]), none⟩, ⟨some 30, (.call 48 [(.t 28), (.t 29)] []), none⟩, ⟨some 6, (.mov (.t 30)), none⟩] false) (.keep [6] [])) .ret)))
def vc36_0 : VC := (.seq (.post (.ops [⟨some 4, (.mov (.c (D.b false))), none⟩] false) (.keep [0, 1] [])) (.seq (.post (.ops [⟨some 5, (.mov (.t 0)), none⟩, ⟨some 6, (.mov (.t 1)), none⟩, ⟨some 7, (.call 50 [(.t 5), (.t 6)] []), none⟩, ⟨some 8, (.bin .geI (.t 7) (.c (D.i 0))), none⟩, ⟨some 4, (.mov (.t 8)), none⟩] false) (.keep [4] [])) .ret))
def vc37_0 : VC := (.seq (.post (.ops [⟨some 2, (.nilw .o), none⟩] false) (.keep [0] [])) (.seq (.seq (.post (.ops [⟨some 3, (.mov (.t 0)), none⟩, ⟨some 4, (.un .isN (.t 3)), none⟩] false) (.keep [0, 4] [])) (.cond (.t 4) (.pre (.keep [] []) (.seq (.post (.ops [⟨some 2, (.nilw .o), none⟩] false) (.keep [2] [])) .ret)) (.pre (.keep [0] []) .skip))) (.seq (.post (.ops [⟨some 5, (.bsl .o [] []), none⟩, ⟨some 6, (.mov (.t 0)), none⟩, ⟨some 7, (.app .o 17592186044416 (.t 5) true (.t 6)), none⟩, ⟨some 2, (.tak 7), none⟩] false) (.keep [2] [])) .ret)))
def vc38_0 : VC := (.seq (.post (.ops [⟨some 4, (.mov (.c (D.b false))), none⟩] false) (.keep [0, 1] [])) (.seq (.post (.ops [⟨some 5, (.mov (.t 0)), none⟩, ⟨some 6, (.mov (.t 1)), none⟩, ⟨some 7, (.call 51 [(.t 5), (.t 6)] []), none⟩, ⟨some 8, (.bin .geI (.t 7) (.c (D.i 0))), none⟩, ⟨some 4, (.mov (.t 8)), none⟩] false) (.keep [4] [])) .ret))
def vc39_0 : VC := (.seq (.post (.ops [⟨some 3, (.box (.t 0)), none⟩, ⟨some 4, (.mov (.c (D.b false))), none⟩] false) (.keep [1, 2, 3] [])) (.seq (.post (.ops [⟨some 5, (.fld (.t 3) 0), none⟩, ⟨some 6, (.ldF (.t 5)), none⟩, ⟨some 7, (.ldF (.t 1)), none⟩, ⟨some 8, (.bin .eqI (.t 6) (.t 7)), none⟩, ⟨some 9, (.mov (.t 8)), none⟩, ⟨some 10, (.fld (.t 3) 1), some (9, true)⟩, ⟨some 11, (.ldF (.t 10)), some (9, true)⟩, ⟨some 12, (.ldF (.t 2)), some (9, true)⟩, ⟨some 13, (.call 40 [(.t 11), (.t 12)] []), some (9, true)⟩, ⟨some 14, (.pick (.t 9) (.t 13) (.c (D.b false))), none⟩, ⟨some 4, (.mov (.t 14)), none⟩] false) (.keep [4] [])) .ret))
def vc40_1 : VC := .post (.ops [⟨some 4, (.mov (.c (D.b false))), none⟩] false) (.keep [0, 1] [])
def vc40_3 : VC := (.seq (.post (.ops [⟨some 6, (.mov (.t 0)), none⟩, ⟨some 7, (.len (.t 6)), none⟩, ⟨some 8, (.mov (.t 1)), none⟩, ⟨some 9, (.len (.t 8)), none⟩, ⟨some 10, (.bin .neI (.t 7) (.t 9)), none⟩] false) (.keep [0, 1, 10] [])) (.cond (.t 10) (.pre (.keep [] []) (.seq (.post (.ops [⟨some 4, (.mov (.c (D.b false))), none⟩] false) (.keep [4] [])) .ret)) (.pre (.keep [0, 1] []) .skip)))
def vc40_12 : VC := .post (.ops [⟨some 11, (.mov (.t 0)), none⟩,
  ⟨some 12, (.len (.t 11)), none⟩,
  ⟨some 13, (.mov (.c (D.i 0))), none⟩] false) (.keep [0, 1, 12, 13] [])
def vc40_15 : VC := (.seq (.post (.ops [⟨some 14, (.bin .ltI (.t 13) (.t 12)), none⟩] false) (.keep [0, 1, 12, 13, 14] [])) (.seq (.cond (.t 14) (.pre (.keep [0, 1, 12, 13] []) .skip) (.pre (.keep [] []) (.exit 0))) (.seq (.block 1 (.seq (.post (.ops [⟨some 15, (.mov (.t 13)), none⟩, ⟨some 5, (.mov (.t 15)), none⟩] false) (.keep [0, 1, 5, 12, 13] [])) (.seq (.post (.ops [⟨some 16, (.mov (.t 0)), none⟩, ⟨some 17, (.mov (.t 5)), none⟩, ⟨some 18, (.ixa (.t 16) (.t 17)), none⟩, ⟨some 19, (.ldF (.t 18)), none⟩, ⟨some 20, (.mov (.t 1)), none⟩, ⟨some 21, (.mov (.t 5)), none⟩, ⟨some 22, (.ixa (.t 20) (.t 21)), none⟩, ⟨some 23, (.ldF (.t 22)), none⟩, ⟨some 24, (.bin .neI (.t 19) (.t 23)), none⟩] true) (.keep [0, 1, 12, 13, 24] [])) (.cond (.t 24) (.pre (.keep [] []) (.seq (.post (.ops [⟨some 4, (.mov (.c (D.b false))), none⟩] false) (.keep [4] [])) .ret)) (.pre (.keep [0, 1, 12, 13] []) .skip))))) (.post (.ops [⟨some 25, (.bin (.add .i64) (.t 13) (.c (D.i 1))), none⟩, ⟨some 13, (.mov (.t 25)), none⟩] false) (.keep [0, 1, 12, 13] [])))))
def vc40_14 : VC := .loop vc40_15
def vc40_13 : VC := .block 0 vc40_14
def vc40_11 : VC := .seq vc40_12 vc40_13
def vc40_33 : VC := (.seq (.post (.ops [⟨some 4, (.mov (.c (D.b true))), none⟩] false) (.keep [4] [])) .ret)
def vc40_10 : VC := .seq vc40_11 vc40_33
def vc40_2 : VC := .seq vc40_3 vc40_10
def vc40_0 : VC := .seq vc40_1 vc40_2
def vc41_0 : VC := (.seq (.post (.ops [⟨some 2, (.nilw .o), none⟩] false) (.keep [0] [])) (.seq (.post (.ops [⟨some 3, (.mov (.t 0)), none⟩, ⟨some 4, (.mov (.t 0)), none⟩, ⟨some 5, (.len (.t 4)), none⟩, ⟨some 6, (.mov (.t 0)), none⟩, ⟨some 7, (.len (.t 6)), none⟩, ⟨some 8, (.slC (.t 3) (.t 5) (.t 7)), none⟩, ⟨some 2, (.mov (.t 8)), none⟩] false) (.keep [2] [])) .ret))
def vc42_1 : VC := .post (.ops [⟨some 4, (.mov (.c (D.i 0))), none⟩] false) (.keep [0, 1] [])
def vc42_4 : VC := .post (.ops [⟨some 6, (.mov (.t 0)), none⟩,
  ⟨some 7, (.len (.t 6)), none⟩,
  ⟨some 8, (.mov (.c (D.i 0))), none⟩] false) (.keep [0, 1, 7, 8] [])
def vc42_7 : VC := (.seq (.post (.ops [⟨some 9, (.bin .ltI (.t 8) (.t 7)), none⟩] false) (.keep [0, 1, 7, 8, 9] [])) (.seq (.cond (.t 9) (.pre (.keep [0, 1, 7, 8] []) .skip) (.pre (.keep [] []) (.exit 0))) (.seq (.block 1 (.seq (.post (.ops [⟨some 10, (.mov (.t 8)), none⟩, ⟨some 5, (.mov (.t 10)), none⟩] false) (.keep [0, 1, 5, 7, 8] [])) (.seq (.post (.ops [⟨some 11, (.mov (.t 1)), none⟩, ⟨some 12, (.mov (.t 0)), none⟩, ⟨some 13, (.mov (.t 5)), none⟩, ⟨some 14, (.ixa (.t 12) (.t 13)), none⟩, ⟨some 15, (.ldF (.t 14)), none⟩, ⟨some 16, (.callv (.t 11) [(.t 15)] [Ty.v 4, Ty.v 44] []), none⟩] false) (.keep [0, 1, 5, 7, 8, 16] [])) (.cond (.t 16) (.pre (.keep [5] []) (.seq (.post (.ops [⟨some 17, (.mov (.t 5)), none⟩, ⟨some 4, (.mov (.t 17)), none⟩] false) (.keep [4] [])) .ret)) (.pre (.keep [0, 1, 7, 8] []) .skip))))) (.post (.ops [⟨some 18, (.bin (.add .i64) (.t 8) (.c (D.i 1))), none⟩, ⟨some 8, (.mov (.t 18)), none⟩] false) (.keep [0, 1, 7, 8] [])))))
def vc42_6 : VC := .loop vc42_7
def vc42_5 : VC := .block 0 vc42_6
def vc42_3 : VC := .seq vc42_4 vc42_5
def vc42_25 : VC := (.seq (.post (.ops [⟨some 4, (.mov (.c (D.i (-1)))), none⟩] false) (.keep [4] [])) .ret)
def vc42_2 : VC := .seq vc42_3 vc42_25
def vc42_0 : VC := .seq vc42_1 vc42_2
def vc43_1 : VC := .post (.ops [⟨some 2, (.box (.t 0)), none⟩,
  ⟨some 4, (.mov (.c (D.i 0))), none⟩] false) (.keep [1, 2] [])
def vc43_3 : VC := (.seq (.post (.ops [⟨some 7, (.mov (.t 1)), none⟩, ⟨some 8, (.bin .ltI (.t 7) (.c (D.i 0))), none⟩, ⟨some 9, (.mov (.t 8)), none⟩, ⟨some 10, (.mov (.t 1)), some (9, false)⟩, ⟨some 11, (.fld (.t 2) 2), some (9, false)⟩, ⟨some 12, (.ldF (.t 11)), some (9, false)⟩, ⟨some 13, (.bin .geI (.t 10) (.t 12)), some (9, false)⟩, ⟨some 14, (.pick (.t 9) (.c (D.b true)) (.t 13)), none⟩] false) (.keep [1, 2, 14] [])) (.cond (.t 14) (.pre (.keep [] []) (.seq (.post (.ops [⟨some 4, (.mov (.c (D.i (-1)))), none⟩] false) (.keep [4] [])) .ret)) (.pre (.keep [1, 2] []) .skip)))
def vc43_11 : VC := .post (.ops [⟨some 5, (.mov (.c (D.i (-1)))), none⟩] false) (.keep [1, 2, 5] [])
def vc43_14 : VC := .post (.ops [⟨some 6, (.mov (.c (D.i 0))), none⟩] false) (.keep [1, 2, 5, 6] [])
def vc43_17 : VC := (.seq (.seq (.post (.ops [⟨some 15, (.mov (.t 6)), none⟩, ⟨some 16, (.fld (.t 2) 1), none⟩, ⟨some 17, (.ldF (.t 16)), none⟩, ⟨some 18, (.len (.t 17)), none⟩, ⟨some 19, (.bin .ltI (.t 15) (.t 18)), none⟩] false) (.keep [1, 2, 5, 6, 19] [])) (.cond (.t 19) (.pre (.keep [1, 2, 5, 6] []) .skip) (.pre (.keep [2, 5] []) (.exit 0)))) (.seq (.block 1 (.seq (.post (.ops [⟨some 22, (.fld (.t 2) 1), none⟩, ⟨some 23, (.ldF (.t 22)), none⟩, ⟨some 24, (.mov (.t 6)), none⟩, ⟨some 25, (.ixa (.t 23) (.t 24)), none⟩, ⟨some 26, (.ldF (.t 25)), none⟩, ⟨some 27, (.mov (.t 1)), none⟩, ⟨some 28, (.bin .leI (.t 26) (.t 27)), none⟩] false) (.keep [1, 2, 5, 6, 28] [])) (.cond (.t 28) (.pre (.keep [1, 2, 6] []) (.post (.ops [⟨some 29, (.mov (.t 6)), none⟩, ⟨some 5, (.mov (.t 29)), none⟩] false) (.keep [1, 2, 5, 6] []))) (.pre (.keep [1, 2, 5, 6] []) .skip)))) (.post (.ops [⟨some 20, (.mov (.t 6)), none⟩, ⟨some 21, (.bin (.add .i64) (.t 20) (.c (D.i 1))), none⟩, ⟨some 6, (.mov (.t 21)), none⟩] false) (.keep [1, 2, 5, 6] []))))
def vc43_16 : VC := .loop vc43_17
def vc43_15 : VC := .block 0 vc43_16
def vc43_13 : VC := .seq vc43_14 vc43_15
def vc43_31 : VC := (.seq (.seq (.post (.ops [⟨some 30, (.mov (.t 5)), none⟩, ⟨some 31, (.fld (.t 2) 0), none⟩, ⟨some 32, (.ldF (.t 31)), none⟩, ⟨some 33, (.len (.t 32)), none⟩, ⟨some 34, (.bin .geI (.t 30) (.t 33)), none⟩] false) (.keep [5, 34] [])) (.cond (.t 34) (.pre (.keep [] []) (.seq (.post (.ops [⟨some 4, (.mov (.c (D.i (-1)))), none⟩] false) (.keep [4] [])) .ret)) (.pre (.keep [5] []) .skip))) (.seq (.post (.ops [⟨some 35, (.mov (.t 5)), none⟩, ⟨some 4, (.mov (.t 35)), none⟩] false) (.keep [4] [])) .ret))
def vc43_12 : VC := .seq vc43_13 vc43_31
def vc43_10 : VC := .seq vc43_11 vc43_12
def vc43_2 : VC := .seq vc43_3 vc43_10
def vc43_0 : VC := .seq vc43_1 vc43_2
def vc44_1 : VC := .post (.ops [⟨some 3, (.box (.t 0)), none⟩,
  ⟨some 4, (.box (.t 1)), none⟩,
  ⟨some 6, (.mov (.c (D.b false))), none⟩] false) (.keep [2, 3, 4] [])
def vc44_3 : VC := (.seq (.post (.ops [⟨some 8, (.fld (.t 4) 0), none⟩, ⟨some 9, (.ldF (.t 8)), none⟩, ⟨some 10, (.bin .eqI (.t 9) (.c (D.i 2))), none⟩] false) (.keep [2, 3, 4, 10] [])) (.cond (.t 10) (.pre (.keep [2, 3, 4] []) (.seq (.post (.ops [⟨some 11, (.ldF (.t 3)), none⟩, ⟨some 12, (.fld (.t 4) 3), none⟩, ⟨some 13, (.ldF (.t 12)), none⟩, ⟨some 14, (.call 43 [(.t 11), (.t 13)] []), none⟩, ⟨some 15, (.mov (.t 2)), none⟩, ⟨some 16, (.bin .eqI (.t 14) (.t 15)), none⟩, ⟨some 6, (.mov (.t 16)), none⟩] false) (.keep [6] [])) .ret)) (.pre (.keep [2, 3, 4] []) .skip)))
def vc44_12 : VC := .post (.ops [⟨some 7, (.mov (.c (D.i 0))), none⟩] false) (.keep [2, 3, 4, 7] [])
def vc44_15 : VC := (.seq (.seq (.post (.ops [⟨some 17, (.mov (.t 7)), none⟩, ⟨some 18, (.fld (.t 4) 6), none⟩, ⟨some 19, (.ldF (.t 18)), none⟩, ⟨some 20, (.len (.t 19)), none⟩, ⟨some 21, (.bin .ltI (.t 17) (.t 20)), none⟩] false) (.keep [2, 3, 4, 7, 21] [])) (.cond (.t 21) (.pre (.keep [2, 3, 4, 7] []) .skip) (.pre (.keep [] []) (.exit 0)))) (.seq (.block 1 (.seq (.post (.ops [⟨some 24, (.ldF (.t 3)), none⟩, ⟨some 25, (.fld (.t 4) 6), none⟩, ⟨some 26, (.ldF (.t 25)), none⟩, ⟨some 27, (.mov (.t 7)), none⟩, ⟨some 28, (.ixa (.t 26) (.t 27)), none⟩, ⟨some 29, (.ldF (.t 28)), none⟩, ⟨some 30, (.mov (.t 2)), none⟩, ⟨some 31, (.call 44 [(.t 24), (.t 29), (.t 30)] []), none⟩] true) (.keep [2, 3, 4, 7, 31] [])) (.cond (.t 31) (.pre (.keep [] []) (.seq (.post (.ops [⟨some 6, (.mov (.c (D.b true))), none⟩] false) (.keep [6] [])) .ret)) (.pre (.keep [2, 3, 4, 7] []) .skip)))) (.post (.ops [⟨some 22, (.mov (.t 7)), none⟩, ⟨some 23, (.bin (.add .i64) (.t 22) (.c (D.i 1))), none⟩, ⟨some 7, (.mov (.t 23)), none⟩] false) (.keep [2, 3, 4, 7] []))))
def vc44_14 : VC := .loop vc44_15
def vc44_13 : VC := .block 0 vc44_14
def vc44_11 : VC := .seq vc44_12 vc44_13
def vc44_31 : VC := (.seq (.post (.ops [⟨some 6, (.mov (.c (D.b false))), none⟩] false) (.keep [6] [])) .ret)
def vc44_10 : VC := .seq vc44_11 vc44_31
def vc44_2 : VC := .seq vc44_3 vc44_10
def vc44_0 : VC := .seq vc44_1 vc44_2
def vc45_1 : VC := .post (.ops [⟨some 2, (.mov (.c (D.s []))), none⟩] false) (.keep [0] [])
def vc45_3 : VC := .post (.ops [⟨some 6, (.bsl .f [(D.s []), (D.s []), (D.s []), (D.s [])] [(0, (.c (D.s [60]))), (1, (.c (D.s [60, 61]))), (2, (.c (D.s [62]))), (3, (.c (D.s [62, 61])))]), none⟩,
  ⟨some 7, (.bsl .f [(D.s []), (D.s []), (D.s []), (D.s [])] [(0, (.c (D.s [62]))), (1, (.c (D.s [62, 61]))), (2, (.c (D.s [60]))), (3, (.c (D.s [60, 61])))]), none⟩,
  ⟨some 3, (.mov (.t 6)), none⟩,
  ⟨some 4, (.mov (.t 7)), none⟩] false) (.keep [0, 3, 4] [])
def vc45_6 : VC := .post (.ops [⟨some 5, (.mov (.c (D.i 0))), none⟩] false) (.keep [0, 3, 4, 5] [])
def vc45_9 : VC := (.seq (.seq (.post (.ops [⟨some 8, (.mov (.t 5)), none⟩, ⟨some 9, (.bin .ltI (.t 8) (.c (D.i 4))), none⟩] false) (.keep [0, 3, 4, 5, 9] [])) (.cond (.t 9) (.pre (.keep [0, 3, 4, 5] []) .skip) (.pre (.keep [0] []) (.exit 0)))) (.seq (.block 1 (.seq (.post (.ops [⟨some 12, (.mov (.t 3)), none⟩, ⟨some 13, (.mov (.t 5)), none⟩, ⟨some 14, (.ixa (.t 12) (.t 13)), none⟩, ⟨some 15, (.ldF (.t 14)), none⟩, ⟨some 16, (.mov (.t 0)), none⟩, ⟨some 17, (.bin .seq (.t 15) (.t 16)), none⟩] false) (.keep [0, 3, 4, 5, 17] [])) (.cond (.t 17) (.pre (.keep [4, 5] []) (.seq (.post (.ops [⟨some 18, (.mov (.t 4)), none⟩, ⟨some 19, (.mov (.t 5)), none⟩, ⟨some 20, (.ixa (.t 18) (.t 19)), none⟩, ⟨some 21, (.ldF (.t 20)), none⟩, ⟨some 2, (.mov (.t 21)), none⟩] false) (.keep [2] [])) .ret)) (.pre (.keep [0, 3, 4, 5] []) .skip)))) (.post (.ops [⟨some 10, (.mov (.t 5)), none⟩, ⟨some 11, (.bin (.add .i64) (.t 10) (.c (D.i 1))), none⟩, ⟨some 5, (.mov (.t 11)), none⟩] false) (.keep [0, 3, 4, 5] []))))
def vc45_8 : VC := .loop vc45_9
def vc45_7 : VC := .block 0 vc45_8
def vc45_5 : VC := .seq vc45_6 vc45_7
def vc45_25 : VC := (.seq (.post (.ops [⟨some 22, (.mov (.t 0)), none⟩, ⟨some 2, (.mov (.t 22)), none⟩] false) (.keep [2] [])) .ret)
def vc45_4 : VC := .seq vc45_5 vc45_25
def vc45_2 : VC := .seq vc45_3 vc45_4
def vc45_0 : VC := .seq vc45_1 vc45_2
def vc46_0 : VC := (.seq (.post (.ops [⟨some 1, (.box (.t 0)), none⟩, ⟨some 2, (.mov (.c (D.b false))), none⟩] false) (.keep [1] [])) (.seq (.post (.ops [⟨some 3, (.fld (.t 1) 5), none⟩, ⟨some 4, (.ldF (.t 3)), none⟩, ⟨some 5, (.un .not (.t 4)), none⟩, ⟨some 6, (.mov (.t 5)), none⟩, ⟨some 7, (.fld (.t 1) 7), some (6, true)⟩, ⟨some 8, (.ldF (.t 7)), some (6, true)⟩, ⟨some 9, (.len (.t 8)), some (6, true)⟩, ⟨some 10, (.bin .gtI (.t 9) (.c (D.i 0))), some (6, true)⟩, ⟨some 11, (.pick (.t 6) (.t 10) (.c (D.b false))), none⟩, ⟨some 2, (.mov (.t 11)), none⟩] false) (.keep [2] [])) .ret))
def vc47_1 : VC := .post (.ops [⟨some 4, (.mov (.c (D.i 0))), none⟩] false) (.keep [0, 1] [])
def vc47_4 : VC := .post (.ops [⟨some 6, (.mov (.t 0)), none⟩,
  ⟨some 7, (.len (.t 6)), none⟩,
  ⟨some 8, (.mov (.c (D.i 0))), none⟩] false) (.keep [0, 1, 7, 8] [])
def vc47_7 : VC := (.seq (.post (.ops [⟨some 9, (.bin .ltI (.t 8) (.t 7)), none⟩] false) (.keep [0, 1, 7, 8, 9] [])) (.seq (.cond (.t 9) (.pre (.keep [0, 1, 7, 8] []) .skip) (.pre (.keep [] []) (.exit 0))) (.seq (.block 1 (.seq (.post (.ops [⟨some 10, (.mov (.t 8)), none⟩, ⟨some 5, (.mov (.t 10)), none⟩] false) (.keep [0, 1, 5, 7, 8] [])) (.seq (.post (.ops [⟨some 11, (.mov (.t 1)), none⟩, ⟨some 12, (.mov (.t 0)), none⟩, ⟨some 13, (.mov (.t 5)), none⟩, ⟨some 14, (.ixa (.t 12) (.t 13)), none⟩, ⟨some 15, (.ldF (.t 14)), none⟩, ⟨some 16, (.bin .seq (.t 11) (.t 15)), none⟩] false) (.keep [0, 1, 5, 7, 8, 16] [])) (.cond (.t 16) (.pre (.keep [5] []) (.seq (.post (.ops [⟨some 17, (.mov (.t 5)), none⟩, ⟨some 4, (.mov (.t 17)), none⟩] false) (.keep [4] [])) .ret)) (.pre (.keep [0, 1, 7, 8] []) .skip))))) (.post (.ops [⟨some 18, (.bin (.add .i64) (.t 8) (.c (D.i 1))), none⟩, ⟨some 8, (.mov (.t 18)), none⟩] false) (.keep [0, 1, 7, 8] [])))))
def vc47_6 : VC := .loop vc47_7
def vc47_5 : VC := .block 0 vc47_6
def vc47_3 : VC := .seq vc47_4 vc47_5
def vc47_25 : VC := (.seq (.post (.ops [⟨some 4, (.mov (.c (D.i (-1)))), none⟩] false) (.keep [4] [])) .ret)
def vc47_2 : VC := .seq vc47_3 vc47_25
def vc47_0 : VC := .seq vc47_1 vc47_2
def vc48_0 : VC := (.seq (.post (.ops [⟨some 4, (.mov (.c (D.b false))), none⟩] false) (.keep [0, 1] [])) (.seq (.post (.ops [⟨some 5, (.mov (.t 0)), none⟩, ⟨some 6, (.mov (.t 1)), none⟩, ⟨some 7, (.call 52 [(.t 5), (.t 6)] []), none⟩, ⟨some 8, (.bin .geI (.t 7) (.c (D.i 0))), none⟩, ⟨some 4, (.mov (.t 8)), none⟩] false) (.keep [4] [])) .ret))
def vc49_0 : VC := (.seq (.post (.ops [⟨some 3, (.box (.t 0)), none⟩, ⟨some 4, (.mov (.c (D.b false))), none⟩] false) (.keep [1, 2, 3] [])) (.seq (.post (.ops [⟨some 5, (.ldF (.t 1)), none⟩, ⟨some 6, (.ldF (.t 3)), none⟩, ⟨some 7, (.ldF (.t 2)), none⟩, ⟨some 8, (.call 35 [(.t 5), (.t 6), (.t 7)] []), none⟩, ⟨some 4, (.mov (.t 8)), none⟩] false) (.keep [4] [])) .ret))
def vc50_1 : VC := .post (.ops [⟨some 4, (.mov (.c (D.i 0))), none⟩] false) (.keep [0, 1] [])
def vc50_4 : VC := .post (.ops [⟨some 6, (.mov (.t 0)), none⟩,
  ⟨some 7, (.len (.t 6)), none⟩,
  ⟨some 8, (.mov (.c (D.i 0))), none⟩] false) (.keep [0, 1, 7, 8] [])
def vc50_7 : VC := (.seq (.post (.ops [⟨some 9, (.bin .ltI (.t 8) (.t 7)), none⟩] false) (.keep [0, 1, 7, 8, 9] [])) (.seq (.cond (.t 9) (.pre (.keep [0, 1, 7, 8] []) .skip) (.pre (.keep [] []) (.exit 0))) (.seq (.block 1 (.seq (.post (.ops [⟨some 10, (.mov (.t 8)), none⟩, ⟨some 5, (.mov (.t 10)), none⟩] false) (.keep [0, 1, 5, 7, 8] [])) (.seq (.post (.ops [⟨some 11, (.mov (.t 1)), none⟩, ⟨some 12, (.mov (.t 0)), none⟩, ⟨some 13, (.mov (.t 5)), none⟩, ⟨some 14, (.ixa (.t 12) (.t 13)), none⟩, ⟨some 15, (.ldF (.t 14)), none⟩, ⟨some 16, (.bin .eqI (.t 11) (.t 15)), none⟩] false) (.keep [0, 1, 5, 7, 8, 16] [])) (.cond (.t 16) (.pre (.keep [5] []) (.seq (.post (.ops [⟨some 17, (.mov (.t 5)), none⟩, ⟨some 4, (.mov (.t 17)), none⟩] false) (.keep [4] [])) .ret)) (.pre (.keep [0, 1, 7, 8] []) .skip))))) (.post (.ops [⟨some 18, (.bin (.add .i64) (.t 8) (.c (D.i 1))), none⟩, ⟨some 8, (.mov (.t 18)), none⟩] false) (.keep [0, 1, 7, 8] [])))))
def vc50_6 : VC := .loop vc50_7
def vc50_5 : VC := .block 0 vc50_6
def vc50_3 : VC := .seq vc50_4 vc50_5
def vc50_25 : VC := (.seq (.post (.ops [⟨some 4, (.mov (.c (D.i (-1)))), none⟩] false) (.keep [4] [])) .ret)
def vc50_2 : VC := .seq vc50_3 vc50_25
def vc50_0 : VC := .seq vc50_1 vc50_2
def vc51_1 : VC := .post (.ops [⟨some 4, (.mov (.c (D.i 0))), none⟩] false) (.keep [0, 1] [])
def vc51_4 : VC := .post (.ops [⟨some 6, (.mov (.t 0)), none⟩,
  ⟨some 7, (.len (.t 6)), none⟩,
  ⟨some 8, (.mov (.c (D.i 0))), none⟩] false) (.keep [0, 1, 7, 8] [])
def vc51_7 : VC := (.seq (.post (.ops [⟨some 9, (.bin .ltI (.t 8) (.t 7)), none⟩] false) (.keep [0, 1, 7, 8, 9] [])) (.seq (.cond (.t 9) (.pre (.keep [0, 1, 7, 8] []) .skip) (.pre (.keep [] []) (.exit 0))) (.seq (.block 1 (.seq (.post (.ops [⟨some 10, (.mov (.t 8)), none⟩, ⟨some 5, (.mov (.t 10)), none⟩] false) (.keep [0, 1, 5, 7, 8] [])) (.seq (.post (.ops [⟨some 11, (.mov (.t 1)), none⟩, ⟨some 12, (.mov (.t 0)), none⟩, ⟨some 13, (.mov (.t 5)), none⟩, ⟨some 14, (.ixa (.t 12) (.t 13)), none⟩, ⟨some 15, (.ldF (.t 14)), none⟩, ⟨some 16, (.callv (.t 11) [(.t 15)] [Ty.v 4, Ty.v 36] []), none⟩] false) (.keep [0, 1, 5, 7, 8, 16] [])) (.cond (.t 16) (.pre (.keep [5] []) (.seq (.post (.ops [⟨some 17, (.mov (.t 5)), none⟩, ⟨some 4, (.mov (.t 17)), none⟩] false) (.keep [4] [])) .ret)) (.pre (.keep [0, 1, 7, 8] []) .skip))))) (.post (.ops [⟨some 18, (.bin (.add .i64) (.t 8) (.c (D.i 1))), none⟩, ⟨some 8, (.mov (.t 18)), none⟩] false) (.keep [0, 1, 7, 8] [])))))
def vc51_6 : VC := .loop vc51_7
def vc51_5 : VC := .block 0 vc51_6
def vc51_3 : VC := .seq vc51_4 vc51_5
def vc51_25 : VC := (.seq (.post (.ops [⟨some 4, (.mov (.c (D.i (-1)))), none⟩] false) (.keep [4] [])) .ret)
def vc51_2 : VC := .seq vc51_3 vc51_25
def vc51_0 : VC := .seq vc51_1 vc51_2
def vc52_1 : VC := .post (.ops [⟨some 4, (.mov (.c (D.i 0))), none⟩] false) (.keep [0, 1] [])
def vc52_4 : VC := .post (.ops [⟨some 6, (.mov (.t 0)), none⟩,
  ⟨some 7, (.len (.t 6)), none⟩,
  ⟨some 8, (.mov (.c (D.i 0))), none⟩] false) (.keep [0, 1, 7, 8] [])
def vc52_7 : VC := (.seq (.post (.ops [⟨some 9, (.bin .ltI (.t 8) (.t 7)), none⟩] false) (.keep [0, 1, 7, 8, 9] [])) (.seq (.cond (.t 9) (.pre (.keep [0, 1, 7, 8] []) .skip) (.pre (.keep [] []) (.exit 0))) (.seq (.block 1 (.seq (.post (.ops [⟨some 10, (.mov (.t 8)), none⟩, ⟨some 5, (.mov (.t 10)), none⟩] false) (.keep [0, 1, 5, 7, 8] [])) (.seq (.post (.ops [⟨some 11, (.mov (.t 1)), none⟩, ⟨some 12, (.mov (.t 0)), none⟩, ⟨some 13, (.mov (.t 5)), none⟩, ⟨some 14, (.ixa (.t 12) (.t 13)), none⟩, ⟨some 15, (.ldF (.t 14)), none⟩, ⟨some 16, (.callv (.t 11) [(.t 15)] [Ty.v 4, Ty.v 42] []), none⟩] false) (.keep [0, 1, 5, 7, 8, 16] [])) (.cond (.t 16) (.pre (.keep [5] []) (.seq (.post (.ops [⟨some 17, (.mov (.t 5)), none⟩, ⟨some 4, (.mov (.t 17)), none⟩] false) (.keep [4] [])) .ret)) (.pre (.keep [0, 1, 7, 8] []) .skip))))) (.post (.ops [⟨some 18, (.bin (.add .i64) (.t 8) (.c (D.i 1))), none⟩, ⟨some 8, (.mov (.t 18)), none⟩] false) (.keep [0, 1, 7, 8] [])))))
def vc52_6 : VC := .loop vc52_7
def vc52_5 : VC := .block 0 vc52_6
def vc52_3 : VC := .seq vc52_4 vc52_5
def vc52_25 : VC := (.seq (.post (.ops [⟨some 4, (.mov (.c (D.i (-1)))), none⟩] false) (.keep [4] [])) .ret)
def vc52_2 : VC := .seq vc52_3 vc52_25
def vc52_0 : VC := .seq vc52_1 vc52_2
def vf3 : VFunc := { fid := 3, ptys := [Ty.v 26], slots := [Ty.v 26, Ty.p 26, Ty.v 4, Ty.v 4, Ty.v 4, Ty.v 4, Ty.v 26, Ty.v 4, Ty.v 4, Ty.v 4, Ty.v 4, Ty.v 26, Ty.v 30, Ty.v 26, Ty.v 30, Ty.v 4], rty := Ty.v 4, nin := 0, blocks := [], res := [.tmp 2 false], body := (.pre (.keep [0] []) vc3_0) }
def vf4 : VFunc := { fid := 4, ptys := [Ty.v 32, Ty.v 3], slots := [Ty.v 32, Ty.v 3, Ty.any, Ty.any, Ty.v 4, Ty.any, Ty.p 26, Ty.v 4, Ty.v 4, Ty.v 4, Ty.v 32, Ty.v 3, Ty.v 4, Ty.v 4, Ty.v 4, Ty.v 32, Ty.v 3, Ty.v 3, Ty.v 4, Ty.p 26, Ty.v 26, Ty.v 26, Ty.v 4, Ty.v 4, Ty.v 3, Ty.v 32, Ty.v 3, Ty.v 30, Ty.v 32, Ty.v 3, Ty.v 30, Ty.v 4], rty := Ty.v 4, nin := 0, blocks := [], res := [.tmp 4 false], body := (.pre (.keep [0, 1] []) vc4_0) }
def vf5 : VFunc := { fid := 5, ptys := [Ty.v 32, Ty.v 3], slots := [Ty.v 32, Ty.v 3, Ty.any, Ty.any, Ty.v 4, Ty.any, Ty.p 26, Ty.v 30, Ty.v 3, Ty.p 36, Ty.v 3, Ty.v 3, Ty.any, Ty.v 3, Ty.any, Ty.p 36, Ty.v 4, Ty.v 4, Ty.v 4, Ty.v 32, Ty.v 3, Ty.v 4, Ty.v 4, Ty.v 4, Ty.v 32, Ty.v 3, Ty.v 3, Ty.v 4, Ty.p 26, Ty.v 26, Ty.v 26, Ty.v 4, Ty.v 4, Ty.v 3, Ty.v 32, Ty.v 3, Ty.v 30, Ty.v 30, Ty.v 3, Ty.v 3, Ty.v 3, Ty.v 3, Ty.v 4, Ty.v 30, Ty.v 3, Ty.v 3, Ty.v 4, Ty.v 3, Ty.p 36, Ty.v 36, Ty.p 22, Ty.v 22, Ty.v 3, Ty.v 4, Ty.v 4, Ty.p 22, Ty.v 22, Ty.v 3, Ty.v 4, Ty.v 4, Ty.v 4, Ty.p 4, Ty.v 4, Ty.v 4, Ty.p 22, Ty.v 22, Ty.v 3, Ty.v 3, Ty.v 4, Ty.v 3, Ty.p 3, Ty.v 3, Ty.p 22, Ty.v 22, Ty.v 3, Ty.v 22, Ty.v 3, Ty.v 3, Ty.v 4, Ty.p 3, Ty.v 3, Ty.v 3, Ty.v 3, Ty.v 4, Ty.v 3, Ty.v 3, Ty.v 30, Ty.v 3, Ty.v 30, Ty.v 3, Ty.v 3, Ty.v 4, Ty.p 36, Ty.v 36, Ty.v 36, Ty.v 36, Ty.v 4, Ty.v 3, Ty.v 3], rty := Ty.v 4, nin := 0, blocks := [], res := [.tmp 4 false], body := (.pre (.keep [0, 1] []) vc5_0) }
def vf6 : VFunc := { fid := 6, ptys := [Ty.v 32, Ty.v 3], slots := [Ty.v 32, Ty.v 3, Ty.any, Ty.any, Ty.v 4, Ty.any, Ty.p 26, Ty.v 30, Ty.v 30, Ty.v 3, Ty.p 36, Ty.v 30, Ty.v 3, Ty.p 36, Ty.v 4, Ty.v 4, Ty.v 4, Ty.v 32, Ty.v 3, Ty.v 4, Ty.v 4, Ty.v 4, Ty.v 32, Ty.v 3, Ty.v 4, Ty.v 4, Ty.v 4, Ty.v 32, Ty.v 3, Ty.v 3, Ty.v 4, Ty.p 26, Ty.v 26, Ty.v 26, Ty.v 4, Ty.v 4, Ty.v 3, Ty.v 32, Ty.p 26, Ty.v 26, Ty.v 30, Ty.v 32, Ty.v 30, Ty.v 30, Ty.v 3, Ty.v 3, Ty.v 4, Ty.v 3, Ty.p 36, Ty.v 36, Ty.v 3, Ty.v 30, Ty.v 3, Ty.v 4, Ty.v 4, Ty.v 30, Ty.v 3, Ty.p 36, Ty.v 36, Ty.v 36, Ty.v 4, Ty.v 4, Ty.v 4, Ty.v 3, Ty.v 32, Ty.v 3, Ty.v 30, Ty.v 3, Ty.v 3, Ty.v 3, Ty.v 30, Ty.v 30, Ty.v 3, Ty.v 3, Ty.v 4, Ty.v 3, Ty.p 36, Ty.v 36, Ty.v 3, Ty.v 30, Ty.v 3, Ty.v 4, Ty.v 4, Ty.v 30, Ty.v 3, Ty.p 36, Ty.v 36, Ty.v 36, Ty.v 4, Ty.v 4, Ty.v 4, Ty.v 3, Ty.v 30, Ty.v 3, Ty.v 30, Ty.v 3, Ty.v 4], rty := Ty.v 4, nin := 0, blocks := [], res := [.tmp 4 false], body := (.pre (.keep [0, 1] []) vc6_0) }
def vf7 : VFunc := { fid := 7, ptys := [], slots := [Ty.v 4, Ty.p 42, Ty.p 26, Ty.v 30, Ty.v 40, Ty.v 42, Ty.v 22, Ty.v 22, Ty.v 44, Ty.v 24, Ty.v 42, Ty.v 42, Ty.v 23, Ty.v 42, Ty.v 42, Ty.v 42, Ty.v 23, Ty.v 42, Ty.v 23, Ty.v 26, Ty.v 26, Ty.v 30, Ty.v 30, Ty.v 3, Ty.v 4, Ty.v 4, Ty.v 30, Ty.p 36, Ty.p 22, Ty.v 22, Ty.v 3, Ty.v 4, Ty.v 4, Ty.v 4, Ty.v 30, Ty.p 36, Ty.p 22, Ty.v 22, Ty.p 3, Ty.v 3, Ty.v 4, Ty.v 4, Ty.v 4, Ty.v 30, Ty.p 36, Ty.p 22, Ty.v 22, Ty.p 3, Ty.v 3, Ty.v 4, Ty.v 4], rty := Ty.v 4, nin := 0, blocks := [], res := [.tmp 0 false], body := (.pre (.keep [] []) vc7_0) }
def vf8 : VFunc := { fid := 8, ptys := [Ty.v 26], slots := [Ty.v 26, Ty.p 26, Ty.v 4, Ty.any, Ty.p 42, Ty.p 22, Ty.v 22, Ty.v 3, Ty.v 4, Ty.v 4, Ty.p 22, Ty.v 22, Ty.v 3, Ty.v 4, Ty.v 4, Ty.v 4, Ty.p 23, Ty.v 23, Ty.v 3, Ty.v 4, Ty.v 4, Ty.v 4, Ty.p 24, Ty.v 24, Ty.v 3, Ty.v 4, Ty.v 4, Ty.p 23, Ty.v 23, Ty.v 3, Ty.v 3, Ty.v 4, Ty.p 42, Ty.v 42, Ty.v 42, Ty.v 3, Ty.v 4, Ty.v 3], rty := Ty.v 4, nin := 0, blocks := [], res := [.tmp 2 false], body := (.pre (.keep [0] []) vc8_0) }
def vf9 : VFunc := { fid := 9, ptys := [Ty.v 30, Ty.v 30], slots := [Ty.v 30, Ty.v 30, Ty.any, Ty.any, Ty.v 4, Ty.v 3, Ty.v 30, Ty.v 3, Ty.v 30, Ty.v 3, Ty.v 4, Ty.v 30, Ty.v 3, Ty.v 3, Ty.v 4, Ty.v 3, Ty.v 30, Ty.v 3, Ty.p 36, Ty.v 36, Ty.v 30, Ty.v 3, Ty.p 36, Ty.v 36, Ty.v 4, Ty.v 4, Ty.v 3], rty := Ty.v 4, nin := 0, blocks := [], res := [.tmp 4 false], body := (.pre (.keep [0, 1] []) vc9_0) }
def vf10 : VFunc := { fid := 10, ptys := [Ty.v 26], slots := [Ty.v 26, Ty.p 26, Ty.v 30, Ty.v 30, Ty.v 3, Ty.v 3, Ty.v 22, Ty.v 22, Ty.any, Ty.v 3, Ty.any, Ty.v 3, Ty.v 22, Ty.any, Ty.p 44, Ty.p 22, Ty.v 22, Ty.v 3, Ty.v 3, Ty.v 4, Ty.v 3, Ty.p 3, Ty.v 3, Ty.v 3, Ty.p 22, Ty.v 22, Ty.v 3, Ty.v 4, Ty.v 26, Ty.v 3, Ty.v 59, Ty.v 22, Ty.v 26, Ty.v 3, Ty.v 59, Ty.v 22, Ty.v 30, Ty.v 3, Ty.v 22, Ty.v 30, Ty.v 22, Ty.v 3, Ty.v 3, Ty.v 4, Ty.p 3, Ty.v 3, Ty.v 30, Ty.v 3, Ty.v 22, Ty.v 22, Ty.v 3, Ty.v 3, Ty.v 22, Ty.v 3, Ty.v 22, Ty.v 22, Ty.v 30, Ty.v 3, Ty.v 22, Ty.v 22, Ty.v 22, Ty.v 3, Ty.v 3, Ty.v 4, Ty.p 3, Ty.v 3, Ty.v 30, Ty.v 3, Ty.v 3, Ty.v 22, Ty.v 30, Ty.v 3, Ty.v 26, Ty.v 4, Ty.v 4, Ty.p 24, Ty.v 24, Ty.v 4, Ty.v 4, Ty.v 4, Ty.p 24, Ty.v 24, Ty.v 3, Ty.v 3, Ty.v 4, Ty.p 44, Ty.v 44, Ty.v 22, Ty.p 3, Ty.v 3, Ty.v 22, Ty.v 22, Ty.v 3, Ty.v 26, Ty.v 3, Ty.v 22, Ty.v 22, Ty.v 30, Ty.v 3, Ty.v 22, Ty.v 30, Ty.v 22, Ty.v 3, Ty.v 4, Ty.v 30, Ty.v 3, Ty.v 22, Ty.v 22, Ty.v 22, Ty.v 30, Ty.v 3, Ty.v 30], rty := Ty.v 30, nin := 0, blocks := [], res := [.tmp 2 false], body := (.pre (.keep [0] []) vc10_0) }
def vf11 : VFunc := { fid := 11, ptys := [Ty.v 26], slots := [Ty.v 26, Ty.p 26, Ty.v 30, Ty.v 30, Ty.v 3, Ty.v 3, Ty.v 22, Ty.v 22, Ty.v 3, Ty.v 22, Ty.v 3, Ty.v 22, Ty.v 3, Ty.p 22, Ty.v 22, Ty.v 3, Ty.v 4, Ty.v 4, Ty.v 3, Ty.p 22, Ty.v 22, Ty.v 3, Ty.v 4, Ty.v 4, Ty.v 3, Ty.v 3, Ty.p 22, Ty.v 22, Ty.v 3, Ty.p 3, Ty.v 3, Ty.v 26, Ty.v 3, Ty.v 22, Ty.v 26, Ty.v 3, Ty.v 22, Ty.v 30, Ty.v 3, Ty.v 22, Ty.v 30, Ty.v 3, Ty.v 22, Ty.v 3, Ty.v 4, Ty.v 3, Ty.v 3, Ty.v 30, Ty.v 3, Ty.v 22, Ty.v 22, Ty.v 22, Ty.v 3, Ty.p 3, Ty.v 3, Ty.v 22, Ty.v 30, Ty.v 22, Ty.v 22, Ty.v 22, Ty.v 3, Ty.v 22, Ty.v 3, Ty.v 4, Ty.v 3, Ty.v 3, Ty.v 30, Ty.v 3, Ty.v 22, Ty.v 3, Ty.p 3, Ty.v 3, Ty.v 22, Ty.v 30, Ty.v 26, Ty.v 3, Ty.v 22, Ty.v 30, Ty.v 3, Ty.v 22, Ty.v 30, Ty.v 22, Ty.v 3, Ty.v 4, Ty.v 30, Ty.v 3, Ty.v 22, Ty.v 22, Ty.v 22, Ty.v 30, Ty.v 30], rty := Ty.v 30, nin := 0, blocks := [], res := [.tmp 2 false], body := (.pre (.keep [0] []) vc11_0) }
def vf12 : VFunc := { fid := 12, ptys := [Ty.v 32, Ty.v 3], slots := [Ty.v 32, Ty.v 3, Ty.any, Ty.any, Ty.v 30, Ty.v 30, Ty.any, Ty.p 26, Ty.any, Ty.p 36, Ty.v 30, Ty.any, Ty.p 36, Ty.any, Ty.p 36, Ty.p 36, Ty.v 4, Ty.v 3, Ty.v 3, Ty.v 3, Ty.v 32, Ty.v 3, Ty.v 3, Ty.v 4, Ty.p 26, Ty.v 26, Ty.v 26, Ty.v 30, Ty.v 3, Ty.v 3, Ty.v 4, Ty.p 36, Ty.v 36, Ty.v 30, Ty.v 3, Ty.v 3, Ty.v 4, Ty.v 30, Ty.p 3, Ty.v 3, Ty.p 22, Ty.v 22, Ty.v 30, Ty.v 3, Ty.v 3, Ty.v 30, Ty.v 30, Ty.v 3, Ty.v 3, Ty.v 4, Ty.p 36, Ty.v 36, Ty.v 30, Ty.v 3, Ty.v 3, Ty.v 4, Ty.p 36, Ty.v 36, Ty.tup [Ty.v 36, Ty.v 4], Ty.v 36, Ty.v 36, Ty.tup [Ty.v 36, Ty.v 4], Ty.v 36, Ty.v 4, Ty.v 4, Ty.v 4, Ty.v 30, Ty.v 3, Ty.v 3, Ty.v 4, Ty.v 4, Ty.v 30, Ty.p 3, Ty.v 3, Ty.p 22, Ty.v 22, Ty.v 30, Ty.v 3, Ty.v 3, Ty.v 30], rty := Ty.v 30, nin := 0, blocks := [], res := [.tmp 4 false], body := (.pre (.keep [0, 1] []) vc12_0) }
def vf13 : VFunc := { fid := 13, ptys := [Ty.v 32, Ty.v 3], slots := [Ty.v 32, Ty.v 3, Ty.any, Ty.any, Ty.v 30, Ty.v 30, Ty.v 3, Ty.v 30, Ty.v 3, Ty.v 30, Ty.v 3, Ty.v 3, Ty.p 36, Ty.v 4, Ty.v 3, Ty.v 3, Ty.v 3, Ty.v 3, Ty.v 32, Ty.v 3, Ty.v 4, Ty.v 3, Ty.v 3, Ty.v 32, Ty.v 3, Ty.p 26, Ty.v 26, Ty.v 30, Ty.v 3, Ty.v 30, Ty.v 3, Ty.v 4, Ty.v 4, Ty.v 30, Ty.v 3, Ty.v 3, Ty.v 4, Ty.v 4, Ty.v 3, Ty.v 3, Ty.v 30, Ty.v 30, Ty.v 3, Ty.p 36, Ty.p 3, Ty.v 3, Ty.v 30, Ty.v 3, Ty.p 36, Ty.p 22, Ty.v 22, Ty.v 30, Ty.v 30, Ty.v 3, Ty.v 30, Ty.v 3, Ty.v 4, Ty.v 3, Ty.v 3, Ty.v 3, Ty.v 30, Ty.v 3, Ty.v 4, Ty.v 4, Ty.v 30, Ty.v 3, Ty.v 3, Ty.v 4, Ty.v 4, Ty.v 3, Ty.v 3, Ty.tup [Ty.v 36, Ty.v 4], Ty.v 30, Ty.v 3, Ty.p 36, Ty.v 36, Ty.v 30, Ty.v 3, Ty.p 36, Ty.v 36, Ty.tup [Ty.v 36, Ty.v 4], Ty.v 36, Ty.v 4, Ty.v 4, Ty.v 30, Ty.p 3, Ty.v 3, Ty.p 22, Ty.v 22, Ty.v 30, Ty.v 30], rty := Ty.v 30, nin := 0, blocks := [], res := [.tmp 4 false], body := (.pre (.keep [0, 1] []) vc13_0) }
def vf14 : VFunc := { fid := 14, ptys := [Ty.v 36, Ty.v 36], slots := [Ty.v 36, Ty.v 36, Ty.p 36, Ty.p 36, Ty.v 4, Ty.v 3, Ty.p 3, Ty.v 3, Ty.p 3, Ty.v 3, Ty.v 4, Ty.v 4, Ty.p 4, Ty.v 4, Ty.p 4, Ty.v 4, Ty.v 4, Ty.v 4, Ty.v 4, Ty.p 22, Ty.v 22, Ty.v 3, Ty.p 22, Ty.v 22, Ty.v 3, Ty.v 4, Ty.v 4, Ty.v 3, Ty.p 22, Ty.v 22, Ty.v 3, Ty.v 4, Ty.v 3, Ty.v 3, Ty.p 22, Ty.v 22, Ty.v 3, Ty.p 3, Ty.v 3, Ty.p 22, Ty.v 22, Ty.v 3, Ty.p 3, Ty.v 3, Ty.v 4], rty := Ty.v 4, nin := 0, blocks := [], res := [.tmp 4 false], body := (.pre (.keep [0, 1] []) vc14_0) }
def vf15 : VFunc := { fid := 15, ptys := [Ty.v 3], slots := [Ty.v 3, Ty.any, Ty.p 42, Ty.v 3, Ty.v 42], rty := Ty.v 42, nin := 0, blocks := [], res := [.cell 2], body := (.pre (.keep [0] []) vc15_0) }
def vf16 : VFunc := { fid := 16, ptys := [Ty.v 42, Ty.v 3], slots := [Ty.v 42, Ty.v 3, Ty.p 42, Ty.any, Ty.v 3, Ty.v 3, Ty.any, Ty.p 42, Ty.p 23, Ty.v 23, Ty.v 3, Ty.v 3, Ty.v 4, Ty.p 42, Ty.v 42, Ty.v 3, Ty.v 3, Ty.v 4, Ty.v 3, Ty.v 42, Ty.v 3, Ty.v 3, Ty.v 3, Ty.v 3, Ty.v 3, Ty.v 3, Ty.v 3], rty := Ty.v 3, nin := 0, blocks := [], res := [.tmp 4 false], body := (.pre (.keep [0, 1] []) vc16_0) }
def vf17 : VFunc := { fid := 17, ptys := [Ty.v 26, Ty.v 3, Ty.v 59], slots := [Ty.v 26, Ty.v 3, Ty.v 59, Ty.p 26, Ty.any, Ty.any, Ty.v 22, Ty.v 22, Ty.any, Ty.p 42, Ty.v 3, Ty.p 42, Ty.v 9, Ty.v 3, Ty.v 3, Ty.v 4, Ty.p 23, Ty.v 23, Ty.v 3, Ty.v 3, Ty.v 4, Ty.p 42, Ty.v 42, Ty.p 3, Ty.v 3, Ty.v 4, Ty.v 4, Ty.p 23, Ty.v 23, Ty.v 3, Ty.v 4, Ty.v 4, Ty.p 23, Ty.v 23, Ty.v 3, Ty.v 3, Ty.v 4, Ty.v 3, Ty.p 42, Ty.v 42, Ty.p 9, Ty.v 9, Ty.v 3, Ty.v 4, Ty.v 9, Ty.v 9, Ty.tup [Ty.v 3, Ty.v 3, Ty.v 4], Ty.v 26, Ty.p 3, Ty.v 3, Ty.tup [Ty.v 3, Ty.v 3, Ty.v 4], Ty.v 3, Ty.v 3, Ty.v 4, Ty.p 3, Ty.v 3, Ty.v 4, Ty.v 4, Ty.v 4, Ty.v 4, Ty.v 4, Ty.v 3, Ty.v 3, Ty.v 4, Ty.v 4, Ty.v 4, Ty.v 59, Ty.v 9, Ty.v 4, Ty.v 4, Ty.v 4, Ty.v 26, Ty.p 23, Ty.v 23, Ty.v 3, Ty.v 3, Ty.p 42, Ty.v 42, Ty.v 3, Ty.v 4, Ty.v 4, Ty.v 4, Ty.v 4, Ty.v 22, Ty.v 3, Ty.v 4, Ty.v 4, Ty.v 4, Ty.v 22, Ty.v 3, Ty.v 22, Ty.v 22, Ty.v 3, Ty.v 3, Ty.v 22], rty := Ty.v 22, nin := 0, blocks := [], res := [.tmp 6 false], body := (.pre (.keep [0, 1, 2] []) vc17_0) }
def vf18 : VFunc := { fid := 18, ptys := [Ty.v 30, Ty.v 3, Ty.v 22], slots := [Ty.v 30, Ty.v 3, Ty.v 22, Ty.any, Ty.p 3, Ty.p 22, Ty.v 30, Ty.v 22, Ty.v 22, Ty.v 3, Ty.v 3, Ty.v 22, Ty.v 22, Ty.v 22, Ty.v 3, Ty.v 4, Ty.v 4, Ty.v 30, Ty.v 69, Ty.v 4, Ty.v 4, Ty.v 30, Ty.v 30, Ty.v 30, Ty.v 3, Ty.v 22, Ty.v 36, Ty.v 30, Ty.v 30], rty := Ty.v 30, nin := 0, blocks := [BTy.var 22], res := [.tmp 6 false], body := (.pre (.keep [0, 1, 2] []) vc18_0) }
def vf19 : VFunc := { fid := 19, ptys := [Ty.v 22, Ty.v 22], slots := [Ty.v 22, Ty.v 22, Ty.any, Ty.any, Ty.v 22, Ty.v 22, Ty.any, Ty.v 3, Ty.v 22, Ty.v 22, Ty.v 22, Ty.v 3, Ty.v 3, Ty.v 4, Ty.p 3, Ty.v 3, Ty.v 22, Ty.v 3, Ty.v 4, Ty.v 4, Ty.v 22, Ty.v 3, Ty.v 22, Ty.v 22, Ty.v 3, Ty.v 22], rty := Ty.v 22, nin := 0, blocks := [], res := [.tmp 4 false], body := (.pre (.keep [0, 1] []) vc19_0) }
def vf20 : VFunc := { fid := 20, ptys := [Ty.v 26], slots := [Ty.v 26, Ty.p 26, Ty.v 4, Ty.p 4, Ty.v 4, Ty.v 4, Ty.v 4, Ty.p 24, Ty.v 24, Ty.v 3, Ty.v 4, Ty.v 4], rty := Ty.v 4, nin := 0, blocks := [], res := [.tmp 2 false], body := (.pre (.keep [0] []) vc20_0) }
def vf21 : VFunc := { fid := 21, ptys := [Ty.v 24, Ty.v 51], slots := [Ty.v 24, Ty.v 51, Ty.any, Ty.any, Ty.v 4, Ty.v 24, Ty.v 51, Ty.v 3, Ty.v 4], rty := Ty.v 4, nin := 0, blocks := [], res := [.tmp 4 false], body := (.pre (.keep [0, 1] []) vc21_0) }
def vf22 : VFunc := { fid := 22, ptys := [Ty.v 44], slots := [Ty.v 44, Ty.p 44, Ty.v 4, Ty.p 4, Ty.v 4], rty := Ty.v 4, nin := 0, blocks := [], res := [.tmp 2 false], body := (.pre (.keep [0] []) vc22_0) }
def vf23 : VFunc := { fid := 23, ptys := [Ty.v 26, Ty.v 3, Ty.v 22], slots := [Ty.v 26, Ty.v 3, Ty.v 22, Ty.p 26, Ty.any, Ty.any, Ty.v 22, Ty.v 22, Ty.any, Ty.v 3, Ty.v 3, Ty.v 3, Ty.v 4, Ty.v 22, Ty.v 3, Ty.v 3, Ty.v 4, Ty.p 3, Ty.v 3, Ty.tup [Ty.v 3, Ty.v 3, Ty.v 4], Ty.v 26, Ty.v 3, Ty.tup [Ty.v 3, Ty.v 3, Ty.v 4], Ty.v 3, Ty.v 3, Ty.v 4, Ty.v 4, Ty.v 4, Ty.v 4, Ty.v 3, Ty.v 3, Ty.v 4, Ty.v 4, Ty.v 22, Ty.v 3, Ty.v 4, Ty.v 4, Ty.v 22, Ty.v 3, Ty.v 22, Ty.v 22, Ty.v 3, Ty.v 22], rty := Ty.v 22, nin := 0, blocks := [], res := [.tmp 6 false], body := (.pre (.keep [0, 1, 2] []) vc23_0) }
def vf24 : VFunc := { fid := 24, ptys := [Ty.v 26, Ty.v 3, Ty.v 4], slots := [Ty.v 26, Ty.v 3, Ty.v 4, Ty.p 26, Ty.any, Ty.any, Ty.v 22, Ty.v 22, Ty.v 3, Ty.p 42, Ty.v 9, Ty.v 3, Ty.p 42, Ty.v 4, Ty.v 3, Ty.p 23, Ty.v 23, Ty.v 3, Ty.v 4, Ty.v 3, Ty.v 3, Ty.p 23, Ty.v 23, Ty.v 3, Ty.p 42, Ty.v 42, Ty.p 3, Ty.v 3, Ty.v 4, Ty.v 4, Ty.p 23, Ty.v 23, Ty.v 3, Ty.v 4, Ty.v 4, Ty.p 9, Ty.v 9, Ty.v 3, Ty.v 4, Ty.v 3, Ty.v 3, Ty.p 23, Ty.v 23, Ty.v 3, Ty.p 42, Ty.v 42, Ty.v 9, Ty.v 4, Ty.v 4, Ty.v 4, Ty.v 4, Ty.v 4, Ty.v 4, Ty.v 4, Ty.v 4, Ty.v 9, Ty.v 4, Ty.v 4, Ty.v 9, Ty.v 4, Ty.v 4, Ty.v 4, Ty.v 9, Ty.v 4, Ty.v 4, Ty.v 4, Ty.v 9, Ty.v 4, Ty.v 4, Ty.v 4, Ty.v 4, Ty.p 3, Ty.v 3, Ty.v 4, Ty.v 4, Ty.v 26, Ty.p 3, Ty.v 3, Ty.v 3, Ty.v 3, Ty.v 4, Ty.v 4, Ty.v 4, Ty.v 4, Ty.v 4, Ty.v 4, Ty.v 26, Ty.p 23, Ty.v 23, Ty.v 3, Ty.v 3, Ty.p 42, Ty.v 42, Ty.v 3, Ty.v 4, Ty.v 4, Ty.v 4, Ty.v 22, Ty.p 3, Ty.v 3, Ty.p 22, Ty.v 22, Ty.v 3, Ty.p 3, Ty.v 3, Ty.v 3, Ty.v 22, Ty.v 9, Ty.v 9, Ty.v 22], rty := Ty.v 22, nin := 0, blocks := [], res := [.tmp 6 false], body := (.pre (.keep [0, 1, 2] []) vc24_0) }
def vf25 : VFunc := { fid := 25, ptys := [Ty.v 30, Ty.v 3, Ty.v 22], slots := [Ty.v 30, Ty.v 3, Ty.v 22, Ty.any, Ty.any, Ty.any, Ty.v 30, Ty.p 36, Ty.v 3, Ty.v 30, Ty.v 3, Ty.v 22, Ty.v 22, Ty.v 36, Ty.p 22, Ty.v 22, Ty.v 3, Ty.v 4, Ty.v 30, Ty.v 3, Ty.v 30, Ty.v 3, Ty.v 4, Ty.v 3, Ty.v 3, Ty.v 30, Ty.v 3, Ty.p 36, Ty.v 36, Ty.v 36, Ty.v 4, Ty.v 30, Ty.v 30, Ty.v 30, Ty.v 30, Ty.v 30, Ty.v 36, Ty.v 30, Ty.v 30], rty := Ty.v 30, nin := 0, blocks := [], res := [.tmp 6 false], body := (.pre (.keep [0, 1, 2] []) vc25_0) }
def vf26 : VFunc := { fid := 26, ptys := [Ty.v 22, Ty.v 3], slots := [Ty.v 22, Ty.v 3, Ty.any, Ty.any, Ty.v 22, Ty.v 3, Ty.v 22, Ty.v 3, Ty.v 22, Ty.v 3, Ty.v 4, Ty.v 3, Ty.v 3, Ty.v 22, Ty.v 3, Ty.p 3, Ty.v 3, Ty.v 3, Ty.v 4, Ty.v 22, Ty.v 22, Ty.v 22, Ty.v 22, Ty.v 22, Ty.v 3, Ty.v 22, Ty.v 22], rty := Ty.v 22, nin := 0, blocks := [], res := [.tmp 4 false], body := (.pre (.keep [0, 1] []) vc26_0) }
def vf27 : VFunc := { fid := 27, ptys := [Ty.v 22, Ty.v 3], slots := [Ty.v 22, Ty.v 3, Ty.any, Ty.any, Ty.v 22, Ty.v 22, Ty.v 22, Ty.v 3, Ty.v 3, Ty.v 3, Ty.v 22], rty := Ty.v 22, nin := 0, blocks := [], res := [.tmp 4 false], body := (.pre (.keep [0, 1] []) vc27_0) }
def vf28 : VFunc := { fid := 28, ptys := [Ty.v 22, Ty.v 22], slots := [Ty.v 22, Ty.v 22, Ty.any, Ty.any, Ty.v 22, Ty.v 3, Ty.v 3, Ty.v 22, Ty.v 3, Ty.v 4, Ty.v 3, Ty.v 3, Ty.v 22, Ty.v 22, Ty.v 3, Ty.p 3, Ty.v 3, Ty.v 22, Ty.v 22], rty := Ty.v 22, nin := 0, blocks := [], res := [.tmp 4 false], body := (.pre (.keep [0, 1] []) vc28_0) }
def vf29 : VFunc := { fid := 29, ptys := [Ty.v 26, Ty.v 3], slots := [Ty.v 26, Ty.v 3, Ty.p 26, Ty.any, Ty.v 22, Ty.v 22, Ty.v 3, Ty.v 3, Ty.p 24, Ty.v 24, Ty.v 3, Ty.v 4, Ty.v 3, Ty.v 3, Ty.p 24, Ty.v 24, Ty.v 3, Ty.p 44, Ty.p 4, Ty.v 4, Ty.v 4, Ty.v 26, Ty.p 24, Ty.v 24, Ty.v 3, Ty.p 44, Ty.p 3, Ty.v 3, Ty.v 3, Ty.v 3, Ty.v 4, Ty.v 4, Ty.v 22, Ty.p 24, Ty.v 24, Ty.v 3, Ty.p 44, Ty.p 3, Ty.v 3, Ty.p 22, Ty.v 22, Ty.v 3, Ty.p 3, Ty.v 3, Ty.v 3, Ty.v 22, Ty.v 26, Ty.v 4, Ty.v 4, Ty.v 22], rty := Ty.v 22, nin := 0, blocks := [], res := [.tmp 4 false], body := (.pre (.keep [0, 1] []) vc29_0) }
def vf30 : VFunc := { fid := 30, ptys := [Ty.v 36, Ty.v 36], slots := [Ty.v 36, Ty.v 36, Ty.p 36, Ty.p 36, Ty.p 36, Ty.v 4, Ty.v 22, Ty.p 3, Ty.v 3, Ty.p 3, Ty.v 3, Ty.v 4, Ty.v 36, Ty.p 22, Ty.v 22, Ty.p 22, Ty.v 22, Ty.v 22, Ty.p 3, Ty.v 3, Ty.v 22, Ty.v 22, Ty.v 3, Ty.v 3, Ty.v 22, Ty.v 36], rty := Ty.tup [Ty.v 36, Ty.v 4], nin := 0, blocks := [], res := [.cell 4, .tmp 5 false], body := (.pre (.keep [0, 1] []) vc30_0) }
def vf31 : VFunc := { fid := 31, ptys := [Ty.v 36, Ty.v 36], slots := [Ty.v 36, Ty.v 36, Ty.p 36, Ty.p 36, Ty.p 36, Ty.v 4, Ty.p 3, Ty.v 3, Ty.p 3, Ty.v 3, Ty.v 4, Ty.v 36, Ty.p 3, Ty.v 3, Ty.p 22, Ty.v 22, Ty.p 22, Ty.v 22, Ty.v 22, Ty.v 22, Ty.v 36], rty := Ty.tup [Ty.v 36, Ty.v 4], nin := 0, blocks := [], res := [.cell 4, .tmp 5 false], body := (.pre (.keep [0, 1] []) vc31_0) }
def vf32 : VFunc := { fid := 32, ptys := [Ty.v 9], slots := [Ty.v 9, Ty.any, Ty.v 9, Ty.v 9, Ty.v 4, Ty.v 4, Ty.v 4, Ty.v 4, Ty.v 4, Ty.v 4, Ty.v 4, Ty.v 4, Ty.v 9], rty := Ty.v 9, nin := 0, blocks := [], res := [.tmp 2 false], body := (.pre (.keep [0] []) vc32_0) }
def vf33 : VFunc := { fid := 33, ptys := [Ty.v 26, Ty.v 3], slots := [Ty.v 26, Ty.v 3, Ty.p 26, Ty.any, Ty.v 3, Ty.v 3, Ty.v 4, Ty.v 3, Ty.p 22, Ty.v 22, Ty.v 3, Ty.v 3, Ty.v 3, Ty.v 4, Ty.v 4, Ty.v 3, Ty.v 4, Ty.v 4, Ty.v 3, Ty.v 3, Ty.v 3, Ty.p 22, Ty.v 22, Ty.v 3, Ty.p 3, Ty.v 3, Ty.v 4, Ty.v 4, Ty.v 3, Ty.p 3, Ty.v 3, Ty.v 4, Ty.v 4, Ty.v 3, Ty.v 3, Ty.p 22, Ty.v 22, Ty.v 3, Ty.p 3, Ty.v 3, Ty.v 3, Ty.v 3, Ty.p 22, Ty.v 22, Ty.v 3, Ty.v 4], rty := Ty.tup [Ty.v 3, Ty.v 3, Ty.v 4], nin := 0, blocks := [], res := [.tmp 4 false, .tmp 5 false, .tmp 6 false], body := (.pre (.keep [0, 1] []) vc33_0) }
def vf34 : VFunc := { fid := 34, ptys := [Ty.v 59, Ty.v 9], slots := [Ty.v 59, Ty.v 9, Ty.any, Ty.any, Ty.v 4, Ty.v 59, Ty.v 9, Ty.v 3, Ty.v 4], rty := Ty.v 4, nin := 0, blocks := [], res := [.tmp 4 false], body := (.pre (.keep [0, 1] []) vc34_0) }
def vf35 : VFunc := { fid := 35, ptys := [Ty.v 26, Ty.v 42, Ty.v 3], slots := [Ty.v 26, Ty.v 42, Ty.v 3, Ty.p 26, Ty.p 42, Ty.p 3, Ty.v 4, Ty.v 3, Ty.v 3, Ty.v 4, Ty.p 3, Ty.v 3, Ty.v 4, Ty.tup [Ty.v 3, Ty.v 3, Ty.v 4], Ty.v 26, Ty.p 3, Ty.v 3, Ty.tup [Ty.v 3, Ty.v 3, Ty.v 4], Ty.v 3, Ty.v 3, Ty.v 4, Ty.v 4, Ty.v 4, Ty.v 3, Ty.v 3, Ty.v 4, Ty.v 4, Ty.p 23, Ty.v 23, Ty.v 75, Ty.v 4], rty := Ty.v 4, nin := 0, blocks := [], res := [.tmp 6 false], body := (.pre (.keep [0, 1, 2] []) vc35_0) }
def vf36 : VFunc := { fid := 36, ptys := [Ty.v 22, Ty.v 3], slots := [Ty.v 22, Ty.v 3, Ty.any, Ty.any, Ty.v 4, Ty.v 22, Ty.v 3, Ty.v 3, Ty.v 4], rty := Ty.v 4, nin := 0, blocks := [], res := [.tmp 4 false], body := (.pre (.keep [0, 1] []) vc36_0) }
def vf37 : VFunc := { fid := 37, ptys := [Ty.v 22], slots := [Ty.v 22, Ty.any, Ty.v 22, Ty.v 22, Ty.v 4, Ty.v 22, Ty.v 22, Ty.v 22], rty := Ty.v 22, nin := 0, blocks := [], res := [.tmp 2 true], body := (.pre (.keep [0] []) vc37_0) }
def vf38 : VFunc := { fid := 38, ptys := [Ty.v 30, Ty.v 69], slots := [Ty.v 30, Ty.v 69, Ty.any, Ty.any, Ty.v 4, Ty.v 30, Ty.v 69, Ty.v 3, Ty.v 4], rty := Ty.v 4, nin := 0, blocks := [], res := [.tmp 4 false], body := (.pre (.keep [0, 1] []) vc38_0) }
def vf39 : VFunc := { fid := 39, ptys := [Ty.v 36, Ty.p 3, Ty.p 22], slots := [Ty.v 36, Ty.p 3, Ty.p 22, Ty.p 36, Ty.v 4, Ty.p 3, Ty.v 3, Ty.v 3, Ty.v 4, Ty.v 4, Ty.p 22, Ty.v 22, Ty.v 22, Ty.v 4, Ty.v 4], rty := Ty.v 4, nin := 0, blocks := [], res := [.tmp 4 false], body := (.pre (.keep [0, 1, 2] []) vc39_0) }
def vf40 : VFunc := { fid := 40, ptys := [Ty.v 22, Ty.v 22], slots := [Ty.v 22, Ty.v 22, Ty.any, Ty.any, Ty.v 4, Ty.v 3, Ty.v 22, Ty.v 3, Ty.v 22, Ty.v 3, Ty.v 4, Ty.v 22, Ty.v 3, Ty.v 3, Ty.v 4, Ty.v 3, Ty.v 22, Ty.v 3, Ty.p 3, Ty.v 3, Ty.v 22, Ty.v 3, Ty.p 3, Ty.v 3, Ty.v 4, Ty.v 3], rty := Ty.v 4, nin := 0, blocks := [], res := [.tmp 4 false], body := (.pre (.keep [0, 1] []) vc40_0) }
def vf41 : VFunc := { fid := 41, ptys := [Ty.v 30], slots := [Ty.v 30, Ty.any, Ty.v 30, Ty.v 30, Ty.v 30, Ty.v 3, Ty.v 30, Ty.v 3, Ty.v 30], rty := Ty.v 30, nin := 0, blocks := [], res := [.tmp 2 true], body := (.pre (.keep [0] []) vc41_0) }
def vf42 : VFunc := { fid := 42, ptys := [Ty.v 24, Ty.v 51], slots := [Ty.v 24, Ty.v 51, Ty.any, Ty.any, Ty.v 3, Ty.v 3, Ty.v 24, Ty.v 3, Ty.v 3, Ty.v 4, Ty.v 3, Ty.v 51, Ty.v 24, Ty.v 3, Ty.p 44, Ty.v 44, Ty.v 4, Ty.v 3, Ty.v 3], rty := Ty.v 3, nin := 0, blocks := [], res := [.tmp 4 false], body := (.pre (.keep [0, 1] []) vc42_0) }
def vf43 : VFunc := { fid := 43, ptys := [Ty.v 26, Ty.v 3], slots := [Ty.v 26, Ty.v 3, Ty.p 26, Ty.any, Ty.v 3, Ty.v 3, Ty.v 3, Ty.v 3, Ty.v 4, Ty.v 4, Ty.v 3, Ty.p 3, Ty.v 3, Ty.v 4, Ty.v 4, Ty.v 3, Ty.p 22, Ty.v 22, Ty.v 3, Ty.v 4, Ty.v 3, Ty.v 3, Ty.p 22, Ty.v 22, Ty.v 3, Ty.p 3, Ty.v 3, Ty.v 3, Ty.v 4, Ty.v 3, Ty.v 3, Ty.p 22, Ty.v 22, Ty.v 3, Ty.v 4, Ty.v 3], rty := Ty.v 3, nin := 0, blocks := [], res := [.tmp 4 false], body := (.pre (.keep [0, 1] []) vc43_0) }
def vf44 : VFunc := { fid := 44, ptys := [Ty.v 26, Ty.v 42, Ty.v 3], slots := [Ty.v 26, Ty.v 42, Ty.v 3, Ty.p 26, Ty.p 42, Ty.any, Ty.v 4, Ty.v 3, Ty.p 3, Ty.v 3, Ty.v 4, Ty.v 26, Ty.p 3, Ty.v 3, Ty.v 3, Ty.v 3, Ty.v 4, Ty.v 3, Ty.p 23, Ty.v 23, Ty.v 3, Ty.v 4, Ty.v 3, Ty.v 3, Ty.v 26, Ty.p 23, Ty.v 23, Ty.v 3, Ty.p 42, Ty.v 42, Ty.v 3, Ty.v 4], rty := Ty.v 4, nin := 0, blocks := [], res := [.tmp 6 false], body := (.pre (.keep [0, 1, 2] []) vc44_0) }
def vf45 : VFunc := { fid := 45, ptys := [Ty.v 9], slots := [Ty.v 9, Ty.any, Ty.v 9, Ty.v 59, Ty.v 59, Ty.v 3, Ty.v 59, Ty.v 59, Ty.v 3, Ty.v 4, Ty.v 3, Ty.v 3, Ty.v 59, Ty.v 3, Ty.p 9, Ty.v 9, Ty.v 9, Ty.v 4, Ty.v 59, Ty.v 3, Ty.p 9, Ty.v 9, Ty.v 9], rty := Ty.v 9, nin := 0, blocks := [], res := [.tmp 2 false], body := (.pre (.keep [0] []) vc45_0) }
def vf46 : VFunc := { fid := 46, ptys := [Ty.v 26], slots := [Ty.v 26, Ty.p 26, Ty.v 4, Ty.p 4, Ty.v 4, Ty.v 4, Ty.v 4, Ty.p 24, Ty.v 24, Ty.v 3, Ty.v 4, Ty.v 4], rty := Ty.v 4, nin := 0, blocks := [], res := [.tmp 2 false], body := (.pre (.keep [0] []) vc46_0) }
def vf47 : VFunc := { fid := 47, ptys := [Ty.v 59, Ty.v 9], slots := [Ty.v 59, Ty.v 9, Ty.any, Ty.any, Ty.v 3, Ty.v 3, Ty.v 59, Ty.v 3, Ty.v 3, Ty.v 4, Ty.v 3, Ty.v 9, Ty.v 59, Ty.v 3, Ty.p 9, Ty.v 9, Ty.v 4, Ty.v 3, Ty.v 3], rty := Ty.v 3, nin := 0, blocks := [], res := [.tmp 4 false], body := (.pre (.keep [0, 1] []) vc47_0) }
def vf48 : VFunc := { fid := 48, ptys := [Ty.v 23, Ty.v 75], slots := [Ty.v 23, Ty.v 75, Ty.any, Ty.any, Ty.v 4, Ty.v 23, Ty.v 75, Ty.v 3, Ty.v 4], rty := Ty.v 4, nin := 0, blocks := [], res := [.tmp 4 false], body := (.pre (.keep [0, 1] []) vc48_0) }
def vf49 : VFunc := { fid := 49, ptys := [Ty.v 42, Ty.p 26, Ty.p 3], slots := [Ty.v 42, Ty.p 26, Ty.p 3, Ty.p 42, Ty.v 4, Ty.v 26, Ty.v 42, Ty.v 3, Ty.v 4], rty := Ty.v 4, nin := 0, blocks := [], res := [.tmp 4 false], body := (.pre (.keep [0, 1, 2] []) vc49_0) }
def vf50 : VFunc := { fid := 50, ptys := [Ty.v 22, Ty.v 3], slots := [Ty.v 22, Ty.v 3, Ty.any, Ty.any, Ty.v 3, Ty.v 3, Ty.v 22, Ty.v 3, Ty.v 3, Ty.v 4, Ty.v 3, Ty.v 3, Ty.v 22, Ty.v 3, Ty.p 3, Ty.v 3, Ty.v 4, Ty.v 3, Ty.v 3], rty := Ty.v 3, nin := 0, blocks := [], res := [.tmp 4 false], body := (.pre (.keep [0, 1] []) vc50_0) }
def vf51 : VFunc := { fid := 51, ptys := [Ty.v 30, Ty.v 69], slots := [Ty.v 30, Ty.v 69, Ty.any, Ty.any, Ty.v 3, Ty.v 3, Ty.v 30, Ty.v 3, Ty.v 3, Ty.v 4, Ty.v 3, Ty.v 69, Ty.v 30, Ty.v 3, Ty.p 36, Ty.v 36, Ty.v 4, Ty.v 3, Ty.v 3], rty := Ty.v 3, nin := 0, blocks := [], res := [.tmp 4 false], body := (.pre (.keep [0, 1] []) vc51_0) }
def vf52 : VFunc := { fid := 52, ptys := [Ty.v 23, Ty.v 75], slots := [Ty.v 23, Ty.v 75, Ty.any, Ty.any, Ty.v 3, Ty.v 3, Ty.v 23, Ty.v 3, Ty.v 3, Ty.v 4, Ty.v 3, Ty.v 75, Ty.v 23, Ty.v 3, Ty.p 42, Ty.v 42, Ty.v 4, Ty.v 3, Ty.v 3], rty := Ty.v 3, nin := 0, blocks := [], res := [.tmp 4 false], body := (.pre (.keep [0, 1] []) vc52_0) }
def PHI : Tab := tabOf [(3, vf3), (4, vf4), (5, vf5), (6, vf6), (7, vf7), (8, vf8), (9, vf9), (10, vf10), (11, vf11), (12, vf12), (13, vf13), (14, vf14), (15, vf15), (16, vf16), (17, vf17), (18, vf18), (19, vf19), (20, vf20), (21, vf21), (22, vf22), (23, vf23), (24, vf24), (25, vf25), (26, vf26), (27, vf27), (28, vf28), (29, vf29), (30, vf30), (31, vf31), (32, vf32), (33, vf33), (34, vf34), (35, vf35), (36, vf36), (37, vf37), (38, vf38), (39, vf39), (40, vf40), (41, vf41), (42, vf42), (43, vf43), (44, vf44), (45, vf45), (46, vf46), (47, vf47), (48, vf48), (49, vf49), (50, vf50), (51, vf51), (52, vf52)]
theorem chk3 : FnChk Try.prog PHI vf3 := ⟨by kernel_rfl, Try.f3, _, [Ty.v 4], by kernel_rfl, rfl, fun n => by kernel_rfl⟩
theorem chk4 : FnChk Try.prog PHI vf4 := ⟨by kernel_rfl, Try.f4, _, [Ty.v 4], by kernel_rfl, rfl, fun n => by kernel_rfl⟩
theorem chk5 : FnChk Try.prog PHI vf5 := ⟨by kernel_rfl, Try.f5, _, [Ty.v 4], by kernel_rfl, rfl, fun n => by kernel_rfl⟩
theorem chk6 : FnChk Try.prog PHI vf6 := ⟨by kernel_rfl, Try.f6, _, [Ty.v 4], by kernel_rfl, rfl, fun n => by kernel_rfl⟩
theorem chk7 : FnChk Try.prog PHI vf7 := ⟨by kernel_rfl, Try.f7, _, [Ty.v 4], by kernel_rfl, rfl, fun n => by kernel_rfl⟩
theorem chk8 : FnChk Try.prog PHI vf8 := ⟨by kernel_rfl, Try.f8, _, [Ty.v 4], by kernel_rfl, rfl, fun n => by kernel_rfl⟩
theorem chk9 : FnChk Try.prog PHI vf9 := ⟨by kernel_rfl, Try.f9, _, [Ty.v 4], by kernel_rfl, rfl, fun n => by kernel_rfl⟩
theorem chk10 : FnChk Try.prog PHI vf10 := ⟨by kernel_rfl, Try.f10, _, [Ty.v 30], by kernel_rfl, rfl, fun n => by kernel_rfl⟩
theorem chk11 : FnChk Try.prog PHI vf11 := ⟨by kernel_rfl, Try.f11, _, [Ty.v 30], by kernel_rfl, rfl, fun n => by kernel_rfl⟩
theorem chk12 : FnChk Try.prog PHI vf12 := ⟨by kernel_rfl, Try.f12, _, [Ty.v 30], by kernel_rfl, rfl, fun n => by kernel_rfl⟩
theorem chk13 : FnChk Try.prog PHI vf13 := ⟨by kernel_rfl, Try.f13, _, [Ty.v 30], by kernel_rfl, rfl, fun n => by kernel_rfl⟩
theorem chk14 : FnChk Try.prog PHI vf14 := ⟨by kernel_rfl, Try.f14, _, [Ty.v 4], by kernel_rfl, rfl, fun n => by kernel_rfl⟩
theorem chk15 : FnChk Try.prog PHI vf15 := ⟨by kernel_rfl, Try.f15, _, [Ty.v 42], by kernel_rfl, rfl, fun n => by kernel_rfl⟩
theorem chk16 : FnChk Try.prog PHI vf16 := ⟨by kernel_rfl, Try.f16, _, [Ty.v 3], by kernel_rfl, rfl, fun n => by kernel_rfl⟩
theorem chk17 : FnChk Try.prog PHI vf17 := ⟨by kernel_rfl, Try.f17, _, [Ty.v 22], by kernel_rfl, rfl, fun n => by kernel_rfl⟩
theorem chk18 : FnChk Try.prog PHI vf18 := ⟨by kernel_rfl, Try.f18, _, [Ty.v 30], by kernel_rfl, rfl, fun n => by kernel_rfl⟩
theorem chk19 : FnChk Try.prog PHI vf19 := ⟨by kernel_rfl, Try.f19, _, [Ty.v 22], by kernel_rfl, rfl, fun n => by kernel_rfl⟩
theorem chk20 : FnChk Try.prog PHI vf20 := ⟨by kernel_rfl, Try.f20, _, [Ty.v 4], by kernel_rfl, rfl, fun n => by kernel_rfl⟩
theorem chk21 : FnChk Try.prog PHI vf21 := ⟨by kernel_rfl, Try.f21, _, [Ty.v 4], by kernel_rfl, rfl, fun n => by kernel_rfl⟩
theorem chk22 : FnChk Try.prog PHI vf22 := ⟨by kernel_rfl, Try.f22, _, [Ty.v 4], by kernel_rfl, rfl, fun n => by kernel_rfl⟩
theorem chk23 : FnChk Try.prog PHI vf23 := ⟨by kernel_rfl, Try.f23, _, [Ty.v 22], by kernel_rfl, rfl, fun n => by kernel_rfl⟩
theorem chk24 : FnChk Try.prog PHI vf24 := ⟨by kernel_rfl, Try.f24, _, [Ty.v 22], by kernel_rfl, rfl, fun n => by kernel_rfl⟩
theorem chk25 : FnChk Try.prog PHI vf25 := ⟨by kernel_rfl, Try.f25, _, [Ty.v 30], by kernel_rfl, rfl, fun n => by kernel_rfl⟩
theorem chk26 : FnChk Try.prog PHI vf26 := ⟨by kernel_rfl, Try.f26, _, [Ty.v 22], by kernel_rfl, rfl, fun n => by kernel_rfl⟩
theorem chk27 : FnChk Try.prog PHI vf27 := ⟨by kernel_rfl, Try.f27, _, [Ty.v 22], by kernel_rfl, rfl, fun n => by kernel_rfl⟩
theorem chk28 : FnChk Try.prog PHI vf28 := ⟨by kernel_rfl, Try.f28, _, [Ty.v 22], by kernel_rfl, rfl, fun n => by kernel_rfl⟩
theorem chk29 : FnChk Try.prog PHI vf29 := ⟨by kernel_rfl, Try.f29, _, [Ty.v 22], by kernel_rfl, rfl, fun n => by kernel_rfl⟩
theorem chk30 : FnChk Try.prog PHI vf30 := ⟨by kernel_rfl, Try.f30, _, [Ty.v 36, Ty.v 4], by kernel_rfl, rfl, fun n => by kernel_rfl⟩
theorem chk31 : FnChk Try.prog PHI vf31 := ⟨by kernel_rfl, Try.f31, _, [Ty.v 36, Ty.v 4], by kernel_rfl, rfl, fun n => by kernel_rfl⟩
theorem chk32 : FnChk Try.prog PHI vf32 := ⟨by kernel_rfl, Try.f32, _, [Ty.v 9], by kernel_rfl, rfl, fun n => by kernel_rfl⟩
theorem chk33 : FnChk Try.prog PHI vf33 := ⟨by kernel_rfl, Try.f33, _, [Ty.v 3, Ty.v 3, Ty.v 4], by kernel_rfl, rfl, fun n => by kernel_rfl⟩
theorem chk34 : FnChk Try.prog PHI vf34 := ⟨by kernel_rfl, Try.f34, _, [Ty.v 4], by kernel_rfl, rfl, fun n => by kernel_rfl⟩
theorem chk35 : FnChk Try.prog PHI vf35 := ⟨by kernel_rfl, Try.f35, _, [Ty.v 4], by kernel_rfl, rfl, fun n => by kernel_rfl⟩
theorem chk36 : FnChk Try.prog PHI vf36 := ⟨by kernel_rfl, Try.f36, _, [Ty.v 4], by kernel_rfl, rfl, fun n => by kernel_rfl⟩
theorem chk37 : FnChk Try.prog PHI vf37 := ⟨by kernel_rfl, Try.f37, _, [Ty.v 22], by kernel_rfl, rfl, fun n => by kernel_rfl⟩
theorem chk38 : FnChk Try.prog PHI vf38 := ⟨by kernel_rfl, Try.f38, _, [Ty.v 4], by kernel_rfl, rfl, fun n => by kernel_rfl⟩
theorem chk39 : FnChk Try.prog PHI vf39 := ⟨by kernel_rfl, Try.f39, _, [Ty.v 4], by kernel_rfl, rfl, fun n => by kernel_rfl⟩
theorem chk40 : FnChk Try.prog PHI vf40 := ⟨by kernel_rfl, Try.f40, _, [Ty.v 4], by kernel_rfl, rfl, fun n => by kernel_rfl⟩
theorem chk41 : FnChk Try.prog PHI vf41 := ⟨by kernel_rfl, Try.f41, _, [Ty.v 30], by kernel_rfl, rfl, fun n => by kernel_rfl⟩
theorem chk42 : FnChk Try.prog PHI vf42 := ⟨by kernel_rfl, Try.f42, _, [Ty.v 3], by kernel_rfl, rfl, fun n => by kernel_rfl⟩
theorem chk43 : FnChk Try.prog PHI vf43 := ⟨by kernel_rfl, Try.f43, _, [Ty.v 3], by kernel_rfl, rfl, fun n => by kernel_rfl⟩
theorem chk44 : FnChk Try.prog PHI vf44 := ⟨by kernel_rfl, Try.f44, _, [Ty.v 4], by kernel_rfl, rfl, fun n => by kernel_rfl⟩
theorem chk45 : FnChk Try.prog PHI vf45 := ⟨by kernel_rfl, Try.f45, _, [Ty.v 9], by kernel_rfl, rfl, fun n => by kernel_rfl⟩
theorem chk46 : FnChk Try.prog PHI vf46 := ⟨by kernel_rfl, Try.f46, _, [Ty.v 4], by kernel_rfl, rfl, fun n => by kernel_rfl⟩
theorem chk47 : FnChk Try.prog PHI vf47 := ⟨by kernel_rfl, Try.f47, _, [Ty.v 3], by kernel_rfl, rfl, fun n => by kernel_rfl⟩
theorem chk48 : FnChk Try.prog PHI vf48 := ⟨by kernel_rfl, Try.f48, _, [Ty.v 4], by kernel_rfl, rfl, fun n => by kernel_rfl⟩
theorem chk49 : FnChk Try.prog PHI vf49 := ⟨by kernel_rfl, Try.f49, _, [Ty.v 4], by kernel_rfl, rfl, fun n => by kernel_rfl⟩
theorem chk50 : FnChk Try.prog PHI vf50 := ⟨by kernel_rfl, Try.f50, _, [Ty.v 3], by kernel_rfl, rfl, fun n => by kernel_rfl⟩
theorem chk51 : FnChk Try.prog PHI vf51 := ⟨by kernel_rfl, Try.f51, _, [Ty.v 3], by kernel_rfl, rfl, fun n => by kernel_rfl⟩
theorem chk52 : FnChk Try.prog PHI vf52 := ⟨by kernel_rfl, Try.f52, _, [Ty.v 3], by kernel_rfl, rfl, fun n => by kernel_rfl⟩
theorem hPHI : ∀ h vf, PHI h = some vf → FnChk Try.prog PHI vf := tabOf_ok ⟨chk3, chk4, chk5, chk6, chk7, chk8, chk9, chk10, chk11, chk12, chk13, chk14, chk15, chk16, chk17, chk18, chk19, chk20, chk21, chk22, chk23, chk24, chk25, chk26, chk27, chk28, chk29, chk30, chk31, chk32, chk33, chk34, chk35, chk36, chk37, chk38, chk39, chk40, chk41, chk42, chk43, chk44, chk45, chk46, chk47, chk48, chk49, chk50, chk51, chk52, trivial⟩
end Go.Vam.C20
