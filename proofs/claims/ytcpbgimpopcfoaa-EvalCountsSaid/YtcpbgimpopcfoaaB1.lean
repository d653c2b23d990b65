/- The functions of chapter 14 as shadow code. No conditions. -/
import Derived.Test.YtcpbgimpopcfoaaVAJ
import Derived.Test.YtcpbgimpopcfoaaVAK
import Derived.KernelRfl
import Derived.Test.YtcpbgimpopcfoaaChecked
set_option linter.unusedVariables false
set_option maxRecDepth 100000
namespace Go.Vam.C14
open Go.Proofs
def vc4_1 : VC := (.post (.ops [⟨some 6, (.mov (.c (D.b false))), none⟩] false) (.keep [0, 1, 2] []))
def vc4_3 : VC := (.seq (.post (.ops [⟨some 17, (.call 9 [] []), none⟩, ⟨some 18, (.un .not (.t 17)), none⟩, ⟨some 19, (.mov (.t 18)), none⟩, ⟨some 20, (.mov (.t 0)), some (19, false)⟩, ⟨some 21, (.len (.t 20)), some (19, false)⟩, ⟨some 22, (.bin .gtI (.t 21) (.c (D.i 12))), some (19, false)⟩, ⟨some 23, (.pick (.t 19) (.c (D.b true)) (.t 22)), none⟩, ⟨some 24, (.mov (.t 23)), none⟩, ⟨some 25, (.mov (.t 2)), some (24, false)⟩, ⟨some 26, (.call 10 [(.t 25)] []), some (24, false)⟩, ⟨some 27, (.un .not (.t 26)), some (24, false)⟩, ⟨some 28, (.pick (.t 24) (.c (D.b true)) (.t 27)), none⟩] false) (.keep [0, 1, 2, 28] [])) (.cond (.t 28) (.pre (.keep [] []) (.seq (.post (.ops [⟨some 29, (.call 9 [] []), none⟩, ⟨some 6, (.mov (.t 29)), none⟩] false) (.keep [6] [])) .ret)) (.pre (.keep [0, 1, 2] []) .skip)))
def vc4_11 : VC := (.post (.ops [⟨some 30, (.build (D.ag [(D.i 0), (D.s []), (D.ag [(D.i 0), (D.i 0), (D.f 0), (D.s [])]), (D.i 0), (D.b false), (D.i 0), (D.sz [])]) [(0, (.c (D.i 10)))]), none⟩,
  ⟨some 31, (.mov (.t 1)), none⟩,
  ⟨some 32, (.call 13 [(.t 31)] []), none⟩,
  ⟨some 33, (.bsl .f [(D.ag [(D.i 0), (D.s []), (D.ag [(D.i 0), (D.i 0), (D.f 0), (D.s [])]), (D.i 0), (D.b false), (D.i 0), (D.sz [])])] [(0, (.t 32))]), none⟩,
  ⟨some 34, (.build (D.ag [(D.i 0), (D.s []), (D.ag [(D.i 0), (D.i 0), (D.f 0), (D.s [])]), (D.i 0), (D.b false), (D.i 0), (D.sz [])]) [(0, (.c (D.i 11))), (6, (.t 33))]), none⟩,
  ⟨some 35, (.bsl .f [(D.ag [(D.i 0), (D.s []), (D.ag [(D.i 0), (D.i 0), (D.f 0), (D.s [])]), (D.i 0), (D.b false), (D.i 0), (D.sz [])]), (D.ag [(D.i 0), (D.s []), (D.ag [(D.i 0), (D.i 0), (D.f 0), (D.s [])]), (D.i 0), (D.b false), (D.i 0), (D.sz [])])] [(0, (.t 30)), (1, (.t 34))]), none⟩,
  ⟨some 7, (.mov (.t 35)), none⟩] false) (.keep [0, 1, 2, 7] []))
def vc4_13 : VC := (.post (.ops [⟨some 8, (.mov (.c (D.i 0))), none⟩,
  ⟨some 9, (.mov (.c (D.i 0))), none⟩,
  ⟨some 10, (.mov (.c (D.b true))), none⟩] false) (.keep [0, 1, 2, 7, 8, 9, 10] []))
def vc4_16 : VC := (.post (.ops [⟨some 36, (.mov (.t 2)), none⟩,
  ⟨some 37, (.len (.t 36)), none⟩,
  ⟨some 38, (.mov (.c (D.i 0))), none⟩] false) (.keep [0, 1, 2, 7, 8, 9, 10, 36, 37, 38] []))
def vc4_19 : VC := (.seq (.post (.ops [⟨some 39, (.bin .ltI (.t 38) (.t 37)), none⟩] false) (.keep [0, 1, 2, 7, 8, 9, 10, 36, 37, 38, 39] [])) (.seq (.cond (.t 39) (.pre (.keep [0, 1, 2, 7, 8, 9, 10, 36, 37, 38] []) .skip) (.pre (.keep [0, 2, 7, 8, 9, 10] []) (.exit 0))) (.seq (.block 1 (.seq (.post (.ops [⟨some 40, (.ixa (.t 36) (.t 38)), none⟩, ⟨some 41, (.ldF (.t 40)), none⟩, ⟨some 12, (.mov (.t 41)), none⟩] false) (.keep [0, 1, 2, 7, 8, 9, 10, 12, 36, 37, 38] [])) (.seq (.post (.ops [⟨some 42, (.mov (.t 12)), none⟩, ⟨some 43, (.mov (.t 1)), none⟩, ⟨some 44, (.call 14 [(.t 42), (.t 43)] []), none⟩, ⟨some 13, .alA, none⟩, ⟨none, (.ini 13 (.t 44)), none⟩] false) (.keep [0, 1, 2, 7, 8, 9, 10, 13, 36, 37, 38] [])) (.seq (.post (.ops [⟨some 45, (.fld (.t 13) 0), none⟩, ⟨some 46, (.ldF (.t 45)), none⟩, ⟨some 47, (.bin .eqI (.t 46) (.c (D.i 1))), none⟩, ⟨some 48, (.mov (.t 47)), none⟩, ⟨some 49, (.fld (.t 13) 1), some (48, true)⟩, ⟨some 50, (.ldF (.t 49)), some (48, true)⟩, ⟨some 51, (.bin .gtI (.t 50) (.c (D.i 1125899906842624))), some (48, true)⟩, ⟨some 52, (.mov (.t 51)), some (48, true)⟩, ⟨some 53, (.fld (.t 13) 1), some (52, false)⟩, ⟨some 54, (.ldF (.t 53)), some (52, false)⟩, ⟨some 55, (.bin .ltI (.t 54) (.c (D.i (-1125899906842624)))), some (52, false)⟩, ⟨some 56, (.pick (.t 52) (.c (D.b true)) (.t 55)), some (48, true)⟩, ⟨some 57, (.pick (.t 48) (.t 56) (.c (D.b false))), none⟩] false) (.keep [0, 1, 2, 7, 8, 9, 10, 36, 37, 38, 57] [])) (.cond (.t 57) (.pre (.keep [0, 1, 2, 7, 8, 9, 36, 37, 38] []) (.post (.ops [⟨some 10, (.mov (.c (D.b false))), none⟩] false) (.keep [0, 1, 2, 7, 8, 9, 10, 36, 37, 38] []))) (.pre (.keep [0, 1, 2, 7, 8, 9, 10, 36, 37, 38] []) .skip)))))) (.post (.ops [⟨some 58, (.bin (.add .i64) (.t 38) (.c (D.i 1))), none⟩, ⟨some 38, (.mov (.t 58)), none⟩] false) (.keep [0, 1, 2, 7, 8, 9, 10, 36, 37, 38] [])))))
def vc4_18 : VC := .loop vc4_19
def vc4_17 : VC := .block 0 vc4_18
def vc4_15 : VC := .seq vc4_16 vc4_17
def vc4_39 : VC := (.post (.ops [⟨some 59, (.mov (.t 0)), none⟩,
  ⟨some 60, (.mov (.t 7)), none⟩,
  ⟨some 61, (.build (D.ag [(D.sz []), (D.sz []), (D.i 0), (D.sz []), (D.sz []), (D.b false), (D.sz []), (D.sz []), (D.i 0)]) [(5, (.c (D.b true))), (4, (.t 59)), (6, (.t 60)), (8, (.c (D.i (-1))))]), none⟩,
  ⟨some 62, (.mov (.t 2)), none⟩,
  ⟨some 63, (.call 15 [(.t 61), (.t 62)] []), none⟩,
  ⟨some 64, (.len (.t 63)), none⟩,
  ⟨some 65, (.mov (.c (D.i 0))), none⟩] false) (.keep [2, 7, 8, 9, 10, 63, 64, 65] []))
def vc4_42 : VC := (.seq (.post (.ops [⟨some 66, (.bin .ltI (.t 65) (.t 64)), none⟩] false) (.keep [2, 7, 8, 9, 10, 63, 64, 65, 66] [])) (.seq (.cond (.t 66) (.pre (.keep [2, 7, 8, 9, 10, 63, 64, 65] []) .skip) (.pre (.keep [2, 7, 8, 9, 10] []) (.exit 2))) (.seq (.block 3 (.seq (.post (.ops [⟨some 67, (.ixa (.t 63) (.t 65)), none⟩, ⟨some 68, (.ldF (.t 67)), none⟩, ⟨some 15, (.mov (.t 68)), none⟩] false) (.keep [2, 7, 8, 9, 10, 15, 63, 64, 65] [])) (.seq (.seq (.post (.ops [⟨some 69, (.mov (.t 15)), none⟩, ⟨some 70, (.len (.t 69)), none⟩, ⟨some 71, (.bin .neI (.t 70) (.c (D.i 2))), none⟩] false) (.keep [2, 7, 8, 9, 10, 15, 63, 64, 65, 71] [])) (.cond (.t 71) (.pre (.keep [] []) (.seq (.post (.ops [⟨some 6, (.mov (.c (D.b false))), none⟩] false) (.keep [6] [])) .ret)) (.pre (.keep [2, 7, 8, 9, 10, 15, 63, 64, 65] []) .skip))) (.seq (.post (.ops [⟨some 72, (.mov (.t 8)), none⟩, ⟨some 73, (.mov (.t 15)), none⟩, ⟨some 74, (.ixa (.t 73) (.c (D.i 0))), none⟩, ⟨some 75, (.fld (.t 74) 1), none⟩, ⟨some 76, (.ldF (.t 75)), none⟩, ⟨some 77, (.bin (.add .i64) (.t 72) (.t 76)), none⟩, ⟨some 8, (.mov (.t 77)), none⟩] false) (.keep [2, 7, 8, 9, 10, 15, 63, 64, 65] [])) (.post (.ops [⟨some 78, (.mov (.t 9)), none⟩, ⟨some 79, (.mov (.t 15)), none⟩, ⟨some 80, (.ixa (.t 79) (.c (D.i 1))), none⟩, ⟨some 81, (.fld (.t 80) 1), none⟩, ⟨some 82, (.ldF (.t 81)), none⟩, ⟨some 83, (.bin (.add .i64) (.t 78) (.t 82)), none⟩, ⟨some 9, (.mov (.t 83)), none⟩] false) (.keep [2, 7, 8, 9, 10, 63, 64, 65] [])))))) (.post (.ops [⟨some 84, (.bin (.add .i64) (.t 65) (.c (D.i 1))), none⟩, ⟨some 65, (.mov (.t 84)), none⟩] false) (.keep [2, 7, 8, 9, 10, 63, 64, 65] [])))))
def vc4_41 : VC := .loop vc4_42
def vc4_40 : VC := .block 2 vc4_41
def vc4_38 : VC := .seq vc4_39 vc4_40
def vc4_65 : VC := (.post (.ops [⟨some 85, (.mov (.t 7)), none⟩,
  ⟨some 86, (.build (D.ag [(D.sz []), (D.sz []), (D.i 0), (D.sz []), (D.sz []), (D.b false), (D.sz []), (D.sz []), (D.i 0)]) [(5, (.c (D.b true))), (6, (.t 85)), (8, (.c (D.i (-1))))]), none⟩,
  ⟨some 87, (.mov (.t 2)), none⟩,
  ⟨some 88, (.call 15 [(.t 86), (.t 87)] []), none⟩,
  ⟨some 16, (.mov (.t 88)), none⟩] false) (.keep [2, 8, 9, 10, 16] []))
def vc4_67 : VC := (.post (.ops [⟨some 89, (.mov (.t 8)), none⟩,
  ⟨some 90, (.mov (.t 2)), none⟩,
  ⟨some 91, (.len (.t 90)), none⟩,
  ⟨some 92, (.bin .eqI (.t 89) (.t 91)), none⟩,
  ⟨some 93, (.mov (.t 92)), none⟩,
  ⟨some 94, (.mov (.t 2)), some (93, false)⟩,
  ⟨some 95, (.len (.t 94)), some (93, false)⟩,
  ⟨some 96, (.bin .eqI (.t 95) (.c (D.i 0))), some (93, false)⟩,
  ⟨some 97, (.pick (.t 93) (.c (D.b true)) (.t 96)), none⟩,
  ⟨some 98, (.mov (.t 97)), none⟩,
  ⟨some 99, (.mov (.t 16)), some (98, true)⟩,
  ⟨some 100, (.len (.t 99)), some (98, true)⟩,
  ⟨some 101, (.bin .eqI (.t 100) (.c (D.i 1))), some (98, true)⟩,
  ⟨some 102, (.pick (.t 98) (.t 101) (.c (D.b false))), none⟩,
  ⟨some 103, (.mov (.t 102)), none⟩,
  ⟨some 104, (.mov (.t 16)), some (103, true)⟩,
  ⟨some 105, (.ixa (.t 104) (.c (D.i 0))), some (103, true)⟩,
  ⟨some 106, (.ldF (.t 105)), some (103, true)⟩,
  ⟨some 107, (.len (.t 106)), some (103, true)⟩,
  ⟨some 108, (.bin .eqI (.t 107) (.c (D.i 2))), some (103, true)⟩,
  ⟨some 109, (.pick (.t 103) (.t 108) (.c (D.b false))), none⟩,
  ⟨some 110, (.mov (.t 109)), none⟩,
  ⟨some 111, (.mov (.t 16)), some (110, true)⟩,
  ⟨some 112, (.ixa (.t 111) (.c (D.i 0))), some (110, true)⟩,
  ⟨some 113, (.ldF (.t 112)), some (110, true)⟩,
  ⟨some 114, (.ixa (.t 113) (.c (D.i 0))), some (110, true)⟩,
  ⟨some 115, (.fld (.t 114) 1), some (110, true)⟩,
  ⟨some 116, (.ldF (.t 115)), some (110, true)⟩,
  ⟨some 117, (.mov (.t 2)), some (110, true)⟩,
  ⟨some 118, (.len (.t 117)), some (110, true)⟩,
  ⟨some 119, (.bin .eqI (.t 116) (.t 118)), some (110, true)⟩,
  ⟨some 120, (.pick (.t 110) (.t 119) (.c (D.b false))), none⟩,
  ⟨some 121, (.mov (.t 120)), none⟩,
  ⟨some 122, (.mov (.t 10)), some (121, true)⟩,
  ⟨some 123, (.un .not (.t 122)), some (121, true)⟩,
  ⟨some 124, (.mov (.t 123)), some (121, true)⟩,
  ⟨some 125, (.mov (.t 16)), some (124, false)⟩,
  ⟨some 126, (.ixa (.t 125) (.c (D.i 0))), some (124, false)⟩,
  ⟨some 127, (.ldF (.t 126)), some (124, false)⟩,
  ⟨some 128, (.ixa (.t 127) (.c (D.i 1))), some (124, false)⟩,
  ⟨some 129, (.fld (.t 128) 1), some (124, false)⟩,
  ⟨some 130, (.ldF (.t 129)), some (124, false)⟩,
  ⟨some 131, (.mov (.t 9)), some (124, false)⟩,
  ⟨some 132, (.bin .eqI (.t 130) (.t 131)), some (124, false)⟩,
  ⟨some 133, (.pick (.t 124) (.c (D.b true)) (.t 132)), some (121, true)⟩,
  ⟨some 134, (.pick (.t 121) (.t 133) (.c (D.b false))), none⟩,
  ⟨some 6, (.mov (.t 134)), none⟩] false) (.keep [6] []))
def vc4_68 : VC := .ret
def vc4_66 : VC := .seq vc4_67 vc4_68
def vc4_64 : VC := .seq vc4_65 vc4_66
def vc4_37 : VC := .seq vc4_38 vc4_64
def vc4_14 : VC := .seq vc4_15 vc4_37
def vc4_12 : VC := .seq vc4_13 vc4_14
def vc4_10 : VC := .seq vc4_11 vc4_12
def vc4_2 : VC := .seq vc4_3 vc4_10
def vc4_0 : VC := .seq vc4_1 vc4_2
def vc9_1 : VC := (.post (.ops [⟨some 0, (.mov (.c (D.b false))), none⟩] false) (.keep [] []))
def vc9_3 : VC := (.post (.ops [⟨some 3, (.build (D.ag [(D.i 0), (D.i 0), (D.f 0), (D.s [])]) [(0, (.c (D.i 1))), (1, (.c (D.i 2)))]), none⟩,
  ⟨some 4, (.bsl .f [(D.ag [(D.i 0), (D.i 0), (D.f 0), (D.s [])])] [(0, (.t 3))]), none⟩,
  ⟨some 5, (.build (D.ag [(D.i 0), (D.i 0), (D.f 0), (D.s [])]) [(0, (.c (D.i 1))), (1, (.c (D.i 3)))]), none⟩,
  ⟨some 6, (.bsl .f [(D.ag [(D.i 0), (D.i 0), (D.f 0), (D.s [])])] [(0, (.t 5))]), none⟩,
  ⟨some 7, (.bsl .f [(D.sz []), (D.sz [])] [(0, (.t 4)), (1, (.t 6))]), none⟩,
  ⟨some 1, (.mov (.t 7)), none⟩] false) (.keep [1] []))
def vc9_4 : VC := (.seq (.post (.ops [⟨some 8, (.call 13 [(.c (D.i 0))] []), none⟩, ⟨some 9, (.bsl .f [(D.ag [(D.i 0), (D.s []), (D.ag [(D.i 0), (D.i 0), (D.f 0), (D.s [])]), (D.i 0), (D.b false), (D.i 0), (D.sz [])])] [(0, (.t 8))]), none⟩, ⟨some 10, (.build (D.ag [(D.i 0), (D.s []), (D.ag [(D.i 0), (D.i 0), (D.f 0), (D.s [])]), (D.i 0), (D.b false), (D.i 0), (D.sz [])]) [(0, (.c (D.i 11))), (6, (.t 9))]), none⟩, ⟨some 11, (.bsl .f [(D.ag [(D.i 0), (D.s []), (D.ag [(D.i 0), (D.i 0), (D.f 0), (D.s [])]), (D.i 0), (D.b false), (D.i 0), (D.sz [])])] [(0, (.t 10))]), none⟩, ⟨some 12, (.build (D.ag [(D.sz []), (D.sz []), (D.i 0), (D.sz []), (D.sz []), (D.b false), (D.sz []), (D.sz []), (D.i 0)]) [(5, (.c (D.b true))), (6, (.t 11)), (8, (.c (D.i (-1))))]), none⟩, ⟨some 13, (.mov (.t 1)), none⟩, ⟨some 14, (.call 15 [(.t 12), (.t 13)] []), none⟩, ⟨some 2, (.mov (.t 14)), none⟩] false) (.keep [1, 2] [])) (.seq (.post (.ops [⟨some 15, (.mov (.t 2)), none⟩, ⟨some 16, (.len (.t 15)), none⟩, ⟨some 17, (.bin .eqI (.t 16) (.c (D.i 1))), none⟩, ⟨some 18, (.mov (.t 17)), none⟩, ⟨some 19, (.mov (.t 2)), some (18, true)⟩, ⟨some 20, (.ixa (.t 19) (.c (D.i 0))), some (18, true)⟩, ⟨some 21, (.ldF (.t 20)), some (18, true)⟩, ⟨some 22, (.len (.t 21)), some (18, true)⟩, ⟨some 23, (.bin .eqI (.t 22) (.c (D.i 1))), some (18, true)⟩, ⟨some 24, (.pick (.t 18) (.t 23) (.c (D.b false))), none⟩, ⟨some 25, (.mov (.t 24)), none⟩, ⟨some 26, (.mov (.t 2)), some (25, true)⟩, ⟨some 27, (.ixa (.t 26) (.c (D.i 0))), some (25, true)⟩, ⟨some 28, (.ldF (.t 27)), some (25, true)⟩, ⟨some 29, (.ixa (.t 28) (.c (D.i 0))), some (25, true)⟩, ⟨some 30, (.fld (.t 29) 1), some (25, true)⟩, ⟨some 31, (.ldF (.t 30)), some (25, true)⟩, ⟨some 32, (.bin .eqI (.t 31) (.c (D.i 5))), some (25, true)⟩, ⟨some 33, (.pick (.t 25) (.t 32) (.c (D.b false))), none⟩, ⟨some 34, (.mov (.t 33)), none⟩, ⟨some 35, (.build (D.ag [(D.i 0), (D.b false)]) []), some (34, true)⟩, ⟨some 36, (.bsl .f [(D.ag [(D.i 0), (D.b false)])] [(0, (.t 35))]), some (34, true)⟩, ⟨some 37, (.mov (.t 1)), some (34, true)⟩, ⟨some 38, (.ixa (.t 37) (.c (D.i 1))), some (34, true)⟩, ⟨some 39, (.ldF (.t 38)), some (34, true)⟩, ⟨some 40, (.mov (.t 1)), some (34, true)⟩, ⟨some 41, (.ixa (.t 40) (.c (D.i 0))), some (34, true)⟩, ⟨some 42, (.ldF (.t 41)), some (34, true)⟩, ⟨some 43, (.call 11 [(.t 36), (.t 39), (.t 42)] []), some (34, true)⟩, ⟨some 44, (.bin .eqI (.t 43) (.c (D.i 1))), some (34, true)⟩, ⟨some 45, (.pick (.t 34) (.t 44) (.c (D.b false))), none⟩, ⟨some 0, (.mov (.t 45)), none⟩] true) (.keep [0] [])) .ret))
def vc9_2 : VC := .seq vc9_3 vc9_4
def vc9_0 : VC := .seq vc9_1 vc9_2
def vc10_1 : VC := (.post (.ops [⟨some 2, (.mov (.c (D.b false))), none⟩] false) (.keep [0] []))
def vc10_3 : VC := (.seq (.post (.ops [⟨some 7, (.mov (.t 0)), none⟩, ⟨some 8, (.len (.t 7)), none⟩, ⟨some 9, (.bin .gtI (.t 8) (.c (D.i 60))), none⟩] false) (.keep [0, 9] [])) (.cond (.t 9) (.pre (.keep [] []) (.seq (.post (.ops [⟨some 2, (.mov (.c (D.b false))), none⟩] false) (.keep [2] [])) .ret)) (.pre (.keep [0] []) .skip)))
def vc10_12 : VC := (.post (.ops [⟨some 10, (.mov (.t 0)), none⟩,
  ⟨some 11, (.len (.t 10)), none⟩,
  ⟨some 12, (.mov (.c (D.i 0))), none⟩] false) (.keep [10, 11, 12] []))
def vc10_16 : VC := (.post (.ops [⟨some 13, (.bin .ltI (.t 12) (.t 11)), none⟩] false) (.keep [10, 11, 12, 13] []))
def vc10_18 : VC := (.cond (.t 13) (.pre (.keep [10, 11, 12] []) .skip) (.pre (.keep [] []) (.exit 0)))
def vc10_24 : VC := (.post (.ops [⟨some 14, (.ixa (.t 10) (.t 12)), none⟩,
  ⟨some 15, (.ldF (.t 14)), none⟩,
  ⟨some 4, (.mov (.t 15)), none⟩] false) (.keep [4, 10, 11, 12] []))
def vc10_26 : VC := (.seq (.post (.ops [⟨some 16, (.mov (.t 4)), none⟩, ⟨some 17, (.len (.t 16)), none⟩, ⟨some 18, (.bin .gtI (.t 17) (.c (D.i 30))), none⟩] false) (.keep [4, 10, 11, 12, 18] [])) (.cond (.t 18) (.pre (.keep [] []) (.seq (.post (.ops [⟨some 2, (.mov (.c (D.b false))), none⟩] false) (.keep [2] [])) .ret)) (.pre (.keep [4, 10, 11, 12] []) .skip)))
def vc10_34 : VC := (.post (.ops [⟨some 19, (.mov (.t 4)), none⟩,
  ⟨some 20, (.len (.t 19)), none⟩,
  ⟨some 21, (.mov (.c (D.i 0))), none⟩] false) (.keep [10, 11, 12, 19, 20, 21] []))
def vc10_37 : VC := (.seq (.post (.ops [⟨some 22, (.bin .ltI (.t 21) (.t 20)), none⟩] false) (.keep [10, 11, 12, 19, 20, 21, 22] [])) (.seq (.cond (.t 22) (.pre (.keep [10, 11, 12, 19, 20, 21] []) .skip) (.pre (.keep [10, 11, 12] []) (.exit 2))) (.seq (.block 3 (.seq (.post (.ops [⟨some 23, (.ixa (.t 19) (.t 21)), none⟩, ⟨some 24, (.ldF (.t 23)), none⟩, ⟨some 6, .alA, none⟩, ⟨none, (.ini 6 (.t 24)), none⟩] false) (.keep [6, 10, 11, 12, 19, 20, 21] [])) (.seq (.post (.ops [⟨some 25, (.fld (.t 6) 3), none⟩, ⟨some 26, (.ldF (.t 25)), none⟩, ⟨some 27, (.lenS (.t 26)), none⟩, ⟨some 28, (.bin .gtI (.t 27) (.c (D.i 100))), none⟩] false) (.keep [10, 11, 12, 19, 20, 21, 28] [])) (.cond (.t 28) (.pre (.keep [] []) (.seq (.post (.ops [⟨some 2, (.mov (.c (D.b false))), none⟩] false) (.keep [2] [])) .ret)) (.pre (.keep [10, 11, 12, 19, 20, 21] []) .skip))))) (.post (.ops [⟨some 29, (.bin (.add .i64) (.t 21) (.c (D.i 1))), none⟩, ⟨some 21, (.mov (.t 29)), none⟩] false) (.keep [10, 11, 12, 19, 20, 21] [])))))
def vc10_36 : VC := .loop vc10_37
def vc10_35 : VC := .block 2 vc10_36
def vc10_33 : VC := .seq vc10_34 vc10_35
def vc10_25 : VC := .seq vc10_26 vc10_33
def vc10_23 : VC := .seq vc10_24 vc10_25
def vc10_22 : VC := .block 1 vc10_23
def vc10_55 : VC := (.post (.ops [⟨some 30, (.bin (.add .i64) (.t 12) (.c (D.i 1))), none⟩,
  ⟨some 12, (.mov (.t 30)), none⟩] false) (.keep [10, 11, 12] []))
def vc10_21 : VC := .seq vc10_22 vc10_55
def vc10_17 : VC := .seq vc10_18 vc10_21
def vc10_15 : VC := .seq vc10_16 vc10_17
def vc10_14 : VC := .loop vc10_15
def vc10_13 : VC := .block 0 vc10_14
def vc10_11 : VC := .seq vc10_12 vc10_13
def vc10_56 : VC := (.seq (.post (.ops [⟨some 2, (.mov (.c (D.b true))), none⟩] false) (.keep [2] [])) .ret)
def vc10_10 : VC := .seq vc10_11 vc10_56
def vc10_2 : VC := .seq vc10_3 vc10_10
def vc10_0 : VC := .seq vc10_1 vc10_2
def vc11_1 : VC := (.post (.ops [⟨some 6, (.mov (.c (D.i 0))), none⟩] false) (.keep [0, 1, 2] []))
def vc11_4 : VC := (.post (.ops [⟨some 10, (.mov (.t 0)), none⟩,
  ⟨some 11, (.len (.t 10)), none⟩,
  ⟨some 12, (.mov (.c (D.i 0))), none⟩] false) (.keep [1, 2, 10, 11, 12] []))
def vc11_7 : VC := (.seq (.post (.ops [⟨some 13, (.bin .ltI (.t 12) (.t 11)), none⟩] false) (.keep [1, 2, 10, 11, 12, 13] [])) (.seq (.cond (.t 13) (.pre (.keep [1, 2, 10, 11, 12] []) .skip) (.pre (.keep [] []) (.exit 0))) (.seq (.block 1 (.seq (.post (.ops [⟨some 14, (.ixa (.t 10) (.t 12)), none⟩, ⟨some 15, (.ldF (.t 14)), none⟩, ⟨some 8, .alA, none⟩, ⟨none, (.ini 8 (.t 15)), none⟩] false) (.keep [1, 2, 8, 10, 11, 12] [])) (.seq (.post (.ops [⟨some 16, (.mov (.t 1)), none⟩, ⟨some 17, (.fld (.t 8) 0), none⟩, ⟨some 18, (.ldF (.t 17)), none⟩, ⟨some 19, (.call 28 [(.t 16), (.t 18)] []), none⟩, ⟨some 20, (.mov (.t 2)), none⟩, ⟨some 21, (.fld (.t 8) 0), none⟩, ⟨some 22, (.ldF (.t 21)), none⟩, ⟨some 23, (.call 28 [(.t 20), (.t 22)] []), none⟩, ⟨some 24, (.call 27 [(.t 19), (.t 23)] []), none⟩, ⟨some 9, (.mov (.t 24)), none⟩] true) (.keep [1, 2, 8, 9, 10, 11, 12] [])) (.seq (.seq (.post (.ops [⟨some 25, (.fld (.t 8) 1), none⟩, ⟨some 26, (.ldF (.t 25)), none⟩] false) (.keep [1, 2, 9, 10, 11, 12, 26] [])) (.cond (.t 26) (.pre (.keep [1, 2, 9, 10, 11, 12] []) (.post (.ops [⟨some 27, (.mov (.t 9)), none⟩, ⟨some 28, (.un (.neg .i64) (.t 27)), none⟩, ⟨some 9, (.mov (.t 28)), none⟩] false) (.keep [1, 2, 9, 10, 11, 12] []))) (.pre (.keep [1, 2, 9, 10, 11, 12] []) .skip))) (.seq (.post (.ops [⟨some 29, (.mov (.t 9)), none⟩, ⟨some 30, (.bin .neI (.t 29) (.c (D.i 0))), none⟩] false) (.keep [1, 2, 9, 10, 11, 12, 30] [])) (.cond (.t 30) (.pre (.keep [9] []) (.seq (.post (.ops [⟨some 31, (.mov (.t 9)), none⟩, ⟨some 6, (.mov (.t 31)), none⟩] false) (.keep [6] [])) .ret)) (.pre (.keep [1, 2, 10, 11, 12] []) .skip))))))) (.post (.ops [⟨some 32, (.bin (.add .i64) (.t 12) (.c (D.i 1))), none⟩, ⟨some 12, (.mov (.t 32)), none⟩] false) (.keep [1, 2, 10, 11, 12] [])))))
def vc11_6 : VC := .loop vc11_7
def vc11_5 : VC := .block 0 vc11_6
def vc11_3 : VC := .seq vc11_4 vc11_5
def vc11_33 : VC := (.seq (.post (.ops [⟨some 6, (.mov (.c (D.i 0))), none⟩] false) (.keep [6] [])) .ret)
def vc11_2 : VC := .seq vc11_3 vc11_33
def vc11_0 : VC := .seq vc11_1 vc11_2
def vc13_0 : VC := (.seq (.post (.ops [⟨some 2, .alA, none⟩] false) (.keep [0, 2] [])) (.seq (.post (.ops [⟨some 3, (.mov (.t 0)), none⟩, ⟨some 4, (.build (D.ag [(D.i 0), (D.s []), (D.ag [(D.i 0), (D.i 0), (D.f 0), (D.s [])]), (D.i 0), (D.b false), (D.i 0), (D.sz [])]) [(0, (.c (D.i 2))), (3, (.t 3))]), none⟩, ⟨none, (.ini 2 (.t 4)), none⟩] false) (.keep [2] [])) .ret))
def vc14_0 : VC := (.seq (.post (.ops [⟨some 4, .alA, none⟩] false) (.keep [0, 1, 4] [])) (.seq (.seq (.post (.ops [⟨some 5, (.mov (.t 1)), none⟩, ⟨some 6, (.bin .ltI (.t 5) (.c (D.i 0))), none⟩, ⟨some 7, (.mov (.t 6)), none⟩, ⟨some 8, (.mov (.t 1)), some (7, false)⟩, ⟨some 9, (.mov (.t 0)), some (7, false)⟩, ⟨some 10, (.len (.t 9)), some (7, false)⟩, ⟨some 11, (.bin .geI (.t 8) (.t 10)), some (7, false)⟩, ⟨some 12, (.pick (.t 7) (.c (D.b true)) (.t 11)), none⟩] false) (.keep [0, 1, 4, 12] [])) (.cond (.t 12) (.pre (.keep [4] []) (.seq (.post (.ops [⟨some 13, (.build (D.ag [(D.i 0), (D.i 0), (D.f 0), (D.s [])]) []), none⟩, ⟨none, (.ini 4 (.t 13)), none⟩] false) (.keep [4] [])) .ret)) (.pre (.keep [0, 1, 4] []) .skip))) (.seq (.post (.ops [⟨some 14, (.mov (.t 0)), none⟩, ⟨some 15, (.mov (.t 1)), none⟩, ⟨some 16, (.ixa (.t 14) (.t 15)), none⟩, ⟨some 17, (.ldF (.t 16)), none⟩, ⟨some 18, (.call 30 [(.t 17)] []), none⟩, ⟨none, (.ini 4 (.t 18)), none⟩] false) (.keep [4] [])) .ret)))
def vc15_1 : VC := (.post (.ops [⟨some 2, (.box (.t 0)), none⟩,
  ⟨some 4, (.mov (.c (D.sz []))), none⟩] false) (.keep [1, 2] []))
def vc15_3 : VC := (.post (.ops [⟨some 14, (.bsl .w [] []), none⟩,
  ⟨some 5, (.tak 14), none⟩] false) (.keep [1, 2, 5] []))
def vc15_6 : VC := (.post (.ops [⟨some 15, (.fld (.t 2) 5), none⟩,
  ⟨some 16, (.ldF (.t 15)), none⟩] false) (.keep [1, 2, 5, 16] []))
def vc15_8 : VC := (.post (.ops [⟨some 17, (.ldF (.t 2)), none⟩,
  ⟨some 18, (.mov (.t 1)), none⟩,
  ⟨some 19, (.call 31 [(.t 17), (.t 18)] []), none⟩,
  ⟨some 5, (.tak 19), none⟩] false) (.keep [2, 5] []))
def vc15_10 : VC := (.post (.ops [⟨some 20, (.mov (.t 1)), none⟩,
  ⟨some 21, (.len (.t 20)), none⟩,
  ⟨some 22, (.mov (.c (D.i 0))), none⟩] false) (.keep [2, 5, 20, 21, 22] []))
def vc15_13 : VC := (.seq (.post (.ops [⟨some 23, (.bin .ltI (.t 22) (.t 21)), none⟩] false) (.keep [2, 5, 20, 21, 22, 23] [])) (.seq (.cond (.t 23) (.pre (.keep [2, 5, 20, 21, 22] []) .skip) (.pre (.keep [2, 5] []) (.exit 0))) (.seq (.block 1 (.seq (.post (.ops [⟨some 24, (.ixa (.t 20) (.t 22)), none⟩, ⟨some 25, (.ldF (.t 24)), none⟩, ⟨some 7, (.mov (.t 25)), none⟩] false) (.keep [2, 5, 7, 20, 21, 22] [])) (.post (.ops [⟨some 26, (.tak 5), none⟩, ⟨some 27, (.mov (.t 7)), none⟩, ⟨some 28, (.bsl .f [(D.sz [])] [(0, (.t 27))]), none⟩, ⟨some 29, (.build (D.ag [(D.sz [])]) [(0, (.t 28))]), none⟩, ⟨some 30, (.bsl .f [(D.ag [(D.sz [])])] [(0, (.t 29))]), none⟩, ⟨some 31, (.app .w 5864062014805 (.t 26) true (.t 30)), none⟩, ⟨some 5, (.tak 31), none⟩] false) (.keep [2, 5, 20, 21, 22] [])))) (.post (.ops [⟨some 32, (.bin (.add .i64) (.t 22) (.c (D.i 1))), none⟩, ⟨some 22, (.mov (.t 32)), none⟩] false) (.keep [2, 5, 20, 21, 22] [])))))
def vc15_12 : VC := .loop vc15_13
def vc15_11 : VC := .block 0 vc15_12
def vc15_9 : VC := .seq vc15_10 vc15_11
def vc15_7 : VC := .cond (.t 16) (.pre (.keep [1, 2] []) vc15_8) (.pre (.keep [1, 2, 5] []) vc15_9)
def vc15_5 : VC := .seq vc15_6 vc15_7
def vc15_26 : VC := (.pre (.thaw 5 0) (.post (.ops [⟨some 33, (.mov (.t 5)), none⟩,
  ⟨some 34, (.clo 33 [(.t 2)] [Ty.p 40]), none⟩,
  ⟨some 35, (.call 32 [(.t 33), (.t 34)] [0]), none⟩] false) (.keep [2, 5] [0])))
def vc15_28 : VC := (.seq (.pre (.frz 0) (.post (.ops [⟨some 36, (.fld (.t 2) 8), none⟩, ⟨some 37, (.ldF (.t 36)), none⟩, ⟨some 38, (.bin .geI (.t 37) (.c (D.i 0))), none⟩, ⟨some 39, (.mov (.t 38)), none⟩, ⟨some 40, (.fld (.t 2) 8), some (39, true)⟩, ⟨some 41, (.ldF (.t 40)), some (39, true)⟩, ⟨some 42, (.mov (.t 5)), some (39, true)⟩, ⟨some 43, (.len (.t 42)), some (39, true)⟩, ⟨some 44, (.bin .ltI (.t 41) (.t 43)), some (39, true)⟩, ⟨some 45, (.pick (.t 39) (.t 44) (.c (D.b false))), none⟩] false) (.keep [2, 5, 45] []))) (.cond (.t 45) (.pre (.keep [2, 5] []) (.post (.ops [⟨some 46, (.mov (.t 5)), none⟩, ⟨some 47, (.fld (.t 2) 8), none⟩, ⟨some 48, (.ldF (.t 47)), none⟩, ⟨some 49, (.slF (.t 46) none (some (.t 48))), none⟩, ⟨some 5, (.mov (.t 49)), none⟩] false) (.keep [2, 5] []))) (.pre (.keep [2, 5] []) .skip)))
def vc15_34 : VC := (.post (.ops [⟨some 8, (.nilw .o), none⟩] false) (.keep [2, 5, 8] []))
def vc15_37 : VC := (.post (.ops [⟨some 50, (.mov (.t 5)), none⟩,
  ⟨some 51, (.len (.t 50)), none⟩,
  ⟨some 52, (.mov (.c (D.i 0))), none⟩] false) (.keep [2, 8, 50, 51, 52] []))
def vc15_41 : VC := (.post (.ops [⟨some 53, (.bin .ltI (.t 52) (.t 51)), none⟩] false) (.keep [2, 8, 50, 51, 52, 53] []))
def vc15_43 : VC := (.cond (.t 53) (.pre (.keep [2, 8, 50, 51, 52] []) .skip) (.pre (.keep [8] []) (.exit 2)))
def vc15_49 : VC := (.post (.ops [⟨some 54, (.ixa (.t 50) (.t 52)), none⟩,
  ⟨some 55, (.ldF (.t 54)), none⟩,
  ⟨some 10, .alA, none⟩,
  ⟨none, (.ini 10 (.t 55)), none⟩] false) (.keep [2, 8, 10, 50, 51, 52] []))
def vc15_51 : VC := (.post (.ops [⟨some 11, (.nilw .o), none⟩] false) (.keep [2, 8, 10, 11, 50, 51, 52] []))
def vc15_54 : VC := (.post (.ops [⟨some 56, (.fld (.t 2) 6), none⟩,
  ⟨some 57, (.ldF (.t 56)), none⟩,
  ⟨some 58, (.len (.t 57)), none⟩,
  ⟨some 59, (.mov (.c (D.i 0))), none⟩] false) (.keep [2, 8, 10, 11, 50, 51, 52, 57, 58, 59] []))
def vc15_57 : VC := (.seq (.post (.ops [⟨some 60, (.bin .ltI (.t 59) (.t 58)), none⟩] false) (.keep [2, 8, 10, 11, 50, 51, 52, 57, 58, 59, 60] [])) (.seq (.cond (.t 60) (.pre (.keep [2, 8, 10, 11, 50, 51, 52, 57, 58, 59] []) .skip) (.pre (.keep [2, 8, 11, 50, 51, 52] []) (.exit 4))) (.seq (.block 5 (.seq (.post (.ops [⟨some 61, (.ixa (.t 57) (.t 59)), none⟩, ⟨some 62, (.ldF (.t 61)), none⟩, ⟨some 13, .alA, none⟩, ⟨none, (.ini 13 (.t 62)), none⟩] false) (.keep [2, 8, 10, 11, 13, 50, 51, 52, 57, 58, 59] [])) (.seq (.post (.ops [⟨some 63, (.fld (.t 13) 0), none⟩, ⟨some 64, (.ldF (.t 63)), none⟩, ⟨some 65, (.call 35 [(.t 64), (.c (D.i 10))] []), none⟩, ⟨some 66, (.bin .geI (.t 65) (.c (D.i 0))), none⟩, ⟨some 67, (.mov (.t 66)), none⟩, ⟨some 68, (.fld (.t 13) 0), some (67, true)⟩, ⟨some 69, (.ldF (.t 68)), some (67, true)⟩, ⟨some 70, (.bin .leI (.t 69) (.c (D.i 13))), some (67, true)⟩, ⟨some 71, (.pick (.t 67) (.t 70) (.c (D.b false))), none⟩] false) (.keep [2, 8, 10, 11, 13, 50, 51, 52, 57, 58, 59, 71] [])) (.cond (.t 71) (.pre (.keep [2, 8, 10, 11, 13, 50, 51, 52, 57, 58, 59] []) (.post (.ops [⟨some 72, (.tak 11), none⟩, ⟨some 73, (.ldF (.t 13)), none⟩, ⟨some 74, (.fld (.t 10) 0), none⟩, ⟨some 75, (.ldF (.t 74)), none⟩, ⟨some 76, (.call 36 [(.t 73), (.t 75)] []), none⟩, ⟨some 77, (.bsl .f [(D.ag [(D.i 0), (D.i 0), (D.f 0), (D.s [])])] [(0, (.t 76))]), none⟩, ⟨some 78, (.app .o 3518437208883 (.t 72) true (.t 77)), none⟩, ⟨some 11, (.tak 78), none⟩] false) (.keep [2, 8, 10, 11, 50, 51, 52, 57, 58, 59] []))) (.pre (.keep [2, 8, 10, 11, 13, 50, 51, 52, 57, 58, 59] []) (.post (.ops [⟨some 79, (.tak 11), none⟩, ⟨some 80, (.ldF (.t 13)), none⟩, ⟨some 81, (.ldF (.t 10)), none⟩, ⟨some 82, (.call 34 [(.t 81)] []), none⟩, ⟨some 83, (.call 23 [(.t 80), (.t 82)] []), none⟩, ⟨some 84, (.bsl .f [(D.ag [(D.i 0), (D.i 0), (D.f 0), (D.s [])])] [(0, (.t 83))]), none⟩, ⟨some 85, (.app .o 3518437208883 (.t 79) true (.t 84)), none⟩, ⟨some 11, (.tak 85), none⟩] true) (.keep [2, 8, 10, 11, 50, 51, 52, 57, 58, 59] []))))))) (.post (.ops [⟨some 86, (.bin (.add .i64) (.t 59) (.c (D.i 1))), none⟩, ⟨some 59, (.mov (.t 86)), none⟩] false) (.keep [2, 8, 10, 11, 50, 51, 52, 57, 58, 59] [])))))
def vc15_56 : VC := .loop vc15_57
def vc15_55 : VC := .block 4 vc15_56
def vc15_53 : VC := .seq vc15_54 vc15_55
def vc15_73 : VC := (.post (.ops [⟨some 87, (.tak 8), none⟩,
  ⟨some 88, (.mov (.t 11)), none⟩,
  ⟨some 89, (.bsl .f [(D.sz [])] [(0, (.t 88))]), none⟩,
  ⟨some 90, (.app .o 5864062014805 (.t 87) true (.t 89)), none⟩,
  ⟨some 8, (.tak 90), none⟩] false) (.keep [2, 8, 50, 51, 52] []))
def vc15_52 : VC := .seq vc15_53 vc15_73
def vc15_50 : VC := .seq vc15_51 vc15_52
def vc15_48 : VC := .seq vc15_49 vc15_50
def vc15_47 : VC := .block 3 vc15_48
def vc15_74 : VC := (.post (.ops [⟨some 91, (.bin (.add .i64) (.t 52) (.c (D.i 1))), none⟩,
  ⟨some 52, (.mov (.t 91)), none⟩] false) (.keep [2, 8, 50, 51, 52] []))
def vc15_46 : VC := .seq vc15_47 vc15_74
def vc15_42 : VC := .seq vc15_43 vc15_46
def vc15_40 : VC := .seq vc15_41 vc15_42
def vc15_39 : VC := .loop vc15_40
def vc15_38 : VC := .block 2 vc15_39
def vc15_36 : VC := .seq vc15_37 vc15_38
def vc15_75 : VC := (.seq (.post (.ops [⟨some 92, (.mov (.t 8)), none⟩, ⟨some 4, (.mov (.t 92)), none⟩] false) (.keep [4] [])) .ret)
def vc15_35 : VC := .seq vc15_36 vc15_75
def vc15_33 : VC := .seq vc15_34 vc15_35
def vc15_27 : VC := .seq vc15_28 vc15_33
def vc15_25 : VC := .seq vc15_26 vc15_27
def vc15_4 : VC := .seq vc15_5 vc15_25
def vc15_2 : VC := .seq vc15_3 vc15_4
def vc15_0 : VC := .seq vc15_1 vc15_2
def vc23_1 : VC := (.post (.ops [⟨some 2, (.box (.t 0)), none⟩,
  ⟨some 3, (.box (.t 1)), none⟩,
  ⟨some 4, .alA, none⟩] false) (.keep [2, 3, 4] []))
def vc23_3 : VC := (.post (.ops [⟨some 6, (.clo 45 [(.t 2), (.t 3)] [Ty.p 35, Ty.p 23]), none⟩,
  ⟨some 5, (.mov (.t 6)), none⟩] false) (.keep [2, 3, 4, 5] []))
def vc23_6 : VC := (.post (.ops [⟨some 7, (.fld (.t 2) 0), none⟩,
  ⟨some 8, (.ldF (.t 7)), none⟩] false) (.keep [2, 3, 4, 5, 8] []))
def vc23_9 : VC := (.post (.ops [⟨some 10, (.bin .eqI (.t 8) (.c (D.i 1))), none⟩,
  ⟨some 9, (.mov (.t 10)), none⟩] false) (.keep [2, 3, 4, 5, 8, 9] []))
def vc23_11 : VC := (.seq (.post (.ops [⟨some 11, (.fld (.t 2) 2), none⟩, ⟨some 12, (.ldF (.t 11)), none⟩, ⟨some 13, (.call 46 [(.t 12)] []), none⟩, ⟨none, (.ini 4 (.t 13)), none⟩] false) (.keep [4] [])) .ret)
def vc23_15 : VC := (.post (.ops [⟨some 15, (.bin .eqI (.t 8) (.c (D.i 2))), none⟩,
  ⟨some 14, (.mov (.t 15)), none⟩] false) (.keep [2, 3, 4, 5, 8, 14] []))
def vc23_17 : VC := (.seq (.post (.ops [⟨some 16, (.fld (.t 2) 3), none⟩, ⟨some 17, (.ldF (.t 16)), none⟩, ⟨some 18, (.bin .geI (.t 17) (.c (D.i 0))), none⟩, ⟨some 19, (.mov (.t 18)), none⟩, ⟨some 20, (.fld (.t 2) 3), some (19, true)⟩, ⟨some 21, (.ldF (.t 20)), some (19, true)⟩, ⟨some 22, (.ldF (.t 3)), some (19, true)⟩, ⟨some 23, (.len (.t 22)), some (19, true)⟩, ⟨some 24, (.bin .ltI (.t 21) (.t 23)), some (19, true)⟩, ⟨some 25, (.pick (.t 19) (.t 24) (.c (D.b false))), none⟩] false) (.keep [2, 3, 4, 25] [])) (.cond (.t 25) (.pre (.keep [2, 3, 4] []) (.seq (.post (.ops [⟨some 26, (.ldF (.t 3)), none⟩, ⟨some 27, (.fld (.t 2) 3), none⟩, ⟨some 28, (.ldF (.t 27)), none⟩, ⟨some 29, (.ixa (.t 26) (.t 28)), none⟩, ⟨some 30, (.ldF (.t 29)), none⟩, ⟨some 31, (.call 46 [(.t 30)] []), none⟩, ⟨none, (.ini 4 (.t 31)), none⟩] false) (.keep [4] [])) .ret)) (.pre (.keep [4] []) .skip)))
def vc23_24 : VC := (.seq (.post (.ops [⟨some 33, (.bin .eqI (.t 8) (.c (D.i 3))), none⟩, ⟨some 32, (.mov (.t 33)), none⟩] false) (.keep [2, 4, 5, 8, 32] [])) (.cond (.t 32) (.pre (.keep [4, 5] []) (.seq (.post (.ops [⟨some 34, (.mov (.t 5)), none⟩, ⟨some 35, (.callv (.t 34) [(.c (D.i 0))] [Ty.v 32, Ty.v 3] []), none⟩, ⟨some 36, (.call 47 [(.t 35)] []), none⟩, ⟨none, (.ini 4 (.t 36)), none⟩] false) (.keep [4] [])) .ret)) (.pre (.keep [2, 4, 5, 8] []) (.seq (.post (.ops [⟨some 38, (.bin .eqI (.t 8) (.c (D.i 4))), none⟩, ⟨some 37, (.mov (.t 38)), none⟩] false) (.keep [2, 4, 5, 8, 37] [])) (.cond (.t 37) (.pre (.keep [4, 5] []) (.seq (.post (.ops [⟨some 39, (.mov (.t 5)), none⟩, ⟨some 40, (.callv (.t 39) [(.c (D.i 0))] [Ty.v 32, Ty.v 3] []), none⟩, ⟨some 41, (.call 48 [(.t 40)] []), none⟩, ⟨none, (.ini 4 (.t 41)), none⟩] false) (.keep [4] [])) .ret)) (.pre (.keep [2, 4, 5, 8] []) (.seq (.post (.ops [⟨some 43, (.bin .eqI (.t 8) (.c (D.i 5))), none⟩, ⟨some 42, (.mov (.t 43)), none⟩] false) (.keep [2, 4, 5, 8, 42] [])) (.cond (.t 42) (.pre (.keep [4, 5] []) (.seq (.post (.ops [⟨some 44, (.mov (.t 5)), none⟩, ⟨some 45, (.callv (.t 44) [(.c (D.i 0))] [Ty.v 32, Ty.v 3] []), none⟩, ⟨some 46, (.mov (.t 5)), none⟩, ⟨some 47, (.callv (.t 46) [(.c (D.i 1))] [Ty.v 32, Ty.v 3] []), none⟩, ⟨some 48, (.call 49 [(.t 45), (.t 47)] []), none⟩, ⟨none, (.ini 4 (.t 48)), none⟩] false) (.keep [4] [])) .ret)) (.pre (.keep [2, 4, 5, 8] []) (.seq (.post (.ops [⟨some 50, (.bin .eqI (.t 8) (.c (D.i 6))), none⟩, ⟨some 49, (.mov (.t 50)), none⟩] false) (.keep [2, 4, 5, 8, 49] [])) (.cond (.t 49) (.pre (.keep [4, 5] []) (.seq (.post (.ops [⟨some 51, (.mov (.t 5)), none⟩, ⟨some 52, (.callv (.t 51) [(.c (D.i 0))] [Ty.v 32, Ty.v 3] []), none⟩, ⟨some 53, (.mov (.t 5)), none⟩, ⟨some 54, (.callv (.t 53) [(.c (D.i 1))] [Ty.v 32, Ty.v 3] []), none⟩, ⟨some 55, (.call 50 [(.t 52), (.t 54)] []), none⟩, ⟨none, (.ini 4 (.t 55)), none⟩] false) (.keep [4] [])) .ret)) (.pre (.keep [2, 4, 5, 8] []) (.seq (.post (.ops [⟨some 57, (.bin .eqI (.t 8) (.c (D.i 7))), none⟩, ⟨some 56, (.mov (.t 57)), none⟩] false) (.keep [2, 4, 5, 8, 56] [])) (.cond (.t 56) (.pre (.keep [2, 4, 5] []) (.seq (.post (.ops [⟨some 58, (.fld (.t 2) 1), none⟩, ⟨some 59, (.ldF (.t 58)), none⟩, ⟨some 60, (.mov (.t 5)), none⟩, ⟨some 61, (.callv (.t 60) [(.c (D.i 0))] [Ty.v 32, Ty.v 3] []), none⟩, ⟨some 62, (.mov (.t 5)), none⟩, ⟨some 63, (.callv (.t 62) [(.c (D.i 1))] [Ty.v 32, Ty.v 3] []), none⟩, ⟨some 64, (.call 51 [(.t 59), (.t 61), (.t 63)] []), none⟩, ⟨none, (.ini 4 (.t 64)), none⟩] true) (.keep [4] [])) .ret)) (.pre (.keep [2, 4, 5, 8] []) (.seq (.post (.ops [⟨some 66, (.bin .eqI (.t 8) (.c (D.i 8))), none⟩, ⟨some 65, (.mov (.t 66)), none⟩] false) (.keep [2, 4, 5, 8, 65] [])) (.cond (.t 65) (.pre (.keep [2, 4, 5] []) (.seq (.post (.ops [⟨some 67, (.fld (.t 2) 1), none⟩, ⟨some 68, (.ldF (.t 67)), none⟩, ⟨some 69, (.mov (.t 5)), none⟩, ⟨some 70, (.callv (.t 69) [(.c (D.i 0))] [Ty.v 32, Ty.v 3] []), none⟩, ⟨some 71, (.mov (.t 5)), none⟩, ⟨some 72, (.callv (.t 71) [(.c (D.i 1))] [Ty.v 32, Ty.v 3] []), none⟩, ⟨some 73, (.call 52 [(.t 68), (.t 70), (.t 72)] []), none⟩, ⟨none, (.ini 4 (.t 73)), none⟩] true) (.keep [4] [])) .ret)) (.pre (.keep [2, 4, 5, 8] []) (.seq (.post (.ops [⟨some 75, (.bin .eqI (.t 8) (.c (D.i 9))), none⟩, ⟨some 74, (.mov (.t 75)), none⟩] false) (.keep [2, 4, 5, 74] [])) (.cond (.t 74) (.pre (.keep [2, 4, 5] []) (.seq (.post (.ops [⟨some 76, (.mov (.t 5)), none⟩, ⟨some 77, (.callv (.t 76) [(.c (D.i 0))] [Ty.v 32, Ty.v 3] []), none⟩, ⟨some 78, (.getf (.t 77) 0), none⟩, ⟨some 79, (.bin .eqI (.t 78) (.c (D.i 0))), none⟩, ⟨some 80, (.fld (.t 2) 4), none⟩, ⟨some 81, (.ldF (.t 80)), none⟩, ⟨some 82, (.bin .neB (.t 79) (.t 81)), none⟩, ⟨some 83, (.call 53 [(.t 82)] []), none⟩, ⟨none, (.ini 4 (.t 83)), none⟩] true) (.keep [4] [])) .ret)) (.pre (.keep [4] []) .skip)))))))))))))))))))))
def vc23_16 : VC := .cond (.t 14) (.pre (.keep [2, 3, 4] []) vc23_17) (.pre (.keep [2, 4, 5, 8] []) vc23_24)
def vc23_14 : VC := .seq vc23_15 vc23_16
def vc23_10 : VC := .cond (.t 9) (.pre (.keep [2, 4] []) vc23_11) (.pre (.keep [2, 3, 4, 5, 8] []) vc23_14)
def vc23_8 : VC := .seq vc23_9 vc23_10
def vc23_7 : VC := .block 0 vc23_8
def vc23_5 : VC := .seq vc23_6 vc23_7
def vc23_67 : VC := (.seq (.post (.ops [⟨some 84, (.build (D.ag [(D.i 0), (D.i 0), (D.f 0), (D.s [])]) []), none⟩, ⟨none, (.ini 4 (.t 84)), none⟩] false) (.keep [4] [])) .ret)
def vc23_4 : VC := .seq vc23_5 vc23_67
def vc23_2 : VC := .seq vc23_3 vc23_4
def vc23_0 : VC := .seq vc23_1 vc23_2
def vc27_1 : VC := (.post (.ops [⟨some 2, (.boxM 0 (.t 0)), none⟩,
  ⟨some 3, (.boxM 1 (.t 1)), none⟩,
  ⟨some 4, (.mov (.c (D.i 0))), none⟩] false) (.keep [2, 3] [0, 1]))
def vc27_3 : VC := (.post (.ops [⟨some 7, (.ld (.t 2)), none⟩,
  ⟨some 8, (.call 46 [(.t 7)] []), none⟩,
  ⟨some 9, (.ld (.t 3)), none⟩,
  ⟨some 10, (.call 46 [(.t 9)] []), none⟩,
  ⟨none, (.st (.t 2) (.t 8)), none⟩,
  ⟨none, (.st (.t 3) (.t 10)), none⟩] true) (.keep [2, 3] [0, 1]))
def vc27_5 : VC := (.seq (.post (.ops [⟨some 11, (.fld (.t 2) 0), none⟩, ⟨some 12, (.ld (.t 11)), none⟩, ⟨some 13, (.fld (.t 3) 0), none⟩, ⟨some 14, (.ld (.t 13)), none⟩, ⟨some 15, (.bin .neI (.t 12) (.t 14)), none⟩] false) (.keep [2, 3, 15] [0, 1])) (.cond (.t 15) (.pre (.keep [2, 3] [0, 1]) (.seq (.post (.ops [⟨some 16, (.fld (.t 2) 0), none⟩, ⟨some 17, (.ld (.t 16)), none⟩, ⟨some 18, (.fld (.t 3) 0), none⟩, ⟨some 19, (.ld (.t 18)), none⟩, ⟨some 20, (.call 35 [(.t 17), (.t 19)] []), none⟩, ⟨some 4, (.mov (.t 20)), none⟩] false) (.keep [4] [0, 1])) .ret)) (.pre (.keep [2, 3] [0, 1]) .skip)))
def vc27_14 : VC := (.post (.ops [⟨some 21, (.fld (.t 2) 0), none⟩,
  ⟨some 22, (.ld (.t 21)), none⟩] false) (.keep [2, 3, 22] [0, 1]))
def vc27_17 : VC := (.post (.ops [⟨some 24, (.bin .eqI (.t 22) (.c (D.i 2))), none⟩,
  ⟨some 23, (.mov (.t 24)), none⟩] false) (.keep [2, 3, 22, 23] [0, 1]))
def vc27_19 : VC := (.seq (.post (.ops [⟨some 25, (.fld (.t 2) 2), none⟩, ⟨some 26, (.ld (.t 25)), none⟩, ⟨some 27, (.call 64 [(.t 26)] []), none⟩, ⟨some 28, (.fld (.t 3) 2), none⟩, ⟨some 29, (.ld (.t 28)), none⟩, ⟨some 30, (.call 64 [(.t 29)] []), none⟩, ⟨some 5, (.mov (.t 27)), none⟩, ⟨some 6, (.mov (.t 30)), none⟩] true) (.keep [2, 3, 5, 6] [0, 1])) (.seq (.block 1 (.seq (.post (.ops [⟨some 32, (.mov (.t 5)), none⟩, ⟨some 33, (.mov (.t 32)), none⟩, ⟨some 34, (.mov (.t 6)), some (33, true)⟩, ⟨some 35, (.pick (.t 33) (.t 34) (.c (D.b false))), none⟩, ⟨some 31, (.mov (.t 35)), none⟩] false) (.keep [2, 3, 5, 6, 31] [0, 1])) (.cond (.t 31) (.pre (.keep [] [0, 1]) (.seq (.post (.ops [⟨some 4, (.mov (.c (D.i 0))), none⟩] false) (.keep [4] [0, 1])) .ret)) (.pre (.keep [2, 3, 5, 6] [0, 1]) (.seq (.post (.ops [⟨some 37, (.mov (.t 5)), none⟩, ⟨some 36, (.mov (.t 37)), none⟩] false) (.keep [2, 3, 6, 36] [0, 1])) (.cond (.t 36) (.pre (.keep [] [0, 1]) (.seq (.post (.ops [⟨some 4, (.mov (.c (D.i 1))), none⟩] false) (.keep [4] [0, 1])) .ret)) (.pre (.keep [2, 3, 6] [0, 1]) (.seq (.post (.ops [⟨some 39, (.mov (.t 6)), none⟩, ⟨some 38, (.mov (.t 39)), none⟩] false) (.keep [2, 3, 38] [0, 1])) (.cond (.t 38) (.pre (.keep [] [0, 1]) (.seq (.post (.ops [⟨some 4, (.mov (.c (D.i (-1)))), none⟩] false) (.keep [4] [0, 1])) .ret)) (.pre (.keep [2, 3] [0, 1]) .skip)))))))))) (.seq (.post (.ops [⟨some 40, (.fld (.t 2) 2), none⟩, ⟨some 41, (.ld (.t 40)), none⟩, ⟨some 42, (.fld (.t 3) 2), none⟩, ⟨some 43, (.ld (.t 42)), none⟩, ⟨some 44, (.call 65 [(.t 41), (.t 43)] []), none⟩, ⟨some 4, (.mov (.t 44)), none⟩] false) (.keep [4] [0, 1])) .ret)))
def vc27_45 : VC := (.seq (.post (.ops [⟨some 46, (.bin .eqI (.t 22) (.c (D.i 3))), none⟩, ⟨some 45, (.mov (.t 46)), none⟩] false) (.keep [2, 3, 45] [0, 1])) (.cond (.t 45) (.pre (.keep [2, 3] [0, 1]) (.seq (.post (.ops [⟨some 47, (.fld (.t 2) 3), none⟩, ⟨some 48, (.ld (.t 47)), none⟩, ⟨some 49, (.fld (.t 3) 3), none⟩, ⟨some 50, (.ld (.t 49)), none⟩, ⟨some 51, (.call 66 [(.t 48), (.t 50)] []), none⟩, ⟨some 4, (.mov (.t 51)), none⟩] false) (.keep [4] [0, 1])) .ret)) (.pre (.keep [2, 3] [0, 1]) .skip)))
def vc27_18 : VC := .cond (.t 23) (.pre (.keep [2, 3] [0, 1]) vc27_19) (.pre (.keep [2, 3, 22] [0, 1]) vc27_45)
def vc27_16 : VC := .seq vc27_17 vc27_18
def vc27_15 : VC := .block 0 vc27_16
def vc27_13 : VC := .seq vc27_14 vc27_15
def vc27_52 : VC := (.seq (.post (.ops [⟨some 52, (.fld (.t 2) 1), none⟩, ⟨some 53, (.ld (.t 52)), none⟩, ⟨some 54, (.fld (.t 3) 1), none⟩, ⟨some 55, (.ld (.t 54)), none⟩, ⟨some 56, (.call 67 [(.t 53), (.t 55)] []), none⟩, ⟨some 4, (.mov (.t 56)), none⟩] false) (.keep [4] [0, 1])) .ret)
def vc27_12 : VC := .seq vc27_13 vc27_52
def vc27_4 : VC := .seq vc27_5 vc27_12
def vc27_2 : VC := .seq vc27_3 vc27_4
def vc27_0 : VC := .seq vc27_1 vc27_2
def vc28_0 : VC := (.seq (.post (.ops [⟨some 4, .alA, none⟩] false) (.keep [0, 1, 4] [])) (.seq (.post (.ops [⟨some 5, (.mov (.t 1)), none⟩, ⟨some 6, (.build (D.ag [(D.i 0), (D.s []), (D.ag [(D.i 0), (D.i 0), (D.f 0), (D.s [])]), (D.i 0), (D.b false), (D.i 0), (D.sz [])]) [(0, (.c (D.i 2))), (3, (.t 5))]), none⟩, ⟨some 7, (.mov (.t 0)), none⟩, ⟨some 8, (.call 23 [(.t 6), (.t 7)] []), none⟩, ⟨none, (.ini 4 (.t 8)), none⟩] false) (.keep [4] [])) .ret))
def vc30_1 : VC := (.post (.ops [⟨some 1, (.box (.t 0)), none⟩,
  ⟨some 2, .alA, none⟩] false) (.keep [1, 2] []))
def vc30_3 : VC := (.post (.ops [⟨some 4, (.build (D.ag [(D.i 0), (D.i 0), (D.f 0), (D.s [])]) []), none⟩,
  ⟨some 3, (.alM 0 (.f (D.ag [(D.i 0), (D.i 0), (D.f 0), (D.s [])]))), none⟩,
  ⟨none, (.st (.t 3) (.t 4)), none⟩] false) (.keep [1, 2, 3] [0]))
def vc30_5 : VC := (.seq (.post (.ops [⟨some 5, (.fld (.t 1) 0), none⟩, ⟨some 6, (.ldF (.t 5)), none⟩, ⟨some 7, (.bin .ltI (.t 6) (.c (D.i 0))), none⟩, ⟨some 8, (.mov (.t 7)), none⟩, ⟨some 9, (.fld (.t 1) 0), some (8, false)⟩, ⟨some 10, (.ldF (.t 9)), some (8, false)⟩, ⟨some 11, (.bin .gtI (.t 10) (.c (D.i 4))), some (8, false)⟩, ⟨some 12, (.pick (.t 8) (.c (D.b true)) (.t 11)), none⟩] false) (.keep [1, 2, 3, 12] [0])) (.cond (.t 12) (.pre (.keep [2, 3] [0]) (.seq (.post (.ops [⟨some 13, (.ld (.t 3)), none⟩, ⟨none, (.ini 2 (.t 13)), none⟩] false) (.keep [2] [0])) .ret)) (.pre (.keep [1, 2, 3] [0]) .skip)))
def vc30_13 : VC := (.post (.ops [⟨some 14, (.fld (.t 1) 0), none⟩,
  ⟨some 15, (.ldF (.t 14)), none⟩,
  ⟨some 16, (.fld (.t 3) 0), none⟩,
  ⟨none, (.st (.t 16) (.t 15)), none⟩] false) (.keep [1, 2, 3] [0]))
def vc30_15 : VC := (.seq (.post (.ops [⟨some 17, (.fld (.t 1) 0), none⟩, ⟨some 18, (.ldF (.t 17)), none⟩, ⟨some 19, (.bin .eqI (.t 18) (.c (D.i 1))), none⟩] false) (.keep [1, 2, 3, 19] [0])) (.cond (.t 19) (.pre (.keep [1, 2, 3] [0]) (.post (.ops [⟨some 20, (.fld (.t 1) 1), none⟩, ⟨some 21, (.ldF (.t 20)), none⟩, ⟨some 22, (.fld (.t 3) 1), none⟩, ⟨none, (.st (.t 22) (.t 21)), none⟩] false) (.keep [1, 2, 3] [0]))) (.pre (.keep [1, 2, 3] [0]) .skip)))
def vc30_21 : VC := (.seq (.post (.ops [⟨some 23, (.fld (.t 1) 0), none⟩, ⟨some 24, (.ldF (.t 23)), none⟩, ⟨some 25, (.bin .eqI (.t 24) (.c (D.i 2))), none⟩, ⟨some 26, (.mov (.t 25)), none⟩, ⟨some 27, (.fld (.t 1) 2), some (26, true)⟩, ⟨some 28, (.ldF (.t 27)), some (26, true)⟩, ⟨some 29, (.bin .fne (.t 28) (.c (D.f 0))), some (26, true)⟩, ⟨some 30, (.pick (.t 26) (.t 29) (.c (D.b false))), none⟩] false) (.keep [1, 2, 3, 30] [0])) (.cond (.t 30) (.pre (.keep [1, 2, 3] [0]) (.post (.ops [⟨some 31, (.fld (.t 1) 2), none⟩, ⟨some 32, (.ldF (.t 31)), none⟩, ⟨some 33, (.fld (.t 3) 2), none⟩, ⟨none, (.st (.t 33) (.t 32)), none⟩] false) (.keep [1, 2, 3] [0]))) (.pre (.keep [1, 2, 3] [0]) .skip)))
def vc30_26 : VC := (.seq (.seq (.post (.ops [⟨some 34, (.fld (.t 1) 0), none⟩, ⟨some 35, (.ldF (.t 34)), none⟩, ⟨some 36, (.bin .eqI (.t 35) (.c (D.i 3))), none⟩] false) (.keep [1, 2, 3, 36] [0])) (.cond (.t 36) (.pre (.keep [1, 2, 3] [0]) (.post (.ops [⟨some 37, (.fld (.t 1) 3), none⟩, ⟨some 38, (.ldF (.t 37)), none⟩, ⟨some 39, (.fld (.t 3) 3), none⟩, ⟨none, (.st (.t 39) (.t 38)), none⟩] false) (.keep [1, 2, 3] [0]))) (.pre (.keep [1, 2, 3] [0]) .skip))) (.seq (.seq (.post (.ops [⟨some 40, (.fld (.t 1) 0), none⟩, ⟨some 41, (.ldF (.t 40)), none⟩, ⟨some 42, (.bin .eqI (.t 41) (.c (D.i 4))), none⟩, ⟨some 43, (.mov (.t 42)), none⟩, ⟨some 44, (.fld (.t 1) 1), some (43, true)⟩, ⟨some 45, (.ldF (.t 44)), some (43, true)⟩, ⟨some 46, (.bin .neI (.t 45) (.c (D.i 0))), some (43, true)⟩, ⟨some 47, (.pick (.t 43) (.t 46) (.c (D.b false))), none⟩] false) (.keep [2, 3, 47] [0])) (.cond (.t 47) (.pre (.keep [2, 3] [0]) (.post (.ops [⟨some 48, (.fld (.t 3) 1), none⟩, ⟨none, (.st (.t 48) (.c (D.i 1))), none⟩] false) (.keep [2, 3] [0]))) (.pre (.keep [2, 3] [0]) .skip))) (.seq (.post (.ops [⟨some 49, (.ld (.t 3)), none⟩, ⟨none, (.ini 2 (.t 49)), none⟩] false) (.keep [2] [0])) .ret)))
def vc30_20 : VC := .seq vc30_21 vc30_26
def vc30_14 : VC := .seq vc30_15 vc30_20
def vc30_12 : VC := .seq vc30_13 vc30_14
def vc30_4 : VC := .seq vc30_5 vc30_12
def vc30_2 : VC := .seq vc30_3 vc30_4
def vc30_0 : VC := .seq vc30_1 vc30_2
def vc31_1 : VC := (.post (.ops [⟨some 2, (.box (.t 0)), none⟩,
  ⟨some 4, (.nilw .w), none⟩] false) (.keep [1, 2] []))
def vc31_3 : VC := (.seq (.post (.ops [⟨some 13, (.fld (.t 2) 4), none⟩, ⟨some 14, (.ldF (.t 13)), none⟩, ⟨some 15, (.len (.t 14)), none⟩, ⟨some 16, (.bin .eqI (.t 15) (.c (D.i 0))), none⟩] false) (.keep [1, 2, 16] [])) (.cond (.t 16) (.pre (.keep [1] []) (.seq (.post (.ops [⟨some 17, (.mov (.t 1)), none⟩, ⟨some 18, (.build (D.ag [(D.sz [])]) [(0, (.t 17))]), none⟩, ⟨some 19, (.bsl .w [(D.ag [(D.sz [])])] [(0, (.t 18))]), none⟩, ⟨some 4, (.tak 19), none⟩] false) (.keep [4] [])) .ret)) (.pre (.keep [1, 2] []) .skip)))
def vc31_11 : VC := (.post (.post (.ops [⟨some 5, (.alM 0 (.f (D.sz []))), none⟩] false) (.opn 0 0)) (.keep [1, 2, 5] [0]))
def vc31_14 : VC := (.post (.ops [⟨some 20, (.fld (.t 2) 4), none⟩,
  ⟨some 21, (.ldF (.t 20)), none⟩,
  ⟨some 22, (.len (.t 21)), none⟩,
  ⟨some 23, (.mov (.c (D.i 0))), none⟩] false) (.keep [1, 5, 21, 22, 23] [0]))
def vc31_17 : VC := (.seq (.post (.ops [⟨some 24, (.bin .ltI (.t 23) (.t 22)), none⟩] false) (.keep [1, 5, 21, 22, 23, 24] [0])) (.seq (.cond (.t 24) (.pre (.keep [1, 5, 21, 22, 23] [0]) .skip) (.pre (.keep [1, 5] [0]) (.exit 0))) (.seq (.block 1 (.seq (.post (.ops [⟨some 25, (.ixa (.t 21) (.t 23)), none⟩, ⟨some 26, (.ldF (.t 25)), none⟩, ⟨some 7, (.mov (.t 26)), none⟩] false) (.keep [1, 5, 7, 21, 22, 23] [0])) (.post (.ops [⟨some 27, (.ldT (.t 5)), none⟩, ⟨some 28, (.mov (.t 7)), none⟩, ⟨some 29, (.build (D.ag [(D.i 0), (D.b false)]) [(0, (.t 28))]), none⟩, ⟨some 30, (.bsl .f [(D.ag [(D.i 0), (D.b false)])] [(0, (.t 29))]), none⟩, ⟨some 31, (.app .o 8796093022208 (.t 27) true (.t 30)), none⟩, ⟨none, (.stT (.t 5) 31), none⟩] false) (.keep [1, 5, 21, 22, 23] [0])))) (.post (.ops [⟨some 32, (.bin (.add .i64) (.t 23) (.c (D.i 1))), none⟩, ⟨some 23, (.mov (.t 32)), none⟩] false) (.keep [1, 5, 21, 22, 23] [0])))))
def vc31_16 : VC := .loop vc31_17
def vc31_15 : VC := .block 0 vc31_16
def vc31_13 : VC := .seq vc31_14 vc31_15
def vc31_30 : VC := (.pre (.cls 0) (.pre (.frz 0) (.post (.ops [⟨some 33, (.mov (.t 1)), none⟩,
  ⟨some 34, (.call 68 [(.t 33)] []), none⟩,
  ⟨some 8, (.tak 34), none⟩] false) (.keep [5, 8] []))))
def vc31_32 : VC := (.pre (.thaw 8 1) (.post (.ops [⟨some 35, (.mov (.t 8)), none⟩,
  ⟨some 36, (.clo 70 [(.t 5)] [Ty.p 22]), none⟩,
  ⟨some 37, (.call 69 [(.t 35), (.t 36)] [1]), none⟩] false) (.keep [5, 8] [1])))
def vc31_34 : VC := (.pre (.frz 1) (.post (.ops [⟨some 9, (.nilw .w), none⟩] false) (.keep [5, 8, 9] [])))
def vc31_37 : VC := (.post (.ops [⟨some 38, (.mov (.t 8)), none⟩,
  ⟨some 39, (.len (.t 38)), none⟩,
  ⟨some 40, (.mov (.c (D.i 0))), none⟩] false) (.keep [5, 8, 9, 38, 39, 40] []))
def vc31_40 : VC := (.seq (.post (.ops [⟨some 41, (.bin .ltI (.t 40) (.t 39)), none⟩] false) (.keep [5, 8, 9, 38, 39, 40, 41] [])) (.seq (.cond (.t 41) (.pre (.keep [5, 8, 9, 38, 39, 40] []) .skip) (.pre (.keep [9] []) (.exit 2))) (.seq (.block 3 (.seq (.post (.ops [⟨some 42, (.mov (.t 40)), none⟩, ⟨some 43, (.ixa (.t 38) (.t 40)), none⟩, ⟨some 44, (.ldF (.t 43)), none⟩, ⟨some 10, (.mov (.t 42)), none⟩, ⟨some 11, (.mov (.t 44)), none⟩] false) (.keep [5, 8, 9, 10, 11, 38, 39, 40] [])) (.seq (.seq (.post (.ops [⟨some 45, (.mov (.t 10)), none⟩, ⟨some 46, (.bin .gtI (.t 45) (.c (D.i 0))), none⟩, ⟨some 47, (.mov (.t 46)), none⟩, ⟨some 48, (.ldF (.t 5)), some (47, true)⟩, ⟨some 49, (.mov (.t 8)), some (47, true)⟩, ⟨some 50, (.mov (.t 10)), some (47, true)⟩, ⟨some 51, (.bin (.sub .i64) (.t 50) (.c (D.i 1))), some (47, true)⟩, ⟨some 52, (.ixa (.t 49) (.t 51)), some (47, true)⟩, ⟨some 53, (.ldF (.t 52)), some (47, true)⟩, ⟨some 54, (.mov (.t 11)), some (47, true)⟩, ⟨some 55, (.call 11 [(.t 48), (.t 53), (.t 54)] []), some (47, true)⟩, ⟨some 56, (.bin .eqI (.t 55) (.c (D.i 0))), some (47, true)⟩, ⟨some 57, (.pick (.t 47) (.t 56) (.c (D.b false))), none⟩] true) (.keep [5, 8, 9, 11, 38, 39, 40, 57] [])) (.cond (.t 57) (.pre (.keep [5, 8, 9, 11, 38, 39, 40] []) (.seq (.pre (.thaw 9 2) (.post (.ops [⟨some 58, (.mov (.t 9)), none⟩, ⟨some 59, (.lenM (.t 58)), none⟩, ⟨some 60, (.bin (.sub .i64) (.t 59) (.c (D.i 1))), none⟩, ⟨some 12, (.mov (.t 60)), none⟩] false) (.keep [5, 8, 9, 11, 12, 38, 39, 40] [2]))) (.seq (.post (.ops [⟨some 61, (.mov (.t 9)), none⟩, ⟨some 62, (.mov (.t 12)), none⟩, ⟨some 63, (.mov (.t 9)), none⟩, ⟨some 64, (.mov (.t 12)), none⟩, ⟨some 65, (.ixaM (.t 63) (.t 64)), none⟩, ⟨some 66, (.fld (.t 65) 0), none⟩, ⟨some 67, (.ld (.t 66)), none⟩, ⟨some 68, (.call 71 [(.t 67)] []), none⟩, ⟨some 69, (.mov (.t 11)), none⟩, ⟨some 70, (.bsl .f [(D.sz [])] [(0, (.t 69))]), none⟩, ⟨some 71, (.app .f 5864062014805 (.t 68) false (.t 70)), none⟩, ⟨some 72, (.ixaM (.t 61) (.t 62)), none⟩, ⟨some 73, (.fld (.t 72) 0), none⟩, ⟨none, (.st (.t 73) (.t 71)), none⟩] false) (.keep [5, 8, 9, 38, 39, 40] [2])) (.pre (.unthaw 9 2) (.exit 3))))) (.pre (.keep [5, 8, 9, 11, 38, 39, 40] []) .skip))) (.post (.ops [⟨some 74, (.tak 9), none⟩, ⟨some 75, (.mov (.t 11)), none⟩, ⟨some 76, (.bsl .f [(D.sz [])] [(0, (.t 75))]), none⟩, ⟨some 77, (.build (D.ag [(D.sz [])]) [(0, (.t 76))]), none⟩, ⟨some 78, (.bsl .f [(D.ag [(D.sz [])])] [(0, (.t 77))]), none⟩, ⟨some 79, (.app .w 5864062014805 (.t 74) true (.t 78)), none⟩, ⟨some 9, (.tak 79), none⟩] false) (.keep [5, 8, 9, 38, 39, 40] []))))) (.post (.ops [⟨some 80, (.bin (.add .i64) (.t 40) (.c (D.i 1))), none⟩, ⟨some 40, (.mov (.t 80)), none⟩] false) (.keep [5, 8, 9, 38, 39, 40] [])))))
def vc31_39 : VC := .loop vc31_40
def vc31_38 : VC := .block 2 vc31_39
def vc31_36 : VC := .seq vc31_37 vc31_38
def vc31_62 : VC := (.seq (.post (.ops [⟨some 81, (.tak 9), none⟩, ⟨some 4, (.tak 81), none⟩] false) (.keep [4] [])) .ret)
def vc31_35 : VC := .seq vc31_36 vc31_62
def vc31_33 : VC := .seq vc31_34 vc31_35
def vc31_31 : VC := .seq vc31_32 vc31_33
def vc31_29 : VC := .seq vc31_30 vc31_31
def vc31_12 : VC := .seq vc31_13 vc31_29
def vc31_10 : VC := .seq vc31_11 vc31_12
def vc31_2 : VC := .seq vc31_3 vc31_10
def vc31_0 : VC := .seq vc31_1 vc31_2
def vc32_0 : VC := (.post (.ops [⟨some 4, (.mov (.t 0)), none⟩,
  ⟨some 5, (.mov (.t 0)), none⟩,
  ⟨some 6, (.lenM (.t 5)), none⟩,
  ⟨some 7, (.mov (.t 1)), none⟩,
  ⟨some 8, (.call 72 [(.t 4), (.t 6), (.t 7)] [0]), none⟩] false) (.keep [] [0]))
def vc33_0 : VC := (.seq (.post (.ops [⟨some 3, (.box (.t 0)), none⟩, ⟨some 4, (.box (.t 1)), none⟩, ⟨some 5, (.mov (.c (D.i 0))), none⟩] false) (.keep [2, 3, 4] [])) (.seq (.post (.ops [⟨some 6, (.fld (.t 2) 7), none⟩, ⟨some 7, (.ldF (.t 6)), none⟩, ⟨some 8, (.ldF (.t 3)), none⟩, ⟨some 9, (.call 34 [(.t 8)] []), none⟩, ⟨some 10, (.ldF (.t 4)), none⟩, ⟨some 11, (.call 34 [(.t 10)] []), none⟩, ⟨some 12, (.call 11 [(.t 7), (.t 9), (.t 11)] []), none⟩, ⟨some 5, (.mov (.t 12)), none⟩] true) (.keep [5] [])) .ret))
def vc34_0 : VC := (.seq (.post (.ops [⟨some 1, (.box (.t 0)), none⟩, ⟨some 2, (.mov (.c (D.sz []))), none⟩] false) (.keep [1] [])) (.seq (.seq (.post (.ops [⟨some 3, (.fld (.t 1) 0), none⟩, ⟨some 4, (.ldF (.t 3)), none⟩, ⟨some 5, (.len (.t 4)), none⟩, ⟨some 6, (.bin .eqI (.t 5) (.c (D.i 0))), none⟩] false) (.keep [1, 6] [])) (.cond (.t 6) (.pre (.keep [] []) (.seq (.post (.ops [⟨some 2, (.mov (.c (D.sz []))), none⟩] false) (.keep [2] [])) .ret)) (.pre (.keep [1] []) .skip))) (.seq (.post (.ops [⟨some 7, (.fld (.t 1) 0), none⟩, ⟨some 8, (.ldF (.t 7)), none⟩, ⟨some 9, (.ixa (.t 8) (.c (D.i 0))), none⟩, ⟨some 10, (.ldF (.t 9)), none⟩, ⟨some 2, (.mov (.t 10)), none⟩] false) (.keep [2] [])) .ret)))
def vc35_0 : VC := (.seq (.post (.ops [⟨some 4, (.mov (.c (D.i 0))), none⟩] false) (.keep [0, 1] [])) (.seq (.post (.ops [⟨some 7, (.mov (.t 0)), none⟩, ⟨some 8, (.call 73 [(.t 7)] []), none⟩, ⟨some 5, (.mov (.t 8)), none⟩] false) (.keep [0, 1, 5] [])) (.seq (.post (.ops [⟨some 9, (.mov (.t 1)), none⟩, ⟨some 10, (.call 73 [(.t 9)] []), none⟩, ⟨some 6, (.mov (.t 10)), none⟩] false) (.keep [0, 1, 5, 6] [])) (.seq (.seq (.post (.ops [⟨some 11, (.mov (.t 5)), none⟩] false) (.keep [0, 1, 6, 11] [])) (.cond (.t 11) (.pre (.keep [6] []) (.seq (.seq (.post (.ops [⟨some 12, (.mov (.t 6)), none⟩] false) (.keep [12] [])) (.cond (.t 12) (.pre (.keep [] []) (.seq (.post (.ops [⟨some 4, (.mov (.c (D.i 0))), none⟩] false) (.keep [4] [])) .ret)) (.pre (.keep [] []) .skip))) (.seq (.post (.ops [⟨some 4, (.mov (.c (D.i (-1)))), none⟩] false) (.keep [4] [])) .ret))) (.pre (.keep [0, 1, 6] []) .skip))) (.seq (.seq (.post (.ops [⟨some 13, (.mov (.t 6)), none⟩] false) (.keep [0, 1, 13] [])) (.cond (.t 13) (.pre (.keep [] []) (.seq (.post (.ops [⟨some 4, (.mov (.c (D.i 1))), none⟩] false) (.keep [4] [])) .ret)) (.pre (.keep [0, 1] []) .skip))) (.seq (.seq (.post (.ops [⟨some 14, (.mov (.t 0)), none⟩, ⟨some 15, (.mov (.t 1)), none⟩, ⟨some 16, (.bin .ltI (.t 14) (.t 15)), none⟩] false) (.keep [0, 1, 16] [])) (.cond (.t 16) (.pre (.keep [] []) (.seq (.post (.ops [⟨some 4, (.mov (.c (D.i (-1)))), none⟩] false) (.keep [4] [])) .ret)) (.pre (.keep [0, 1] []) .skip))) (.seq (.seq (.post (.ops [⟨some 17, (.mov (.t 0)), none⟩, ⟨some 18, (.mov (.t 1)), none⟩, ⟨some 19, (.bin .gtI (.t 17) (.t 18)), none⟩] false) (.keep [19] [])) (.cond (.t 19) (.pre (.keep [] []) (.seq (.post (.ops [⟨some 4, (.mov (.c (D.i 1))), none⟩] false) (.keep [4] [])) .ret)) (.pre (.keep [] []) .skip))) (.seq (.post (.ops [⟨some 4, (.mov (.c (D.i 0))), none⟩] false) (.keep [4] [])) .ret))))))))
def vc36_1 : VC := (.post (.ops [⟨some 2, (.box (.t 0)), none⟩,
  ⟨some 4, .alA, none⟩] false) (.keep [1, 2, 4] []))
def vc36_3 : VC := (.seq (.post (.ops [⟨some 11, (.fld (.t 2) 0), none⟩, ⟨some 12, (.ldF (.t 11)), none⟩, ⟨some 13, (.bin .eqI (.t 12) (.c (D.i 10))), none⟩] false) (.keep [1, 2, 4, 13] [])) (.cond (.t 13) (.pre (.keep [1, 4] []) (.seq (.post (.ops [⟨some 14, (.mov (.t 1)), none⟩, ⟨some 15, (.len (.t 14)), none⟩, ⟨some 16, (.mm false (.t 15) [(.c (D.i 2147483647))]), none⟩, ⟨some 17, (.call 74 [(.t 16)] []), none⟩, ⟨none, (.ini 4 (.t 17)), none⟩] false) (.keep [4] [])) .ret)) (.pre (.keep [1, 2, 4] []) .skip)))
def vc36_11 : VC := (.post (.ops [⟨some 5, (.alM 0 (.f (D.ag [(D.i 0), (D.i 0), (D.b false)]))), none⟩] false) (.keep [1, 2, 4, 5] [0]))
def vc36_13 : VC := (.post (.ops [⟨some 6, (.alM 1 (.f (D.ag [(D.i 0), (D.i 0), (D.f 0), (D.s [])]))), none⟩] false) (.keep [1, 2, 4, 5, 6] [0, 1]))
def vc36_16 : VC := (.post (.ops [⟨some 18, (.mov (.t 1)), none⟩,
  ⟨some 19, (.len (.t 18)), none⟩,
  ⟨some 20, (.mov (.c (D.i 0))), none⟩] false) (.keep [2, 4, 5, 6, 18, 19, 20] [0, 1]))
def vc36_20 : VC := (.post (.ops [⟨some 21, (.bin .ltI (.t 20) (.t 19)), none⟩] false) (.keep [2, 4, 5, 6, 18, 19, 20, 21] [0, 1]))
def vc36_22 : VC := (.cond (.t 21) (.pre (.keep [2, 4, 5, 6, 18, 19, 20] [0, 1]) .skip) (.pre (.keep [2, 4, 5, 6] [0, 1]) (.exit 0)))
def vc36_28 : VC := (.post (.ops [⟨some 22, (.ixa (.t 18) (.t 20)), none⟩,
  ⟨some 23, (.ldF (.t 22)), none⟩,
  ⟨some 8, (.mov (.t 23)), none⟩] false) (.keep [2, 4, 5, 6, 8, 18, 19, 20] [0, 1]))
def vc36_30 : VC := (.seq (.post (.ops [⟨some 24, (.fld (.t 2) 6), none⟩, ⟨some 25, (.ldF (.t 24)), none⟩, ⟨some 26, (.len (.t 25)), none⟩, ⟨some 27, (.bin .eqI (.t 26) (.c (D.i 0))), none⟩] false) (.keep [2, 4, 5, 6, 8, 18, 19, 20, 27] [0, 1])) (.cond (.t 27) (.pre (.keep [2, 4, 5, 6] [0, 1]) (.exit 0)) (.pre (.keep [2, 4, 5, 6, 8, 18, 19, 20] [0, 1]) .skip)))
def vc36_36 : VC := (.post (.ops [⟨some 28, (.fld (.t 2) 6), none⟩,
  ⟨some 29, (.ldF (.t 28)), none⟩,
  ⟨some 30, (.ixa (.t 29) (.c (D.i 0))), none⟩,
  ⟨some 31, (.ldF (.t 30)), none⟩,
  ⟨some 32, (.mov (.t 8)), none⟩,
  ⟨some 33, (.call 23 [(.t 31), (.t 32)] []), none⟩,
  ⟨some 9, .alA, none⟩,
  ⟨none, (.ini 9 (.t 33)), none⟩] false) (.keep [2, 4, 5, 6, 9, 18, 19, 20] [0, 1]))
def vc36_38 : VC := (.seq (.post (.ops [⟨some 34, (.fld (.t 9) 0), none⟩, ⟨some 35, (.ldF (.t 34)), none⟩, ⟨some 36, (.bin .eqI (.t 35) (.c (D.i 1))), none⟩] false) (.keep [2, 4, 5, 6, 9, 18, 19, 20, 36] [0, 1])) (.cond (.t 36) (.pre (.keep [2, 4, 5, 6, 9, 18, 19, 20] [0, 1]) (.post (.ops [⟨some 37, (.fld (.t 9) 1), none⟩, ⟨some 38, (.ldF (.t 37)), none⟩, ⟨some 39, (.call 75 [(.t 5), (.t 38)] [0]), none⟩] false) (.keep [2, 4, 5, 6, 9, 18, 19, 20] [0, 1]))) (.pre (.keep [2, 4, 5, 6, 9, 18, 19, 20] [0, 1]) .skip)))
def vc36_44 : VC := (.post (.ops [⟨some 40, (.ldF (.t 9)), none⟩,
  ⟨some 41, (.ld (.t 6)), none⟩,
  ⟨some 42, (.call 27 [(.t 40), (.t 41)] []), none⟩,
  ⟨some 10, (.mov (.t 42)), none⟩] false) (.keep [2, 4, 5, 6, 9, 10, 18, 19, 20] [0, 1]))
def vc36_46 : VC := (.post (.ops [⟨some 43, (.fld (.t 9) 0), none⟩,
  ⟨some 44, (.ldF (.t 43)), none⟩,
  ⟨some 45, (.bin .neI (.t 44) (.c (D.i 0))), none⟩,
  ⟨some 46, (.mov (.t 45)), none⟩,
  ⟨some 47, (.fld (.t 6) 0), some (46, true)⟩,
  ⟨some 48, (.ld (.t 47)), some (46, true)⟩,
  ⟨some 49, (.bin .eqI (.t 48) (.c (D.i 0))), some (46, true)⟩,
  ⟨some 50, (.mov (.t 49)), some (46, true)⟩,
  ⟨some 51, (.fld (.t 2) 0), some (50, false)⟩,
  ⟨some 52, (.ldF (.t 51)), some (50, false)⟩,
  ⟨some 53, (.bin .eqI (.t 52) (.c (D.i 12))), some (50, false)⟩,
  ⟨some 54, (.mov (.t 53)), some (50, false)⟩,
  ⟨some 55, (.mov (.t 10)), some (54, true)⟩,
  ⟨some 56, (.bin .ltI (.t 55) (.c (D.i 0))), some (54, true)⟩,
  ⟨some 57, (.pick (.t 54) (.t 56) (.c (D.b false))), some (50, false)⟩,
  ⟨some 58, (.pick (.t 50) (.c (D.b true)) (.t 57)), some (46, true)⟩,
  ⟨some 59, (.mov (.t 58)), some (46, true)⟩,
  ⟨some 60, (.fld (.t 2) 0), some (59, false)⟩,
  ⟨some 61, (.ldF (.t 60)), some (59, false)⟩,
  ⟨some 62, (.bin .eqI (.t 61) (.c (D.i 13))), some (59, false)⟩,
  ⟨some 63, (.mov (.t 62)), some (59, false)⟩,
  ⟨some 64, (.mov (.t 10)), some (63, true)⟩,
  ⟨some 65, (.bin .gtI (.t 64) (.c (D.i 0))), some (63, true)⟩,
  ⟨some 66, (.pick (.t 63) (.t 65) (.c (D.b false))), some (59, false)⟩,
  ⟨some 67, (.pick (.t 59) (.c (D.b true)) (.t 66)), some (46, true)⟩,
  ⟨some 68, (.pick (.t 46) (.t 67) (.c (D.b false))), none⟩] false) (.keep [2, 4, 5, 6, 9, 18, 19, 20, 68] [0, 1]))
def vc36_47 : VC := (.cond (.t 68) (.pre (.keep [2, 4, 5, 6, 9, 18, 19, 20] [0, 1]) (.post (.ops [⟨some 69, (.ldF (.t 9)), none⟩, ⟨none, (.st (.t 6) (.t 69)), none⟩] false) (.keep [2, 4, 5, 6, 18, 19, 20] [0, 1]))) (.pre (.keep [2, 4, 5, 6, 18, 19, 20] [0, 1]) .skip))
def vc36_45 : VC := .seq vc36_46 vc36_47
def vc36_43 : VC := .seq vc36_44 vc36_45
def vc36_37 : VC := .seq vc36_38 vc36_43
def vc36_35 : VC := .seq vc36_36 vc36_37
def vc36_29 : VC := .seq vc36_30 vc36_35
def vc36_27 : VC := .seq vc36_28 vc36_29
def vc36_26 : VC := .block 1 vc36_27
def vc36_50 : VC := (.post (.ops [⟨some 70, (.bin (.add .i64) (.t 20) (.c (D.i 1))), none⟩,
  ⟨some 20, (.mov (.t 70)), none⟩] false) (.keep [2, 4, 5, 6, 18, 19, 20] [0, 1]))
def vc36_25 : VC := .seq vc36_26 vc36_50
def vc36_21 : VC := .seq vc36_22 vc36_25
def vc36_19 : VC := .seq vc36_20 vc36_21
def vc36_18 : VC := .loop vc36_19
def vc36_17 : VC := .block 0 vc36_18
def vc36_15 : VC := .seq vc36_16 vc36_17
def vc36_51 : VC := (.seq (.seq (.post (.ops [⟨some 71, (.fld (.t 2) 0), none⟩, ⟨some 72, (.ldF (.t 71)), none⟩, ⟨some 73, (.bin .eqI (.t 72) (.c (D.i 11))), none⟩] false) (.keep [4, 5, 6, 73] [0, 1])) (.cond (.t 73) (.pre (.keep [4, 5] [0, 1]) (.seq (.post (.ops [⟨some 74, (.call 76 [(.t 5)] [0]), none⟩, ⟨none, (.ini 4 (.t 74)), none⟩] false) (.keep [4] [0, 1])) (.pre (.keep [4] []) .ret))) (.pre (.keep [4, 6] [0, 1]) .skip))) (.seq (.post (.ops [⟨some 75, (.ld (.t 6)), none⟩, ⟨none, (.ini 4 (.t 75)), none⟩] false) (.keep [4] [0, 1])) (.pre (.keep [4] []) .ret)))
def vc36_14 : VC := .seq vc36_15 vc36_51
def vc36_12 : VC := .seq vc36_13 vc36_14
def vc36_10 : VC := .seq vc36_11 vc36_12
def vc36_2 : VC := .seq vc36_3 vc36_10
def vc36_0 : VC := .seq vc36_1 vc36_2
def vc45_0 : VC := (.seq (.post (.ops [⟨some 4, .alA, none⟩] false) (.keep [0, 1, 2, 4] [])) (.seq (.seq (.post (.ops [⟨some 5, (.mov (.t 0)), none⟩, ⟨some 6, (.fld (.t 1) 6), none⟩, ⟨some 7, (.ldF (.t 6)), none⟩, ⟨some 8, (.len (.t 7)), none⟩, ⟨some 9, (.bin .ltI (.t 5) (.t 8)), none⟩] false) (.keep [0, 1, 2, 4, 9] [])) (.cond (.t 9) (.pre (.keep [0, 1, 2, 4] []) (.seq (.post (.ops [⟨some 10, (.fld (.t 1) 6), none⟩, ⟨some 11, (.ldF (.t 10)), none⟩, ⟨some 12, (.mov (.t 0)), none⟩, ⟨some 13, (.ixa (.t 11) (.t 12)), none⟩, ⟨some 14, (.ldF (.t 13)), none⟩, ⟨some 15, (.ldF (.t 2)), none⟩, ⟨some 16, (.call 23 [(.t 14), (.t 15)] []), none⟩, ⟨none, (.ini 4 (.t 16)), none⟩] true) (.keep [4] [])) .ret)) (.pre (.keep [4] []) .skip))) (.seq (.post (.ops [⟨some 17, (.build (D.ag [(D.i 0), (D.i 0), (D.f 0), (D.s [])]) []), none⟩, ⟨none, (.ini 4 (.t 17)), none⟩] false) (.keep [4] [])) .ret)))
def vc46_0 : VC := (.seq (.post (.ops [⟨some 1, (.box (.t 0)), none⟩, ⟨some 2, .alA, none⟩] false) (.keep [1, 2] [])) (.seq (.seq (.post (.ops [⟨some 3, (.fld (.t 1) 0), none⟩, ⟨some 4, (.ldF (.t 3)), none⟩] false) (.keep [1, 2, 4] [])) (.block 0 (.seq (.post (.ops [⟨some 6, (.bin .eqI (.t 4) (.c (D.i 1))), none⟩, ⟨some 5, (.mov (.t 6)), none⟩] false) (.keep [1, 2, 4, 5] [])) (.cond (.t 5) (.pre (.keep [1, 2] []) (.seq (.post (.ops [⟨some 7, (.fld (.t 1) 1), none⟩, ⟨some 8, (.ldF (.t 7)), none⟩, ⟨some 9, (.call 74 [(.t 8)] []), none⟩, ⟨none, (.ini 2 (.t 9)), none⟩] false) (.keep [2] [])) .ret)) (.pre (.keep [1, 2, 4] []) (.seq (.post (.ops [⟨some 11, (.bin .eqI (.t 4) (.c (D.i 2))), none⟩, ⟨some 10, (.mov (.t 11)), none⟩] false) (.keep [1, 2, 4, 10] [])) (.cond (.t 10) (.pre (.keep [1, 2] []) (.seq (.post (.ops [⟨some 12, (.fld (.t 1) 2), none⟩, ⟨some 13, (.ldF (.t 12)), none⟩, ⟨some 14, (.call 81 [(.t 13)] []), none⟩, ⟨none, (.ini 2 (.t 14)), none⟩] false) (.keep [2] [])) .ret)) (.pre (.keep [1, 2, 4] []) (.seq (.post (.ops [⟨some 16, (.bin .eqI (.t 4) (.c (D.i 3))), none⟩, ⟨some 15, (.mov (.t 16)), none⟩] false) (.keep [1, 2, 4, 15] [])) (.cond (.t 15) (.pre (.keep [1, 2] []) (.seq (.post (.ops [⟨some 17, (.fld (.t 1) 3), none⟩, ⟨some 18, (.ldF (.t 17)), none⟩, ⟨some 19, (.call 82 [(.t 18)] []), none⟩, ⟨none, (.ini 2 (.t 19)), none⟩] false) (.keep [2] [])) .ret)) (.pre (.keep [1, 2, 4] []) (.seq (.post (.ops [⟨some 21, (.bin .eqI (.t 4) (.c (D.i 4))), none⟩, ⟨some 20, (.mov (.t 21)), none⟩] false) (.keep [1, 2, 20] [])) (.cond (.t 20) (.pre (.keep [1, 2] []) (.seq (.post (.ops [⟨some 22, (.fld (.t 1) 1), none⟩, ⟨some 23, (.ldF (.t 22)), none⟩, ⟨some 24, (.bin .neI (.t 23) (.c (D.i 0))), none⟩, ⟨some 25, (.call 53 [(.t 24)] []), none⟩, ⟨none, (.ini 2 (.t 25)), none⟩] false) (.keep [2] [])) .ret)) (.pre (.keep [2] []) .skip)))))))))))))) (.seq (.post (.ops [⟨some 26, (.build (D.ag [(D.i 0), (D.i 0), (D.f 0), (D.s [])]) []), none⟩, ⟨none, (.ini 2 (.t 26)), none⟩] false) (.keep [2] [])) .ret)))
def vc47_0 : VC := (.seq (.post (.ops [⟨some 1, (.boxM 0 (.t 0)), none⟩, ⟨some 2, .alA, none⟩] false) (.keep [1, 2] [0])) (.seq (.seq (.post (.ops [⟨some 3, (.ld (.t 1)), none⟩, ⟨some 4, (.call 46 [(.t 3)] []), none⟩, ⟨none, (.st (.t 1) (.t 4)), none⟩] false) (.keep [1, 2] [0])) (.seq (.post (.ops [⟨some 5, (.fld (.t 1) 0), none⟩, ⟨some 6, (.ld (.t 5)), none⟩, ⟨some 7, (.bin .eqI (.t 6) (.c (D.i 2))), none⟩] false) (.keep [1, 2, 7] [0])) (.cond (.t 7) (.pre (.keep [1, 2] [0]) (.seq (.post (.ops [⟨some 8, (.fld (.t 1) 2), none⟩, ⟨some 9, (.ld (.t 8)), none⟩, ⟨some 10, (.un .fneg (.t 9)), none⟩, ⟨some 11, (.call 81 [(.t 10)] []), none⟩, ⟨none, (.ini 2 (.t 11)), none⟩] false) (.keep [2] [0])) .ret)) (.pre (.keep [1, 2] [0]) .skip)))) (.seq (.post (.ops [⟨some 12, (.call 74 [(.c (D.i 0))] []), none⟩, ⟨some 13, (.ld (.t 1)), none⟩, ⟨some 14, (.call 52 [(.c (D.s [45])), (.t 12), (.t 13)] []), none⟩, ⟨none, (.ini 2 (.t 14)), none⟩] true) (.keep [2] [0])) .ret)))
def vc48_0 : VC := (.seq (.post (.ops [⟨some 1, (.box (.t 0)), none⟩, ⟨some 2, .alA, none⟩] false) (.keep [1, 2] [])) (.seq (.seq (.post (.ops [⟨some 4, (.ldF (.t 1)), none⟩, ⟨some 5, (.call 83 [(.t 4)] []), none⟩, ⟨some 3, (.mov (.t 5)), none⟩] false) (.keep [2, 3] [])) (.seq (.post (.ops [⟨some 6, (.mov (.t 3)), none⟩, ⟨some 7, (.bin .geI (.t 6) (.c (D.i 0))), none⟩] false) (.keep [2, 3, 7] [])) (.cond (.t 7) (.pre (.keep [2, 3] []) (.seq (.post (.ops [⟨some 8, (.mov (.t 3)), none⟩, ⟨some 9, (.bin (.sub .i64) (.c (D.i 1)) (.t 8)), none⟩, ⟨some 10, (.call 84 [(.t 9)] []), none⟩, ⟨none, (.ini 2 (.t 10)), none⟩] false) (.keep [2] [])) .ret)) (.pre (.keep [2] []) .skip)))) (.seq (.post (.ops [⟨some 11, (.call 84 [(.c (D.i (-1)))] []), none⟩, ⟨none, (.ini 2 (.t 11)), none⟩] false) (.keep [2] [])) .ret)))
def vc49_1 : VC := (.post (.ops [⟨some 2, (.box (.t 0)), none⟩,
  ⟨some 3, (.box (.t 1)), none⟩,
  ⟨some 4, .alA, none⟩] false) (.keep [2, 3, 4] []))
def vc49_3 : VC := (.post (.ops [⟨some 7, (.ldF (.t 2)), none⟩,
  ⟨some 8, (.call 83 [(.t 7)] []), none⟩,
  ⟨some 9, (.ldF (.t 3)), none⟩,
  ⟨some 10, (.call 83 [(.t 9)] []), none⟩,
  ⟨some 5, (.mov (.t 8)), none⟩,
  ⟨some 6, (.mov (.t 10)), none⟩] true) (.keep [4, 5, 6] []))
def vc49_7 : VC := (.post (.ops [⟨some 12, (.mov (.t 5)), none⟩,
  ⟨some 13, (.bin .eqI (.t 12) (.c (D.i 0))), none⟩,
  ⟨some 14, (.mov (.t 13)), none⟩,
  ⟨some 15, (.mov (.t 6)), some (14, false)⟩,
  ⟨some 16, (.bin .eqI (.t 15) (.c (D.i 0))), some (14, false)⟩,
  ⟨some 17, (.pick (.t 14) (.c (D.b true)) (.t 16)), none⟩,
  ⟨some 11, (.mov (.t 17)), none⟩] false) (.keep [4, 5, 6, 11] []))
def vc49_8 : VC := (.cond (.t 11) (.pre (.keep [4] []) (.seq (.post (.ops [⟨some 18, (.call 84 [(.c (D.i 0))] []), none⟩, ⟨none, (.ini 4 (.t 18)), none⟩] false) (.keep [4] [])) .ret)) (.pre (.keep [4, 5, 6] []) (.seq (.post (.ops [⟨some 20, (.mov (.t 5)), none⟩, ⟨some 21, (.bin .ltI (.t 20) (.c (D.i 0))), none⟩, ⟨some 22, (.mov (.t 21)), none⟩, ⟨some 23, (.mov (.t 6)), some (22, false)⟩, ⟨some 24, (.bin .ltI (.t 23) (.c (D.i 0))), some (22, false)⟩, ⟨some 25, (.pick (.t 22) (.c (D.b true)) (.t 24)), none⟩, ⟨some 19, (.mov (.t 25)), none⟩] false) (.keep [4, 19] [])) (.cond (.t 19) (.pre (.keep [4] []) (.seq (.post (.ops [⟨some 26, (.call 84 [(.c (D.i (-1)))] []), none⟩, ⟨none, (.ini 4 (.t 26)), none⟩] false) (.keep [4] [])) .ret)) (.pre (.keep [4] []) .skip)))))
def vc49_6 : VC := .seq vc49_7 vc49_8
def vc49_5 : VC := .block 0 vc49_6
def vc49_19 : VC := (.seq (.post (.ops [⟨some 27, (.call 84 [(.c (D.i 1))] []), none⟩, ⟨none, (.ini 4 (.t 27)), none⟩] false) (.keep [4] [])) .ret)
def vc49_4 : VC := .seq vc49_5 vc49_19
def vc49_2 : VC := .seq vc49_3 vc49_4
def vc49_0 : VC := .seq vc49_1 vc49_2
def vc50_0 : VC := (.seq (.post (.ops [⟨some 2, (.box (.t 0)), none⟩, ⟨some 3, (.box (.t 1)), none⟩, ⟨some 4, .alA, none⟩] false) (.keep [2, 3, 4] [])) (.seq (.post (.ops [⟨some 5, (.ldF (.t 2)), none⟩, ⟨some 6, (.call 48 [(.t 5)] []), none⟩, ⟨some 7, (.ldF (.t 3)), none⟩, ⟨some 8, (.call 48 [(.t 7)] []), none⟩, ⟨some 9, (.call 49 [(.t 6), (.t 8)] []), none⟩, ⟨some 10, (.call 48 [(.t 9)] []), none⟩, ⟨none, (.ini 4 (.t 10)), none⟩] true) (.keep [4] [])) .ret))
def vc51_1 : VC := (.post (.ops [⟨some 4, (.boxM 0 (.t 1)), none⟩,
  ⟨some 5, (.boxM 1 (.t 2)), none⟩,
  ⟨some 6, .alA, none⟩] false) (.keep [0, 4, 5, 6] [0, 1]))
def vc51_3 : VC := (.post (.ops [⟨some 8, (.ld (.t 4)), none⟩,
  ⟨some 9, (.call 46 [(.t 8)] []), none⟩,
  ⟨some 10, (.ld (.t 5)), none⟩,
  ⟨some 11, (.call 46 [(.t 10)] []), none⟩,
  ⟨none, (.st (.t 4) (.t 9)), none⟩,
  ⟨none, (.st (.t 5) (.t 11)), none⟩] true) (.keep [0, 4, 5, 6] [0, 1]))
def vc51_5 : VC := (.seq (.post (.ops [⟨some 12, (.fld (.t 4) 0), none⟩, ⟨some 13, (.ld (.t 12)), none⟩, ⟨some 14, (.bin .eqI (.t 13) (.c (D.i 0))), none⟩, ⟨some 15, (.mov (.t 14)), none⟩, ⟨some 16, (.fld (.t 4) 0), some (15, false)⟩, ⟨some 17, (.ld (.t 16)), some (15, false)⟩, ⟨some 18, (.fld (.t 5) 0), some (15, false)⟩, ⟨some 19, (.ld (.t 18)), some (15, false)⟩, ⟨some 20, (.bin .neI (.t 17) (.t 19)), some (15, false)⟩, ⟨some 21, (.pick (.t 15) (.c (D.b true)) (.t 20)), none⟩] false) (.keep [0, 4, 5, 6, 21] [0, 1])) (.cond (.t 21) (.pre (.keep [6] [0, 1]) (.seq (.post (.ops [⟨some 22, (.build (D.ag [(D.i 0), (D.i 0), (D.f 0), (D.s [])]) []), none⟩, ⟨none, (.ini 6 (.t 22)), none⟩] false) (.keep [6] [0, 1])) .ret)) (.pre (.keep [0, 4, 5, 6] [0, 1]) .skip)))
def vc51_12 : VC := (.seq (.post (.ops [⟨some 23, (.ld (.t 4)), none⟩, ⟨some 24, (.ld (.t 5)), none⟩, ⟨some 25, (.call 27 [(.t 23), (.t 24)] []), none⟩, ⟨some 7, (.mov (.t 25)), none⟩] false) (.keep [0, 6, 7] [0, 1])) (.seq (.seq (.post (.ops [⟨some 26, (.mov (.t 0)), none⟩] false) (.keep [6, 7, 26] [0, 1])) (.block 0 (.seq (.post (.ops [⟨some 28, (.bin .seq (.t 26) (.c (D.s [61]))), none⟩, ⟨some 27, (.mov (.t 28)), none⟩] false) (.keep [6, 7, 26, 27] [0, 1])) (.cond (.t 27) (.pre (.keep [6, 7] [0, 1]) (.seq (.post (.ops [⟨some 29, (.mov (.t 7)), none⟩, ⟨some 30, (.bin .eqI (.t 29) (.c (D.i 0))), none⟩, ⟨some 31, (.call 53 [(.t 30)] []), none⟩, ⟨none, (.ini 6 (.t 31)), none⟩] false) (.keep [6] [0, 1])) .ret)) (.pre (.keep [6, 7, 26] [0, 1]) (.seq (.post (.ops [⟨some 33, (.bin .seq (.t 26) (.c (D.s [60, 62]))), none⟩, ⟨some 32, (.mov (.t 33)), none⟩] false) (.keep [6, 7, 26, 32] [0, 1])) (.cond (.t 32) (.pre (.keep [6, 7] [0, 1]) (.seq (.post (.ops [⟨some 34, (.mov (.t 7)), none⟩, ⟨some 35, (.bin .neI (.t 34) (.c (D.i 0))), none⟩, ⟨some 36, (.call 53 [(.t 35)] []), none⟩, ⟨none, (.ini 6 (.t 36)), none⟩] false) (.keep [6] [0, 1])) .ret)) (.pre (.keep [6, 7, 26] [0, 1]) (.seq (.post (.ops [⟨some 38, (.bin .seq (.t 26) (.c (D.s [60]))), none⟩, ⟨some 37, (.mov (.t 38)), none⟩] false) (.keep [6, 7, 26, 37] [0, 1])) (.cond (.t 37) (.pre (.keep [6, 7] [0, 1]) (.seq (.post (.ops [⟨some 39, (.mov (.t 7)), none⟩, ⟨some 40, (.bin .ltI (.t 39) (.c (D.i 0))), none⟩, ⟨some 41, (.call 53 [(.t 40)] []), none⟩, ⟨none, (.ini 6 (.t 41)), none⟩] false) (.keep [6] [0, 1])) .ret)) (.pre (.keep [6, 7, 26] [0, 1]) (.seq (.post (.ops [⟨some 43, (.bin .seq (.t 26) (.c (D.s [60, 61]))), none⟩, ⟨some 42, (.mov (.t 43)), none⟩] false) (.keep [6, 7, 26, 42] [0, 1])) (.cond (.t 42) (.pre (.keep [6, 7] [0, 1]) (.seq (.post (.ops [⟨some 44, (.mov (.t 7)), none⟩, ⟨some 45, (.bin .leI (.t 44) (.c (D.i 0))), none⟩, ⟨some 46, (.call 53 [(.t 45)] []), none⟩, ⟨none, (.ini 6 (.t 46)), none⟩] false) (.keep [6] [0, 1])) .ret)) (.pre (.keep [6, 7, 26] [0, 1]) (.seq (.post (.ops [⟨some 48, (.bin .seq (.t 26) (.c (D.s [62]))), none⟩, ⟨some 47, (.mov (.t 48)), none⟩] false) (.keep [6, 7, 26, 47] [0, 1])) (.cond (.t 47) (.pre (.keep [6, 7] [0, 1]) (.seq (.post (.ops [⟨some 49, (.mov (.t 7)), none⟩, ⟨some 50, (.bin .gtI (.t 49) (.c (D.i 0))), none⟩, ⟨some 51, (.call 53 [(.t 50)] []), none⟩, ⟨none, (.ini 6 (.t 51)), none⟩] false) (.keep [6] [0, 1])) .ret)) (.pre (.keep [6, 7, 26] [0, 1]) (.seq (.post (.ops [⟨some 53, (.bin .seq (.t 26) (.c (D.s [62, 61]))), none⟩, ⟨some 52, (.mov (.t 53)), none⟩] false) (.keep [6, 7, 52] [0, 1])) (.cond (.t 52) (.pre (.keep [6, 7] [0, 1]) (.seq (.post (.ops [⟨some 54, (.mov (.t 7)), none⟩, ⟨some 55, (.bin .geI (.t 54) (.c (D.i 0))), none⟩, ⟨some 56, (.call 53 [(.t 55)] []), none⟩, ⟨none, (.ini 6 (.t 56)), none⟩] false) (.keep [6] [0, 1])) .ret)) (.pre (.keep [6] [0, 1]) .skip)))))))))))))))))))) (.seq (.post (.ops [⟨some 57, (.build (D.ag [(D.i 0), (D.i 0), (D.f 0), (D.s [])]) []), none⟩, ⟨none, (.ini 6 (.t 57)), none⟩] false) (.keep [6] [0, 1])) .ret)))
def vc51_4 : VC := .seq vc51_5 vc51_12
def vc51_2 : VC := .seq vc51_3 vc51_4
def vc51_0 : VC := .seq vc51_1 vc51_2
def vc52_1 : VC := (.post (.ops [⟨some 4, (.boxM 0 (.t 1)), none⟩,
  ⟨some 5, (.boxM 1 (.t 2)), none⟩,
  ⟨some 6, .alA, none⟩] false) (.keep [0, 4, 5, 6] [0, 1]))
def vc52_3 : VC := (.post (.ops [⟨some 9, (.ld (.t 4)), none⟩,
  ⟨some 10, (.call 46 [(.t 9)] []), none⟩,
  ⟨some 11, (.ld (.t 5)), none⟩,
  ⟨some 12, (.call 46 [(.t 11)] []), none⟩,
  ⟨none, (.st (.t 4) (.t 10)), none⟩,
  ⟨none, (.st (.t 5) (.t 12)), none⟩] true) (.keep [0, 4, 5, 6] [0, 1]))
def vc52_7 : VC := (.post (.ops [⟨some 14, (.fld (.t 4) 0), none⟩,
  ⟨some 15, (.ld (.t 14)), none⟩,
  ⟨some 16, (.bin .eqI (.t 15) (.c (D.i 1))), none⟩,
  ⟨some 17, (.mov (.t 16)), none⟩,
  ⟨some 18, (.fld (.t 5) 0), some (17, true)⟩,
  ⟨some 19, (.ld (.t 18)), some (17, true)⟩,
  ⟨some 20, (.bin .eqI (.t 19) (.c (D.i 1))), some (17, true)⟩,
  ⟨some 21, (.pick (.t 17) (.t 20) (.c (D.b false))), none⟩,
  ⟨some 13, (.mov (.t 21)), none⟩] false) (.keep [0, 4, 5, 6, 13] [0, 1]))
def vc52_9 : VC := (.seq (.post (.ops [⟨some 23, (.mov (.t 0)), none⟩, ⟨some 24, (.fld (.t 4) 1), none⟩, ⟨some 25, (.ld (.t 24)), none⟩, ⟨some 26, (.fld (.t 5) 1), none⟩, ⟨some 27, (.ld (.t 26)), none⟩, ⟨some 28, (.call 85 [(.t 23), (.t 25), (.t 27)] []), none⟩, ⟨some 22, (.mov (.t 28)), none⟩, ⟨some 29, (.ext (.t 22) 0), none⟩, ⟨some 30, (.ext (.t 22) 1), none⟩, ⟨some 7, (.mov (.t 29)), none⟩, ⟨some 8, (.mov (.t 30)), none⟩] false) (.keep [6, 7, 8] [0, 1])) (.seq (.post (.ops [⟨some 31, (.mov (.t 8)), none⟩] false) (.keep [6, 7, 31] [0, 1])) (.cond (.t 31) (.pre (.keep [6, 7] [0, 1]) (.seq (.post (.ops [⟨some 32, (.mov (.t 7)), none⟩, ⟨some 33, (.call 74 [(.t 32)] []), none⟩, ⟨none, (.ini 6 (.t 33)), none⟩] false) (.keep [6] [0, 1])) .ret)) (.pre (.keep [6] [0, 1]) .skip))))
def vc52_19 : VC := (.post (.ops [⟨some 35, (.fld (.t 4) 0), none⟩,
  ⟨some 36, (.ld (.t 35)), none⟩,
  ⟨some 37, (.bin .eqI (.t 36) (.c (D.i 2))), none⟩,
  ⟨some 38, (.mov (.t 37)), none⟩,
  ⟨some 39, (.fld (.t 5) 0), some (38, true)⟩,
  ⟨some 40, (.ld (.t 39)), some (38, true)⟩,
  ⟨some 41, (.bin .eqI (.t 40) (.c (D.i 2))), some (38, true)⟩,
  ⟨some 42, (.pick (.t 38) (.t 41) (.c (D.b false))), none⟩,
  ⟨some 34, (.mov (.t 42)), none⟩] false) (.keep [0, 4, 5, 6, 34] [0, 1]))
def vc52_20 : VC := (.cond (.t 34) (.pre (.keep [0, 4, 5, 6] [0, 1]) (.seq (.post (.ops [⟨some 43, (.mov (.t 0)), none⟩] false) (.keep [4, 5, 6, 43] [0, 1])) (.block 1 (.seq (.post (.ops [⟨some 45, (.bin .seq (.t 43) (.c (D.s [43]))), none⟩, ⟨some 44, (.mov (.t 45)), none⟩] false) (.keep [4, 5, 6, 43, 44] [0, 1])) (.cond (.t 44) (.pre (.keep [4, 5, 6] [0, 1]) (.seq (.post (.ops [⟨some 46, (.fld (.t 4) 2), none⟩, ⟨some 47, (.ld (.t 46)), none⟩, ⟨some 48, (.fld (.t 5) 2), none⟩, ⟨some 49, (.ld (.t 48)), none⟩, ⟨some 50, (.bin .fadd (.t 47) (.t 49)), none⟩, ⟨some 51, (.call 81 [(.t 50)] []), none⟩, ⟨none, (.ini 6 (.t 51)), none⟩] false) (.keep [6] [0, 1])) .ret)) (.pre (.keep [4, 5, 6, 43] [0, 1]) (.seq (.post (.ops [⟨some 53, (.bin .seq (.t 43) (.c (D.s [45]))), none⟩, ⟨some 52, (.mov (.t 53)), none⟩] false) (.keep [4, 5, 6, 43, 52] [0, 1])) (.cond (.t 52) (.pre (.keep [4, 5, 6] [0, 1]) (.seq (.post (.ops [⟨some 54, (.fld (.t 4) 2), none⟩, ⟨some 55, (.ld (.t 54)), none⟩, ⟨some 56, (.fld (.t 5) 2), none⟩, ⟨some 57, (.ld (.t 56)), none⟩, ⟨some 58, (.bin .fsub (.t 55) (.t 57)), none⟩, ⟨some 59, (.call 81 [(.t 58)] []), none⟩, ⟨none, (.ini 6 (.t 59)), none⟩] false) (.keep [6] [0, 1])) .ret)) (.pre (.keep [4, 5, 6, 43] [0, 1]) (.seq (.post (.ops [⟨some 61, (.bin .seq (.t 43) (.c (D.s [42]))), none⟩, ⟨some 60, (.mov (.t 61)), none⟩] false) (.keep [4, 5, 6, 60] [0, 1])) (.cond (.t 60) (.pre (.keep [4, 5, 6] [0, 1]) (.seq (.post (.ops [⟨some 62, (.fld (.t 4) 2), none⟩, ⟨some 63, (.ld (.t 62)), none⟩, ⟨some 64, (.fld (.t 5) 2), none⟩, ⟨some 65, (.ld (.t 64)), none⟩, ⟨some 66, (.bin .fmul (.t 63) (.t 65)), none⟩, ⟨some 67, (.call 81 [(.t 66)] []), none⟩, ⟨none, (.ini 6 (.t 67)), none⟩] false) (.keep [6] [0, 1])) .ret)) (.pre (.keep [6] [0, 1]) .skip)))))))))))) (.pre (.keep [6] [0, 1]) .skip))
def vc52_18 : VC := .seq vc52_19 vc52_20
def vc52_8 : VC := .cond (.t 13) (.pre (.keep [0, 4, 5, 6] [0, 1]) vc52_9) (.pre (.keep [0, 4, 5, 6] [0, 1]) vc52_18)
def vc52_6 : VC := .seq vc52_7 vc52_8
def vc52_5 : VC := .block 0 vc52_6
def vc52_44 : VC := (.seq (.post (.ops [⟨some 68, (.build (D.ag [(D.i 0), (D.i 0), (D.f 0), (D.s [])]) []), none⟩, ⟨none, (.ini 6 (.t 68)), none⟩] false) (.keep [6] [0, 1])) .ret)
def vc52_4 : VC := .seq vc52_5 vc52_44
def vc52_2 : VC := .seq vc52_3 vc52_4
def vc52_0 : VC := .seq vc52_1 vc52_2
def vc53_0 : VC := (.seq (.post (.ops [⟨some 2, .alA, none⟩] false) (.keep [0, 2] [])) (.seq (.post (.ops [⟨some 4, (.build (D.ag [(D.i 0), (D.i 0), (D.f 0), (D.s [])]) [(0, (.c (D.i 4)))]), none⟩, ⟨some 3, (.alM 0 (.f (D.ag [(D.i 0), (D.i 0), (D.f 0), (D.s [])]))), none⟩, ⟨none, (.st (.t 3) (.t 4)), none⟩] false) (.keep [0, 2, 3] [0])) (.seq (.seq (.post (.ops [⟨some 5, (.mov (.t 0)), none⟩] false) (.keep [2, 3, 5] [0])) (.cond (.t 5) (.pre (.keep [2, 3] [0]) (.post (.ops [⟨some 6, (.fld (.t 3) 1), none⟩, ⟨none, (.st (.t 6) (.c (D.i 1))), none⟩] false) (.keep [2, 3] [0]))) (.pre (.keep [2, 3] [0]) .skip))) (.seq (.post (.ops [⟨some 7, (.ld (.t 3)), none⟩, ⟨none, (.ini 2 (.t 7)), none⟩] false) (.keep [2] [0])) .ret))))
def vc64_0 : VC := (.seq (.post (.ops [⟨some 2, (.mov (.c (D.b false))), none⟩] false) (.keep [0] [])) (.seq (.post (.ops [⟨some 3, (.mov (.t 0)), none⟩, ⟨some 4, (.mov (.t 0)), none⟩, ⟨some 5, (.bin .fne (.t 3) (.t 4)), none⟩, ⟨some 2, (.mov (.t 5)), none⟩] false) (.keep [2] [])) .ret))
def vc65_0 : VC := (.seq (.post (.ops [⟨some 4, (.mov (.c (D.i 0))), none⟩] false) (.keep [0, 1] [])) (.seq (.post (.ops [⟨some 7, (.mov (.t 0)), none⟩, ⟨some 8, (.call 89 [(.t 7)] []), none⟩, ⟨some 5, (.mov (.t 8)), none⟩] false) (.keep [0, 1, 5] [])) (.seq (.post (.ops [⟨some 9, (.mov (.t 1)), none⟩, ⟨some 10, (.call 89 [(.t 9)] []), none⟩, ⟨some 6, (.mov (.t 10)), none⟩] false) (.keep [0, 1, 5, 6] [])) (.seq (.seq (.post (.ops [⟨some 11, (.mov (.t 5)), none⟩] false) (.keep [0, 1, 6, 11] [])) (.cond (.t 11) (.pre (.keep [6] []) (.seq (.seq (.post (.ops [⟨some 12, (.mov (.t 6)), none⟩] false) (.keep [12] [])) (.cond (.t 12) (.pre (.keep [] []) (.seq (.post (.ops [⟨some 4, (.mov (.c (D.i 0))), none⟩] false) (.keep [4] [])) .ret)) (.pre (.keep [] []) .skip))) (.seq (.post (.ops [⟨some 4, (.mov (.c (D.i (-1)))), none⟩] false) (.keep [4] [])) .ret))) (.pre (.keep [0, 1, 6] []) .skip))) (.seq (.seq (.post (.ops [⟨some 13, (.mov (.t 6)), none⟩] false) (.keep [0, 1, 13] [])) (.cond (.t 13) (.pre (.keep [] []) (.seq (.post (.ops [⟨some 4, (.mov (.c (D.i 1))), none⟩] false) (.keep [4] [])) .ret)) (.pre (.keep [0, 1] []) .skip))) (.seq (.seq (.post (.ops [⟨some 14, (.mov (.t 0)), none⟩, ⟨some 15, (.mov (.t 1)), none⟩, ⟨some 16, (.bin .flt (.t 14) (.t 15)), none⟩] false) (.keep [0, 1, 16] [])) (.cond (.t 16) (.pre (.keep [] []) (.seq (.post (.ops [⟨some 4, (.mov (.c (D.i (-1)))), none⟩] false) (.keep [4] [])) .ret)) (.pre (.keep [0, 1] []) .skip))) (.seq (.seq (.post (.ops [⟨some 17, (.mov (.t 0)), none⟩, ⟨some 18, (.mov (.t 1)), none⟩, ⟨some 19, (.bin .fgt (.t 17) (.t 18)), none⟩] false) (.keep [19] [])) (.cond (.t 19) (.pre (.keep [] []) (.seq (.post (.ops [⟨some 4, (.mov (.c (D.i 1))), none⟩] false) (.keep [4] [])) .ret)) (.pre (.keep [] []) .skip))) (.seq (.post (.ops [⟨some 4, (.mov (.c (D.i 0))), none⟩] false) (.keep [4] [])) .ret))))))))
def vc66_0 : VC := (.seq (.post (.ops [⟨some 4, (.mov (.c (D.i 0))), none⟩] false) (.keep [0, 1] [])) (.seq (.post (.ops [⟨some 5, (.mov (.t 0)), none⟩, ⟨some 6, (.mov (.t 1)), none⟩, ⟨some 7, (.call 90 [(.t 5), (.t 6)] []), none⟩, ⟨some 4, (.mov (.t 7)), none⟩] false) (.keep [4] [])) .ret))
def vc67_0 : VC := (.seq (.post (.ops [⟨some 4, (.mov (.c (D.i 0))), none⟩] false) (.keep [0, 1] [])) (.seq (.post (.ops [⟨some 7, (.mov (.t 0)), none⟩, ⟨some 8, (.call 91 [(.t 7)] []), none⟩, ⟨some 5, (.mov (.t 8)), none⟩] false) (.keep [0, 1, 5] [])) (.seq (.post (.ops [⟨some 9, (.mov (.t 1)), none⟩, ⟨some 10, (.call 91 [(.t 9)] []), none⟩, ⟨some 6, (.mov (.t 10)), none⟩] false) (.keep [0, 1, 5, 6] [])) (.seq (.seq (.post (.ops [⟨some 11, (.mov (.t 5)), none⟩] false) (.keep [0, 1, 6, 11] [])) (.cond (.t 11) (.pre (.keep [6] []) (.seq (.seq (.post (.ops [⟨some 12, (.mov (.t 6)), none⟩] false) (.keep [12] [])) (.cond (.t 12) (.pre (.keep [] []) (.seq (.post (.ops [⟨some 4, (.mov (.c (D.i 0))), none⟩] false) (.keep [4] [])) .ret)) (.pre (.keep [] []) .skip))) (.seq (.post (.ops [⟨some 4, (.mov (.c (D.i (-1)))), none⟩] false) (.keep [4] [])) .ret))) (.pre (.keep [0, 1, 6] []) .skip))) (.seq (.seq (.post (.ops [⟨some 13, (.mov (.t 6)), none⟩] false) (.keep [0, 1, 13] [])) (.cond (.t 13) (.pre (.keep [] []) (.seq (.post (.ops [⟨some 4, (.mov (.c (D.i 1))), none⟩] false) (.keep [4] [])) .ret)) (.pre (.keep [0, 1] []) .skip))) (.seq (.seq (.post (.ops [⟨some 14, (.mov (.t 0)), none⟩, ⟨some 15, (.mov (.t 1)), none⟩, ⟨some 16, (.bin .ltI (.t 14) (.t 15)), none⟩] false) (.keep [0, 1, 16] [])) (.cond (.t 16) (.pre (.keep [] []) (.seq (.post (.ops [⟨some 4, (.mov (.c (D.i (-1)))), none⟩] false) (.keep [4] [])) .ret)) (.pre (.keep [0, 1] []) .skip))) (.seq (.seq (.post (.ops [⟨some 17, (.mov (.t 0)), none⟩, ⟨some 18, (.mov (.t 1)), none⟩, ⟨some 19, (.bin .gtI (.t 17) (.t 18)), none⟩] false) (.keep [19] [])) (.cond (.t 19) (.pre (.keep [] []) (.seq (.post (.ops [⟨some 4, (.mov (.c (D.i 1))), none⟩] false) (.keep [4] [])) .ret)) (.pre (.keep [] []) .skip))) (.seq (.post (.ops [⟨some 4, (.mov (.c (D.i 0))), none⟩] false) (.keep [4] [])) .ret))))))))
def vc68_0 : VC := (.seq (.post (.ops [⟨some 2, (.nilw .w), none⟩] false) (.keep [0] [])) (.seq (.seq (.post (.ops [⟨some 3, (.mov (.t 0)), none⟩, ⟨some 4, (.un .isN (.t 3)), none⟩] false) (.keep [0, 4] [])) (.cond (.t 4) (.pre (.keep [] []) (.seq (.post (.ops [⟨some 2, (.nilw .w), none⟩] false) (.keep [2] [])) .ret)) (.pre (.keep [0] []) .skip))) (.seq (.post (.ops [⟨some 5, (.bsl .w [] []), none⟩, ⟨some 6, (.mov (.t 0)), none⟩, ⟨some 7, (.app .w 5864062014805 (.t 5) true (.t 6)), none⟩, ⟨some 2, (.tak 7), none⟩] false) (.keep [2] [])) .ret)))
def vc69_0 : VC := (.post (.ops [⟨some 4, (.mov (.t 0)), none⟩,
  ⟨some 5, (.mov (.t 0)), none⟩,
  ⟨some 6, (.lenM (.t 5)), none⟩,
  ⟨some 7, (.mov (.t 1)), none⟩,
  ⟨some 8, (.call 92 [(.t 4), (.t 6), (.t 7)] [0]), none⟩] false) (.keep [] [0]))
def vc70_0 : VC := (.seq (.post (.ops [⟨some 5, (.mov (.c (D.i 0))), none⟩] false) (.keep [0, 1, 2] [])) (.seq (.post (.ops [⟨some 6, (.ldF (.t 2)), none⟩, ⟨some 7, (.mov (.t 0)), none⟩, ⟨some 8, (.mov (.t 1)), none⟩, ⟨some 9, (.call 11 [(.t 6), (.t 7), (.t 8)] []), none⟩, ⟨some 5, (.mov (.t 9)), none⟩] false) (.keep [5] [])) .ret))
def vc71_0 : VC := (.seq (.post (.ops [⟨some 2, (.nilw .o), none⟩] false) (.keep [0] [])) (.seq (.post (.ops [⟨some 3, (.mov (.t 0)), none⟩, ⟨some 4, (.mov (.t 0)), none⟩, ⟨some 5, (.len (.t 4)), none⟩, ⟨some 6, (.mov (.t 0)), none⟩, ⟨some 7, (.len (.t 6)), none⟩, ⟨some 8, (.slC (.t 3) (.t 5) (.t 7)), none⟩, ⟨some 2, (.mov (.t 8)), none⟩] false) (.keep [2] [])) .ret))
def vc72_1 : VC := (.post (.ops [⟨some 6, (.mov (.c (D.i 20))), none⟩] false) (.keep [0, 1, 2, 6] [0]))
def vc72_3 : VC := (.post (.ops [⟨some 10, (.mov (.t 6)), none⟩,
  ⟨some 7, (.mov (.c (D.i 0))), none⟩,
  ⟨some 8, (.mov (.t 10)), none⟩] false) (.keep [0, 1, 2, 6, 7, 8] [0]))
def vc72_7 : VC := (.seq (.seq (.post (.ops [⟨some 11, (.mov (.t 8)), none⟩, ⟨some 12, (.mov (.t 1)), none⟩, ⟨some 13, (.bin .leI (.t 11) (.t 12)), none⟩] false) (.keep [0, 1, 2, 6, 7, 8, 13] [0])) (.cond (.t 13) (.pre (.keep [0, 1, 2, 6, 7, 8] [0]) .skip) (.pre (.keep [0, 1, 2, 6, 7] [0]) (.exit 0)))) (.block 1 (.seq (.post (.ops [⟨some 14, (.mov (.t 0)), none⟩, ⟨some 15, (.mov (.t 7)), none⟩, ⟨some 16, (.mov (.t 8)), none⟩, ⟨some 17, (.mov (.t 2)), none⟩, ⟨some 18, (.call 93 [(.t 14), (.t 15), (.t 16), (.t 17)] [0]), none⟩] false) (.keep [0, 1, 2, 6, 8] [0])) (.seq (.post (.ops [⟨some 19, (.mov (.t 8)), none⟩, ⟨some 7, (.mov (.t 19)), none⟩] false) (.keep [0, 1, 2, 6, 7, 8] [0])) (.post (.ops [⟨some 20, (.mov (.t 8)), none⟩, ⟨some 21, (.mov (.t 6)), none⟩, ⟨some 22, (.bin (.add .i64) (.t 20) (.t 21)), none⟩, ⟨some 8, (.mov (.t 22)), none⟩] false) (.keep [0, 1, 2, 6, 7, 8] [0]))))))
def vc72_6 : VC := .loop vc72_7
def vc72_5 : VC := .block 0 vc72_6
def vc72_20 : VC := (.post (.ops [⟨some 23, (.mov (.t 0)), none⟩,
  ⟨some 24, (.mov (.t 7)), none⟩,
  ⟨some 25, (.mov (.t 1)), none⟩,
  ⟨some 26, (.mov (.t 2)), none⟩,
  ⟨some 27, (.call 93 [(.t 23), (.t 24), (.t 25), (.t 26)] [0]), none⟩] false) (.keep [0, 1, 2, 6] [0]))
def vc72_24 : VC := (.seq (.post (.ops [⟨some 28, (.mov (.t 6)), none⟩, ⟨some 29, (.mov (.t 1)), none⟩, ⟨some 30, (.bin .ltI (.t 28) (.t 29)), none⟩] false) (.keep [0, 1, 2, 6, 30] [0])) (.cond (.t 30) (.pre (.keep [0, 1, 2, 6] [0]) .skip) (.pre (.keep [] [0]) (.exit 2))))
def vc72_31 : VC := (.post (.ops [⟨some 31, (.mov (.t 6)), none⟩,
  ⟨some 32, (.bin (.mul .i64) (.c (D.i 2)) (.t 31)), none⟩,
  ⟨some 7, (.mov (.c (D.i 0))), none⟩,
  ⟨some 8, (.mov (.t 32)), none⟩] false) (.keep [0, 1, 2, 6, 7, 8] [0]))
def vc72_35 : VC := (.seq (.seq (.post (.ops [⟨some 33, (.mov (.t 8)), none⟩, ⟨some 34, (.mov (.t 1)), none⟩, ⟨some 35, (.bin .leI (.t 33) (.t 34)), none⟩] false) (.keep [0, 1, 2, 6, 7, 8, 35] [0])) (.cond (.t 35) (.pre (.keep [0, 1, 2, 6, 7, 8] [0]) .skip) (.pre (.keep [0, 1, 2, 6, 7] [0]) (.exit 4)))) (.block 5 (.seq (.post (.ops [⟨some 36, (.mov (.t 0)), none⟩, ⟨some 37, (.mov (.t 7)), none⟩, ⟨some 38, (.mov (.t 7)), none⟩, ⟨some 39, (.mov (.t 6)), none⟩, ⟨some 40, (.bin (.add .i64) (.t 38) (.t 39)), none⟩, ⟨some 41, (.mov (.t 8)), none⟩, ⟨some 42, (.mov (.t 2)), none⟩, ⟨some 43, (.call 94 [(.t 36), (.t 37), (.t 40), (.t 41), (.t 42)] [0]), none⟩] false) (.keep [0, 1, 2, 6, 8] [0])) (.seq (.post (.ops [⟨some 44, (.mov (.t 8)), none⟩, ⟨some 7, (.mov (.t 44)), none⟩] false) (.keep [0, 1, 2, 6, 7, 8] [0])) (.post (.ops [⟨some 45, (.mov (.t 8)), none⟩, ⟨some 46, (.mov (.t 6)), none⟩, ⟨some 47, (.bin (.mul .i64) (.c (D.i 2)) (.t 46)), none⟩, ⟨some 48, (.bin (.add .i64) (.t 45) (.t 47)), none⟩, ⟨some 8, (.mov (.t 48)), none⟩] false) (.keep [0, 1, 2, 6, 7, 8] [0]))))))
def vc72_34 : VC := .loop vc72_35
def vc72_33 : VC := .block 4 vc72_34
def vc72_47 : VC := (.seq (.seq (.post (.ops [⟨some 49, (.mov (.t 7)), none⟩, ⟨some 50, (.mov (.t 6)), none⟩, ⟨some 51, (.bin (.add .i64) (.t 49) (.t 50)), none⟩, ⟨some 9, (.mov (.t 51)), none⟩] false) (.keep [0, 1, 2, 6, 7, 9] [0])) (.seq (.post (.ops [⟨some 52, (.mov (.t 9)), none⟩, ⟨some 53, (.mov (.t 1)), none⟩, ⟨some 54, (.bin .ltI (.t 52) (.t 53)), none⟩] false) (.keep [0, 1, 2, 6, 7, 9, 54] [0])) (.cond (.t 54) (.pre (.keep [0, 1, 2, 6, 7, 9] [0]) (.post (.ops [⟨some 55, (.mov (.t 0)), none⟩, ⟨some 56, (.mov (.t 7)), none⟩, ⟨some 57, (.mov (.t 9)), none⟩, ⟨some 58, (.mov (.t 1)), none⟩, ⟨some 59, (.mov (.t 2)), none⟩, ⟨some 60, (.call 94 [(.t 55), (.t 56), (.t 57), (.t 58), (.t 59)] [0]), none⟩] false) (.keep [0, 1, 2, 6] [0]))) (.pre (.keep [0, 1, 2, 6] [0]) .skip)))) (.post (.ops [⟨some 61, (.mov (.t 6)), none⟩, ⟨some 62, (.bin (.mul .i64) (.t 61) (.c (D.i 2))), none⟩, ⟨some 6, (.mov (.t 62)), none⟩] false) (.keep [0, 1, 2, 6] [0])))
def vc72_32 : VC := .seq vc72_33 vc72_47
def vc72_30 : VC := .seq vc72_31 vc72_32
def vc72_29 : VC := .block 3 vc72_30
def vc72_23 : VC := .seq vc72_24 vc72_29
def vc72_22 : VC := .loop vc72_23
def vc72_21 : VC := .block 2 vc72_22
def vc72_19 : VC := .seq vc72_20 vc72_21
def vc72_4 : VC := .seq vc72_5 vc72_19
def vc72_2 : VC := .seq vc72_3 vc72_4
def vc72_0 : VC := .seq vc72_1 vc72_2
def vc73_0 : VC := (.seq (.post (.ops [⟨some 2, (.mov (.c (D.b false))), none⟩] false) (.keep [0] [])) (.seq (.post (.ops [⟨some 3, (.mov (.t 0)), none⟩, ⟨some 4, (.mov (.t 0)), none⟩, ⟨some 5, (.bin .neI (.t 3) (.t 4)), none⟩, ⟨some 2, (.mov (.t 5)), none⟩] false) (.keep [2] [])) .ret))
def vc74_0 : VC := (.seq (.post (.ops [⟨some 2, .alA, none⟩] false) (.keep [0, 2] [])) (.seq (.post (.ops [⟨some 3, (.mov (.t 0)), none⟩, ⟨some 4, (.build (D.ag [(D.i 0), (D.i 0), (D.f 0), (D.s [])]) [(0, (.c (D.i 1))), (1, (.t 3))]), none⟩, ⟨none, (.ini 2 (.t 4)), none⟩] false) (.keep [2] [])) .ret))
def vc75_0 : VC := (.seq (.post (.ops [⟨some 7, (.mov (.t 0)), none⟩, ⟨some 8, (.nch (.t 7)), none⟩, ⟨some 9, (.fld (.t 8) 1), none⟩, ⟨some 10, (.ld (.t 9)), none⟩, ⟨some 11, (.mov (.t 1)), none⟩, ⟨some 12, (.un (.conv .u64) (.t 11)), none⟩, ⟨some 13, (.add64 (.t 10) (.t 12) (.c (D.i 0))), none⟩, ⟨some 6, (.mov (.t 13)), none⟩, ⟨some 14, (.ext (.t 6) 0), none⟩, ⟨some 15, (.ext (.t 6) 1), none⟩, ⟨some 4, (.mov (.t 14)), none⟩, ⟨some 5, (.mov (.t 15)), none⟩] false) (.keep [0, 1, 4, 5] [0])) (.seq (.post (.ops [⟨some 16, (.mov (.t 0)), none⟩, ⟨some 17, (.mov (.t 0)), none⟩, ⟨some 18, (.mov (.t 4)), none⟩, ⟨some 19, (.nch (.t 16)), none⟩, ⟨some 20, (.fld (.t 19) 1), none⟩, ⟨none, (.st (.t 20) (.t 18)), none⟩, ⟨some 21, (.nch (.t 17)), none⟩, ⟨some 22, (.fld (.t 21) 2), none⟩, ⟨none, (.st (.t 22) (.c (D.b true))), none⟩] false) (.keep [0, 1, 5] [0])) (.post (.ops [⟨some 23, (.mov (.t 0)), none⟩, ⟨some 24, (.nch (.t 23)), none⟩, ⟨some 25, (.fld (.t 24) 0), none⟩, ⟨some 26, (.ld (.t 25)), none⟩, ⟨some 27, (.mov (.t 1)), none⟩, ⟨some 28, (.bin (.shr .i64) (.t 27) (.c (D.i 63))), none⟩, ⟨some 29, (.mov (.t 5)), none⟩, ⟨some 30, (.un (.conv .i64) (.t 29)), none⟩, ⟨some 31, (.bin (.add .i64) (.t 28) (.t 30)), none⟩, ⟨some 32, (.bin (.add .i64) (.t 26) (.t 31)), none⟩, ⟨some 33, (.nch (.t 23)), none⟩, ⟨some 34, (.fld (.t 33) 0), none⟩, ⟨none, (.st (.t 34) (.t 32)), none⟩] false) (.keep [] [0]))))
def vc76_0 : VC := (.seq (.post (.ops [⟨some 2, .alA, none⟩] false) (.keep [0, 2] [0])) (.seq (.post (.ops [⟨some 4, (.mov (.t 0)), none⟩, ⟨some 5, (.nch (.t 4)), none⟩, ⟨some 6, (.fld (.t 5) 1), none⟩, ⟨some 7, (.ld (.t 6)), none⟩, ⟨some 8, (.un (.conv .i64) (.t 7)), none⟩, ⟨some 3, (.mov (.t 8)), none⟩] false) (.keep [0, 2, 3] [0])) (.seq (.seq (.post (.ops [⟨some 9, (.mov (.t 0)), none⟩, ⟨some 10, (.nch (.t 9)), none⟩, ⟨some 11, (.fld (.t 10) 2), none⟩, ⟨some 12, (.ld (.t 11)), none⟩, ⟨some 13, (.un .not (.t 12)), none⟩, ⟨some 14, (.mov (.t 13)), none⟩, ⟨some 15, (.mov (.t 0)), some (14, false)⟩, ⟨some 16, (.nch (.t 15)), some (14, false)⟩, ⟨some 17, (.fld (.t 16) 0), some (14, false)⟩, ⟨some 18, (.ld (.t 17)), some (14, false)⟩, ⟨some 19, (.mov (.t 3)), some (14, false)⟩, ⟨some 20, (.bin (.shr .i64) (.t 19) (.c (D.i 63))), some (14, false)⟩, ⟨some 21, (.bin .neI (.t 18) (.t 20)), some (14, false)⟩, ⟨some 22, (.pick (.t 14) (.c (D.b true)) (.t 21)), none⟩] false) (.keep [2, 3, 22] [0])) (.cond (.t 22) (.pre (.keep [2] [0]) (.seq (.post (.ops [⟨some 23, (.build (D.ag [(D.i 0), (D.i 0), (D.f 0), (D.s [])]) []), none⟩, ⟨none, (.ini 2 (.t 23)), none⟩] false) (.keep [2] [0])) .ret)) (.pre (.keep [2, 3] [0]) .skip))) (.seq (.post (.ops [⟨some 24, (.mov (.t 3)), none⟩, ⟨some 25, (.call 74 [(.t 24)] []), none⟩, ⟨none, (.ini 2 (.t 25)), none⟩] false) (.keep [2] [0])) .ret))))
def vc81_0 : VC := (.seq (.post (.ops [⟨some 2, .alA, none⟩] false) (.keep [0, 2] [])) (.seq (.block 0 (.seq (.post (.ops [⟨some 4, (.mov (.t 0)), none⟩, ⟨some 5, (.call 64 [(.t 4)] []), none⟩, ⟨some 3, (.mov (.t 5)), none⟩] false) (.keep [0, 2, 3] [])) (.cond (.t 3) (.pre (.keep [2] []) (.post (.ops [⟨some 6, (.call 98 [] []), none⟩, ⟨some 0, (.mov (.t 6)), none⟩] false) (.keep [0, 2] []))) (.pre (.keep [0, 2] []) (.seq (.post (.ops [⟨some 8, (.mov (.t 0)), none⟩, ⟨some 9, (.bin .feq (.t 8) (.c (D.f 0))), none⟩, ⟨some 7, (.mov (.t 9)), none⟩] false) (.keep [0, 2, 7] [])) (.cond (.t 7) (.pre (.keep [2] []) (.post (.ops [⟨some 0, (.mov (.c (D.f 0))), none⟩] false) (.keep [0, 2] []))) (.pre (.keep [0, 2] []) .skip))))))) (.seq (.post (.ops [⟨some 10, (.mov (.t 0)), none⟩, ⟨some 11, (.build (D.ag [(D.i 0), (D.i 0), (D.f 0), (D.s [])]) [(0, (.c (D.i 2))), (2, (.t 10))]), none⟩, ⟨none, (.ini 2 (.t 11)), none⟩] false) (.keep [2] [])) .ret)))
def vc82_0 : VC := (.seq (.post (.ops [⟨some 2, .alA, none⟩] false) (.keep [0, 2] [])) (.seq (.post (.ops [⟨some 3, (.mov (.t 0)), none⟩, ⟨some 4, (.build (D.ag [(D.i 0), (D.i 0), (D.f 0), (D.s [])]) [(0, (.c (D.i 3))), (3, (.t 3))]), none⟩, ⟨none, (.ini 2 (.t 4)), none⟩] false) (.keep [2] [])) .ret))
def vc83_0 : VC := (.seq (.post (.ops [⟨some 1, (.box (.t 0)), none⟩, ⟨some 2, (.mov (.c (D.i 0))), none⟩] false) (.keep [1] [])) (.seq (.seq (.post (.ops [⟨some 3, (.fld (.t 1) 0), none⟩, ⟨some 4, (.ldF (.t 3)), none⟩, ⟨some 5, (.bin .neI (.t 4) (.c (D.i 4))), none⟩] false) (.keep [1, 5] [])) (.cond (.t 5) (.pre (.keep [] []) (.seq (.post (.ops [⟨some 2, (.mov (.c (D.i (-1)))), none⟩] false) (.keep [2] [])) .ret)) (.pre (.keep [1] []) .skip))) (.seq (.seq (.post (.ops [⟨some 6, (.fld (.t 1) 1), none⟩, ⟨some 7, (.ldF (.t 6)), none⟩, ⟨some 8, (.bin .neI (.t 7) (.c (D.i 0))), none⟩] false) (.keep [8] [])) (.cond (.t 8) (.pre (.keep [] []) (.seq (.post (.ops [⟨some 2, (.mov (.c (D.i 1))), none⟩] false) (.keep [2] [])) .ret)) (.pre (.keep [] []) .skip))) (.seq (.post (.ops [⟨some 2, (.mov (.c (D.i 0))), none⟩] false) (.keep [2] [])) .ret))))
def vc84_0 : VC := (.seq (.post (.ops [⟨some 2, .alA, none⟩] false) (.keep [0, 2] [])) (.seq (.seq (.post (.ops [⟨some 3, (.mov (.t 0)), none⟩, ⟨some 4, (.bin .ltI (.t 3) (.c (D.i 0))), none⟩] false) (.keep [0, 2, 4] [])) (.cond (.t 4) (.pre (.keep [2] []) (.seq (.post (.ops [⟨some 5, (.build (D.ag [(D.i 0), (D.i 0), (D.f 0), (D.s [])]) []), none⟩, ⟨none, (.ini 2 (.t 5)), none⟩] false) (.keep [2] [])) .ret)) (.pre (.keep [0, 2] []) .skip))) (.seq (.post (.ops [⟨some 6, (.mov (.t 0)), none⟩, ⟨some 7, (.bin .eqI (.t 6) (.c (D.i 1))), none⟩, ⟨some 8, (.call 53 [(.t 7)] []), none⟩, ⟨none, (.ini 2 (.t 8)), none⟩] false) (.keep [2] [])) .ret)))
def vc85_1 : VC := (.post (.ops [⟨some 6, (.mov (.c (D.i 0))), none⟩,
  ⟨some 7, (.mov (.c (D.b false))), none⟩] false) (.keep [0, 1, 2] []))
def vc85_4 : VC := (.post (.ops [⟨some 11, (.mov (.t 0)), none⟩] false) (.keep [1, 2, 11] []))
def vc85_7 : VC := (.post (.ops [⟨some 13, (.bin .seq (.t 11) (.c (D.s [43]))), none⟩,
  ⟨some 12, (.mov (.t 13)), none⟩] false) (.keep [1, 2, 11, 12] []))
def vc85_9 : VC := (.seq (.post (.ops [⟨some 14, (.mov (.t 1)), none⟩, ⟨some 15, (.mov (.t 2)), none⟩, ⟨some 16, (.bin (.add .i64) (.t 14) (.t 15)), none⟩, ⟨some 8, (.mov (.t 16)), none⟩] false) (.keep [1, 2, 8] [])) (.seq (.post (.ops [⟨some 17, (.mov (.t 8)), none⟩, ⟨some 18, (.mov (.t 8)), none⟩, ⟨some 19, (.mov (.t 1)), none⟩, ⟨some 20, (.bin .gtI (.t 18) (.t 19)), none⟩, ⟨some 21, (.mov (.t 2)), none⟩, ⟨some 22, (.bin .gtI (.t 21) (.c (D.i 0))), none⟩, ⟨some 23, (.bin .eqB (.t 20) (.t 22)), none⟩, ⟨some 6, (.mov (.t 17)), none⟩, ⟨some 7, (.mov (.t 23)), none⟩] false) (.keep [6, 7] [])) .ret))
def vc85_15 : VC := (.post (.ops [⟨some 25, (.bin .seq (.t 11) (.c (D.s [45]))), none⟩,
  ⟨some 24, (.mov (.t 25)), none⟩] false) (.keep [1, 2, 11, 24] []))
def vc85_17 : VC := (.seq (.post (.ops [⟨some 26, (.mov (.t 1)), none⟩, ⟨some 27, (.mov (.t 2)), none⟩, ⟨some 28, (.bin (.sub .i64) (.t 26) (.t 27)), none⟩, ⟨some 9, (.mov (.t 28)), none⟩] false) (.keep [1, 2, 9] [])) (.seq (.post (.ops [⟨some 29, (.mov (.t 9)), none⟩, ⟨some 30, (.mov (.t 9)), none⟩, ⟨some 31, (.mov (.t 1)), none⟩, ⟨some 32, (.bin .ltI (.t 30) (.t 31)), none⟩, ⟨some 33, (.mov (.t 2)), none⟩, ⟨some 34, (.bin .gtI (.t 33) (.c (D.i 0))), none⟩, ⟨some 35, (.bin .eqB (.t 32) (.t 34)), none⟩, ⟨some 6, (.mov (.t 29)), none⟩, ⟨some 7, (.mov (.t 35)), none⟩] false) (.keep [6, 7] [])) .ret))
def vc85_23 : VC := (.post (.ops [⟨some 37, (.bin .seq (.t 11) (.c (D.s [42]))), none⟩,
  ⟨some 36, (.mov (.t 37)), none⟩] false) (.keep [1, 2, 36] []))
def vc85_26 : VC := (.seq (.post (.ops [⟨some 38, (.mov (.t 1)), none⟩, ⟨some 39, (.bin .eqI (.t 38) (.c (D.i 0))), none⟩, ⟨some 40, (.mov (.t 39)), none⟩, ⟨some 41, (.mov (.t 2)), some (40, false)⟩, ⟨some 42, (.bin .eqI (.t 41) (.c (D.i 0))), some (40, false)⟩, ⟨some 43, (.pick (.t 40) (.c (D.b true)) (.t 42)), none⟩] false) (.keep [1, 2, 43] [])) (.cond (.t 43) (.pre (.keep [] []) (.seq (.post (.ops [⟨some 6, (.mov (.c (D.i 0))), none⟩, ⟨some 7, (.mov (.c (D.b true))), none⟩] false) (.keep [6, 7] [])) .ret)) (.pre (.keep [1, 2] []) .skip)))
def vc85_33 : VC := (.seq (.post (.ops [⟨some 44, (.mov (.t 1)), none⟩, ⟨some 45, (.mov (.t 2)), none⟩, ⟨some 46, (.bin (.mul .i64) (.t 44) (.t 45)), none⟩, ⟨some 10, (.mov (.t 46)), none⟩] false) (.keep [1, 2, 10] [])) (.seq (.post (.ops [⟨some 47, (.mov (.t 10)), none⟩, ⟨some 48, (.mov (.t 10)), none⟩, ⟨some 49, (.mov (.t 2)), none⟩, ⟨some 50, (.bin (.quo .i64) (.t 48) (.t 49)), none⟩, ⟨some 51, (.mov (.t 1)), none⟩, ⟨some 52, (.bin .eqI (.t 50) (.t 51)), none⟩, ⟨some 53, (.mov (.t 52)), none⟩, ⟨some 54, (.mov (.t 1)), some (53, true)⟩, ⟨some 55, (.bin .eqI (.t 54) (.c (D.i (-1)))), some (53, true)⟩, ⟨some 56, (.mov (.t 55)), some (53, true)⟩, ⟨some 57, (.mov (.t 2)), some (56, true)⟩, ⟨some 58, (.bin .eqI (.t 57) (.c (D.i (-9223372036854775808)))), some (56, true)⟩, ⟨some 59, (.pick (.t 56) (.t 58) (.c (D.b false))), some (53, true)⟩, ⟨some 60, (.un .not (.t 59)), some (53, true)⟩, ⟨some 61, (.pick (.t 53) (.t 60) (.c (D.b false))), none⟩, ⟨some 62, (.mov (.t 61)), none⟩, ⟨some 63, (.mov (.t 2)), some (62, true)⟩, ⟨some 64, (.bin .eqI (.t 63) (.c (D.i (-1)))), some (62, true)⟩, ⟨some 65, (.mov (.t 64)), some (62, true)⟩, ⟨some 66, (.mov (.t 1)), some (65, true)⟩, ⟨some 67, (.bin .eqI (.t 66) (.c (D.i (-9223372036854775808)))), some (65, true)⟩, ⟨some 68, (.pick (.t 65) (.t 67) (.c (D.b false))), some (62, true)⟩, ⟨some 69, (.un .not (.t 68)), some (62, true)⟩, ⟨some 70, (.pick (.t 62) (.t 69) (.c (D.b false))), none⟩, ⟨some 6, (.mov (.t 47)), none⟩, ⟨some 7, (.mov (.t 70)), none⟩] false) (.keep [6, 7] [])) .ret))
def vc85_25 : VC := .seq vc85_26 vc85_33
def vc85_38 : VC := .skip
def vc85_24 : VC := .cond (.t 36) (.pre (.keep [1, 2] []) vc85_25) (.pre (.keep [] []) vc85_38)
def vc85_22 : VC := .seq vc85_23 vc85_24
def vc85_16 : VC := .cond (.t 24) (.pre (.keep [1, 2] []) vc85_17) (.pre (.keep [1, 2, 11] []) vc85_22)
def vc85_14 : VC := .seq vc85_15 vc85_16
def vc85_8 : VC := .cond (.t 12) (.pre (.keep [1, 2] []) vc85_9) (.pre (.keep [1, 2, 11] []) vc85_14)
def vc85_6 : VC := .seq vc85_7 vc85_8
def vc85_5 : VC := .block 0 vc85_6
def vc85_3 : VC := .seq vc85_4 vc85_5
def vc85_39 : VC := (.seq (.post (.ops [⟨some 6, (.mov (.c (D.i 0))), none⟩, ⟨some 7, (.mov (.c (D.b false))), none⟩] false) (.keep [6, 7] [])) .ret)
def vc85_2 : VC := .seq vc85_3 vc85_39
def vc85_0 : VC := .seq vc85_1 vc85_2
def vc89_0 : VC := (.seq (.post (.ops [⟨some 2, (.mov (.c (D.b false))), none⟩] false) (.keep [0] [])) (.seq (.post (.ops [⟨some 3, (.mov (.t 0)), none⟩, ⟨some 4, (.mov (.t 0)), none⟩, ⟨some 5, (.bin .fne (.t 3) (.t 4)), none⟩, ⟨some 2, (.mov (.t 5)), none⟩] false) (.keep [2] [])) .ret))
def vc90_0 : VC := (.seq (.post (.ops [⟨some 4, (.mov (.c (D.i 0))), none⟩] false) (.keep [0, 1] [])) (.seq (.post (.ops [⟨some 5, (.mov (.t 0)), none⟩, ⟨some 6, (.mov (.t 1)), none⟩, ⟨some 7, (.bin .scmp (.t 5) (.t 6)), none⟩, ⟨some 4, (.mov (.t 7)), none⟩] false) (.keep [4] [])) .ret))
def vc91_0 : VC := (.seq (.post (.ops [⟨some 2, (.mov (.c (D.b false))), none⟩] false) (.keep [0] [])) (.seq (.post (.ops [⟨some 3, (.mov (.t 0)), none⟩, ⟨some 4, (.mov (.t 0)), none⟩, ⟨some 5, (.bin .neI (.t 3) (.t 4)), none⟩, ⟨some 2, (.mov (.t 5)), none⟩] false) (.keep [2] [])) .ret))
def vc92_1 : VC := (.post (.ops [⟨some 6, (.mov (.c (D.i 20))), none⟩] false) (.keep [0, 1, 2, 6] [0]))
def vc92_3 : VC := (.post (.ops [⟨some 10, (.mov (.t 6)), none⟩,
  ⟨some 7, (.mov (.c (D.i 0))), none⟩,
  ⟨some 8, (.mov (.t 10)), none⟩] false) (.keep [0, 1, 2, 6, 7, 8] [0]))
def vc92_7 : VC := (.seq (.seq (.post (.ops [⟨some 11, (.mov (.t 8)), none⟩, ⟨some 12, (.mov (.t 1)), none⟩, ⟨some 13, (.bin .leI (.t 11) (.t 12)), none⟩] false) (.keep [0, 1, 2, 6, 7, 8, 13] [0])) (.cond (.t 13) (.pre (.keep [0, 1, 2, 6, 7, 8] [0]) .skip) (.pre (.keep [0, 1, 2, 6, 7] [0]) (.exit 0)))) (.block 1 (.seq (.post (.ops [⟨some 14, (.mov (.t 0)), none⟩, ⟨some 15, (.mov (.t 7)), none⟩, ⟨some 16, (.mov (.t 8)), none⟩, ⟨some 17, (.mov (.t 2)), none⟩, ⟨some 18, (.call 102 [(.t 14), (.t 15), (.t 16), (.t 17)] [0]), none⟩] false) (.keep [0, 1, 2, 6, 8] [0])) (.seq (.post (.ops [⟨some 19, (.mov (.t 8)), none⟩, ⟨some 7, (.mov (.t 19)), none⟩] false) (.keep [0, 1, 2, 6, 7, 8] [0])) (.post (.ops [⟨some 20, (.mov (.t 8)), none⟩, ⟨some 21, (.mov (.t 6)), none⟩, ⟨some 22, (.bin (.add .i64) (.t 20) (.t 21)), none⟩, ⟨some 8, (.mov (.t 22)), none⟩] false) (.keep [0, 1, 2, 6, 7, 8] [0]))))))
def vc92_6 : VC := .loop vc92_7
def vc92_5 : VC := .block 0 vc92_6
def vc92_20 : VC := (.post (.ops [⟨some 23, (.mov (.t 0)), none⟩,
  ⟨some 24, (.mov (.t 7)), none⟩,
  ⟨some 25, (.mov (.t 1)), none⟩,
  ⟨some 26, (.mov (.t 2)), none⟩,
  ⟨some 27, (.call 102 [(.t 23), (.t 24), (.t 25), (.t 26)] [0]), none⟩] false) (.keep [0, 1, 2, 6] [0]))
def vc92_24 : VC := (.seq (.post (.ops [⟨some 28, (.mov (.t 6)), none⟩, ⟨some 29, (.mov (.t 1)), none⟩, ⟨some 30, (.bin .ltI (.t 28) (.t 29)), none⟩] false) (.keep [0, 1, 2, 6, 30] [0])) (.cond (.t 30) (.pre (.keep [0, 1, 2, 6] [0]) .skip) (.pre (.keep [] [0]) (.exit 2))))
def vc92_31 : VC := (.post (.ops [⟨some 31, (.mov (.t 6)), none⟩,
  ⟨some 32, (.bin (.mul .i64) (.c (D.i 2)) (.t 31)), none⟩,
  ⟨some 7, (.mov (.c (D.i 0))), none⟩,
  ⟨some 8, (.mov (.t 32)), none⟩] false) (.keep [0, 1, 2, 6, 7, 8] [0]))
def vc92_35 : VC := (.seq (.seq (.post (.ops [⟨some 33, (.mov (.t 8)), none⟩, ⟨some 34, (.mov (.t 1)), none⟩, ⟨some 35, (.bin .leI (.t 33) (.t 34)), none⟩] false) (.keep [0, 1, 2, 6, 7, 8, 35] [0])) (.cond (.t 35) (.pre (.keep [0, 1, 2, 6, 7, 8] [0]) .skip) (.pre (.keep [0, 1, 2, 6, 7] [0]) (.exit 4)))) (.block 5 (.seq (.post (.ops [⟨some 36, (.mov (.t 0)), none⟩, ⟨some 37, (.mov (.t 7)), none⟩, ⟨some 38, (.mov (.t 7)), none⟩, ⟨some 39, (.mov (.t 6)), none⟩, ⟨some 40, (.bin (.add .i64) (.t 38) (.t 39)), none⟩, ⟨some 41, (.mov (.t 8)), none⟩, ⟨some 42, (.mov (.t 2)), none⟩, ⟨some 43, (.call 103 [(.t 36), (.t 37), (.t 40), (.t 41), (.t 42)] [0]), none⟩] false) (.keep [0, 1, 2, 6, 8] [0])) (.seq (.post (.ops [⟨some 44, (.mov (.t 8)), none⟩, ⟨some 7, (.mov (.t 44)), none⟩] false) (.keep [0, 1, 2, 6, 7, 8] [0])) (.post (.ops [⟨some 45, (.mov (.t 8)), none⟩, ⟨some 46, (.mov (.t 6)), none⟩, ⟨some 47, (.bin (.mul .i64) (.c (D.i 2)) (.t 46)), none⟩, ⟨some 48, (.bin (.add .i64) (.t 45) (.t 47)), none⟩, ⟨some 8, (.mov (.t 48)), none⟩] false) (.keep [0, 1, 2, 6, 7, 8] [0]))))))
def vc92_34 : VC := .loop vc92_35
def vc92_33 : VC := .block 4 vc92_34
def vc92_47 : VC := (.seq (.seq (.post (.ops [⟨some 49, (.mov (.t 7)), none⟩, ⟨some 50, (.mov (.t 6)), none⟩, ⟨some 51, (.bin (.add .i64) (.t 49) (.t 50)), none⟩, ⟨some 9, (.mov (.t 51)), none⟩] false) (.keep [0, 1, 2, 6, 7, 9] [0])) (.seq (.post (.ops [⟨some 52, (.mov (.t 9)), none⟩, ⟨some 53, (.mov (.t 1)), none⟩, ⟨some 54, (.bin .ltI (.t 52) (.t 53)), none⟩] false) (.keep [0, 1, 2, 6, 7, 9, 54] [0])) (.cond (.t 54) (.pre (.keep [0, 1, 2, 6, 7, 9] [0]) (.post (.ops [⟨some 55, (.mov (.t 0)), none⟩, ⟨some 56, (.mov (.t 7)), none⟩, ⟨some 57, (.mov (.t 9)), none⟩, ⟨some 58, (.mov (.t 1)), none⟩, ⟨some 59, (.mov (.t 2)), none⟩, ⟨some 60, (.call 103 [(.t 55), (.t 56), (.t 57), (.t 58), (.t 59)] [0]), none⟩] false) (.keep [0, 1, 2, 6] [0]))) (.pre (.keep [0, 1, 2, 6] [0]) .skip)))) (.post (.ops [⟨some 61, (.mov (.t 6)), none⟩, ⟨some 62, (.bin (.mul .i64) (.t 61) (.c (D.i 2))), none⟩, ⟨some 6, (.mov (.t 62)), none⟩] false) (.keep [0, 1, 2, 6] [0])))
def vc92_32 : VC := .seq vc92_33 vc92_47
def vc92_30 : VC := .seq vc92_31 vc92_32
def vc92_29 : VC := .block 3 vc92_30
def vc92_23 : VC := .seq vc92_24 vc92_29
def vc92_22 : VC := .loop vc92_23
def vc92_21 : VC := .block 2 vc92_22
def vc92_19 : VC := .seq vc92_20 vc92_21
def vc92_4 : VC := .seq vc92_5 vc92_19
def vc92_2 : VC := .seq vc92_3 vc92_4
def vc92_0 : VC := .seq vc92_1 vc92_2
def vc93_1 : VC := (.post (.ops [⟨some 10, (.mov (.t 1)), none⟩,
  ⟨some 11, (.bin (.add .i64) (.t 10) (.c (D.i 1))), none⟩,
  ⟨some 8, (.mov (.t 11)), none⟩] false) (.keep [0, 1, 2, 3, 8] [0]))
def vc93_5 : VC := (.seq (.post (.ops [⟨some 12, (.mov (.t 8)), none⟩, ⟨some 13, (.mov (.t 2)), none⟩, ⟨some 14, (.bin .ltI (.t 12) (.t 13)), none⟩] false) (.keep [0, 1, 2, 3, 8, 14] [0])) (.cond (.t 14) (.pre (.keep [0, 1, 2, 3, 8] [0]) .skip) (.pre (.keep [] [0]) (.exit 0))))
def vc93_13 : VC := (.post (.ops [⟨some 17, (.mov (.t 8)), none⟩,
  ⟨some 9, (.mov (.t 17)), none⟩] false) (.keep [0, 1, 2, 3, 8, 9] [0]))
def vc93_16 : VC := (.seq (.seq (.post (.ops [⟨some 18, (.mov (.t 9)), none⟩, ⟨some 19, (.mov (.t 1)), none⟩, ⟨some 20, (.bin .gtI (.t 18) (.t 19)), none⟩, ⟨some 21, (.mov (.t 20)), none⟩, ⟨some 22, (.mov (.t 3)), some (21, true)⟩, ⟨some 23, (.mov (.t 0)), some (21, true)⟩, ⟨some 24, (.mov (.t 9)), some (21, true)⟩, ⟨some 25, (.ixaM (.t 23) (.t 24)), some (21, true)⟩, ⟨some 26, (.ld (.t 25)), some (21, true)⟩, ⟨some 27, (.mov (.t 0)), some (21, true)⟩, ⟨some 28, (.mov (.t 9)), some (21, true)⟩, ⟨some 29, (.bin (.sub .i64) (.t 28) (.c (D.i 1))), some (21, true)⟩, ⟨some 30, (.ixaM (.t 27) (.t 29)), some (21, true)⟩, ⟨some 31, (.ld (.t 30)), some (21, true)⟩, ⟨some 32, (.callv (.t 22) [(.t 26), (.t 31)] [Ty.v 3, Ty.v 59, Ty.v 59] []), some (21, true)⟩, ⟨some 33, (.bin .ltI (.t 32) (.c (D.i 0))), some (21, true)⟩, ⟨some 34, (.pick (.t 21) (.t 33) (.c (D.b false))), none⟩] true) (.keep [0, 1, 2, 3, 8, 9, 34] [0])) (.cond (.t 34) (.pre (.keep [0, 1, 2, 3, 8, 9] [0]) .skip) (.pre (.keep [0, 1, 2, 3, 8] [0]) (.exit 2)))) (.seq (.block 3 (.post (.ops [⟨some 37, (.mov (.t 0)), none⟩, ⟨some 38, (.mov (.t 9)), none⟩, ⟨some 39, (.mov (.t 0)), none⟩, ⟨some 40, (.mov (.t 9)), none⟩, ⟨some 41, (.bin (.sub .i64) (.t 40) (.c (D.i 1))), none⟩, ⟨some 42, (.mov (.t 0)), none⟩, ⟨some 43, (.mov (.t 9)), none⟩, ⟨some 44, (.bin (.sub .i64) (.t 43) (.c (D.i 1))), none⟩, ⟨some 45, (.ixaM (.t 42) (.t 44)), none⟩, ⟨some 46, (.ld (.t 45)), none⟩, ⟨some 47, (.mov (.t 0)), none⟩, ⟨some 48, (.mov (.t 9)), none⟩, ⟨some 49, (.ixaM (.t 47) (.t 48)), none⟩, ⟨some 50, (.ld (.t 49)), none⟩, ⟨some 51, (.ixaM (.t 37) (.t 38)), none⟩, ⟨none, (.st (.t 51) (.t 46)), none⟩, ⟨some 52, (.ixaM (.t 39) (.t 41)), none⟩, ⟨none, (.st (.t 52) (.t 50)), none⟩] true) (.keep [0, 1, 2, 3, 8, 9] [0]))) (.post (.ops [⟨some 35, (.mov (.t 9)), none⟩, ⟨some 36, (.bin (.sub .i64) (.t 35) (.c (D.i 1))), none⟩, ⟨some 9, (.mov (.t 36)), none⟩] false) (.keep [0, 1, 2, 3, 8, 9] [0]))))
def vc93_15 : VC := .loop vc93_16
def vc93_14 : VC := .block 2 vc93_15
def vc93_12 : VC := .seq vc93_13 vc93_14
def vc93_11 : VC := .block 1 vc93_12
def vc93_26 : VC := (.post (.ops [⟨some 15, (.mov (.t 8)), none⟩,
  ⟨some 16, (.bin (.add .i64) (.t 15) (.c (D.i 1))), none⟩,
  ⟨some 8, (.mov (.t 16)), none⟩] false) (.keep [0, 1, 2, 3, 8] [0]))
def vc93_10 : VC := .seq vc93_11 vc93_26
def vc93_4 : VC := .seq vc93_5 vc93_10
def vc93_3 : VC := .loop vc93_4
def vc93_2 : VC := .block 0 vc93_3
def vc93_0 : VC := .seq vc93_1 vc93_2
def vc94_2 : VC := (.post (.ops [⟨some 25, (.mov (.t 2)), none⟩,
  ⟨some 26, (.mov (.t 1)), none⟩,
  ⟨some 27, (.bin (.sub .i64) (.t 25) (.t 26)), none⟩,
  ⟨some 28, (.bin .eqI (.t 27) (.c (D.i 1))), none⟩] false) (.keep [0, 1, 2, 3, 4, 28] [0]))
def vc94_5 : VC := (.post (.ops [⟨some 29, (.mov (.t 2)), none⟩,
  ⟨some 10, (.mov (.t 29)), none⟩] false) (.keep [0, 1, 3, 4, 10] [0]))
def vc94_7 : VC := (.post (.ops [⟨some 30, (.mov (.t 3)), none⟩,
  ⟨some 11, (.mov (.t 30)), none⟩] false) (.keep [0, 1, 4, 10, 11] [0]))
def vc94_11 : VC := (.seq (.seq (.post (.ops [⟨some 31, (.mov (.t 10)), none⟩, ⟨some 32, (.mov (.t 11)), none⟩, ⟨some 33, (.bin .ltI (.t 31) (.t 32)), none⟩] false) (.keep [0, 1, 4, 10, 11, 33] [0])) (.cond (.t 33) (.pre (.keep [0, 1, 4, 10, 11] [0]) .skip) (.pre (.keep [0, 1, 10] [0]) (.exit 0)))) (.block 1 (.seq (.post (.ops [⟨some 34, (.mov (.t 10)), none⟩, ⟨some 35, (.mov (.t 11)), none⟩, ⟨some 36, (.bin (.add .i64) (.t 34) (.t 35)), none⟩, ⟨some 37, (.un (.conv .u64) (.t 36)), none⟩, ⟨some 38, (.bin (.shr .u64) (.t 37) (.c (D.i 1))), none⟩, ⟨some 39, (.un (.conv .i64) (.t 38)), none⟩, ⟨some 12, (.mov (.t 39)), none⟩] false) (.keep [0, 1, 4, 10, 11, 12] [0])) (.seq (.post (.ops [⟨some 40, (.mov (.t 4)), none⟩, ⟨some 41, (.mov (.t 0)), none⟩, ⟨some 42, (.mov (.t 12)), none⟩, ⟨some 43, (.ixaM (.t 41) (.t 42)), none⟩, ⟨some 44, (.ld (.t 43)), none⟩, ⟨some 45, (.mov (.t 0)), none⟩, ⟨some 46, (.mov (.t 1)), none⟩, ⟨some 47, (.ixaM (.t 45) (.t 46)), none⟩, ⟨some 48, (.ld (.t 47)), none⟩, ⟨some 49, (.callv (.t 40) [(.t 44), (.t 48)] [Ty.v 3, Ty.v 59, Ty.v 59] []), none⟩, ⟨some 50, (.bin .ltI (.t 49) (.c (D.i 0))), none⟩] true) (.keep [0, 1, 4, 10, 11, 12, 50] [0])) (.cond (.t 50) (.pre (.keep [0, 1, 4, 11, 12] [0]) (.post (.ops [⟨some 51, (.mov (.t 12)), none⟩, ⟨some 52, (.bin (.add .i64) (.t 51) (.c (D.i 1))), none⟩, ⟨some 10, (.mov (.t 52)), none⟩] false) (.keep [0, 1, 4, 10, 11] [0]))) (.pre (.keep [0, 1, 4, 10, 12] [0]) (.post (.ops [⟨some 53, (.mov (.t 12)), none⟩, ⟨some 11, (.mov (.t 53)), none⟩] false) (.keep [0, 1, 4, 10, 11] [0]))))))))
def vc94_10 : VC := .loop vc94_11
def vc94_9 : VC := .block 0 vc94_10
def vc94_27 : VC := (.post (.ops [⟨some 54, (.mov (.t 1)), none⟩,
  ⟨some 13, (.mov (.t 54)), none⟩] false) (.keep [0, 10, 13] [0]))
def vc94_30 : VC := (.seq (.seq (.post (.ops [⟨some 55, (.mov (.t 13)), none⟩, ⟨some 56, (.mov (.t 10)), none⟩, ⟨some 57, (.bin (.sub .i64) (.t 56) (.c (D.i 1))), none⟩, ⟨some 58, (.bin .ltI (.t 55) (.t 57)), none⟩] false) (.keep [0, 10, 13, 58] [0])) (.cond (.t 58) (.pre (.keep [0, 10, 13] [0]) .skip) (.pre (.keep [] [0]) (.exit 2)))) (.seq (.block 3 (.post (.ops [⟨some 61, (.mov (.t 0)), none⟩, ⟨some 62, (.mov (.t 13)), none⟩, ⟨some 63, (.mov (.t 0)), none⟩, ⟨some 64, (.mov (.t 13)), none⟩, ⟨some 65, (.bin (.add .i64) (.t 64) (.c (D.i 1))), none⟩, ⟨some 66, (.mov (.t 0)), none⟩, ⟨some 67, (.mov (.t 13)), none⟩, ⟨some 68, (.bin (.add .i64) (.t 67) (.c (D.i 1))), none⟩, ⟨some 69, (.ixaM (.t 66) (.t 68)), none⟩, ⟨some 70, (.ld (.t 69)), none⟩, ⟨some 71, (.mov (.t 0)), none⟩, ⟨some 72, (.mov (.t 13)), none⟩, ⟨some 73, (.ixaM (.t 71) (.t 72)), none⟩, ⟨some 74, (.ld (.t 73)), none⟩, ⟨some 75, (.ixaM (.t 61) (.t 62)), none⟩, ⟨none, (.st (.t 75) (.t 70)), none⟩, ⟨some 76, (.ixaM (.t 63) (.t 65)), none⟩, ⟨none, (.st (.t 76) (.t 74)), none⟩] true) (.keep [0, 10, 13] [0]))) (.post (.ops [⟨some 59, (.mov (.t 13)), none⟩, ⟨some 60, (.bin (.add .i64) (.t 59) (.c (D.i 1))), none⟩, ⟨some 13, (.mov (.t 60)), none⟩] false) (.keep [0, 10, 13] [0]))))
def vc94_29 : VC := .loop vc94_30
def vc94_28 : VC := .block 2 vc94_29
def vc94_26 : VC := .seq vc94_27 vc94_28
def vc94_40 : VC := .ret
def vc94_25 : VC := .seq vc94_26 vc94_40
def vc94_8 : VC := .seq vc94_9 vc94_25
def vc94_6 : VC := .seq vc94_7 vc94_8
def vc94_4 : VC := .seq vc94_5 vc94_6
def vc94_41 : VC := .skip
def vc94_3 : VC := .cond (.t 28) (.pre (.keep [0, 1, 2, 3, 4] [0]) vc94_4) (.pre (.keep [0, 1, 2, 3, 4] [0]) vc94_41)
def vc94_1 : VC := .seq vc94_2 vc94_3
def vc94_44 : VC := (.post (.ops [⟨some 77, (.mov (.t 3)), none⟩,
  ⟨some 78, (.mov (.t 2)), none⟩,
  ⟨some 79, (.bin (.sub .i64) (.t 77) (.t 78)), none⟩,
  ⟨some 80, (.bin .eqI (.t 79) (.c (D.i 1))), none⟩] false) (.keep [0, 1, 2, 3, 4, 80] [0]))
def vc94_47 : VC := (.post (.ops [⟨some 81, (.mov (.t 1)), none⟩,
  ⟨some 14, (.mov (.t 81)), none⟩] false) (.keep [0, 2, 4, 14] [0]))
def vc94_49 : VC := (.post (.ops [⟨some 82, (.mov (.t 2)), none⟩,
  ⟨some 15, (.mov (.t 82)), none⟩] false) (.keep [0, 2, 4, 14, 15] [0]))
def vc94_53 : VC := (.seq (.seq (.post (.ops [⟨some 83, (.mov (.t 14)), none⟩, ⟨some 84, (.mov (.t 15)), none⟩, ⟨some 85, (.bin .ltI (.t 83) (.t 84)), none⟩] false) (.keep [0, 2, 4, 14, 15, 85] [0])) (.cond (.t 85) (.pre (.keep [0, 2, 4, 14, 15] [0]) .skip) (.pre (.keep [0, 2, 14] [0]) (.exit 4)))) (.block 5 (.seq (.post (.ops [⟨some 86, (.mov (.t 14)), none⟩, ⟨some 87, (.mov (.t 15)), none⟩, ⟨some 88, (.bin (.add .i64) (.t 86) (.t 87)), none⟩, ⟨some 89, (.un (.conv .u64) (.t 88)), none⟩, ⟨some 90, (.bin (.shr .u64) (.t 89) (.c (D.i 1))), none⟩, ⟨some 91, (.un (.conv .i64) (.t 90)), none⟩, ⟨some 16, (.mov (.t 91)), none⟩] false) (.keep [0, 2, 4, 14, 15, 16] [0])) (.seq (.post (.ops [⟨some 92, (.mov (.t 4)), none⟩, ⟨some 93, (.mov (.t 0)), none⟩, ⟨some 94, (.mov (.t 2)), none⟩, ⟨some 95, (.ixaM (.t 93) (.t 94)), none⟩, ⟨some 96, (.ld (.t 95)), none⟩, ⟨some 97, (.mov (.t 0)), none⟩, ⟨some 98, (.mov (.t 16)), none⟩, ⟨some 99, (.ixaM (.t 97) (.t 98)), none⟩, ⟨some 100, (.ld (.t 99)), none⟩, ⟨some 101, (.callv (.t 92) [(.t 96), (.t 100)] [Ty.v 3, Ty.v 59, Ty.v 59] []), none⟩, ⟨some 102, (.bin .ltI (.t 101) (.c (D.i 0))), none⟩, ⟨some 103, (.un .not (.t 102)), none⟩] true) (.keep [0, 2, 4, 14, 15, 16, 103] [0])) (.cond (.t 103) (.pre (.keep [0, 2, 4, 15, 16] [0]) (.post (.ops [⟨some 104, (.mov (.t 16)), none⟩, ⟨some 105, (.bin (.add .i64) (.t 104) (.c (D.i 1))), none⟩, ⟨some 14, (.mov (.t 105)), none⟩] false) (.keep [0, 2, 4, 14, 15] [0]))) (.pre (.keep [0, 2, 4, 14, 16] [0]) (.post (.ops [⟨some 106, (.mov (.t 16)), none⟩, ⟨some 15, (.mov (.t 106)), none⟩] false) (.keep [0, 2, 4, 14, 15] [0]))))))))
def vc94_52 : VC := .loop vc94_53
def vc94_51 : VC := .block 4 vc94_52
def vc94_69 : VC := (.post (.ops [⟨some 107, (.mov (.t 2)), none⟩,
  ⟨some 17, (.mov (.t 107)), none⟩] false) (.keep [0, 14, 17] [0]))
def vc94_72 : VC := (.seq (.seq (.post (.ops [⟨some 108, (.mov (.t 17)), none⟩, ⟨some 109, (.mov (.t 14)), none⟩, ⟨some 110, (.bin .gtI (.t 108) (.t 109)), none⟩] false) (.keep [0, 14, 17, 110] [0])) (.cond (.t 110) (.pre (.keep [0, 14, 17] [0]) .skip) (.pre (.keep [] [0]) (.exit 6)))) (.seq (.block 7 (.post (.ops [⟨some 113, (.mov (.t 0)), none⟩, ⟨some 114, (.mov (.t 17)), none⟩, ⟨some 115, (.mov (.t 0)), none⟩, ⟨some 116, (.mov (.t 17)), none⟩, ⟨some 117, (.bin (.sub .i64) (.t 116) (.c (D.i 1))), none⟩, ⟨some 118, (.mov (.t 0)), none⟩, ⟨some 119, (.mov (.t 17)), none⟩, ⟨some 120, (.bin (.sub .i64) (.t 119) (.c (D.i 1))), none⟩, ⟨some 121, (.ixaM (.t 118) (.t 120)), none⟩, ⟨some 122, (.ld (.t 121)), none⟩, ⟨some 123, (.mov (.t 0)), none⟩, ⟨some 124, (.mov (.t 17)), none⟩, ⟨some 125, (.ixaM (.t 123) (.t 124)), none⟩, ⟨some 126, (.ld (.t 125)), none⟩, ⟨some 127, (.ixaM (.t 113) (.t 114)), none⟩, ⟨none, (.st (.t 127) (.t 122)), none⟩, ⟨some 128, (.ixaM (.t 115) (.t 117)), none⟩, ⟨none, (.st (.t 128) (.t 126)), none⟩] true) (.keep [0, 14, 17] [0]))) (.post (.ops [⟨some 111, (.mov (.t 17)), none⟩, ⟨some 112, (.bin (.sub .i64) (.t 111) (.c (D.i 1))), none⟩, ⟨some 17, (.mov (.t 112)), none⟩] false) (.keep [0, 14, 17] [0]))))
def vc94_71 : VC := .loop vc94_72
def vc94_70 : VC := .block 6 vc94_71
def vc94_68 : VC := .seq vc94_69 vc94_70
def vc94_82 : VC := .ret
def vc94_67 : VC := .seq vc94_68 vc94_82
def vc94_50 : VC := .seq vc94_51 vc94_67
def vc94_48 : VC := .seq vc94_49 vc94_50
def vc94_46 : VC := .seq vc94_47 vc94_48
def vc94_83 : VC := .skip
def vc94_45 : VC := .cond (.t 80) (.pre (.keep [0, 1, 2, 4] [0]) vc94_46) (.pre (.keep [0, 1, 2, 3, 4] [0]) vc94_83)
def vc94_43 : VC := .seq vc94_44 vc94_45
def vc94_85 : VC := (.post (.ops [⟨some 129, (.mov (.t 1)), none⟩,
  ⟨some 130, (.mov (.t 3)), none⟩,
  ⟨some 131, (.bin (.add .i64) (.t 129) (.t 130)), none⟩,
  ⟨some 132, (.un (.conv .u64) (.t 131)), none⟩,
  ⟨some 133, (.bin (.shr .u64) (.t 132) (.c (D.i 1))), none⟩,
  ⟨some 134, (.un (.conv .i64) (.t 133)), none⟩,
  ⟨some 18, (.mov (.t 134)), none⟩] false) (.keep [0, 1, 2, 3, 4, 18] [0]))
def vc94_87 : VC := (.post (.ops [⟨some 135, (.mov (.t 18)), none⟩,
  ⟨some 136, (.mov (.t 2)), none⟩,
  ⟨some 137, (.bin (.add .i64) (.t 135) (.t 136)), none⟩,
  ⟨some 19, (.mov (.t 137)), none⟩] false) (.keep [0, 1, 2, 3, 4, 18, 19] [0]))
def vc94_89 : VC := (.post (.ops [⟨some 20, (.mov (.c (D.i 0))), none⟩,
  ⟨some 21, (.mov (.c (D.i 0))), none⟩] false) (.keep [0, 1, 2, 3, 4, 18, 19] [0]))
def vc94_91 : VC := (.seq (.post (.ops [⟨some 138, (.mov (.t 2)), none⟩, ⟨some 139, (.mov (.t 18)), none⟩, ⟨some 140, (.bin .gtI (.t 138) (.t 139)), none⟩] false) (.keep [0, 1, 2, 3, 4, 18, 19, 140] [0])) (.cond (.t 140) (.pre (.keep [0, 1, 2, 3, 4, 18, 19] [0]) (.seq (.post (.ops [⟨some 141, (.mov (.t 19)), none⟩, ⟨some 142, (.mov (.t 3)), none⟩, ⟨some 143, (.bin (.sub .i64) (.t 141) (.t 142)), none⟩, ⟨some 20, (.mov (.t 143)), none⟩] false) (.keep [0, 1, 2, 3, 4, 18, 19, 20] [0])) (.post (.ops [⟨some 144, (.mov (.t 18)), none⟩, ⟨some 21, (.mov (.t 144)), none⟩] false) (.keep [0, 1, 2, 3, 4, 18, 19, 20, 21] [0])))) (.pre (.keep [0, 1, 2, 3, 4, 18, 19] [0]) (.seq (.post (.ops [⟨some 145, (.mov (.t 1)), none⟩, ⟨some 20, (.mov (.t 145)), none⟩] false) (.keep [0, 1, 2, 3, 4, 18, 19, 20] [0])) (.post (.ops [⟨some 146, (.mov (.t 2)), none⟩, ⟨some 21, (.mov (.t 146)), none⟩] false) (.keep [0, 1, 2, 3, 4, 18, 19, 20, 21] [0]))))))
def vc94_101 : VC := (.post (.ops [⟨some 147, (.mov (.t 19)), none⟩,
  ⟨some 148, (.bin (.sub .i64) (.t 147) (.c (D.i 1))), none⟩,
  ⟨some 22, (.mov (.t 148)), none⟩] false) (.keep [0, 1, 2, 3, 4, 18, 19, 20, 21, 22] [0]))
def vc94_105 : VC := (.seq (.seq (.post (.ops [⟨some 149, (.mov (.t 20)), none⟩, ⟨some 150, (.mov (.t 21)), none⟩, ⟨some 151, (.bin .ltI (.t 149) (.t 150)), none⟩] false) (.keep [0, 1, 2, 3, 4, 18, 19, 20, 21, 22, 151] [0])) (.cond (.t 151) (.pre (.keep [0, 1, 2, 3, 4, 18, 19, 20, 21, 22] [0]) .skip) (.pre (.keep [0, 1, 2, 3, 4, 18, 19, 20] [0]) (.exit 8)))) (.block 9 (.seq (.post (.ops [⟨some 152, (.mov (.t 20)), none⟩, ⟨some 153, (.mov (.t 21)), none⟩, ⟨some 154, (.bin (.add .i64) (.t 152) (.t 153)), none⟩, ⟨some 155, (.un (.conv .u64) (.t 154)), none⟩, ⟨some 156, (.bin (.shr .u64) (.t 155) (.c (D.i 1))), none⟩, ⟨some 157, (.un (.conv .i64) (.t 156)), none⟩, ⟨some 23, (.mov (.t 157)), none⟩] false) (.keep [0, 1, 2, 3, 4, 18, 19, 20, 21, 22, 23] [0])) (.seq (.post (.ops [⟨some 158, (.mov (.t 4)), none⟩, ⟨some 159, (.mov (.t 0)), none⟩, ⟨some 160, (.mov (.t 22)), none⟩, ⟨some 161, (.mov (.t 23)), none⟩, ⟨some 162, (.bin (.sub .i64) (.t 160) (.t 161)), none⟩, ⟨some 163, (.ixaM (.t 159) (.t 162)), none⟩, ⟨some 164, (.ld (.t 163)), none⟩, ⟨some 165, (.mov (.t 0)), none⟩, ⟨some 166, (.mov (.t 23)), none⟩, ⟨some 167, (.ixaM (.t 165) (.t 166)), none⟩, ⟨some 168, (.ld (.t 167)), none⟩, ⟨some 169, (.callv (.t 158) [(.t 164), (.t 168)] [Ty.v 3, Ty.v 59, Ty.v 59] []), none⟩, ⟨some 170, (.bin .ltI (.t 169) (.c (D.i 0))), none⟩, ⟨some 171, (.un .not (.t 170)), none⟩] true) (.keep [0, 1, 2, 3, 4, 18, 19, 20, 21, 22, 23, 171] [0])) (.cond (.t 171) (.pre (.keep [0, 1, 2, 3, 4, 18, 19, 21, 22, 23] [0]) (.post (.ops [⟨some 172, (.mov (.t 23)), none⟩, ⟨some 173, (.bin (.add .i64) (.t 172) (.c (D.i 1))), none⟩, ⟨some 20, (.mov (.t 173)), none⟩] false) (.keep [0, 1, 2, 3, 4, 18, 19, 20, 21, 22] [0]))) (.pre (.keep [0, 1, 2, 3, 4, 18, 19, 20, 22, 23] [0]) (.post (.ops [⟨some 174, (.mov (.t 23)), none⟩, ⟨some 21, (.mov (.t 174)), none⟩] false) (.keep [0, 1, 2, 3, 4, 18, 19, 20, 21, 22] [0]))))))))
def vc94_104 : VC := .loop vc94_105
def vc94_103 : VC := .block 8 vc94_104
def vc94_120 : VC := (.post (.ops [⟨some 175, (.mov (.t 19)), none⟩,
  ⟨some 176, (.mov (.t 20)), none⟩,
  ⟨some 177, (.bin (.sub .i64) (.t 175) (.t 176)), none⟩,
  ⟨some 24, (.mov (.t 177)), none⟩] false) (.keep [0, 1, 2, 3, 4, 18, 20, 24] [0]))
def vc94_122 : VC := (.seq (.post (.ops [⟨some 178, (.mov (.t 20)), none⟩, ⟨some 179, (.mov (.t 2)), none⟩, ⟨some 180, (.bin .ltI (.t 178) (.t 179)), none⟩, ⟨some 181, (.mov (.t 180)), none⟩, ⟨some 182, (.mov (.t 2)), some (181, true)⟩, ⟨some 183, (.mov (.t 24)), some (181, true)⟩, ⟨some 184, (.bin .ltI (.t 182) (.t 183)), some (181, true)⟩, ⟨some 185, (.pick (.t 181) (.t 184) (.c (D.b false))), none⟩] false) (.keep [0, 1, 2, 3, 4, 18, 20, 24, 185] [0])) (.cond (.t 185) (.pre (.keep [0, 1, 2, 3, 4, 18, 20, 24] [0]) (.post (.ops [⟨some 186, (.mov (.t 0)), none⟩, ⟨some 187, (.mov (.t 20)), none⟩, ⟨some 188, (.mov (.t 2)), none⟩, ⟨some 189, (.mov (.t 24)), none⟩, ⟨some 190, (.mov (.t 4)), none⟩, ⟨some 191, (.call 104 [(.t 186), (.t 187), (.t 188), (.t 189), (.t 190)] [0]), none⟩] false) (.keep [0, 1, 3, 4, 18, 20, 24] [0]))) (.pre (.keep [0, 1, 3, 4, 18, 20, 24] [0]) .skip)))
def vc94_128 : VC := (.seq (.post (.ops [⟨some 192, (.mov (.t 1)), none⟩, ⟨some 193, (.mov (.t 20)), none⟩, ⟨some 194, (.bin .ltI (.t 192) (.t 193)), none⟩, ⟨some 195, (.mov (.t 194)), none⟩, ⟨some 196, (.mov (.t 20)), some (195, true)⟩, ⟨some 197, (.mov (.t 18)), some (195, true)⟩, ⟨some 198, (.bin .ltI (.t 196) (.t 197)), some (195, true)⟩, ⟨some 199, (.pick (.t 195) (.t 198) (.c (D.b false))), none⟩] false) (.keep [0, 1, 3, 4, 18, 20, 24, 199] [0])) (.cond (.t 199) (.pre (.keep [0, 1, 3, 4, 18, 20, 24] [0]) (.post (.ops [⟨some 200, (.mov (.t 0)), none⟩, ⟨some 201, (.mov (.t 1)), none⟩, ⟨some 202, (.mov (.t 20)), none⟩, ⟨some 203, (.mov (.t 18)), none⟩, ⟨some 204, (.mov (.t 4)), none⟩, ⟨some 205, (.call 94 [(.t 200), (.t 201), (.t 202), (.t 203), (.t 204)] [0]), none⟩] false) (.keep [0, 3, 4, 18, 24] [0]))) (.pre (.keep [0, 3, 4, 18, 24] [0]) .skip)))
def vc94_133 : VC := (.seq (.post (.ops [⟨some 206, (.mov (.t 18)), none⟩, ⟨some 207, (.mov (.t 24)), none⟩, ⟨some 208, (.bin .ltI (.t 206) (.t 207)), none⟩, ⟨some 209, (.mov (.t 208)), none⟩, ⟨some 210, (.mov (.t 24)), some (209, true)⟩, ⟨some 211, (.mov (.t 3)), some (209, true)⟩, ⟨some 212, (.bin .ltI (.t 210) (.t 211)), some (209, true)⟩, ⟨some 213, (.pick (.t 209) (.t 212) (.c (D.b false))), none⟩] false) (.keep [0, 3, 4, 18, 24, 213] [0])) (.cond (.t 213) (.pre (.keep [0, 3, 4, 18, 24] [0]) (.post (.ops [⟨some 214, (.mov (.t 0)), none⟩, ⟨some 215, (.mov (.t 18)), none⟩, ⟨some 216, (.mov (.t 24)), none⟩, ⟨some 217, (.mov (.t 3)), none⟩, ⟨some 218, (.mov (.t 4)), none⟩, ⟨some 219, (.call 94 [(.t 214), (.t 215), (.t 216), (.t 217), (.t 218)] [0]), none⟩] false) (.keep [] [0]))) (.pre (.keep [] [0]) .skip)))
def vc94_127 : VC := .seq vc94_128 vc94_133
def vc94_121 : VC := .seq vc94_122 vc94_127
def vc94_119 : VC := .seq vc94_120 vc94_121
def vc94_102 : VC := .seq vc94_103 vc94_119
def vc94_100 : VC := .seq vc94_101 vc94_102
def vc94_90 : VC := .seq vc94_91 vc94_100
def vc94_88 : VC := .seq vc94_89 vc94_90
def vc94_86 : VC := .seq vc94_87 vc94_88
def vc94_84 : VC := .seq vc94_85 vc94_86
def vc94_42 : VC := .seq vc94_43 vc94_84
def vc94_0 : VC := .seq vc94_1 vc94_42
def vc98_0 : VC := (.seq (.post (.ops [⟨some 0, (.mov (.c (D.f 0))), none⟩] false) (.keep [] [])) (.seq (.post (.ops [⟨some 1, (.un .fofbits (.c (D.i 9221120237041090561))), none⟩, ⟨some 0, (.mov (.t 1)), none⟩] false) (.keep [0] [])) .ret))
def vc102_1 : VC := (.post (.ops [⟨some 10, (.mov (.t 1)), none⟩,
  ⟨some 11, (.bin (.add .i64) (.t 10) (.c (D.i 1))), none⟩,
  ⟨some 8, (.mov (.t 11)), none⟩] false) (.keep [0, 1, 2, 3, 8] [0]))
def vc102_5 : VC := (.seq (.post (.ops [⟨some 12, (.mov (.t 8)), none⟩, ⟨some 13, (.mov (.t 2)), none⟩, ⟨some 14, (.bin .ltI (.t 12) (.t 13)), none⟩] false) (.keep [0, 1, 2, 3, 8, 14] [0])) (.cond (.t 14) (.pre (.keep [0, 1, 2, 3, 8] [0]) .skip) (.pre (.keep [] [0]) (.exit 0))))
def vc102_13 : VC := (.post (.ops [⟨some 17, (.mov (.t 8)), none⟩,
  ⟨some 9, (.mov (.t 17)), none⟩] false) (.keep [0, 1, 2, 3, 8, 9] [0]))
def vc102_16 : VC := (.seq (.seq (.post (.ops [⟨some 18, (.mov (.t 9)), none⟩, ⟨some 19, (.mov (.t 1)), none⟩, ⟨some 20, (.bin .gtI (.t 18) (.t 19)), none⟩, ⟨some 21, (.mov (.t 20)), none⟩, ⟨some 22, (.mov (.t 3)), some (21, true)⟩, ⟨some 23, (.mov (.t 0)), some (21, true)⟩, ⟨some 24, (.mov (.t 9)), some (21, true)⟩, ⟨some 25, (.ixaM (.t 23) (.t 24)), some (21, true)⟩, ⟨some 26, (.ld (.t 25)), some (21, true)⟩, ⟨some 27, (.mov (.t 0)), some (21, true)⟩, ⟨some 28, (.mov (.t 9)), some (21, true)⟩, ⟨some 29, (.bin (.sub .i64) (.t 28) (.c (D.i 1))), some (21, true)⟩, ⟨some 30, (.ixaM (.t 27) (.t 29)), some (21, true)⟩, ⟨some 31, (.ld (.t 30)), some (21, true)⟩, ⟨some 32, (.callv (.t 22) [(.t 26), (.t 31)] [Ty.v 3, Ty.v 23, Ty.v 23] []), some (21, true)⟩, ⟨some 33, (.bin .ltI (.t 32) (.c (D.i 0))), some (21, true)⟩, ⟨some 34, (.pick (.t 21) (.t 33) (.c (D.b false))), none⟩] true) (.keep [0, 1, 2, 3, 8, 9, 34] [0])) (.cond (.t 34) (.pre (.keep [0, 1, 2, 3, 8, 9] [0]) .skip) (.pre (.keep [0, 1, 2, 3, 8] [0]) (.exit 2)))) (.seq (.block 3 (.post (.ops [⟨some 37, (.mov (.t 0)), none⟩, ⟨some 38, (.mov (.t 9)), none⟩, ⟨some 39, (.mov (.t 0)), none⟩, ⟨some 40, (.mov (.t 9)), none⟩, ⟨some 41, (.bin (.sub .i64) (.t 40) (.c (D.i 1))), none⟩, ⟨some 42, (.mov (.t 0)), none⟩, ⟨some 43, (.mov (.t 9)), none⟩, ⟨some 44, (.bin (.sub .i64) (.t 43) (.c (D.i 1))), none⟩, ⟨some 45, (.ixaM (.t 42) (.t 44)), none⟩, ⟨some 46, (.ld (.t 45)), none⟩, ⟨some 47, (.mov (.t 0)), none⟩, ⟨some 48, (.mov (.t 9)), none⟩, ⟨some 49, (.ixaM (.t 47) (.t 48)), none⟩, ⟨some 50, (.ld (.t 49)), none⟩, ⟨some 51, (.ixaM (.t 37) (.t 38)), none⟩, ⟨none, (.st (.t 51) (.t 46)), none⟩, ⟨some 52, (.ixaM (.t 39) (.t 41)), none⟩, ⟨none, (.st (.t 52) (.t 50)), none⟩] true) (.keep [0, 1, 2, 3, 8, 9] [0]))) (.post (.ops [⟨some 35, (.mov (.t 9)), none⟩, ⟨some 36, (.bin (.sub .i64) (.t 35) (.c (D.i 1))), none⟩, ⟨some 9, (.mov (.t 36)), none⟩] false) (.keep [0, 1, 2, 3, 8, 9] [0]))))
def vc102_15 : VC := .loop vc102_16
def vc102_14 : VC := .block 2 vc102_15
def vc102_12 : VC := .seq vc102_13 vc102_14
def vc102_11 : VC := .block 1 vc102_12
def vc102_26 : VC := (.post (.ops [⟨some 15, (.mov (.t 8)), none⟩,
  ⟨some 16, (.bin (.add .i64) (.t 15) (.c (D.i 1))), none⟩,
  ⟨some 8, (.mov (.t 16)), none⟩] false) (.keep [0, 1, 2, 3, 8] [0]))
def vc102_10 : VC := .seq vc102_11 vc102_26
def vc102_4 : VC := .seq vc102_5 vc102_10
def vc102_3 : VC := .loop vc102_4
def vc102_2 : VC := .block 0 vc102_3
def vc102_0 : VC := .seq vc102_1 vc102_2
def vc103_2 : VC := (.post (.ops [⟨some 25, (.mov (.t 2)), none⟩,
  ⟨some 26, (.mov (.t 1)), none⟩,
  ⟨some 27, (.bin (.sub .i64) (.t 25) (.t 26)), none⟩,
  ⟨some 28, (.bin .eqI (.t 27) (.c (D.i 1))), none⟩] false) (.keep [0, 1, 2, 3, 4, 28] [0]))
def vc103_5 : VC := (.post (.ops [⟨some 29, (.mov (.t 2)), none⟩,
  ⟨some 10, (.mov (.t 29)), none⟩] false) (.keep [0, 1, 3, 4, 10] [0]))
def vc103_7 : VC := (.post (.ops [⟨some 30, (.mov (.t 3)), none⟩,
  ⟨some 11, (.mov (.t 30)), none⟩] false) (.keep [0, 1, 4, 10, 11] [0]))
def vc103_11 : VC := (.seq (.seq (.post (.ops [⟨some 31, (.mov (.t 10)), none⟩, ⟨some 32, (.mov (.t 11)), none⟩, ⟨some 33, (.bin .ltI (.t 31) (.t 32)), none⟩] false) (.keep [0, 1, 4, 10, 11, 33] [0])) (.cond (.t 33) (.pre (.keep [0, 1, 4, 10, 11] [0]) .skip) (.pre (.keep [0, 1, 10] [0]) (.exit 0)))) (.block 1 (.seq (.post (.ops [⟨some 34, (.mov (.t 10)), none⟩, ⟨some 35, (.mov (.t 11)), none⟩, ⟨some 36, (.bin (.add .i64) (.t 34) (.t 35)), none⟩, ⟨some 37, (.un (.conv .u64) (.t 36)), none⟩, ⟨some 38, (.bin (.shr .u64) (.t 37) (.c (D.i 1))), none⟩, ⟨some 39, (.un (.conv .i64) (.t 38)), none⟩, ⟨some 12, (.mov (.t 39)), none⟩] false) (.keep [0, 1, 4, 10, 11, 12] [0])) (.seq (.post (.ops [⟨some 40, (.mov (.t 4)), none⟩, ⟨some 41, (.mov (.t 0)), none⟩, ⟨some 42, (.mov (.t 12)), none⟩, ⟨some 43, (.ixaM (.t 41) (.t 42)), none⟩, ⟨some 44, (.ld (.t 43)), none⟩, ⟨some 45, (.mov (.t 0)), none⟩, ⟨some 46, (.mov (.t 1)), none⟩, ⟨some 47, (.ixaM (.t 45) (.t 46)), none⟩, ⟨some 48, (.ld (.t 47)), none⟩, ⟨some 49, (.callv (.t 40) [(.t 44), (.t 48)] [Ty.v 3, Ty.v 23, Ty.v 23] []), none⟩, ⟨some 50, (.bin .ltI (.t 49) (.c (D.i 0))), none⟩] true) (.keep [0, 1, 4, 10, 11, 12, 50] [0])) (.cond (.t 50) (.pre (.keep [0, 1, 4, 11, 12] [0]) (.post (.ops [⟨some 51, (.mov (.t 12)), none⟩, ⟨some 52, (.bin (.add .i64) (.t 51) (.c (D.i 1))), none⟩, ⟨some 10, (.mov (.t 52)), none⟩] false) (.keep [0, 1, 4, 10, 11] [0]))) (.pre (.keep [0, 1, 4, 10, 12] [0]) (.post (.ops [⟨some 53, (.mov (.t 12)), none⟩, ⟨some 11, (.mov (.t 53)), none⟩] false) (.keep [0, 1, 4, 10, 11] [0]))))))))
def vc103_10 : VC := .loop vc103_11
def vc103_9 : VC := .block 0 vc103_10
def vc103_27 : VC := (.post (.ops [⟨some 54, (.mov (.t 1)), none⟩,
  ⟨some 13, (.mov (.t 54)), none⟩] false) (.keep [0, 10, 13] [0]))
def vc103_30 : VC := (.seq (.seq (.post (.ops [⟨some 55, (.mov (.t 13)), none⟩, ⟨some 56, (.mov (.t 10)), none⟩, ⟨some 57, (.bin (.sub .i64) (.t 56) (.c (D.i 1))), none⟩, ⟨some 58, (.bin .ltI (.t 55) (.t 57)), none⟩] false) (.keep [0, 10, 13, 58] [0])) (.cond (.t 58) (.pre (.keep [0, 10, 13] [0]) .skip) (.pre (.keep [] [0]) (.exit 2)))) (.seq (.block 3 (.post (.ops [⟨some 61, (.mov (.t 0)), none⟩, ⟨some 62, (.mov (.t 13)), none⟩, ⟨some 63, (.mov (.t 0)), none⟩, ⟨some 64, (.mov (.t 13)), none⟩, ⟨some 65, (.bin (.add .i64) (.t 64) (.c (D.i 1))), none⟩, ⟨some 66, (.mov (.t 0)), none⟩, ⟨some 67, (.mov (.t 13)), none⟩, ⟨some 68, (.bin (.add .i64) (.t 67) (.c (D.i 1))), none⟩, ⟨some 69, (.ixaM (.t 66) (.t 68)), none⟩, ⟨some 70, (.ld (.t 69)), none⟩, ⟨some 71, (.mov (.t 0)), none⟩, ⟨some 72, (.mov (.t 13)), none⟩, ⟨some 73, (.ixaM (.t 71) (.t 72)), none⟩, ⟨some 74, (.ld (.t 73)), none⟩, ⟨some 75, (.ixaM (.t 61) (.t 62)), none⟩, ⟨none, (.st (.t 75) (.t 70)), none⟩, ⟨some 76, (.ixaM (.t 63) (.t 65)), none⟩, ⟨none, (.st (.t 76) (.t 74)), none⟩] true) (.keep [0, 10, 13] [0]))) (.post (.ops [⟨some 59, (.mov (.t 13)), none⟩, ⟨some 60, (.bin (.add .i64) (.t 59) (.c (D.i 1))), none⟩, ⟨some 13, (.mov (.t 60)), none⟩] false) (.keep [0, 10, 13] [0]))))
def vc103_29 : VC := .loop vc103_30
def vc103_28 : VC := .block 2 vc103_29
def vc103_26 : VC := .seq vc103_27 vc103_28
def vc103_40 : VC := .ret
def vc103_25 : VC := .seq vc103_26 vc103_40
def vc103_8 : VC := .seq vc103_9 vc103_25
def vc103_6 : VC := .seq vc103_7 vc103_8
def vc103_4 : VC := .seq vc103_5 vc103_6
def vc103_41 : VC := .skip
def vc103_3 : VC := .cond (.t 28) (.pre (.keep [0, 1, 2, 3, 4] [0]) vc103_4) (.pre (.keep [0, 1, 2, 3, 4] [0]) vc103_41)
def vc103_1 : VC := .seq vc103_2 vc103_3
def vc103_44 : VC := (.post (.ops [⟨some 77, (.mov (.t 3)), none⟩,
  ⟨some 78, (.mov (.t 2)), none⟩,
  ⟨some 79, (.bin (.sub .i64) (.t 77) (.t 78)), none⟩,
  ⟨some 80, (.bin .eqI (.t 79) (.c (D.i 1))), none⟩] false) (.keep [0, 1, 2, 3, 4, 80] [0]))
def vc103_47 : VC := (.post (.ops [⟨some 81, (.mov (.t 1)), none⟩,
  ⟨some 14, (.mov (.t 81)), none⟩] false) (.keep [0, 2, 4, 14] [0]))
def vc103_49 : VC := (.post (.ops [⟨some 82, (.mov (.t 2)), none⟩,
  ⟨some 15, (.mov (.t 82)), none⟩] false) (.keep [0, 2, 4, 14, 15] [0]))
def vc103_53 : VC := (.seq (.seq (.post (.ops [⟨some 83, (.mov (.t 14)), none⟩, ⟨some 84, (.mov (.t 15)), none⟩, ⟨some 85, (.bin .ltI (.t 83) (.t 84)), none⟩] false) (.keep [0, 2, 4, 14, 15, 85] [0])) (.cond (.t 85) (.pre (.keep [0, 2, 4, 14, 15] [0]) .skip) (.pre (.keep [0, 2, 14] [0]) (.exit 4)))) (.block 5 (.seq (.post (.ops [⟨some 86, (.mov (.t 14)), none⟩, ⟨some 87, (.mov (.t 15)), none⟩, ⟨some 88, (.bin (.add .i64) (.t 86) (.t 87)), none⟩, ⟨some 89, (.un (.conv .u64) (.t 88)), none⟩, ⟨some 90, (.bin (.shr .u64) (.t 89) (.c (D.i 1))), none⟩, ⟨some 91, (.un (.conv .i64) (.t 90)), none⟩, ⟨some 16, (.mov (.t 91)), none⟩] false) (.keep [0, 2, 4, 14, 15, 16] [0])) (.seq (.post (.ops [⟨some 92, (.mov (.t 4)), none⟩, ⟨some 93, (.mov (.t 0)), none⟩, ⟨some 94, (.mov (.t 2)), none⟩, ⟨some 95, (.ixaM (.t 93) (.t 94)), none⟩, ⟨some 96, (.ld (.t 95)), none⟩, ⟨some 97, (.mov (.t 0)), none⟩, ⟨some 98, (.mov (.t 16)), none⟩, ⟨some 99, (.ixaM (.t 97) (.t 98)), none⟩, ⟨some 100, (.ld (.t 99)), none⟩, ⟨some 101, (.callv (.t 92) [(.t 96), (.t 100)] [Ty.v 3, Ty.v 23, Ty.v 23] []), none⟩, ⟨some 102, (.bin .ltI (.t 101) (.c (D.i 0))), none⟩, ⟨some 103, (.un .not (.t 102)), none⟩] true) (.keep [0, 2, 4, 14, 15, 16, 103] [0])) (.cond (.t 103) (.pre (.keep [0, 2, 4, 15, 16] [0]) (.post (.ops [⟨some 104, (.mov (.t 16)), none⟩, ⟨some 105, (.bin (.add .i64) (.t 104) (.c (D.i 1))), none⟩, ⟨some 14, (.mov (.t 105)), none⟩] false) (.keep [0, 2, 4, 14, 15] [0]))) (.pre (.keep [0, 2, 4, 14, 16] [0]) (.post (.ops [⟨some 106, (.mov (.t 16)), none⟩, ⟨some 15, (.mov (.t 106)), none⟩] false) (.keep [0, 2, 4, 14, 15] [0]))))))))
def vc103_52 : VC := .loop vc103_53
def vc103_51 : VC := .block 4 vc103_52
def vc103_69 : VC := (.post (.ops [⟨some 107, (.mov (.t 2)), none⟩,
  ⟨some 17, (.mov (.t 107)), none⟩] false) (.keep [0, 14, 17] [0]))
def vc103_72 : VC := (.seq (.seq (.post (.ops [⟨some 108, (.mov (.t 17)), none⟩, ⟨some 109, (.mov (.t 14)), none⟩, ⟨some 110, (.bin .gtI (.t 108) (.t 109)), none⟩] false) (.keep [0, 14, 17, 110] [0])) (.cond (.t 110) (.pre (.keep [0, 14, 17] [0]) .skip) (.pre (.keep [] [0]) (.exit 6)))) (.seq (.block 7 (.post (.ops [⟨some 113, (.mov (.t 0)), none⟩, ⟨some 114, (.mov (.t 17)), none⟩, ⟨some 115, (.mov (.t 0)), none⟩, ⟨some 116, (.mov (.t 17)), none⟩, ⟨some 117, (.bin (.sub .i64) (.t 116) (.c (D.i 1))), none⟩, ⟨some 118, (.mov (.t 0)), none⟩, ⟨some 119, (.mov (.t 17)), none⟩, ⟨some 120, (.bin (.sub .i64) (.t 119) (.c (D.i 1))), none⟩, ⟨some 121, (.ixaM (.t 118) (.t 120)), none⟩, ⟨some 122, (.ld (.t 121)), none⟩, ⟨some 123, (.mov (.t 0)), none⟩, ⟨some 124, (.mov (.t 17)), none⟩, ⟨some 125, (.ixaM (.t 123) (.t 124)), none⟩, ⟨some 126, (.ld (.t 125)), none⟩, ⟨some 127, (.ixaM (.t 113) (.t 114)), none⟩, ⟨none, (.st (.t 127) (.t 122)), none⟩, ⟨some 128, (.ixaM (.t 115) (.t 117)), none⟩, ⟨none, (.st (.t 128) (.t 126)), none⟩] true) (.keep [0, 14, 17] [0]))) (.post (.ops [⟨some 111, (.mov (.t 17)), none⟩, ⟨some 112, (.bin (.sub .i64) (.t 111) (.c (D.i 1))), none⟩, ⟨some 17, (.mov (.t 112)), none⟩] false) (.keep [0, 14, 17] [0]))))
def vc103_71 : VC := .loop vc103_72
def vc103_70 : VC := .block 6 vc103_71
def vc103_68 : VC := .seq vc103_69 vc103_70
def vc103_82 : VC := .ret
def vc103_67 : VC := .seq vc103_68 vc103_82
def vc103_50 : VC := .seq vc103_51 vc103_67
def vc103_48 : VC := .seq vc103_49 vc103_50
def vc103_46 : VC := .seq vc103_47 vc103_48
def vc103_83 : VC := .skip
def vc103_45 : VC := .cond (.t 80) (.pre (.keep [0, 1, 2, 4] [0]) vc103_46) (.pre (.keep [0, 1, 2, 3, 4] [0]) vc103_83)
def vc103_43 : VC := .seq vc103_44 vc103_45
def vc103_85 : VC := (.post (.ops [⟨some 129, (.mov (.t 1)), none⟩,
  ⟨some 130, (.mov (.t 3)), none⟩,
  ⟨some 131, (.bin (.add .i64) (.t 129) (.t 130)), none⟩,
  ⟨some 132, (.un (.conv .u64) (.t 131)), none⟩,
  ⟨some 133, (.bin (.shr .u64) (.t 132) (.c (D.i 1))), none⟩,
  ⟨some 134, (.un (.conv .i64) (.t 133)), none⟩,
  ⟨some 18, (.mov (.t 134)), none⟩] false) (.keep [0, 1, 2, 3, 4, 18] [0]))
def vc103_87 : VC := (.post (.ops [⟨some 135, (.mov (.t 18)), none⟩,
  ⟨some 136, (.mov (.t 2)), none⟩,
  ⟨some 137, (.bin (.add .i64) (.t 135) (.t 136)), none⟩,
  ⟨some 19, (.mov (.t 137)), none⟩] false) (.keep [0, 1, 2, 3, 4, 18, 19] [0]))
def vc103_89 : VC := (.post (.ops [⟨some 20, (.mov (.c (D.i 0))), none⟩,
  ⟨some 21, (.mov (.c (D.i 0))), none⟩] false) (.keep [0, 1, 2, 3, 4, 18, 19] [0]))
def vc103_91 : VC := (.seq (.post (.ops [⟨some 138, (.mov (.t 2)), none⟩, ⟨some 139, (.mov (.t 18)), none⟩, ⟨some 140, (.bin .gtI (.t 138) (.t 139)), none⟩] false) (.keep [0, 1, 2, 3, 4, 18, 19, 140] [0])) (.cond (.t 140) (.pre (.keep [0, 1, 2, 3, 4, 18, 19] [0]) (.seq (.post (.ops [⟨some 141, (.mov (.t 19)), none⟩, ⟨some 142, (.mov (.t 3)), none⟩, ⟨some 143, (.bin (.sub .i64) (.t 141) (.t 142)), none⟩, ⟨some 20, (.mov (.t 143)), none⟩] false) (.keep [0, 1, 2, 3, 4, 18, 19, 20] [0])) (.post (.ops [⟨some 144, (.mov (.t 18)), none⟩, ⟨some 21, (.mov (.t 144)), none⟩] false) (.keep [0, 1, 2, 3, 4, 18, 19, 20, 21] [0])))) (.pre (.keep [0, 1, 2, 3, 4, 18, 19] [0]) (.seq (.post (.ops [⟨some 145, (.mov (.t 1)), none⟩, ⟨some 20, (.mov (.t 145)), none⟩] false) (.keep [0, 1, 2, 3, 4, 18, 19, 20] [0])) (.post (.ops [⟨some 146, (.mov (.t 2)), none⟩, ⟨some 21, (.mov (.t 146)), none⟩] false) (.keep [0, 1, 2, 3, 4, 18, 19, 20, 21] [0]))))))
def vc103_101 : VC := (.post (.ops [⟨some 147, (.mov (.t 19)), none⟩,
  ⟨some 148, (.bin (.sub .i64) (.t 147) (.c (D.i 1))), none⟩,
  ⟨some 22, (.mov (.t 148)), none⟩] false) (.keep [0, 1, 2, 3, 4, 18, 19, 20, 21, 22] [0]))
def vc103_105 : VC := (.seq (.seq (.post (.ops [⟨some 149, (.mov (.t 20)), none⟩, ⟨some 150, (.mov (.t 21)), none⟩, ⟨some 151, (.bin .ltI (.t 149) (.t 150)), none⟩] false) (.keep [0, 1, 2, 3, 4, 18, 19, 20, 21, 22, 151] [0])) (.cond (.t 151) (.pre (.keep [0, 1, 2, 3, 4, 18, 19, 20, 21, 22] [0]) .skip) (.pre (.keep [0, 1, 2, 3, 4, 18, 19, 20] [0]) (.exit 8)))) (.block 9 (.seq (.post (.ops [⟨some 152, (.mov (.t 20)), none⟩, ⟨some 153, (.mov (.t 21)), none⟩, ⟨some 154, (.bin (.add .i64) (.t 152) (.t 153)), none⟩, ⟨some 155, (.un (.conv .u64) (.t 154)), none⟩, ⟨some 156, (.bin (.shr .u64) (.t 155) (.c (D.i 1))), none⟩, ⟨some 157, (.un (.conv .i64) (.t 156)), none⟩, ⟨some 23, (.mov (.t 157)), none⟩] false) (.keep [0, 1, 2, 3, 4, 18, 19, 20, 21, 22, 23] [0])) (.seq (.post (.ops [⟨some 158, (.mov (.t 4)), none⟩, ⟨some 159, (.mov (.t 0)), none⟩, ⟨some 160, (.mov (.t 22)), none⟩, ⟨some 161, (.mov (.t 23)), none⟩, ⟨some 162, (.bin (.sub .i64) (.t 160) (.t 161)), none⟩, ⟨some 163, (.ixaM (.t 159) (.t 162)), none⟩, ⟨some 164, (.ld (.t 163)), none⟩, ⟨some 165, (.mov (.t 0)), none⟩, ⟨some 166, (.mov (.t 23)), none⟩, ⟨some 167, (.ixaM (.t 165) (.t 166)), none⟩, ⟨some 168, (.ld (.t 167)), none⟩, ⟨some 169, (.callv (.t 158) [(.t 164), (.t 168)] [Ty.v 3, Ty.v 23, Ty.v 23] []), none⟩, ⟨some 170, (.bin .ltI (.t 169) (.c (D.i 0))), none⟩, ⟨some 171, (.un .not (.t 170)), none⟩] true) (.keep [0, 1, 2, 3, 4, 18, 19, 20, 21, 22, 23, 171] [0])) (.cond (.t 171) (.pre (.keep [0, 1, 2, 3, 4, 18, 19, 21, 22, 23] [0]) (.post (.ops [⟨some 172, (.mov (.t 23)), none⟩, ⟨some 173, (.bin (.add .i64) (.t 172) (.c (D.i 1))), none⟩, ⟨some 20, (.mov (.t 173)), none⟩] false) (.keep [0, 1, 2, 3, 4, 18, 19, 20, 21, 22] [0]))) (.pre (.keep [0, 1, 2, 3, 4, 18, 19, 20, 22, 23] [0]) (.post (.ops [⟨some 174, (.mov (.t 23)), none⟩, ⟨some 21, (.mov (.t 174)), none⟩] false) (.keep [0, 1, 2, 3, 4, 18, 19, 20, 21, 22] [0]))))))))
def vc103_104 : VC := .loop vc103_105
def vc103_103 : VC := .block 8 vc103_104
def vc103_120 : VC := (.post (.ops [⟨some 175, (.mov (.t 19)), none⟩,
  ⟨some 176, (.mov (.t 20)), none⟩,
  ⟨some 177, (.bin (.sub .i64) (.t 175) (.t 176)), none⟩,
  ⟨some 24, (.mov (.t 177)), none⟩] false) (.keep [0, 1, 2, 3, 4, 18, 20, 24] [0]))
def vc103_122 : VC := (.seq (.post (.ops [⟨some 178, (.mov (.t 20)), none⟩, ⟨some 179, (.mov (.t 2)), none⟩, ⟨some 180, (.bin .ltI (.t 178) (.t 179)), none⟩, ⟨some 181, (.mov (.t 180)), none⟩, ⟨some 182, (.mov (.t 2)), some (181, true)⟩, ⟨some 183, (.mov (.t 24)), some (181, true)⟩, ⟨some 184, (.bin .ltI (.t 182) (.t 183)), some (181, true)⟩, ⟨some 185, (.pick (.t 181) (.t 184) (.c (D.b false))), none⟩] false) (.keep [0, 1, 2, 3, 4, 18, 20, 24, 185] [0])) (.cond (.t 185) (.pre (.keep [0, 1, 2, 3, 4, 18, 20, 24] [0]) (.post (.ops [⟨some 186, (.mov (.t 0)), none⟩, ⟨some 187, (.mov (.t 20)), none⟩, ⟨some 188, (.mov (.t 2)), none⟩, ⟨some 189, (.mov (.t 24)), none⟩, ⟨some 190, (.mov (.t 4)), none⟩, ⟨some 191, (.call 106 [(.t 186), (.t 187), (.t 188), (.t 189), (.t 190)] [0]), none⟩] false) (.keep [0, 1, 3, 4, 18, 20, 24] [0]))) (.pre (.keep [0, 1, 3, 4, 18, 20, 24] [0]) .skip)))
def vc103_128 : VC := (.seq (.post (.ops [⟨some 192, (.mov (.t 1)), none⟩, ⟨some 193, (.mov (.t 20)), none⟩, ⟨some 194, (.bin .ltI (.t 192) (.t 193)), none⟩, ⟨some 195, (.mov (.t 194)), none⟩, ⟨some 196, (.mov (.t 20)), some (195, true)⟩, ⟨some 197, (.mov (.t 18)), some (195, true)⟩, ⟨some 198, (.bin .ltI (.t 196) (.t 197)), some (195, true)⟩, ⟨some 199, (.pick (.t 195) (.t 198) (.c (D.b false))), none⟩] false) (.keep [0, 1, 3, 4, 18, 20, 24, 199] [0])) (.cond (.t 199) (.pre (.keep [0, 1, 3, 4, 18, 20, 24] [0]) (.post (.ops [⟨some 200, (.mov (.t 0)), none⟩, ⟨some 201, (.mov (.t 1)), none⟩, ⟨some 202, (.mov (.t 20)), none⟩, ⟨some 203, (.mov (.t 18)), none⟩, ⟨some 204, (.mov (.t 4)), none⟩, ⟨some 205, (.call 103 [(.t 200), (.t 201), (.t 202), (.t 203), (.t 204)] [0]), none⟩] false) (.keep [0, 3, 4, 18, 24] [0]))) (.pre (.keep [0, 3, 4, 18, 24] [0]) .skip)))
def vc103_133 : VC := (.seq (.post (.ops [⟨some 206, (.mov (.t 18)), none⟩, ⟨some 207, (.mov (.t 24)), none⟩, ⟨some 208, (.bin .ltI (.t 206) (.t 207)), none⟩, ⟨some 209, (.mov (.t 208)), none⟩, ⟨some 210, (.mov (.t 24)), some (209, true)⟩, ⟨some 211, (.mov (.t 3)), some (209, true)⟩, ⟨some 212, (.bin .ltI (.t 210) (.t 211)), some (209, true)⟩, ⟨some 213, (.pick (.t 209) (.t 212) (.c (D.b false))), none⟩] false) (.keep [0, 3, 4, 18, 24, 213] [0])) (.cond (.t 213) (.pre (.keep [0, 3, 4, 18, 24] [0]) (.post (.ops [⟨some 214, (.mov (.t 0)), none⟩, ⟨some 215, (.mov (.t 18)), none⟩, ⟨some 216, (.mov (.t 24)), none⟩, ⟨some 217, (.mov (.t 3)), none⟩, ⟨some 218, (.mov (.t 4)), none⟩, ⟨some 219, (.call 103 [(.t 214), (.t 215), (.t 216), (.t 217), (.t 218)] [0]), none⟩] false) (.keep [] [0]))) (.pre (.keep [] [0]) .skip)))
def vc103_127 : VC := .seq vc103_128 vc103_133
def vc103_121 : VC := .seq vc103_122 vc103_127
def vc103_119 : VC := .seq vc103_120 vc103_121
def vc103_102 : VC := .seq vc103_103 vc103_119
def vc103_100 : VC := .seq vc103_101 vc103_102
def vc103_90 : VC := .seq vc103_91 vc103_100
def vc103_88 : VC := .seq vc103_89 vc103_90
def vc103_86 : VC := .seq vc103_87 vc103_88
def vc103_84 : VC := .seq vc103_85 vc103_86
def vc103_42 : VC := .seq vc103_43 vc103_84
def vc103_0 : VC := .seq vc103_1 vc103_42
def vc104_1 : VC := (.post (.ops [⟨some 12, (.mov (.t 2)), none⟩,
  ⟨some 13, (.mov (.t 1)), none⟩,
  ⟨some 14, (.bin (.sub .i64) (.t 12) (.t 13)), none⟩,
  ⟨some 10, (.mov (.t 14)), none⟩] false) (.keep [0, 2, 3, 4, 10] [0]))
def vc104_3 : VC := (.post (.ops [⟨some 15, (.mov (.t 3)), none⟩,
  ⟨some 16, (.mov (.t 2)), none⟩,
  ⟨some 17, (.bin (.sub .i64) (.t 15) (.t 16)), none⟩,
  ⟨some 11, (.mov (.t 17)), none⟩] false) (.keep [0, 2, 4, 10, 11] [0]))
def vc104_7 : VC := (.seq (.seq (.post (.ops [⟨some 18, (.mov (.t 10)), none⟩, ⟨some 19, (.mov (.t 11)), none⟩, ⟨some 20, (.bin .neI (.t 18) (.t 19)), none⟩] false) (.keep [0, 2, 4, 10, 11, 20] [0])) (.cond (.t 20) (.pre (.keep [0, 2, 4, 10, 11] [0]) .skip) (.pre (.keep [0, 2, 4, 10] [0]) (.exit 0)))) (.block 1 (.seq (.post (.ops [⟨some 21, (.mov (.t 10)), none⟩, ⟨some 22, (.mov (.t 11)), none⟩, ⟨some 23, (.bin .gtI (.t 21) (.t 22)), none⟩] false) (.keep [0, 2, 4, 10, 11, 23] [0])) (.cond (.t 23) (.pre (.keep [0, 2, 4, 10, 11] [0]) (.seq (.post (.ops [⟨some 24, (.mov (.t 0)), none⟩, ⟨some 25, (.mov (.t 2)), none⟩, ⟨some 26, (.mov (.t 10)), none⟩, ⟨some 27, (.bin (.sub .i64) (.t 25) (.t 26)), none⟩, ⟨some 28, (.mov (.t 2)), none⟩, ⟨some 29, (.mov (.t 11)), none⟩, ⟨some 30, (.mov (.t 4)), none⟩, ⟨some 31, (.call 107 [(.t 24), (.t 27), (.t 28), (.t 29), (.t 30)] [0]), none⟩] false) (.keep [0, 2, 4, 10, 11] [0])) (.post (.ops [⟨some 32, (.mov (.t 10)), none⟩, ⟨some 33, (.mov (.t 11)), none⟩, ⟨some 34, (.bin (.sub .i64) (.t 32) (.t 33)), none⟩, ⟨some 10, (.mov (.t 34)), none⟩] false) (.keep [0, 2, 4, 10, 11] [0])))) (.pre (.keep [0, 2, 4, 10, 11] [0]) (.seq (.post (.ops [⟨some 35, (.mov (.t 0)), none⟩, ⟨some 36, (.mov (.t 2)), none⟩, ⟨some 37, (.mov (.t 10)), none⟩, ⟨some 38, (.bin (.sub .i64) (.t 36) (.t 37)), none⟩, ⟨some 39, (.mov (.t 2)), none⟩, ⟨some 40, (.mov (.t 11)), none⟩, ⟨some 41, (.bin (.add .i64) (.t 39) (.t 40)), none⟩, ⟨some 42, (.mov (.t 10)), none⟩, ⟨some 43, (.bin (.sub .i64) (.t 41) (.t 42)), none⟩, ⟨some 44, (.mov (.t 10)), none⟩, ⟨some 45, (.mov (.t 4)), none⟩, ⟨some 46, (.call 107 [(.t 35), (.t 38), (.t 43), (.t 44), (.t 45)] [0]), none⟩] false) (.keep [0, 2, 4, 10, 11] [0])) (.post (.ops [⟨some 47, (.mov (.t 11)), none⟩, ⟨some 48, (.mov (.t 10)), none⟩, ⟨some 49, (.bin (.sub .i64) (.t 47) (.t 48)), none⟩, ⟨some 11, (.mov (.t 49)), none⟩] false) (.keep [0, 2, 4, 10, 11] [0]))))))))
def vc104_6 : VC := .loop vc104_7
def vc104_5 : VC := .block 0 vc104_6
def vc104_23 : VC := (.post (.ops [⟨some 50, (.mov (.t 0)), none⟩,
  ⟨some 51, (.mov (.t 2)), none⟩,
  ⟨some 52, (.mov (.t 10)), none⟩,
  ⟨some 53, (.bin (.sub .i64) (.t 51) (.t 52)), none⟩,
  ⟨some 54, (.mov (.t 2)), none⟩,
  ⟨some 55, (.mov (.t 10)), none⟩,
  ⟨some 56, (.mov (.t 4)), none⟩,
  ⟨some 57, (.call 107 [(.t 50), (.t 53), (.t 54), (.t 55), (.t 56)] [0]), none⟩] false) (.keep [] [0]))
def vc104_4 : VC := .seq vc104_5 vc104_23
def vc104_2 : VC := .seq vc104_3 vc104_4
def vc104_0 : VC := .seq vc104_1 vc104_2
def vc106_1 : VC := (.post (.ops [⟨some 12, (.mov (.t 2)), none⟩,
  ⟨some 13, (.mov (.t 1)), none⟩,
  ⟨some 14, (.bin (.sub .i64) (.t 12) (.t 13)), none⟩,
  ⟨some 10, (.mov (.t 14)), none⟩] false) (.keep [0, 2, 3, 4, 10] [0]))
def vc106_3 : VC := (.post (.ops [⟨some 15, (.mov (.t 3)), none⟩,
  ⟨some 16, (.mov (.t 2)), none⟩,
  ⟨some 17, (.bin (.sub .i64) (.t 15) (.t 16)), none⟩,
  ⟨some 11, (.mov (.t 17)), none⟩] false) (.keep [0, 2, 4, 10, 11] [0]))
def vc106_7 : VC := (.seq (.seq (.post (.ops [⟨some 18, (.mov (.t 10)), none⟩, ⟨some 19, (.mov (.t 11)), none⟩, ⟨some 20, (.bin .neI (.t 18) (.t 19)), none⟩] false) (.keep [0, 2, 4, 10, 11, 20] [0])) (.cond (.t 20) (.pre (.keep [0, 2, 4, 10, 11] [0]) .skip) (.pre (.keep [0, 2, 4, 10] [0]) (.exit 0)))) (.block 1 (.seq (.post (.ops [⟨some 21, (.mov (.t 10)), none⟩, ⟨some 22, (.mov (.t 11)), none⟩, ⟨some 23, (.bin .gtI (.t 21) (.t 22)), none⟩] false) (.keep [0, 2, 4, 10, 11, 23] [0])) (.cond (.t 23) (.pre (.keep [0, 2, 4, 10, 11] [0]) (.seq (.post (.ops [⟨some 24, (.mov (.t 0)), none⟩, ⟨some 25, (.mov (.t 2)), none⟩, ⟨some 26, (.mov (.t 10)), none⟩, ⟨some 27, (.bin (.sub .i64) (.t 25) (.t 26)), none⟩, ⟨some 28, (.mov (.t 2)), none⟩, ⟨some 29, (.mov (.t 11)), none⟩, ⟨some 30, (.mov (.t 4)), none⟩, ⟨some 31, (.call 108 [(.t 24), (.t 27), (.t 28), (.t 29), (.t 30)] [0]), none⟩] false) (.keep [0, 2, 4, 10, 11] [0])) (.post (.ops [⟨some 32, (.mov (.t 10)), none⟩, ⟨some 33, (.mov (.t 11)), none⟩, ⟨some 34, (.bin (.sub .i64) (.t 32) (.t 33)), none⟩, ⟨some 10, (.mov (.t 34)), none⟩] false) (.keep [0, 2, 4, 10, 11] [0])))) (.pre (.keep [0, 2, 4, 10, 11] [0]) (.seq (.post (.ops [⟨some 35, (.mov (.t 0)), none⟩, ⟨some 36, (.mov (.t 2)), none⟩, ⟨some 37, (.mov (.t 10)), none⟩, ⟨some 38, (.bin (.sub .i64) (.t 36) (.t 37)), none⟩, ⟨some 39, (.mov (.t 2)), none⟩, ⟨some 40, (.mov (.t 11)), none⟩, ⟨some 41, (.bin (.add .i64) (.t 39) (.t 40)), none⟩, ⟨some 42, (.mov (.t 10)), none⟩, ⟨some 43, (.bin (.sub .i64) (.t 41) (.t 42)), none⟩, ⟨some 44, (.mov (.t 10)), none⟩, ⟨some 45, (.mov (.t 4)), none⟩, ⟨some 46, (.call 108 [(.t 35), (.t 38), (.t 43), (.t 44), (.t 45)] [0]), none⟩] false) (.keep [0, 2, 4, 10, 11] [0])) (.post (.ops [⟨some 47, (.mov (.t 11)), none⟩, ⟨some 48, (.mov (.t 10)), none⟩, ⟨some 49, (.bin (.sub .i64) (.t 47) (.t 48)), none⟩, ⟨some 11, (.mov (.t 49)), none⟩] false) (.keep [0, 2, 4, 10, 11] [0]))))))))
def vc106_6 : VC := .loop vc106_7
def vc106_5 : VC := .block 0 vc106_6
def vc106_23 : VC := (.post (.ops [⟨some 50, (.mov (.t 0)), none⟩,
  ⟨some 51, (.mov (.t 2)), none⟩,
  ⟨some 52, (.mov (.t 10)), none⟩,
  ⟨some 53, (.bin (.sub .i64) (.t 51) (.t 52)), none⟩,
  ⟨some 54, (.mov (.t 2)), none⟩,
  ⟨some 55, (.mov (.t 10)), none⟩,
  ⟨some 56, (.mov (.t 4)), none⟩,
  ⟨some 57, (.call 108 [(.t 50), (.t 53), (.t 54), (.t 55), (.t 56)] [0]), none⟩] false) (.keep [] [0]))
def vc106_4 : VC := .seq vc106_5 vc106_23
def vc106_2 : VC := .seq vc106_3 vc106_4
def vc106_0 : VC := .seq vc106_1 vc106_2
def vc107_1 : VC := (.post (.ops [⟨some 10, (.mov (.c (D.i 0))), none⟩] false) (.keep [0, 1, 2, 3, 10] [0]))
def vc107_4 : VC := (.seq (.seq (.post (.ops [⟨some 11, (.mov (.t 10)), none⟩, ⟨some 12, (.mov (.t 3)), none⟩, ⟨some 13, (.bin .ltI (.t 11) (.t 12)), none⟩] false) (.keep [0, 1, 2, 3, 10, 13] [0])) (.cond (.t 13) (.pre (.keep [0, 1, 2, 3, 10] [0]) .skip) (.pre (.keep [] [0]) (.exit 0)))) (.seq (.block 1 (.post (.ops [⟨some 16, (.mov (.t 0)), none⟩, ⟨some 17, (.mov (.t 1)), none⟩, ⟨some 18, (.mov (.t 10)), none⟩, ⟨some 19, (.bin (.add .i64) (.t 17) (.t 18)), none⟩, ⟨some 20, (.mov (.t 0)), none⟩, ⟨some 21, (.mov (.t 2)), none⟩, ⟨some 22, (.mov (.t 10)), none⟩, ⟨some 23, (.bin (.add .i64) (.t 21) (.t 22)), none⟩, ⟨some 24, (.mov (.t 0)), none⟩, ⟨some 25, (.mov (.t 2)), none⟩, ⟨some 26, (.mov (.t 10)), none⟩, ⟨some 27, (.bin (.add .i64) (.t 25) (.t 26)), none⟩, ⟨some 28, (.ixaM (.t 24) (.t 27)), none⟩, ⟨some 29, (.ld (.t 28)), none⟩, ⟨some 30, (.mov (.t 0)), none⟩, ⟨some 31, (.mov (.t 1)), none⟩, ⟨some 32, (.mov (.t 10)), none⟩, ⟨some 33, (.bin (.add .i64) (.t 31) (.t 32)), none⟩, ⟨some 34, (.ixaM (.t 30) (.t 33)), none⟩, ⟨some 35, (.ld (.t 34)), none⟩, ⟨some 36, (.ixaM (.t 16) (.t 19)), none⟩, ⟨none, (.st (.t 36) (.t 29)), none⟩, ⟨some 37, (.ixaM (.t 20) (.t 23)), none⟩, ⟨none, (.st (.t 37) (.t 35)), none⟩] true) (.keep [0, 1, 2, 3, 10] [0]))) (.post (.ops [⟨some 14, (.mov (.t 10)), none⟩, ⟨some 15, (.bin (.add .i64) (.t 14) (.c (D.i 1))), none⟩, ⟨some 10, (.mov (.t 15)), none⟩] false) (.keep [0, 1, 2, 3, 10] [0]))))
def vc107_3 : VC := .loop vc107_4
def vc107_2 : VC := .block 0 vc107_3
def vc107_0 : VC := .seq vc107_1 vc107_2
def vc108_1 : VC := (.post (.ops [⟨some 10, (.mov (.c (D.i 0))), none⟩] false) (.keep [0, 1, 2, 3, 10] [0]))
def vc108_4 : VC := (.seq (.seq (.post (.ops [⟨some 11, (.mov (.t 10)), none⟩, ⟨some 12, (.mov (.t 3)), none⟩, ⟨some 13, (.bin .ltI (.t 11) (.t 12)), none⟩] false) (.keep [0, 1, 2, 3, 10, 13] [0])) (.cond (.t 13) (.pre (.keep [0, 1, 2, 3, 10] [0]) .skip) (.pre (.keep [] [0]) (.exit 0)))) (.seq (.block 1 (.post (.ops [⟨some 16, (.mov (.t 0)), none⟩, ⟨some 17, (.mov (.t 1)), none⟩, ⟨some 18, (.mov (.t 10)), none⟩, ⟨some 19, (.bin (.add .i64) (.t 17) (.t 18)), none⟩, ⟨some 20, (.mov (.t 0)), none⟩, ⟨some 21, (.mov (.t 2)), none⟩, ⟨some 22, (.mov (.t 10)), none⟩, ⟨some 23, (.bin (.add .i64) (.t 21) (.t 22)), none⟩, ⟨some 24, (.mov (.t 0)), none⟩, ⟨some 25, (.mov (.t 2)), none⟩, ⟨some 26, (.mov (.t 10)), none⟩, ⟨some 27, (.bin (.add .i64) (.t 25) (.t 26)), none⟩, ⟨some 28, (.ixaM (.t 24) (.t 27)), none⟩, ⟨some 29, (.ld (.t 28)), none⟩, ⟨some 30, (.mov (.t 0)), none⟩, ⟨some 31, (.mov (.t 1)), none⟩, ⟨some 32, (.mov (.t 10)), none⟩, ⟨some 33, (.bin (.add .i64) (.t 31) (.t 32)), none⟩, ⟨some 34, (.ixaM (.t 30) (.t 33)), none⟩, ⟨some 35, (.ld (.t 34)), none⟩, ⟨some 36, (.ixaM (.t 16) (.t 19)), none⟩, ⟨none, (.st (.t 36) (.t 29)), none⟩, ⟨some 37, (.ixaM (.t 20) (.t 23)), none⟩, ⟨none, (.st (.t 37) (.t 35)), none⟩] true) (.keep [0, 1, 2, 3, 10] [0]))) (.post (.ops [⟨some 14, (.mov (.t 10)), none⟩, ⟨some 15, (.bin (.add .i64) (.t 14) (.c (D.i 1))), none⟩, ⟨some 10, (.mov (.t 15)), none⟩] false) (.keep [0, 1, 2, 3, 10] [0]))))
def vc108_3 : VC := .loop vc108_4
def vc108_2 : VC := .block 0 vc108_3
def vc108_0 : VC := .seq vc108_1 vc108_2
end Go.Vam.C14
