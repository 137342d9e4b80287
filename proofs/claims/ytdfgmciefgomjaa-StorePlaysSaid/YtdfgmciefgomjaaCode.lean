import Derived.Test.YtdfgmciefgomjaaCore16
import Derived.Test.YtdfgmciefgomjaaProg
import Derived.KernelRfl
namespace Pg
open Go
set_option maxRecDepth 10000
/-- pantograph/pantographlaw19.StoreApart -/
def F3.r0 : List ROper :=
  ⟨some 6, .rd (.mv (.c (.bool false))), none⟩ ::
  []
def F3.r1 : List ROper :=
  ⟨some 29, .ef (.call 7 [(.c (.int .i64 4000))]), none⟩ ::
  ⟨some 7, .rd (.mv (.t 29)), none⟩ ::
  []
def F3.r2 : List ROper :=
  ⟨some 8, .rd (.mv (.c (.sl [] true))), none⟩ ::
  []
def F3.r3 : List ROper :=
  ⟨some 9, .rd (.mv (.c (.int .i64 0))), none⟩ ::
  []
def F3.r4 : List ROper :=
  ⟨some 30, .rd (.mv (.t 9)), none⟩ ::
  ⟨some 31, .rd (.mv (.t 0)), none⟩ ::
  ⟨some 32, .rd (.len 1 (.t 31)), none⟩ ::
  ⟨some 33, .rd (.bin .lss (.t 30) (.t 32)), none⟩ ::
  ⟨some 34, .rd (.mv (.t 33)), none⟩ ::
  ⟨some 35, .rd (.mv (.t 9)), some (34, true)⟩ ::
  ⟨some 36, .rd (.bin .lss (.t 35) (.c (.int .i64 40))), some (34, true)⟩ ::
  ⟨some 37, .rd (.pick (.t 34) (.t 36) (.c (.bool false))), none⟩ ::
  []
def F3.c9 : RCode := .cond (.t 37) .skip (.exit 0)
def F3.c8 : RCode := .seq (.reg F3.r4) F3.c9
def F3.r5 : List ROper :=
  ⟨some 41, .rd (.mv (.t 7)), none⟩ ::
  ⟨some 42, .rd (.mv (.t 0)), none⟩ ::
  ⟨some 43, .rd (.mv (.t 9)), none⟩ ::
  ⟨some 44, .rd (.ia 1 (.t 42) (.t 43)), none⟩ ::
  ⟨some 45, .rd (.load none (.t 44)), none⟩ ::
  ⟨some 46, .rd (.bin .rem (.t 45) (.c (.int .u8 60))), none⟩ ::
  ⟨some 47, .rd (.conv .i64 (.t 46)), none⟩ ::
  ⟨some 48, .rd (.bin .add (.c (.int .i64 1)) (.t 47)), none⟩ ::
  ⟨some 49, .ef (.call 8 [(.t 41), (.t 48)]), none⟩ ::
  ⟨some 40, .rd (.mv (.t 49)), none⟩ ::
  ⟨some 50, .rd (.ext (.t 40) 0), none⟩ ::
  ⟨some 51, .rd (.ext (.t 40) 1), none⟩ ::
  ⟨some 10, .ef (.alloc 27 [(.int .i64 0), (.int .i64 0)]), none⟩ ::
  ⟨none, .ef (.store 2 (.t 10) (.t 50)), none⟩ ::
  ⟨some 11, .rd (.mv (.t 51)), none⟩ ::
  []
def F3.r6 : List ROper :=
  ⟨some 52, .rd (.mv (.t 11)), none⟩ ::
  ⟨some 53, .rd (.bin .neq (.t 52) (.c (.int .i64 0))), none⟩ ::
  []
def F3.r7 : List ROper :=
  ⟨some 6, .rd (.mv (.c (.bool false))), none⟩ ::
  []
def F3.c16 : RCode := .seq (.reg F3.r7) .ret
def F3.c15 : RCode := .cond (.t 53) F3.c16 .skip
def F3.c14 : RCode := .seq (.reg F3.r6) F3.c15
def F3.r8 : List ROper :=
  ⟨some 12, .rd (.mv (.c (.int .i64 0))), none⟩ ::
  []
def F3.r9 : List ROper :=
  ⟨some 54, .rd (.mv (.t 12)), none⟩ ::
  ⟨some 55, .rd (.fa 1 (.t 10)), none⟩ ::
  ⟨some 56, .rd (.load none (.t 55)), none⟩ ::
  ⟨some 57, .rd (.bin .lss (.t 54) (.t 56)), none⟩ ::
  []
def F3.c23 : RCode := .cond (.t 57) .skip (.exit 2)
def F3.c22 : RCode := .seq (.reg F3.r9) F3.c23
def F3.r10 : List ROper :=
  ⟨some 61, .rd (.mv (.t 7)), none⟩ ::
  ⟨some 62, .rd (.load (some 2) (.t 10)), none⟩ ::
  ⟨some 63, .rd (.mv (.t 12)), none⟩ ::
  ⟨some 64, .ef (.call 9 [(.t 61), (.t 62), (.t 63)]), none⟩ ::
  ⟨some 60, .rd (.mv (.t 64)), none⟩ ::
  ⟨some 65, .rd (.ext (.t 60) 0), none⟩ ::
  ⟨some 66, .rd (.ext (.t 60) 1), none⟩ ::
  ⟨some 13, .ef (.alloc 27 [(.int .i64 0), (.int .i64 0)]), none⟩ ::
  ⟨none, .ef (.store 2 (.t 13) (.t 65)), none⟩ ::
  ⟨some 14, .rd (.mv (.t 66)), none⟩ ::
  []
def F3.r11 : List ROper :=
  ⟨some 68, .rd (.mv (.t 7)), none⟩ ::
  ⟨some 69, .rd (.load (some 2) (.t 13)), none⟩ ::
  ⟨some 70, .ef (.call 10 [(.t 68), (.t 69)]), none⟩ ::
  ⟨some 67, .rd (.mv (.t 70)), none⟩ ::
  ⟨some 71, .rd (.ext (.t 67) 0), none⟩ ::
  ⟨some 72, .rd (.ext (.t 67) 1), none⟩ ::
  ⟨some 15, .rd (.mv (.t 71)), none⟩ ::
  ⟨some 16, .rd (.mv (.t 72)), none⟩ ::
  []
def F3.r12 : List ROper :=
  ⟨some 73, .rd (.mv (.t 14)), none⟩ ::
  ⟨some 74, .rd (.bin .neq (.t 73) (.c (.int .i64 0))), none⟩ ::
  ⟨some 75, .rd (.mv (.t 74)), none⟩ ::
  ⟨some 76, .rd (.mv (.t 16)), some (75, false)⟩ ::
  ⟨some 77, .rd (.bin .neq (.t 76) (.c (.int .i64 0))), some (75, false)⟩ ::
  ⟨some 78, .rd (.pick (.t 75) (.c (.bool true)) (.t 77)), none⟩ ::
  ⟨some 79, .rd (.mv (.t 78)), none⟩ ::
  ⟨some 80, .rd (.mv (.t 15)), some (79, false)⟩ ::
  ⟨some 81, .rd (.bin .neq (.t 80) (.c (.int .i64 0))), some (79, false)⟩ ::
  ⟨some 82, .rd (.pick (.t 79) (.c (.bool true)) (.t 81)), none⟩ ::
  ⟨some 83, .rd (.mv (.t 82)), none⟩ ::
  ⟨some 84, .rd (.mv (.t 7)), some (83, false)⟩ ::
  ⟨some 85, .rd (.load (some 2) (.t 13)), some (83, false)⟩ ::
  ⟨some 86, .rd (.mv (.t 9)), some (83, false)⟩ ::
  ⟨some 87, .rd (.bin .add (.t 86) (.c (.int .i64 1))), some (83, false)⟩ ::
  ⟨some 88, .ef (.call 11 [(.t 84), (.t 85), (.t 87)]), some (83, false)⟩ ::
  ⟨some 89, .rd (.bin .neq (.t 88) (.c (.int .i64 0))), some (83, false)⟩ ::
  ⟨some 90, .rd (.pick (.t 83) (.c (.bool true)) (.t 89)), none⟩ ::
  []
def F3.r13 : List ROper :=
  ⟨some 6, .rd (.mv (.c (.bool false))), none⟩ ::
  []
def F3.c30 : RCode := .seq (.reg F3.r13) .ret
def F3.c29 : RCode := .cond (.t 90) F3.c30 .skip
def F3.c28 : RCode := .seq (.reg F3.r12) F3.c29
def F3.c27 : RCode := .seq (.reg F3.r11) F3.c28
def F3.c26 : RCode := .seq (.reg F3.r10) F3.c27
def F3.c25 : RCode := .block 3 F3.c26
def F3.r14 : List ROper :=
  ⟨some 58, .rd (.mv (.t 12)), none⟩ ::
  ⟨some 59, .rd (.bin .add (.t 58) (.c (.int .i64 1))), none⟩ ::
  ⟨some 12, .rd (.mv (.t 59)), none⟩ ::
  []
def F3.c24 : RCode := .seq F3.c25 (.reg F3.r14)
def F3.c21 : RCode := .seq F3.c22 F3.c24
def F3.c20 : RCode := .loop F3.c21
def F3.c19 : RCode := .block 2 F3.c20
def F3.c18 : RCode := .seq (.reg F3.r8) F3.c19
def F3.r15 : List ROper :=
  ⟨some 91, .rd (.mv (.t 8)), none⟩ ::
  ⟨some 92, .rd (.load (some 2) (.t 10)), none⟩ ::
  ⟨some 93, .rd (.bsl 2 1 [(.int .i64 0), (.int .i64 0)] [(0, 2, (.t 92))]), none⟩ ::
  ⟨some 94, .ef (.append 27 2 16 (.t 91) (.t 93)), none⟩ ::
  ⟨some 8, .rd (.mv (.t 94)), none⟩ ::
  []
def F3.c17 : RCode := .seq F3.c18 (.reg F3.r15)
def F3.c13 : RCode := .seq F3.c14 F3.c17
def F3.c12 : RCode := .seq (.reg F3.r5) F3.c13
def F3.c11 : RCode := .block 1 F3.c12
def F3.r16 : List ROper :=
  ⟨some 38, .rd (.mv (.t 9)), none⟩ ::
  ⟨some 39, .rd (.bin .add (.t 38) (.c (.int .i64 1))), none⟩ ::
  ⟨some 9, .rd (.mv (.t 39)), none⟩ ::
  []
def F3.c10 : RCode := .seq F3.c11 (.reg F3.r16)
def F3.c7 : RCode := .seq F3.c8 F3.c10
def F3.c6 : RCode := .loop F3.c7
def F3.c5 : RCode := .block 0 F3.c6
def F3.c4 : RCode := .seq (.reg F3.r3) F3.c5
def F3.r17 : List ROper :=
  ⟨some 95, .rd (.mv (.t 8)), none⟩ ::
  ⟨some 96, .rd (.len 1 (.t 95)), none⟩ ::
  ⟨some 97, .rd (.bin .eql (.t 96) (.c (.int .i64 0))), none⟩ ::
  []
def F3.r18 : List ROper :=
  ⟨some 98, .ef (.call 12 []), none⟩ ::
  ⟨some 6, .rd (.mv (.t 98)), none⟩ ::
  []
def F3.c34 : RCode := .seq (.reg F3.r18) .ret
def F3.c33 : RCode := .cond (.t 97) F3.c34 .skip
def F3.c32 : RCode := .seq (.reg F3.r17) F3.c33
def F3.r19 : List ROper :=
  ⟨some 99, .rd (.mv (.t 1)), none⟩ ::
  ⟨some 100, .rd (.mv (.t 8)), none⟩ ::
  ⟨some 101, .rd (.len 1 (.t 100)), none⟩ ::
  ⟨some 102, .ef (.call 13 [(.t 99), (.t 101)]), none⟩ ::
  ⟨some 17, .rd (.mv (.t 102)), none⟩ ::
  []
def F3.r20 : List ROper :=
  ⟨some 103, .rd (.mv (.t 7)), none⟩ ::
  ⟨some 104, .rd (.mv (.t 8)), none⟩ ::
  ⟨some 105, .rd (.mv (.t 17)), none⟩ ::
  ⟨some 106, .rd (.ia 2 (.t 104) (.t 105)), none⟩ ::
  ⟨some 107, .rd (.load (some 2) (.t 106)), none⟩ ::
  ⟨some 108, .rd (.mv (.t 2)), none⟩ ::
  ⟨some 109, .ef (.call 11 [(.t 103), (.t 107), (.t 108)]), none⟩ ::
  []
def F3.r21 : List ROper :=
  ⟨some 18, .rd (.mv (.c (.int .i64 0))), none⟩ ::
  []
def F3.r22 : List ROper :=
  ⟨some 110, .rd (.mv (.t 18)), none⟩ ::
  ⟨some 111, .rd (.mv (.t 8)), none⟩ ::
  ⟨some 112, .rd (.len 1 (.t 111)), none⟩ ::
  ⟨some 113, .rd (.bin .lss (.t 110) (.t 112)), none⟩ ::
  []
def F3.c43 : RCode := .cond (.t 113) .skip (.exit 4)
def F3.c42 : RCode := .seq (.reg F3.r22) F3.c43
def F3.r23 : List ROper :=
  ⟨some 19, .rd (.mv (.c (.int .i64 0))), none⟩ ::
  []
def F3.r24 : List ROper :=
  ⟨some 116, .rd (.mv (.t 19)), none⟩ ::
  ⟨some 117, .rd (.mv (.t 8)), none⟩ ::
  ⟨some 118, .rd (.mv (.t 18)), none⟩ ::
  ⟨some 119, .rd (.ia 2 (.t 117) (.t 118)), none⟩ ::
  ⟨some 120, .rd (.fa 1 (.t 119)), none⟩ ::
  ⟨some 121, .rd (.load none (.t 120)), none⟩ ::
  ⟨some 122, .rd (.bin .lss (.t 116) (.t 121)), none⟩ ::
  []
def F3.c51 : RCode := .cond (.t 122) .skip (.exit 6)
def F3.c50 : RCode := .seq (.reg F3.r24) F3.c51
def F3.r25 : List ROper :=
  ⟨some 126, .rd (.mv (.t 7)), none⟩ ::
  ⟨some 127, .rd (.mv (.t 8)), none⟩ ::
  ⟨some 128, .rd (.mv (.t 18)), none⟩ ::
  ⟨some 129, .rd (.ia 2 (.t 127) (.t 128)), none⟩ ::
  ⟨some 130, .rd (.load (some 2) (.t 129)), none⟩ ::
  ⟨some 131, .rd (.mv (.t 19)), none⟩ ::
  ⟨some 132, .ef (.call 9 [(.t 126), (.t 130), (.t 131)]), none⟩ ::
  ⟨some 125, .rd (.mv (.t 132)), none⟩ ::
  ⟨some 133, .rd (.ext (.t 125) 0), none⟩ ::
  ⟨some 134, .rd (.ext (.t 125) 1), none⟩ ::
  ⟨some 20, .ef (.alloc 27 [(.int .i64 0), (.int .i64 0)]), none⟩ ::
  ⟨none, .ef (.store 2 (.t 20) (.t 133)), none⟩ ::
  ⟨some 21, .rd (.mv (.t 134)), none⟩ ::
  []
def F3.r26 : List ROper :=
  ⟨some 136, .rd (.mv (.t 7)), none⟩ ::
  ⟨some 137, .rd (.load (some 2) (.t 20)), none⟩ ::
  ⟨some 138, .ef (.call 10 [(.t 136), (.t 137)]), none⟩ ::
  ⟨some 135, .rd (.mv (.t 138)), none⟩ ::
  ⟨some 139, .rd (.ext (.t 135) 0), none⟩ ::
  ⟨some 140, .rd (.ext (.t 135) 1), none⟩ ::
  ⟨some 22, .rd (.mv (.t 139)), none⟩ ::
  ⟨some 23, .rd (.mv (.t 140)), none⟩ ::
  []
def F3.r27 : List ROper :=
  ⟨some 141, .rd (.mv (.t 18)), none⟩ ::
  ⟨some 142, .rd (.bin .add (.t 141) (.c (.int .i64 1))), none⟩ ::
  ⟨some 24, .rd (.mv (.t 142)), none⟩ ::
  []
def F3.r28 : List ROper :=
  ⟨some 143, .rd (.mv (.t 18)), none⟩ ::
  ⟨some 144, .rd (.mv (.t 17)), none⟩ ::
  ⟨some 145, .rd (.bin .eql (.t 143) (.t 144)), none⟩ ::
  ⟨some 146, .rd (.mv (.t 145)), none⟩ ::
  ⟨some 147, .rd (.mv (.t 19)), some (146, true)⟩ ::
  ⟨some 148, .rd (.bin .eql (.t 147) (.c (.int .i64 0))), some (146, true)⟩ ::
  ⟨some 149, .rd (.pick (.t 146) (.t 148) (.c (.bool false))), none⟩ ::
  []
def F3.r29 : List ROper :=
  ⟨some 150, .rd (.mv (.t 2)), none⟩ ::
  ⟨some 24, .rd (.mv (.t 150)), none⟩ ::
  []
def F3.c59 : RCode := .cond (.t 149) (.reg F3.r29) .skip
def F3.c58 : RCode := .seq (.reg F3.r28) F3.c59
def F3.r30 : List ROper :=
  ⟨some 151, .rd (.mv (.t 23)), none⟩ ::
  ⟨some 152, .rd (.bin .neq (.t 151) (.c (.int .i64 0))), none⟩ ::
  ⟨some 153, .rd (.mv (.t 152)), none⟩ ::
  ⟨some 154, .rd (.mv (.t 22)), some (153, false)⟩ ::
  ⟨some 155, .rd (.mv (.t 24)), some (153, false)⟩ ::
  ⟨some 156, .rd (.bin .neq (.t 154) (.t 155)), some (153, false)⟩ ::
  ⟨some 157, .rd (.pick (.t 153) (.c (.bool true)) (.t 156)), none⟩ ::
  []
def F3.r31 : List ROper :=
  ⟨some 6, .rd (.mv (.c (.bool false))), none⟩ ::
  []
def F3.c62 : RCode := .seq (.reg F3.r31) .ret
def F3.c61 : RCode := .cond (.t 157) F3.c62 .skip
def F3.c60 : RCode := .seq (.reg F3.r30) F3.c61
def F3.c57 : RCode := .seq F3.c58 F3.c60
def F3.c56 : RCode := .seq (.reg F3.r27) F3.c57
def F3.c55 : RCode := .seq (.reg F3.r26) F3.c56
def F3.c54 : RCode := .seq (.reg F3.r25) F3.c55
def F3.c53 : RCode := .block 7 F3.c54
def F3.r32 : List ROper :=
  ⟨some 123, .rd (.mv (.t 19)), none⟩ ::
  ⟨some 124, .rd (.bin .add (.t 123) (.c (.int .i64 1))), none⟩ ::
  ⟨some 19, .rd (.mv (.t 124)), none⟩ ::
  []
def F3.c52 : RCode := .seq F3.c53 (.reg F3.r32)
def F3.c49 : RCode := .seq F3.c50 F3.c52
def F3.c48 : RCode := .loop F3.c49
def F3.c47 : RCode := .block 6 F3.c48
def F3.c46 : RCode := .seq (.reg F3.r23) F3.c47
def F3.c45 : RCode := .block 5 F3.c46
def F3.r33 : List ROper :=
  ⟨some 114, .rd (.mv (.t 18)), none⟩ ::
  ⟨some 115, .rd (.bin .add (.t 114) (.c (.int .i64 1))), none⟩ ::
  ⟨some 18, .rd (.mv (.t 115)), none⟩ ::
  []
def F3.c44 : RCode := .seq F3.c45 (.reg F3.r33)
def F3.c41 : RCode := .seq F3.c42 F3.c44
def F3.c40 : RCode := .loop F3.c41
def F3.c39 : RCode := .block 4 F3.c40
def F3.c38 : RCode := .seq (.reg F3.r21) F3.c39
def F3.r34 : List ROper :=
  ⟨some 158, .rd (.mv (.t 7)), none⟩ ::
  ⟨some 159, .rd (.mv (.t 8)), none⟩ ::
  ⟨some 160, .rd (.mv (.t 17)), none⟩ ::
  ⟨some 161, .rd (.ia 2 (.t 159) (.t 160)), none⟩ ::
  ⟨some 162, .rd (.fa 0 (.t 161)), none⟩ ::
  ⟨some 163, .rd (.load none (.t 162)), none⟩ ::
  ⟨some 164, .ef (.call 14 [(.t 158), (.t 163)]), none⟩ ::
  []
def F3.r35 : List ROper :=
  ⟨some 166, .rd (.mv (.t 7)), none⟩ ::
  ⟨some 167, .ef (.call 8 [(.t 166), (.c (.int .i64 1))]), none⟩ ::
  ⟨some 165, .rd (.mv (.t 167)), none⟩ ::
  ⟨some 168, .rd (.ext (.t 165) 0), none⟩ ::
  ⟨some 169, .rd (.ext (.t 165) 1), none⟩ ::
  ⟨some 25, .ef (.alloc 27 [(.int .i64 0), (.int .i64 0)]), none⟩ ::
  ⟨none, .ef (.store 2 (.t 25) (.t 168)), none⟩ ::
  ⟨some 26, .rd (.mv (.t 169)), none⟩ ::
  []
def F3.r36 : List ROper :=
  ⟨some 171, .rd (.mv (.t 7)), none⟩ ::
  ⟨some 172, .rd (.load (some 2) (.t 25)), none⟩ ::
  ⟨some 173, .ef (.call 10 [(.t 171), (.t 172)]), none⟩ ::
  ⟨some 170, .rd (.mv (.t 173)), none⟩ ::
  ⟨some 174, .rd (.ext (.t 170) 0), none⟩ ::
  ⟨some 175, .rd (.ext (.t 170) 1), none⟩ ::
  ⟨some 27, .rd (.mv (.t 174)), none⟩ ::
  ⟨some 28, .rd (.mv (.t 175)), none⟩ ::
  []
def F3.r37 : List ROper :=
  ⟨some 176, .rd (.mv (.t 26)), none⟩ ::
  ⟨some 177, .rd (.bin .eql (.t 176) (.c (.int .i64 0))), none⟩ ::
  ⟨some 178, .rd (.mv (.t 177)), none⟩ ::
  ⟨some 179, .rd (.fa 0 (.t 25)), some (178, true)⟩ ::
  ⟨some 180, .rd (.load none (.t 179)), some (178, true)⟩ ::
  ⟨some 181, .rd (.mv (.t 8)), some (178, true)⟩ ::
  ⟨some 182, .rd (.mv (.t 17)), some (178, true)⟩ ::
  ⟨some 183, .rd (.ia 2 (.t 181) (.t 182)), some (178, true)⟩ ::
  ⟨some 184, .rd (.fa 0 (.t 183)), some (178, true)⟩ ::
  ⟨some 185, .rd (.load none (.t 184)), some (178, true)⟩ ::
  ⟨some 186, .rd (.bin .eql (.t 180) (.t 185)), some (178, true)⟩ ::
  ⟨some 187, .rd (.pick (.t 178) (.t 186) (.c (.bool false))), none⟩ ::
  ⟨some 188, .rd (.mv (.t 187)), none⟩ ::
  ⟨some 189, .rd (.mv (.t 28)), some (188, true)⟩ ::
  ⟨some 190, .rd (.bin .eql (.t 189) (.c (.int .i64 0))), some (188, true)⟩ ::
  ⟨some 191, .rd (.pick (.t 188) (.t 190) (.c (.bool false))), none⟩ ::
  ⟨some 192, .rd (.mv (.t 191)), none⟩ ::
  ⟨some 193, .rd (.mv (.t 27)), some (192, true)⟩ ::
  ⟨some 194, .rd (.bin .eql (.t 193) (.c (.int .i64 0))), some (192, true)⟩ ::
  ⟨some 195, .rd (.pick (.t 192) (.t 194) (.c (.bool false))), none⟩ ::
  ⟨some 196, .rd (.mv (.t 195)), none⟩ ::
  ⟨some 197, .ef (.call 12 []), some (196, true)⟩ ::
  ⟨some 198, .rd (.pick (.t 196) (.t 197) (.c (.bool false))), none⟩ ::
  ⟨some 6, .rd (.mv (.t 198)), none⟩ ::
  []
def F3.c66 : RCode := .seq (.dreg F3.r37) .ret
def F3.c65 : RCode := .seq (.reg F3.r36) F3.c66
def F3.c64 : RCode := .seq (.reg F3.r35) F3.c65
def F3.c63 : RCode := .seq (.reg F3.r34) F3.c64
def F3.c37 : RCode := .seq F3.c38 F3.c63
def F3.c36 : RCode := .seq (.reg F3.r20) F3.c37
def F3.c35 : RCode := .seq (.reg F3.r19) F3.c36
def F3.c31 : RCode := .seq F3.c32 F3.c35
def F3.c3 : RCode := .seq F3.c4 F3.c31
def F3.c2 : RCode := .seq (.reg F3.r2) F3.c3
def F3.c1 : RCode := .seq (.reg F3.r1) F3.c2
def F3.c0 : RCode := .seq (.reg F3.r0) F3.c1
theorem F3.calls {args : List AV} {h : AHeap} {K : AV → AHeap → Prop} (hn : args.length ≤ 199) (k : wT .go Go.Proofs.Try.prog 199 F3.c0 (fun x e h t => atEndT t [.tmp 6] (EndW K) x e h) (envOf 0 args) h) : ACalls Go.Proofs.Try.prog 3 args h K :=
  acallsT 199 Go.Proofs.Try.func3 Go.Proofs.Try.ntmps3 (by kernel_rfl) (by kernel_rfl) hn k
/-- pantograph/pantographlaw19.StorePlays -/
def F4.r0 : List ROper :=
  ⟨some 4, .rd (.mv (.c (.bool false))), none⟩ ::
  []
def F4.r1 : List ROper :=
  ⟨some 20, .rd (.mv (.t 0)), none⟩ ::
  ⟨some 21, .rd (.mn (.t 20) (.c (.int .i64 2000))), none⟩ ::
  ⟨some 0, .rd (.mv (.t 21)), none⟩ ::
  []
def F4.r2 : List ROper :=
  ⟨some 22, .rd (.mv (.t 0)), none⟩ ::
  ⟨some 23, .ef (.call 7 [(.t 22)]), none⟩ ::
  ⟨some 24, .rd (.mv (.t 0)), none⟩ ::
  ⟨some 25, .rd (.build [(.int .i64 0), (.sl [] true)] [(0, 1, (.t 24))]), none⟩ ::
  ⟨some 26, .ef (.box 43 (.t 25)), none⟩ ::
  ⟨some 5, .rd (.mv (.t 23)), none⟩ ::
  ⟨some 6, .rd (.mv (.t 26)), none⟩ ::
  []
def F4.r3 : List ROper :=
  ⟨some 7, .rd (.mv (.c (.sl [] true))), none⟩ ::
  []
def F4.r4 : List ROper :=
  ⟨some 8, .rd (.mv (.c (.int .i64 0))), none⟩ ::
  []
def F4.r5 : List ROper :=
  ⟨some 27, .rd (.mv (.t 8)), none⟩ ::
  ⟨some 28, .rd (.mv (.t 1)), none⟩ ::
  ⟨some 29, .rd (.len 1 (.t 28)), none⟩ ::
  ⟨some 30, .rd (.bin .lss (.t 27) (.t 29)), none⟩ ::
  ⟨some 31, .rd (.mv (.t 30)), none⟩ ::
  ⟨some 32, .rd (.mv (.t 8)), some (31, true)⟩ ::
  ⟨some 33, .rd (.bin .lss (.t 32) (.c (.int .i64 100))), some (31, true)⟩ ::
  ⟨some 34, .rd (.pick (.t 31) (.t 33) (.c (.bool false))), none⟩ ::
  []
def F4.c10 : RCode := .cond (.t 34) .skip (.exit 0)
def F4.c9 : RCode := .seq (.reg F4.r5) F4.c10
def F4.r6 : List ROper :=
  ⟨some 37, .rd (.mv (.t 1)), none⟩ ::
  ⟨some 38, .rd (.mv (.t 8)), none⟩ ::
  ⟨some 39, .rd (.ia 7 (.t 37) (.t 38)), none⟩ ::
  ⟨some 40, .rd (.load (some 7) (.t 39)), none⟩ ::
  ⟨some 9, .ef (.alloc 45 [(.int .i64 0), (.int .i64 0), (.int .i64 0), (.int .i64 0), (.int .i64 0), (.int .i64 0), (.bool false)]), none⟩ ::
  ⟨none, .ef (.store 7 (.t 9) (.t 40)), none⟩ ::
  []
def F4.r7 : List ROper :=
  ⟨some 41, .rd (.fa 3 (.t 9)), none⟩ ::
  ⟨some 42, .rd (.load (some 2) (.t 41)), none⟩ ::
  ⟨some 10, .ef (.alloc 27 [(.int .i64 0), (.int .i64 0)]), none⟩ ::
  ⟨none, .ef (.store 2 (.t 10) (.t 42)), none⟩ ::
  []
def F4.r8 : List ROper :=
  ⟨some 43, .rd (.fa 6 (.t 9)), none⟩ ::
  ⟨some 44, .rd (.load none (.t 43)), none⟩ ::
  ⟨some 45, .rd (.un .not (.t 44)), none⟩ ::
  ⟨some 46, .rd (.mv (.t 45)), none⟩ ::
  ⟨some 47, .rd (.mv (.t 7)), some (46, true)⟩ ::
  ⟨some 48, .rd (.len 1 (.t 47)), some (46, true)⟩ ::
  ⟨some 49, .rd (.bin .gtr (.t 48) (.c (.int .i64 0))), some (46, true)⟩ ::
  ⟨some 50, .rd (.pick (.t 46) (.t 49) (.c (.bool false))), none⟩ ::
  []
def F4.r9 : List ROper :=
  ⟨some 51, .rd (.mv (.t 7)), none⟩ ::
  ⟨some 52, .rd (.fa 2 (.t 9)), none⟩ ::
  ⟨some 53, .rd (.load none (.t 52)), none⟩ ::
  ⟨some 54, .rd (.mv (.t 7)), none⟩ ::
  ⟨some 55, .rd (.len 1 (.t 54)), none⟩ ::
  ⟨some 56, .ef (.call 13 [(.t 53), (.t 55)]), none⟩ ::
  ⟨some 57, .rd (.ia 2 (.t 51) (.t 56)), none⟩ ::
  ⟨some 58, .rd (.load (some 2) (.t 57)), none⟩ ::
  ⟨none, .ef (.store 2 (.t 10) (.t 58)), none⟩ ::
  []
def F4.c17 : RCode := .cond (.t 50) (.reg F4.r9) .skip
def F4.c16 : RCode := .seq (.reg F4.r8) F4.c17
def F4.r10 : List ROper :=
  ⟨some 59, .rd (.fa 0 (.t 9)), none⟩ ::
  ⟨some 60, .rd (.load none (.t 59)), none⟩ ::
  ⟨some 61, .ef (.call 13 [(.t 60), (.c (.int .i64 6))]), none⟩ ::
  []
def F4.r11 : List ROper :=
  ⟨some 93, .rd (.bin .eql (.t 61) (.c (.int .i64 0))), none⟩ ::
  ⟨some 92, .rd (.mv (.t 93)), none⟩ ::
  []
def F4.r12 : List ROper :=
  ⟨some 95, .rd (.mv (.t 5)), none⟩ ::
  ⟨some 96, .rd (.fa 1 (.t 9)), none⟩ ::
  ⟨some 97, .rd (.load none (.t 96)), none⟩ ::
  ⟨some 98, .ef (.call 8 [(.t 95), (.t 97)]), none⟩ ::
  ⟨some 94, .rd (.mv (.t 98)), none⟩ ::
  ⟨some 99, .rd (.ext (.t 94) 0), none⟩ ::
  ⟨some 100, .rd (.ext (.t 94) 1), none⟩ ::
  ⟨some 11, .ef (.alloc 27 [(.int .i64 0), (.int .i64 0)]), none⟩ ::
  ⟨none, .ef (.store 2 (.t 11) (.t 99)), none⟩ ::
  ⟨some 12, .rd (.mv (.t 100)), none⟩ ::
  []
def F4.r13 : List ROper :=
  ⟨some 102, .rd (.mv (.t 6)), none⟩ ::
  ⟨some 103, .rd (.fa 1 (.t 9)), none⟩ ::
  ⟨some 104, .rd (.load none (.t 103)), none⟩ ::
  ⟨some 105, .ef (.call 15 [(.t 102), (.t 104)]), none⟩ ::
  ⟨some 101, .rd (.mv (.t 105)), none⟩ ::
  ⟨some 106, .rd (.ext (.t 101) 0), none⟩ ::
  ⟨some 107, .rd (.ext (.t 101) 1), none⟩ ::
  ⟨some 13, .ef (.alloc 27 [(.int .i64 0), (.int .i64 0)]), none⟩ ::
  ⟨none, .ef (.store 2 (.t 13) (.t 106)), none⟩ ::
  ⟨some 14, .rd (.mv (.t 107)), none⟩ ::
  []
def F4.r14 : List ROper :=
  ⟨some 108, .rd (.load (some 2) (.t 11)), none⟩ ::
  ⟨some 109, .rd (.load (some 2) (.t 13)), none⟩ ::
  ⟨some 110, .rd (.seq true [1, 1] (.t 108) (.t 109)), none⟩ ::
  ⟨some 111, .rd (.mv (.t 110)), none⟩ ::
  ⟨some 112, .rd (.mv (.t 12)), some (111, false)⟩ ::
  ⟨some 113, .rd (.mv (.t 14)), some (111, false)⟩ ::
  ⟨some 114, .rd (.bin .neq (.t 112) (.t 113)), some (111, false)⟩ ::
  ⟨some 115, .rd (.pick (.t 111) (.c (.bool true)) (.t 114)), none⟩ ::
  []
def F4.r15 : List ROper :=
  ⟨some 4, .rd (.mv (.c (.bool false))), none⟩ ::
  []
def F4.c28 : RCode := .seq (.reg F4.r15) .ret
def F4.c27 : RCode := .cond (.t 115) F4.c28 .skip
def F4.c26 : RCode := .seq (.reg F4.r14) F4.c27
def F4.r16 : List ROper :=
  ⟨some 116, .rd (.mv (.t 14)), none⟩ ::
  ⟨some 117, .rd (.bin .eql (.t 116) (.c (.int .i64 0))), none⟩ ::
  []
def F4.r17 : List ROper :=
  ⟨some 118, .rd (.mv (.t 7)), none⟩ ::
  ⟨some 119, .rd (.load (some 2) (.t 11)), none⟩ ::
  ⟨some 120, .rd (.bsl 2 1 [(.int .i64 0), (.int .i64 0)] [(0, 2, (.t 119))]), none⟩ ::
  ⟨some 121, .ef (.append 27 2 16 (.t 118) (.t 120)), none⟩ ::
  ⟨some 7, .rd (.mv (.t 121)), none⟩ ::
  []
def F4.c30 : RCode := .cond (.t 117) (.reg F4.r17) .skip
def F4.c29 : RCode := .seq (.reg F4.r16) F4.c30
def F4.c25 : RCode := .seq F4.c26 F4.c29
def F4.c24 : RCode := .seq (.reg F4.r13) F4.c25
def F4.c23 : RCode := .seq (.reg F4.r12) F4.c24
def F4.r18 : List ROper :=
  ⟨some 123, .rd (.bin .eql (.t 61) (.c (.int .i64 1))), none⟩ ::
  ⟨some 122, .rd (.mv (.t 123)), none⟩ ::
  []
def F4.r19 : List ROper :=
  ⟨some 125, .rd (.mv (.t 5)), none⟩ ::
  ⟨some 126, .rd (.load (some 2) (.t 10)), none⟩ ::
  ⟨some 127, .rd (.fa 1 (.t 9)), none⟩ ::
  ⟨some 128, .rd (.load none (.t 127)), none⟩ ::
  ⟨some 129, .ef (.call 9 [(.t 125), (.t 126), (.t 128)]), none⟩ ::
  ⟨some 124, .rd (.mv (.t 129)), none⟩ ::
  ⟨some 130, .rd (.ext (.t 124) 0), none⟩ ::
  ⟨some 131, .rd (.ext (.t 124) 1), none⟩ ::
  ⟨some 15, .ef (.alloc 27 [(.int .i64 0), (.int .i64 0)]), none⟩ ::
  ⟨none, .ef (.store 2 (.t 15) (.t 130)), none⟩ ::
  ⟨some 16, .rd (.mv (.t 131)), none⟩ ::
  []
def F4.r20 : List ROper :=
  ⟨some 149, .rd (.mv (.t 6)), none⟩ ::
  ⟨some 150, .rd (.load (some 2) (.t 10)), none⟩ ::
  ⟨some 151, .ef (.call 16 [(.t 149), (.t 150)]), none⟩ ::
  ⟨some 152, .rd (.un .not (.t 151)), none⟩ ::
  ⟨some 148, .rd (.mv (.t 152)), none⟩ ::
  []
def F4.r21 : List ROper :=
  ⟨some 153, .rd (.load (some 2) (.t 15)), none⟩ ::
  ⟨some 154, .rd (.build [(.int .i64 0), (.int .i64 0)] []), none⟩ ::
  ⟨some 155, .rd (.seq true [1, 1] (.t 153) (.t 154)), none⟩ ::
  ⟨some 156, .rd (.mv (.t 155)), none⟩ ::
  ⟨some 157, .rd (.mv (.t 16)), some (156, false)⟩ ::
  ⟨some 158, .rd (.bin .neq (.t 157) (.c (.int .i64 13))), some (156, false)⟩ ::
  ⟨some 159, .rd (.pick (.t 156) (.c (.bool true)) (.t 158)), none⟩ ::
  []
def F4.r22 : List ROper :=
  ⟨some 4, .rd (.mv (.c (.bool false))), none⟩ ::
  []
def F4.c39 : RCode := .seq (.reg F4.r22) .ret
def F4.c38 : RCode := .cond (.t 159) F4.c39 .skip
def F4.c37 : RCode := .seq (.reg F4.r21) F4.c38
def F4.r23 : List ROper :=
  ⟨some 161, .rd (.fa 1 (.t 9)), none⟩ ::
  ⟨some 162, .rd (.load none (.t 161)), none⟩ ::
  ⟨some 163, .rd (.bin .lss (.t 162) (.c (.int .i64 0))), none⟩ ::
  ⟨some 164, .rd (.mv (.t 163)), none⟩ ::
  ⟨some 165, .rd (.fa 1 (.t 9)), some (164, false)⟩ ::
  ⟨some 166, .rd (.load none (.t 165)), some (164, false)⟩ ::
  ⟨some 167, .rd (.fa 1 (.t 10)), some (164, false)⟩ ::
  ⟨some 168, .rd (.load none (.t 167)), some (164, false)⟩ ::
  ⟨some 169, .rd (.bin .geq (.t 166) (.t 168)), some (164, false)⟩ ::
  ⟨some 170, .rd (.pick (.t 164) (.c (.bool true)) (.t 169)), none⟩ ::
  ⟨some 160, .rd (.mv (.t 170)), none⟩ ::
  []
def F4.r24 : List ROper :=
  ⟨some 171, .rd (.load (some 2) (.t 15)), none⟩ ::
  ⟨some 172, .rd (.build [(.int .i64 0), (.int .i64 0)] []), none⟩ ::
  ⟨some 173, .rd (.seq true [1, 1] (.t 171) (.t 172)), none⟩ ::
  ⟨some 174, .rd (.mv (.t 173)), none⟩ ::
  ⟨some 175, .rd (.mv (.t 16)), some (174, false)⟩ ::
  ⟨some 176, .rd (.bin .neq (.t 175) (.c (.int .i64 19))), some (174, false)⟩ ::
  ⟨some 177, .rd (.pick (.t 174) (.c (.bool true)) (.t 176)), none⟩ ::
  []
def F4.r25 : List ROper :=
  ⟨some 4, .rd (.mv (.c (.bool false))), none⟩ ::
  []
def F4.c44 : RCode := .seq (.reg F4.r25) .ret
def F4.c43 : RCode := .cond (.t 177) F4.c44 .skip
def F4.c42 : RCode := .seq (.reg F4.r24) F4.c43
def F4.r26 : List ROper :=
  ⟨some 132, .rd (.load (some 2) (.t 15)), none⟩ ::
  ⟨some 133, .rd (.fa 0 (.t 10)), none⟩ ::
  ⟨some 134, .rd (.load none (.t 133)), none⟩ ::
  ⟨some 135, .rd (.fa 1 (.t 9)), none⟩ ::
  ⟨some 136, .rd (.load none (.t 135)), none⟩ ::
  ⟨some 137, .rd (.bin .add (.t 134) (.t 136)), none⟩ ::
  ⟨some 138, .rd (.build [(.int .i64 0), (.int .i64 0)] [(0, 1, (.t 137)), (1, 1, (.c (.int .i64 1)))]), none⟩ ::
  ⟨some 139, .rd (.seq true [1, 1] (.t 132) (.t 138)), none⟩ ::
  ⟨some 140, .rd (.mv (.t 139)), none⟩ ::
  ⟨some 141, .rd (.mv (.t 16)), some (140, false)⟩ ::
  ⟨some 142, .rd (.bin .neq (.t 141) (.c (.int .i64 0))), some (140, false)⟩ ::
  ⟨some 143, .rd (.pick (.t 140) (.c (.bool true)) (.t 142)), none⟩ ::
  []
def F4.r27 : List ROper :=
  ⟨some 4, .rd (.mv (.c (.bool false))), none⟩ ::
  []
def F4.c48 : RCode := .seq (.reg F4.r27) .ret
def F4.c47 : RCode := .cond (.t 143) F4.c48 .skip
def F4.c46 : RCode := .seq (.reg F4.r26) F4.c47
def F4.r28 : List ROper :=
  ⟨some 144, .rd (.mv (.t 7)), none⟩ ::
  ⟨some 145, .rd (.load (some 2) (.t 15)), none⟩ ::
  ⟨some 146, .rd (.bsl 2 1 [(.int .i64 0), (.int .i64 0)] [(0, 2, (.t 145))]), none⟩ ::
  ⟨some 147, .ef (.append 27 2 16 (.t 144) (.t 146)), none⟩ ::
  ⟨some 7, .rd (.mv (.t 147)), none⟩ ::
  []
def F4.c45 : RCode := .seq F4.c46 (.reg F4.r28)
def F4.c41 : RCode := .cond (.t 160) F4.c42 F4.c45
def F4.c40 : RCode := .seq (.reg F4.r23) F4.c41
def F4.c36 : RCode := .cond (.t 148) F4.c37 F4.c40
def F4.c35 : RCode := .seq (.reg F4.r20) F4.c36
def F4.c34 : RCode := .block 3 F4.c35
def F4.c33 : RCode := .seq (.reg F4.r19) F4.c34
def F4.r29 : List ROper :=
  ⟨some 179, .rd (.bin .eql (.t 61) (.c (.int .i64 2))), none⟩ ::
  ⟨some 178, .rd (.mv (.t 179)), none⟩ ::
  []
def F4.r30 : List ROper :=
  ⟨some 181, .rd (.mv (.t 5)), none⟩ ::
  ⟨some 182, .rd (.load (some 2) (.t 10)), none⟩ ::
  ⟨some 183, .ef (.call 10 [(.t 181), (.t 182)]), none⟩ ::
  ⟨some 180, .rd (.mv (.t 183)), none⟩ ::
  ⟨some 184, .rd (.ext (.t 180) 0), none⟩ ::
  ⟨some 185, .rd (.ext (.t 180) 1), none⟩ ::
  ⟨some 17, .rd (.mv (.t 184)), none⟩ ::
  ⟨some 18, .rd (.mv (.t 185)), none⟩ ::
  []
def F4.r31 : List ROper :=
  ⟨some 186, .rd (.mv (.t 6)), none⟩ ::
  ⟨some 187, .rd (.load (some 2) (.t 10)), none⟩ ::
  ⟨some 188, .ef (.call 16 [(.t 186), (.t 187)]), none⟩ ::
  ⟨some 189, .rd (.un .not (.t 188)), none⟩ ::
  ⟨some 190, .rd (.mv (.t 189)), none⟩ ::
  ⟨some 191, .rd (.mv (.t 17)), some (190, true)⟩ ::
  ⟨some 192, .rd (.bin .neq (.t 191) (.c (.int .i64 0))), some (190, true)⟩ ::
  ⟨some 193, .rd (.mv (.t 192)), some (190, true)⟩ ::
  ⟨some 194, .rd (.mv (.t 18)), some (193, false)⟩ ::
  ⟨some 195, .rd (.bin .neq (.t 194) (.c (.int .i64 13))), some (193, false)⟩ ::
  ⟨some 196, .rd (.pick (.t 193) (.c (.bool true)) (.t 195)), some (190, true)⟩ ::
  ⟨some 197, .rd (.pick (.t 190) (.t 196) (.c (.bool false))), none⟩ ::
  ⟨some 198, .rd (.mv (.t 197)), none⟩ ::
  ⟨some 199, .rd (.mv (.t 6)), some (198, false)⟩ ::
  ⟨some 200, .rd (.load (some 2) (.t 10)), some (198, false)⟩ ::
  ⟨some 201, .ef (.call 16 [(.t 199), (.t 200)]), some (198, false)⟩ ::
  ⟨some 202, .rd (.mv (.t 201)), some (198, false)⟩ ::
  ⟨some 203, .rd (.mv (.t 17)), some (202, true)⟩ ::
  ⟨some 204, .rd (.mv (.t 6)), some (202, true)⟩ ::
  ⟨some 205, .rd (.nilc (.t 204)), some (202, true)⟩ ::
  ⟨some 206, .rd (.fa 1 (.t 205)), some (202, true)⟩ ::
  ⟨some 207, .rd (.load none (.t 206)), some (202, true)⟩ ::
  ⟨some 208, .rd (.fa 0 (.t 10)), some (202, true)⟩ ::
  ⟨some 209, .rd (.load none (.t 208)), some (202, true)⟩ ::
  ⟨some 210, .rd (.ia 1 (.t 207) (.t 209)), some (202, true)⟩ ::
  ⟨some 211, .rd (.load none (.t 210)), some (202, true)⟩ ::
  ⟨some 212, .rd (.bin .neq (.t 203) (.t 211)), some (202, true)⟩ ::
  ⟨some 213, .rd (.mv (.t 212)), some (202, true)⟩ ::
  ⟨some 214, .rd (.mv (.t 18)), some (213, false)⟩ ::
  ⟨some 215, .rd (.bin .neq (.t 214) (.c (.int .i64 0))), some (213, false)⟩ ::
  ⟨some 216, .rd (.pick (.t 213) (.c (.bool true)) (.t 215)), some (202, true)⟩ ::
  ⟨some 217, .rd (.pick (.t 202) (.t 216) (.c (.bool false))), some (198, false)⟩ ::
  ⟨some 218, .rd (.pick (.t 198) (.c (.bool true)) (.t 217)), none⟩ ::
  []
def F4.r32 : List ROper :=
  ⟨some 4, .rd (.mv (.c (.bool false))), none⟩ ::
  []
def F4.c54 : RCode := .seq (.reg F4.r32) .ret
def F4.c53 : RCode := .cond (.t 218) F4.c54 .skip
def F4.c52 : RCode := .seq (.dreg F4.r31) F4.c53
def F4.c51 : RCode := .seq (.reg F4.r30) F4.c52
def F4.r33 : List ROper :=
  ⟨some 220, .rd (.bin .eql (.t 61) (.c (.int .i64 5))), none⟩ ::
  ⟨some 219, .rd (.mv (.t 220)), none⟩ ::
  []
def F4.r34 : List ROper :=
  ⟨some 221, .rd (.mv (.t 5)), none⟩ ::
  ⟨some 222, .rd (.fa 1 (.t 9)), none⟩ ::
  ⟨some 223, .rd (.load none (.t 222)), none⟩ ::
  ⟨some 224, .ef (.call 14 [(.t 221), (.t 223)]), none⟩ ::
  []
def F4.r35 : List ROper :=
  ⟨some 225, .rd (.mv (.t 6)), none⟩ ::
  ⟨some 226, .rd (.fa 1 (.t 9)), none⟩ ::
  ⟨some 227, .rd (.load none (.t 226)), none⟩ ::
  ⟨some 228, .ef (.call 17 [(.t 225), (.t 227)]), none⟩ ::
  []
def F4.c57 : RCode := .seq (.reg F4.r34) (.reg F4.r35)
def F4.r36 : List ROper :=
  ⟨some 62, .rd (.mv (.t 5)), none⟩ ::
  ⟨some 63, .rd (.load (some 2) (.t 10)), none⟩ ::
  ⟨some 64, .rd (.fa 5 (.t 9)), none⟩ ::
  ⟨some 65, .rd (.load none (.t 64)), none⟩ ::
  ⟨some 66, .ef (.call 11 [(.t 62), (.t 63), (.t 65)]), none⟩ ::
  ⟨some 19, .rd (.mv (.t 66)), none⟩ ::
  []
def F4.r37 : List ROper :=
  ⟨some 67, .rd (.mv (.t 19)), none⟩ ::
  ⟨some 68, .rd (.bin .eql (.t 67) (.c (.int .i64 0))), none⟩ ::
  ⟨some 69, .rd (.mv (.t 6)), none⟩ ::
  ⟨some 70, .rd (.load (some 2) (.t 10)), none⟩ ::
  ⟨some 71, .ef (.call 16 [(.t 69), (.t 70)]), none⟩ ::
  ⟨some 72, .rd (.beq true (.t 68) (.t 71)), none⟩ ::
  ⟨some 73, .rd (.mv (.t 72)), none⟩ ::
  ⟨some 74, .rd (.mv (.t 19)), some (73, false)⟩ ::
  ⟨some 75, .rd (.bin .neq (.t 74) (.c (.int .i64 0))), some (73, false)⟩ ::
  ⟨some 76, .rd (.mv (.t 75)), some (73, false)⟩ ::
  ⟨some 77, .rd (.mv (.t 19)), some (76, true)⟩ ::
  ⟨some 78, .rd (.bin .neq (.t 77) (.c (.int .i64 13))), some (76, true)⟩ ::
  ⟨some 79, .rd (.pick (.t 76) (.t 78) (.c (.bool false))), some (73, false)⟩ ::
  ⟨some 80, .rd (.pick (.t 73) (.c (.bool true)) (.t 79)), none⟩ ::
  []
def F4.r38 : List ROper :=
  ⟨some 4, .rd (.mv (.c (.bool false))), none⟩ ::
  []
def F4.c62 : RCode := .seq (.reg F4.r38) .ret
def F4.c61 : RCode := .cond (.t 80) F4.c62 .skip
def F4.c60 : RCode := .seq (.reg F4.r37) F4.c61
def F4.r39 : List ROper :=
  ⟨some 81, .rd (.mv (.t 19)), none⟩ ::
  ⟨some 82, .rd (.bin .eql (.t 81) (.c (.int .i64 0))), none⟩ ::
  []
def F4.r40 : List ROper :=
  ⟨some 83, .rd (.mv (.t 6)), none⟩ ::
  ⟨some 84, .rd (.nilc (.t 83)), none⟩ ::
  ⟨some 85, .rd (.fa 1 (.t 84)), none⟩ ::
  ⟨some 86, .rd (.load none (.t 85)), none⟩ ::
  ⟨some 87, .rd (.fa 0 (.t 10)), none⟩ ::
  ⟨some 88, .rd (.load none (.t 87)), none⟩ ::
  ⟨some 89, .rd (.fa 5 (.t 9)), none⟩ ::
  ⟨some 90, .rd (.load none (.t 89)), none⟩ ::
  ⟨some 91, .rd (.ia 1 (.t 86) (.t 88)), none⟩ ::
  ⟨none, .ef (.store 1 (.t 91) (.t 90)), none⟩ ::
  []
def F4.c64 : RCode := .cond (.t 82) (.dreg F4.r40) .skip
def F4.c63 : RCode := .seq (.reg F4.r39) F4.c64
def F4.c59 : RCode := .seq F4.c60 F4.c63
def F4.c58 : RCode := .seq (.reg F4.r36) F4.c59
def F4.c56 : RCode := .cond (.t 219) F4.c57 F4.c58
def F4.c55 : RCode := .seq (.reg F4.r33) F4.c56
def F4.c50 : RCode := .cond (.t 178) F4.c51 F4.c55
def F4.c49 : RCode := .seq (.reg F4.r29) F4.c50
def F4.c32 : RCode := .cond (.t 122) F4.c33 F4.c49
def F4.c31 : RCode := .seq (.reg F4.r18) F4.c32
def F4.c22 : RCode := .cond (.t 92) F4.c23 F4.c31
def F4.c21 : RCode := .seq (.reg F4.r11) F4.c22
def F4.c20 : RCode := .block 2 F4.c21
def F4.c19 : RCode := .seq (.reg F4.r10) F4.c20
def F4.r41 : List ROper :=
  ⟨some 229, .rd (.mv (.t 5)), none⟩ ::
  ⟨some 231, .rd (.mv (.t 6)), none⟩ ::
  ⟨some 232, .rd (.nilc (.t 231)), none⟩ ::
  ⟨some 233, .rd (.fa 1 (.t 232)), none⟩ ::
  ⟨some 234, .rd (.load none (.t 233)), none⟩ ::
  ⟨some 235, .rd (.len 1 (.t 234)), none⟩ ::
  ⟨some 230, .ef (.call 18 [(.t 229)]), none⟩ ::
  ⟨some 236, .rd (.bin .neq (.t 230) (.t 235)), none⟩ ::
  []
def F4.r42 : List ROper :=
  ⟨some 4, .rd (.mv (.c (.bool false))), none⟩ ::
  []
def F4.c67 : RCode := .seq (.reg F4.r42) .ret
def F4.c66 : RCode := .cond (.t 236) F4.c67 .skip
def F4.c65 : RCode := .seq (.dreg F4.r41) F4.c66
def F4.c18 : RCode := .seq F4.c19 F4.c65
def F4.c15 : RCode := .seq F4.c16 F4.c18
def F4.c14 : RCode := .seq (.reg F4.r7) F4.c15
def F4.c13 : RCode := .seq (.reg F4.r6) F4.c14
def F4.c12 : RCode := .block 1 F4.c13
def F4.r43 : List ROper :=
  ⟨some 35, .rd (.mv (.t 8)), none⟩ ::
  ⟨some 36, .rd (.bin .add (.t 35) (.c (.int .i64 1))), none⟩ ::
  ⟨some 8, .rd (.mv (.t 36)), none⟩ ::
  []
def F4.c11 : RCode := .seq F4.c12 (.reg F4.r43)
def F4.c8 : RCode := .seq F4.c9 F4.c11
def F4.c7 : RCode := .loop F4.c8
def F4.c6 : RCode := .block 0 F4.c7
def F4.c5 : RCode := .seq (.reg F4.r4) F4.c6
def F4.r44 : List ROper :=
  ⟨some 237, .ef (.call 12 []), none⟩ ::
  ⟨some 4, .rd (.mv (.t 237)), none⟩ ::
  []
def F4.c68 : RCode := .seq (.reg F4.r44) .ret
def F4.c4 : RCode := .seq F4.c5 F4.c68
def F4.c3 : RCode := .seq (.reg F4.r3) F4.c4
def F4.c2 : RCode := .seq (.reg F4.r2) F4.c3
def F4.c1 : RCode := .seq (.reg F4.r1) F4.c2
def F4.c0 : RCode := .seq (.reg F4.r0) F4.c1
theorem F4.calls {args : List AV} {h : AHeap} {K : AV → AHeap → Prop} (hn : args.length ≤ 238) (k : wT .go Go.Proofs.Try.prog 238 F4.c0 (fun x e h t => atEndT t [.tmp 4] (EndW K) x e h) (envOf 0 args) h) : ACalls Go.Proofs.Try.prog 4 args h K :=
  acallsT 238 Go.Proofs.Try.func4 Go.Proofs.Try.ntmps4 (by kernel_rfl) (by kernel_rfl) hn k
/-- pantograph/pantographlaw19.StoreNil -/
def F5.r0 : List ROper :=
  ⟨some 4, .ef (.box 27 (.t 1)), none⟩ ::
  ⟨some 6, .rd (.mv (.c (.bool false))), none⟩ ::
  []
def F5.r1 : List ROper :=
  ⟨some 7, .rd (.mv (.c (.ptr none))), none⟩ ::
  []
def F5.r2 : List ROper :=
  ⟨some 16, .rd (.mv (.t 7)), none⟩ ::
  ⟨some 17, .rd (.mv (.t 0)), none⟩ ::
  ⟨some 18, .ef (.call 8 [(.t 16), (.t 17)]), none⟩ ::
  ⟨some 15, .rd (.mv (.t 18)), none⟩ ::
  ⟨some 19, .rd (.ext (.t 15) 0), none⟩ ::
  ⟨some 20, .rd (.ext (.t 15) 1), none⟩ ::
  ⟨some 8, .ef (.alloc 27 [(.int .i64 0), (.int .i64 0)]), none⟩ ::
  ⟨none, .ef (.store 2 (.t 8) (.t 19)), none⟩ ::
  ⟨some 9, .rd (.mv (.t 20)), none⟩ ::
  []
def F5.r3 : List ROper :=
  ⟨some 22, .rd (.mv (.t 7)), none⟩ ::
  ⟨some 23, .rd (.load (some 2) (.t 4)), none⟩ ::
  ⟨some 24, .rd (.mv (.t 0)), none⟩ ::
  ⟨some 25, .ef (.call 9 [(.t 22), (.t 23), (.t 24)]), none⟩ ::
  ⟨some 21, .rd (.mv (.t 25)), none⟩ ::
  ⟨some 26, .rd (.ext (.t 21) 0), none⟩ ::
  ⟨some 27, .rd (.ext (.t 21) 1), none⟩ ::
  ⟨some 10, .ef (.alloc 27 [(.int .i64 0), (.int .i64 0)]), none⟩ ::
  ⟨none, .ef (.store 2 (.t 10) (.t 26)), none⟩ ::
  ⟨some 11, .rd (.mv (.t 27)), none⟩ ::
  []
def F5.r4 : List ROper :=
  ⟨some 29, .rd (.mv (.t 7)), none⟩ ::
  ⟨some 30, .rd (.load (some 2) (.t 4)), none⟩ ::
  ⟨some 31, .ef (.call 10 [(.t 29), (.t 30)]), none⟩ ::
  ⟨some 28, .rd (.mv (.t 31)), none⟩ ::
  ⟨some 32, .rd (.ext (.t 28) 0), none⟩ ::
  ⟨some 33, .rd (.ext (.t 28) 1), none⟩ ::
  ⟨some 12, .rd (.mv (.t 32)), none⟩ ::
  ⟨some 13, .rd (.mv (.t 33)), none⟩ ::
  []
def F5.r5 : List ROper :=
  ⟨some 34, .rd (.mv (.t 7)), none⟩ ::
  ⟨some 35, .rd (.mv (.t 0)), none⟩ ::
  ⟨some 36, .ef (.call 14 [(.t 34), (.t 35)]), none⟩ ::
  []
def F5.r6 : List ROper :=
  ⟨some 14, .rd (.mv (.c (.int .i64 2))), none⟩ ::
  []
def F5.r7 : List ROper :=
  ⟨some 37, .rd (.mv (.t 0)), none⟩ ::
  ⟨some 38, .rd (.bin .lss (.t 37) (.c (.int .i64 1))), none⟩ ::
  []
def F5.r8 : List ROper :=
  ⟨some 14, .rd (.mv (.c (.int .i64 1))), none⟩ ::
  []
def F5.c9 : RCode := .cond (.t 38) (.reg F5.r8) .skip
def F5.c8 : RCode := .seq (.reg F5.r7) F5.c9
def F5.r9 : List ROper :=
  ⟨some 39, .rd (.mv (.t 9)), none⟩ ::
  ⟨some 40, .rd (.mv (.t 14)), none⟩ ::
  ⟨some 41, .rd (.bin .eql (.t 39) (.t 40)), none⟩ ::
  ⟨some 42, .rd (.mv (.t 41)), none⟩ ::
  ⟨some 43, .rd (.mv (.t 11)), some (42, true)⟩ ::
  ⟨some 44, .rd (.bin .eql (.t 43) (.c (.int .i64 13))), some (42, true)⟩ ::
  ⟨some 45, .rd (.pick (.t 42) (.t 44) (.c (.bool false))), none⟩ ::
  ⟨some 46, .rd (.mv (.t 45)), none⟩ ::
  ⟨some 47, .rd (.mv (.t 13)), some (46, true)⟩ ::
  ⟨some 48, .rd (.bin .eql (.t 47) (.c (.int .i64 13))), some (46, true)⟩ ::
  ⟨some 49, .rd (.pick (.t 46) (.t 48) (.c (.bool false))), none⟩ ::
  ⟨some 50, .rd (.mv (.t 49)), none⟩ ::
  ⟨some 51, .rd (.mv (.t 7)), some (50, true)⟩ ::
  ⟨some 52, .rd (.load (some 2) (.t 4)), some (50, true)⟩ ::
  ⟨some 53, .rd (.mv (.t 2)), some (50, true)⟩ ::
  ⟨some 54, .ef (.call 11 [(.t 51), (.t 52), (.t 53)]), some (50, true)⟩ ::
  ⟨some 55, .rd (.bin .eql (.t 54) (.c (.int .i64 13))), some (50, true)⟩ ::
  ⟨some 56, .rd (.pick (.t 50) (.t 55) (.c (.bool false))), none⟩ ::
  ⟨some 57, .rd (.mv (.t 56)), none⟩ ::
  ⟨some 58, .rd (.mv (.t 7)), some (57, true)⟩ ::
  ⟨some 59, .ef (.call 18 [(.t 58)]), some (57, true)⟩ ::
  ⟨some 60, .rd (.bin .eql (.t 59) (.c (.int .i64 0))), some (57, true)⟩ ::
  ⟨some 61, .rd (.pick (.t 57) (.t 60) (.c (.bool false))), none⟩ ::
  ⟨some 62, .rd (.mv (.t 61)), none⟩ ::
  ⟨some 63, .ef (.call 12 []), some (62, true)⟩ ::
  ⟨some 64, .rd (.pick (.t 62) (.t 63) (.c (.bool false))), none⟩ ::
  ⟨some 6, .rd (.mv (.t 64)), none⟩ ::
  []
def F5.c10 : RCode := .seq (.reg F5.r9) .ret
def F5.c7 : RCode := .seq F5.c8 F5.c10
def F5.c6 : RCode := .seq (.reg F5.r6) F5.c7
def F5.c5 : RCode := .seq (.reg F5.r5) F5.c6
def F5.c4 : RCode := .seq (.reg F5.r4) F5.c5
def F5.c3 : RCode := .seq (.reg F5.r3) F5.c4
def F5.c2 : RCode := .seq (.reg F5.r2) F5.c3
def F5.c1 : RCode := .seq (.reg F5.r1) F5.c2
def F5.c0 : RCode := .seq (.reg F5.r0) F5.c1
theorem F5.calls {args : List AV} {h : AHeap} {K : AV → AHeap → Prop} (hn : args.length ≤ 65) (k : wT .go Go.Proofs.Try.prog 65 F5.c0 (fun x e h t => atEndT t [.tmp 6] (EndW K) x e h) (envOf 0 args) h) : ACalls Go.Proofs.Try.prog 5 args h K :=
  acallsT 65 Go.Proofs.Try.func5 Go.Proofs.Try.ntmps5 (by kernel_rfl) (by kernel_rfl) hn k
/-- pantograph/pantographlaw19.StoreCuts -/
def F6.r0 : List ROper :=
  ⟨some 4, .rd (.mv (.c (.bool false))), none⟩ ::
  []
def F6.r1 : List ROper :=
  ⟨some 19, .ef (.call 7 [(.c (.int .i64 4000))]), none⟩ ::
  ⟨some 5, .rd (.mv (.t 19)), none⟩ ::
  []
def F6.r2 : List ROper :=
  ⟨some 6, .rd (.mv (.c (.sl [] true))), none⟩ ::
  []
def F6.r3 : List ROper :=
  ⟨some 7, .rd (.mv (.c (.int .i64 0))), none⟩ ::
  []
def F6.r4 : List ROper :=
  ⟨some 20, .rd (.mv (.t 7)), none⟩ ::
  ⟨some 21, .rd (.mv (.t 0)), none⟩ ::
  ⟨some 22, .rd (.len 1 (.t 21)), none⟩ ::
  ⟨some 23, .rd (.bin .lss (.t 20) (.t 22)), none⟩ ::
  ⟨some 24, .rd (.mv (.t 23)), none⟩ ::
  ⟨some 25, .rd (.mv (.t 7)), some (24, true)⟩ ::
  ⟨some 26, .rd (.bin .lss (.t 25) (.c (.int .i64 40))), some (24, true)⟩ ::
  ⟨some 27, .rd (.pick (.t 24) (.t 26) (.c (.bool false))), none⟩ ::
  []
def F6.c9 : RCode := .cond (.t 27) .skip (.exit 0)
def F6.c8 : RCode := .seq (.reg F6.r4) F6.c9
def F6.r5 : List ROper :=
  ⟨some 31, .rd (.mv (.t 5)), none⟩ ::
  ⟨some 32, .rd (.mv (.t 0)), none⟩ ::
  ⟨some 33, .rd (.mv (.t 7)), none⟩ ::
  ⟨some 34, .rd (.ia 1 (.t 32) (.t 33)), none⟩ ::
  ⟨some 35, .rd (.load none (.t 34)), none⟩ ::
  ⟨some 36, .rd (.bin .rem (.t 35) (.c (.int .u8 60))), none⟩ ::
  ⟨some 37, .rd (.conv .i64 (.t 36)), none⟩ ::
  ⟨some 38, .rd (.bin .add (.c (.int .i64 1)) (.t 37)), none⟩ ::
  ⟨some 39, .ef (.call 8 [(.t 31), (.t 38)]), none⟩ ::
  ⟨some 30, .rd (.mv (.t 39)), none⟩ ::
  ⟨some 40, .rd (.ext (.t 30) 0), none⟩ ::
  ⟨some 41, .rd (.ext (.t 30) 1), none⟩ ::
  ⟨some 8, .ef (.alloc 27 [(.int .i64 0), (.int .i64 0)]), none⟩ ::
  ⟨none, .ef (.store 2 (.t 8) (.t 40)), none⟩ ::
  ⟨some 9, .rd (.mv (.t 41)), none⟩ ::
  []
def F6.r6 : List ROper :=
  ⟨some 42, .rd (.mv (.t 9)), none⟩ ::
  ⟨some 43, .rd (.bin .neq (.t 42) (.c (.int .i64 0))), none⟩ ::
  ⟨some 44, .rd (.mv (.t 43)), none⟩ ::
  ⟨some 45, .rd (.mv (.t 5)), some (44, false)⟩ ::
  ⟨some 46, .rd (.load (some 2) (.t 8)), some (44, false)⟩ ::
  ⟨some 47, .rd (.mv (.t 7)), some (44, false)⟩ ::
  ⟨some 48, .rd (.bin .add (.t 47) (.c (.int .i64 1))), some (44, false)⟩ ::
  ⟨some 49, .ef (.call 11 [(.t 45), (.t 46), (.t 48)]), some (44, false)⟩ ::
  ⟨some 50, .rd (.bin .neq (.t 49) (.c (.int .i64 0))), some (44, false)⟩ ::
  ⟨some 51, .rd (.pick (.t 44) (.c (.bool true)) (.t 50)), none⟩ ::
  []
def F6.r7 : List ROper :=
  ⟨some 4, .rd (.mv (.c (.bool false))), none⟩ ::
  []
def F6.c16 : RCode := .seq (.reg F6.r7) .ret
def F6.c15 : RCode := .cond (.t 51) F6.c16 .skip
def F6.c14 : RCode := .seq (.reg F6.r6) F6.c15
def F6.r8 : List ROper :=
  ⟨some 52, .rd (.mv (.t 6)), none⟩ ::
  ⟨some 53, .rd (.load (some 2) (.t 8)), none⟩ ::
  ⟨some 54, .rd (.bsl 2 1 [(.int .i64 0), (.int .i64 0)] [(0, 2, (.t 53))]), none⟩ ::
  ⟨some 55, .ef (.append 27 2 16 (.t 52) (.t 54)), none⟩ ::
  ⟨some 6, .rd (.mv (.t 55)), none⟩ ::
  []
def F6.c13 : RCode := .seq F6.c14 (.reg F6.r8)
def F6.c12 : RCode := .seq (.reg F6.r5) F6.c13
def F6.c11 : RCode := .block 1 F6.c12
def F6.r9 : List ROper :=
  ⟨some 28, .rd (.mv (.t 7)), none⟩ ::
  ⟨some 29, .rd (.bin .add (.t 28) (.c (.int .i64 1))), none⟩ ::
  ⟨some 7, .rd (.mv (.t 29)), none⟩ ::
  []
def F6.c10 : RCode := .seq F6.c11 (.reg F6.r9)
def F6.c7 : RCode := .seq F6.c8 F6.c10
def F6.c6 : RCode := .loop F6.c7
def F6.c5 : RCode := .block 0 F6.c6
def F6.c4 : RCode := .seq (.reg F6.r3) F6.c5
def F6.r10 : List ROper :=
  ⟨some 56, .rd (.mv (.t 5)), none⟩ ::
  ⟨some 57, .ef (.call 18 [(.t 56)]), none⟩ ::
  ⟨some 10, .rd (.mv (.t 57)), none⟩ ::
  []
def F6.r11 : List ROper :=
  ⟨some 58, .rd (.mv (.t 1)), none⟩ ::
  ⟨some 59, .rd (.conv .i64 (.t 58)), none⟩ ::
  ⟨some 60, .rd (.mv (.t 10)), none⟩ ::
  ⟨some 61, .rd (.mn (.t 59) (.t 60)), none⟩ ::
  ⟨some 11, .rd (.mv (.t 61)), none⟩ ::
  []
def F6.r12 : List ROper :=
  ⟨some 62, .rd (.mv (.t 5)), none⟩ ::
  ⟨some 63, .rd (.mv (.t 11)), none⟩ ::
  ⟨some 64, .ef (.call 14 [(.t 62), (.t 63)]), none⟩ ::
  []
def F6.r13 : List ROper :=
  ⟨some 12, .rd (.mv (.c (.int .i64 0))), none⟩ ::
  []
def F6.r14 : List ROper :=
  ⟨some 65, .rd (.mv (.t 12)), none⟩ ::
  ⟨some 66, .rd (.mv (.t 6)), none⟩ ::
  ⟨some 67, .rd (.len 1 (.t 66)), none⟩ ::
  ⟨some 68, .rd (.bin .lss (.t 65) (.t 67)), none⟩ ::
  []
def F6.c26 : RCode := .cond (.t 68) .skip (.exit 2)
def F6.c25 : RCode := .seq (.reg F6.r14) F6.c26
def F6.r15 : List ROper :=
  ⟨some 72, .rd (.mv (.t 5)), none⟩ ::
  ⟨some 73, .rd (.mv (.t 6)), none⟩ ::
  ⟨some 74, .rd (.mv (.t 12)), none⟩ ::
  ⟨some 75, .rd (.ia 2 (.t 73) (.t 74)), none⟩ ::
  ⟨some 76, .rd (.load (some 2) (.t 75)), none⟩ ::
  ⟨some 77, .ef (.call 10 [(.t 72), (.t 76)]), none⟩ ::
  ⟨some 71, .rd (.mv (.t 77)), none⟩ ::
  ⟨some 78, .rd (.ext (.t 71) 0), none⟩ ::
  ⟨some 79, .rd (.ext (.t 71) 1), none⟩ ::
  ⟨some 13, .rd (.mv (.t 78)), none⟩ ::
  ⟨some 14, .rd (.mv (.t 79)), none⟩ ::
  []
def F6.r16 : List ROper :=
  ⟨some 80, .rd (.mv (.t 6)), none⟩ ::
  ⟨some 81, .rd (.mv (.t 12)), none⟩ ::
  ⟨some 82, .rd (.ia 2 (.t 80) (.t 81)), none⟩ ::
  ⟨some 83, .rd (.fa 0 (.t 82)), none⟩ ::
  ⟨some 84, .rd (.load none (.t 83)), none⟩ ::
  ⟨some 85, .rd (.mv (.t 6)), none⟩ ::
  ⟨some 86, .rd (.mv (.t 12)), none⟩ ::
  ⟨some 87, .rd (.ia 2 (.t 85) (.t 86)), none⟩ ::
  ⟨some 88, .rd (.fa 1 (.t 87)), none⟩ ::
  ⟨some 89, .rd (.load none (.t 88)), none⟩ ::
  ⟨some 90, .rd (.bin .add (.t 84) (.t 89)), none⟩ ::
  ⟨some 91, .rd (.mv (.t 11)), none⟩ ::
  ⟨some 92, .rd (.bin .leq (.t 90) (.t 91)), none⟩ ::
  []
def F6.r17 : List ROper :=
  ⟨some 93, .rd (.mv (.t 13)), none⟩ ::
  ⟨some 94, .rd (.mv (.t 12)), none⟩ ::
  ⟨some 95, .rd (.bin .add (.t 94) (.c (.int .i64 1))), none⟩ ::
  ⟨some 96, .rd (.bin .neq (.t 93) (.t 95)), none⟩ ::
  ⟨some 97, .rd (.mv (.t 96)), none⟩ ::
  ⟨some 98, .rd (.mv (.t 14)), some (97, false)⟩ ::
  ⟨some 99, .rd (.bin .neq (.t 98) (.c (.int .i64 0))), some (97, false)⟩ ::
  ⟨some 100, .rd (.pick (.t 97) (.c (.bool true)) (.t 99)), none⟩ ::
  []
def F6.r18 : List ROper :=
  ⟨some 4, .rd (.mv (.c (.bool false))), none⟩ ::
  []
def F6.c34 : RCode := .seq (.reg F6.r18) .ret
def F6.c33 : RCode := .cond (.t 100) F6.c34 .skip
def F6.c32 : RCode := .seq (.reg F6.r17) F6.c33
def F6.r19 : List ROper :=
  ⟨some 101, .rd (.mv (.t 14)), none⟩ ::
  ⟨some 102, .rd (.bin .neq (.t 101) (.c (.int .i64 13))), none⟩ ::
  ⟨some 103, .rd (.mv (.t 102)), none⟩ ::
  ⟨some 104, .rd (.mv (.t 13)), some (103, false)⟩ ::
  ⟨some 105, .rd (.bin .neq (.t 104) (.c (.int .i64 0))), some (103, false)⟩ ::
  ⟨some 106, .rd (.pick (.t 103) (.c (.bool true)) (.t 105)), none⟩ ::
  []
def F6.r20 : List ROper :=
  ⟨some 4, .rd (.mv (.c (.bool false))), none⟩ ::
  []
def F6.c37 : RCode := .seq (.reg F6.r20) .ret
def F6.c36 : RCode := .cond (.t 106) F6.c37 .skip
def F6.c35 : RCode := .seq (.reg F6.r19) F6.c36
def F6.c31 : RCode := .cond (.t 92) F6.c32 F6.c35
def F6.c30 : RCode := .seq (.dreg F6.r16) F6.c31
def F6.c29 : RCode := .seq (.reg F6.r15) F6.c30
def F6.c28 : RCode := .block 3 F6.c29
def F6.r21 : List ROper :=
  ⟨some 69, .rd (.mv (.t 12)), none⟩ ::
  ⟨some 70, .rd (.bin .add (.t 69) (.c (.int .i64 1))), none⟩ ::
  ⟨some 12, .rd (.mv (.t 70)), none⟩ ::
  []
def F6.c27 : RCode := .seq F6.c28 (.reg F6.r21)
def F6.c24 : RCode := .seq F6.c25 F6.c27
def F6.c23 : RCode := .loop F6.c24
def F6.c22 : RCode := .block 2 F6.c23
def F6.c21 : RCode := .seq (.reg F6.r13) F6.c22
def F6.r22 : List ROper :=
  ⟨some 108, .rd (.mv (.t 5)), none⟩ ::
  ⟨some 109, .rd (.mv (.t 11)), none⟩ ::
  ⟨some 110, .rd (.bin .sub (.c (.int .i64 4000)) (.t 109)), none⟩ ::
  ⟨some 111, .rd (.bin .add (.t 110) (.c (.int .i64 1))), none⟩ ::
  ⟨some 112, .ef (.call 8 [(.t 108), (.t 111)]), none⟩ ::
  ⟨some 107, .rd (.mv (.t 112)), none⟩ ::
  ⟨some 113, .rd (.ext (.t 107) 0), none⟩ ::
  ⟨some 114, .rd (.ext (.t 107) 1), none⟩ ::
  ⟨some 15, .ef (.alloc 27 [(.int .i64 0), (.int .i64 0)]), none⟩ ::
  ⟨none, .ef (.store 2 (.t 15) (.t 113)), none⟩ ::
  ⟨some 16, .rd (.mv (.t 114)), none⟩ ::
  []
def F6.r23 : List ROper :=
  ⟨some 116, .rd (.mv (.t 5)), none⟩ ::
  ⟨some 117, .rd (.mv (.t 11)), none⟩ ::
  ⟨some 118, .rd (.bin .sub (.c (.int .i64 4000)) (.t 117)), none⟩ ::
  ⟨some 119, .ef (.call 8 [(.t 116), (.t 118)]), none⟩ ::
  ⟨some 115, .rd (.mv (.t 119)), none⟩ ::
  ⟨some 120, .rd (.ext (.t 115) 0), none⟩ ::
  ⟨some 121, .rd (.ext (.t 115) 1), none⟩ ::
  ⟨some 17, .ef (.alloc 27 [(.int .i64 0), (.int .i64 0)]), none⟩ ::
  ⟨none, .ef (.store 2 (.t 17) (.t 120)), none⟩ ::
  ⟨some 18, .rd (.mv (.t 121)), none⟩ ::
  []
def F6.r24 : List ROper :=
  ⟨some 122, .rd (.mv (.t 16)), none⟩ ::
  ⟨some 123, .rd (.bin .eql (.t 122) (.c (.int .i64 2))), none⟩ ::
  ⟨some 124, .rd (.mv (.t 123)), none⟩ ::
  ⟨some 125, .rd (.mv (.t 18)), some (124, true)⟩ ::
  ⟨some 126, .rd (.bin .eql (.t 125) (.c (.int .i64 0))), some (124, true)⟩ ::
  ⟨some 127, .rd (.mv (.t 126)), some (124, true)⟩ ::
  ⟨some 128, .rd (.mv (.t 11)), some (127, false)⟩ ::
  ⟨some 129, .rd (.bin .eql (.t 128) (.c (.int .i64 4000))), some (127, false)⟩ ::
  ⟨some 130, .rd (.pick (.t 127) (.c (.bool true)) (.t 129)), some (124, true)⟩ ::
  ⟨some 131, .rd (.pick (.t 124) (.t 130) (.c (.bool false))), none⟩ ::
  ⟨some 132, .rd (.mv (.t 131)), none⟩ ::
  ⟨some 133, .ef (.call 12 []), some (132, true)⟩ ::
  ⟨some 134, .rd (.pick (.t 132) (.t 133) (.c (.bool false))), none⟩ ::
  ⟨some 4, .rd (.mv (.t 134)), none⟩ ::
  []
def F6.c40 : RCode := .seq (.reg F6.r24) .ret
def F6.c39 : RCode := .seq (.reg F6.r23) F6.c40
def F6.c38 : RCode := .seq (.reg F6.r22) F6.c39
def F6.c20 : RCode := .seq F6.c21 F6.c38
def F6.c19 : RCode := .seq (.reg F6.r12) F6.c20
def F6.c18 : RCode := .seq (.reg F6.r11) F6.c19
def F6.c17 : RCode := .seq (.reg F6.r10) F6.c18
def F6.c3 : RCode := .seq F6.c4 F6.c17
def F6.c2 : RCode := .seq (.reg F6.r2) F6.c3
def F6.c1 : RCode := .seq (.reg F6.r1) F6.c2
def F6.c0 : RCode := .seq (.reg F6.r0) F6.c1
theorem F6.calls {args : List AV} {h : AHeap} {K : AV → AHeap → Prop} (hn : args.length ≤ 135) (k : wT .go Go.Proofs.Try.prog 135 F6.c0 (fun x e h t => atEndT t [.tmp 4] (EndW K) x e h) (envOf 0 args) h) : ACalls Go.Proofs.Try.prog 6 args h K :=
  acallsT 135 Go.Proofs.Try.func6 Go.Proofs.Try.ntmps6 (by kernel_rfl) (by kernel_rfl) hn k
/-- pantograph/store.New -/
def F7.r0 : List ROper :=
  ⟨some 2, .rd (.mv (.c (.ptr none))), none⟩ ::
  []
def F7.r1 : List ROper :=
  ⟨some 3, .rd (.mv (.t 0)), none⟩ ::
  ⟨some 4, .rd (.build [(.int .i64 0), (.sl [] true)] [(0, 1, (.t 3))]), none⟩ ::
  ⟨some 5, .ef (.box 54 (.t 4)), none⟩ ::
  ⟨some 2, .rd (.mv (.t 5)), none⟩ ::
  []
def F7.c1 : RCode := .seq (.reg F7.r1) .ret
def F7.c0 : RCode := .seq (.reg F7.r0) F7.c1
theorem F7.calls {args : List AV} {h : AHeap} {K : AV → AHeap → Prop} (hn : args.length ≤ 6) (k : wT .go Go.Proofs.Try.prog 6 F7.c0 (fun x e h t => atEndT t [.tmp 2] (EndW K) x e h) (envOf 0 args) h) : ACalls Go.Proofs.Try.prog 7 args h K :=
  acallsT 6 Go.Proofs.Try.func7 Go.Proofs.Try.ntmps7 (by kernel_rfl) (by kernel_rfl) hn k
/-- (*pantograph/store.Store).Make -/
def F8.r0 : List ROper :=
  ⟨some 4, .ef (.alloc 27 [(.int .i64 0), (.int .i64 0)]), none⟩ ::
  ⟨some 5, .rd (.mv (.c (.int .i64 0))), none⟩ ::
  []
def F8.r1 : List ROper :=
  ⟨some 8, .rd (.mv (.t 1)), none⟩ ::
  ⟨some 9, .rd (.bin .lss (.t 8) (.c (.int .i64 1))), none⟩ ::
  ⟨some 7, .rd (.mv (.t 9)), none⟩ ::
  []
def F8.r2 : List ROper :=
  ⟨some 10, .rd (.build [(.int .i64 0), (.int .i64 0)] []), none⟩ ::
  ⟨none, .ef (.store 2 (.t 4) (.t 10)), none⟩ ::
  ⟨some 5, .rd (.mv (.c (.int .i64 1))), none⟩ ::
  []
def F8.c5 : RCode := .seq (.reg F8.r2) .ret
def F8.r3 : List ROper :=
  ⟨some 12, .rd (.mv (.t 0)), none⟩ ::
  ⟨some 13, .rd (.peq false (.t 12) (.c (.ptr none))), none⟩ ::
  ⟨some 14, .rd (.mv (.t 13)), none⟩ ::
  ⟨some 15, .rd (.mv (.t 1)), some (14, false)⟩ ::
  ⟨some 16, .rd (.mv (.t 0)), some (14, false)⟩ ::
  ⟨some 17, .rd (.nilc (.t 16)), some (14, false)⟩ ::
  ⟨some 18, .rd (.fa 0 (.t 17)), some (14, false)⟩ ::
  ⟨some 19, .rd (.load none (.t 18)), some (14, false)⟩ ::
  ⟨some 20, .rd (.mv (.t 0)), some (14, false)⟩ ::
  ⟨some 21, .rd (.nilc (.t 20)), some (14, false)⟩ ::
  ⟨some 22, .rd (.fa 1 (.t 21)), some (14, false)⟩ ::
  ⟨some 23, .rd (.load none (.t 22)), some (14, false)⟩ ::
  ⟨some 24, .rd (.len 1 (.t 23)), some (14, false)⟩ ::
  ⟨some 25, .rd (.bin .sub (.t 19) (.t 24)), some (14, false)⟩ ::
  ⟨some 26, .rd (.bin .gtr (.t 15) (.t 25)), some (14, false)⟩ ::
  ⟨some 27, .rd (.pick (.t 14) (.c (.bool true)) (.t 26)), none⟩ ::
  ⟨some 11, .rd (.mv (.t 27)), none⟩ ::
  []
def F8.r4 : List ROper :=
  ⟨some 28, .rd (.build [(.int .i64 0), (.int .i64 0)] []), none⟩ ::
  ⟨none, .ef (.store 2 (.t 4) (.t 28)), none⟩ ::
  ⟨some 5, .rd (.mv (.c (.int .i64 2))), none⟩ ::
  []
def F8.c8 : RCode := .seq (.reg F8.r4) .ret
def F8.c7 : RCode := .cond (.t 11) F8.c8 .skip
def F8.c6 : RCode := .seq (.dreg F8.r3) F8.c7
def F8.c4 : RCode := .cond (.t 7) F8.c5 F8.c6
def F8.c3 : RCode := .seq (.reg F8.r1) F8.c4
def F8.c2 : RCode := .block 0 F8.c3
def F8.r5 : List ROper :=
  ⟨some 29, .rd (.mv (.t 0)), none⟩ ::
  ⟨some 30, .rd (.nilc (.t 29)), none⟩ ::
  ⟨some 31, .rd (.fa 1 (.t 30)), none⟩ ::
  ⟨some 32, .rd (.load none (.t 31)), none⟩ ::
  ⟨some 33, .rd (.len 1 (.t 32)), none⟩ ::
  ⟨some 6, .rd (.mv (.t 33)), none⟩ ::
  []
def F8.r6 : List ROper :=
  ⟨some 34, .rd (.mv (.t 0)), none⟩ ::
  ⟨some 35, .rd (.mv (.t 0)), none⟩ ::
  ⟨some 36, .rd (.nilc (.t 35)), none⟩ ::
  ⟨some 37, .rd (.fa 1 (.t 36)), none⟩ ::
  ⟨some 38, .rd (.load none (.t 37)), none⟩ ::
  ⟨some 39, .rd (.mv (.t 1)), none⟩ ::
  ⟨some 40, .ef (.appendz 2 8 (.int .i64 0) (.t 38) (.t 39)), none⟩ ::
  ⟨some 41, .rd (.nilc (.t 34)), none⟩ ::
  ⟨some 42, .rd (.fa 1 (.t 41)), none⟩ ::
  ⟨none, .ef (.store 1 (.t 42) (.t 40)), none⟩ ::
  []
def F8.r7 : List ROper :=
  ⟨some 43, .rd (.mv (.t 6)), none⟩ ::
  ⟨some 44, .rd (.mv (.t 1)), none⟩ ::
  ⟨some 45, .rd (.build [(.int .i64 0), (.int .i64 0)] [(0, 1, (.t 43)), (1, 1, (.t 44))]), none⟩ ::
  ⟨none, .ef (.store 2 (.t 4) (.t 45)), none⟩ ::
  ⟨some 5, .rd (.mv (.c (.int .i64 0))), none⟩ ::
  []
def F8.c11 : RCode := .seq (.reg F8.r7) .ret
def F8.c10 : RCode := .seq (.reg F8.r6) F8.c11
def F8.c9 : RCode := .seq (.reg F8.r5) F8.c10
def F8.c1 : RCode := .seq F8.c2 F8.c9
def F8.c0 : RCode := .seq (.reg F8.r0) F8.c1
theorem F8.calls {args : List AV} {h : AHeap} {K : AV → AHeap → Prop} (hn : args.length ≤ 46) (k : wT .go Go.Proofs.Try.prog 46 F8.c0 (fun x e h t => atEndT t [.cell 4 (some 2), .tmp 5] (EndW K) x e h) (envOf 0 args) h) : ACalls Go.Proofs.Try.prog 8 args h K :=
  acallsT 46 Go.Proofs.Try.func8 Go.Proofs.Try.ntmps8 (by kernel_rfl) (by kernel_rfl) hn k
/-- (*pantograph/store.Store).Cell -/
def F9.r0 : List ROper :=
  ⟨some 4, .ef (.box 27 (.t 1)), none⟩ ::
  ⟨some 6, .ef (.alloc 27 [(.int .i64 0), (.int .i64 0)]), none⟩ ::
  ⟨some 7, .rd (.mv (.c (.int .i64 0))), none⟩ ::
  []
def F9.r1 : List ROper :=
  ⟨some 9, .rd (.mv (.t 0)), none⟩ ::
  ⟨some 10, .rd (.load (some 2) (.t 4)), none⟩ ::
  ⟨some 11, .ef (.call 19 [(.t 9), (.t 10)]), none⟩ ::
  ⟨some 12, .rd (.un .not (.t 11)), none⟩ ::
  ⟨some 8, .rd (.mv (.t 12)), none⟩ ::
  []
def F9.r2 : List ROper :=
  ⟨some 13, .rd (.build [(.int .i64 0), (.int .i64 0)] []), none⟩ ::
  ⟨none, .ef (.store 2 (.t 6) (.t 13)), none⟩ ::
  ⟨some 7, .rd (.mv (.c (.int .i64 13))), none⟩ ::
  []
def F9.c5 : RCode := .seq (.reg F9.r2) .ret
def F9.r3 : List ROper :=
  ⟨some 15, .rd (.mv (.t 2)), none⟩ ::
  ⟨some 16, .rd (.bin .lss (.t 15) (.c (.int .i64 0))), none⟩ ::
  ⟨some 17, .rd (.mv (.t 16)), none⟩ ::
  ⟨some 18, .rd (.mv (.t 2)), some (17, false)⟩ ::
  ⟨some 19, .rd (.fa 1 (.t 4)), some (17, false)⟩ ::
  ⟨some 20, .rd (.load none (.t 19)), some (17, false)⟩ ::
  ⟨some 21, .rd (.bin .geq (.t 18) (.t 20)), some (17, false)⟩ ::
  ⟨some 22, .rd (.pick (.t 17) (.c (.bool true)) (.t 21)), none⟩ ::
  ⟨some 14, .rd (.mv (.t 22)), none⟩ ::
  []
def F9.r4 : List ROper :=
  ⟨some 23, .rd (.build [(.int .i64 0), (.int .i64 0)] []), none⟩ ::
  ⟨none, .ef (.store 2 (.t 6) (.t 23)), none⟩ ::
  ⟨some 7, .rd (.mv (.c (.int .i64 19))), none⟩ ::
  []
def F9.c8 : RCode := .seq (.reg F9.r4) .ret
def F9.c7 : RCode := .cond (.t 14) F9.c8 .skip
def F9.c6 : RCode := .seq (.reg F9.r3) F9.c7
def F9.c4 : RCode := .cond (.t 8) F9.c5 F9.c6
def F9.c3 : RCode := .seq (.reg F9.r1) F9.c4
def F9.c2 : RCode := .block 0 F9.c3
def F9.r5 : List ROper :=
  ⟨some 24, .rd (.fa 0 (.t 4)), none⟩ ::
  ⟨some 25, .rd (.load none (.t 24)), none⟩ ::
  ⟨some 26, .rd (.mv (.t 2)), none⟩ ::
  ⟨some 27, .rd (.bin .add (.t 25) (.t 26)), none⟩ ::
  ⟨some 28, .rd (.build [(.int .i64 0), (.int .i64 0)] [(0, 1, (.t 27)), (1, 1, (.c (.int .i64 1)))]), none⟩ ::
  ⟨none, .ef (.store 2 (.t 6) (.t 28)), none⟩ ::
  ⟨some 7, .rd (.mv (.c (.int .i64 0))), none⟩ ::
  []
def F9.c9 : RCode := .seq (.reg F9.r5) .ret
def F9.c1 : RCode := .seq F9.c2 F9.c9
def F9.c0 : RCode := .seq (.reg F9.r0) F9.c1
theorem F9.calls {args : List AV} {h : AHeap} {K : AV → AHeap → Prop} (hn : args.length ≤ 29) (k : wT .go Go.Proofs.Try.prog 29 F9.c0 (fun x e h t => atEndT t [.cell 6 (some 2), .tmp 7] (EndW K) x e h) (envOf 0 args) h) : ACalls Go.Proofs.Try.prog 9 args h K :=
  acallsT 29 Go.Proofs.Try.func9 Go.Proofs.Try.ntmps9 (by kernel_rfl) (by kernel_rfl) hn k
/-- (*pantograph/store.Store).Get -/
def F10.r0 : List ROper :=
  ⟨some 3, .ef (.box 27 (.t 1)), none⟩ ::
  ⟨some 4, .rd (.mv (.c (.int .i64 0))), none⟩ ::
  ⟨some 5, .rd (.mv (.c (.int .i64 0))), none⟩ ::
  []
def F10.r1 : List ROper :=
  ⟨some 6, .rd (.mv (.t 0)), none⟩ ::
  ⟨some 7, .rd (.load (some 2) (.t 3)), none⟩ ::
  ⟨some 8, .ef (.call 19 [(.t 6), (.t 7)]), none⟩ ::
  ⟨some 9, .rd (.un .not (.t 8)), none⟩ ::
  []
def F10.r2 : List ROper :=
  ⟨some 4, .rd (.mv (.c (.int .i64 0))), none⟩ ::
  ⟨some 5, .rd (.mv (.c (.int .i64 13))), none⟩ ::
  []
def F10.c4 : RCode := .seq (.reg F10.r2) .ret
def F10.c3 : RCode := .cond (.t 9) F10.c4 .skip
def F10.c2 : RCode := .seq (.reg F10.r1) F10.c3
def F10.r3 : List ROper :=
  ⟨some 10, .rd (.mv (.t 0)), none⟩ ::
  ⟨some 11, .rd (.nilc (.t 10)), none⟩ ::
  ⟨some 12, .rd (.fa 1 (.t 11)), none⟩ ::
  ⟨some 13, .rd (.load none (.t 12)), none⟩ ::
  ⟨some 14, .rd (.fa 0 (.t 3)), none⟩ ::
  ⟨some 15, .rd (.load none (.t 14)), none⟩ ::
  ⟨some 16, .rd (.ia 1 (.t 13) (.t 15)), none⟩ ::
  ⟨some 17, .rd (.load none (.t 16)), none⟩ ::
  ⟨some 4, .rd (.mv (.t 17)), none⟩ ::
  ⟨some 5, .rd (.mv (.c (.int .i64 0))), none⟩ ::
  []
def F10.c5 : RCode := .seq (.dreg F10.r3) .ret
def F10.c1 : RCode := .seq F10.c2 F10.c5
def F10.c0 : RCode := .seq (.reg F10.r0) F10.c1
theorem F10.calls {args : List AV} {h : AHeap} {K : AV → AHeap → Prop} (hn : args.length ≤ 18) (k : wT .go Go.Proofs.Try.prog 18 F10.c0 (fun x e h t => atEndT t [.tmp 4, .tmp 5] (EndW K) x e h) (envOf 0 args) h) : ACalls Go.Proofs.Try.prog 10 args h K :=
  acallsT 18 Go.Proofs.Try.func10 Go.Proofs.Try.ntmps10 (by kernel_rfl) (by kernel_rfl) hn k
/-- (*pantograph/store.Store).Set -/
def F11.r0 : List ROper :=
  ⟨some 4, .ef (.box 27 (.t 1)), none⟩ ::
  ⟨some 6, .rd (.mv (.c (.int .i64 0))), none⟩ ::
  []
def F11.r1 : List ROper :=
  ⟨some 7, .rd (.mv (.t 0)), none⟩ ::
  ⟨some 8, .rd (.load (some 2) (.t 4)), none⟩ ::
  ⟨some 9, .ef (.call 19 [(.t 7), (.t 8)]), none⟩ ::
  ⟨some 10, .rd (.un .not (.t 9)), none⟩ ::
  []
def F11.r2 : List ROper :=
  ⟨some 6, .rd (.mv (.c (.int .i64 13))), none⟩ ::
  []
def F11.c4 : RCode := .seq (.reg F11.r2) .ret
def F11.c3 : RCode := .cond (.t 10) F11.c4 .skip
def F11.c2 : RCode := .seq (.reg F11.r1) F11.c3
def F11.r3 : List ROper :=
  ⟨some 11, .rd (.mv (.t 0)), none⟩ ::
  ⟨some 12, .rd (.nilc (.t 11)), none⟩ ::
  ⟨some 13, .rd (.fa 1 (.t 12)), none⟩ ::
  ⟨some 14, .rd (.load none (.t 13)), none⟩ ::
  ⟨some 15, .rd (.fa 0 (.t 4)), none⟩ ::
  ⟨some 16, .rd (.load none (.t 15)), none⟩ ::
  ⟨some 17, .rd (.mv (.t 2)), none⟩ ::
  ⟨some 18, .rd (.ia 1 (.t 14) (.t 16)), none⟩ ::
  ⟨none, .ef (.store 1 (.t 18) (.t 17)), none⟩ ::
  []
def F11.r4 : List ROper :=
  ⟨some 6, .rd (.mv (.c (.int .i64 0))), none⟩ ::
  []
def F11.c6 : RCode := .seq (.reg F11.r4) .ret
def F11.c5 : RCode := .seq (.dreg F11.r3) F11.c6
def F11.c1 : RCode := .seq F11.c2 F11.c5
def F11.c0 : RCode := .seq (.reg F11.r0) F11.c1
theorem F11.calls {args : List AV} {h : AHeap} {K : AV → AHeap → Prop} (hn : args.length ≤ 19) (k : wT .go Go.Proofs.Try.prog 19 F11.c0 (fun x e h t => atEndT t [.tmp 6] (EndW K) x e h) (envOf 0 args) h) : ACalls Go.Proofs.Try.prog 11 args h K :=
  acallsT 19 Go.Proofs.Try.func11 Go.Proofs.Try.ntmps11 (by kernel_rfl) (by kernel_rfl) hn k
/-- pantograph/pantographlaw19.awake -/
def F12.r0 : List ROper :=
  ⟨some 0, .rd (.mv (.c (.bool false))), none⟩ ::
  []
def F12.r1 : List ROper :=
  ⟨some 10, .ef (.call 7 [(.c (.int .i64 9))]), none⟩ ::
  ⟨some 1, .rd (.mv (.t 10)), none⟩ ::
  []
def F12.r2 : List ROper :=
  ⟨some 12, .rd (.mv (.t 1)), none⟩ ::
  ⟨some 13, .ef (.call 8 [(.t 12), (.c (.int .i64 2))]), none⟩ ::
  ⟨some 11, .rd (.mv (.t 13)), none⟩ ::
  ⟨some 14, .rd (.ext (.t 11) 0), none⟩ ::
  ⟨some 15, .rd (.ext (.t 11) 1), none⟩ ::
  ⟨some 2, .ef (.alloc 27 [(.int .i64 0), (.int .i64 0)]), none⟩ ::
  ⟨none, .ef (.store 2 (.t 2) (.t 14)), none⟩ ::
  ⟨some 3, .rd (.mv (.t 15)), none⟩ ::
  []
def F12.r3 : List ROper :=
  ⟨some 17, .rd (.mv (.t 1)), none⟩ ::
  ⟨some 18, .ef (.call 8 [(.t 17), (.c (.int .i64 1))]), none⟩ ::
  ⟨some 16, .rd (.mv (.t 18)), none⟩ ::
  ⟨some 19, .rd (.ext (.t 16) 0), none⟩ ::
  ⟨some 20, .rd (.ext (.t 16) 1), none⟩ ::
  ⟨some 4, .ef (.alloc 27 [(.int .i64 0), (.int .i64 0)]), none⟩ ::
  ⟨none, .ef (.store 2 (.t 4) (.t 19)), none⟩ ::
  ⟨some 5, .rd (.mv (.t 20)), none⟩ ::
  []
def F12.r4 : List ROper :=
  ⟨some 22, .rd (.mv (.t 1)), none⟩ ::
  ⟨some 23, .rd (.load (some 2) (.t 2)), none⟩ ::
  ⟨some 24, .ef (.call 9 [(.t 22), (.t 23), (.c (.int .i64 1))]), none⟩ ::
  ⟨some 21, .rd (.mv (.t 24)), none⟩ ::
  ⟨some 25, .rd (.ext (.t 21) 0), none⟩ ::
  ⟨some 26, .rd (.ext (.t 21) 1), none⟩ ::
  ⟨some 6, .ef (.alloc 27 [(.int .i64 0), (.int .i64 0)]), none⟩ ::
  ⟨none, .ef (.store 2 (.t 6) (.t 25)), none⟩ ::
  ⟨some 7, .rd (.mv (.t 26)), none⟩ ::
  []
def F12.r5 : List ROper :=
  ⟨some 27, .rd (.mv (.t 1)), none⟩ ::
  ⟨some 28, .ef (.call 14 [(.t 27), (.c (.int .i64 2))]), none⟩ ::
  []
def F12.r6 : List ROper :=
  ⟨some 30, .rd (.mv (.t 1)), none⟩ ::
  ⟨some 31, .rd (.load (some 2) (.t 4)), none⟩ ::
  ⟨some 32, .ef (.call 10 [(.t 30), (.t 31)]), none⟩ ::
  ⟨some 29, .rd (.mv (.t 32)), none⟩ ::
  ⟨some 33, .rd (.ext (.t 29) 0), none⟩ ::
  ⟨some 34, .rd (.ext (.t 29) 1), none⟩ ::
  ⟨some 8, .rd (.mv (.t 33)), none⟩ ::
  ⟨some 9, .rd (.mv (.t 34)), none⟩ ::
  []
def F12.r7 : List ROper :=
  ⟨some 35, .rd (.mv (.t 3)), none⟩ ::
  ⟨some 36, .rd (.bin .eql (.t 35) (.c (.int .i64 0))), none⟩ ::
  ⟨some 37, .rd (.mv (.t 36)), none⟩ ::
  ⟨some 38, .rd (.mv (.t 5)), some (37, true)⟩ ::
  ⟨some 39, .rd (.bin .eql (.t 38) (.c (.int .i64 0))), some (37, true)⟩ ::
  ⟨some 40, .rd (.pick (.t 37) (.t 39) (.c (.bool false))), none⟩ ::
  ⟨some 41, .rd (.mv (.t 40)), none⟩ ::
  ⟨some 42, .rd (.mv (.t 7)), some (41, true)⟩ ::
  ⟨some 43, .rd (.bin .eql (.t 42) (.c (.int .i64 0))), some (41, true)⟩ ::
  ⟨some 44, .rd (.pick (.t 41) (.t 43) (.c (.bool false))), none⟩ ::
  ⟨some 45, .rd (.mv (.t 44)), none⟩ ::
  ⟨some 46, .rd (.load (some 2) (.t 2)), some (45, true)⟩ ::
  ⟨some 47, .rd (.build [(.int .i64 0), (.int .i64 0)] [(0, 1, (.c (.int .i64 0))), (1, 1, (.c (.int .i64 2)))]), some (45, true)⟩ ::
  ⟨some 48, .rd (.seq false [1, 1] (.t 46) (.t 47)), some (45, true)⟩ ::
  ⟨some 49, .rd (.pick (.t 45) (.t 48) (.c (.bool false))), none⟩ ::
  ⟨some 50, .rd (.mv (.t 49)), none⟩ ::
  ⟨some 51, .rd (.load (some 2) (.t 4)), some (50, true)⟩ ::
  ⟨some 52, .rd (.build [(.int .i64 0), (.int .i64 0)] [(0, 1, (.c (.int .i64 2))), (1, 1, (.c (.int .i64 1)))]), some (50, true)⟩ ::
  ⟨some 53, .rd (.seq false [1, 1] (.t 51) (.t 52)), some (50, true)⟩ ::
  ⟨some 54, .rd (.pick (.t 50) (.t 53) (.c (.bool false))), none⟩ ::
  ⟨some 55, .rd (.mv (.t 54)), none⟩ ::
  ⟨some 56, .rd (.load (some 2) (.t 6)), some (55, true)⟩ ::
  ⟨some 57, .rd (.build [(.int .i64 0), (.int .i64 0)] [(0, 1, (.c (.int .i64 1))), (1, 1, (.c (.int .i64 1)))]), some (55, true)⟩ ::
  ⟨some 58, .rd (.seq false [1, 1] (.t 56) (.t 57)), some (55, true)⟩ ::
  ⟨some 59, .rd (.pick (.t 55) (.t 58) (.c (.bool false))), none⟩ ::
  ⟨some 60, .rd (.mv (.t 59)), none⟩ ::
  ⟨some 61, .rd (.mv (.t 9)), some (60, true)⟩ ::
  ⟨some 62, .rd (.bin .eql (.t 61) (.c (.int .i64 13))), some (60, true)⟩ ::
  ⟨some 63, .rd (.pick (.t 60) (.t 62) (.c (.bool false))), none⟩ ::
  ⟨some 0, .rd (.mv (.t 63)), none⟩ ::
  []
def F12.c7 : RCode := .seq (.reg F12.r7) .ret
def F12.c6 : RCode := .seq (.reg F12.r6) F12.c7
def F12.c5 : RCode := .seq (.reg F12.r5) F12.c6
def F12.c4 : RCode := .seq (.reg F12.r4) F12.c5
def F12.c3 : RCode := .seq (.reg F12.r3) F12.c4
def F12.c2 : RCode := .seq (.reg F12.r2) F12.c3
def F12.c1 : RCode := .seq (.reg F12.r1) F12.c2
def F12.c0 : RCode := .seq (.reg F12.r0) F12.c1
theorem F12.calls {args : List AV} {h : AHeap} {K : AV → AHeap → Prop} (hn : args.length ≤ 64) (k : wT .go Go.Proofs.Try.prog 64 F12.c0 (fun x e h t => atEndT t [.tmp 0] (EndW K) x e h) (envOf 0 args) h) : ACalls Go.Proofs.Try.prog 12 args h K :=
  acallsT 64 Go.Proofs.Try.func12 Go.Proofs.Try.ntmps12 (by kernel_rfl) (by kernel_rfl) hn k
/-- pantograph/pantographref01.Pick -/
def F13.r0 : List ROper :=
  ⟨some 4, .rd (.mv (.c (.int .i64 0))), none⟩ ::
  []
def F13.r1 : List ROper :=
  ⟨some 6, .rd (.mv (.t 1)), none⟩ ::
  ⟨some 7, .rd (.bin .lss (.t 6) (.c (.int .i64 1))), none⟩ ::
  []
def F13.r2 : List ROper :=
  ⟨some 4, .rd (.mv (.c (.int .i64 0))), none⟩ ::
  []
def F13.c4 : RCode := .seq (.reg F13.r2) .ret
def F13.c3 : RCode := .cond (.t 7) F13.c4 .skip
def F13.c2 : RCode := .seq (.reg F13.r1) F13.c3
def F13.r3 : List ROper :=
  ⟨some 8, .rd (.mv (.t 0)), none⟩ ::
  ⟨some 9, .rd (.mv (.t 1)), none⟩ ::
  ⟨some 10, .rd (.bin .rem (.t 8) (.t 9)), none⟩ ::
  ⟨some 5, .rd (.mv (.t 10)), none⟩ ::
  []
def F13.r4 : List ROper :=
  ⟨some 11, .rd (.mv (.t 5)), none⟩ ::
  ⟨some 12, .rd (.bin .lss (.t 11) (.c (.int .i64 0))), none⟩ ::
  []
def F13.r5 : List ROper :=
  ⟨some 13, .rd (.mv (.t 5)), none⟩ ::
  ⟨some 14, .rd (.mv (.t 1)), none⟩ ::
  ⟨some 15, .rd (.bin .add (.t 13) (.t 14)), none⟩ ::
  ⟨some 5, .rd (.mv (.t 15)), none⟩ ::
  []
def F13.c8 : RCode := .cond (.t 12) (.reg F13.r5) .skip
def F13.c7 : RCode := .seq (.reg F13.r4) F13.c8
def F13.r6 : List ROper :=
  ⟨some 16, .rd (.mv (.t 5)), none⟩ ::
  ⟨some 4, .rd (.mv (.t 16)), none⟩ ::
  []
def F13.c9 : RCode := .seq (.reg F13.r6) .ret
def F13.c6 : RCode := .seq F13.c7 F13.c9
def F13.c5 : RCode := .seq (.reg F13.r3) F13.c6
def F13.c1 : RCode := .seq F13.c2 F13.c5
def F13.c0 : RCode := .seq (.reg F13.r0) F13.c1
theorem F13.calls {args : List AV} {h : AHeap} {K : AV → AHeap → Prop} (hn : args.length ≤ 17) (k : wT .go Go.Proofs.Try.prog 17 F13.c0 (fun x e h t => atEndT t [.tmp 4] (EndW K) x e h) (envOf 0 args) h) : ACalls Go.Proofs.Try.prog 13 args h K :=
  acallsT 17 Go.Proofs.Try.func13 Go.Proofs.Try.ntmps13 (by kernel_rfl) (by kernel_rfl) hn k
/-- (*pantograph/store.Store).Cut -/
def F14.r0 : List ROper :=
  ⟨some 4, .rd (.mv (.t 0)), none⟩ ::
  ⟨some 5, .rd (.peq true (.t 4) (.c (.ptr none))), none⟩ ::
  ⟨some 6, .rd (.mv (.t 5)), none⟩ ::
  ⟨some 7, .rd (.mv (.t 1)), some (6, true)⟩ ::
  ⟨some 8, .rd (.mv (.t 0)), some (6, true)⟩ ::
  ⟨some 9, .rd (.nilc (.t 8)), some (6, true)⟩ ::
  ⟨some 10, .rd (.fa 1 (.t 9)), some (6, true)⟩ ::
  ⟨some 11, .rd (.load none (.t 10)), some (6, true)⟩ ::
  ⟨some 12, .rd (.len 1 (.t 11)), some (6, true)⟩ ::
  ⟨some 13, .rd (.bin .lss (.t 7) (.t 12)), some (6, true)⟩ ::
  ⟨some 14, .rd (.pick (.t 6) (.t 13) (.c (.bool false))), none⟩ ::
  []
def F14.r1 : List ROper :=
  ⟨some 15, .rd (.mv (.t 0)), none⟩ ::
  ⟨some 16, .rd (.mv (.t 0)), none⟩ ::
  ⟨some 17, .rd (.nilc (.t 16)), none⟩ ::
  ⟨some 18, .rd (.fa 1 (.t 17)), none⟩ ::
  ⟨some 19, .rd (.load none (.t 18)), none⟩ ::
  ⟨some 20, .rd (.mv (.t 1)), none⟩ ::
  ⟨some 21, .rd (.mx (.t 20) (.c (.int .i64 0))), none⟩ ::
  ⟨some 22, .rd (.slice false 1 (.t 19) none (some (.t 21))), none⟩ ::
  ⟨some 23, .rd (.nilc (.t 15)), none⟩ ::
  ⟨some 24, .rd (.fa 1 (.t 23)), none⟩ ::
  ⟨none, .ef (.store 1 (.t 24) (.t 22)), none⟩ ::
  []
def F14.c1 : RCode := .cond (.t 14) (.reg F14.r1) .skip
def F14.c0 : RCode := .seq (.reg F14.r0) F14.c1
theorem F14.calls {args : List AV} {h : AHeap} {K : AV → AHeap → Prop} (hn : args.length ≤ 25) (k : wT .go Go.Proofs.Try.prog 25 F14.c0 (fun x e h t => atEndT t [] (EndW K) x e h) (envOf 0 args) h) : ACalls Go.Proofs.Try.prog 14 args h K :=
  acallsT 25 Go.Proofs.Try.func14 Go.Proofs.Try.ntmps14 (by kernel_rfl) (by kernel_rfl) hn k
/-- (*pantograph/pantographref19.Store).Make -/
def F15.r0 : List ROper :=
  ⟨some 4, .ef (.alloc 27 [(.int .i64 0), (.int .i64 0)]), none⟩ ::
  ⟨some 5, .rd (.mv (.c (.int .i64 0))), none⟩ ::
  []
def F15.r1 : List ROper :=
  ⟨some 8, .rd (.mv (.t 1)), none⟩ ::
  ⟨some 9, .rd (.bin .lss (.t 8) (.c (.int .i64 1))), none⟩ ::
  []
def F15.r2 : List ROper :=
  ⟨some 10, .rd (.build [(.int .i64 0), (.int .i64 0)] []), none⟩ ::
  ⟨none, .ef (.store 2 (.t 4) (.t 10)), none⟩ ::
  ⟨some 5, .rd (.mv (.c (.int .i64 1))), none⟩ ::
  []
def F15.c4 : RCode := .seq (.reg F15.r2) .ret
def F15.c3 : RCode := .cond (.t 9) F15.c4 .skip
def F15.c2 : RCode := .seq (.reg F15.r1) F15.c3
def F15.r3 : List ROper :=
  ⟨some 11, .rd (.mv (.t 0)), none⟩ ::
  ⟨some 12, .rd (.nilc (.t 11)), none⟩ ::
  ⟨some 13, .rd (.fa 0 (.t 12)), none⟩ ::
  ⟨some 14, .rd (.load none (.t 13)), none⟩ ::
  ⟨some 15, .rd (.mv (.t 0)), none⟩ ::
  ⟨some 16, .rd (.nilc (.t 15)), none⟩ ::
  ⟨some 17, .rd (.fa 1 (.t 16)), none⟩ ::
  ⟨some 18, .rd (.load none (.t 17)), none⟩ ::
  ⟨some 19, .rd (.len 1 (.t 18)), none⟩ ::
  ⟨some 20, .rd (.bin .lss (.t 14) (.t 19)), none⟩ ::
  ⟨some 21, .rd (.mv (.t 20)), none⟩ ::
  ⟨some 22, .rd (.mv (.t 1)), some (21, false)⟩ ::
  ⟨some 23, .rd (.mv (.t 0)), some (21, false)⟩ ::
  ⟨some 24, .rd (.nilc (.t 23)), some (21, false)⟩ ::
  ⟨some 25, .rd (.fa 0 (.t 24)), some (21, false)⟩ ::
  ⟨some 26, .rd (.load none (.t 25)), some (21, false)⟩ ::
  ⟨some 27, .rd (.mv (.t 0)), some (21, false)⟩ ::
  ⟨some 28, .rd (.nilc (.t 27)), some (21, false)⟩ ::
  ⟨some 29, .rd (.fa 1 (.t 28)), some (21, false)⟩ ::
  ⟨some 30, .rd (.load none (.t 29)), some (21, false)⟩ ::
  ⟨some 31, .rd (.len 1 (.t 30)), some (21, false)⟩ ::
  ⟨some 32, .rd (.bin .sub (.t 26) (.t 31)), some (21, false)⟩ ::
  ⟨some 33, .rd (.bin .gtr (.t 22) (.t 32)), some (21, false)⟩ ::
  ⟨some 34, .rd (.pick (.t 21) (.c (.bool true)) (.t 33)), none⟩ ::
  []
def F15.r4 : List ROper :=
  ⟨some 35, .rd (.build [(.int .i64 0), (.int .i64 0)] []), none⟩ ::
  ⟨none, .ef (.store 2 (.t 4) (.t 35)), none⟩ ::
  ⟨some 5, .rd (.mv (.c (.int .i64 2))), none⟩ ::
  []
def F15.c8 : RCode := .seq (.reg F15.r4) .ret
def F15.c7 : RCode := .cond (.t 34) F15.c8 .skip
def F15.c6 : RCode := .seq (.dreg F15.r3) F15.c7
def F15.r5 : List ROper :=
  ⟨some 36, .rd (.mv (.t 0)), none⟩ ::
  ⟨some 37, .rd (.nilc (.t 36)), none⟩ ::
  ⟨some 38, .rd (.fa 1 (.t 37)), none⟩ ::
  ⟨some 39, .rd (.load none (.t 38)), none⟩ ::
  ⟨some 40, .rd (.len 1 (.t 39)), none⟩ ::
  ⟨some 41, .rd (.mv (.t 1)), none⟩ ::
  ⟨some 42, .rd (.build [(.int .i64 0), (.int .i64 0)] [(0, 1, (.t 40)), (1, 1, (.t 41))]), none⟩ ::
  ⟨some 6, .ef (.alloc 27 [(.int .i64 0), (.int .i64 0)]), none⟩ ::
  ⟨none, .ef (.store 2 (.t 6) (.t 42)), none⟩ ::
  []
def F15.r6 : List ROper :=
  ⟨some 7, .rd (.mv (.c (.int .i64 0))), none⟩ ::
  []
def F15.r7 : List ROper :=
  ⟨some 43, .rd (.mv (.t 7)), none⟩ ::
  ⟨some 44, .rd (.mv (.t 1)), none⟩ ::
  ⟨some 45, .rd (.bin .lss (.t 43) (.t 44)), none⟩ ::
  []
def F15.c16 : RCode := .cond (.t 45) .skip (.exit 0)
def F15.c15 : RCode := .seq (.reg F15.r7) F15.c16
def F15.r8 : List ROper :=
  ⟨some 48, .rd (.mv (.t 0)), none⟩ ::
  ⟨some 49, .rd (.mv (.t 0)), none⟩ ::
  ⟨some 50, .rd (.nilc (.t 49)), none⟩ ::
  ⟨some 51, .rd (.fa 1 (.t 50)), none⟩ ::
  ⟨some 52, .rd (.load none (.t 51)), none⟩ ::
  ⟨some 53, .rd (.bsl 1 1 [(.int .i64 0)] [(0, 1, (.c (.int .i64 0)))]), none⟩ ::
  ⟨some 54, .ef (.append 2 1 8 (.t 52) (.t 53)), none⟩ ::
  ⟨some 55, .rd (.nilc (.t 48)), none⟩ ::
  ⟨some 56, .rd (.fa 1 (.t 55)), none⟩ ::
  ⟨none, .ef (.store 1 (.t 56) (.t 54)), none⟩ ::
  []
def F15.c18 : RCode := .block 1 (.reg F15.r8)
def F15.r9 : List ROper :=
  ⟨some 46, .rd (.mv (.t 7)), none⟩ ::
  ⟨some 47, .rd (.bin .add (.t 46) (.c (.int .i64 1))), none⟩ ::
  ⟨some 7, .rd (.mv (.t 47)), none⟩ ::
  []
def F15.c17 : RCode := .seq F15.c18 (.reg F15.r9)
def F15.c14 : RCode := .seq F15.c15 F15.c17
def F15.c13 : RCode := .loop F15.c14
def F15.c12 : RCode := .block 0 F15.c13
def F15.c11 : RCode := .seq (.reg F15.r6) F15.c12
def F15.r10 : List ROper :=
  ⟨some 57, .rd (.load (some 2) (.t 6)), none⟩ ::
  ⟨none, .ef (.store 2 (.t 4) (.t 57)), none⟩ ::
  ⟨some 5, .rd (.mv (.c (.int .i64 0))), none⟩ ::
  []
def F15.c19 : RCode := .seq (.reg F15.r10) .ret
def F15.c10 : RCode := .seq F15.c11 F15.c19
def F15.c9 : RCode := .seq (.reg F15.r5) F15.c10
def F15.c5 : RCode := .seq F15.c6 F15.c9
def F15.c1 : RCode := .seq F15.c2 F15.c5
def F15.c0 : RCode := .seq (.reg F15.r0) F15.c1
theorem F15.calls {args : List AV} {h : AHeap} {K : AV → AHeap → Prop} (hn : args.length ≤ 58) (k : wT .go Go.Proofs.Try.prog 58 F15.c0 (fun x e h t => atEndT t [.cell 4 (some 2), .tmp 5] (EndW K) x e h) (envOf 0 args) h) : ACalls Go.Proofs.Try.prog 15 args h K :=
  acallsT 58 Go.Proofs.Try.func15 Go.Proofs.Try.ntmps15 (by kernel_rfl) (by kernel_rfl) hn k
/-- (*pantograph/pantographref19.Store).There -/
def F16.r0 : List ROper :=
  ⟨some 3, .ef (.box 27 (.t 1)), none⟩ ::
  ⟨some 4, .rd (.mv (.c (.bool false))), none⟩ ::
  []
def F16.r1 : List ROper :=
  ⟨some 5, .rd (.fa 0 (.t 3)), none⟩ ::
  ⟨some 6, .rd (.load none (.t 5)), none⟩ ::
  ⟨some 7, .rd (.bin .lss (.t 6) (.c (.int .i64 0))), none⟩ ::
  ⟨some 8, .rd (.mv (.t 7)), none⟩ ::
  ⟨some 9, .rd (.fa 1 (.t 3)), some (8, false)⟩ ::
  ⟨some 10, .rd (.load none (.t 9)), some (8, false)⟩ ::
  ⟨some 11, .rd (.bin .lss (.t 10) (.c (.int .i64 1))), some (8, false)⟩ ::
  ⟨some 12, .rd (.pick (.t 8) (.c (.bool true)) (.t 11)), none⟩ ::
  ⟨some 13, .rd (.mv (.t 12)), none⟩ ::
  ⟨some 14, .rd (.fa 0 (.t 3)), some (13, false)⟩ ::
  ⟨some 15, .rd (.load none (.t 14)), some (13, false)⟩ ::
  ⟨some 16, .rd (.mv (.t 0)), some (13, false)⟩ ::
  ⟨some 17, .rd (.nilc (.t 16)), some (13, false)⟩ ::
  ⟨some 18, .rd (.fa 1 (.t 17)), some (13, false)⟩ ::
  ⟨some 19, .rd (.load none (.t 18)), some (13, false)⟩ ::
  ⟨some 20, .rd (.len 1 (.t 19)), some (13, false)⟩ ::
  ⟨some 21, .rd (.bin .geq (.t 15) (.t 20)), some (13, false)⟩ ::
  ⟨some 22, .rd (.pick (.t 13) (.c (.bool true)) (.t 21)), none⟩ ::
  []
def F16.r2 : List ROper :=
  ⟨some 4, .rd (.mv (.c (.bool false))), none⟩ ::
  []
def F16.c4 : RCode := .seq (.reg F16.r2) .ret
def F16.c3 : RCode := .cond (.t 22) F16.c4 .skip
def F16.c2 : RCode := .seq (.dreg F16.r1) F16.c3
def F16.r3 : List ROper :=
  ⟨some 23, .rd (.mv (.t 0)), none⟩ ::
  ⟨some 24, .rd (.nilc (.t 23)), none⟩ ::
  ⟨some 25, .rd (.fa 1 (.t 24)), none⟩ ::
  ⟨some 26, .rd (.load none (.t 25)), none⟩ ::
  ⟨some 27, .rd (.len 1 (.t 26)), none⟩ ::
  ⟨some 28, .rd (.fa 0 (.t 3)), none⟩ ::
  ⟨some 29, .rd (.load none (.t 28)), none⟩ ::
  ⟨some 30, .rd (.bin .sub (.t 27) (.t 29)), none⟩ ::
  ⟨some 31, .rd (.fa 1 (.t 3)), none⟩ ::
  ⟨some 32, .rd (.load none (.t 31)), none⟩ ::
  ⟨some 33, .rd (.bin .geq (.t 30) (.t 32)), none⟩ ::
  ⟨some 4, .rd (.mv (.t 33)), none⟩ ::
  []
def F16.c5 : RCode := .seq (.dreg F16.r3) .ret
def F16.c1 : RCode := .seq F16.c2 F16.c5
def F16.c0 : RCode := .seq (.reg F16.r0) F16.c1
theorem F16.calls {args : List AV} {h : AHeap} {K : AV → AHeap → Prop} (hn : args.length ≤ 34) (k : wT .go Go.Proofs.Try.prog 34 F16.c0 (fun x e h t => atEndT t [.tmp 4] (EndW K) x e h) (envOf 0 args) h) : ACalls Go.Proofs.Try.prog 16 args h K :=
  acallsT 34 Go.Proofs.Try.func16 Go.Proofs.Try.ntmps16 (by kernel_rfl) (by kernel_rfl) hn k
/-- (*pantograph/pantographref19.Store).Cut -/
def F17.r0 : List ROper :=
  ⟨some 4, .rd (.mv (.c (.sl [] true))), none⟩ ::
  []
def F17.r1 : List ROper :=
  ⟨some 5, .rd (.mv (.c (.int .i64 0))), none⟩ ::
  []
def F17.r2 : List ROper :=
  ⟨some 6, .rd (.mv (.t 5)), none⟩ ::
  ⟨some 7, .rd (.mv (.t 0)), none⟩ ::
  ⟨some 8, .rd (.nilc (.t 7)), none⟩ ::
  ⟨some 9, .rd (.fa 1 (.t 8)), none⟩ ::
  ⟨some 10, .rd (.load none (.t 9)), none⟩ ::
  ⟨some 11, .rd (.len 1 (.t 10)), none⟩ ::
  ⟨some 12, .rd (.bin .lss (.t 6) (.t 11)), none⟩ ::
  ⟨some 13, .rd (.mv (.t 12)), none⟩ ::
  ⟨some 14, .rd (.mv (.t 5)), some (13, true)⟩ ::
  ⟨some 15, .rd (.mv (.t 1)), some (13, true)⟩ ::
  ⟨some 16, .rd (.bin .lss (.t 14) (.t 15)), some (13, true)⟩ ::
  ⟨some 17, .rd (.pick (.t 13) (.t 16) (.c (.bool false))), none⟩ ::
  []
def F17.c7 : RCode := .cond (.t 17) .skip (.exit 0)
def F17.c6 : RCode := .seq (.reg F17.r2) F17.c7
def F17.r3 : List ROper :=
  ⟨some 20, .rd (.mv (.t 4)), none⟩ ::
  ⟨some 21, .rd (.mv (.t 0)), none⟩ ::
  ⟨some 22, .rd (.nilc (.t 21)), none⟩ ::
  ⟨some 23, .rd (.fa 1 (.t 22)), none⟩ ::
  ⟨some 24, .rd (.load none (.t 23)), none⟩ ::
  ⟨some 25, .rd (.mv (.t 5)), none⟩ ::
  ⟨some 26, .rd (.ia 1 (.t 24) (.t 25)), none⟩ ::
  ⟨some 27, .rd (.load none (.t 26)), none⟩ ::
  ⟨some 28, .rd (.bsl 1 1 [(.int .i64 0)] [(0, 1, (.t 27))]), none⟩ ::
  ⟨some 29, .ef (.append 2 1 8 (.t 20) (.t 28)), none⟩ ::
  ⟨some 4, .rd (.mv (.t 29)), none⟩ ::
  []
def F17.c9 : RCode := .block 1 (.reg F17.r3)
def F17.r4 : List ROper :=
  ⟨some 18, .rd (.mv (.t 5)), none⟩ ::
  ⟨some 19, .rd (.bin .add (.t 18) (.c (.int .i64 1))), none⟩ ::
  ⟨some 5, .rd (.mv (.t 19)), none⟩ ::
  []
def F17.c8 : RCode := .seq F17.c9 (.reg F17.r4)
def F17.c5 : RCode := .seq F17.c6 F17.c8
def F17.c4 : RCode := .loop F17.c5
def F17.c3 : RCode := .block 0 F17.c4
def F17.c2 : RCode := .seq (.reg F17.r1) F17.c3
def F17.r5 : List ROper :=
  ⟨some 30, .rd (.mv (.t 0)), none⟩ ::
  ⟨some 31, .rd (.mv (.t 4)), none⟩ ::
  ⟨some 32, .rd (.nilc (.t 30)), none⟩ ::
  ⟨some 33, .rd (.fa 1 (.t 32)), none⟩ ::
  ⟨none, .ef (.store 1 (.t 33) (.t 31)), none⟩ ::
  []
def F17.c1 : RCode := .seq F17.c2 (.reg F17.r5)
def F17.c0 : RCode := .seq (.reg F17.r0) F17.c1
theorem F17.calls {args : List AV} {h : AHeap} {K : AV → AHeap → Prop} (hn : args.length ≤ 34) (k : wT .go Go.Proofs.Try.prog 34 F17.c0 (fun x e h t => atEndT t [] (EndW K) x e h) (envOf 0 args) h) : ACalls Go.Proofs.Try.prog 17 args h K :=
  acallsT 34 Go.Proofs.Try.func17 Go.Proofs.Try.ntmps17 (by kernel_rfl) (by kernel_rfl) hn k
/-- (*pantograph/store.Store).Len -/
def F18.r0 : List ROper :=
  ⟨some 2, .rd (.mv (.c (.int .i64 0))), none⟩ ::
  []
def F18.r1 : List ROper :=
  ⟨some 3, .rd (.mv (.t 0)), none⟩ ::
  ⟨some 4, .rd (.peq false (.t 3) (.c (.ptr none))), none⟩ ::
  []
def F18.r2 : List ROper :=
  ⟨some 2, .rd (.mv (.c (.int .i64 0))), none⟩ ::
  []
def F18.c4 : RCode := .seq (.reg F18.r2) .ret
def F18.c3 : RCode := .cond (.t 4) F18.c4 .skip
def F18.c2 : RCode := .seq (.reg F18.r1) F18.c3
def F18.r3 : List ROper :=
  ⟨some 5, .rd (.mv (.t 0)), none⟩ ::
  ⟨some 6, .rd (.nilc (.t 5)), none⟩ ::
  ⟨some 7, .rd (.fa 1 (.t 6)), none⟩ ::
  ⟨some 8, .rd (.load none (.t 7)), none⟩ ::
  ⟨some 9, .rd (.len 1 (.t 8)), none⟩ ::
  ⟨some 2, .rd (.mv (.t 9)), none⟩ ::
  []
def F18.c5 : RCode := .seq (.reg F18.r3) .ret
def F18.c1 : RCode := .seq F18.c2 F18.c5
def F18.c0 : RCode := .seq (.reg F18.r0) F18.c1
theorem F18.calls {args : List AV} {h : AHeap} {K : AV → AHeap → Prop} (hn : args.length ≤ 10) (k : wT .go Go.Proofs.Try.prog 10 F18.c0 (fun x e h t => atEndT t [.tmp 2] (EndW K) x e h) (envOf 0 args) h) : ACalls Go.Proofs.Try.prog 18 args h K :=
  acallsT 10 Go.Proofs.Try.func18 Go.Proofs.Try.ntmps18 (by kernel_rfl) (by kernel_rfl) hn k
/-- (*pantograph/store.Store).there -/
def F19.r0 : List ROper :=
  ⟨some 3, .ef (.box 27 (.t 1)), none⟩ ::
  ⟨some 4, .rd (.mv (.c (.bool false))), none⟩ ::
  []
def F19.r1 : List ROper :=
  ⟨some 5, .rd (.mv (.t 0)), none⟩ ::
  ⟨some 6, .rd (.peq true (.t 5) (.c (.ptr none))), none⟩ ::
  ⟨some 7, .rd (.mv (.t 6)), none⟩ ::
  ⟨some 8, .rd (.fa 0 (.t 3)), some (7, true)⟩ ::
  ⟨some 9, .rd (.load none (.t 8)), some (7, true)⟩ ::
  ⟨some 10, .rd (.bin .geq (.t 9) (.c (.int .i64 0))), some (7, true)⟩ ::
  ⟨some 11, .rd (.pick (.t 7) (.t 10) (.c (.bool false))), none⟩ ::
  ⟨some 12, .rd (.mv (.t 11)), none⟩ ::
  ⟨some 13, .rd (.fa 1 (.t 3)), some (12, true)⟩ ::
  ⟨some 14, .rd (.load none (.t 13)), some (12, true)⟩ ::
  ⟨some 15, .rd (.bin .gtr (.t 14) (.c (.int .i64 0))), some (12, true)⟩ ::
  ⟨some 16, .rd (.pick (.t 12) (.t 15) (.c (.bool false))), none⟩ ::
  ⟨some 17, .rd (.mv (.t 16)), none⟩ ::
  ⟨some 18, .rd (.fa 0 (.t 3)), some (17, true)⟩ ::
  ⟨some 19, .rd (.load none (.t 18)), some (17, true)⟩ ::
  ⟨some 20, .rd (.mv (.t 0)), some (17, true)⟩ ::
  ⟨some 21, .rd (.nilc (.t 20)), some (17, true)⟩ ::
  ⟨some 22, .rd (.fa 1 (.t 21)), some (17, true)⟩ ::
  ⟨some 23, .rd (.load none (.t 22)), some (17, true)⟩ ::
  ⟨some 24, .rd (.len 1 (.t 23)), some (17, true)⟩ ::
  ⟨some 25, .rd (.bin .lss (.t 19) (.t 24)), some (17, true)⟩ ::
  ⟨some 26, .rd (.pick (.t 17) (.t 25) (.c (.bool false))), none⟩ ::
  ⟨some 27, .rd (.mv (.t 26)), none⟩ ::
  ⟨some 28, .rd (.fa 1 (.t 3)), some (27, true)⟩ ::
  ⟨some 29, .rd (.load none (.t 28)), some (27, true)⟩ ::
  ⟨some 30, .rd (.mv (.t 0)), some (27, true)⟩ ::
  ⟨some 31, .rd (.nilc (.t 30)), some (27, true)⟩ ::
  ⟨some 32, .rd (.fa 1 (.t 31)), some (27, true)⟩ ::
  ⟨some 33, .rd (.load none (.t 32)), some (27, true)⟩ ::
  ⟨some 34, .rd (.len 1 (.t 33)), some (27, true)⟩ ::
  ⟨some 35, .rd (.fa 0 (.t 3)), some (27, true)⟩ ::
  ⟨some 36, .rd (.load none (.t 35)), some (27, true)⟩ ::
  ⟨some 37, .rd (.bin .sub (.t 34) (.t 36)), some (27, true)⟩ ::
  ⟨some 38, .rd (.bin .leq (.t 29) (.t 37)), some (27, true)⟩ ::
  ⟨some 39, .rd (.pick (.t 27) (.t 38) (.c (.bool false))), none⟩ ::
  ⟨some 4, .rd (.mv (.t 39)), none⟩ ::
  []
def F19.c1 : RCode := .seq (.dreg F19.r1) .ret
def F19.c0 : RCode := .seq (.reg F19.r0) F19.c1
theorem F19.calls {args : List AV} {h : AHeap} {K : AV → AHeap → Prop} (hn : args.length ≤ 40) (k : wT .go Go.Proofs.Try.prog 40 F19.c0 (fun x e h t => atEndT t [.tmp 4] (EndW K) x e h) (envOf 0 args) h) : ACalls Go.Proofs.Try.prog 19 args h K :=
  acallsT 40 Go.Proofs.Try.func19 Go.Proofs.Try.ntmps19 (by kernel_rfl) (by kernel_rfl) hn k
end Pg
