import Derived.Test.YtpebidcmkjjpnaaK4
import Derived.Test.YtpebidcmkjjpnaaProg
import Derived.KernelRfl
namespace Pg
open Go
set_option maxRecDepth 10000
/-- pantograph/pantographref01.long -/
def F40.r0 : List ROper :=
 ⟨some 2,.rd (.mv (.c (.str (⟨#[]⟩ : ByteArray)))),none⟩::
  []
def F40.r1 : List ROper :=
 ⟨some 3,.rd (.mv (.t 0)),none⟩::
 ⟨some 4,.rd (.bin .lss (.t 3) (.c (.int .u64 10))),none⟩::
  []
def F40.r2 : List ROper :=
 ⟨some 5,.rd (.mv (.t 0)),none⟩::
 ⟨some 6,.rd (.mv (.t 0)),none⟩::
 ⟨some 7,.rd (.bin .add (.t 6) (.c (.int .u64 1))),none⟩::
 ⟨some 8,.rd (.slice true 0 (.c (.str (⟨#[48,49,50,51,52,53,54,55,56,57]⟩ : ByteArray))) (some (.t 5)) (some (.t 7))),none⟩::
 ⟨some 2,.rd (.mv (.t 8)),none⟩::
  []
def F40.c4 : RCode := .seq (.reg F40.r2) .ret
def F40.c3 : RCode := .cond (.t 4) F40.c4 .skip
def F40.c2 : RCode := .seq (.reg F40.r1) F40.c3
def F40.r3 : List ROper :=
 ⟨some 9,.rd (.mv (.t 0)),none⟩::
 ⟨some 10,.rd (.bin .quo (.t 9) (.c (.int .u64 10))),none⟩::
 ⟨some 12,.rd (.mv (.t 0)),none⟩::
 ⟨some 13,.rd (.bin .rem (.t 12) (.c (.int .u64 10))),none⟩::
 ⟨some 14,.rd (.mv (.t 0)),none⟩::
 ⟨some 15,.rd (.bin .rem (.t 14) (.c (.int .u64 10))),none⟩::
 ⟨some 16,.rd (.bin .add (.t 15) (.c (.int .u64 1))),none⟩::
 ⟨some 17,.rd (.slice true 0 (.c (.str (⟨#[48,49,50,51,52,53,54,55,56,57]⟩ : ByteArray))) (some (.t 13)) (some (.t 16))),none⟩::
 ⟨some 11,.ef (.call 40 [(.t 10)]),none⟩::
 ⟨some 18,.rd (.bin .add (.t 11) (.t 17)),none⟩::
 ⟨some 2,.rd (.mv (.t 18)),none⟩::
  []
def F40.c5 : RCode := .seq (.dreg F40.r3) .ret
def F40.c1 : RCode := .seq F40.c2 F40.c5
def F40.c0 : RCode := .seq (.reg F40.r0) F40.c1
theorem F40.calls {args : List AV} {h : AHeap} {K : AV → AHeap → Prop} (hn : args.length ≤ 19) (k : wT .go Go.Proofs.Try.prog 19 F40.c0 (fun x e h t => atEndT t [.tmp 2] (EndW K) x e h) (envOf 0 args) h) : ACalls Go.Proofs.Try.prog 40 args h K :=
  acallsT [] [] 19 Go.Proofs.Try.func40 Go.Proofs.Try.ntmps40 (by kernel_rfl) (by kernel_rfl) hn k
/-- pantograph/pantographref01.Digits -/
def F14.r0 : List ROper :=
 ⟨some 2,.rd (.mv (.c (.str (⟨#[]⟩ : ByteArray)))),none⟩::
  []
def F14.r1 : List ROper :=
 ⟨some 3,.rd (.mv (.t 0)),none⟩::
 ⟨some 4,.rd (.bin .lss (.t 3) (.c (.int .i64 0))),none⟩::
  []
def F14.r2 : List ROper :=
 ⟨some 5,.rd (.mv (.t 0)),none⟩::
 ⟨some 6,.rd (.conv .u64 (.t 5)),none⟩::
 ⟨some 7,.rd (.bin .sub (.c (.int .u64 0)) (.t 6)),none⟩::
 ⟨some 8,.ef (.call 40 [(.t 7)]),none⟩::
 ⟨some 9,.rd (.bin .add (.c (.str (⟨#[45]⟩ : ByteArray))) (.t 8)),none⟩::
 ⟨some 2,.rd (.mv (.t 9)),none⟩::
  []
def F14.c4 : RCode := .seq (.reg F14.r2) .ret
def F14.c3 : RCode := .cond (.t 4) F14.c4 .skip
def F14.c2 : RCode := .seq (.reg F14.r1) F14.c3
def F14.r3 : List ROper :=
 ⟨some 10,.rd (.mv (.t 0)),none⟩::
 ⟨some 11,.rd (.conv .u64 (.t 10)),none⟩::
 ⟨some 12,.ef (.call 40 [(.t 11)]),none⟩::
 ⟨some 2,.rd (.mv (.t 12)),none⟩::
  []
def F14.c5 : RCode := .seq (.reg F14.r3) .ret
def F14.c1 : RCode := .seq F14.c2 F14.c5
def F14.c0 : RCode := .seq (.reg F14.r0) F14.c1
theorem F14.calls {args : List AV} {h : AHeap} {K : AV → AHeap → Prop} (hn : args.length ≤ 13) (k : wT .go Go.Proofs.Try.prog 13 F14.c0 (fun x e h t => atEndT t [.tmp 2] (EndW K) x e h) (envOf 0 args) h) : ACalls Go.Proofs.Try.prog 14 args h K :=
  acallsT [] [] 13 Go.Proofs.Try.func14 Go.Proofs.Try.ntmps14 (by kernel_rfl) (by kernel_rfl) hn k
/-- pantograph/pantographref07.Turned -/
def F49.r0 : List ROper :=
 ⟨some 4,.rd (.mv (.c (.str (⟨#[]⟩ : ByteArray)))),none⟩::
  []
def F49.r1 : List ROper :=
 ⟨some 10,.rd (.mv (.t 0)),none⟩::
 ⟨some 11,.ef (.call 36 [(.t 10)]),none⟩::
 ⟨some 5,.rd (.mv (.t 11)),none⟩::
  []
def F49.r2 : List ROper :=
 ⟨some 6,.rd (.mv (.c (.str (⟨#[]⟩ : ByteArray)))),none⟩::
  []
def F49.r3 : List ROper :=
 ⟨some 7,.rd (.mv (.c (.int .i64 0))),none⟩::
  []
def F49.r4 : List ROper :=
 ⟨some 12,.rd (.mv (.t 7)),none⟩::
 ⟨some 13,.rd (.mv (.t 5)),none⟩::
 ⟨some 14,.rd (.len 1 (.t 13)),none⟩::
 ⟨some 15,.rd (.bin .lss (.t 12) (.t 14)),none⟩::
  []
def F49.c9 : RCode := .cond (.t 15) .skip (.exit 0)
def F49.c8 : RCode := .seq (.reg F49.r4) F49.c9
def F49.r5 : List ROper :=
 ⟨some 18,.rd (.mv (.t 5)),none⟩::
 ⟨some 19,.rd (.mv (.t 7)),none⟩::
 ⟨some 20,.rd (.ia 1 (.t 18) (.t 19)),none⟩::
 ⟨some 21,.rd (.load none (.t 20)),none⟩::
 ⟨some 8,.rd (.mv (.t 21)),none⟩::
  []
def F49.r6 : List ROper :=
 ⟨some 9,.rd (.mv (.c (.int .i64 0))),none⟩::
  []
def F49.r7 : List ROper :=
 ⟨some 22,.rd (.mv (.t 9)),none⟩::
 ⟨some 23,.rd (.mv (.t 1)),none⟩::
 ⟨some 24,.rd (.len 1 (.t 23)),none⟩::
 ⟨some 25,.rd (.bin .lss (.t 22) (.t 24)),none⟩::
 ⟨some 26,.rd (.mv (.t 25)),none⟩::
 ⟨some 27,.rd (.mv (.t 5)),some (26,true)⟩::
 ⟨some 28,.rd (.mv (.t 7)),some (26,true)⟩::
 ⟨some 29,.rd (.ia 1 (.t 27) (.t 28)),some (26,true)⟩::
 ⟨some 30,.rd (.load none (.t 29)),some (26,true)⟩::
 ⟨some 31,.rd (.bin .neq (.t 30) (.c (.str (⟨#[]⟩ : ByteArray)))),some (26,true)⟩::
 ⟨some 32,.rd (.pick (.t 26) (.t 31) (.c (.bool false))),none⟩::
  []
def F49.c19 : RCode := .cond (.t 32) .skip (.exit 2)
def F49.c18 : RCode := .seq (.reg F49.r7) F49.c19
def F49.r8 : List ROper :=
 ⟨some 35,.rd (.mv (.t 1)),none⟩::
 ⟨some 36,.rd (.mv (.t 9)),none⟩::
 ⟨some 37,.rd (.ia 2 (.t 35) (.t 36)),none⟩::
 ⟨some 38,.rd (.fa 0 (.t 37)),none⟩::
 ⟨some 39,.rd (.load none (.t 38)),none⟩::
 ⟨some 40,.rd (.mv (.t 5)),none⟩::
 ⟨some 41,.rd (.mv (.t 7)),none⟩::
 ⟨some 42,.rd (.ia 1 (.t 40) (.t 41)),none⟩::
 ⟨some 43,.rd (.load none (.t 42)),none⟩::
 ⟨some 44,.rd (.bin .eql (.t 39) (.t 43)),none⟩::
  []
def F49.r9 : List ROper :=
 ⟨some 45,.rd (.mv (.t 1)),none⟩::
 ⟨some 46,.rd (.mv (.t 9)),none⟩::
 ⟨some 47,.rd (.ia 2 (.t 45) (.t 46)),none⟩::
 ⟨some 48,.rd (.fa 1 (.t 47)),none⟩::
 ⟨some 49,.rd (.load none (.t 48)),none⟩::
 ⟨some 8,.rd (.mv (.t 49)),none⟩::
  []
def F49.c24 : RCode := .seq (.reg F49.r9) (.exit 2)
def F49.c23 : RCode := .cond (.t 44) F49.c24 .skip
def F49.c22 : RCode := .seq (.dreg F49.r8) F49.c23
def F49.c21 : RCode := .block 3 F49.c22
def F49.r10 : List ROper :=
 ⟨some 33,.rd (.mv (.t 9)),none⟩::
 ⟨some 34,.rd (.bin .add (.t 33) (.c (.int .i64 1))),none⟩::
 ⟨some 9,.rd (.mv (.t 34)),none⟩::
  []
def F49.c20 : RCode := .seq F49.c21 (.reg F49.r10)
def F49.c17 : RCode := .seq F49.c18 F49.c20
def F49.c16 : RCode := .loop F49.c17
def F49.c15 : RCode := .block 2 F49.c16
def F49.c14 : RCode := .seq (.reg F49.r6) F49.c15
def F49.r11 : List ROper :=
 ⟨some 50,.rd (.mv (.t 7)),none⟩::
 ⟨some 51,.rd (.bin .gtr (.t 50) (.c (.int .i64 0))),none⟩::
  []
def F49.r12 : List ROper :=
 ⟨some 52,.rd (.mv (.t 6)),none⟩::
 ⟨some 53,.rd (.bin .add (.t 52) (.c (.str (⟨#[36]⟩ : ByteArray)))),none⟩::
 ⟨some 6,.rd (.mv (.t 53)),none⟩::
  []
def F49.c27 : RCode := .cond (.t 51) (.reg F49.r12) .skip
def F49.c26 : RCode := .seq (.reg F49.r11) F49.c27
def F49.r13 : List ROper :=
 ⟨some 54,.rd (.mv (.t 6)),none⟩::
 ⟨some 55,.rd (.mv (.t 8)),none⟩::
 ⟨some 56,.rd (.bin .add (.t 54) (.t 55)),none⟩::
 ⟨some 6,.rd (.mv (.t 56)),none⟩::
  []
def F49.c25 : RCode := .seq F49.c26 (.reg F49.r13)
def F49.c13 : RCode := .seq F49.c14 F49.c25
def F49.c12 : RCode := .seq (.reg F49.r5) F49.c13
def F49.c11 : RCode := .block 1 F49.c12
def F49.r14 : List ROper :=
 ⟨some 16,.rd (.mv (.t 7)),none⟩::
 ⟨some 17,.rd (.bin .add (.t 16) (.c (.int .i64 1))),none⟩::
 ⟨some 7,.rd (.mv (.t 17)),none⟩::
  []
def F49.c10 : RCode := .seq F49.c11 (.reg F49.r14)
def F49.c7 : RCode := .seq F49.c8 F49.c10
def F49.c6 : RCode := .loop F49.c7
def F49.c5 : RCode := .block 0 F49.c6
def F49.c4 : RCode := .seq (.reg F49.r3) F49.c5
def F49.r15 : List ROper :=
 ⟨some 57,.rd (.mv (.t 6)),none⟩::
 ⟨some 4,.rd (.mv (.t 57)),none⟩::
  []
def F49.c28 : RCode := .seq (.reg F49.r15) .ret
def F49.c3 : RCode := .seq F49.c4 F49.c28
def F49.c2 : RCode := .seq (.reg F49.r2) F49.c3
def F49.c1 : RCode := .seq (.reg F49.r1) F49.c2
def F49.c0 : RCode := .seq (.reg F49.r0) F49.c1
theorem F49.calls {args : List AV} {h : AHeap} {K : AV → AHeap → Prop} (hn : args.length ≤ 58) (k : wT .go Go.Proofs.Try.prog 58 F49.c0 (fun x e h t => atEndT t [.tmp 4] (EndW K) x e h) (envOf 0 args) h) : ACalls Go.Proofs.Try.prog 49 args h K :=
  acallsT [] [] 58 Go.Proofs.Try.func49 Go.Proofs.Try.ntmps49 (by kernel_rfl) (by kernel_rfl) hn k
/-- pantograph/pantographref07.turnExpr -/
def F78.r0 : List ROper :=
 ⟨some 2,.rd (.bx none (.t 0)),none⟩::
 ⟨some 4,.ef (.alloc 53 [(.int .i64 0),(.int .i64 0),(.str (⟨#[]⟩ : ByteArray)),(.str (⟨#[]⟩ : ByteArray)),(.sl [] true)]),none⟩::
  []
def F78.r1 : List ROper :=
 ⟨some 7,.rd (.fa 0 (.t 2)),none⟩::
 ⟨some 8,.rd (.load none (.t 7)),none⟩::
 ⟨some 9,.rd (.fa 1 (.t 2)),none⟩::
 ⟨some 10,.rd (.load none (.t 9)),none⟩::
 ⟨some 11,.rd (.fa 2 (.t 2)),none⟩::
 ⟨some 12,.rd (.load none (.t 11)),none⟩::
 ⟨some 13,.rd (.mv (.t 1)),none⟩::
 ⟨some 15,.rd (.fa 3 (.t 2)),none⟩::
 ⟨some 16,.rd (.load none (.t 15)),none⟩::
 ⟨some 17,.rd (.mv (.t 1)),none⟩::
 ⟨some 14,.ef (.call 49 [(.t 12),(.t 13)]),none⟩::
 ⟨some 18,.ef (.call 49 [(.t 16),(.t 17)]),none⟩::
 ⟨some 19,.rd (.build [(.int .i64 0),(.int .i64 0),(.str (⟨#[]⟩ : ByteArray)),(.str (⟨#[]⟩ : ByteArray)),(.sl [] true)] [(0,1,(.t 8)),(1,1,(.t 10)),(2,1,(.t 14)),(3,1,(.t 18))]),none⟩::
 ⟨some 5,.ef (.alloc 53 [(.int .i64 0),(.int .i64 0),(.str (⟨#[]⟩ : ByteArray)),(.str (⟨#[]⟩ : ByteArray)),(.sl [] true)]),none⟩::
 ⟨none,.ef (.store 5 (.t 5) (.t 19)),none⟩::
  []
def F78.r2 : List ROper :=
 ⟨some 6,.rd (.mv (.c (.int .i64 0))),none⟩::
  []
def F78.r3 : List ROper :=
 ⟨some 20,.rd (.mv (.t 6)),none⟩::
 ⟨some 21,.rd (.fa 4 (.t 2)),none⟩::
 ⟨some 22,.rd (.load none (.t 21)),none⟩::
 ⟨some 23,.rd (.len 1 (.t 22)),none⟩::
 ⟨some 24,.rd (.bin .lss (.t 20) (.t 23)),none⟩::
  []
def F78.c8 : RCode := .cond (.t 24) .skip (.exit 0)
def F78.c7 : RCode := .seq (.reg F78.r3) F78.c8
def F78.r4 : List ROper :=
 ⟨some 27,.rd (.fa 4 (.t 5)),none⟩::
 ⟨some 28,.rd (.load none (.t 27)),none⟩::
 ⟨some 29,.rd (.fa 4 (.t 2)),none⟩::
 ⟨some 30,.rd (.load none (.t 29)),none⟩::
 ⟨some 31,.rd (.mv (.t 6)),none⟩::
 ⟨some 32,.rd (.ia 5 (.t 30) (.t 31)),none⟩::
 ⟨some 33,.rd (.load (some 5) (.t 32)),none⟩::
 ⟨some 34,.rd (.mv (.t 1)),none⟩::
 ⟨some 35,.ef (.call 78 [(.t 33),(.t 34)]),none⟩::
 ⟨some 36,.rd (.bsl 5 1 [(.int .i64 0),(.int .i64 0),(.str (⟨#[]⟩ : ByteArray)),(.str (⟨#[]⟩ : ByteArray)),(.sl [] true)] [(0,5,(.t 35))]),none⟩::
 ⟨some 37,.ef (.append 53 5 72 (.t 28) (.t 36)),none⟩::
 ⟨some 38,.rd (.fa 4 (.t 5)),none⟩::
 ⟨none,.ef (.store 1 (.t 38) (.t 37)),none⟩::
  []
def F78.c10 : RCode := .block 1 (.dreg F78.r4)
def F78.r5 : List ROper :=
 ⟨some 25,.rd (.mv (.t 6)),none⟩::
 ⟨some 26,.rd (.bin .add (.t 25) (.c (.int .i64 1))),none⟩::
 ⟨some 6,.rd (.mv (.t 26)),none⟩::
  []
def F78.c9 : RCode := .seq F78.c10 (.reg F78.r5)
def F78.c6 : RCode := .seq F78.c7 F78.c9
def F78.c5 : RCode := .loop F78.c6
def F78.c4 : RCode := .block 0 F78.c5
def F78.c3 : RCode := .seq (.reg F78.r2) F78.c4
def F78.r6 : List ROper :=
 ⟨some 39,.rd (.load (some 5) (.t 5)),none⟩::
 ⟨none,.ef (.store 5 (.t 4) (.t 39)),none⟩::
  []
def F78.c11 : RCode := .seq (.reg F78.r6) .ret
def F78.c2 : RCode := .seq F78.c3 F78.c11
def F78.c1 : RCode := .seq (.dreg F78.r1) F78.c2
def F78.c0 : RCode := .seq (.reg F78.r0) F78.c1
theorem F78.calls {args : List AV} {h : AHeap} {K : AV → AHeap → Prop} (hn : args.length ≤ 40) (k : wT .go Go.Proofs.Try.prog 40 F78.c0 (fun x e h t => atEndT t [.cell 4 (some 5)] (EndW K) x e h) (envOf 0 args) h) : ACalls Go.Proofs.Try.prog 78 args h K :=
  acallsT [2] [] 40 Go.Proofs.Try.func78 Go.Proofs.Try.ntmps78 (by kernel_rfl) (by kernel_rfl) hn k
/-- pantograph/pantographref07.turnVars -/
def F50.r0 : List ROper :=
 ⟨some 4,.rd (.mv (.c (.sl [] true))),none⟩::
  []
def F50.r1 : List ROper :=
 ⟨some 5,.rd (.mv (.c (.sl [] true))),none⟩::
  []
def F50.r2 : List ROper :=
 ⟨some 6,.rd (.mv (.c (.int .i64 0))),none⟩::
  []
def F50.r3 : List ROper :=
 ⟨some 8,.rd (.mv (.t 6)),none⟩::
 ⟨some 9,.rd (.mv (.t 0)),none⟩::
 ⟨some 10,.rd (.len 1 (.t 9)),none⟩::
 ⟨some 11,.rd (.bin .lss (.t 8) (.t 10)),none⟩::
  []
def F50.c8 : RCode := .cond (.t 11) .skip (.exit 0)
def F50.c7 : RCode := .seq (.reg F50.r3) F50.c8
def F50.r4 : List ROper :=
 ⟨some 14,.rd (.mv (.t 0)),none⟩::
 ⟨some 15,.rd (.mv (.t 6)),none⟩::
 ⟨some 16,.rd (.ia 6 (.t 14) (.t 15)),none⟩::
 ⟨some 17,.rd (.load (some 6) (.t 16)),none⟩::
 ⟨some 7,.ef (.alloc 47 [(.sl [] true),(.sl [] true),(.str (⟨#[]⟩ : ByteArray)),(.int .i64 0),(.int .i64 0),(.str (⟨#[]⟩ : ByteArray))]),none⟩::
 ⟨none,.ef (.store 6 (.t 7) (.t 17)),none⟩::
  []
def F50.r5 : List ROper :=
 ⟨some 18,.rd (.fa 2 (.t 7)),none⟩::
 ⟨some 19,.rd (.load none (.t 18)),none⟩::
 ⟨some 20,.rd (.mv (.t 1)),none⟩::
 ⟨some 21,.ef (.call 49 [(.t 19),(.t 20)]),none⟩::
 ⟨some 22,.rd (.fa 2 (.t 7)),none⟩::
 ⟨none,.ef (.store 1 (.t 22) (.t 21)),none⟩::
  []
def F50.r6 : List ROper :=
 ⟨some 23,.rd (.fa 3 (.t 7)),none⟩::
 ⟨some 24,.rd (.fa 2 (.t 23)),none⟩::
 ⟨some 25,.rd (.load none (.t 24)),none⟩::
 ⟨some 26,.rd (.mv (.t 1)),none⟩::
 ⟨some 27,.ef (.call 49 [(.t 25),(.t 26)]),none⟩::
 ⟨some 28,.rd (.fa 3 (.t 7)),none⟩::
 ⟨some 29,.rd (.fa 2 (.t 28)),none⟩::
 ⟨none,.ef (.store 1 (.t 29) (.t 27)),none⟩::
  []
def F50.r7 : List ROper :=
 ⟨some 30,.rd (.mv (.t 5)),none⟩::
 ⟨some 31,.rd (.load (some 6) (.t 7)),none⟩::
 ⟨some 32,.rd (.bsl 6 1 [(.sl [] true),(.sl [] true),(.str (⟨#[]⟩ : ByteArray)),(.int .i64 0),(.int .i64 0),(.str (⟨#[]⟩ : ByteArray))] [(0,6,(.t 31))]),none⟩::
 ⟨some 33,.ef (.append 47 6 96 (.t 30) (.t 32)),none⟩::
 ⟨some 5,.rd (.mv (.t 33)),none⟩::
  []
def F50.c13 : RCode := .seq (.reg F50.r6) (.reg F50.r7)
def F50.c12 : RCode := .seq (.reg F50.r5) F50.c13
def F50.c11 : RCode := .seq (.reg F50.r4) F50.c12
def F50.c10 : RCode := .block 1 F50.c11
def F50.r8 : List ROper :=
 ⟨some 12,.rd (.mv (.t 6)),none⟩::
 ⟨some 13,.rd (.bin .add (.t 12) (.c (.int .i64 1))),none⟩::
 ⟨some 6,.rd (.mv (.t 13)),none⟩::
  []
def F50.c9 : RCode := .seq F50.c10 (.reg F50.r8)
def F50.c6 : RCode := .seq F50.c7 F50.c9
def F50.c5 : RCode := .loop F50.c6
def F50.c4 : RCode := .block 0 F50.c5
def F50.c3 : RCode := .seq (.reg F50.r2) F50.c4
def F50.r9 : List ROper :=
 ⟨some 34,.rd (.mv (.t 5)),none⟩::
 ⟨some 4,.rd (.mv (.t 34)),none⟩::
  []
def F50.c14 : RCode := .seq (.reg F50.r9) .ret
def F50.c2 : RCode := .seq F50.c3 F50.c14
def F50.c1 : RCode := .seq (.reg F50.r1) F50.c2
def F50.c0 : RCode := .seq (.reg F50.r0) F50.c1
theorem F50.calls {args : List AV} {h : AHeap} {K : AV → AHeap → Prop} (hn : args.length ≤ 35) (k : wT .go Go.Proofs.Try.prog 35 F50.c0 (fun x e h t => atEndT t [.tmp 4] (EndW K) x e h) (envOf 0 args) h) : ACalls Go.Proofs.Try.prog 50 args h K :=
  acallsT [] [] 35 Go.Proofs.Try.func50 Go.Proofs.Try.ntmps50 (by kernel_rfl) (by kernel_rfl) hn k
/-- pantograph/pantographref07.turnStmts -/
def F52.r0 : List ROper :=
 ⟨some 4,.rd (.mv (.c (.sl [] true))),none⟩::
  []
def F52.r1 : List ROper :=
 ⟨some 5,.rd (.mv (.c (.sl [] true))),none⟩::
  []
def F52.r2 : List ROper :=
 ⟨some 6,.rd (.mv (.c (.int .i64 0))),none⟩::
  []
def F52.r3 : List ROper :=
 ⟨some 10,.rd (.mv (.t 6)),none⟩::
 ⟨some 11,.rd (.mv (.t 0)),none⟩::
 ⟨some 12,.rd (.len 1 (.t 11)),none⟩::
 ⟨some 13,.rd (.bin .lss (.t 10) (.t 12)),none⟩::
  []
def F52.c8 : RCode := .cond (.t 13) .skip (.exit 0)
def F52.c7 : RCode := .seq (.reg F52.r3) F52.c8
def F52.r4 : List ROper :=
 ⟨some 16,.rd (.mv (.t 0)),none⟩::
 ⟨some 17,.rd (.mv (.t 6)),none⟩::
 ⟨some 18,.rd (.ia 16 (.t 16) (.t 17)),none⟩::
 ⟨some 19,.rd (.load (some 16) (.t 18)),none⟩::
 ⟨some 7,.ef (.alloc 55 [(.sl [] true),(.sl [] true),(.int .i64 0),(.str (⟨#[]⟩ : ByteArray)),(.int .i64 0),(.int .i64 0),(.str (⟨#[]⟩ : ByteArray)),(.str (⟨#[]⟩ : ByteArray)),(.sl [] true),(.sl [] true),(.bool false),(.bool false),(.sl [] true),(.sl [] true),(.sl [] true),(.sl [] true)]),none⟩::
 ⟨none,.ef (.store 16 (.t 7) (.t 19)),none⟩::
  []
def F52.r5 : List ROper :=
 ⟨some 20,.rd (.fa 3 (.t 7)),none⟩::
 ⟨some 21,.rd (.load none (.t 20)),none⟩::
 ⟨some 22,.rd (.mv (.t 1)),none⟩::
 ⟨some 23,.ef (.call 49 [(.t 21),(.t 22)]),none⟩::
 ⟨some 24,.rd (.fa 3 (.t 7)),none⟩::
 ⟨none,.ef (.store 1 (.t 24) (.t 23)),none⟩::
  []
def F52.r6 : List ROper :=
 ⟨some 25,.rd (.fa 4 (.t 7)),none⟩::
 ⟨some 26,.rd (.load (some 5) (.t 25)),none⟩::
 ⟨some 27,.rd (.mv (.t 1)),none⟩::
 ⟨some 28,.ef (.call 78 [(.t 26),(.t 27)]),none⟩::
 ⟨some 29,.rd (.fa 4 (.t 7)),none⟩::
 ⟨none,.ef (.store 5 (.t 29) (.t 28)),none⟩::
  []
def F52.r7 : List ROper :=
 ⟨some 8,.rd (.mv (.c (.sl [] true))),none⟩::
  []
def F52.r8 : List ROper :=
 ⟨some 9,.rd (.mv (.c (.int .i64 0))),none⟩::
  []
def F52.r9 : List ROper :=
 ⟨some 30,.rd (.mv (.t 9)),none⟩::
 ⟨some 31,.rd (.fa 9 (.t 7)),none⟩::
 ⟨some 32,.rd (.load none (.t 31)),none⟩::
 ⟨some 33,.rd (.len 1 (.t 32)),none⟩::
 ⟨some 34,.rd (.bin .lss (.t 30) (.t 33)),none⟩::
  []
def F52.c21 : RCode := .cond (.t 34) .skip (.exit 2)
def F52.c20 : RCode := .seq (.reg F52.r9) F52.c21
def F52.r10 : List ROper :=
 ⟨some 37,.rd (.mv (.t 8)),none⟩::
 ⟨some 38,.rd (.fa 9 (.t 7)),none⟩::
 ⟨some 39,.rd (.load none (.t 38)),none⟩::
 ⟨some 40,.rd (.mv (.t 9)),none⟩::
 ⟨some 41,.rd (.ia 5 (.t 39) (.t 40)),none⟩::
 ⟨some 42,.rd (.load (some 5) (.t 41)),none⟩::
 ⟨some 43,.rd (.mv (.t 1)),none⟩::
 ⟨some 44,.ef (.call 78 [(.t 42),(.t 43)]),none⟩::
 ⟨some 45,.rd (.bsl 5 1 [(.int .i64 0),(.int .i64 0),(.str (⟨#[]⟩ : ByteArray)),(.str (⟨#[]⟩ : ByteArray)),(.sl [] true)] [(0,5,(.t 44))]),none⟩::
 ⟨some 46,.ef (.append 53 5 72 (.t 37) (.t 45)),none⟩::
 ⟨some 8,.rd (.mv (.t 46)),none⟩::
  []
def F52.c23 : RCode := .block 3 (.reg F52.r10)
def F52.r11 : List ROper :=
 ⟨some 35,.rd (.mv (.t 9)),none⟩::
 ⟨some 36,.rd (.bin .add (.t 35) (.c (.int .i64 1))),none⟩::
 ⟨some 9,.rd (.mv (.t 36)),none⟩::
  []
def F52.c22 : RCode := .seq F52.c23 (.reg F52.r11)
def F52.c19 : RCode := .seq F52.c20 F52.c22
def F52.c18 : RCode := .loop F52.c19
def F52.c17 : RCode := .block 2 F52.c18
def F52.c16 : RCode := .seq (.reg F52.r8) F52.c17
def F52.r12 : List ROper :=
 ⟨some 47,.rd (.mv (.t 8)),none⟩::
 ⟨some 48,.rd (.fa 9 (.t 7)),none⟩::
 ⟨none,.ef (.store 1 (.t 48) (.t 47)),none⟩::
  []
def F52.r13 : List ROper :=
 ⟨some 49,.rd (.fa 12 (.t 7)),none⟩::
 ⟨some 50,.rd (.load none (.t 49)),none⟩::
 ⟨some 51,.rd (.mv (.t 1)),none⟩::
 ⟨some 52,.ef (.call 52 [(.t 50),(.t 51)]),none⟩::
 ⟨some 53,.rd (.fa 12 (.t 7)),none⟩::
 ⟨none,.ef (.store 1 (.t 53) (.t 52)),none⟩::
  []
def F52.r14 : List ROper :=
 ⟨some 54,.rd (.fa 13 (.t 7)),none⟩::
 ⟨some 55,.rd (.load none (.t 54)),none⟩::
 ⟨some 56,.rd (.mv (.t 1)),none⟩::
 ⟨some 57,.ef (.call 52 [(.t 55),(.t 56)]),none⟩::
 ⟨some 58,.rd (.fa 13 (.t 7)),none⟩::
 ⟨none,.ef (.store 1 (.t 58) (.t 57)),none⟩::
  []
def F52.r15 : List ROper :=
 ⟨some 59,.rd (.mv (.t 5)),none⟩::
 ⟨some 60,.rd (.load (some 16) (.t 7)),none⟩::
 ⟨some 61,.rd (.bsl 16 1 [(.sl [] true),(.sl [] true),(.int .i64 0),(.str (⟨#[]⟩ : ByteArray)),(.int .i64 0),(.int .i64 0),(.str (⟨#[]⟩ : ByteArray)),(.str (⟨#[]⟩ : ByteArray)),(.sl [] true),(.sl [] true),(.bool false),(.bool false),(.sl [] true),(.sl [] true),(.sl [] true),(.sl [] true)] [(0,16,(.t 60))]),none⟩::
 ⟨some 62,.ef (.append 55 16 272 (.t 59) (.t 61)),none⟩::
 ⟨some 5,.rd (.mv (.t 62)),none⟩::
  []
def F52.c26 : RCode := .seq (.reg F52.r14) (.reg F52.r15)
def F52.c25 : RCode := .seq (.reg F52.r13) F52.c26
def F52.c24 : RCode := .seq (.reg F52.r12) F52.c25
def F52.c15 : RCode := .seq F52.c16 F52.c24
def F52.c14 : RCode := .seq (.reg F52.r7) F52.c15
def F52.c13 : RCode := .seq (.reg F52.r6) F52.c14
def F52.c12 : RCode := .seq (.reg F52.r5) F52.c13
def F52.c11 : RCode := .seq (.reg F52.r4) F52.c12
def F52.c10 : RCode := .block 1 F52.c11
def F52.r16 : List ROper :=
 ⟨some 14,.rd (.mv (.t 6)),none⟩::
 ⟨some 15,.rd (.bin .add (.t 14) (.c (.int .i64 1))),none⟩::
 ⟨some 6,.rd (.mv (.t 15)),none⟩::
  []
def F52.c9 : RCode := .seq F52.c10 (.reg F52.r16)
def F52.c6 : RCode := .seq F52.c7 F52.c9
def F52.c5 : RCode := .loop F52.c6
def F52.c4 : RCode := .block 0 F52.c5
def F52.c3 : RCode := .seq (.reg F52.r2) F52.c4
def F52.r17 : List ROper :=
 ⟨some 63,.rd (.mv (.t 5)),none⟩::
 ⟨some 4,.rd (.mv (.t 63)),none⟩::
  []
def F52.c27 : RCode := .seq (.reg F52.r17) .ret
def F52.c2 : RCode := .seq F52.c3 F52.c27
def F52.c1 : RCode := .seq (.reg F52.r1) F52.c2
def F52.c0 : RCode := .seq (.reg F52.r0) F52.c1
theorem F52.calls {args : List AV} {h : AHeap} {K : AV → AHeap → Prop} (hn : args.length ≤ 64) (k : wT .go Go.Proofs.Try.prog 64 F52.c0 (fun x e h t => atEndT t [.tmp 4] (EndW K) x e h) (envOf 0 args) h) : ACalls Go.Proofs.Try.prog 52 args h K :=
  acallsT [] [] 64 Go.Proofs.Try.func52 Go.Proofs.Try.ntmps52 (by kernel_rfl) (by kernel_rfl) hn k
/-- pantograph/pantographref07.turnRoutines -/
def F51.r0 : List ROper :=
 ⟨some 4,.rd (.mv (.c (.sl [] true))),none⟩::
  []
def F51.r1 : List ROper :=
 ⟨some 5,.rd (.mv (.c (.sl [] true))),none⟩::
  []
def F51.r2 : List ROper :=
 ⟨some 6,.rd (.mv (.c (.int .i64 0))),none⟩::
  []
def F51.r3 : List ROper :=
 ⟨some 11,.rd (.mv (.t 6)),none⟩::
 ⟨some 12,.rd (.mv (.t 0)),none⟩::
 ⟨some 13,.rd (.len 1 (.t 12)),none⟩::
 ⟨some 14,.rd (.bin .lss (.t 11) (.t 13)),none⟩::
  []
def F51.c8 : RCode := .cond (.t 14) .skip (.exit 0)
def F51.c7 : RCode := .seq (.reg F51.r3) F51.c8
def F51.r4 : List ROper :=
 ⟨some 17,.rd (.mv (.t 0)),none⟩::
 ⟨some 18,.rd (.mv (.t 6)),none⟩::
 ⟨some 19,.rd (.ia 9 (.t 17) (.t 18)),none⟩::
 ⟨some 20,.rd (.load (some 9) (.t 19)),none⟩::
 ⟨some 7,.ef (.alloc 62 [(.sl [] true),(.sl [] true),(.str (⟨#[]⟩ : ByteArray)),(.int .i64 0),(.sl [] true),(.sl [] true),(.sl [] true),(.sl [] true),(.sl [] true)]),none⟩::
 ⟨none,.ef (.store 9 (.t 7) (.t 20)),none⟩::
  []
def F51.r5 : List ROper :=
 ⟨some 21,.rd (.fa 2 (.t 7)),none⟩::
 ⟨some 22,.rd (.load none (.t 21)),none⟩::
 ⟨some 23,.rd (.mv (.t 1)),none⟩::
 ⟨some 24,.ef (.call 49 [(.t 22),(.t 23)]),none⟩::
 ⟨some 25,.rd (.fa 2 (.t 7)),none⟩::
 ⟨none,.ef (.store 1 (.t 25) (.t 24)),none⟩::
  []
def F51.r6 : List ROper :=
 ⟨some 8,.rd (.mv (.c (.sl [] true))),none⟩::
  []
def F51.r7 : List ROper :=
 ⟨some 9,.rd (.mv (.c (.int .i64 0))),none⟩::
  []
def F51.r8 : List ROper :=
 ⟨some 26,.rd (.mv (.t 9)),none⟩::
 ⟨some 27,.rd (.fa 4 (.t 7)),none⟩::
 ⟨some 28,.rd (.load none (.t 27)),none⟩::
 ⟨some 29,.rd (.len 1 (.t 28)),none⟩::
 ⟨some 30,.rd (.bin .lss (.t 26) (.t 29)),none⟩::
  []
def F51.c20 : RCode := .cond (.t 30) .skip (.exit 2)
def F51.c19 : RCode := .seq (.reg F51.r8) F51.c20
def F51.r9 : List ROper :=
 ⟨some 33,.rd (.fa 4 (.t 7)),none⟩::
 ⟨some 34,.rd (.load none (.t 33)),none⟩::
 ⟨some 35,.rd (.mv (.t 9)),none⟩::
 ⟨some 36,.rd (.ia 5 (.t 34) (.t 35)),none⟩::
 ⟨some 37,.rd (.load (some 5) (.t 36)),none⟩::
 ⟨some 10,.ef (.alloc 66 [(.str (⟨#[]⟩ : ByteArray)),(.int .i64 0),(.int .i64 0),(.str (⟨#[]⟩ : ByteArray)),(.int .i64 0)]),none⟩::
 ⟨none,.ef (.store 5 (.t 10) (.t 37)),none⟩::
  []
def F51.r10 : List ROper :=
 ⟨some 38,.rd (.fa 0 (.t 10)),none⟩::
 ⟨some 39,.rd (.load none (.t 38)),none⟩::
 ⟨some 40,.rd (.mv (.t 1)),none⟩::
 ⟨some 41,.ef (.call 49 [(.t 39),(.t 40)]),none⟩::
 ⟨some 42,.rd (.fa 0 (.t 10)),none⟩::
 ⟨none,.ef (.store 1 (.t 42) (.t 41)),none⟩::
  []
def F51.r11 : List ROper :=
 ⟨some 43,.rd (.fa 1 (.t 10)),none⟩::
 ⟨some 44,.rd (.fa 2 (.t 43)),none⟩::
 ⟨some 45,.rd (.load none (.t 44)),none⟩::
 ⟨some 46,.rd (.mv (.t 1)),none⟩::
 ⟨some 47,.ef (.call 49 [(.t 45),(.t 46)]),none⟩::
 ⟨some 48,.rd (.fa 1 (.t 10)),none⟩::
 ⟨some 49,.rd (.fa 2 (.t 48)),none⟩::
 ⟨none,.ef (.store 1 (.t 49) (.t 47)),none⟩::
  []
def F51.r12 : List ROper :=
 ⟨some 50,.rd (.mv (.t 8)),none⟩::
 ⟨some 51,.rd (.load (some 5) (.t 10)),none⟩::
 ⟨some 52,.rd (.bsl 5 1 [(.str (⟨#[]⟩ : ByteArray)),(.int .i64 0),(.int .i64 0),(.str (⟨#[]⟩ : ByteArray)),(.int .i64 0)] [(0,5,(.t 51))]),none⟩::
 ⟨some 53,.ef (.append 66 5 56 (.t 50) (.t 52)),none⟩::
 ⟨some 8,.rd (.mv (.t 53)),none⟩::
  []
def F51.c25 : RCode := .seq (.reg F51.r11) (.reg F51.r12)
def F51.c24 : RCode := .seq (.reg F51.r10) F51.c25
def F51.c23 : RCode := .seq (.reg F51.r9) F51.c24
def F51.c22 : RCode := .block 3 F51.c23
def F51.r13 : List ROper :=
 ⟨some 31,.rd (.mv (.t 9)),none⟩::
 ⟨some 32,.rd (.bin .add (.t 31) (.c (.int .i64 1))),none⟩::
 ⟨some 9,.rd (.mv (.t 32)),none⟩::
  []
def F51.c21 : RCode := .seq F51.c22 (.reg F51.r13)
def F51.c18 : RCode := .seq F51.c19 F51.c21
def F51.c17 : RCode := .loop F51.c18
def F51.c16 : RCode := .block 2 F51.c17
def F51.c15 : RCode := .seq (.reg F51.r7) F51.c16
def F51.r14 : List ROper :=
 ⟨some 54,.rd (.mv (.t 8)),none⟩::
 ⟨some 55,.rd (.fa 4 (.t 7)),none⟩::
 ⟨none,.ef (.store 1 (.t 55) (.t 54)),none⟩::
  []
def F51.r15 : List ROper :=
 ⟨some 56,.rd (.fa 5 (.t 7)),none⟩::
 ⟨some 57,.rd (.load none (.t 56)),none⟩::
 ⟨some 58,.rd (.mv (.t 1)),none⟩::
 ⟨some 59,.ef (.call 50 [(.t 57),(.t 58)]),none⟩::
 ⟨some 60,.rd (.fa 5 (.t 7)),none⟩::
 ⟨none,.ef (.store 1 (.t 60) (.t 59)),none⟩::
  []
def F51.r16 : List ROper :=
 ⟨some 61,.rd (.fa 6 (.t 7)),none⟩::
 ⟨some 62,.rd (.load none (.t 61)),none⟩::
 ⟨some 63,.rd (.mv (.t 1)),none⟩::
 ⟨some 64,.ef (.call 51 [(.t 62),(.t 63)]),none⟩::
 ⟨some 65,.rd (.fa 6 (.t 7)),none⟩::
 ⟨none,.ef (.store 1 (.t 65) (.t 64)),none⟩::
  []
def F51.r17 : List ROper :=
 ⟨some 66,.rd (.fa 7 (.t 7)),none⟩::
 ⟨some 67,.rd (.load none (.t 66)),none⟩::
 ⟨some 68,.rd (.mv (.t 1)),none⟩::
 ⟨some 69,.ef (.call 52 [(.t 67),(.t 68)]),none⟩::
 ⟨some 70,.rd (.fa 7 (.t 7)),none⟩::
 ⟨none,.ef (.store 1 (.t 70) (.t 69)),none⟩::
  []
def F51.r18 : List ROper :=
 ⟨some 71,.rd (.mv (.t 5)),none⟩::
 ⟨some 72,.rd (.load (some 9) (.t 7)),none⟩::
 ⟨some 73,.rd (.bsl 9 1 [(.sl [] true),(.sl [] true),(.str (⟨#[]⟩ : ByteArray)),(.int .i64 0),(.sl [] true),(.sl [] true),(.sl [] true),(.sl [] true),(.sl [] true)] [(0,9,(.t 72))]),none⟩::
 ⟨some 74,.ef (.append 62 9 192 (.t 71) (.t 73)),none⟩::
 ⟨some 5,.rd (.mv (.t 74)),none⟩::
  []
def F51.c29 : RCode := .seq (.reg F51.r17) (.reg F51.r18)
def F51.c28 : RCode := .seq (.reg F51.r16) F51.c29
def F51.c27 : RCode := .seq (.reg F51.r15) F51.c28
def F51.c26 : RCode := .seq (.reg F51.r14) F51.c27
def F51.c14 : RCode := .seq F51.c15 F51.c26
def F51.c13 : RCode := .seq (.reg F51.r6) F51.c14
def F51.c12 : RCode := .seq (.reg F51.r5) F51.c13
def F51.c11 : RCode := .seq (.reg F51.r4) F51.c12
def F51.c10 : RCode := .block 1 F51.c11
def F51.r19 : List ROper :=
 ⟨some 15,.rd (.mv (.t 6)),none⟩::
 ⟨some 16,.rd (.bin .add (.t 15) (.c (.int .i64 1))),none⟩::
 ⟨some 6,.rd (.mv (.t 16)),none⟩::
  []
def F51.c9 : RCode := .seq F51.c10 (.reg F51.r19)
def F51.c6 : RCode := .seq F51.c7 F51.c9
def F51.c5 : RCode := .loop F51.c6
def F51.c4 : RCode := .block 0 F51.c5
def F51.c3 : RCode := .seq (.reg F51.r2) F51.c4
def F51.r20 : List ROper :=
 ⟨some 75,.rd (.mv (.t 5)),none⟩::
 ⟨some 4,.rd (.mv (.t 75)),none⟩::
  []
def F51.c30 : RCode := .seq (.reg F51.r20) .ret
def F51.c2 : RCode := .seq F51.c3 F51.c30
def F51.c1 : RCode := .seq (.reg F51.r1) F51.c2
def F51.c0 : RCode := .seq (.reg F51.r0) F51.c1
theorem F51.calls {args : List AV} {h : AHeap} {K : AV → AHeap → Prop} (hn : args.length ≤ 76) (k : wT .go Go.Proofs.Try.prog 76 F51.c0 (fun x e h t => atEndT t [.tmp 4] (EndW K) x e h) (envOf 0 args) h) : ACalls Go.Proofs.Try.prog 51 args h K :=
  acallsT [] [] 76 Go.Proofs.Try.func51 Go.Proofs.Try.ntmps51 (by kernel_rfl) (by kernel_rfl) hn k
/-- pantograph/pantographref07.Rename -/
def F16.r0 : List ROper :=
 ⟨some 2,.rd (.bx none (.t 0)),none⟩::
 ⟨some 4,.ef (.alloc 28 [(.str (⟨#[]⟩ : ByteArray)),(.sl [] true),(.sl [] true),(.sl [] true),(.sl [] true),(.sl [] true),(.sl [] true),(.sl [] true),(.sl [] true)]),none⟩::
  []
def F16.r1 : List ROper :=
 ⟨some 11,.rd (.load (some 9) (.t 2)),none⟩::
 ⟨some 5,.ef (.alloc 28 [(.str (⟨#[]⟩ : ByteArray)),(.sl [] true),(.sl [] true),(.sl [] true),(.sl [] true),(.sl [] true),(.sl [] true),(.sl [] true),(.sl [] true)]),none⟩::
 ⟨none,.ef (.store 9 (.t 5) (.t 11)),none⟩::
  []
def F16.r2 : List ROper :=
 ⟨some 12,.rd (.fa 0 (.t 2)),none⟩::
 ⟨some 13,.rd (.load none (.t 12)),none⟩::
 ⟨some 14,.rd (.mv (.t 1)),none⟩::
 ⟨some 15,.ef (.call 49 [(.t 13),(.t 14)]),none⟩::
 ⟨some 16,.rd (.fa 0 (.t 5)),none⟩::
 ⟨none,.ef (.store 1 (.t 16) (.t 15)),none⟩::
  []
def F16.r3 : List ROper :=
 ⟨some 17,.rd (.fa 4 (.t 5)),none⟩::
 ⟨none,.ef (.store 1 (.t 17) (.c (.sl [] true))),none⟩::
  []
def F16.r4 : List ROper :=
 ⟨some 6,.rd (.mv (.c (.int .i64 0))),none⟩::
  []
def F16.r5 : List ROper :=
 ⟨some 18,.rd (.mv (.t 6)),none⟩::
 ⟨some 19,.rd (.fa 4 (.t 2)),none⟩::
 ⟨some 20,.rd (.load none (.t 19)),none⟩::
 ⟨some 21,.rd (.len 1 (.t 20)),none⟩::
 ⟨some 22,.rd (.bin .lss (.t 18) (.t 21)),none⟩::
  []
def F16.c10 : RCode := .cond (.t 22) .skip (.exit 0)
def F16.c9 : RCode := .seq (.reg F16.r5) F16.c10
def F16.r6 : List ROper :=
 ⟨some 25,.rd (.fa 4 (.t 2)),none⟩::
 ⟨some 26,.rd (.load none (.t 25)),none⟩::
 ⟨some 27,.rd (.mv (.t 6)),none⟩::
 ⟨some 28,.rd (.ia 5 (.t 26) (.t 27)),none⟩::
 ⟨some 29,.rd (.load (some 5) (.t 28)),none⟩::
 ⟨some 7,.ef (.alloc 74 [(.sl [] true),(.sl [] true),(.str (⟨#[]⟩ : ByteArray)),(.sl [] true),(.sl [] true)]),none⟩::
 ⟨none,.ef (.store 5 (.t 7) (.t 29)),none⟩::
  []
def F16.r7 : List ROper :=
 ⟨some 30,.rd (.fa 2 (.t 7)),none⟩::
 ⟨some 31,.rd (.load none (.t 30)),none⟩::
 ⟨some 32,.rd (.mv (.t 1)),none⟩::
 ⟨some 33,.ef (.call 49 [(.t 31),(.t 32)]),none⟩::
 ⟨some 34,.rd (.fa 2 (.t 7)),none⟩::
 ⟨none,.ef (.store 1 (.t 34) (.t 33)),none⟩::
  []
def F16.r8 : List ROper :=
 ⟨some 8,.rd (.mv (.c (.sl [] true))),none⟩::
  []
def F16.r9 : List ROper :=
 ⟨some 9,.rd (.mv (.c (.int .i64 0))),none⟩::
  []
def F16.r10 : List ROper :=
 ⟨some 35,.rd (.mv (.t 9)),none⟩::
 ⟨some 36,.rd (.fa 3 (.t 7)),none⟩::
 ⟨some 37,.rd (.load none (.t 36)),none⟩::
 ⟨some 38,.rd (.len 1 (.t 37)),none⟩::
 ⟨some 39,.rd (.bin .lss (.t 35) (.t 38)),none⟩::
  []
def F16.c22 : RCode := .cond (.t 39) .skip (.exit 2)
def F16.c21 : RCode := .seq (.reg F16.r10) F16.c22
def F16.r11 : List ROper :=
 ⟨some 42,.rd (.fa 3 (.t 7)),none⟩::
 ⟨some 43,.rd (.load none (.t 42)),none⟩::
 ⟨some 44,.rd (.mv (.t 9)),none⟩::
 ⟨some 45,.rd (.ia 4 (.t 43) (.t 44)),none⟩::
 ⟨some 46,.rd (.load (some 4) (.t 45)),none⟩::
 ⟨some 10,.ef (.alloc 77 [(.sl [] true),(.sl [] true),(.str (⟨#[]⟩ : ByteArray)),(.int .i64 0)]),none⟩::
 ⟨none,.ef (.store 4 (.t 10) (.t 46)),none⟩::
  []
def F16.r12 : List ROper :=
 ⟨some 47,.rd (.fa 2 (.t 10)),none⟩::
 ⟨some 48,.rd (.load none (.t 47)),none⟩::
 ⟨some 49,.rd (.mv (.t 1)),none⟩::
 ⟨some 50,.ef (.call 49 [(.t 48),(.t 49)]),none⟩::
 ⟨some 51,.rd (.fa 2 (.t 10)),none⟩::
 ⟨none,.ef (.store 1 (.t 51) (.t 50)),none⟩::
  []
def F16.r13 : List ROper :=
 ⟨some 52,.rd (.mv (.t 8)),none⟩::
 ⟨some 53,.rd (.load (some 4) (.t 10)),none⟩::
 ⟨some 54,.rd (.bsl 4 1 [(.sl [] true),(.sl [] true),(.str (⟨#[]⟩ : ByteArray)),(.int .i64 0)] [(0,4,(.t 53))]),none⟩::
 ⟨some 55,.ef (.append 77 4 72 (.t 52) (.t 54)),none⟩::
 ⟨some 8,.rd (.mv (.t 55)),none⟩::
  []
def F16.c26 : RCode := .seq (.reg F16.r12) (.reg F16.r13)
def F16.c25 : RCode := .seq (.reg F16.r11) F16.c26
def F16.c24 : RCode := .block 3 F16.c25
def F16.r14 : List ROper :=
 ⟨some 40,.rd (.mv (.t 9)),none⟩::
 ⟨some 41,.rd (.bin .add (.t 40) (.c (.int .i64 1))),none⟩::
 ⟨some 9,.rd (.mv (.t 41)),none⟩::
  []
def F16.c23 : RCode := .seq F16.c24 (.reg F16.r14)
def F16.c20 : RCode := .seq F16.c21 F16.c23
def F16.c19 : RCode := .loop F16.c20
def F16.c18 : RCode := .block 2 F16.c19
def F16.c17 : RCode := .seq (.reg F16.r9) F16.c18
def F16.r15 : List ROper :=
 ⟨some 56,.rd (.mv (.t 8)),none⟩::
 ⟨some 57,.rd (.fa 3 (.t 7)),none⟩::
 ⟨none,.ef (.store 1 (.t 57) (.t 56)),none⟩::
  []
def F16.r16 : List ROper :=
 ⟨some 58,.rd (.fa 4 (.t 5)),none⟩::
 ⟨some 59,.rd (.load none (.t 58)),none⟩::
 ⟨some 60,.rd (.load (some 5) (.t 7)),none⟩::
 ⟨some 61,.rd (.bsl 5 1 [(.sl [] true),(.sl [] true),(.str (⟨#[]⟩ : ByteArray)),(.sl [] true),(.sl [] true)] [(0,5,(.t 60))]),none⟩::
 ⟨some 62,.ef (.append 74 5 112 (.t 59) (.t 61)),none⟩::
 ⟨some 63,.rd (.fa 4 (.t 5)),none⟩::
 ⟨none,.ef (.store 1 (.t 63) (.t 62)),none⟩::
  []
def F16.c27 : RCode := .seq (.reg F16.r15) (.reg F16.r16)
def F16.c16 : RCode := .seq F16.c17 F16.c27
def F16.c15 : RCode := .seq (.reg F16.r8) F16.c16
def F16.c14 : RCode := .seq (.reg F16.r7) F16.c15
def F16.c13 : RCode := .seq (.reg F16.r6) F16.c14
def F16.c12 : RCode := .block 1 F16.c13
def F16.r17 : List ROper :=
 ⟨some 23,.rd (.mv (.t 6)),none⟩::
 ⟨some 24,.rd (.bin .add (.t 23) (.c (.int .i64 1))),none⟩::
 ⟨some 6,.rd (.mv (.t 24)),none⟩::
  []
def F16.c11 : RCode := .seq F16.c12 (.reg F16.r17)
def F16.c8 : RCode := .seq F16.c9 F16.c11
def F16.c7 : RCode := .loop F16.c8
def F16.c6 : RCode := .block 0 F16.c7
def F16.c5 : RCode := .seq (.reg F16.r4) F16.c6
def F16.r18 : List ROper :=
 ⟨some 64,.rd (.fa 5 (.t 2)),none⟩::
 ⟨some 65,.rd (.load none (.t 64)),none⟩::
 ⟨some 66,.rd (.mv (.t 1)),none⟩::
 ⟨some 67,.ef (.call 50 [(.t 65),(.t 66)]),none⟩::
 ⟨some 68,.rd (.fa 5 (.t 5)),none⟩::
 ⟨none,.ef (.store 1 (.t 68) (.t 67)),none⟩::
  []
def F16.r19 : List ROper :=
 ⟨some 69,.rd (.fa 6 (.t 2)),none⟩::
 ⟨some 70,.rd (.load none (.t 69)),none⟩::
 ⟨some 71,.rd (.mv (.t 1)),none⟩::
 ⟨some 72,.ef (.call 51 [(.t 70),(.t 71)]),none⟩::
 ⟨some 73,.rd (.fa 6 (.t 5)),none⟩::
 ⟨none,.ef (.store 1 (.t 73) (.t 72)),none⟩::
  []
def F16.r20 : List ROper :=
 ⟨some 74,.rd (.fa 7 (.t 2)),none⟩::
 ⟨some 75,.rd (.load none (.t 74)),none⟩::
 ⟨some 76,.rd (.mv (.t 1)),none⟩::
 ⟨some 77,.ef (.call 52 [(.t 75),(.t 76)]),none⟩::
 ⟨some 78,.rd (.fa 7 (.t 5)),none⟩::
 ⟨none,.ef (.store 1 (.t 78) (.t 77)),none⟩::
  []
def F16.r21 : List ROper :=
 ⟨some 79,.rd (.load (some 9) (.t 5)),none⟩::
 ⟨none,.ef (.store 9 (.t 4) (.t 79)),none⟩::
  []
def F16.c31 : RCode := .seq (.reg F16.r21) .ret
def F16.c30 : RCode := .seq (.reg F16.r20) F16.c31
def F16.c29 : RCode := .seq (.reg F16.r19) F16.c30
def F16.c28 : RCode := .seq (.reg F16.r18) F16.c29
def F16.c4 : RCode := .seq F16.c5 F16.c28
def F16.c3 : RCode := .seq (.reg F16.r3) F16.c4
def F16.c2 : RCode := .seq (.reg F16.r2) F16.c3
def F16.c1 : RCode := .seq (.reg F16.r1) F16.c2
def F16.c0 : RCode := .seq (.reg F16.r0) F16.c1
theorem F16.calls {args : List AV} {h : AHeap} {K : AV → AHeap → Prop} (hn : args.length ≤ 80) (k : wT .go Go.Proofs.Try.prog 80 F16.c0 (fun x e h t => atEndT t [.cell 4 (some 9)] (EndW K) x e h) (envOf 0 args) h) : ACalls Go.Proofs.Try.prog 16 args h K :=
  acallsT [2] [] 80 Go.Proofs.Try.func16 Go.Proofs.Try.ntmps16 (by kernel_rfl) (by kernel_rfl) hn k
/-- pantograph/pantographlaw12.CheckNames -/
def F3.r0 : List ROper :=
 ⟨some 1,.rd (.bx none (.t 0)),none⟩::
 ⟨some 2,.rd (.mv (.c (.bool false))),none⟩::
  []
def F3.r1 : List ROper :=
 ⟨some 10,.rd (.load (some 9) (.t 1)),none⟩::
 ⟨some 11,.ef (.call 11 [(.c (.int .i64 0)),(.t 10)]),none⟩::
 ⟨some 12,.rd (.un .not (.t 11)),none⟩::
  []
def F3.r2 : List ROper :=
 ⟨some 13,.ef (.call 12 []),none⟩::
 ⟨some 2,.rd (.mv (.t 13)),none⟩::
  []
def F3.c4 : RCode := .seq (.reg F3.r2) .ret
def F3.c3 : RCode := .cond (.t 12) F3.c4 .skip
def F3.c2 : RCode := .seq (.reg F3.r1) F3.c3
def F3.r3 : List ROper :=
 ⟨some 14,.rd (.load (some 9) (.t 1)),none⟩::
 ⟨some 15,.ef (.call 13 [(.t 14)]),none⟩::
 ⟨some 3,.rd (.mv (.t 15)),none⟩::
  []
def F3.r4 : List ROper :=
 ⟨some 16,.rd (.mv (.t 3)),none⟩::
 ⟨some 17,.rd (.len 1 (.t 16)),none⟩::
 ⟨some 18,.rd (.bin .gtr (.t 17) (.c (.int .i64 200))),none⟩::
  []
def F3.r5 : List ROper :=
 ⟨some 19,.ef (.call 12 []),none⟩::
 ⟨some 2,.rd (.mv (.t 19)),none⟩::
  []
def F3.c9 : RCode := .seq (.reg F3.r5) .ret
def F3.c8 : RCode := .cond (.t 18) F3.c9 .skip
def F3.c7 : RCode := .seq (.reg F3.r4) F3.c8
def F3.r6 : List ROper :=
 ⟨some 4,.rd (.mv (.c (.sl [] true))),none⟩::
  []
def F3.r7 : List ROper :=
 ⟨some 5,.rd (.mv (.c (.int .i64 0))),none⟩::
  []
def F3.r8 : List ROper :=
 ⟨some 20,.rd (.mv (.t 5)),none⟩::
 ⟨some 21,.rd (.mv (.t 3)),none⟩::
 ⟨some 22,.rd (.len 1 (.t 21)),none⟩::
 ⟨some 23,.rd (.bin .lss (.t 20) (.t 22)),none⟩::
  []
def F3.c17 : RCode := .cond (.t 23) .skip (.exit 0)
def F3.c16 : RCode := .seq (.reg F3.r8) F3.c17
def F3.r9 : List ROper :=
 ⟨some 26,.rd (.mv (.t 4)),none⟩::
 ⟨some 27,.rd (.mv (.t 3)),none⟩::
 ⟨some 28,.rd (.mv (.t 5)),none⟩::
 ⟨some 29,.rd (.ia 1 (.t 27) (.t 28)),none⟩::
 ⟨some 30,.rd (.load none (.t 29)),none⟩::
 ⟨some 31,.rd (.mv (.t 5)),none⟩::
 ⟨some 32,.ef (.call 14 [(.t 31)]),none⟩::
 ⟨some 33,.rd (.bin .add (.c (.str (⟨#[110]⟩ : ByteArray))) (.t 32)),none⟩::
 ⟨some 34,.rd (.build [(.str (⟨#[]⟩ : ByteArray)),(.str (⟨#[]⟩ : ByteArray))] [(0,1,(.t 30)),(1,1,(.t 33))]),none⟩::
 ⟨some 35,.rd (.bsl 2 1 [(.str (⟨#[]⟩ : ByteArray)),(.str (⟨#[]⟩ : ByteArray))] [(0,2,(.t 34))]),none⟩::
 ⟨some 36,.ef (.append 35 2 32 (.t 26) (.t 35)),none⟩::
 ⟨some 4,.rd (.mv (.t 36)),none⟩::
  []
def F3.c19 : RCode := .block 1 (.dreg F3.r9)
def F3.r10 : List ROper :=
 ⟨some 24,.rd (.mv (.t 5)),none⟩::
 ⟨some 25,.rd (.bin .add (.t 24) (.c (.int .i64 1))),none⟩::
 ⟨some 5,.rd (.mv (.t 25)),none⟩::
  []
def F3.c18 : RCode := .seq F3.c19 (.reg F3.r10)
def F3.c15 : RCode := .seq F3.c16 F3.c18
def F3.c14 : RCode := .loop F3.c15
def F3.c13 : RCode := .block 0 F3.c14
def F3.c12 : RCode := .seq (.reg F3.r7) F3.c13
def F3.r11 : List ROper :=
 ⟨some 38,.rd (.load (some 9) (.t 1)),none⟩::
 ⟨some 39,.ef (.call 15 [(.t 38)]),none⟩::
 ⟨some 37,.rd (.mv (.t 39)),none⟩::
 ⟨some 40,.rd (.ext (.t 37) 0),none⟩::
 ⟨some 41,.rd (.ext (.t 37) 1),none⟩::
 ⟨some 6,.rd (.mv (.t 40)),none⟩::
 ⟨some 7,.rd (.mv (.t 41)),none⟩::
  []
def F3.r12 : List ROper :=
 ⟨some 43,.rd (.load (some 9) (.t 1)),none⟩::
 ⟨some 44,.rd (.mv (.t 4)),none⟩::
 ⟨some 45,.ef (.call 16 [(.t 43),(.t 44)]),none⟩::
 ⟨some 46,.ef (.call 15 [(.t 45)]),none⟩::
 ⟨some 42,.rd (.mv (.t 46)),none⟩::
 ⟨some 47,.rd (.ext (.t 42) 0),none⟩::
 ⟨some 48,.rd (.ext (.t 42) 1),none⟩::
 ⟨some 8,.rd (.mv (.t 47)),none⟩::
 ⟨some 9,.rd (.mv (.t 48)),none⟩::
  []
def F3.r13 : List ROper :=
 ⟨some 49,.rd (.mv (.t 6)),none⟩::
 ⟨some 50,.rd (.mv (.t 8)),none⟩::
 ⟨some 51,.rd (.bin .eql (.t 49) (.t 50)),none⟩::
 ⟨some 52,.rd (.mv (.t 51)),none⟩::
 ⟨some 53,.rd (.mv (.t 7)),some (52,true)⟩::
 ⟨some 54,.rd (.mv (.t 9)),some (52,true)⟩::
 ⟨some 55,.rd (.bin .eql (.t 53) (.t 54)),some (52,true)⟩::
 ⟨some 56,.rd (.pick (.t 52) (.t 55) (.c (.bool false))),none⟩::
 ⟨some 57,.rd (.mv (.t 56)),none⟩::
 ⟨some 58,.ef (.call 12 []),some (57,true)⟩::
 ⟨some 59,.rd (.pick (.t 57) (.t 58) (.c (.bool false))),none⟩::
 ⟨some 2,.rd (.mv (.t 59)),none⟩::
  []
def F3.c22 : RCode := .seq (.reg F3.r13) .ret
def F3.c21 : RCode := .seq (.reg F3.r12) F3.c22
def F3.c20 : RCode := .seq (.reg F3.r11) F3.c21
def F3.c11 : RCode := .seq F3.c12 F3.c20
def F3.c10 : RCode := .seq (.reg F3.r6) F3.c11
def F3.c6 : RCode := .seq F3.c7 F3.c10
def F3.c5 : RCode := .seq (.reg F3.r3) F3.c6
def F3.c1 : RCode := .seq F3.c2 F3.c5
def F3.c0 : RCode := .seq (.reg F3.r0) F3.c1
theorem F3.calls {args : List AV} {h : AHeap} {K : AV → AHeap → Prop} (hn : args.length ≤ 60) (k : wT .go Go.Proofs.Try.prog 60 F3.c0 (fun x e h t => atEndT t [.tmp 2] (EndW K) x e h) (envOf 0 args) h) : ACalls Go.Proofs.Try.prog 3 args h K :=
  acallsT [1] [] 60 Go.Proofs.Try.func3 Go.Proofs.Try.ntmps3 (by kernel_rfl) (by kernel_rfl) hn k
end Pg
