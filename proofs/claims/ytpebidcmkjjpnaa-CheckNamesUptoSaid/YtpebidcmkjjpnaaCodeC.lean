import Derived.Test.YtpebidcmkjjpnaaK4
import Derived.Test.YtpebidcmkjjpnaaProg
import Derived.KernelRfl
namespace Pg
open Go
set_option maxRecDepth 10000
/-- pantograph/pantographref07.Parts -/
def F36.r0 : List ROper :=
 ⟨some 2,.rd (.mv (.c (.sl [] true))),none⟩::
  []
def F36.r1 : List ROper :=
 ⟨some 3,.rd (.mv (.c (.sl [] true))),none⟩::
  []
def F36.r2 : List ROper :=
 ⟨some 4,.rd (.mv (.c (.int .i64 0))),none⟩::
  []
def F36.r3 : List ROper :=
 ⟨some 5,.rd (.mv (.c (.int .i64 0))),none⟩::
  []
def F36.r4 : List ROper :=
 ⟨some 6,.rd (.mv (.t 5)),none⟩::
 ⟨some 7,.rd (.mv (.t 0)),none⟩::
 ⟨some 8,.rd (.len 0 (.t 7)),none⟩::
 ⟨some 9,.rd (.bin .leq (.t 6) (.t 8)),none⟩::
  []
def F36.c9 : RCode := .cond (.t 9) .skip (.exit 0)
def F36.c8 : RCode := .seq (.reg F36.r4) F36.c9
def F36.r5 : List ROper :=
 ⟨some 12,.rd (.mv (.t 5)),none⟩::
 ⟨some 13,.rd (.mv (.t 0)),none⟩::
 ⟨some 14,.rd (.len 0 (.t 13)),none⟩::
 ⟨some 15,.rd (.bin .eql (.t 12) (.t 14)),none⟩::
 ⟨some 16,.rd (.mv (.t 15)),none⟩::
 ⟨some 17,.rd (.mv (.t 0)),some (16,false)⟩::
 ⟨some 18,.rd (.mv (.t 5)),some (16,false)⟩::
 ⟨some 19,.rd (.six (.t 17) (.t 18)),some (16,false)⟩::
 ⟨some 20,.rd (.bin .eql (.t 19) (.c (.int .u8 36))),some (16,false)⟩::
 ⟨some 21,.rd (.pick (.t 16) (.c (.bool true)) (.t 20)),none⟩::
  []
def F36.r6 : List ROper :=
 ⟨some 22,.rd (.mv (.t 3)),none⟩::
 ⟨some 23,.rd (.mv (.t 0)),none⟩::
 ⟨some 24,.rd (.mv (.t 4)),none⟩::
 ⟨some 25,.rd (.mv (.t 5)),none⟩::
 ⟨some 26,.rd (.slice true 0 (.t 23) (some (.t 24)) (some (.t 25))),none⟩::
 ⟨some 27,.rd (.bsl 1 1 [(.str (⟨#[]⟩ : ByteArray))] [(0,1,(.t 26))]),none⟩::
 ⟨some 28,.ef (.append 9 1 16 (.t 22) (.t 27)),none⟩::
 ⟨some 3,.rd (.mv (.t 28)),none⟩::
  []
def F36.r7 : List ROper :=
 ⟨some 29,.rd (.mv (.t 5)),none⟩::
 ⟨some 30,.rd (.bin .add (.t 29) (.c (.int .i64 1))),none⟩::
 ⟨some 4,.rd (.mv (.t 30)),none⟩::
  []
def F36.c14 : RCode := .seq (.reg F36.r6) (.reg F36.r7)
def F36.c13 : RCode := .cond (.t 21) F36.c14 .skip
def F36.c12 : RCode := .seq (.reg F36.r5) F36.c13
def F36.c11 : RCode := .block 1 F36.c12
def F36.r8 : List ROper :=
 ⟨some 10,.rd (.mv (.t 5)),none⟩::
 ⟨some 11,.rd (.bin .add (.t 10) (.c (.int .i64 1))),none⟩::
 ⟨some 5,.rd (.mv (.t 11)),none⟩::
  []
def F36.c10 : RCode := .seq F36.c11 (.reg F36.r8)
def F36.c7 : RCode := .seq F36.c8 F36.c10
def F36.c6 : RCode := .loop F36.c7
def F36.c5 : RCode := .block 0 F36.c6
def F36.c4 : RCode := .seq (.reg F36.r3) F36.c5
def F36.r9 : List ROper :=
 ⟨some 31,.rd (.mv (.t 3)),none⟩::
 ⟨some 2,.rd (.mv (.t 31)),none⟩::
  []
def F36.c15 : RCode := .seq (.reg F36.r9) .ret
def F36.c3 : RCode := .seq F36.c4 F36.c15
def F36.c2 : RCode := .seq (.reg F36.r2) F36.c3
def F36.c1 : RCode := .seq (.reg F36.r1) F36.c2
def F36.c0 : RCode := .seq (.reg F36.r0) F36.c1
theorem F36.calls {args : List AV} {h : AHeap} {K : AV → AHeap → Prop} (hn : args.length ≤ 32) (k : wT .go Go.Proofs.Try.prog 32 F36.c0 (fun x e h t => atEndT t [.tmp 2] (EndW K) x e h) (envOf 0 args) h) : ACalls Go.Proofs.Try.prog 36 args h K :=
  acallsT [] [] 32 Go.Proofs.Try.func36 Go.Proofs.Try.ntmps36 (by kernel_rfl) (by kernel_rfl) hn k
/-- pantograph/pantographref07.ExprNames -/
def F71.r0 : List ROper :=
 ⟨some 1,.rd (.bx none (.t 0)),none⟩::
 ⟨some 2,.rd (.mv (.c (.sl [] true))),none⟩::
  []
def F71.r1 : List ROper :=
 ⟨some 5,.rd (.fa 2 (.t 1)),none⟩::
 ⟨some 6,.rd (.load none (.t 5)),none⟩::
 ⟨some 8,.rd (.fa 3 (.t 1)),none⟩::
 ⟨some 9,.rd (.load none (.t 8)),none⟩::
 ⟨some 7,.ef (.call 36 [(.t 6)]),none⟩::
 ⟨some 10,.ef (.call 36 [(.t 9)]),none⟩::
 ⟨some 11,.ef (.append 9 1 16 (.t 7) (.t 10)),none⟩::
 ⟨some 3,.rd (.mv (.t 11)),none⟩::
  []
def F71.r2 : List ROper :=
 ⟨some 4,.rd (.mv (.c (.int .i64 0))),none⟩::
  []
def F71.r3 : List ROper :=
 ⟨some 12,.rd (.mv (.t 4)),none⟩::
 ⟨some 13,.rd (.fa 4 (.t 1)),none⟩::
 ⟨some 14,.rd (.load none (.t 13)),none⟩::
 ⟨some 15,.rd (.len 1 (.t 14)),none⟩::
 ⟨some 16,.rd (.bin .lss (.t 12) (.t 15)),none⟩::
  []
def F71.c8 : RCode := .cond (.t 16) .skip (.exit 0)
def F71.c7 : RCode := .seq (.reg F71.r3) F71.c8
def F71.r4 : List ROper :=
 ⟨some 19,.rd (.mv (.t 3)),none⟩::
 ⟨some 20,.rd (.fa 4 (.t 1)),none⟩::
 ⟨some 21,.rd (.load none (.t 20)),none⟩::
 ⟨some 22,.rd (.mv (.t 4)),none⟩::
 ⟨some 23,.rd (.ia 5 (.t 21) (.t 22)),none⟩::
 ⟨some 24,.rd (.load (some 5) (.t 23)),none⟩::
 ⟨some 25,.ef (.call 71 [(.t 24)]),none⟩::
 ⟨some 26,.ef (.append 9 1 16 (.t 19) (.t 25)),none⟩::
 ⟨some 3,.rd (.mv (.t 26)),none⟩::
  []
def F71.c10 : RCode := .block 1 (.reg F71.r4)
def F71.r5 : List ROper :=
 ⟨some 17,.rd (.mv (.t 4)),none⟩::
 ⟨some 18,.rd (.bin .add (.t 17) (.c (.int .i64 1))),none⟩::
 ⟨some 4,.rd (.mv (.t 18)),none⟩::
  []
def F71.c9 : RCode := .seq F71.c10 (.reg F71.r5)
def F71.c6 : RCode := .seq F71.c7 F71.c9
def F71.c5 : RCode := .loop F71.c6
def F71.c4 : RCode := .block 0 F71.c5
def F71.c3 : RCode := .seq (.reg F71.r2) F71.c4
def F71.r6 : List ROper :=
 ⟨some 27,.rd (.mv (.t 3)),none⟩::
 ⟨some 2,.rd (.mv (.t 27)),none⟩::
  []
def F71.c11 : RCode := .seq (.reg F71.r6) .ret
def F71.c2 : RCode := .seq F71.c3 F71.c11
def F71.c1 : RCode := .seq (.dreg F71.r1) F71.c2
def F71.c0 : RCode := .seq (.reg F71.r0) F71.c1
theorem F71.calls {args : List AV} {h : AHeap} {K : AV → AHeap → Prop} (hn : args.length ≤ 28) (k : wT .go Go.Proofs.Try.prog 28 F71.c0 (fun x e h t => atEndT t [.tmp 2] (EndW K) x e h) (envOf 0 args) h) : ACalls Go.Proofs.Try.prog 71 args h K :=
  acallsT [1] [] 28 Go.Proofs.Try.func71 Go.Proofs.Try.ntmps71 (by kernel_rfl) (by kernel_rfl) hn k
/-- pantograph/pantographref07.stmtNames -/
def F39.r0 : List ROper :=
 ⟨some 2,.rd (.mv (.c (.sl [] true))),none⟩::
  []
def F39.r1 : List ROper :=
 ⟨some 3,.rd (.mv (.c (.sl [] true))),none⟩::
  []
def F39.r2 : List ROper :=
 ⟨some 4,.rd (.mv (.c (.int .i64 0))),none⟩::
  []
def F39.r3 : List ROper :=
 ⟨some 6,.rd (.mv (.t 4)),none⟩::
 ⟨some 7,.rd (.mv (.t 0)),none⟩::
 ⟨some 8,.rd (.len 1 (.t 7)),none⟩::
 ⟨some 9,.rd (.bin .lss (.t 6) (.t 8)),none⟩::
  []
def F39.c8 : RCode := .cond (.t 9) .skip (.exit 0)
def F39.c7 : RCode := .seq (.reg F39.r3) F39.c8
def F39.r4 : List ROper :=
 ⟨some 12,.rd (.mv (.t 3)),none⟩::
 ⟨some 13,.rd (.mv (.t 0)),none⟩::
 ⟨some 14,.rd (.mv (.t 4)),none⟩::
 ⟨some 15,.rd (.ia 16 (.t 13) (.t 14)),none⟩::
 ⟨some 16,.rd (.fa 3 (.t 15)),none⟩::
 ⟨some 17,.rd (.load none (.t 16)),none⟩::
 ⟨some 18,.ef (.call 36 [(.t 17)]),none⟩::
 ⟨some 19,.ef (.append 9 1 16 (.t 12) (.t 18)),none⟩::
 ⟨some 3,.rd (.mv (.t 19)),none⟩::
  []
def F39.r5 : List ROper :=
 ⟨some 20,.rd (.mv (.t 3)),none⟩::
 ⟨some 21,.rd (.mv (.t 0)),none⟩::
 ⟨some 22,.rd (.mv (.t 4)),none⟩::
 ⟨some 23,.rd (.ia 16 (.t 21) (.t 22)),none⟩::
 ⟨some 24,.rd (.fa 4 (.t 23)),none⟩::
 ⟨some 25,.rd (.load (some 5) (.t 24)),none⟩::
 ⟨some 26,.ef (.call 71 [(.t 25)]),none⟩::
 ⟨some 27,.ef (.append 9 1 16 (.t 20) (.t 26)),none⟩::
 ⟨some 3,.rd (.mv (.t 27)),none⟩::
  []
def F39.r6 : List ROper :=
 ⟨some 5,.rd (.mv (.c (.int .i64 0))),none⟩::
  []
def F39.r7 : List ROper :=
 ⟨some 28,.rd (.mv (.t 5)),none⟩::
 ⟨some 29,.rd (.mv (.t 0)),none⟩::
 ⟨some 30,.rd (.mv (.t 4)),none⟩::
 ⟨some 31,.rd (.ia 16 (.t 29) (.t 30)),none⟩::
 ⟨some 32,.rd (.fa 9 (.t 31)),none⟩::
 ⟨some 33,.rd (.load none (.t 32)),none⟩::
 ⟨some 34,.rd (.len 1 (.t 33)),none⟩::
 ⟨some 35,.rd (.bin .lss (.t 28) (.t 34)),none⟩::
  []
def F39.c19 : RCode := .cond (.t 35) .skip (.exit 2)
def F39.c18 : RCode := .seq (.reg F39.r7) F39.c19
def F39.r8 : List ROper :=
 ⟨some 38,.rd (.mv (.t 3)),none⟩::
 ⟨some 39,.rd (.mv (.t 0)),none⟩::
 ⟨some 40,.rd (.mv (.t 4)),none⟩::
 ⟨some 41,.rd (.ia 16 (.t 39) (.t 40)),none⟩::
 ⟨some 42,.rd (.fa 9 (.t 41)),none⟩::
 ⟨some 43,.rd (.load none (.t 42)),none⟩::
 ⟨some 44,.rd (.mv (.t 5)),none⟩::
 ⟨some 45,.rd (.ia 5 (.t 43) (.t 44)),none⟩::
 ⟨some 46,.rd (.load (some 5) (.t 45)),none⟩::
 ⟨some 47,.ef (.call 71 [(.t 46)]),none⟩::
 ⟨some 48,.ef (.append 9 1 16 (.t 38) (.t 47)),none⟩::
 ⟨some 3,.rd (.mv (.t 48)),none⟩::
  []
def F39.c21 : RCode := .block 3 (.reg F39.r8)
def F39.r9 : List ROper :=
 ⟨some 36,.rd (.mv (.t 5)),none⟩::
 ⟨some 37,.rd (.bin .add (.t 36) (.c (.int .i64 1))),none⟩::
 ⟨some 5,.rd (.mv (.t 37)),none⟩::
  []
def F39.c20 : RCode := .seq F39.c21 (.reg F39.r9)
def F39.c17 : RCode := .seq F39.c18 F39.c20
def F39.c16 : RCode := .loop F39.c17
def F39.c15 : RCode := .block 2 F39.c16
def F39.c14 : RCode := .seq (.reg F39.r6) F39.c15
def F39.r10 : List ROper :=
 ⟨some 49,.rd (.mv (.t 3)),none⟩::
 ⟨some 50,.rd (.mv (.t 0)),none⟩::
 ⟨some 51,.rd (.mv (.t 4)),none⟩::
 ⟨some 52,.rd (.ia 16 (.t 50) (.t 51)),none⟩::
 ⟨some 53,.rd (.fa 12 (.t 52)),none⟩::
 ⟨some 54,.rd (.load none (.t 53)),none⟩::
 ⟨some 55,.ef (.call 39 [(.t 54)]),none⟩::
 ⟨some 56,.ef (.append 9 1 16 (.t 49) (.t 55)),none⟩::
 ⟨some 3,.rd (.mv (.t 56)),none⟩::
  []
def F39.r11 : List ROper :=
 ⟨some 57,.rd (.mv (.t 3)),none⟩::
 ⟨some 58,.rd (.mv (.t 0)),none⟩::
 ⟨some 59,.rd (.mv (.t 4)),none⟩::
 ⟨some 60,.rd (.ia 16 (.t 58) (.t 59)),none⟩::
 ⟨some 61,.rd (.fa 13 (.t 60)),none⟩::
 ⟨some 62,.rd (.load none (.t 61)),none⟩::
 ⟨some 63,.ef (.call 39 [(.t 62)]),none⟩::
 ⟨some 64,.ef (.append 9 1 16 (.t 57) (.t 63)),none⟩::
 ⟨some 3,.rd (.mv (.t 64)),none⟩::
  []
def F39.c22 : RCode := .seq (.reg F39.r10) (.reg F39.r11)
def F39.c13 : RCode := .seq F39.c14 F39.c22
def F39.c12 : RCode := .seq (.reg F39.r5) F39.c13
def F39.c11 : RCode := .seq (.reg F39.r4) F39.c12
def F39.c10 : RCode := .block 1 F39.c11
def F39.r12 : List ROper :=
 ⟨some 10,.rd (.mv (.t 4)),none⟩::
 ⟨some 11,.rd (.bin .add (.t 10) (.c (.int .i64 1))),none⟩::
 ⟨some 4,.rd (.mv (.t 11)),none⟩::
  []
def F39.c9 : RCode := .seq F39.c10 (.reg F39.r12)
def F39.c6 : RCode := .seq F39.c7 F39.c9
def F39.c5 : RCode := .loop F39.c6
def F39.c4 : RCode := .block 0 F39.c5
def F39.c3 : RCode := .seq (.reg F39.r2) F39.c4
def F39.r13 : List ROper :=
 ⟨some 65,.rd (.mv (.t 3)),none⟩::
 ⟨some 2,.rd (.mv (.t 65)),none⟩::
  []
def F39.c23 : RCode := .seq (.reg F39.r13) .ret
def F39.c2 : RCode := .seq F39.c3 F39.c23
def F39.c1 : RCode := .seq (.reg F39.r1) F39.c2
def F39.c0 : RCode := .seq (.reg F39.r0) F39.c1
theorem F39.calls {args : List AV} {h : AHeap} {K : AV → AHeap → Prop} (hn : args.length ≤ 66) (k : wT .go Go.Proofs.Try.prog 66 F39.c0 (fun x e h t => atEndT t [.tmp 2] (EndW K) x e h) (envOf 0 args) h) : ACalls Go.Proofs.Try.prog 39 args h K :=
  acallsT [] [] 66 Go.Proofs.Try.func39 Go.Proofs.Try.ntmps39 (by kernel_rfl) (by kernel_rfl) hn k
/-- pantograph/pantographref07.varNames -/
def F37.r0 : List ROper :=
 ⟨some 2,.rd (.mv (.c (.sl [] true))),none⟩::
  []
def F37.r1 : List ROper :=
 ⟨some 3,.rd (.mv (.c (.sl [] true))),none⟩::
  []
def F37.r2 : List ROper :=
 ⟨some 4,.rd (.mv (.c (.int .i64 0))),none⟩::
  []
def F37.r3 : List ROper :=
 ⟨some 5,.rd (.mv (.t 4)),none⟩::
 ⟨some 6,.rd (.mv (.t 0)),none⟩::
 ⟨some 7,.rd (.len 1 (.t 6)),none⟩::
 ⟨some 8,.rd (.bin .lss (.t 5) (.t 7)),none⟩::
  []
def F37.c8 : RCode := .cond (.t 8) .skip (.exit 0)
def F37.c7 : RCode := .seq (.reg F37.r3) F37.c8
def F37.r4 : List ROper :=
 ⟨some 11,.rd (.mv (.t 3)),none⟩::
 ⟨some 12,.rd (.mv (.t 0)),none⟩::
 ⟨some 13,.rd (.mv (.t 4)),none⟩::
 ⟨some 14,.rd (.ia 6 (.t 12) (.t 13)),none⟩::
 ⟨some 15,.rd (.fa 2 (.t 14)),none⟩::
 ⟨some 16,.rd (.load none (.t 15)),none⟩::
 ⟨some 17,.ef (.call 36 [(.t 16)]),none⟩::
 ⟨some 18,.ef (.append 9 1 16 (.t 11) (.t 17)),none⟩::
 ⟨some 3,.rd (.mv (.t 18)),none⟩::
  []
def F37.r5 : List ROper :=
 ⟨some 19,.rd (.mv (.t 3)),none⟩::
 ⟨some 20,.rd (.mv (.t 0)),none⟩::
 ⟨some 21,.rd (.mv (.t 4)),none⟩::
 ⟨some 22,.rd (.ia 6 (.t 20) (.t 21)),none⟩::
 ⟨some 23,.rd (.fa 3 (.t 22)),none⟩::
 ⟨some 24,.rd (.fa 2 (.t 23)),none⟩::
 ⟨some 25,.rd (.load none (.t 24)),none⟩::
 ⟨some 26,.ef (.call 36 [(.t 25)]),none⟩::
 ⟨some 27,.ef (.append 9 1 16 (.t 19) (.t 26)),none⟩::
 ⟨some 3,.rd (.mv (.t 27)),none⟩::
  []
def F37.c11 : RCode := .seq (.reg F37.r4) (.reg F37.r5)
def F37.c10 : RCode := .block 1 F37.c11
def F37.r6 : List ROper :=
 ⟨some 9,.rd (.mv (.t 4)),none⟩::
 ⟨some 10,.rd (.bin .add (.t 9) (.c (.int .i64 1))),none⟩::
 ⟨some 4,.rd (.mv (.t 10)),none⟩::
  []
def F37.c9 : RCode := .seq F37.c10 (.reg F37.r6)
def F37.c6 : RCode := .seq F37.c7 F37.c9
def F37.c5 : RCode := .loop F37.c6
def F37.c4 : RCode := .block 0 F37.c5
def F37.c3 : RCode := .seq (.reg F37.r2) F37.c4
def F37.r7 : List ROper :=
 ⟨some 28,.rd (.mv (.t 3)),none⟩::
 ⟨some 2,.rd (.mv (.t 28)),none⟩::
  []
def F37.c12 : RCode := .seq (.reg F37.r7) .ret
def F37.c2 : RCode := .seq F37.c3 F37.c12
def F37.c1 : RCode := .seq (.reg F37.r1) F37.c2
def F37.c0 : RCode := .seq (.reg F37.r0) F37.c1
theorem F37.calls {args : List AV} {h : AHeap} {K : AV → AHeap → Prop} (hn : args.length ≤ 29) (k : wT .go Go.Proofs.Try.prog 29 F37.c0 (fun x e h t => atEndT t [.tmp 2] (EndW K) x e h) (envOf 0 args) h) : ACalls Go.Proofs.Try.prog 37 args h K :=
  acallsT [] [] 29 Go.Proofs.Try.func37 Go.Proofs.Try.ntmps37 (by kernel_rfl) (by kernel_rfl) hn k
/-- pantograph/pantographref07.routineNames -/
def F38.r0 : List ROper :=
 ⟨some 2,.rd (.mv (.c (.sl [] true))),none⟩::
  []
def F38.r1 : List ROper :=
 ⟨some 3,.rd (.mv (.c (.sl [] true))),none⟩::
  []
def F38.r2 : List ROper :=
 ⟨some 4,.rd (.mv (.c (.int .i64 0))),none⟩::
  []
def F38.r3 : List ROper :=
 ⟨some 7,.rd (.mv (.t 4)),none⟩::
 ⟨some 8,.rd (.mv (.t 0)),none⟩::
 ⟨some 9,.rd (.len 1 (.t 8)),none⟩::
 ⟨some 10,.rd (.bin .lss (.t 7) (.t 9)),none⟩::
  []
def F38.c8 : RCode := .cond (.t 10) .skip (.exit 0)
def F38.c7 : RCode := .seq (.reg F38.r3) F38.c8
def F38.r4 : List ROper :=
 ⟨some 13,.rd (.mv (.t 0)),none⟩::
 ⟨some 14,.rd (.mv (.t 4)),none⟩::
 ⟨some 15,.rd (.ia 9 (.t 13) (.t 14)),none⟩::
 ⟨some 16,.rd (.load (some 9) (.t 15)),none⟩::
 ⟨some 5,.rd (.bx (some 9) (.t 16)),none⟩::
  []
def F38.r5 : List ROper :=
 ⟨some 17,.rd (.mv (.t 3)),none⟩::
 ⟨some 18,.rd (.fa 2 (.t 5)),none⟩::
 ⟨some 19,.rd (.load none (.t 18)),none⟩::
 ⟨some 20,.ef (.call 36 [(.t 19)]),none⟩::
 ⟨some 21,.ef (.append 9 1 16 (.t 17) (.t 20)),none⟩::
 ⟨some 3,.rd (.mv (.t 21)),none⟩::
  []
def F38.r6 : List ROper :=
 ⟨some 6,.rd (.mv (.c (.int .i64 0))),none⟩::
  []
def F38.r7 : List ROper :=
 ⟨some 22,.rd (.mv (.t 6)),none⟩::
 ⟨some 23,.rd (.fa 4 (.t 5)),none⟩::
 ⟨some 24,.rd (.load none (.t 23)),none⟩::
 ⟨some 25,.rd (.len 1 (.t 24)),none⟩::
 ⟨some 26,.rd (.bin .lss (.t 22) (.t 25)),none⟩::
  []
def F38.c19 : RCode := .cond (.t 26) .skip (.exit 2)
def F38.c18 : RCode := .seq (.reg F38.r7) F38.c19
def F38.r8 : List ROper :=
 ⟨some 29,.rd (.mv (.t 3)),none⟩::
 ⟨some 30,.rd (.fa 4 (.t 5)),none⟩::
 ⟨some 31,.rd (.load none (.t 30)),none⟩::
 ⟨some 32,.rd (.mv (.t 6)),none⟩::
 ⟨some 33,.rd (.ia 5 (.t 31) (.t 32)),none⟩::
 ⟨some 34,.rd (.fa 0 (.t 33)),none⟩::
 ⟨some 35,.rd (.load none (.t 34)),none⟩::
 ⟨some 36,.ef (.call 36 [(.t 35)]),none⟩::
 ⟨some 37,.ef (.append 9 1 16 (.t 29) (.t 36)),none⟩::
 ⟨some 3,.rd (.mv (.t 37)),none⟩::
  []
def F38.r9 : List ROper :=
 ⟨some 38,.rd (.mv (.t 3)),none⟩::
 ⟨some 39,.rd (.fa 4 (.t 5)),none⟩::
 ⟨some 40,.rd (.load none (.t 39)),none⟩::
 ⟨some 41,.rd (.mv (.t 6)),none⟩::
 ⟨some 42,.rd (.ia 5 (.t 40) (.t 41)),none⟩::
 ⟨some 43,.rd (.fa 1 (.t 42)),none⟩::
 ⟨some 44,.rd (.fa 2 (.t 43)),none⟩::
 ⟨some 45,.rd (.load none (.t 44)),none⟩::
 ⟨some 46,.ef (.call 36 [(.t 45)]),none⟩::
 ⟨some 47,.ef (.append 9 1 16 (.t 38) (.t 46)),none⟩::
 ⟨some 3,.rd (.mv (.t 47)),none⟩::
  []
def F38.c22 : RCode := .seq (.reg F38.r8) (.reg F38.r9)
def F38.c21 : RCode := .block 3 F38.c22
def F38.r10 : List ROper :=
 ⟨some 27,.rd (.mv (.t 6)),none⟩::
 ⟨some 28,.rd (.bin .add (.t 27) (.c (.int .i64 1))),none⟩::
 ⟨some 6,.rd (.mv (.t 28)),none⟩::
  []
def F38.c20 : RCode := .seq F38.c21 (.reg F38.r10)
def F38.c17 : RCode := .seq F38.c18 F38.c20
def F38.c16 : RCode := .loop F38.c17
def F38.c15 : RCode := .block 2 F38.c16
def F38.c14 : RCode := .seq (.reg F38.r6) F38.c15
def F38.r11 : List ROper :=
 ⟨some 48,.rd (.mv (.t 3)),none⟩::
 ⟨some 49,.rd (.fa 5 (.t 5)),none⟩::
 ⟨some 50,.rd (.load none (.t 49)),none⟩::
 ⟨some 51,.ef (.call 37 [(.t 50)]),none⟩::
 ⟨some 52,.ef (.append 9 1 16 (.t 48) (.t 51)),none⟩::
 ⟨some 3,.rd (.mv (.t 52)),none⟩::
  []
def F38.r12 : List ROper :=
 ⟨some 53,.rd (.mv (.t 3)),none⟩::
 ⟨some 54,.rd (.fa 6 (.t 5)),none⟩::
 ⟨some 55,.rd (.load none (.t 54)),none⟩::
 ⟨some 56,.ef (.call 38 [(.t 55)]),none⟩::
 ⟨some 57,.ef (.append 9 1 16 (.t 53) (.t 56)),none⟩::
 ⟨some 3,.rd (.mv (.t 57)),none⟩::
  []
def F38.r13 : List ROper :=
 ⟨some 58,.rd (.mv (.t 3)),none⟩::
 ⟨some 59,.rd (.fa 7 (.t 5)),none⟩::
 ⟨some 60,.rd (.load none (.t 59)),none⟩::
 ⟨some 61,.ef (.call 39 [(.t 60)]),none⟩::
 ⟨some 62,.ef (.append 9 1 16 (.t 58) (.t 61)),none⟩::
 ⟨some 3,.rd (.mv (.t 62)),none⟩::
  []
def F38.c24 : RCode := .seq (.reg F38.r12) (.reg F38.r13)
def F38.c23 : RCode := .seq (.reg F38.r11) F38.c24
def F38.c13 : RCode := .seq F38.c14 F38.c23
def F38.c12 : RCode := .seq (.reg F38.r5) F38.c13
def F38.c11 : RCode := .seq (.reg F38.r4) F38.c12
def F38.c10 : RCode := .block 1 F38.c11
def F38.r14 : List ROper :=
 ⟨some 11,.rd (.mv (.t 4)),none⟩::
 ⟨some 12,.rd (.bin .add (.t 11) (.c (.int .i64 1))),none⟩::
 ⟨some 4,.rd (.mv (.t 12)),none⟩::
  []
def F38.c9 : RCode := .seq F38.c10 (.reg F38.r14)
def F38.c6 : RCode := .seq F38.c7 F38.c9
def F38.c5 : RCode := .loop F38.c6
def F38.c4 : RCode := .block 0 F38.c5
def F38.c3 : RCode := .seq (.reg F38.r2) F38.c4
def F38.r15 : List ROper :=
 ⟨some 63,.rd (.mv (.t 3)),none⟩::
 ⟨some 2,.rd (.mv (.t 63)),none⟩::
  []
def F38.c25 : RCode := .seq (.reg F38.r15) .ret
def F38.c2 : RCode := .seq F38.c3 F38.c25
def F38.c1 : RCode := .seq (.reg F38.r1) F38.c2
def F38.c0 : RCode := .seq (.reg F38.r0) F38.c1
theorem F38.calls {args : List AV} {h : AHeap} {K : AV → AHeap → Prop} (hn : args.length ≤ 64) (k : wT .go Go.Proofs.Try.prog 64 F38.c0 (fun x e h t => atEndT t [.tmp 2] (EndW K) x e h) (envOf 0 args) h) : ACalls Go.Proofs.Try.prog 38 args h K :=
  acallsT [] [5] 64 Go.Proofs.Try.func38 Go.Proofs.Try.ntmps38 (by kernel_rfl) (by kernel_rfl) hn k
/-- pantograph/pantographref07.Names -/
def F13.r0 : List ROper :=
 ⟨some 1,.rd (.bx none (.t 0)),none⟩::
 ⟨some 2,.rd (.mv (.c (.sl [] true))),none⟩::
  []
def F13.r1 : List ROper :=
 ⟨some 8,.rd (.fa 0 (.t 1)),none⟩::
 ⟨some 9,.rd (.load none (.t 8)),none⟩::
 ⟨some 10,.ef (.call 36 [(.t 9)]),none⟩::
 ⟨some 3,.rd (.mv (.t 10)),none⟩::
  []
def F13.r2 : List ROper :=
 ⟨some 4,.rd (.mv (.c (.int .i64 0))),none⟩::
  []
def F13.r3 : List ROper :=
 ⟨some 11,.rd (.mv (.t 4)),none⟩::
 ⟨some 12,.rd (.fa 4 (.t 1)),none⟩::
 ⟨some 13,.rd (.load none (.t 12)),none⟩::
 ⟨some 14,.rd (.len 1 (.t 13)),none⟩::
 ⟨some 15,.rd (.bin .lss (.t 11) (.t 14)),none⟩::
  []
def F13.c8 : RCode := .cond (.t 15) .skip (.exit 0)
def F13.c7 : RCode := .seq (.reg F13.r3) F13.c8
def F13.r4 : List ROper :=
 ⟨some 18,.rd (.mv (.t 3)),none⟩::
 ⟨some 19,.rd (.fa 4 (.t 1)),none⟩::
 ⟨some 20,.rd (.load none (.t 19)),none⟩::
 ⟨some 21,.rd (.mv (.t 4)),none⟩::
 ⟨some 22,.rd (.ia 5 (.t 20) (.t 21)),none⟩::
 ⟨some 23,.rd (.fa 2 (.t 22)),none⟩::
 ⟨some 24,.rd (.load none (.t 23)),none⟩::
 ⟨some 25,.ef (.call 36 [(.t 24)]),none⟩::
 ⟨some 26,.ef (.append 9 1 16 (.t 18) (.t 25)),none⟩::
 ⟨some 3,.rd (.mv (.t 26)),none⟩::
  []
def F13.r5 : List ROper :=
 ⟨some 5,.rd (.mv (.c (.int .i64 0))),none⟩::
  []
def F13.r6 : List ROper :=
 ⟨some 27,.rd (.mv (.t 5)),none⟩::
 ⟨some 28,.rd (.fa 4 (.t 1)),none⟩::
 ⟨some 29,.rd (.load none (.t 28)),none⟩::
 ⟨some 30,.rd (.mv (.t 4)),none⟩::
 ⟨some 31,.rd (.ia 5 (.t 29) (.t 30)),none⟩::
 ⟨some 32,.rd (.fa 3 (.t 31)),none⟩::
 ⟨some 33,.rd (.load none (.t 32)),none⟩::
 ⟨some 34,.rd (.len 1 (.t 33)),none⟩::
 ⟨some 35,.rd (.bin .lss (.t 27) (.t 34)),none⟩::
  []
def F13.c17 : RCode := .cond (.t 35) .skip (.exit 2)
def F13.c16 : RCode := .seq (.reg F13.r6) F13.c17
def F13.r7 : List ROper :=
 ⟨some 38,.rd (.mv (.t 3)),none⟩::
 ⟨some 39,.rd (.fa 4 (.t 1)),none⟩::
 ⟨some 40,.rd (.load none (.t 39)),none⟩::
 ⟨some 41,.rd (.mv (.t 4)),none⟩::
 ⟨some 42,.rd (.ia 5 (.t 40) (.t 41)),none⟩::
 ⟨some 43,.rd (.fa 3 (.t 42)),none⟩::
 ⟨some 44,.rd (.load none (.t 43)),none⟩::
 ⟨some 45,.rd (.mv (.t 5)),none⟩::
 ⟨some 46,.rd (.ia 4 (.t 44) (.t 45)),none⟩::
 ⟨some 47,.rd (.fa 2 (.t 46)),none⟩::
 ⟨some 48,.rd (.load none (.t 47)),none⟩::
 ⟨some 49,.ef (.call 36 [(.t 48)]),none⟩::
 ⟨some 50,.ef (.append 9 1 16 (.t 38) (.t 49)),none⟩::
 ⟨some 3,.rd (.mv (.t 50)),none⟩::
  []
def F13.c19 : RCode := .block 3 (.reg F13.r7)
def F13.r8 : List ROper :=
 ⟨some 36,.rd (.mv (.t 5)),none⟩::
 ⟨some 37,.rd (.bin .add (.t 36) (.c (.int .i64 1))),none⟩::
 ⟨some 5,.rd (.mv (.t 37)),none⟩::
  []
def F13.c18 : RCode := .seq F13.c19 (.reg F13.r8)
def F13.c15 : RCode := .seq F13.c16 F13.c18
def F13.c14 : RCode := .loop F13.c15
def F13.c13 : RCode := .block 2 F13.c14
def F13.c12 : RCode := .seq (.reg F13.r5) F13.c13
def F13.c11 : RCode := .seq (.reg F13.r4) F13.c12
def F13.c10 : RCode := .block 1 F13.c11
def F13.r9 : List ROper :=
 ⟨some 16,.rd (.mv (.t 4)),none⟩::
 ⟨some 17,.rd (.bin .add (.t 16) (.c (.int .i64 1))),none⟩::
 ⟨some 4,.rd (.mv (.t 17)),none⟩::
  []
def F13.c9 : RCode := .seq F13.c10 (.reg F13.r9)
def F13.c6 : RCode := .seq F13.c7 F13.c9
def F13.c5 : RCode := .loop F13.c6
def F13.c4 : RCode := .block 0 F13.c5
def F13.c3 : RCode := .seq (.reg F13.r2) F13.c4
def F13.r10 : List ROper :=
 ⟨some 51,.rd (.mv (.t 3)),none⟩::
 ⟨some 52,.rd (.fa 5 (.t 1)),none⟩::
 ⟨some 53,.rd (.load none (.t 52)),none⟩::
 ⟨some 54,.ef (.call 37 [(.t 53)]),none⟩::
 ⟨some 55,.ef (.append 9 1 16 (.t 51) (.t 54)),none⟩::
 ⟨some 3,.rd (.mv (.t 55)),none⟩::
  []
def F13.r11 : List ROper :=
 ⟨some 56,.rd (.mv (.t 3)),none⟩::
 ⟨some 57,.rd (.fa 6 (.t 1)),none⟩::
 ⟨some 58,.rd (.load none (.t 57)),none⟩::
 ⟨some 59,.ef (.call 38 [(.t 58)]),none⟩::
 ⟨some 60,.ef (.append 9 1 16 (.t 56) (.t 59)),none⟩::
 ⟨some 3,.rd (.mv (.t 60)),none⟩::
  []
def F13.r12 : List ROper :=
 ⟨some 61,.rd (.mv (.t 3)),none⟩::
 ⟨some 62,.rd (.fa 7 (.t 1)),none⟩::
 ⟨some 63,.rd (.load none (.t 62)),none⟩::
 ⟨some 64,.ef (.call 39 [(.t 63)]),none⟩::
 ⟨some 65,.ef (.append 9 1 16 (.t 61) (.t 64)),none⟩::
 ⟨some 3,.rd (.mv (.t 65)),none⟩::
  []
def F13.r13 : List ROper :=
 ⟨some 6,.rd (.mv (.c (.sl [] true))),none⟩::
  []
def F13.r14 : List ROper :=
 ⟨some 7,.rd (.mv (.c (.int .i64 0))),none⟩::
  []
def F13.r15 : List ROper :=
 ⟨some 66,.rd (.mv (.t 7)),none⟩::
 ⟨some 67,.rd (.mv (.t 3)),none⟩::
 ⟨some 68,.rd (.len 1 (.t 67)),none⟩::
 ⟨some 69,.rd (.bin .lss (.t 66) (.t 68)),none⟩::
  []
def F13.c30 : RCode := .cond (.t 69) .skip (.exit 4)
def F13.c29 : RCode := .seq (.reg F13.r15) F13.c30
def F13.r16 : List ROper :=
 ⟨some 72,.rd (.mv (.t 3)),none⟩::
 ⟨some 73,.rd (.mv (.t 7)),none⟩::
 ⟨some 74,.rd (.ia 1 (.t 72) (.t 73)),none⟩::
 ⟨some 75,.rd (.load none (.t 74)),none⟩::
 ⟨some 76,.rd (.bin .neq (.t 75) (.c (.str (⟨#[]⟩ : ByteArray)))),none⟩::
 ⟨some 77,.rd (.mv (.t 76)),none⟩::
 ⟨some 78,.rd (.mv (.t 6)),some (77,true)⟩::
 ⟨some 79,.rd (.mv (.t 3)),some (77,true)⟩::
 ⟨some 80,.rd (.mv (.t 7)),some (77,true)⟩::
 ⟨some 81,.rd (.ia 1 (.t 79) (.t 80)),some (77,true)⟩::
 ⟨some 82,.rd (.load none (.t 81)),some (77,true)⟩::
 ⟨some 83,.ef (.call 17 [(.t 78),(.t 82)]),some (77,true)⟩::
 ⟨some 84,.rd (.un .not (.t 83)),some (77,true)⟩::
 ⟨some 85,.rd (.pick (.t 77) (.t 84) (.c (.bool false))),none⟩::
  []
def F13.r17 : List ROper :=
 ⟨some 86,.rd (.mv (.t 6)),none⟩::
 ⟨some 87,.rd (.mv (.t 3)),none⟩::
 ⟨some 88,.rd (.mv (.t 7)),none⟩::
 ⟨some 89,.rd (.ia 1 (.t 87) (.t 88)),none⟩::
 ⟨some 90,.rd (.load none (.t 89)),none⟩::
 ⟨some 91,.rd (.bsl 1 1 [(.str (⟨#[]⟩ : ByteArray))] [(0,1,(.t 90))]),none⟩::
 ⟨some 92,.ef (.append 9 1 16 (.t 86) (.t 91)),none⟩::
 ⟨some 6,.rd (.mv (.t 92)),none⟩::
  []
def F13.c34 : RCode := .cond (.t 85) (.reg F13.r17) .skip
def F13.c33 : RCode := .seq (.reg F13.r16) F13.c34
def F13.c32 : RCode := .block 5 F13.c33
def F13.r18 : List ROper :=
 ⟨some 70,.rd (.mv (.t 7)),none⟩::
 ⟨some 71,.rd (.bin .add (.t 70) (.c (.int .i64 1))),none⟩::
 ⟨some 7,.rd (.mv (.t 71)),none⟩::
  []
def F13.c31 : RCode := .seq F13.c32 (.reg F13.r18)
def F13.c28 : RCode := .seq F13.c29 F13.c31
def F13.c27 : RCode := .loop F13.c28
def F13.c26 : RCode := .block 4 F13.c27
def F13.c25 : RCode := .seq (.reg F13.r14) F13.c26
def F13.r19 : List ROper :=
 ⟨some 93,.rd (.mv (.t 6)),none⟩::
 ⟨some 2,.rd (.mv (.t 93)),none⟩::
  []
def F13.c35 : RCode := .seq (.reg F13.r19) .ret
def F13.c24 : RCode := .seq F13.c25 F13.c35
def F13.c23 : RCode := .seq (.reg F13.r13) F13.c24
def F13.c22 : RCode := .seq (.reg F13.r12) F13.c23
def F13.c21 : RCode := .seq (.reg F13.r11) F13.c22
def F13.c20 : RCode := .seq (.reg F13.r10) F13.c21
def F13.c2 : RCode := .seq F13.c3 F13.c20
def F13.c1 : RCode := .seq (.reg F13.r1) F13.c2
def F13.c0 : RCode := .seq (.reg F13.r0) F13.c1
theorem F13.calls {args : List AV} {h : AHeap} {K : AV → AHeap → Prop} (hn : args.length ≤ 94) (k : wT .go Go.Proofs.Try.prog 94 F13.c0 (fun x e h t => atEndT t [.tmp 2] (EndW K) x e h) (envOf 0 args) h) : ACalls Go.Proofs.Try.prog 13 args h K :=
  acallsT [1] [] 94 Go.Proofs.Try.func13 Go.Proofs.Try.ntmps13 (by kernel_rfl) (by kernel_rfl) hn k
end Pg
