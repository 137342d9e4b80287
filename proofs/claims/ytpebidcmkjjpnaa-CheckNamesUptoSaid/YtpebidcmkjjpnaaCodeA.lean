import Derived.Test.YtpebidcmkjjpnaaK4
import Derived.Test.YtpebidcmkjjpnaaProg
import Derived.KernelRfl
namespace Pg
open Go
set_option maxRecDepth 10000
/-- pantograph/pantographlaw12.awake -/
def F12.r0 : List ROper :=
 ⟨some 0,.rd (.mv (.c (.bool false))),none⟩::
  []
def F12.r1 : List ROper :=
 ⟨some 6,.rd (.build [(.int .i64 0),(.int .i64 0),(.str (⟨#[]⟩ : ByteArray))] [(0,1,(.c (.int .i64 1)))]),none⟩::
 ⟨some 7,.rd (.build [(.sl [] true),(.sl [] true),(.str (⟨#[]⟩ : ByteArray)),(.int .i64 0),(.int .i64 0),(.str (⟨#[]⟩ : ByteArray))] [(2,1,(.c (.str (⟨#[120]⟩ : ByteArray)))),(3,3,(.t 6))]),none⟩::
 ⟨some 8,.rd (.bsl 6 1 [(.sl [] true),(.sl [] true),(.str (⟨#[]⟩ : ByteArray)),(.int .i64 0),(.int .i64 0),(.str (⟨#[]⟩ : ByteArray))] [(0,6,(.t 7))]),none⟩::
 ⟨some 9,.rd (.build [(.int .i64 0),(.int .i64 0),(.str (⟨#[]⟩ : ByteArray)),(.str (⟨#[]⟩ : ByteArray)),(.sl [] true)] [(0,1,(.c (.int .i64 4))),(2,1,(.c (.str (⟨#[120]⟩ : ByteArray))))]),none⟩::
 ⟨some 10,.rd (.build [(.int .i64 0),(.int .i64 0),(.str (⟨#[]⟩ : ByteArray)),(.str (⟨#[]⟩ : ByteArray)),(.sl [] true)] [(0,1,(.c (.int .i64 2))),(1,1,(.c (.int .i64 1)))]),none⟩::
 ⟨some 11,.ef (.bsle 53 5 1 [(.int .i64 0),(.int .i64 0),(.str (⟨#[]⟩ : ByteArray)),(.str (⟨#[]⟩ : ByteArray)),(.sl [] true)] [(0,5,(.t 10))]),none⟩::
 ⟨some 12,.rd (.build [(.sl [] true),(.sl [] true),(.int .i64 0),(.str (⟨#[]⟩ : ByteArray)),(.int .i64 0),(.int .i64 0),(.str (⟨#[]⟩ : ByteArray)),(.str (⟨#[]⟩ : ByteArray)),(.sl [] true),(.sl [] true),(.bool false),(.bool false),(.sl [] true),(.sl [] true),(.sl [] true),(.sl [] true)] [(2,1,(.c (.int .i64 1))),(4,5,(.t 9)),(9,1,(.t 11))]),none⟩::
 ⟨some 13,.rd (.bsl 16 1 [(.sl [] true),(.sl [] true),(.int .i64 0),(.str (⟨#[]⟩ : ByteArray)),(.int .i64 0),(.int .i64 0),(.str (⟨#[]⟩ : ByteArray)),(.str (⟨#[]⟩ : ByteArray)),(.sl [] true),(.sl [] true),(.bool false),(.bool false),(.sl [] true),(.sl [] true),(.sl [] true),(.sl [] true)] [(0,16,(.t 12))]),none⟩::
 ⟨some 14,.rd (.build [(.str (⟨#[]⟩ : ByteArray)),(.sl [] true),(.sl [] true),(.sl [] true),(.sl [] true),(.sl [] true),(.sl [] true),(.sl [] true),(.sl [] true)] [(0,1,(.c (.str (⟨#[112]⟩ : ByteArray)))),(5,1,(.t 8)),(7,1,(.t 13))]),none⟩::
 ⟨some 1,.rd (.bx (some 9) (.t 14)),none⟩::
  []
def F12.r2 : List ROper :=
 ⟨some 16,.rd (.load (some 9) (.t 1)),none⟩::
 ⟨some 17,.ef (.call 15 [(.t 16)]),none⟩::
 ⟨some 15,.rd (.mv (.t 17)),none⟩::
 ⟨some 18,.rd (.ext (.t 15) 0),none⟩::
 ⟨some 19,.rd (.ext (.t 15) 1),none⟩::
 ⟨some 2,.rd (.mv (.t 18)),none⟩::
 ⟨some 3,.rd (.mv (.t 19)),none⟩::
  []
def F12.r3 : List ROper :=
 ⟨some 20,.rd (.fa 7 (.t 1)),none⟩::
 ⟨some 21,.rd (.load none (.t 20)),none⟩::
 ⟨some 22,.rd (.ia 16 (.t 21) (.c (.int .i64 0))),none⟩::
 ⟨some 23,.rd (.fa 9 (.t 22)),none⟩::
 ⟨some 24,.rd (.load none (.t 23)),none⟩::
 ⟨some 25,.rd (.build [(.int .i64 0),(.int .i64 0),(.str (⟨#[]⟩ : ByteArray)),(.str (⟨#[]⟩ : ByteArray)),(.sl [] true)] [(0,1,(.c (.int .i64 1)))]),none⟩::
 ⟨some 26,.rd (.ia 5 (.t 24) (.c (.int .i64 0))),none⟩::
 ⟨none,.ef (.store 5 (.t 26) (.t 25)),none⟩::
  []
def F12.r4 : List ROper :=
 ⟨some 28,.rd (.load (some 9) (.t 1)),none⟩::
 ⟨some 29,.ef (.call 15 [(.t 28)]),none⟩::
 ⟨some 27,.rd (.mv (.t 29)),none⟩::
 ⟨some 30,.rd (.ext (.t 27) 0),none⟩::
 ⟨some 31,.rd (.ext (.t 27) 1),none⟩::
 ⟨some 4,.rd (.mv (.t 30)),none⟩::
 ⟨some 5,.rd (.mv (.t 31)),none⟩::
  []
def F12.r5 : List ROper :=
 ⟨some 32,.rd (.mv (.t 2)),none⟩::
 ⟨some 33,.rd (.bin .eql (.t 32) (.c (.int .i64 1))),none⟩::
 ⟨some 34,.rd (.mv (.t 33)),none⟩::
 ⟨some 35,.rd (.mv (.t 3)),some (34,true)⟩::
 ⟨some 36,.rd (.bin .eql (.t 35) (.c (.int .i64 14))),some (34,true)⟩::
 ⟨some 37,.rd (.pick (.t 34) (.t 36) (.c (.bool false))),none⟩::
 ⟨some 38,.rd (.mv (.t 37)),none⟩::
 ⟨some 39,.rd (.mv (.t 5)),some (38,true)⟩::
 ⟨some 40,.rd (.bin .eql (.t 39) (.c (.int .i64 0))),some (38,true)⟩::
 ⟨some 41,.rd (.pick (.t 38) (.t 40) (.c (.bool false))),none⟩::
 ⟨some 0,.rd (.mv (.t 41)),none⟩::
  []
def F12.c5 : RCode := .seq (.reg F12.r5) .ret
def F12.c4 : RCode := .seq (.reg F12.r4) F12.c5
def F12.c3 : RCode := .seq (.reg F12.r3) F12.c4
def F12.c2 : RCode := .seq (.reg F12.r2) F12.c3
def F12.c1 : RCode := .seq (.reg F12.r1) F12.c2
def F12.c0 : RCode := .seq (.reg F12.r0) F12.c1
theorem F12.calls {args : List AV} {h : AHeap} {K : AV → AHeap → Prop} (hn : args.length ≤ 42) (k : wT .go Go.Proofs.Try.prog 42 F12.c0 (fun x e h t => atEndT t [.tmp 0] (EndW K) x e h) (envOf 0 args) h) : ACalls Go.Proofs.Try.prog 12 args h K :=
  acallsT [11] [1] 42 Go.Proofs.Try.func12 Go.Proofs.Try.ntmps12 (by kernel_rfl) (by kernel_rfl) hn k
/-- pantograph/check.Check -/
def F15.r0 : List ROper :=
 ⟨some 1,.rd (.bx none (.t 0)),none⟩::
 ⟨some 2,.rd (.mv (.c (.int .i64 0))),none⟩::
 ⟨some 3,.rd (.mv (.c (.int .i64 0))),none⟩::
  []
def F15.r1 : List ROper :=
 ⟨some 4,.rd (.mv (.c (.ptr none))),none⟩::
  []
def F15.r2 : List ROper :=
 ⟨some 7,.rd (.mv (.t 4)),none⟩::
 ⟨some 8,.ef (.call 41 [(.t 7)]),none⟩::
 ⟨some 9,.rd (.build [(.ptr none),(.int .i64 0),(.int .i64 0),(.ptr none)] [(0,1,(.t 8)),(1,1,(.c (.int .i64 (-1))))]),none⟩::
 ⟨some 10,.ef (.box 91 (.t 9)),none⟩::
 ⟨some 5,.rd (.mv (.t 10)),none⟩::
  []
def F15.r3 : List ROper :=
 ⟨some 11,.rd (.fa 4 (.t 1)),none⟩::
 ⟨some 12,.rd (.load none (.t 11)),none⟩::
 ⟨some 13,.rd (.len 1 (.t 12)),none⟩::
 ⟨some 14,.rd (.mv (.c (.int .i64 0))),none⟩::
  []
def F15.r4 : List ROper :=
 ⟨some 15,.rd (.bin .lss (.t 14) (.t 13)),none⟩::
  []
def F15.c9 : RCode := .cond (.t 15) .skip (.exit 0)
def F15.r5 : List ROper :=
 ⟨some 16,.rd (.mv (.t 14)),none⟩::
 ⟨some 6,.rd (.mv (.t 16)),none⟩::
  []
def F15.r6 : List ROper :=
 ⟨some 17,.rd (.mv (.t 5)),none⟩::
 ⟨some 18,.ef (.call 42 [(.t 17)]),none⟩::
 ⟨some 19,.rd (.un .not (.t 18)),none⟩::
  []
def F15.c15 : RCode := .cond (.t 19) (.exit 0) .skip
def F15.c14 : RCode := .seq (.reg F15.r6) F15.c15
def F15.r7 : List ROper :=
 ⟨some 20,.rd (.mv (.t 5)),none⟩::
 ⟨some 21,.rd (.fa 4 (.t 1)),none⟩::
 ⟨some 22,.rd (.load none (.t 21)),none⟩::
 ⟨some 23,.rd (.mv (.t 6)),none⟩::
 ⟨some 24,.rd (.ia 5 (.t 22) (.t 23)),none⟩::
 ⟨some 25,.rd (.fa 2 (.t 24)),none⟩::
 ⟨some 26,.rd (.load none (.t 25)),none⟩::
 ⟨some 27,.rd (.fa 4 (.t 1)),none⟩::
 ⟨some 28,.rd (.load none (.t 27)),none⟩::
 ⟨some 29,.rd (.mv (.t 6)),none⟩::
 ⟨some 30,.rd (.ia 5 (.t 28) (.t 29)),none⟩::
 ⟨some 31,.rd (.build [(.int .i64 0),(.ptr none),(.ptr none),(.int .i64 0),(.int .i64 0),(.str (⟨#[]⟩ : ByteArray))] [(0,1,(.c (.int .i64 1))),(1,1,(.t 30))]),none⟩::
 ⟨some 32,.ef (.call 43 [(.t 20),(.t 26),(.t 31)]),none⟩::
  []
def F15.r8 : List ROper :=
 ⟨some 33,.rd (.fa 4 (.t 1)),none⟩::
 ⟨some 34,.rd (.load none (.t 33)),none⟩::
 ⟨some 35,.rd (.mv (.t 6)),none⟩::
 ⟨some 36,.rd (.ia 5 (.t 34) (.t 35)),none⟩::
 ⟨some 37,.rd (.load (some 5) (.t 36)),none⟩::
 ⟨some 38,.ef (.call 44 [(.t 37)]),none⟩::
  []
def F15.r9 : List ROper :=
 ⟨some 39,.rd (.mv (.t 5)),none⟩::
 ⟨some 40,.ef (.call 45 [(.t 39),(.c (.int .i64 12))]),none⟩::
  []
def F15.c18 : RCode := .cond (.t 38) (.reg F15.r9) .skip
def F15.c17 : RCode := .seq (.reg F15.r8) F15.c18
def F15.c16 : RCode := .seq (.dreg F15.r7) F15.c17
def F15.c13 : RCode := .seq F15.c14 F15.c16
def F15.c12 : RCode := .seq (.reg F15.r5) F15.c13
def F15.c11 : RCode := .block 1 F15.c12
def F15.r10 : List ROper :=
 ⟨some 41,.rd (.bin .add (.t 14) (.c (.int .i64 1))),none⟩::
 ⟨some 14,.rd (.mv (.t 41)),none⟩::
  []
def F15.c10 : RCode := .seq F15.c11 (.reg F15.r10)
def F15.c8 : RCode := .seq F15.c9 F15.c10
def F15.c7 : RCode := .seq (.reg F15.r4) F15.c8
def F15.c6 : RCode := .loop F15.c7
def F15.c5 : RCode := .block 0 F15.c6
def F15.c4 : RCode := .seq (.reg F15.r3) F15.c5
def F15.r11 : List ROper :=
 ⟨some 42,.rd (.mv (.t 5)),none⟩::
 ⟨some 43,.rd (.fa 5 (.t 1)),none⟩::
 ⟨some 44,.rd (.load none (.t 43)),none⟩::
 ⟨some 45,.rd (.fa 6 (.t 1)),none⟩::
 ⟨some 46,.rd (.load none (.t 45)),none⟩::
 ⟨some 47,.ef (.call 46 [(.t 42),(.t 44),(.t 46)]),none⟩::
  []
def F15.r12 : List ROper :=
 ⟨some 48,.rd (.mv (.t 5)),none⟩::
 ⟨some 49,.rd (.fa 6 (.t 1)),none⟩::
 ⟨some 50,.rd (.load none (.t 49)),none⟩::
 ⟨some 51,.ef (.call 47 [(.t 48),(.t 50)]),none⟩::
  []
def F15.r13 : List ROper :=
 ⟨some 52,.rd (.mv (.t 5)),none⟩::
 ⟨some 53,.rd (.fa 7 (.t 1)),none⟩::
 ⟨some 54,.rd (.load none (.t 53)),none⟩::
 ⟨some 55,.ef (.call 48 [(.t 52),(.t 54)]),none⟩::
  []
def F15.r14 : List ROper :=
 ⟨some 56,.rd (.mv (.t 5)),none⟩::
 ⟨some 57,.rd (.nilc (.t 56)),none⟩::
 ⟨some 58,.rd (.fa 2 (.t 57)),none⟩::
 ⟨some 59,.rd (.load none (.t 58)),none⟩::
 ⟨some 60,.rd (.bin .neq (.t 59) (.c (.int .i64 0))),none⟩::
  []
def F15.r15 : List ROper :=
 ⟨some 61,.rd (.mv (.t 5)),none⟩::
 ⟨some 62,.rd (.nilc (.t 61)),none⟩::
 ⟨some 63,.rd (.fa 1 (.t 62)),none⟩::
 ⟨some 64,.rd (.load none (.t 63)),none⟩::
 ⟨some 65,.rd (.mv (.t 5)),none⟩::
 ⟨some 66,.rd (.nilc (.t 65)),none⟩::
 ⟨some 67,.rd (.fa 2 (.t 66)),none⟩::
 ⟨some 68,.rd (.load none (.t 67)),none⟩::
 ⟨some 2,.rd (.mv (.t 64)),none⟩::
 ⟨some 3,.rd (.mv (.t 68)),none⟩::
  []
def F15.c25 : RCode := .seq (.dreg F15.r15) .ret
def F15.c24 : RCode := .cond (.t 60) F15.c25 .skip
def F15.c23 : RCode := .seq (.reg F15.r14) F15.c24
def F15.r16 : List ROper :=
 ⟨some 2,.rd (.mv (.c (.int .i64 0))),none⟩::
 ⟨some 3,.rd (.mv (.c (.int .i64 0))),none⟩::
  []
def F15.c26 : RCode := .seq (.reg F15.r16) .ret
def F15.c22 : RCode := .seq F15.c23 F15.c26
def F15.c21 : RCode := .seq (.reg F15.r13) F15.c22
def F15.c20 : RCode := .seq (.reg F15.r12) F15.c21
def F15.c19 : RCode := .seq (.reg F15.r11) F15.c20
def F15.c3 : RCode := .seq F15.c4 F15.c19
def F15.c2 : RCode := .seq (.reg F15.r2) F15.c3
def F15.c1 : RCode := .seq (.reg F15.r1) F15.c2
def F15.c0 : RCode := .seq (.reg F15.r0) F15.c1
theorem F15.calls {args : List AV} {h : AHeap} {K : AV → AHeap → Prop} (hn : args.length ≤ 69) (k : wT .go Go.Proofs.Try.prog 69 F15.c0 (fun x e h t => atEndT t [.tmp 2,.tmp 3] (EndW K) x e h) (envOf 0 args) h) : ACalls Go.Proofs.Try.prog 15 args h K :=
  acallsT [1] [] 69 Go.Proofs.Try.func15 Go.Proofs.Try.ntmps15 (by kernel_rfl) (by kernel_rfl) hn k
/-- pantograph/check.Ends -/
def F18.r0 : List ROper :=
 ⟨some 2,.rd (.mv (.c (.bool false))),none⟩::
  []
def F18.r1 : List ROper :=
 ⟨some 3,.rd (.mv (.t 0)),none⟩::
 ⟨some 4,.ef (.call 53 [(.t 3),(.c (.func (.func 54) [] []))]),none⟩::
 ⟨some 2,.rd (.mv (.t 4)),none⟩::
  []
def F18.c1 : RCode := .seq (.reg F18.r1) .ret
def F18.c0 : RCode := .seq (.reg F18.r0) F18.c1
theorem F18.calls {args : List AV} {h : AHeap} {K : AV → AHeap → Prop} (hn : args.length ≤ 5) (k : wT .go Go.Proofs.Try.prog 5 F18.c0 (fun x e h t => atEndT t [.tmp 2] (EndW K) x e h) (envOf 0 args) h) : ACalls Go.Proofs.Try.prog 18 args h K :=
  acallsT [] [] 5 Go.Proofs.Try.func18 Go.Proofs.Try.ntmps18 (by kernel_rfl) (by kernel_rfl) hn k
/-- pantograph/check.Ends$1 -/
def F54.r0 : List ROper :=
 ⟨some 1,.rd (.bx none (.t 0)),none⟩::
 ⟨some 2,.rd (.mv (.c (.bool false))),none⟩::
  []
def F54.r1 : List ROper :=
 ⟨some 3,.rd (.fa 2 (.t 1)),none⟩::
 ⟨some 4,.rd (.load none (.t 3)),none⟩::
 ⟨some 5,.rd (.bin .eql (.t 4) (.c (.int .i64 9))),none⟩::
 ⟨some 6,.rd (.mv (.t 5)),none⟩::
 ⟨some 7,.rd (.fa 2 (.t 1)),some (6,false)⟩::
 ⟨some 8,.rd (.load none (.t 7)),some (6,false)⟩::
 ⟨some 9,.rd (.bin .eql (.t 8) (.c (.int .i64 3))),some (6,false)⟩::
 ⟨some 10,.rd (.mv (.t 9)),some (6,false)⟩::
 ⟨some 11,.rd (.fa 11 (.t 1)),some (10,true)⟩::
 ⟨some 12,.rd (.load none (.t 11)),some (10,true)⟩::
 ⟨some 13,.rd (.pick (.t 10) (.t 12) (.c (.bool false))),some (6,false)⟩::
 ⟨some 14,.rd (.mv (.t 13)),some (6,false)⟩::
 ⟨some 15,.rd (.fa 12 (.t 1)),some (14,true)⟩::
 ⟨some 16,.rd (.load none (.t 15)),some (14,true)⟩::
 ⟨some 17,.ef (.call 18 [(.t 16)]),some (14,true)⟩::
 ⟨some 18,.rd (.pick (.t 14) (.t 17) (.c (.bool false))),some (6,false)⟩::
 ⟨some 19,.rd (.mv (.t 18)),some (6,false)⟩::
 ⟨some 20,.rd (.fa 13 (.t 1)),some (19,true)⟩::
 ⟨some 21,.rd (.load none (.t 20)),some (19,true)⟩::
 ⟨some 22,.ef (.call 18 [(.t 21)]),some (19,true)⟩::
 ⟨some 23,.rd (.pick (.t 19) (.t 22) (.c (.bool false))),some (6,false)⟩::
 ⟨some 24,.rd (.pick (.t 6) (.c (.bool true)) (.t 23)),none⟩::
 ⟨some 2,.rd (.mv (.t 24)),none⟩::
  []
def F54.c1 : RCode := .seq (.reg F54.r1) .ret
def F54.c0 : RCode := .seq (.reg F54.r0) F54.c1
theorem F54.calls {args : List AV} {h : AHeap} {K : AV → AHeap → Prop} (hn : args.length ≤ 25) (k : wT .go Go.Proofs.Try.prog 25 F54.c0 (fun x e h t => atEndT t [.tmp 2] (EndW K) x e h) (envOf 0 args) h) : ACalls Go.Proofs.Try.prog 54 args h K :=
  acallsT [1] [] 25 Go.Proofs.Try.func54 Go.Proofs.Try.ntmps54 (by kernel_rfl) (by kernel_rfl) hn k
/-- slices.ContainsFunc[[]pantograph/api.Stmt,pantograph/api.Stmt] -/
def F53.r0 : List ROper :=
 ⟨some 4,.rd (.mv (.c (.bool false))),none⟩::
  []
def F53.r1 : List ROper :=
 ⟨some 5,.rd (.mv (.t 0)),none⟩::
 ⟨some 6,.rd (.mv (.t 1)),none⟩::
 ⟨some 7,.ef (.call 79 [(.t 5),(.t 6)]),none⟩::
 ⟨some 8,.rd (.bin .geq (.t 7) (.c (.int .i64 0))),none⟩::
 ⟨some 4,.rd (.mv (.t 8)),none⟩::
  []
def F53.c1 : RCode := .seq (.reg F53.r1) .ret
def F53.c0 : RCode := .seq (.reg F53.r0) F53.c1
theorem F53.calls {args : List AV} {h : AHeap} {K : AV → AHeap → Prop} (hn : args.length ≤ 9) (k : wT .go Go.Proofs.Try.prog 9 F53.c0 (fun x e h t => atEndT t [.tmp 4] (EndW K) x e h) (envOf 0 args) h) : ACalls Go.Proofs.Try.prog 53 args h K :=
  acallsT [] [] 9 Go.Proofs.Try.func53 Go.Proofs.Try.ntmps53 (by kernel_rfl) (by kernel_rfl) hn k
/-- slices.IndexFunc[[]pantograph/api.Stmt,pantograph/api.Stmt] -/
def F79.r0 : List ROper :=
 ⟨some 4,.rd (.mv (.c (.int .i64 0))),none⟩::
  []
def F79.r1 : List ROper :=
 ⟨some 6,.rd (.mv (.t 0)),none⟩::
 ⟨some 7,.rd (.len 1 (.t 6)),none⟩::
 ⟨some 8,.rd (.mv (.c (.int .i64 0))),none⟩::
  []
def F79.r2 : List ROper :=
 ⟨some 9,.rd (.bin .lss (.t 8) (.t 7)),none⟩::
  []
def F79.c7 : RCode := .cond (.t 9) .skip (.exit 0)
def F79.r3 : List ROper :=
 ⟨some 10,.rd (.mv (.t 8)),none⟩::
 ⟨some 5,.rd (.mv (.t 10)),none⟩::
  []
def F79.r4 : List ROper :=
 ⟨some 11,.rd (.mv (.t 1)),none⟩::
 ⟨some 12,.rd (.mv (.t 0)),none⟩::
 ⟨some 13,.rd (.mv (.t 5)),none⟩::
 ⟨some 14,.rd (.ia 16 (.t 12) (.t 13)),none⟩::
 ⟨some 15,.rd (.load (some 16) (.t 14)),none⟩::
 ⟨some 16,.ef (.callv (.t 11) [(.t 15)]),none⟩::
  []
def F79.r5 : List ROper :=
 ⟨some 17,.rd (.mv (.t 5)),none⟩::
 ⟨some 4,.rd (.mv (.t 17)),none⟩::
  []
def F79.c13 : RCode := .seq (.reg F79.r5) .ret
def F79.c12 : RCode := .cond (.t 16) F79.c13 .skip
def F79.c11 : RCode := .seq (.reg F79.r4) F79.c12
def F79.c10 : RCode := .seq (.reg F79.r3) F79.c11
def F79.c9 : RCode := .block 1 F79.c10
def F79.r6 : List ROper :=
 ⟨some 18,.rd (.bin .add (.t 8) (.c (.int .i64 1))),none⟩::
 ⟨some 8,.rd (.mv (.t 18)),none⟩::
  []
def F79.c8 : RCode := .seq F79.c9 (.reg F79.r6)
def F79.c6 : RCode := .seq F79.c7 F79.c8
def F79.c5 : RCode := .seq (.reg F79.r2) F79.c6
def F79.c4 : RCode := .loop F79.c5
def F79.c3 : RCode := .block 0 F79.c4
def F79.c2 : RCode := .seq (.reg F79.r1) F79.c3
def F79.r7 : List ROper :=
 ⟨some 4,.rd (.mv (.c (.int .i64 (-1)))),none⟩::
  []
def F79.c14 : RCode := .seq (.reg F79.r7) .ret
def F79.c1 : RCode := .seq F79.c2 F79.c14
def F79.c0 : RCode := .seq (.reg F79.r0) F79.c1
theorem F79.calls {args : List AV} {h : AHeap} {K : AV → AHeap → Prop} (hn : args.length ≤ 19) (k : wT .go Go.Proofs.Try.prog 19 F79.c0 (fun x e h t => atEndT t [.tmp 4] (EndW K) x e h) (envOf 0 args) h) : ACalls Go.Proofs.Try.prog 79 args h K :=
  acallsT [] [] 19 Go.Proofs.Try.func79 Go.Proofs.Try.ntmps79 (by kernel_rfl) (by kernel_rfl) hn k
/-- pantograph/pantographref12.Ends -/
def F19.r0 : List ROper :=
 ⟨some 2,.rd (.mv (.c (.bool false))),none⟩::
  []
def F19.r1 : List ROper :=
 ⟨some 3,.rd (.mv (.c (.int .i64 0))),none⟩::
  []
def F19.r2 : List ROper :=
 ⟨some 4,.rd (.mv (.t 3)),none⟩::
 ⟨some 5,.rd (.mv (.t 0)),none⟩::
 ⟨some 6,.rd (.len 1 (.t 5)),none⟩::
 ⟨some 7,.rd (.bin .lss (.t 4) (.t 6)),none⟩::
  []
def F19.c7 : RCode := .cond (.t 7) .skip (.exit 0)
def F19.c6 : RCode := .seq (.reg F19.r2) F19.c7
def F19.r3 : List ROper :=
 ⟨some 10,.rd (.mv (.t 0)),none⟩::
 ⟨some 11,.rd (.mv (.t 3)),none⟩::
 ⟨some 12,.rd (.ia 16 (.t 10) (.t 11)),none⟩::
 ⟨some 13,.rd (.fa 2 (.t 12)),none⟩::
 ⟨some 14,.rd (.load none (.t 13)),none⟩::
 ⟨some 15,.rd (.bin .eql (.t 14) (.c (.int .i64 9))),none⟩::
 ⟨some 16,.rd (.mv (.t 15)),none⟩::
 ⟨some 17,.rd (.mv (.t 0)),some (16,false)⟩::
 ⟨some 18,.rd (.mv (.t 3)),some (16,false)⟩::
 ⟨some 19,.rd (.ia 16 (.t 17) (.t 18)),some (16,false)⟩::
 ⟨some 20,.rd (.fa 2 (.t 19)),some (16,false)⟩::
 ⟨some 21,.rd (.load none (.t 20)),some (16,false)⟩::
 ⟨some 22,.rd (.bin .eql (.t 21) (.c (.int .i64 3))),some (16,false)⟩::
 ⟨some 23,.rd (.mv (.t 22)),some (16,false)⟩::
 ⟨some 24,.rd (.mv (.t 0)),some (23,true)⟩::
 ⟨some 25,.rd (.mv (.t 3)),some (23,true)⟩::
 ⟨some 26,.rd (.ia 16 (.t 24) (.t 25)),some (23,true)⟩::
 ⟨some 27,.rd (.fa 11 (.t 26)),some (23,true)⟩::
 ⟨some 28,.rd (.load none (.t 27)),some (23,true)⟩::
 ⟨some 29,.rd (.pick (.t 23) (.t 28) (.c (.bool false))),some (16,false)⟩::
 ⟨some 30,.rd (.mv (.t 29)),some (16,false)⟩::
 ⟨some 31,.rd (.mv (.t 0)),some (30,true)⟩::
 ⟨some 32,.rd (.mv (.t 3)),some (30,true)⟩::
 ⟨some 33,.rd (.ia 16 (.t 31) (.t 32)),some (30,true)⟩::
 ⟨some 34,.rd (.fa 12 (.t 33)),some (30,true)⟩::
 ⟨some 35,.rd (.load none (.t 34)),some (30,true)⟩::
 ⟨some 36,.ef (.call 19 [(.t 35)]),some (30,true)⟩::
 ⟨some 37,.rd (.pick (.t 30) (.t 36) (.c (.bool false))),some (16,false)⟩::
 ⟨some 38,.rd (.mv (.t 37)),some (16,false)⟩::
 ⟨some 39,.rd (.mv (.t 0)),some (38,true)⟩::
 ⟨some 40,.rd (.mv (.t 3)),some (38,true)⟩::
 ⟨some 41,.rd (.ia 16 (.t 39) (.t 40)),some (38,true)⟩::
 ⟨some 42,.rd (.fa 13 (.t 41)),some (38,true)⟩::
 ⟨some 43,.rd (.load none (.t 42)),some (38,true)⟩::
 ⟨some 44,.ef (.call 19 [(.t 43)]),some (38,true)⟩::
 ⟨some 45,.rd (.pick (.t 38) (.t 44) (.c (.bool false))),some (16,false)⟩::
 ⟨some 46,.rd (.pick (.t 16) (.c (.bool true)) (.t 45)),none⟩::
  []
def F19.r4 : List ROper :=
 ⟨some 2,.rd (.mv (.c (.bool true))),none⟩::
  []
def F19.c12 : RCode := .seq (.reg F19.r4) .ret
def F19.c11 : RCode := .cond (.t 46) F19.c12 .skip
def F19.c10 : RCode := .seq (.reg F19.r3) F19.c11
def F19.c9 : RCode := .block 1 F19.c10
def F19.r5 : List ROper :=
 ⟨some 8,.rd (.mv (.t 3)),none⟩::
 ⟨some 9,.rd (.bin .add (.t 8) (.c (.int .i64 1))),none⟩::
 ⟨some 3,.rd (.mv (.t 9)),none⟩::
  []
def F19.c8 : RCode := .seq F19.c9 (.reg F19.r5)
def F19.c5 : RCode := .seq F19.c6 F19.c8
def F19.c4 : RCode := .loop F19.c5
def F19.c3 : RCode := .block 0 F19.c4
def F19.c2 : RCode := .seq (.reg F19.r1) F19.c3
def F19.r6 : List ROper :=
 ⟨some 2,.rd (.mv (.c (.bool false))),none⟩::
  []
def F19.c13 : RCode := .seq (.reg F19.r6) .ret
def F19.c1 : RCode := .seq F19.c2 F19.c13
def F19.c0 : RCode := .seq (.reg F19.r0) F19.c1
theorem F19.calls {args : List AV} {h : AHeap} {K : AV → AHeap → Prop} (hn : args.length ≤ 47) (k : wT .go Go.Proofs.Try.prog 47 F19.c0 (fun x e h t => atEndT t [.tmp 2] (EndW K) x e h) (envOf 0 args) h) : ACalls Go.Proofs.Try.prog 19 args h K :=
  acallsT [] [] 47 Go.Proofs.Try.func19 Go.Proofs.Try.ntmps19 (by kernel_rfl) (by kernel_rfl) hn k
/-- pantograph/check.Count -/
def F20.r0 : List ROper :=
 ⟨some 1,.rd (.bx none (.t 0)),none⟩::
 ⟨some 2,.rd (.mv (.c (.int .i64 0))),none⟩::
  []
def F20.r1 : List ROper :=
 ⟨some 3,.rd (.fa 4 (.t 1)),none⟩::
 ⟨some 4,.rd (.load none (.t 3)),none⟩::
 ⟨some 5,.rd (.len 1 (.t 4)),none⟩::
 ⟨some 6,.rd (.fa 5 (.t 1)),none⟩::
 ⟨some 7,.rd (.load none (.t 6)),none⟩::
 ⟨some 8,.rd (.len 1 (.t 7)),none⟩::
 ⟨some 9,.rd (.bin .add (.t 5) (.t 8)),none⟩::
 ⟨some 10,.rd (.fa 6 (.t 1)),none⟩::
 ⟨some 11,.rd (.load none (.t 10)),none⟩::
 ⟨some 14,.rd (.fa 7 (.t 1)),none⟩::
 ⟨some 15,.rd (.load none (.t 14)),none⟩::
 ⟨some 12,.ef (.call 55 [(.t 11)]),none⟩::
 ⟨some 13,.rd (.bin .add (.t 9) (.t 12)),none⟩::
 ⟨some 16,.ef (.call 56 [(.t 15)]),none⟩::
 ⟨some 17,.rd (.bin .add (.t 13) (.t 16)),none⟩::
 ⟨some 2,.rd (.mv (.t 17)),none⟩::
  []
def F20.c1 : RCode := .seq (.dreg F20.r1) .ret
def F20.c0 : RCode := .seq (.reg F20.r0) F20.c1
theorem F20.calls {args : List AV} {h : AHeap} {K : AV → AHeap → Prop} (hn : args.length ≤ 18) (k : wT .go Go.Proofs.Try.prog 18 F20.c0 (fun x e h t => atEndT t [.tmp 2] (EndW K) x e h) (envOf 0 args) h) : ACalls Go.Proofs.Try.prog 20 args h K :=
  acallsT [1] [] 18 Go.Proofs.Try.func20 Go.Proofs.Try.ntmps20 (by kernel_rfl) (by kernel_rfl) hn k
/-- pantograph/pantographref10.Count -/
def F21.r0 : List ROper :=
 ⟨some 1,.rd (.bx none (.t 0)),none⟩::
 ⟨some 2,.rd (.mv (.c (.int .i64 0))),none⟩::
  []
def F21.r1 : List ROper :=
 ⟨some 3,.rd (.fa 4 (.t 1)),none⟩::
 ⟨some 4,.rd (.load none (.t 3)),none⟩::
 ⟨some 5,.rd (.len 1 (.t 4)),none⟩::
 ⟨some 6,.rd (.fa 5 (.t 1)),none⟩::
 ⟨some 7,.rd (.load none (.t 6)),none⟩::
 ⟨some 8,.rd (.len 1 (.t 7)),none⟩::
 ⟨some 9,.rd (.bin .add (.t 5) (.t 8)),none⟩::
 ⟨some 10,.rd (.fa 6 (.t 1)),none⟩::
 ⟨some 11,.rd (.load none (.t 10)),none⟩::
 ⟨some 14,.rd (.fa 7 (.t 1)),none⟩::
 ⟨some 15,.rd (.load none (.t 14)),none⟩::
 ⟨some 12,.ef (.call 57 [(.t 11)]),none⟩::
 ⟨some 13,.rd (.bin .add (.t 9) (.t 12)),none⟩::
 ⟨some 16,.ef (.call 58 [(.t 15)]),none⟩::
 ⟨some 17,.rd (.bin .add (.t 13) (.t 16)),none⟩::
 ⟨some 2,.rd (.mv (.t 17)),none⟩::
  []
def F21.c1 : RCode := .seq (.dreg F21.r1) .ret
def F21.c0 : RCode := .seq (.reg F21.r0) F21.c1
theorem F21.calls {args : List AV} {h : AHeap} {K : AV → AHeap → Prop} (hn : args.length ≤ 18) (k : wT .go Go.Proofs.Try.prog 18 F21.c0 (fun x e h t => atEndT t [.tmp 2] (EndW K) x e h) (envOf 0 args) h) : ACalls Go.Proofs.Try.prog 21 args h K :=
  acallsT [1] [] 18 Go.Proofs.Try.func21 Go.Proofs.Try.ntmps21 (by kernel_rfl) (by kernel_rfl) hn k
/-- pantograph/check.routineCount -/
def F55.r0 : List ROper :=
 ⟨some 2,.rd (.mv (.c (.int .i64 0))),none⟩::
  []
def F55.r1 : List ROper :=
 ⟨some 6,.rd (.mv (.t 0)),none⟩::
 ⟨some 7,.rd (.len 1 (.t 6)),none⟩::
 ⟨some 3,.rd (.mv (.t 7)),none⟩::
  []
def F55.r2 : List ROper :=
 ⟨some 8,.rd (.mv (.t 0)),none⟩::
 ⟨some 9,.rd (.len 1 (.t 8)),none⟩::
 ⟨some 10,.rd (.mv (.c (.int .i64 0))),none⟩::
  []
def F55.r3 : List ROper :=
 ⟨some 11,.rd (.bin .lss (.t 10) (.t 9)),none⟩::
  []
def F55.c8 : RCode := .cond (.t 11) .skip (.exit 0)
def F55.r4 : List ROper :=
 ⟨some 12,.rd (.ia 9 (.t 8) (.t 10)),none⟩::
 ⟨some 13,.rd (.load (some 9) (.t 12)),none⟩::
 ⟨some 5,.rd (.bx (some 9) (.t 13)),none⟩::
  []
def F55.r5 : List ROper :=
 ⟨some 14,.rd (.mv (.t 3)),none⟩::
 ⟨some 15,.rd (.fa 5 (.t 5)),none⟩::
 ⟨some 16,.rd (.load none (.t 15)),none⟩::
 ⟨some 17,.rd (.len 1 (.t 16)),none⟩::
 ⟨some 18,.rd (.fa 6 (.t 5)),none⟩::
 ⟨some 19,.rd (.load none (.t 18)),none⟩::
 ⟨some 22,.rd (.fa 7 (.t 5)),none⟩::
 ⟨some 23,.rd (.load none (.t 22)),none⟩::
 ⟨some 20,.ef (.call 55 [(.t 19)]),none⟩::
 ⟨some 21,.rd (.bin .add (.t 17) (.t 20)),none⟩::
 ⟨some 24,.ef (.call 56 [(.t 23)]),none⟩::
 ⟨some 25,.rd (.bin .add (.t 21) (.t 24)),none⟩::
 ⟨some 26,.rd (.bin .add (.t 14) (.t 25)),none⟩::
 ⟨some 3,.rd (.mv (.t 26)),none⟩::
  []
def F55.c11 : RCode := .seq (.reg F55.r4) (.dreg F55.r5)
def F55.c10 : RCode := .block 1 F55.c11
def F55.r6 : List ROper :=
 ⟨some 27,.rd (.bin .add (.t 10) (.c (.int .i64 1))),none⟩::
 ⟨some 10,.rd (.mv (.t 27)),none⟩::
  []
def F55.c9 : RCode := .seq F55.c10 (.reg F55.r6)
def F55.c7 : RCode := .seq F55.c8 F55.c9
def F55.c6 : RCode := .seq (.reg F55.r3) F55.c7
def F55.c5 : RCode := .loop F55.c6
def F55.c4 : RCode := .block 0 F55.c5
def F55.c3 : RCode := .seq (.reg F55.r2) F55.c4
def F55.r7 : List ROper :=
 ⟨some 28,.rd (.mv (.t 3)),none⟩::
 ⟨some 2,.rd (.mv (.t 28)),none⟩::
  []
def F55.c12 : RCode := .seq (.reg F55.r7) .ret
def F55.c2 : RCode := .seq F55.c3 F55.c12
def F55.c1 : RCode := .seq (.reg F55.r1) F55.c2
def F55.c0 : RCode := .seq (.reg F55.r0) F55.c1
theorem F55.calls {args : List AV} {h : AHeap} {K : AV → AHeap → Prop} (hn : args.length ≤ 29) (k : wT .go Go.Proofs.Try.prog 29 F55.c0 (fun x e h t => atEndT t [.tmp 2] (EndW K) x e h) (envOf 0 args) h) : ACalls Go.Proofs.Try.prog 55 args h K :=
  acallsT [] [5] 29 Go.Proofs.Try.func55 Go.Proofs.Try.ntmps55 (by kernel_rfl) (by kernel_rfl) hn k
/-- pantograph/check.stmtCount -/
def F56.r0 : List ROper :=
 ⟨some 2,.rd (.mv (.c (.int .i64 0))),none⟩::
  []
def F56.r1 : List ROper :=
 ⟨some 6,.rd (.mv (.t 0)),none⟩::
 ⟨some 7,.rd (.len 1 (.t 6)),none⟩::
 ⟨some 3,.rd (.mv (.t 7)),none⟩::
  []
def F56.r2 : List ROper :=
 ⟨some 8,.rd (.mv (.t 0)),none⟩::
 ⟨some 9,.rd (.len 1 (.t 8)),none⟩::
 ⟨some 10,.rd (.mv (.c (.int .i64 0))),none⟩::
  []
def F56.r3 : List ROper :=
 ⟨some 11,.rd (.bin .lss (.t 10) (.t 9)),none⟩::
  []
def F56.c8 : RCode := .cond (.t 11) .skip (.exit 0)
def F56.r4 : List ROper :=
 ⟨some 12,.rd (.ia 16 (.t 8) (.t 10)),none⟩::
 ⟨some 13,.rd (.load (some 16) (.t 12)),none⟩::
 ⟨some 5,.rd (.bx (some 16) (.t 13)),none⟩::
  []
def F56.r5 : List ROper :=
 ⟨some 14,.rd (.mv (.t 3)),none⟩::
 ⟨some 15,.rd (.fa 12 (.t 5)),none⟩::
 ⟨some 16,.rd (.load none (.t 15)),none⟩::
 ⟨some 18,.rd (.fa 13 (.t 5)),none⟩::
 ⟨some 19,.rd (.load none (.t 18)),none⟩::
 ⟨some 17,.ef (.call 56 [(.t 16)]),none⟩::
 ⟨some 20,.ef (.call 56 [(.t 19)]),none⟩::
 ⟨some 21,.rd (.bin .add (.t 17) (.t 20)),none⟩::
 ⟨some 22,.rd (.bin .add (.t 14) (.t 21)),none⟩::
 ⟨some 3,.rd (.mv (.t 22)),none⟩::
  []
def F56.c11 : RCode := .seq (.reg F56.r4) (.dreg F56.r5)
def F56.c10 : RCode := .block 1 F56.c11
def F56.r6 : List ROper :=
 ⟨some 23,.rd (.bin .add (.t 10) (.c (.int .i64 1))),none⟩::
 ⟨some 10,.rd (.mv (.t 23)),none⟩::
  []
def F56.c9 : RCode := .seq F56.c10 (.reg F56.r6)
def F56.c7 : RCode := .seq F56.c8 F56.c9
def F56.c6 : RCode := .seq (.reg F56.r3) F56.c7
def F56.c5 : RCode := .loop F56.c6
def F56.c4 : RCode := .block 0 F56.c5
def F56.c3 : RCode := .seq (.reg F56.r2) F56.c4
def F56.r7 : List ROper :=
 ⟨some 24,.rd (.mv (.t 3)),none⟩::
 ⟨some 2,.rd (.mv (.t 24)),none⟩::
  []
def F56.c12 : RCode := .seq (.reg F56.r7) .ret
def F56.c2 : RCode := .seq F56.c3 F56.c12
def F56.c1 : RCode := .seq (.reg F56.r1) F56.c2
def F56.c0 : RCode := .seq (.reg F56.r0) F56.c1
theorem F56.calls {args : List AV} {h : AHeap} {K : AV → AHeap → Prop} (hn : args.length ≤ 25) (k : wT .go Go.Proofs.Try.prog 25 F56.c0 (fun x e h t => atEndT t [.tmp 2] (EndW K) x e h) (envOf 0 args) h) : ACalls Go.Proofs.Try.prog 56 args h K :=
  acallsT [] [5] 25 Go.Proofs.Try.func56 Go.Proofs.Try.ntmps56 (by kernel_rfl) (by kernel_rfl) hn k
/-- pantograph/pantographref10.routineCount -/
def F57.r0 : List ROper :=
 ⟨some 2,.rd (.mv (.c (.int .i64 0))),none⟩::
  []
def F57.r1 : List ROper :=
 ⟨some 5,.rd (.mv (.t 0)),none⟩::
 ⟨some 6,.rd (.len 1 (.t 5)),none⟩::
 ⟨some 3,.rd (.mv (.t 6)),none⟩::
  []
def F57.r2 : List ROper :=
 ⟨some 4,.rd (.mv (.c (.int .i64 0))),none⟩::
  []
def F57.r3 : List ROper :=
 ⟨some 7,.rd (.mv (.t 4)),none⟩::
 ⟨some 8,.rd (.mv (.t 0)),none⟩::
 ⟨some 9,.rd (.len 1 (.t 8)),none⟩::
 ⟨some 10,.rd (.bin .lss (.t 7) (.t 9)),none⟩::
  []
def F57.c8 : RCode := .cond (.t 10) .skip (.exit 0)
def F57.c7 : RCode := .seq (.reg F57.r3) F57.c8
def F57.r4 : List ROper :=
 ⟨some 13,.rd (.mv (.t 3)),none⟩::
 ⟨some 14,.rd (.mv (.t 0)),none⟩::
 ⟨some 15,.rd (.mv (.t 4)),none⟩::
 ⟨some 16,.rd (.ia 9 (.t 14) (.t 15)),none⟩::
 ⟨some 17,.rd (.fa 5 (.t 16)),none⟩::
 ⟨some 18,.rd (.load none (.t 17)),none⟩::
 ⟨some 19,.rd (.len 1 (.t 18)),none⟩::
 ⟨some 20,.rd (.bin .add (.t 13) (.t 19)),none⟩::
 ⟨some 21,.rd (.mv (.t 0)),none⟩::
 ⟨some 22,.rd (.mv (.t 4)),none⟩::
 ⟨some 23,.rd (.ia 9 (.t 21) (.t 22)),none⟩::
 ⟨some 24,.rd (.fa 6 (.t 23)),none⟩::
 ⟨some 25,.rd (.load none (.t 24)),none⟩::
 ⟨some 28,.rd (.mv (.t 0)),none⟩::
 ⟨some 29,.rd (.mv (.t 4)),none⟩::
 ⟨some 30,.rd (.ia 9 (.t 28) (.t 29)),none⟩::
 ⟨some 31,.rd (.fa 7 (.t 30)),none⟩::
 ⟨some 32,.rd (.load none (.t 31)),none⟩::
 ⟨some 26,.ef (.call 57 [(.t 25)]),none⟩::
 ⟨some 27,.rd (.bin .add (.t 20) (.t 26)),none⟩::
 ⟨some 33,.ef (.call 58 [(.t 32)]),none⟩::
 ⟨some 34,.rd (.bin .add (.t 27) (.t 33)),none⟩::
 ⟨some 3,.rd (.mv (.t 34)),none⟩::
  []
def F57.c10 : RCode := .block 1 (.dreg F57.r4)
def F57.r5 : List ROper :=
 ⟨some 11,.rd (.mv (.t 4)),none⟩::
 ⟨some 12,.rd (.bin .add (.t 11) (.c (.int .i64 1))),none⟩::
 ⟨some 4,.rd (.mv (.t 12)),none⟩::
  []
def F57.c9 : RCode := .seq F57.c10 (.reg F57.r5)
def F57.c6 : RCode := .seq F57.c7 F57.c9
def F57.c5 : RCode := .loop F57.c6
def F57.c4 : RCode := .block 0 F57.c5
def F57.c3 : RCode := .seq (.reg F57.r2) F57.c4
def F57.r6 : List ROper :=
 ⟨some 35,.rd (.mv (.t 3)),none⟩::
 ⟨some 2,.rd (.mv (.t 35)),none⟩::
  []
def F57.c11 : RCode := .seq (.reg F57.r6) .ret
def F57.c2 : RCode := .seq F57.c3 F57.c11
def F57.c1 : RCode := .seq (.reg F57.r1) F57.c2
def F57.c0 : RCode := .seq (.reg F57.r0) F57.c1
theorem F57.calls {args : List AV} {h : AHeap} {K : AV → AHeap → Prop} (hn : args.length ≤ 36) (k : wT .go Go.Proofs.Try.prog 36 F57.c0 (fun x e h t => atEndT t [.tmp 2] (EndW K) x e h) (envOf 0 args) h) : ACalls Go.Proofs.Try.prog 57 args h K :=
  acallsT [] [] 36 Go.Proofs.Try.func57 Go.Proofs.Try.ntmps57 (by kernel_rfl) (by kernel_rfl) hn k
/-- pantograph/pantographref10.stmtCount -/
def F58.r0 : List ROper :=
 ⟨some 2,.rd (.mv (.c (.int .i64 0))),none⟩::
  []
def F58.r1 : List ROper :=
 ⟨some 5,.rd (.mv (.t 0)),none⟩::
 ⟨some 6,.rd (.len 1 (.t 5)),none⟩::
 ⟨some 3,.rd (.mv (.t 6)),none⟩::
  []
def F58.r2 : List ROper :=
 ⟨some 4,.rd (.mv (.c (.int .i64 0))),none⟩::
  []
def F58.r3 : List ROper :=
 ⟨some 7,.rd (.mv (.t 4)),none⟩::
 ⟨some 8,.rd (.mv (.t 0)),none⟩::
 ⟨some 9,.rd (.len 1 (.t 8)),none⟩::
 ⟨some 10,.rd (.bin .lss (.t 7) (.t 9)),none⟩::
  []
def F58.c8 : RCode := .cond (.t 10) .skip (.exit 0)
def F58.c7 : RCode := .seq (.reg F58.r3) F58.c8
def F58.r4 : List ROper :=
 ⟨some 13,.rd (.mv (.t 3)),none⟩::
 ⟨some 14,.rd (.mv (.t 0)),none⟩::
 ⟨some 15,.rd (.mv (.t 4)),none⟩::
 ⟨some 16,.rd (.ia 16 (.t 14) (.t 15)),none⟩::
 ⟨some 17,.rd (.fa 12 (.t 16)),none⟩::
 ⟨some 18,.rd (.load none (.t 17)),none⟩::
 ⟨some 21,.rd (.mv (.t 0)),none⟩::
 ⟨some 22,.rd (.mv (.t 4)),none⟩::
 ⟨some 23,.rd (.ia 16 (.t 21) (.t 22)),none⟩::
 ⟨some 24,.rd (.fa 13 (.t 23)),none⟩::
 ⟨some 25,.rd (.load none (.t 24)),none⟩::
 ⟨some 19,.ef (.call 58 [(.t 18)]),none⟩::
 ⟨some 20,.rd (.bin .add (.t 13) (.t 19)),none⟩::
 ⟨some 26,.ef (.call 58 [(.t 25)]),none⟩::
 ⟨some 27,.rd (.bin .add (.t 20) (.t 26)),none⟩::
 ⟨some 3,.rd (.mv (.t 27)),none⟩::
  []
def F58.c10 : RCode := .block 1 (.dreg F58.r4)
def F58.r5 : List ROper :=
 ⟨some 11,.rd (.mv (.t 4)),none⟩::
 ⟨some 12,.rd (.bin .add (.t 11) (.c (.int .i64 1))),none⟩::
 ⟨some 4,.rd (.mv (.t 12)),none⟩::
  []
def F58.c9 : RCode := .seq F58.c10 (.reg F58.r5)
def F58.c6 : RCode := .seq F58.c7 F58.c9
def F58.c5 : RCode := .loop F58.c6
def F58.c4 : RCode := .block 0 F58.c5
def F58.c3 : RCode := .seq (.reg F58.r2) F58.c4
def F58.r6 : List ROper :=
 ⟨some 28,.rd (.mv (.t 3)),none⟩::
 ⟨some 2,.rd (.mv (.t 28)),none⟩::
  []
def F58.c11 : RCode := .seq (.reg F58.r6) .ret
def F58.c2 : RCode := .seq F58.c3 F58.c11
def F58.c1 : RCode := .seq (.reg F58.r1) F58.c2
def F58.c0 : RCode := .seq (.reg F58.r0) F58.c1
theorem F58.calls {args : List AV} {h : AHeap} {K : AV → AHeap → Prop} (hn : args.length ≤ 29) (k : wT .go Go.Proofs.Try.prog 29 F58.c0 (fun x e h t => atEndT t [.tmp 2] (EndW K) x e h) (envOf 0 args) h) : ACalls Go.Proofs.Try.prog 58 args h K :=
  acallsT [] [] 29 Go.Proofs.Try.func58 Go.Proofs.Try.ntmps58 (by kernel_rfl) (by kernel_rfl) hn k
/-- (*pantograph/check.scope).deeper -/
def F41.r0 : List ROper :=
 ⟨some 2,.rd (.mv (.c (.ptr none))),none⟩::
  []
def F41.r1 : List ROper :=
 ⟨some 3,.rd (.mv (.t 0)),none⟩::
 ⟨some 4,.ef (.mkmap),none⟩::
 ⟨some 5,.rd (.build [(.ptr none),(.map none)] [(0,1,(.t 3)),(1,1,(.t 4))]),none⟩::
 ⟨some 6,.rd (.bx none (.t 5)),none⟩::
 ⟨some 2,.rd (.mv (.t 6)),none⟩::
  []
def F41.c1 : RCode := .seq (.reg F41.r1) .ret
def F41.c0 : RCode := .seq (.reg F41.r0) F41.c1
theorem F41.calls {args : List AV} {h : AHeap} {K : AV → AHeap → Prop} (hn : args.length ≤ 7) (k : wT .go Go.Proofs.Try.prog 7 F41.c0 (fun x e h t => atEndT t [.tmp 2] (EndW K) x e h) (envOf 0 args) h) : ACalls Go.Proofs.Try.prog 41 args h K :=
  acallsT [6] [] 7 Go.Proofs.Try.func41 Go.Proofs.Try.ntmps41 (by kernel_rfl) (by kernel_rfl) hn k
/-- (*pantograph/check.checker).next -/
def F42.r0 : List ROper :=
 ⟨some 2,.rd (.mv (.c (.bool false))),none⟩::
  []
def F42.r1 : List ROper :=
 ⟨some 3,.rd (.mv (.t 0)),none⟩::
 ⟨some 4,.rd (.nilc (.t 3)),none⟩::
 ⟨some 5,.rd (.fa 2 (.t 4)),none⟩::
 ⟨some 6,.rd (.load none (.t 5)),none⟩::
 ⟨some 7,.rd (.bin .neq (.t 6) (.c (.int .i64 0))),none⟩::
  []
def F42.r2 : List ROper :=
 ⟨some 2,.rd (.mv (.c (.bool false))),none⟩::
  []
def F42.c4 : RCode := .seq (.reg F42.r2) .ret
def F42.c3 : RCode := .cond (.t 7) F42.c4 .skip
def F42.c2 : RCode := .seq (.reg F42.r1) F42.c3
def F42.r3 : List ROper :=
 ⟨some 8,.rd (.mv (.t 0)),none⟩::
 ⟨some 9,.rd (.nilc (.t 8)),none⟩::
 ⟨some 10,.rd (.fa 1 (.t 9)),none⟩::
 ⟨some 11,.rd (.load none (.t 10)),none⟩::
 ⟨some 12,.rd (.bin .add (.t 11) (.c (.int .i64 1))),none⟩::
 ⟨some 13,.rd (.nilc (.t 8)),none⟩::
 ⟨some 14,.rd (.fa 1 (.t 13)),none⟩::
 ⟨none,.ef (.store 1 (.t 14) (.t 12)),none⟩::
  []
def F42.r4 : List ROper :=
 ⟨some 2,.rd (.mv (.c (.bool true))),none⟩::
  []
def F42.c6 : RCode := .seq (.reg F42.r4) .ret
def F42.c5 : RCode := .seq (.reg F42.r3) F42.c6
def F42.c1 : RCode := .seq F42.c2 F42.c5
def F42.c0 : RCode := .seq (.reg F42.r0) F42.c1
theorem F42.calls {args : List AV} {h : AHeap} {K : AV → AHeap → Prop} (hn : args.length ≤ 15) (k : wT .go Go.Proofs.Try.prog 15 F42.c0 (fun x e h t => atEndT t [.tmp 2] (EndW K) x e h) (envOf 0 args) h) : ACalls Go.Proofs.Try.prog 42 args h K :=
  acallsT [] [] 15 Go.Proofs.Try.func42 Go.Proofs.Try.ntmps42 (by kernel_rfl) (by kernel_rfl) hn k
/-- (*pantograph/check.checker).lay -/
def F43.r0 : List ROper :=
 ⟨some 5,.rd (.bx none (.t 2)),none⟩::
  []
def F43.r1 : List ROper :=
 ⟨some 9,.rd (.mv (.t 0)),none⟩::
 ⟨some 10,.rd (.nilc (.t 9)),none⟩::
 ⟨some 11,.rd (.fa 0 (.t 10)),none⟩::
 ⟨some 12,.rd (.load none (.t 11)),none⟩::
 ⟨some 13,.rd (.mv (.t 1)),none⟩::
 ⟨some 14,.ef (.call 72 [(.t 12),(.t 13)]),none⟩::
 ⟨some 8,.rd (.mv (.t 14)),none⟩::
 ⟨some 15,.rd (.ext (.t 8) 0),none⟩::
 ⟨some 16,.rd (.ext (.t 8) 1),none⟩::
 ⟨some 6,.rd (.bx (some 6) (.t 15)),none⟩::
 ⟨some 7,.rd (.mv (.t 16)),none⟩::
  []
def F43.r2 : List ROper :=
 ⟨some 17,.rd (.mv (.t 7)),none⟩::
  []
def F43.r3 : List ROper :=
 ⟨some 18,.rd (.mv (.t 0)),none⟩::
 ⟨some 19,.ef (.call 45 [(.t 18),(.c (.int .i64 12))]),none⟩::
  []
def F43.c5 : RCode := .seq (.reg F43.r3) .ret
def F43.c4 : RCode := .cond (.t 17) F43.c5 .skip
def F43.c3 : RCode := .seq (.reg F43.r2) F43.c4
def F43.c2 : RCode := .seq (.reg F43.r1) F43.c3
def F43.r4 : List ROper :=
 ⟨some 20,.rd (.mv (.t 0)),none⟩::
 ⟨some 21,.rd (.nilc (.t 20)),none⟩::
 ⟨some 22,.rd (.fa 0 (.t 21)),none⟩::
 ⟨some 23,.rd (.load none (.t 22)),none⟩::
 ⟨some 24,.rd (.nilc (.t 23)),none⟩::
 ⟨some 25,.rd (.fa 1 (.t 24)),none⟩::
 ⟨some 26,.rd (.load none (.t 25)),none⟩::
 ⟨some 27,.rd (.mv (.t 1)),none⟩::
 ⟨some 28,.rd (.load (some 6) (.t 5)),none⟩::
 ⟨none,.ef (.mapup [2] (.t 26) (.t 27) (.t 28)),none⟩::
  []
def F43.c1 : RCode := .seq F43.c2 (.dreg F43.r4)
def F43.c0 : RCode := .seq (.reg F43.r0) F43.c1
theorem F43.calls {args : List AV} {h : AHeap} {K : AV → AHeap → Prop} (hn : args.length ≤ 29) (k : wT .go Go.Proofs.Try.prog 29 F43.c0 (fun x e h t => atEndT t [] (EndW K) x e h) (envOf 0 args) h) : ACalls Go.Proofs.Try.prog 43 args h K :=
  acallsT [5] [6] 29 Go.Proofs.Try.func43 Go.Proofs.Try.ntmps43 (by kernel_rfl) (by kernel_rfl) hn k
/-- pantograph/check.fields -/
def F44.r0 : List ROper :=
 ⟨some 1,.rd (.bx none (.t 0)),none⟩::
 ⟨some 2,.rd (.mv (.c (.bool false))),none⟩::
  []
def F44.r1 : List ROper :=
 ⟨some 3,.rd (.mv (.c (.bool false))),none⟩::
  []
def F44.r2 : List ROper :=
 ⟨some 8,.rd (.fa 3 (.t 1)),none⟩::
 ⟨some 9,.rd (.load none (.t 8)),none⟩::
 ⟨some 10,.rd (.len 1 (.t 9)),none⟩::
 ⟨some 11,.rd (.mv (.c (.int .i64 0))),none⟩::
  []
def F44.r3 : List ROper :=
 ⟨some 12,.rd (.bin .lss (.t 11) (.t 10)),none⟩::
  []
def F44.c10 : RCode := .cond (.t 12) .skip (.exit 0)
def F44.r4 : List ROper :=
 ⟨some 13,.rd (.mv (.t 11)),none⟩::
 ⟨some 14,.rd (.ia 4 (.t 9) (.t 11)),none⟩::
 ⟨some 15,.rd (.load (some 4) (.t 14)),none⟩::
 ⟨some 4,.rd (.mv (.t 13)),none⟩::
 ⟨some 5,.rd (.bx (some 4) (.t 15)),none⟩::
  []
def F44.r5 : List ROper :=
 ⟨some 16,.rd (.fa 3 (.t 1)),none⟩::
 ⟨some 17,.rd (.load none (.t 16)),none⟩::
 ⟨some 18,.rd (.mv (.t 4)),none⟩::
 ⟨some 19,.rd (.slice false 4 (.t 17) none (some (.t 18))),none⟩::
 ⟨some 20,.rd (.len 1 (.t 19)),none⟩::
 ⟨some 21,.rd (.mv (.c (.int .i64 0))),none⟩::
  []
def F44.r6 : List ROper :=
 ⟨some 22,.rd (.bin .lss (.t 21) (.t 20)),none⟩::
  []
def F44.c19 : RCode := .cond (.t 22) .skip (.exit 2)
def F44.r7 : List ROper :=
 ⟨some 23,.rd (.ia 4 (.t 19) (.t 21)),none⟩::
 ⟨some 24,.rd (.load (some 4) (.t 23)),none⟩::
 ⟨some 7,.rd (.bx (some 4) (.t 24)),none⟩::
  []
def F44.r8 : List ROper :=
 ⟨some 25,.rd (.fa 2 (.t 7)),none⟩::
 ⟨some 26,.rd (.load none (.t 25)),none⟩::
 ⟨some 27,.rd (.fa 2 (.t 5)),none⟩::
 ⟨some 28,.rd (.load none (.t 27)),none⟩::
 ⟨some 29,.rd (.bin .eql (.t 26) (.t 28)),none⟩::
  []
def F44.r9 : List ROper :=
 ⟨some 3,.rd (.mv (.c (.bool true))),none⟩::
  []
def F44.c25 : RCode := .seq (.reg F44.r9) (.exit 0)
def F44.c24 : RCode := .cond (.t 29) F44.c25 .skip
def F44.c23 : RCode := .seq (.reg F44.r8) F44.c24
def F44.c22 : RCode := .seq (.reg F44.r7) F44.c23
def F44.c21 : RCode := .block 3 F44.c22
def F44.r10 : List ROper :=
 ⟨some 30,.rd (.bin .add (.t 21) (.c (.int .i64 1))),none⟩::
 ⟨some 21,.rd (.mv (.t 30)),none⟩::
  []
def F44.c20 : RCode := .seq F44.c21 (.reg F44.r10)
def F44.c18 : RCode := .seq F44.c19 F44.c20
def F44.c17 : RCode := .seq (.reg F44.r6) F44.c18
def F44.c16 : RCode := .loop F44.c17
def F44.c15 : RCode := .block 2 F44.c16
def F44.c14 : RCode := .seq (.reg F44.r5) F44.c15
def F44.c13 : RCode := .seq (.reg F44.r4) F44.c14
def F44.c12 : RCode := .block 1 F44.c13
def F44.r11 : List ROper :=
 ⟨some 31,.rd (.bin .add (.t 11) (.c (.int .i64 1))),none⟩::
 ⟨some 11,.rd (.mv (.t 31)),none⟩::
  []
def F44.c11 : RCode := .seq F44.c12 (.reg F44.r11)
def F44.c9 : RCode := .seq F44.c10 F44.c11
def F44.c8 : RCode := .seq (.reg F44.r3) F44.c9
def F44.c7 : RCode := .loop F44.c8
def F44.c6 : RCode := .block 0 F44.c7
def F44.c5 : RCode := .seq (.reg F44.r2) F44.c6
def F44.r12 : List ROper :=
 ⟨some 32,.rd (.mv (.t 3)),none⟩::
 ⟨some 2,.rd (.mv (.t 32)),none⟩::
  []
def F44.c26 : RCode := .seq (.reg F44.r12) .ret
def F44.c4 : RCode := .seq F44.c5 F44.c26
def F44.c3 : RCode := .seq .skip F44.c4
def F44.c2 : RCode := .seq (.reg F44.r1) F44.c3
def F44.c1 : RCode := .scope F44.c2
def F44.c0 : RCode := .seq (.reg F44.r0) F44.c1
theorem F44.calls {args : List AV} {h : AHeap} {K : AV → AHeap → Prop} (hn : args.length ≤ 33) (k : wT .go Go.Proofs.Try.prog 33 F44.c0 (fun x e h t => atEndT t [.tmp 2] (EndW K) x e h) (envOf 0 args) h) : ACalls Go.Proofs.Try.prog 44 args h K :=
  acallsT [1] [5,7] 33 Go.Proofs.Try.func44 Go.Proofs.Try.ntmps44 (by kernel_rfl) (by kernel_rfl) hn k
/-- (*pantograph/check.checker).fail -/
def F45.r0 : List ROper :=
 ⟨some 4,.rd (.mv (.t 0)),none⟩::
 ⟨some 5,.rd (.nilc (.t 4)),none⟩::
 ⟨some 6,.rd (.fa 2 (.t 5)),none⟩::
 ⟨some 7,.rd (.load none (.t 6)),none⟩::
 ⟨some 8,.rd (.bin .eql (.t 7) (.c (.int .i64 0))),none⟩::
  []
def F45.r1 : List ROper :=
 ⟨some 9,.rd (.mv (.t 0)),none⟩::
 ⟨some 10,.rd (.mv (.t 1)),none⟩::
 ⟨some 11,.rd (.nilc (.t 9)),none⟩::
 ⟨some 12,.rd (.fa 2 (.t 11)),none⟩::
 ⟨none,.ef (.store 1 (.t 12) (.t 10)),none⟩::
  []
def F45.c1 : RCode := .cond (.t 8) (.reg F45.r1) .skip
def F45.c0 : RCode := .seq (.reg F45.r0) F45.c1
theorem F45.calls {args : List AV} {h : AHeap} {K : AV → AHeap → Prop} (hn : args.length ≤ 13) (k : wT .go Go.Proofs.Try.prog 13 F45.c0 (fun x e h t => atEndT t [] (EndW K) x e h) (envOf 0 args) h) : ACalls Go.Proofs.Try.prog 45 args h K :=
  acallsT [] [] 13 Go.Proofs.Try.func45 Go.Proofs.Try.ntmps45 (by kernel_rfl) (by kernel_rfl) hn k
/-- (*pantograph/check.checker).variables -/
def F46.r0 : List ROper :=
 ⟨some 8,.rd (.mv (.t 1)),none⟩::
 ⟨some 9,.rd (.len 1 (.t 8)),none⟩::
 ⟨some 10,.rd (.mv (.c (.int .i64 0))),none⟩::
  []
def F46.r1 : List ROper :=
 ⟨some 11,.rd (.bin .lss (.t 10) (.t 9)),none⟩::
  []
def F46.c5 : RCode := .cond (.t 11) .skip (.exit 0)
def F46.r2 : List ROper :=
 ⟨some 12,.rd (.ia 6 (.t 8) (.t 10)),none⟩::
 ⟨some 13,.rd (.load (some 6) (.t 12)),none⟩::
 ⟨some 7,.rd (.bx (some 6) (.t 13)),none⟩::
  []
def F46.r3 : List ROper :=
 ⟨some 14,.rd (.mv (.t 0)),none⟩::
 ⟨some 15,.ef (.call 42 [(.t 14)]),none⟩::
 ⟨some 16,.rd (.un .not (.t 15)),none⟩::
  []
def F46.c11 : RCode := .cond (.t 16) .ret .skip
def F46.c10 : RCode := .seq (.reg F46.r3) F46.c11
def F46.r4 : List ROper :=
 ⟨some 17,.rd (.mv (.t 2)),none⟩::
 ⟨some 18,.rd (.mkF (.func 74) [] [(.t 7)]),none⟩::
 ⟨some 19,.ef (.call 73 [(.t 17),(.t 18)]),none⟩::
  []
def F46.r5 : List ROper :=
 ⟨some 20,.rd (.mv (.t 0)),none⟩::
 ⟨some 21,.ef (.call 45 [(.t 20),(.c (.int .i64 12))]),none⟩::
  []
def F46.c14 : RCode := .cond (.t 19) (.reg F46.r5) .skip
def F46.c13 : RCode := .seq (.reg F46.r4) F46.c14
def F46.r6 : List ROper :=
 ⟨some 22,.rd (.mv (.t 0)),none⟩::
 ⟨some 23,.rd (.fa 2 (.t 7)),none⟩::
 ⟨some 24,.rd (.load none (.t 23)),none⟩::
 ⟨some 25,.rd (.fa 3 (.t 7)),none⟩::
 ⟨some 26,.rd (.load (some 3) (.t 25)),none⟩::
 ⟨some 27,.rd (.build [(.int .i64 0),(.ptr none),(.ptr none),(.int .i64 0),(.int .i64 0),(.str (⟨#[]⟩ : ByteArray))] [(3,3,(.t 26))]),none⟩::
 ⟨some 28,.ef (.call 43 [(.t 22),(.t 24),(.t 27)]),none⟩::
  []
def F46.r7 : List ROper :=
 ⟨some 29,.rd (.mv (.t 0)),none⟩::
 ⟨some 30,.rd (.fa 3 (.t 7)),none⟩::
 ⟨some 31,.rd (.load (some 3) (.t 30)),none⟩::
 ⟨some 32,.ef (.call 75 [(.t 29),(.t 31)]),none⟩::
  []
def F46.c15 : RCode := .seq (.reg F46.r6) (.reg F46.r7)
def F46.c12 : RCode := .seq F46.c13 F46.c15
def F46.c9 : RCode := .seq F46.c10 F46.c12
def F46.c8 : RCode := .seq (.reg F46.r2) F46.c9
def F46.c7 : RCode := .block 1 F46.c8
def F46.r8 : List ROper :=
 ⟨some 33,.rd (.bin .add (.t 10) (.c (.int .i64 1))),none⟩::
 ⟨some 10,.rd (.mv (.t 33)),none⟩::
  []
def F46.c6 : RCode := .seq F46.c7 (.reg F46.r8)
def F46.c4 : RCode := .seq F46.c5 F46.c6
def F46.c3 : RCode := .seq (.reg F46.r1) F46.c4
def F46.c2 : RCode := .loop F46.c3
def F46.c1 : RCode := .block 0 F46.c2
def F46.c0 : RCode := .seq (.reg F46.r0) F46.c1
theorem F46.calls {args : List AV} {h : AHeap} {K : AV → AHeap → Prop} (hn : args.length ≤ 34) (k : wT .go Go.Proofs.Try.prog 34 F46.c0 (fun x e h t => atEndT t [] (EndW K) x e h) (envOf 0 args) h) : ACalls Go.Proofs.Try.prog 46 args h K :=
  acallsT [] [7] 34 Go.Proofs.Try.func46 Go.Proofs.Try.ntmps46 (by kernel_rfl) (by kernel_rfl) hn k
/-- (*pantograph/check.checker).variables$1 -/
def F74.r0 : List ROper :=
 ⟨some 2,.rd (.bx none (.t 0)),none⟩::
 ⟨some 3,.rd (.mv (.c (.bool false))),none⟩::
  []
def F74.r1 : List ROper :=
 ⟨some 4,.rd (.fa 2 (.t 2)),none⟩::
 ⟨some 5,.rd (.load none (.t 4)),none⟩::
 ⟨some 6,.rd (.fa 2 (.t 1)),none⟩::
 ⟨some 7,.rd (.load none (.t 6)),none⟩::
 ⟨some 8,.rd (.bin .eql (.t 5) (.t 7)),none⟩::
 ⟨some 3,.rd (.mv (.t 8)),none⟩::
  []
def F74.c1 : RCode := .seq (.reg F74.r1) .ret
def F74.c0 : RCode := .seq (.reg F74.r0) F74.c1
theorem F74.calls {args : List AV} {h : AHeap} {K : AV → AHeap → Prop} (hn : args.length ≤ 9) (k : wT .go Go.Proofs.Try.prog 9 F74.c0 (fun x e h t => atEndT t [.tmp 3] (EndW K) x e h) (envOf 0 args) h) : ACalls Go.Proofs.Try.prog 74 args h K :=
  acallsT [2] [] 9 Go.Proofs.Try.func74 Go.Proofs.Try.ntmps74 (by kernel_rfl) (by kernel_rfl) hn k
/-- (*pantograph/check.checker).routines -/
def F47.r0 : List ROper :=
 ⟨some 10,.rd (.mv (.t 0)),none⟩::
 ⟨some 11,.rd (.nilc (.t 10)),none⟩::
 ⟨some 12,.rd (.fa 0 (.t 11)),none⟩::
 ⟨some 13,.rd (.load none (.t 12)),none⟩::
 ⟨some 4,.rd (.mv (.t 13)),none⟩::
  []
def F47.r1 : List ROper :=
 ⟨some 14,.rd (.mv (.t 0)),none⟩::
 ⟨some 15,.rd (.mv (.t 4)),none⟩::
 ⟨some 16,.ef (.call 41 [(.t 15)]),none⟩::
 ⟨some 17,.rd (.nilc (.t 14)),none⟩::
 ⟨some 18,.rd (.fa 0 (.t 17)),none⟩::
 ⟨none,.ef (.store 1 (.t 18) (.t 16)),none⟩::
  []
def F47.r2 : List ROper :=
 ⟨some 19,.rd (.mv (.t 1)),none⟩::
 ⟨some 20,.rd (.len 1 (.t 19)),none⟩::
 ⟨some 21,.rd (.mv (.c (.int .i64 0))),none⟩::
  []
def F47.r3 : List ROper :=
 ⟨some 22,.rd (.bin .lss (.t 21) (.t 20)),none⟩::
  []
def F47.c8 : RCode := .cond (.t 22) .skip (.exit 0)
def F47.r4 : List ROper :=
 ⟨some 23,.rd (.mv (.t 21)),none⟩::
 ⟨some 5,.rd (.mv (.t 23)),none⟩::
  []
def F47.r5 : List ROper :=
 ⟨some 24,.rd (.mv (.t 0)),none⟩::
 ⟨some 25,.rd (.nilc (.t 24)),none⟩::
 ⟨some 26,.rd (.fa 0 (.t 25)),none⟩::
 ⟨some 27,.rd (.load none (.t 26)),none⟩::
 ⟨some 28,.rd (.nilc (.t 27)),none⟩::
 ⟨some 29,.rd (.fa 1 (.t 28)),none⟩::
 ⟨some 30,.rd (.load none (.t 29)),none⟩::
 ⟨some 31,.rd (.mv (.t 1)),none⟩::
 ⟨some 32,.rd (.mv (.t 5)),none⟩::
 ⟨some 33,.rd (.ia 9 (.t 31) (.t 32)),none⟩::
 ⟨some 34,.rd (.fa 2 (.t 33)),none⟩::
 ⟨some 35,.rd (.load none (.t 34)),none⟩::
 ⟨some 36,.rd (.mv (.t 1)),none⟩::
 ⟨some 37,.rd (.mv (.t 5)),none⟩::
 ⟨some 38,.rd (.ia 9 (.t 36) (.t 37)),none⟩::
 ⟨some 39,.rd (.build [(.int .i64 0),(.ptr none),(.ptr none),(.int .i64 0),(.int .i64 0),(.str (⟨#[]⟩ : ByteArray))] [(0,1,(.c (.int .i64 2))),(2,1,(.t 38))]),none⟩::
 ⟨none,.ef (.mapup [2] (.t 30) (.t 35) (.t 39)),none⟩::
  []
def F47.c11 : RCode := .seq (.reg F47.r4) (.dreg F47.r5)
def F47.c10 : RCode := .block 1 F47.c11
def F47.r6 : List ROper :=
 ⟨some 40,.rd (.bin .add (.t 21) (.c (.int .i64 1))),none⟩::
 ⟨some 21,.rd (.mv (.t 40)),none⟩::
  []
def F47.c9 : RCode := .seq F47.c10 (.reg F47.r6)
def F47.c7 : RCode := .seq F47.c8 F47.c9
def F47.c6 : RCode := .seq (.reg F47.r3) F47.c7
def F47.c5 : RCode := .loop F47.c6
def F47.c4 : RCode := .block 0 F47.c5
def F47.c3 : RCode := .seq (.reg F47.r2) F47.c4
def F47.r7 : List ROper :=
 ⟨some 41,.rd (.mv (.t 0)),none⟩::
 ⟨some 42,.rd (.nilc (.t 41)),none⟩::
 ⟨some 43,.rd (.fa 0 (.t 42)),none⟩::
 ⟨some 44,.rd (.load none (.t 43)),none⟩::
 ⟨some 6,.rd (.mv (.t 44)),none⟩::
  []
def F47.r8 : List ROper :=
 ⟨some 45,.rd (.mv (.t 1)),none⟩::
 ⟨some 46,.rd (.len 1 (.t 45)),none⟩::
 ⟨some 47,.rd (.mv (.c (.int .i64 0))),none⟩::
  []
def F47.r9 : List ROper :=
 ⟨some 48,.rd (.bin .lss (.t 47) (.t 46)),none⟩::
  []
def F47.c18 : RCode := .cond (.t 48) .skip (.exit 2)
def F47.r10 : List ROper :=
 ⟨some 49,.rd (.mv (.t 47)),none⟩::
 ⟨some 7,.rd (.mv (.t 49)),none⟩::
  []
def F47.r11 : List ROper :=
 ⟨some 50,.rd (.mv (.t 0)),none⟩::
 ⟨some 51,.ef (.call 42 [(.t 50)]),none⟩::
 ⟨some 52,.rd (.un .not (.t 51)),none⟩::
  []
def F47.c24 : RCode := .cond (.t 52) .ret .skip
def F47.c23 : RCode := .seq (.reg F47.r11) F47.c24
def F47.r12 : List ROper :=
 ⟨some 54,.rd (.mv (.t 4)),none⟩::
 ⟨some 55,.rd (.mv (.t 1)),none⟩::
 ⟨some 56,.rd (.mv (.t 7)),none⟩::
 ⟨some 57,.rd (.ia 9 (.t 55) (.t 56)),none⟩::
 ⟨some 58,.rd (.fa 2 (.t 57)),none⟩::
 ⟨some 59,.rd (.load none (.t 58)),none⟩::
 ⟨some 60,.ef (.call 72 [(.t 54),(.t 59)]),none⟩::
 ⟨some 53,.rd (.mv (.t 60)),none⟩::
 ⟨some 61,.rd (.ext (.t 53) 0),none⟩::
 ⟨some 62,.rd (.ext (.t 53) 1),none⟩::
 ⟨some 8,.rd (.bx (some 6) (.t 61)),none⟩::
 ⟨some 9,.rd (.mv (.t 62)),none⟩::
  []
def F47.r13 : List ROper :=
 ⟨some 63,.rd (.mv (.t 9)),none⟩::
  []
def F47.r14 : List ROper :=
 ⟨some 64,.rd (.mv (.t 0)),none⟩::
 ⟨some 65,.ef (.call 45 [(.t 64),(.c (.int .i64 12))]),none⟩::
  []
def F47.c28 : RCode := .cond (.t 63) (.reg F47.r14) .skip
def F47.c27 : RCode := .seq (.reg F47.r13) F47.c28
def F47.c26 : RCode := .seq (.reg F47.r12) F47.c27
def F47.r15 : List ROper :=
 ⟨some 66,.rd (.mv (.t 0)),none⟩::
 ⟨some 67,.rd (.mv (.t 6)),none⟩::
 ⟨some 68,.ef (.call 41 [(.t 67)]),none⟩::
 ⟨some 69,.rd (.nilc (.t 66)),none⟩::
 ⟨some 70,.rd (.fa 0 (.t 69)),none⟩::
 ⟨none,.ef (.store 1 (.t 70) (.t 68)),none⟩::
  []
def F47.r16 : List ROper :=
 ⟨some 71,.rd (.mv (.t 0)),none⟩::
 ⟨some 72,.rd (.mv (.t 1)),none⟩::
 ⟨some 73,.rd (.mv (.t 7)),none⟩::
 ⟨some 74,.rd (.ia 9 (.t 72) (.t 73)),none⟩::
 ⟨some 75,.ef (.call 76 [(.t 71),(.t 74)]),none⟩::
  []
def F47.r17 : List ROper :=
 ⟨some 76,.rd (.mv (.t 0)),none⟩::
 ⟨some 77,.rd (.mv (.t 6)),none⟩::
 ⟨some 78,.rd (.nilc (.t 76)),none⟩::
 ⟨some 79,.rd (.fa 0 (.t 78)),none⟩::
 ⟨none,.ef (.store 1 (.t 79) (.t 77)),none⟩::
  []
def F47.c30 : RCode := .seq (.reg F47.r16) (.reg F47.r17)
def F47.c29 : RCode := .seq (.reg F47.r15) F47.c30
def F47.c25 : RCode := .seq F47.c26 F47.c29
def F47.c22 : RCode := .seq F47.c23 F47.c25
def F47.c21 : RCode := .seq (.reg F47.r10) F47.c22
def F47.c20 : RCode := .block 3 F47.c21
def F47.r18 : List ROper :=
 ⟨some 80,.rd (.bin .add (.t 47) (.c (.int .i64 1))),none⟩::
 ⟨some 47,.rd (.mv (.t 80)),none⟩::
  []
def F47.c19 : RCode := .seq F47.c20 (.reg F47.r18)
def F47.c17 : RCode := .seq F47.c18 F47.c19
def F47.c16 : RCode := .seq (.reg F47.r9) F47.c17
def F47.c15 : RCode := .loop F47.c16
def F47.c14 : RCode := .block 2 F47.c15
def F47.c13 : RCode := .seq (.reg F47.r8) F47.c14
def F47.c12 : RCode := .seq (.reg F47.r7) F47.c13
def F47.c2 : RCode := .seq F47.c3 F47.c12
def F47.c1 : RCode := .seq (.reg F47.r1) F47.c2
def F47.c0 : RCode := .seq (.reg F47.r0) F47.c1
theorem F47.calls {args : List AV} {h : AHeap} {K : AV → AHeap → Prop} (hn : args.length ≤ 81) (k : wT .go Go.Proofs.Try.prog 81 F47.c0 (fun x e h t => atEndT t [] (EndW K) x e h) (envOf 0 args) h) : ACalls Go.Proofs.Try.prog 47 args h K :=
  acallsT [] [8] 81 Go.Proofs.Try.func47 Go.Proofs.Try.ntmps47 (by kernel_rfl) (by kernel_rfl) hn k
/-- (*pantograph/check.checker).stmts -/
def F48.r0 : List ROper :=
 ⟨some 6,.rd (.mv (.t 1)),none⟩::
 ⟨some 7,.rd (.len 1 (.t 6)),none⟩::
 ⟨some 8,.rd (.mv (.c (.int .i64 0))),none⟩::
  []
def F48.r1 : List ROper :=
 ⟨some 9,.rd (.bin .lss (.t 8) (.t 7)),none⟩::
  []
def F48.c5 : RCode := .cond (.t 9) .skip (.exit 0)
def F48.r2 : List ROper :=
 ⟨some 10,.rd (.ia 16 (.t 6) (.t 8)),none⟩::
 ⟨some 11,.rd (.load (some 16) (.t 10)),none⟩::
 ⟨some 5,.rd (.bx (some 16) (.t 11)),none⟩::
  []
def F48.r3 : List ROper :=
 ⟨some 12,.rd (.mv (.t 0)),none⟩::
 ⟨some 13,.ef (.call 42 [(.t 12)]),none⟩::
 ⟨some 14,.rd (.un .not (.t 13)),none⟩::
  []
def F48.c11 : RCode := .cond (.t 14) .ret .skip
def F48.c10 : RCode := .seq (.reg F48.r3) F48.c11
def F48.r4 : List ROper :=
 ⟨some 15,.rd (.mv (.t 0)),none⟩::
 ⟨some 16,.rd (.load (some 16) (.t 5)),none⟩::
 ⟨some 17,.ef (.call 77 [(.t 15),(.t 16)]),none⟩::
  []
def F48.r5 : List ROper :=
 ⟨some 18,.rd (.mv (.t 0)),none⟩::
 ⟨some 19,.rd (.fa 12 (.t 5)),none⟩::
 ⟨some 20,.rd (.load none (.t 19)),none⟩::
 ⟨some 21,.ef (.call 48 [(.t 18),(.t 20)]),none⟩::
  []
def F48.r6 : List ROper :=
 ⟨some 22,.rd (.mv (.t 0)),none⟩::
 ⟨some 23,.rd (.fa 13 (.t 5)),none⟩::
 ⟨some 24,.rd (.load none (.t 23)),none⟩::
 ⟨some 25,.ef (.call 48 [(.t 22),(.t 24)]),none⟩::
  []
def F48.c13 : RCode := .seq (.reg F48.r5) (.reg F48.r6)
def F48.c12 : RCode := .seq (.reg F48.r4) F48.c13
def F48.c9 : RCode := .seq F48.c10 F48.c12
def F48.c8 : RCode := .seq (.reg F48.r2) F48.c9
def F48.c7 : RCode := .block 1 F48.c8
def F48.r7 : List ROper :=
 ⟨some 26,.rd (.bin .add (.t 8) (.c (.int .i64 1))),none⟩::
 ⟨some 8,.rd (.mv (.t 26)),none⟩::
  []
def F48.c6 : RCode := .seq F48.c7 (.reg F48.r7)
def F48.c4 : RCode := .seq F48.c5 F48.c6
def F48.c3 : RCode := .seq (.reg F48.r1) F48.c4
def F48.c2 : RCode := .loop F48.c3
def F48.c1 : RCode := .block 0 F48.c2
def F48.c0 : RCode := .seq (.reg F48.r0) F48.c1
theorem F48.calls {args : List AV} {h : AHeap} {K : AV → AHeap → Prop} (hn : args.length ≤ 27) (k : wT .go Go.Proofs.Try.prog 27 F48.c0 (fun x e h t => atEndT t [] (EndW K) x e h) (envOf 0 args) h) : ACalls Go.Proofs.Try.prog 48 args h K :=
  acallsT [] [5] 27 Go.Proofs.Try.func48 Go.Proofs.Try.ntmps48 (by kernel_rfl) (by kernel_rfl) hn k
/-- (*pantograph/check.scope).find -/
def F72.r0 : List ROper :=
 ⟨some 4,.ef (.alloc 95 [(.int .i64 0),(.ptr none),(.ptr none),(.int .i64 0),(.int .i64 0),(.str (⟨#[]⟩ : ByteArray))]),none⟩::
 ⟨some 5,.rd (.mv (.c (.bool false))),none⟩::
  []
def F72.r1 : List ROper :=
 ⟨some 9,.rd (.mv (.t 0)),none⟩::
 ⟨some 6,.rd (.mv (.t 9)),none⟩::
  []
def F72.r2 : List ROper :=
 ⟨some 10,.rd (.mv (.t 6)),none⟩::
 ⟨some 11,.rd (.peq true (.t 10) (.c (.ptr none))),none⟩::
  []
def F72.c7 : RCode := .cond (.t 11) .skip (.exit 0)
def F72.c6 : RCode := .seq (.reg F72.r2) F72.c7
def F72.r3 : List ROper :=
 ⟨some 17,.rd (.mv (.t 6)),none⟩::
 ⟨some 18,.rd (.nilc (.t 17)),none⟩::
 ⟨some 19,.rd (.fa 1 (.t 18)),none⟩::
 ⟨some 20,.rd (.load none (.t 19)),none⟩::
 ⟨some 21,.rd (.mv (.t 1)),none⟩::
 ⟨some 22,.rd (.lookup [2] (.agg [(.int .i64 0),(.ptr none),(.ptr none),(.int .i64 0),(.int .i64 0),(.str (⟨#[]⟩ : ByteArray))]) true (.t 20) (.t 21)),none⟩::
 ⟨some 16,.rd (.mv (.t 22)),none⟩::
 ⟨some 23,.rd (.ext (.t 16) 0),none⟩::
 ⟨some 24,.rd (.ext (.t 16) 1),none⟩::
 ⟨some 7,.rd (.bx (some 6) (.t 23)),none⟩::
 ⟨some 8,.rd (.mv (.t 24)),none⟩::
  []
def F72.r4 : List ROper :=
 ⟨some 25,.rd (.mv (.t 8)),none⟩::
  []
def F72.r5 : List ROper :=
 ⟨some 26,.rd (.load (some 6) (.t 7)),none⟩::
 ⟨none,.ef (.store 6 (.t 4) (.t 26)),none⟩::
 ⟨some 5,.rd (.mv (.c (.bool true))),none⟩::
  []
def F72.c13 : RCode := .seq (.reg F72.r5) .ret
def F72.c12 : RCode := .cond (.t 25) F72.c13 .skip
def F72.c11 : RCode := .seq (.reg F72.r4) F72.c12
def F72.c10 : RCode := .seq (.reg F72.r3) F72.c11
def F72.c9 : RCode := .block 1 F72.c10
def F72.r6 : List ROper :=
 ⟨some 12,.rd (.mv (.t 6)),none⟩::
 ⟨some 13,.rd (.nilc (.t 12)),none⟩::
 ⟨some 14,.rd (.fa 0 (.t 13)),none⟩::
 ⟨some 15,.rd (.load none (.t 14)),none⟩::
 ⟨some 6,.rd (.mv (.t 15)),none⟩::
  []
def F72.c8 : RCode := .seq F72.c9 (.reg F72.r6)
def F72.c5 : RCode := .seq F72.c6 F72.c8
def F72.c4 : RCode := .loop F72.c5
def F72.c3 : RCode := .block 0 F72.c4
def F72.c2 : RCode := .seq (.reg F72.r1) F72.c3
def F72.r7 : List ROper :=
 ⟨some 27,.rd (.build [(.int .i64 0),(.ptr none),(.ptr none),(.int .i64 0),(.int .i64 0),(.str (⟨#[]⟩ : ByteArray))] []),none⟩::
 ⟨none,.ef (.store 6 (.t 4) (.t 27)),none⟩::
 ⟨some 5,.rd (.mv (.c (.bool false))),none⟩::
  []
def F72.c14 : RCode := .seq (.reg F72.r7) .ret
def F72.c1 : RCode := .seq F72.c2 F72.c14
def F72.c0 : RCode := .seq (.reg F72.r0) F72.c1
theorem F72.calls {args : List AV} {h : AHeap} {K : AV → AHeap → Prop} (hn : args.length ≤ 28) (k : wT .go Go.Proofs.Try.prog 28 F72.c0 (fun x e h t => atEndT t [.cell 4 (some 6),.tmp 5] (EndW K) x e h) (envOf 0 args) h) : ACalls Go.Proofs.Try.prog 72 args h K :=
  acallsT [] [7] 28 Go.Proofs.Try.func72 Go.Proofs.Try.ntmps72 (by kernel_rfl) (by kernel_rfl) hn k
/-- slices.ContainsFunc[[]pantograph/api.Routine,pantograph/api.Routine] -/
def F73.r0 : List ROper :=
 ⟨some 4,.rd (.mv (.c (.bool false))),none⟩::
  []
def F73.r1 : List ROper :=
 ⟨some 5,.rd (.mv (.t 0)),none⟩::
 ⟨some 6,.rd (.mv (.t 1)),none⟩::
 ⟨some 7,.ef (.call 90 [(.t 5),(.t 6)]),none⟩::
 ⟨some 8,.rd (.bin .geq (.t 7) (.c (.int .i64 0))),none⟩::
 ⟨some 4,.rd (.mv (.t 8)),none⟩::
  []
def F73.c1 : RCode := .seq (.reg F73.r1) .ret
def F73.c0 : RCode := .seq (.reg F73.r0) F73.c1
theorem F73.calls {args : List AV} {h : AHeap} {K : AV → AHeap → Prop} (hn : args.length ≤ 9) (k : wT .go Go.Proofs.Try.prog 9 F73.c0 (fun x e h t => atEndT t [.tmp 4] (EndW K) x e h) (envOf 0 args) h) : ACalls Go.Proofs.Try.prog 73 args h K :=
  acallsT [] [] 9 Go.Proofs.Try.func73 Go.Proofs.Try.ntmps73 (by kernel_rfl) (by kernel_rfl) hn k
/-- slices.IndexFunc[[]pantograph/api.Routine,pantograph/api.Routine] -/
def F90.r0 : List ROper :=
 ⟨some 4,.rd (.mv (.c (.int .i64 0))),none⟩::
  []
def F90.r1 : List ROper :=
 ⟨some 6,.rd (.mv (.t 0)),none⟩::
 ⟨some 7,.rd (.len 1 (.t 6)),none⟩::
 ⟨some 8,.rd (.mv (.c (.int .i64 0))),none⟩::
  []
def F90.r2 : List ROper :=
 ⟨some 9,.rd (.bin .lss (.t 8) (.t 7)),none⟩::
  []
def F90.c7 : RCode := .cond (.t 9) .skip (.exit 0)
def F90.r3 : List ROper :=
 ⟨some 10,.rd (.mv (.t 8)),none⟩::
 ⟨some 5,.rd (.mv (.t 10)),none⟩::
  []
def F90.r4 : List ROper :=
 ⟨some 11,.rd (.mv (.t 1)),none⟩::
 ⟨some 12,.rd (.mv (.t 0)),none⟩::
 ⟨some 13,.rd (.mv (.t 5)),none⟩::
 ⟨some 14,.rd (.ia 9 (.t 12) (.t 13)),none⟩::
 ⟨some 15,.rd (.load (some 9) (.t 14)),none⟩::
 ⟨some 16,.ef (.callv (.t 11) [(.t 15)]),none⟩::
  []
def F90.r5 : List ROper :=
 ⟨some 17,.rd (.mv (.t 5)),none⟩::
 ⟨some 4,.rd (.mv (.t 17)),none⟩::
  []
def F90.c13 : RCode := .seq (.reg F90.r5) .ret
def F90.c12 : RCode := .cond (.t 16) F90.c13 .skip
def F90.c11 : RCode := .seq (.reg F90.r4) F90.c12
def F90.c10 : RCode := .seq (.reg F90.r3) F90.c11
def F90.c9 : RCode := .block 1 F90.c10
def F90.r6 : List ROper :=
 ⟨some 18,.rd (.bin .add (.t 8) (.c (.int .i64 1))),none⟩::
 ⟨some 8,.rd (.mv (.t 18)),none⟩::
  []
def F90.c8 : RCode := .seq F90.c9 (.reg F90.r6)
def F90.c6 : RCode := .seq F90.c7 F90.c8
def F90.c5 : RCode := .seq (.reg F90.r2) F90.c6
def F90.c4 : RCode := .loop F90.c5
def F90.c3 : RCode := .block 0 F90.c4
def F90.c2 : RCode := .seq (.reg F90.r1) F90.c3
def F90.r7 : List ROper :=
 ⟨some 4,.rd (.mv (.c (.int .i64 (-1)))),none⟩::
  []
def F90.c14 : RCode := .seq (.reg F90.r7) .ret
def F90.c1 : RCode := .seq F90.c2 F90.c14
def F90.c0 : RCode := .seq (.reg F90.r0) F90.c1
theorem F90.calls {args : List AV} {h : AHeap} {K : AV → AHeap → Prop} (hn : args.length ≤ 19) (k : wT .go Go.Proofs.Try.prog 19 F90.c0 (fun x e h t => atEndT t [.tmp 4] (EndW K) x e h) (envOf 0 args) h) : ACalls Go.Proofs.Try.prog 90 args h K :=
  acallsT [] [] 19 Go.Proofs.Try.func90 Go.Proofs.Try.ntmps90 (by kernel_rfl) (by kernel_rfl) hn k
/-- (*pantograph/check.checker).typ -/
def F75.r0 : List ROper :=
 ⟨some 3,.rd (.bx none (.t 1)),none⟩::
  []
def F75.r1 : List ROper :=
 ⟨some 6,.rd (.fa 0 (.t 3)),none⟩::
 ⟨some 7,.rd (.load none (.t 6)),none⟩::
 ⟨some 8,.rd (.bin .neq (.t 7) (.c (.int .i64 4))),none⟩::
  []
def F75.c3 : RCode := .cond (.t 8) .ret .skip
def F75.c2 : RCode := .seq (.reg F75.r1) F75.c3
def F75.r2 : List ROper :=
 ⟨some 10,.rd (.mv (.t 0)),none⟩::
 ⟨some 11,.rd (.nilc (.t 10)),none⟩::
 ⟨some 12,.rd (.fa 0 (.t 11)),none⟩::
 ⟨some 13,.rd (.load none (.t 12)),none⟩::
 ⟨some 14,.rd (.fa 2 (.t 3)),none⟩::
 ⟨some 15,.rd (.load none (.t 14)),none⟩::
 ⟨some 16,.ef (.call 72 [(.t 13),(.t 15)]),none⟩::
 ⟨some 9,.rd (.mv (.t 16)),none⟩::
 ⟨some 17,.rd (.ext (.t 9) 0),none⟩::
 ⟨some 18,.rd (.ext (.t 9) 1),none⟩::
 ⟨some 4,.ef (.alloc 95 [(.int .i64 0),(.ptr none),(.ptr none),(.int .i64 0),(.int .i64 0),(.str (⟨#[]⟩ : ByteArray))]),none⟩::
 ⟨none,.ef (.store 6 (.t 4) (.t 17)),none⟩::
 ⟨some 5,.rd (.mv (.t 18)),none⟩::
  []
def F75.c5 : RCode := .frz (.dreg F75.r2) [4]
def F75.r3 : List ROper :=
 ⟨some 19,.rd (.mv (.t 5)),none⟩::
 ⟨some 20,.rd (.un .not (.t 19)),none⟩::
 ⟨some 21,.rd (.mv (.t 20)),none⟩::
 ⟨some 22,.rd (.fa 0 (.t 4)),some (21,false)⟩::
 ⟨some 23,.rd (.load none (.t 22)),some (21,false)⟩::
 ⟨some 24,.rd (.bin .neq (.t 23) (.c (.int .i64 1))),some (21,false)⟩::
 ⟨some 25,.rd (.pick (.t 21) (.c (.bool true)) (.t 24)),none⟩::
  []
def F75.r4 : List ROper :=
 ⟨some 26,.rd (.mv (.t 0)),none⟩::
 ⟨some 27,.ef (.call 45 [(.t 26),(.c (.int .i64 13))]),none⟩::
  []
def F75.c7 : RCode := .cond (.t 25) (.reg F75.r4) .skip
def F75.c6 : RCode := .seq (.reg F75.r3) F75.c7
def F75.c4 : RCode := .seq F75.c5 F75.c6
def F75.c1 : RCode := .seq F75.c2 F75.c4
def F75.c0 : RCode := .seq (.reg F75.r0) F75.c1
theorem F75.calls {args : List AV} {h : AHeap} {K : AV → AHeap → Prop} (hn : args.length ≤ 28) (k : wT .go Go.Proofs.Try.prog 28 F75.c0 (fun x e h t => atEndT t [] (EndW K) x e h) (envOf 0 args) h) : ACalls Go.Proofs.Try.prog 75 args h K :=
  acallsT [3] [4] 28 Go.Proofs.Try.func75 Go.Proofs.Try.ntmps75 (by kernel_rfl) (by kernel_rfl) hn k
/-- (*pantograph/check.checker).routine -/
def F76.r0 : List ROper :=
 ⟨some 7,.rd (.mv (.t 1)),none⟩::
 ⟨some 8,.rd (.nilc (.t 7)),none⟩::
 ⟨some 9,.rd (.fa 4 (.t 8)),none⟩::
 ⟨some 10,.rd (.load none (.t 9)),none⟩::
 ⟨some 11,.rd (.len 1 (.t 10)),none⟩::
 ⟨some 12,.rd (.mv (.c (.int .i64 0))),none⟩::
  []
def F76.r1 : List ROper :=
 ⟨some 13,.rd (.bin .lss (.t 12) (.t 11)),none⟩::
  []
def F76.c6 : RCode := .cond (.t 13) .skip (.exit 0)
def F76.r2 : List ROper :=
 ⟨some 14,.rd (.ia 5 (.t 10) (.t 12)),none⟩::
 ⟨some 15,.rd (.load (some 5) (.t 14)),none⟩::
 ⟨some 5,.rd (.bx (some 5) (.t 15)),none⟩::
  []
def F76.r3 : List ROper :=
 ⟨some 16,.rd (.mv (.t 0)),none⟩::
 ⟨some 17,.rd (.fa 0 (.t 5)),none⟩::
 ⟨some 18,.rd (.load none (.t 17)),none⟩::
 ⟨some 19,.rd (.fa 1 (.t 5)),none⟩::
 ⟨some 20,.rd (.load (some 3) (.t 19)),none⟩::
 ⟨some 21,.rd (.build [(.int .i64 0),(.ptr none),(.ptr none),(.int .i64 0),(.int .i64 0),(.str (⟨#[]⟩ : ByteArray))] [(3,3,(.t 20))]),none⟩::
 ⟨some 22,.ef (.call 43 [(.t 16),(.t 18),(.t 21)]),none⟩::
  []
def F76.r4 : List ROper :=
 ⟨some 23,.rd (.mv (.t 0)),none⟩::
 ⟨some 24,.rd (.fa 1 (.t 5)),none⟩::
 ⟨some 25,.rd (.load (some 3) (.t 24)),none⟩::
 ⟨some 26,.ef (.call 75 [(.t 23),(.t 25)]),none⟩::
  []
def F76.c10 : RCode := .seq (.reg F76.r3) (.reg F76.r4)
def F76.c9 : RCode := .seq (.reg F76.r2) F76.c10
def F76.c8 : RCode := .block 1 F76.c9
def F76.r5 : List ROper :=
 ⟨some 27,.rd (.bin .add (.t 12) (.c (.int .i64 1))),none⟩::
 ⟨some 12,.rd (.mv (.t 27)),none⟩::
  []
def F76.c7 : RCode := .seq F76.c8 (.reg F76.r5)
def F76.c5 : RCode := .seq F76.c6 F76.c7
def F76.c4 : RCode := .seq (.reg F76.r1) F76.c5
def F76.c3 : RCode := .loop F76.c4
def F76.c2 : RCode := .block 0 F76.c3
def F76.c1 : RCode := .seq (.reg F76.r0) F76.c2
def F76.r6 : List ROper :=
 ⟨some 28,.rd (.mv (.t 1)),none⟩::
 ⟨some 29,.rd (.nilc (.t 28)),none⟩::
 ⟨some 30,.rd (.fa 3 (.t 29)),none⟩::
 ⟨some 31,.rd (.load none (.t 30)),none⟩::
 ⟨some 32,.rd (.bin .gtr (.t 31) (.c (.int .i64 0))),none⟩::
 ⟨some 33,.rd (.mv (.t 32)),none⟩::
 ⟨some 34,.rd (.mv (.t 1)),some (33,true)⟩::
 ⟨some 35,.rd (.nilc (.t 34)),some (33,true)⟩::
 ⟨some 36,.rd (.fa 7 (.t 35)),some (33,true)⟩::
 ⟨some 37,.rd (.load none (.t 36)),some (33,true)⟩::
 ⟨some 38,.ef (.call 18 [(.t 37)]),some (33,true)⟩::
 ⟨some 39,.rd (.un .not (.t 38)),some (33,true)⟩::
 ⟨some 40,.rd (.pick (.t 33) (.t 39) (.c (.bool false))),none⟩::
  []
def F76.r7 : List ROper :=
 ⟨some 41,.rd (.mv (.t 0)),none⟩::
 ⟨some 42,.ef (.call 45 [(.t 41),(.c (.int .i64 16))]),none⟩::
  []
def F76.c13 : RCode := .cond (.t 40) (.reg F76.r7) .skip
def F76.c12 : RCode := .seq (.reg F76.r6) F76.c13
def F76.r8 : List ROper :=
 ⟨some 43,.rd (.mv (.t 0)),none⟩::
 ⟨some 44,.rd (.mv (.t 1)),none⟩::
 ⟨some 45,.rd (.nilc (.t 44)),none⟩::
 ⟨some 46,.rd (.fa 5 (.t 45)),none⟩::
 ⟨some 47,.rd (.load none (.t 46)),none⟩::
 ⟨some 48,.rd (.mv (.t 1)),none⟩::
 ⟨some 49,.rd (.nilc (.t 48)),none⟩::
 ⟨some 50,.rd (.fa 6 (.t 49)),none⟩::
 ⟨some 51,.rd (.load none (.t 50)),none⟩::
 ⟨some 52,.ef (.call 46 [(.t 43),(.t 47),(.t 51)]),none⟩::
  []
def F76.r9 : List ROper :=
 ⟨some 53,.rd (.mv (.t 0)),none⟩::
 ⟨some 54,.rd (.mv (.t 1)),none⟩::
 ⟨some 55,.rd (.nilc (.t 54)),none⟩::
 ⟨some 56,.rd (.fa 6 (.t 55)),none⟩::
 ⟨some 57,.rd (.load none (.t 56)),none⟩::
 ⟨some 58,.ef (.call 47 [(.t 53),(.t 57)]),none⟩::
  []
def F76.r10 : List ROper :=
 ⟨some 59,.rd (.mv (.t 0)),none⟩::
 ⟨some 60,.rd (.nilc (.t 59)),none⟩::
 ⟨some 61,.rd (.fa 3 (.t 60)),none⟩::
 ⟨some 62,.rd (.load none (.t 61)),none⟩::
 ⟨some 6,.rd (.mv (.t 62)),none⟩::
  []
def F76.r11 : List ROper :=
 ⟨some 63,.rd (.mv (.t 0)),none⟩::
 ⟨some 64,.rd (.mv (.t 1)),none⟩::
 ⟨some 65,.rd (.nilc (.t 63)),none⟩::
 ⟨some 66,.rd (.fa 3 (.t 65)),none⟩::
 ⟨none,.ef (.store 1 (.t 66) (.t 64)),none⟩::
  []
def F76.r12 : List ROper :=
 ⟨some 67,.rd (.mv (.t 0)),none⟩::
 ⟨some 68,.rd (.mv (.t 1)),none⟩::
 ⟨some 69,.rd (.nilc (.t 68)),none⟩::
 ⟨some 70,.rd (.fa 7 (.t 69)),none⟩::
 ⟨some 71,.rd (.load none (.t 70)),none⟩::
 ⟨some 72,.ef (.call 48 [(.t 67),(.t 71)]),none⟩::
  []
def F76.r13 : List ROper :=
 ⟨some 73,.rd (.mv (.t 0)),none⟩::
 ⟨some 74,.rd (.mv (.t 6)),none⟩::
 ⟨some 75,.rd (.nilc (.t 73)),none⟩::
 ⟨some 76,.rd (.fa 3 (.t 75)),none⟩::
 ⟨none,.ef (.store 1 (.t 76) (.t 74)),none⟩::
  []
def F76.c18 : RCode := .seq (.reg F76.r12) (.reg F76.r13)
def F76.c17 : RCode := .seq (.reg F76.r11) F76.c18
def F76.c16 : RCode := .seq (.reg F76.r10) F76.c17
def F76.c15 : RCode := .seq (.reg F76.r9) F76.c16
def F76.c14 : RCode := .seq (.dreg F76.r8) F76.c15
def F76.c11 : RCode := .seq F76.c12 F76.c14
def F76.c0 : RCode := .seq F76.c1 F76.c11
theorem F76.calls {args : List AV} {h : AHeap} {K : AV → AHeap → Prop} (hn : args.length ≤ 77) (k : wT .go Go.Proofs.Try.prog 77 F76.c0 (fun x e h t => atEndT t [] (EndW K) x e h) (envOf 0 args) h) : ACalls Go.Proofs.Try.prog 76 args h K :=
  acallsT [] [5] 77 Go.Proofs.Try.func76 Go.Proofs.Try.ntmps76 (by kernel_rfl) (by kernel_rfl) hn k
/-- (*pantograph/check.checker).stmt -/
def F77.r0 : List ROper :=
 ⟨some 3,.rd (.bx none (.t 1)),none⟩::
  []
def F77.r1 : List ROper :=
 ⟨some 10,.rd (.fa 2 (.t 3)),none⟩::
 ⟨some 11,.rd (.load none (.t 10)),none⟩::
  []
def F77.r2 : List ROper :=
 ⟨some 13,.rd (.bin .eql (.t 11) (.c (.int .i64 1))),none⟩::
 ⟨some 12,.rd (.mv (.t 13)),none⟩::
  []
def F77.r3 : List ROper :=
 ⟨some 14,.rd (.mv (.t 0)),none⟩::
 ⟨some 15,.rd (.fa 4 (.t 3)),none⟩::
 ⟨some 16,.rd (.load (some 5) (.t 15)),none⟩::
 ⟨some 17,.rd (.bsl 1 3 [(.int .i64 0),(.int .i64 0),(.int .i64 0)] [(0,1,(.c (.int .i64 1))),(1,1,(.c (.int .i64 2))),(2,1,(.c (.int .i64 3)))]),none⟩::
 ⟨some 18,.ef (.call 91 [(.t 14),(.t 16),(.t 17)]),none⟩::
 ⟨some 4,.rd (.mv (.t 18)),none⟩::
  []
def F77.r4 : List ROper :=
 ⟨some 19,.rd (.mv (.t 0)),none⟩::
 ⟨some 20,.rd (.fa 9 (.t 3)),none⟩::
 ⟨some 21,.rd (.load none (.t 20)),none⟩::
 ⟨some 22,.rd (.mv (.t 4)),none⟩::
 ⟨some 23,.ef (.call 92 [(.t 19),(.t 21),(.t 22)]),none⟩::
  []
def F77.c5 : RCode := .seq (.reg F77.r3) (.reg F77.r4)
def F77.r5 : List ROper :=
 ⟨some 25,.rd (.bin .eql (.t 11) (.c (.int .i64 2))),none⟩::
 ⟨some 24,.rd (.mv (.t 25)),none⟩::
  []
def F77.r6 : List ROper :=
 ⟨some 26,.rd (.fa 9 (.t 3)),none⟩::
 ⟨some 27,.rd (.load none (.t 26)),none⟩::
 ⟨some 28,.rd (.len 1 (.t 27)),none⟩::
 ⟨some 29,.rd (.mv (.c (.int .i64 0))),none⟩::
  []
def F77.r7 : List ROper :=
 ⟨some 30,.rd (.bin .lss (.t 29) (.t 28)),none⟩::
  []
def F77.c13 : RCode := .cond (.t 30) .skip (.exit 1)
def F77.r8 : List ROper :=
 ⟨some 31,.rd (.ia 5 (.t 27) (.t 29)),none⟩::
 ⟨some 32,.rd (.load (some 5) (.t 31)),none⟩::
 ⟨some 6,.rd (.bx (some 5) (.t 32)),none⟩::
  []
def F77.r9 : List ROper :=
 ⟨some 33,.rd (.mv (.t 0)),none⟩::
 ⟨some 34,.rd (.load (some 5) (.t 6)),none⟩::
 ⟨some 35,.ef (.call 93 [(.t 33),(.t 34),(.c (.bool true))]),none⟩::
  []
def F77.c16 : RCode := .seq (.reg F77.r8) (.reg F77.r9)
def F77.c15 : RCode := .block 2 F77.c16
def F77.r10 : List ROper :=
 ⟨some 36,.rd (.bin .add (.t 29) (.c (.int .i64 1))),none⟩::
 ⟨some 29,.rd (.mv (.t 36)),none⟩::
  []
def F77.c14 : RCode := .seq F77.c15 (.reg F77.r10)
def F77.c12 : RCode := .seq F77.c13 F77.c14
def F77.c11 : RCode := .seq (.reg F77.r7) F77.c12
def F77.c10 : RCode := .loop F77.c11
def F77.c9 : RCode := .block 1 F77.c10
def F77.c8 : RCode := .seq (.reg F77.r6) F77.c9
def F77.r11 : List ROper :=
 ⟨some 38,.rd (.bin .eql (.t 11) (.c (.int .i64 3))),none⟩::
 ⟨some 37,.rd (.mv (.t 38)),none⟩::
  []
def F77.r12 : List ROper :=
 ⟨some 39,.rd (.bin .eql (.t 11) (.c (.int .i64 4))),none⟩::
 ⟨some 37,.rd (.mv (.t 39)),none⟩::
  []
def F77.r13 : List ROper :=
 ⟨some 40,.rd (.bin .eql (.t 11) (.c (.int .i64 5))),none⟩::
 ⟨some 37,.rd (.mv (.t 40)),none⟩::
  []
def F77.c21 : RCode := .cond (.t 37) .skip (.reg F77.r13)
def F77.c20 : RCode := .seq (.reg F77.r12) F77.c21
def F77.c19 : RCode := .cond (.t 37) .skip F77.c20
def F77.c18 : RCode := .seq (.reg F77.r11) F77.c19
def F77.r14 : List ROper :=
 ⟨some 41,.rd (.mv (.t 0)),none⟩::
 ⟨some 42,.rd (.fa 9 (.t 3)),none⟩::
 ⟨some 43,.rd (.load none (.t 42)),none⟩::
 ⟨some 44,.ef (.call 92 [(.t 41),(.t 43),(.c (.int .i64 2))]),none⟩::
  []
def F77.r15 : List ROper :=
 ⟨some 46,.rd (.bin .eql (.t 11) (.c (.int .i64 6))),none⟩::
 ⟨some 45,.rd (.mv (.t 46)),none⟩::
  []
def F77.r16 : List ROper :=
 ⟨some 47,.rd (.mv (.t 0)),none⟩::
 ⟨some 48,.rd (.fa 3 (.t 3)),none⟩::
 ⟨some 49,.rd (.load none (.t 48)),none⟩::
 ⟨some 50,.ef (.call 94 [(.t 47),(.t 49)]),none⟩::
 ⟨some 7,.rd (.bx (some 3) (.t 50)),none⟩::
  []
def F77.r17 : List ROper :=
 ⟨some 51,.rd (.load (some 3) (.t 7)),none⟩::
 ⟨some 52,.rd (.build [(.int .i64 0),(.int .i64 0),(.str (⟨#[]⟩ : ByteArray))] [(0,1,(.c (.int .i64 1)))]),none⟩::
 ⟨some 53,.rd (.seq true [1,1,2] (.t 51) (.t 52)),none⟩::
  []
def F77.r18 : List ROper :=
 ⟨some 54,.rd (.mv (.t 0)),none⟩::
 ⟨some 55,.ef (.call 45 [(.t 54),(.c (.int .i64 14))]),none⟩::
  []
def F77.c28 : RCode := .cond (.t 53) (.reg F77.r18) .skip
def F77.c27 : RCode := .seq (.reg F77.r17) F77.c28
def F77.c26 : RCode := .seq (.reg F77.r16) F77.c27
def F77.r19 : List ROper :=
 ⟨some 56,.rd (.mv (.t 0)),none⟩::
 ⟨some 57,.rd (.fa 9 (.t 3)),none⟩::
 ⟨some 58,.rd (.load none (.t 57)),none⟩::
 ⟨some 59,.ef (.call 92 [(.t 56),(.t 58),(.c (.int .i64 1))]),none⟩::
  []
def F77.c25 : RCode := .seq F77.c26 (.reg F77.r19)
def F77.r20 : List ROper :=
 ⟨some 61,.rd (.bin .eql (.t 11) (.c (.int .i64 7))),none⟩::
 ⟨some 60,.rd (.mv (.t 61)),none⟩::
  []
def F77.r21 : List ROper :=
 ⟨some 62,.rd (.mv (.t 0)),none⟩::
 ⟨some 63,.rd (.fa 4 (.t 3)),none⟩::
 ⟨some 64,.rd (.load (some 5) (.t 63)),none⟩::
 ⟨some 65,.rd (.bsl 1 2 [(.int .i64 0),(.int .i64 0)] [(0,1,(.c (.int .i64 1))),(1,1,(.c (.int .i64 3)))]),none⟩::
 ⟨some 66,.ef (.call 91 [(.t 62),(.t 64),(.t 65)]),none⟩::
  []
def F77.r22 : List ROper :=
 ⟨some 68,.rd (.bin .eql (.t 11) (.c (.int .i64 8))),none⟩::
 ⟨some 67,.rd (.mv (.t 68)),none⟩::
  []
def F77.r23 : List ROper :=
 ⟨some 69,.rd (.fa 9 (.t 3)),none⟩::
 ⟨some 70,.rd (.load none (.t 69)),none⟩::
 ⟨some 71,.rd (.len 1 (.t 70)),none⟩::
 ⟨some 72,.rd (.mv (.c (.int .i64 0))),none⟩::
  []
def F77.r24 : List ROper :=
 ⟨some 73,.rd (.bin .lss (.t 72) (.t 71)),none⟩::
  []
def F77.c38 : RCode := .cond (.t 73) .skip (.exit 3)
def F77.r25 : List ROper :=
 ⟨some 74,.rd (.ia 5 (.t 70) (.t 72)),none⟩::
 ⟨some 75,.rd (.load (some 5) (.t 74)),none⟩::
 ⟨some 9,.rd (.bx (some 5) (.t 75)),none⟩::
  []
def F77.r26 : List ROper :=
 ⟨some 76,.rd (.mv (.t 0)),none⟩::
 ⟨some 77,.rd (.load (some 5) (.t 9)),none⟩::
 ⟨some 78,.ef (.call 95 [(.t 76),(.t 77)]),none⟩::
  []
def F77.c41 : RCode := .seq (.reg F77.r25) (.reg F77.r26)
def F77.c40 : RCode := .block 4 F77.c41
def F77.r27 : List ROper :=
 ⟨some 79,.rd (.bin .add (.t 72) (.c (.int .i64 1))),none⟩::
 ⟨some 72,.rd (.mv (.t 79)),none⟩::
  []
def F77.c39 : RCode := .seq F77.c40 (.reg F77.r27)
def F77.c37 : RCode := .seq F77.c38 F77.c39
def F77.c36 : RCode := .seq (.reg F77.r24) F77.c37
def F77.c35 : RCode := .loop F77.c36
def F77.c34 : RCode := .block 3 F77.c35
def F77.c33 : RCode := .seq (.reg F77.r23) F77.c34
def F77.r28 : List ROper :=
 ⟨some 81,.rd (.bin .eql (.t 11) (.c (.int .i64 9))),none⟩::
 ⟨some 80,.rd (.mv (.t 81)),none⟩::
  []
def F77.r29 : List ROper :=
 ⟨some 82,.rd (.mv (.t 0)),none⟩::
 ⟨some 83,.rd (.load (some 16) (.t 3)),none⟩::
 ⟨some 84,.ef (.call 96 [(.t 82),(.t 83)]),none⟩::
  []
def F77.c43 : RCode := .cond (.t 80) (.reg F77.r29) .skip
def F77.c42 : RCode := .seq (.reg F77.r28) F77.c43
def F77.c32 : RCode := .cond (.t 67) F77.c33 F77.c42
def F77.c31 : RCode := .seq (.reg F77.r22) F77.c32
def F77.c30 : RCode := .cond (.t 60) (.reg F77.r21) F77.c31
def F77.c29 : RCode := .seq (.reg F77.r20) F77.c30
def F77.c24 : RCode := .cond (.t 45) F77.c25 F77.c29
def F77.c23 : RCode := .seq (.reg F77.r15) F77.c24
def F77.c22 : RCode := .cond (.t 37) (.reg F77.r14) F77.c23
def F77.c17 : RCode := .seq F77.c18 F77.c22
def F77.c7 : RCode := .cond (.t 24) F77.c8 F77.c17
def F77.c6 : RCode := .seq (.reg F77.r5) F77.c7
def F77.c4 : RCode := .cond (.t 12) F77.c5 F77.c6
def F77.c3 : RCode := .seq (.reg F77.r2) F77.c4
def F77.c2 : RCode := .block 0 F77.c3
def F77.c1 : RCode := .seq (.reg F77.r1) F77.c2
def F77.c0 : RCode := .seq (.reg F77.r0) F77.c1
theorem F77.calls {args : List AV} {h : AHeap} {K : AV → AHeap → Prop} (hn : args.length ≤ 85) (k : wT .go Go.Proofs.Try.prog 85 F77.c0 (fun x e h t => atEndT t [] (EndW K) x e h) (envOf 0 args) h) : ACalls Go.Proofs.Try.prog 77 args h K :=
  acallsT [3] [6,7,9] 85 Go.Proofs.Try.func77 Go.Proofs.Try.ntmps77 (by kernel_rfl) (by kernel_rfl) hn k
/-- (*pantograph/check.checker).set -/
def F91.r0 : List ROper :=
 ⟨some 4,.rd (.bx none (.t 1)),none⟩::
 ⟨some 6,.rd (.mv (.c (.int .i64 0))),none⟩::
  []
def F91.r1 : List ROper :=
 ⟨some 7,.rd (.mv (.t 0)),none⟩::
 ⟨some 8,.rd (.load (some 5) (.t 4)),none⟩::
 ⟨some 9,.rd (.mv (.t 2)),none⟩::
 ⟨some 10,.ef (.call 107 [(.t 7),(.t 8),(.t 9)]),none⟩::
 ⟨some 6,.rd (.mv (.t 10)),none⟩::
  []
def F91.c1 : RCode := .seq (.reg F91.r1) .ret
def F91.c0 : RCode := .seq (.reg F91.r0) F91.c1
theorem F91.calls {args : List AV} {h : AHeap} {K : AV → AHeap → Prop} (hn : args.length ≤ 11) (k : wT .go Go.Proofs.Try.prog 11 F91.c0 (fun x e h t => atEndT t [.tmp 6] (EndW K) x e h) (envOf 0 args) h) : ACalls Go.Proofs.Try.prog 91 args h K :=
  acallsT [4] [] 11 Go.Proofs.Try.func91 Go.Proofs.Try.ntmps91 (by kernel_rfl) (by kernel_rfl) hn k
/-- (*pantograph/check.checker).pair -/
def F92.r0 : List ROper :=
 ⟨some 8,.rd (.mv (.t 1)),none⟩::
 ⟨some 9,.rd (.len 1 (.t 8)),none⟩::
 ⟨some 10,.rd (.mv (.c (.int .i64 0))),none⟩::
  []
def F92.r1 : List ROper :=
 ⟨some 11,.rd (.bin .lss (.t 10) (.t 9)),none⟩::
  []
def F92.c5 : RCode := .cond (.t 11) .skip (.exit 0)
def F92.r2 : List ROper :=
 ⟨some 12,.rd (.ia 5 (.t 8) (.t 10)),none⟩::
 ⟨some 13,.rd (.load (some 5) (.t 12)),none⟩::
 ⟨some 7,.rd (.bx (some 5) (.t 13)),none⟩::
  []
def F92.r3 : List ROper :=
 ⟨some 14,.rd (.mv (.t 0)),none⟩::
 ⟨some 15,.rd (.load (some 5) (.t 7)),none⟩::
 ⟨some 16,.rd (.mv (.t 2)),none⟩::
 ⟨some 17,.rd (.bsl 1 1 [(.int .i64 0)] [(0,1,(.t 16))]),none⟩::
 ⟨some 18,.ef (.call 107 [(.t 14),(.t 15),(.t 17)]),none⟩::
  []
def F92.c8 : RCode := .seq (.reg F92.r2) (.reg F92.r3)
def F92.c7 : RCode := .block 1 F92.c8
def F92.r4 : List ROper :=
 ⟨some 19,.rd (.bin .add (.t 10) (.c (.int .i64 1))),none⟩::
 ⟨some 10,.rd (.mv (.t 19)),none⟩::
  []
def F92.c6 : RCode := .seq F92.c7 (.reg F92.r4)
def F92.c4 : RCode := .seq F92.c5 F92.c6
def F92.c3 : RCode := .seq (.reg F92.r1) F92.c4
def F92.c2 : RCode := .loop F92.c3
def F92.c1 : RCode := .block 0 F92.c2
def F92.c0 : RCode := .seq (.reg F92.r0) F92.c1
theorem F92.calls {args : List AV} {h : AHeap} {K : AV → AHeap → Prop} (hn : args.length ≤ 20) (k : wT .go Go.Proofs.Try.prog 20 F92.c0 (fun x e h t => atEndT t [] (EndW K) x e h) (envOf 0 args) h) : ACalls Go.Proofs.Try.prog 92 args h K :=
  acallsT [] [7] 20 Go.Proofs.Try.func92 Go.Proofs.Try.ntmps92 (by kernel_rfl) (by kernel_rfl) hn k
/-- (*pantograph/check.checker).expr -/
def F93.r0 : List ROper :=
 ⟨some 4,.rd (.bx none (.t 1)),none⟩::
 ⟨some 6,.ef (.alloc 43 [(.int .i64 0),(.int .i64 0),(.str (⟨#[]⟩ : ByteArray))]),none⟩::
  []
def F93.r1 : List ROper :=
 ⟨some 9,.rd (.mv (.t 0)),none⟩::
 ⟨some 10,.rd (.nilc (.t 9)),none⟩::
 ⟨some 11,.rd (.fa 2 (.t 10)),none⟩::
 ⟨some 12,.rd (.load none (.t 11)),none⟩::
 ⟨some 13,.rd (.bin .neq (.t 12) (.c (.int .i64 0))),none⟩::
  []
def F93.r2 : List ROper :=
 ⟨some 14,.rd (.build [(.int .i64 0),(.int .i64 0),(.str (⟨#[]⟩ : ByteArray))] []),none⟩::
 ⟨none,.ef (.store 3 (.t 6) (.t 14)),none⟩::
  []
def F93.c4 : RCode := .seq (.reg F93.r2) .ret
def F93.c3 : RCode := .cond (.t 13) F93.c4 .skip
def F93.c2 : RCode := .seq (.reg F93.r1) F93.c3
def F93.r3 : List ROper :=
 ⟨some 15,.rd (.build [(.int .i64 0),(.int .i64 0),(.str (⟨#[]⟩ : ByteArray))] [(0,1,(.c (.int .i64 2)))]),none⟩::
 ⟨some 7,.rd (.bx (some 3) (.t 15)),none⟩::
  []
def F93.r4 : List ROper :=
 ⟨some 17,.rd (.fa 0 (.t 4)),none⟩::
 ⟨some 18,.rd (.load none (.t 17)),none⟩::
 ⟨some 19,.rd (.bin .eql (.t 18) (.c (.int .i64 1))),none⟩::
 ⟨some 16,.rd (.mv (.t 19)),none⟩::
  []
def F93.r5 : List ROper :=
 ⟨some 20,.rd (.build [(.int .i64 0),(.int .i64 0),(.str (⟨#[]⟩ : ByteArray))] [(0,1,(.c (.int .i64 1)))]),none⟩::
 ⟨none,.ef (.store 3 (.t 6) (.t 20)),none⟩::
  []
def F93.c10 : RCode := .seq (.reg F93.r5) .ret
def F93.r6 : List ROper :=
 ⟨some 22,.rd (.fa 0 (.t 4)),none⟩::
 ⟨some 23,.rd (.load none (.t 22)),none⟩::
 ⟨some 24,.rd (.bin .eql (.t 23) (.c (.int .i64 2))),none⟩::
 ⟨some 21,.rd (.mv (.t 24)),none⟩::
  []
def F93.r7 : List ROper :=
 ⟨some 25,.rd (.load (some 3) (.t 7)),none⟩::
 ⟨none,.ef (.store 3 (.t 6) (.t 25)),none⟩::
  []
def F93.c13 : RCode := .seq (.reg F93.r7) .ret
def F93.r8 : List ROper :=
 ⟨some 27,.rd (.fa 0 (.t 4)),none⟩::
 ⟨some 28,.rd (.load none (.t 27)),none⟩::
 ⟨some 29,.rd (.bin .eql (.t 28) (.c (.int .i64 3))),none⟩::
 ⟨some 26,.rd (.mv (.t 29)),none⟩::
  []
def F93.r9 : List ROper :=
 ⟨some 30,.rd (.build [(.int .i64 0),(.int .i64 0),(.str (⟨#[]⟩ : ByteArray))] [(0,1,(.c (.int .i64 3)))]),none⟩::
 ⟨none,.ef (.store 3 (.t 6) (.t 30)),none⟩::
  []
def F93.c16 : RCode := .seq (.reg F93.r9) .ret
def F93.r10 : List ROper :=
 ⟨some 32,.rd (.fa 0 (.t 4)),none⟩::
 ⟨some 33,.rd (.load none (.t 32)),none⟩::
 ⟨some 34,.rd (.bin .eql (.t 33) (.c (.int .i64 4))),none⟩::
 ⟨some 31,.rd (.mv (.t 34)),none⟩::
  []
def F93.r11 : List ROper :=
 ⟨some 35,.rd (.mv (.t 0)),none⟩::
 ⟨some 36,.rd (.fa 2 (.t 4)),none⟩::
 ⟨some 37,.rd (.load none (.t 36)),none⟩::
 ⟨some 38,.ef (.call 94 [(.t 35),(.t 37)]),none⟩::
 ⟨none,.ef (.store 3 (.t 6) (.t 38)),none⟩::
  []
def F93.c19 : RCode := .seq (.reg F93.r11) .ret
def F93.r12 : List ROper :=
 ⟨some 40,.rd (.fa 0 (.t 4)),none⟩::
 ⟨some 41,.rd (.load none (.t 40)),none⟩::
 ⟨some 42,.rd (.bin .eql (.t 41) (.c (.int .i64 5))),none⟩::
 ⟨some 39,.rd (.mv (.t 42)),none⟩::
  []
def F93.r13 : List ROper :=
 ⟨some 43,.rd (.mv (.t 0)),none⟩::
 ⟨some 44,.rd (.fa 2 (.t 4)),none⟩::
 ⟨some 45,.rd (.load none (.t 44)),none⟩::
 ⟨some 46,.ef (.call 94 [(.t 43),(.t 45)]),none⟩::
 ⟨some 8,.rd (.bx (some 3) (.t 46)),none⟩::
  []
def F93.r14 : List ROper :=
 ⟨some 47,.rd (.fa 1 (.t 8)),none⟩::
 ⟨some 48,.rd (.load none (.t 47)),none⟩::
 ⟨some 49,.rd (.bin .eql (.t 48) (.c (.int .i64 0))),none⟩::
  []
def F93.r15 : List ROper :=
 ⟨some 50,.rd (.mv (.t 0)),none⟩::
 ⟨some 51,.ef (.call 45 [(.t 50),(.c (.int .i64 14))]),none⟩::
  []
def F93.c25 : RCode := .cond (.t 49) (.reg F93.r15) .skip
def F93.c24 : RCode := .seq (.reg F93.r14) F93.c25
def F93.r16 : List ROper :=
 ⟨some 52,.rd (.mv (.t 0)),none⟩::
 ⟨some 53,.rd (.fa 4 (.t 4)),none⟩::
 ⟨some 54,.rd (.load none (.t 53)),none⟩::
 ⟨some 55,.ef (.call 92 [(.t 52),(.t 54),(.c (.int .i64 1))]),none⟩::
  []
def F93.r17 : List ROper :=
 ⟨some 56,.rd (.fa 0 (.t 8)),none⟩::
 ⟨some 57,.rd (.load none (.t 56)),none⟩::
 ⟨some 58,.rd (.build [(.int .i64 0),(.int .i64 0),(.str (⟨#[]⟩ : ByteArray))] [(0,1,(.t 57))]),none⟩::
 ⟨none,.ef (.store 3 (.t 6) (.t 58)),none⟩::
  []
def F93.c27 : RCode := .seq (.reg F93.r17) .ret
def F93.c26 : RCode := .seq (.reg F93.r16) F93.c27
def F93.c23 : RCode := .seq F93.c24 F93.c26
def F93.c22 : RCode := .seq (.reg F93.r13) F93.c23
def F93.r18 : List ROper :=
 ⟨some 60,.rd (.fa 0 (.t 4)),none⟩::
 ⟨some 61,.rd (.load none (.t 60)),none⟩::
 ⟨some 62,.rd (.bin .eql (.t 61) (.c (.int .i64 6))),none⟩::
 ⟨some 59,.rd (.mv (.t 62)),none⟩::
  []
def F93.r19 : List ROper :=
 ⟨some 63,.rd (.mv (.t 0)),none⟩::
 ⟨some 64,.rd (.mv (.t 0)),none⟩::
 ⟨some 65,.rd (.fa 2 (.t 4)),none⟩::
 ⟨some 66,.rd (.load none (.t 65)),none⟩::
 ⟨some 68,.rd (.fa 3 (.t 4)),none⟩::
 ⟨some 69,.rd (.load none (.t 68)),none⟩::
 ⟨some 67,.ef (.call 94 [(.t 64),(.t 66)]),none⟩::
 ⟨some 70,.ef (.call 108 [(.t 63),(.t 67),(.t 69)]),none⟩::
 ⟨some 71,.rd (.build [(.int .i64 0),(.int .i64 0),(.str (⟨#[]⟩ : ByteArray))] [(0,1,(.t 70))]),none⟩::
 ⟨none,.ef (.store 3 (.t 6) (.t 71)),none⟩::
  []
def F93.c30 : RCode := .seq (.dreg F93.r19) .ret
def F93.r20 : List ROper :=
 ⟨some 73,.rd (.fa 0 (.t 4)),none⟩::
 ⟨some 74,.rd (.load none (.t 73)),none⟩::
 ⟨some 75,.rd (.bin .eql (.t 74) (.c (.int .i64 7))),none⟩::
 ⟨some 72,.rd (.mv (.t 75)),none⟩::
  []
def F93.r21 : List ROper :=
 ⟨some 76,.rd (.mv (.t 0)),none⟩::
 ⟨some 77,.rd (.load (some 5) (.t 4)),none⟩::
 ⟨some 78,.rd (.mv (.t 2)),none⟩::
 ⟨some 79,.ef (.call 109 [(.t 76),(.t 77),(.t 78)]),none⟩::
 ⟨none,.ef (.store 3 (.t 6) (.t 79)),none⟩::
  []
def F93.c33 : RCode := .seq (.reg F93.r21) .ret
def F93.r22 : List ROper :=
 ⟨some 81,.rd (.fa 0 (.t 4)),none⟩::
 ⟨some 82,.rd (.load none (.t 81)),none⟩::
 ⟨some 83,.rd (.bin .eql (.t 82) (.c (.int .i64 9))),none⟩::
 ⟨some 84,.rd (.mv (.t 83)),none⟩::
 ⟨some 85,.rd (.fa 0 (.t 4)),some (84,false)⟩::
 ⟨some 86,.rd (.load none (.t 85)),some (84,false)⟩::
 ⟨some 87,.rd (.bin .geq (.t 86) (.c (.int .i64 13))),some (84,false)⟩::
 ⟨some 88,.rd (.mv (.t 87)),some (84,false)⟩::
 ⟨some 89,.rd (.fa 0 (.t 4)),some (88,true)⟩::
 ⟨some 90,.rd (.load none (.t 89)),some (88,true)⟩::
 ⟨some 91,.rd (.bin .leq (.t 90) (.c (.int .i64 14))),some (88,true)⟩::
 ⟨some 92,.rd (.pick (.t 88) (.t 91) (.c (.bool false))),some (84,false)⟩::
 ⟨some 93,.rd (.pick (.t 84) (.c (.bool true)) (.t 92)),none⟩::
 ⟨some 94,.rd (.mv (.t 93)),none⟩::
 ⟨some 95,.rd (.fa 0 (.t 4)),some (94,false)⟩::
 ⟨some 96,.rd (.load none (.t 95)),some (94,false)⟩::
 ⟨some 97,.rd (.bin .geq (.t 96) (.c (.int .i64 17))),some (94,false)⟩::
 ⟨some 98,.rd (.mv (.t 97)),some (94,false)⟩::
 ⟨some 99,.rd (.fa 0 (.t 4)),some (98,true)⟩::
 ⟨some 100,.rd (.load none (.t 99)),some (98,true)⟩::
 ⟨some 101,.rd (.bin .leq (.t 100) (.c (.int .i64 18))),some (98,true)⟩::
 ⟨some 102,.rd (.pick (.t 98) (.t 101) (.c (.bool false))),some (94,false)⟩::
 ⟨some 103,.rd (.pick (.t 94) (.c (.bool true)) (.t 102)),none⟩::
 ⟨some 80,.rd (.mv (.t 103)),none⟩::
  []
def F93.r23 : List ROper :=
 ⟨some 104,.rd (.mv (.t 0)),none⟩::
 ⟨some 105,.rd (.fa 4 (.t 4)),none⟩::
 ⟨some 106,.rd (.load none (.t 105)),none⟩::
 ⟨some 107,.ef (.call 92 [(.t 104),(.t 106),(.c (.int .i64 2))]),none⟩::
  []
def F93.r24 : List ROper :=
 ⟨some 108,.rd (.load (some 3) (.t 7)),none⟩::
 ⟨none,.ef (.store 3 (.t 6) (.t 108)),none⟩::
  []
def F93.c37 : RCode := .seq (.reg F93.r24) .ret
def F93.c36 : RCode := .seq (.reg F93.r23) F93.c37
def F93.r25 : List ROper :=
 ⟨some 110,.rd (.fa 0 (.t 4)),none⟩::
 ⟨some 111,.rd (.load none (.t 110)),none⟩::
 ⟨some 112,.rd (.bin .eql (.t 111) (.c (.int .i64 19))),none⟩::
 ⟨some 113,.rd (.mv (.t 112)),none⟩::
 ⟨some 114,.rd (.fa 0 (.t 4)),some (113,false)⟩::
 ⟨some 115,.rd (.load none (.t 114)),some (113,false)⟩::
 ⟨some 116,.rd (.bin .eql (.t 115) (.c (.int .i64 20))),some (113,false)⟩::
 ⟨some 117,.rd (.pick (.t 113) (.c (.bool true)) (.t 116)),none⟩::
 ⟨some 109,.rd (.mv (.t 117)),none⟩::
  []
def F93.r26 : List ROper :=
 ⟨some 118,.rd (.fa 4 (.t 4)),none⟩::
 ⟨some 119,.rd (.load none (.t 118)),none⟩::
 ⟨some 120,.rd (.len 1 (.t 119)),none⟩::
 ⟨some 121,.rd (.bin .eql (.t 120) (.c (.int .i64 2))),none⟩::
  []
def F93.r27 : List ROper :=
 ⟨some 122,.rd (.mv (.t 0)),none⟩::
 ⟨some 123,.rd (.fa 4 (.t 4)),none⟩::
 ⟨some 124,.rd (.load none (.t 123)),none⟩::
 ⟨some 125,.rd (.ia 5 (.t 124) (.c (.int .i64 1))),none⟩::
 ⟨some 126,.rd (.load (some 5) (.t 125)),none⟩::
 ⟨some 127,.rd (.mv (.t 0)),none⟩::
 ⟨some 128,.rd (.fa 4 (.t 4)),none⟩::
 ⟨some 129,.rd (.load none (.t 128)),none⟩::
 ⟨some 130,.rd (.ia 5 (.t 129) (.c (.int .i64 0))),none⟩::
 ⟨some 131,.rd (.load (some 5) (.t 130)),none⟩::
 ⟨some 132,.ef (.call 95 [(.t 127),(.t 131)]),none⟩::
 ⟨some 133,.rd (.bsl 1 1 [(.int .i64 0)] [(0,1,(.t 132))]),none⟩::
 ⟨some 134,.ef (.call 107 [(.t 122),(.t 126),(.t 133)]),none⟩::
  []
def F93.c42 : RCode := .cond (.t 121) (.dreg F93.r27) .skip
def F93.c41 : RCode := .seq (.reg F93.r26) F93.c42
def F93.r28 : List ROper :=
 ⟨some 135,.rd (.load (some 3) (.t 7)),none⟩::
 ⟨none,.ef (.store 3 (.t 6) (.t 135)),none⟩::
  []
def F93.c43 : RCode := .seq (.reg F93.r28) .ret
def F93.c40 : RCode := .seq F93.c41 F93.c43
def F93.r29 : List ROper :=
 ⟨some 137,.rd (.fa 0 (.t 4)),none⟩::
 ⟨some 138,.rd (.load none (.t 137)),none⟩::
 ⟨some 139,.rd (.bin .geq (.t 138) (.c (.int .i64 21))),none⟩::
 ⟨some 140,.rd (.mv (.t 139)),none⟩::
 ⟨some 141,.rd (.fa 0 (.t 4)),some (140,true)⟩::
 ⟨some 142,.rd (.load none (.t 141)),some (140,true)⟩::
 ⟨some 143,.rd (.bin .leq (.t 142) (.c (.int .i64 24))),some (140,true)⟩::
 ⟨some 144,.rd (.pick (.t 140) (.t 143) (.c (.bool false))),none⟩::
 ⟨some 136,.rd (.mv (.t 144)),none⟩::
  []
def F93.r30 : List ROper :=
 ⟨some 145,.rd (.fa 4 (.t 4)),none⟩::
 ⟨some 146,.rd (.load none (.t 145)),none⟩::
 ⟨some 147,.rd (.len 1 (.t 146)),none⟩::
 ⟨some 148,.rd (.bin .eql (.t 147) (.c (.int .i64 2))),none⟩::
  []
def F93.r31 : List ROper :=
 ⟨some 149,.rd (.mv (.t 0)),none⟩::
 ⟨some 150,.rd (.fa 4 (.t 4)),none⟩::
 ⟨some 151,.rd (.load none (.t 150)),none⟩::
 ⟨some 152,.rd (.ia 5 (.t 151) (.c (.int .i64 1))),none⟩::
 ⟨some 153,.rd (.load (some 5) (.t 152)),none⟩::
 ⟨some 154,.rd (.mv (.t 0)),none⟩::
 ⟨some 155,.rd (.fa 4 (.t 4)),none⟩::
 ⟨some 156,.rd (.load none (.t 155)),none⟩::
 ⟨some 157,.rd (.ia 5 (.t 156) (.c (.int .i64 0))),none⟩::
 ⟨some 158,.rd (.load (some 5) (.t 157)),none⟩::
 ⟨some 159,.rd (.bsl 1 2 [(.int .i64 0),(.int .i64 0)] [(0,1,(.c (.int .i64 1))),(1,1,(.c (.int .i64 3)))]),none⟩::
 ⟨some 160,.ef (.call 107 [(.t 154),(.t 158),(.t 159)]),none⟩::
 ⟨some 161,.rd (.bsl 1 1 [(.int .i64 0)] [(0,1,(.t 160))]),none⟩::
 ⟨some 162,.ef (.call 107 [(.t 149),(.t 153),(.t 161)]),none⟩::
  []
def F93.c48 : RCode := .cond (.t 148) (.dreg F93.r31) .skip
def F93.c47 : RCode := .seq (.reg F93.r30) F93.c48
def F93.r32 : List ROper :=
 ⟨some 163,.rd (.load (some 3) (.t 7)),none⟩::
 ⟨none,.ef (.store 3 (.t 6) (.t 163)),none⟩::
  []
def F93.c49 : RCode := .seq (.reg F93.r32) .ret
def F93.c46 : RCode := .seq F93.c47 F93.c49
def F93.c45 : RCode := .cond (.t 136) F93.c46 .skip
def F93.c44 : RCode := .seq (.reg F93.r29) F93.c45
def F93.c39 : RCode := .cond (.t 109) F93.c40 F93.c44
def F93.c38 : RCode := .seq (.reg F93.r25) F93.c39
def F93.c35 : RCode := .cond (.t 80) F93.c36 F93.c38
def F93.c34 : RCode := .seq (.reg F93.r22) F93.c35
def F93.c32 : RCode := .cond (.t 72) F93.c33 F93.c34
def F93.c31 : RCode := .seq (.reg F93.r20) F93.c32
def F93.c29 : RCode := .cond (.t 59) F93.c30 F93.c31
def F93.c28 : RCode := .seq (.reg F93.r18) F93.c29
def F93.c21 : RCode := .cond (.t 39) F93.c22 F93.c28
def F93.c20 : RCode := .seq (.reg F93.r12) F93.c21
def F93.c18 : RCode := .cond (.t 31) F93.c19 F93.c20
def F93.c17 : RCode := .seq (.reg F93.r10) F93.c18
def F93.c15 : RCode := .cond (.t 26) F93.c16 F93.c17
def F93.c14 : RCode := .seq (.reg F93.r8) F93.c15
def F93.c12 : RCode := .cond (.t 21) F93.c13 F93.c14
def F93.c11 : RCode := .seq (.reg F93.r6) F93.c12
def F93.c9 : RCode := .cond (.t 16) F93.c10 F93.c11
def F93.c8 : RCode := .seq (.reg F93.r4) F93.c9
def F93.c7 : RCode := .block 0 F93.c8
def F93.r33 : List ROper :=
 ⟨some 164,.rd (.mv (.t 0)),none⟩::
 ⟨some 165,.rd (.fa 4 (.t 4)),none⟩::
 ⟨some 166,.rd (.load none (.t 165)),none⟩::
 ⟨some 167,.ef (.call 92 [(.t 164),(.t 166),(.c (.int .i64 1))]),none⟩::
  []
def F93.r34 : List ROper :=
 ⟨some 168,.rd (.build [(.int .i64 0),(.int .i64 0),(.str (⟨#[]⟩ : ByteArray))] [(0,1,(.c (.int .i64 1)))]),none⟩::
 ⟨none,.ef (.store 3 (.t 6) (.t 168)),none⟩::
  []
def F93.c51 : RCode := .seq (.reg F93.r34) .ret
def F93.c50 : RCode := .seq (.reg F93.r33) F93.c51
def F93.c6 : RCode := .seq F93.c7 F93.c50
def F93.c5 : RCode := .seq (.reg F93.r3) F93.c6
def F93.c1 : RCode := .seq F93.c2 F93.c5
def F93.c0 : RCode := .seq (.reg F93.r0) F93.c1
theorem F93.calls {args : List AV} {h : AHeap} {K : AV → AHeap → Prop} (hn : args.length ≤ 169) (k : wT .go Go.Proofs.Try.prog 169 F93.c0 (fun x e h t => atEndT t [.cell 6 (some 3)] (EndW K) x e h) (envOf 0 args) h) : ACalls Go.Proofs.Try.prog 93 args h K :=
  acallsT [4] [7,8] 169 Go.Proofs.Try.func93 Go.Proofs.Try.ntmps93 (by kernel_rfl) (by kernel_rfl) hn k
/-- (*pantograph/check.checker).variable -/
def F94.r0 : List ROper :=
 ⟨some 4,.ef (.alloc 43 [(.int .i64 0),(.int .i64 0),(.str (⟨#[]⟩ : ByteArray))]),none⟩::
  []
def F94.r1 : List ROper :=
 ⟨some 8,.rd (.mv (.t 0)),none⟩::
 ⟨some 9,.rd (.nilc (.t 8)),none⟩::
 ⟨some 10,.rd (.fa 0 (.t 9)),none⟩::
 ⟨some 11,.rd (.load none (.t 10)),none⟩::
 ⟨some 12,.rd (.mv (.t 1)),none⟩::
 ⟨some 13,.ef (.call 72 [(.t 11),(.t 12)]),none⟩::
 ⟨some 7,.rd (.mv (.t 13)),none⟩::
 ⟨some 14,.rd (.ext (.t 7) 0),none⟩::
 ⟨some 15,.rd (.ext (.t 7) 1),none⟩::
 ⟨some 5,.rd (.bx (some 6) (.t 14)),none⟩::
 ⟨some 6,.rd (.mv (.t 15)),none⟩::
  []
def F94.r2 : List ROper :=
 ⟨some 16,.rd (.mv (.t 6)),none⟩::
 ⟨some 17,.rd (.un .not (.t 16)),none⟩::
 ⟨some 18,.rd (.mv (.t 17)),none⟩::
 ⟨some 19,.rd (.fa 0 (.t 5)),some (18,false)⟩::
 ⟨some 20,.rd (.load none (.t 19)),some (18,false)⟩::
 ⟨some 21,.rd (.bin .neq (.t 20) (.c (.int .i64 0))),some (18,false)⟩::
 ⟨some 22,.rd (.pick (.t 18) (.c (.bool true)) (.t 21)),none⟩::
  []
def F94.r3 : List ROper :=
 ⟨some 23,.rd (.mv (.t 0)),none⟩::
 ⟨some 24,.ef (.call 45 [(.t 23),(.c (.int .i64 13))]),none⟩::
  []
def F94.c4 : RCode := .cond (.t 22) (.reg F94.r3) .skip
def F94.c3 : RCode := .seq (.reg F94.r2) F94.c4
def F94.r4 : List ROper :=
 ⟨some 25,.rd (.fa 3 (.t 5)),none⟩::
 ⟨some 26,.rd (.load (some 3) (.t 25)),none⟩::
 ⟨none,.ef (.store 3 (.t 4) (.t 26)),none⟩::
  []
def F94.c5 : RCode := .seq (.reg F94.r4) .ret
def F94.c2 : RCode := .seq F94.c3 F94.c5
def F94.c1 : RCode := .seq (.reg F94.r1) F94.c2
def F94.c0 : RCode := .seq (.reg F94.r0) F94.c1
theorem F94.calls {args : List AV} {h : AHeap} {K : AV → AHeap → Prop} (hn : args.length ≤ 27) (k : wT .go Go.Proofs.Try.prog 27 F94.c0 (fun x e h t => atEndT t [.cell 4 (some 3)] (EndW K) x e h) (envOf 0 args) h) : ACalls Go.Proofs.Try.prog 94 args h K :=
  acallsT [] [5] 27 Go.Proofs.Try.func94 Go.Proofs.Try.ntmps94 (by kernel_rfl) (by kernel_rfl) hn k
/-- (*pantograph/check.checker).any -/
def F95.r0 : List ROper :=
 ⟨some 3,.rd (.bx none (.t 1)),none⟩::
 ⟨some 4,.rd (.mv (.c (.int .i64 0))),none⟩::
  []
def F95.r1 : List ROper :=
 ⟨some 5,.rd (.mv (.t 0)),none⟩::
 ⟨some 6,.rd (.load (some 5) (.t 3)),none⟩::
 ⟨some 7,.rd (.bsl 1 3 [(.int .i64 0),(.int .i64 0),(.int .i64 0)] [(0,1,(.c (.int .i64 1))),(1,1,(.c (.int .i64 2))),(2,1,(.c (.int .i64 3)))]),none⟩::
 ⟨some 8,.ef (.call 107 [(.t 5),(.t 6),(.t 7)]),none⟩::
 ⟨some 4,.rd (.mv (.t 8)),none⟩::
  []
def F95.c1 : RCode := .seq (.reg F95.r1) .ret
def F95.c0 : RCode := .seq (.reg F95.r0) F95.c1
theorem F95.calls {args : List AV} {h : AHeap} {K : AV → AHeap → Prop} (hn : args.length ≤ 9) (k : wT .go Go.Proofs.Try.prog 9 F95.c0 (fun x e h t => atEndT t [.tmp 4] (EndW K) x e h) (envOf 0 args) h) : ACalls Go.Proofs.Try.prog 95 args h K :=
  acallsT [3] [] 9 Go.Proofs.Try.func95 Go.Proofs.Try.ntmps95 (by kernel_rfl) (by kernel_rfl) hn k
/-- (*pantograph/check.checker).result -/
def F96.r0 : List ROper :=
 ⟨some 3,.rd (.bx none (.t 1)),none⟩::
  []
def F96.r1 : List ROper :=
 ⟨some 5,.rd (.mv (.t 0)),none⟩::
 ⟨some 6,.rd (.nilc (.t 5)),none⟩::
 ⟨some 7,.rd (.fa 3 (.t 6)),none⟩::
 ⟨some 8,.rd (.load none (.t 7)),none⟩::
 ⟨some 9,.rd (.peq true (.t 8) (.c (.ptr none))),none⟩::
 ⟨some 10,.rd (.mv (.t 9)),none⟩::
 ⟨some 11,.rd (.mv (.t 0)),some (10,true)⟩::
 ⟨some 12,.rd (.nilc (.t 11)),some (10,true)⟩::
 ⟨some 13,.rd (.fa 3 (.t 12)),some (10,true)⟩::
 ⟨some 14,.rd (.load none (.t 13)),some (10,true)⟩::
 ⟨some 15,.rd (.nilc (.t 14)),some (10,true)⟩::
 ⟨some 16,.rd (.fa 3 (.t 15)),some (10,true)⟩::
 ⟨some 17,.rd (.load none (.t 16)),some (10,true)⟩::
 ⟨some 18,.rd (.bin .gtr (.t 17) (.c (.int .i64 0))),some (10,true)⟩::
 ⟨some 19,.rd (.pick (.t 10) (.t 18) (.c (.bool false))),none⟩::
 ⟨some 4,.rd (.mv (.t 19)),none⟩::
  []
def F96.r2 : List ROper :=
 ⟨some 20,.rd (.mv (.t 4)),none⟩::
 ⟨some 21,.rd (.fa 9 (.t 3)),none⟩::
 ⟨some 22,.rd (.load none (.t 21)),none⟩::
 ⟨some 23,.rd (.len 1 (.t 22)),none⟩::
 ⟨some 24,.rd (.bin .gtr (.t 23) (.c (.int .i64 0))),none⟩::
 ⟨some 25,.rd (.beq true (.t 20) (.t 24)),none⟩::
  []
def F96.r3 : List ROper :=
 ⟨some 26,.rd (.mv (.t 0)),none⟩::
 ⟨some 27,.ef (.call 45 [(.t 26),(.c (.int .i64 16))]),none⟩::
  []
def F96.c4 : RCode := .cond (.t 25) (.reg F96.r3) .skip
def F96.c3 : RCode := .seq (.reg F96.r2) F96.c4
def F96.r4 : List ROper :=
 ⟨some 28,.rd (.mv (.t 4)),none⟩::
  []
def F96.r5 : List ROper :=
 ⟨some 29,.rd (.mv (.t 0)),none⟩::
 ⟨some 30,.rd (.fa 9 (.t 3)),none⟩::
 ⟨some 31,.rd (.load none (.t 30)),none⟩::
 ⟨some 32,.rd (.mv (.t 0)),none⟩::
 ⟨some 33,.rd (.nilc (.t 32)),none⟩::
 ⟨some 34,.rd (.fa 3 (.t 33)),none⟩::
 ⟨some 35,.rd (.load none (.t 34)),none⟩::
 ⟨some 36,.rd (.nilc (.t 35)),none⟩::
 ⟨some 37,.rd (.fa 3 (.t 36)),none⟩::
 ⟨some 38,.rd (.load none (.t 37)),none⟩::
 ⟨some 39,.ef (.call 92 [(.t 29),(.t 31),(.t 38)]),none⟩::
  []
def F96.c6 : RCode := .cond (.t 28) (.dreg F96.r5) .skip
def F96.c5 : RCode := .seq (.reg F96.r4) F96.c6
def F96.c2 : RCode := .seq F96.c3 F96.c5
def F96.c1 : RCode := .seq (.reg F96.r1) F96.c2
def F96.c0 : RCode := .seq (.reg F96.r0) F96.c1
theorem F96.calls {args : List AV} {h : AHeap} {K : AV → AHeap → Prop} (hn : args.length ≤ 40) (k : wT .go Go.Proofs.Try.prog 40 F96.c0 (fun x e h t => atEndT t [] (EndW K) x e h) (envOf 0 args) h) : ACalls Go.Proofs.Try.prog 96 args h K :=
  acallsT [3] [] 40 Go.Proofs.Try.func96 Go.Proofs.Try.ntmps96 (by kernel_rfl) (by kernel_rfl) hn k
/-- (*pantograph/check.checker).value -/
def F107.r0 : List ROper :=
 ⟨some 4,.rd (.bx none (.t 1)),none⟩::
 ⟨some 6,.rd (.mv (.c (.int .i64 0))),none⟩::
  []
def F107.r1 : List ROper :=
 ⟨some 8,.rd (.mv (.t 0)),none⟩::
 ⟨some 9,.rd (.load (some 5) (.t 4)),none⟩::
 ⟨some 10,.ef (.call 93 [(.t 8),(.t 9),(.c (.bool false))]),none⟩::
 ⟨some 7,.rd (.bx (some 3) (.t 10)),none⟩::
  []
def F107.r2 : List ROper :=
 ⟨some 11,.rd (.fa 1 (.t 7)),none⟩::
 ⟨some 12,.rd (.load none (.t 11)),none⟩::
 ⟨some 13,.rd (.bin .gtr (.t 12) (.c (.int .i64 0))),none⟩::
 ⟨some 14,.rd (.mv (.t 13)),none⟩::
 ⟨some 15,.rd (.mv (.t 2)),some (14,false)⟩::
 ⟨some 16,.rd (.fa 0 (.t 7)),some (14,false)⟩::
 ⟨some 17,.rd (.load none (.t 16)),some (14,false)⟩::
 ⟨some 18,.ef (.call 120 [(.t 15),(.t 17)]),some (14,false)⟩::
 ⟨some 19,.rd (.un .not (.t 18)),some (14,false)⟩::
 ⟨some 20,.rd (.pick (.t 14) (.c (.bool true)) (.t 19)),none⟩::
  []
def F107.r3 : List ROper :=
 ⟨some 21,.rd (.mv (.t 0)),none⟩::
 ⟨some 22,.ef (.call 45 [(.t 21),(.c (.int .i64 14))]),none⟩::
  []
def F107.c4 : RCode := .cond (.t 20) (.reg F107.r3) .skip
def F107.c3 : RCode := .seq (.reg F107.r2) F107.c4
def F107.r4 : List ROper :=
 ⟨some 23,.rd (.fa 0 (.t 7)),none⟩::
 ⟨some 24,.rd (.load none (.t 23)),none⟩::
 ⟨some 6,.rd (.mv (.t 24)),none⟩::
  []
def F107.c5 : RCode := .seq (.reg F107.r4) .ret
def F107.c2 : RCode := .seq F107.c3 F107.c5
def F107.c1 : RCode := .seq (.reg F107.r1) F107.c2
def F107.c0 : RCode := .seq (.reg F107.r0) F107.c1
theorem F107.calls {args : List AV} {h : AHeap} {K : AV → AHeap → Prop} (hn : args.length ≤ 25) (k : wT .go Go.Proofs.Try.prog 25 F107.c0 (fun x e h t => atEndT t [.tmp 6] (EndW K) x e h) (envOf 0 args) h) : ACalls Go.Proofs.Try.prog 107 args h K :=
  acallsT [4] [7] 25 Go.Proofs.Try.func107 Go.Proofs.Try.ntmps107 (by kernel_rfl) (by kernel_rfl) hn k
/-- (*pantograph/check.checker).field -/
def F108.r0 : List ROper :=
 ⟨some 4,.rd (.bx none (.t 1)),none⟩::
 ⟨some 6,.rd (.mv (.c (.int .i64 0))),none⟩::
  []
def F108.r1 : List ROper :=
 ⟨some 11,.rd (.fa 0 (.t 4)),none⟩::
 ⟨some 12,.rd (.load none (.t 11)),none⟩::
 ⟨some 13,.rd (.bin .neq (.t 12) (.c (.int .i64 4))),none⟩::
  []
def F108.r2 : List ROper :=
 ⟨some 14,.rd (.mv (.t 0)),none⟩::
 ⟨some 15,.ef (.call 45 [(.t 14),(.c (.int .i64 14))]),none⟩::
  []
def F108.r3 : List ROper :=
 ⟨some 6,.rd (.mv (.c (.int .i64 0))),none⟩::
  []
def F108.c5 : RCode := .seq (.reg F108.r3) .ret
def F108.c4 : RCode := .seq (.reg F108.r2) F108.c5
def F108.c3 : RCode := .cond (.t 13) F108.c4 .skip
def F108.c2 : RCode := .seq (.reg F108.r1) F108.c3
def F108.r4 : List ROper :=
 ⟨some 17,.rd (.mv (.t 0)),none⟩::
 ⟨some 18,.rd (.nilc (.t 17)),none⟩::
 ⟨some 19,.rd (.fa 0 (.t 18)),none⟩::
 ⟨some 20,.rd (.load none (.t 19)),none⟩::
 ⟨some 21,.rd (.fa 2 (.t 4)),none⟩::
 ⟨some 22,.rd (.load none (.t 21)),none⟩::
 ⟨some 23,.ef (.call 72 [(.t 20),(.t 22)]),none⟩::
 ⟨some 16,.rd (.mv (.t 23)),none⟩::
 ⟨some 24,.rd (.ext (.t 16) 0),none⟩::
 ⟨some 25,.rd (.ext (.t 16) 1),none⟩::
 ⟨some 7,.ef (.alloc 95 [(.int .i64 0),(.ptr none),(.ptr none),(.int .i64 0),(.int .i64 0),(.str (⟨#[]⟩ : ByteArray))]),none⟩::
 ⟨none,.ef (.store 6 (.t 7) (.t 24)),none⟩::
 ⟨some 8,.rd (.mv (.t 25)),none⟩::
  []
def F108.c8 : RCode := .frz (.dreg F108.r4) [7]
def F108.r5 : List ROper :=
 ⟨some 26,.rd (.mv (.t 8)),none⟩::
 ⟨some 27,.rd (.mv (.t 26)),none⟩::
 ⟨some 28,.rd (.fa 0 (.t 7)),some (27,true)⟩::
 ⟨some 29,.rd (.load none (.t 28)),some (27,true)⟩::
 ⟨some 30,.rd (.bin .eql (.t 29) (.c (.int .i64 1))),some (27,true)⟩::
 ⟨some 31,.rd (.pick (.t 27) (.t 30) (.c (.bool false))),none⟩::
  []
def F108.r6 : List ROper :=
 ⟨some 32,.rd (.fa 1 (.t 7)),none⟩::
 ⟨some 33,.rd (.load none (.t 32)),none⟩::
 ⟨some 34,.rd (.nilc (.t 33)),none⟩::
 ⟨some 35,.rd (.fa 3 (.t 34)),none⟩::
 ⟨some 36,.rd (.load none (.t 35)),none⟩::
 ⟨some 37,.rd (.len 1 (.t 36)),none⟩::
 ⟨some 38,.rd (.mv (.c (.int .i64 0))),none⟩::
  []
def F108.r7 : List ROper :=
 ⟨some 39,.rd (.bin .lss (.t 38) (.t 37)),none⟩::
  []
def F108.c16 : RCode := .cond (.t 39) .skip (.exit 0)
def F108.r8 : List ROper :=
 ⟨some 40,.rd (.ia 4 (.t 36) (.t 38)),none⟩::
 ⟨some 41,.rd (.load (some 4) (.t 40)),none⟩::
 ⟨some 10,.rd (.bx (some 4) (.t 41)),none⟩::
  []
def F108.r9 : List ROper :=
 ⟨some 42,.rd (.fa 2 (.t 10)),none⟩::
 ⟨some 43,.rd (.load none (.t 42)),none⟩::
 ⟨some 44,.rd (.mv (.t 2)),none⟩::
 ⟨some 45,.rd (.bin .eql (.t 43) (.t 44)),none⟩::
  []
def F108.r10 : List ROper :=
 ⟨some 46,.rd (.fa 3 (.t 10)),none⟩::
 ⟨some 47,.rd (.load none (.t 46)),none⟩::
 ⟨some 6,.rd (.mv (.t 47)),none⟩::
  []
def F108.c22 : RCode := .seq (.reg F108.r10) .ret
def F108.c21 : RCode := .cond (.t 45) F108.c22 .skip
def F108.c20 : RCode := .seq (.reg F108.r9) F108.c21
def F108.c19 : RCode := .seq (.reg F108.r8) F108.c20
def F108.c18 : RCode := .block 1 F108.c19
def F108.r11 : List ROper :=
 ⟨some 48,.rd (.bin .add (.t 38) (.c (.int .i64 1))),none⟩::
 ⟨some 38,.rd (.mv (.t 48)),none⟩::
  []
def F108.c17 : RCode := .seq F108.c18 (.reg F108.r11)
def F108.c15 : RCode := .seq F108.c16 F108.c17
def F108.c14 : RCode := .seq (.reg F108.r7) F108.c15
def F108.c13 : RCode := .loop F108.c14
def F108.c12 : RCode := .block 0 F108.c13
def F108.c11 : RCode := .seq (.reg F108.r6) F108.c12
def F108.c10 : RCode := .cond (.t 31) F108.c11 .skip
def F108.c9 : RCode := .seq (.reg F108.r5) F108.c10
def F108.c7 : RCode := .seq F108.c8 F108.c9
def F108.r12 : List ROper :=
 ⟨some 49,.rd (.mv (.t 0)),none⟩::
 ⟨some 50,.ef (.call 45 [(.t 49),(.c (.int .i64 13))]),none⟩::
  []
def F108.r13 : List ROper :=
 ⟨some 6,.rd (.mv (.c (.int .i64 0))),none⟩::
  []
def F108.c24 : RCode := .seq (.reg F108.r13) .ret
def F108.c23 : RCode := .seq (.reg F108.r12) F108.c24
def F108.c6 : RCode := .seq F108.c7 F108.c23
def F108.c1 : RCode := .seq F108.c2 F108.c6
def F108.c0 : RCode := .seq (.reg F108.r0) F108.c1
theorem F108.calls {args : List AV} {h : AHeap} {K : AV → AHeap → Prop} (hn : args.length ≤ 51) (k : wT .go Go.Proofs.Try.prog 51 F108.c0 (fun x e h t => atEndT t [.tmp 6] (EndW K) x e h) (envOf 0 args) h) : ACalls Go.Proofs.Try.prog 108 args h K :=
  acallsT [4] [7,10] 51 Go.Proofs.Try.func108 Go.Proofs.Try.ntmps108 (by kernel_rfl) (by kernel_rfl) hn k
/-- (*pantograph/check.checker).call -/
def F109.r0 : List ROper :=
 ⟨some 4,.rd (.bx none (.t 1)),none⟩::
 ⟨some 6,.ef (.alloc 43 [(.int .i64 0),(.int .i64 0),(.str (⟨#[]⟩ : ByteArray))]),none⟩::
  []
def F109.r1 : List ROper :=
 ⟨some 14,.rd (.mv (.t 0)),none⟩::
 ⟨some 15,.rd (.nilc (.t 14)),none⟩::
 ⟨some 16,.rd (.fa 0 (.t 15)),none⟩::
 ⟨some 17,.rd (.load none (.t 16)),none⟩::
 ⟨some 18,.rd (.fa 2 (.t 4)),none⟩::
 ⟨some 19,.rd (.load none (.t 18)),none⟩::
 ⟨some 20,.ef (.call 72 [(.t 17),(.t 19)]),none⟩::
 ⟨some 13,.rd (.mv (.t 20)),none⟩::
 ⟨some 21,.rd (.ext (.t 13) 0),none⟩::
 ⟨some 22,.rd (.ext (.t 13) 1),none⟩::
 ⟨some 7,.ef (.alloc 95 [(.int .i64 0),(.ptr none),(.ptr none),(.int .i64 0),(.int .i64 0),(.str (⟨#[]⟩ : ByteArray))]),none⟩::
 ⟨none,.ef (.store 6 (.t 7) (.t 21)),none⟩::
 ⟨some 8,.rd (.mv (.t 22)),none⟩::
  []
def F109.c2 : RCode := .frz (.dreg F109.r1) [7]
def F109.r2 : List ROper :=
 ⟨some 24,.rd (.mv (.t 8)),none⟩::
 ⟨some 25,.rd (.un .not (.t 24)),none⟩::
 ⟨some 26,.rd (.mv (.t 25)),none⟩::
 ⟨some 27,.rd (.fa 0 (.t 7)),some (26,false)⟩::
 ⟨some 28,.rd (.load none (.t 27)),some (26,false)⟩::
 ⟨some 29,.rd (.bin .neq (.t 28) (.c (.int .i64 2))),some (26,false)⟩::
 ⟨some 30,.rd (.pick (.t 26) (.c (.bool true)) (.t 29)),none⟩::
 ⟨some 23,.rd (.mv (.t 30)),none⟩::
  []
def F109.r3 : List ROper :=
 ⟨some 31,.rd (.mv (.t 0)),none⟩::
 ⟨some 32,.ef (.call 45 [(.t 31),(.c (.int .i64 13))]),none⟩::
  []
def F109.r4 : List ROper :=
 ⟨some 33,.rd (.build [(.int .i64 0),(.int .i64 0),(.str (⟨#[]⟩ : ByteArray))] []),none⟩::
 ⟨none,.ef (.store 3 (.t 6) (.t 33)),none⟩::
  []
def F109.c8 : RCode := .seq (.reg F109.r4) .ret
def F109.c7 : RCode := .seq (.reg F109.r3) F109.c8
def F109.r5 : List ROper :=
 ⟨some 35,.rd (.fa 2 (.t 7)),none⟩::
 ⟨some 36,.rd (.load none (.t 35)),none⟩::
 ⟨some 37,.rd (.nilc (.t 36)),none⟩::
 ⟨some 38,.rd (.fa 3 (.t 37)),none⟩::
 ⟨some 39,.rd (.load none (.t 38)),none⟩::
 ⟨some 40,.rd (.bin .gtr (.t 39) (.c (.int .i64 0))),none⟩::
 ⟨some 41,.rd (.mv (.t 2)),none⟩::
 ⟨some 42,.rd (.beq false (.t 40) (.t 41)),none⟩::
 ⟨some 34,.rd (.mv (.t 42)),none⟩::
  []
def F109.r6 : List ROper :=
 ⟨some 43,.rd (.mv (.t 0)),none⟩::
 ⟨some 44,.ef (.call 45 [(.t 43),(.c (.int .i64 14))]),none⟩::
  []
def F109.r7 : List ROper :=
 ⟨some 46,.rd (.fa 2 (.t 7)),none⟩::
 ⟨some 47,.rd (.load none (.t 46)),none⟩::
 ⟨some 48,.rd (.nilc (.t 47)),none⟩::
 ⟨some 49,.rd (.fa 4 (.t 48)),none⟩::
 ⟨some 50,.rd (.load none (.t 49)),none⟩::
 ⟨some 51,.rd (.len 1 (.t 50)),none⟩::
 ⟨some 52,.rd (.fa 4 (.t 4)),none⟩::
 ⟨some 53,.rd (.load none (.t 52)),none⟩::
 ⟨some 54,.rd (.len 1 (.t 53)),none⟩::
 ⟨some 55,.rd (.bin .neq (.t 51) (.t 54)),none⟩::
 ⟨some 45,.rd (.mv (.t 55)),none⟩::
  []
def F109.r8 : List ROper :=
 ⟨some 56,.rd (.mv (.t 0)),none⟩::
 ⟨some 57,.ef (.call 45 [(.t 56),(.c (.int .i64 15))]),none⟩::
  []
def F109.r9 : List ROper :=
 ⟨some 58,.rd (.build [(.int .i64 0),(.int .i64 0),(.str (⟨#[]⟩ : ByteArray))] []),none⟩::
 ⟨none,.ef (.store 3 (.t 6) (.t 58)),none⟩::
  []
def F109.c14 : RCode := .seq (.reg F109.r9) .ret
def F109.c13 : RCode := .seq (.reg F109.r8) F109.c14
def F109.c12 : RCode := .cond (.t 45) F109.c13 .skip
def F109.c11 : RCode := .seq (.dreg F109.r7) F109.c12
def F109.c10 : RCode := .cond (.t 34) (.reg F109.r6) F109.c11
def F109.c9 : RCode := .seq (.reg F109.r5) F109.c10
def F109.c6 : RCode := .cond (.t 23) F109.c7 F109.c9
def F109.c5 : RCode := .seq (.reg F109.r2) F109.c6
def F109.c4 : RCode := .block 0 F109.c5
def F109.r10 : List ROper :=
 ⟨some 59,.rd (.fa 2 (.t 7)),none⟩::
 ⟨some 60,.rd (.load none (.t 59)),none⟩::
 ⟨some 61,.rd (.nilc (.t 60)),none⟩::
 ⟨some 62,.rd (.fa 4 (.t 61)),none⟩::
 ⟨some 63,.rd (.load none (.t 62)),none⟩::
 ⟨some 64,.rd (.len 1 (.t 63)),none⟩::
 ⟨some 65,.rd (.mv (.c (.int .i64 0))),none⟩::
  []
def F109.r11 : List ROper :=
 ⟨some 66,.rd (.bin .lss (.t 65) (.t 64)),none⟩::
  []
def F109.c21 : RCode := .cond (.t 66) .skip (.exit 1)
def F109.r12 : List ROper :=
 ⟨some 67,.rd (.mv (.t 65)),none⟩::
 ⟨some 68,.rd (.ia 5 (.t 63) (.t 65)),none⟩::
 ⟨some 69,.rd (.load (some 5) (.t 68)),none⟩::
 ⟨some 9,.rd (.mv (.t 67)),none⟩::
 ⟨some 10,.rd (.bx (some 5) (.t 69)),none⟩::
  []
def F109.r13 : List ROper :=
 ⟨some 70,.rd (.mv (.t 0)),none⟩::
 ⟨some 71,.rd (.nilc (.t 70)),none⟩::
 ⟨some 72,.rd (.fa 2 (.t 71)),none⟩::
 ⟨some 73,.rd (.load none (.t 72)),none⟩::
 ⟨some 74,.rd (.bin .neq (.t 73) (.c (.int .i64 0))),none⟩::
 ⟨some 75,.rd (.mv (.t 74)),none⟩::
 ⟨some 76,.rd (.mv (.t 9)),some (75,false)⟩::
 ⟨some 77,.rd (.fa 4 (.t 4)),some (75,false)⟩::
 ⟨some 78,.rd (.load none (.t 77)),some (75,false)⟩::
 ⟨some 79,.rd (.len 1 (.t 78)),some (75,false)⟩::
 ⟨some 80,.rd (.bin .geq (.t 76) (.t 79)),some (75,false)⟩::
 ⟨some 81,.rd (.pick (.t 75) (.c (.bool true)) (.t 80)),none⟩::
  []
def F109.c27 : RCode := .cond (.t 81) (.exit 1) .skip
def F109.c26 : RCode := .seq (.reg F109.r13) F109.c27
def F109.r14 : List ROper :=
 ⟨some 82,.rd (.fa 4 (.t 10)),none⟩::
 ⟨some 83,.rd (.load none (.t 82)),none⟩::
 ⟨some 84,.rd (.bin .eql (.t 83) (.c (.int .i64 0))),none⟩::
  []
def F109.r15 : List ROper :=
 ⟨some 85,.rd (.mv (.t 0)),none⟩::
 ⟨some 86,.rd (.fa 4 (.t 4)),none⟩::
 ⟨some 87,.rd (.load none (.t 86)),none⟩::
 ⟨some 88,.rd (.mv (.t 9)),none⟩::
 ⟨some 89,.rd (.ia 5 (.t 87) (.t 88)),none⟩::
 ⟨some 90,.rd (.load (some 5) (.t 89)),none⟩::
 ⟨some 91,.rd (.fa 1 (.t 10)),none⟩::
 ⟨some 92,.rd (.fa 0 (.t 91)),none⟩::
 ⟨some 93,.rd (.load none (.t 92)),none⟩::
 ⟨some 94,.rd (.bsl 1 1 [(.int .i64 0)] [(0,1,(.t 93))]),none⟩::
 ⟨some 95,.ef (.call 107 [(.t 85),(.t 90),(.t 94)]),none⟩::
  []
def F109.c31 : RCode := .seq (.dreg F109.r15) (.exit 2)
def F109.c30 : RCode := .cond (.t 84) F109.c31 .skip
def F109.c29 : RCode := .seq (.reg F109.r14) F109.c30
def F109.r16 : List ROper :=
 ⟨some 96,.rd (.fa 4 (.t 4)),none⟩::
 ⟨some 97,.rd (.load none (.t 96)),none⟩::
 ⟨some 98,.rd (.mv (.t 9)),none⟩::
 ⟨some 99,.rd (.ia 5 (.t 97) (.t 98)),none⟩::
 ⟨some 100,.rd (.fa 0 (.t 99)),none⟩::
 ⟨some 101,.rd (.load none (.t 100)),none⟩::
 ⟨some 11,.rd (.mv (.t 101)),none⟩::
  []
def F109.r17 : List ROper :=
 ⟨some 102,.rd (.mv (.t 11)),none⟩::
 ⟨some 103,.rd (.bin .neq (.t 102) (.c (.int .i64 4))),none⟩::
 ⟨some 104,.rd (.mv (.t 103)),none⟩::
 ⟨some 105,.rd (.mv (.t 11)),some (104,true)⟩::
 ⟨some 106,.rd (.bin .neq (.t 105) (.c (.int .i64 5))),some (104,true)⟩::
 ⟨some 107,.rd (.pick (.t 104) (.t 106) (.c (.bool false))),none⟩::
 ⟨some 108,.rd (.mv (.t 107)),none⟩::
 ⟨some 109,.rd (.mv (.t 11)),some (108,true)⟩::
 ⟨some 110,.rd (.bin .neq (.t 109) (.c (.int .i64 6))),some (108,true)⟩::
 ⟨some 111,.rd (.pick (.t 108) (.t 110) (.c (.bool false))),none⟩::
  []
def F109.r18 : List ROper :=
 ⟨some 112,.rd (.mv (.t 0)),none⟩::
 ⟨some 113,.ef (.call 45 [(.t 112),(.c (.int .i64 14))]),none⟩::
  []
def F109.c35 : RCode := .cond (.t 111) (.reg F109.r18) .skip
def F109.c34 : RCode := .seq (.reg F109.r17) F109.c35
def F109.c33 : RCode := .seq (.reg F109.r16) F109.c34
def F109.r19 : List ROper :=
 ⟨some 114,.rd (.mv (.t 0)),none⟩::
 ⟨some 115,.rd (.fa 4 (.t 4)),none⟩::
 ⟨some 116,.rd (.load none (.t 115)),none⟩::
 ⟨some 117,.rd (.mv (.t 9)),none⟩::
 ⟨some 118,.rd (.ia 5 (.t 116) (.t 117)),none⟩::
 ⟨some 119,.rd (.load (some 5) (.t 118)),none⟩::
 ⟨some 120,.ef (.call 93 [(.t 114),(.t 119),(.c (.bool false))]),none⟩::
 ⟨some 12,.rd (.bx (some 3) (.t 120)),none⟩::
  []
def F109.r20 : List ROper :=
 ⟨some 121,.rd (.load (some 3) (.t 12)),none⟩::
 ⟨some 122,.rd (.fa 1 (.t 10)),none⟩::
 ⟨some 123,.rd (.load (some 3) (.t 122)),none⟩::
 ⟨some 124,.rd (.seq true [1,1,2] (.t 121) (.t 123)),none⟩::
  []
def F109.r21 : List ROper :=
 ⟨some 125,.rd (.mv (.t 0)),none⟩::
 ⟨some 126,.ef (.call 45 [(.t 125),(.c (.int .i64 14))]),none⟩::
  []
def F109.c38 : RCode := .cond (.t 124) (.reg F109.r21) .skip
def F109.c37 : RCode := .seq (.reg F109.r20) F109.c38
def F109.c36 : RCode := .seq (.reg F109.r19) F109.c37
def F109.c32 : RCode := .seq F109.c33 F109.c36
def F109.c28 : RCode := .seq F109.c29 F109.c32
def F109.c25 : RCode := .seq F109.c26 F109.c28
def F109.c24 : RCode := .seq (.reg F109.r12) F109.c25
def F109.c23 : RCode := .block 2 F109.c24
def F109.r22 : List ROper :=
 ⟨some 127,.rd (.bin .add (.t 65) (.c (.int .i64 1))),none⟩::
 ⟨some 65,.rd (.mv (.t 127)),none⟩::
  []
def F109.c22 : RCode := .seq F109.c23 (.reg F109.r22)
def F109.c20 : RCode := .seq F109.c21 F109.c22
def F109.c19 : RCode := .seq (.reg F109.r11) F109.c20
def F109.c18 : RCode := .loop F109.c19
def F109.c17 : RCode := .block 1 F109.c18
def F109.c16 : RCode := .seq (.reg F109.r10) F109.c17
def F109.r23 : List ROper :=
 ⟨some 128,.rd (.fa 2 (.t 7)),none⟩::
 ⟨some 129,.rd (.load none (.t 128)),none⟩::
 ⟨some 130,.rd (.nilc (.t 129)),none⟩::
 ⟨some 131,.rd (.fa 3 (.t 130)),none⟩::
 ⟨some 132,.rd (.load none (.t 131)),none⟩::
 ⟨some 133,.rd (.build [(.int .i64 0),(.int .i64 0),(.str (⟨#[]⟩ : ByteArray))] [(0,1,(.t 132))]),none⟩::
 ⟨none,.ef (.store 3 (.t 6) (.t 133)),none⟩::
  []
def F109.c39 : RCode := .seq (.reg F109.r23) .ret
def F109.c15 : RCode := .seq F109.c16 F109.c39
def F109.c3 : RCode := .seq F109.c4 F109.c15
def F109.c1 : RCode := .seq F109.c2 F109.c3
def F109.c0 : RCode := .seq (.reg F109.r0) F109.c1
theorem F109.calls {args : List AV} {h : AHeap} {K : AV → AHeap → Prop} (hn : args.length ≤ 134) (k : wT .go Go.Proofs.Try.prog 134 F109.c0 (fun x e h t => atEndT t [.cell 6 (some 3)] (EndW K) x e h) (envOf 0 args) h) : ACalls Go.Proofs.Try.prog 109 args h K :=
  acallsT [4] [7,10,12] 134 Go.Proofs.Try.func109 Go.Proofs.Try.ntmps109 (by kernel_rfl) (by kernel_rfl) hn k
/-- slices.Contains[[]int,int] -/
def F120.r0 : List ROper :=
 ⟨some 4,.rd (.mv (.c (.bool false))),none⟩::
  []
def F120.r1 : List ROper :=
 ⟨some 5,.rd (.mv (.t 0)),none⟩::
 ⟨some 6,.rd (.mv (.t 1)),none⟩::
 ⟨some 7,.ef (.call 125 [(.t 5),(.t 6)]),none⟩::
 ⟨some 8,.rd (.bin .geq (.t 7) (.c (.int .i64 0))),none⟩::
 ⟨some 4,.rd (.mv (.t 8)),none⟩::
  []
def F120.c1 : RCode := .seq (.reg F120.r1) .ret
def F120.c0 : RCode := .seq (.reg F120.r0) F120.c1
theorem F120.calls {args : List AV} {h : AHeap} {K : AV → AHeap → Prop} (hn : args.length ≤ 9) (k : wT .go Go.Proofs.Try.prog 9 F120.c0 (fun x e h t => atEndT t [.tmp 4] (EndW K) x e h) (envOf 0 args) h) : ACalls Go.Proofs.Try.prog 120 args h K :=
  acallsT [] [] 9 Go.Proofs.Try.func120 Go.Proofs.Try.ntmps120 (by kernel_rfl) (by kernel_rfl) hn k
/-- slices.Index[[]int,int] -/
def F125.r0 : List ROper :=
 ⟨some 4,.rd (.mv (.c (.int .i64 0))),none⟩::
  []
def F125.r1 : List ROper :=
 ⟨some 6,.rd (.mv (.t 0)),none⟩::
 ⟨some 7,.rd (.len 1 (.t 6)),none⟩::
 ⟨some 8,.rd (.mv (.c (.int .i64 0))),none⟩::
  []
def F125.r2 : List ROper :=
 ⟨some 9,.rd (.bin .lss (.t 8) (.t 7)),none⟩::
  []
def F125.c7 : RCode := .cond (.t 9) .skip (.exit 0)
def F125.r3 : List ROper :=
 ⟨some 10,.rd (.mv (.t 8)),none⟩::
 ⟨some 5,.rd (.mv (.t 10)),none⟩::
  []
def F125.r4 : List ROper :=
 ⟨some 11,.rd (.mv (.t 1)),none⟩::
 ⟨some 12,.rd (.mv (.t 0)),none⟩::
 ⟨some 13,.rd (.mv (.t 5)),none⟩::
 ⟨some 14,.rd (.ia 1 (.t 12) (.t 13)),none⟩::
 ⟨some 15,.rd (.load none (.t 14)),none⟩::
 ⟨some 16,.rd (.bin .eql (.t 11) (.t 15)),none⟩::
  []
def F125.r5 : List ROper :=
 ⟨some 17,.rd (.mv (.t 5)),none⟩::
 ⟨some 4,.rd (.mv (.t 17)),none⟩::
  []
def F125.c13 : RCode := .seq (.reg F125.r5) .ret
def F125.c12 : RCode := .cond (.t 16) F125.c13 .skip
def F125.c11 : RCode := .seq (.reg F125.r4) F125.c12
def F125.c10 : RCode := .seq (.reg F125.r3) F125.c11
def F125.c9 : RCode := .block 1 F125.c10
def F125.r6 : List ROper :=
 ⟨some 18,.rd (.bin .add (.t 8) (.c (.int .i64 1))),none⟩::
 ⟨some 8,.rd (.mv (.t 18)),none⟩::
  []
def F125.c8 : RCode := .seq F125.c9 (.reg F125.r6)
def F125.c6 : RCode := .seq F125.c7 F125.c8
def F125.c5 : RCode := .seq (.reg F125.r2) F125.c6
def F125.c4 : RCode := .loop F125.c5
def F125.c3 : RCode := .block 0 F125.c4
def F125.c2 : RCode := .seq (.reg F125.r1) F125.c3
def F125.r7 : List ROper :=
 ⟨some 4,.rd (.mv (.c (.int .i64 (-1)))),none⟩::
  []
def F125.c14 : RCode := .seq (.reg F125.r7) .ret
def F125.c1 : RCode := .seq F125.c2 F125.c14
def F125.c0 : RCode := .seq (.reg F125.r0) F125.c1
theorem F125.calls {args : List AV} {h : AHeap} {K : AV → AHeap → Prop} (hn : args.length ≤ 19) (k : wT .go Go.Proofs.Try.prog 19 F125.c0 (fun x e h t => atEndT t [.tmp 4] (EndW K) x e h) (envOf 0 args) h) : ACalls Go.Proofs.Try.prog 125 args h K :=
  acallsT [] [] 19 Go.Proofs.Try.func125 Go.Proofs.Try.ntmps125 (by kernel_rfl) (by kernel_rfl) hn k
end Pg
