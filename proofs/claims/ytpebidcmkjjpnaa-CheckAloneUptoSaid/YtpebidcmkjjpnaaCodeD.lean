import Derived.Test.YtpebidcmkjjpnaaK4
import Derived.Test.YtpebidcmkjjpnaaProg
import Derived.KernelRfl
namespace Pg
open Go
set_option maxRecDepth 10000
/-- pantograph/pantographlaw12.CheckAlone -/
def F4.r0 : List ROper :=
 ⟨some 1,.rd (.bx none (.t 0)),none⟩::
 ⟨some 2,.rd (.mv (.c (.bool false))),none⟩::
  []
def F4.r1 : List ROper :=
 ⟨some 8,.rd (.load (some 9) (.t 1)),none⟩::
 ⟨some 9,.ef (.call 11 [(.c (.int .i64 0)),(.t 8)]),none⟩::
 ⟨some 10,.rd (.un .not (.t 9)),none⟩::
 ⟨some 11,.rd (.mv (.t 10)),none⟩::
 ⟨some 12,.rd (.fa 5 (.t 1)),some (11,false)⟩::
 ⟨some 13,.rd (.load none (.t 12)),some (11,false)⟩::
 ⟨some 14,.rd (.len 1 (.t 13)),some (11,false)⟩::
 ⟨some 15,.rd (.bin .geq (.t 14) (.c (.int .i64 512))),some (11,false)⟩::
 ⟨some 16,.rd (.pick (.t 11) (.c (.bool true)) (.t 15)),none⟩::
 ⟨some 17,.rd (.mv (.t 16)),none⟩::
 ⟨some 18,.rd (.load (some 9) (.t 1)),some (17,false)⟩::
 ⟨some 19,.ef (.call 13 [(.t 18)]),some (17,false)⟩::
 ⟨some 20,.ef (.call 17 [(.t 19),(.c (.str (⟨#[122,122,122]⟩ : ByteArray)))]),some (17,false)⟩::
 ⟨some 21,.rd (.pick (.t 17) (.c (.bool true)) (.t 20)),none⟩::
  []
def F4.r2 : List ROper :=
 ⟨some 22,.ef (.call 12 []),none⟩::
 ⟨some 2,.rd (.mv (.t 22)),none⟩::
  []
def F4.c4 : RCode := .seq (.reg F4.r2) .ret
def F4.c3 : RCode := .cond (.t 21) F4.c4 .skip
def F4.c2 : RCode := .seq (.reg F4.r1) F4.c3
def F4.r3 : List ROper :=
 ⟨some 24,.rd (.load (some 9) (.t 1)),none⟩::
 ⟨some 25,.ef (.call 15 [(.t 24)]),none⟩::
 ⟨some 23,.rd (.mv (.t 25)),none⟩::
 ⟨some 26,.rd (.ext (.t 23) 0),none⟩::
 ⟨some 27,.rd (.ext (.t 23) 1),none⟩::
 ⟨some 3,.rd (.mv (.t 26)),none⟩::
 ⟨some 4,.rd (.mv (.t 27)),none⟩::
  []
def F4.r4 : List ROper :=
 ⟨some 28,.rd (.load (some 9) (.t 1)),none⟩::
 ⟨some 5,.ef (.alloc 28 [(.str (⟨#[]⟩ : ByteArray)),(.sl [] true),(.sl [] true),(.sl [] true),(.sl [] true),(.sl [] true),(.sl [] true),(.sl [] true),(.sl [] true)]),none⟩::
 ⟨none,.ef (.store 9 (.t 5) (.t 28)),none⟩::
  []
def F4.r5 : List ROper :=
 ⟨some 29,.rd (.bsl 6 0 [] []),none⟩::
 ⟨some 30,.rd (.fa 5 (.t 1)),none⟩::
 ⟨some 31,.rd (.load none (.t 30)),none⟩::
 ⟨some 32,.ef (.append 47 6 96 (.t 29) (.t 31)),none⟩::
 ⟨some 33,.rd (.build [(.int .i64 0),(.int .i64 0),(.str (⟨#[]⟩ : ByteArray))] [(0,1,(.c (.int .i64 1)))]),none⟩::
 ⟨some 34,.rd (.build [(.sl [] true),(.sl [] true),(.str (⟨#[]⟩ : ByteArray)),(.int .i64 0),(.int .i64 0),(.str (⟨#[]⟩ : ByteArray))] [(2,1,(.c (.str (⟨#[122,122,122]⟩ : ByteArray)))),(3,3,(.t 33))]),none⟩::
 ⟨some 35,.rd (.bsl 6 1 [(.sl [] true),(.sl [] true),(.str (⟨#[]⟩ : ByteArray)),(.int .i64 0),(.int .i64 0),(.str (⟨#[]⟩ : ByteArray))] [(0,6,(.t 34))]),none⟩::
 ⟨some 36,.ef (.append 47 6 96 (.t 32) (.t 35)),none⟩::
 ⟨some 37,.rd (.fa 5 (.t 5)),none⟩::
 ⟨none,.ef (.store 1 (.t 37) (.t 36)),none⟩::
  []
def F4.r6 : List ROper :=
 ⟨some 39,.rd (.load (some 9) (.t 5)),none⟩::
 ⟨some 40,.ef (.call 15 [(.t 39)]),none⟩::
 ⟨some 38,.rd (.mv (.t 40)),none⟩::
 ⟨some 41,.rd (.ext (.t 38) 0),none⟩::
 ⟨some 42,.rd (.ext (.t 38) 1),none⟩::
 ⟨some 6,.rd (.mv (.t 41)),none⟩::
 ⟨some 7,.rd (.mv (.t 42)),none⟩::
  []
def F4.r7 : List ROper :=
 ⟨some 43,.rd (.mv (.t 4)),none⟩::
 ⟨some 44,.rd (.bin .neq (.t 43) (.c (.int .i64 0))),none⟩::
 ⟨some 45,.rd (.mv (.t 44)),none⟩::
 ⟨some 46,.rd (.mv (.t 3)),some (45,true)⟩::
 ⟨some 47,.rd (.fa 4 (.t 1)),some (45,true)⟩::
 ⟨some 48,.rd (.load none (.t 47)),some (45,true)⟩::
 ⟨some 49,.rd (.len 1 (.t 48)),some (45,true)⟩::
 ⟨some 50,.rd (.fa 5 (.t 1)),some (45,true)⟩::
 ⟨some 51,.rd (.load none (.t 50)),some (45,true)⟩::
 ⟨some 52,.rd (.len 1 (.t 51)),some (45,true)⟩::
 ⟨some 53,.rd (.bin .add (.t 49) (.t 52)),some (45,true)⟩::
 ⟨some 54,.rd (.bin .geq (.t 46) (.t 53)),some (45,true)⟩::
 ⟨some 55,.rd (.pick (.t 45) (.t 54) (.c (.bool false))),none⟩::
  []
def F4.r8 : List ROper :=
 ⟨some 56,.rd (.mv (.t 3)),none⟩::
 ⟨some 57,.rd (.bin .add (.t 56) (.c (.int .i64 1))),none⟩::
 ⟨some 3,.rd (.mv (.t 57)),none⟩::
  []
def F4.c11 : RCode := .cond (.t 55) (.reg F4.r8) .skip
def F4.c10 : RCode := .seq (.reg F4.r7) F4.c11
def F4.r9 : List ROper :=
 ⟨some 58,.rd (.mv (.t 3)),none⟩::
 ⟨some 59,.rd (.mv (.t 6)),none⟩::
 ⟨some 60,.rd (.bin .eql (.t 58) (.t 59)),none⟩::
 ⟨some 61,.rd (.mv (.t 60)),none⟩::
 ⟨some 62,.rd (.mv (.t 4)),some (61,true)⟩::
 ⟨some 63,.rd (.mv (.t 7)),some (61,true)⟩::
 ⟨some 64,.rd (.bin .eql (.t 62) (.t 63)),some (61,true)⟩::
 ⟨some 65,.rd (.pick (.t 61) (.t 64) (.c (.bool false))),none⟩::
 ⟨some 66,.rd (.mv (.t 65)),none⟩::
 ⟨some 67,.ef (.call 12 []),some (66,true)⟩::
 ⟨some 68,.rd (.pick (.t 66) (.t 67) (.c (.bool false))),none⟩::
 ⟨some 2,.rd (.mv (.t 68)),none⟩::
  []
def F4.c12 : RCode := .seq (.reg F4.r9) .ret
def F4.c9 : RCode := .seq F4.c10 F4.c12
def F4.c8 : RCode := .seq (.reg F4.r6) F4.c9
def F4.c7 : RCode := .seq (.reg F4.r5) F4.c8
def F4.c6 : RCode := .seq (.reg F4.r4) F4.c7
def F4.c5 : RCode := .seq (.reg F4.r3) F4.c6
def F4.c1 : RCode := .seq F4.c2 F4.c5
def F4.c0 : RCode := .seq (.reg F4.r0) F4.c1
theorem F4.calls {args : List AV} {h : AHeap} {K : AV → AHeap → Prop} (hn : args.length ≤ 69) (k : wT .go Go.Proofs.Try.prog 69 F4.c0 (fun x e h t => atEndT t [.tmp 2] (EndW K) x e h) (envOf 0 args) h) : ACalls Go.Proofs.Try.prog 4 args h K :=
  acallsT [1] [] 69 Go.Proofs.Try.func4 Go.Proofs.Try.ntmps4 (by kernel_rfl) (by kernel_rfl) hn k
end Pg
