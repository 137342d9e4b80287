import Derived.Test.YtpebidcmkjjpnaaCore20
import Derived.Test.YtpebidcmkjjpnaaProg
import Derived.KernelRfl
namespace Pg
open Go
set_option maxRecDepth 10000
/-- pantograph/pantographlaw12.CheckEnds -/
def F5.r0 : List ROper :=
  ⟨some 3, .rd (.bx none (.t 1)), none⟩ ::
  ⟨some 4, .rd (.mv (.c (.bool false))), none⟩ ::
  []
def F5.r1 : List ROper :=
  ⟨some 5, .rd (.mv (.t 0)), none⟩ ::
  ⟨some 7, .rd (.mv (.t 0)), none⟩ ::
  ⟨some 6, .ef (.call 18 [(.t 5)]), none⟩ ::
  ⟨some 8, .ef (.call 19 [(.t 7)]), none⟩ ::
  ⟨some 9, .rd (.beq false (.t 6) (.t 8)), none⟩ ::
  ⟨some 10, .rd (.mv (.t 9)), none⟩ ::
  ⟨some 11, .rd (.load (some 9) (.t 3)), some (10, true)⟩ ::
  ⟨some 13, .rd (.load (some 9) (.t 3)), some (10, true)⟩ ::
  ⟨some 12, .ef (.call 20 [(.t 11)]), some (10, true)⟩ ::
  ⟨some 14, .ef (.call 21 [(.t 13)]), some (10, true)⟩ ::
  ⟨some 15, .rd (.bin .eql (.t 12) (.t 14)), some (10, true)⟩ ::
  ⟨some 16, .rd (.pick (.t 10) (.t 15) (.c (.bool false))), none⟩ ::
  ⟨some 17, .rd (.mv (.t 16)), none⟩ ::
  ⟨some 18, .ef (.call 12 []), some (17, true)⟩ ::
  ⟨some 19, .rd (.pick (.t 17) (.t 18) (.c (.bool false))), none⟩ ::
  ⟨some 4, .rd (.mv (.t 19)), none⟩ ::
  []
def F5.c1 : RCode := .seq (.dreg F5.r1) .ret
def F5.c0 : RCode := .seq (.reg F5.r0) F5.c1
theorem F5.calls {args : List AV} {h : AHeap} {K : AV → AHeap → Prop} (hn : args.length ≤ 20) (k : wT .go Go.Proofs.Try.prog 20 F5.c0 (fun x e h t => atEndT t [.tmp 4] (EndW K) x e h) (envOf 0 args) h) : ACalls Go.Proofs.Try.prog 5 args h K :=
  acallsT [3] [] 20 Go.Proofs.Try.func5 Go.Proofs.Try.ntmps5 (by kernel_rfl) (by kernel_rfl) hn k
end Pg
