import Derived.Test.YtdfbkddelhbgmaaGreatDoorK4S2
import Derived.Test.YtdfbkddelhbgmaaGreatDoorWeighS2
import Derived.Test.YtdfbkddelhbgmaaGreatDoorRows
namespace Go.Proofs.YtdfbkddelhbgmaaGreatDoor
open Go Go.ChangeShapes Go.WideShapes Pg
set_option linter.all false
set_option maxRecDepth 4000
theorem ownT : ownKnob Tryz.prog.godebug = none := by kernel_rfl
theorem laidT : laidOutB Tryz.prog = true := by kernel_rfl
section
variable {H : Type} {enc : TypeId × Value → H} {W : World} {n : Nat}
theorem wf_i64 {x : Int} (h : (Lit.int .i64 x).wf = true) : i64 x := by
 simp only [Lit.wf, Bool.and_eq_true, decide_eq_true_eq] at h
 exact h
end
end Go.Proofs.YtdfbkddelhbgmaaGreatDoor
