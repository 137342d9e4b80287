import Derived.Test.YtdfbkddelhbgmaaGreatDoorCoreDS2
import Derived.Test.YtdfbkddelhbgmaaGreatDoorCodeR1S2
import Derived.Test.YtdfbkddelhbgmaaGreatDoorProg
import Derived.KernelRfl
namespace Pg
open Go Go.Proofs.Tryz
set_option maxRecDepth 100000
set_option maxHeartbeats 4000000
noncomputable def F230.s0 : SplitT prog 186 [3, 35] [5, 11, 12, 13, 15, 16] f230 := ⟨_, by with_unfolding_all (conv => lhs; reduce)⟩
theorem F230.calls [GI] : CallsDT prog 230 186 F230.s0.1 29 F235.c0.1 [.tmp 4] := acallsDT _ _ func230 ntmps230 F230.s0.2 (by kernel_rfl) func235 ntmps235 F235.c0.2 (by kernel_rfl) (by decide)
end Pg
