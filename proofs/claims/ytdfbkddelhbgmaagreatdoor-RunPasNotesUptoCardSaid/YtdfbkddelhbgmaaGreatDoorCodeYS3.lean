import Derived.Test.YtdfbkddelhbgmaaGreatDoorCoreDS3
import Derived.Test.YtdfbkddelhbgmaaGreatDoorCodeR1S3
import Derived.Test.YtdfbkddelhbgmaaGreatDoorProg
import Derived.KernelRfl
namespace Pg
open Go Go.Proofs.Tryz
set_option maxRecDepth 100000
set_option maxHeartbeats 4000000
noncomputable def RS.s0 : aFs prog 186 [3, 35] [5, 11, 12, 13, 15, 16] f230 := ⟨_, by with_unfolding_all (conv => lhs; reduce)⟩
theorem RS.calls [GI] : W7 prog 230 186 RS.s0.1 29 MG.c0.1 [.tmp 4] := aC3 _ _ func230 ntmps230 RS.s0.2 (by kernel_rfl) func235 ntmps235 MG.c0.2 (by kernel_rfl) (by decide)
end Pg
