import Derived.Test.YtdfbkddelhbgmaaGreatDoorK4S2
import Derived.Test.YtdfbkddelhbgmaaGreatDoorProg
import Derived.KernelRfl
namespace Pg
open Go Go.Proofs.Tryz
set_option maxRecDepth 100000
set_option maxHeartbeats 4000000
noncomputable def F72.c0 : CodeT prog 6 [] [] f72 := ⟨_, by with_unfolding_all (conv => lhs; reduce)⟩
theorem F72.calls [GI] : CallsT prog 72 6 F72.c0.1 [.tmp 2] := acallsT _ _ _ func72 ntmps72 F72.c0.2 (by kernel_rfl)
noncomputable def F27.c0 : CodeT prog 15 [] [] f27 := ⟨_, by with_unfolding_all (conv => lhs; reduce)⟩
theorem F27.calls [GI] : CallsT prog 27 15 F27.c0.1 [.tmp 6] := acallsT _ _ _ func27 ntmps27 F27.c0.2 (by kernel_rfl)
noncomputable def F11.c0 : CodeT prog 55 [3,30,36] [] f11 := ⟨_, by with_unfolding_all (conv => lhs; reduce)⟩
theorem F11.calls [GI] : CallsT prog 11 55 F11.c0.1 [.cell 6 (some 3)] := acallsT _ _ _ func11 ntmps11 F11.c0.2 (by kernel_rfl)
end Pg
