import Derived.Test.YtlflapoljegmoaaGreatDoorK4E
import Derived.Test.YtlflapoljegmoaaGreatDoorProg
import Derived.KernelRfl
namespace Pg
open Go Go.Proofs.Tryz
set_option maxRecDepth 100000
set_option maxHeartbeats 4000000
noncomputable def F14.c0 : CodeT prog 19 [1] [] f14 := ⟨_, by with_unfolding_all (conv => lhs; reduce)⟩
theorem F14.calls [GI] : CallsT prog 14 19 F14.c0.1 [.tmp 2] := acallsT _ _ _ func14 ntmps14 F14.c0.2 (by kernel_rfl)
noncomputable def F4.c0 : CodeT prog 28 [1] [3] f4 := ⟨_, by with_unfolding_all (conv => lhs; reduce)⟩
theorem F4.calls [GI] : CallsT prog 4 28 F4.c0.1 [.tmp 2] := acallsT _ _ _ func4 ntmps4 F4.c0.2 (by kernel_rfl)
end Pg

namespace Pg
open Go Go.Proofs.Tryz
set_option maxRecDepth 100000
set_option maxHeartbeats 4000000
noncomputable def F29.c0 : CodeT prog 47 [] [7] f29 := ⟨_, by with_unfolding_all (conv => lhs; reduce)⟩
theorem F29.calls [GI] : CallsT prog 29 47 F29.c0.1 [] := acallsT _ _ _ func29 ntmps29 F29.c0.2 (by kernel_rfl)
noncomputable def F27.c0 : CodeT prog 25 [1] [] f27 := ⟨_, by with_unfolding_all (conv => lhs; reduce)⟩
theorem F27.calls [GI] : CallsT prog 27 25 F27.c0.1 [.tmp 2,.tmp 3] := acallsT _ _ _ func27 ntmps27 F27.c0.2 (by kernel_rfl)
noncomputable def F47.c0 : CodeT prog 45 [] [8] f47 := ⟨_, by with_unfolding_all (conv => lhs; reduce)⟩
theorem F47.calls [GI] : CallsT prog 47 45 F47.c0.1 [.tmp 6] := acallsT _ _ _ func47 ntmps47 F47.c0.2 (by kernel_rfl)
noncomputable def F60.c0 : CodeT prog 31 [2] [] f60 := ⟨_, by with_unfolding_all (conv => lhs; reduce)⟩
theorem F60.calls [GI] : CallsT prog 60 31 F60.c0.1 [.tmp 4] := acallsT _ _ _ func60 ntmps60 F60.c0.2 (by kernel_rfl)
noncomputable def F97.c0 : CodeT prog 50 [2] [7] f97 := ⟨_, by with_unfolding_all (conv => lhs; reduce)⟩
theorem F97.calls [GI] : CallsT prog 97 50 F97.c0.1 [.cell 4 (some 5)] := acallsT _ _ _ func97 ntmps97 F97.c0.2 (by kernel_rfl)
noncomputable def F30.c0 : CodeT prog 42 [2] [] f30 := ⟨_, by with_unfolding_all (conv => lhs; reduce)⟩
theorem F30.calls [GI] : CallsT prog 30 42 F30.c0.1 [.tmp 4] := acallsT _ _ _ func30 ntmps30 F30.c0.2 (by kernel_rfl)
noncomputable def F9.c0 : CodeT prog 93 [1] [] f9 := ⟨_, by with_unfolding_all (conv => lhs; reduce)⟩
theorem F9.calls [GI] : CallsT prog 9 93 F9.c0.1 [.cell 2 (some 9),.tmp 3] := acallsT _ _ _ func9 ntmps9 F9.c0.2 (by kernel_rfl)
noncomputable def F18.c0 : CodeT prog 33 [3] [] f18 := ⟨_, by with_unfolding_all (conv => lhs; reduce)⟩
theorem F18.calls [GI] : CallsT prog 18 33 F18.c0.1 [.tmp 6] := acallsT _ _ _ func18 ntmps18 F18.c0.2 (by kernel_rfl)
end Pg
