import Derived.Test.YtlflapoljegmoaaGreatDoorK4C
import Derived.Test.YtlflapoljegmoaaGreatDoorProg
import Derived.KernelRfl
namespace Pg
open Go
set_option maxRecDepth 100000
noncomputable def F43.c0 : CodeT Go.Proofs.Tryz.prog 32 [] [] Go.Proofs.Tryz.f43 := ⟨_, by with_unfolding_all (conv => lhs; reduce)⟩
theorem F43.calls [GI] : CallsT Go.Proofs.Tryz.prog 43 32 F43.c0.1 [.tmp 2] := acallsT _ _ _ Go.Proofs.Tryz.func43 Go.Proofs.Tryz.ntmps43 F43.c0.2 (by kernel_rfl)
noncomputable def F71.c0 : CodeT Go.Proofs.Tryz.prog 28 [1] [] Go.Proofs.Tryz.f71 := ⟨_, by with_unfolding_all (conv => lhs; reduce)⟩
theorem F71.calls [GI] : CallsT Go.Proofs.Tryz.prog 71 28 F71.c0.1 [.tmp 2] := acallsT _ _ _ Go.Proofs.Tryz.func71 Go.Proofs.Tryz.ntmps71 F71.c0.2 (by kernel_rfl)
noncomputable def F46.c0 : CodeT Go.Proofs.Tryz.prog 66 [] [] Go.Proofs.Tryz.f46 := ⟨_, by with_unfolding_all (conv => lhs; reduce)⟩
theorem F46.calls [GI] : CallsT Go.Proofs.Tryz.prog 46 66 F46.c0.1 [.tmp 2] := acallsT _ _ _ Go.Proofs.Tryz.func46 Go.Proofs.Tryz.ntmps46 F46.c0.2 (by kernel_rfl)
noncomputable def F44.c0 : CodeT Go.Proofs.Tryz.prog 29 [] [] Go.Proofs.Tryz.f44 := ⟨_, by with_unfolding_all (conv => lhs; reduce)⟩
theorem F44.calls [GI] : CallsT Go.Proofs.Tryz.prog 44 29 F44.c0.1 [.tmp 2] := acallsT _ _ _ Go.Proofs.Tryz.func44 Go.Proofs.Tryz.ntmps44 F44.c0.2 (by kernel_rfl)
noncomputable def F45.c0 : CodeT Go.Proofs.Tryz.prog 64 [] [5] Go.Proofs.Tryz.f45 := ⟨_, by with_unfolding_all (conv => lhs; reduce)⟩
theorem F45.calls [GI] : CallsT Go.Proofs.Tryz.prog 45 64 F45.c0.1 [.tmp 2] := acallsT _ _ _ Go.Proofs.Tryz.func45 Go.Proofs.Tryz.ntmps45 F45.c0.2 (by kernel_rfl)
noncomputable def F16.c0 : CodeT Go.Proofs.Tryz.prog 94 [1] [] Go.Proofs.Tryz.f16 := ⟨_, by with_unfolding_all (conv => lhs; reduce)⟩
theorem F16.calls [GI] : CallsT Go.Proofs.Tryz.prog 16 94 F16.c0.1 [.tmp 2] := acallsT _ _ _ Go.Proofs.Tryz.func16 Go.Proofs.Tryz.ntmps16 F16.c0.2 (by kernel_rfl)
end Pg
