import Derived.Test.YtlflapoljegmoaaGreatDoorK4B
import Derived.Test.YtlflapoljegmoaaGreatDoorProg
import Derived.KernelRfl
namespace Pg
open Go
set_option maxRecDepth 100000
set_option maxHeartbeats 4000000
noncomputable def F37.c0 : CodeT Go.Proofs.Tryz.prog 26 [] [] Go.Proofs.Tryz.f37 := ⟨_, by with_unfolding_all (conv => lhs; reduce)⟩
theorem F37.calls [GI] : CallsT Go.Proofs.Tryz.prog 37 26 F37.c0.1 [.tmp 4] := acallsT _ _ _ Go.Proofs.Tryz.func37 Go.Proofs.Tryz.ntmps37 F37.c0.2 (by kernel_rfl)
noncomputable def F64.c0 : CodeT Go.Proofs.Tryz.prog 38 [2,3] [] Go.Proofs.Tryz.f64 := ⟨_, by with_unfolding_all (conv => lhs; reduce)⟩
theorem F64.calls [GI] : CallsT Go.Proofs.Tryz.prog 64 38 F64.c0.1 [.tmp 4] := acallsT _ _ _ Go.Proofs.Tryz.func64 Go.Proofs.Tryz.ntmps64 F64.c0.2 (by kernel_rfl)
noncomputable def F65.c0 : CodeT Go.Proofs.Tryz.prog 27 [] [] Go.Proofs.Tryz.f65 := ⟨_, by with_unfolding_all (conv => lhs; reduce)⟩
theorem F65.calls [GI] : CallsT Go.Proofs.Tryz.prog 65 27 F65.c0.1 [.tmp 4] := acallsT _ _ _ Go.Proofs.Tryz.func65 Go.Proofs.Tryz.ntmps65 F65.c0.2 (by kernel_rfl)
noncomputable def F38.c0 : CodeT Go.Proofs.Tryz.prog 17 [2,3] [] Go.Proofs.Tryz.f38 := ⟨_, by with_unfolding_all (conv => lhs; reduce)⟩
theorem F38.calls [GI] : CallsT Go.Proofs.Tryz.prog 38 17 F38.c0.1 [.tmp 4] := acallsT _ _ _ Go.Proofs.Tryz.func38 Go.Proofs.Tryz.ntmps38 F38.c0.2 (by kernel_rfl)
noncomputable def F41.c0 : CodeT Go.Proofs.Tryz.prog 107 [] [6,7] Go.Proofs.Tryz.f41 := ⟨_, by with_unfolding_all (conv => lhs; reduce)⟩
theorem F41.calls [GI] : CallsT Go.Proofs.Tryz.prog 41 107 F41.c0.1 [.tmp 4] := acallsT _ _ _ Go.Proofs.Tryz.func41 Go.Proofs.Tryz.ntmps41 F41.c0.2 (by kernel_rfl)
noncomputable def F39.c0 : CodeT Go.Proofs.Tryz.prog 55 [] [] Go.Proofs.Tryz.f39 := ⟨_, by with_unfolding_all (conv => lhs; reduce)⟩
theorem F39.calls [GI] : CallsT Go.Proofs.Tryz.prog 39 55 F39.c0.1 [.tmp 4] := acallsT _ _ _ Go.Proofs.Tryz.func39 Go.Proofs.Tryz.ntmps39 F39.c0.2 (by kernel_rfl)
noncomputable def F40.c0 : CodeT Go.Proofs.Tryz.prog 105 [] [6,7] Go.Proofs.Tryz.f40 := ⟨_, by with_unfolding_all (conv => lhs; reduce)⟩
theorem F40.calls [GI] : CallsT Go.Proofs.Tryz.prog 40 105 F40.c0.1 [.tmp 4] := acallsT _ _ _ Go.Proofs.Tryz.func40 Go.Proofs.Tryz.ntmps40 F40.c0.2 (by kernel_rfl)
noncomputable def F13.c0 : CodeT Go.Proofs.Tryz.prog 172 [2,3] [6,7] Go.Proofs.Tryz.f13 := ⟨_, by with_unfolding_all (conv => lhs; reduce)⟩
theorem F13.calls [GI] : CallsT Go.Proofs.Tryz.prog 13 172 F13.c0.1 [.tmp 4] := acallsT _ _ _ Go.Proofs.Tryz.func13 Go.Proofs.Tryz.ntmps13 F13.c0.2 (by kernel_rfl)
noncomputable def F5.c0 : CodeT Go.Proofs.Tryz.prog 46 [1] [4] Go.Proofs.Tryz.f5 := ⟨_, by with_unfolding_all (conv => lhs; reduce)⟩
theorem F5.calls [GI] : CallsT Go.Proofs.Tryz.prog 5 46 F5.c0.1 [.tmp 2] := acallsT _ _ _ Go.Proofs.Tryz.func5 Go.Proofs.Tryz.ntmps5 F5.c0.2 (by kernel_rfl)
end Pg
