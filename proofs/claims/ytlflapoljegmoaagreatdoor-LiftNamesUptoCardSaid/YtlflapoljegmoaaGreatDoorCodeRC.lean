import Derived.Test.YtlflapoljegmoaaGreatDoorK4C
import Derived.Test.YtlflapoljegmoaaGreatDoorProg
import Derived.KernelRfl
namespace Pg
open Go
set_option maxRecDepth 100000
set_option maxHeartbeats 4000000
noncomputable def F29.c0 : CodeT Go.Proofs.Tryz.prog 47 [] [7] Go.Proofs.Tryz.f29 := ⟨_, by with_unfolding_all (conv => lhs; reduce)⟩
theorem F29.calls [GI] : CallsT Go.Proofs.Tryz.prog 29 47 F29.c0.1 [] := acallsT _ _ _ Go.Proofs.Tryz.func29 Go.Proofs.Tryz.ntmps29 F29.c0.2 (by kernel_rfl)
noncomputable def F27.c0 : CodeT Go.Proofs.Tryz.prog 25 [1] [] Go.Proofs.Tryz.f27 := ⟨_, by with_unfolding_all (conv => lhs; reduce)⟩
theorem F27.calls [GI] : CallsT Go.Proofs.Tryz.prog 27 25 F27.c0.1 [.tmp 2,.tmp 3] := acallsT _ _ _ Go.Proofs.Tryz.func27 Go.Proofs.Tryz.ntmps27 F27.c0.2 (by kernel_rfl)
noncomputable def F47.c0 : CodeT Go.Proofs.Tryz.prog 45 [] [8] Go.Proofs.Tryz.f47 := ⟨_, by with_unfolding_all (conv => lhs; reduce)⟩
theorem F47.calls [GI] : CallsT Go.Proofs.Tryz.prog 47 45 F47.c0.1 [.tmp 6] := acallsT _ _ _ Go.Proofs.Tryz.func47 Go.Proofs.Tryz.ntmps47 F47.c0.2 (by kernel_rfl)
noncomputable def F60.c0 : CodeT Go.Proofs.Tryz.prog 31 [2] [] Go.Proofs.Tryz.f60 := ⟨_, by with_unfolding_all (conv => lhs; reduce)⟩
theorem F60.calls [GI] : CallsT Go.Proofs.Tryz.prog 60 31 F60.c0.1 [.tmp 4] := acallsT _ _ _ Go.Proofs.Tryz.func60 Go.Proofs.Tryz.ntmps60 F60.c0.2 (by kernel_rfl)
noncomputable def F97.c0 : CodeT Go.Proofs.Tryz.prog 50 [2] [7] Go.Proofs.Tryz.f97 := ⟨_, by with_unfolding_all (conv => lhs; reduce)⟩
theorem F97.calls [GI] : CallsT Go.Proofs.Tryz.prog 97 50 F97.c0.1 [.cell 4 (some 5)] := acallsT _ _ _ Go.Proofs.Tryz.func97 Go.Proofs.Tryz.ntmps97 F97.c0.2 (by kernel_rfl)
noncomputable def F30.c0 : CodeT Go.Proofs.Tryz.prog 42 [2] [] Go.Proofs.Tryz.f30 := ⟨_, by with_unfolding_all (conv => lhs; reduce)⟩
theorem F30.calls [GI] : CallsT Go.Proofs.Tryz.prog 30 42 F30.c0.1 [.tmp 4] := acallsT _ _ _ Go.Proofs.Tryz.func30 Go.Proofs.Tryz.ntmps30 F30.c0.2 (by kernel_rfl)
noncomputable def F9.c0 : CodeT Go.Proofs.Tryz.prog 93 [1] [] Go.Proofs.Tryz.f9 := ⟨_, by with_unfolding_all (conv => lhs; reduce)⟩
theorem F9.calls [GI] : CallsT Go.Proofs.Tryz.prog 9 93 F9.c0.1 [.cell 2 (some 9),.tmp 3] := acallsT _ _ _ Go.Proofs.Tryz.func9 Go.Proofs.Tryz.ntmps9 F9.c0.2 (by kernel_rfl)
noncomputable def F18.c0 : CodeT Go.Proofs.Tryz.prog 33 [3] [] Go.Proofs.Tryz.f18 := ⟨_, by with_unfolding_all (conv => lhs; reduce)⟩
theorem F18.calls [GI] : CallsT Go.Proofs.Tryz.prog 18 33 F18.c0.1 [.tmp 6] := acallsT _ _ _ Go.Proofs.Tryz.func18 Go.Proofs.Tryz.ntmps18 F18.c0.2 (by kernel_rfl)
end Pg
