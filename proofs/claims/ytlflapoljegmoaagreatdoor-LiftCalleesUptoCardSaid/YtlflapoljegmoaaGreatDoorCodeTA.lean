import Derived.Test.YtlflapoljegmoaaGreatDoorK4A
import Derived.Test.YtlflapoljegmoaaGreatDoorProg
import Derived.KernelRfl
namespace Pg
open Go
set_option maxRecDepth 100000
set_option maxHeartbeats 4000000
noncomputable def F7.c0 : CodeT Go.Proofs.Tryz.prog 51 [3] [] Go.Proofs.Tryz.f7 := ⟨_, by with_unfolding_all (conv => lhs; reduce)⟩
theorem F7.calls [GI] : CallsT Go.Proofs.Tryz.prog 7 51 F7.c0.1 [.tmp 6] := acallsT _ _ _ Go.Proofs.Tryz.func7 Go.Proofs.Tryz.ntmps7 F7.c0.2 (by kernel_rfl)
end Pg
