import Derived.Test.YtlflapoljegmoaaGreatDoorK4C
import Derived.Test.YtlflapoljegmoaaGreatDoorProg
import Derived.KernelRfl
namespace Pg
open Go
set_option maxRecDepth 100000
set_option maxHeartbeats 4000000
noncomputable def F15.c0 : CodeT Go.Proofs.Tryz.prog 12 [1] [] Go.Proofs.Tryz.f15 := ⟨_, by with_unfolding_all (conv => lhs; reduce)⟩
theorem F15.calls [GI] : CallsT Go.Proofs.Tryz.prog 15 12 F15.c0.1 [.tmp 2] := acallsT _ _ _ Go.Proofs.Tryz.func15 Go.Proofs.Tryz.ntmps15 F15.c0.2 (by kernel_rfl)
end Pg
