import Derived.Test.YtlflapoljegmoaaGreatDoorK4C
import Derived.Test.YtlflapoljegmoaaGreatDoorProg
import Derived.KernelRfl
namespace Pg
open Go
set_option maxRecDepth 100000
set_option maxHeartbeats 4000000
noncomputable def F6.c0 : CodeT Go.Proofs.Tryz.prog 45 [1] [3] Go.Proofs.Tryz.f6 := ⟨_, by with_unfolding_all (conv => lhs; reduce)⟩
theorem F6.calls [GI] : CallsT Go.Proofs.Tryz.prog 6 45 F6.c0.1 [.tmp 2] := acallsT _ _ _ Go.Proofs.Tryz.func6 Go.Proofs.Tryz.ntmps6 F6.c0.2 (by kernel_rfl)
end Pg
