import Derived.Test.YtpebidcmkjjpnaaGreatTreeS
import Derived.Test.YtpebidcmkjjpnaaGreatAwakeC
namespace Pg
open Go
set_option linter.unusedSimpArgs false
set_option linter.unusedVariables false
set_option maxHeartbeats 4000000
set_option maxRecDepth 4000
def rightC (p : Prg) : Bool := tPrg p && decide ((check p).2 = 0)
theorem Right_spec (h : AHeap) (p : Prg) (ho : p.ok) (ht : tPrg p = true) : ACalls Go.Proofs.Tryz.prog 7 [.agg (ePrg p)] h (fun v g => v = .bool (decide ((check p).2 = 0)) ∧ g = h) := by
  refine F7.calls (by simp) ?_
  delta F7.c0
  simp -implicitDefEqProofs only [↓pgPre,go_sem,seval, ePrg_len, prg_take]
  refine callT_of (Check_spec12 p ht ho h) (fun v g ⟨hv, hg⟩ => ?_)
  subst v g
  simp -implicitDefEqProofs only [↓pgPre,go_sem,seval]
  refine .same ⟨?_, rfl⟩
  simp only [right_same ht]
theorem right_bounds {p : Prg} (hr : rightC p = true) (hw : wP p ≤ 1048576) : wRs p.routines ≤ 274877906944 ∧ nwRs p.routines ≤ 274877906944 ∧ (check p).2 = 0 ∧ tPrg p = true := by
  unfold rightC at hr
  simp only [Bool.and_eq_true, decide_eq_true_eq] at hr
  have := prg_bounds hw
  exact ⟨this.1, this.2, hr.2, hr.1⟩
end Pg
