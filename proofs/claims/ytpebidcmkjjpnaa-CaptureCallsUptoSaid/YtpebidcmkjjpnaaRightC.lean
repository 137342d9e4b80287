import Derived.Test.YtpebidcmkjjpnaaTreeS
import Derived.Test.YtpebidcmkjjpnaaAwakeC
namespace Pg
open Go
set_option linter.unusedSimpArgs false
set_option linter.unusedVariables false
set_option maxHeartbeats 4000000
set_option maxRecDepth 4000
/-- A program that is right, and makes sense. -/
def rightC (p : Prg) : Bool := tPrg p && decide ((check p).2 = 0)
theorem rightC_spec (h : AHeap) (p : Prg) (ho : p.ok) (hf : p.fit) : ACalls Go.Proofs.Try.prog 22 [.agg (ePrg p)] h (fun v g => v = .bool (rightC p) ∧ g = h) := by
  have R_spec : tPrg p = true → ACalls Go.Proofs.Try.prog 59 [.agg (ePrg p)] h (fun v g => v = .bool (decide ((check p).2 = 0)) ∧ g = h) := by
    intro ht
    refine F59.calls (by simp) ?_
    delta F59.c0
    simp -implicitDefEqProofs only [↓pgPre,go_sem,seval, ePrg_len, prg_take]
    refine callT_of (Check_spec12 p ht ho h) (fun v g ⟨hv, hg⟩ => ?_)
    subst v g
    simp -implicitDefEqProofs only [↓pgPre,go_sem,seval]
    refine .same ⟨?_, rfl⟩
    simp only [right_same ht]
  refine F22.calls (by simp) ?_
  delta F22.c0
  simp -implicitDefEqProofs only [↓pgPre,go_sem,seval, ePrg_len, prg_take]
  refine callT_of (tPrg_spec p ho hf h) (fun v g ⟨hv, hg⟩ => ?_)
  subst v g
  cases ht : tPrg p with
  | false =>
    simp -implicitDefEqProofs only [↓pgPre,go_sem,seval]
    exact .same ⟨by simp [rightC, ht], rfl⟩
  | true =>
    simp -implicitDefEqProofs only [↓pgPre,go_sem,seval, ePrg_len, prg_take]
    refine callT_of (R_spec ht) (fun v g ⟨hv, hg⟩ => ?_)
    subst v g
    simp -implicitDefEqProofs only [↓pgPre,go_sem,seval]
    exact .same ⟨by simp [rightC, ht], rfl⟩
theorem right_bounds {p : Prg} (hr : rightC p = true) (hw : wP p ≤ 1048576) : wRs p.routines ≤ 274877906944 ∧ nwRs p.routines ≤ 274877906944 ∧ (check p).2 = 0 ∧ tPrg p = true := by
  unfold rightC at hr
  simp only [Bool.and_eq_true, decide_eq_true_eq] at hr
  have := prg_bounds hw
  exact ⟨this.1, this.2, hr.2, hr.1⟩
end Pg
