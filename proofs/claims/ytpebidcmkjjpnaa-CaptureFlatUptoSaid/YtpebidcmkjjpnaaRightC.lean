import Derived.Test.YtpebidcmkjjpnaaTreeS
import Derived.Test.YtpebidcmkjjpnaaAwakeC
namespace Pg
open Go
set_option linter.unusedSimpArgs false
set_option linter.unusedVariables false
set_option maxHeartbeats 4000000
set_option maxRecDepth 4000
/-- A program that is right, and makes sense. -/
def rightC (p : Prg) : Bool := tPrg p && decide ((check p).2 = 0)
theorem rightC_spec (h : AHeap) (p : Prg) (ho : p.ok) (hf : p.fit) : ACalls Go.Proofs.Try.prog 22 [.agg (ePrg p)] h (fun v g => v = .bool (rightC p) ∧ g = h) := by
  have R_spec : tPrg p = true → ACalls Go.Proofs.Try.prog 59 [.agg (ePrg p)] h (fun v g => v = .bool (decide ((check p).2 = 0)) ∧ g = h) := by
    intro ht
    refine F59.calls (by simp) ?_
    delta F59.c0
    simp -implicitDefEqProofs only [↓pgPre,go_sem,↓reduceIte,reduceCtorEq,seval, ePrg_len, prg_take]
    refine callT_of (Check_spec12 p ht ho h) (fun v g ⟨hv, hg⟩ => ?_)
    subst v g
    simp -implicitDefEqProofs only [↓pgPre,go_sem,↓reduceIte,reduceCtorEq,seval]
    refine .same ⟨?_, rfl⟩
    simp only [right_same ht]
  refine F22.calls (by simp) ?_
  delta F22.c0
  simp -implicitDefEqProofs only [↓pgPre,go_sem,↓reduceIte,reduceCtorEq,seval, ePrg_len, prg_take]
  refine callT_of (tPrg_spec p ho hf h) (fun v g ⟨hv, hg⟩ => ?_)
  subst v g
  cases ht : tPrg p with
  | false =>
    simp -implicitDefEqProofs only [↓pgPre,go_sem,↓reduceIte,reduceCtorEq,seval]
    exact .same ⟨by simp [rightC, ht], rfl⟩
  | true =>
    simp -implicitDefEqProofs only [↓pgPre,go_sem,↓reduceIte,reduceCtorEq,seval, ePrg_len, prg_take]
    refine callT_of (R_spec ht) (fun v g ⟨hv, hg⟩ => ?_)
    subst v g
    simp -implicitDefEqProofs only [↓pgPre,go_sem,↓reduceIte,reduceCtorEq,seval]
    exact .same ⟨by simp [rightC, ht], rfl⟩
theorem nw_right : ∀ (n : Nat) (l : List Routine) (ahead : List ByteArray) (d : Int), Routines.sz l < n → tRoutines ahead l d = true → nwRs l ≤ 33 * rcnts l
  | 0, l, _, _, h, _ => by omega
  | n + 1, [], _, _, _, _ => by simp [nwRs]
  | n + 1, x :: l, ahead, d, h, ht => by
    have hz := Routine.sz_eq x
    simp only [Routines.sz] at h
    simp only [tRoutines, Bool.and_eq_true] at ht
    have hx := tRoutine_ok ht.1
    have h1 := nw_right n x.inner [] (d + 1) (by omega) hx.inner
    have h2 := nw_right n l _ d (by omega) ht.2
    have hn := ht.1
    rw [tRoutine_eq] at hn
    simp only [Bool.and_eq_true] at hn
    have hnn := hn.1.1.1.1.1.1.1.2
    have hs : x.name.size ≤ 32 := by
      unfold tName nameCode at hnn
      simp only [Bool.and_eq_true, decide_eq_true_eq] at hnn
      have := hnn.1
      split at this
      · cases this
      · split at this
        · split at this
          · cases this
          · omega
        · cases this
    simp only [nwRs, rcnts, nwR_eq, rcnt_eq]
    omega
theorem right_bounds {p : Prg} (hr : rightC p = true) (hw : wP p ≤ 1048576) : wRs p.routines ≤ 274877906944 ∧ nwRs p.routines ≤ 274877906944 ∧ (check p).2 = 0 ∧ tPrg p = true := by
  unfold rightC at hr
  simp only [Bool.and_eq_true, decide_eq_true_eq] at hr
  have po := tPrg_ok hr.1
  have h1 := nw_right _ p.routines [] 1 (Nat.lt_succ_self _) po.routines
  have h2 := rcnts_le _ p.routines (Nat.le_refl _)
  unfold wP at hw
  exact ⟨by omega, by omega, hr.2, hr.1⟩
end Pg
