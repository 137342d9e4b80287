import Derived.Test.YtpebidcmkjjpnaaGreatTreeS
import Derived.Test.YtpebidcmkjjpnaaGreatCodeP
import Derived.Test.YtpebidcmkjjpnaaGreatRuX
namespace Pg
open Go
set_option linter.unusedSimpArgs false
set_option linter.unusedVariables false
set_option maxHeartbeats 4000000
set_option maxRecDepth 4000
theorem CaptureUps_spec (h : AHeap) (p : Prg) (ho : p.ok) (hf : p.fit) (hw : wP p ≤ 1048576) : ACalls Go.Proofs.Tryz.prog 3 [.agg (ePrg p)] h (fun v g => v = .bool true ∧ g = h) := by
  have pb := prg_bounds hw
  refine F3.calls (by simp) ?_
  delta F3.c0
  simp -implicitDefEqProofs only [↓pgPre,go_sem,seval, ePrg_len, prg_take]
  refine callT_of (tPrg_spec p ho hf h) (fun v g ⟨hv, hg⟩ => ?_)
  subst v g
  cases ht : tPrg p with
  | false =>
    simp -implicitDefEqProofs only [↓pgPre,go_sem,seval, ePrg_len, prg_take]
    by_cases hc : (check p).2 = 0
    · refine callT_of (Ups_good h p ho pb.1 pb.2 hc) (fun v g ⟨hv, hg⟩ => ?_)
      subst v g
      simp -implicitDefEqProofs only [↓pgPre,go_sem,seval]
      refine callT_of (awakeC_spec h) (fun v g ⟨hv, hg⟩ => ?_)
      subst v g
      simp -implicitDefEqProofs only [↓pgPre,go_sem,seval]
      exact .same ⟨rfl, rfl⟩
    · refine callT_of (Ups_bad h p ho hc) (fun v g ⟨hv, hg⟩ => ?_)
      subst v g
      simp -implicitDefEqProofs only [↓pgPre,go_sem,seval]
      refine callT_of (awakeC_spec h) (fun v g ⟨hv, hg⟩ => ?_)
      subst v g
      simp -implicitDefEqProofs only [↓pgPre,go_sem,seval]
      exact .same ⟨rfl, rfl⟩
  | true =>
    by_cases hc : (check p).2 = 0
    · simp -implicitDefEqProofs only [↓pgPre,go_sem,seval, ePrg_len, prg_take]
      refine callT_of (Ups_good h p ho pb.1 pb.2 hc) (fun v g ⟨hv, hg⟩ => ?_)
      subst v g
      simp -implicitDefEqProofs only [↓pgPre,go_sem,seval, ePrg_len, prg_take]
      refine callT_of (Right_spec h p ho ht) (fun v g ⟨hv, hg⟩ => ?_)
      subst v g
      simp -implicitDefEqProofs only [↓pgPre,go_sem,seval, ePrg_len, prg_take, hc]
      refine callT_of (RefUps_spec ho (refOk ho hw pb.1 hc ht) pb.1 pb.2 h) (fun v g ⟨hv, hg⟩ => ?_)
      subst v g
      have hul : (cUps p.routines).length ≤ 1048576 := by
        rw [cUps_len]
        show (capL 0 p.routines (-1) noBytes p.routines).length ≤ _
        rw [capL_len]
        have := rcnts_le _ p.routines (Nat.le_refl _)
        unfold wP at hw; omega
      have hfB0 : ∀ l ∈ cUps p.routines, few l := fun l hl => by
        unfold cUps at hl
        obtain ⟨j, _, rfl⟩ := List.mem_map.1 hl
        have h1 := upN_len (fun i k => @decide (Caps (gra p.routines) j (i, k)) (Classical.propDecidable _)) (gra p.routines).ns 0
        have h2 : nLocs (gra p.routines).ns ≤ wRs p.routines := nLocs_le _ p.routines (Nat.lt_succ_self _) 0 p.routines (-1) noBytes
        unfold few; omega
      generalize cUps p.routines = UU at hul hfB0
      have hfw : few UU := by unfold few; omega
      simp -implicitDefEqProofs only [↓pgPre,go_sem,seval]
      refine lT_list UU (fun pre post e k => e = [(3, .sl (UU.map uRow) false), (4, .sl (UU.map uRow) false), (5, .int .i64 pre.length)] ∧ h = k) (WeakE.env ?_) ⟨rfl, rfl⟩ ?_ ?_
      · skip
        repeat' (first | exact EnvLe.nil _ | refine EnvLe.cons ?_ ?_)
        all_goals (simp -implicitDefEqProofs only [↓pgPre,go_sem,seval]; try first | exact AVle.refl _ | exact AVle.sl _ _ | exact AVle.gs _ _ _ | assumption)
      · rintro pre l post e k hp ⟨rfl, rfl⟩
        have hU : (UU.map uRow)[pre.length]? = some (uRow l) := map_at hp
        simp -implicitDefEqProofs only [↓pgPre,go_sem,seval, lt_at hp, aia_sl (size := 1) hU rfl]
        refine lT_list l (fun preB postB e k => e = [(3, .sl (UU.map uRow) false), (4, .sl (UU.map uRow) false), (5, .int .i64 pre.length), (6, .int .i64 preB.length)] ∧ h = k) (WeakE.env ?_) ⟨rfl, rfl⟩ ?_ ?_
        · skip
          repeat' (first | exact EnvLe.nil _ | refine EnvLe.cons ?_ ?_)
          all_goals (simp -implicitDefEqProofs only [↓pgPre,go_sem,seval]; try first | exact AVle.refl _ | exact AVle.sl _ _ | exact AVle.gs _ _ _ | assumption)
        · rintro preB x postB e k hpB ⟨rfl, rfl⟩
          have hB : (l.map eParam)[preB.length]? = some (eParam x) := map_at hpB
          simp -implicitDefEqProofs only [↓pgPre,go_sem,seval, aia_sl (size := 1) hU rfl, lt_at hpB, aia_sl hB (eParam_len x), eParam_len, param_take, param_eq]
          refine ⟨_, _, WeakE.env ?_, rfl, rfl⟩
          repeat' (first | exact EnvLe.nil _ | refine EnvLe.cons ?_ ?_)
          all_goals (simp -implicitDefEqProofs only [↓pgPre,go_sem,seval, step_at (l := l) (hfB0 l (mem_at hp)) hpB]; try first | exact AVle.refl _ | exact AVle.sl _ _ | exact AVle.gs _ _ _ | assumption)
        · rintro e k ⟨rfl, rfl⟩
          simp -implicitDefEqProofs only [↓pgPre,go_sem,seval, aia_sl (size := 1) hU rfl, lt_end]
          refine lessQ.same ?_
          simp -implicitDefEqProofs only [↓pgPre,go_sem,seval]
          refine ⟨_, _, WeakE.env ?_, rfl, rfl⟩
          repeat' (first | exact EnvLe.nil _ | refine EnvLe.cons ?_ ?_)
          all_goals (simp -implicitDefEqProofs only [↓pgPre,go_sem,seval, step_at hfw hp]; try first | exact AVle.refl _ | exact AVle.sl _ _ | exact AVle.gs _ _ _ | assumption)
      · rintro e k ⟨rfl, rfl⟩
        simp -implicitDefEqProofs only [↓pgPre,go_sem,seval, lt_end]
        refine lessQ.same ?_
        simp -implicitDefEqProofs only [↓pgPre,go_sem,seval]
        refine callT_of (awakeC_spec _) (fun v g ⟨hv, hg⟩ => ?_)
        subst v g
        simp -implicitDefEqProofs only [↓pgPre,go_sem,seval]
        exact .same ⟨rfl, rfl⟩
    · simp -implicitDefEqProofs only [↓pgPre,go_sem,seval, ePrg_len, prg_take]
      refine callT_of (Ups_bad h p ho hc) (fun v g ⟨hv, hg⟩ => ?_)
      subst v g
      simp -implicitDefEqProofs only [↓pgPre,go_sem,seval, ePrg_len, prg_take]
      refine callT_of (Right_spec h p ho ht) (fun v g ⟨hv, hg⟩ => ?_)
      subst v g
      simp -implicitDefEqProofs only [↓pgPre,go_sem,seval, hc]
      refine callT_of (awakeC_spec h) (fun v g ⟨hv, hg⟩ => ?_)
      subst v g
      simp -implicitDefEqProofs only [↓pgPre,go_sem,seval]
      exact .same ⟨rfl, rfl⟩
end Pg
