import Derived.Test.YtlflapoljegmoaaGreatDoorTreeSC
import Derived.Test.YtlflapoljegmoaaGreatDoorCodeVC
import Derived.Test.YtlflapoljegmoaaGreatDoorNamesMJC
import Derived.Test.YtlflapoljegmoaaGreatDoorAwakeLJC
import Derived.Test.YtlflapoljegmoaaGreatDoorNmXC
namespace Pg
open Go
set_option linter.unusedSimpArgs false
set_option linter.unusedVariables false
set_option maxHeartbeats 4000000
set_option maxRecDepth 4000
theorem LiftNames_spec [GI] (hm : Max0) (h : AHeap) (p : Prg) (ho : p.ok) (hf : p.fit) (hw : wP p ≤ 1048576) : ACalls Go.Proofs.Tryz.prog 6 [.agg (ePrg p)] h (fun v g => v = .bool true ∧ g = h) := by
 refine F6.calls (by simp) ?_
 delta F6.c0
 simp only [↓pgPre,go_sem,seval]
 refine callT_of (tPrg_spec p ho hf h) (fun v g ⟨hv, hg⟩ => ?_)
 subst v g
 cases ht : tPrg p
 ·simp only [↓pgPre,go_sem,seval]
  refine callT_of (awakeL_spec hm h) (fun v g ⟨hv, hg⟩ => ?_)
  subst v g
  simp only [↓pgPre,go_sem,seval]
  exact .same ⟨rfl, rfl⟩
 simp only [↓pgPre,go_sem,seval]
 by_cases hc : (check p).2 = 0
 ·refine callT_of (Lift_good hm h p ho hw hc) (fun v g ⟨hv, hg⟩ => ?_)
  subst v g
  by_cases h0 : (liftP p).2 = 0
  ·have hb := names_same ht hw h0
   obtain ⟨n1, n2, n3, n4⟩ := lift_names ht hw h0
   have hnl := nmP_len (tPrg_plain ht)
   have hsm : inP small p := tPrg_in (fun _ h => (tName_tame h).1) (by unfold small; decide) ht
   have hfew : few (names p) := by
    have := once_len (nmP p) []
    unfold few names
    simp at this; omega
   have hfew2 : few (names (liftP p).1) := by
    have := once_len (nmP (liftP p).1) []
    unfold roomy at n3
    unfold few names
    simp at this; omega
   simp only [↓pgPre,go_sem,seval, h0, ne_eq, not_true_eq_false]
   refine callT_of (Names_spec p ho hsm (by unfold roomy; omega) h) (fun v g ⟨hv, hg⟩ => ?_)
   subst v g
   simp only [↓pgPre,go_sem,seval]
   refine callT_of (Names_spec (liftP p).1 (lift_ok ho hw h0) n4 n3 h) (fun v g ⟨hv, hg⟩ => ?_)
   subst v g
   simp only [↓pgPre,go_sem,seval]
   refine lT_list (names p) (fun pre post e g => g = h ∧ e = [(5, .sl (txt (names p)) false), (6, .sl (txt (names (liftP p).1)) false), (7, .int .i64 pre.length)]) (WeakE.env ?_) ⟨rfl, rfl⟩ ?_ ?_
   ·skip
    repeat' (first | exact EnvLe.nil _ | refine EnvLe.cons ?_ ?_)
    all_goals (simp only [↓pgPre,go_sem,seval]; try first | exact AVle.refl _ | exact AVle.sl _ _ | exact AVle.gs _ _ _ | assumption)
   ·rintro pre x post e g hp ⟨rfl, rfl⟩
    have hx : among x (names (liftP p).1) = true := (among_iff _ _).2 (hb.1 x (mem_at hp))
    simp only [↓pgPre,go_sem,seval, lt_at hp, aia_sl (size := 1) (txt_at hp) rfl]
    refine callT_of (Among_spec _ (names (liftP p).1) hfew2 false x) (fun v g ⟨hv, hg⟩ => ?_)
    subst v g
    simp only [↓pgPre,go_sem,seval, hx]
    refine ⟨_, _, WeakE.env ?_, rfl, rfl⟩
    repeat' (first | exact EnvLe.nil _ | refine EnvLe.cons ?_ ?_)
    all_goals (simp only [↓pgPre,go_sem,seval, step_at hfew hp]; try first | exact AVle.refl _ | exact AVle.sl _ _ | exact AVle.gs _ _ _ | assumption)
   ·rintro e g ⟨rfl, rfl⟩
    simp only [↓pgPre,go_sem,seval, lt_end]
    refine lessQ.same ?_
    simp only [↓pgPre,go_sem,seval, hb.2]
    refine callT_of (awakeL_spec hm _) (fun v g ⟨hv, hg⟩ => ?_)
    subst v g
    simp only [↓pgPre,go_sem,seval]
    exact .same ⟨rfl, rfl⟩
  ·simp only [↓pgPre,go_sem,seval, h0, ne_eq, not_false_eq_true]
   refine callT_of (awakeL_spec hm h) (fun v g ⟨hv, hg⟩ => ?_)
   subst v g
   simp only [↓pgPre,go_sem,seval]
   exact .same ⟨rfl, rfl⟩
 ·refine callT_of (Lift_bad h p ho hc) (fun v g ⟨hv, hg⟩ => ?_)
  subst v g
  simp only [↓pgPre,go_sem,seval, ne_eq]
  refine callT_of (awakeL_spec hm h) (fun v g ⟨hv, hg⟩ => ?_)
  subst v g
  simp only [↓pgPre,go_sem,seval]
  exact .same ⟨rfl, rfl⟩
end Pg
