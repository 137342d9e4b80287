import Derived.Test.YtpebidcmkjjpnaaTreeS
import Derived.Test.YtpebidcmkjjpnaaRefCalls
import Derived.Test.YtpebidcmkjjpnaaRightC
namespace Pg
open Go
set_option linter.unusedSimpArgs false
set_option linter.unusedVariables false
set_option maxHeartbeats 4000000
set_option maxRecDepth 4000
theorem any_mem {x : Param} {l : List Param} (h : x ∈ l) : (l.any fun y => decide (y = x)) = true := List.any_eq_true.2 ⟨x, h, by simp⟩
theorem CaptureCalls_spec (h : AHeap) (p : Prg) (ho : p.ok) (hf : p.fit) (hw : wP p ≤ 1048576) : ACalls Go.Proofs.Try.prog 8 [.agg (ePrg p)] h (fun v g => v = .bool true ∧ g = h) := by
  refine F8.calls (by simp) ?_
  delta F8.c0
  simp -implicitDefEqProofs only [↓pgPre,go_sem,seval, ePrg_len, prg_take]
  refine callT_of (rightC_spec h p ho hf) (fun v g ⟨hv, hg⟩ => ?_)
  subst v g
  cases hr : rightC p with
  | false =>
    simp -implicitDefEqProofs only [↓pgPre,go_sem,seval]
    refine callT_of (awakeC_spec h) (fun v g ⟨hv, hg⟩ => ?_)
    subst v g
    simp -implicitDefEqProofs only [↓pgPre,go_sem,seval]
    exact .same ⟨rfl, rfl⟩
  | true =>
    obtain ⟨b1, b2, b3, b4⟩ := right_bounds hr hw
    simp -implicitDefEqProofs only [↓pgPre,go_sem,seval, ePrg_len, prg_take]
    refine callT_of (Ups_good h p ho b1 b2 b3) (fun v g2 ⟨hv, hg⟩ => ?_)
    subst v g2
    simp -implicitDefEqProofs only [↓pgPre,go_sem,seval, prg_6]
    refine callT_of (Nodes_spec _ p.routines (Nat.lt_succ_self _) ho.routines ho.eachRoutine h h (.sl [] true) [] (-1) noBytes (.nil h) (by simpa using b1) (by have : noBytes.size = 0 := rfl; omega)) (fun w g1 G1 => ?_)
    simp only [List.nil_append, List.length_nil] at G1
    have hns : (nodesOf p.routines).length ≤ 1048576 := by
      show (capL 0 p.routines (-1) noBytes p.routines).length ≤ _
      rw [capL_len]
      have := rcnts_le _ p.routines (Nat.le_refl _)
      unfold wP at hw; omega
    have har : ∀ (i : Nat) n, (nodesOf p.routines)[i]? = some n → n.around < ((0 + i : Nat) : Int) ∧ -1 ≤ n.around := fun i n hn => capL_around _ p.routines (Nat.lt_succ_self _) 0 p.routines (-1) noBytes (by omega) (by omega) i n hn
    have hlaw : ∀ (i : Nat) n, (nodesOf p.routines)[i]? = some n → ∀ m ∈ callSs n.r.body, ∃ v : Nat, v < (nodesOf p.routines).length ∧ calleeAt (nodesOf p.routines) m (i + 2) i = (v : Int) ∧ ∀ li lv, (cUps p.routines)[i]? = some li → (cUps p.routines)[v]? = some lv → ∀ x ∈ lv, x ∈ li ∨ x ∈ locs n.r := fun i n hn m hm => by
      obtain ⟨v, h1, h2, h3⟩ := (right_nodes b4 b3).1 i n hn m hm
      exact ⟨v, h2, h3, fun li lv e1 e2 x hx => calls_law hn hm h1 e1 e2 hx⟩
    have hul := cUps_len p.routines
    have hall : ∀ n ∈ nodesOf p.routines, n.r.ok ∧ wR n.r ≤ 274877906944 := capL_all (P := fun x => x.ok ∧ wR x ≤ 274877906944) (fun x hx y hy => ⟨((Routine.ok_iff x).1 hx.1).2.2.2.2.2.2.1 y hy, Nat.le_trans (wR_in hy) hx.2⟩) _ p.routines (Nat.lt_succ_self _) (fun x hx => ⟨ho.eachRoutine x hx, Nat.le_trans (wRs_mem hx) b1⟩) 0 p.routines (-1) noBytes
    change GL _ _ _ _ _ ((nodesOf p.routines).map eNd) at G1
    have hfB0 : ∀ l ∈ cUps p.routines, few l := fun l hl => by
      unfold cUps at hl
      obtain ⟨j, _, rfl⟩ := List.mem_map.1 hl
      have h1 := upN_len (fun i k => @decide (Caps (gra p.routines) j (i, k)) (Classical.propDecidable _)) (gra p.routines).ns 0
      have h2 : nLocs (gra p.routines).ns ≤ wRs p.routines := nLocs_le _ p.routines (Nat.lt_succ_self _) 0 p.routines (-1) noBytes
      unfold few; omega
    generalize hNN : nodesOf p.routines = NN at hns har hlaw hul hall G1
    simp only [Nat.zero_add] at har
    have hlen1 := G1.len
    rw [List.length_map] at hlen1
    generalize cUps p.routines = UU at hlaw hul hfB0
    have heq : ((UU.length : Int) = (NN.length : Int)) = True := by simp [hul]
    have hfw : few NN := by unfold few; omega
    have hul' : ((NN.length : Int) < (UU.length : Int)) = False := by simp; omega
    simp -implicitDefEqProofs only [↓pgPre,go_sem,seval, hlen1, heq]
    refine lT_list NN (fun pre post e k => e = [(1, .ip (ePrg p) 0), (3, .sl (UU.map uRow) false), (4, .sl (NN.map eNd) false), (5, .int .i64 pre.length)] ∧ h = k) (WeakE.of ?_ (.of_le G1.le)) ⟨rfl, rfl⟩ ?_ ?_
    · skip
      repeat' (first | exact EnvLe.nil _ | refine EnvLe.cons ?_ ?_)
      all_goals (simp -implicitDefEqProofs only [↓pgPre,go_sem,seval]; try first | exact AVle.refl _ | exact AVle.sl _ _ | exact AVle.gs _ _ _ | assumption)
      exact G1.avle
    · rintro pre n post e k hp ⟨rfl, rfl⟩
      have hn := (at_pre hp).1
      have hnl := (at_pre hp).2
      have hNrow : (NN.map eNd)[pre.length]? = some (eNd n) := map_at hp
      have n9 : (eNd n)[9]? = some (.sl (n.r.body.map eStmt) false) := rfl
      have n11 : (eNd n)[11]? = some (.sl ((locs n.r).map eParam) false) := rfl
      have hlu : ((pre.length : Int) < (UU.length : Int)) = True := by simp; omega
      obtain ⟨hok, hwn⟩ := hall n (mem_at hp)
      have hok' := (Routine.ok_iff n.r).1 hok
      have hwR := wR_eq n.r
      have hcl := callSs_len _ n.r.body (Nat.le_refl _)
      have hfl : few (locs n.r) := by unfold few; simp only [locs, List.length_append, List.length_map]; omega
      have hlawn := hlaw _ n hn
      obtain ⟨li, hli⟩ : ∃ li, UU[pre.length]? = some li := ⟨_, List.getElem?_eq_getElem (by omega)⟩
      have hUi : (UU.map uRow)[pre.length]? = some (uRow li) := by simp [hli]
      have hfli := hfB0 li (List.mem_of_getElem? hli)
      simp -implicitDefEqProofs only [↓pgPre,go_sem,seval, lt_at hp, hlu, aia_sl hNrow (eNd_len n), n9]
      refine callT_of (Calls_spec _ n.r.body (Nat.lt_succ_self _) hok'.2.2.2.2.2.2.2.1 hok'.2.2.2.2.2.2.2.2.1 (by omega) false _) (fun v2 g2 ⟨hv, hg⟩ => ?_)
      subst v2 g2
      have hfc : few (callSs n.r.body) := by unfold few; omega
      generalize callSs n.r.body = CC at hlawn hfc
      simp -implicitDefEqProofs only [↓pgPre,go_sem,seval]
      refine lT_list CC (fun preC postC e k => e = [(1, .ip (ePrg p) 0), (3, .sl (UU.map uRow) false), (4, .sl (NN.map eNd) false), (5, .int .i64 pre.length), (6, .sl (txt CC) false), (7, .int .i64 preC.length)] ∧ h = k) (WeakE.env ?_) ⟨rfl, rfl⟩ ?_ ?_
      · skip
        repeat' (first | exact EnvLe.nil _ | refine EnvLe.cons ?_ ?_)
        all_goals (simp -implicitDefEqProofs only [↓pgPre,go_sem,seval]; try first | exact AVle.refl _ | exact AVle.sl _ _ | exact AVle.gs _ _ _ | assumption)
      · rintro preC c postC e k hpC ⟨rfl, rfl⟩
        have hcrow : (txt CC)[preC.length]? = some [.str c] := map_at hpC
        obtain ⟨v, hv, hcv, hxs⟩ := hlawn c (mem_at hpC)
        obtain ⟨lv, hlv⟩ : ∃ lv, UU[v]? = some lv := ⟨_, List.getElem?_eq_getElem (by omega)⟩
        have hUv : (UU.map uRow)[v]? = some (uRow lv) := by simp [hlv]
        have hxs' := hxs li lv hli hlv
        have hflv := hfB0 lv (List.mem_of_getElem? hlv)
        have e1 : ((v : Int) < 0) = False := by simp
        have e2 : ((v : Int) ≥ (UU.length : Int)) = False := by simp; omega
        simp -implicitDefEqProofs only [↓pgPre,go_sem,seval, lt_at hpC, aia_sl (size := 1) hcrow rfl]
        refine callT_of (Callee_spec _ NN hns har pre.length (by omega) (by omega) c) (fun v2 g2 ⟨hv2, hg⟩ => ?_)
        subst v2 g2
        rw [show ((pre.length : Int) + 2).toNat = pre.length + 2 by omega, hcv]
        simp -implicitDefEqProofs only [↓pgPre,go_sem,seval, e1, e2]
        refine lT_list lv (fun preM postM e k => e = [(1, .ip (ePrg p) 0), (3, .sl (UU.map uRow) false), (4, .sl (NN.map eNd) false), (5, .int .i64 pre.length), (6, .sl (txt CC) false), (7, .int .i64 preC.length), (8, .int .i64 (v : Int)), (9, .int .i64 preM.length)] ∧ h = k) (WeakE.env ?_) ⟨rfl, rfl⟩ ?_ ?_
        · skip
          repeat' (first | exact EnvLe.nil _ | refine EnvLe.cons ?_ ?_)
          all_goals (simp -implicitDefEqProofs only [↓pgPre,go_sem,seval]; try first | exact AVle.refl _ | exact AVle.sl _ _ | exact AVle.gs _ _ _ | assumption)
        · rintro preM x postM e k hpM ⟨rfl, rfl⟩
          have hMrow : (lv.map eParam)[preM.length]? = some (eParam x) := map_at hpM
          simp -implicitDefEqProofs only [↓pgPre,go_sem,seval, aia_sl (size := 1) hUv rfl, lt_at hpM, aia_sl (size := 1) hUi rfl, aia_sl hMrow (eParam_len x), eParam_len, param_take]
          refine callT_of (has_spec _ li hfli false x) (fun v2 g2 ⟨hv2, hg⟩ => ?_)
          subst v2 g2
          cases ha : (li.any fun y => decide (y = x)) with
          | true =>
            simp -implicitDefEqProofs only [↓pgPre,go_sem,seval]
            refine ⟨_, _, WeakE.env ?_, rfl, rfl⟩
            repeat' (first | exact EnvLe.nil _ | refine EnvLe.cons ?_ ?_)
            all_goals (simp -implicitDefEqProofs only [↓pgPre,go_sem,seval, step_at hflv hpM]; try first | exact AVle.refl _ | exact AVle.sl _ _ | exact AVle.gs _ _ _ | assumption)
          | false =>
            have hb : ((locs n.r).any fun y => decide (y = x)) = true := by
              rcases hxs' x (mem_at hpM) with hx | hx
              · rw [any_mem hx] at ha; cases ha
              · exact any_mem hx
            simp -implicitDefEqProofs only [↓pgPre,go_sem,seval, aia_sl hNrow (eNd_len n), n11, aia_sl (size := 1) hUv rfl, aia_sl hMrow (eParam_len x), eParam_len, param_take]
            refine callT_of (has_spec _ (locs n.r) hfl false x) (fun v2 g2 ⟨hv2, hg⟩ => ?_)
            subst v2 g2
            rw [hb]
            simp -implicitDefEqProofs only [↓pgPre,go_sem,seval]
            refine ⟨_, _, WeakE.env ?_, rfl, rfl⟩
            repeat' (first | exact EnvLe.nil _ | refine EnvLe.cons ?_ ?_)
            all_goals (simp -implicitDefEqProofs only [↓pgPre,go_sem,seval, step_at hflv hpM]; try first | exact AVle.refl _ | exact AVle.sl _ _ | exact AVle.gs _ _ _ | assumption)
        · rintro e k ⟨rfl, rfl⟩
          simp -implicitDefEqProofs only [↓pgPre,go_sem,seval, aia_sl (size := 1) hUv rfl, lt_end]
          refine lessQ.same ?_
          simp -implicitDefEqProofs only [↓pgPre,go_sem,seval]
          refine ⟨_, _, WeakE.env ?_, rfl, rfl⟩
          repeat' (first | exact EnvLe.nil _ | refine EnvLe.cons ?_ ?_)
          all_goals (simp -implicitDefEqProofs only [↓pgPre,go_sem,seval, step_at hfc hpC]; try first | exact AVle.refl _ | exact AVle.sl _ _ | exact AVle.gs _ _ _ | assumption)
      · rintro e k ⟨rfl, rfl⟩
        simp -implicitDefEqProofs only [↓pgPre,go_sem,seval, lt_end]
        refine lessQ.same ?_
        simp -implicitDefEqProofs only [↓pgPre,go_sem,seval]
        refine ⟨_, _, WeakE.env ?_, rfl, rfl⟩
        repeat' (first | exact EnvLe.nil _ | refine EnvLe.cons ?_ ?_)
        all_goals (simp -implicitDefEqProofs only [↓pgPre,go_sem,seval, step_at hfw hp]; try first | exact AVle.refl _ | exact AVle.sl _ _ | exact AVle.gs _ _ _ | assumption)
    · rintro e k ⟨rfl, rfl⟩
      simp -implicitDefEqProofs only [↓pgPre,go_sem,seval, lt_end]
      refine lessQ.same ?_
      simp -implicitDefEqProofs only [↓pgPre,go_sem,seval, heq]
      refine callT_of (awakeC_spec _) (fun v g ⟨hv, hg⟩ => ?_)
      subst v g
      simp -implicitDefEqProofs only [↓pgPre,go_sem,seval]
      exact .same ⟨rfl, rfl⟩
end Pg
