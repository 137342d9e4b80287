import Derived.Test.YtpebidcmkjjpnaaTreeS
import Derived.Test.YtpebidcmkjjpnaaCodeL
import Derived.Test.YtpebidcmkjjpnaaNodes
import Derived.Test.YtpebidcmkjjpnaaRightC
namespace Pg
open Go
set_option linter.unusedSimpArgs false
set_option linter.unusedVariables false
set_option maxHeartbeats 4000000
set_option maxRecDepth 4000
theorem param_eq (a b : Param) : cellsEq [2, 1, 1, 2, 1] (eParam a) (eParam b) = some (decide (a = b)) := by
  obtain ⟨n, ⟨k, s, t⟩, m⟩ := a
  obtain ⟨n', ⟨k', s', t'⟩, m'⟩ := b
  simp only [eParam, cellsEq, cellEq, if_true]
  congr 1
  by_cases h1 : n = n' <;> by_cases h2 : k = k' <;> by_cases h3 : s = s' <;> by_cases h4 : t = t' <;> by_cases h5 : m = m' <;> simp [h1, h2, h3, h4, h5]
theorem upL_mem {f : Nat → Nat → Bool} {i : Nat} {x : Param} : ∀ {l : List Param} {k : Nat}, x ∈ upL f i k l → ∃ j, l[j]? = some x ∧ f i (k + j) = true
  | [], k, h => by simp [upL] at h
  | p :: r, k, h => by
    simp only [upL, List.mem_append] at h
    rcases h with h | h
    · split at h
      · simp only [List.mem_cons, List.not_mem_nil, or_false] at h
        subst h
        exact ⟨0, rfl, by simpa⟩
      · simp at h
    · obtain ⟨j, h1, h2⟩ := upL_mem h
      exact ⟨j + 1, by simpa using h1, by rw [← h2]; congr 1; omega⟩
theorem upN_mem {f : Nat → Nat → Bool} {x : Param} : ∀ {ns : List CN} {i : Nat}, x ∈ upN f i ns → ∃ j n k, ns[j]? = some n ∧ (locs n.r)[k]? = some x ∧ f (i + j) k = true
  | [], i, h => by simp [upN] at h
  | n :: ns, i, h => by
    simp only [upN, List.mem_append] at h
    rcases h with h | h
    · obtain ⟨k, h1, h2⟩ := upL_mem h
      exact ⟨0, n, k, rfl, h1, by simpa using h2⟩
    · obtain ⟨j, m, k, h1, h2, h3⟩ := upN_mem h
      exact ⟨j + 1, m, k, by simpa using h1, h2, by rw [← h3]; congr 1; omega⟩
/-- What is captured is a local of one around. -/
theorem outer_law {p : List Routine} {j : Nat} {l : List Param} (hj : (cUps p)[j]? = some l) {x : Param} (hx : x ∈ l) : ∃ o m, Up (nodesOf p) j o ∧ (nodesOf p)[o]? = some m ∧ x ∈ locs m.r := by
  unfold cUps at hj
  rw [List.getElem?_map] at hj
  cases hr : (List.range (gra p).ns.length)[j]? with
  | none => rw [hr] at hj; cases hj
  | some j' =>
    rw [hr] at hj
    simp only [Option.map_some, Option.some.injEq] at hj
    have hjj : j' = j := by
      rw [List.getElem?_range (by
        rcases Nat.lt_or_ge j (gra p).ns.length with h | h
        · exact h
        · rw [List.getElem?_eq_none (by simpa using h)] at hr; cases hr)] at hr
      simpa using hr.symm
    subst hjj
    rw [← hj] at hx
    obtain ⟨o, m, k, h1, h2, h3⟩ := upN_mem hx
    simp only [decide_eq_true_eq, Nat.zero_add] at h3
    exact ⟨o, m, caps_up h3, h1, List.mem_of_getElem? h2⟩
theorem cUps_len (p : List Routine) : (cUps p).length = (nodesOf p).length := by simp [cUps]; rfl
theorem CaptureOuter_spec (h : AHeap) (p : Prg) (ho : p.ok) (hf : p.fit) (hw : wP p ≤ 1048576) : ACalls Go.Proofs.Try.prog 7 [.agg (ePrg p)] h (fun v g => v = .bool true ∧ g = h) := by
  refine F7.calls (by simp) ?_
  delta F7.c0
  simp -implicitDefEqProofs only [↓pgPre,go_sem,↓reduceIte,reduceCtorEq,seval, ePrg_len, prg_take]
  refine callT_of (rightC_spec h p ho hf) (fun v g ⟨hv, hg⟩ => ?_)
  subst v g
  cases hr : rightC p with
  | false =>
    simp -implicitDefEqProofs only [↓pgPre,go_sem,↓reduceIte,reduceCtorEq,seval]
    refine callT_of (awakeC_spec h) (fun v g ⟨hv, hg⟩ => ?_)
    subst v g
    simp -implicitDefEqProofs only [↓pgPre,go_sem,↓reduceIte,reduceCtorEq,seval]
    exact .same ⟨rfl, rfl⟩
  | true =>
    obtain ⟨b1, b2, b3, b4⟩ := right_bounds hr hw
    simp -implicitDefEqProofs only [↓pgPre,go_sem,↓reduceIte,reduceCtorEq,seval, ePrg_len, prg_take]
    refine callT_of (Ups_good h p ho b1 b2 b3) (fun v g2 ⟨hv, hg⟩ => ?_)
    subst v g2
    simp -implicitDefEqProofs only [↓pgPre,go_sem,↓reduceIte,reduceCtorEq,seval, prg_6]
    refine callT_of (Nodes_spec _ p.routines (Nat.lt_succ_self _) ho.routines ho.eachRoutine h h (.sl [] true) [] (-1) noBytes (.nil h) (by simpa using b1) (by have : noBytes.size = 0 := rfl; omega)) (fun w g1 G1 => ?_)
    simp only [List.nil_append, List.length_nil] at G1
    have hns : (nodesOf p.routines).length ≤ 1048576 := by
      show (capL 0 p.routines (-1) noBytes p.routines).length ≤ _
      rw [capL_len]
      have := rcnts_le _ p.routines (Nat.le_refl _)
      unfold wP at hw; omega
    have har : ∀ (i : Nat) n, (nodesOf p.routines)[i]? = some n → n.around < ((0 + i : Nat) : Int) ∧ -1 ≤ n.around := fun i n hn => capL_around _ p.routines (Nat.lt_succ_self _) 0 p.routines (-1) noBytes (by omega) (by omega) i n hn
    have hlaw : ∀ (j : Nat) (l : List Param), (cUps p.routines)[j]? = some l → ∀ x ∈ l, ∃ o m, Up (nodesOf p.routines) j o ∧ (nodesOf p.routines)[o]? = some m ∧ x ∈ locs m.r := fun j l hj x hx => outer_law hj hx
    have hul := cUps_len p.routines
    have hlocs : ∀ n ∈ nodesOf p.routines, (locs n.r).length ≤ 1099511627776 := fun n hn => by
      have := capL_all (P := fun x => wR x ≤ 274877906944) (fun x hx y hy => Nat.le_trans (wR_in hy) hx) _ p.routines (Nat.lt_succ_self _) (fun x hx => Nat.le_trans (wRs_mem hx) b1) 0 p.routines (-1) noBytes n hn
      have := wR_eq n.r
      simp only [locs, List.length_append, List.length_map]
      omega
    change GL _ _ _ _ _ ((nodesOf p.routines).map eNd) at G1
    generalize hNN : nodesOf p.routines = NN at hns har hlaw hul hlocs G1
    simp only [Nat.zero_add] at har
    have hlen1 := G1.len
    rw [List.length_map] at hlen1
    have hfB0 : ∀ l ∈ cUps p.routines, few l := fun l hl => by
      unfold cUps at hl
      obtain ⟨j, _, rfl⟩ := List.mem_map.1 hl
      have h1 := upN_len (fun i k => @decide (Caps (gra p.routines) j (i, k)) (Classical.propDecidable _)) (gra p.routines).ns 0
      have h2 : nLocs (gra p.routines).ns ≤ wRs p.routines := nLocs_le _ p.routines (Nat.lt_succ_self _) 0 p.routines (-1) noBytes
      unfold few; omega
    generalize cUps p.routines = UU at hlaw hul hfB0
    have hfB : ∀ pre lB post, UU = pre ++ lB :: post → few lB := fun pre lB post hp => hfB0 lB (by rw [hp]; simp)
    have heq : ((UU.length : Int) = (NN.length : Int)) = True := by simp [hul]
    have hfw : few UU := by unfold few; omega
    simp -implicitDefEqProofs only [↓pgPre,go_sem,↓reduceIte,reduceCtorEq,seval, hlen1, heq]
    refine lT_list UU (fun pre post e k => e = [(1, .ip (ePrg p) 0), (3, .sl (UU.map uRow) false), (4, .sl (NN.map eNd) false), (5, .int .i64 pre.length)] ∧ h = k) (WeakE.of ?_ (.of_le G1.le)) ⟨rfl, rfl⟩ ?_ ?_
    · skip
      repeat' (first | exact EnvLe.nil _ | refine EnvLe.cons ?_ ?_)
      all_goals (simp -implicitDefEqProofs only [↓pgPre,go_sem,↓reduceIte,reduceCtorEq,seval]; try first | exact AVle.refl _ | exact AVle.sl _ _ | exact AVle.gs _ _ _ | assumption)
      exact G1.avle
    · rintro pre lB post e k hp ⟨rfl, rfl⟩
      have hU : (UU.map uRow)[pre.length]? = some (uRow lB) := map_at hp
      have hj := (at_pre hp).1
      have hjl := (at_pre hp).2
      obtain ⟨n, hn⟩ : ∃ n, NN[pre.length]? = some n := ⟨_, List.getElem?_eq_getElem (by omega)⟩
      have hNrow : (NN.map eNd)[pre.length]? = some (eNd n) := by simp [hn]
      have hna := har _ n hn
      have n1 : (eNd n)[1]? = some (.int .i64 n.around) := rfl
      simp -implicitDefEqProofs only [↓pgPre,go_sem,↓reduceIte,reduceCtorEq,seval, lt_at hp]
      refine lT_list lB (fun preB postB e k => e = [(1, .ip (ePrg p) 0), (3, .sl (UU.map uRow) false), (4, .sl (NN.map eNd) false), (5, .int .i64 pre.length), (6, .int .i64 preB.length)] ∧ h = k) (WeakE.env ?_) ⟨rfl, rfl⟩ ?_ ?_
      · skip
        repeat' (first | exact EnvLe.nil _ | refine EnvLe.cons ?_ ?_)
        all_goals (simp -implicitDefEqProofs only [↓pgPre,go_sem,↓reduceIte,reduceCtorEq,seval]; try first | exact AVle.refl _ | exact AVle.sl _ _ | exact AVle.gs _ _ _ | assumption)
      · rintro preB x postB e k hpB ⟨rfl, rfl⟩
        obtain ⟨o, mo, hup, hmo, hxo⟩ := hlaw _ _ hj x (mem_at hpB)
        have hBrow : (lB.map eParam)[preB.length]? = some (eParam x) := map_at hpB
        simp -implicitDefEqProofs only [↓pgPre,go_sem,↓reduceIte,reduceCtorEq,seval, aia_sl (size := 1) hU rfl, lt_at hpB, aia_sl hNrow (eNd_len n), n1]
        refine lT_inv2 (fun m e k => ∃ (j : Int) (fd : Bool), m = (j + 1).toNat ∧ -1 ≤ j ∧ j < NN.length ∧ (fd = true ∨ ∃ a : Nat, j = a ∧ (a = o ∨ Up NN a o)) ∧ e = [(1, .ip (ePrg p) 0), (3, .sl (UU.map uRow) false), (4, .sl (NN.map eNd) false), (5, .int .i64 pre.length), (6, .int .i64 preB.length), (7, .bool fd), (8, .int .i64 j)] ∧ h = k) (n.around + 1).toNat (WeakE.env ?_) ⟨n.around, false, rfl, by omega, by omega, .inr ?_, rfl, rfl⟩ ?_
        · skip
          repeat' (first | exact EnvLe.nil _ | refine EnvLe.cons ?_ ?_)
          all_goals (simp -implicitDefEqProofs only [↓pgPre,go_sem,↓reduceIte,reduceCtorEq,seval]; try first | exact AVle.refl _ | exact AVle.sl _ _ | exact AVle.gs _ _ _ | assumption)
        · cases hup with
          | base h1 h2 => rw [hn] at h1; cases h1; exact ⟨o, h2, .inl rfl⟩
          | step h1 h2 u => rw [hn] at h1; cases h1; exact ⟨_, h2, .inr u⟩
        · rintro m e k ⟨j, fd, rfl, hj1, hj2, hfd, rfl, rfl⟩
          by_cases hj0 : j < 0
          · have hj' : (j ≥ 0) = False := by simp; omega
            have hft : fd = true := by
              rcases hfd with hfd | ⟨a, ha, _⟩
              · exact hfd
              · omega
            subst hft
            simp -implicitDefEqProofs only [↓pgPre,go_sem,↓reduceIte,reduceCtorEq,seval, hj']
            refine lessQ.same ?_
            simp -implicitDefEqProofs only [↓pgPre,go_sem,↓reduceIte,reduceCtorEq,seval]
            refine ⟨_, _, WeakE.env ?_, rfl, rfl⟩
            repeat' (first | exact EnvLe.nil _ | refine EnvLe.cons ?_ ?_)
            all_goals (simp -implicitDefEqProofs only [↓pgPre,go_sem,↓reduceIte,reduceCtorEq,seval, step_at (l := lB) (hfB pre lB post hp) hpB]; try first | exact AVle.refl _ | exact AVle.sl _ _ | exact AVle.gs _ _ _ | assumption)
          · obtain ⟨a, rfl⟩ := Int.eq_ofNat_of_zero_le (by omega : 0 ≤ j)
            have hj' : ((a : Int) ≥ 0) = True := by simp
            obtain ⟨na, hna'⟩ : ∃ n, NN[a]? = some n := ⟨_, List.getElem?_eq_getElem (by omega)⟩
            have hArow : (NN.map eNd)[a]? = some (eNd na) := by simp [hna']
            have hnaa := har _ na hna'
            have a1 : (eNd na)[1]? = some (.int .i64 na.around) := rfl
            have a11 : (eNd na)[11]? = some (.sl ((locs na.r).map eParam) false) := rfl
            have hla := hlocs na (List.mem_of_getElem? hna')
            simp -implicitDefEqProofs only [↓pgPre,go_sem,↓reduceIte,reduceCtorEq,seval, hj']
            refine lT_list (locs na.r) (fun preM postM e k => ∃ fd', fd' = (fd || preM.any (fun y => decide (y = x))) ∧ e = [(1, .ip (ePrg p) 0), (3, .sl (UU.map uRow) false), (4, .sl (NN.map eNd) false), (5, .int .i64 pre.length), (6, .int .i64 preB.length), (7, .bool fd'), (8, .int .i64 (a : Int)), (9, .int .i64 preM.length)] ∧ h = k) (WeakE.env ?_) ⟨fd, by simp, rfl, rfl⟩ ?_ ?_
            · skip
              repeat' (first | exact EnvLe.nil _ | refine EnvLe.cons ?_ ?_)
              all_goals (simp -implicitDefEqProofs only [↓pgPre,go_sem,↓reduceIte,reduceCtorEq,seval]; try first | exact AVle.refl _ | exact AVle.sl _ _ | exact AVle.gs _ _ _ | assumption)
            · rintro preM y postM e k hpM ⟨fd', hfd', rfl, rfl⟩
              have hMrow : ((locs na.r).map eParam)[preM.length]? = some (eParam y) := map_at hpM
              cases fd' with
              | true =>
                simp -implicitDefEqProofs only [↓pgPre,go_sem,↓reduceIte,reduceCtorEq,seval, aia_sl hArow (eNd_len na), a11, lt_at hpM]
                refine ⟨_, _, WeakE.env ?_, true, ?_, rfl, rfl⟩
                · skip
                  repeat' (first | exact EnvLe.nil _ | refine EnvLe.cons ?_ ?_)
                  all_goals (simp -implicitDefEqProofs only [↓pgPre,go_sem,↓reduceIte,reduceCtorEq,seval, step_at (l := locs na.r) (by unfold few; omega) hpM]; try first | exact AVle.refl _ | exact AVle.sl _ _ | exact AVle.gs _ _ _ | assumption)
                · rw [List.any_append, ← Bool.or_assoc, ← hfd']; simp
              | false =>
                simp -implicitDefEqProofs only [↓pgPre,go_sem,↓reduceIte,reduceCtorEq,seval, aia_sl hArow (eNd_len na), a11, lt_at hpM, aia_sl hMrow (eParam_len y), aia_sl (size := 1) hU rfl, aia_sl hBrow (eParam_len x), eParam_len, param_take, param_eq]
                refine ⟨_, _, WeakE.env ?_, decide (y = x), ?_, rfl, rfl⟩
                · skip
                  repeat' (first | exact EnvLe.nil _ | refine EnvLe.cons ?_ ?_)
                  all_goals (simp -implicitDefEqProofs only [↓pgPre,go_sem,↓reduceIte,reduceCtorEq,seval, step_at (l := locs na.r) (by unfold few; omega) hpM]; try first | exact AVle.refl _ | exact AVle.sl _ _ | exact AVle.gs _ _ _ | assumption)
                · rw [List.any_append, ← Bool.or_assoc, ← hfd']; simp
            · rintro e k ⟨fd', hfd', rfl, rfl⟩
              simp -implicitDefEqProofs only [↓pgPre,go_sem,↓reduceIte,reduceCtorEq,seval, aia_sl hArow (eNd_len na), a11, lt_end]
              refine lessQ.same ?_
              simp -implicitDefEqProofs only [↓pgPre,go_sem,↓reduceIte,reduceCtorEq,seval, aia_sl hArow (eNd_len na), a1]
              refine lessI.to (na.around + 1).toNat _ _ (by omega) (WeakE.env ?_) ⟨na.around, fd', rfl, by omega, by omega, ?_, rfl, rfl⟩
              · skip
                repeat' (first | exact EnvLe.nil _ | refine EnvLe.cons ?_ ?_)
                all_goals (simp -implicitDefEqProofs only [↓pgPre,go_sem,↓reduceIte,reduceCtorEq,seval]; try first | exact AVle.refl _ | exact AVle.sl _ _ | exact AVle.gs _ _ _ | assumption)
              · rcases hfd with hfd | ⟨b, hb, hb'⟩
                · exact .inl (by rw [hfd', hfd]; rfl)
                · have : b = a := by omega
                  subst this
                  rcases hb' with hb' | hb'
                  · subst hb'
                    rw [hna'] at hmo; cases hmo
                    refine .inl ?_
                    rw [hfd']
                    have : (locs mo.r).any (fun y => decide (y = x)) = true := List.any_eq_true.2 ⟨x, hxo, by simp⟩
                    rw [this, Bool.or_true]
                  · refine .inr ?_
                    cases hb' with
                    | base h1 h2 => rw [hna'] at h1; cases h1; exact ⟨o, h2, .inl rfl⟩
                    | step h1 h2 u => rw [hna'] at h1; cases h1; exact ⟨_, h2, .inr u⟩
      · rintro e k ⟨rfl, rfl⟩
        simp -implicitDefEqProofs only [↓pgPre,go_sem,↓reduceIte,reduceCtorEq,seval, aia_sl (size := 1) hU rfl, lt_end]
        refine lessQ.same ?_
        simp -implicitDefEqProofs only [↓pgPre,go_sem,↓reduceIte,reduceCtorEq,seval]
        refine ⟨_, _, WeakE.env ?_, rfl, rfl⟩
        repeat' (first | exact EnvLe.nil _ | refine EnvLe.cons ?_ ?_)
        all_goals (simp -implicitDefEqProofs only [↓pgPre,go_sem,↓reduceIte,reduceCtorEq,seval, step_at hfw hp]; try first | exact AVle.refl _ | exact AVle.sl _ _ | exact AVle.gs _ _ _ | assumption)
    · rintro e k ⟨rfl, rfl⟩
      simp -implicitDefEqProofs only [↓pgPre,go_sem,↓reduceIte,reduceCtorEq,seval, lt_end]
      refine lessQ.same ?_
      simp -implicitDefEqProofs only [↓pgPre,go_sem,↓reduceIte,reduceCtorEq,seval]
      refine callT_of (awakeC_spec _) (fun v g ⟨hv, hg⟩ => ?_)
      subst v g
      simp -implicitDefEqProofs only [↓pgPre,go_sem,↓reduceIte,reduceCtorEq,seval]
      exact .same ⟨rfl, rfl⟩
end Pg
