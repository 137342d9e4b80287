import Derived.Test.YtpebidcmkjjpnaaTreeS
import Derived.Test.YtpebidcmkjjpnaaCount
namespace Pg
open Go
set_option linter.unusedSimpArgs false
set_option linter.unusedVariables false
set_option maxHeartbeats 1000000
set_option maxRecDepth 4000

theorem routineCount_spec : ∀ (n : Nat) (l : List Routine), Routines.sz l ≤ n → few l → (∀ x ∈ l, x.ok) → ∀ (full : Bool) (h : AHeap), ACalls Go.Proofs.Try.prog 55 [.sl (l.map eRoutine) full] h (fun v g => v = .int .i64 (w64 (cntRs l)) ∧ g = h) := by
  intro n
  induction n with
  | zero =>
    intro l hn hw ho full h
    cases l with
    | cons x r => simp [Routines.sz] at hn
    | nil =>
      refine F55.calls (by simp) ?_
      delta F55.c0
      simp -implicitDefEqProofs only [↓pgPre,go_sem,seval]
      refine lT_round ?_
      simp -implicitDefEqProofs only [↓pgPre,go_sem,seval]
      exact .same ⟨rfl, rfl⟩
  | succ n ih =>
    intro l hn hw ho full h
    refine F55.calls (by simp) ?_
    delta F55.c0
    simp -implicitDefEqProofs only [↓pgPre,go_sem,seval]
    refine lT_list l (fun pre post e g => g = h ∧ e = [(3, .int .i64 (w64 (cntRs pre + post.length))), (8, .sl (l.map eRoutine) full), (9, .int .i64 l.length), (10, .int .i64 pre.length)]) (WeakE.env ?_) ⟨rfl, rfl⟩ ?_ ?_
    · skip
      repeat' (first | exact EnvLe.nil _ | refine EnvLe.cons ?_ ?_)
      all_goals (simp -implicitDefEqProofs only [↓pgPre,go_sem,seval]; try first | exact AVle.refl _ | exact AVle.sl _ _ | exact AVle.gs _ _ _ | assumption)
      exact AVle.int (by unfold few at hw; rw [w64_small] <;> simp [cntRs] <;> omega)
    · rintro pre x post e g hl ⟨rfl, rfl⟩
      have hx := mem_at hl
      have hz := Routines.sz_mem hx
      have hsz := Routine.sz_eq x
      have hok := (Routine.ok_iff x).1 (ho x hx)
      have hb := ih x.inner (by omega) hok.2.2.2.2.2.1 hok.2.2.2.2.2.2.1 false g
      have he := stmtCount_spec _ x.body (Nat.le_refl _) hok.2.2.2.2.2.2.2.1 hok.2.2.2.2.2.2.2.2.1 false g
      simp -implicitDefEqProofs only [↓pgPre,go_sem,seval, lt_at hl, aia_sl (map_at hl) (eRoutine_len x)]
      refine callT_of hb (fun v k ⟨hv, hk⟩ => ?_)
      subst hv hk
      simp -implicitDefEqProofs only [↓pgPre,go_sem,seval, lt_at hl, aia_sl (map_at hl) (eRoutine_len x)]
      refine callT_of he (fun v k ⟨hv, hk⟩ => ?_)
      subst hv hk
      simp -implicitDefEqProofs only [↓pgPre,go_sem,seval]
      refine ⟨_, _, WeakE.env ?_, rfl, rfl⟩
      · skip
        repeat' (first | exact EnvLe.nil _ | refine EnvLe.cons ?_ ?_)
        all_goals (simp -implicitDefEqProofs only [↓pgPre,go_sem,seval, step_at hw hl]; try first | exact AVle.refl _ | exact AVle.sl _ _ | exact AVle.gs _ _ _ | assumption)
        refine AVle.int ?_
        rw [cntRs_append]
        simp only [w64_add_l, w64_add_r]
        congr 1
        simp only [cntRs, cntR_eq, List.length_cons]
        omega
    · rintro e g ⟨rfl, rfl⟩
      simp -implicitDefEqProofs only [↓pgPre,go_sem,seval, lt_end]
      refine lessQ.same ?_
      simp -implicitDefEqProofs only [↓pgPre,go_sem,seval]
      refine .same ⟨?_, rfl⟩
      simp

theorem RroutineCount_spec : ∀ (n : Nat) (l : List Routine), Routines.sz l ≤ n → few l → (∀ x ∈ l, x.ok) → ∀ (full : Bool) (h : AHeap), ACalls Go.Proofs.Try.prog 57 [.sl (l.map eRoutine) full] h (fun v g => v = .int .i64 (w64 (cntRs l)) ∧ g = h) := by
  intro n
  induction n with
  | zero =>
    intro l hn hw ho full h
    cases l with
    | cons x r => simp [Routines.sz] at hn
    | nil =>
      refine F57.calls (by simp) ?_
      delta F57.c0
      simp -implicitDefEqProofs only [↓pgPre,go_sem,seval]
      refine lT_round ?_
      simp -implicitDefEqProofs only [↓pgPre,go_sem,seval]
      exact .same ⟨rfl, rfl⟩
  | succ n ih =>
    intro l hn hw ho full h
    refine F57.calls (by simp) ?_
    delta F57.c0
    simp -implicitDefEqProofs only [↓pgPre,go_sem,seval]
    refine lT_list l (fun pre post e g => g = h ∧ e = [(0, .sl (l.map eRoutine) full), (3, .int .i64 (w64 (cntRs pre + post.length))), (4, .int .i64 pre.length)]) (WeakE.env ?_) ⟨rfl, rfl⟩ ?_ ?_
    · skip
      repeat' (first | exact EnvLe.nil _ | refine EnvLe.cons ?_ ?_)
      all_goals (simp -implicitDefEqProofs only [↓pgPre,go_sem,seval]; try first | exact AVle.refl _ | exact AVle.sl _ _ | exact AVle.gs _ _ _ | assumption)
      exact AVle.int (by unfold few at hw; rw [w64_small] <;> simp [cntRs] <;> omega)
    · rintro pre x post e g hl ⟨rfl, rfl⟩
      have hx := mem_at hl
      have hz := Routines.sz_mem hx
      have hsz := Routine.sz_eq x
      have hok := (Routine.ok_iff x).1 (ho x hx)
      have hb := ih x.inner (by omega) hok.2.2.2.2.2.1 hok.2.2.2.2.2.2.1 false g
      have he := RstmtCount_spec _ x.body (Nat.le_refl _) hok.2.2.2.2.2.2.2.1 hok.2.2.2.2.2.2.2.2.1 false g
      simp -implicitDefEqProofs only [↓pgPre,go_sem,seval, lt_at hl, aia_sl (map_at hl) (eRoutine_len x)]
      refine callT_of hb (fun v k ⟨hv, hk⟩ => ?_)
      subst hv hk
      simp -implicitDefEqProofs only [↓pgPre,go_sem,seval, lt_at hl, aia_sl (map_at hl) (eRoutine_len x)]
      refine callT_of he (fun v k ⟨hv, hk⟩ => ?_)
      subst hv hk
      simp -implicitDefEqProofs only [↓pgPre,go_sem,seval]
      refine ⟨_, _, WeakE.env ?_, rfl, rfl⟩
      · skip
        repeat' (first | exact EnvLe.nil _ | refine EnvLe.cons ?_ ?_)
        all_goals (simp -implicitDefEqProofs only [↓pgPre,go_sem,seval, step_at hw hl]; try first | exact AVle.refl _ | exact AVle.sl _ _ | exact AVle.gs _ _ _ | assumption)
        refine AVle.int ?_
        rw [cntRs_append]
        simp only [w64_add_l, w64_add_r]
        congr 1
        simp only [cntRs, cntR_eq, List.length_cons]
        omega
    · rintro e g ⟨rfl, rfl⟩
      simp -implicitDefEqProofs only [↓pgPre,go_sem,seval, lt_end]
      refine lessQ.same ?_
      simp -implicitDefEqProofs only [↓pgPre,go_sem,seval]
      refine .same ⟨?_, rfl⟩
      simp

theorem Count_spec (p : Prg) (ho : p.ok) (h : AHeap) : ACalls Go.Proofs.Try.prog 20 [.agg (ePrg p)] h (fun v g => v = .int .i64 (w64 (cntP p)) ∧ g = h) := by
  have hb := routineCount_spec _ p.routines (Nat.le_refl _) ho.routines ho.eachRoutine false h
  have he := stmtCount_spec _ p.body (Nat.le_refl _) ho.body ho.eachStmt false h
  refine F20.calls (by simp) ?_
  delta F20.c0
  simp -implicitDefEqProofs only [↓pgPre,go_sem,seval]
  refine callT_of hb (fun v k ⟨hv, hk⟩ => ?_)
  subst hv hk
  simp -implicitDefEqProofs only [↓pgPre,go_sem,seval]
  refine callT_of he (fun v k ⟨hv, hk⟩ => ?_)
  subst hv hk
  simp -implicitDefEqProofs only [↓pgPre,go_sem,seval]
  refine .same ⟨?_, rfl⟩
  simp only [w64_add_l, w64_add_r, cntP, AV.int.injEq, true_and]
  congr 1

theorem RCount_spec (p : Prg) (ho : p.ok) (h : AHeap) : ACalls Go.Proofs.Try.prog 21 [.agg (ePrg p)] h (fun v g => v = .int .i64 (w64 (cntP p)) ∧ g = h) := by
  have hb := RroutineCount_spec _ p.routines (Nat.le_refl _) ho.routines ho.eachRoutine false h
  have he := RstmtCount_spec _ p.body (Nat.le_refl _) ho.body ho.eachStmt false h
  refine F21.calls (by simp) ?_
  delta F21.c0
  simp -implicitDefEqProofs only [↓pgPre,go_sem,seval]
  refine callT_of hb (fun v k ⟨hv, hk⟩ => ?_)
  subst hv hk
  simp -implicitDefEqProofs only [↓pgPre,go_sem,seval]
  refine callT_of he (fun v k ⟨hv, hk⟩ => ?_)
  subst hv hk
  simp -implicitDefEqProofs only [↓pgPre,go_sem,seval]
  refine .same ⟨?_, rfl⟩
  simp only [w64_add_l, w64_add_r, cntP, AV.int.injEq, true_and]
  congr 1
end Pg
