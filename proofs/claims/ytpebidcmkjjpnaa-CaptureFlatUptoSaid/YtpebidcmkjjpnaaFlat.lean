import Derived.Test.YtpebidcmkjjpnaaTreeS
import Derived.Test.YtpebidcmkjjpnaaCodeJ
import Derived.Test.YtpebidcmkjjpnaaRightC
namespace Pg
open Go
set_option linter.unusedSimpArgs false
set_option linter.unusedVariables false
set_option maxHeartbeats 4000000
set_option maxRecDepth 4000
theorem flat_nodes : ∀ (l : List Routine) (k : Nat) (whole : List Routine) (path : ByteArray), (∀ r ∈ l, r.inner = []) → (∀ n ∈ capL k whole (-1) path l, n.around = -1) ∧ (capL k whole (-1) path l).length = l.length
  | [], k, whole, path, _ => by simp [capL]
  | x :: l, k, whole, path, h => by
    obtain ⟨h1, h2⟩ := flat_nodes l (k + rcnt x) whole path fun r hr => h r (by simp [hr])
    have hx := h x (by simp)
    simp only [capL, capR_eq, hx]
    refine ⟨fun n hn => ?_, by simp [h2]⟩
    simp only [List.mem_append, List.mem_cons, List.not_mem_nil, or_false] at hn
    rcases hn with rfl | hn
    · rfl
    · exact h1 n hn
theorem flat_ups {l : List Routine} (h : ∀ r ∈ l, r.inner = []) : cUps l = l.map fun _ => [] := by
  obtain ⟨h1, h2⟩ := flat_nodes l 0 l noBytes h
  have no : ∀ j i k, ¬ Caps (gra l) j (i, k) := fun j i k c => by
    have u := caps_up c
    cases u with
    | base hn ha => rw [h1 _ (List.mem_of_getElem? hn)] at ha; omega
    | step hn ha _ => rw [h1 _ (List.mem_of_getElem? hn)] at ha; omega
  have none : ∀ (f : Nat → Nat → Bool), (∀ i k, f i k = false) → ∀ (ns : List CN) (i : Nat), upN f i ns = [] := by
    intro f hf ns
    induction ns with
    | nil => intro i; rfl
    | cons n ns ih =>
      intro i
      have : ∀ (ps : List Param) (k : Nat), upL f i k ps = [] := by
        intro ps
        induction ps with
        | nil => intro k; rfl
        | cons p ps ih => intro k; simp [upL, hf, ih]
      simp [upN, this, ih]
  unfold cUps
  have hl : (gra l).ns.length = l.length := h2
  rw [hl]
  refine List.ext_getElem? fun i => ?_
  rw [List.getElem?_map, List.getElem?_map]
  by_cases hi : i < l.length
  · rw [List.getElem?_range hi, List.getElem?_eq_getElem hi]
    simp only [Option.map_some]
    rw [none _ (fun i k => by simp [no])]
  · rw [List.getElem?_eq_none (by simpa using hi), List.getElem?_eq_none (by simpa using hi)]; rfl
theorem CaptureFlat_spec (h : AHeap) (p : Prg) (ho : p.ok) (hf : p.fit) (hw : wP p ≤ 1048576) : ACalls Go.Proofs.Try.prog 9 [.agg (ePrg p)] h (fun v g => v = .bool true ∧ g = h) := by
  refine F9.calls (by simp) ?_
  delta F9.c0
  simp -implicitDefEqProofs only [↓pgPre,go_sem,↓reduceIte,reduceCtorEq,seval, ePrg_len, prg_take]
  refine callT_of (rightC_spec h p ho hf) (fun v g ⟨hv, hg⟩ => ?_)
  subst v g
  cases hr : rightC p with
  | false =>
    simp -implicitDefEqProofs only [↓pgPre,go_sem,↓reduceIte,reduceCtorEq,seval]
    refine callT_of (awakeC_spec h) (fun v g ⟨hv, hg⟩ => ?_)
    subst v g
    simp -implicitDefEqProofs only [↓pgPre,go_sem,↓reduceIte,reduceCtorEq,seval]
    exact .same ⟨rfl, rfl⟩
  | true =>
    obtain ⟨b1, b2, b3, b4⟩ := right_bounds hr hw
    have hrl := wRs_len p.routines
    simp -implicitDefEqProofs only [↓pgPre,go_sem,↓reduceIte,reduceCtorEq,seval]
    refine lT_list p.routines (fun pre post e g => (∀ r ∈ pre, r.inner = []) ∧ g = h ∧ e = [(1, .ip (ePrg p) 0), (3, .int .i64 pre.length)]) (WeakE.env ?_) ⟨by simp, rfl, rfl⟩ ?_ ?_
    · skip
      repeat' (first | exact EnvLe.nil _ | refine EnvLe.cons ?_ ?_)
      all_goals (simp -implicitDefEqProofs only [↓pgPre,go_sem,↓reduceIte,reduceCtorEq,seval]; try first | exact AVle.refl _ | exact AVle.sl _ _ | exact AVle.gs _ _ _ | assumption)
    · rintro pre x post e g hp ⟨hi, rfl, rfl⟩
      by_cases hx : x.inner = []
      · have hl : (((x.inner.length : Nat) : Int) > 0) = False := by rw [hx]; simp
        simp -implicitDefEqProofs only [↓pgPre,go_sem,↓reduceIte,reduceCtorEq,seval, prg_6, lt_at hp, aia_sl (map_at hp) (eRoutine_len x), routine_6, hl]
        refine ⟨_, _, WeakE.env ?_, ?_, rfl, rfl⟩
        · skip
          repeat' (first | exact EnvLe.nil _ | refine EnvLe.cons ?_ ?_)
          all_goals (simp -implicitDefEqProofs only [↓pgPre,go_sem,↓reduceIte,reduceCtorEq,seval, step_at ho.routines hp]; try first | exact AVle.refl _ | exact AVle.sl _ _ | exact AVle.gs _ _ _ | assumption)
        · intro r hr
          rcases List.mem_append.1 hr with hr | hr
          · exact hi r hr
          · simp at hr; subst hr; exact hx
      · have hl : (((x.inner.length : Nat) : Int) > 0) = True := by
          have := List.length_pos_iff.2 hx
          simp; omega
        simp -implicitDefEqProofs only [↓pgPre,go_sem,↓reduceIte,reduceCtorEq,seval, prg_6, lt_at hp, aia_sl (map_at hp) (eRoutine_len x), routine_6, hl]
        refine callT_of (awakeC_spec _) (fun v g ⟨hv, hg⟩ => ?_)
        subst v g
        simp -implicitDefEqProofs only [↓pgPre,go_sem,↓reduceIte,reduceCtorEq,seval]
        refine lessQ.same ?_
        simp -implicitDefEqProofs only [↓pgPre,go_sem,↓reduceIte,reduceCtorEq,seval]
        exact .same ⟨rfl, rfl⟩
    · rintro e g ⟨hi, rfl, rfl⟩
      simp -implicitDefEqProofs only [↓pgPre,go_sem,↓reduceIte,reduceCtorEq,seval, prg_6, lt_end]
      refine lessQ.same ?_
      simp -implicitDefEqProofs only [↓pgPre,go_sem,↓reduceIte,reduceCtorEq,seval, ePrg_len, prg_take]
      refine callT_of (Ups_good g p ho b1 b2 b3) (fun v g2 ⟨hv, hg⟩ => ?_)
      subst v g2
      rw [flat_ups hi]
      generalize hL : ((p.routines.map fun _ => ([] : List Param)).map uRow) = L
      have hLl : L.length = p.routines.length := by rw [← hL]; simp
      have hLr : ∀ x ∈ L, x = uRow [] := fun x hx => by
        rw [← hL] at hx
        simp only [List.map_map, List.mem_map, Function.comp_apply] at hx
        obtain ⟨_, _, rfl⟩ := hx; rfl
      simp -implicitDefEqProofs only [↓pgPre,go_sem,↓reduceIte,reduceCtorEq,seval]
      refine lT_list L (fun pre post e k => k = g ∧ e = [(1, .ip (ePrg p) 0), (4, .sl L false), (5, .int .i64 pre.length)]) (WeakE.env ?_) ⟨rfl, rfl⟩ ?_ ?_
      · skip
        repeat' (first | exact EnvLe.nil _ | refine EnvLe.cons ?_ ?_)
        all_goals (simp -implicitDefEqProofs only [↓pgPre,go_sem,↓reduceIte,reduceCtorEq,seval]; try first | exact AVle.refl _ | exact AVle.sl _ _ | exact AVle.gs _ _ _ | assumption)
      · rintro pre x post e k hp ⟨rfl, rfl⟩
        have hx := hLr x (mem_at hp)
        subst hx
        have hrow : L[pre.length]? = some (uRow []) := (at_pre hp).1
        simp -implicitDefEqProofs only [↓pgPre,go_sem,↓reduceIte,reduceCtorEq,seval, lt_at hp, aia_sl (size := 1) hrow rfl]
        refine ⟨_, _, WeakE.env ?_, rfl, rfl⟩
        repeat' (first | exact EnvLe.nil _ | refine EnvLe.cons ?_ ?_)
        all_goals (simp -implicitDefEqProofs only [↓pgPre,go_sem,↓reduceIte,reduceCtorEq,seval, step_at (l := L) (by unfold few; omega) hp]; try first | exact AVle.refl _ | exact AVle.sl _ _ | exact AVle.gs _ _ _ | assumption)
      · rintro e k ⟨rfl, rfl⟩
        simp -implicitDefEqProofs only [↓pgPre,go_sem,↓reduceIte,reduceCtorEq,seval, lt_end]
        refine lessQ.same ?_
        simp -implicitDefEqProofs only [↓pgPre,go_sem,↓reduceIte,reduceCtorEq,seval, prg_6, hLl]
        refine callT_of (awakeC_spec _) (fun v g ⟨hv, hg⟩ => ?_)
        subst v g
        simp -implicitDefEqProofs only [↓pgPre,go_sem,↓reduceIte,reduceCtorEq,seval]
        exact .same ⟨rfl, rfl⟩
end Pg
