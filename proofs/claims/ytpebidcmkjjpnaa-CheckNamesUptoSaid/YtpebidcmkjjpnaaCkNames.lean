import Derived.Test.YtpebidcmkjjpnaaTreeS
import Derived.Test.YtpebidcmkjjpnaaNamesLaw
import Derived.Test.YtpebidcmkjjpnaaNmX
import Derived.Test.YtpebidcmkjjpnaaAwake
namespace Pg
open Go
set_option linter.unusedSimpArgs false
set_option linter.unusedVariables false
set_option maxHeartbeats 4000000
set_option maxRecDepth 4000
theorem tName_soft {s : ByteArray} (h : tName s = true) : soft s := by
  refine ⟨?_, tName_plain h⟩
  simp only [tName, Bool.and_eq_true, decide_eq_true_eq] at h
  have h1 := h.1
  unfold nameCode at h1
  unfold small
  by_cases h0 : s = noBytes
  · rw [h0]; decide
  · rw [if_neg h0] at h1
    by_cases hl : letters true (bytes s) = true
    · rw [if_pos hl] at h1
      by_cases h2 : 32 < s.size
      · rw [if_pos h2] at h1; simp at h1
      · omega
    · rw [if_neg hl] at h1; simp at h1
theorem tPrg_soft {p : Prg} (h : tPrg p = true) : inP soft p := tPrg_in (fun _ => tName_soft) ⟨by unfold small; decide, plain_none⟩ h
theorem tPrg_small {p : Prg} (h : tPrg p = true) : inP small p := tPrg_in (fun _ h => (tName_soft h).1) (by unfold small; decide) h
theorem CheckNames_spec (h : AHeap) (p : Prg) (ho : p.ok) (hf : p.fit) (hw : wP p ≤ 1048576) : ACalls Go.Proofs.Try.prog 3 [.agg (ePrg p)] h (fun v g => v = .bool true ∧ g = h) := by
  refine F3.calls (by simp) ?_
  delta F3.c0 F3.c1 F3.c5 F3.c6 F3.c10 F3.c11 F3.c20 F3.c21 F3.c22 F3.r13 F3.r12 F3.r11 F3.c12 F3.c13 F3.c14 F3.c15 F3.c18 F3.r10 F3.c19 F3.r9 F3.c16 F3.c17 F3.r8 F3.r7 F3.r6 F3.c7 F3.c8 F3.c9 F3.r5 F3.r4 F3.r3 F3.c2 F3.c3 F3.c4 F3.r2 F3.r1 F3.r0
  simp -implicitDefEqProofs only [↓pgPre,go_sem,↓reduceIte,reduceCtorEq,seval]
  refine callT_of (tPrg_spec p ho hf h) (fun v g ⟨hv, hg⟩ => ?_)
  subst v g
  cases ht : tPrg p
  · simp -implicitDefEqProofs only [↓pgPre,go_sem,↓reduceIte,reduceCtorEq,seval]
    refine callT_of (awake_spec h) (fun v g ⟨hv, hg⟩ => ?_)
    subst v g
    simp -implicitDefEqProofs only [↓pgPre,go_sem,↓reduceIte,reduceCtorEq,seval]
    exact .same ⟨rfl, rfl⟩
  simp -implicitDefEqProofs only [↓pgPre,go_sem,↓reduceIte,reduceCtorEq,seval]
  have hpl := tPrg_plain ht
  have hnl := nmP_len hpl
  refine callT_of (Names_spec p ho (tPrg_small ht) (by unfold roomy; omega) h) (fun v g ⟨hv, hg⟩ => ?_)
  subst v g
  simp -implicitDefEqProofs only [↓pgPre,go_sem,↓reduceIte,reduceCtorEq,seval]
  by_cases hl : ((names p).length : Int) > 200
  · simp -implicitDefEqProofs only [↓pgPre,go_sem,↓reduceIte,reduceCtorEq,seval, hl]
    refine callT_of (awake_spec h) (fun v g ⟨hv, hg⟩ => ?_)
    subst v g
    simp -implicitDefEqProofs only [↓pgPre,go_sem,↓reduceIte,reduceCtorEq,seval]
    exact .same ⟨rfl, rfl⟩
  simp -implicitDefEqProofs only [↓pgPre,go_sem,↓reduceIte,reduceCtorEq,seval, hl]
  have hl2 : (names p).length ≤ 200 := by omega
  have hfew : few (names p) := by unfold few; omega
  refine lT_list (names p) (fun pre post e g => ∃ v, GL 35 2 h g v ((byFrom 0 pre).map ePair) ∧ e = [(1, .ip (ePrg p) 0), (3, .sl (txt (names p)) false), (4, v), (5, .int .i64 pre.length)]) (WeakE.env ?_) ⟨.sl [] true, .nil h, rfl⟩ ?_ ?_
  · skip
    repeat' (first | exact EnvLe.nil _ | refine EnvLe.cons ?_ ?_)
    all_goals (simp -implicitDefEqProofs only [↓pgPre,go_sem,↓reduceIte,reduceCtorEq,seval]; try first | exact AVle.refl _ | exact AVle.sl _ _ | exact AVle.gs _ _ _ | assumption)
  · rintro pre x post e g hp ⟨v, G, rfl⟩
    have hpl2 := (at_pre hp).2
    simp -implicitDefEqProofs only [↓pgPre,go_sem,↓reduceIte,reduceCtorEq,seval, lt_at hp, aia_sl (txt_at hp) (show _ = 1 from rfl)]
    refine callT_of (Digits_spec g 2 pre.length (by simp; omega) (by omega)) (fun v' g' ⟨hv, hg⟩ => ?_)
    subst v' g'
    have hs : (((((⟨#[110]⟩ : ByteArray)).size + (digs 2 pre.length).size : Nat) : Int) > IntKind.i64.max) = False := by
      have a := digs_size 2 pre.length
      have m : IntKind.i64.max = 9223372036854775807 := by decide
      have z : (⟨#[110]⟩ : ByteArray).size = 1 := rfl
      rw [m, z]; simp; omega
    simp -implicitDefEqProofs only [↓pgPre,go_sem,↓reduceIte,reduceCtorEq,seval, hs]
    refine G.append1 (xs := ePair ⟨x, nn pre.length⟩) (bytes := 32) rfl (by unfold roomFor; simp [byFrom_len]; omega) (fun v' g' G' => ?_)
    simp -implicitDefEqProofs only [↓pgPre,go_sem,↓reduceIte,reduceCtorEq,seval]
    refine ⟨_, _, WeakE.env ?_, v', ?_, rfl⟩
    · skip
      repeat' (first | exact EnvLe.nil _ | refine EnvLe.cons ?_ ?_)
      all_goals (simp -implicitDefEqProofs only [↓pgPre,go_sem,↓reduceIte,reduceCtorEq,seval, step_at hfew hp]; try first | exact AVle.refl _ | exact AVle.sl _ _ | exact AVle.gs _ _ _ | assumption)
    · rw [byFrom_snoc, List.map_append, Nat.zero_add]; exact G'
  · rintro e g ⟨v, G, rfl⟩
    simp -implicitDefEqProofs only [↓pgPre,go_sem,↓reduceIte,reduceCtorEq,seval, lt_end]
    refine lessQ.to (e' := [(1, .ip (ePrg p) 0), (4, .sl ((byFrom 0 (names p)).map ePair) false)]) (g := h) (WeakE.of ?_ (.of_le G.le)) ?_
    · skip
      repeat' (first | exact EnvLe.nil _ | refine EnvLe.cons ?_ ?_)
      all_goals (simp -implicitDefEqProofs only [↓pgPre,go_sem,↓reduceIte,reduceCtorEq,seval]; try first | exact AVle.refl _ | exact AVle.sl _ _ | exact AVle.gs _ _ _ | assumption)
      exact G.avle
    simp -implicitDefEqProofs only [↓pgPre,go_sem,↓reduceIte,reduceCtorEq,seval]
    refine callT_of (Check_spec h p ho) (fun v g ⟨hv, hg⟩ => ?_)
    subst v g
    simp -implicitDefEqProofs only [↓pgPre,go_sem,↓reduceIte,reduceCtorEq,seval]
    refine callT_of (Rename_spec (by_ := byFrom 0 (names p)) ⟨by unfold few; rw [byFrom_len]; omega, byFrom_small 0 _⟩ false p ho (tPrg_soft ht) (by omega) h) (fun v' g' ⟨hv, hg⟩ => ?_)
    subst v' g'
    simp -implicitDefEqProofs only [↓pgPre,go_sem,↓reduceIte,reduceCtorEq,seval]
    refine callT_of (Check_spec h (rnP (turn (byFrom 0 (names p))) p) (rnP_ok ho)) (fun v g ⟨hv, hg⟩ => ?_)
    subst v g
    rw [names_law p hpl hl2 hw]
    simp -implicitDefEqProofs only [↓pgPre,go_sem,↓reduceIte,reduceCtorEq,seval]
    refine callT_of (awake_spec h) (fun v g ⟨hv, hg⟩ => ?_)
    subst v g
    simp -implicitDefEqProofs only [↓pgPre,go_sem,↓reduceIte,reduceCtorEq,seval]
    exact .same ⟨rfl, rfl⟩
end Pg
