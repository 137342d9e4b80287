import Derived.Test.YtdfbkddelhbgmaaGreatDoorTreeSS2
import Derived.Test.YtdfbkddelhbgmaaGreatDoorLaw20bS2
namespace Pg
open Go Tc Rf
set_option linter.all false
set_option maxHeartbeats 4000000
set_option maxRecDepth 4000
theorem reads_plain (N : Nat) (p : Prg) (input l : List Int) (f : Int) :
  ((runP N p input f).code ≠ 20 → (runP N p (input ++ l) f).code = (runP N p input f).code ∧ (runP N p (input ++ l) f).out = (runP N p input f).out ∧ (runP N p (input ++ l) f).steps = (runP N p input f).steps) ∧
  ((runP N p input f).steps ≤ (runP N p (input ++ l) f).steps ∧ (runP N p input f).out <+: (runP N p (input ++ l) f).out) := by
 have h := run_more N p input l f f (by omega)
 rcases h with e | d
 ·rw [e]
  exact ⟨fun _ => ⟨rfl, rfl, rfl⟩, Int.le_refl _, List.prefix_rfl⟩
 ·refine ⟨fun hc => ?_, d.steps, d.out⟩
  rcases d.code with ⟨_, h1⟩ | ⟨h2, _⟩
  ·exact absurd rfl h1
  ·exact absurd h2 hc
theorem upto_eq (fuel : Int) : (if 20000 < fuel then 20000 else fuel) = upto fuel := rfl
theorem Reads_spec [GI] (hm : Spc0) (h : AHeap) (p : Prg) (ho : p.ok) (hf : p.fit) (input : List Int) (hi : input.length ≤ 1048576) (f : Bool) (more : List Int) (hi2 : more.length ≤ 1048576) (f2 : Bool) (fuel : Int) : ACalls Go.Proofs.Tryz.prog 7 [.agg (ePrg p), .sl (input.map eInt) f, .sl (more.map eInt) f2, .int .i64 fuel] h (fun v g => v = .bool true ∧ g = h) := by
 refine F7.calls (by simp) ?_
 delta F7.c0
 simp only [go_sem,seval, ePrg_len, prg_take]
 refine tcE (tPrg_spec p ho hf h) ?_
 cases ht : tPrg p with
 | false =>
  simp only [go_sem,seval]
  refine tcE (awake20_spec hm h) ?_
  simp only [go_sem,seval]
  exact .same ⟨rfl, rfl⟩
 | true =>
  have L := reads_plain (bigN (1 + wtRs p.routines) p) p input more (upto fuel)
  have R1 := run20_spec hm h p ho ht input (by unfold Pg.few; omega) f (upto fuel)
  have R2 := fun k => run20_spec hm k p ho ht (input ++ more) (by unfold Pg.few; simp; omega) false (upto fuel)
  have L1 : (runP (bigN (1 + wtRs p.routines) p) p input (upto fuel)).out.length ≤ 20000 := by
   have := run_steps (bigN (1 + wtRs p.routines) p) p input (upto fuel)
   have : upto fuel ≤ 20000 := by unfold upto; split <;> omega
   omega
  generalize runP (bigN (1 + wtRs p.routines) p) p input (upto fuel) = r1 at L L1 R1
  generalize runP (bigN (1 + wtRs p.routines) p) p (input ++ more) (upto fuel) = r2 at L R2
  have E : ∃ c o s c2 o2 s2, (if (check p).2 = 0 then eOut r1.code r1.out r1.steps else eOut 1 [] 0) = eOut c o s ∧ (if (check p).2 = 0 then eOut r2.code r2.out r2.steps else eOut 1 [] 0) = eOut c2 o2 s2 ∧ o.length ≤ 20000 ∧ (c ≠ 20 → c2 = c ∧ o2 = o ∧ s2 = s) ∧ (s ≤ s2 ∧ o <+: o2) := by
   by_cases hc : (check p).2 = 0
   ·exact ⟨_, _, _, _, _, _, if_pos hc, if_pos hc, L1, L.1, L.2⟩
   ·exact ⟨_, _, _, _, _, _, if_neg hc, if_neg hc, by simp, fun _ => ⟨rfl, rfl, rfl⟩, Int.le_refl _, List.prefix_rfl⟩
  obtain ⟨c, o, s, c2, o2, s2, E1, E2, ho2, D1, D2⟩ := E
  rw [E1] at R1
  rw [E2] at R2
  simp only [go_sem,seval, ePrg_len, prg_take, upto_eq]
  refine tcE (R1) ?_
  simp only [go_sem,seval, upto_eq]
  refine ⟨by simp, ?_⟩
  refine (GL.nil h).append (new := input.map eInt) (by simp) rfl (by simp) (by unfold roomFor; simp; omega) fun v1 h1 G1 => ?_
  rw [List.nil_append] at G1
  simp only [go_sem,seval, List.length_map]
  refine ⟨by simp, ?_⟩
  refine G1.append (new := more.map eInt) (by simp) rfl (by simp) (by unfold roomFor; simp; omega) fun v2 h2 G2 => ?_
  rw [← List.map_append] at G2
  simp only [go_sem,seval]
  refine callT_le (R2 h2) (.cons (.refl _) (.cons G2.avle (.cons (.refl _) .nil))) fun v g ⟨hv, hg⟩ => ?_
  subst hv hg
  simp only [go_sem,seval]
  refine afreshT_intro fun b hb => ?_
  simp only [go_sem,seval, upd_upd, upd_same]
  rw [del_upd _ _ _ hb]
  by_cases h20 : c = 20
  ·obtain ⟨D3, t, rfl⟩ := D2
   have e1 : (s2 < s) = False := by simp only [eq_iff_iff, iff_false]; omega
   have e2 : (((o ++ t).length : Int) < (o.length : Int)) = False := by simp only [eq_iff_iff, iff_false, List.length_append]; omega
   have hsl : aslice false 1 (.sl ((o ++ t).map eInt) false) none (some (.int .i64 (o.length : Int))) = some (.sl (o.map eInt) false) := by
    simp only [aslice, abound]
    rw [if_pos (Int.natCast_nonneg _)]
    simp
   simp only [go_sem,seval, h20, e1, e2, List.length_map, hsl]
   refine tcE (sameO_spec g 0 o 0 false false (by unfold Pg.few; omega)) ?_
   simp only [go_sem,seval]
   refine tcE (awake20_spec hm g) ?_
   simp only [go_sem,seval]
   exact .forget G2.le ⟨rfl, rfl⟩
  ·obtain ⟨rfl, rfl, rfl⟩ := D1 h20
   simp only [go_sem,seval, h20]
   refine tcE (sameO_spec g c2 o2 s2 false false (by unfold Pg.few; omega)) ?_
   simp only [go_sem,seval]
   refine tcE (awake20_spec hm g) ?_
   simp only [go_sem,seval]
   exact .forget G2.le ⟨rfl, rfl⟩
