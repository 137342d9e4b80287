import Derived.Test.YtdfbkddelhbgmaaGreatDoorTreeSS2
import Derived.Test.YtdfbkddelhbgmaaGreatDoorLaw20S2
namespace Pg
open Go Tc Rf
set_option linter.all false
set_option maxHeartbeats 4000000
set_option maxRecDepth 4000
def part (n : Int) : Int := if (if 10000 < n then 10000 else n) > 0 then (if 10000 < n then 10000 else n) else 0
theorem part_eq (n : Int) : (if (if 10000 < n then 10000 else n) > 0 then (if 10000 < n then 10000 else n) else 0) = part n := rfl
theorem part_le (n : Int) : 0 ≤ part n ∧ part n ≤ 10000 := by
 unfold part
 by_cases h : 10000 < n
 ·simp only [h, if_true]; decide
 ·simp only [h, if_false]
  by_cases h2 : n > 0
  ·rw [if_pos h2]; omega
  ·rw [if_neg h2]; omega
theorem more_plain (N : Nat) (p : Prg) (input : List Int) (f m : Int) (hf : 0 ≤ f) (hf1 : f ≤ 10000) (hm : 0 ≤ m) (hm1 : m ≤ 10000) :
  ((runP N p input f).code ≠ 21 → (runP N p input (f + m)).code = (runP N p input f).code ∧ (runP N p input (f + m)).out = (runP N p input f).out ∧ (runP N p input (f + m)).steps = (runP N p input f).steps) ∧
  ((runP N p input f).code = 21 → (runP N p input f).steps = f ∧ (runP N p input f).steps ≤ (runP N p input (f + m)).steps ∧ (runP N p input f).out <+: (runP N p input (f + m)).out) := by
 have h := run_more N p input [] f (f + m) (by omega)
 have hs := (run_steps N p input f).2.2.2
 rw [List.append_nil] at h
 rcases h with e | d
 ·rw [e]
  exact ⟨fun _ => ⟨rfl, rfl, rfl⟩, fun hc => ⟨by rw [hs hc]; omega, Int.le_refl _, List.prefix_rfl⟩⟩
 ·refine ⟨fun hc => ?_, fun hc => ⟨by rw [hs hc]; omega, d.steps, d.out⟩⟩
  rcases d.code with ⟨h1, _⟩ | ⟨_, h2⟩
  ·exact absurd h1 hc
  ·exact absurd rfl h2
theorem two_dels {h : AHeap} {b1 b2 : Nat} (hne : b2 ≠ b1) (hb1 : h b1 = none) (A B C D : AObj) : ((((h.upd b1 A).upd b2 B).upd b1 C).upd b2 D).del b1 = h.upd b2 D := by
 funext x
 by_cases h1 : x = b1
 ·subst h1; rw [del_same, upd_ne _ _ _ hne.symm, hb1]
 ·by_cases h2 : x = b2
  ·subst h2; simp [AHeap.del, AHeap.upd, h1]
  ·simp [AHeap.del, AHeap.upd, h1, h2]
theorem More_spec [GI] (hm : Spc0) (h : AHeap) (p : Prg) (ho : p.ok) (hf : p.fit) (input : List Int) (hi : few input) (f : Bool) (fuel more : Int) : ACalls Go.Proofs.Tryz.prog 4 [.agg (ePrg p), .sl (input.map eInt) f, .int .i64 fuel, .int .i64 more] h (fun v g => v = .bool true ∧ g = h) := by
 have hfu := part_le fuel
 have hmo := part_le more
 refine F4.calls (by simp) ?_
 delta F4.c0
 simp only [go_sem,seval, ePrg_len, prg_take]
 refine tcE (tPrg_spec p ho hf h) ?_
 cases ht : tPrg p with
 | false =>
  simp only [go_sem,seval]
  refine tcE (awake20_spec hm h) ?_
  simp only [go_sem,seval]
  exact .same ⟨rfl, rfl⟩
 | true =>
  have hw : IntKind.i64.wrap (part fuel + part more) = part fuel + part more := wrap64 (by omega) (by omega)
  have L := more_plain (bigN (1 + wtRs p.routines) p) p input (part fuel) (part more) hfu.1 hfu.2 hmo.1 hmo.2
  have R1 := run20_spec hm h p ho ht input hi f (part fuel)
  have R2 := run20_spec hm h p ho ht input hi f (part fuel + part more)
  have L1 : (runP (bigN (1 + wtRs p.routines) p) p input (part fuel)).out.length ≤ 20000 := by
   have := run_steps (bigN (1 + wtRs p.routines) p) p input (part fuel)
   omega
  generalize runP (bigN (1 + wtRs p.routines) p) p input (part fuel) = r1 at L L1 R1
  generalize runP (bigN (1 + wtRs p.routines) p) p input (part fuel + part more) = r2 at L R2
  have E : ∃ c o s c2 o2 s2, (if (check p).2 = 0 then eOut r1.code r1.out r1.steps else eOut 1 [] 0) = eOut c o s ∧ (if (check p).2 = 0 then eOut r2.code r2.out r2.steps else eOut 1 [] 0) = eOut c2 o2 s2 ∧ o.length ≤ 20000 ∧ (c ≠ 21 → c2 = c ∧ o2 = o ∧ s2 = s) ∧ (c = 21 → s = part fuel ∧ s ≤ s2 ∧ o <+: o2) := by
   by_cases hc : (check p).2 = 0
   ·exact ⟨_, _, _, _, _, _, if_pos hc, if_pos hc, L1, L.1, L.2⟩
   ·exact ⟨_, _, _, _, _, _, if_neg hc, if_neg hc, by simp, fun _ => ⟨rfl, rfl, rfl⟩, fun e => absurd e (by decide)⟩
  obtain ⟨c, o, s, c2, o2, s2, E1, E2, ho2, D1, D2⟩ := E
  rw [E1] at R1
  rw [E2] at R2
  simp only [go_sem,seval, ePrg_len, prg_take, part_eq]
  refine tcE (R1) ?_
  simp only [go_sem,seval, part_eq, hw]
  refine tcE (R2) ?_
  simp only [go_sem,seval]
  refine afreshT_intro fun b1 hb1 => ?_
  simp only [go_sem,seval]
  refine afreshT_intro fun b2 hb2 => ?_
  have hne : b2 ≠ b1 := by rintro rfl; rw [upd_same] at hb2; cases hb2
  have hb2' : h b2 = none := by rwa [upd_ne _ _ _ hne] at hb2
  simp only [go_sem,seval, upd_ne _ _ _ hne, upd_ne _ _ _ hne.symm, upd_same]
  rw [two_dels hne hb1]
  simp only [go_sem,seval, upd_same]
  rw [del_upd _ _ _ hb2']
  by_cases h21 : c = 21
  ·obtain ⟨rfl, D3, t, rfl⟩ := D2 h21
   have e1 : (s2 < part fuel) = False := by simp only [eq_iff_iff, iff_false]; omega
   have e2 : (((o ++ t).length : Int) < (o.length : Int)) = False := by simp only [eq_iff_iff, iff_false, List.length_append]; omega
   have hsl : aslice false 1 (.sl ((o ++ t).map eInt) false) none (some (.int .i64 (o.length : Int))) = some (.sl (o.map eInt) false) := by
    simp only [aslice, abound]
    rw [if_pos (Int.natCast_nonneg _)]
    simp
   simp only [go_sem,seval, h21, e1, e2, List.length_map, hsl]
   refine tcE (sameO_spec h 0 o 0 false false (by unfold Pg.few; omega)) ?_
   simp only [go_sem,seval]
   refine tcE (awake20_spec hm h) ?_
   simp only [go_sem,seval]
   exact .same ⟨rfl, rfl⟩
  ·obtain ⟨rfl, rfl, rfl⟩ := D1 h21
   simp only [go_sem,seval, h21]
   refine tcE (sameO_spec h c2 o2 s2 false false (by unfold Pg.few; omega)) ?_
   simp only [go_sem,seval]
   refine tcE (awake20_spec hm h) ?_
   simp only [go_sem,seval]
   exact .same ⟨rfl, rfl⟩
