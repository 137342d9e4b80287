import Derived.Test.YtdfbkddelhbgmaaGreatDoorTreeSS1
import Derived.Test.YtdfbkddelhbgmaaGreatDoorCodeLS1
import Derived.Test.YtdfbkddelhbgmaaGreatDoorTc5JS1
import Derived.Test.YtdfbkddelhbgmaaGreatDoorRun10S1
import Derived.Test.YtdfbkddelhbgmaaGreatDoorRunFitS1
import Derived.Test.YtdfbkddelhbgmaaGreatDoorNmXS1
namespace Pg
open Go Tc Rf
set_option linter.all false
set_option maxHeartbeats 4000000
set_option maxRecDepth 4000
theorem num20_spec [GI] (h : AHeap) (n : Int) : ACalls Go.Proofs.Tryz.prog 31 [.int .i64 n] h (fun v g => v = .agg [.int .i64 1, .int .i64 n, .str noBytes, .str noBytes, .sl [] true] ∧ g = h) := by
 refine F31.calls (by simp) ?_
 delta F31.c0
 simp only [go_sem,seval]
 refine afreshT_intro fun p hp => ?_
 simp only [go_sem,seval, upd_same, upd_upd]
 exact .forget (AHeap.le_upd hp) ⟨rfl, rfl⟩
theorem sameO_spec [GI] (h : AHeap) (c : Int) (o : List Int) (s : Int) (f1 f2 : Bool) (ho : few o) : ACalls Go.Proofs.Tryz.prog 10 [.agg [.int .i64 c, .sl (o.map eInt) f1, .int .i64 s], .agg [.int .i64 c, .sl (o.map eInt) f2, .int .i64 s]] h (fun v g => v = .bool true ∧ g = h) := by
 refine F10.calls (by simp) ?_
 delta F10.c0
 simp only [go_sem,seval, List.length_map]
 refine lT_list o (fun pre post v g => g = h ∧ v = [(2, .ip [.int .i64 c, .sl (o.map eInt) f1, .int .i64 s] 0), (3, .ip [.int .i64 c, .sl (o.map eInt) f2, .int .i64 s] 0), (5, .int .i64 pre.length)]) (WeakE.env ?_) ⟨rfl, rfl⟩ ?_ ?_
 ·simp only [go_sem,seval]
 ·rintro pre y post v g hy ⟨rfl, rfl⟩
  have ha : ∀ f, aia 1 (.sl (o.map eInt) f) (.int .i64 pre.length) = some (.ip [.int .i64 y] 0) := fun f => aia_sl (map_at hy) rfl
  simp only [go_sem,seval, List.length_map, lt_at hy, ha]
  refine ⟨_, _, WeakE.env ?_, rfl, rfl⟩
  ·simp only [go_sem,seval, step_at ho hy]
 ·rintro v g ⟨rfl, rfl⟩
  simp only [go_sem,seval, List.length_map, lt_end]
  refine lessQ.same ?_
  simp only [go_sem,seval]
  exact .same ⟨rfl, rfl⟩
abbrev noE : Expr := ⟨0, 0, noBytes, noBytes, []⟩
def exA : Prg :=
  let x : Expr := ⟨4, 0, ⟨#[120]⟩, noBytes, []⟩
  ⟨⟨#[112]⟩, [], [], [], [], [⟨[], [], ⟨#[120]⟩, ⟨1, 0, noBytes⟩⟩], [],
    [⟨[], [], 1, noBytes, x, [⟨1, 3, noBytes, noBytes, []⟩], false, false, [], [], [], []⟩,
     ⟨[], [], 4, noBytes, noE, [⟨23, 0, noBytes, noBytes, [x, ⟨1, 0, noBytes, noBytes, []⟩]⟩], false, false,
      [⟨[], [], 8, noBytes, noE, [x], false, false, [], [], [], []⟩, ⟨[], [], 1, noBytes, x, [⟨16, 0, noBytes, noBytes, [x, ⟨1, 1, noBytes, noBytes, []⟩]⟩], false, false, [], [], [], []⟩], [], [], []⟩], []⟩
theorem exA_check : (check exA).2 = 0 := by decide +kernel
theorem exA_t : tPrg exA = true := by decide +kernel
theorem exA_run : (runP (bigN (1 + wtRs exA.routines) exA) exA [] 100).code = 0 ∧ (runP (bigN (1 + wtRs exA.routines) exA) exA [] 100).out = [3, 2, 1] ∧ (runP (bigN (1 + wtRs exA.routines) exA) exA [] 100).steps = 12 := by decide +kernel
theorem exA_ok : exA.ok := by
 constructor <;> simp [exA, Expr.ok, Exprs.ok, Stmt.ok, Stmts.ok, Routines.ok, Pg.few]
 exact ⟨by simp [Pg.few], by simp [Pg.few]⟩
theorem awake20_spec [GI] (hm : Spc0) (h : AHeap) : ACalls Go.Proofs.Tryz.prog 12 [] h (fun v g => v = .bool true ∧ g = h) := by
 have R := fun h => Run_spec h exA exA_ok (fun _ => tCheck_spec hm h exA exA_t) (right_c exA_t exA_ok) [] (by simp [Pg.few]) true 100
 obtain ⟨e1, e2, e3⟩ := exA_run
 simp only [exA_check, if_true, e1, e2, e3] at R
 refine F12.calls (by simp) ?_
 delta F12.c0
 simp only [go_sem,seval]
 refine tcE (num20_spec h 3) ?_
 simp only [go_sem,seval]
 refine tcE (num20_spec h 0) ?_
 simp only [go_sem,seval]
 refine tcE (num20_spec h 1) ?_
 simp only [go_sem,seval]
 refine afreshT_intro fun b hb => ?_
 simp only [go_sem,seval, upd_upd]
 rw [del_upd _ _ _ hb]
 refine callT_le (R _) (.cons (.agg ?_) (.cons (.refl _) (.cons (.refl _) .nil))) (fun v g ⟨hv, hg⟩ => ?_)
 ·simp only [exA, ePrg, eStmts, eStmt, eExpr, eExprs, eVar, eTexts, eRoutines, List.map_cons, List.map_nil, List.cons_append, List.nil_append]
  repeat' (first | exact AVles.nil | exact AVle.refl _ | exact AVle.sl _ _ | refine AVles.cons ?_ ?_ | refine AVle.row1 rfl ?_ | refine AVle.row2 rfl ?_ rfl ?_)
 ·subst hv hg
  simp only [go_sem,seval]
  have S := fun k => sameO_spec k 0 [3, 2, 1] 12 false true (by simp [Pg.few])
  simp only [List.map_cons, List.map_nil] at S
  refine tcE (S _) ?_
  simp only [go_sem,seval]
  exact .same ⟨rfl, rfl⟩
abbrev upto (fuel : Int) : Int := if 20000 < fuel then 20000 else fuel
theorem run20_spec [GI] (hm : Spc0) (h : AHeap) (p : Prg) (ho : p.ok) (ht : tPrg p = true) (input : List Int) (hi : few input) (f : Bool) (fuel : Int) :
  ACalls Go.Proofs.Tryz.prog 11 [.agg (ePrg p), .sl (input.map eInt) f, .int .i64 fuel] h (fun v g => v = .agg (if (check p).2 = 0 then eOut (runP (bigN (1 + wtRs p.routines) p) p input fuel).code (runP (bigN (1 + wtRs p.routines) p) p input fuel).out (runP (bigN (1 + wtRs p.routines) p) p input fuel).steps else eOut 1 [] 0) ∧ g = h) :=
 Run_spec h p ho (fun _ => tCheck_spec hm h p ht) (right_c ht ho) input hi f fuel
theorem Steps_spec [GI] (hm : Spc0) (h : AHeap) (p : Prg) (ho : p.ok) (hf : p.fit) (input : List Int) (hi : few input) (f : Bool) (fuel : Int) : ACalls Go.Proofs.Tryz.prog 8 [.agg (ePrg p), .sl (input.map eInt) f, .int .i64 fuel] h (fun v g => v = .bool true ∧ g = h) := by
 refine F8.calls (by simp) ?_
 delta F8.c0
 simp only [go_sem,seval, ePrg_len, prg_take]
 refine tcE (tPrg_spec p ho hf h) ?_
 cases ht : tPrg p with
 | false =>
  simp only [go_sem,seval]
  refine tcE (awake20_spec hm h) ?_
  simp only [go_sem,seval]
  exact .same ⟨rfl, rfl⟩
 | true =>
  simp only [go_sem,seval, ePrg_len, prg_take]
  have L := run_steps (bigN (1 + wtRs p.routines) p) p input (upto fuel)
  have R := run20_spec hm h p ho ht input hi f (upto fuel)
  generalize runP (bigN (1 + wtRs p.routines) p) p input (upto fuel) = r at L R
  have E : ∃ c o s, (if (check p).2 = 0 then eOut r.code r.out r.steps else eOut 1 [] 0) = eOut c o s ∧ s ≥ 0 ∧ s ≤ (if upto fuel > 0 then upto fuel else 0) ∧ (o.length : Int) ≤ s ∧ (c = 21 → s = (if upto fuel > 0 then upto fuel else 0)) := by
   have hmx : max 0 (min (upto fuel) 1048576) = if upto fuel > 0 then upto fuel else 0 := by
    have : upto fuel ≤ 20000 := by unfold upto; split <;> omega
    split <;> omega
   rw [hmx] at L
   by_cases hc : (check p).2 = 0
   ·exact ⟨_, _, _, if_pos hc, L.1, L.2.1, L.2.2.1, L.2.2.2⟩
   ·exact ⟨_, _, _, if_neg hc, by omega, by split <;> omega, by simp, fun e => absurd e (by decide)⟩
  obtain ⟨c, o, s, E, e1, e2, e3, e4⟩ := E
  rw [E] at R
  refine tcE (R) ?_
  simp only [go_sem,seval, e1, e2, e3, List.length_map]
  by_cases h21 : c = 21
  ·simp only [go_sem,seval, h21, e4 h21]
   refine tcE (awake20_spec hm h) ?_
   simp only [go_sem,seval]
   exact .same ⟨rfl, rfl⟩
  ·simp only [go_sem,seval, h21]
   refine tcE (awake20_spec hm h) ?_
   simp only [go_sem,seval]
   exact .same ⟨rfl, rfl⟩
