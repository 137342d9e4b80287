import Derived.Test.YtdfbkddelhbgmaaGreatDoorTreeSS2
import Derived.Test.YtdfbkddelhbgmaaGreatDoorCodeLS2
import Derived.Test.YtdfbkddelhbgmaaGreatDoorTc5JS2
import Derived.Test.YtdfbkddelhbgmaaGreatDoorRun10S2
import Derived.Test.YtdfbkddelhbgmaaGreatDoorRunFitS2
import Derived.Test.YtdfbkddelhbgmaaGreatDoorNmXS2
namespace Pg
open Go Tc Rf
set_option linter.all false
set_option maxHeartbeats 4000000
set_option maxRecDepth 4000
theorem num20_spec [GI] (h : AHeap) (n : Int) : ACalls Go.Proofs.Tryz.prog 31 [.int .i64 n] h (fun v g => v = .agg [.int .i64 1, .int .i64 n, .str noBytes, .str noBytes, .sl [] true] ∧ g = h) := by
 refine F31.calls (by simp) ?_
 delta F31.c0
 simp only [go_sem,seval]
 refine afreshT_intro fun p hp => ?_
 simp only [go_sem,seval, upd_same, upd_upd]
 exact .forget (AHeap.le_upd hp) ⟨rfl, rfl⟩
theorem sameO_spec [GI] (h : AHeap) (c : Int) (o : List Int) (s : Int) (f1 f2 : Bool) (ho : few o) : ACalls Go.Proofs.Tryz.prog 10 [.agg [.int .i64 c, .sl (o.map eInt) f1, .int .i64 s], .agg [.int .i64 c, .sl (o.map eInt) f2, .int .i64 s]] h (fun v g => v = .bool true ∧ g = h) := by
 refine F10.calls (by simp) ?_
 delta F10.c0
 simp only [go_sem,seval, List.length_map]
 refine lT_list o (fun pre post v g => g = h ∧ v = [(2, .ip [.int .i64 c, .sl (o.map eInt) f1, .int .i64 s] 0), (3, .ip [.int .i64 c, .sl (o.map eInt) f2, .int .i64 s] 0), (5, .int .i64 pre.length)]) (WeakE.env ?_) ⟨rfl, rfl⟩ ?_ ?_
 ·simp only [go_sem,seval]
 ·rintro pre y post v g hy ⟨rfl, rfl⟩
  have ha : ∀ f, aia 1 (.sl (o.map eInt) f) (.int .i64 pre.length) = some (.ip [.int .i64 y] 0) := fun f => aia_sl (map_at hy) rfl
  simp only [go_sem,seval, List.length_map, lt_at hy, ha]
  refine ⟨_, _, WeakE.env ?_, rfl, rfl⟩
  ·simp only [go_sem,seval, step_at ho hy]
 ·rintro v g ⟨rfl, rfl⟩
  simp only [go_sem,seval, List.length_map, lt_end]
  refine lessQ.same ?_
  simp only [go_sem,seval]
  exact .same ⟨rfl, rfl⟩
abbrev noE : Expr := ⟨0, 0, noBytes, noBytes, []⟩
def exA : Prg :=
  let x : Expr := ⟨4, 0, ⟨#[120]⟩, noBytes, []⟩
  ⟨⟨#[112]⟩, [], [], [], [], [⟨[], [], ⟨#[120]⟩, ⟨1, 0, noBytes⟩⟩], [],
    [⟨[], [], 1, noBytes, x, [⟨1, 3, noBytes, noBytes, []⟩], false, false, [], [], [], []⟩,
     ⟨[], [], 4, noBytes, noE, [⟨23, 0, noBytes, noBytes, [x, ⟨1, 0, noBytes, noBytes, []⟩]⟩], false, false,
      [⟨[], [], 8, noBytes, noE, [x], false, false, [], [], [], []⟩, ⟨[], [], 1, noBytes, x, [⟨16, 0, noBytes, noBytes, [x, ⟨1, 1, noBytes, noBytes, []⟩]⟩], false, false, [], [], [], []⟩], [], [], []⟩], []⟩
theorem exA_check : (check exA).2 = 0 := by decide +kernel
theorem exA_t : tPrg exA = true := by decide +kernel
theorem exA_run : (runP (bigN (1 + wtRs exA.routines) exA) exA [] 100).code = 0 ∧ (runP (bigN (1 + wtRs exA.routines) exA) exA [] 100).out = [3, 2, 1] ∧ (runP (bigN (1 + wtRs exA.routines) exA) exA [] 100).steps = 12 := by decide +kernel
theorem exA_ok : exA.ok := by
 constructor <;> simp [exA, Expr.ok, Exprs.ok, Stmt.ok, Stmts.ok, Routines.ok, Pg.few]
 exact ⟨by simp [Pg.few], by simp [Pg.few]⟩
theorem awake20_spec [GI] (hm : Spc0) (h : AHeap) : ACalls Go.Proofs.Tryz.prog 12 [] h (fun v g => v = .bool true ∧ g = h) := by
 have R := fun h => Run_spec h exA exA_ok (fun _ => tCheck_spec hm h exA exA_t) (right_c exA_t exA_ok) [] (by simp [Pg.few]) true 100
 obtain ⟨e1, e2, e3⟩ := exA_run
 simp only [exA_check, if_true, e1, e2, e3] at R
 refine F12.calls (by simp) ?_
 delta F12.c0
 simp only [go_sem,seval]
 refine tcE (num20_spec h 3) ?_
 simp only [go_sem,seval]
 refine tcE (num20_spec h 0) ?_
 simp only [go_sem,seval]
 refine tcE (num20_spec h 1) ?_
 simp only [go_sem,seval]
 refine afreshT_intro fun b hb => ?_
 simp only [go_sem,seval, upd_upd]
 rw [del_upd _ _ _ hb]
 refine callT_le (R _) (.cons (.agg ?_) (.cons (.refl _) (.cons (.refl _) .nil))) (fun v g ⟨hv, hg⟩ => ?_)
 ·simp only [exA, ePrg, eStmts, eStmt, eExpr, eExprs, eVar, eTexts, eRoutines, List.map_cons, List.map_nil, List.cons_append, List.nil_append]
  repeat' (first | exact AVles.nil | exact AVle.refl _ | exact AVle.sl _ _ | refine AVles.cons ?_ ?_ | refine AVle.row1 rfl ?_ | refine AVle.row2 rfl ?_ rfl ?_)
 ·subst hv hg
  simp only [go_sem,seval]
  have S := fun k => sameO_spec k 0 [3, 2, 1] 12 false true (by simp [Pg.few])
  simp only [List.map_cons, List.map_nil] at S
  refine tcE (S _) ?_
  simp only [go_sem,seval]
  exact .same ⟨rfl, rfl⟩
abbrev upto (fuel : Int) : Int := if 20000 < fuel then 20000 else fuel
theorem run20_spec [GI] (hm : Spc0) (h : AHeap) (p : Prg) (ho : p.ok) (ht : tPrg p = true) (input : List Int) (hi : few input) (f : Bool) (fuel : Int) :
  ACalls Go.Proofs.Tryz.prog 11 [.agg (ePrg p), .sl (input.map eInt) f, .int .i64 fuel] h (fun v g => v = .agg (if (check p).2 = 0 then eOut (runP (bigN (1 + wtRs p.routines) p) p input fuel).code (runP (bigN (1 + wtRs p.routines) p) p input fuel).out (runP (bigN (1 + wtRs p.routines) p) p input fuel).steps else eOut 1 [] 0) ∧ g = h) :=
 Run_spec h p ho (fun _ => tCheck_spec hm h p ht) (right_c ht ho) input hi f fuel
