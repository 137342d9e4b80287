import Derived.Test.YtdfbkddelhbgmaaGreatDoorTreeSS3
import Derived.Test.YtdfbkddelhbgmaaGreatDoorCodeLS3
import Derived.Test.YtdfbkddelhbgmaaGreatDoorTc5JS3
import Derived.Test.YtdfbkddelhbgmaaGreatDoorRun10JS3
import Derived.Test.YtdfbkddelhbgmaaGreatDoorRunFitJS3
import Derived.Test.YtdfbkddelhbgmaaGreatDoorNmXS3
namespace Pg
open Go Tc Rf
set_option linter.all false
set_option maxHeartbeats 4000000
set_option maxRecDepth 4000
theorem BC [GI] (h : AHeap) (n : Int) : aD Go.Proofs.Tryz.prog 31 [.int .i64 n] h (fun v g => v = .agg [.int .i64 1, .int .i64 n, .str noBytes, .str noBytes, .sl [] true] ∧ g = h) := by
 refine F31.calls (by simp) ?_
 delta F31.c0
 simp only [go_sem,seval]
 refine aS fun p hp => ?_
 simp only [go_sem,seval, aA, aB]
 exact .forget (AHeap.b8 hp) ⟨rfl, rfl⟩
theorem JM [GI] (h : AHeap) (c : Int) (o : List Int) (s : Int) (f1 f2 : Bool) (ho : few o) : aD Go.Proofs.Tryz.prog 10 [.agg [.int .i64 c, .sl (o.map eInt) f1, .int .i64 s], .agg [.int .i64 c, .sl (o.map eInt) f2, .int .i64 s]] h (fun v g => v = .bool true ∧ g = h) := by
 refine F10.calls (by simp) ?_
 delta F10.c0
 simp only [go_sem,seval, List.length_map]
 refine aX o (fun pre post v g => g = h ∧ v = [(2, .ip [.int .i64 c, .sl (o.map eInt) f1, .int .i64 s] 0), (3, .ip [.int .i64 c, .sl (o.map eInt) f2, .int .i64 s] 0), (5, .int .i64 pre.length)]) (aF.env ?_) ⟨rfl, rfl⟩ ?_ ?_
 ·simp only [go_sem,seval]
 ·rintro pre y post v g hy ⟨rfl, rfl⟩
  have ha : ∀ f, aia 1 (.sl (o.map eInt) f) (.int .i64 pre.length) = some (.ip [.int .i64 y] 0) := fun f => aI (aK hy) rfl
  simp only [go_sem,seval, List.length_map, bI hy, ha]
  refine ⟨_, _, aF.env ?_, rfl, rfl⟩
  ·simp only [go_sem,seval, aQ ho hy]
 ·rintro v g ⟨rfl, rfl⟩
  simp only [go_sem,seval, List.length_map, bE]
  refine aM.same ?_
  simp only [go_sem,seval]
  exact .same ⟨rfl, rfl⟩
abbrev noE : Expr := ⟨0, 0, noBytes, noBytes, []⟩
def exA : Prg :=
  let x : Expr := ⟨4, 0, ⟨#[120]⟩, noBytes, []⟩
  ⟨⟨#[112]⟩, [], [], [], [], [⟨[], [], ⟨#[120]⟩, ⟨1, 0, noBytes⟩⟩], [],
    [⟨[], [], 1, noBytes, x, [⟨1, 3, noBytes, noBytes, []⟩], false, false, [], [], [], []⟩,
     ⟨[], [], 4, noBytes, noE, [⟨23, 0, noBytes, noBytes, [x, ⟨1, 0, noBytes, noBytes, []⟩]⟩], false, false,
      [⟨[], [], 8, noBytes, noE, [x], false, false, [], [], [], []⟩, ⟨[], [], 1, noBytes, x, [⟨16, 0, noBytes, noBytes, [x, ⟨1, 1, noBytes, noBytes, []⟩]⟩], false, false, [], [], [], []⟩], [], [], []⟩], []⟩
theorem aBu : (check exA).2 = 0 := by decide +kernel
theorem aDE : eI exA = true := by decide +kernel
theorem aEv : (kS (mA (1 + mG exA.aH) exA) exA [] 100).code = 0 ∧ (kS (mA (1 + mG exA.aH) exA) exA [] 100).out = [3, 2, 1] ∧ (kS (mA (1 + mG exA.aH) exA) exA [] 100).steps = 12 := by decide +kernel
theorem aBt : exA.ok := by
 constructor <;> simp [exA, Expr.ok, cI.ok, Stmt.ok, aZ.ok, bB.ok, Pg.few]
 exact ⟨by simp [Pg.few], by simp [Pg.few]⟩
theorem sX [GI] (hm : Spc0) (h : AHeap) : aD Go.Proofs.Tryz.prog 12 [] h (fun v g => v = .bool true ∧ g = h) := by
 have R := fun h => RK h exA aBt (fun _ => GC hm h exA aDE) (WK aDE aBt) [] (by simp [Pg.few]) true 100
 obtain ⟨e1, e2, e3⟩ := aEv
 simp only [aBu, if_true, e1, e2, e3] at R
 refine F12.calls (by simp) ?_
 delta F12.c0
 simp only [go_sem,seval]
 refine tcE (BC h 3) ?_
 simp only [go_sem,seval]
 refine tcE (BC h 0) ?_
 simp only [go_sem,seval]
 refine tcE (BC h 1) ?_
 simp only [go_sem,seval]
 refine aS fun b hb => ?_
 simp only [go_sem,seval, aB]
 rw [fE _ _ _ hb]
 refine IN (R _) (.cons (.agg ?_) (.cons (.refl _) (.cons (.refl _) .nil))) (fun v g ⟨hv, hg⟩ => ?_)
 ·simp only [exA, fJ, uU, bA, aO, xS, dF, aE, rW, List.map_cons, List.map_nil, List.cons_append, List.nil_append]
  repeat' (first | exact fA.nil | exact dE.refl _ | exact dE.sl _ _ | refine fA.cons ?_ ?_ | refine dE.aFY rfl ?_ | refine dE.aFX rfl ?_ rfl ?_)
 ·subst hv hg
  simp only [go_sem,seval]
  have S := fun k => JM k 0 [3, 2, 1] 12 false true (by simp [Pg.few])
  simp only [List.map_cons, List.map_nil] at S
  refine tcE (S _) ?_
  simp only [go_sem,seval]
  exact .same ⟨rfl, rfl⟩
abbrev upto (fuel : Int) : Int := if 20000 < fuel then 20000 else fuel
theorem JP [GI] (hm : Spc0) (h : AHeap) (p : Prg) (ho : p.ok) (ht : eI p = true) (input : List Int) (hi : few input) (f : Bool) (fuel : Int) :
  aD Go.Proofs.Tryz.prog 11 [.agg (fJ p), .sl (input.map eInt) f, .int .i64 fuel] h (fun v g => v = .agg (if (check p).2 = 0 then IL (kS (mA (1 + mG p.aH) p) p input fuel).code (kS (mA (1 + mG p.aH) p) p input fuel).out (kS (mA (1 + mG p.aH) p) p input fuel).steps else IL 1 [] 0) ∧ g = h) :=
 RK h p ho (fun _ => GC hm h p ht) (WK ht ho) input hi f fuel
