import Derived.Test.YtlflapoljegmoaaGreatDoorTreeSE
import Derived.Test.YtlflapoljegmoaaGreatDoorCkYE
import Derived.Test.YtlflapoljegmoaaGreatDoorK4E
import Derived.Test.YtlflapoljegmoaaGreatDoorCodeIJE
import Derived.Test.YtlflapoljegmoaaGreatDoorLift3JE
import Derived.Test.YtlflapoljegmoaaGreatDoorR12aJE
import Derived.Test.YtlflapoljegmoaaGreatDoorR12LawE
import Derived.Test.YtlflapoljegmoaaGreatDoorNmXE
import Derived.Test.YtlflapoljegmoaaGreatDoorLiftOkJE
namespace Pg
open Go
set_option linter.all false
set_option maxHeartbeats 4000000
set_option maxRecDepth 4000
theorem few_nil {α : Type} : few ([] : List α) := by simp [few]
theorem few_one {α : Type} (x : α) : few [x] := by simp [few]
theorem leaf_ok (op n : Int) (a b : ByteArray) : Expr.ok ⟨op, n, a, b, []⟩ := (Expr.ok_iff _).2 ⟨few_nil, by simp⟩
end Pg

namespace Pg
open Go
set_option linter.all false
set_option maxHeartbeats 4000000
set_option maxRecDepth 4000
def noExpr : Expr := ⟨0, 0, noBytes, noBytes, []⟩
def stCall (name : ByteArray) : Stmt := ⟨[], [], 2, noBytes, noExpr, [⟨7, 0, name, noBytes, []⟩], false, false, [], [], [], []⟩
def stWrite (v : ByteArray) : Stmt := ⟨[], [], 8, noBytes, noExpr, [⟨4, 0, v, noBytes, []⟩], false, false, [], [], [], []⟩
def rWrites (name v : ByteArray) : Routine := ⟨[], [], name, 0, [], [], [], [stWrite v], []⟩
def xP : Param := ⟨⟨#[120]⟩, ⟨1, 0, noBytes⟩, 2⟩
theorem stOk {name : ByteArray} {op k : Int} : Stmt.ok ⟨[], [], op, noBytes, noExpr, [⟨k, 0, name, noBytes, []⟩], false, false, [], [], [], []⟩ :=
 (Stmt.ok_iff _).2 ⟨few_nil, few_nil, leaf_ok _ _ _ _, few_one _, by simpa using leaf_ok _ _ _ _, few_nil, by simp, few_nil, by simp, few_nil, few_nil⟩
theorem stCall_ok (name : ByteArray) : (stCall name).ok := stOk
theorem stWrite_ok (name : ByteArray) : (stWrite name).ok := stOk
end Pg

namespace Pg
open Go Go.Proofs.Tryz
set_option linter.all false
set_option maxHeartbeats 4000000
set_option maxRecDepth 4000
def rG : Routine := rWrites ⟨#[103]⟩ ⟨#[120]⟩
def rL : Routine := ⟨[], [], ⟨#[102]⟩, 0, [], [⟨[], [], ⟨#[120]⟩, ⟨1, 0, noBytes⟩⟩], [rG], [stCall ⟨#[103]⟩], []⟩
def exL : Prg := ⟨⟨#[112]⟩, [], [], [], [], [], [rL], [], []⟩
theorem exL_check : (check exL).2 = 0 := by decide +kernel
theorem exL_ups : cUps exL.routines = [[], [xP]] := by
 have c1 : Caps (gra exL.routines) 1 (0, 0) := .use (by decide +kernel)
 have c0 : ¬ Caps (gra exL.routines) 0 (0, 0) := fun c => by
  have u := caps_up c
  cases u with
  | base h ha =>
   have : (nodesOf exL.routines)[0]? = some ⟨noBytes ++ ⟨#[102]⟩, -1, exL.routines, rL, capMap 1 [] rL.inner⟩ := rfl
   rw [this] at h; cases h; simp at ha
  | step h ha _ =>
   have : (nodesOf exL.routines)[0]? = some ⟨noBytes ++ ⟨#[102]⟩, -1, exL.routines, rL, capMap 1 [] rL.inner⟩ := rfl
   rw [this] at h; cases h; simp at ha
 have key : ∀ f : Nat → Nat → Bool, upN f 0 (gra exL.routines).ns = if f 0 0 then [xP] else [] := fun f => by
  show (if f 0 0 then [xP] else []) ++ [] ++ ([] ++ []) = _
  simp
 have hn : (gra exL.routines).ns.length = 2 := rfl
 unfold cUps
 rw [hn]
 simp only [key, List.range, List.range.loop, List.map_cons, List.map_nil, c0, c1, decide_true, decide_false, if_true, Bool.false_eq_true, if_false]
def pFG : ByteArray := ⟨#[102, 36, 103]⟩
def rL1 : Routine := ⟨[], [], ⟨#[102]⟩, 0, [], [⟨[], [], ⟨#[120]⟩, ⟨1, 0, noBytes⟩⟩], [], [⟨[], [], 2, noBytes, noExpr, [⟨7, 0, pFG, noBytes, [upE xP]⟩], false, false, [], [], [], []⟩], []⟩
def rG1 : Routine := ⟨[], [], pFG, 0, [xP], [], [], [stWrite ⟨#[120]⟩], []⟩
def qL : Prg := ⟨⟨#[112]⟩, [], [], [], [], [], [rL1, rG1], [], []⟩
theorem exL_lift : liftP exL = (qL, 0) := by
 unfold liftP
 rw [exL_ups]
 rfl
theorem exL_ok : exL.ok := by
 have hg : rG.ok := (Routine.ok_iff _).2 ⟨few_nil, few_nil, few_nil, few_nil, by simp [rG, rWrites], few_nil, by simp [rG, rWrites], few_one _, by simpa [rG, rWrites] using stWrite_ok _, few_nil⟩
 have hf : rL.ok := (Routine.ok_iff _).2 ⟨few_nil, few_nil, few_nil, few_one _, by simpa [rL] using ⟨few_nil, few_nil⟩, few_one _, by simpa [rL] using hg, few_one _, by simpa [rL] using stCall_ok _, few_nil⟩
 refine ⟨few_nil, few_nil, few_nil, few_nil, by simp [exL], few_nil, by simp [exL], few_one _, by simpa [exL] using hf, few_nil, by simp [exL], few_nil⟩
theorem awakeL_spec [GI] (hm : Max0) (h : AHeap) : ACalls prog 10 [] h (fun v g => v = .bool true ∧ g = h) := by
 refine F10.calls (by simp) ?_
 delta F10.c0
 simp only [go_sem,seval]
 refine callT_le (Lift_good hm _ exL exL_ok (by decide +kernel) exL_check) (.cons (.agg ?_) .nil) (fun v g ⟨hv, hg⟩ => ?_)
 ·rw [ePrg_eq]
  simp only [exL]
  repeat' (first | exact AVles.nil | refine AVles.cons ?_ ?_)
  all_goals first | exact .refl _ | exact AVle.sl _ _ | refine AVle.row1 (by rw [eRoutine_eq]; rfl) ?_
  rw [eRoutine_eq]
  simp only [rL]
  repeat' (first | exact AVles.nil | refine AVles.cons ?_ ?_)
  all_goals first | exact .refl _ | exact AVle.sl _ _ | refine AVle.row1 (by first | rfl | (rw [eRoutine_eq]; rfl) | (rw [eStmt_eq]; rfl)) ?_
  ·unfold eVar
   repeat' (first | exact AVles.nil | refine AVles.cons ?_ ?_)
   all_goals first | exact .refl _ | exact AVle.sl _ _
  ·rw [eRoutine_eq]
   simp only [rG, rWrites]
   repeat' (first | exact AVles.nil | refine AVles.cons ?_ ?_)
   all_goals first | exact .refl _ | exact AVle.sl _ _ | refine AVle.row1 (by first | rfl | (rw [eStmt_eq]; rfl)) ?_
   rw [eStmt_eq]
   simp only [stWrite, noExpr]
   repeat' (first | exact AVles.nil | refine AVles.cons ?_ ?_)
   all_goals first | exact .refl _ | exact AVle.sl _ _ | refine AVle.row1 (by first | rfl | (rw [eExpr_eq]; rfl)) ?_
   rw [eExpr_eq]
   repeat' (first | exact AVles.nil | refine AVles.cons ?_ ?_)
   all_goals first | exact .refl _ | exact AVle.sl _ _
  ·rw [eStmt_eq]
   simp only [stCall, noExpr]
   repeat' (first | exact AVles.nil | refine AVles.cons ?_ ?_)
   all_goals first | exact .refl _ | exact AVle.sl _ _ | refine AVle.row1 (by first | rfl | (rw [eExpr_eq]; rfl)) ?_
   rw [eExpr_eq]
   repeat' (first | exact AVles.nil | refine AVles.cons ?_ ?_)
   all_goals first | exact .refl _ | exact AVle.sl _ _
 ·subst v g
  rw [exL_lift]
  have e6 : (ePrg qL)[6]? = some (.sl [eRoutine rL1, eRoutine rG1] false) := by rw [ePrg_eq]; rfl
  have i0 : aia 9 (.sl [eRoutine rL1, eRoutine rG1] false) (.int .i64 0) = some (.ip (eRoutine rL1) 0) := aia_sl (i := 0) rfl (eRoutine_len _)
  have i1 : aia 9 (.sl [eRoutine rL1, eRoutine rG1] false) (.int .i64 1) = some (.ip (eRoutine rG1) 0) := aia_sl (i := 1) rfl (eRoutine_len _)
  have n2 : (eRoutine rG1)[2]? = some (.str pFG) := by rw [eRoutine_eq]; rfl
  have n4 : (eRoutine rG1)[4]? = some (.sl [eParam xP] false) := by rw [eRoutine_eq]; rfl
  have n7 : (eRoutine rL1)[7]? = some (.sl [eStmt ⟨[], [], 2, noBytes, noExpr, [⟨7, 0, pFG, noBytes, [upE xP]⟩], false, false, [], [], [], []⟩] false) := by rw [eRoutine_eq]; rfl
  generalize hst : eStmt ⟨[], [], 2, noBytes, noExpr, [⟨7, 0, pFG, noBytes, [upE xP]⟩], false, false, [], [], [], []⟩ = st at n7
  have hsl : st.length = 16 := by rw [← hst]; exact eStmt_len _
  have j0 : aia 16 (.sl [st] false) (.int .i64 0) = some (.ip st 0) := aia_sl (i := 0) rfl hsl
  have m9 : st[9]? = some (.sl [eExpr ⟨7, 0, pFG, noBytes, [upE xP]⟩] false) := by rw [← hst, eStmt_eq]; rfl
  generalize hex : eExpr ⟨7, 0, pFG, noBytes, [upE xP]⟩ = ex at m9
  have hxl : ex.length = 5 := by rw [← hex]; exact eExpr_len _
  have hxt : List.take 5 ex = ex := List.take_of_length_le (by omega)
  have k0 : aia 5 (.sl [ex] false) (.int .i64 0) = some (.ip ex 0) := aia_sl (i := 0) rfl hxl
  have x2 : ex[2]? = some (.str pFG) := by rw [← hex, eExpr_eq]; rfl
  have x4 : ex[4]? = some (.sl [eExpr (upE xP)] false) := by rw [← hex, eExpr_eq]; rfl
  generalize huu : eExpr (upE xP) = uu at x4
  have hul : uu.length = 5 := by rw [← huu]; exact eExpr_len _
  have u0 : aia 5 (.sl [uu] false) (.int .i64 0) = some (.ip uu 0) := aia_sl (i := 0) rfl hul
  have y0 : uu[0]? = some (.int .i64 25) := by rw [← huu, eExpr_eq]; rfl
  have y2 : uu[2]? = some (.str ⟨#[120]⟩) := by rw [← huu, eExpr_eq]; rfl
  have hp : pFG = (⟨#[102, 36, 103]⟩ : ByteArray) := rfl
  simp only [go_sem,seval, ePrg_len, prg_take, e6, i0, i1, n2, n4, n7, j0, m9, k0, hxl, hxt, x2, x4, u0, y0, y2, hp]
  exact .same ⟨rfl, rfl⟩
end Pg
