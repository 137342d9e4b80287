import Derived.Test.YtlflapoljegmoaaGreatDoorK4D
import Derived.Test.YtlflapoljegmoaaGreatDoorProg
import Derived.KernelRfl
import Derived.Test.YtlflapoljegmoaaGreatDoorTreeSD
import Derived.Test.YtlflapoljegmoaaGreatDoorWeighJD
namespace Pg
open Go Go.Proofs.Tryz
set_option maxRecDepth 100000
set_option maxHeartbeats 4000000
noncomputable def F37.c0 : CodeT prog 26 [] [] f37 := ⟨_, by with_unfolding_all (conv => lhs; reduce)⟩
theorem F37.calls [GI] : CallsT prog 37 26 F37.c0.1 [.tmp 4] := acallsT _ _ _ func37 ntmps37 F37.c0.2 (by kernel_rfl)
noncomputable def F64.c0 : CodeT prog 38 [2,3] [] f64 := ⟨_, by with_unfolding_all (conv => lhs; reduce)⟩
theorem F64.calls [GI] : CallsT prog 64 38 F64.c0.1 [.tmp 4] := acallsT _ _ _ func64 ntmps64 F64.c0.2 (by kernel_rfl)
noncomputable def F65.c0 : CodeT prog 27 [] [] f65 := ⟨_, by with_unfolding_all (conv => lhs; reduce)⟩
theorem F65.calls [GI] : CallsT prog 65 27 F65.c0.1 [.tmp 4] := acallsT _ _ _ func65 ntmps65 F65.c0.2 (by kernel_rfl)
noncomputable def F38.c0 : CodeT prog 17 [2,3] [] f38 := ⟨_, by with_unfolding_all (conv => lhs; reduce)⟩
theorem F38.calls [GI] : CallsT prog 38 17 F38.c0.1 [.tmp 4] := acallsT _ _ _ func38 ntmps38 F38.c0.2 (by kernel_rfl)
noncomputable def F41.c0 : CodeT prog 107 [] [6,7] f41 := ⟨_, by with_unfolding_all (conv => lhs; reduce)⟩
theorem F41.calls [GI] : CallsT prog 41 107 F41.c0.1 [.tmp 4] := acallsT _ _ _ func41 ntmps41 F41.c0.2 (by kernel_rfl)
noncomputable def F39.c0 : CodeT prog 55 [] [] f39 := ⟨_, by with_unfolding_all (conv => lhs; reduce)⟩
theorem F39.calls [GI] : CallsT prog 39 55 F39.c0.1 [.tmp 4] := acallsT _ _ _ func39 ntmps39 F39.c0.2 (by kernel_rfl)
noncomputable def F40.c0 : CodeT prog 105 [] [6,7] f40 := ⟨_, by with_unfolding_all (conv => lhs; reduce)⟩
theorem F40.calls [GI] : CallsT prog 40 105 F40.c0.1 [.tmp 4] := acallsT _ _ _ func40 ntmps40 F40.c0.2 (by kernel_rfl)
noncomputable def F13.c0 : CodeT prog 172 [2,3] [6,7] f13 := ⟨_, by with_unfolding_all (conv => lhs; reduce)⟩
theorem F13.calls [GI] : CallsT prog 13 172 F13.c0.1 [.tmp 4] := acallsT _ _ _ func13 ntmps13 F13.c0.2 (by kernel_rfl)
noncomputable def F5.c0 : CodeT prog 46 [1] [4] f5 := ⟨_, by with_unfolding_all (conv => lhs; reduce)⟩
theorem F5.calls [GI] : CallsT prog 5 46 F5.c0.1 [.tmp 2] := acallsT _ _ _ func5 ntmps5 F5.c0.2 (by kernel_rfl)
end Pg

namespace Pg
open Go Go.Proofs.Tryz
set_option linter.all false
set_option maxHeartbeats 4000000
set_option maxRecDepth 4000
abbrev Yes [GI] (f : FuncId) (x : AV) : Prop := ∀ h : AHeap, ACalls prog f [x, x] h (fun v g => v = .bool true ∧ g = h)
theorem two_upd {g : AHeap} {b c : Nat} (n : c ≠ b) (Z Y R : AObj) : ((g.upd b Z).upd c Y).upd b R = (g.upd b R).upd c Y := by rw [upd_comm _ _ _ n.symm, upd_upd, upd_comm _ _ _ n]
theorem two_get {g : AHeap} {b c : Nat} (n : c ≠ b) (R Y : AObj) : ((g.upd b R).upd c Y) b = some R := by rw [upd_ne _ _ _ n.symm, upd_same]
theorem two_del {g : AHeap} {b c : Nat} (n : c ≠ b) (hb : g b = none) (R Y : AObj) : ((g.upd b R).upd c Y).del b = g.upd c Y := by rw [del_upd_comm _ _ n, del_upd _ _ _ hb]
theorem splice_full {zs es : List AV} (h : zs.length ≤ es.length) : splice zs 0 es = es := by unfold splice; simp [List.drop_eq_nil_of_le h]
theorem yStmt_m (x : Stmt) : List.take 2 (eStmt x) = [eTexts x.before, eTexts x.trail] := by rw [eStmt_eq]; rfl
theorem yRoutine_m (x : Routine) : List.take 2 (eRoutine x) = [eTexts x.before, eTexts x.trail] := by rw [eRoutine_eq]; rfl
theorem same_typ (t : Typ) : cellsEq [1, 1, 2] (eTyp t) (eTyp t) = some true := by simp [eTyp, cellsEq, cellEq]
theorem same_param (t : Param) : cellsEq [2, 1, 1, 2, 1] (eParam t) (eParam t) = some true := by simp [eParam, cellsEq, cellEq]
theorem two_none {g : AHeap} {b c : Nat} {o : AObj} (h : (g.upd b o) c = none) : c ≠ b ∧ g c = none := by
 have n : c ≠ b := by intro hh; subst hh; rw [upd_same] at h; cases h
 exact ⟨n, by rwa [upd_ne _ _ _ n] at h⟩
theorem yTexts [GI] {l : List ByteArray} (hl : few l) : Yes 37 (eTexts l) := by
 intro h
 unfold eTexts
 refine F37.calls (by simp) ?_
 delta F37.c0
 simp only [go_sem,seval, ne_eq, not_true_eq_false]
 refine lT_list l (fun pre post e g => g = h ∧ e = [(0, .sl (l.map fun s => [.str s]) false), (1, .sl (l.map fun s => [.str s]) false), (5, .int .i64 pre.length)]) (WeakE.env ?_) ⟨rfl, rfl⟩ ?_ ?_
 ·simp only [go_sem,seval]
 ·rintro pre x post e g hp ⟨rfl, rfl⟩
  have hrow : (l.map fun s => [AV.str s])[pre.length]? = some [.str x] := map_at hp
  simp only [go_sem,seval, lt_at hp, aia_sl (size := 1) hrow rfl, ne_eq, not_true_eq_false]
  refine ⟨_, _, WeakE.env ?_, rfl, rfl⟩
  simp only [go_sem,seval, step_at hl hp]
 ·rintro e g ⟨rfl, rfl⟩
  simp only [go_sem,seval, lt_end]
  refine lessQ.same ?_
  simp only [go_sem,seval]
  exact .same ⟨rfl, rfl⟩
theorem yMarks [GI] {a b : List ByteArray} (ha : few a) (hb : few b) : Yes 38 (.agg [eTexts a, eTexts b]) := by
 intro h
 refine F38.calls (by simp) ?_
 delta F38.c0
 simp only [go_sem,seval]
 refine tcE (yTexts ha h) ?_
 simp only [go_sem,seval]
 refine tcE (yTexts hb h) ?_
 simp only [go_sem,seval]
 exact .same ⟨rfl, rfl⟩
theorem yExprs [GI] {l : List Expr} (hl : few l) (H : ∀ x ∈ l, Yes 64 (.agg (eExpr x))) : Yes 65 (.sl (l.map eExpr) false) := by
 intro h
 refine F65.calls (by simp) ?_
 delta F65.c0
 simp only [go_sem,seval, ne_eq, not_true_eq_false]
 refine lT_list l (fun pre post e g => g = h ∧ e = [(0, .sl (l.map eExpr) false), (1, .sl (l.map eExpr) false), (5, .int .i64 pre.length)]) (WeakE.env ?_) ⟨rfl, rfl⟩ ?_ ?_
 ·simp only [go_sem,seval]
 ·rintro pre x post e g hp ⟨rfl, rfl⟩
  simp only [go_sem,seval, lt_at hp, aia_sl (map_at hp) (eExpr_len x)]
  refine tcE (H x (mem_at hp) _) ?_
  simp only [go_sem,seval]
  refine ⟨_, _, WeakE.env ?_, rfl, rfl⟩
  simp only [go_sem,seval, step_at hl hp]
 ·rintro e g ⟨rfl, rfl⟩
  simp only [go_sem,seval, lt_end]
  refine lessQ.same ?_
  simp only [go_sem,seval]
  exact .same ⟨rfl, rfl⟩
theorem yExpr [GI] : ∀ (n : Nat) (x : Expr), x.sz < n → x.ok → Yes 64 (.agg (eExpr x))
 | 0, x, hn, _ => absurd hn (Nat.not_lt_zero _)
 | n + 1, x, hn, ho => by
  intro h
  rw [Expr.ok_iff] at ho
  rw [Expr.sz_eq] at hn
  refine F64.calls (by simp) ?_
  delta F64.c0
  simp only [go_sem,seval]
  refine tcE (yExprs ho.1 (fun y hy => yExpr n y (by have := Exprs.sz_mem hy; omega) (ho.2 y hy)) h) ?_
  simp only [go_sem,seval]
  exact .same ⟨rfl, rfl⟩
theorem yVars [GI] {l : List Var} (hl : few l) (ho : ∀ v ∈ l, v.ok) : Yes 39 (.sl (l.map eVar) false) := by
 intro h
 refine F39.calls (by simp) ?_
 delta F39.c0
 simp only [go_sem,seval, ne_eq, not_true_eq_false]
 refine lT_list l (fun pre post e g => g = h ∧ e = [(0, .sl (l.map eVar) false), (1, .sl (l.map eVar) false), (5, .int .i64 pre.length)]) (WeakE.env ?_) ⟨rfl, rfl⟩ ?_ ?_
 ·simp only [go_sem,seval]
 ·rintro pre x post e g hp ⟨rfl, rfl⟩
  have hx := ho x (mem_at hp)
  simp only [go_sem,seval, lt_at hp, aia_sl (map_at hp) (eVar_len x)]
  refine tcE (yMarks hx.before hx.trail _) ?_
  simp only [go_sem,seval, lt_at hp, aia_sl (map_at hp) (eVar_len x), ne_eq, not_true_eq_false, same_typ]
  refine ⟨_, _, WeakE.env ?_, rfl, rfl⟩
  simp only [go_sem,seval, step_at hl hp]
 ·rintro e g ⟨rfl, rfl⟩
  simp only [go_sem,seval, lt_end]
  refine lessQ.same ?_
  simp only [go_sem,seval]
  exact .same ⟨rfl, rfl⟩
theorem yStmts [GI] : ∀ (n : Nat) (l : List Stmt), Stmts.sz l < n → few l → (∀ x ∈ l, x.ok) → Yes 41 (.sl (l.map eStmt) false)
 | 0, l, hn, _, _ => absurd hn (Nat.not_lt_zero _)
 | n + 1, l, hn, hl, ho => by
  intro h
  refine F41.calls (by simp) ?_
  delta F41.c0
  simp only [go_sem,seval, ne_eq, not_true_eq_false]
  refine lT_list l (fun pre post e g => g = h ∧ e = [(0, .sl (l.map eStmt) false), (1, .sl (l.map eStmt) false), (5, .int .i64 pre.length)]) (WeakE.env ?_) ⟨rfl, rfl⟩ ?_ ?_
  ·simp only [go_sem,seval]
  ·rintro pre x post e g hp ⟨rfl, rfl⟩
   have hx := (Stmt.ok_iff x).1 (ho x (mem_at hp))
   have hz := Stmts.sz_mem (mem_at hp)
   rw [Stmt.sz_eq] at hz
   simp only [go_sem,seval, lt_at hp, aia_sl (map_at hp) (eStmt_len x)]
   refine afreshT_intro fun b hb => ?_
   simp only [go_sem,seval]
   refine afreshT_intro fun c hc => ?_
   obtain ⟨hn2, hc⟩ := two_none hc
   simp only [go_sem,seval, two_upd hn2, two_get hn2, two_del hn2 hb, splice_full, yStmt_m, yRoutine_m, upd_upd, del_upd _ _ _ hc]
   refine tcE (yMarks hx.1 hx.2.1 _) ?_
   simp only [go_sem,seval, ne_eq, not_true_eq_false]
   refine tcE (yExpr _ x.p (Nat.lt_succ_self _) hx.2.2.1 _) ?_
   simp only [go_sem,seval]
   refine tcE (yExprs hx.2.2.2.1 (fun y hy => yExpr _ y (Nat.lt_succ_self _) (hx.2.2.2.2.1 y hy)) _) ?_
   simp only [go_sem,seval]
   refine tcE (yTexts hx.2.2.2.2.2.2.2.2.2.1 _) ?_
   simp only [go_sem,seval]
   refine tcE (yTexts hx.2.2.2.2.2.2.2.2.2.2 _) ?_
   simp only [go_sem,seval]
   refine tcE (yStmts n x.body (by omega) hx.2.2.2.2.2.1 hx.2.2.2.2.2.2.1 _) ?_
   simp only [go_sem,seval]
   refine tcE (yStmts n x.els (by omega) hx.2.2.2.2.2.2.2.1 hx.2.2.2.2.2.2.2.2.1 _) ?_
   simp only [go_sem,seval]
   refine ⟨_, _, WeakE.env ?_, rfl, rfl⟩
   simp only [go_sem,seval, step_at hl hp]
  ·rintro e g ⟨rfl, rfl⟩
   simp only [go_sem,seval, lt_end]
   refine lessQ.same ?_
   simp only [go_sem,seval]
   exact .same ⟨rfl, rfl⟩
theorem yRoutines [GI] : ∀ (n : Nat) (l : List Routine), Routines.sz l < n → few l → (∀ x ∈ l, x.ok) → Yes 40 (.sl (l.map eRoutine) false)
 | 0, l, hn, _, _ => absurd hn (Nat.not_lt_zero _)
 | n + 1, l, hn, hl, ho => by
  intro h
  refine F40.calls (by simp) ?_
  delta F40.c0
  simp only [go_sem,seval, ne_eq, not_true_eq_false]
  refine lT_list l (fun pre post e g => g = h ∧ e = [(0, .sl (l.map eRoutine) false), (1, .sl (l.map eRoutine) false), (5, .int .i64 pre.length)]) (WeakE.env ?_) ⟨rfl, rfl⟩ ?_ ?_
  ·simp only [go_sem,seval]
  ·rintro pre x post e g hp ⟨rfl, rfl⟩
   have hx := (Routine.ok_iff x).1 (ho x (mem_at hp))
   have hz := Routines.sz_mem (mem_at hp)
   rw [Routine.sz_eq] at hz
   simp only [go_sem,seval, lt_at hp, aia_sl (map_at hp) (eRoutine_len x)]
   refine afreshT_intro fun b hb => ?_
   simp only [go_sem,seval]
   refine afreshT_intro fun c hc => ?_
   obtain ⟨hn2, hc⟩ := two_none hc
   simp only [go_sem,seval, two_upd hn2, two_get hn2, two_del hn2 hb, splice_full, yStmt_m, yRoutine_m, upd_upd, del_upd _ _ _ hc]
   refine tcE (yMarks hx.1 hx.2.1 _) ?_
   simp only [go_sem,seval, ne_eq, not_true_eq_false]
   refine tcE (yTexts hx.2.2.2.2.2.2.2.2.2 _) ?_
   simp only [go_sem,seval]
   refine lT_list x.params (fun qre qost e k => k = g ∧ e = [(0, .sl (l.map eRoutine) false), (1, .sl (l.map eRoutine) false), (5, .int .i64 pre.length), (6, .ip (eRoutine x) 0), (7, .ip (eRoutine x) 0), (8, .int .i64 qre.length)]) (WeakE.env ?_) ⟨rfl, rfl⟩ ?_ ?_
   ·simp only [go_sem,seval]
   ·rintro qre q qost e k hq ⟨rfl, rfl⟩
    simp only [go_sem,seval, lt_at hq, aia_sl (map_at hq) (eParam_len q), same_param]
    refine ⟨_, _, WeakE.env ?_, rfl, rfl⟩
    simp only [go_sem,seval, step_at hx.2.2.1 hq]
   ·rintro e k ⟨rfl, rfl⟩
    simp only [go_sem,seval, lt_end]
    refine lessQ.same ?_
    simp only [go_sem,seval]
    refine tcE (yVars hx.2.2.2.1 hx.2.2.2.2.1 _) ?_
    simp only [go_sem,seval]
    refine tcE (yRoutines n x.inner (by omega) hx.2.2.2.2.2.1 hx.2.2.2.2.2.2.1 _) ?_
    simp only [go_sem,seval]
    refine tcE (yStmts _ x.body (Nat.lt_succ_self _) hx.2.2.2.2.2.2.2.1 hx.2.2.2.2.2.2.2.2.1 _) ?_
    simp only [go_sem,seval]
    refine ⟨_, _, WeakE.env ?_, rfl, rfl⟩
    simp only [go_sem,seval, step_at hl hp]
  ·rintro e g ⟨rfl, rfl⟩
   simp only [go_sem,seval, lt_end]
   refine lessQ.same ?_
   simp only [go_sem,seval]
   exact .same ⟨rfl, rfl⟩
theorem Same_spec [GI] (p : Prg) (ho : p.ok) : Yes 13 (.agg (ePrg p)) := by
 intro h
 refine F13.calls (by simp) ?_
 delta F13.c0
 simp only [go_sem,seval, ne_eq, not_true_eq_false]
 refine tcE (yTexts ho.before h) ?_
 simp only [go_sem,seval]
 refine tcE (yTexts ho.mid h) ?_
 simp only [go_sem,seval]
 refine tcE (yTexts ho.after h) ?_
 simp only [go_sem,seval]
 refine tcE (yTexts ho.endd h) ?_
 simp only [go_sem,seval, ne_eq, not_true_eq_false]
 refine lT_list p.recs (fun pre post e g => g = h ∧ e = [(2, .ip (ePrg p) 0), (3, .ip (ePrg p) 0), (5, .int .i64 pre.length)]) (WeakE.env ?_) ⟨rfl, rfl⟩ ?_ ?_
 ·simp only [go_sem,seval]
 ·rintro pre x post e g hp ⟨rfl, rfl⟩
  have hx := ho.eachRec x (mem_at hp)
  simp only [go_sem,seval, lt_at hp, aia_sl (map_at hp) (eRec_len x)]
  refine afreshT_intro fun b hb => ?_
  simp only [go_sem,seval]
  refine afreshT_intro fun c hc => ?_
  obtain ⟨hn2, hc⟩ := two_none hc
  simp only [go_sem,seval, two_upd hn2, two_get hn2, two_del hn2 hb, splice_full, yStmt_m, yRoutine_m, upd_upd, del_upd _ _ _ hc]
  refine tcE (yMarks hx.before hx.trail _) ?_
  simp only [go_sem,seval, ne_eq, not_true_eq_false]
  refine tcE (yTexts hx.endd _) ?_
  simp only [go_sem,seval, ne_eq, not_true_eq_false]
  refine lT_list x.fields (fun qre qost e k => k = g ∧ e = [(2, .ip (ePrg p) 0), (3, .ip (ePrg p) 0), (5, .int .i64 pre.length), (6, .ip (eRec x) 0), (7, .ip (eRec x) 0), (8, .int .i64 qre.length)]) (WeakE.env ?_) ⟨rfl, rfl⟩ ?_ ?_
  ·simp only [go_sem,seval]
  ·rintro qre q qost e k hq ⟨rfl, rfl⟩
   have hf := hx.each q (mem_at hq)
   simp only [go_sem,seval, lt_at hq, aia_sl (map_at hq) (eFld_len q)]
   refine tcE (yMarks hf.before hf.trail _) ?_
   simp only [go_sem,seval, ne_eq, not_true_eq_false, aia_sl (map_at hq) (eFld_len q)]
   refine ⟨_, _, WeakE.env ?_, rfl, rfl⟩
   simp only [go_sem,seval, step_at hx.fields hq]
  ·rintro e k ⟨rfl, rfl⟩
   simp only [go_sem,seval, lt_end]
   refine lessQ.same ?_
   simp only [go_sem,seval]
   refine ⟨_, _, WeakE.env ?_, rfl, rfl⟩
   simp only [go_sem,seval, step_at ho.recs hp]
 ·rintro e g ⟨rfl, rfl⟩
  simp only [go_sem,seval, lt_end]
  refine lessQ.same ?_
  simp only [go_sem,seval]
  refine tcE (yVars ho.vars ho.eachVar _) ?_
  simp only [go_sem,seval]
  refine tcE (yRoutines _ p.routines (Nat.lt_succ_self _) ho.routines ho.eachRoutine _) ?_
  simp only [go_sem,seval]
  refine tcE (yStmts _ p.body (Nat.lt_succ_self _) ho.body ho.eachStmt _) ?_
  simp only [go_sem,seval]
  exact .same ⟨rfl, rfl⟩
end Pg
