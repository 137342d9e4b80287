import Derived.Test.YtdfbkddelhbgmaaGreatDoorTreeSS2
import Derived.Test.YtdfbkddelhbgmaaGreatDoorR12aS2
import Derived.Test.YtdfbkddelhbgmaaGreatDoorTreeSpecS2
import Derived.Test.YtdfbkddelhbgmaaGreatDoorCk5JS2
import Derived.Test.YtdfbkddelhbgmaaGreatDoorCount2S2
set_option linter.all false
set_option maxHeartbeats 4000000
set_option maxRecDepth 4000
namespace Pg
open Go
structure EnvOk (env : List Th) : Prop where
 few : env.length ≤ 1000000
 fields : ∀ x ∈ env, Pg.few x.rcd.fields
section
variable {h : AHeap} {c : Nat} {s : CS} {env : List Th}
end
theorem form_eq (n : Nat) (x : Expr) : form (n + 1) x = (decide (x.l.length ≤ 512) && decide (1 ≤ x.op) && decide (x.op ≤ 24) && partsOk x && forms n x.l) := by
 obtain ⟨op, k, name, field, l⟩ := x; rfl
theorem forms_mem {n : Nat} : ∀ {l : List Expr} {x : Expr}, forms n l = true → x ∈ l → form n x = true
 | y :: r, x, h, hx => by
  simp only [forms, Bool.and_eq_true] at h
  rcases List.mem_cons.1 hx with rfl | hx
  ·exact h.1.2
  ·exact forms_mem h.2 hx
theorem fail_ne (s : CS) {e : Int} (he : e ≠ 0) : (s.fail e).bad ≠ 0 := by
 unfold CS.fail
 split
 ·exact he
 ·assumption
section
variable {h : AHeap} {c : Nat} {s : CS} {env : List Th}
end
theorem parts_len {x : Expr} (h : partsOk x = true) : (x.l.length : Int) = if x.op = 7 then (x.l.length : Int) else if x.op = 5 ∨ x.op = 8 ∨ x.op = 9 then 1 else if 10 ≤ x.op then 2 else 0 := by
 unfold partsOk at h
 simp only [Bool.and_eq_true, decide_eq_true_eq] at h
 exact h.2
end Pg
namespace Pg
open Go
theorem tExpr_form {x : Expr} (h : tExpr x = true) : form 48 x = true := by
 unfold tExpr at h
 simp only [Bool.and_eq_true] at h
 exact h.1
theorem tStmt_eq (x : Stmt) (d : Int) : tStmt x d = (decide (d ≤ 48) && tStmt1 x && (tStmts x.body (d + 1) && decide (x.body.length ≤ 512)) && (tStmts x.els (d + 1) && decide (x.els.length ≤ 512))) := by
 obtain ⟨before, trail, op, name, p, e, down, more, body, els, end1, end2⟩ := x; rfl
end Pg
namespace Pg
open Go
theorem few_of {α : Type} {l : List α} (h : l.length ≤ 1000000) : few l := by unfold few; omega
theorem EnvOk.with {env : List Th} (o : EnvOk env) {x : Th} (h : Pg.few x.rcd.fields) (hl : env.length + 1 ≤ 1000000) : EnvOk (env ++ [x]) := by
 refine ⟨by simpa using hl, fun y hy => ?_⟩
 rcases List.mem_append.1 hy with hy | hy
 ·exact o.fields y hy
 ·simp at hy; subst hy; exact h
theorem EnvOk.var {env : List Th} (o : EnvOk env) (name : ByteArray) (t : Typ) (hl : env.length + 1 ≤ 1000000) : EnvOk (env ++ [thVar name t]) := o.with (few_of (by simp [thVar, noRec])) hl
theorem tRoutine_eq (ahead : List ByteArray) (x : Routine) (d : Int) : tRoutine ahead x d = (decide (d ≤ 48) && tMarks x.before x.trail && tNotes x.endd && tName x.name && decide (0 ≤ x.result) && decide (x.result ≤ 3) && !among x.name ahead && tParams x.params && tVars x.vars && (tRoutines [] x.inner (d + 1) && decide (x.inner.length ≤ 512)) && (tStmts x.body 1 && decide (x.body.length ≤ 512))) := by
 obtain ⟨before, trail, name, result, params, vars, inner, body, endd⟩ := x; rfl
structure ROk (x : Routine) (d : Int) : Prop where
 deep : d ≤ 48
 params : x.params.length ≤ 512
 vars : x.vars.length ≤ 512
 inner : tRoutines [] x.inner (d + 1) = true
 inners : x.inner.length ≤ 512
 body : tStmts x.body 1 = true
 bodys : x.body.length ≤ 512
theorem tRoutine_ok {a : List ByteArray} {x : Routine} {d : Int} (h : tRoutine a x d = true) : ROk x d := by
 rw [tRoutine_eq] at h
 unfold tParams tVars at h
 simp only [Bool.and_eq_true, decide_eq_true_eq] at h
 obtain ⟨⟨⟨⟨⟨⟨⟨⟨⟨⟨h1, _⟩, _⟩, _⟩, _⟩, _⟩, _⟩, _, h2⟩, _, h3⟩, h4, h5⟩, h6, h7⟩ := h
 exact ⟨h1, h2, h3, h4, h5, h6, h7⟩
structure POk (p : Prg) : Prop where
 recs : p.recs.length ≤ 512
 vars : p.vars.length ≤ 512
 routines : tRoutines [] p.routines 1 = true
 routine : p.routines.length ≤ 512
 body : tStmts p.body 1 = true
 bodys : p.body.length ≤ 512
theorem tPrg_ok {p : Prg} (h : tPrg p = true) : POk p := by
 unfold tPrg tVars at h
 simp only [Bool.and_eq_true, decide_eq_true_eq] at h
 obtain ⟨⟨⟨⟨⟨⟨⟨⟨⟨_, _⟩, _⟩, _⟩, _⟩, h1⟩, _⟩, _, h2⟩, h3, h4⟩, h5, h6⟩ := h
 exact ⟨h1, h2, h3, h4, h5, h6⟩
end Pg
