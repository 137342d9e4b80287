import Derived.Test.YtdfbkddelhbgmaaGreatDoorCheckSpecJS2
import Derived.Test.YtdfbkddelhbgmaaGreatDoorFitS2
namespace Pg
open Go
set_option linter.all false
def tw (l : List ByteArray) : Nat := (l.map fun s => s.size + 1).sum
def lP (p : Param) : Nat := p.name.size + p.t.name.size
def lV (v : Var) : Nat := tw v.before + tw v.trail + v.name.size + v.t.name.size
def lF (f : Fld) : Nat := tw f.before + tw f.trail + f.name.size
def lRec (r : Rec) : Nat := tw r.before + tw r.trail + r.name.size + (r.fields.map lF).sum + tw r.endd
mutual
def wE : Expr → Nat
 | ⟨op, n, name, field, l⟩ => 2 + (name.size + field.size) + wEs l
def wEs : List Expr → Nat
 | [] => 0
 | x :: r => wE x + wEs r
end
mutual
def wS : Stmt → Nat
 | ⟨before, trail, op, name, p, e, down, more, body, els, end1, end2⟩ => 2 + (tw before + tw trail + name.size + tw end1 + tw end2) + wE p + wEs e + wSs body + wSs els
def wSs : List Stmt → Nat
 | [] => 0
 | x :: r => wS x + wSs r
end
def wRec (r : Rec) : Nat := 2 + r.fields.length + lRec r
def wRecs (l : List Rec) : Nat := (l.map wRec).sum
mutual
def wR : Routine → Nat
 | ⟨before, trail, name, result, params, vars, inner, body, endd⟩ => 2 + name.size + (tw before + tw trail + (params.map lP).sum + (vars.map lV).sum + tw endd) + 2 * params.length + 2 * vars.length + wRs inner + wSs body
def wRs : List Routine → Nat
 | [] => 0
 | x :: r => wR x + wRs r
end
def wP (p : Prg) : Nat := 1 + (p.name.size + tw p.before + tw p.mid + tw p.after + tw p.endd + (p.vars.map lV).sum) + wRecs p.recs + 2 * p.vars.length + wRs p.routines + wSs p.body
theorem wE_eq (x : Expr) : wE x = 2 + (x.name.size + x.field.size) + wEs x.l := by obtain ⟨op, n, name, field, l⟩ := x; rw [wE]
theorem wS_eq (x : Stmt) : wS x = 2 + (tw x.before + tw x.trail + x.name.size + tw x.end1 + tw x.end2) + wE x.p + wEs x.e + wSs x.body + wSs x.els := by obtain ⟨before, trail, op, name, p, e, down, more, body, els, end1, end2⟩ := x; rw [wS]
theorem wR_eq (x : Routine) : wR x = 2 + x.name.size + (tw x.before + tw x.trail + (x.params.map lP).sum + (x.vars.map lV).sum + tw x.endd) + 2 * x.params.length + 2 * x.vars.length + wRs x.inner + wSs x.body := by obtain ⟨before, trail, name, result, params, vars, inner, body, endd⟩ := x; rw [wR]
theorem wEs_map : ∀ l, wEs l = (l.map wE).sum
 | [] => rfl
 | x :: r => by simp [wEs, wEs_map r]
theorem wSs_map : ∀ l, wSs l = (l.map wS).sum
 | [] => rfl
 | x :: r => by simp [wSs, wSs_map r]
theorem wRs_map : ∀ l, wRs l = (l.map wR).sum
 | [] => rfl
 | x :: r => by simp [wRs, wRs_map r]
end Pg
