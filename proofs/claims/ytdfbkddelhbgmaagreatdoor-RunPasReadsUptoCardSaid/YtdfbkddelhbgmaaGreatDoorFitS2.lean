import Derived.Test.YtdfbkddelhbgmaaGreatDoorTreeS2
namespace Pg
open Go
set_option linter.all false
def short (s : ByteArray) : Prop := s.size ≤ 9223372036854775807
def shorts (l : List ByteArray) : Prop := ∀ s ∈ l, short s
def i64 (n : Int) : Prop := -9223372036854775808 ≤ n ∧ n ≤ 9223372036854775807
def Typ.fit (t : Typ) : Prop := i64 t.kind ∧ i64 t.size ∧ short t.name
mutual
def Expr.fit : Expr → Prop
 | ⟨op, n, name, field, l⟩ => i64 op ∧ i64 n ∧ short name ∧ short field ∧ Exprs.fit l
def Exprs.fit : List Expr → Prop
 | [] => True
 | x :: r => Expr.fit x ∧ Exprs.fit r
end
mutual
def Stmt.fit : Stmt → Prop
 | ⟨before, trail, op, name, p, e, down, more, body, els, end1, end2⟩ => shorts before ∧ shorts trail ∧ i64 op ∧ short name ∧ Expr.fit p ∧ Exprs.fit e ∧ Stmts.fit body ∧ Stmts.fit els ∧ shorts end1 ∧ shorts end2
def Stmts.fit : List Stmt → Prop
 | [] => True
 | x :: r => Stmt.fit x ∧ Stmts.fit r
end
def Fld.fit (f : Fld) : Prop := shorts f.before ∧ shorts f.trail ∧ short f.name ∧ i64 f.kind
def Rec.fit (r : Rec) : Prop := shorts r.before ∧ shorts r.trail ∧ short r.name ∧ (∀ f ∈ r.fields, f.fit) ∧ shorts r.endd
def Var.fit (v : Var) : Prop := shorts v.before ∧ shorts v.trail ∧ short v.name ∧ v.t.fit
def Param.fit (p : Param) : Prop := short p.name ∧ p.t.fit ∧ i64 p.mode
mutual
def Routine.fit : Routine → Prop
 | ⟨before, trail, name, result, params, vars, inner, body, endd⟩ => shorts before ∧ shorts trail ∧ short name ∧ i64 result ∧ (∀ p ∈ params, p.fit) ∧ (∀ v ∈ vars, v.fit) ∧ Routines.fit inner ∧ Stmts.fit body ∧ shorts endd
def Routines.fit : List Routine → Prop
 | [] => True
 | x :: r => Routine.fit x ∧ Routines.fit r
end
def Prg.fit (p : Prg) : Prop := short p.name ∧ shorts p.before ∧ shorts p.mid ∧ shorts p.after ∧ (∀ r ∈ p.recs, r.fit) ∧ (∀ v ∈ p.vars, v.fit) ∧ (∀ r ∈ p.routines, r.fit) ∧ (∀ s ∈ p.body, s.fit) ∧ shorts p.endd
theorem Exprs.fit_iff : ∀ l, Exprs.fit l ↔ ∀ x ∈ l, Expr.fit x
 | [] => by simp [Exprs.fit]
 | x :: r => by simp [Exprs.fit, Exprs.fit_iff r]
theorem Stmts.fit_iff : ∀ l, Stmts.fit l ↔ ∀ x ∈ l, Stmt.fit x
 | [] => by simp [Stmts.fit]
 | x :: r => by simp [Stmts.fit, Stmts.fit_iff r]
theorem Routines.fit_iff : ∀ l, Routines.fit l ↔ ∀ x ∈ l, Routine.fit x
 | [] => by simp [Routines.fit]
 | x :: r => by simp [Routines.fit, Routines.fit_iff r]
theorem Expr.fit_iff (x : Expr) : x.fit ↔ i64 x.op ∧ i64 x.n ∧ short x.name ∧ short x.field ∧ ∀ y ∈ x.l, y.fit := by
 obtain ⟨op, n, name, field, l⟩ := x; simp [Expr.fit, Exprs.fit_iff]
theorem Stmt.fit_iff (x : Stmt) : x.fit ↔ shorts x.before ∧ shorts x.trail ∧ i64 x.op ∧ short x.name ∧ x.p.fit ∧ (∀ y ∈ x.e, y.fit) ∧ (∀ y ∈ x.body, y.fit) ∧ (∀ y ∈ x.els, y.fit) ∧ shorts x.end1 ∧ shorts x.end2 := by
 obtain ⟨before, trail, op, name, p, e, down, more, body, els, end1, end2⟩ := x; simp [Stmt.fit, Exprs.fit_iff, Stmts.fit_iff]
theorem Routine.fit_iff (x : Routine) : x.fit ↔ shorts x.before ∧ shorts x.trail ∧ short x.name ∧ i64 x.result ∧ (∀ y ∈ x.params, y.fit) ∧ (∀ y ∈ x.vars, y.fit) ∧ (∀ y ∈ x.inner, y.fit) ∧ (∀ y ∈ x.body, y.fit) ∧ shorts x.endd := by
 obtain ⟨before, trail, name, result, params, vars, inner, body, endd⟩ := x; simp [Routine.fit, Routines.fit_iff, Stmts.fit_iff]
end Pg
