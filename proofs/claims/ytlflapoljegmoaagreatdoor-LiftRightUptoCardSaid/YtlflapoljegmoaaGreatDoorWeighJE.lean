import Derived.Test.YtlflapoljegmoaaGreatDoorTreeE
namespace Pg
open Go
set_option linter.all false
mutual
def endS : Stmt → Bool
 | ⟨_, _, op, _, _, _, _, more, body, els, _, _⟩ => decide (op = 9) || (decide (op = 3) && more && endL body && endL els)
def endL : List Stmt → Bool
 | [] => false
 | x :: r => endS x || endL r
end
theorem endL_any : ∀ l, endL l = l.any endS
 | [] => rfl
 | x :: r => by simp [endL, endL_any r]
theorem endS_eq (x : Stmt) : endS x = (decide (x.op = 9) || (decide (x.op = 3) && x.more && endL x.body && endL x.els)) := by
 obtain ⟨_, _, op, _, _, _, _, more, body, els, _, _⟩ := x; rfl
abbrev w64 (n : Int) : Int := IntKind.i64.wrap n
theorem w64_def (n : Int) : IntKind.i64.wrap n = (n + 9223372036854775808) % 18446744073709551616 - 9223372036854775808 := by rw [IntKind.wrap_i64]
theorem w64_add_l (a b : Int) : w64 (w64 a + b) = w64 (a + b) := by simp only [w64, w64_def]; omega
end Pg

namespace Pg
open Go
set_option linter.all false
def short (s : ByteArray) : Prop := s.size ≤ 9223372036854775807
def shorts (l : List ByteArray) : Prop := ∀ s ∈ l, short s
def i64 (n : Int) : Prop := -9223372036854775808 ≤ n ∧ n ≤ 9223372036854775807
def Typ.fit (t : Typ) : Prop := i64 t.kind ∧ i64 t.size ∧ short t.name
mutual
def Expr.fit : Expr → Prop
 | ⟨op, n, name, field, l⟩ => i64 op ∧ i64 n ∧ short name ∧ short field ∧ Exprs.fit l
def Exprs.fit : List Expr → Prop
 | [] => True
 | x :: r => Expr.fit x ∧ Exprs.fit r
end
mutual
def Stmt.fit : Stmt → Prop
 | ⟨before, trail, op, name, p, e, down, more, body, els, end1, end2⟩ => shorts before ∧ shorts trail ∧ i64 op ∧ short name ∧ Expr.fit p ∧ Exprs.fit e ∧ Stmts.fit body ∧ Stmts.fit els ∧ shorts end1 ∧ shorts end2
def Stmts.fit : List Stmt → Prop
 | [] => True
 | x :: r => Stmt.fit x ∧ Stmts.fit r
end
def Fld.fit (f : Fld) : Prop := shorts f.before ∧ shorts f.trail ∧ short f.name ∧ i64 f.kind
def Rec.fit (r : Rec) : Prop := shorts r.before ∧ shorts r.trail ∧ short r.name ∧ (∀ f ∈ r.fields, f.fit) ∧ shorts r.endd
def Var.fit (v : Var) : Prop := shorts v.before ∧ shorts v.trail ∧ short v.name ∧ v.t.fit
def Param.fit (p : Param) : Prop := short p.name ∧ p.t.fit ∧ i64 p.mode
mutual
def Routine.fit : Routine → Prop
 | ⟨before, trail, name, result, params, vars, inner, body, endd⟩ => shorts before ∧ shorts trail ∧ short name ∧ i64 result ∧ (∀ p ∈ params, p.fit) ∧ (∀ v ∈ vars, v.fit) ∧ Routines.fit inner ∧ Stmts.fit body ∧ shorts endd
def Routines.fit : List Routine → Prop
 | [] => True
 | x :: r => Routine.fit x ∧ Routines.fit r
end
def Prg.fit (p : Prg) : Prop := short p.name ∧ shorts p.before ∧ shorts p.mid ∧ shorts p.after ∧ (∀ r ∈ p.recs, r.fit) ∧ (∀ v ∈ p.vars, v.fit) ∧ (∀ r ∈ p.routines, r.fit) ∧ (∀ s ∈ p.body, s.fit) ∧ shorts p.endd
theorem Exprs.fit_iff : ∀ l, Exprs.fit l ↔ ∀ x ∈ l, Expr.fit x
 | [] => by simp [Exprs.fit]
 | x :: r => by simp [Exprs.fit, Exprs.fit_iff r]
theorem Stmts.fit_iff : ∀ l, Stmts.fit l ↔ ∀ x ∈ l, Stmt.fit x
 | [] => by simp [Stmts.fit]
 | x :: r => by simp [Stmts.fit, Stmts.fit_iff r]
theorem Routines.fit_iff : ∀ l, Routines.fit l ↔ ∀ x ∈ l, Routine.fit x
 | [] => by simp [Routines.fit]
 | x :: r => by simp [Routines.fit, Routines.fit_iff r]
theorem Expr.fit_iff (x : Expr) : x.fit ↔ i64 x.op ∧ i64 x.n ∧ short x.name ∧ short x.field ∧ ∀ y ∈ x.l, y.fit := by
 obtain ⟨op, n, name, field, l⟩ := x; simp [Expr.fit, Exprs.fit_iff]
theorem Stmt.fit_iff (x : Stmt) : x.fit ↔ shorts x.before ∧ shorts x.trail ∧ i64 x.op ∧ short x.name ∧ x.p.fit ∧ (∀ y ∈ x.e, y.fit) ∧ (∀ y ∈ x.body, y.fit) ∧ (∀ y ∈ x.els, y.fit) ∧ shorts x.end1 ∧ shorts x.end2 := by
 obtain ⟨before, trail, op, name, p, e, down, more, body, els, end1, end2⟩ := x; simp [Stmt.fit, Exprs.fit_iff, Stmts.fit_iff]
theorem Routine.fit_iff (x : Routine) : x.fit ↔ shorts x.before ∧ shorts x.trail ∧ short x.name ∧ i64 x.result ∧ (∀ y ∈ x.params, y.fit) ∧ (∀ y ∈ x.vars, y.fit) ∧ (∀ y ∈ x.inner, y.fit) ∧ (∀ y ∈ x.body, y.fit) ∧ shorts x.endd := by
 obtain ⟨before, trail, name, result, params, vars, inner, body, endd⟩ := x; simp [Routine.fit, Routines.fit_iff, Stmts.fit_iff]
end Pg

namespace Pg
open Go
set_option linter.all false
def tw (l : List ByteArray) : Nat := (l.map fun s => s.size + 1).sum
def lP (p : Param) : Nat := p.name.size + p.t.name.size
def lV (v : Var) : Nat := tw v.before + tw v.trail + v.name.size + v.t.name.size
def lF (f : Fld) : Nat := tw f.before + tw f.trail + f.name.size
def lRec (r : Rec) : Nat := tw r.before + tw r.trail + r.name.size + (r.fields.map lF).sum + tw r.endd
mutual
def wE : Expr → Nat
 | ⟨op, n, name, field, l⟩ => 2 + (name.size + field.size) + wEs l
def wEs : List Expr → Nat
 | [] => 0
 | x :: r => wE x + wEs r
end
mutual
def wS : Stmt → Nat
 | ⟨before, trail, op, name, p, e, down, more, body, els, end1, end2⟩ => 2 + (tw before + tw trail + name.size + tw end1 + tw end2) + wE p + wEs e + wSs body + wSs els
def wSs : List Stmt → Nat
 | [] => 0
 | x :: r => wS x + wSs r
end
def wRec (r : Rec) : Nat := 2 + r.fields.length + lRec r
def wRecs (l : List Rec) : Nat := (l.map wRec).sum
mutual
def wR : Routine → Nat
 | ⟨before, trail, name, result, params, vars, inner, body, endd⟩ => 2 + name.size + (tw before + tw trail + (params.map lP).sum + (vars.map lV).sum + tw endd) + 2 * params.length + 2 * vars.length + wRs inner + wSs body
def wRs : List Routine → Nat
 | [] => 0
 | x :: r => wR x + wRs r
end
def wP (p : Prg) : Nat := 1 + (p.name.size + tw p.before + tw p.mid + tw p.after + tw p.endd + (p.vars.map lV).sum) + wRecs p.recs + 2 * p.vars.length + wRs p.routines + wSs p.body
theorem wE_eq (x : Expr) : wE x = 2 + (x.name.size + x.field.size) + wEs x.l := by obtain ⟨op, n, name, field, l⟩ := x; rw [wE]
theorem wS_eq (x : Stmt) : wS x = 2 + (tw x.before + tw x.trail + x.name.size + tw x.end1 + tw x.end2) + wE x.p + wEs x.e + wSs x.body + wSs x.els := by obtain ⟨before, trail, op, name, p, e, down, more, body, els, end1, end2⟩ := x; rw [wS]
theorem wR_eq (x : Routine) : wR x = 2 + x.name.size + (tw x.before + tw x.trail + (x.params.map lP).sum + (x.vars.map lV).sum + tw x.endd) + 2 * x.params.length + 2 * x.vars.length + wRs x.inner + wSs x.body := by obtain ⟨before, trail, name, result, params, vars, inner, body, endd⟩ := x; rw [wR]
theorem tw_len : ∀ l : List ByteArray, l.length ≤ tw l
 | [] => by simp [tw]
 | x :: r => by
  have := tw_len r
  unfold tw at *
  simp only [List.map_cons, List.sum_cons, List.length_cons]; omega
theorem sum_mem {X : Type} {f : X → Nat} {l : List X} {x : X} (h : x ∈ l) : f x ≤ (l.map f).sum := by
 induction l with
 | nil => cases h
 | cons y r ih =>
  simp only [List.map_cons, List.sum_cons]
  rcases List.mem_cons.1 h with rfl | h
  ·omega
  ·have := ih h; omega
theorem wEs_map : ∀ l, wEs l = (l.map wE).sum
 | [] => rfl
 | x :: r => by simp [wEs, wEs_map r]
theorem wSs_map : ∀ l, wSs l = (l.map wS).sum
 | [] => rfl
 | x :: r => by simp [wSs, wSs_map r]
theorem wRs_map : ∀ l, wRs l = (l.map wR).sum
 | [] => rfl
 | x :: r => by simp [wRs, wRs_map r]
theorem turnE_room : ∀ (l : List Expr), l.length ≤ wEs l
 | [] => by simp [wEs]
 | x :: r => by
  have := turnE_room r
  have := wE_eq x
  simp only [wEs, List.length_cons]; omega
theorem wEs_mem {l : List Expr} {x : Expr} (h : x ∈ l) : wE x ≤ wEs l := by
 induction l with
 | nil => cases h
 | cons y r ih =>
  simp only [wEs]
  rcases List.mem_cons.1 h with rfl | h
  ·omega
  ·have := ih h; omega
theorem wSs_len : ∀ l : List Stmt, l.length ≤ wSs l
 | [] => by simp [wSs]
 | x :: r => by
  have := wSs_len r
  have := wS_eq x
  simp only [wSs, List.length_cons]; omega
theorem wSs_mem {l : List Stmt} {x : Stmt} (h : x ∈ l) : wS x ≤ wSs l := by
 induction l with
 | nil => cases h
 | cons y r ih =>
  simp only [wSs]
  rcases List.mem_cons.1 h with rfl | h
  ·omega
  ·have := ih h; omega
theorem wRs_len : ∀ l : List Routine, l.length ≤ wRs l
 | [] => by simp [wRs]
 | x :: r => by
  have := wRs_len r
  have := wR_eq x
  simp only [wRs, List.length_cons]; omega
theorem wRs_mem {l : List Routine} {x : Routine} (h : x ∈ l) : wR x ≤ wRs l := by
 induction l with
 | nil => cases h
 | cons y r ih =>
  simp only [wRs]
  rcases List.mem_cons.1 h with rfl | h
  ·omega
  ·have := ih h; omega
end Pg
