import Derived.Test.YtdfbkddelhbgmaaGreatDoorTreeS3
namespace Pg
open Go
set_option linter.all false
def short (s : ByteArray) : Prop := s.size ≤ 9223372036854775807
def eA (l : List ByteArray) : Prop := ∀ s ∈ l, short s
def i64 (n : Int) : Prop := -9223372036854775808 ≤ n ∧ n ≤ 9223372036854775807
def Typ.fit (t : Typ) : Prop := i64 t.kind ∧ i64 t.size ∧ short t.name
mutual
def Expr.fit : Expr → Prop
 | ⟨op, n, name, field, l⟩ => i64 op ∧ i64 n ∧ short name ∧ short field ∧ cI.fit l
def cI.fit : List Expr → Prop
 | [] => True
 | x :: r => Expr.fit x ∧ cI.fit r
end
mutual
def Stmt.fit : Stmt → Prop
 | ⟨before, aP, op, name, p, e, down, more, body, els, cO, cT⟩ => eA before ∧ eA aP ∧ i64 op ∧ short name ∧ Expr.fit p ∧ cI.fit e ∧ aZ.fit body ∧ aZ.fit els ∧ eA cO ∧ eA cT
def aZ.fit : List Stmt → Prop
 | [] => True
 | x :: r => Stmt.fit x ∧ aZ.fit r
end
def Fld.fit (f : Fld) : Prop := eA f.before ∧ eA f.aP ∧ short f.name ∧ i64 f.kind
def Rec.fit (r : Rec) : Prop := eA r.before ∧ eA r.aP ∧ short r.name ∧ (∀ f ∈ r.fields, f.fit) ∧ eA r.bT
def Var.fit (v : Var) : Prop := eA v.before ∧ eA v.aP ∧ short v.name ∧ v.t.fit
def Param.fit (p : Param) : Prop := short p.name ∧ p.t.fit ∧ i64 p.mode
mutual
def Routine.fit : Routine → Prop
 | ⟨before, aP, name, result, params, vars, inner, body, bT⟩ => eA before ∧ eA aP ∧ short name ∧ i64 result ∧ (∀ p ∈ params, p.fit) ∧ (∀ v ∈ vars, v.fit) ∧ bB.fit inner ∧ aZ.fit body ∧ eA bT
def bB.fit : List Routine → Prop
 | [] => True
 | x :: r => Routine.fit x ∧ bB.fit r
end
def Prg.fit (p : Prg) : Prop := short p.name ∧ eA p.before ∧ eA p.mid ∧ eA p.after ∧ (∀ r ∈ p.recs, r.fit) ∧ (∀ v ∈ p.vars, v.fit) ∧ (∀ r ∈ p.aH, r.fit) ∧ (∀ s ∈ p.body, s.fit) ∧ eA p.bT
theorem cI.fD : ∀ l, cI.fit l ↔ ∀ x ∈ l, Expr.fit x
 | [] => by simp [cI.fit]
 | x :: r => by simp [cI.fit, cI.fD r]
theorem aZ.fD : ∀ l, aZ.fit l ↔ ∀ x ∈ l, Stmt.fit x
 | [] => by simp [aZ.fit]
 | x :: r => by simp [aZ.fit, aZ.fD r]
theorem bB.fD : ∀ l, bB.fit l ↔ ∀ x ∈ l, Routine.fit x
 | [] => by simp [bB.fit]
 | x :: r => by simp [bB.fit, bB.fD r]
theorem Expr.fD (x : Expr) : x.fit ↔ i64 x.op ∧ i64 x.n ∧ short x.name ∧ short x.field ∧ ∀ y ∈ x.l, y.fit := by
 obtain ⟨op, n, name, field, l⟩ := x; simp [Expr.fit, cI.fD]
theorem Stmt.fD (x : Stmt) : x.fit ↔ eA x.before ∧ eA x.aP ∧ i64 x.op ∧ short x.name ∧ x.p.fit ∧ (∀ y ∈ x.e, y.fit) ∧ (∀ y ∈ x.body, y.fit) ∧ (∀ y ∈ x.els, y.fit) ∧ eA x.cO ∧ eA x.cT := by
 obtain ⟨before, aP, op, name, p, e, down, more, body, els, cO, cT⟩ := x; simp [Stmt.fit, cI.fD, aZ.fD]
theorem Routine.fD (x : Routine) : x.fit ↔ eA x.before ∧ eA x.aP ∧ short x.name ∧ i64 x.result ∧ (∀ y ∈ x.params, y.fit) ∧ (∀ y ∈ x.vars, y.fit) ∧ (∀ y ∈ x.inner, y.fit) ∧ (∀ y ∈ x.body, y.fit) ∧ eA x.bT := by
 obtain ⟨before, aP, name, result, params, vars, inner, body, bT⟩ := x; simp [Routine.fit, bB.fD, aZ.fD]
end Pg
