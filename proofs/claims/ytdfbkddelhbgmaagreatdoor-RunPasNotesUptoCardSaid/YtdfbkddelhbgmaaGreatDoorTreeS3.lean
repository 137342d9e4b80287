import Derived.Test.YtdfbkddelhbgmaaGreatDoorK4S3
namespace Pg
open Go
set_option linter.all false
structure Typ where
 kind : Int
 size : Int
 name : ByteArray
 deriving DecidableEq
structure Expr where
 op : Int
 n : Int
 name : ByteArray
 field : ByteArray
 l : List Expr
structure Stmt where
 before : List ByteArray
 aP : List ByteArray
 op : Int
 name : ByteArray
 p : Expr
 e : List Expr
 down : Bool
 more : Bool
 body : List Stmt
 els : List Stmt
 cO : List ByteArray
 cT : List ByteArray
structure Fld where
 before : List ByteArray
 aP : List ByteArray
 name : ByteArray
 kind : Int
structure Rec where
 before : List ByteArray
 aP : List ByteArray
 name : ByteArray
 fields : List Fld
 bT : List ByteArray
structure Var where
 before : List ByteArray
 aP : List ByteArray
 name : ByteArray
 t : Typ
structure Param where
 name : ByteArray
 t : Typ
 mode : Int
 deriving DecidableEq
structure Routine where
 before : List ByteArray
 aP : List ByteArray
 name : ByteArray
 result : Int
 params : List Param
 vars : List Var
 inner : List Routine
 body : List Stmt
 bT : List ByteArray
structure Prg where
 name : ByteArray
 before : List ByteArray
 mid : List ByteArray
 after : List ByteArray
 recs : List Rec
 vars : List Var
 aH : List Routine
 body : List Stmt
 bT : List ByteArray
abbrev noBytes : ByteArray := ⟨#[]⟩
instance : Inhabited Expr := ⟨0, 0, noBytes, noBytes, []⟩
def aE (l : List ByteArray) : AV := .sl (l.map fun s => [.str s]) false
def bV (t : Typ) : List AV := [.int .i64 t.kind, .int .i64 t.size, .str t.name]
mutual
def aO : Expr → List AV
 | ⟨op, n, name, field, l⟩ => [.int .i64 op, .int .i64 n, .str name, .str field, .sl (xS l) false]
def xS : List Expr → List (List AV)
 | [] => []
 | x :: r => aO x :: xS r
end
mutual
def bA : Stmt → List AV
 | ⟨before, aP, op, name, p, e, down, more, body, els, cO, cT⟩ => [aE before, aE aP, .int .i64 op, .str name] ++ aO p ++ [.sl (xS e) false, .bool down, .bool more, .sl (uU body) false, .sl (uU els) false, aE cO, aE cT]
def uU : List Stmt → List (List AV)
 | [] => []
 | x :: r => bA x :: uU r
end
def eFld (f : Fld) : List AV := [aE f.before, aE f.aP, .str f.name, .int .i64 f.kind]
def eB (r : Rec) : List AV := [aE r.before, aE r.aP, .str r.name, .sl (r.fields.map eFld) false, aE r.bT]
def dF (v : Var) : List AV := [aE v.before, aE v.aP, .str v.name, .int .i64 v.t.kind, .int .i64 v.t.size, .str v.t.name]
def c7 (p : Param) : List AV := [.str p.name, .int .i64 p.t.kind, .int .i64 p.t.size, .str p.t.name, .int .i64 p.mode]
mutual
def aU : Routine → List AV
 | ⟨before, aP, name, result, params, vars, inner, body, bT⟩ => [aE before, aE aP, .str name, .int .i64 result, .sl (params.map c7) false, .sl (vars.map dF) false, .sl (rW inner) false, .sl (uU body) false, aE bT]
def rW : List Routine → List (List AV)
 | [] => []
 | x :: r => aU x :: rW r
end
def fJ (p : Prg) : List AV := [.str p.name, aE p.before, aE p.mid, aE p.after, .sl (p.recs.map eB) false, .sl (p.vars.map dF) false, .sl (rW p.aH) false, .sl (uU p.body) false, aE p.bT]
theorem qH : ∀ l, xS l = l.map aO
 | [] => rfl
 | x :: r => by simp [xS, qH r]
theorem vX : ∀ l, uU l = l.map bA
 | [] => rfl
 | x :: r => by simp [uU, vX r]
theorem vE : ∀ l, rW l = l.map aU
 | [] => rfl
 | x :: r => by simp [rW, vE r]
theorem cF (x : Expr) : aO x = [.int .i64 x.op, .int .i64 x.n, .str x.name, .str x.field, .sl (x.l.map aO) false] := by
 obtain ⟨op, n, name, field, l⟩ := x; simp [aO, qH]
theorem dO (x : Stmt) : bA x = [aE x.before, aE x.aP, .int .i64 x.op, .str x.name, .int .i64 x.p.op, .int .i64 x.p.n, .str x.p.name, .str x.p.field, .sl (x.p.l.map aO) false, .sl (x.e.map aO) false, .bool x.down, .bool x.more, .sl (x.body.map bA) false, .sl (x.els.map bA) false, aE x.cO, aE x.cT] := by
 obtain ⟨before, aP, op, name, p, e, down, more, body, els, cO, cT⟩ := x; simp [bA, qH, vX, cF]
theorem dX (x : Routine) : aU x = [aE x.before, aE x.aP, .str x.name, .int .i64 x.result, .sl (x.params.map c7) false, .sl (x.vars.map dF) false, .sl (x.inner.map aU) false, .sl (x.body.map bA) false, aE x.bT] := by
 obtain ⟨before, aP, name, result, params, vars, inner, body, bT⟩ := x; simp [aU, vE, vX]
theorem gY (p : Prg) : fJ p = [.str p.name, aE p.before, aE p.mid, aE p.after, .sl (p.recs.map eB) false, .sl (p.vars.map dF) false, .sl (p.aH.map aU) false, .sl (p.body.map bA) false, aE p.bT] := by
 simp [fJ, vE, vX]
theorem aR (x : Expr) : (aO x).length = 5 := by rw [cF]; rfl
theorem c6 (x : Stmt) : (bA x).length = 16 := by rw [dO]; rfl
theorem bL (x : Routine) : (aU x).length = 9 := by rw [dX]; rfl
theorem dG (x : Rec) : (eB x).length = 5 := rfl
theorem eC (x : Fld) : (eFld x).length = 4 := rfl
theorem eO (x : Var) : (dF x).length = 6 := rfl
theorem bP (x : Param) : (c7 x).length = 5 := rfl
theorem b9 (x : Typ) : (bV x).length = 3 := rfl
theorem oL (x : Prg) : (fJ x).length = 9 := by rw [gY]; rfl
theorem dL (x : Expr) : (aO x)[0]? = some (.int .i64 x.op) := by rw [cF]; rfl
theorem EI (x : Expr) : (aO x)[1]? = some (.int .i64 x.n) := by rw [cF]; rfl
theorem xR (x : Expr) : (aO x)[2]? = some (.str x.name) := by rw [cF]; rfl
theorem EH (x : Expr) : (aO x)[3]? = some (.str x.field) := by rw [cF]; rfl
theorem hO (x : Expr) : (aO x)[4]? = some (.sl (x.l.map aO) false) := by rw [cF]; rfl
theorem bO (x : Expr) : List.take 5 (aO x) = aO x := List.take_of_length_le (by rw [aR]; exact Nat.le_refl _)
theorem aAA (x : Stmt) : (bA x)[0]? = some (aE x.before) := by rw [dO]; rfl
theorem aAz (x : Stmt) : (bA x)[1]? = some (aE x.aP) := by rw [dO]; rfl
theorem gP (x : Stmt) : (bA x)[2]? = some (.int .i64 x.op) := by rw [dO]; rfl
theorem JI (x : Stmt) : (bA x)[3]? = some (.str x.name) := by rw [dO]; rfl
theorem aAy (x : Stmt) : (bA x)[4]? = some (.int .i64 x.p.op) := by rw [dO]; rfl
theorem aAx (x : Stmt) : (bA x)[5]? = some (.int .i64 x.p.n) := by rw [dO]; rfl
theorem aAw (x : Stmt) : (bA x)[6]? = some (.str x.p.name) := by rw [dO]; rfl
theorem aAv (x : Stmt) : (bA x)[7]? = some (.str x.p.field) := by rw [dO]; rfl
theorem aAu (x : Stmt) : (bA x)[8]? = some (.sl (x.p.l.map aO) false) := by rw [dO]; rfl
theorem fC (x : Stmt) : (bA x)[9]? = some (.sl (x.e.map aO) false) := by rw [dO]; rfl
theorem zR (x : Stmt) : (bA x)[10]? = some (.bool x.down) := by rw [dO]; rfl
theorem V7 (x : Stmt) : (bA x)[11]? = some (.bool x.more) := by rw [dO]; rfl
theorem gH (x : Stmt) : (bA x)[12]? = some (.sl (x.body.map bA) false) := by rw [dO]; rfl
theorem jD (x : Stmt) : (bA x)[13]? = some (.sl (x.els.map bA) false) := by rw [dO]; rfl
theorem V6 (x : Stmt) : (bA x)[14]? = some (aE x.cO) := by rw [dO]; rfl
theorem V5 (x : Stmt) : (bA x)[15]? = some (aE x.cT) := by rw [dO]; rfl
theorem j7 (x : Stmt) : List.take 16 (bA x) = bA x := List.take_of_length_le (by rw [c6]; exact Nat.le_refl _)
theorem aDD (x : Fld) : (eFld x)[0]? = some (aE x.before) := rfl
theorem aDC (x : Fld) : (eFld x)[1]? = some (aE x.aP) := rfl
theorem KI (x : Fld) : (eFld x)[2]? = some (.str x.name) := rfl
theorem KH (x : Fld) : (eFld x)[3]? = some (.int .i64 x.kind) := rfl
theorem QR (x : Fld) : List.take 4 (eFld x) = eFld x := List.take_of_length_le (by rw [eC]; exact Nat.le_refl _)
theorem aDp (x : Rec) : (eB x)[0]? = some (aE x.before) := rfl
theorem rec_1 (x : Rec) : (eB x)[1]? = some (aE x.aP) := rfl
theorem rec_2 (x : Rec) : (eB x)[2]? = some (.str x.name) := rfl
theorem rec_3 (x : Rec) : (eB x)[3]? = some (.sl (x.fields.map eFld) false) := rfl
theorem rec_4 (x : Rec) : (eB x)[4]? = some (aE x.bT) := rfl
theorem A5 (x : Rec) : List.take 5 (eB x) = eB x := List.take_of_length_le (by rw [dG]; exact Nat.le_refl _)
theorem aDd (x : Var) : (dF x)[0]? = some (aE x.before) := rfl
theorem aDc (x : Var) : (dF x)[1]? = some (aE x.aP) := rfl
theorem W9 (x : Var) : (dF x)[2]? = some (.str x.name) := rfl
theorem aDb (x : Var) : (dF x)[3]? = some (.int .i64 x.t.kind) := rfl
theorem aDa (x : Var) : (dF x)[4]? = some (.int .i64 x.t.size) := rfl
theorem aC9 (x : Var) : (dF x)[5]? = some (.str x.t.name) := rfl
theorem O1 (x : Var) : List.take 6 (dF x) = dF x := List.take_of_length_le (by rw [eO]; exact Nat.le_refl _)
theorem WS (x : Param) : (c7 x)[0]? = some (.str x.name) := rfl
theorem WR (x : Param) : (c7 x)[1]? = some (.int .i64 x.t.kind) := rfl
theorem WQ (x : Param) : (c7 x)[2]? = some (.int .i64 x.t.size) := rfl
theorem WO (x : Param) : (c7 x)[3]? = some (.str x.t.name) := rfl
theorem wH (x : Param) : (c7 x)[4]? = some (.int .i64 x.mode) := rfl
theorem vU (x : Param) : List.take 5 (c7 x) = c7 x := List.take_of_length_le (by rw [bP]; exact Nat.le_refl _)
theorem dW (x : Typ) : (bV x)[0]? = some (.int .i64 x.kind) := rfl
theorem AM (x : Typ) : (bV x)[1]? = some (.int .i64 x.size) := rfl
theorem fU (x : Typ) : (bV x)[2]? = some (.str x.name) := rfl
theorem cE (x : Typ) : List.take 3 (bV x) = bV x := List.take_of_length_le (by rw [b9]; exact Nat.le_refl _)
theorem M9 (x : Routine) : (aU x)[0]? = some (aE x.before) := by rw [dX]; rfl
theorem M8 (x : Routine) : (aU x)[1]? = some (aE x.aP) := by rw [dX]; rfl
theorem yD (x : Routine) : (aU x)[2]? = some (.str x.name) := by rw [dX]; rfl
theorem M7 (x : Routine) : (aU x)[3]? = some (.int .i64 x.result) := by rw [dX]; rfl
theorem M6 (x : Routine) : (aU x)[4]? = some (.sl (x.params.map c7) false) := by rw [dX]; rfl
theorem DS (x : Routine) : (aU x)[5]? = some (.sl (x.vars.map dF) false) := by rw [dX]; rfl
theorem DR (x : Routine) : (aU x)[6]? = some (.sl (x.inner.map aU) false) := by rw [dX]; rfl
theorem DQ (x : Routine) : (aU x)[7]? = some (.sl (x.body.map bA) false) := by rw [dX]; rfl
theorem M5 (x : Routine) : (aU x)[8]? = some (aE x.bT) := by rw [dX]; rfl
theorem lZ (x : Routine) : List.take 9 (aU x) = aU x := List.take_of_length_le (by rw [bL]; exact Nat.le_refl _)
theorem aDx (x : Prg) : (fJ x)[0]? = some (.str x.name) := by rw [gY]; rfl
theorem aDw (x : Prg) : (fJ x)[1]? = some (aE x.before) := by rw [gY]; rfl
theorem aDv (x : Prg) : (fJ x)[2]? = some (aE x.mid) := by rw [gY]; rfl
theorem aDu (x : Prg) : (fJ x)[3]? = some (aE x.after) := by rw [gY]; rfl
theorem YN (x : Prg) : (fJ x)[4]? = some (.sl (x.recs.map eB) false) := by rw [gY]; rfl
theorem YM (x : Prg) : (fJ x)[5]? = some (.sl (x.vars.map dF) false) := by rw [gY]; rfl
theorem YL (x : Prg) : (fJ x)[6]? = some (.sl (x.aH.map aU) false) := by rw [gY]; rfl
theorem YK (x : Prg) : (fJ x)[7]? = some (.sl (x.body.map bA) false) := by rw [gY]; rfl
theorem aDt (x : Prg) : (fJ x)[8]? = some (aE x.bT) := by rw [gY]; rfl
theorem pN (x : Prg) : List.take 9 (fJ x) = fJ x := List.take_of_length_le (by rw [oL]; exact Nat.le_refl _)
theorem zQ (x : Stmt) : List.take 5 (List.drop 4 (bA x)) = aO x.p := by rw [dO, cF]; rfl
theorem E6 (x : Var) : List.take 3 (List.drop 3 (dF x)) = bV x.t := rfl
theorem gX (x : Param) : List.take 3 (List.drop 1 (c7 x)) = bV x.t := rfl
def few {α : Type} (l : List α) : Prop := l.length ≤ 9223372036854775807
theorem gE {X : Type} {l pre post : List X} {x : X} (h : l = pre ++ x :: post) : l[pre.length]? = some x ∧ pre.length < l.length := by subst h; simp
theorem aK {X Y : Type} {l pre post : List X} {x : X} {e : X → Y} (h : l = pre ++ x :: post) : (l.map e)[pre.length]? = some (e x) := by subst h; simp
theorem bI {X : Type} {l pre post : List X} {x : X} (h : l = pre ++ x :: post) : ((pre.length : Int) < l.length) = True := by subst h; simp; omega
theorem bJ {X : Type} {l pre post : List X} {x : X} (h : l = pre ++ x :: post) : x ∈ l := by subst h; simp
theorem bE {n : Nat} : ((n : Int) < n) = False := by simp
theorem aQ {X : Type} {l pre post : List X} {x : X} (hw : few l) (h : l = pre ++ x :: post) : IntKind.i64.wrap ((pre.length : Int) + 1) = ((pre ++ [x]).length : Int) := by
 have := (gE h).2
 unfold few at hw
 rw [wrap64 (by omega) (by omega)]; simp
theorem dE.int {k : IntKind} {a b : Int} (h : a = b) : dE (.int k a) (.int k b) := by subst h; exact .refl _
mutual
def Expr.ok : Expr → Prop
 | ⟨op, n, name, field, l⟩ => few l ∧ cI.ok l
def cI.ok : List Expr → Prop
 | [] => True
 | x :: r => Expr.ok x ∧ cI.ok r
end
mutual
def Stmt.ok : Stmt → Prop
 | ⟨before, aP, op, name, p, e, down, more, body, els, cO, cT⟩ => few before ∧ few aP ∧ Expr.ok p ∧ few e ∧ cI.ok e ∧ few body ∧ aZ.ok body ∧ few els ∧ aZ.ok els ∧ few cO ∧ few cT
def aZ.ok : List Stmt → Prop
 | [] => True
 | x :: r => Stmt.ok x ∧ aZ.ok r
end
structure Fld.ok (f : Fld) : Prop where
 before : few f.before
 aP : few f.aP
structure Rec.ok (r : Rec) : Prop where
 before : few r.before
 aP : few r.aP
 fields : few r.fields
 each : ∀ f ∈ r.fields, f.ok
 bT : few r.bT
structure Var.ok (v : Var) : Prop where
 before : few v.before
 aP : few v.aP
mutual
def Routine.ok : Routine → Prop
 | ⟨before, aP, name, result, params, vars, inner, body, bT⟩ => few before ∧ few aP ∧ few params ∧ few vars ∧ (∀ v ∈ vars, v.ok) ∧ few inner ∧ bB.ok inner ∧ few body ∧ aZ.ok body ∧ few bT
def bB.ok : List Routine → Prop
 | [] => True
 | x :: r => Routine.ok x ∧ bB.ok r
end
structure Prg.ok (p : Prg) : Prop where
 before : few p.before
 mid : few p.mid
 after : few p.after
 recs : few p.recs
 rV : ∀ r ∈ p.recs, r.ok
 vars : few p.vars
 FN : ∀ v ∈ p.vars, v.ok
 aH : few p.aH
 iO : ∀ r ∈ p.aH, r.ok
 body : few p.body
 rH : ∀ s ∈ p.body, s.ok
 bT : few p.bT
theorem cI.cN : ∀ l, cI.ok l ↔ ∀ x ∈ l, Expr.ok x
 | [] => by simp [cI.ok]
 | x :: r => by simp [cI.ok, cI.cN r]
theorem aZ.cN : ∀ l, aZ.ok l ↔ ∀ x ∈ l, Stmt.ok x
 | [] => by simp [aZ.ok]
 | x :: r => by simp [aZ.ok, aZ.cN r]
theorem bB.cN : ∀ l, bB.ok l ↔ ∀ x ∈ l, Routine.ok x
 | [] => by simp [bB.ok]
 | x :: r => by simp [bB.ok, bB.cN r]
theorem Expr.cN (x : Expr) : x.ok ↔ few x.l ∧ ∀ y ∈ x.l, y.ok := by
 obtain ⟨op, n, name, field, l⟩ := x; simp [Expr.ok, cI.cN]
theorem Stmt.cN (x : Stmt) : x.ok ↔ few x.before ∧ few x.aP ∧ x.p.ok ∧ few x.e ∧ (∀ y ∈ x.e, y.ok) ∧ few x.body ∧ (∀ y ∈ x.body, y.ok) ∧ few x.els ∧ (∀ y ∈ x.els, y.ok) ∧ few x.cO ∧ few x.cT := by
 obtain ⟨before, aP, op, name, p, e, down, more, body, els, cO, cT⟩ := x; simp [Stmt.ok, cI.cN, aZ.cN]
theorem Routine.cN (x : Routine) : x.ok ↔ few x.before ∧ few x.aP ∧ few x.params ∧ few x.vars ∧ (∀ v ∈ x.vars, v.ok) ∧ few x.inner ∧ (∀ y ∈ x.inner, y.ok) ∧ few x.body ∧ (∀ y ∈ x.body, y.ok) ∧ few x.bT := by
 obtain ⟨before, aP, name, result, params, vars, inner, body, bT⟩ := x; simp [Routine.ok, bB.cN, aZ.cN]
mutual
def Expr.sz : Expr → Nat
 | ⟨op, n, name, field, l⟩ => 1 + cI.sz l
def cI.sz : List Expr → Nat
 | [] => 0
 | x :: r => 1 + Expr.sz x + cI.sz r
end
mutual
def Stmt.sz : Stmt → Nat
 | ⟨before, aP, op, name, p, e, down, more, body, els, cO, cT⟩ => 1 + aZ.sz body + aZ.sz els
def aZ.sz : List Stmt → Nat
 | [] => 0
 | x :: r => 1 + Stmt.sz x + aZ.sz r
end
mutual
def Routine.sz : Routine → Nat
 | ⟨before, aP, name, result, params, vars, inner, body, bT⟩ => 1 + bB.sz inner
def bB.sz : List Routine → Nat
 | [] => 0
 | x :: r => 1 + Routine.sz x + bB.sz r
end
theorem Expr.cY (x : Expr) : x.sz = 1 + cI.sz x.l := by obtain ⟨op, n, name, field, l⟩ := x; rfl
theorem Stmt.cY (x : Stmt) : x.sz = 1 + aZ.sz x.body + aZ.sz x.els := by obtain ⟨before, aP, op, name, p, e, down, more, body, els, cO, cT⟩ := x; rfl
theorem Routine.cY (x : Routine) : x.sz = 1 + bB.sz x.inner := by obtain ⟨before, aP, name, result, params, vars, inner, body, bT⟩ := x; rfl
theorem cI.dU : ∀ {l : List Expr} {x : Expr}, x ∈ l → x.sz < cI.sz l
 | y :: r, x, h => by
  simp only [cI.sz]
  rcases List.mem_cons.1 h with rfl | h
  ·omega
  ·have := cI.dU h; omega
theorem aZ.dU : ∀ {l : List Stmt} {x : Stmt}, x ∈ l → x.sz < aZ.sz l
 | y :: r, x, h => by
  simp only [aZ.sz]
  rcases List.mem_cons.1 h with rfl | h
  ·omega
  ·have := aZ.dU h; omega
theorem bB.dU : ∀ {l : List Routine} {x : Routine}, x ∈ l → x.sz < bB.sz l
 | y :: r, x, h => by
  simp only [bB.sz]
  rcases List.mem_cons.1 h with rfl | h
  ·omega
  ·have := bB.dU h; omega
end Pg
