import Derived.Test.YtdfbkddelhbgmaaGreatDoorK4S2
namespace Pg
open Go
set_option linter.all false
structure Typ where
 kind : Int
 size : Int
 name : ByteArray
 deriving DecidableEq
structure Expr where
 op : Int
 n : Int
 name : ByteArray
 field : ByteArray
 l : List Expr
structure Stmt where
 before : List ByteArray
 trail : List ByteArray
 op : Int
 name : ByteArray
 p : Expr
 e : List Expr
 down : Bool
 more : Bool
 body : List Stmt
 els : List Stmt
 end1 : List ByteArray
 end2 : List ByteArray
structure Fld where
 before : List ByteArray
 trail : List ByteArray
 name : ByteArray
 kind : Int
structure Rec where
 before : List ByteArray
 trail : List ByteArray
 name : ByteArray
 fields : List Fld
 endd : List ByteArray
structure Var where
 before : List ByteArray
 trail : List ByteArray
 name : ByteArray
 t : Typ
structure Param where
 name : ByteArray
 t : Typ
 mode : Int
 deriving DecidableEq
structure Routine where
 before : List ByteArray
 trail : List ByteArray
 name : ByteArray
 result : Int
 params : List Param
 vars : List Var
 inner : List Routine
 body : List Stmt
 endd : List ByteArray
structure Prg where
 name : ByteArray
 before : List ByteArray
 mid : List ByteArray
 after : List ByteArray
 recs : List Rec
 vars : List Var
 routines : List Routine
 body : List Stmt
 endd : List ByteArray
abbrev noBytes : ByteArray := ⟨#[]⟩
instance : Inhabited Expr := ⟨0, 0, noBytes, noBytes, []⟩
def eTexts (l : List ByteArray) : AV := .sl (l.map fun s => [.str s]) false
def eTyp (t : Typ) : List AV := [.int .i64 t.kind, .int .i64 t.size, .str t.name]
mutual
def eExpr : Expr → List AV
 | ⟨op, n, name, field, l⟩ => [.int .i64 op, .int .i64 n, .str name, .str field, .sl (eExprs l) false]
def eExprs : List Expr → List (List AV)
 | [] => []
 | x :: r => eExpr x :: eExprs r
end
mutual
def eStmt : Stmt → List AV
 | ⟨before, trail, op, name, p, e, down, more, body, els, end1, end2⟩ => [eTexts before, eTexts trail, .int .i64 op, .str name] ++ eExpr p ++ [.sl (eExprs e) false, .bool down, .bool more, .sl (eStmts body) false, .sl (eStmts els) false, eTexts end1, eTexts end2]
def eStmts : List Stmt → List (List AV)
 | [] => []
 | x :: r => eStmt x :: eStmts r
end
def eFld (f : Fld) : List AV := [eTexts f.before, eTexts f.trail, .str f.name, .int .i64 f.kind]
def eRec (r : Rec) : List AV := [eTexts r.before, eTexts r.trail, .str r.name, .sl (r.fields.map eFld) false, eTexts r.endd]
def eVar (v : Var) : List AV := [eTexts v.before, eTexts v.trail, .str v.name, .int .i64 v.t.kind, .int .i64 v.t.size, .str v.t.name]
def eParam (p : Param) : List AV := [.str p.name, .int .i64 p.t.kind, .int .i64 p.t.size, .str p.t.name, .int .i64 p.mode]
mutual
def eRoutine : Routine → List AV
 | ⟨before, trail, name, result, params, vars, inner, body, endd⟩ => [eTexts before, eTexts trail, .str name, .int .i64 result, .sl (params.map eParam) false, .sl (vars.map eVar) false, .sl (eRoutines inner) false, .sl (eStmts body) false, eTexts endd]
def eRoutines : List Routine → List (List AV)
 | [] => []
 | x :: r => eRoutine x :: eRoutines r
end
def ePrg (p : Prg) : List AV := [.str p.name, eTexts p.before, eTexts p.mid, eTexts p.after, .sl (p.recs.map eRec) false, .sl (p.vars.map eVar) false, .sl (eRoutines p.routines) false, .sl (eStmts p.body) false, eTexts p.endd]
theorem eExprs_map : ∀ l, eExprs l = l.map eExpr
 | [] => rfl
 | x :: r => by simp [eExprs, eExprs_map r]
theorem eStmts_map : ∀ l, eStmts l = l.map eStmt
 | [] => rfl
 | x :: r => by simp [eStmts, eStmts_map r]
theorem eRoutines_map : ∀ l, eRoutines l = l.map eRoutine
 | [] => rfl
 | x :: r => by simp [eRoutines, eRoutines_map r]
theorem eExpr_eq (x : Expr) : eExpr x = [.int .i64 x.op, .int .i64 x.n, .str x.name, .str x.field, .sl (x.l.map eExpr) false] := by
 obtain ⟨op, n, name, field, l⟩ := x; simp [eExpr, eExprs_map]
theorem eStmt_eq (x : Stmt) : eStmt x = [eTexts x.before, eTexts x.trail, .int .i64 x.op, .str x.name, .int .i64 x.p.op, .int .i64 x.p.n, .str x.p.name, .str x.p.field, .sl (x.p.l.map eExpr) false, .sl (x.e.map eExpr) false, .bool x.down, .bool x.more, .sl (x.body.map eStmt) false, .sl (x.els.map eStmt) false, eTexts x.end1, eTexts x.end2] := by
 obtain ⟨before, trail, op, name, p, e, down, more, body, els, end1, end2⟩ := x; simp [eStmt, eExprs_map, eStmts_map, eExpr_eq]
theorem eRoutine_eq (x : Routine) : eRoutine x = [eTexts x.before, eTexts x.trail, .str x.name, .int .i64 x.result, .sl (x.params.map eParam) false, .sl (x.vars.map eVar) false, .sl (x.inner.map eRoutine) false, .sl (x.body.map eStmt) false, eTexts x.endd] := by
 obtain ⟨before, trail, name, result, params, vars, inner, body, endd⟩ := x; simp [eRoutine, eRoutines_map, eStmts_map]
theorem ePrg_eq (p : Prg) : ePrg p = [.str p.name, eTexts p.before, eTexts p.mid, eTexts p.after, .sl (p.recs.map eRec) false, .sl (p.vars.map eVar) false, .sl (p.routines.map eRoutine) false, .sl (p.body.map eStmt) false, eTexts p.endd] := by
 simp [ePrg, eRoutines_map, eStmts_map]
theorem eExpr_len (x : Expr) : (eExpr x).length = 5 := by rw [eExpr_eq]; rfl
theorem eStmt_len (x : Stmt) : (eStmt x).length = 16 := by rw [eStmt_eq]; rfl
theorem eRoutine_len (x : Routine) : (eRoutine x).length = 9 := by rw [eRoutine_eq]; rfl
theorem eRec_len (x : Rec) : (eRec x).length = 5 := rfl
theorem eFld_len (x : Fld) : (eFld x).length = 4 := rfl
theorem eVar_len (x : Var) : (eVar x).length = 6 := rfl
theorem eParam_len (x : Param) : (eParam x).length = 5 := rfl
theorem eTyp_len (x : Typ) : (eTyp x).length = 3 := rfl
theorem ePrg_len (x : Prg) : (ePrg x).length = 9 := by rw [ePrg_eq]; rfl
theorem expr_0 (x : Expr) : (eExpr x)[0]? = some (.int .i64 x.op) := by rw [eExpr_eq]; rfl
theorem expr_1 (x : Expr) : (eExpr x)[1]? = some (.int .i64 x.n) := by rw [eExpr_eq]; rfl
theorem expr_2 (x : Expr) : (eExpr x)[2]? = some (.str x.name) := by rw [eExpr_eq]; rfl
theorem expr_3 (x : Expr) : (eExpr x)[3]? = some (.str x.field) := by rw [eExpr_eq]; rfl
theorem expr_4 (x : Expr) : (eExpr x)[4]? = some (.sl (x.l.map eExpr) false) := by rw [eExpr_eq]; rfl
theorem expr_take (x : Expr) : List.take 5 (eExpr x) = eExpr x := List.take_of_length_le (by rw [eExpr_len]; exact Nat.le_refl _)
theorem stmt_0 (x : Stmt) : (eStmt x)[0]? = some (eTexts x.before) := by rw [eStmt_eq]; rfl
theorem stmt_1 (x : Stmt) : (eStmt x)[1]? = some (eTexts x.trail) := by rw [eStmt_eq]; rfl
theorem stmt_2 (x : Stmt) : (eStmt x)[2]? = some (.int .i64 x.op) := by rw [eStmt_eq]; rfl
theorem stmt_3 (x : Stmt) : (eStmt x)[3]? = some (.str x.name) := by rw [eStmt_eq]; rfl
theorem stmt_4 (x : Stmt) : (eStmt x)[4]? = some (.int .i64 x.p.op) := by rw [eStmt_eq]; rfl
theorem stmt_5 (x : Stmt) : (eStmt x)[5]? = some (.int .i64 x.p.n) := by rw [eStmt_eq]; rfl
theorem stmt_6 (x : Stmt) : (eStmt x)[6]? = some (.str x.p.name) := by rw [eStmt_eq]; rfl
theorem stmt_7 (x : Stmt) : (eStmt x)[7]? = some (.str x.p.field) := by rw [eStmt_eq]; rfl
theorem stmt_8 (x : Stmt) : (eStmt x)[8]? = some (.sl (x.p.l.map eExpr) false) := by rw [eStmt_eq]; rfl
theorem stmt_9 (x : Stmt) : (eStmt x)[9]? = some (.sl (x.e.map eExpr) false) := by rw [eStmt_eq]; rfl
theorem stmt_10 (x : Stmt) : (eStmt x)[10]? = some (.bool x.down) := by rw [eStmt_eq]; rfl
theorem stmt_11 (x : Stmt) : (eStmt x)[11]? = some (.bool x.more) := by rw [eStmt_eq]; rfl
theorem stmt_12 (x : Stmt) : (eStmt x)[12]? = some (.sl (x.body.map eStmt) false) := by rw [eStmt_eq]; rfl
theorem stmt_13 (x : Stmt) : (eStmt x)[13]? = some (.sl (x.els.map eStmt) false) := by rw [eStmt_eq]; rfl
theorem stmt_14 (x : Stmt) : (eStmt x)[14]? = some (eTexts x.end1) := by rw [eStmt_eq]; rfl
theorem stmt_15 (x : Stmt) : (eStmt x)[15]? = some (eTexts x.end2) := by rw [eStmt_eq]; rfl
theorem stmt_take (x : Stmt) : List.take 16 (eStmt x) = eStmt x := List.take_of_length_le (by rw [eStmt_len]; exact Nat.le_refl _)
theorem fld_0 (x : Fld) : (eFld x)[0]? = some (eTexts x.before) := rfl
theorem fld_1 (x : Fld) : (eFld x)[1]? = some (eTexts x.trail) := rfl
theorem fld_2 (x : Fld) : (eFld x)[2]? = some (.str x.name) := rfl
theorem fld_3 (x : Fld) : (eFld x)[3]? = some (.int .i64 x.kind) := rfl
theorem fld_take (x : Fld) : List.take 4 (eFld x) = eFld x := List.take_of_length_le (by rw [eFld_len]; exact Nat.le_refl _)
theorem rec_0 (x : Rec) : (eRec x)[0]? = some (eTexts x.before) := rfl
theorem rec_1 (x : Rec) : (eRec x)[1]? = some (eTexts x.trail) := rfl
theorem rec_2 (x : Rec) : (eRec x)[2]? = some (.str x.name) := rfl
theorem rec_3 (x : Rec) : (eRec x)[3]? = some (.sl (x.fields.map eFld) false) := rfl
theorem rec_4 (x : Rec) : (eRec x)[4]? = some (eTexts x.endd) := rfl
theorem rec_take (x : Rec) : List.take 5 (eRec x) = eRec x := List.take_of_length_le (by rw [eRec_len]; exact Nat.le_refl _)
theorem var_0 (x : Var) : (eVar x)[0]? = some (eTexts x.before) := rfl
theorem var_1 (x : Var) : (eVar x)[1]? = some (eTexts x.trail) := rfl
theorem var_2 (x : Var) : (eVar x)[2]? = some (.str x.name) := rfl
theorem var_3 (x : Var) : (eVar x)[3]? = some (.int .i64 x.t.kind) := rfl
theorem var_4 (x : Var) : (eVar x)[4]? = some (.int .i64 x.t.size) := rfl
theorem var_5 (x : Var) : (eVar x)[5]? = some (.str x.t.name) := rfl
theorem var_take (x : Var) : List.take 6 (eVar x) = eVar x := List.take_of_length_le (by rw [eVar_len]; exact Nat.le_refl _)
theorem param_0 (x : Param) : (eParam x)[0]? = some (.str x.name) := rfl
theorem param_1 (x : Param) : (eParam x)[1]? = some (.int .i64 x.t.kind) := rfl
theorem param_2 (x : Param) : (eParam x)[2]? = some (.int .i64 x.t.size) := rfl
theorem param_3 (x : Param) : (eParam x)[3]? = some (.str x.t.name) := rfl
theorem param_4 (x : Param) : (eParam x)[4]? = some (.int .i64 x.mode) := rfl
theorem param_take (x : Param) : List.take 5 (eParam x) = eParam x := List.take_of_length_le (by rw [eParam_len]; exact Nat.le_refl _)
theorem typ_0 (x : Typ) : (eTyp x)[0]? = some (.int .i64 x.kind) := rfl
theorem typ_1 (x : Typ) : (eTyp x)[1]? = some (.int .i64 x.size) := rfl
theorem typ_2 (x : Typ) : (eTyp x)[2]? = some (.str x.name) := rfl
theorem typ_take (x : Typ) : List.take 3 (eTyp x) = eTyp x := List.take_of_length_le (by rw [eTyp_len]; exact Nat.le_refl _)
theorem routine_0 (x : Routine) : (eRoutine x)[0]? = some (eTexts x.before) := by rw [eRoutine_eq]; rfl
theorem routine_1 (x : Routine) : (eRoutine x)[1]? = some (eTexts x.trail) := by rw [eRoutine_eq]; rfl
theorem routine_2 (x : Routine) : (eRoutine x)[2]? = some (.str x.name) := by rw [eRoutine_eq]; rfl
theorem routine_3 (x : Routine) : (eRoutine x)[3]? = some (.int .i64 x.result) := by rw [eRoutine_eq]; rfl
theorem routine_4 (x : Routine) : (eRoutine x)[4]? = some (.sl (x.params.map eParam) false) := by rw [eRoutine_eq]; rfl
theorem routine_5 (x : Routine) : (eRoutine x)[5]? = some (.sl (x.vars.map eVar) false) := by rw [eRoutine_eq]; rfl
theorem routine_6 (x : Routine) : (eRoutine x)[6]? = some (.sl (x.inner.map eRoutine) false) := by rw [eRoutine_eq]; rfl
theorem routine_7 (x : Routine) : (eRoutine x)[7]? = some (.sl (x.body.map eStmt) false) := by rw [eRoutine_eq]; rfl
theorem routine_8 (x : Routine) : (eRoutine x)[8]? = some (eTexts x.endd) := by rw [eRoutine_eq]; rfl
theorem routine_take (x : Routine) : List.take 9 (eRoutine x) = eRoutine x := List.take_of_length_le (by rw [eRoutine_len]; exact Nat.le_refl _)
theorem prg_0 (x : Prg) : (ePrg x)[0]? = some (.str x.name) := by rw [ePrg_eq]; rfl
theorem prg_1 (x : Prg) : (ePrg x)[1]? = some (eTexts x.before) := by rw [ePrg_eq]; rfl
theorem prg_2 (x : Prg) : (ePrg x)[2]? = some (eTexts x.mid) := by rw [ePrg_eq]; rfl
theorem prg_3 (x : Prg) : (ePrg x)[3]? = some (eTexts x.after) := by rw [ePrg_eq]; rfl
theorem prg_4 (x : Prg) : (ePrg x)[4]? = some (.sl (x.recs.map eRec) false) := by rw [ePrg_eq]; rfl
theorem prg_5 (x : Prg) : (ePrg x)[5]? = some (.sl (x.vars.map eVar) false) := by rw [ePrg_eq]; rfl
theorem prg_6 (x : Prg) : (ePrg x)[6]? = some (.sl (x.routines.map eRoutine) false) := by rw [ePrg_eq]; rfl
theorem prg_7 (x : Prg) : (ePrg x)[7]? = some (.sl (x.body.map eStmt) false) := by rw [ePrg_eq]; rfl
theorem prg_8 (x : Prg) : (ePrg x)[8]? = some (eTexts x.endd) := by rw [ePrg_eq]; rfl
theorem prg_take (x : Prg) : List.take 9 (ePrg x) = ePrg x := List.take_of_length_le (by rw [ePrg_len]; exact Nat.le_refl _)
theorem stmt_p (x : Stmt) : List.take 5 (List.drop 4 (eStmt x)) = eExpr x.p := by rw [eStmt_eq, eExpr_eq]; rfl
theorem var_t (x : Var) : List.take 3 (List.drop 3 (eVar x)) = eTyp x.t := rfl
theorem param_t (x : Param) : List.take 3 (List.drop 1 (eParam x)) = eTyp x.t := rfl
def few {α : Type} (l : List α) : Prop := l.length ≤ 9223372036854775807
theorem at_pre {X : Type} {l pre post : List X} {x : X} (h : l = pre ++ x :: post) : l[pre.length]? = some x ∧ pre.length < l.length := by subst h; simp
theorem map_at {X Y : Type} {l pre post : List X} {x : X} {e : X → Y} (h : l = pre ++ x :: post) : (l.map e)[pre.length]? = some (e x) := by subst h; simp
theorem lt_at {X : Type} {l pre post : List X} {x : X} (h : l = pre ++ x :: post) : ((pre.length : Int) < l.length) = True := by subst h; simp; omega
theorem mem_at {X : Type} {l pre post : List X} {x : X} (h : l = pre ++ x :: post) : x ∈ l := by subst h; simp
theorem lt_end {n : Nat} : ((n : Int) < n) = False := by simp
theorem step_at {X : Type} {l pre post : List X} {x : X} (hw : few l) (h : l = pre ++ x :: post) : IntKind.i64.wrap ((pre.length : Int) + 1) = ((pre ++ [x]).length : Int) := by
 have := (at_pre h).2
 unfold few at hw
 rw [wrap64 (by omega) (by omega)]; simp
theorem AVle.int {k : IntKind} {a b : Int} (h : a = b) : AVle (.int k a) (.int k b) := by subst h; exact .refl _
mutual
def Expr.ok : Expr → Prop
 | ⟨op, n, name, field, l⟩ => few l ∧ Exprs.ok l
def Exprs.ok : List Expr → Prop
 | [] => True
 | x :: r => Expr.ok x ∧ Exprs.ok r
end
mutual
def Stmt.ok : Stmt → Prop
 | ⟨before, trail, op, name, p, e, down, more, body, els, end1, end2⟩ => few before ∧ few trail ∧ Expr.ok p ∧ few e ∧ Exprs.ok e ∧ few body ∧ Stmts.ok body ∧ few els ∧ Stmts.ok els ∧ few end1 ∧ few end2
def Stmts.ok : List Stmt → Prop
 | [] => True
 | x :: r => Stmt.ok x ∧ Stmts.ok r
end
structure Fld.ok (f : Fld) : Prop where
 before : few f.before
 trail : few f.trail
structure Rec.ok (r : Rec) : Prop where
 before : few r.before
 trail : few r.trail
 fields : few r.fields
 each : ∀ f ∈ r.fields, f.ok
 endd : few r.endd
structure Var.ok (v : Var) : Prop where
 before : few v.before
 trail : few v.trail
mutual
def Routine.ok : Routine → Prop
 | ⟨before, trail, name, result, params, vars, inner, body, endd⟩ => few before ∧ few trail ∧ few params ∧ few vars ∧ (∀ v ∈ vars, v.ok) ∧ few inner ∧ Routines.ok inner ∧ few body ∧ Stmts.ok body ∧ few endd
def Routines.ok : List Routine → Prop
 | [] => True
 | x :: r => Routine.ok x ∧ Routines.ok r
end
structure Prg.ok (p : Prg) : Prop where
 before : few p.before
 mid : few p.mid
 after : few p.after
 recs : few p.recs
 eachRec : ∀ r ∈ p.recs, r.ok
 vars : few p.vars
 eachVar : ∀ v ∈ p.vars, v.ok
 routines : few p.routines
 eachRoutine : ∀ r ∈ p.routines, r.ok
 body : few p.body
 eachStmt : ∀ s ∈ p.body, s.ok
 endd : few p.endd
theorem Exprs.ok_iff : ∀ l, Exprs.ok l ↔ ∀ x ∈ l, Expr.ok x
 | [] => by simp [Exprs.ok]
 | x :: r => by simp [Exprs.ok, Exprs.ok_iff r]
theorem Stmts.ok_iff : ∀ l, Stmts.ok l ↔ ∀ x ∈ l, Stmt.ok x
 | [] => by simp [Stmts.ok]
 | x :: r => by simp [Stmts.ok, Stmts.ok_iff r]
theorem Routines.ok_iff : ∀ l, Routines.ok l ↔ ∀ x ∈ l, Routine.ok x
 | [] => by simp [Routines.ok]
 | x :: r => by simp [Routines.ok, Routines.ok_iff r]
theorem Expr.ok_iff (x : Expr) : x.ok ↔ few x.l ∧ ∀ y ∈ x.l, y.ok := by
 obtain ⟨op, n, name, field, l⟩ := x; simp [Expr.ok, Exprs.ok_iff]
theorem Stmt.ok_iff (x : Stmt) : x.ok ↔ few x.before ∧ few x.trail ∧ x.p.ok ∧ few x.e ∧ (∀ y ∈ x.e, y.ok) ∧ few x.body ∧ (∀ y ∈ x.body, y.ok) ∧ few x.els ∧ (∀ y ∈ x.els, y.ok) ∧ few x.end1 ∧ few x.end2 := by
 obtain ⟨before, trail, op, name, p, e, down, more, body, els, end1, end2⟩ := x; simp [Stmt.ok, Exprs.ok_iff, Stmts.ok_iff]
theorem Routine.ok_iff (x : Routine) : x.ok ↔ few x.before ∧ few x.trail ∧ few x.params ∧ few x.vars ∧ (∀ v ∈ x.vars, v.ok) ∧ few x.inner ∧ (∀ y ∈ x.inner, y.ok) ∧ few x.body ∧ (∀ y ∈ x.body, y.ok) ∧ few x.endd := by
 obtain ⟨before, trail, name, result, params, vars, inner, body, endd⟩ := x; simp [Routine.ok, Routines.ok_iff, Stmts.ok_iff]
mutual
def Expr.sz : Expr → Nat
 | ⟨op, n, name, field, l⟩ => 1 + Exprs.sz l
def Exprs.sz : List Expr → Nat
 | [] => 0
 | x :: r => 1 + Expr.sz x + Exprs.sz r
end
mutual
def Stmt.sz : Stmt → Nat
 | ⟨before, trail, op, name, p, e, down, more, body, els, end1, end2⟩ => 1 + Stmts.sz body + Stmts.sz els
def Stmts.sz : List Stmt → Nat
 | [] => 0
 | x :: r => 1 + Stmt.sz x + Stmts.sz r
end
mutual
def Routine.sz : Routine → Nat
 | ⟨before, trail, name, result, params, vars, inner, body, endd⟩ => 1 + Routines.sz inner
def Routines.sz : List Routine → Nat
 | [] => 0
 | x :: r => 1 + Routine.sz x + Routines.sz r
end
theorem Expr.sz_eq (x : Expr) : x.sz = 1 + Exprs.sz x.l := by obtain ⟨op, n, name, field, l⟩ := x; rfl
theorem Stmt.sz_eq (x : Stmt) : x.sz = 1 + Stmts.sz x.body + Stmts.sz x.els := by obtain ⟨before, trail, op, name, p, e, down, more, body, els, end1, end2⟩ := x; rfl
theorem Routine.sz_eq (x : Routine) : x.sz = 1 + Routines.sz x.inner := by obtain ⟨before, trail, name, result, params, vars, inner, body, endd⟩ := x; rfl
theorem Exprs.sz_mem : ∀ {l : List Expr} {x : Expr}, x ∈ l → x.sz < Exprs.sz l
 | y :: r, x, h => by
  simp only [Exprs.sz]
  rcases List.mem_cons.1 h with rfl | h
  ·omega
  ·have := Exprs.sz_mem h; omega
theorem Stmts.sz_mem : ∀ {l : List Stmt} {x : Stmt}, x ∈ l → x.sz < Stmts.sz l
 | y :: r, x, h => by
  simp only [Stmts.sz]
  rcases List.mem_cons.1 h with rfl | h
  ·omega
  ·have := Stmts.sz_mem h; omega
theorem Routines.sz_mem : ∀ {l : List Routine} {x : Routine}, x ∈ l → x.sz < Routines.sz l
 | y :: r, x, h => by
  simp only [Routines.sz]
  rcases List.mem_cons.1 h with rfl | h
  ·omega
  ·have := Routines.sz_mem h; omega
end Pg
