import Derived.Test.YtlflapoljegmoaaGreatDoorTreeA
namespace Pg
open Go
set_option linter.unusedVariables false
mutual
def endS : Stmt → Bool
 | ⟨_, _, op, _, _, _, _, more, body, els, _, _⟩ => decide (op = 9) || (decide (op = 3) && more && endL body && endL els)
def endL : List Stmt → Bool
 | [] => false
 | x :: r => endS x || endL r
end
theorem endL_any : ∀ l, endL l = l.any endS
 | [] => rfl
 | x :: r => by simp [endL, endL_any r]
theorem endS_eq (x : Stmt) : endS x = (decide (x.op = 9) || (decide (x.op = 3) && x.more && endL x.body && endL x.els)) := by
 obtain ⟨_, _, op, _, _, _, _, more, body, els, _, _⟩ := x; rfl
abbrev w64 (n : Int) : Int := IntKind.i64.wrap n
end Pg

namespace Pg
open Go
set_option linter.unusedVariables false
def short (s : ByteArray) : Prop := s.size ≤ 9223372036854775807
def shorts (l : List ByteArray) : Prop := ∀ s ∈ l, short s
def i64 (n : Int) : Prop := -9223372036854775808 ≤ n ∧ n ≤ 9223372036854775807
def Typ.fit (t : Typ) : Prop := i64 t.kind ∧ i64 t.size ∧ short t.name
mutual
def Expr.fit : Expr → Prop
 | ⟨op, n, name, field, l⟩ => i64 op ∧ i64 n ∧ short name ∧ short field ∧ Exprs.fit l
def Exprs.fit : List Expr → Prop
 | [] => True
 | x :: r => Expr.fit x ∧ Exprs.fit r
end
mutual
def Stmt.fit : Stmt → Prop
 | ⟨before, trail, op, name, p, e, down, more, body, els, end1, end2⟩ => shorts before ∧ shorts trail ∧ i64 op ∧ short name ∧ Expr.fit p ∧ Exprs.fit e ∧ Stmts.fit body ∧ Stmts.fit els ∧ shorts end1 ∧ shorts end2
def Stmts.fit : List Stmt → Prop
 | [] => True
 | x :: r => Stmt.fit x ∧ Stmts.fit r
end
def Fld.fit (f : Fld) : Prop := shorts f.before ∧ shorts f.trail ∧ short f.name ∧ i64 f.kind
def Rec.fit (r : Rec) : Prop := shorts r.before ∧ shorts r.trail ∧ short r.name ∧ (∀ f ∈ r.fields, f.fit) ∧ shorts r.endd
def Var.fit (v : Var) : Prop := shorts v.before ∧ shorts v.trail ∧ short v.name ∧ v.t.fit
def Param.fit (p : Param) : Prop := short p.name ∧ p.t.fit ∧ i64 p.mode
mutual
def Routine.fit : Routine → Prop
 | ⟨before, trail, name, result, params, vars, inner, body, endd⟩ => shorts before ∧ shorts trail ∧ short name ∧ i64 result ∧ (∀ p ∈ params, p.fit) ∧ (∀ v ∈ vars, v.fit) ∧ Routines.fit inner ∧ Stmts.fit body ∧ shorts endd
def Routines.fit : List Routine → Prop
 | [] => True
 | x :: r => Routine.fit x ∧ Routines.fit r
end
def Prg.fit (p : Prg) : Prop := short p.name ∧ shorts p.before ∧ shorts p.mid ∧ shorts p.after ∧ (∀ r ∈ p.recs, r.fit) ∧ (∀ v ∈ p.vars, v.fit) ∧ (∀ r ∈ p.routines, r.fit) ∧ (∀ s ∈ p.body, s.fit) ∧ shorts p.endd
theorem Exprs.fit_iff : ∀ l, Exprs.fit l ↔ ∀ x ∈ l, Expr.fit x
 | [] => by simp [Exprs.fit]
 | x :: r => by simp [Exprs.fit, Exprs.fit_iff r]
theorem Stmts.fit_iff : ∀ l, Stmts.fit l ↔ ∀ x ∈ l, Stmt.fit x
 | [] => by simp [Stmts.fit]
 | x :: r => by simp [Stmts.fit, Stmts.fit_iff r]
theorem Routines.fit_iff : ∀ l, Routines.fit l ↔ ∀ x ∈ l, Routine.fit x
 | [] => by simp [Routines.fit]
 | x :: r => by simp [Routines.fit, Routines.fit_iff r]
theorem Expr.fit_iff (x : Expr) : x.fit ↔ i64 x.op ∧ i64 x.n ∧ short x.name ∧ short x.field ∧ ∀ y ∈ x.l, y.fit := by
 obtain ⟨op, n, name, field, l⟩ := x; simp [Expr.fit, Exprs.fit_iff]
theorem Stmt.fit_iff (x : Stmt) : x.fit ↔ shorts x.before ∧ shorts x.trail ∧ i64 x.op ∧ short x.name ∧ x.p.fit ∧ (∀ y ∈ x.e, y.fit) ∧ (∀ y ∈ x.body, y.fit) ∧ (∀ y ∈ x.els, y.fit) ∧ shorts x.end1 ∧ shorts x.end2 := by
 obtain ⟨before, trail, op, name, p, e, down, more, body, els, end1, end2⟩ := x; simp [Stmt.fit, Exprs.fit_iff, Stmts.fit_iff]
theorem Routine.fit_iff (x : Routine) : x.fit ↔ shorts x.before ∧ shorts x.trail ∧ short x.name ∧ i64 x.result ∧ (∀ y ∈ x.params, y.fit) ∧ (∀ y ∈ x.vars, y.fit) ∧ (∀ y ∈ x.inner, y.fit) ∧ (∀ y ∈ x.body, y.fit) ∧ shorts x.endd := by
 obtain ⟨before, trail, name, result, params, vars, inner, body, endd⟩ := x; simp [Routine.fit, Routines.fit_iff, Stmts.fit_iff]
end Pg

namespace Pg
open Go
set_option linter.unusedVariables false
def tw (l : List ByteArray) : Nat := (l.map fun s => s.size + 1).sum
def lP (p : Param) : Nat := p.name.size + p.t.name.size
def lV (v : Var) : Nat := tw v.before + tw v.trail + v.name.size + v.t.name.size
def lF (f : Fld) : Nat := tw f.before + tw f.trail + f.name.size
def lRec (r : Rec) : Nat := tw r.before + tw r.trail + r.name.size + (r.fields.map lF).sum + tw r.endd
mutual
def wE : Expr → Nat
 | ⟨op, n, name, field, l⟩ => 2 + (name.size + field.size) + wEs l
def wEs : List Expr → Nat
 | [] => 0
 | x :: r => wE x + wEs r
end
mutual
def wS : Stmt → Nat
 | ⟨before, trail, op, name, p, e, down, more, body, els, end1, end2⟩ => 2 + (tw before + tw trail + name.size + tw end1 + tw end2) + wE p + wEs e + wSs body + wSs els
def wSs : List Stmt → Nat
 | [] => 0
 | x :: r => wS x + wSs r
end
def wRec (r : Rec) : Nat := 2 + r.fields.length + lRec r
def wRecs (l : List Rec) : Nat := (l.map wRec).sum
mutual
def wR : Routine → Nat
 | ⟨before, trail, name, result, params, vars, inner, body, endd⟩ => 2 + name.size + (tw before + tw trail + (params.map lP).sum + (vars.map lV).sum + tw endd) + 2 * params.length + 2 * vars.length + wRs inner + wSs body
def wRs : List Routine → Nat
 | [] => 0
 | x :: r => wR x + wRs r
end
def wP (p : Prg) : Nat := 1 + (p.name.size + tw p.before + tw p.mid + tw p.after + tw p.endd + (p.vars.map lV).sum) + wRecs p.recs + 2 * p.vars.length + wRs p.routines + wSs p.body
theorem wE_eq (x : Expr) : wE x = 2 + (x.name.size + x.field.size) + wEs x.l := by obtain ⟨op, n, name, field, l⟩ := x; rw [wE]
theorem wS_eq (x : Stmt) : wS x = 2 + (tw x.before + tw x.trail + x.name.size + tw x.end1 + tw x.end2) + wE x.p + wEs x.e + wSs x.body + wSs x.els := by obtain ⟨before, trail, op, name, p, e, down, more, body, els, end1, end2⟩ := x; rw [wS]
theorem wR_eq (x : Routine) : wR x = 2 + x.name.size + (tw x.before + tw x.trail + (x.params.map lP).sum + (x.vars.map lV).sum + tw x.endd) + 2 * x.params.length + 2 * x.vars.length + wRs x.inner + wSs x.body := by obtain ⟨before, trail, name, result, params, vars, inner, body, endd⟩ := x; rw [wR]
theorem tw_len : ∀ l : List ByteArray, l.length ≤ tw l
 | [] => by simp [tw]
 | x :: r => by
  have := tw_len r
  unfold tw at *
  simp only [List.map_cons, List.sum_cons, List.length_cons]; omega
theorem sum_mem {X : Type} {f : X → Nat} {l : List X} {x : X} (h : x ∈ l) : f x ≤ (l.map f).sum := by
 induction l with
 | nil => cases h
 | cons y r ih =>
  simp only [List.map_cons, List.sum_cons]
  rcases List.mem_cons.1 h with rfl | h
  ·omega
  ·have := ih h; omega
theorem wEs_map : ∀ l, wEs l = (l.map wE).sum
 | [] => rfl
 | x :: r => by simp [wEs, wEs_map r]
theorem wSs_map : ∀ l, wSs l = (l.map wS).sum
 | [] => rfl
 | x :: r => by simp [wSs, wSs_map r]
theorem wRs_map : ∀ l, wRs l = (l.map wR).sum
 | [] => rfl
 | x :: r => by simp [wRs, wRs_map r]
theorem turnE_room : ∀ (l : List Expr), l.length ≤ wEs l
 | [] => by simp [wEs]
 | x :: r => by
  have := turnE_room r
  have := wE_eq x
  simp only [wEs, List.length_cons]; omega
theorem wEs_mem {l : List Expr} {x : Expr} (h : x ∈ l) : wE x ≤ wEs l := by
 induction l with
 | nil => cases h
 | cons y r ih =>
  simp only [wEs]
  rcases List.mem_cons.1 h with rfl | h
  ·omega
  ·have := ih h; omega
theorem wSs_len : ∀ l : List Stmt, l.length ≤ wSs l
 | [] => by simp [wSs]
 | x :: r => by
  have := wSs_len r
  have := wS_eq x
  simp only [wSs, List.length_cons]; omega
theorem wSs_mem {l : List Stmt} {x : Stmt} (h : x ∈ l) : wS x ≤ wSs l := by
 induction l with
 | nil => cases h
 | cons y r ih =>
  simp only [wSs]
  rcases List.mem_cons.1 h with rfl | h
  ·omega
  ·have := ih h; omega
theorem wRs_len : ∀ l : List Routine, l.length ≤ wRs l
 | [] => by simp [wRs]
 | x :: r => by
  have := wRs_len r
  have := wR_eq x
  simp only [wRs, List.length_cons]; omega
theorem wRs_mem {l : List Routine} {x : Routine} (h : x ∈ l) : wR x ≤ wRs l := by
 induction l with
 | nil => cases h
 | cons y r ih =>
  simp only [wRs]
  rcases List.mem_cons.1 h with rfl | h
  ·omega
  ·have := ih h; omega
end Pg

namespace Pg
open Go
set_option linter.unusedVariables false
def dollar : ByteArray := ⟨#[36]⟩
def locs (r : Routine) : List Param := r.params.map (fun p => ⟨p.name, p.t, 2⟩) ++ r.vars.map (fun v => ⟨v.name, v.t, 2⟩)
def mapIn (n : ByteArray) (k : Nat) : List (ByteArray × Nat) → List (ByteArray × Nat)
 | [] => [(n, k)]
 | (x, u) :: r => if n = x then (n, k) :: r else (x, u) :: mapIn n k r
mutual
def rcnt : Routine → Nat
 | ⟨before, trail, name, result, params, vars, inner, body, endd⟩ => 1 + rcnts inner
def rcnts : List Routine → Nat
 | [] => 0
 | x :: r => rcnt x + rcnts r
end
theorem rcnt_eq (x : Routine) : rcnt x = 1 + rcnts x.inner := by obtain ⟨before, trail, name, result, params, vars, inner, body, endd⟩ := x; rfl
def capMap : Nat → List (ByteArray × Nat) → List Routine → List (ByteArray × Nat)
 | k, m, [] => m
 | k, m, r :: l => capMap (k + rcnt r) (mapIn r.name k m) l
structure CN where
 path : ByteArray
 around : Int
 list : List Routine
 r : Routine
 inner : List (ByteArray × Nat)
mutual
def capR (k : Nat) (whole : List Routine) (around : Int) (path : ByteArray) : Routine → List CN
 | ⟨before, trail, name, result, params, vars, inner, body, endd⟩ =>
  ⟨path ++ name, around, whole, ⟨before, trail, name, result, params, vars, inner, body, endd⟩, capMap (k + 1) [] inner⟩ :: capL (k + 1) inner k (path ++ name ++ dollar) inner
def capL (k : Nat) (whole : List Routine) (around : Int) (path : ByteArray) : List Routine → List CN
 | [] => []
 | r :: l => capR k whole around path r ++ capL (k + rcnt r) whole around path l
end
theorem capR_eq (k : Nat) (whole : List Routine) (around : Int) (path : ByteArray) (x : Routine) : capR k whole around path x = ⟨path ++ x.name, around, whole, x, capMap (k + 1) [] x.inner⟩ :: capL (k + 1) x.inner k (path ++ x.name ++ dollar) x.inner := by
 obtain ⟨before, trail, name, result, params, vars, inner, body, endd⟩ := x; rfl
mutual
theorem capR_len : ∀ (x : Routine) (k : Nat) (whole : List Routine) (around : Int) (path : ByteArray), (capR k whole around path x).length = rcnt x
 | ⟨before, trail, name, result, params, vars, inner, body, endd⟩, k, whole, around, path => by
  simp only [capR, rcnt, List.length_cons]
  rw [capL_len inner]; omega
theorem capL_len : ∀ (l : List Routine) (k : Nat) (whole : List Routine) (around : Int) (path : ByteArray), (capL k whole around path l).length = rcnts l
 | [], k, whole, around, path => rfl
 | r :: l, k, whole, around, path => by
  simp only [capL, rcnts, List.length_append]
  rw [capR_len r, capL_len l]
end
mutual
def nwR : Routine → Nat
 | ⟨before, trail, name, result, params, vars, inner, body, endd⟩ => name.size + 1 + nwRs inner
def nwRs : List Routine → Nat
 | [] => 0
 | x :: r => nwR x + nwRs r
end
theorem nwR_eq (x : Routine) : nwR x = x.name.size + 1 + nwRs x.inner := by obtain ⟨before, trail, name, result, params, vars, inner, body, endd⟩ := x; rfl
mutual
def useE : Expr → List ByteArray
 | ⟨op, n, name, field, l⟩ => (if op = 4 ∨ op = 5 ∨ op = 6 then [name] else []) ++ useEs l
def useEs : List Expr → List ByteArray
 | [] => []
 | x :: r => useE x ++ useEs r
end
mutual
def callE : Expr → List ByteArray
 | ⟨op, n, name, field, l⟩ => (if op = 7 then [name] else []) ++ callEs l
def callEs : List Expr → List ByteArray
 | [] => []
 | x :: r => callE x ++ callEs r
end
theorem useE_eq (x : Expr) : useE x = (if x.op = 4 ∨ x.op = 5 ∨ x.op = 6 then [x.name] else []) ++ useEs x.l := by
 obtain ⟨op, n, name, field, l⟩ := x; rfl
theorem callE_eq (x : Expr) : callE x = (if x.op = 7 then [x.name] else []) ++ callEs x.l := by
 obtain ⟨op, n, name, field, l⟩ := x; rfl
mutual
def useS : Stmt → List ByteArray
 | ⟨before, trail, op, name, p, e, down, more, body, els, end1, end2⟩ => (if op = 6 then [name] else []) ++ useE p ++ useEs e ++ useSs body ++ useSs els
def useSs : List Stmt → List ByteArray
 | [] => []
 | x :: r => useS x ++ useSs r
end
mutual
def callS : Stmt → List ByteArray
 | ⟨before, trail, op, name, p, e, down, more, body, els, end1, end2⟩ => callE p ++ callEs e ++ callSs body ++ callSs els
def callSs : List Stmt → List ByteArray
 | [] => []
 | x :: r => callS x ++ callSs r
end
theorem useS_eq (x : Stmt) : useS x = (if x.op = 6 then [x.name] else []) ++ useE x.p ++ useEs x.e ++ useSs x.body ++ useSs x.els := by
 obtain ⟨before, trail, op, name, p, e, down, more, body, els, end1, end2⟩ := x; rfl
theorem callS_eq (x : Stmt) : callS x = callE x.p ++ callEs x.e ++ callSs x.body ++ callSs x.els := by
 obtain ⟨before, trail, op, name, p, e, down, more, body, els, end1, end2⟩ := x; rfl
def nameAt (ns : List CN) (name : ByteArray) : Nat → Int → Option (Nat × Nat)
 | 0, _ => none
 | f + 1, i => if i < 0 then none else match ns[i.toNat]? with
  | none => none
  | some n => match (locs n.r).findIdx? (fun p => decide (p.name = name)) with
   | some k => some (i.toNat, k)
   | none => nameAt ns name f n.around
def lookN (name : ByteArray) (m : List (ByteArray × Nat)) : Option Nat := (m.find? fun p => decide (name = p.1)).map (·.2)
def routAt (ns : List CN) (top : List (ByteArray × Nat)) (name : ByteArray) : Nat → Int → Option Nat
 | 0, _ => lookN name top
 | f + 1, i => if i < 0 then lookN name top else match ns[i.toNat]? with
  | none => none
  | some n => match lookN name n.inner with
   | some k => some k
   | none => routAt ns top name f n.around
abbrev Pairs := List (Nat × Nat)
def hadd (hs : Pairs) (x : Nat × Nat) : Pairs := if x ∈ hs then hs else hs ++ [x]
def useAt (ns : List CN) (j : Nat) (hs : Pairs) (name : ByteArray) : Pairs := match nameAt ns name (j + 1) j with
 | some x => if x.1 = j then hs else hadd hs x
 | none => hs
def hasAt (ns : List CN) (j : Nat) (l : List ByteArray) (hs : Pairs) : Pairs := l.foldl (useAt ns j) hs
def callAt (ns : List CN) (top : List (ByteArray × Nat)) (j : Nat) (l : List ByteArray) : List Nat := l.filterMap fun name => routAt ns top name (j + 1) j
end Pg

namespace Pg
open Go
set_option linter.unusedVariables false
def upE (u : Param) : Expr := ⟨25, 0, u.name, noBytes, []⟩
mutual
def liftE (f : ByteArray → Option (ByteArray × List Param)) : Expr → Expr
 | ⟨op, n, name, field, l⟩ => if op = 7 then match f name with
   | some (path, us) => ⟨op, n, path, field, liftEs f l ++ us.map upE⟩
   | none => ⟨op, n, name, field, liftEs f l⟩
  else ⟨op, n, name, field, liftEs f l⟩
def liftEs (f : ByteArray → Option (ByteArray × List Param)) : List Expr → List Expr
 | [] => []
 | x :: r => liftE f x :: liftEs f r
end
theorem liftE_eq (f : ByteArray → Option (ByteArray × List Param)) (x : Expr) : liftE f x = if x.op = 7 then match f x.name with
   | some (path, us) => ⟨x.op, x.n, path, x.field, liftEs f x.l ++ us.map upE⟩
   | none => { x with l := liftEs f x.l }
  else { x with l := liftEs f x.l } := by
 obtain ⟨op, n, name, field, l⟩ := x; rfl
theorem liftEs_map (f : ByteArray → Option (ByteArray × List Param)) : ∀ l, liftEs f l = l.map (liftE f)
 | [] => rfl
 | x :: r => by simp [liftEs, liftEs_map f r]
mutual
def liftS (f : ByteArray → Option (ByteArray × List Param)) : Stmt → Stmt
 | ⟨before, trail, op, name, p, e, down, more, body, els, end1, end2⟩ => ⟨before, trail, op, name, { p with l := liftEs f p.l }, liftEs f e, down, more, liftSs f body, liftSs f els, end1, end2⟩
def liftSs (f : ByteArray → Option (ByteArray × List Param)) : List Stmt → List Stmt
 | [] => []
 | x :: r => liftS f x :: liftSs f r
end
theorem liftS_eq (f : ByteArray → Option (ByteArray × List Param)) (x : Stmt) : liftS f x = ⟨x.before, x.trail, x.op, x.name, { x.p with l := liftEs f x.p.l }, liftEs f x.e, x.down, x.more, liftSs f x.body, liftSs f x.els, x.end1, x.end2⟩ := by
 obtain ⟨before, trail, op, name, p, e, down, more, body, els, end1, end2⟩ := x; rfl
theorem liftSs_map (f : ByteArray → Option (ByteArray × List Param)) : ∀ l, liftSs f l = l.map (liftS f)
 | [] => rfl
 | x :: r => by simp [liftSs, liftSs_map f r]
end Pg
