import Derived.Test.YtdfbkddelhbgmaaGreatDoorTreeS2
namespace Pg
open Go
set_option linter.all false
mutual
def endS : Stmt → Bool
 | ⟨_, _, op, _, _, _, _, more, body, els, _, _⟩ => decide (op = 9) || (decide (op = 3) && more && endL body && endL els)
def endL : List Stmt → Bool
 | [] => false
 | x :: r => endS x || endL r
end
theorem endL_any : ∀ l, endL l = l.any endS
 | [] => rfl
 | x :: r => by simp [endL, endL_any r]
theorem endS_eq (x : Stmt) : endS x = (decide (x.op = 9) || (decide (x.op = 3) && x.more && endL x.body && endL x.els)) := by
 obtain ⟨_, _, op, _, _, _, _, more, body, els, _, _⟩ := x; rfl
abbrev w64 (n : Int) : Int := IntKind.i64.wrap n
end Pg

namespace Pg
open Go
set_option linter.all false
inductive Thing where
 | var (t : Typ)
 | rcd (r : Rec)
 | routine (r : Routine)
abbrev Scope := List (ByteArray × Thing)
def look (f : Scope) (name : ByteArray) : Option Thing := (f.find? fun p => decide (name = p.1)).map (·.2)
def findIn : List Scope → ByteArray → Option Thing
 | [], _ => none
 | f :: fs, name => match look f name with
  | some x => some x
  | none => findIn fs name
def setIn (name : ByteArray) (x : Thing) : Scope → Scope
 | [] => [(name, x)]
 | (n, y) :: r => if name = n then (name, x) :: r else (n, y) :: setIn name x r
def setTop (name : ByteArray) (x : Thing) : List Scope → List Scope
 | [] => []
 | f :: fs => setIn name x f :: fs
structure CS where
 item : Int
 bad : Int
def CS.fail (s : CS) (e : Int) : CS := if s.bad = 0 then { s with bad := e } else s
def CS.step (s : CS) : CS := { s with item := w64 (s.item + 1) }
def noTyp : Typ := ⟨0, 0, noBytes⟩
def kindTyp (k : Int) : Typ := ⟨k, 0, noBytes⟩
def ckLay (fs : List Scope) (s : CS) (name : ByteArray) (x : Thing) : List Scope × CS :=
 match findIn fs name with
 | some _ => (fs, s.fail 12)
 | none => (setTop name x fs, s)
def ckTyp (fs : List Scope) (s : CS) (t : Typ) : CS :=
 if t.kind = 4 then match findIn fs t.name with
  | some (.rcd _) => s
  | _ => s.fail 13
 else s
def ckVars : List Scope → CS → List Var → List Routine → List Scope × CS
 | fs, s, [], _ => (fs, s)
 | fs, s, v :: r, behind =>
  if s.bad = 0 then
   let s1 := s.step
   let s2 := if behind.any (fun x => decide (x.name = v.name)) then s1.fail 12 else s1
   let p := ckLay fs s2 v.name (.var v.t)
   ckVars p.1 (ckTyp p.1 p.2 v.t) r behind
  else (fs, s)
def ckParams : List Scope → CS → List Param → List Scope × CS
 | fs, s, [] => (fs, s)
 | fs, s, v :: r =>
  let p := ckLay fs s v.name (.var v.t)
  ckParams p.1 (ckTyp p.1 p.2 v.t) r
def ckVariable (fs : List Scope) (s : CS) (name : ByteArray) : Typ × CS :=
 match findIn fs name with
 | some (.var t) => (t, s)
 | _ => (noTyp, s.fail 13)
def ckField (fs : List Scope) (s : CS) (t : Typ) (name : ByteArray) : Int × CS :=
 if t.kind = 4 then match findIn fs t.name with
  | some (.rcd r) => match r.fields.find? (fun f => decide (f.name = name)) with
   | some f => (f.kind, s)
   | none => (0, s.fail 13)
  | _ => (0, s.fail 13)
 else (0, s.fail 14)
def ckKind (kinds : List Int) (p : Typ × CS) : Int × CS := (p.1.kind, if 0 < p.1.size ∨ ¬ p.1.kind ∈ kinds then p.2.fail 14 else p.2)
mutual
def ckExpr (fs : List Scope) (s : CS) : Expr → Bool → Typ × CS
 | ⟨op, n, name, field, l⟩, stmt =>
  if s.bad = 0 then
   if op = 1 then (kindTyp 1, s)
   else if op = 2 then (kindTyp 2, s)
   else if op = 3 then (kindTyp 3, s)
   else if op = 4 then ckVariable fs s name
   else if op = 5 then
    let p := ckVariable fs s name
    (kindTyp p.1.kind, ckPair fs (if p.1.size = 0 then p.2.fail 14 else p.2) l 1)
   else if op = 6 then
    let p := ckVariable fs s name
    let q := ckField fs p.2 p.1 field
    (kindTyp q.1, q.2)
   else if op = 7 then match findIn fs name with
    | some (.routine r) =>
     if decide (0 < r.result) = stmt then (kindTyp r.result, ckArgs fs (s.fail 14) r.params l)
     else if r.params.length = l.length then (kindTyp r.result, ckArgs fs s r.params l)
     else (noTyp, s.fail 15)
    | _ => (noTyp, s.fail 13)
   else if op = 9 ∨ (13 ≤ op ∧ op ≤ 14) ∨ (17 ≤ op ∧ op ≤ 18) then (kindTyp 2, ckPair fs s l 2)
   else if op = 19 ∨ op = 20 then (kindTyp 2, ckTwo fs s [1, 2, 3] l)
   else if 21 ≤ op ∧ op ≤ 24 then (kindTyp 2, ckTwo fs s [1, 3] l)
   else (kindTyp 1, ckPair fs s l 1)
  else (noTyp, s)
def ckPair (fs : List Scope) (s : CS) : List Expr → Int → CS
 | [], _ => s
 | x :: r, k => ckPair fs (ckKind [k] (ckExpr fs s x false)).2 r k
def ckTwo (fs : List Scope) (s : CS) (kinds : List Int) : List Expr → CS
 | [] => s
 | x :: r => if r.length = 1 then
   let p := ckKind kinds (ckExpr fs s x false)
   ckPair fs p.2 r p.1
  else s
def ckArgs (fs : List Scope) (s : CS) : List Param → List Expr → CS
 | p :: ps, x :: r =>
  if s.bad = 0 then
   if p.mode = 0 then ckArgs fs (ckKind [p.t.kind] (ckExpr fs s x false)).2 ps r
   else
    let s1 := if x.op = 4 ∨ x.op = 5 ∨ x.op = 6 then s else s.fail 14
    let q := ckExpr fs s1 x false
    ckArgs fs (if q.1 = p.t then q.2 else q.2.fail 14) ps r
  else s
 | _, _ => s
end
theorem ckExpr_eq (fs : List Scope) (s : CS) (x : Expr) (stmt : Bool) : ckExpr fs s x stmt =
  if s.bad = 0 then
   if x.op = 1 then (kindTyp 1, s)
   else if x.op = 2 then (kindTyp 2, s)
   else if x.op = 3 then (kindTyp 3, s)
   else if x.op = 4 then ckVariable fs s x.name
   else if x.op = 5 then
    let p := ckVariable fs s x.name
    (kindTyp p.1.kind, ckPair fs (if p.1.size = 0 then p.2.fail 14 else p.2) x.l 1)
   else if x.op = 6 then
    let p := ckVariable fs s x.name
    let q := ckField fs p.2 p.1 x.field
    (kindTyp q.1, q.2)
   else if x.op = 7 then match findIn fs x.name with
    | some (.routine r) =>
     if decide (0 < r.result) = stmt then (kindTyp r.result, ckArgs fs (s.fail 14) r.params x.l)
     else if r.params.length = x.l.length then (kindTyp r.result, ckArgs fs s r.params x.l)
     else (noTyp, s.fail 15)
    | _ => (noTyp, s.fail 13)
   else if x.op = 9 ∨ (13 ≤ x.op ∧ x.op ≤ 14) ∨ (17 ≤ x.op ∧ x.op ≤ 18) then (kindTyp 2, ckPair fs s x.l 2)
   else if x.op = 19 ∨ x.op = 20 then (kindTyp 2, ckTwo fs s [1, 2, 3] x.l)
   else if 21 ≤ x.op ∧ x.op ≤ 24 then (kindTyp 2, ckTwo fs s [1, 3] x.l)
   else (kindTyp 1, ckPair fs s x.l 1)
  else (noTyp, s) := by
 obtain ⟨op, n, name, field, l⟩ := x; simp only [ckExpr]
def ckAny (fs : List Scope) (s : CS) (x : Expr) : Int × CS := ckKind [1, 2, 3] (ckExpr fs s x false)
def ckEach (fs : List Scope) : CS → List Expr → CS
 | s, [] => s
 | s, x :: r => ckEach fs (ckExpr fs s x true).2 r
def ckAnys (fs : List Scope) : CS → List Expr → CS
 | s, [] => s
 | s, x :: r => ckAnys fs (ckAny fs s x).2 r
def ckResult (fs : List Scope) (s : CS) (res : Int) (e : List Expr) : CS :=
 let s1 := if decide (0 < res) = decide (0 < e.length) then s else s.fail 16
 if 0 < res then ckPair fs s1 e res else s1
def ckStmt (fs : List Scope) (s : CS) (res : Int) (x : Stmt) : CS :=
 if x.op = 1 then
  let p := ckKind [1, 2, 3] (ckExpr fs s x.p false)
  ckPair fs p.2 x.e p.1
 else if x.op = 2 then ckEach fs s x.e
 else if x.op = 3 ∨ x.op = 4 ∨ x.op = 5 then ckPair fs s x.e 2
 else if x.op = 6 then
  let p := ckVariable fs s x.name
  ckPair fs (if p.1 = kindTyp 1 then p.2 else p.2.fail 14) x.e 1
 else if x.op = 7 then (ckKind [1, 3] (ckExpr fs s x.p false)).2
 else if x.op = 8 then ckAnys fs s x.e
 else if x.op = 9 then ckResult fs s res x.e
 else s
mutual
def ckDeep (fs : List Scope) (s : CS) (res : Int) : Stmt → CS
 | ⟨before, trail, op, name, p, e, down, more, body, els, end1, end2⟩ =>
  ckStmts fs (ckStmts fs (ckStmt fs s res ⟨before, trail, op, name, p, e, down, more, body, els, end1, end2⟩) res body) res els
def ckStmts (fs : List Scope) (s : CS) (res : Int) : List Stmt → CS
 | [] => s
 | x :: r => if s.bad = 0 then ckStmts fs (ckDeep fs s.step res x) res r else s
end
theorem ckDeep_eq (fs : List Scope) (s : CS) (res : Int) (x : Stmt) : ckDeep fs s res x = ckStmts fs (ckStmts fs (ckStmt fs s res x) res x.body) res x.els := by
 obtain ⟨before, trail, op, name, p, e, down, more, body, els, end1, end2⟩ := x; rfl
def allOf : Scope → List Routine → Scope
 | f, [] => f
 | f, r :: l => allOf (setIn r.name (.routine r) f) l
mutual
def ckRoutine (all : List Scope) (s : CS) : Routine → CS
 | ⟨before, trail, name, result, params, vars, inner, body, endd⟩ =>
  let p := ckParams ([] :: all) s params
  let s1 := if 0 < result ∧ endL body = false then p.2.fail 16 else p.2
  let q := ckVars p.1 s1 vars inner
  let s2 := ckRoutines q.1 (allOf [] inner :: q.1) q.2 inner
  ckStmts (allOf [] inner :: q.1) s2 result body
def ckRoutines (around all : List Scope) (s : CS) : List Routine → CS
 | [] => s
 | r :: l =>
  if s.bad = 0 then
   let s1 := if (findIn around r.name).isSome then s.step.fail 12 else s.step
   ckRoutines around all (ckRoutine all s1 r) l
  else s
end
theorem ckRoutine_eq (all : List Scope) (s : CS) (x : Routine) : ckRoutine all s x =
  let p := ckParams ([] :: all) s x.params
  let s1 := if 0 < x.result ∧ endL x.body = false then p.2.fail 16 else p.2
  let q := ckVars p.1 s1 x.vars x.inner
  let s2 := ckRoutines q.1 (allOf [] x.inner :: q.1) q.2 x.inner
  ckStmts (allOf [] x.inner :: q.1) s2 x.result x.body := by
 obtain ⟨before, trail, name, result, params, vars, inner, body, endd⟩ := x; rfl
def twice : List Fld → List Fld → Bool
 | _, [] => false
 | ahead, f :: r => ahead.any (fun g => decide (g.name = f.name)) || twice (ahead ++ [f]) r
def ckRecs : List Scope → CS → List Rec → List Scope × CS
 | fs, s, [] => (fs, s)
 | fs, s, r :: l =>
  if s.bad = 0 then
   let p := ckLay fs s.step r.name (.rcd r)
   ckRecs p.1 (if twice [] r.fields then p.2.fail 12 else p.2) l
  else (fs, s)
def ckAll (p : Prg) : CS :=
 let a := ckRecs [[]] ⟨-1, 0⟩ p.recs
 let b := ckVars a.1 a.2 p.vars p.routines
 let c := ckRoutines b.1 (allOf [] p.routines :: b.1) b.2 p.routines
 ckStmts (allOf [] p.routines :: b.1) c 0 p.body
def check (p : Prg) : Int × Int := if (ckAll p).bad = 0 then (0, 0) else ((ckAll p).item, (ckAll p).bad)
theorem look_setIn (name : ByteArray) (x : Thing) : ∀ (f : Scope) (n : ByteArray), look (setIn name x f) n = if n = name then some x else look f n
 | [], n => by
  simp only [setIn, look, List.find?_cons, List.find?_nil]
  by_cases h : n = name <;> simp [h]
 | (m, y) :: r, n => by
  have ih := look_setIn name x r n
  simp only [setIn]
  by_cases hm : name = m
  ·subst hm
   simp only [if_true, look, List.find?_cons]
   by_cases h : n = name <;> simp [h]
  ·simp only [hm, if_false]
   by_cases h : n = m
   ·subst h
    have : ¬ n = name := fun e => hm e.symm
    simp [look, List.find?_cons, this]
   ·simp only [look, List.find?_cons, h, decide_false] at ih ⊢
    exact ih
theorem findIn_setTop (name : ByteArray) (x : Thing) {fs : List Scope} (h : fs ≠ []) (n : ByteArray) : findIn (setTop name x fs) n = if n = name then some x else findIn fs n := by
 cases fs with
 | nil => exact absurd rfl h
 | cons f fs =>
  simp only [setTop, findIn, look_setIn]
  by_cases hn : n = name <;> simp [hn]
end Pg
