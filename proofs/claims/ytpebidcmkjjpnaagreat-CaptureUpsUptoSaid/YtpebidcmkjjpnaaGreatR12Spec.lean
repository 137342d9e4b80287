/- What the document's check (pantographref12) computes, in plain words. -/
import Derived.Test.YtpebidcmkjjpnaaGreatCheckSpec
namespace Pg
open Go
set_option linter.unusedVariables false
structure Th where
  name : ByteArray
  kind : Int
  rcd : Rec
  r : Routine
  t : Typ
def noRec : Rec := ⟨[], [], noBytes, [], []⟩
def noRoutine : Routine := ⟨[], [], noBytes, 0, [], [], [], [], []⟩
def noTh : Th := ⟨noBytes, 0, noRec, noRoutine, noTyp⟩
def thRec (r : Rec) : Th := ⟨r.name, 1, r, noRoutine, noTyp⟩
def thVar (name : ByteArray) (t : Typ) : Th := ⟨name, 3, noRec, noRoutine, t⟩
def thRoutine (r : Routine) : Th := ⟨r.name, 2, noRec, r, noTyp⟩
def rFind (env : List Th) (name : ByteArray) : Th := (env.find? fun x => decide (x.name = name)).getD noTh
def rTyp (env : List Th) (s : CS) (t : Typ) : CS := if t.kind = 4 ∧ (rFind env t.name).kind ≠ 1 then s.fail 13 else s
def rNew (env : List Th) (s : CS) (name : ByteArray) : CS := if (rFind env name).kind ≠ 0 then s.fail 12 else s
def rRecs : List Th → CS → List Rec → List Th × CS
  | env, s, [] => (env, s)
  | env, s, r :: l =>
    if s.bad = 0 then
      let s2 := rNew env s.step r.name
      rRecs (env ++ [thRec r]) (if twice [] r.fields then s2.fail 12 else s2) l
    else (env, s)
def rVars : List Th → CS → List Var → List Routine → List Th × CS
  | env, s, [], _ => (env, s)
  | env, s, v :: r, behind =>
    if s.bad = 0 then
      let s1 := rNew env s.step v.name
      let s2 := if behind.any (fun x => decide (x.name = v.name)) then s1.fail 12 else s1
      rVars (env ++ [thVar v.name v.t]) (rTyp env s2 v.t) r behind
    else (env, s)
def rVis (env : List Th) (l : List Routine) : List Th := env ++ l.map thRoutine
def rParams : List Th → CS → List Param → List Th × CS
  | env, s, [] => (env, s)
  | env, s, v :: r => rParams (env ++ [thVar v.name v.t]) (rTyp env (rNew env s v.name) v.t) r
def rVariable (env : List Th) (s : CS) (name : ByteArray) : Typ × CS :=
  if (rFind env name).kind = 3 then ((rFind env name).t, s) else (noTyp, s.fail 13)
def rKind (kind : Int) (p : Typ × CS) : Int × CS :=
  (p.1.kind, if 0 < p.1.size ∨ p.1.kind < 1 ∨ 3 < p.1.kind ∨ (0 < kind ∧ p.1.kind ≠ kind) then p.2.fail 14 else p.2)
def rField (env : List Th) (s : CS) (t : Typ) (name : ByteArray) : Typ × CS :=
  if t.kind = 4 then match (rFind env t.name).rcd.fields.find? (fun f => decide (f.name = name)) with
    | some f => (kindTyp f.kind, s)
    | none => (noTyp, s.fail 13)
  else (noTyp, s.fail 14)
mutual
def rExpr (env : List Th) (s : CS) : Expr → Bool → Typ × CS
  | ⟨op, n, name, field, l⟩, stmt =>
    if s.bad = 0 then
      if op = 1 ∨ op = 2 ∨ op = 3 then (kindTyp op, s)
      else if op = 4 then rVariable env s name
      else if op = 5 then
        let p := rVariable env s name
        (kindTyp p.1.kind, rHead env (if p.1.size = 0 then p.2.fail 14 else p.2) l 1)
      else if op = 6 then
        let p := rVariable env s name
        rField env p.2 p.1 field
      else if op = 7 then
        let x := rFind env name
        if x.kind = 2 then
          let s1 := if decide (0 < x.r.result) = stmt then s.fail 14 else s
          let s2 := if x.r.params.length = l.length then s1 else s1.fail 15
          (kindTyp x.r.result, rArgs env s2 x.r.params l)
        else (noTyp, s.fail 13)
      else if op = 9 ∨ op = 13 ∨ op = 14 ∨ op = 17 ∨ op = 18 then (kindTyp 2, rPair env s l 2)
      else if 19 ≤ op ∧ op ≤ 24 then (kindTyp 2, rTwo env s (decide (20 < op)) l)
      else (kindTyp 1, rPair env s l 1)
    else (noTyp, s)
def rHead (env : List Th) (s : CS) : List Expr → Int → CS
  | [], _ => s
  | x :: _, k => (rKind k (rExpr env s x false)).2
def rPair (env : List Th) (s : CS) : List Expr → Int → CS
  | [], _ => s
  | x :: r, k => rPair env (rKind k (rExpr env s x false)).2 r k
def rTwo (env : List Th) (s : CS) (o : Bool) : List Expr → CS
  | [] => s
  | x :: r =>
    let p := rKind 0 (rExpr env s x false)
    rHead env (if o = true ∧ p.1 = 2 then p.2.fail 14 else p.2) r p.1
def rArgs (env : List Th) (s : CS) : List Param → List Expr → CS
  | p :: ps, x :: r =>
    if s.bad = 0 then
      if p.mode = 0 then rArgs env (rKind p.t.kind (rExpr env s x false)).2 ps r
      else
        let s1 := if x.op < 4 ∨ 6 < x.op then s.fail 14 else s
        let q := rExpr env s1 x false
        rArgs env (if q.1 = p.t then q.2 else q.2.fail 14) ps r
    else s
  | _, _ => s
end
theorem rExpr_eq (env : List Th) (s : CS) (x : Expr) (stmt : Bool) : rExpr env s x stmt =
    if s.bad = 0 then
      if x.op = 1 ∨ x.op = 2 ∨ x.op = 3 then (kindTyp x.op, s)
      else if x.op = 4 then rVariable env s x.name
      else if x.op = 5 then
        let p := rVariable env s x.name
        (kindTyp p.1.kind, rHead env (if p.1.size = 0 then p.2.fail 14 else p.2) x.l 1)
      else if x.op = 6 then
        let p := rVariable env s x.name
        rField env p.2 p.1 x.field
      else if x.op = 7 then
        let y := rFind env x.name
        if y.kind = 2 then
          let s1 := if decide (0 < y.r.result) = stmt then s.fail 14 else s
          let s2 := if y.r.params.length = x.l.length then s1 else s1.fail 15
          (kindTyp y.r.result, rArgs env s2 y.r.params x.l)
        else (noTyp, s.fail 13)
      else if x.op = 9 ∨ x.op = 13 ∨ x.op = 14 ∨ x.op = 17 ∨ x.op = 18 then (kindTyp 2, rPair env s x.l 2)
      else if 19 ≤ x.op ∧ x.op ≤ 24 then (kindTyp 2, rTwo env s (decide (20 < x.op)) x.l)
      else (kindTyp 1, rPair env s x.l 1)
    else (noTyp, s) := by
  obtain ⟨op, n, name, field, l⟩ := x; simp only [rExpr]
def rCall (env : List Th) (s : CS) : List Expr → CS
  | [] => s
  | x :: _ => (rExpr env s x true).2
def rStmt (env : List Th) (s : CS) (res : Int) (x : Stmt) : CS :=
  if x.op = 1 then
    let p := rKind 0 (rExpr env s x.p false)
    rHead env p.2 x.e p.1
  else if x.op = 2 then rCall env s x.e
  else if x.op = 3 ∨ x.op = 4 ∨ x.op = 5 then rHead env s x.e 2
  else if x.op = 6 then
    let p := rVariable env s x.name
    rHead env (rHead env (if p.1.kind ≠ 1 ∨ p.1.size ≠ 0 then p.2.fail 14 else p.2) x.e 1) x.e.tail 1
  else if x.op = 7 then
    let p := rKind 0 (rExpr env s x.p false)
    if p.1 = 2 then p.2.fail 14 else p.2
  else if x.op = 8 then rHead env s x.e 0
  else if x.op = 9 then rHead env (if decide (0 < res) = decide (0 < x.e.length) then s else s.fail 16) x.e res
  else s
mutual
def rDeep (env : List Th) (s : CS) (res : Int) : Stmt → CS
  | ⟨before, trail, op, name, p, e, down, more, body, els, end1, end2⟩ =>
    rStmts env (rStmts env (rStmt env s res ⟨before, trail, op, name, p, e, down, more, body, els, end1, end2⟩) res body) res els
def rStmts (env : List Th) (s : CS) (res : Int) : List Stmt → CS
  | [] => s
  | x :: r => if s.bad = 0 then rStmts env (rDeep env s.step res x) res r else s
end
theorem rDeep_eq (env : List Th) (s : CS) (res : Int) (x : Stmt) : rDeep env s res x = rStmts env (rStmts env (rStmt env s res x) res x.body) res x.els := by
  obtain ⟨before, trail, op, name, p, e, down, more, body, els, end1, end2⟩ := x; rfl
mutual
def rRoutine (env all : List Th) (s : CS) : Routine → CS
  | ⟨before, trail, name, result, params, vars, inner, body, endd⟩ =>
    let p := rParams all (rNew env s name) params
    let s1 := if 0 < result ∧ endL body = false then p.2.fail 16 else p.2
    let q := rVars p.1 s1 vars inner
    let s2 := rRoutines q.1 (rVis q.1 inner) q.2 inner
    rStmts (rVis q.1 inner) s2 result body
def rRoutines (env all : List Th) (s : CS) : List Routine → CS
  | [] => s
  | r :: l => if s.bad = 0 then rRoutines env all (rRoutine env all s.step r) l else s
end
theorem rRoutine_eq (env all : List Th) (s : CS) (x : Routine) : rRoutine env all s x =
    let p := rParams all (rNew env s x.name) x.params
    let s1 := if 0 < x.result ∧ endL x.body = false then p.2.fail 16 else p.2
    let q := rVars p.1 s1 x.vars x.inner
    let s2 := rRoutines q.1 (rVis q.1 x.inner) q.2 x.inner
    rStmts (rVis q.1 x.inner) s2 x.result x.body := by
  obtain ⟨before, trail, name, result, params, vars, inner, body, endd⟩ := x; rfl
def rAll (p : Prg) : CS :=
  let a := rRecs [] ⟨-1, 0⟩ p.recs
  let b := rVars a.1 a.2 p.vars p.routines
  let c := rRoutines b.1 (rVis b.1 p.routines) b.2 p.routines
  rStmts (rVis b.1 p.routines) c 0 p.body
def rCheck (p : Prg) : Int × Int := if (rAll p).bad = 0 then (0, 0) else ((rAll p).item, (rAll p).bad)
end Pg
