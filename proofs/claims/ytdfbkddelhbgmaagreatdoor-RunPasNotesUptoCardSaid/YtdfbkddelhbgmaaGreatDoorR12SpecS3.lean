import Derived.Test.YtdfbkddelhbgmaaGreatDoorCheckSpecJS3
namespace Pg
open Go
set_option linter.all false
structure Th where
 name : ByteArray
 kind : Int
 rcd : Rec
 r : Routine
 t : Typ
def BE : Rec := ⟨[], [], noBytes, [], []⟩
def yJ : Routine := ⟨[], [], noBytes, 0, [], [], [], [], []⟩
def noTh : Th := ⟨noBytes, 0, BE, yJ, noTyp⟩
def vN (r : Rec) : Th := ⟨r.name, 1, r, yJ, noTyp⟩
def kM (name : ByteArray) (t : Typ) : Th := ⟨name, 3, BE, yJ, t⟩
def lN (r : Routine) : Th := ⟨r.name, 2, BE, r, noTyp⟩
def dT (env : List Th) (name : ByteArray) : Th := (env.find? fun x => decide (x.name = name)).getD noTh
def tL (env : List Th) (s : CS) (t : Typ) : CS := if t.kind = 4 ∧ (dT env t.name).kind ≠ 1 then s.fail 13 else s
def eF (env : List Th) (s : CS) (name : ByteArray) : CS := if (dT env name).kind ≠ 0 then s.fail 12 else s
def gT : List Th → CS → List Rec → List Th × CS
 | env, s, [] => (env, s)
 | env, s, r :: l =>
  if s.bad = 0 then
   let s2 := eF env s.step r.name
   gT (env ++ [vN r]) (if iP [] r.fields then s2.fail 12 else s2) l
  else (env, s)
def fW : List Th → CS → List Var → List Routine → List Th × CS
 | env, s, [], _ => (env, s)
 | env, s, v :: r, behind =>
  if s.bad = 0 then
   let s1 := eF env s.step v.name
   let s2 := if behind.any (fun x => decide (x.name = v.name)) then s1.fail 12 else s1
   fW (env ++ [kM v.name v.t]) (tL env s2 v.t) r behind
  else (env, s)
def hG (env : List Th) (l : List Routine) : List Th := env ++ l.map lN
def iJ : List Th → CS → List Param → List Th × CS
 | env, s, [] => (env, s)
 | env, s, v :: r => iJ (env ++ [kM v.name v.t]) (tL env (eF env s v.name) v.t) r
def cZ (env : List Th) (s : CS) (name : ByteArray) : Typ × CS :=
 if (dT env name).kind = 3 then ((dT env name).t, s) else (noTyp, s.fail 13)
def cW (kind : Int) (p : Typ × CS) : Int × CS :=
 (p.1.kind, if 0 < p.1.size ∨ p.1.kind < 1 ∨ 3 < p.1.kind ∨ (0 < kind ∧ p.1.kind ≠ kind) then p.2.fail 14 else p.2)
def qO (env : List Th) (s : CS) (t : Typ) (name : ByteArray) : Typ × CS :=
 if t.kind = 4 then match (dT env t.name).rcd.fields.find? (fun f => decide (f.name = name)) with
  | some f => (bC f.kind, s)
  | none => (noTyp, s.fail 13)
 else (noTyp, s.fail 14)
mutual
def cQ (env : List Th) (s : CS) : Expr → Bool → Typ × CS
 | ⟨op, n, name, field, l⟩, stmt =>
  if s.bad = 0 then
   if op = 1 ∨ op = 2 ∨ op = 3 then (bC op, s)
   else if op = 4 then cZ env s name
   else if op = 5 then
    let p := cZ env s name
    (bC p.1.kind, eZ env (if p.1.size = 0 then p.2.fail 14 else p.2) l 1)
   else if op = 6 then
    let p := cZ env s name
    qO env p.2 p.1 field
   else if op = 7 then
    let x := dT env name
    if x.kind = 2 then
     let s1 := if decide (0 < x.r.result) = stmt then s.fail 14 else s
     let s2 := if x.r.params.length = l.length then s1 else s1.fail 15
     (bC x.r.result, jP env s2 x.r.params l)
    else (noTyp, s.fail 13)
   else if op = 9 ∨ op = 13 ∨ op = 14 ∨ op = 17 ∨ op = 18 then (bC 2, nM env s l 2)
   else if 19 ≤ op ∧ op ≤ 24 then (bC 2, L0 env s (decide (20 < op)) l)
   else (bC 1, nM env s l 1)
  else (noTyp, s)
def eZ (env : List Th) (s : CS) : List Expr → Int → CS
 | [], _ => s
 | x :: _, k => (cW k (cQ env s x false)).2
def nM (env : List Th) (s : CS) : List Expr → Int → CS
 | [], _ => s
 | x :: r, k => nM env (cW k (cQ env s x false)).2 r k
def L0 (env : List Th) (s : CS) (o : Bool) : List Expr → CS
 | [] => s
 | x :: r =>
  let p := cW 0 (cQ env s x false)
  eZ env (if o = true ∧ p.1 = 2 then p.2.fail 14 else p.2) r p.1
def jP (env : List Th) (s : CS) : List Param → List Expr → CS
 | p :: ps, x :: r =>
  if s.bad = 0 then
   if p.mode = 0 then jP env (cW p.t.kind (cQ env s x false)).2 ps r
   else
    let s1 := if x.op < 4 ∨ 6 < x.op then s.fail 14 else s
    let q := cQ env s1 x false
    jP env (if q.1 = p.t then q.2 else q.2.fail 14) ps r
  else s
 | _, _ => s
end
theorem xG (env : List Th) (s : CS) (x : Expr) (stmt : Bool) : cQ env s x stmt =
  if s.bad = 0 then
   if x.op = 1 ∨ x.op = 2 ∨ x.op = 3 then (bC x.op, s)
   else if x.op = 4 then cZ env s x.name
   else if x.op = 5 then
    let p := cZ env s x.name
    (bC p.1.kind, eZ env (if p.1.size = 0 then p.2.fail 14 else p.2) x.l 1)
   else if x.op = 6 then
    let p := cZ env s x.name
    qO env p.2 p.1 x.field
   else if x.op = 7 then
    let y := dT env x.name
    if y.kind = 2 then
     let s1 := if decide (0 < y.r.result) = stmt then s.fail 14 else s
     let s2 := if y.r.params.length = x.l.length then s1 else s1.fail 15
     (bC y.r.result, jP env s2 y.r.params x.l)
    else (noTyp, s.fail 13)
   else if x.op = 9 ∨ x.op = 13 ∨ x.op = 14 ∨ x.op = 17 ∨ x.op = 18 then (bC 2, nM env s x.l 2)
   else if 19 ≤ x.op ∧ x.op ≤ 24 then (bC 2, L0 env s (decide (20 < x.op)) x.l)
   else (bC 1, nM env s x.l 1)
  else (noTyp, s) := by
 obtain ⟨op, n, name, field, l⟩ := x; simp only [cQ]
def YJ (env : List Th) (s : CS) : List Expr → CS
 | [] => s
 | x :: _ => (cQ env s x true).2
def iL (env : List Th) (s : CS) (res : Int) (x : Stmt) : CS :=
 if x.op = 1 then
  let p := cW 0 (cQ env s x.p false)
  eZ env p.2 x.e p.1
 else if x.op = 2 then YJ env s x.e
 else if x.op = 3 ∨ x.op = 4 ∨ x.op = 5 then eZ env s x.e 2
 else if x.op = 6 then
  let p := cZ env s x.name
  eZ env (eZ env (if p.1.kind ≠ 1 ∨ p.1.size ≠ 0 then p.2.fail 14 else p.2) x.e 1) x.e.tail 1
 else if x.op = 7 then
  let p := cW 0 (cQ env s x.p false)
  if p.1 = 2 then p.2.fail 14 else p.2
 else if x.op = 8 then eZ env s x.e 0
 else if x.op = 9 then eZ env (if decide (0 < res) = decide (0 < x.e.length) then s else s.fail 16) x.e res
 else s
mutual
def YI (env : List Th) (s : CS) (res : Int) : Stmt → CS
 | ⟨before, aP, op, name, p, e, down, more, body, els, cO, cT⟩ =>
  iI env (iI env (iL env s res ⟨before, aP, op, name, p, e, down, more, body, els, cO, cT⟩) res body) res els
def iI (env : List Th) (s : CS) (res : Int) : List Stmt → CS
 | [] => s
 | x :: r => if s.bad = 0 then iI env (YI env s.step res x) res r else s
end
theorem iT (env : List Th) (s : CS) (res : Int) (x : Stmt) : YI env s res x = iI env (iI env (iL env s res x) res x.body) res x.els := by
 obtain ⟨before, aP, op, name, p, e, down, more, body, els, cO, cT⟩ := x; rfl
mutual
def xF (env all : List Th) (s : CS) : Routine → CS
 | ⟨before, aP, name, result, params, vars, inner, body, bT⟩ =>
  let p := iJ all (eF env s name) params
  let s1 := if 0 < result ∧ kW body = false then p.2.fail 16 else p.2
  let q := fW p.1 s1 vars inner
  let s2 := eR q.1 (hG q.1 inner) q.2 inner
  iI (hG q.1 inner) s2 result body
def eR (env all : List Th) (s : CS) : List Routine → CS
 | [] => s
 | r :: l => if s.bad = 0 then eR env all (xF env all s.step r) l else s
end
theorem zC (env all : List Th) (s : CS) (x : Routine) : xF env all s x =
  let p := iJ all (eF env s x.name) x.params
  let s1 := if 0 < x.result ∧ kW x.body = false then p.2.fail 16 else p.2
  let q := fW p.1 s1 x.vars x.inner
  let s2 := eR q.1 (hG q.1 x.inner) q.2 x.inner
  iI (hG q.1 x.inner) s2 x.result x.body := by
 obtain ⟨before, aP, name, result, params, vars, inner, body, bT⟩ := x; rfl
def zD (p : Prg) : CS :=
 let a := gT [] ⟨-1, 0⟩ p.recs
 let b := fW a.1 a.2 p.vars p.aH
 let c := eR b.1 (hG b.1 p.aH) b.2 p.aH
 iI (hG b.1 p.aH) c 0 p.body
def xH (p : Prg) : Int × Int := if (zD p).bad = 0 then (0, 0) else ((zD p).item, (zD p).bad)
end Pg
