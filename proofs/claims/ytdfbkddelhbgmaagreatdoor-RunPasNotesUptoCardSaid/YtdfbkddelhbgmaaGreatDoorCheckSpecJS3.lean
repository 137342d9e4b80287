import Derived.Test.YtdfbkddelhbgmaaGreatDoorTreeS3
namespace Pg
open Go
set_option linter.all false
mutual
def BT : Stmt → Bool
 | ⟨_, _, op, _, _, _, _, more, body, els, _, _⟩ => decide (op = 9) || (decide (op = 3) && more && kW body && kW els)
def kW : List Stmt → Bool
 | [] => false
 | x :: r => BT x || kW r
end
theorem BU : ∀ l, kW l = l.any BT
 | [] => rfl
 | x :: r => by simp [kW, BU r]
theorem AB (x : Stmt) : BT x = (decide (x.op = 9) || (decide (x.op = 3) && x.more && kW x.body && kW x.els)) := by
 obtain ⟨_, _, op, _, _, _, _, more, body, els, _, _⟩ := x; rfl
mutual
def aFm : Stmt → Nat
 | ⟨_, _, _, _, _, _, _, _, body, els, _, _⟩ => sU body + sU els
def sU : List Stmt → Nat
 | [] => 0
 | x :: r => 1 + aFm x + sU r
end
theorem WY (x : Stmt) : aFm x = sU x.body + sU x.els := by
 obtain ⟨_, _, op, _, _, _, _, more, body, els, _, _⟩ := x; rfl
mutual
def aCT : Routine → Nat
 | ⟨_, _, _, _, _, vars, inner, body, _⟩ => vars.length + uD inner + sU body
def uD : List Routine → Nat
 | [] => 0
 | x :: r => 1 + aCT x + uD r
end
theorem WZ (x : Routine) : aCT x = x.vars.length + uD x.inner + sU x.body := by
 obtain ⟨_, _, _, _, _, vars, inner, body, _⟩ := x; rfl
def ZB (p : Prg) : Nat := p.recs.length + p.vars.length + uD p.aH + sU p.body
abbrev w64 (n : Int) : Int := IntKind.i64.wrap n
theorem aDL (n : Int) : IntKind.i64.wrap n = (n + 9223372036854775808) % 18446744073709551616 - 9223372036854775808 := by rw [IntKind.wrap_i64]
theorem Z5 (a b : Int) : w64 (w64 a + b) = w64 (a + b) := by simp only [w64, aDL]; omega
theorem MJ {n : Int} (h0 : -9223372036854775808 ≤ n) (h1 : n ≤ 9223372036854775807) : w64 n = n := wrap64 h0 h1
end Pg

namespace Pg
open Go
set_option linter.all false
inductive Thing where
 | var (t : Typ)
 | rcd (r : Rec)
 | bU (r : Routine)
abbrev Scope := List (ByteArray × Thing)
def look (f : Scope) (name : ByteArray) : Option Thing := (f.find? fun p => decide (name = p.1)).map (·.2)
def bD : List Scope → ByteArray → Option Thing
 | [], _ => none
 | f :: fs, name => match look f name with
  | some x => some x
  | none => bD fs name
def q7 (name : ByteArray) (x : Thing) : Scope → Scope
 | [] => [(name, x)]
 | (n, y) :: r => if name = n then (name, x) :: r else (n, y) :: q7 name x r
def j8 (name : ByteArray) (x : Thing) : List Scope → List Scope
 | [] => []
 | f :: fs => q7 name x f :: fs
structure CS where
 item : Int
 bad : Int
def CS.fail (s : CS) (e : Int) : CS := if s.bad = 0 then { s with bad := e } else s
def CS.step (s : CS) : CS := { s with item := w64 (s.item + 1) }
def noTyp : Typ := ⟨0, 0, noBytes⟩
def bC (k : Int) : Typ := ⟨k, 0, noBytes⟩
def cR (fs : List Scope) (s : CS) (name : ByteArray) (x : Thing) : List Scope × CS :=
 match bD fs name with
 | some _ => (fs, s.fail 12)
 | none => (j8 name x fs, s)
def iW (fs : List Scope) (s : CS) (t : Typ) : CS :=
 if t.kind = 4 then match bD fs t.name with
  | some (.rcd _) => s
  | _ => s.fail 13
 else s
def cH : List Scope → CS → List Var → List Routine → List Scope × CS
 | fs, s, [], _ => (fs, s)
 | fs, s, v :: r, behind =>
  if s.bad = 0 then
   let s1 := s.step
   let s2 := if behind.any (fun x => decide (x.name = v.name)) then s1.fail 12 else s1
   let p := cR fs s2 v.name (.var v.t)
   cH p.1 (iW p.1 p.2 v.t) r behind
  else (fs, s)
def cA : List Scope → CS → List Param → List Scope × CS
 | fs, s, [] => (fs, s)
 | fs, s, v :: r =>
  let p := cR fs s v.name (.var v.t)
  cA p.1 (iW p.1 p.2 v.t) r
def bK (fs : List Scope) (s : CS) (name : ByteArray) : Typ × CS :=
 match bD fs name with
 | some (.var t) => (t, s)
 | _ => (noTyp, s.fail 13)
def dV (fs : List Scope) (s : CS) (t : Typ) (name : ByteArray) : Int × CS :=
 if t.kind = 4 then match bD fs t.name with
  | some (.rcd r) => match r.fields.find? (fun f => decide (f.name = name)) with
   | some f => (f.kind, s)
   | none => (0, s.fail 13)
  | _ => (0, s.fail 13)
 else (0, s.fail 14)
def c8 (kinds : List Int) (p : Typ × CS) : Int × CS := (p.1.kind, if 0 < p.1.size ∨ ¬ p.1.kind ∈ kinds then p.2.fail 14 else p.2)
mutual
def bY (fs : List Scope) (s : CS) : Expr → Bool → Typ × CS
 | ⟨op, n, name, field, l⟩, stmt =>
  if s.bad = 0 then
   if op = 1 then (bC 1, s)
   else if op = 2 then (bC 2, s)
   else if op = 3 then (bC 3, s)
   else if op = 4 then bK fs s name
   else if op = 5 then
    let p := bK fs s name
    (bC p.1.kind, cC fs (if p.1.size = 0 then p.2.fail 14 else p.2) l 1)
   else if op = 6 then
    let p := bK fs s name
    let q := dV fs p.2 p.1 field
    (bC q.1, q.2)
   else if op = 7 then match bD fs name with
    | some (.bU r) =>
     if decide (0 < r.result) = stmt then (bC r.result, dB fs (s.fail 14) r.params l)
     else if r.params.length = l.length then (bC r.result, dB fs s r.params l)
     else (noTyp, s.fail 15)
    | _ => (noTyp, s.fail 13)
   else if op = 9 ∨ (13 ≤ op ∧ op ≤ 14) ∨ (17 ≤ op ∧ op ≤ 18) then (bC 2, cC fs s l 2)
   else if op = 19 ∨ op = 20 then (bC 2, j4 fs s [1, 2, 3] l)
   else if 21 ≤ op ∧ op ≤ 24 then (bC 2, j4 fs s [1, 3] l)
   else (bC 1, cC fs s l 1)
  else (noTyp, s)
def cC (fs : List Scope) (s : CS) : List Expr → Int → CS
 | [], _ => s
 | x :: r, k => cC fs (c8 [k] (bY fs s x false)).2 r k
def j4 (fs : List Scope) (s : CS) (kinds : List Int) : List Expr → CS
 | [] => s
 | x :: r => if r.length = 1 then
   let p := c8 kinds (bY fs s x false)
   cC fs p.2 r p.1
  else s
def dB (fs : List Scope) (s : CS) : List Param → List Expr → CS
 | p :: ps, x :: r =>
  if s.bad = 0 then
   if p.mode = 0 then dB fs (c8 [p.t.kind] (bY fs s x false)).2 ps r
   else
    let s1 := if x.op = 4 ∨ x.op = 5 ∨ x.op = 6 then s else s.fail 14
    let q := bY fs s1 x false
    dB fs (if q.1 = p.t then q.2 else q.2.fail 14) ps r
  else s
 | _, _ => s
end
theorem fQ (fs : List Scope) (s : CS) (x : Expr) (stmt : Bool) : bY fs s x stmt =
  if s.bad = 0 then
   if x.op = 1 then (bC 1, s)
   else if x.op = 2 then (bC 2, s)
   else if x.op = 3 then (bC 3, s)
   else if x.op = 4 then bK fs s x.name
   else if x.op = 5 then
    let p := bK fs s x.name
    (bC p.1.kind, cC fs (if p.1.size = 0 then p.2.fail 14 else p.2) x.l 1)
   else if x.op = 6 then
    let p := bK fs s x.name
    let q := dV fs p.2 p.1 x.field
    (bC q.1, q.2)
   else if x.op = 7 then match bD fs x.name with
    | some (.bU r) =>
     if decide (0 < r.result) = stmt then (bC r.result, dB fs (s.fail 14) r.params x.l)
     else if r.params.length = x.l.length then (bC r.result, dB fs s r.params x.l)
     else (noTyp, s.fail 15)
    | _ => (noTyp, s.fail 13)
   else if x.op = 9 ∨ (13 ≤ x.op ∧ x.op ≤ 14) ∨ (17 ≤ x.op ∧ x.op ≤ 18) then (bC 2, cC fs s x.l 2)
   else if x.op = 19 ∨ x.op = 20 then (bC 2, j4 fs s [1, 2, 3] x.l)
   else if 21 ≤ x.op ∧ x.op ≤ 24 then (bC 2, j4 fs s [1, 3] x.l)
   else (bC 1, cC fs s x.l 1)
  else (noTyp, s) := by
 obtain ⟨op, n, name, field, l⟩ := x; simp only [bY]
def B1 (fs : List Scope) (s : CS) (x : Expr) : Int × CS := c8 [1, 2, 3] (bY fs s x false)
def nZ (fs : List Scope) : CS → List Expr → CS
 | s, [] => s
 | s, x :: r => nZ fs (bY fs s x true).2 r
def n5 (fs : List Scope) : CS → List Expr → CS
 | s, [] => s
 | s, x :: r => n5 fs (B1 fs s x).2 r
def iG (fs : List Scope) (s : CS) (res : Int) (e : List Expr) : CS :=
 let s1 := if decide (0 < res) = decide (0 < e.length) then s else s.fail 16
 if 0 < res then cC fs s1 e res else s1
def eX (fs : List Scope) (s : CS) (res : Int) (x : Stmt) : CS :=
 if x.op = 1 then
  let p := c8 [1, 2, 3] (bY fs s x.p false)
  cC fs p.2 x.e p.1
 else if x.op = 2 then nZ fs s x.e
 else if x.op = 3 ∨ x.op = 4 ∨ x.op = 5 then cC fs s x.e 2
 else if x.op = 6 then
  let p := bK fs s x.name
  cC fs (if p.1 = bC 1 then p.2 else p.2.fail 14) x.e 1
 else if x.op = 7 then (c8 [1, 3] (bY fs s x.p false)).2
 else if x.op = 8 then n5 fs s x.e
 else if x.op = 9 then iG fs s res x.e
 else s
mutual
def aBC (fs : List Scope) (s : CS) (res : Int) : Stmt → CS
 | ⟨before, aP, op, name, p, e, down, more, body, els, cO, cT⟩ =>
  cS fs (cS fs (eX fs s res ⟨before, aP, op, name, p, e, down, more, body, els, cO, cT⟩) res body) res els
def cS (fs : List Scope) (s : CS) (res : Int) : List Stmt → CS
 | [] => s
 | x :: r => if s.bad = 0 then cS fs (aBC fs s.step res x) res r else s
end
theorem uV (fs : List Scope) (s : CS) (res : Int) (x : Stmt) : aBC fs s res x = cS fs (cS fs (eX fs s res x) res x.body) res x.els := by
 obtain ⟨before, aP, op, name, p, e, down, more, body, els, cO, cT⟩ := x; rfl
def cK : Scope → List Routine → Scope
 | f, [] => f
 | f, r :: l => cK (q7 r.name (.bU r) f) l
mutual
def jI (all : List Scope) (s : CS) : Routine → CS
 | ⟨before, aP, name, result, params, vars, inner, body, bT⟩ =>
  let p := cA ([] :: all) s params
  let s1 := if 0 < result ∧ kW body = false then p.2.fail 16 else p.2
  let q := cH p.1 s1 vars inner
  let s2 := b7 q.1 (cK [] inner :: q.1) q.2 inner
  cS (cK [] inner :: q.1) s2 result body
def b7 (around all : List Scope) (s : CS) : List Routine → CS
 | [] => s
 | r :: l =>
  if s.bad = 0 then
   let s1 := if (bD around r.name).isSome then s.step.fail 12 else s.step
   b7 around all (jI all s1 r) l
  else s
end
theorem iX (all : List Scope) (s : CS) (x : Routine) : jI all s x =
  let p := cA ([] :: all) s x.params
  let s1 := if 0 < x.result ∧ kW x.body = false then p.2.fail 16 else p.2
  let q := cH p.1 s1 x.vars x.inner
  let s2 := b7 q.1 (cK [] x.inner :: q.1) q.2 x.inner
  cS (cK [] x.inner :: q.1) s2 x.result x.body := by
 obtain ⟨before, aP, name, result, params, vars, inner, body, bT⟩ := x; rfl
def iP : List Fld → List Fld → Bool
 | _, [] => false
 | ahead, f :: r => ahead.any (fun g => decide (g.name = f.name)) || iP (ahead ++ [f]) r
def dY : List Scope → CS → List Rec → List Scope × CS
 | fs, s, [] => (fs, s)
 | fs, s, r :: l =>
  if s.bad = 0 then
   let p := cR fs s.step r.name (.rcd r)
   dY p.1 (if iP [] r.fields then p.2.fail 12 else p.2) l
  else (fs, s)
def mY (p : Prg) : CS :=
 let a := dY [[]] ⟨-1, 0⟩ p.recs
 let b := cH a.1 a.2 p.vars p.aH
 let c := b7 b.1 (cK [] p.aH :: b.1) b.2 p.aH
 cS (cK [] p.aH :: b.1) c 0 p.body
def check (p : Prg) : Int × Int := if (mY p).bad = 0 then (0, 0) else ((mY p).item, (mY p).bad)
theorem lK (name : ByteArray) (x : Thing) : ∀ (f : Scope) (n : ByteArray), look (q7 name x f) n = if n = name then some x else look f n
 | [], n => by
  simp only [q7, look, List.find?_cons, List.find?_nil]
  by_cases h : n = name <;> simp [h]
 | (m, y) :: r, n => by
  have ih := lK name x r n
  simp only [q7]
  by_cases hm : name = m
  ·subst hm
   simp only [if_true, look, List.find?_cons]
   by_cases h : n = name <;> simp [h]
  ·simp only [hm, if_false]
   by_cases h : n = m
   ·subst h
    have : ¬ n = name := fun e => hm e.symm
    simp [look, List.find?_cons, this]
   ·simp only [look, List.find?_cons, h, decide_false] at ih ⊢
    exact ih
theorem kU (name : ByteArray) (x : Thing) {fs : List Scope} (h : fs ≠ []) (n : ByteArray) : bD (j8 name x fs) n = if n = name then some x else bD fs n := by
 cases fs with
 | nil => exact absurd rfl h
 | cons f fs =>
  simp only [j8, bD, lK]
  by_cases hn : n = name <;> simp [hn]
end Pg
