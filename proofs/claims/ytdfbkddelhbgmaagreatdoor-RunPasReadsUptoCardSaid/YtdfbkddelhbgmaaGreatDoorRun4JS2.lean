import Derived.Test.YtdfbkddelhbgmaaGreatDoorTreeSpecS2
import Derived.Test.YtdfbkddelhbgmaaGreatDoorK4S2
import Derived.Test.YtdfbkddelhbgmaaGreatDoorTreeSS2
import Derived.Test.YtdfbkddelhbgmaaGreatDoorCodeR1S2
namespace Pg
open Go
set_option linter.all false
structure VarAt where
 frm : Int
 len : Int
 t : Typ
abbrev zTyp : Typ := ⟨0, 0, noBytes⟩
abbrev noVar : VarAt := ⟨0, 0, zTyp⟩
abbrev Names := List (ByteArray × VarAt)
def nget (name : ByteArray) : Names → Option VarAt
 | [] => none
 | (k, v) :: r => if name = k then some v else nget name r
def nset (name : ByteArray) (x : VarAt) : Names → Names
 | [] => [(name, x)]
 | (k, v) :: r => if name = k then (name, x) :: r else (k, v) :: nset name x r
structure Frm where
 names : Names
 routines : List Routine
structure MSt where
 cells : List Int
 code : Int
 out : List Int
 steps : Int
 deep : Int
 input : List Int
structure Cfg where
 recs : List Rec
 fuel : Int
abbrev wr (n : Int) : Int := IntKind.i64.wrap n
def MSt.fail (s : MSt) (e : Int) : MSt := if s.code = 0 then { s with code := e } else s
def Mc (α : Type) := MSt → α × MSt
instance : Monad Mc where
 pure a := fun s => (a, s)
 bind m k := fun s => k (m s).1 (m s).2
theorem bind_ap {α β : Type} (m : Mc α) (k : α → Mc β) (s : MSt) : (m >>= k) s = k (m s).1 (m s).2 := rfl
theorem pure_ap {α : Type} (a : α) (s : MSt) : (pure a : Mc α) s = (a, s) := rfl
def goesM : Mc Bool := fun s => (decide (s.code = 0), s)
theorem goes_ap (s : MSt) : goesM s = (decide (s.code = 0), s) := rfl
def failM (e : Int) : Mc Unit := fun s => ((), s.fail e)
def stepM (c : Cfg) : Mc Bool := fun s =>
 if s.code = 0 then (if s.steps = c.fuel then (false, s.fail 21) else (true, { s with steps := s.steps + 1 })) else (false, s)
def mSize (rs : List Rec) (t : Typ) : Int :=
 if 0 < t.size then t.size else match rs.find? fun r => decide (t.kind = 4) && decide (r.name = t.name) with
  | some r => r.fields.length
  | none => 1
def layM (c : Cfg) (t : Typ) : Mc (Int × Int) := fun s =>
 if mSize c.recs t < 1 then ((0, 0), s.fail 22)
 else if 1048576 - (s.cells.length : Int) < mSize c.recs t then ((0, 0), s.fail 22)
 else (((s.cells.length : Int), mSize c.recs t), { s with cells := s.cells ++ List.replicate (mSize c.recs t).toNat 0 })
def there (s : MSt) (f n : Int) : Bool := decide (0 ≤ f) && decide (0 < n) && decide (f < s.cells.length) && decide (n ≤ s.cells.length - f)
def getM (r : Int × Int) : Mc Int := fun s => (if there s r.1 r.2 then s.cells.getD r.1.toNat 0 else 0, s)
def setM (r : Int × Int) (x : Int) : Mc Unit := fun s => ((), if there s r.1 r.2 then { s with cells := s.cells.set r.1.toNat x } else s)
def putM (r : Int × Int) (x : Int) : Mc Unit := fun s => if s.code = 0 then setM r x s else ((), s)
def cellM (r : Int × Int) (i : Int) : Mc (Int × Int) := fun s =>
 if there s r.1 r.2 then (if i < 0 ∨ r.2 ≤ i then ((0, 0), s.fail 19) else ((r.1 + i, 1), s)) else ((0, 0), s.fail 19)
def lenM : Mc Nat := fun s => (s.cells.length, s)
def leaveM (had : Nat) : Mc Unit := fun s => ((), { s with cells := s.cells.take had, deep := s.deep - 1 })
def deeperM : Mc Bool := fun s => if s.deep = 64 then (false, s.fail 22) else (true, { s with deep := s.deep + 1 })
def enterM (c : Cfg) : Mc Bool := do
 let ok ← stepM c
 if ok then deeperM else pure false
def callM (c : Cfg) (had : Nat) (m : Mc (Int × Bool)) : Mc Int := do
 let ok ← enterM c
 if ok then do
  let x ← m
  leaveM had
  pure x.1
 else pure 0
def nextM : Mc (Option Int) := fun s => if s.code = 0 then (match s.input with | [] => (none, s.fail 20) | v :: r => (some v, { s with input := r })) else (none, s)
def outM (v : Int) : Mc Unit := fun s => ((), { s with out := s.out ++ [v] })
theorem out_ap (v : Int) (s : MSt) : outM v s = ((), { s with out := s.out ++ [v] }) := rfl
def varOf (name : ByteArray) : List Frm → VarAt
 | [] => noVar
 | f :: r => (nget name f.names).getD (varOf name r)
abbrev zRout : Routine := ⟨[], [], noBytes, 0, [], [], [], [], []⟩
def routOf (name : ByteArray) : List Frm → Routine × List Frm
 | [] => (zRout, [])
 | f :: r => match f.routines.find? fun x => decide (x.name = name) with
  | some x => (x, f :: r)
  | none => routOf name r
def fieldOf (rs : List Rec) (t : Typ) (field : ByteArray) : Int × Typ :=
 match rs.find? fun r => decide (r.name = t.name) with
 | none => (0, t)
 | some r => match r.fields.findIdx? fun f => decide (f.name = field) with
  | none => (0, t)
  | some i => ((i : Int), ⟨(r.fields.getD i ⟨[], [], noBytes, 0⟩).kind, 0, noBytes⟩)
def truth (b : Bool) : Int := if b then 1 else 0
def mTwo (op a b : Int) : Int :=
 if op = 10 then wr (a * b) else if op = 11 then wr (a.tdiv b) else if op = 12 then a.tmod b else if op = 15 then wr (a + b) else if op = 16 then wr (a - b)
 else if op = 13 then wr (BitVec.ofInt 64 a &&& BitVec.ofInt 64 b).toNat else if op = 17 then wr (BitVec.ofInt 64 a ||| BitVec.ofInt 64 b).toNat
 else if op = 19 then truth (decide (a = b)) else if op = 20 then truth (!decide (a = b)) else if op = 21 then truth (decide (a < b)) else if op = 22 then truth (decide (a ≤ b))
 else if op = 23 then truth (decide (b < a)) else if op = 24 then truth (decide (b ≤ a)) else b
structure Ops where
 place : List Frm → Expr → Mc ((Int × Int) × Typ)
 eval : List Frm → Expr → Mc Int
 call : List Frm → Expr → Mc Int
 run : List Frm → List Stmt → Mc (Int × Bool)
 stmt : List Frm → Stmt → Mc (Int × Bool)
 whl : List Frm → Stmt → Mc (Int × Bool)
 rep : List Frm → Stmt → Mc (Int × Bool)
 cnt : List Frm → Stmt → Int → Int → (Int × Int) → Mc (Int × Bool)
abbrev Expr.at (e : Expr) (i : Nat) : Expr := e.l.getD i default
abbrev Stmt.at (x : Stmt) (i : Nat) : Expr := x.e.getD i default
def placeEnd (v : VarAt) (i : Int) (t : Typ) : Mc ((Int × Int) × Typ) := do
 let g ← goesM
 if g then do
  let r ← cellM (v.frm, v.len) i
  pure (r, t)
 else pure ((v.frm, v.len), t)
def placeF (c : Cfg) (o : Ops) (ch : List Frm) (e : Expr) : Mc ((Int × Int) × Typ) :=
 if e.op = 5 then do
  let n ← o.eval ch (e.at 0)
  placeEnd (varOf e.name ch) (max (-1) (min n 64)) ⟨(varOf e.name ch).t.kind, 0, noBytes⟩
 else if e.op = 6 then placeEnd (varOf e.name ch) (fieldOf c.recs (varOf e.name ch).t e.field).1 (fieldOf c.recs (varOf e.name ch).t e.field).2
 else pure (((varOf e.name ch).frm, (varOf e.name ch).len), (varOf e.name ch).t)
def twoF (o : Ops) (ch : List Frm) (e : Expr) : Mc Int := do
 let a ← o.eval ch (e.at 0)
 if (e.op = 14 ∧ a = 0) ∨ (e.op = 18 ∧ a = 1) then pure a
 else do
  let b ← o.eval ch (e.at 1)
  if (e.op = 11 ∨ e.op = 12) ∧ b = 0 then do
   failM 19
   pure 0
  else do
   let g ← goesM
   if g then pure (mTwo e.op a b) else pure 0
def evalF (o : Ops) (ch : List Frm) (e : Expr) : Mc Int := do
 let g ← goesM
 if g then
  if 1 ≤ e.op ∧ e.op ≤ 3 then pure e.n
  else if 4 ≤ e.op ∧ e.op ≤ 6 then do
   let p ← o.place ch e
   getM p.1
  else if e.op = 7 then o.call ch e
  else if e.op = 8 then do
   let a ← o.eval ch (e.at 0)
   pure (wr (0 - a))
  else if e.op = 9 then do
   let a ← o.eval ch (e.at 0)
   pure (wr (1 - a))
  else twoF o ch e
 else pure 0
def argsF (o : Ops) (ch : List Frm) : List Param → List Expr → Names → List Int → Mc (Names × List Int)
 | [], _, names, vs => pure (names, vs)
 | p :: ps, es, names, vs =>
  if p.mode = 1 then do
   let x ← o.place ch (es.headD default)
   argsF o ch ps es.tail (nset p.name ⟨x.1.1, x.1.2, x.2⟩ names) (vs ++ [0])
  else do
   let v ← o.eval ch (es.headD default)
   argsF o ch ps es.tail names (vs ++ [v])
def laysP (c : Cfg) : List Param → List Int → Names → Mc Names
 | [], _, names => pure names
 | p :: ps, vs, names =>
  if p.mode = 0 then do
   let r ← layM c p.t
   setM r (vs.headD 0)
   laysP c ps vs.tail (nset p.name ⟨r.1, r.2, p.t⟩ names)
  else laysP c ps vs.tail names
def laysV (c : Cfg) : List Var → Names → Mc Names
 | [], names => pure names
 | v :: vs, names => do
  let r ← layM c v.t
  laysV c vs (nset v.name ⟨r.1, r.2, v.t⟩ names)
def bodyF (c : Cfg) (o : Ops) (r : Routine) (around : List Frm) (names : Names) (vs : List Int) : Mc (Int × Bool) := do
 let n1 ← laysP c r.params vs names
 let n2 ← laysV c r.vars n1
 o.run (⟨n2, r.inner⟩ :: around) r.body
def callF (c : Cfg) (o : Ops) (ch : List Frm) (e : Expr) : Mc Int := do
 let had ← lenM
 let a ← argsF o ch (routOf e.name ch).1.params e.l [] []
 callM c had (bodyF c o (routOf e.name ch).1 (routOf e.name ch).2 a.1 a.2)
def runF (o : Ops) (ch : List Frm) : List Stmt → Mc (Int × Bool)
 | [] => pure (0, false)
 | x :: r => do
  let n ← o.stmt ch x
  let g ← goesM
  if n.2 = true ∨ g = false then pure n else o.run ch r
def setF (o : Ops) (ch : List Frm) (x : Stmt) : Mc (Int × Bool) := do
 let p ← o.place ch x.p
 let v ← o.eval ch (x.at 0)
 putM p.1 v
 pure (0, false)
def ifF (o : Ops) (ch : List Frm) (x : Stmt) : Mc (Int × Bool) := do
 let v ← o.eval ch (x.at 0)
 let g ← goesM
 if g then o.run ch (if v = 1 then x.body else x.els) else pure (0, false)
def forF (o : Ops) (ch : List Frm) (x : Stmt) : Mc (Int × Bool) := do
 let a ← o.eval ch (x.at 0)
 let b ← o.eval ch (x.at 1)
 if (x.down = true ∧ a < b) ∨ (x.down = false ∧ b < a) then pure (0, false) else o.cnt ch x a b ((varOf x.name ch).frm, (varOf x.name ch).len)
def readF (o : Ops) (ch : List Frm) (x : Stmt) : Mc (Int × Bool) := do
 let p ← o.place ch x.p
 let g ← goesM
 if g then do
  let v ← nextM
  match v with
  | none => pure (0, false)
  | some v => do
   putM p.1 (if p.2.kind = 3 then wr (BitVec.ofInt 64 v &&& BitVec.ofInt 64 255).toNat else v)
   pure (0, false)
 else pure (0, false)
def writeEnd (v : Int) : Mc (Int × Bool) := do
 let g ← goesM
 if g then do
  outM v
  pure (0, false)
 else pure (0, false)
def writeF (o : Ops) (ch : List Frm) (x : Stmt) : Mc (Int × Bool) := o.eval ch (x.at 0) >>= writeEnd
def retF (o : Ops) (ch : List Frm) (x : Stmt) : Mc (Int × Bool) :=
 if x.e.length = 0 then do
  let g ← goesM
  pure (0, g)
 else do
  let v ← o.eval ch (x.at 0)
  let g ← goesM
  pure (v, g)
def stmtB (o : Ops) (ch : List Frm) (x : Stmt) : Mc (Int × Bool) :=
 if x.op = 1 then setF o ch x
 else if x.op = 2 then do
  let _ ← o.eval ch (x.at 0)
  pure (0, false)
 else if x.op = 3 then ifF o ch x
 else if x.op = 4 then o.whl ch x
 else if x.op = 5 then o.rep ch x
 else if x.op = 6 then forF o ch x
 else if x.op = 7 then readF o ch x
 else if x.op = 8 then writeF o ch x
 else if x.op = 9 then retF o ch x
 else pure (0, false)
def stmtF (c : Cfg) (o : Ops) (ch : List Frm) (x : Stmt) : Mc (Int × Bool) := do
 let ok ← stepM c
 if ok then stmtB o ch x else pure (0, false)
def whlF (c : Cfg) (o : Ops) (ch : List Frm) (x : Stmt) : Mc (Int × Bool) := do
 let ok ← stepM c
 if ok then do
  let v ← o.eval ch (x.at 0)
  let g ← goesM
  if v = 1 ∧ g = true then do
   let n ← o.run ch x.body
   if n.2 then pure (n.1, true) else o.whl ch x
  else pure (0, false)
 else pure (0, false)
def repF (c : Cfg) (o : Ops) (ch : List Frm) (x : Stmt) : Mc (Int × Bool) := do
 let g ← goesM
 if g then do
  let n ← o.run ch x.body
  if n.2 then pure (n.1, true)
  else do
   let ok ← stepM c
   if ok then do
    let v ← o.eval ch (x.at 0)
    if v = 1 then pure (0, false) else o.rep ch x
   else pure (0, false)
 else pure (0, false)
def cntF (c : Cfg) (o : Ops) (ch : List Frm) (x : Stmt) (i b : Int) (r : Int × Int) : Mc (Int × Bool) := do
 let ok ← stepM c
 if ok then do
  putM r i
  let n ← o.run ch x.body
  if n.2 then pure (n.1, true)
  else if i = b then pure (0, false) else o.cnt ch x (wr (i + if x.down then -1 else 1)) b r
 else pure (0, false)
def Ops.zero : Ops := ⟨fun _ _ => pure ((0, 0), zTyp), fun _ _ => pure 0, fun _ _ => pure 0, fun _ _ => pure (0, false), fun _ _ => pure (0, false), fun _ _ => pure (0, false), fun _ _ => pure (0, false), fun _ _ _ _ _ => pure (0, false)⟩
def Ops.next (c : Cfg) (o : Ops) : Ops := ⟨placeF c o, evalF o, callF c o, runF o, stmtF c o, whlF c o, repF c o, cntF c o⟩
def ops (c : Cfg) : Nat → Ops
 | 0 => .zero
 | n + 1 => .next c (ops c n)
def mNew (input : List Int) : MSt := ⟨[], 0, [], 0, 0, input⟩
def cfgOf (p : Prg) (fuel : Int) : Cfg := ⟨p.recs, max 0 (min fuel 1048576)⟩
def prgM (c : Cfg) (N : Nat) (p : Prg) : Mc (Int × Bool) := do
 let names ← laysV c p.vars []
 (ops c N).run [⟨names, p.routines⟩] p.body
def runP (N : Nat) (p : Prg) (input : List Int) (fuel : Int) : MSt := (prgM (cfgOf p fuel) N p (mNew input)).2
end Pg

namespace Pg
open Go
set_option linter.all false
structure SimK (c1 c2 : Cfg) (Q : ∀ {α : Type}, Mc α → Mc α → Prop) : Prop where
 recs : c1.recs = c2.recs
 pure : ∀ {α : Type} (a : α), Q (pure a) (pure a)
 bind : ∀ {α β : Type} {m1 m2 : Mc α} {k1 k2 : α → Mc β}, Q m1 m2 → (∀ a, Q (k1 a) (k2 a)) → Q (m1 >>= k1) (m2 >>= k2)
 goes : Q goesM goesM
 fail : ∀ e, e ≠ 20 → e ≠ 21 → Q (failM e) (failM e)
 step : Q (stepM c1) (stepM c2)
 lay : ∀ t, Q (layM c1 t) (layM c2 t)
 get : ∀ r, Q (getM r) (getM r)
 set : ∀ r x, Q (setM r x) (setM r x)
 put : ∀ r x, Q (putM r x) (putM r x)
 cell : ∀ r i, Q (cellM r i) (cellM r i)
 len : Q lenM lenM
 call : ∀ n {m1 m2 : Mc (Int × Bool)}, Q m1 m2 → Q (callM c1 n m1) (callM c2 n m2)
 next : Q nextM nextM
 write : ∀ {m1 m2 : Mc Int}, Q m1 m2 → Q (stepM c1 >>= fun ok => if ok = true then m1 >>= writeEnd else Pure.pure (0, false)) (stepM c2 >>= fun ok => if ok = true then m2 >>= writeEnd else Pure.pure (0, false))
structure Ops.Rel (Q : ∀ {α : Type}, Mc α → Mc α → Prop) (o1 o2 : Ops) : Prop where
 place : ∀ ch e, Q (o1.place ch e) (o2.place ch e)
 eval : ∀ ch e, Q (o1.eval ch e) (o2.eval ch e)
 call : ∀ ch e, Q (o1.call ch e) (o2.call ch e)
 run : ∀ ch l, Q (o1.run ch l) (o2.run ch l)
 stmt : ∀ ch x, Q (o1.stmt ch x) (o2.stmt ch x)
 whl : ∀ ch x, Q (o1.whl ch x) (o2.whl ch x)
 rep : ∀ ch x, Q (o1.rep ch x) (o2.rep ch x)
 cnt : ∀ ch x i b r, Q (o1.cnt ch x i b r) (o2.cnt ch x i b r)
section
variable {c1 c2 : Cfg} {Q : ∀ {α : Type}, Mc α → Mc α → Prop}
theorem SimK.ite (p : SimK c1 c2 @Q) {α : Type} (b : Prop) [Decidable b] {m1 m2 n1 n2 : Mc α} (h : Q m1 m2) (g : Q n1 n2) : Q (if b then m1 else n1) (if b then m2 else n2) := by split <;> assumption
theorem SimK.placeEnd (p : SimK c1 c2 @Q) (v : VarAt) (i : Int) (t : Typ) : Q (Pg.placeEnd v i t) (Pg.placeEnd v i t) :=
 p.bind p.goes fun _ => p.ite _ (p.bind (p.cell _ _) fun _ => p.pure _) (p.pure _)
theorem SimK.placeF (p : SimK c1 c2 @Q) {o1 o2 : Ops} (h : o1.Rel @Q o2) (ch : List Frm) (e : Expr) : Q (Pg.placeF c1 o1 ch e) (Pg.placeF c2 o2 ch e) := by
 unfold Pg.placeF; rw [p.recs]
 exact p.ite _ (p.bind (h.eval _ _) fun _ => p.placeEnd _ _ _) (p.ite _ (p.placeEnd _ _ _) (p.pure _))
theorem SimK.twoF (p : SimK c1 c2 @Q) {o1 o2 : Ops} (h : o1.Rel @Q o2) (ch : List Frm) (e : Expr) : Q (Pg.twoF o1 ch e) (Pg.twoF o2 ch e) :=
 p.bind (h.eval _ _) fun _ => p.ite _ (p.pure _) (p.bind (h.eval _ _) fun _ => p.ite _ (p.bind (p.fail _ (by decide) (by decide)) fun _ => p.pure _) (p.bind p.goes fun _ => p.ite _ (p.pure _) (p.pure _)))
theorem SimK.evalF (p : SimK c1 c2 @Q) {o1 o2 : Ops} (h : o1.Rel @Q o2) (ch : List Frm) (e : Expr) : Q (Pg.evalF o1 ch e) (Pg.evalF o2 ch e) :=
 p.bind p.goes fun _ => p.ite _ (p.ite _ (p.pure _) (p.ite _ (p.bind (h.place _ _) fun _ => p.get _) (p.ite _ (h.call _ _) (p.ite _ (p.bind (h.eval _ _) fun _ => p.pure _) (p.ite _ (p.bind (h.eval _ _) fun _ => p.pure _) (p.twoF h _ _)))))) (p.pure _)
theorem SimK.argsF (p : SimK c1 c2 @Q) {o1 o2 : Ops} (h : o1.Rel @Q o2) (ch : List Frm) : ∀ (ps : List Param) (es : List Expr) (names : Names) (vs : List Int), Q (Pg.argsF o1 ch ps es names vs) (Pg.argsF o2 ch ps es names vs)
 | [], es, names, vs => p.pure _
 | q :: ps, es, names, vs => p.ite _ (p.bind (h.place _ _) fun _ => SimK.argsF p h ch ps _ _ _) (p.bind (h.eval _ _) fun _ => SimK.argsF p h ch ps _ _ _)
theorem SimK.laysP (p : SimK c1 c2 @Q) : ∀ (ps : List Param) (vs : List Int) (names : Names), Q (Pg.laysP c1 ps vs names) (Pg.laysP c2 ps vs names)
 | [], vs, names => p.pure _
 | q :: ps, vs, names => p.ite _ (p.bind (p.lay _) fun _ => p.bind (p.set _ _) fun _ => SimK.laysP p ps _ _) (SimK.laysP p ps _ _)
theorem SimK.laysV (p : SimK c1 c2 @Q) : ∀ (vs : List Var) (names : Names), Q (Pg.laysV c1 vs names) (Pg.laysV c2 vs names)
 | [], names => p.pure _
 | v :: vs, names => p.bind (p.lay _) fun _ => SimK.laysV p vs _
theorem SimK.callF (p : SimK c1 c2 @Q) {o1 o2 : Ops} (h : o1.Rel @Q o2) (ch : List Frm) (e : Expr) : Q (Pg.callF c1 o1 ch e) (Pg.callF c2 o2 ch e) :=
 p.bind p.len fun _ => p.bind (p.argsF h _ _ _ _ _) fun _ => p.call _ (p.bind (p.laysP _ _ _) fun _ => p.bind (p.laysV _ _) fun _ => h.run _ _)
theorem SimK.runF (p : SimK c1 c2 @Q) {o1 o2 : Ops} (h : o1.Rel @Q o2) (ch : List Frm) (l : List Stmt) : Q (Pg.runF o1 ch l) (Pg.runF o2 ch l) := by
 cases l with
 | nil => exact p.pure _
 | cons x r => exact p.bind (h.stmt _ _) fun _ => p.bind p.goes fun _ => p.ite _ (p.pure _) (h.run _ _)
theorem SimK.readF (p : SimK c1 c2 @Q) {o1 o2 : Ops} (h : o1.Rel @Q o2) (ch : List Frm) (x : Stmt) : Q (Pg.readF o1 ch x) (Pg.readF o2 ch x) := by
 refine p.bind (h.place _ _) fun _ => p.bind p.goes fun _ => p.ite _ (p.bind p.next fun v => ?_) (p.pure _)
 cases v with
 | none => exact p.pure _
 | some v => exact p.bind (p.put _ _) fun _ => p.pure _
theorem SimK.stmtF (p : SimK c1 c2 @Q) {o1 o2 : Ops} (h : o1.Rel @Q o2) (ch : List Frm) (x : Stmt) : Q (Pg.stmtF c1 o1 ch x) (Pg.stmtF c2 o2 ch x) := by
 by_cases h8 : x.op = 8
 ·have e : ∀ o, Pg.stmtB o ch x = o.eval ch (x.at 0) >>= writeEnd := fun o => by unfold stmtB; rw [h8]; rfl
  unfold Pg.stmtF
  rw [e, e]
  exact p.write (h.eval _ _)
 ·have e : ∀ o, Pg.stmtB o ch x = if x.op = 1 then setF o ch x else if x.op = 2 then (o.eval ch (x.at 0) >>= fun _ => Pure.pure (0, false)) else if x.op = 3 then ifF o ch x else if x.op = 4 then o.whl ch x else if x.op = 5 then o.rep ch x else if x.op = 6 then forF o ch x else if x.op = 7 then Pg.readF o ch x else if x.op = 9 then retF o ch x else Pure.pure (0, false) := fun o => by unfold stmtB; rw [if_neg h8]
  unfold Pg.stmtF
  rw [e, e]
  refine p.bind p.step fun _ => p.ite _ ?_ (p.pure _)
  refine p.ite _ ?_ (p.ite _ ?_ (p.ite _ ?_ (p.ite _ (h.whl _ _) (p.ite _ (h.rep _ _) (p.ite _ ?_ (p.ite _ (p.readF h _ _) (p.ite _ ?_ (p.pure _))))))))
  ·exact p.bind (h.place _ _) fun _ => p.bind (h.eval _ _) fun _ => p.bind (p.put _ _) fun _ => p.pure _
  ·exact p.bind (h.eval _ _) fun _ => p.pure _
  ·exact p.bind (h.eval _ _) fun _ => p.bind p.goes fun _ => p.ite _ (h.run _ _) (p.pure _)
  ·exact p.bind (h.eval _ _) fun _ => p.bind (h.eval _ _) fun _ => p.ite _ (p.pure _) (h.cnt _ _ _ _ _)
  ·exact p.ite _ (p.bind p.goes fun _ => p.pure _) (p.bind (h.eval _ _) fun _ => p.bind p.goes fun _ => p.pure _)
theorem SimK.whlF (p : SimK c1 c2 @Q) {o1 o2 : Ops} (h : o1.Rel @Q o2) (ch : List Frm) (x : Stmt) : Q (Pg.whlF c1 o1 ch x) (Pg.whlF c2 o2 ch x) :=
 p.bind p.step fun _ => p.ite _ (p.bind (h.eval _ _) fun _ => p.bind p.goes fun _ => p.ite _ (p.bind (h.run _ _) fun _ => p.ite _ (p.pure _) (h.whl _ _)) (p.pure _)) (p.pure _)
theorem SimK.repF (p : SimK c1 c2 @Q) {o1 o2 : Ops} (h : o1.Rel @Q o2) (ch : List Frm) (x : Stmt) : Q (Pg.repF c1 o1 ch x) (Pg.repF c2 o2 ch x) :=
 p.bind p.goes fun _ => p.ite _ (p.bind (h.run _ _) fun _ => p.ite _ (p.pure _) (p.bind p.step fun _ => p.ite _ (p.bind (h.eval _ _) fun _ => p.ite _ (p.pure _) (h.rep _ _)) (p.pure _))) (p.pure _)
theorem SimK.cntF (p : SimK c1 c2 @Q) {o1 o2 : Ops} (h : o1.Rel @Q o2) (ch : List Frm) (x : Stmt) (i b : Int) (r : Int × Int) : Q (Pg.cntF c1 o1 ch x i b r) (Pg.cntF c2 o2 ch x i b r) :=
 p.bind p.step fun _ => p.ite _ (p.bind (p.put _ _) fun _ => p.bind (h.run _ _) fun _ => p.ite _ (p.pure _) (p.ite _ (p.pure _) (h.cnt _ _ _ _ _))) (p.pure _)
theorem SimK.all (p : SimK c1 c2 @Q) : ∀ N, (ops c1 N).Rel @Q (ops c2 N)
 | 0 => ⟨fun _ _ => p.pure _, fun _ _ => p.pure _, fun _ _ => p.pure _, fun _ _ => p.pure _, fun _ _ => p.pure _, fun _ _ => p.pure _, fun _ _ => p.pure _, fun _ _ _ _ _ => p.pure _⟩
 | N + 1 => have h := SimK.all p N; ⟨p.placeF h, p.evalF h, p.callF h, p.runF h, p.stmtF h, p.whlF h, p.repF h, p.cntF h⟩
theorem SimK.prg (p : SimK c1 c2 @Q) (N : Nat) (x : Prg) : Q (prgM c1 N x) (prgM c2 N x) := p.bind (p.laysV _ _) fun _ => (p.all N).run _ _
end
end Pg

namespace Pg
open Go
set_option linter.all false
theorem fail_steps (s : MSt) (e : Int) : (s.fail e).steps = s.steps := by unfold MSt.fail; split <;> rfl
theorem fail_out (s : MSt) (e : Int) : (s.fail e).out = s.out := by unfold MSt.fail; split <;> rfl
theorem fail_code (s : MSt) (e : Int) : (s.fail e).code = if s.code = 0 then e else s.code := by unfold MSt.fail; split <;> simp_all
structure Going (c : Cfg) (s s' : MSt) : Prop where
 up : s.steps ≤ s'.steps
 out : (s'.out.length : Int) - s'.steps ≤ s.out.length - s.steps
 pre : s.out <+: s'.out
 fuel : s.steps ≤ c.fuel → s'.steps ≤ c.fuel
 all : s.steps ≤ c.fuel → (s.code = 21 → s.steps = c.fuel) → s'.code = 21 → s'.steps = c.fuel
 stays : s.code ≠ 0 → s'.code = s.code ∧ s'.out = s.out ∧ s'.steps = s.steps
theorem Going.same {c : Cfg} {s s' : MSt} (h1 : s'.steps = s.steps) (h2 : s'.out = s.out) (h3 : s'.code = s.code) : Going c s s' :=
 ⟨by omega, by rw [h2, h1]; omega, by rw [h2]; exact List.prefix_refl _, by omega, by rw [h1, h3]; exact fun _ h => h, fun _ => ⟨h3, h2, h1⟩⟩
theorem Going.fail {c : Cfg} (s : MSt) (e : Int) (h : s.code = 0 → e = 21 → s.steps = c.fuel) : Going c s (s.fail e) := by
 refine ⟨by rw [fail_steps]; exact Int.le_refl _, by rw [fail_steps, fail_out]; exact Int.le_refl _, by rw [fail_out]; exact List.prefix_refl _, by rw [fail_steps]; exact id, fun _ q k => ?_, fun hc => ⟨?_, fail_out _ _, fail_steps _ _⟩⟩
 ·rw [fail_steps]
  rw [fail_code] at k
  split at k
  ·rename_i h0; exact h h0 k
  ·exact q k
 ·rw [fail_code, if_neg hc]
theorem Going.trans {c : Cfg} {a b d : MSt} (h : Going c a b) (g : Going c b d) : Going c a d :=
 ⟨Int.le_trans h.up g.up, Int.le_trans g.out h.out, h.pre.trans g.pre, fun k => g.fuel (h.fuel k), fun k q => g.all (h.fuel k) (h.all k q), fun k => by
  have h1 := h.stays k
  have h2 := g.stays (by rw [h1.1]; exact k)
  exact ⟨h2.1.trans h1.1, h2.2.1.trans h1.2.1, h2.2.2.trans h1.2.2⟩⟩
theorem step_cases (c : Cfg) (s : MSt) : (s.code ≠ 0 ∧ stepM c s = (false, s)) ∨ (s.code = 0 ∧ s.steps = c.fuel ∧ stepM c s = (false, s.fail 21)) ∨ (s.code = 0 ∧ s.steps ≠ c.fuel ∧ stepM c s = (true, { s with steps := s.steps + 1 })) := by
 unfold stepM
 split
 ·split
  ·exact .inr (.inl ⟨by assumption, by assumption, rfl⟩)
  ·exact .inr (.inr ⟨by assumption, by assumption, rfl⟩)
 ·exact .inl ⟨by assumption, rfl⟩
theorem going_next (c : Cfg) (s : MSt) : Going c s (nextM s).2 := by
 unfold nextM
 split
 ·split
  ·exact .fail s 20 (fun _ h => absurd h (by decide))
  ·exact .same rfl rfl rfl
 ·exact .same rfl rfl rfl
theorem going_put (c : Cfg) (r : Int × Int) (x : Int) (s : MSt) : Going c s (setM r x s).2 := by
 unfold setM
 split <;> exact .same rfl rfl rfl
theorem going_write {c : Cfg} {m : Mc Int} (h : ∀ s, Going c s (m s).2) (s : MSt) : Going c s ((stepM c >>= fun ok => if ok = true then m >>= writeEnd else pure (0, false)) s).2 := by
 rw [bind_ap]
 rcases step_cases c s with ⟨h1, e⟩ | ⟨h1, h2, e⟩ | ⟨h1, h2, e⟩
 ·rw [e]; exact .same rfl rfl rfl
 ·rw [e]; exact .fail s 21 (fun _ _ => h2)
 ·rw [e]
  simp only [if_true]
  rw [bind_ap]
  have g := h { s with steps := s.steps + 1 }
  generalize m { s with steps := s.steps + 1 } = y at g
  obtain ⟨v, s1⟩ := y
  obtain ⟨g1, g2, g3, g4, g5, g6⟩ := g
  simp only at g1 g2 g3 g4 g5 g6
  show Going c s (writeEnd v s1).2
  unfold writeEnd
  rw [bind_ap, goes_ap]
  by_cases hc : s1.code = 0
  ·simp only [hc, decide_true, if_true, bind_ap, pure_ap, out_ap]
   refine ⟨?_, ?_, g3.trans (List.prefix_append _ _), ?_, ?_, fun k => absurd h1 k⟩ <;> simp only [List.length_append, List.length_singleton]
   ·omega
   ·omega
   ·omega
   ·omega
  ·simp only [hc, decide_false, Bool.false_eq_true, if_false, pure_ap]
   refine ⟨by omega, by omega, g3, by omega, ?_, fun k => absurd h1 k⟩
   intro k1 k2
   exact g5 (by omega) (by rw [h1]; exact fun k => absurd k (by decide))
theorem going_step (c : Cfg) (s : MSt) : Going c s (stepM c s).2 := by
 rcases step_cases c s with ⟨h1, e⟩ | ⟨h1, h2, e⟩ | ⟨h1, h2, e⟩ <;> rw [e]
 ·exact .same rfl rfl rfl
 ·exact .fail s 21 (fun _ _ => h2)
 ·exact ⟨by simp only; omega, by simp only; omega, List.prefix_refl _, by simp only; omega, by simp only; rw [h1]; omega, fun k => absurd h1 k⟩
theorem going_deeper (c : Cfg) (s : MSt) : Going c s (deeperM s).2 := by
 unfold deeperM; split
 ·exact .fail s 22 (fun _ h => absurd h (by decide))
 ·exact .same rfl rfl rfl
theorem going_leave (c : Cfg) (n : Nat) (s : MSt) : Going c s (leaveM n s).2 := .same rfl rfl rfl
theorem going_enter (c : Cfg) (s : MSt) : Going c s (enterM c s).2 := by
 unfold enterM; rw [bind_ap]
 refine (going_step c s).trans ?_
 split
 ·exact going_deeper c _
 ·exact .same rfl rfl rfl
theorem going_call {c : Cfg} (n : Nat) {m : Mc (Int × Bool)} (h : ∀ s, Going c s (m s).2) (s : MSt) : Going c s (callM c n m s).2 := by
 unfold callM; rw [bind_ap]
 refine (going_enter c s).trans ?_
 split
 ·rw [bind_ap, bind_ap]
  exact (h _).trans (going_leave c n _)
 ·exact .same rfl rfl rfl
theorem going_sim (c : Cfg) : SimK c c (fun {α} (m _ : Mc α) => ∀ s, Going c s (m s).2) where
 recs := rfl
 pure a s := .same rfl rfl rfl
 bind h k s := (h s).trans (k _ _)
 goes s := .same rfl rfl rfl
 fail e _ h s := .fail s e (fun _ k => absurd k h)
 step s := going_step c s
 lay t s := by
  unfold layM; split
  ·exact .fail s 22 (fun _ h => absurd h (by decide))
  ·split
   ·exact .fail s 22 (fun _ h => absurd h (by decide))
   ·exact .same rfl rfl rfl
 get r s := .same rfl rfl rfl
 set r x s := going_put c r x s
 put r x s := by
  unfold putM; split
  ·exact going_put c r x s
  ·exact .same rfl rfl rfl
 cell r i s := by
  unfold cellM; split
  ·split
   ·exact .fail s 19 (fun _ h => absurd h (by decide))
   ·exact .same rfl rfl rfl
  ·exact .fail s 19 (fun _ h => absurd h (by decide))
 len s := .same rfl rfl rfl
 call n _ _ h s := going_call n h s
 next s := going_next c s
 write h s := going_write h s
theorem run_steps (N : Nat) (p : Prg) (input : List Int) (fuel : Int) :
  0 ≤ (runP N p input fuel).steps ∧ (runP N p input fuel).steps ≤ max 0 (min fuel 1048576) ∧ ((runP N p input fuel).out.length : Int) ≤ (runP N p input fuel).steps ∧ ((runP N p input fuel).code = 21 → (runP N p input fuel).steps = max 0 (min fuel 1048576)) := by
 have h := (going_sim (cfgOf p fuel)).prg N p (mNew input)
 obtain ⟨h1, h2, _, h3, h4, _⟩ := h
 simp only [mNew, List.length_nil, cfgOf] at h1 h2 h3 h4
 refine ⟨h1, h3 (by omega), ?_, h4 (by omega) (fun k => absurd k (by decide))⟩
 show (((prgM (cfgOf p fuel) N p (mNew input)).2.out.length : Nat) : Int) ≤ (prgM (cfgOf p fuel) N p (mNew input)).2.steps
 simp only [mNew, cfgOf]
 omega
abbrev MSt.more (s : MSt) (l : List Int) : MSt := { s with input := s.input ++ l }
structure Div (c1 c2 : Cfg) (l : List Int) (s t : MSt) : Prop where
 code : (s.code = 21 ∧ c1.fuel ≠ c2.fuel) ∨ (s.code = 20 ∧ l ≠ [])
 out : s.out <+: t.out
 steps : s.steps ≤ t.steps
def Twin (c1 c2 : Cfg) (l : List Int) {α : Type} (m1 m2 : Mc α) : Prop :=
 (∀ s, Going c1 s (m1 s).2) ∧ (∀ s, Going c2 s (m2 s).2) ∧ ∀ s, s.steps ≤ c1.fuel → m2 (s.more l) = ((m1 s).1, (m1 s).2.more l) ∨ Div c1 c2 l (m1 s).2 (m2 (s.more l)).2
theorem Div.code_ne {c1 c2 : Cfg} {l : List Int} {s t : MSt} (d : Div c1 c2 l s t) : s.code ≠ 0 := by
 rcases d.code with ⟨h, _⟩ | ⟨h, _⟩ <;> rw [h] <;> decide
theorem Div.go {c1 c2 : Cfg} {l : List Int} {s t s' t' : MSt} (d : Div c1 c2 l s t) (g1 : Going c1 s s') (g2 : Going c2 t t') : Div c1 c2 l s' t' := by
 obtain ⟨e1, e2, e3⟩ := g1.stays d.code_ne
 refine ⟨by rw [e1]; exact d.code, by rw [e2]; exact d.out.trans g2.pre, by rw [e3]; exact Int.le_trans d.steps g2.up⟩
theorem fail_more (s : MSt) (e : Int) (l : List Int) : (s.more l).fail e = (s.fail e).more l := by unfold MSt.fail MSt.more; split <;> rfl
theorem both_bind {c1 c2 : Cfg} {l : List Int} {α β : Type} {m1 m2 : Mc α} {k1 k2 : α → Mc β} (h : Twin c1 c2 l m1 m2) (k : ∀ a, Twin c1 c2 l (k1 a) (k2 a)) : Twin c1 c2 l (m1 >>= k1) (m2 >>= k2) := by
 refine ⟨fun s => (h.1 s).trans ((k _).1 _), fun s => (h.2.1 s).trans ((k _).2.1 _), fun s hs => ?_⟩
 rw [bind_ap, bind_ap]
 rcases h.2.2 s hs with e | d
 ·rw [e]
  exact (k _).2.2 _ ((h.1 s).fuel hs)
 ·exact .inr (d.go ((k _).1 _) ((k _).2.1 _))
theorem both_of {c1 c2 : Cfg} {l : List Int} {α : Type} {m1 m2 : Mc α} (h1 : ∀ s, Going c1 s (m1 s).2) (h2 : ∀ s, Going c2 s (m2 s).2) (h : ∀ s, m2 (s.more l) = ((m1 s).1, (m1 s).2.more l)) : Twin c1 c2 l m1 m2 := ⟨h1, h2, fun s _ => .inl (h s)⟩
theorem both_step {c1 c2 : Cfg} (l : List Int) (hf : c1.fuel ≤ c2.fuel) : Twin c1 c2 l (stepM c1) (stepM c2) := by
 refine ⟨(going_sim c1).step, (going_sim c2).step, fun s hs => ?_⟩
 have e0 : (s.more l).code = s.code := rfl
 have e1 : (s.more l).steps = s.steps := rfl
 rcases step_cases c1 s with ⟨h1, e⟩ | ⟨h1, h2, e⟩ | ⟨h1, h2, e⟩
 ·refine .inl ?_
  rw [e]; unfold stepM; rw [if_neg (by exact h1)]
 ·by_cases h3 : c1.fuel = c2.fuel
  ·refine .inl ?_
   rw [e]; unfold stepM
   rw [if_pos (by exact h1), if_pos (by rw [e1, h2, h3]), fail_more]
  ·refine .inr ⟨.inl ⟨?_, h3⟩, ?_, ?_⟩
   ·rw [e]; simp only; rw [fail_code, if_pos h1]
   all_goals
    rw [e]; unfold stepM
    rw [if_pos (by exact h1), if_neg (by rw [e1, h2]; exact h3)]
    simp only [fail_out, fail_steps]
   ·exact List.prefix_refl _
   ·omega
 ·refine .inl ?_
  rw [e]; unfold stepM
  rw [if_pos (by exact h1), if_neg (by rw [e1]; omega)]
theorem both_writeEnd {c1 c2 : Cfg} {l : List Int} (v : Int) (s : MSt) : writeEnd v (s.more l) = ((writeEnd v s).1, (writeEnd v s).2.more l) := by
 unfold writeEnd
 rw [bind_ap, bind_ap, goes_ap, goes_ap]
 by_cases hc : s.code = 0
 ·have hm : (s.more l).code = 0 := hc
  simp only [hc, decide_true, if_true, bind_ap, pure_ap, out_ap]
 ·have hm : ¬ (s.more l).code = 0 := hc
  simp only [hc, decide_false, Bool.false_eq_true, if_false, pure_ap]
theorem writeEnd_stop {v : Int} {s : MSt} (h : s.code ≠ 0) : writeEnd v s = ((0, false), s) := by
 unfold writeEnd
 rw [bind_ap, goes_ap]
 simp only [h, decide_false, Bool.false_eq_true, if_false, pure_ap]
theorem writeEnd_up (v : Int) (s : MSt) : s.out <+: (writeEnd v s).2.out ∧ (writeEnd v s).2.steps = s.steps := by
 unfold writeEnd
 rw [bind_ap, goes_ap]
 by_cases hc : s.code = 0
 ·simp only [hc, decide_true, if_true, bind_ap, pure_ap, out_ap]
  exact ⟨List.prefix_append _ _, trivial⟩
 ·simp only [hc, decide_false, Bool.false_eq_true, if_false, pure_ap]
  exact ⟨List.prefix_refl _, trivial⟩
theorem deeper_more (l : List Int) (s : MSt) : deeperM (s.more l) = ((deeperM s).1, (deeperM s).2.more l) := by
 have e : (s.more l).deep = s.deep := rfl
 unfold deeperM; rw [e]; split
 ·rw [fail_more]
 ·rfl
theorem both_sim {c1 c2 : Cfg} (l : List Int) (hr : c1.recs = c2.recs) (hf : c1.fuel ≤ c2.fuel) : SimK c1 c2 (fun {α} (m1 m2 : Mc α) => Twin c1 c2 l m1 m2) where
 recs := hr
 pure a := both_of ((going_sim c1).pure a) ((going_sim c2).pure a) fun _ => rfl
 bind h k := both_bind h k
 goes := both_of (going_sim c1).goes (going_sim c2).goes fun _ => rfl
 fail e h h' := both_of ((going_sim c1).fail e h h') ((going_sim c2).fail e h h') fun s => by unfold failM; rw [fail_more]
 step := both_step l hf
 lay t := both_of ((going_sim c1).lay t) ((going_sim c2).lay t) fun s => by
  unfold layM; rw [← hr]; split
  ·rw [fail_more]
  ·split
   ·rw [fail_more]
   ·rfl
 get r := both_of ((going_sim c1).get r) ((going_sim c2).get r) fun _ => rfl
 set r x := both_of ((going_sim c1).set r x) ((going_sim c2).set r x) fun s => by
  have e : there (s.more l) r.1 r.2 = there s r.1 r.2 := rfl
  unfold setM; rw [e]; cases there s r.1 r.2 <;> rfl
 put r x := both_of ((going_sim c1).put r x) ((going_sim c2).put r x) fun s => by
  have e : there (s.more l) r.1 r.2 = there s r.1 r.2 := rfl
  unfold putM setM; rw [e]
  by_cases hc : s.code = 0 <;> cases there s r.1 r.2 <;> simp [hc]
 cell r i := both_of ((going_sim c1).cell r i) ((going_sim c2).cell r i) fun s => by
  have e : there (s.more l) r.1 r.2 = there s r.1 r.2 := rfl
  unfold cellM; rw [e]
  split
  ·split
   ·rw [fail_more]
   ·rfl
  ·rw [fail_more]
 len := both_of (going_sim c1).len (going_sim c2).len fun _ => rfl
 call n _ _ h := both_bind (both_bind (both_step l hf) fun ok => by
   cases ok
   ·exact both_of ((going_sim c1).pure _) ((going_sim c2).pure _) fun _ => rfl
   ·exact both_of (going_deeper c1) (going_deeper c2) (deeper_more l)) fun ok => by
   cases ok
   ·exact both_of ((going_sim c1).pure _) ((going_sim c2).pure _) fun _ => rfl
   ·exact both_bind h fun x => both_bind (both_of (going_leave c1 n) (going_leave c2 n) fun _ => rfl) fun _ => both_of ((going_sim c1).pure _) ((going_sim c2).pure _) fun _ => rfl
 next := by
  refine ⟨going_next c1, going_next c2, fun s _ => ?_⟩
  unfold nextM
  by_cases hc : s.code = 0
  ·have hm : (s.more l).code = 0 := hc
   rw [if_pos hc, if_pos hm]
   cases hi : s.input with
   | cons v r => exact .inl (by simp [MSt.more, hi])
   | nil =>
    cases hl : l with
    | nil => exact .inl (by simp [MSt.more, hi, MSt.fail, hc])
    | cons v r => exact .inr ⟨.inr ⟨by simp [MSt.fail, hc], by simp⟩, by simp [hi, fail_out], by simp [hi, fail_steps]⟩
  ·have hm : ¬ (s.more l).code = 0 := hc
   rw [if_neg hc, if_neg hm]
   exact .inl rfl
 write {m1 m2} h := by
  refine ⟨going_write h.1, going_write h.2.1, fun s hs => ?_⟩
  rw [bind_ap, bind_ap]
  have g1 := (going_sim c1).step s
  have g2 := (going_sim c2).step (s.more l)
  rcases (both_step l hf).2.2 s hs with e | d
  ·rw [e]
   cases hb : (stepM c1 s).1 with
   | false => exact .inl rfl
   | true =>
    simp only [if_true]
    rw [bind_ap, bind_ap]
    rcases h.2.2 _ (g1.fuel hs) with e2 | d2
    ·rw [e2, both_writeEnd (c1 := c1) (c2 := c2)]; exact .inl rfl
    ·refine .inr ?_
     rw [writeEnd_stop d2.code_ne]
     have up := writeEnd_up (m2 ((stepM c1 s).2.more l)).1 (m2 ((stepM c1 s).2.more l)).2
     exact ⟨d2.code, d2.out.trans up.1, by rw [up.2]; exact d2.steps⟩
  ·have hb : (stepM c1 s).1 = false := by
    have := d.code_ne
    rcases step_cases c1 s with ⟨h1, e⟩ | ⟨h1, h2, e⟩ | ⟨h1, h2, e⟩ <;> rw [e] at this ⊢
    exact absurd h1 this
   refine .inr ?_
   rw [hb]
   simp only [Bool.false_eq_true, if_false, pure_ap]
   cases (stepM c2 (s.more l)).1 with
   | false => exact d
   | true =>
    simp only [if_true]
    rw [bind_ap]
    have up := writeEnd_up (m2 (stepM c2 (s.more l)).2).1 (m2 (stepM c2 (s.more l)).2).2
    have g := h.2.1 (stepM c2 (s.more l)).2
    exact ⟨d.code, d.out.trans (g.pre.trans up.1), by rw [up.2]; exact Int.le_trans d.steps g.up⟩
theorem run_more (N : Nat) (p : Prg) (input l : List Int) (f1 f2 : Int) (hf : max 0 (min f1 1048576) ≤ max 0 (min f2 1048576)) :
  runP N p (input ++ l) f2 = (runP N p input f1).more l ∨ Div (cfgOf p f1) (cfgOf p f2) l (runP N p input f1) (runP N p (input ++ l) f2) := by
 have h := ((both_sim l (c1 := cfgOf p f1) (c2 := cfgOf p f2) rfl hf).prg N p).2.2 (mNew input) (by simp only [mNew, cfgOf]; omega)
 rcases h with e | d
 ·refine .inl ?_
  show (prgM (cfgOf p f2) N p ((mNew input).more l)).2 = _
  rw [e]; rfl
 ·exact .inr d
end Pg

namespace Pg
open Go
set_option linter.all false
structure MOk (c : Cfg) (s : MSt) : Prop where
 fuel : c.fuel ≤ 1048576
 cells : s.cells.length ≤ 1048576
 steps0 : 0 ≤ s.steps
 steps : s.steps ≤ c.fuel
 out : (s.out.length : Int) ≤ s.steps
 deep0 : 0 ≤ s.deep
 deep : s.deep ≤ 64
 input : few s.input
structure Kept (c : Cfg) (s s' : MSt) : Prop where
 go : Going c s s'
 ok : MOk c s → MOk c s'
 deep : s'.deep = s.deep
theorem Kept.trans {c : Cfg} {a b d : MSt} (h : Kept c a b) (g : Kept c b d) : Kept c a d := ⟨h.go.trans g.go, fun k => g.ok (h.ok k), by rw [g.deep, h.deep]⟩
theorem Kept.same {c : Cfg} {s s' : MSt} (h1 : s'.steps = s.steps) (h2 : s'.out = s.out) (h3 : s'.code = s.code) (h4 : s'.cells = s.cells) (h5 : s'.deep = s.deep) (h6 : s'.input = s.input) : Kept c s s' :=
 ⟨.same h1 h2 h3, fun k => ⟨k.fuel, by rw [h4]; exact k.cells, by rw [h1]; exact k.steps0, by rw [h1]; exact k.steps, by rw [h1, h2]; exact k.out, by rw [h5]; exact k.deep0, by rw [h5]; exact k.deep, by rw [h6]; exact k.input⟩, h5⟩
theorem Kept.refl (c : Cfg) (s : MSt) : Kept c s s := .same rfl rfl rfl rfl rfl rfl
theorem Kept.fail {c : Cfg} (s : MSt) (e : Int) (h : s.code = 0 → e = 21 → s.steps = c.fuel) : Kept c s (s.fail e) := by
 refine ⟨.fail s e h, ?_, ?_⟩ <;> unfold MSt.fail <;> split
 ·exact fun k => ⟨k.fuel, k.cells, k.steps0, k.steps, k.out, k.deep0, k.deep, k.input⟩
 ·exact id
 ·rfl
 ·rfl
theorem kept_set (c : Cfg) (r : Int × Int) (x : Int) (s : MSt) : Kept c s (setM r x s).2 := by
 unfold setM; simp only
 split
 ·exact ⟨.same rfl rfl rfl, fun k => ⟨k.fuel, by simpa using k.cells, k.steps0, k.steps, k.out, k.deep0, k.deep, k.input⟩, rfl⟩
 ·exact .refl _ _
theorem kept_step (c : Cfg) (s : MSt) : Kept c s (stepM c s).2 := by
 refine ⟨going_step c s, ?_, ?_⟩ <;> rcases step_cases c s with ⟨h1, e⟩ | ⟨h1, h2, e⟩ | ⟨h1, h2, e⟩ <;> rw [e]
 ·exact id
 ·exact (Kept.fail s 21 (fun _ _ => h2)).ok
 ·exact fun k => ⟨k.fuel, k.cells, by have := k.steps0; simp only; omega, by have := k.steps; simp only; omega, by have := k.out; simp only; omega, k.deep0, k.deep, k.input⟩
 ·exact (Kept.fail s 21 (fun _ _ => h2)).deep
theorem callM_eq (c : Cfg) (n : Nat) (m : Mc (Int × Bool)) (s : MSt) : callM c n m s =
  if (stepM c s).1 = true then (if (stepM c s).2.deep = 64 then (0, (stepM c s).2.fail 22) else
   ((m { (stepM c s).2 with deep := (stepM c s).2.deep + 1 }).1.1, { (m { (stepM c s).2 with deep := (stepM c s).2.deep + 1 }).2 with cells := (m { (stepM c s).2 with deep := (stepM c s).2.deep + 1 }).2.cells.take n, deep := (m { (stepM c s).2 with deep := (stepM c s).2.deep + 1 }).2.deep - 1 }))
  else (0, (stepM c s).2) := by
 unfold callM enterM
 rw [bind_ap, bind_ap]
 generalize stepM c s = q
 obtain ⟨b, s1⟩ := q
 cases b
 ·rfl
 ·simp only [if_true]
  unfold deeperM
  split
  ·rfl
  ·rfl
theorem kept_call {c : Cfg} (n : Nat) {m : Mc (Int × Bool)} (h : ∀ s, Kept c s (m s).2) (s : MSt) : Kept c s (callM c n m s).2 := by
 have k1 := kept_step c s
 refine ⟨going_call n (fun s => (h s).go) s, ?_, ?_⟩ <;> rw [callM_eq] <;> generalize stepM c s = q at k1 ⊢ <;> obtain ⟨b, s1⟩ := q <;> simp only at k1 ⊢ <;> split
 ·split
  ·exact fun k => (Kept.fail s1 22 (fun _ e => absurd e (by decide))).ok (k1.ok k)
  ·intro k
   rename_i hd
   have k2 := k1.ok k
   have h1 := k2.deep; have h0 := k2.deep0
   have k3 := (h { s1 with deep := s1.deep + 1 }).ok ⟨k2.fuel, k2.cells, k2.steps0, k2.steps, k2.out, by simp only; omega, by simp only; omega, k2.input⟩
   have d3 := (h { s1 with deep := s1.deep + 1 }).deep
   simp only at d3
   exact ⟨k3.fuel, by rw [List.length_take]; exact Nat.le_trans (Nat.min_le_right _ _) k3.cells, k3.steps0, k3.steps, k3.out, by simp only [d3]; omega, by simp only [d3]; omega, k3.input⟩
 ·exact k1.ok
 ·split
  ·rw [(Kept.fail (c := c) s1 22 (fun _ e => absurd e (by decide))).deep]; exact k1.deep
  ·have d3 := (h { s1 with deep := s1.deep + 1 }).deep
   have := k1.deep
   simp only at d3 ⊢
   rw [d3]; omega
 ·exact k1.deep
theorem kept_lay (c : Cfg) (t : Typ) (s : MSt) : Kept c s (layM c t s).2 := by
 unfold layM
 split
 ·exact .fail s 22 (fun _ h => absurd h (by decide))
 ·split
  ·exact .fail s 22 (fun _ h => absurd h (by decide))
  ·exact ⟨.same rfl rfl rfl, fun k => ⟨k.fuel, by rw [List.length_append, List.length_replicate]; omega, k.steps0, k.steps, k.out, k.deep0, k.deep, k.input⟩, rfl⟩
theorem kept_sim (c : Cfg) : SimK c c (fun {α} (m _ : Mc α) => ∀ s, Kept c s (m s).2) where
 recs := rfl
 pure a s := .refl _ _
 bind h k s := (h s).trans (k _ _)
 goes s := .refl _ _
 fail e _ h s := .fail s e (fun _ k => absurd k h)
 step s := kept_step c s
 lay t s := kept_lay c t s
 get r s := .refl _ _
 set r x s := kept_set c r x s
 put r x s := by
  unfold putM; split
  ·exact kept_set c r x s
  ·exact .refl _ _
 cell r i s := by
  unfold cellM; split
  ·split
   ·exact .fail s 19 (fun _ h => absurd h (by decide))
   ·exact .refl _ _
  ·exact .fail s 19 (fun _ h => absurd h (by decide))
 len s := .refl _ _
 call n _ _ h s := kept_call n h s
 next s := by
  unfold nextM; split
  ·split
   ·exact .fail s 20 (fun _ h => absurd h (by decide))
   ·rename_i v r hi
    exact ⟨.same rfl rfl rfl, fun k => ⟨k.fuel, k.cells, k.steps0, k.steps, k.out, k.deep0, k.deep, by have := k.input; rw [hi] at this; unfold few at this ⊢; simp at this; simp only; omega⟩, rfl⟩
  ·exact .refl _ _
 write {m1 m2} h s := by
  refine ⟨going_write (fun s => (h s).go) s, ?_, ?_⟩ <;> rw [bind_ap] <;> have k1 := kept_step c s <;> rcases step_cases c s with ⟨h1, e⟩ | ⟨h1, h2, e⟩ | ⟨h1, h2, e⟩ <;> rw [e] at k1 ⊢
  ·exact id
  ·exact k1.ok
  ·intro k
   have k2 := k1.ok k
   simp only [if_true]
   rw [bind_ap]
   have g := (h { s with steps := s.steps + 1 }).go.out
   have k3 := (h { s with steps := s.steps + 1 }).ok k2
   generalize m1 { s with steps := s.steps + 1 } = y at g k3
   obtain ⟨v, s1⟩ := y
   simp only at g k3
   show MOk c (writeEnd v s1).2
   unfold writeEnd
   rw [bind_ap, goes_ap]
   have := k.out
   by_cases hc : s1.code = 0
   ·simp only [hc, decide_true, if_true, bind_ap, pure_ap, out_ap]
    exact ⟨k3.fuel, k3.cells, k3.steps0, k3.steps, by simp only [List.length_append, List.length_singleton]; omega, k3.deep0, k3.deep, k3.input⟩
   ·simp only [hc, decide_false, Bool.false_eq_true, if_false, pure_ap]
    exact k3
  ·rfl
  ·exact k1.deep
  ·simp only [if_true]
   rw [bind_ap]
   have d := (h { s with steps := s.steps + 1 }).deep
   generalize m1 { s with steps := s.steps + 1 } = y at d
   obtain ⟨v, s1⟩ := y
   simp only at d
   show (writeEnd v s1).2.deep = _
   unfold writeEnd
   rw [bind_ap, goes_ap]
   by_cases hc : s1.code = 0
   ·simp only [hc, decide_true, if_true, bind_ap, pure_ap, out_ap]; exact d
   ·simp only [hc, decide_false, Bool.false_eq_true, if_false, pure_ap]; exact d
theorem kept_all (c : Cfg) (N : Nat) : (ops c N).Rel (fun {α} (m _ : Mc α) => ∀ s, Kept c s (m s).2) (ops c N) := (kept_sim c).all N
end Pg

namespace Pg
open Go
set_option linter.all false
theorem AVle.rows {es es' : List (List AV)} {f : Bool} (hl : es.length = es'.length) (h : ∀ (i : Nat) e e', es[i]? = some e → es'[i]? = some e' → e.length = e'.length ∧ AVles e e') : AVle (.sl es f) (.sl es' false) := by
 intro I v r
 obtain ⟨a, cap, rfl, h1, h2, h3, h4, h5⟩ := r.inv_sl
 rcases h5 with h5 | ⟨b, o, size, vss, rfl, R⟩
 ·subst h5
  have : es' = [] := by simpa using hl.symm
  subst this
  exact r.sl_open
 ·have get : ∀ (i : Nat) e', es'[i]? = some e' → ∃ e, es[i]? = some e := fun i e' e1 => ⟨_, List.getElem?_eq_getElem (by
   rw [hl]
   rcases Nat.lt_or_ge i es'.length with h | h
   ·exact h
   ·rw [List.getElem?_eq_none h] at e1; cases e1)⟩
  rw [hl] at h1 ⊢
  refine Rd.of_rows (es := es') (vss := vss) false h1 (fun h => by cases h) ⟨by rw [← R.len]; exact hl.symm, ?_, fun i vs j v e1 e2 => R.mem i vs j v e1 e2, R.one, ?_⟩
  ·intro i e' vs e1 e2
   obtain ⟨e, he⟩ := get i e' e1
   have := R.size_ i e vs he e2
   exact ⟨by rw [← (h i e e' he e1).1]; exact this.1, this.2⟩
  ·intro i e' vs j c v e1 e2 e3 e4
   obtain ⟨e, he⟩ := get i e' e1
   have hs := R.size_ i e vs he e2
   exact ((h i e e' he e1).2 I vs ⟨by rw [hs.1, hs.2], fun j c v e3 e4 => R.rd i e vs j c v he e2 e3 e4⟩).at_ j c v e3 e4
theorem AVle.row1 {x y : List AV} {f : Bool} (hl : x.length = y.length) (h : AVles x y) : AVle (.sl [x] f) (.sl [y] false) := by
 refine AVle.rows rfl fun i e e' h1 h2 => ?_
 cases i with
 | zero => simp at h1 h2; subst h1 h2; exact ⟨hl, h⟩
 | succ i => simp at h1
theorem AVle.row2 {x y x' y' : List AV} {f : Bool} (hl : x.length = y.length) (h : AVles x y) (hl' : x'.length = y'.length) (h' : AVles x' y') : AVle (.sl [x, x'] f) (.sl [y, y'] false) := by
 refine AVle.rows rfl fun i e e' h1 h2 => ?_
 match i with
 | 0 => simp at h1 h2; subst h1 h2; exact ⟨hl, h⟩
 | 1 => simp at h1 h2; subst h1 h2; exact ⟨hl', h'⟩
 | i + 2 => simp at h1
end Pg

namespace Pg
open Go Go.Proofs.Tryz
set_option linter.all false
set_option maxHeartbeats 4000000
set_option maxRecDepth 4000
abbrev eInt (n : Int) : List AV := [.int .i64 n]
abbrev mBlk (st : Nat) (recs : List Rec) (fuel : Int) (s : MSt) (ov : AV) (f : Bool) : AObj := .blk [.ptr (some ⟨st, 0, none⟩), .sl (recs.map eRec) false, .int .i64 s.code, ov, .int .i64 s.steps, .int .i64 s.deep, .int .i64 fuel, .sl (s.input.map eInt) f] 8 144
structure Mm (l : AHeap) (M st : Nat) (c : Cfg) (s : MSt) (cv ov : AV) (f : Bool) : Prop where
 hM : l M = some (mBlk st c.recs c.fuel s ov f)
 hS : l st = some (.blk [.int .i64 1048576, cv] 2 210)
 oc : OL l 2 1 cv (s.cells.map eInt)
 oo : OL l 2 1 ov (s.out.map eInt)
 nc1 : OLnot cv M
 nc2 : OLnot cv st
 no1 : OLnot ov M
 no2 : OLnot ov st
 nco : ∀ b n k, ov = .os b n k → OLnot cv b
 ne : M ≠ st
def Mem (l : AHeap) (M st : Nat) (c : Cfg) (s : MSt) : Prop := ∃ cv ov f, Mm l M st c s cv ov f
theorem Mm.hMj {s l : AHeap} (a : s.apart l) {M st : Nat} {c : Cfg} {x : MSt} {cv ov : AV} {f : Bool} (m : Mm l M st c x cv ov f) : (s.join l) M = some (mBlk st c.recs c.fuel x ov f) := AHeap.le_join_right a _ _ m.hM
theorem Mm.hSj {s l : AHeap} (a : s.apart l) {M st : Nat} {c : Cfg} {x : MSt} {cv ov : AV} {f : Bool} (m : Mm l M st c x cv ov f) : (s.join l) st = some (.blk [.int .i64 1048576, cv] 2 210) := AHeap.le_join_right a _ _ m.hS
theorem le_none_upd {h g : AHeap} {p : Nat} (hp : h p = none) (le : h.le g) (o : AObj) : h.le (g.upd p o) := by
 intro b x e
 by_cases hb : b = p
 ·subst hb; rw [hp] at e; cases e
 ·rw [upd_ne _ _ _ hb]; exact le b x e
theorem apart_sub {s n l : AHeap} (a : s.apart l) (le : n.le s) : n.apart l := fun b o e => a b o (le b o e)
theorem join_le_l {n s l : AHeap} (le : n.le s) (a : s.apart l) : (n.join l).le (s.join l) := by
 intro b o e
 rcases AHeap.join_cases e with h | ⟨h1, h2⟩
 ·exact join_left (le b o h)
 ·rw [join_right (apart_at a h2)]; exact h2
theorem tcM [GI] {P : Program} {fn : FuncId} {args : List AV} {s l : AHeap} {M st : Nat} {c : Cfg} {x : MSt} {V : AV} {K' : AV → AHeap → Tok → Prop} (h : ACalls P fn args (s.join l) (fun v g => v = V ∧ ∃ l', g = s.join l' ∧ s.apart l' ∧ Mem l' M st c x)) (k : ∀ l', s.apart l' → Mem l' M st c x → K' V (s.join l') .go) : callT .go P fn args (s.join l) K' :=
 callT_of h fun v g ⟨hv, l', hg, a, m⟩ => by subst hv hg; exact k l' a m
theorem there_spec [GI] {s l : AHeap} {M st : Nat} {c : Cfg} {x : MSt} (a : s.apart l) (m : Mem l M st c x) (hx : MOk c x) (F N : Int) : ACalls prog 187 [.ptr (some ⟨st, 0, none⟩), .agg [.int .i64 F, .int .i64 N]] (s.join l) (fun v g => v = .bool (Pg.there x F N) ∧ g = s.join l) := by
 obtain ⟨cv, ov, f, m⟩ := m
 have hst := m.hSj a
 have hlen := m.oc.len (s.join l)
 have hcl := hx.cells
 simp only [List.length_map] at hlen
 refine F187.calls (by simp) ?_
 delta F187.c0
 simp only [go_sem,seval]
 by_cases h1 : 0 ≤ F
 case neg =>
  simp only [go_sem,seval, h1, ge_iff_le]
  exact .same ⟨by simp [Pg.there, h1], rfl⟩
 by_cases h2 : 0 < N
 case neg =>
  simp only [go_sem,seval, h1, h2, ge_iff_le, gt_iff_lt]
  exact .same ⟨by simp [Pg.there, h2], rfl⟩
 by_cases h3 : F < x.cells.length
 case neg =>
  simp only [go_sem,seval, h1, h2, h3, ge_iff_le, gt_iff_lt, hst, hlen]
  exact .same ⟨by simp [Pg.there, h3], rfl⟩
 have hw : IntKind.i64.wrap ((x.cells.length : Int) - F) = x.cells.length - F := wrap64 (by omega) (by omega)
 simp only [go_sem,seval, h1, h2, h3, ge_iff_le, gt_iff_lt, hst, hlen, hw]
 exact .same ⟨by simp [Pg.there, h1, h2, h3], rfl⟩
theorem there_iff {x : MSt} {F N : Int} : Pg.there x F N = true ↔ 0 ≤ F ∧ 0 < N ∧ F < x.cells.length ∧ N ≤ x.cells.length - F := by
 simp [Pg.there, and_assoc]
theorem Len_spec [GI] {s l : AHeap} {M st : Nat} {c : Cfg} {x : MSt} (a : s.apart l) (m : Mem l M st c x) : ACalls prog 233 [.ptr (some ⟨st, 0, none⟩)] (s.join l) (fun v g => v = .int .i64 x.cells.length ∧ g = s.join l) := by
 obtain ⟨cv, ov, f, m⟩ := m
 have hst := m.hSj a
 have hlen := m.oc.len (s.join l)
 simp only [List.length_map] at hlen
 refine F233.calls (by simp) ?_
 delta F233.c0
 simp only [go_sem,seval, hst, hlen]
 exact .same ⟨rfl, rfl⟩
theorem Cell_spec [GI] {s l : AHeap} {M st : Nat} {c : Cfg} {x : MSt} (a : s.apart l) (m : Mem l M st c x) (hx : MOk c x) (F N i : Int) : ACalls prog 165 [.ptr (some ⟨st, 0, none⟩), .agg [.int .i64 F, .int .i64 N], .int .i64 i] (s.join l) (fun v g => v = (if Pg.there x F N = true then (if i < 0 ∨ N ≤ i then .tuple [.agg [.int .i64 0, .int .i64 0], .int .i64 19] else .tuple [.agg [.int .i64 (F + i), .int .i64 1], .int .i64 0]) else .tuple [.agg [.int .i64 0, .int .i64 0], .int .i64 13]) ∧ g = s.join l) := by
 have hcl := hx.cells
 refine F165.calls (by simp) ?_
 delta F165.c0
 simp only [go_sem,seval]
 refine afreshT_intro fun p hp => ?_
 rw [join_upd_left]
 simp only [go_sem,seval]
 refine tcE (there_spec (apart_upd_left a _ (join_none hp).2) m hx F N) ?_
 by_cases ht : Pg.there x F N = true
 case neg =>
  simp only [go_sem,seval, ht, ← join_upd_left]
  simp only [go_sem,seval, upd_same, upd_upd]
  exact .forget (AHeap.le_upd hp) ⟨by simp [ht], rfl⟩
 have hth := there_iff.1 ht
 simp only [go_sem,seval, ht, ← join_upd_left]
 by_cases h1 : i < 0
 ·simp only [go_sem,seval, h1, upd_same, upd_upd]
  exact .forget (AHeap.le_upd hp) ⟨by simp [ht, h1], rfl⟩
 by_cases h2 : N ≤ i
 ·simp only [go_sem,seval, h1, h2, ge_iff_le, upd_same, upd_upd]
  exact .forget (AHeap.le_upd hp) ⟨by simp [ht, h2], rfl⟩
 have hw : IntKind.i64.wrap (F + i) = F + i := wrap64 (by omega) (by omega)
 simp only [go_sem,seval, h1, h2, ge_iff_le, upd_same, upd_upd, hw]
 exact .forget (AHeap.le_upd hp) ⟨by simp [ht, h1, h2], rfl⟩
theorem Get_spec [GI] {s l : AHeap} {M st : Nat} {c : Cfg} {x : MSt} (a : s.apart l) (m : Mem l M st c x) (hx : MOk c x) (F N : Int) : ACalls prog 167 [.ptr (some ⟨st, 0, none⟩), .agg [.int .i64 F, .int .i64 N]] (s.join l) (fun v g => v = .tuple [.int .i64 (if Pg.there x F N = true then x.cells.getD F.toNat 0 else 0), .int .i64 (if Pg.there x F N = true then 0 else 13)] ∧ g = s.join l) := by
 have m0 := m
 obtain ⟨cv, ov, f, m⟩ := m
 have hst := m.hSj a
 refine F167.calls (by simp) ?_
 delta F167.c0
 simp only [go_sem,seval]
 refine tcE (there_spec a m0 hx F N) ?_
 by_cases ht : Pg.there x F N = true
 case neg =>
  simp only [go_sem,seval, ht]
  exact .same ⟨by simp [ht], rfl⟩
 have hth := there_iff.1 ht
 obtain ⟨i, rfl⟩ := Int.eq_ofNat_of_zero_le hth.1
 have hi : i < x.cells.length := by omega
 have hat : (x.cells.map eInt)[i]? = some [.int .i64 (x.cells.getD i 0)] := by simp [hi]
 obtain ⟨b, cs, tot, h1, h2, h3⟩ := (m.oc.of_le (AHeap.le_join_right a)).at1 (k := .i64) hat
 simp only [go_sem,seval, ht, hst, h1, h2, h3]
 exact .same ⟨by simp [ht], rfl⟩
theorem Mm.setCell {l : AHeap} {M st : Nat} {c : Cfg} {x : MSt} {cv ov : AV} {f : Bool} (m : Mm l M st c x cv ov f) {i : Nat} (hi : i < x.cells.length) (n : Int) :
  ∃ b cs tot, aia 1 cv (.int .i64 i) = some (.ptr (some ⟨b, i * 1, none⟩)) ∧ l b = some (.blk cs tot 2) ∧ i * 1 + 1 ≤ cs.length ∧ Mm (l.upd b (.blk (splice cs (i * 1) [.int .i64 n]) tot 2)) M st c { x with cells := x.cells.set i n } cv ov f := by
 obtain ⟨b, cs, tot, k, cap, hcv, h1, h2, h3, h4⟩ := m.oc.store (k := .i64) (i := i) (by simpa using hi) (e' := [.int .i64 n]) rfl
 have hbM : b ≠ M := m.nc1 _ _ _ hcv
 have hbS : b ≠ st := m.nc2 _ _ _ hcv
 refine ⟨b, cs, tot, h1, h2, h3, by rw [upd_ne _ _ _ hbM.symm]; exact m.hM, by rw [upd_ne _ _ _ hbS.symm]; exact m.hS, by simpa [List.map_set] using h4, m.oo.upd (fun b' n' c' e hh => ?_) _, m.nc1, m.nc2, m.no1, m.no2, m.nco, m.ne⟩
 subst hh
 exact m.nco _ _ _ e _ _ _ hcv rfl
theorem Set_spec [GI] {s l : AHeap} {M st : Nat} {c : Cfg} {x : MSt} (a : s.apart l) (m : Mem l M st c x) (hx : MOk c x) (r : Int × Int) (n : Int) : ACalls prog 166 [.ptr (some ⟨st, 0, none⟩), .agg [.int .i64 r.1, .int .i64 r.2], .int .i64 n] (s.join l) (fun v g => v = .int .i64 (if Pg.there x r.1 r.2 = true then 0 else 13) ∧ ∃ l', g = s.join l' ∧ s.apart l' ∧ Mem l' M st c (setM r n x).2) := by
 have m0 := m
 obtain ⟨F, N⟩ := r
 obtain ⟨cv, ov, f, m⟩ := m
 have hst := m.hSj a
 refine F166.calls (by simp) ?_
 delta F166.c0
 simp only [go_sem,seval]
 refine tcE (there_spec a m0 hx F N) ?_
 by_cases ht : Pg.there x F N = true
 case neg =>
  simp only [go_sem,seval, ht]
  exact .same ⟨by simp [ht], l, rfl, a, by simpa [setM, ht] using m0⟩
 have hth := there_iff.1 ht
 obtain ⟨i, rfl⟩ := Int.eq_ofNat_of_zero_le hth.1
 obtain ⟨b, cs, tot, h1, h2, h3, h4⟩ := m.setCell (i := i) (by omega) n
 have h2j := (AHeap.le_join_right a) _ _ h2
 have hsb := apart_at a h2
 have hb := h4.hSj (apart_upd_right a _ hsb)
 simp only [go_sem,seval, ht, hst, h1, h2j, h3, join_upd_right _ _ hsb, hb]
 exact .same ⟨by simp [ht], _, rfl, apart_upd_right a _ hsb, cv, ov, f, by simpa [setM, ht] using h4⟩
theorem Mm.setS {l : AHeap} {M st : Nat} {c : Cfg} {x : MSt} {cv ov : AV} {f : Bool} (m : Mm l M st c x cv ov f) {cv' : AV} {cs : List Int} (o : OL l 2 1 cv' (cs.map eInt)) (n1 : OLnot cv' M) (n2 : OLnot cv' st) (n3 : ∀ b n k, ov = .os b n k → OLnot cv' b) : Mm (l.upd st (.blk [.int .i64 1048576, cv'] 2 210)) M st c { x with cells := cs } cv' ov f :=
 ⟨by rw [upd_ne _ _ _ m.ne]; exact m.hM, upd_same _ _ _, o.upd n2 _, m.oo.upd m.no2 _, n1, n2, m.no1, m.no2, n3, m.ne⟩
theorem Cut_spec [GI] {s l : AHeap} {M st : Nat} {c : Cfg} {x : MSt} (a : s.apart l) (m : Mem l M st c x) (n : Nat) : ACalls prog 229 [.ptr (some ⟨st, 0, none⟩), .int .i64 n] (s.join l) (fun v g => v = .tuple [] ∧ ∃ l', g = s.join l' ∧ s.apart l' ∧ Mem l' M st c { x with cells := x.cells.take n }) := by
 have m0 := m
 obtain ⟨cv, ov, f, m⟩ := m
 have hst := m.hSj a
 have hlen := m.oc.len (s.join l)
 simp only [List.length_map] at hlen
 refine F229.calls (by simp) ?_
 delta F229.c0
 simp only [go_sem,seval, hst, hlen]
 by_cases hn : (n : Int) < x.cells.length
 case neg =>
  simp only [go_sem,seval, hn]
  exact .same ⟨rfl, l, rfl, a, by rw [List.take_of_length_le (by omega)]; exact m0⟩
 have hmx : ((0 : Int) > n) = False := by simp
 obtain ⟨v', h1, h2, h3⟩ := m.oc.cut (k := .i64) (n := n) (by omega) (by simp; omega)
 rw [Int.toNat_natCast, ← List.map_take] at h2
 have hss := apart_at a m.hS
 have hc := h2.cells
 simp only [go_sem,seval, hn, hst, hmx, h1, hc]
 rw [join_upd_right _ _ hss]
 exact .same ⟨rfl, _, rfl, apart_upd_right a _ hss, v', ov, f, m.setS h2 (h3 _ m.nc1) (h3 _ m.nc2) (fun b k z e => h3 _ (m.nco b k z e))⟩
theorem Mm.cells_app {s l : AHeap} (a : s.apart l) {M st : Nat} {c : Cfg} {x : MSt} {cv ov : AV} {f : Bool} (m : Mm l M st c x cv ov f) {n : Nat} (n0 : n ≠ 0) (room : roomFor (x.cells.length + n) 8) {K : AV → AHeap → Tok → Prop}
  (k : ∀ v' l', s.apart l' → Mm l' M st c x cv ov f ∨ True → (Mm (l'.upd st (.blk [.int .i64 1048576, v'] 2 210)) M st c { x with cells := x.cells ++ List.replicate n 0 } v' ov f) → l' st = some (.blk [.int .i64 1048576, cv] 2 210) → v'.cells? = some [v'] → K v' (s.join l') .go) : appendT .go (s.join l) 2 1 8 cv n (List.replicate n (.int .i64 0)) K := by
 refine OL.append_join a m.oc (new := List.replicate n [.int .i64 0]) (by simp) ?_ (by intro e he; rw [List.eq_of_mem_replicate he]; rfl) (by simpa using room) n0 (fun v' l' a' o' keep => ?_)
 ·clear room k n0
  induction n with
  | zero => rfl
  | succ n ih => simp [List.replicate_succ]
 have hk1 := keep M _ m.hM m.nc1
 have hk2 := keep st _ m.hS m.nc2
 have hoo : OL l' 2 1 ov (x.out.map eInt) := by
  rcases m.oo with h0 | ⟨b, cap, cs, h1, h2, h3⟩
  ·exact .inl h0
  ·exact .inr ⟨b, cap, cs, h1, (keep b _ h2 (m.nco _ _ _ h1)).1, h3⟩
 have hno : ∀ b n k, ov = .os b n k → OLnot v' b := by
  intro b n k e
  rcases m.oo with ⟨h0, _⟩ | ⟨b', cap, cs, h1, h2, h3⟩
  ·rw [h0] at e; cases e
  ·rw [h1] at e; cases e
   exact (keep b _ h2 (m.nco _ _ _ h1)).2
 have o2 : OL l' 2 1 v' ((x.cells ++ List.replicate n 0).map eInt) := by
  have : (x.cells ++ List.replicate n 0).map eInt = x.cells.map eInt ++ List.replicate n [AV.int .i64 0] := by simp [eInt]
  rw [this]; exact o'
 exact k v' l' a' (.inr trivial) ⟨by rw [upd_ne _ _ _ m.ne]; exact hk1.1, upd_same _ _ _, o2.upd hk2.2 _, hoo.upd m.no2 _, hk1.2, hk2.2, m.no1, m.no2, hno, m.ne⟩ hk2.1 o'.cells
def makeR (x : MSt) (n : Int) : (Int × Int) × Int × MSt :=
 if n < 1 then ((0, 0), 1, x) else if 1048576 - (x.cells.length : Int) < n then ((0, 0), 2, x) else (((x.cells.length : Int), n), 0, { x with cells := x.cells ++ List.replicate n.toNat 0 })
theorem Make_spec [GI] {s l : AHeap} {M st : Nat} {c : Cfg} {x : MSt} (a : s.apart l) (m : Mem l M st c x) (hx : MOk c x) (n : Int) : ACalls prog 123 [.ptr (some ⟨st, 0, none⟩), .int .i64 n] (s.join l) (fun v g =>
  v = .tuple [.agg [.int .i64 (makeR x n).1.1, .int .i64 (makeR x n).1.2], .int .i64 (makeR x n).2.1] ∧ ∃ l', g = s.join l' ∧ s.apart l' ∧ Mem l' M st c (makeR x n).2.2) := by
 have m0 := m
 obtain ⟨cv, ov, f, m⟩ := m
 have hcl := hx.cells
 have hst := m.hSj a
 have hlen := fun h => m.oc.len h
 simp only [List.length_map] at hlen
 refine F123.calls (by simp) ?_
 delta F123.c0
 simp only [go_sem,seval]
 refine afreshT_intro fun p hp => ?_
 obtain ⟨hp1, hp2⟩ := join_none hp
 have hpst : st ≠ p := by intro hh; subst hh; rw [hst] at hp; cases hp
 by_cases h1 : n < 1
 ·simp only [go_sem,seval, h1, upd_same, upd_upd]
  exact .forget (AHeap.le_upd hp) ⟨by simp [makeR, h1], l, rfl, a, by simpa [makeR, h1] using m0⟩
 have hw : IntKind.i64.wrap (1048576 - (x.cells.length : Int)) = 1048576 - x.cells.length := wrap64 (by omega) (by omega)
 by_cases h2 : 1048576 - (x.cells.length : Int) < n
 ·simp only [go_sem,seval, h1, h2, gt_iff_lt, upd_ne _ _ _ hpst, hst, hlen, hw, upd_same, upd_upd]
  exact .forget (AHeap.le_upd hp) ⟨by simp [makeR, h1, h2], l, rfl, a, by simpa [makeR, h1, h2] using m0⟩
 obtain ⟨k, rfl⟩ := Int.eq_ofNat_of_zero_le (show (0 : Int) ≤ n by omega)
 simp only [go_sem,seval, h1, h2, gt_iff_lt, upd_ne _ _ _ hpst, hst, hlen, hw, upd_same, upd_upd]
 refine ⟨by omega, by omega, by omega, ?_⟩
 rw [join_upd_left, Int.toNat_natCast]
 refine m.cells_app (apart_upd_left a _ hp2) (by omega) (by unfold roomFor; omega) (fun v' l' a' _ m' hs' hc' => ?_)
 have hsj : ((s.upd p (.blk [.int .i64 0, .int .i64 0] 2 146)).join l') st = _ := AHeap.le_join_right a' _ _ hs'
 have hs0 := apart_at a' hs'
 have hss : s st = none := by rw [← hs0, upd_ne _ _ _ hpst]
 have hpj : ∀ o, (((s.upd p o).join l').upd st (.blk [.int .i64 1048576, v'] 2 210)) p = some o := fun o => by rw [upd_ne _ _ _ hpst.symm]; exact join_left (upd_same _ _ _)
 simp only [go_sem,seval, hsj, hc', hpj, upd_same]
 refine .forget ?_ ⟨by simp [makeR, h1, h2], _, rfl, apart_upd_right ?_ _ hss, v', ov, f, by simpa [makeR, h1, h2] using m'⟩
 ·have hl' : l' p = none := a' p _ (upd_same _ _ _)
  refine le_none_upd ?_ ?_ _
  ·rw [join_right hp1, upd_ne _ _ _ hpst.symm]; exact hl'
  ·rw [join_upd_right _ _ hs0]
   exact join_le_l (AHeap.le_upd hp1) (apart_upd_right a' _ hs0)
 ·exact apart_sub a' (AHeap.le_upd hp1)
end Pg

namespace Pg
open Go Go.Proofs.Tryz
set_option linter.all false
set_option maxHeartbeats 4000000
set_option maxRecDepth 4000
theorem Mm.turn {l : AHeap} {M st : Nat} {c : Cfg} {x : MSt} {cv ov : AV} {f : Bool} (m : Mm l M st c x cv ov f) {y : MSt} {f' : Bool} (hc : y.cells = x.cells) (ho : y.out = x.out) : Mm (l.upd M (mBlk st c.recs c.fuel y ov f')) M st c y cv ov f' :=
 ⟨upd_same _ _ _, by rw [upd_ne _ _ _ m.ne.symm]; exact m.hS, by rw [hc]; exact m.oc.upd m.nc1 _, by rw [ho]; exact m.oo.upd m.no1 _, m.nc1, m.nc2, m.no1, m.no2, m.nco, m.ne⟩
theorem Goes_spec [GI] {s l : AHeap} {M st : Nat} {c : Cfg} {x : MSt} (a : s.apart l) (m : Mem l M st c x) : ACalls prog 75 [.ptr (some ⟨M, 0, none⟩)] (s.join l) (fun v g => v = .bool (decide (x.code = 0)) ∧ g = s.join l) := by
 obtain ⟨cv, ov, f, m⟩ := m
 have hM := m.hMj a
 refine F75.calls (by simp) ?_
 delta F75.c0
 simp only [go_sem,seval, hM]
 exact .same ⟨rfl, rfl⟩
theorem Fail_spec [GI] {s l : AHeap} {M st : Nat} {c : Cfg} {x : MSt} (a : s.apart l) (m : Mem l M st c x) (n : Int) : ACalls prog 125 [.ptr (some ⟨M, 0, none⟩), .int .i64 n] (s.join l) (fun v g => v = .tuple [] ∧ ∃ l', g = s.join l' ∧ s.apart l' ∧ Mem l' M st c (x.fail n)) := by
 have m0 := m
 obtain ⟨cv, ov, f, m⟩ := m
 have hM := m.hMj a
 have hs := apart_at a m.hM
 refine F125.calls (by simp) ?_
 delta F125.c0
 simp only [go_sem,seval, hM]
 by_cases hc : x.code = 0
 ·simp only [go_sem,seval, hc, hM]
  rw [join_upd_right _ _ hs]
  exact .same ⟨rfl, _, rfl, apart_upd_right a _ hs, cv, ov, f, by have := m.turn (y := x.fail n) (f' := f) (by simp [MSt.fail, hc]) (by simp [MSt.fail, hc]); simpa [MSt.fail, hc, mBlk] using this⟩
 ·simp only [go_sem,seval, hc]
  exact .same ⟨rfl, l, rfl, a, by simpa [MSt.fail, hc] using m0⟩
theorem Step_spec [GI] {s l : AHeap} {M st : Nat} {c : Cfg} {x : MSt} (a : s.apart l) (m : Mem l M st c x) (hx : MOk c x) : ACalls prog 126 [.ptr (some ⟨M, 0, none⟩)] (s.join l) (fun v g => v = .bool (stepM c x).1 ∧ ∃ l', g = s.join l' ∧ s.apart l' ∧ Mem l' M st c (stepM c x).2) := by
 have m0 := m
 refine F126.calls (by simp) ?_
 delta F126.c0
 simp only [go_sem,seval]
 refine tcE (Goes_spec a m) ?_
 rcases step_cases c x with ⟨h1, e⟩ | ⟨h1, h2, e⟩ | ⟨h1, h2, e⟩
 ·simp only [go_sem,seval, h1]
  exact .same ⟨by rw [e], l, rfl, a, by rw [e]; exact m0⟩
 ·obtain ⟨cv, ov, f, m⟩ := m
  have hM := m.hMj a
  simp only [go_sem,seval, h1, hM, h2]
  refine tcM (Fail_spec a m0 21) fun l' a' m' => ?_
  simp only [go_sem,seval]
  exact .same ⟨by rw [e], l', rfl, a', by rw [e]; exact m'⟩
 ·obtain ⟨cv, ov, f, m⟩ := m
  have hM := m.hMj a
  have hs := apart_at a m.hM
  have h3 := hx.steps; have h4 := hx.fuel; have h5 := hx.steps0
  have hw : IntKind.i64.wrap (x.steps + 1) = x.steps + 1 := wrap64 (by omega) (by omega)
  simp only [go_sem,seval, h1, hM, h2, hw]
  rw [join_upd_right _ _ hs]
  refine .same ⟨by rw [e], _, rfl, apart_upd_right a _ hs, cv, ov, f, ?_⟩
  rw [e]
  have := m.turn (y := { x with steps := x.steps + 1 }) (f' := f) rfl rfl
  simpa only [mBlk, h1] using this
def szNo (t : Typ) (l : List Rec) : Prop := ∀ r ∈ l, ¬ (t.kind = 4 ∧ r.name = t.name)
theorem size_spec [GI] {s l : AHeap} {M st : Nat} {c : Cfg} {x : MSt} (a : s.apart l) (m : Mem l M st c x) (hr : few c.recs) (t : Typ) : ACalls prog 124 [.ptr (some ⟨M, 0, none⟩), .agg (eTyp t)] (s.join l) (fun v g => v = .int .i64 (mSize c.recs t) ∧ g = s.join l) := by
 obtain ⟨cv, ov, f, m⟩ := m
 have hM := m.hMj a
 refine F124.calls (by simp) ?_
 delta F124.c0
 simp only [go_sem,seval]
 by_cases h1 : 0 < t.size
 ·simp only [go_sem,seval, h1, gt_iff_lt]
  exact .same ⟨by simp [mSize, h1], rfl⟩
 simp only [go_sem,seval, h1, gt_iff_lt, hM]
 refine lT_list c.recs (fun pre post e g => szNo t pre ∧ g = s.join l ∧ e = [(3, .ip (eTyp t) 0), (15, .sl (c.recs.map eRec) false), (16, .int .i64 c.recs.length), (17, .int .i64 pre.length)]) (WeakE.env ?_) ⟨by simp [szNo], rfl, rfl⟩ ?_ ?_
 ·simp only [go_sem,seval]
 ·rintro pre r post e g hp ⟨hn, rfl, rfl⟩
  simp only [go_sem,seval, lt_at hp, aia_sl (map_at hp) (eRec_len r)]
  have next : ¬ (t.kind = 4 ∧ r.name = t.name) → szNo t (pre ++ [r]) := fun hr z hz => by
   rcases List.mem_append.1 hz with hz | hz
   ·exact hn z hz
   ·simp at hz; subst hz; exact hr
  by_cases hk : t.kind = 4
  case neg =>
   simp only [go_sem,seval, hk]
   refine ⟨_, _, WeakE.env ?_, next (fun h => hk h.1), rfl, rfl⟩
   simp only [go_sem,seval, step_at hr hp]
  by_cases hy : r.name = t.name
  case neg =>
   simp only [go_sem,seval, hk, hy]
   refine ⟨_, _, WeakE.env ?_, next (fun h => hy h.2), rfl, rfl⟩
   simp only [go_sem,seval, step_at hr hp]
  simp only [go_sem,seval, hk, hy]
  refine lessQ.same ?_
  simp only [go_sem,seval]
  refine .same ⟨?_, rfl⟩
  have hf : c.recs.find? (fun r => decide (t.kind = 4) && decide (r.name = t.name)) = some r := by
   rw [hp, List.find?_append]
   have : pre.find? (fun r => decide (t.kind = 4) && decide (r.name = t.name)) = none := List.find?_eq_none.2 fun z hz => by simpa using hn z hz
   rw [this]; simp [hk, hy]
  simp only [mSize, h1, if_false, hf]
 ·rintro e g ⟨hn, rfl, rfl⟩
  simp only [go_sem,seval, lt_end]
  refine lessQ.same ?_
  simp only [go_sem,seval]
  refine .same ⟨?_, rfl⟩
  have hf : c.recs.find? (fun r => decide (t.kind = 4) && decide (r.name = t.name)) = none := List.find?_eq_none.2 fun z hz => by simpa using hn z hz
  simp only [mSize, h1, if_false, hf]
theorem lay_makeR (c : Cfg) (t : Typ) (x : MSt) : layM c t x = ((makeR x (mSize c.recs t)).1, if (makeR x (mSize c.recs t)).2.1 = 0 then (makeR x (mSize c.recs t)).2.2 else (makeR x (mSize c.recs t)).2.2.fail 22) := by
 unfold layM makeR
 split
 ·rfl
 ·split <;> rfl
theorem Lay_spec [GI] {s l : AHeap} {M st : Nat} {c : Cfg} {x : MSt} (a : s.apart l) (m : Mem l M st c x) (hx : MOk c x) (hr : few c.recs) (t : Typ) : ACalls prog 73 [.ptr (some ⟨M, 0, none⟩), .agg (eTyp t)] (s.join l) (fun v g => v = .agg [.int .i64 (layM c t x).1.1, .int .i64 (layM c t x).1.2] ∧ ∃ l', g = s.join l' ∧ s.apart l' ∧ Mem l' M st c (layM c t x).2) := by
 have m0 := m
 obtain ⟨cv, ov, f, m⟩ := m
 have hM := m.hMj a
 refine F73.calls (by simp) ?_
 delta F73.c0
 simp only [go_sem,seval]
 refine afreshT_intro fun p hp => ?_
 obtain ⟨hp1, hp2⟩ := join_none hp
 have hMp : M ≠ p := by intro hh; subst hh; rw [hM] at hp; cases hp
 have aq := fun o => apart_upd_left a o hp2
 have hMq := fun o => m.hMj (aq o)
 rw [join_upd_left]
 simp only [go_sem,seval, hMq]
 refine tcE (size_spec (aq _) m0 hr t) ?_
 simp only [go_sem,seval, hMq]
 refine tcM (Make_spec (aq _) m0 hx _) fun l' a' m' => ?_
 obtain ⟨cv', ov', f', m''⟩ := m'
 have hM' := m''.hMj a'
 simp only [go_sem,seval, hM']
 refine afreshT_intro fun q hq => ?_
 have hMqq : M ≠ q := by intro hh; subst hh; rw [hM'] at hq; cases hq
 have hdel := fun o => del_upd _ q o hq
 simp only [go_sem,seval, upd_ne _ _ _ hMqq, hM', upd_same, upd_upd, hdel]
 have hl' : l' p = none := a' p _ (upd_same _ _ _)
 have hfin : ∀ (L : AHeap) (o : AObj), (s.upd p (.blk [.int .i64 0, .int .i64 0] 2 146)).apart L → (s.join L).le (((s.upd p (.blk [.int .i64 0, .int .i64 0] 2 146)).join L).upd p o) := fun L o aL => le_none_upd (by rw [join_right hp1]; exact aL p _ (upd_same _ _ _)) (join_le_l (AHeap.le_upd hp1) aL) _
 have hpp : ∀ L, ((s.upd p (.blk [.int .i64 0, .int .i64 0] 2 146)).join L) p = some (.blk [.int .i64 0, .int .i64 0] 2 146) := fun L => join_left (upd_same _ _ _)
 by_cases hz : (makeR x (mSize c.recs t)).2.1 = 0
 ·simp only [go_sem,seval, hz, hpp, upd_same]
  refine .forget (hfin _ _ a') ⟨by rw [lay_makeR], l', rfl, apart_sub a' (AHeap.le_upd hp1), ?_⟩
  rw [lay_makeR]; simp only [hz, if_true]; exact ⟨cv', ov', f', m''⟩
 ·simp only [go_sem,seval, hz]
  refine tcM (Fail_spec a' ⟨cv', ov', f', m''⟩ 22) fun l2 a2 m2 => ?_
  simp only [go_sem,seval, hpp, upd_same]
  refine .forget (hfin _ _ a2) ⟨by rw [lay_makeR], l2, rfl, apart_sub a2 (AHeap.le_upd hp1), ?_⟩
  rw [lay_makeR]; simp only [hz, if_false]; exact m2
theorem truth_spec [GI] (h : AHeap) (b : Bool) : ACalls prog 188 [.bool b] h (fun v g => v = .int .i64 (truth b) ∧ g = h) := by
 refine F188.calls (by simp) ?_
 delta F188.c0
 cases b <;> simp only [go_sem,seval] <;> exact .same ⟨rfl, rfl⟩
theorem two_spec [GI] (h : AHeap) (op a b : Int) (hb : (op = 11 ∨ op = 12) → b ≠ 0) : ACalls prog 168 [.int .i64 op, .int .i64 a, .int .i64 b] h (fun v g => v = .int .i64 (mTwo op a b) ∧ g = h) := by
 refine F168.calls (by simp) ?_
 delta F168.c0
 by_cases h10 : op = 10
 ·simp only [go_sem,seval, h10]
  exact .same ⟨by simp [mTwo, h10], rfl⟩
 by_cases h11 : op = 11
 ·have hb0 := hb (by omega)
  simp only [go_sem,seval, h11, hb0]
  exact .same ⟨by simp [mTwo, h11], rfl⟩
 by_cases h12 : op = 12
 ·have hb0 := hb (by omega)
  simp only [go_sem,seval, h12, hb0]
  exact .same ⟨by simp [mTwo, h12], rfl⟩
 by_cases h15 : op = 15
 ·simp only [go_sem,seval, h15]
  exact .same ⟨by simp [mTwo, h15], rfl⟩
 by_cases h16 : op = 16
 ·simp only [go_sem,seval, h16]
  exact .same ⟨by simp [mTwo, h16], rfl⟩
 by_cases h13 : op = 13
 ·simp only [go_sem,seval, h13]
  exact .same ⟨by simp only [mTwo, h13]; rfl, rfl⟩
 by_cases h17 : op = 17
 ·simp only [go_sem,seval, h17]
  exact .same ⟨by simp only [mTwo, h17]; rfl, rfl⟩
 by_cases h19 : op = 19
 ·simp only [go_sem,seval, h19]
  refine tcE (truth_spec _ _) ?_
  simp only [go_sem,seval]
  exact .same ⟨by simp [mTwo, h19], rfl⟩
 by_cases h20 : op = 20
 ·simp only [go_sem,seval, h20]
  refine tcE (truth_spec _ _) ?_
  simp only [go_sem,seval]
  exact .same ⟨by simp [mTwo, h20], rfl⟩
 by_cases h21 : op = 21
 ·simp only [go_sem,seval, h21]
  refine tcE (truth_spec _ _) ?_
  simp only [go_sem,seval]
  exact .same ⟨by simp [mTwo, h21], rfl⟩
 by_cases h22 : op = 22
 ·simp only [go_sem,seval, h22]
  refine tcE (truth_spec _ _) ?_
  simp only [go_sem,seval]
  exact .same ⟨by simp [mTwo, h22], rfl⟩
 by_cases h23 : op = 23
 ·simp only [go_sem,seval, h23]
  refine tcE (truth_spec _ _) ?_
  simp only [go_sem,seval]
  exact .same ⟨by simp [mTwo, h23], rfl⟩
 by_cases h24 : op = 24
 ·simp only [go_sem,seval, h24]
  refine tcE (truth_spec _ _) ?_
  simp only [go_sem,seval]
  exact .same ⟨by simp [mTwo, h24], rfl⟩
 simp only [go_sem,seval, h10, h11, h12, h15, h16, h13, h17, h19, h20, h21, h22, h23, h24]
 exact .same ⟨by simp [mTwo, h10, h11, h12, h15, h16, h13, h17, h19, h20, h21, h22, h23, h24], rfl⟩
theorem Enter_spec [GI] {s l : AHeap} {M st : Nat} {c : Cfg} {x : MSt} (a : s.apart l) (m : Mem l M st c x) (hx : MOk c x) : ACalls prog 234 [.ptr (some ⟨M, 0, none⟩)] (s.join l) (fun v g => v = .bool (enterM c x).1 ∧ ∃ l', g = s.join l' ∧ s.apart l' ∧ Mem l' M st c (enterM c x).2) := by
 have he : enterM c x = (if (stepM c x).1 = true then deeperM (stepM c x).2 else (false, (stepM c x).2)) := by
  unfold enterM; rw [bind_ap]; cases (stepM c x).1 <;> rfl
 have hd : (stepM c x).2.deep = x.deep := by
  rcases step_cases c x with ⟨h1, e⟩ | ⟨h1, h2, e⟩ | ⟨h1, h2, e⟩ <;> rw [e]
  simp [MSt.fail, h1]
 refine F234.calls (by simp) ?_
 delta F234.c0
 simp only [go_sem,seval]
 refine tcM (Step_spec a m hx) fun l1 a1 m1 => ?_
 cases hs : (stepM c x).1
 ·simp only [go_sem,seval]
  exact .same ⟨by rw [he, hs]; rfl, l1, rfl, a1, by rw [he, hs]; exact m1⟩
 have m0 := m1
 obtain ⟨cv, ov, f, m1⟩ := m1
 have hM := m1.hMj a1
 have hss := apart_at a1 m1.hM
 by_cases h64 : x.deep = 64
 ·simp only [go_sem,seval, hM, hd, h64]
  refine tcM (Fail_spec a1 m0 22) fun l2 a2 m2 => ?_
  simp only [go_sem,seval]
  have e2 : enterM c x = (false, (stepM c x).2.fail 22) := by rw [he, hs]; simp [deeperM, hd, h64]
  exact .same ⟨by rw [e2], l2, rfl, a2, by rw [e2]; exact m2⟩
 ·have hd0 := hx.deep0; have hd1 := hx.deep
  have hw : IntKind.i64.wrap (x.deep + 1) = x.deep + 1 := wrap64 (by omega) (by omega)
  have e2 : enterM c x = (true, { (stepM c x).2 with deep := (stepM c x).2.deep + 1 }) := by rw [he, hs]; simp [deeperM, hd, h64]
  simp only [go_sem,seval, hM, hd, h64, hw]
  rw [join_upd_right _ _ hss]
  refine .same ⟨by rw [e2], _, rfl, apart_upd_right a1 _ hss, cv, ov, f, ?_⟩
  rw [e2]
  have := m1.turn (y := { (stepM c x).2 with deep := (stepM c x).2.deep + 1 }) (f' := f) rfl rfl
  simpa only [mBlk, hd] using this
theorem mlay_spec [GI] {s l : AHeap} {M st : Nat} {c : Cfg} {x : MSt} (a : s.apart l) (m : Mem l M st c x) (hx : MOk c x) (r : Int × Int) (n : Int) : ACalls prog 128 [.ptr (some ⟨M, 0, none⟩), .agg [.int .i64 r.1, .int .i64 r.2], .int .i64 n] (s.join l) (fun v g => v = .tuple [] ∧ ∃ l', g = s.join l' ∧ s.apart l' ∧ Mem l' M st c (putM r n x).2) := by
 refine F128.calls (by simp) ?_
 delta F128.c0
 simp only [go_sem,seval]
 refine tcE (Goes_spec a m) ?_
 have m0 := m
 obtain ⟨cv, ov, f, m⟩ := m
 have hM := m.hMj a
 by_cases hc : x.code = 0
 ·simp only [go_sem,seval, hc, hM]
  refine tcM (Set_spec a m0 hx r n) fun l' a' m' => ?_
  obtain ⟨cv2, ov2, f2, m2⟩ := m'
  have hM2 := m2.hMj a'
  have m' : Mem l' M st c (setM r n x).2 := ⟨cv2, ov2, f2, m2⟩
  simp only [go_sem,seval, hM2]
  have he : putM r n x = setM r n x := by simp [putM, hc]
  exact .same ⟨rfl, l', rfl, a', by rw [he]; exact m'⟩
 ·simp only [go_sem,seval, hc]
  exact .same ⟨rfl, l, rfl, a, by simpa [putM, hc] using m0⟩
theorem Outcome_spec [GI] {s l : AHeap} {M st : Nat} {c : Cfg} {x : MSt} (a : s.apart l) (m : Mem l M st c x) : ACalls prog 30 [.ptr (some ⟨M, 0, none⟩)] (s.join l) (fun v g => ∃ ov, v = .agg [.int .i64 x.code, ov, .int .i64 x.steps] ∧ OL l 2 1 ov (x.out.map eInt) ∧ g = s.join l) := by
 obtain ⟨cv, ov, f, m⟩ := m
 have hM := m.hMj a
 have hc := m.oo.cells
 refine F30.calls (by simp) ?_
 delta F30.c0
 simp only [go_sem,seval]
 refine afreshT_intro fun p hp => ?_
 have hMp : M ≠ p := by intro hh; subst hh; rw [hM] at hp; cases hp
 simp only [go_sem,seval, upd_ne _ _ _ hMp, hM, hc, upd_same, upd_upd]
 exact .forget (AHeap.le_upd hp) ⟨ov, rfl, m.oo, rfl⟩
end Pg

namespace Pg
open Go Go.Proofs.Tryz
set_option linter.all false
set_option maxHeartbeats 4000000
set_option maxRecDepth 4000
abbrev Chn := List (Nat × Frm)
def frmV (mm : AV) : Chn → AV
 | [] => .ptr none
 | q :: r => .ip [mm, .map (some q.1), .sl (q.2.routines.map eRoutine) false, frmV mm r] 0
abbrev eVA (v : VarAt) : List AV := [.int .i64 v.frm, .int .i64 v.len, .int .i64 v.t.kind, .int .i64 v.t.size, .str v.t.name]
abbrev eNm (p : ByteArray × VarAt) : AV × AV := (.str p.1, .agg (eVA p.2))
def Ch (s : AHeap) (ch : Chn) : Prop := ∀ q ∈ ch, s q.1 = some (.mp (q.2.names.map eNm))
theorem Ch.le {s n : AHeap} {ch : Chn} (h : Ch s ch) (le : s.le n) : Ch n ch := fun q hq => le _ _ (h q hq)
theorem Ch.sub {s : AHeap} {a b : Chn} (h : Ch s (a ++ b)) : Ch s b := fun q hq => h q (List.mem_append.2 (.inr hq))
abbrev frms (ch : Chn) : List Frm := ch.map (·.2)
theorem find_nm (name : ByteArray) : ∀ l : Names, afind [2] (.str name) (l.map eNm) = some ((nget name l).map fun v => .agg (eVA v))
 | [] => rfl
 | (k, v) :: r => by
  simp only [List.map_cons, afind, keyEq, cellEq, nget]
  by_cases h : name = k
  ·simp [h]
  ·simp [h, find_nm name r]
theorem set_nm (name : ByteArray) (x : VarAt) : ∀ l : Names, aset [2] (.str name) (.agg (eVA x)) (l.map eNm) = some ((nset name x l).map eNm)
 | [] => rfl
 | (k, v) :: r => by
  simp only [List.map_cons, aset, keyEq, cellEq, nset]
  by_cases h : name = k
  ·simp [h]
  ·simp [h, set_nm name x r]
theorem varOf_app (name : ByteArray) : ∀ (a b : List Frm), (∀ f ∈ a, nget name f.names = none) → varOf name (a ++ b) = varOf name b
 | [], b, _ => rfl
 | f :: a, b, h => by
  simp only [List.cons_append, varOf, h f (by simp), Option.getD_none]
  exact varOf_app name a b (fun g hg => h g (by simp [hg]))
def noName (name : ByteArray) (pre : Chn) : Prop := ∀ q ∈ pre, nget name q.2.names = none
theorem Variable_spec [GI] {H : AHeap} {ch : Chn} (hc : Ch H ch) (mm : AV) (name : ByteArray) : ACalls prog 231 [frmV mm ch, .str name] H (fun v g => v = .tuple [.agg [.int .i64 (varOf name (frms ch)).frm, .int .i64 (varOf name (frms ch)).len], .agg (eTyp (varOf name (frms ch)).t)] ∧ g = H) := by
 refine F231.calls (by simp) ?_
 delta F231.c0
 simp only [go_sem,seval]
 refine afreshT_intro fun p hp => ?_
 simp only [go_sem,seval]
 refine afreshT_intro fun q hq => ?_
 have hpq := fresh_ne hq
 have hqH := fresh_of hq
 simp only [go_sem,seval]
 refine lT_list ch (fun pre post e g => noName name pre ∧ g = (H.upd p (.blk [.int .i64 0, .int .i64 0] 2 146)).upd q (.blk [.int .i64 0, .int .i64 0, .str noBytes] 3 51) ∧ e = [(1, .str name), (4, .ptr (some ⟨p, 0, none⟩)), (5, .ptr (some ⟨q, 0, none⟩)), (6, frmV mm post)]) (WeakE.env ?_) ⟨by simp [noName], rfl, rfl⟩ ?_ ?_
 ·simp only [go_sem,seval]
 ·rintro pre x post e g hch ⟨hn, rfl, rfl⟩
  have hx := hc x (mem_at hch)
  have hxp : x.1 ≠ p := by intro hh; rw [hh, hp] at hx; cases hx
  have hxq : x.1 ≠ q := by intro hh; rw [hh, hqH] at hx; cases hx
  have hxH : ∀ o1 o2, ((H.upd p o1).upd q o2) x.1 = some (.mp (x.2.names.map eNm)) := fun o1 o2 => by rw [upd_ne _ _ _ hxq, upd_ne _ _ _ hxp]; exact hx
  have hup : ∀ o1 o2, ((H.upd p o1).upd q o2) p = some o1 := fun o1 o2 => by rw [upd_ne _ _ _ hpq, upd_same]
  have hcm : ∀ o1 o2 o3, ((H.upd p o1).upd q o2).upd p o3 = (H.upd p o3).upd q o2 := fun o1 o2 o3 => by rw [upd_comm _ _ _ hpq.symm, upd_upd]
  cases hg : nget name x.2.names with
  | none =>
   simp only [go_sem,seval, frmV, hxH, alookup, amapOf, keyFits, find_nm, hg]
   refine ⟨_, _, WeakE.env ?_, fun z hz => ?_, rfl, rfl⟩
   ·simp only [go_sem,seval]
   ·rcases List.mem_append.1 hz with hz | hz
    ·exact hn z hz
    ·simp at hz; subst hz; exact hg
  | some v =>
   simp only [go_sem,seval, frmV, hxH, alookup, amapOf, keyFits, find_nm, hg, hup, upd_same, hcm, upd_upd]
   refine lessQ.same ?_
   simp only [go_sem,seval, hup, upd_same]
   have hv : varOf name (frms ch) = v := by
    rw [hch]
    show varOf name ((pre ++ x :: post).map (·.2)) = v
    rw [List.map_append, varOf_app name _ _ (fun f hf => by obtain ⟨z, hz, rfl⟩ := List.mem_map.1 hf; exact hn z hz)]
    simp [varOf, hg]
   exact .forget (AHeap.le_trans (AHeap.le_upd hp) (le_none_upd (by rw [upd_ne _ _ _ hpq.symm]; exact hqH) (AHeap.le_refl _) _)) ⟨by rw [hv]; rfl, rfl⟩
 ·rintro e g ⟨hn, rfl, rfl⟩
  have hup : ∀ o1 o2, ((H.upd p o1).upd q o2) p = some o1 := fun o1 o2 => by rw [upd_ne _ _ _ hpq, upd_same]
  have hcm : ∀ o1 o2 o3, ((H.upd p o1).upd q o2).upd p o3 = (H.upd p o3).upd q o2 := fun o1 o2 o3 => by rw [upd_comm _ _ _ hpq.symm, upd_upd]
  simp only [go_sem,seval, frmV]
  refine lessQ.same ?_
  simp only [go_sem,seval, hup, upd_same, hcm, upd_upd]
  have hv : varOf name (frms ch) = noVar := by
   have := varOf_app name (frms ch) [] (fun f hf => by obtain ⟨z, hz, rfl⟩ := List.mem_map.1 hf; exact hn z hz)
   rw [List.append_nil] at this
   rw [this]; rfl
  exact .forget (AHeap.le_trans (AHeap.le_upd hp) (le_none_upd (by rw [upd_ne _ _ _ hpq.symm]; exact hqH) (AHeap.le_refl _) _)) ⟨by rw [hv]; rfl, rfl⟩
def routCh (name : ByteArray) : Chn → Option (Routine × Chn)
 | [] => none
 | q :: r => match q.2.routines.find? fun x => decide (x.name = name) with
  | some x => some (x, q :: r)
  | none => routCh name r
theorem routCh_of (name : ByteArray) : ∀ {ch : Chn} {x : Routine} {r : Chn}, routCh name ch = some (x, r) → routOf name (frms ch) = (x, frms r) ∧ ∃ a, ch = a ++ r
 | [], x, r, h => by simp [routCh] at h
 | q :: l, x, r, h => by
  simp only [routCh] at h
  split at h
  ·rename_i y hy
   simp only [Option.some.injEq, Prod.mk.injEq] at h
   obtain ⟨rfl, rfl⟩ := h
   exact ⟨by simp [frms, routOf, hy], [], rfl⟩
  ·rename_i hn
   obtain ⟨h1, a, h2⟩ := routCh_of name h
   refine ⟨?_, q :: a, by rw [h2]; rfl⟩
   simp only [frms, List.map_cons, routOf, hn]
   exact h1
theorem routCh_app (name : ByteArray) : ∀ (a b : Chn), (∀ q ∈ a, ∀ x ∈ q.2.routines, ¬ x.name = name) → routCh name (a ++ b) = routCh name b
 | [], b, _ => rfl
 | q :: a, b, h => by
  have : q.2.routines.find? (fun x => decide (x.name = name)) = none := List.find?_eq_none.2 fun x hx => by simpa using h q (by simp) x hx
  simp only [List.cons_append, routCh, this]
  exact routCh_app name a b (fun g hg => h g (by simp [hg]))
def noRout (name : ByteArray) (l : List Routine) : Prop := ∀ x ∈ l, ¬ x.name = name
def noRouts (name : ByteArray) (l : Chn) : Prop := ∀ q ∈ l, noRout name q.2.routines
theorem routine_spec [GI] {H : AHeap} {ch : Chn} (hc : Ch H ch) (hw : ∀ q ∈ ch, few q.2.routines) (mm : AV) (name : ByteArray) {x : Routine} {r : Chn} (hr : routCh name ch = some (x, r)) : ACalls prog 232 [frmV mm ch, .str name] H (fun v g => v = .tuple [.agg (eRoutine x), frmV mm r] ∧ g = H) := by
 refine F232.calls (by simp) ?_
 delta F232.c0
 simp only [go_sem,seval]
 refine afreshT_intro fun p hp => ?_
 simp only [go_sem,seval]
 refine lT_list ch (fun pre post e g => noRouts name pre ∧ g = H.upd p (.blk [.sl [] true, .sl [] true, .str noBytes, .int .i64 0, .sl [] true, .sl [] true, .sl [] true, .sl [] true, .sl [] true] 9 114) ∧ e = [(1, .str name), (4, .ptr (some ⟨p, 0, none⟩)), (6, frmV mm post)]) (WeakE.env ?_) ⟨by simp [noRouts], rfl, rfl⟩ ?_ ?_
 ·simp only [go_sem,seval]
 ·rintro pre q post e g hch ⟨hn, rfl, rfl⟩
  have hq := hw q (mem_at hch)
  simp only [go_sem,seval, frmV]
  refine lT_list q.2.routines (fun pre' post' e g => noRout name pre' ∧ g = H.upd p (.blk [.sl [] true, .sl [] true, .str noBytes, .int .i64 0, .sl [] true, .sl [] true, .sl [] true, .sl [] true, .sl [] true] 9 114) ∧ e = [(1, .str name), (4, .ptr (some ⟨p, 0, none⟩)), (6, frmV mm (q :: post)), (19, .sl (q.2.routines.map eRoutine) false), (20, .int .i64 q.2.routines.length), (21, .int .i64 pre'.length)]) (WeakE.env ?_) ⟨by simp [noRout], rfl, rfl⟩ ?_ ?_
  ·simp only [go_sem,seval, frmV]
  ·rintro pre' y post' e g hp' ⟨hn', rfl, rfl⟩
   simp only [go_sem,seval, lt_at hp', aia_sl (map_at hp') (eRoutine_len y), routine_2]
   by_cases hy : y.name = name
   ·have hsp : ∀ a b c d e' f g h i, splice [a, b, c, d, e', f, g, h, i] 0 (eRoutine y) = eRoutine y := fun _ _ _ _ _ _ _ _ _ => by simp [splice, eRoutine_len]
    simp only [go_sem,seval, hy, eRoutine_len, routine_take, upd_same, upd_upd, hsp]
    refine lessQ.same ?_
    simp only [go_sem,seval]
    refine lessQ.same ?_
    simp only [go_sem,seval, upd_same, eRoutine_len, routine_take]
    have hfy : q.2.routines.find? (fun x => decide (x.name = name)) = some y := by
     rw [hp', List.find?_append]
     have : pre'.find? (fun x => decide (x.name = name)) = none := List.find?_eq_none.2 fun z hz => by simpa using hn' z hz
     rw [this]; simp [hy]
    have he := routCh_app name pre (q :: post) hn
    rw [← hch, hr] at he
    simp only [routCh, hfy, Option.some.injEq, Prod.mk.injEq] at he
    obtain ⟨rfl, rfl⟩ := he
    exact .forget (AHeap.le_upd hp) ⟨by simp [frmV], rfl⟩
   ·simp only [go_sem,seval, hy]
    refine ⟨_, _, WeakE.env ?_, fun z hz => ?_, rfl, rfl⟩
    ·simp only [go_sem,seval, step_at hq hp']
    ·rcases List.mem_append.1 hz with hz | hz
     ·exact hn' z hz
     ·simp at hz; subst hz; exact hy
  ·rintro e g ⟨hn', rfl, rfl⟩
   simp only [go_sem,seval, lt_end]
   refine lessQ.same ?_
   simp only [go_sem,seval, frmV]
   refine ⟨_, _, WeakE.env ?_, fun z hz => ?_, rfl, rfl⟩
   ·simp only [go_sem,seval]
   ·rcases List.mem_append.1 hz with hz | hz
    ·exact hn z hz
    ·simp at hz; subst hz; exact hn'
 ·rintro e g ⟨hn, rfl, rfl⟩
  have := routCh_app name ch [] hn
  rw [List.append_nil, hr] at this
  cases this
theorem flay_spec [GI] {nm : Nat} {s : AHeap} {M st : Nat} {c : Cfg} (hr : few c.recs) (vars : List Var) (hv : few vars) (fl : Bool) (r : Chn) (F : Frm) (names0 : Names) : ∀ {l : AHeap} {x : MSt}, (s.upd nm (.mp (names0.map eNm))).apart l → Mem l M st c x → MOk c x →
  ACalls prog 28 [frmV (.ip [.ptr (some ⟨M, 0, none⟩)] 0) ((nm, F) :: r), .sl (vars.map eVar) fl] ((s.upd nm (.mp (names0.map eNm))).join l) (fun v g => v = .tuple [] ∧ ∃ l', g = (s.upd nm (.mp ((laysV c vars names0 x).1.map eNm))).join l' ∧ (s.upd nm (.mp ((laysV c vars names0 x).1.map eNm))).apart l' ∧ Mem l' M st c (laysV c vars names0 x).2) := by
 intro l x a m hx
 have hmpa : ∀ (n1 n2 : Names) (l : AHeap), (s.upd nm (.mp (n1.map eNm))).apart l → (s.upd nm (.mp (n2.map eNm))).apart l := fun n1 n2 l a b o e => by
  by_cases hb : b = nm
  ·subst hb; exact a b _ (upd_same _ _ _)
  ·rw [upd_ne _ _ _ hb] at e; exact a b o (by rw [upd_ne _ _ _ hb]; exact e)
 refine F28.calls (by simp) ?_
 delta F28.c0
 simp only [go_sem,seval]
 refine lT_list vars (fun pre post e g => ∃ names' x' l', laysV c vars names0 x = laysV c post names' x' ∧ g = (s.upd nm (.mp (names'.map eNm))).join l' ∧ (s.upd nm (.mp (names'.map eNm))).apart l' ∧ Mem l' M st c x' ∧ MOk c x' ∧ e = [(0, frmV (.ip [.ptr (some ⟨M, 0, none⟩)] 0) ((nm, F) :: r)), (6, .sl (vars.map eVar) fl), (7, .int .i64 vars.length), (8, .int .i64 pre.length)]) (WeakE.env ?_) ⟨names0, x, l, rfl, rfl, a, m, hx, rfl⟩ ?_ ?_
 ·simp only [go_sem,seval]
 ·rintro pre v post e g hp ⟨names', x', l', he, rfl, a', m', hx', rfl⟩
  simp only [go_sem,seval, lt_at hp, aia_sl (map_at hp) (eVar_len v), frmV, var_2, var_t, eVar_len]
  refine tcM (Lay_spec a' m' hx' hr v.t) fun l2 a2 m2 => ?_
  have hnm : ((s.upd nm (.mp (names'.map eNm))).join l2) nm = some (.mp (names'.map eNm)) := join_left (upd_same _ _ _)
  simp only [go_sem,seval]
  refine mapupT_of hnm (set_nm v.name ⟨(layM c v.t x').1.1, (layM c v.t x').1.2, v.t⟩ names') rfl ?_
  rw [join_upd_left, upd_upd]
  simp only [go_sem,seval]
  refine ⟨_, _, WeakE.env ?_, nset v.name ⟨(layM c v.t x').1.1, (layM c v.t x').1.2, v.t⟩ names', (layM c v.t x').2, l2, ?_, rfl, hmpa _ _ _ a2, m2, (kept_lay c v.t x').ok hx', rfl⟩
  ·simp only [go_sem,seval, step_at hv hp]
  ·rw [he]; rfl
 ·rintro e g ⟨names', x', l', he, rfl, a', m', hx', rfl⟩
  simp only [go_sem,seval, lt_end]
  refine lessQ.same ?_
  simp only [go_sem,seval]
  rw [he]
  exact .same ⟨rfl, l', rfl, a', m'⟩
end Pg

namespace Pg
open Go Go.Proofs.Tryz
set_option linter.all false
set_option maxHeartbeats 4000000
set_option maxRecDepth 4000
def routSc (name : ByteArray) : List (List Routine) → Option (Routine × List (List Routine))
 | [] => none
 | l :: r => match l.find? fun x => decide (x.name = name) with
  | some x => some (x, l :: r)
  | none => routSc name r
inductive EOk (sc : List (List Routine)) : Expr → Prop
 | mk (e : Expr) (hl : few e.l) (hop : 1 ≤ e.op ∧ e.op ≤ 24) (h1 : e.op = 5 ∨ e.op = 8 ∨ e.op = 9 → 1 ≤ e.l.length) (h2 : 10 ≤ e.op → 2 ≤ e.l.length)
   (hc : e.op = 7 → ∃ x r, routSc e.name sc = some (x, r) ∧ x.params.length = e.l.length) (sub : ∀ y ∈ e.l, EOk sc y) : EOk sc e
inductive StOk (sc : List (List Routine)) : Stmt → Prop
 | mk (x : Stmt) (he : few x.e) (hb : few x.body) (hels : few x.els) (h1 : x.op = 1 ∨ x.op = 2 ∨ x.op = 3 ∨ x.op = 4 ∨ x.op = 5 ∨ x.op = 8 → 1 ≤ x.e.length) (h2 : x.op = 6 → 2 ≤ x.e.length)
   (hp : x.op = 1 ∨ x.op = 7 → EOk sc x.p) (ee : ∀ y ∈ x.e, EOk sc y) (bb : ∀ y ∈ x.body, StOk sc y) (es : ∀ y ∈ x.els, StOk sc y) : StOk sc x
mutual
def Stmt.wt : Stmt → Nat
 | ⟨before, trail, op, name, p, e, down, more, body, els, end1, end2⟩ => 8 + 4 * Expr.sz p + 4 * Exprs.sz e + Stmts.wt body + Stmts.wt els
def Stmts.wt : List Stmt → Nat
 | [] => 1
 | x :: r => 2 + Stmt.wt x + Stmts.wt r
end
theorem Stmt.wt_eq (x : Stmt) : x.wt = 8 + 4 * Expr.sz x.p + 4 * Exprs.sz x.e + Stmts.wt x.body + Stmts.wt x.els := by obtain ⟨before, trail, op, name, p, e, down, more, body, els, end1, end2⟩ := x; rfl
inductive RtOk (C : Nat) : List (List Routine) → Routine → Prop
 | mk (sc : List (List Routine)) (x : Routine) (hb : ∀ y ∈ x.body, StOk (x.inner :: sc) y) (hC : Stmts.wt x.body ≤ C) (h1 : x.params.length ≤ 512) (h2 : few x.vars) (h3 : few x.inner) (h4 : few x.body) (hm : ∀ p ∈ x.params, p.mode = 0 ∨ p.mode = 1) (hi : ∀ y ∈ x.inner, RtOk C (x.inner :: sc) y) : RtOk C sc x
def ScOk (C : Nat) : List (List Routine) → Prop
 | [] => True
 | l :: r => few l ∧ (∀ x ∈ l, RtOk C (l :: r) x) ∧ ScOk C r
abbrev scs (ch : Chn) : List (List Routine) := ch.map (·.2.routines)
theorem ScOk.few {C : Nat} : ∀ {ch : Chn}, ScOk C (scs ch) → ∀ q ∈ ch, few q.2.routines
 | [], _, q, h => by simp at h
 | q' :: ch, h, q, hq => by
  rcases List.mem_cons.1 hq with rfl | hq
  ·exact h.1
  ·exact ScOk.few h.2.2 q hq
theorem ScOk.sub {C : Nat} : ∀ {a b : List (List Routine)}, ScOk C (a ++ b) → ScOk C b
 | [], _, h => h
 | _ :: a, _, h => ScOk.sub (a := a) h.2.2
theorem routCh_sc {name : ByteArray} : ∀ {ch : Chn} {x : Routine} {r : List (List Routine)}, routSc name (scs ch) = some (x, r) → ∃ q, routCh name ch = some (x, q) ∧ scs q = r ∧ ∃ f q', q = f :: q' ∧ x ∈ f.2.routines
 | [], x, r, h => by simp [routSc] at h
 | q :: ch, x, r, h => by
  simp only [scs, List.map_cons, routSc] at h
  split at h
  ·rename_i y hy
   simp only [Option.some.injEq, Prod.mk.injEq] at h
   obtain ⟨rfl, rfl⟩ := h
   exact ⟨q :: ch, by simp [routCh, hy], rfl, q, ch, rfl, List.mem_of_find?_eq_some hy⟩
  ·rename_i hn
   obtain ⟨q', h1, h2⟩ := routCh_sc h
   exact ⟨q', by simp only [routCh, hn]; exact h1, h2⟩
theorem EOk.at {sc : List (List Routine)} {e : Expr} (h : EOk sc e) {i : Nat} (hi : i < e.l.length) : ∃ y, e.l[i]? = some y ∧ e.at i = y ∧ EOk sc y ∧ y.sz + 2 ≤ e.sz := by
 refine ⟨e.l[i], List.getElem?_eq_getElem hi, by simp [Expr.at, hi], ?_, ?_⟩
 ·cases h with
  | mk _ _ _ _ _ _ sub => exact sub _ (List.getElem_mem hi)
 ·have := Exprs.sz_mem (List.getElem_mem hi)
  rw [e.sz_eq]; omega
theorem StOk.at {sc : List (List Routine)} {x : Stmt} (h : StOk sc x) {i : Nat} (hi : i < x.e.length) : ∃ y, x.e[i]? = some y ∧ x.at i = y ∧ EOk sc y ∧ 4 * y.sz + 8 ≤ x.wt := by
 refine ⟨x.e[i], List.getElem?_eq_getElem hi, by simp [Stmt.at, hi], ?_, ?_⟩
 ·cases h with
  | mk _ _ _ _ _ _ _ ee _ _ => exact ee _ (List.getElem_mem hi)
 ·have := Exprs.sz_mem (List.getElem_mem hi)
  rw [x.wt_eq]; omega
theorem aia_lit {es : List Expr} {i : Nat} {y : Expr} (h : es[i]? = some y) : aia 5 (.sl (es.map eExpr) false) (.int .i64 (i : Int)) = some (.ip (eExpr y) 0) :=
 aia_sl (by rw [List.getElem?_map, h]; rfl) (eExpr_len y)
theorem aia_zero {es : List Expr} {y : Expr} (h : es[0]? = some y) : aia 5 (.sl (es.map eExpr) false) (.int .i64 0) = some (.ip (eExpr y) 0) := aia_lit (i := 0) h
theorem aia_one {es : List Expr} {y : Expr} (h : es[1]? = some y) : aia 5 (.sl (es.map eExpr) false) (.int .i64 1) = some (.ip (eExpr y) 0) := aia_lit (i := 1) h
structure Here (c : Cfg) (C M st : Nat) (s l : AHeap) (ch : Chn) (x : MSt) : Prop where
 a : s.apart l
 m : Mem l M st c x
 ok : MOk c x
 names : Ch s ch
 sc : ScOk C (scs ch)
 recs : few c.recs
 flds : ∀ r ∈ c.recs, few r.fields
 C1 : 1 ≤ C
def left (c : Cfg) (x : MSt) : Nat := (c.fuel - x.steps).toNat
theorem Here.next {c : Cfg} {C M st : Nat} {s l l' : AHeap} {ch : Chn} {x y : MSt} (h : Here c C M st s l ch x) (a : s.apart l') (m : Mem l' M st c y) (k : Kept c x y) : Here c C M st s l' ch y := ⟨a, m, k.ok h.ok, h.names, h.sc, h.recs, h.flds, h.C1⟩
theorem Here.up {c : Cfg} {C M st : Nat} {s l : AHeap} {ch : Chn} {x : MSt} (h : Here c C M st s l ch x) {p : Nat} (o : AObj) (h1 : s p = none) (h2 : l p = none) : Here c C M st (s.upd p o) l ch x := ⟨apart_upd_left h.a o h2, h.m, h.ok, h.names.le (AHeap.le_upd h1), h.sc, h.recs, h.flds, h.C1⟩
theorem Kept.left {c : Cfg} {x y : MSt} (k : Kept c x y) : left c y ≤ left c x := by have := k.go.up; unfold Pg.left; omega
abbrev scV (M : Nat) (ch : Chn) : AV := .iface 80 (frmV (.ip [.ptr (some ⟨M, 0, none⟩)] 0) ch)
abbrev eRef (r : Int × Int) : AV := .agg [.int .i64 r.1, .int .i64 r.2]
abbrev To (c : Cfg) (M st : Nat) (s : AHeap) (V : AV) (y : MSt) : AV → AHeap → Prop := fun v g => v = V ∧ ∃ l', g = s.join l' ∧ s.apart l' ∧ Mem l' M st c y
structure Lv [GI] (c : Cfg) (C M st : Nat) (N : Nat) : Prop where
 place : ∀ {s l : AHeap} {ch : Chn} {x : MSt} {e : Expr}, Here c C M st s l ch x → EOk (scs ch) e → left c x * C + (4 * e.sz + 1) ≤ N →
  ACalls prog 127 [.ptr (some ⟨M, 0, none⟩), scV M ch, .agg (eExpr e)] (s.join l) (To c M st s (.tuple [eRef ((ops c N).place (frms ch) e x).1.1, .agg (eTyp ((ops c N).place (frms ch) e x).1.2)]) ((ops c N).place (frms ch) e x).2)
 eval : ∀ {s l : AHeap} {ch : Chn} {x : MSt} {e : Expr}, Here c C M st s l ch x → EOk (scs ch) e → left c x * C + (4 * e.sz + 2) ≤ N →
  ACalls prog 129 [.ptr (some ⟨M, 0, none⟩), scV M ch, .agg (eExpr e)] (s.join l) (To c M st s (.int .i64 ((ops c N).eval (frms ch) e x).1) ((ops c N).eval (frms ch) e x).2)
 call : ∀ {s l : AHeap} {ch : Chn} {x : MSt} {e : Expr}, Here c C M st s l ch x → EOk (scs ch) e → e.op = 7 → left c x * C + (4 * e.sz + 1) ≤ N →
  ACalls prog 230 [frmV (.ip [.ptr (some ⟨M, 0, none⟩)] 0) ch, .agg (eExpr e)] (s.join l) (To c M st s (.int .i64 ((ops c N).call (frms ch) e x).1) ((ops c N).call (frms ch) e x).2)
 run : ∀ {s l : AHeap} {ch : Chn} {x : MSt} {b : List Stmt} {fl : Bool}, Here c C M st s l ch x → few b → (∀ y ∈ b, StOk (scs ch) y) → left c x * C + Stmts.wt b ≤ N →
  ACalls prog 29 [.ptr (some ⟨M, 0, none⟩), scV M ch, .sl (b.map eStmt) fl] (s.join l) (To c M st s (.tuple [.int .i64 ((ops c N).run (frms ch) b x).1.1, .bool ((ops c N).run (frms ch) b x).1.2]) ((ops c N).run (frms ch) b x).2)
 stmt : ∀ {s l : AHeap} {ch : Chn} {x : MSt} {y : Stmt}, Here c C M st s l ch x → StOk (scs ch) y → left c x * C + Stmt.wt y ≤ N →
  ACalls prog 74 [.ptr (some ⟨M, 0, none⟩), scV M ch, .agg (eStmt y)] (s.join l) (To c M st s (.tuple [.int .i64 ((ops c N).stmt (frms ch) y x).1.1, .bool ((ops c N).stmt (frms ch) y x).1.2]) ((ops c N).stmt (frms ch) y x).2)
theorem ops_kept (c : Cfg) (N : Nat) : (∀ ch e x, Kept c x ((ops c N).place ch e x).2) ∧ (∀ ch e x, Kept c x ((ops c N).eval ch e x).2) ∧ (∀ ch e x, Kept c x ((ops c N).call ch e x).2) ∧ (∀ ch b x, Kept c x ((ops c N).run ch b x).2) ∧ (∀ ch y x, Kept c x ((ops c N).stmt ch y x).2) :=
 ⟨fun ch e => (kept_all c N).place ch e, fun ch e => (kept_all c N).eval ch e, fun ch e => (kept_all c N).call ch e, fun ch e => (kept_all c N).run ch e, fun ch e => (kept_all c N).stmt ch e⟩
theorem evalF_eq (o : Ops) (ch : List Frm) (e : Expr) (x : MSt) : evalF o ch e x = if x.code = 0 then (
  if 1 ≤ e.op ∧ e.op ≤ 3 then (e.n, x)
  else if 4 ≤ e.op ∧ e.op ≤ 6 then getM (o.place ch e x).1.1 (o.place ch e x).2
  else if e.op = 7 then o.call ch e x
  else if e.op = 8 then (wr (0 - (o.eval ch (e.at 0) x).1), (o.eval ch (e.at 0) x).2)
  else if e.op = 9 then (wr (1 - (o.eval ch (e.at 0) x).1), (o.eval ch (e.at 0) x).2)
  else twoF o ch e x) else (0, x) := by
 unfold evalF
 rw [bind_ap, goes_ap]
 by_cases hc : x.code = 0
 ·simp only [hc, decide_true, if_true]
  split
  ·rfl
  ·split
   ·rfl
   ·split
    ·rfl
    ·split
     ·rfl
     ·split <;> rfl
 ·simp only [hc, decide_false, Bool.false_eq_true, if_false]; rfl
theorem twoF_eq (o : Ops) (ch : List Frm) (e : Expr) (x : MSt) : twoF o ch e x =
    (let r := o.eval ch (e.at 0) x
     if (e.op = 14 ∧ r.1 = 0) ∨ (e.op = 18 ∧ r.1 = 1) then r else
     let q := o.eval ch (e.at 1) r.2
     if (e.op = 11 ∨ e.op = 12) ∧ q.1 = 0 then (0, q.2.fail 19) else if q.2.code = 0 then (mTwo e.op r.1 q.1, q.2) else (0, q.2)) := by
  unfold twoF
  rw [bind_ap]
  simp only
  split
  · rfl
  · rw [bind_ap]
    split
    · rfl
    · rw [bind_ap, goes_ap]
      by_cases hc : (o.eval ch (e.at 1) (o.eval ch (e.at 0) x).2).2.code = 0
      · simp only [hc, decide_true, if_true]; rfl
      · simp only [hc, decide_false, Bool.false_eq_true, if_false]; rfl
theorem Eval_step [GI] {c : Cfg} {C M st N : Nat} (L : Lv c C M st N) {s l : AHeap} {ch : Chn} {x : MSt} {e : Expr} (h : Here c C M st s l ch x) (he : EOk (scs ch) e) (hN : left c x * C + (4 * e.sz + 2) ≤ N + 1) :
  ACalls prog 129 [.ptr (some ⟨M, 0, none⟩), scV M ch, .agg (eExpr e)] (s.join l) (To c M st s (.int .i64 ((ops c (N + 1)).eval (frms ch) e x).1) ((ops c (N + 1)).eval (frms ch) e x).2) := by
 have hR : (ops c (N + 1)).eval (frms ch) e x = evalF (ops c N) (frms ch) e x := rfl
 rw [evalF_eq] at hR
 generalize (ops c (N + 1)).eval (frms ch) e x = R at hR ⊢
 obtain ⟨k1, k2, k3, k4, k5⟩ := ops_kept c N
 have he0 := he
 cases he with
 | mk _ hl hop h1 h2 hcl sub =>
 refine F129.calls (by simp) ?_
 delta F129.c0
 simp only [go_sem,seval]
 refine tcE (Goes_spec h.a h.m) ?_
 by_cases hc : x.code = 0
 case neg =>
  simp only [go_sem,seval, hc]
  rw [if_neg hc] at hR
  exact .same ⟨by rw [hR], l, rfl, h.a, by rw [hR]; exact h.m⟩
 rw [if_pos hc] at hR
 by_cases o1 : e.op = 1
 ·simp only [go_sem,seval, hc, o1, expr_0, expr_1]
  rw [if_pos (by omega)] at hR
  exact .same ⟨by rw [hR], l, rfl, h.a, by rw [hR]; exact h.m⟩
 by_cases o2 : e.op = 2
 ·simp only [go_sem,seval, hc, o1, o2, expr_0, expr_1]
  rw [if_pos (by omega)] at hR
  exact .same ⟨by rw [hR], l, rfl, h.a, by rw [hR]; exact h.m⟩
 by_cases o3 : e.op = 3
 ·simp only [go_sem,seval, hc, o1, o2, o3, expr_0, expr_1]
  rw [if_pos (by omega)] at hR
  exact .same ⟨by rw [hR], l, rfl, h.a, by rw [hR]; exact h.m⟩
 rw [if_neg (by omega)] at hR
 by_cases o46 : e.op = 4 ∨ e.op = 5 ∨ e.op = 6
 ·rw [if_pos (by omega)] at hR
  rcases o46 with o4 | o4 | o4 <;> simp only [go_sem,seval, hc, o1, o2, o3, o4, expr_0, eExpr_len, expr_take]
  all_goals
   refine tcM (L.place h he0 (by omega)) fun l1 a1 m1 => ?_
   have kp := k1 (frms ch) e x
   generalize (ops c N).place (frms ch) e x = P at hR m1 kp
   obtain ⟨⟨r, t⟩, y⟩ := P
   have h1 := h.next a1 m1 kp
   obtain ⟨cv, ov, f, m⟩ := m1
   have hM := m.hMj a1
   simp only [go_sem,seval]
   refine afreshT_intro fun p hp => ?_
   simp only [go_sem,seval]
   refine afreshT_intro fun q hq => ?_
   have hpq := fresh_ne hq
   have hqH := fresh_of hq
   have hMp : M ≠ p := by intro hh; subst hh; rw [hM] at hp; cases hp
   have hMq : M ≠ q := by intro hh; subst hh; rw [hM] at hqH; cases hqH
   have hup : ∀ (H : AHeap) o1 o2, ((H.upd p o1).upd q o2) p = some o1 := fun H o1 o2 => by rw [upd_ne _ _ _ hpq, upd_same]
   have hcm : ∀ (H : AHeap) o1 o2 o3, ((H.upd p o1).upd q o2).upd p o3 = (H.upd p o3).upd q o2 := fun H o1 o2 o3 => by rw [upd_comm _ _ _ hpq.symm, upd_upd]
   obtain ⟨hp1, hp2⟩ := join_none hp
   obtain ⟨hq1, hq2⟩ := join_none hqH
   have hu := (h1.up (.blk [.int .i64 r.1, .int .i64 r.2] 2 146) hp1 hp2).up (.blk (eTyp t) 3 51) (p := q) (by rw [upd_ne _ _ _ hpq.symm]; exact hq1) hq2
   have hgm := Get_spec hu.a hu.m hu.ok r.1 r.2
   rw [← join_upd_left, ← join_upd_left] at hgm
   simp only [go_sem,seval, upd_same, hup, hcm, upd_upd, upd_ne _ _ _ hMp, upd_ne _ _ _ hMq, hM]
   refine tcE (hgm) ?_
   simp only [go_sem,seval, upd_same, hup, hcm, upd_upd, upd_ne _ _ _ hMp, upd_ne _ _ _ hMq, hM]
   refine .forget ?_ ⟨by rw [hR]; rfl, l1, rfl, a1, by rw [hR]; exact h1.m⟩
   exact AHeap.le_trans (AHeap.le_upd hp) (AHeap.le_upd (by rw [upd_ne _ _ _ hpq.symm]; exact hqH))
 rw [if_neg (by omega)] at hR
 have o4 : ¬ e.op = 4 := fun h => o46 (.inl h)
 have o5 : ¬ e.op = 5 := fun h => o46 (.inr (.inl h))
 have o6 : ¬ e.op = 6 := fun h => o46 (.inr (.inr h))
 by_cases o7 : e.op = 7
 ·rw [if_pos o7] at hR
  simp only [go_sem,seval, hc, o1, o2, o3, o4, o5, o6, o7, expr_0, eExpr_len, expr_take]
  refine invT_of (f := 230) (by kernel_rfl) (by kernel_rfl) ?_
  refine tcM (L.call h he0 o7 (by omega)) fun l1 a1 m1 => ?_
  simp only [go_sem,seval]
  exact .same ⟨by rw [hR], l1, rfl, a1, by rw [hR]; exact m1⟩
 rw [if_neg o7] at hR
 by_cases o8 : e.op = 8
 ·rw [if_pos o8] at hR
  obtain ⟨y0, hy0, ha0, hk0, hz0⟩ := he0.at (i := 0) (by have := h1 (by omega); omega)
  rw [ha0] at hR
  simp only [go_sem,seval, hc, o1, o2, o3, o4, o5, o6, o7, o8, expr_0, expr_4, eExpr_len, expr_take, aia_zero hy0]
  refine tcM (L.eval h hk0 (by omega)) fun l1 a1 m1 => ?_
  simp only [go_sem,seval]
  exact .same ⟨by rw [hR], l1, rfl, a1, by rw [hR]; exact m1⟩
 rw [if_neg o8] at hR
 by_cases o9 : e.op = 9
 ·rw [if_pos o9] at hR
  obtain ⟨y0, hy0, ha0, hk0, hz0⟩ := he0.at (i := 0) (by have := h1 (by omega); omega)
  rw [ha0] at hR
  simp only [go_sem,seval, hc, o1, o2, o3, o4, o5, o6, o7, o8, o9, expr_0, expr_4, eExpr_len, expr_take, aia_zero hy0]
  refine tcM (L.eval h hk0 (by omega)) fun l1 a1 m1 => ?_
  simp only [go_sem,seval]
  exact .same ⟨by rw [hR], l1, rfl, a1, by rw [hR]; exact m1⟩
 rw [if_neg o9, twoF_eq] at hR
 obtain ⟨y0, hy0, ha0, hk0, hz0⟩ := he0.at (i := 0) (by have := h2 (by omega); omega)
 obtain ⟨y1, hy1, ha1, hk1, hz1⟩ := he0.at (i := 1) (by have := h2 (by omega); omega)
 rw [ha0, ha1] at hR
 simp only [go_sem,seval, hc, o1, o2, o3, o4, o5, o6, o7, o8, o9, expr_0, expr_4, eExpr_len, expr_take, aia_zero hy0]
 refine tcM (L.eval h hk0 (by omega)) fun l1 a1 m1 => ?_
 have kA := k2 (frms ch) y0 x
 generalize (ops c N).eval (frms ch) y0 x = A at hR m1 kA ⊢
 obtain ⟨a, xa⟩ := A
 have hA := h.next a1 m1 kA
 have lA := Nat.mul_le_mul_right C kA.left
 simp only at hR
 by_cases hs : (e.op = 14 ∧ a = 0) ∨ (e.op = 18 ∧ a = 1)
 ·rw [if_pos hs] at hR
  rcases hs with ⟨o14, ha⟩ | ⟨o18, ha⟩
  ·simp only [go_sem,seval, o14, ha, expr_0]
   exact .same ⟨by rw [hR, ha], l1, rfl, a1, by rw [hR]; exact m1⟩
  ·simp only [go_sem,seval, o18, ha, expr_0]
   exact .same ⟨by rw [hR, ha], l1, rfl, a1, by rw [hR]; exact m1⟩
 rw [if_neg hs] at hR
 have kB := k2 (frms ch) y1 xa
 have lB := L.eval hA hk1 (by omega)
 generalize (ops c N).eval (frms ch) y1 xa = B at hR kB lB
 obtain ⟨b, xb⟩ := B
 simp only at hR lB
 rcases (show (e.op = 14 ∧ ¬ a = 0) ∨ (¬ e.op = 14 ∧ e.op = 18 ∧ ¬ a = 1) ∨ (¬ e.op = 14 ∧ ¬ e.op = 18) by omega) with ⟨o14, ha⟩ | ⟨o14, o18, ha⟩ | ⟨o14, o18⟩
 ·rw [if_neg (by omega)] at hR
  simp only [go_sem,seval, o14, ha, expr_0, expr_4, eExpr_len, expr_take, aia_one hy1]
  refine tcM lB fun l2 a2 m2 => ?_
  simp only [go_sem,seval, o14, expr_0]
  refine tcE (Goes_spec a2 m2) ?_
  by_cases hcb : xb.code = 0
  ·rw [if_pos hcb] at hR
   simp only [go_sem,seval, hcb, o14, expr_0]
   refine tcE (two_spec _ 14 a b (by omega)) ?_
   simp only [go_sem,seval]
   exact .same ⟨by rw [hR, o14], l2, rfl, a2, by rw [hR]; exact m2⟩
  ·rw [if_neg hcb] at hR
   simp only [go_sem,seval, hcb]
   exact .same ⟨by rw [hR], l2, rfl, a2, by rw [hR]; exact m2⟩
 ·rw [if_neg (by omega)] at hR
  simp only [go_sem,seval, o18, ha, expr_0, expr_4, eExpr_len, expr_take, aia_one hy1]
  refine tcM lB fun l2 a2 m2 => ?_
  simp only [go_sem,seval, o18, expr_0]
  refine tcE (Goes_spec a2 m2) ?_
  by_cases hcb : xb.code = 0
  ·rw [if_pos hcb] at hR
   simp only [go_sem,seval, hcb, o18, expr_0]
   refine tcE (two_spec _ 18 a b (by omega)) ?_
   simp only [go_sem,seval]
   exact .same ⟨by rw [hR, o18], l2, rfl, a2, by rw [hR]; exact m2⟩
  ·rw [if_neg hcb] at hR
   simp only [go_sem,seval, hcb]
   exact .same ⟨by rw [hR], l2, rfl, a2, by rw [hR]; exact m2⟩
 ·simp only [go_sem,seval, o14, o18, expr_0, expr_4, eExpr_len, expr_take, aia_one hy1]
  refine tcM lB fun l2 a2 m2 => ?_
  by_cases hz : (e.op = 11 ∨ e.op = 12) ∧ b = 0
  ·rw [if_pos hz] at hR
   obtain ⟨ho, hb⟩ := hz
   have fin : ∀ l3 : AHeap, s.apart l3 → Mem l3 M st c (xb.fail 19) → ∀ n : Int, n = 0 → EndW (To c M st s (.int .i64 R.1) R.2) (.int .i64 n) (s.join l3) := fun l3 a3 m3 n hn => .same ⟨by rw [hR, hn], l3, rfl, a3, by rw [hR]; exact m3⟩
   rcases ho with o | o <;> simp only [go_sem,seval, o, hb, expr_0]
   all_goals
    refine tcM (Fail_spec a2 m2 19) fun l3 a3 m3 => ?_
    simp only [go_sem,seval]
    have hcf : ¬ (xb.fail 19).code = 0 := by rw [fail_code]; split <;> first | decide | assumption
    refine tcE (Goes_spec a3 m3) ?_
    simp only [go_sem,seval, hcf]
    exact fin l3 a3 m3 0 rfl
  ·rw [if_neg hz] at hR
   rcases (show (e.op = 11 ∧ ¬ b = 0) ∨ (e.op = 12 ∧ ¬ b = 0) ∨ (¬ e.op = 11 ∧ ¬ e.op = 12) by omega) with ⟨o, hb⟩ | ⟨o, hb⟩ | ⟨o11, o12⟩
   ·simp only [go_sem,seval, o, hb, expr_0]
    refine tcE (Goes_spec a2 m2) ?_
    by_cases hcb : xb.code = 0
    ·rw [if_pos hcb] at hR
     simp only [go_sem,seval, hcb, o, expr_0]
     refine tcE (two_spec _ 11 a b (fun _ => hb)) ?_
     simp only [go_sem,seval]
     exact .same ⟨by rw [hR, o], l2, rfl, a2, by rw [hR]; exact m2⟩
    ·rw [if_neg hcb] at hR
     simp only [go_sem,seval, hcb]
     exact .same ⟨by rw [hR], l2, rfl, a2, by rw [hR]; exact m2⟩
   ·simp only [go_sem,seval, o, hb, expr_0]
    refine tcE (Goes_spec a2 m2) ?_
    by_cases hcb : xb.code = 0
    ·rw [if_pos hcb] at hR
     simp only [go_sem,seval, hcb, o, expr_0]
     refine tcE (two_spec _ 12 a b (fun _ => hb)) ?_
     simp only [go_sem,seval]
     exact .same ⟨by rw [hR, o], l2, rfl, a2, by rw [hR]; exact m2⟩
    ·rw [if_neg hcb] at hR
     simp only [go_sem,seval, hcb]
     exact .same ⟨by rw [hR], l2, rfl, a2, by rw [hR]; exact m2⟩
   ·simp only [go_sem,seval, o11, o12, expr_0]
    refine tcE (Goes_spec a2 m2) ?_
    by_cases hcb : xb.code = 0
    ·rw [if_pos hcb] at hR
     simp only [go_sem,seval, hcb, expr_0]
     refine tcE (two_spec _ e.op a b (by omega)) ?_
     simp only [go_sem,seval]
     exact .same ⟨by rw [hR], l2, rfl, a2, by rw [hR]; exact m2⟩
    ·rw [if_neg hcb] at hR
     simp only [go_sem,seval, hcb]
     exact .same ⟨by rw [hR], l2, rfl, a2, by rw [hR]; exact m2⟩
end Pg
