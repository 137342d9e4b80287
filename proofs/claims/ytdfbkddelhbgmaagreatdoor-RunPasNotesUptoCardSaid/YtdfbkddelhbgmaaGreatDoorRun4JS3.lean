import Derived.Test.YtdfbkddelhbgmaaGreatDoorTreeSpecS3
import Derived.Test.YtdfbkddelhbgmaaGreatDoorK4S3
import Derived.Test.YtdfbkddelhbgmaaGreatDoorTreeSS3
import Derived.Test.YtdfbkddelhbgmaaGreatDoorCodeR1S3
namespace Pg
open Go
set_option linter.all false
structure VarAt where
 frm : Int
 len : Int
 t : Typ
abbrev zTyp : Typ := ⟨0, 0, noBytes⟩
abbrev noVar : VarAt := ⟨0, 0, zTyp⟩
abbrev Names := List (ByteArray × VarAt)
def xK (name : ByteArray) : Names → Option VarAt
 | [] => none
 | (k, v) :: r => if name = k then some v else xK name r
def sJ (name : ByteArray) (x : VarAt) : Names → Names
 | [] => [(name, x)]
 | (k, v) :: r => if name = k then (name, x) :: r else (k, v) :: sJ name x r
structure Frm where
 names : Names
 aH : List Routine
structure MSt where
 cells : List Int
 code : Int
 out : List Int
 steps : Int
 deep : Int
 input : List Int
structure Cfg where
 recs : List Rec
 fuel : Int
abbrev wr (n : Int) : Int := IntKind.i64.wrap n
def MSt.fail (s : MSt) (e : Int) : MSt := if s.code = 0 then { s with code := e } else s
def Mc (α : Type) := MSt → α × MSt
instance : Monad Mc where
 pure a := fun s => (a, s)
 bind m k := fun s => k (m s).1 (m s).2
theorem b6 {α β : Type} (m : Mc α) (k : α → Mc β) (s : MSt) : (m >>= k) s = k (m s).1 (m s).2 := rfl
theorem wF {α : Type} (a : α) (s : MSt) : (pure a : Mc α) s = (a, s) := rfl
def nP : Mc Bool := fun s => (decide (s.code = 0), s)
theorem mQ (s : MSt) : nP s = (decide (s.code = 0), s) := rfl
def Y5 (e : Int) : Mc Unit := fun s => ((), s.fail e)
def cD (c : Cfg) : Mc Bool := fun s =>
 if s.code = 0 then (if s.steps = c.fuel then (false, s.fail 21) else (true, { s with steps := s.steps + 1 })) else (false, s)
def nO (rs : List Rec) (t : Typ) : Int :=
 if 0 < t.size then t.size else match rs.find? fun r => decide (t.kind = 4) && decide (r.name = t.name) with
  | some r => r.fields.length
  | none => 1
def mI (c : Cfg) (t : Typ) : Mc (Int × Int) := fun s =>
 if nO c.recs t < 1 then ((0, 0), s.fail 22)
 else if 1048576 - (s.cells.length : Int) < nO c.recs t then ((0, 0), s.fail 22)
 else (((s.cells.length : Int), nO c.recs t), { s with cells := s.cells ++ List.replicate (nO c.recs t).toNat 0 })
def there (s : MSt) (f n : Int) : Bool := decide (0 ≤ f) && decide (0 < n) && decide (f < s.cells.length) && decide (n ≤ s.cells.length - f)
def getM (r : Int × Int) : Mc Int := fun s => (if there s r.1 r.2 then s.cells.getD r.1.toNat 0 else 0, s)
def rE (r : Int × Int) (x : Int) : Mc Unit := fun s => ((), if there s r.1 r.2 then { s with cells := s.cells.set r.1.toNat x } else s)
def pB (r : Int × Int) (x : Int) : Mc Unit := fun s => if s.code = 0 then rE r x s else ((), s)
def sV (r : Int × Int) (i : Int) : Mc (Int × Int) := fun s =>
 if there s r.1 r.2 then (if i < 0 ∨ r.2 ≤ i then ((0, 0), s.fail 19) else ((r.1 + i, 1), s)) else ((0, 0), s.fail 19)
def aCE : Mc Nat := fun s => (s.cells.length, s)
def aBj (had : Nat) : Mc Unit := fun s => ((), { s with cells := s.cells.take had, deep := s.deep - 1 })
def qI : Mc Bool := fun s => if s.deep = 64 then (false, s.fail 22) else (true, { s with deep := s.deep + 1 })
def iV (c : Cfg) : Mc Bool := do
 let ok ← cD c
 if ok then qI else pure false
def sW (c : Cfg) (had : Nat) (m : Mc (Int × Bool)) : Mc Int := do
 let ok ← iV c
 if ok then do
  let x ← m
  aBj had
  pure x.1
 else pure 0
def BI : Mc (Option Int) := fun s => if s.code = 0 then (match s.input with | [] => (none, s.fail 20) | v :: r => (some v, { s with input := r })) else (none, s)
def aFe (v : Int) : Mc Unit := fun s => ((), { s with out := s.out ++ [v] })
theorem P5 (v : Int) (s : MSt) : aFe v s = ((), { s with out := s.out ++ [v] }) := rfl
def varOf (name : ByteArray) : List Frm → VarAt
 | [] => noVar
 | f :: r => (xK name f.names).getD (varOf name r)
abbrev zRout : Routine := ⟨[], [], noBytes, 0, [], [], [], [], []⟩
def jT (name : ByteArray) : List Frm → Routine × List Frm
 | [] => (zRout, [])
 | f :: r => match f.aH.find? fun x => decide (x.name = name) with
  | some x => (x, f :: r)
  | none => jT name r
def jE (rs : List Rec) (t : Typ) (field : ByteArray) : Int × Typ :=
 match rs.find? fun r => decide (r.name = t.name) with
 | none => (0, t)
 | some r => match r.fields.findIdx? fun f => decide (f.name = field) with
  | none => (0, t)
  | some i => ((i : Int), ⟨(r.fields.getD i ⟨[], [], noBytes, 0⟩).kind, 0, noBytes⟩)
def AQ (b : Bool) : Int := if b then 1 else 0
def pP (op a b : Int) : Int :=
 if op = 10 then wr (a * b) else if op = 11 then wr (a.tdiv b) else if op = 12 then a.tmod b else if op = 15 then wr (a + b) else if op = 16 then wr (a - b)
 else if op = 13 then wr (BitVec.ofInt 64 a &&& BitVec.ofInt 64 b).toNat else if op = 17 then wr (BitVec.ofInt 64 a ||| BitVec.ofInt 64 b).toNat
 else if op = 19 then AQ (decide (a = b)) else if op = 20 then AQ (!decide (a = b)) else if op = 21 then AQ (decide (a < b)) else if op = 22 then AQ (decide (a ≤ b))
 else if op = 23 then AQ (decide (b < a)) else if op = 24 then AQ (decide (b ≤ a)) else b
structure Ops where
 place : List Frm → Expr → Mc ((Int × Int) × Typ)
 eval : List Frm → Expr → Mc Int
 call : List Frm → Expr → Mc Int
 run : List Frm → List Stmt → Mc (Int × Bool)
 stmt : List Frm → Stmt → Mc (Int × Bool)
 whl : List Frm → Stmt → Mc (Int × Bool)
 rep : List Frm → Stmt → Mc (Int × Bool)
 cnt : List Frm → Stmt → Int → Int → (Int × Int) → Mc (Int × Bool)
abbrev Expr.at (e : Expr) (i : Nat) : Expr := e.l.getD i default
abbrev Stmt.at (x : Stmt) (i : Nat) : Expr := x.e.getD i default
def iD (v : VarAt) (i : Int) (t : Typ) : Mc ((Int × Int) × Typ) := do
 let g ← nP
 if g then do
  let r ← sV (v.frm, v.len) i
  pure (r, t)
 else pure ((v.frm, v.len), t)
def oO (c : Cfg) (o : Ops) (ch : List Frm) (e : Expr) : Mc ((Int × Int) × Typ) :=
 if e.op = 5 then do
  let n ← o.eval ch (e.at 0)
  iD (varOf e.name ch) (max (-1) (min n 64)) ⟨(varOf e.name ch).t.kind, 0, noBytes⟩
 else if e.op = 6 then iD (varOf e.name ch) (jE c.recs (varOf e.name ch).t e.field).1 (jE c.recs (varOf e.name ch).t e.field).2
 else pure (((varOf e.name ch).frm, (varOf e.name ch).len), (varOf e.name ch).t)
def wW (o : Ops) (ch : List Frm) (e : Expr) : Mc Int := do
 let a ← o.eval ch (e.at 0)
 if (e.op = 14 ∧ a = 0) ∨ (e.op = 18 ∧ a = 1) then pure a
 else do
  let b ← o.eval ch (e.at 1)
  if (e.op = 11 ∨ e.op = 12) ∧ b = 0 then do
   Y5 19
   pure 0
  else do
   let g ← nP
   if g then pure (pP e.op a b) else pure 0
def sQ (o : Ops) (ch : List Frm) (e : Expr) : Mc Int := do
 let g ← nP
 if g then
  if 1 ≤ e.op ∧ e.op ≤ 3 then pure e.n
  else if 4 ≤ e.op ∧ e.op ≤ 6 then do
   let p ← o.place ch e
   getM p.1
  else if e.op = 7 then o.call ch e
  else if e.op = 8 then do
   let a ← o.eval ch (e.at 0)
   pure (wr (0 - a))
  else if e.op = 9 then do
   let a ← o.eval ch (e.at 0)
   pure (wr (1 - a))
  else wW o ch e
 else pure 0
def jR (o : Ops) (ch : List Frm) : List Param → List Expr → Names → List Int → Mc (Names × List Int)
 | [], _, names, vs => pure (names, vs)
 | p :: ps, es, names, vs =>
  if p.mode = 1 then do
   let x ← o.place ch (es.headD default)
   jR o ch ps es.tail (sJ p.name ⟨x.1.1, x.1.2, x.2⟩ names) (vs ++ [0])
  else do
   let v ← o.eval ch (es.headD default)
   jR o ch ps es.tail names (vs ++ [v])
def jQ (c : Cfg) : List Param → List Int → Names → Mc Names
 | [], _, names => pure names
 | p :: ps, vs, names =>
  if p.mode = 0 then do
   let r ← mI c p.t
   rE r (vs.headD 0)
   jQ c ps vs.tail (sJ p.name ⟨r.1, r.2, p.t⟩ names)
  else jQ c ps vs.tail names
def gU (c : Cfg) : List Var → Names → Mc Names
 | [], names => pure names
 | v :: vs, names => do
  let r ← mI c v.t
  gU c vs (sJ v.name ⟨r.1, r.2, v.t⟩ names)
def FQ (c : Cfg) (o : Ops) (r : Routine) (around : List Frm) (names : Names) (vs : List Int) : Mc (Int × Bool) := do
 let n1 ← jQ c r.params vs names
 let n2 ← gU c r.vars n1
 o.run (⟨n2, r.inner⟩ :: around) r.body
def uH (c : Cfg) (o : Ops) (ch : List Frm) (e : Expr) : Mc Int := do
 let had ← aCE
 let a ← jR o ch (jT e.name ch).1.params e.l [] []
 sW c had (FQ c o (jT e.name ch).1 (jT e.name ch).2 a.1 a.2)
def y8 (o : Ops) (ch : List Frm) : List Stmt → Mc (Int × Bool)
 | [] => pure (0, false)
 | x :: r => do
  let n ← o.stmt ch x
  let g ← nP
  if n.2 = true ∨ g = false then pure n else o.run ch r
def HR (o : Ops) (ch : List Frm) (x : Stmt) : Mc (Int × Bool) := do
 let p ← o.place ch x.p
 let v ← o.eval ch (x.at 0)
 pB p.1 v
 pure (0, false)
def ifF (o : Ops) (ch : List Frm) (x : Stmt) : Mc (Int × Bool) := do
 let v ← o.eval ch (x.at 0)
 let g ← nP
 if g then o.run ch (if v = 1 then x.body else x.els) else pure (0, false)
def vB (o : Ops) (ch : List Frm) (x : Stmt) : Mc (Int × Bool) := do
 let a ← o.eval ch (x.at 0)
 let b ← o.eval ch (x.at 1)
 if (x.down = true ∧ a < b) ∨ (x.down = false ∧ b < a) then pure (0, false) else o.cnt ch x a b ((varOf x.name ch).frm, (varOf x.name ch).len)
def oE (o : Ops) (ch : List Frm) (x : Stmt) : Mc (Int × Bool) := do
 let p ← o.place ch x.p
 let g ← nP
 if g then do
  let v ← BI
  match v with
  | none => pure (0, false)
  | some v => do
   pB p.1 (if p.2.kind = 3 then wr (BitVec.ofInt 64 v &&& BitVec.ofInt 64 255).toNat else v)
   pure (0, false)
 else pure (0, false)
def writeEnd (v : Int) : Mc (Int × Bool) := do
 let g ← nP
 if g then do
  aFe v
  pure (0, false)
 else pure (0, false)
def wM (o : Ops) (ch : List Frm) (x : Stmt) : Mc (Int × Bool) := o.eval ch (x.at 0) >>= writeEnd
def DV (o : Ops) (ch : List Frm) (x : Stmt) : Mc (Int × Bool) :=
 if x.e.length = 0 then do
  let g ← nP
  pure (0, g)
 else do
  let v ← o.eval ch (x.at 0)
  let g ← nP
  pure (v, g)
def mT (o : Ops) (ch : List Frm) (x : Stmt) : Mc (Int × Bool) :=
 if x.op = 1 then HR o ch x
 else if x.op = 2 then do
  let _ ← o.eval ch (x.at 0)
  pure (0, false)
 else if x.op = 3 then ifF o ch x
 else if x.op = 4 then o.whl ch x
 else if x.op = 5 then o.rep ch x
 else if x.op = 6 then vB o ch x
 else if x.op = 7 then oE o ch x
 else if x.op = 8 then wM o ch x
 else if x.op = 9 then DV o ch x
 else pure (0, false)
def qA (c : Cfg) (o : Ops) (ch : List Frm) (x : Stmt) : Mc (Int × Bool) := do
 let ok ← cD c
 if ok then mT o ch x else pure (0, false)
def wN (c : Cfg) (o : Ops) (ch : List Frm) (x : Stmt) : Mc (Int × Bool) := do
 let ok ← cD c
 if ok then do
  let v ← o.eval ch (x.at 0)
  let g ← nP
  if v = 1 ∧ g = true then do
   let n ← o.run ch x.body
   if n.2 then pure (n.1, true) else o.whl ch x
  else pure (0, false)
 else pure (0, false)
def xD (c : Cfg) (o : Ops) (ch : List Frm) (x : Stmt) : Mc (Int × Bool) := do
 let g ← nP
 if g then do
  let n ← o.run ch x.body
  if n.2 then pure (n.1, true)
  else do
   let ok ← cD c
   if ok then do
    let v ← o.eval ch (x.at 0)
    if v = 1 then pure (0, false) else o.rep ch x
   else pure (0, false)
 else pure (0, false)
def cntF (c : Cfg) (o : Ops) (ch : List Frm) (x : Stmt) (i b : Int) (r : Int × Int) : Mc (Int × Bool) := do
 let ok ← cD c
 if ok then do
  pB r i
  let n ← o.run ch x.body
  if n.2 then pure (n.1, true)
  else if i = b then pure (0, false) else o.cnt ch x (wr (i + if x.down then -1 else 1)) b r
 else pure (0, false)
def Ops.zero : Ops := ⟨fun _ _ => pure ((0, 0), zTyp), fun _ _ => pure 0, fun _ _ => pure 0, fun _ _ => pure (0, false), fun _ _ => pure (0, false), fun _ _ => pure (0, false), fun _ _ => pure (0, false), fun _ _ _ _ _ => pure (0, false)⟩
def Ops.next (c : Cfg) (o : Ops) : Ops := ⟨oO c o, sQ o, uH c o, y8 o, qA c o, wN c o, xD c o, cntF c o⟩
def ops (c : Cfg) : Nat → Ops
 | 0 => .zero
 | n + 1 => .next c (ops c n)
def l8 (input : List Int) : MSt := ⟨[], 0, [], 0, 0, input⟩
def fX (p : Prg) (fuel : Int) : Cfg := ⟨p.recs, max 0 (min fuel 1048576)⟩
def L1 (c : Cfg) (N : Nat) (p : Prg) : Mc (Int × Bool) := do
 let names ← gU c p.vars []
 (ops c N).run [⟨names, p.aH⟩] p.body
def kS (N : Nat) (p : Prg) (input : List Int) (fuel : Int) : MSt := (L1 (fX p fuel) N p (l8 input)).2
end Pg

namespace Pg
open Go
set_option linter.all false
structure eQ (c1 c2 : Cfg) (Q : ∀ {α : Type}, Mc α → Mc α → Prop) : Prop where
 recs : c1.recs = c2.recs
 pure : ∀ {α : Type} (a : α), Q (pure a) (pure a)
 bind : ∀ {α β : Type} {m1 m2 : Mc α} {k1 k2 : α → Mc β}, Q m1 m2 → (∀ a, Q (k1 a) (k2 a)) → Q (m1 >>= k1) (m2 >>= k2)
 goes : Q nP nP
 fail : ∀ e, e ≠ 20 → e ≠ 21 → Q (Y5 e) (Y5 e)
 step : Q (cD c1) (cD c2)
 lay : ∀ t, Q (mI c1 t) (mI c2 t)
 get : ∀ r, Q (getM r) (getM r)
 set : ∀ r x, Q (rE r x) (rE r x)
 put : ∀ r x, Q (pB r x) (pB r x)
 cell : ∀ r i, Q (sV r i) (sV r i)
 len : Q aCE aCE
 call : ∀ n {m1 m2 : Mc (Int × Bool)}, Q m1 m2 → Q (sW c1 n m1) (sW c2 n m2)
 next : Q BI BI
 write : ∀ {m1 m2 : Mc Int}, Q m1 m2 → Q (cD c1 >>= fun ok => if ok = true then m1 >>= writeEnd else Pure.pure (0, false)) (cD c2 >>= fun ok => if ok = true then m2 >>= writeEnd else Pure.pure (0, false))
structure Ops.Rel (Q : ∀ {α : Type}, Mc α → Mc α → Prop) (o1 o2 : Ops) : Prop where
 place : ∀ ch e, Q (o1.place ch e) (o2.place ch e)
 eval : ∀ ch e, Q (o1.eval ch e) (o2.eval ch e)
 call : ∀ ch e, Q (o1.call ch e) (o2.call ch e)
 run : ∀ ch l, Q (o1.run ch l) (o2.run ch l)
 stmt : ∀ ch x, Q (o1.stmt ch x) (o2.stmt ch x)
 whl : ∀ ch x, Q (o1.whl ch x) (o2.whl ch x)
 rep : ∀ ch x, Q (o1.rep ch x) (o2.rep ch x)
 cnt : ∀ ch x i b r, Q (o1.cnt ch x i b r) (o2.cnt ch x i b r)
section
variable {c1 c2 : Cfg} {Q : ∀ {α : Type}, Mc α → Mc α → Prop}
theorem eQ.ite (p : eQ c1 c2 @Q) {α : Type} (b : Prop) [Decidable b] {m1 m2 n1 n2 : Mc α} (h : Q m1 m2) (g : Q n1 n2) : Q (if b then m1 else n1) (if b then m2 else n2) := by split <;> assumption
theorem eQ.iD (p : eQ c1 c2 @Q) (v : VarAt) (i : Int) (t : Typ) : Q (Pg.iD v i t) (Pg.iD v i t) :=
 p.bind p.goes fun _ => p.ite _ (p.bind (p.cell _ _) fun _ => p.pure _) (p.pure _)
theorem eQ.oO (p : eQ c1 c2 @Q) {o1 o2 : Ops} (h : o1.Rel @Q o2) (ch : List Frm) (e : Expr) : Q (Pg.oO c1 o1 ch e) (Pg.oO c2 o2 ch e) := by
 unfold Pg.oO; rw [p.recs]
 exact p.ite _ (p.bind (h.eval _ _) fun _ => p.iD _ _ _) (p.ite _ (p.iD _ _ _) (p.pure _))
theorem eQ.wW (p : eQ c1 c2 @Q) {o1 o2 : Ops} (h : o1.Rel @Q o2) (ch : List Frm) (e : Expr) : Q (Pg.wW o1 ch e) (Pg.wW o2 ch e) :=
 p.bind (h.eval _ _) fun _ => p.ite _ (p.pure _) (p.bind (h.eval _ _) fun _ => p.ite _ (p.bind (p.fail _ (by decide) (by decide)) fun _ => p.pure _) (p.bind p.goes fun _ => p.ite _ (p.pure _) (p.pure _)))
theorem eQ.sQ (p : eQ c1 c2 @Q) {o1 o2 : Ops} (h : o1.Rel @Q o2) (ch : List Frm) (e : Expr) : Q (Pg.sQ o1 ch e) (Pg.sQ o2 ch e) :=
 p.bind p.goes fun _ => p.ite _ (p.ite _ (p.pure _) (p.ite _ (p.bind (h.place _ _) fun _ => p.get _) (p.ite _ (h.call _ _) (p.ite _ (p.bind (h.eval _ _) fun _ => p.pure _) (p.ite _ (p.bind (h.eval _ _) fun _ => p.pure _) (p.wW h _ _)))))) (p.pure _)
theorem eQ.jR (p : eQ c1 c2 @Q) {o1 o2 : Ops} (h : o1.Rel @Q o2) (ch : List Frm) : ∀ (ps : List Param) (es : List Expr) (names : Names) (vs : List Int), Q (Pg.jR o1 ch ps es names vs) (Pg.jR o2 ch ps es names vs)
 | [], es, names, vs => p.pure _
 | q :: ps, es, names, vs => p.ite _ (p.bind (h.place _ _) fun _ => eQ.jR p h ch ps _ _ _) (p.bind (h.eval _ _) fun _ => eQ.jR p h ch ps _ _ _)
theorem eQ.jQ (p : eQ c1 c2 @Q) : ∀ (ps : List Param) (vs : List Int) (names : Names), Q (Pg.jQ c1 ps vs names) (Pg.jQ c2 ps vs names)
 | [], vs, names => p.pure _
 | q :: ps, vs, names => p.ite _ (p.bind (p.lay _) fun _ => p.bind (p.set _ _) fun _ => eQ.jQ p ps _ _) (eQ.jQ p ps _ _)
theorem eQ.gU (p : eQ c1 c2 @Q) : ∀ (vs : List Var) (names : Names), Q (Pg.gU c1 vs names) (Pg.gU c2 vs names)
 | [], names => p.pure _
 | v :: vs, names => p.bind (p.lay _) fun _ => eQ.gU p vs _
theorem eQ.uH (p : eQ c1 c2 @Q) {o1 o2 : Ops} (h : o1.Rel @Q o2) (ch : List Frm) (e : Expr) : Q (Pg.uH c1 o1 ch e) (Pg.uH c2 o2 ch e) :=
 p.bind p.len fun _ => p.bind (p.jR h _ _ _ _ _) fun _ => p.call _ (p.bind (p.jQ _ _ _) fun _ => p.bind (p.gU _ _) fun _ => h.run _ _)
theorem eQ.y8 (p : eQ c1 c2 @Q) {o1 o2 : Ops} (h : o1.Rel @Q o2) (ch : List Frm) (l : List Stmt) : Q (Pg.y8 o1 ch l) (Pg.y8 o2 ch l) := by
 cases l with
 | nil => exact p.pure _
 | cons x r => exact p.bind (h.stmt _ _) fun _ => p.bind p.goes fun _ => p.ite _ (p.pure _) (h.run _ _)
theorem eQ.oE (p : eQ c1 c2 @Q) {o1 o2 : Ops} (h : o1.Rel @Q o2) (ch : List Frm) (x : Stmt) : Q (Pg.oE o1 ch x) (Pg.oE o2 ch x) := by
 refine p.bind (h.place _ _) fun _ => p.bind p.goes fun _ => p.ite _ (p.bind p.next fun v => ?_) (p.pure _)
 cases v with
 | none => exact p.pure _
 | some v => exact p.bind (p.put _ _) fun _ => p.pure _
theorem eQ.qA (p : eQ c1 c2 @Q) {o1 o2 : Ops} (h : o1.Rel @Q o2) (ch : List Frm) (x : Stmt) : Q (Pg.qA c1 o1 ch x) (Pg.qA c2 o2 ch x) := by
 by_cases h8 : x.op = 8
 ·have e : ∀ o, Pg.mT o ch x = o.eval ch (x.at 0) >>= writeEnd := fun o => by unfold mT; rw [h8]; rfl
  unfold Pg.qA
  rw [e, e]
  exact p.write (h.eval _ _)
 ·have e : ∀ o, Pg.mT o ch x = if x.op = 1 then HR o ch x else if x.op = 2 then (o.eval ch (x.at 0) >>= fun _ => Pure.pure (0, false)) else if x.op = 3 then ifF o ch x else if x.op = 4 then o.whl ch x else if x.op = 5 then o.rep ch x else if x.op = 6 then vB o ch x else if x.op = 7 then Pg.oE o ch x else if x.op = 9 then DV o ch x else Pure.pure (0, false) := fun o => by unfold mT; rw [if_neg h8]
  unfold Pg.qA
  rw [e, e]
  refine p.bind p.step fun _ => p.ite _ ?_ (p.pure _)
  refine p.ite _ ?_ (p.ite _ ?_ (p.ite _ ?_ (p.ite _ (h.whl _ _) (p.ite _ (h.rep _ _) (p.ite _ ?_ (p.ite _ (p.oE h _ _) (p.ite _ ?_ (p.pure _))))))))
  ·exact p.bind (h.place _ _) fun _ => p.bind (h.eval _ _) fun _ => p.bind (p.put _ _) fun _ => p.pure _
  ·exact p.bind (h.eval _ _) fun _ => p.pure _
  ·exact p.bind (h.eval _ _) fun _ => p.bind p.goes fun _ => p.ite _ (h.run _ _) (p.pure _)
  ·exact p.bind (h.eval _ _) fun _ => p.bind (h.eval _ _) fun _ => p.ite _ (p.pure _) (h.cnt _ _ _ _ _)
  ·exact p.ite _ (p.bind p.goes fun _ => p.pure _) (p.bind (h.eval _ _) fun _ => p.bind p.goes fun _ => p.pure _)
theorem eQ.wN (p : eQ c1 c2 @Q) {o1 o2 : Ops} (h : o1.Rel @Q o2) (ch : List Frm) (x : Stmt) : Q (Pg.wN c1 o1 ch x) (Pg.wN c2 o2 ch x) :=
 p.bind p.step fun _ => p.ite _ (p.bind (h.eval _ _) fun _ => p.bind p.goes fun _ => p.ite _ (p.bind (h.run _ _) fun _ => p.ite _ (p.pure _) (h.whl _ _)) (p.pure _)) (p.pure _)
theorem eQ.xD (p : eQ c1 c2 @Q) {o1 o2 : Ops} (h : o1.Rel @Q o2) (ch : List Frm) (x : Stmt) : Q (Pg.xD c1 o1 ch x) (Pg.xD c2 o2 ch x) :=
 p.bind p.goes fun _ => p.ite _ (p.bind (h.run _ _) fun _ => p.ite _ (p.pure _) (p.bind p.step fun _ => p.ite _ (p.bind (h.eval _ _) fun _ => p.ite _ (p.pure _) (h.rep _ _)) (p.pure _))) (p.pure _)
theorem eQ.cntF (p : eQ c1 c2 @Q) {o1 o2 : Ops} (h : o1.Rel @Q o2) (ch : List Frm) (x : Stmt) (i b : Int) (r : Int × Int) : Q (Pg.cntF c1 o1 ch x i b r) (Pg.cntF c2 o2 ch x i b r) :=
 p.bind p.step fun _ => p.ite _ (p.bind (p.put _ _) fun _ => p.bind (h.run _ _) fun _ => p.ite _ (p.pure _) (p.ite _ (p.pure _) (h.cnt _ _ _ _ _))) (p.pure _)
theorem eQ.all (p : eQ c1 c2 @Q) : ∀ N, (ops c1 N).Rel @Q (ops c2 N)
 | 0 => ⟨fun _ _ => p.pure _, fun _ _ => p.pure _, fun _ _ => p.pure _, fun _ _ => p.pure _, fun _ _ => p.pure _, fun _ _ => p.pure _, fun _ _ => p.pure _, fun _ _ _ _ _ => p.pure _⟩
 | N + 1 => have h := eQ.all p N; ⟨p.oO h, p.sQ h, p.uH h, p.y8 h, p.qA h, p.wN h, p.xD h, p.cntF h⟩
theorem eQ.prg (p : eQ c1 c2 @Q) (N : Nat) (x : Prg) : Q (L1 c1 N x) (L1 c2 N x) := p.bind (p.gU _ _) fun _ => (p.all N).run _ _
end
end Pg

namespace Pg
open Go
set_option linter.all false
theorem sP (s : MSt) (e : Int) : (s.fail e).steps = s.steps := by unfold MSt.fail; split <;> rfl
theorem IK (s : MSt) (e : Int) : (s.fail e).out = s.out := by unfold MSt.fail; split <;> rfl
theorem EE (s : MSt) (e : Int) : (s.fail e).code = if s.code = 0 then e else s.code := by unfold MSt.fail; split <;> simp_all
structure jB (c : Cfg) (s s' : MSt) : Prop where
 up : s.steps ≤ s'.steps
 out : (s'.out.length : Int) - s'.steps ≤ s.out.length - s.steps
 pre : s.out <+: s'.out
 fuel : s.steps ≤ c.fuel → s'.steps ≤ c.fuel
 all : s.steps ≤ c.fuel → (s.code = 21 → s.steps = c.fuel) → s'.code = 21 → s'.steps = c.fuel
 stays : s.code ≠ 0 → s'.code = s.code ∧ s'.out = s.out ∧ s'.steps = s.steps
theorem jB.same {c : Cfg} {s s' : MSt} (h1 : s'.steps = s.steps) (h2 : s'.out = s.out) (h3 : s'.code = s.code) : jB c s s' :=
 ⟨by omega, by rw [h2, h1]; omega, by rw [h2]; exact List.prefix_refl _, by omega, by rw [h1, h3]; exact fun _ h => h, fun _ => ⟨h3, h2, h1⟩⟩
theorem jB.fail {c : Cfg} (s : MSt) (e : Int) (h : s.code = 0 → e = 21 → s.steps = c.fuel) : jB c s (s.fail e) := by
 refine ⟨by rw [sP]; exact Int.le_refl _, by rw [sP, IK]; exact Int.le_refl _, by rw [IK]; exact List.prefix_refl _, by rw [sP]; exact id, fun _ q k => ?_, fun hc => ⟨?_, IK _ _, sP _ _⟩⟩
 ·rw [sP]
  rw [EE] at k
  split at k
  ·rename_i h0; exact h h0 k
  ·exact q k
 ·rw [EE, if_neg hc]
theorem jB.trans {c : Cfg} {a b d : MSt} (h : jB c a b) (g : jB c b d) : jB c a d :=
 ⟨Int.le_trans h.up g.up, Int.le_trans g.out h.out, h.pre.trans g.pre, fun k => g.fuel (h.fuel k), fun k q => g.all (h.fuel k) (h.all k q), fun k => by
  have h1 := h.stays k
  have h2 := g.stays (by rw [h1.1]; exact k)
  exact ⟨h2.1.trans h1.1, h2.2.1.trans h1.2.1, h2.2.2.trans h1.2.2⟩⟩
theorem oB (c : Cfg) (s : MSt) : (s.code ≠ 0 ∧ cD c s = (false, s)) ∨ (s.code = 0 ∧ s.steps = c.fuel ∧ cD c s = (false, s.fail 21)) ∨ (s.code = 0 ∧ s.steps ≠ c.fuel ∧ cD c s = (true, { s with steps := s.steps + 1 })) := by
 unfold cD
 split
 ·split
  ·exact .inr (.inl ⟨by assumption, by assumption, rfl⟩)
  ·exact .inr (.inr ⟨by assumption, by assumption, rfl⟩)
 ·exact .inl ⟨by assumption, rfl⟩
theorem YY (c : Cfg) (s : MSt) : jB c s (BI s).2 := by
 unfold BI
 split
 ·split
  ·exact .fail s 20 (fun _ h => absurd h (by decide))
  ·exact .same rfl rfl rfl
 ·exact .same rfl rfl rfl
theorem NT (c : Cfg) (r : Int × Int) (x : Int) (s : MSt) : jB c s (rE r x s).2 := by
 unfold rE
 split <;> exact .same rfl rfl rfl
theorem G0 {c : Cfg} {m : Mc Int} (h : ∀ s, jB c s (m s).2) (s : MSt) : jB c s ((cD c >>= fun ok => if ok = true then m >>= writeEnd else pure (0, false)) s).2 := by
 rw [b6]
 rcases oB c s with ⟨h1, e⟩ | ⟨h1, h2, e⟩ | ⟨h1, h2, e⟩
 ·rw [e]; exact .same rfl rfl rfl
 ·rw [e]; exact .fail s 21 (fun _ _ => h2)
 ·rw [e]
  simp only [if_true]
  rw [b6]
  have g := h { s with steps := s.steps + 1 }
  generalize m { s with steps := s.steps + 1 } = y at g
  obtain ⟨v, s1⟩ := y
  obtain ⟨g1, g2, g3, g4, g5, g6⟩ := g
  simp only at g1 g2 g3 g4 g5 g6
  show jB c s (writeEnd v s1).2
  unfold writeEnd
  rw [b6, mQ]
  by_cases hc : s1.code = 0
  ·simp only [hc, decide_true, if_true, b6, wF, P5]
   refine ⟨?_, ?_, g3.trans (List.prefix_append _ _), ?_, ?_, fun k => absurd h1 k⟩ <;> simp only [List.length_append, List.length_singleton]
   ·omega
   ·omega
   ·omega
   ·omega
  ·simp only [hc, decide_false, Bool.false_eq_true, if_false, wF]
   refine ⟨by omega, by omega, g3, by omega, ?_, fun k => absurd h1 k⟩
   intro k1 k2
   exact g5 (by omega) (by rw [h1]; exact fun k => absurd k (by decide))
theorem BM (c : Cfg) (s : MSt) : jB c s (cD c s).2 := by
 rcases oB c s with ⟨h1, e⟩ | ⟨h1, h2, e⟩ | ⟨h1, h2, e⟩ <;> rw [e]
 ·exact .same rfl rfl rfl
 ·exact .fail s 21 (fun _ _ => h2)
 ·exact ⟨by simp only; omega, by simp only; omega, List.prefix_refl _, by simp only; omega, by simp only; rw [h1]; omega, fun k => absurd h1 k⟩
theorem QN (c : Cfg) (s : MSt) : jB c s (qI s).2 := by
 unfold qI; split
 ·exact .fail s 22 (fun _ h => absurd h (by decide))
 ·exact .same rfl rfl rfl
theorem UR (c : Cfg) (n : Nat) (s : MSt) : jB c s (aBj n s).2 := .same rfl rfl rfl
theorem US (c : Cfg) (s : MSt) : jB c s (iV c s).2 := by
 unfold iV; rw [b6]
 refine (BM c s).trans ?_
 split
 ·exact QN c _
 ·exact .same rfl rfl rfl
theorem KF {c : Cfg} (n : Nat) {m : Mc (Int × Bool)} (h : ∀ s, jB c s (m s).2) (s : MSt) : jB c s (sW c n m s).2 := by
 unfold sW; rw [b6]
 refine (US c s).trans ?_
 split
 ·rw [b6, b6]
  exact (h _).trans (UR c n _)
 ·exact .same rfl rfl rfl
theorem aBo (c : Cfg) : eQ c c (fun {α} (m _ : Mc α) => ∀ s, jB c s (m s).2) where
 recs := rfl
 pure a s := .same rfl rfl rfl
 bind h k s := (h s).trans (k _ _)
 goes s := .same rfl rfl rfl
 fail e _ h s := .fail s e (fun _ k => absurd k h)
 step s := BM c s
 lay t s := by
  unfold mI; split
  ·exact .fail s 22 (fun _ h => absurd h (by decide))
  ·split
   ·exact .fail s 22 (fun _ h => absurd h (by decide))
   ·exact .same rfl rfl rfl
 get r s := .same rfl rfl rfl
 set r x s := NT c r x s
 put r x s := by
  unfold pB; split
  ·exact NT c r x s
  ·exact .same rfl rfl rfl
 cell r i s := by
  unfold sV; split
  ·split
   ·exact .fail s 19 (fun _ h => absurd h (by decide))
   ·exact .same rfl rfl rfl
  ·exact .fail s 19 (fun _ h => absurd h (by decide))
 len s := .same rfl rfl rfl
 call n _ _ h s := KF n h s
 next s := YY c s
 write h s := G0 h s
theorem aAK (N : Nat) (p : Prg) (input : List Int) (fuel : Int) :
  0 ≤ (kS N p input fuel).steps ∧ (kS N p input fuel).steps ≤ max 0 (min fuel 1048576) ∧ ((kS N p input fuel).out.length : Int) ≤ (kS N p input fuel).steps ∧ ((kS N p input fuel).code = 21 → (kS N p input fuel).steps = max 0 (min fuel 1048576)) := by
 have h := (aBo (fX p fuel)).prg N p (l8 input)
 obtain ⟨h1, h2, _, h3, h4, _⟩ := h
 simp only [l8, List.length_nil, fX] at h1 h2 h3 h4
 refine ⟨h1, h3 (by omega), ?_, h4 (by omega) (fun k => absurd k (by decide))⟩
 show (((L1 (fX p fuel) N p (l8 input)).2.out.length : Nat) : Int) ≤ (L1 (fX p fuel) N p (l8 input)).2.steps
 simp only [l8, fX]
 omega
abbrev MSt.more (s : MSt) (l : List Int) : MSt := { s with input := s.input ++ l }
structure Div (c1 c2 : Cfg) (l : List Int) (s t : MSt) : Prop where
 code : (s.code = 21 ∧ c1.fuel ≠ c2.fuel) ∨ (s.code = 20 ∧ l ≠ [])
 out : s.out <+: t.out
 steps : s.steps ≤ t.steps
theorem Div.aEA {c1 c2 : Cfg} {l : List Int} {s t : MSt} (d : Div c1 c2 l s t) : s.code ≠ 0 := by
 rcases d.code with ⟨h, _⟩ | ⟨h, _⟩ <;> rw [h] <;> decide
theorem Div.go {c1 c2 : Cfg} {l : List Int} {s t s' t' : MSt} (d : Div c1 c2 l s t) (g1 : jB c1 s s') (g2 : jB c2 t t') : Div c1 c2 l s' t' := by
 obtain ⟨e1, e2, e3⟩ := g1.stays d.aEA
 refine ⟨by rw [e1]; exact d.code, by rw [e2]; exact d.out.trans g2.pre, by rw [e3]; exact Int.le_trans d.steps g2.up⟩
end Pg

namespace Pg
open Go
set_option linter.all false
structure MOk (c : Cfg) (s : MSt) : Prop where
 fuel : c.fuel ≤ 1048576
 cells : s.cells.length ≤ 1048576
 nS : 0 ≤ s.steps
 steps : s.steps ≤ c.fuel
 out : (s.out.length : Int) ≤ s.steps
 sT : 0 ≤ s.deep
 deep : s.deep ≤ 64
 input : few s.input
structure Kept (c : Cfg) (s s' : MSt) : Prop where
 go : jB c s s'
 ok : MOk c s → MOk c s'
 deep : s'.deep = s.deep
theorem Kept.trans {c : Cfg} {a b d : MSt} (h : Kept c a b) (g : Kept c b d) : Kept c a d := ⟨h.go.trans g.go, fun k => g.ok (h.ok k), by rw [g.deep, h.deep]⟩
theorem Kept.same {c : Cfg} {s s' : MSt} (h1 : s'.steps = s.steps) (h2 : s'.out = s.out) (h3 : s'.code = s.code) (h4 : s'.cells = s.cells) (h5 : s'.deep = s.deep) (h6 : s'.input = s.input) : Kept c s s' :=
 ⟨.same h1 h2 h3, fun k => ⟨k.fuel, by rw [h4]; exact k.cells, by rw [h1]; exact k.nS, by rw [h1]; exact k.steps, by rw [h1, h2]; exact k.out, by rw [h5]; exact k.sT, by rw [h5]; exact k.deep, by rw [h6]; exact k.input⟩, h5⟩
theorem Kept.refl (c : Cfg) (s : MSt) : Kept c s s := .same rfl rfl rfl rfl rfl rfl
theorem Kept.fail {c : Cfg} (s : MSt) (e : Int) (h : s.code = 0 → e = 21 → s.steps = c.fuel) : Kept c s (s.fail e) := by
 refine ⟨.fail s e h, ?_, ?_⟩ <;> unfold MSt.fail <;> split
 ·exact fun k => ⟨k.fuel, k.cells, k.nS, k.steps, k.out, k.sT, k.deep, k.input⟩
 ·exact id
 ·rfl
 ·rfl
theorem BK (c : Cfg) (r : Int × Int) (x : Int) (s : MSt) : Kept c s (rE r x s).2 := by
 unfold rE; simp only
 split
 ·exact ⟨.same rfl rfl rfl, fun k => ⟨k.fuel, by simpa using k.cells, k.nS, k.steps, k.out, k.sT, k.deep, k.input⟩, rfl⟩
 ·exact .refl _ _
theorem mW (c : Cfg) (s : MSt) : Kept c s (cD c s).2 := by
 refine ⟨BM c s, ?_, ?_⟩ <;> rcases oB c s with ⟨h1, e⟩ | ⟨h1, h2, e⟩ | ⟨h1, h2, e⟩ <;> rw [e]
 ·exact id
 ·exact (Kept.fail s 21 (fun _ _ => h2)).ok
 ·exact fun k => ⟨k.fuel, k.cells, by have := k.nS; simp only; omega, by have := k.steps; simp only; omega, by have := k.out; simp only; omega, k.sT, k.deep, k.input⟩
 ·exact (Kept.fail s 21 (fun _ _ => h2)).deep
theorem aCW (c : Cfg) (n : Nat) (m : Mc (Int × Bool)) (s : MSt) : sW c n m s =
  if (cD c s).1 = true then (if (cD c s).2.deep = 64 then (0, (cD c s).2.fail 22) else
   ((m { (cD c s).2 with deep := (cD c s).2.deep + 1 }).1.1, { (m { (cD c s).2 with deep := (cD c s).2.deep + 1 }).2 with cells := (m { (cD c s).2 with deep := (cD c s).2.deep + 1 }).2.cells.take n, deep := (m { (cD c s).2 with deep := (cD c s).2.deep + 1 }).2.deep - 1 }))
  else (0, (cD c s).2) := by
 unfold sW iV
 rw [b6, b6]
 generalize cD c s = q
 obtain ⟨b, s1⟩ := q
 cases b
 ·rfl
 ·simp only [if_true]
  unfold qI
  split
  ·rfl
  ·rfl
theorem aBl {c : Cfg} (n : Nat) {m : Mc (Int × Bool)} (h : ∀ s, Kept c s (m s).2) (s : MSt) : Kept c s (sW c n m s).2 := by
 have k1 := mW c s
 refine ⟨KF n (fun s => (h s).go) s, ?_, ?_⟩ <;> rw [aCW] <;> generalize cD c s = q at k1 ⊢ <;> obtain ⟨b, s1⟩ := q <;> simp only at k1 ⊢ <;> split
 ·split
  ·exact fun k => (Kept.fail s1 22 (fun _ e => absurd e (by decide))).ok (k1.ok k)
  ·intro k
   rename_i hd
   have k2 := k1.ok k
   have h1 := k2.deep; have h0 := k2.sT
   have k3 := (h { s1 with deep := s1.deep + 1 }).ok ⟨k2.fuel, k2.cells, k2.nS, k2.steps, k2.out, by simp only; omega, by simp only; omega, k2.input⟩
   have d3 := (h { s1 with deep := s1.deep + 1 }).deep
   simp only at d3
   exact ⟨k3.fuel, by rw [List.length_take]; exact Nat.le_trans (Nat.min_le_right _ _) k3.cells, k3.nS, k3.steps, k3.out, by simp only [d3]; omega, by simp only [d3]; omega, k3.input⟩
 ·exact k1.ok
 ·split
  ·rw [(Kept.fail (c := c) s1 22 (fun _ e => absurd e (by decide))).deep]; exact k1.deep
  ·have d3 := (h { s1 with deep := s1.deep + 1 }).deep
   have := k1.deep
   simp only at d3 ⊢
   rw [d3]; omega
 ·exact k1.deep
theorem ID (c : Cfg) (t : Typ) (s : MSt) : Kept c s (mI c t s).2 := by
 unfold mI
 split
 ·exact .fail s 22 (fun _ h => absurd h (by decide))
 ·split
  ·exact .fail s 22 (fun _ h => absurd h (by decide))
  ·exact ⟨.same rfl rfl rfl, fun k => ⟨k.fuel, by rw [List.length_append, List.length_replicate]; omega, k.nS, k.steps, k.out, k.sT, k.deep, k.input⟩, rfl⟩
theorem IC (c : Cfg) : eQ c c (fun {α} (m _ : Mc α) => ∀ s, Kept c s (m s).2) where
 recs := rfl
 pure a s := .refl _ _
 bind h k s := (h s).trans (k _ _)
 goes s := .refl _ _
 fail e _ h s := .fail s e (fun _ k => absurd k h)
 step s := mW c s
 lay t s := ID c t s
 get r s := .refl _ _
 set r x s := BK c r x s
 put r x s := by
  unfold pB; split
  ·exact BK c r x s
  ·exact .refl _ _
 cell r i s := by
  unfold sV; split
  ·split
   ·exact .fail s 19 (fun _ h => absurd h (by decide))
   ·exact .refl _ _
  ·exact .fail s 19 (fun _ h => absurd h (by decide))
 len s := .refl _ _
 call n _ _ h s := aBl n h s
 next s := by
  unfold BI; split
  ·split
   ·exact .fail s 20 (fun _ h => absurd h (by decide))
   ·rename_i v r hi
    exact ⟨.same rfl rfl rfl, fun k => ⟨k.fuel, k.cells, k.nS, k.steps, k.out, k.sT, k.deep, by have := k.input; rw [hi] at this; unfold few at this ⊢; simp at this; simp only; omega⟩, rfl⟩
  ·exact .refl _ _
 write {m1 m2} h s := by
  refine ⟨G0 (fun s => (h s).go) s, ?_, ?_⟩ <;> rw [b6] <;> have k1 := mW c s <;> rcases oB c s with ⟨h1, e⟩ | ⟨h1, h2, e⟩ | ⟨h1, h2, e⟩ <;> rw [e] at k1 ⊢
  ·exact id
  ·exact k1.ok
  ·intro k
   have k2 := k1.ok k
   simp only [if_true]
   rw [b6]
   have g := (h { s with steps := s.steps + 1 }).go.out
   have k3 := (h { s with steps := s.steps + 1 }).ok k2
   generalize m1 { s with steps := s.steps + 1 } = y at g k3
   obtain ⟨v, s1⟩ := y
   simp only at g k3
   show MOk c (writeEnd v s1).2
   unfold writeEnd
   rw [b6, mQ]
   have := k.out
   by_cases hc : s1.code = 0
   ·simp only [hc, decide_true, if_true, b6, wF, P5]
    exact ⟨k3.fuel, k3.cells, k3.nS, k3.steps, by simp only [List.length_append, List.length_singleton]; omega, k3.sT, k3.deep, k3.input⟩
   ·simp only [hc, decide_false, Bool.false_eq_true, if_false, wF]
    exact k3
  ·rfl
  ·exact k1.deep
  ·simp only [if_true]
   rw [b6]
   have d := (h { s with steps := s.steps + 1 }).deep
   generalize m1 { s with steps := s.steps + 1 } = y at d
   obtain ⟨v, s1⟩ := y
   simp only at d
   show (writeEnd v s1).2.deep = _
   unfold writeEnd
   rw [b6, mQ]
   by_cases hc : s1.code = 0
   ·simp only [hc, decide_true, if_true, b6, wF, P5]; exact d
   ·simp only [hc, decide_false, Bool.false_eq_true, if_false, wF]; exact d
theorem xP (c : Cfg) (N : Nat) : (ops c N).Rel (fun {α} (m _ : Mc α) => ∀ s, Kept c s (m s).2) (ops c N) := (IC c).all N
end Pg

namespace Pg
open Go
set_option linter.all false
theorem dE.rows {es es' : List (List AV)} {f : Bool} (hl : es.length = es'.length) (h : ∀ (i : Nat) e e', es[i]? = some e → es'[i]? = some e' → e.length = e'.length ∧ fA e e') : dE (.sl es f) (.sl es' false) := by
 intro I v r
 obtain ⟨a, cap, rfl, h1, h2, h3, h4, h5⟩ := r.uS
 rcases h5 with h5 | ⟨b, o, size, vss, rfl, R⟩
 ·subst h5
  have : es' = [] := by simpa using hl.symm
  subst this
  exact r.LQ
 ·have get : ∀ (i : Nat) e', es'[i]? = some e' → ∃ e, es[i]? = some e := fun i e' e1 => ⟨_, List.getElem?_eq_getElem (by
   rw [hl]
   rcases Nat.lt_or_ge i es'.length with h | h
   ·exact h
   ·rw [List.getElem?_eq_none h] at e1; cases e1)⟩
  rw [hl] at h1 ⊢
  refine Rd.rQ (es := es') (vss := vss) false h1 (fun h => by cases h) ⟨by rw [← R.len]; exact hl.symm, ?_, fun i vs j v e1 e2 => R.mem i vs j v e1 e2, R.one, ?_⟩
  ·intro i e' vs e1 e2
   obtain ⟨e, he⟩ := get i e' e1
   have := R.oC i e vs he e2
   exact ⟨by rw [← (h i e e' he e1).1]; exact this.1, this.2⟩
  ·intro i e' vs j c v e1 e2 e3 e4
   obtain ⟨e, he⟩ := get i e' e1
   have hs := R.oC i e vs he e2
   exact ((h i e e' he e1).2 I vs ⟨by rw [hs.1, hs.2], fun j c v e3 e4 => R.rd i e vs j c v he e2 e3 e4⟩).at_ j c v e3 e4
theorem dE.aFY {x y : List AV} {f : Bool} (hl : x.length = y.length) (h : fA x y) : dE (.sl [x] f) (.sl [y] false) := by
 refine dE.rows rfl fun i e e' h1 h2 => ?_
 cases i with
 | zero => simp at h1 h2; subst h1 h2; exact ⟨hl, h⟩
 | succ i => simp at h1
theorem dE.aFX {x y x' y' : List AV} {f : Bool} (hl : x.length = y.length) (h : fA x y) (hl' : x'.length = y'.length) (h' : fA x' y') : dE (.sl [x, x'] f) (.sl [y, y'] false) := by
 refine dE.rows rfl fun i e e' h1 h2 => ?_
 match i with
 | 0 => simp at h1 h2; subst h1 h2; exact ⟨hl, h⟩
 | 1 => simp at h1 h2; subst h1 h2; exact ⟨hl', h'⟩
 | i + 2 => simp at h1
end Pg

namespace Pg
open Go Go.Proofs.Tryz
set_option linter.all false
set_option maxHeartbeats 4000000
set_option maxRecDepth 4000
abbrev eInt (n : Int) : List AV := [.int .i64 n]
abbrev sM (st : Nat) (recs : List Rec) (fuel : Int) (s : MSt) (ov : AV) (f : Bool) : AObj := .blk [.ptr (some ⟨st, 0, none⟩), .sl (recs.map eB) false, .int .i64 s.code, ov, .int .i64 s.steps, .int .i64 s.deep, .int .i64 fuel, .sl (s.input.map eInt) f] 8 144
structure Mm (l : AHeap) (M st : Nat) (c : Cfg) (s : MSt) (cv ov : AV) (f : Bool) : Prop where
 hM : l M = some (sM st c.recs c.fuel s ov f)
 hS : l st = some (.blk [.int .i64 1048576, cv] 2 210)
 oc : OL l 2 1 cv (s.cells.map eInt)
 oo : OL l 2 1 ov (s.out.map eInt)
 nc1 : jS cv M
 nc2 : jS cv st
 no1 : jS ov M
 no2 : jS ov st
 nco : ∀ b n k, ov = .os b n k → jS cv b
 ne : M ≠ st
def Mem (l : AHeap) (M st : Nat) (c : Cfg) (s : MSt) : Prop := ∃ cv ov f, Mm l M st c s cv ov f
theorem Mm.hMj {s l : AHeap} (a : s.apart l) {M st : Nat} {c : Cfg} {x : MSt} {cv ov : AV} {f : Bool} (m : Mm l M st c x cv ov f) : (s.join l) M = some (sM st c.recs c.fuel x ov f) := AHeap.eT a _ _ m.hM
theorem Mm.hSj {s l : AHeap} (a : s.apart l) {M st : Nat} {c : Cfg} {x : MSt} {cv ov : AV} {f : Bool} (m : Mm l M st c x cv ov f) : (s.join l) st = some (.blk [.int .i64 1048576, cv] 2 210) := AHeap.eT a _ _ m.hS
theorem uA {h g : AHeap} {p : Nat} (hp : h p = none) (le : h.le g) (o : AObj) : h.le (g.upd p o) := by
 intro b x e
 by_cases hb : b = p
 ·subst hb; rw [hp] at e; cases e
 ·rw [aC _ _ _ hb]; exact le b x e
theorem kJ {s n l : AHeap} (a : s.apart l) (le : n.le s) : n.apart l := fun b o e => a b o (le b o e)
theorem n8 {n s l : AHeap} (le : n.le s) (a : s.apart l) : (n.join l).le (s.join l) := by
 intro b o e
 rcases AHeap.BL e with h | ⟨h1, h2⟩
 ·exact fP (le b o h)
 ·rw [sO (kX a h2)]; exact h2
theorem tcM [GI] {P : Program} {fn : FuncId} {args : List AV} {s l : AHeap} {M st : Nat} {c : Cfg} {x : MSt} {V : AV} {K' : AV → AHeap → Tok → Prop} (h : aD P fn args (s.join l) (fun v g => v = V ∧ ∃ l', g = s.join l' ∧ s.apart l' ∧ Mem l' M st c x)) (k : ∀ l', s.apart l' → Mem l' M st c x → K' V (s.join l') .go) : uG .go P fn args (s.join l) K' :=
 aW h fun v g ⟨hv, l', hg, a, m⟩ => by subst hv hg; exact k l' a m
theorem AS [GI] {s l : AHeap} {M st : Nat} {c : Cfg} {x : MSt} (a : s.apart l) (m : Mem l M st c x) (hx : MOk c x) (F N : Int) : aD prog 187 [.ptr (some ⟨st, 0, none⟩), .agg [.int .i64 F, .int .i64 N]] (s.join l) (fun v g => v = .bool (Pg.there x F N) ∧ g = s.join l) := by
 obtain ⟨cv, ov, f, m⟩ := m
 have hst := m.hSj a
 have hlen := m.oc.len (s.join l)
 have hcl := hx.cells
 simp only [List.length_map] at hlen
 refine RZ.calls (by simp) ?_
 delta RZ.c0
 simp only [go_sem,seval]
 by_cases h1 : 0 ≤ F
 case neg =>
  simp only [go_sem,seval, h1, ge_iff_le]
  exact .same ⟨by simp [Pg.there, h1], rfl⟩
 by_cases h2 : 0 < N
 case neg =>
  simp only [go_sem,seval, h1, h2, ge_iff_le, gt_iff_lt]
  exact .same ⟨by simp [Pg.there, h2], rfl⟩
 by_cases h3 : F < x.cells.length
 case neg =>
  simp only [go_sem,seval, h1, h2, h3, ge_iff_le, gt_iff_lt, hst, hlen]
  exact .same ⟨by simp [Pg.there, h3], rfl⟩
 have hw : IntKind.i64.wrap ((x.cells.length : Int) - F) = x.cells.length - F := wrap64 (by omega) (by omega)
 simp only [go_sem,seval, h1, h2, h3, ge_iff_le, gt_iff_lt, hst, hlen, hw]
 exact .same ⟨by simp [Pg.there, h1, h2, h3], rfl⟩
theorem C9 {x : MSt} {F N : Int} : Pg.there x F N = true ↔ 0 ≤ F ∧ 0 < N ∧ F < x.cells.length ∧ N ≤ x.cells.length - F := by
 simp [Pg.there, and_assoc]
theorem aC5 [GI] {s l : AHeap} {M st : Nat} {c : Cfg} {x : MSt} (a : s.apart l) (m : Mem l M st c x) : aD prog 233 [.ptr (some ⟨st, 0, none⟩)] (s.join l) (fun v g => v = .int .i64 x.cells.length ∧ g = s.join l) := by
 obtain ⟨cv, ov, f, m⟩ := m
 have hst := m.hSj a
 have hlen := m.oc.len (s.join l)
 simp only [List.length_map] at hlen
 refine RP.calls (by simp) ?_
 delta RP.c0
 simp only [go_sem,seval, hst, hlen]
 exact .same ⟨rfl, rfl⟩
theorem aBP [GI] {s l : AHeap} {M st : Nat} {c : Cfg} {x : MSt} (a : s.apart l) (m : Mem l M st c x) (hx : MOk c x) (F N i : Int) : aD prog 165 [.ptr (some ⟨st, 0, none⟩), .agg [.int .i64 F, .int .i64 N], .int .i64 i] (s.join l) (fun v g => v = (if Pg.there x F N = true then (if i < 0 ∨ N ≤ i then .tuple [.agg [.int .i64 0, .int .i64 0], .int .i64 19] else .tuple [.agg [.int .i64 (F + i), .int .i64 1], .int .i64 0]) else .tuple [.agg [.int .i64 0, .int .i64 0], .int .i64 13]) ∧ g = s.join l) := by
 have hcl := hx.cells
 refine SF.calls (by simp) ?_
 delta SF.c0
 simp only [go_sem,seval]
 refine aS fun p hp => ?_
 rw [bZ]
 simp only [go_sem,seval]
 refine tcE (AS (gO a _ (join_none hp).2) m hx F N) ?_
 by_cases ht : Pg.there x F N = true
 case neg =>
  simp only [go_sem,seval, ht, ← bZ]
  simp only [go_sem,seval, aA, aB]
  exact .forget (AHeap.b8 hp) ⟨by simp [ht], rfl⟩
 have hth := C9.1 ht
 simp only [go_sem,seval, ht, ← bZ]
 by_cases h1 : i < 0
 ·simp only [go_sem,seval, h1, aA, aB]
  exact .forget (AHeap.b8 hp) ⟨by simp [ht, h1], rfl⟩
 by_cases h2 : N ≤ i
 ·simp only [go_sem,seval, h1, h2, ge_iff_le, aA, aB]
  exact .forget (AHeap.b8 hp) ⟨by simp [ht, h2], rfl⟩
 have hw : IntKind.i64.wrap (F + i) = F + i := wrap64 (by omega) (by omega)
 simp only [go_sem,seval, h1, h2, ge_iff_le, aA, aB, hw]
 exact .forget (AHeap.b8 hp) ⟨by simp [ht, h1, h2], rfl⟩
theorem aC6 [GI] {s l : AHeap} {M st : Nat} {c : Cfg} {x : MSt} (a : s.apart l) (m : Mem l M st c x) (hx : MOk c x) (F N : Int) : aD prog 167 [.ptr (some ⟨st, 0, none⟩), .agg [.int .i64 F, .int .i64 N]] (s.join l) (fun v g => v = .tuple [.int .i64 (if Pg.there x F N = true then x.cells.getD F.toNat 0 else 0), .int .i64 (if Pg.there x F N = true then 0 else 13)] ∧ g = s.join l) := by
 have m0 := m
 obtain ⟨cv, ov, f, m⟩ := m
 have hst := m.hSj a
 refine SD.calls (by simp) ?_
 delta SD.c0
 simp only [go_sem,seval]
 refine tcE (AS a m0 hx F N) ?_
 by_cases ht : Pg.there x F N = true
 case neg =>
  simp only [go_sem,seval, ht]
  exact .same ⟨by simp [ht], rfl⟩
 have hth := C9.1 ht
 obtain ⟨i, rfl⟩ := Int.eq_ofNat_of_zero_le hth.1
 have hi : i < x.cells.length := by omega
 have hat : (x.cells.map eInt)[i]? = some [.int .i64 (x.cells.getD i 0)] := by simp [hi]
 obtain ⟨b, cs, tot, h1, h2, h3⟩ := (m.oc.of_le (AHeap.eT a)).at1 (k := .i64) hat
 simp only [go_sem,seval, ht, hst, h1, h2, h3]
 exact .same ⟨by simp [ht], rfl⟩
theorem Mm.setCell {l : AHeap} {M st : Nat} {c : Cfg} {x : MSt} {cv ov : AV} {f : Bool} (m : Mm l M st c x cv ov f) {i : Nat} (hi : i < x.cells.length) (n : Int) :
  ∃ b cs tot, aia 1 cv (.int .i64 i) = some (.ptr (some ⟨b, i * 1, none⟩)) ∧ l b = some (.blk cs tot 2) ∧ i * 1 + 1 ≤ cs.length ∧ Mm (l.upd b (.blk (bM cs (i * 1) [.int .i64 n]) tot 2)) M st c { x with cells := x.cells.set i n } cv ov f := by
 obtain ⟨b, cs, tot, k, cap, hcv, h1, h2, h3, h4⟩ := m.oc.store (k := .i64) (i := i) (by simpa using hi) (e' := [.int .i64 n]) rfl
 have hbM : b ≠ M := m.nc1 _ _ _ hcv
 have hbS : b ≠ st := m.nc2 _ _ _ hcv
 refine ⟨b, cs, tot, h1, h2, h3, by rw [aC _ _ _ hbM.symm]; exact m.hM, by rw [aC _ _ _ hbS.symm]; exact m.hS, by simpa [List.map_set] using h4, m.oo.upd (fun b' n' c' e hh => ?_) _, m.nc1, m.nc2, m.no1, m.no2, m.nco, m.ne⟩
 subst hh
 exact m.nco _ _ _ e _ _ _ hcv rfl
theorem RJ [GI] {s l : AHeap} {M st : Nat} {c : Cfg} {x : MSt} (a : s.apart l) (m : Mem l M st c x) (hx : MOk c x) (r : Int × Int) (n : Int) : aD prog 166 [.ptr (some ⟨st, 0, none⟩), .agg [.int .i64 r.1, .int .i64 r.2], .int .i64 n] (s.join l) (fun v g => v = .int .i64 (if Pg.there x r.1 r.2 = true then 0 else 13) ∧ ∃ l', g = s.join l' ∧ s.apart l' ∧ Mem l' M st c (rE r n x).2) := by
 have m0 := m
 obtain ⟨F, N⟩ := r
 obtain ⟨cv, ov, f, m⟩ := m
 have hst := m.hSj a
 refine SE.calls (by simp) ?_
 delta SE.c0
 simp only [go_sem,seval]
 refine tcE (AS a m0 hx F N) ?_
 by_cases ht : Pg.there x F N = true
 case neg =>
  simp only [go_sem,seval, ht]
  exact .same ⟨by simp [ht], l, rfl, a, by simpa [rE, ht] using m0⟩
 have hth := C9.1 ht
 obtain ⟨i, rfl⟩ := Int.eq_ofNat_of_zero_le hth.1
 obtain ⟨b, cs, tot, h1, h2, h3, h4⟩ := m.setCell (i := i) (by omega) n
 have h2j := (AHeap.eT a) _ _ h2
 have hsb := kX a h2
 have hb := h4.hSj (dH a _ hsb)
 simp only [go_sem,seval, ht, hst, h1, h2j, h3, eL _ _ hsb, hb]
 exact .same ⟨by simp [ht], _, rfl, dH a _ hsb, cv, ov, f, by simpa [rE, ht] using h4⟩
theorem Mm.aFW {l : AHeap} {M st : Nat} {c : Cfg} {x : MSt} {cv ov : AV} {f : Bool} (m : Mm l M st c x cv ov f) {cv' : AV} {cs : List Int} (o : OL l 2 1 cv' (cs.map eInt)) (n1 : jS cv' M) (n2 : jS cv' st) (n3 : ∀ b n k, ov = .os b n k → jS cv' b) : Mm (l.upd st (.blk [.int .i64 1048576, cv'] 2 210)) M st c { x with cells := cs } cv' ov f :=
 ⟨by rw [aC _ _ _ m.ne]; exact m.hM, aA _ _ _, o.upd n2 _, m.oo.upd m.no2 _, n1, n2, m.no1, m.no2, n3, m.ne⟩
theorem aC7 [GI] {s l : AHeap} {M st : Nat} {c : Cfg} {x : MSt} (a : s.apart l) (m : Mem l M st c x) (n : Nat) : aD prog 229 [.ptr (some ⟨st, 0, none⟩), .int .i64 n] (s.join l) (fun v g => v = .tuple [] ∧ ∃ l', g = s.join l' ∧ s.apart l' ∧ Mem l' M st c { x with cells := x.cells.take n }) := by
 have m0 := m
 obtain ⟨cv, ov, f, m⟩ := m
 have hst := m.hSj a
 have hlen := m.oc.len (s.join l)
 simp only [List.length_map] at hlen
 refine RT.calls (by simp) ?_
 delta RT.c0
 simp only [go_sem,seval, hst, hlen]
 by_cases hn : (n : Int) < x.cells.length
 case neg =>
  simp only [go_sem,seval, hn]
  exact .same ⟨rfl, l, rfl, a, by rw [List.take_of_length_le (by omega)]; exact m0⟩
 have hmx : ((0 : Int) > n) = False := by simp
 obtain ⟨v', h1, h2, h3⟩ := m.oc.cut (k := .i64) (n := n) (by omega) (by simp; omega)
 rw [Int.toNat_natCast, ← List.map_take] at h2
 have hss := kX a m.hS
 have hc := h2.cells
 simp only [go_sem,seval, hn, hst, hmx, h1, hc]
 rw [eL _ _ hss]
 exact .same ⟨rfl, _, rfl, dH a _ hss, v', ov, f, m.aFW h2 (h3 _ m.nc1) (h3 _ m.nc2) (fun b k z e => h3 _ (m.nco b k z e))⟩
theorem Mm.aBE {s l : AHeap} (a : s.apart l) {M st : Nat} {c : Cfg} {x : MSt} {cv ov : AV} {f : Bool} (m : Mm l M st c x cv ov f) {n : Nat} (n0 : n ≠ 0) (room : roomFor (x.cells.length + n) 8) {K : AV → AHeap → Tok → Prop}
  (k : ∀ v' l', s.apart l' → Mm l' M st c x cv ov f ∨ True → (Mm (l'.upd st (.blk [.int .i64 1048576, v'] 2 210)) M st c { x with cells := x.cells ++ List.replicate n 0 } v' ov f) → l' st = some (.blk [.int .i64 1048576, cv] 2 210) → v'.cells? = some [v'] → K v' (s.join l') .go) : jZ .go (s.join l) 2 1 8 cv n (List.replicate n (.int .i64 0)) K := by
 refine OL.HI a m.oc (new := List.replicate n [.int .i64 0]) (by simp) ?_ (by intro e he; rw [List.eq_of_mem_replicate he]; rfl) (by simpa using room) n0 (fun v' l' a' o' keep => ?_)
 ·clear room k n0
  induction n with
  | zero => rfl
  | succ n ih => simp [List.replicate_succ]
 have hk1 := keep M _ m.hM m.nc1
 have hk2 := keep st _ m.hS m.nc2
 have hoo : OL l' 2 1 ov (x.out.map eInt) := by
  rcases m.oo with h0 | ⟨b, cap, cs, h1, h2, h3⟩
  ·exact .inl h0
  ·exact .inr ⟨b, cap, cs, h1, (keep b _ h2 (m.nco _ _ _ h1)).1, h3⟩
 have hno : ∀ b n k, ov = .os b n k → jS v' b := by
  intro b n k e
  rcases m.oo with ⟨h0, _⟩ | ⟨b', cap, cs, h1, h2, h3⟩
  ·rw [h0] at e; cases e
  ·rw [h1] at e; cases e
   exact (keep b _ h2 (m.nco _ _ _ h1)).2
 have o2 : OL l' 2 1 v' ((x.cells ++ List.replicate n 0).map eInt) := by
  have : (x.cells ++ List.replicate n 0).map eInt = x.cells.map eInt ++ List.replicate n [AV.int .i64 0] := by simp [eInt]
  rw [this]; exact o'
 exact k v' l' a' (.inr trivial) ⟨by rw [aC _ _ _ m.ne]; exact hk1.1, aA _ _ _, o2.upd hk2.2 _, hoo.upd m.no2 _, hk1.2, hk2.2, m.no1, m.no2, hno, m.ne⟩ hk2.1 o'.cells
def nN (x : MSt) (n : Int) : (Int × Int) × Int × MSt :=
 if n < 1 then ((0, 0), 1, x) else if 1048576 - (x.cells.length : Int) < n then ((0, 0), 2, x) else (((x.cells.length : Int), n), 0, { x with cells := x.cells ++ List.replicate n.toNat 0 })
theorem aBL [GI] {s l : AHeap} {M st : Nat} {c : Cfg} {x : MSt} (a : s.apart l) (m : Mem l M st c x) (hx : MOk c x) (n : Int) : aD prog 123 [.ptr (some ⟨st, 0, none⟩), .int .i64 n] (s.join l) (fun v g =>
  v = .tuple [.agg [.int .i64 (nN x n).1.1, .int .i64 (nN x n).1.2], .int .i64 (nN x n).2.1] ∧ ∃ l', g = s.join l' ∧ s.apart l' ∧ Mem l' M st c (nN x n).2.2) := by
 have m0 := m
 obtain ⟨cv, ov, f, m⟩ := m
 have hcl := hx.cells
 have hst := m.hSj a
 have hlen := fun h => m.oc.len h
 simp only [List.length_map] at hlen
 refine TD.calls (by simp) ?_
 delta TD.c0
 simp only [go_sem,seval]
 refine aS fun p hp => ?_
 obtain ⟨hp1, hp2⟩ := join_none hp
 have hpst : st ≠ p := by intro hh; subst hh; rw [hst] at hp; cases hp
 by_cases h1 : n < 1
 ·simp only [go_sem,seval, h1, aA, aB]
  exact .forget (AHeap.b8 hp) ⟨by simp [nN, h1], l, rfl, a, by simpa [nN, h1] using m0⟩
 have hw : IntKind.i64.wrap (1048576 - (x.cells.length : Int)) = 1048576 - x.cells.length := wrap64 (by omega) (by omega)
 by_cases h2 : 1048576 - (x.cells.length : Int) < n
 ·simp only [go_sem,seval, h1, h2, gt_iff_lt, aC _ _ _ hpst, hst, hlen, hw, aA, aB]
  exact .forget (AHeap.b8 hp) ⟨by simp [nN, h1, h2], l, rfl, a, by simpa [nN, h1, h2] using m0⟩
 obtain ⟨k, rfl⟩ := Int.eq_ofNat_of_zero_le (show (0 : Int) ≤ n by omega)
 simp only [go_sem,seval, h1, h2, gt_iff_lt, aC _ _ _ hpst, hst, hlen, hw, aA, aB]
 refine ⟨by omega, by omega, by omega, ?_⟩
 rw [bZ, Int.toNat_natCast]
 refine m.aBE (gO a _ hp2) (by omega) (by unfold roomFor; omega) (fun v' l' a' _ m' hs' hc' => ?_)
 have hsj : ((s.upd p (.blk [.int .i64 0, .int .i64 0] 2 146)).join l') st = _ := AHeap.eT a' _ _ hs'
 have hs0 := kX a' hs'
 have hss : s st = none := by rw [← hs0, aC _ _ _ hpst]
 have hpj : ∀ o, (((s.upd p o).join l').upd st (.blk [.int .i64 1048576, v'] 2 210)) p = some o := fun o => by rw [aC _ _ _ hpst.symm]; exact fP (aA _ _ _)
 simp only [go_sem,seval, hsj, hc', hpj, aA]
 refine .forget ?_ ⟨by simp [nN, h1, h2], _, rfl, dH ?_ _ hss, v', ov, f, by simpa [nN, h1, h2] using m'⟩
 ·have hl' : l' p = none := a' p _ (aA _ _ _)
  refine uA ?_ ?_ _
  ·rw [sO hp1, aC _ _ _ hpst.symm]; exact hl'
  ·rw [eL _ _ hs0]
   exact n8 (AHeap.b8 hp1) (dH a' _ hs0)
 ·exact kJ a' (AHeap.b8 hp1)
end Pg

namespace Pg
open Go Go.Proofs.Tryz
set_option linter.all false
set_option maxHeartbeats 4000000
set_option maxRecDepth 4000
theorem Mm.bX {l : AHeap} {M st : Nat} {c : Cfg} {x : MSt} {cv ov : AV} {f : Bool} (m : Mm l M st c x cv ov f) {y : MSt} {f' : Bool} (hc : y.cells = x.cells) (ho : y.out = x.out) : Mm (l.upd M (sM st c.recs c.fuel y ov f')) M st c y cv ov f' :=
 ⟨aA _ _ _, by rw [aC _ _ _ m.ne.symm]; exact m.hS, by rw [hc]; exact m.oc.upd m.nc1 _, by rw [ho]; exact m.oo.upd m.no1 _, m.nc1, m.nc2, m.no1, m.no2, m.nco, m.ne⟩
theorem dS [GI] {s l : AHeap} {M st : Nat} {c : Cfg} {x : MSt} (a : s.apart l) (m : Mem l M st c x) : aD prog 75 [.ptr (some ⟨M, 0, none⟩)] (s.join l) (fun v g => v = .bool (decide (x.code = 0)) ∧ g = s.join l) := by
 obtain ⟨cv, ov, f, m⟩ := m
 have hM := m.hMj a
 refine F75.calls (by simp) ?_
 delta F75.c0
 simp only [go_sem,seval, hM]
 exact .same ⟨rfl, rfl⟩
theorem nB [GI] {s l : AHeap} {M st : Nat} {c : Cfg} {x : MSt} (a : s.apart l) (m : Mem l M st c x) (n : Int) : aD prog 125 [.ptr (some ⟨M, 0, none⟩), .int .i64 n] (s.join l) (fun v g => v = .tuple [] ∧ ∃ l', g = s.join l' ∧ s.apart l' ∧ Mem l' M st c (x.fail n)) := by
 have m0 := m
 obtain ⟨cv, ov, f, m⟩ := m
 have hM := m.hMj a
 have hs := kX a m.hM
 refine TB.calls (by simp) ?_
 delta TB.c0
 simp only [go_sem,seval, hM]
 by_cases hc : x.code = 0
 ·simp only [go_sem,seval, hc, hM]
  rw [eL _ _ hs]
  exact .same ⟨rfl, _, rfl, dH a _ hs, cv, ov, f, by have := m.bX (y := x.fail n) (f' := f) (by simp [MSt.fail, hc]) (by simp [MSt.fail, hc]); simpa [MSt.fail, hc, sM] using this⟩
 ·simp only [go_sem,seval, hc]
  exact .same ⟨rfl, l, rfl, a, by simpa [MSt.fail, hc] using m0⟩
theorem r7 [GI] {s l : AHeap} {M st : Nat} {c : Cfg} {x : MSt} (a : s.apart l) (m : Mem l M st c x) (hx : MOk c x) : aD prog 126 [.ptr (some ⟨M, 0, none⟩)] (s.join l) (fun v g => v = .bool (cD c x).1 ∧ ∃ l', g = s.join l' ∧ s.apart l' ∧ Mem l' M st c (cD c x).2) := by
 have m0 := m
 refine TA.calls (by simp) ?_
 delta TA.c0
 simp only [go_sem,seval]
 refine tcE (dS a m) ?_
 rcases oB c x with ⟨h1, e⟩ | ⟨h1, h2, e⟩ | ⟨h1, h2, e⟩
 ·simp only [go_sem,seval, h1]
  exact .same ⟨by rw [e], l, rfl, a, by rw [e]; exact m0⟩
 ·obtain ⟨cv, ov, f, m⟩ := m
  have hM := m.hMj a
  simp only [go_sem,seval, h1, hM, h2]
  refine tcM (nB a m0 21) fun l' a' m' => ?_
  simp only [go_sem,seval]
  exact .same ⟨by rw [e], l', rfl, a', by rw [e]; exact m'⟩
 ·obtain ⟨cv, ov, f, m⟩ := m
  have hM := m.hMj a
  have hs := kX a m.hM
  have h3 := hx.steps; have h4 := hx.fuel; have h5 := hx.nS
  have hw : IntKind.i64.wrap (x.steps + 1) = x.steps + 1 := wrap64 (by omega) (by omega)
  simp only [go_sem,seval, h1, hM, h2, hw]
  rw [eL _ _ hs]
  refine .same ⟨by rw [e], _, rfl, dH a _ hs, cv, ov, f, ?_⟩
  rw [e]
  have := m.bX (y := { x with steps := x.steps + 1 }) (f' := f) rfl rfl
  simpa only [sM, h1] using this
def aB6 (t : Typ) (l : List Rec) : Prop := ∀ r ∈ l, ¬ (t.kind = 4 ∧ r.name = t.name)
theorem aAC [GI] {s l : AHeap} {M st : Nat} {c : Cfg} {x : MSt} (a : s.apart l) (m : Mem l M st c x) (hr : few c.recs) (t : Typ) : aD prog 124 [.ptr (some ⟨M, 0, none⟩), .agg (bV t)] (s.join l) (fun v g => v = .int .i64 (nO c.recs t) ∧ g = s.join l) := by
 obtain ⟨cv, ov, f, m⟩ := m
 have hM := m.hMj a
 refine TC.calls (by simp) ?_
 delta TC.c0
 simp only [go_sem,seval]
 by_cases h1 : 0 < t.size
 ·simp only [go_sem,seval, h1, gt_iff_lt]
  exact .same ⟨by simp [nO, h1], rfl⟩
 simp only [go_sem,seval, h1, gt_iff_lt, hM]
 refine aX c.recs (fun pre post e g => aB6 t pre ∧ g = s.join l ∧ e = [(3, .ip (bV t) 0), (15, .sl (c.recs.map eB) false), (16, .int .i64 c.recs.length), (17, .int .i64 pre.length)]) (aF.env ?_) ⟨by simp [aB6], rfl, rfl⟩ ?_ ?_
 ·simp only [go_sem,seval]
 ·rintro pre r post e g hp ⟨hn, rfl, rfl⟩
  simp only [go_sem,seval, bI hp, aI (aK hp) (dG r)]
  have next : ¬ (t.kind = 4 ∧ r.name = t.name) → aB6 t (pre ++ [r]) := fun hr z hz => by
   rcases List.mem_append.1 hz with hz | hz
   ·exact hn z hz
   ·simp at hz; subst hz; exact hr
  by_cases hk : t.kind = 4
  case neg =>
   simp only [go_sem,seval, hk]
   refine ⟨_, _, aF.env ?_, next (fun h => hk h.1), rfl, rfl⟩
   simp only [go_sem,seval, aQ hr hp]
  by_cases hy : r.name = t.name
  case neg =>
   simp only [go_sem,seval, hk, hy]
   refine ⟨_, _, aF.env ?_, next (fun h => hy h.2), rfl, rfl⟩
   simp only [go_sem,seval, aQ hr hp]
  simp only [go_sem,seval, hk, hy]
  refine aM.same ?_
  simp only [go_sem,seval]
  refine .same ⟨?_, rfl⟩
  have hf : c.recs.find? (fun r => decide (t.kind = 4) && decide (r.name = t.name)) = some r := by
   rw [hp, List.find?_append]
   have : pre.find? (fun r => decide (t.kind = 4) && decide (r.name = t.name)) = none := List.find?_eq_none.2 fun z hz => by simpa using hn z hz
   rw [this]; simp [hk, hy]
  simp only [nO, h1, if_false, hf]
 ·rintro e g ⟨hn, rfl, rfl⟩
  simp only [go_sem,seval, bE]
  refine aM.same ?_
  simp only [go_sem,seval]
  refine .same ⟨?_, rfl⟩
  have hf : c.recs.find? (fun r => decide (t.kind = 4) && decide (r.name = t.name)) = none := List.find?_eq_none.2 fun z hz => by simpa using hn z hz
  simp only [nO, h1, if_false, hf]
theorem yO (c : Cfg) (t : Typ) (x : MSt) : mI c t x = ((nN x (nO c.recs t)).1, if (nN x (nO c.recs t)).2.1 = 0 then (nN x (nO c.recs t)).2.2 else (nN x (nO c.recs t)).2.2.fail 22) := by
 unfold mI nN
 split
 ·rfl
 ·split <;> rfl
theorem RN [GI] {s l : AHeap} {M st : Nat} {c : Cfg} {x : MSt} (a : s.apart l) (m : Mem l M st c x) (hx : MOk c x) (hr : few c.recs) (t : Typ) : aD prog 73 [.ptr (some ⟨M, 0, none⟩), .agg (bV t)] (s.join l) (fun v g => v = .agg [.int .i64 (mI c t x).1.1, .int .i64 (mI c t x).1.2] ∧ ∃ l', g = s.join l' ∧ s.apart l' ∧ Mem l' M st c (mI c t x).2) := by
 have m0 := m
 obtain ⟨cv, ov, f, m⟩ := m
 have hM := m.hMj a
 refine F73.calls (by simp) ?_
 delta F73.c0
 simp only [go_sem,seval]
 refine aS fun p hp => ?_
 obtain ⟨hp1, hp2⟩ := join_none hp
 have hMp : M ≠ p := by intro hh; subst hh; rw [hM] at hp; cases hp
 have aq := fun o => gO a o hp2
 have hMq := fun o => m.hMj (aq o)
 rw [bZ]
 simp only [go_sem,seval, hMq]
 refine tcE (aAC (aq _) m0 hr t) ?_
 simp only [go_sem,seval, hMq]
 refine tcM (aBL (aq _) m0 hx _) fun l' a' m' => ?_
 obtain ⟨cv', ov', f', m''⟩ := m'
 have hM' := m''.hMj a'
 simp only [go_sem,seval, hM']
 refine aS fun q hq => ?_
 have hMqq : M ≠ q := by intro hh; subst hh; rw [hM'] at hq; cases hq
 have hdel := fun o => fE _ q o hq
 simp only [go_sem,seval, aC _ _ _ hMqq, hM', aA, aB, hdel]
 have hl' : l' p = none := a' p _ (aA _ _ _)
 have hfin : ∀ (L : AHeap) (o : AObj), (s.upd p (.blk [.int .i64 0, .int .i64 0] 2 146)).apart L → (s.join L).le (((s.upd p (.blk [.int .i64 0, .int .i64 0] 2 146)).join L).upd p o) := fun L o aL => uA (by rw [sO hp1]; exact aL p _ (aA _ _ _)) (n8 (AHeap.b8 hp1) aL) _
 have hpp : ∀ L, ((s.upd p (.blk [.int .i64 0, .int .i64 0] 2 146)).join L) p = some (.blk [.int .i64 0, .int .i64 0] 2 146) := fun L => fP (aA _ _ _)
 by_cases hz : (nN x (nO c.recs t)).2.1 = 0
 ·simp only [go_sem,seval, hz, hpp, aA]
  refine .forget (hfin _ _ a') ⟨by rw [yO], l', rfl, kJ a' (AHeap.b8 hp1), ?_⟩
  rw [yO]; simp only [hz, if_true]; exact ⟨cv', ov', f', m''⟩
 ·simp only [go_sem,seval, hz]
  refine tcM (nB a' ⟨cv', ov', f', m''⟩ 22) fun l2 a2 m2 => ?_
  simp only [go_sem,seval, hpp, aA]
  refine .forget (hfin _ _ a2) ⟨by rw [yO], l2, rfl, kJ a2 (AHeap.b8 hp1), ?_⟩
  rw [yO]; simp only [hz, if_false]; exact m2
theorem pY [GI] (h : AHeap) (b : Bool) : aD prog 188 [.bool b] h (fun v g => v = .int .i64 (AQ b) ∧ g = h) := by
 refine RY.calls (by simp) ?_
 delta RY.c0
 cases b <;> simp only [go_sem,seval] <;> exact .same ⟨rfl, rfl⟩
theorem wV [GI] (h : AHeap) (op a b : Int) (hb : (op = 11 ∨ op = 12) → b ≠ 0) : aD prog 168 [.int .i64 op, .int .i64 a, .int .i64 b] h (fun v g => v = .int .i64 (pP op a b) ∧ g = h) := by
 refine SC.calls (by simp) ?_
 delta SC.c0
 by_cases h10 : op = 10
 ·simp only [go_sem,seval, h10]
  exact .same ⟨by simp [pP, h10], rfl⟩
 by_cases h11 : op = 11
 ·have hb0 := hb (by omega)
  simp only [go_sem,seval, h11, hb0]
  exact .same ⟨by simp [pP, h11], rfl⟩
 by_cases h12 : op = 12
 ·have hb0 := hb (by omega)
  simp only [go_sem,seval, h12, hb0]
  exact .same ⟨by simp [pP, h12], rfl⟩
 by_cases h15 : op = 15
 ·simp only [go_sem,seval, h15]
  exact .same ⟨by simp [pP, h15], rfl⟩
 by_cases h16 : op = 16
 ·simp only [go_sem,seval, h16]
  exact .same ⟨by simp [pP, h16], rfl⟩
 by_cases h13 : op = 13
 ·simp only [go_sem,seval, h13]
  exact .same ⟨by simp only [pP, h13]; rfl, rfl⟩
 by_cases h17 : op = 17
 ·simp only [go_sem,seval, h17]
  exact .same ⟨by simp only [pP, h17]; rfl, rfl⟩
 by_cases h19 : op = 19
 ·simp only [go_sem,seval, h19]
  refine tcE (pY _ _) ?_
  simp only [go_sem,seval]
  exact .same ⟨by simp [pP, h19], rfl⟩
 by_cases h20 : op = 20
 ·simp only [go_sem,seval, h20]
  refine tcE (pY _ _) ?_
  simp only [go_sem,seval]
  exact .same ⟨by simp [pP, h20], rfl⟩
 by_cases h21 : op = 21
 ·simp only [go_sem,seval, h21]
  refine tcE (pY _ _) ?_
  simp only [go_sem,seval]
  exact .same ⟨by simp [pP, h21], rfl⟩
 by_cases h22 : op = 22
 ·simp only [go_sem,seval, h22]
  refine tcE (pY _ _) ?_
  simp only [go_sem,seval]
  exact .same ⟨by simp [pP, h22], rfl⟩
 by_cases h23 : op = 23
 ·simp only [go_sem,seval, h23]
  refine tcE (pY _ _) ?_
  simp only [go_sem,seval]
  exact .same ⟨by simp [pP, h23], rfl⟩
 by_cases h24 : op = 24
 ·simp only [go_sem,seval, h24]
  refine tcE (pY _ _) ?_
  simp only [go_sem,seval]
  exact .same ⟨by simp [pP, h24], rfl⟩
 simp only [go_sem,seval, h10, h11, h12, h15, h16, h13, h17, h19, h20, h21, h22, h23, h24]
 exact .same ⟨by simp [pP, h10, h11, h12, h15, h16, h13, h17, h19, h20, h21, h22, h23, h24], rfl⟩
theorem Z0 [GI] {s l : AHeap} {M st : Nat} {c : Cfg} {x : MSt} (a : s.apart l) (m : Mem l M st c x) (hx : MOk c x) : aD prog 234 [.ptr (some ⟨M, 0, none⟩)] (s.join l) (fun v g => v = .bool (iV c x).1 ∧ ∃ l', g = s.join l' ∧ s.apart l' ∧ Mem l' M st c (iV c x).2) := by
 have he : iV c x = (if (cD c x).1 = true then qI (cD c x).2 else (false, (cD c x).2)) := by
  unfold iV; rw [b6]; cases (cD c x).1 <;> rfl
 have hd : (cD c x).2.deep = x.deep := by
  rcases oB c x with ⟨h1, e⟩ | ⟨h1, h2, e⟩ | ⟨h1, h2, e⟩ <;> rw [e]
  simp [MSt.fail, h1]
 refine RO.calls (by simp) ?_
 delta RO.c0
 simp only [go_sem,seval]
 refine tcM (r7 a m hx) fun l1 a1 m1 => ?_
 cases hs : (cD c x).1
 ·simp only [go_sem,seval]
  exact .same ⟨by rw [he, hs]; rfl, l1, rfl, a1, by rw [he, hs]; exact m1⟩
 have m0 := m1
 obtain ⟨cv, ov, f, m1⟩ := m1
 have hM := m1.hMj a1
 have hss := kX a1 m1.hM
 by_cases h64 : x.deep = 64
 ·simp only [go_sem,seval, hM, hd, h64]
  refine tcM (nB a1 m0 22) fun l2 a2 m2 => ?_
  simp only [go_sem,seval]
  have e2 : iV c x = (false, (cD c x).2.fail 22) := by rw [he, hs]; simp [qI, hd, h64]
  exact .same ⟨by rw [e2], l2, rfl, a2, by rw [e2]; exact m2⟩
 ·have hd0 := hx.sT; have hd1 := hx.deep
  have hw : IntKind.i64.wrap (x.deep + 1) = x.deep + 1 := wrap64 (by omega) (by omega)
  have e2 : iV c x = (true, { (cD c x).2 with deep := (cD c x).2.deep + 1 }) := by rw [he, hs]; simp [qI, hd, h64]
  simp only [go_sem,seval, hM, hd, h64, hw]
  rw [eL _ _ hss]
  refine .same ⟨by rw [e2], _, rfl, dH a1 _ hss, cv, ov, f, ?_⟩
  rw [e2]
  have := m1.bX (y := { (cD c x).2 with deep := (cD c x).2.deep + 1 }) (f' := f) rfl rfl
  simpa only [sM, hd] using this
theorem uP [GI] {s l : AHeap} {M st : Nat} {c : Cfg} {x : MSt} (a : s.apart l) (m : Mem l M st c x) (hx : MOk c x) (r : Int × Int) (n : Int) : aD prog 128 [.ptr (some ⟨M, 0, none⟩), .agg [.int .i64 r.1, .int .i64 r.2], .int .i64 n] (s.join l) (fun v g => v = .tuple [] ∧ ∃ l', g = s.join l' ∧ s.apart l' ∧ Mem l' M st c (pB r n x).2) := by
 refine S8.calls (by simp) ?_
 delta S8.c0
 simp only [go_sem,seval]
 refine tcE (dS a m) ?_
 have m0 := m
 obtain ⟨cv, ov, f, m⟩ := m
 have hM := m.hMj a
 by_cases hc : x.code = 0
 ·simp only [go_sem,seval, hc, hM]
  refine tcM (RJ a m0 hx r n) fun l' a' m' => ?_
  obtain ⟨cv2, ov2, f2, m2⟩ := m'
  have hM2 := m2.hMj a'
  have m' : Mem l' M st c (rE r n x).2 := ⟨cv2, ov2, f2, m2⟩
  simp only [go_sem,seval, hM2]
  have he : pB r n x = rE r n x := by simp [pB, hc]
  exact .same ⟨rfl, l', rfl, a', by rw [he]; exact m'⟩
 ·simp only [go_sem,seval, hc]
  exact .same ⟨rfl, l, rfl, a, by simpa [pB, hc] using m0⟩
theorem RM [GI] {s l : AHeap} {M st : Nat} {c : Cfg} {x : MSt} (a : s.apart l) (m : Mem l M st c x) : aD prog 30 [.ptr (some ⟨M, 0, none⟩)] (s.join l) (fun v g => ∃ ov, v = .agg [.int .i64 x.code, ov, .int .i64 x.steps] ∧ OL l 2 1 ov (x.out.map eInt) ∧ g = s.join l) := by
 obtain ⟨cv, ov, f, m⟩ := m
 have hM := m.hMj a
 have hc := m.oo.cells
 refine F30.calls (by simp) ?_
 delta F30.c0
 simp only [go_sem,seval]
 refine aS fun p hp => ?_
 have hMp : M ≠ p := by intro hh; subst hh; rw [hM] at hp; cases hp
 simp only [go_sem,seval, aC _ _ _ hMp, hM, hc, aA, aB]
 exact .forget (AHeap.b8 hp) ⟨ov, rfl, m.oo, rfl⟩
end Pg

namespace Pg
open Go Go.Proofs.Tryz
set_option linter.all false
set_option maxHeartbeats 4000000
set_option maxRecDepth 4000
abbrev Chn := List (Nat × Frm)
def hJ (mm : AV) : Chn → AV
 | [] => .ptr none
 | q :: r => .ip [mm, .map (some q.1), .sl (q.2.aH.map aU) false, hJ mm r] 0
abbrev eVA (v : VarAt) : List AV := [.int .i64 v.frm, .int .i64 v.len, .int .i64 v.t.kind, .int .i64 v.t.size, .str v.t.name]
abbrev eNm (p : ByteArray × VarAt) : AV × AV := (.str p.1, .agg (eVA p.2))
def Ch (s : AHeap) (ch : Chn) : Prop := ∀ q ∈ ch, s q.1 = some (.mp (q.2.names.map eNm))
theorem Ch.le {s n : AHeap} {ch : Chn} (h : Ch s ch) (le : s.le n) : Ch n ch := fun q hq => le _ _ (h q hq)
theorem Ch.sub {s : AHeap} {a b : Chn} (h : Ch s (a ++ b)) : Ch s b := fun q hq => h q (List.mem_append.2 (.inr hq))
abbrev bG (ch : Chn) : List Frm := ch.map (·.2)
theorem L9 (name : ByteArray) : ∀ l : Names, s9 [2] (.str name) (l.map eNm) = some ((xK name l).map fun v => .agg (eVA v))
 | [] => rfl
 | (k, v) :: r => by
  simp only [List.map_cons, s9, oI, l9, xK]
  by_cases h : name = k
  ·simp [h]
  ·simp [h, L9 name r]
theorem JL (name : ByteArray) (x : VarAt) : ∀ l : Names, tR [2] (.str name) (.agg (eVA x)) (l.map eNm) = some ((sJ name x l).map eNm)
 | [] => rfl
 | (k, v) :: r => by
  simp only [List.map_cons, tR, oI, l9, sJ]
  by_cases h : name = k
  ·simp [h]
  ·simp [h, JL name x r]
theorem C5 (name : ByteArray) : ∀ (a b : List Frm), (∀ f ∈ a, xK name f.names = none) → varOf name (a ++ b) = varOf name b
 | [], b, _ => rfl
 | f :: a, b, h => by
  simp only [List.cons_append, varOf, h f (by simp), Option.getD_none]
  exact C5 name a b (fun g hg => h g (by simp [hg]))
def aBd (name : ByteArray) (pre : Chn) : Prop := ∀ q ∈ pre, xK name q.2.names = none
theorem C0 [GI] {H : AHeap} {ch : Chn} (hc : Ch H ch) (mm : AV) (name : ByteArray) : aD prog 231 [hJ mm ch, .str name] H (fun v g => v = .tuple [.agg [.int .i64 (varOf name (bG ch)).frm, .int .i64 (varOf name (bG ch)).len], .agg (bV (varOf name (bG ch)).t)] ∧ g = H) := by
 refine RR.calls (by simp) ?_
 delta RR.c0
 simp only [go_sem,seval]
 refine aS fun p hp => ?_
 simp only [go_sem,seval]
 refine aS fun q hq => ?_
 have hpq := iF hq
 have hqH := fT hq
 simp only [go_sem,seval]
 refine aX ch (fun pre post e g => aBd name pre ∧ g = (H.upd p (.blk [.int .i64 0, .int .i64 0] 2 146)).upd q (.blk [.int .i64 0, .int .i64 0, .str noBytes] 3 51) ∧ e = [(1, .str name), (4, .ptr (some ⟨p, 0, none⟩)), (5, .ptr (some ⟨q, 0, none⟩)), (6, hJ mm post)]) (aF.env ?_) ⟨by simp [aBd], rfl, rfl⟩ ?_ ?_
 ·simp only [go_sem,seval]
 ·rintro pre x post e g hch ⟨hn, rfl, rfl⟩
  have hx := hc x (bJ hch)
  have hxp : x.1 ≠ p := by intro hh; rw [hh, hp] at hx; cases hx
  have hxq : x.1 ≠ q := by intro hh; rw [hh, hqH] at hx; cases hx
  have hxH : ∀ o1 o2, ((H.upd p o1).upd q o2) x.1 = some (.mp (x.2.names.map eNm)) := fun o1 o2 => by rw [aC _ _ _ hxq, aC _ _ _ hxp]; exact hx
  have hup : ∀ o1 o2, ((H.upd p o1).upd q o2) p = some o1 := fun o1 o2 => by rw [aC _ _ _ hpq, aA]
  have hcm : ∀ o1 o2 o3, ((H.upd p o1).upd q o2).upd p o3 = (H.upd p o3).upd q o2 := fun o1 o2 o3 => by rw [bH _ _ _ hpq.symm, aB]
  cases hg : xK name x.2.names with
  | none =>
   simp only [go_sem,seval, hJ, hxH, tS, pU, mM, L9, hg]
   refine ⟨_, _, aF.env ?_, fun z hz => ?_, rfl, rfl⟩
   ·simp only [go_sem,seval]
   ·rcases List.mem_append.1 hz with hz | hz
    ·exact hn z hz
    ·simp at hz; subst hz; exact hg
  | some v =>
   simp only [go_sem,seval, hJ, hxH, tS, pU, mM, L9, hg, hup, aA, hcm, aB]
   refine aM.same ?_
   simp only [go_sem,seval, hup, aA]
   have hv : varOf name (bG ch) = v := by
    rw [hch]
    show varOf name ((pre ++ x :: post).map (·.2)) = v
    rw [List.map_append, C5 name _ _ (fun f hf => by obtain ⟨z, hz, rfl⟩ := List.mem_map.1 hf; exact hn z hz)]
    simp [varOf, hg]
   exact .forget (AHeap.le_trans (AHeap.b8 hp) (uA (by rw [aC _ _ _ hpq.symm]; exact hqH) (AHeap.le_refl _) _)) ⟨by rw [hv]; rfl, rfl⟩
 ·rintro e g ⟨hn, rfl, rfl⟩
  have hup : ∀ o1 o2, ((H.upd p o1).upd q o2) p = some o1 := fun o1 o2 => by rw [aC _ _ _ hpq, aA]
  have hcm : ∀ o1 o2 o3, ((H.upd p o1).upd q o2).upd p o3 = (H.upd p o3).upd q o2 := fun o1 o2 o3 => by rw [bH _ _ _ hpq.symm, aB]
  simp only [go_sem,seval, hJ]
  refine aM.same ?_
  simp only [go_sem,seval, hup, aA, hcm, aB]
  have hv : varOf name (bG ch) = noVar := by
   have := C5 name (bG ch) [] (fun f hf => by obtain ⟨z, hz, rfl⟩ := List.mem_map.1 hf; exact hn z hz)
   rw [List.append_nil] at this
   rw [this]; rfl
  exact .forget (AHeap.le_trans (AHeap.b8 hp) (uA (by rw [aC _ _ _ hpq.symm]; exact hqH) (AHeap.le_refl _) _)) ⟨by rw [hv]; rfl, rfl⟩
def nU (name : ByteArray) : Chn → Option (Routine × Chn)
 | [] => none
 | q :: r => match q.2.aH.find? fun x => decide (x.name = name) with
  | some x => some (x, q :: r)
  | none => nU name r
theorem NB (name : ByteArray) : ∀ {ch : Chn} {x : Routine} {r : Chn}, nU name ch = some (x, r) → jT name (bG ch) = (x, bG r) ∧ ∃ a, ch = a ++ r
 | [], x, r, h => by simp [nU] at h
 | q :: l, x, r, h => by
  simp only [nU] at h
  split at h
  ·rename_i y hy
   simp only [Option.some.injEq, Prod.mk.injEq] at h
   obtain ⟨rfl, rfl⟩ := h
   exact ⟨by simp [bG, jT, hy], [], rfl⟩
  ·rename_i hn
   obtain ⟨h1, a, h2⟩ := NB name h
   refine ⟨?_, q :: a, by rw [h2]; rfl⟩
   simp only [bG, List.map_cons, jT, hn]
   exact h1
theorem A0 (name : ByteArray) : ∀ (a b : Chn), (∀ q ∈ a, ∀ x ∈ q.2.aH, ¬ x.name = name) → nU name (a ++ b) = nU name b
 | [], b, _ => rfl
 | q :: a, b, h => by
  have : q.2.aH.find? (fun x => decide (x.name = name)) = none := List.find?_eq_none.2 fun x hx => by simpa using h q (by simp) x hx
  simp only [List.cons_append, nU, this]
  exact A0 name a b (fun g hg => h g (by simp [hg]))
def P9 (name : ByteArray) (l : List Routine) : Prop := ∀ x ∈ l, ¬ x.name = name
def WT (name : ByteArray) (l : Chn) : Prop := ∀ q ∈ l, P9 name q.2.aH
theorem PQ [GI] {H : AHeap} {ch : Chn} (hc : Ch H ch) (hw : ∀ q ∈ ch, few q.2.aH) (mm : AV) (name : ByteArray) {x : Routine} {r : Chn} (hr : nU name ch = some (x, r)) : aD prog 232 [hJ mm ch, .str name] H (fun v g => v = .tuple [.agg (aU x), hJ mm r] ∧ g = H) := by
 refine RQ.calls (by simp) ?_
 delta RQ.c0
 simp only [go_sem,seval]
 refine aS fun p hp => ?_
 simp only [go_sem,seval]
 refine aX ch (fun pre post e g => WT name pre ∧ g = H.upd p (.blk [.sl [] true, .sl [] true, .str noBytes, .int .i64 0, .sl [] true, .sl [] true, .sl [] true, .sl [] true, .sl [] true] 9 114) ∧ e = [(1, .str name), (4, .ptr (some ⟨p, 0, none⟩)), (6, hJ mm post)]) (aF.env ?_) ⟨by simp [WT], rfl, rfl⟩ ?_ ?_
 ·simp only [go_sem,seval]
 ·rintro pre q post e g hch ⟨hn, rfl, rfl⟩
  have hq := hw q (bJ hch)
  simp only [go_sem,seval, hJ]
  refine aX q.2.aH (fun pre' post' e g => P9 name pre' ∧ g = H.upd p (.blk [.sl [] true, .sl [] true, .str noBytes, .int .i64 0, .sl [] true, .sl [] true, .sl [] true, .sl [] true, .sl [] true] 9 114) ∧ e = [(1, .str name), (4, .ptr (some ⟨p, 0, none⟩)), (6, hJ mm (q :: post)), (19, .sl (q.2.aH.map aU) false), (20, .int .i64 q.2.aH.length), (21, .int .i64 pre'.length)]) (aF.env ?_) ⟨by simp [P9], rfl, rfl⟩ ?_ ?_
  ·simp only [go_sem,seval, hJ]
  ·rintro pre' y post' e g hp' ⟨hn', rfl, rfl⟩
   simp only [go_sem,seval, bI hp', aI (aK hp') (bL y), yD]
   by_cases hy : y.name = name
   ·have hsp : ∀ a b c d e' f g h i, bM [a, b, c, d, e', f, g, h, i] 0 (aU y) = aU y := fun _ _ _ _ _ _ _ _ _ => by simp [bM, bL]
    simp only [go_sem,seval, hy, bL, lZ, aA, aB, hsp]
    refine aM.same ?_
    simp only [go_sem,seval]
    refine aM.same ?_
    simp only [go_sem,seval, aA, bL, lZ]
    have hfy : q.2.aH.find? (fun x => decide (x.name = name)) = some y := by
     rw [hp', List.find?_append]
     have : pre'.find? (fun x => decide (x.name = name)) = none := List.find?_eq_none.2 fun z hz => by simpa using hn' z hz
     rw [this]; simp [hy]
    have he := A0 name pre (q :: post) hn
    rw [← hch, hr] at he
    simp only [nU, hfy, Option.some.injEq, Prod.mk.injEq] at he
    obtain ⟨rfl, rfl⟩ := he
    exact .forget (AHeap.b8 hp) ⟨by simp [hJ], rfl⟩
   ·simp only [go_sem,seval, hy]
    refine ⟨_, _, aF.env ?_, fun z hz => ?_, rfl, rfl⟩
    ·simp only [go_sem,seval, aQ hq hp']
    ·rcases List.mem_append.1 hz with hz | hz
     ·exact hn' z hz
     ·simp at hz; subst hz; exact hy
  ·rintro e g ⟨hn', rfl, rfl⟩
   simp only [go_sem,seval, bE]
   refine aM.same ?_
   simp only [go_sem,seval, hJ]
   refine ⟨_, _, aF.env ?_, fun z hz => ?_, rfl, rfl⟩
   ·simp only [go_sem,seval]
   ·rcases List.mem_append.1 hz with hz | hz
    ·exact hn z hz
    ·simp at hz; subst hz; exact hn'
 ·rintro e g ⟨hn, rfl, rfl⟩
  have := A0 name ch [] hn
  rw [List.append_nil, hr] at this
  cases this
theorem NW [GI] {nm : Nat} {s : AHeap} {M st : Nat} {c : Cfg} (hr : few c.recs) (vars : List Var) (hv : few vars) (fl : Bool) (r : Chn) (F : Frm) (names0 : Names) : ∀ {l : AHeap} {x : MSt}, (s.upd nm (.mp (names0.map eNm))).apart l → Mem l M st c x → MOk c x →
  aD prog 28 [hJ (.ip [.ptr (some ⟨M, 0, none⟩)] 0) ((nm, F) :: r), .sl (vars.map dF) fl] ((s.upd nm (.mp (names0.map eNm))).join l) (fun v g => v = .tuple [] ∧ ∃ l', g = (s.upd nm (.mp ((gU c vars names0 x).1.map eNm))).join l' ∧ (s.upd nm (.mp ((gU c vars names0 x).1.map eNm))).apart l' ∧ Mem l' M st c (gU c vars names0 x).2) := by
 intro l x a m hx
 have hmpa : ∀ (n1 n2 : Names) (l : AHeap), (s.upd nm (.mp (n1.map eNm))).apart l → (s.upd nm (.mp (n2.map eNm))).apart l := fun n1 n2 l a b o e => by
  by_cases hb : b = nm
  ·subst hb; exact a b _ (aA _ _ _)
  ·rw [aC _ _ _ hb] at e; exact a b o (by rw [aC _ _ _ hb]; exact e)
 refine F28.calls (by simp) ?_
 delta F28.c0
 simp only [go_sem,seval]
 refine aX vars (fun pre post e g => ∃ names' x' l', gU c vars names0 x = gU c post names' x' ∧ g = (s.upd nm (.mp (names'.map eNm))).join l' ∧ (s.upd nm (.mp (names'.map eNm))).apart l' ∧ Mem l' M st c x' ∧ MOk c x' ∧ e = [(0, hJ (.ip [.ptr (some ⟨M, 0, none⟩)] 0) ((nm, F) :: r)), (6, .sl (vars.map dF) fl), (7, .int .i64 vars.length), (8, .int .i64 pre.length)]) (aF.env ?_) ⟨names0, x, l, rfl, rfl, a, m, hx, rfl⟩ ?_ ?_
 ·simp only [go_sem,seval]
 ·rintro pre v post e g hp ⟨names', x', l', he, rfl, a', m', hx', rfl⟩
  simp only [go_sem,seval, bI hp, aI (aK hp) (eO v), hJ, W9, E6, eO]
  refine tcM (RN a' m' hx' hr v.t) fun l2 a2 m2 => ?_
  have hnm : ((s.upd nm (.mp (names'.map eNm))).join l2) nm = some (.mp (names'.map eNm)) := fP (aA _ _ _)
  simp only [go_sem,seval]
  refine rS hnm (JL v.name ⟨(mI c v.t x').1.1, (mI c v.t x').1.2, v.t⟩ names') rfl ?_
  rw [bZ, aB]
  simp only [go_sem,seval]
  refine ⟨_, _, aF.env ?_, sJ v.name ⟨(mI c v.t x').1.1, (mI c v.t x').1.2, v.t⟩ names', (mI c v.t x').2, l2, ?_, rfl, hmpa _ _ _ a2, m2, (ID c v.t x').ok hx', rfl⟩
  ·simp only [go_sem,seval, aQ hv hp]
  ·rw [he]; rfl
 ·rintro e g ⟨names', x', l', he, rfl, a', m', hx', rfl⟩
  simp only [go_sem,seval, bE]
  refine aM.same ?_
  simp only [go_sem,seval]
  rw [he]
  exact .same ⟨rfl, l', rfl, a', m'⟩
end Pg

namespace Pg
open Go Go.Proofs.Tryz
set_option linter.all false
set_option maxHeartbeats 4000000
set_option maxRecDepth 4000
def sG (name : ByteArray) : List (List Routine) → Option (Routine × List (List Routine))
 | [] => none
 | l :: r => match l.find? fun x => decide (x.name = name) with
  | some x => some (x, l :: r)
  | none => sG name r
inductive EOk (sc : List (List Routine)) : Expr → Prop
 | mk (e : Expr) (hl : few e.l) (hop : 1 ≤ e.op ∧ e.op ≤ 24) (h1 : e.op = 5 ∨ e.op = 8 ∨ e.op = 9 → 1 ≤ e.l.length) (h2 : 10 ≤ e.op → 2 ≤ e.l.length)
   (hc : e.op = 7 → ∃ x r, sG e.name sc = some (x, r) ∧ x.params.length = e.l.length) (sub : ∀ y ∈ e.l, EOk sc y) : EOk sc e
inductive tT (sc : List (List Routine)) : Stmt → Prop
 | mk (x : Stmt) (he : few x.e) (hb : few x.body) (hels : few x.els) (h1 : x.op = 1 ∨ x.op = 2 ∨ x.op = 3 ∨ x.op = 4 ∨ x.op = 5 ∨ x.op = 8 → 1 ≤ x.e.length) (h2 : x.op = 6 → 2 ≤ x.e.length)
   (hp : x.op = 1 ∨ x.op = 7 → EOk sc x.p) (ee : ∀ y ∈ x.e, EOk sc y) (bb : ∀ y ∈ x.body, tT sc y) (es : ∀ y ∈ x.els, tT sc y) : tT sc x
mutual
def Stmt.wt : Stmt → Nat
 | ⟨before, aP, op, name, p, e, down, more, body, els, cO, cT⟩ => 8 + 4 * Expr.sz p + 4 * cI.sz e + aZ.wt body + aZ.wt els
def aZ.wt : List Stmt → Nat
 | [] => 1
 | x :: r => 2 + Stmt.wt x + aZ.wt r
end
theorem Stmt.OR (x : Stmt) : x.wt = 8 + 4 * Expr.sz x.p + 4 * cI.sz x.e + aZ.wt x.body + aZ.wt x.els := by obtain ⟨before, aP, op, name, p, e, down, more, body, els, cO, cT⟩ := x; rfl
inductive RL (C : Nat) : List (List Routine) → Routine → Prop
 | mk (sc : List (List Routine)) (x : Routine) (hb : ∀ y ∈ x.body, tT (x.inner :: sc) y) (hC : aZ.wt x.body ≤ C) (h1 : x.params.length ≤ 512) (h2 : few x.vars) (h3 : few x.inner) (h4 : few x.body) (hm : ∀ p ∈ x.params, p.mode = 0 ∨ p.mode = 1) (hi : ∀ y ∈ x.inner, RL C (x.inner :: sc) y) : RL C sc x
def vI (C : Nat) : List (List Routine) → Prop
 | [] => True
 | l :: r => few l ∧ (∀ x ∈ l, RL C (l :: r) x) ∧ vI C r
abbrev scs (ch : Chn) : List (List Routine) := ch.map (·.2.aH)
theorem vI.few {C : Nat} : ∀ {ch : Chn}, vI C (scs ch) → ∀ q ∈ ch, few q.2.aH
 | [], _, q, h => by simp at h
 | q' :: ch, h, q, hq => by
  rcases List.mem_cons.1 hq with rfl | hq
  ·exact h.1
  ·exact vI.few h.2.2 q hq
theorem vI.sub {C : Nat} : ∀ {a b : List (List Routine)}, vI C (a ++ b) → vI C b
 | [], _, h => h
 | _ :: a, _, h => vI.sub (a := a) h.2.2
theorem NA {name : ByteArray} : ∀ {ch : Chn} {x : Routine} {r : List (List Routine)}, sG name (scs ch) = some (x, r) → ∃ q, nU name ch = some (x, q) ∧ scs q = r ∧ ∃ f q', q = f :: q' ∧ x ∈ f.2.aH
 | [], x, r, h => by simp [sG] at h
 | q :: ch, x, r, h => by
  simp only [scs, List.map_cons, sG] at h
  split at h
  ·rename_i y hy
   simp only [Option.some.injEq, Prod.mk.injEq] at h
   obtain ⟨rfl, rfl⟩ := h
   exact ⟨q :: ch, by simp [nU, hy], rfl, q, ch, rfl, List.mem_of_find?_eq_some hy⟩
  ·rename_i hn
   obtain ⟨q', h1, h2⟩ := NA h
   exact ⟨q', by simp only [nU, hn]; exact h1, h2⟩
theorem EOk.at {sc : List (List Routine)} {e : Expr} (h : EOk sc e) {i : Nat} (hi : i < e.l.length) : ∃ y, e.l[i]? = some y ∧ e.at i = y ∧ EOk sc y ∧ y.sz + 2 ≤ e.sz := by
 refine ⟨e.l[i], List.getElem?_eq_getElem hi, by simp [Expr.at, hi], ?_, ?_⟩
 ·cases h with
  | mk _ _ _ _ _ _ sub => exact sub _ (List.getElem_mem hi)
 ·have := cI.dU (List.getElem_mem hi)
  rw [e.cY]; omega
theorem tT.at {sc : List (List Routine)} {x : Stmt} (h : tT sc x) {i : Nat} (hi : i < x.e.length) : ∃ y, x.e[i]? = some y ∧ x.at i = y ∧ EOk sc y ∧ 4 * y.sz + 8 ≤ x.wt := by
 refine ⟨x.e[i], List.getElem?_eq_getElem hi, by simp [Stmt.at, hi], ?_, ?_⟩
 ·cases h with
  | mk _ _ _ _ _ _ _ ee _ _ => exact ee _ (List.getElem_mem hi)
 ·have := cI.dU (List.getElem_mem hi)
  rw [x.OR]; omega
theorem FT {es : List Expr} {i : Nat} {y : Expr} (h : es[i]? = some y) : aia 5 (.sl (es.map aO) false) (.int .i64 (i : Int)) = some (.ip (aO y) 0) :=
 aI (by rw [List.getElem?_map, h]; rfl) (aR y)
theorem kY {es : List Expr} {y : Expr} (h : es[0]? = some y) : aia 5 (.sl (es.map aO) false) (.int .i64 0) = some (.ip (aO y) 0) := FT (i := 0) h
theorem FR {es : List Expr} {y : Expr} (h : es[1]? = some y) : aia 5 (.sl (es.map aO) false) (.int .i64 1) = some (.ip (aO y) 0) := FT (i := 1) h
structure jA (c : Cfg) (C M st : Nat) (s l : AHeap) (ch : Chn) (x : MSt) : Prop where
 a : s.apart l
 m : Mem l M st c x
 ok : MOk c x
 names : Ch s ch
 sc : vI C (scs ch)
 recs : few c.recs
 BO : ∀ r ∈ c.recs, few r.fields
 C1 : 1 ≤ C
def left (c : Cfg) (x : MSt) : Nat := (c.fuel - x.steps).toNat
theorem jA.next {c : Cfg} {C M st : Nat} {s l l' : AHeap} {ch : Chn} {x y : MSt} (h : jA c C M st s l ch x) (a : s.apart l') (m : Mem l' M st c y) (k : Kept c x y) : jA c C M st s l' ch y := ⟨a, m, k.ok h.ok, h.names, h.sc, h.recs, h.BO, h.C1⟩
theorem jA.up {c : Cfg} {C M st : Nat} {s l : AHeap} {ch : Chn} {x : MSt} (h : jA c C M st s l ch x) {p : Nat} (o : AObj) (h1 : s p = none) (h2 : l p = none) : jA c C M st (s.upd p o) l ch x := ⟨gO h.a o h2, h.m, h.ok, h.names.le (AHeap.b8 h1), h.sc, h.recs, h.BO, h.C1⟩
theorem Kept.left {c : Cfg} {x y : MSt} (k : Kept c x y) : left c y ≤ left c x := by have := k.go.up; unfold Pg.left; omega
abbrev scV (M : Nat) (ch : Chn) : AV := .iface 80 (hJ (.ip [.ptr (some ⟨M, 0, none⟩)] 0) ch)
abbrev QX (r : Int × Int) : AV := .agg [.int .i64 r.1, .int .i64 r.2]
abbrev To (c : Cfg) (M st : Nat) (s : AHeap) (V : AV) (y : MSt) : AV → AHeap → Prop := fun v g => v = V ∧ ∃ l', g = s.join l' ∧ s.apart l' ∧ Mem l' M st c y
structure Lv [GI] (c : Cfg) (C M st : Nat) (N : Nat) : Prop where
 place : ∀ {s l : AHeap} {ch : Chn} {x : MSt} {e : Expr}, jA c C M st s l ch x → EOk (scs ch) e → left c x * C + (4 * e.sz + 1) ≤ N →
  aD prog 127 [.ptr (some ⟨M, 0, none⟩), scV M ch, .agg (aO e)] (s.join l) (To c M st s (.tuple [QX ((ops c N).place (bG ch) e x).1.1, .agg (bV ((ops c N).place (bG ch) e x).1.2)]) ((ops c N).place (bG ch) e x).2)
 eval : ∀ {s l : AHeap} {ch : Chn} {x : MSt} {e : Expr}, jA c C M st s l ch x → EOk (scs ch) e → left c x * C + (4 * e.sz + 2) ≤ N →
  aD prog 129 [.ptr (some ⟨M, 0, none⟩), scV M ch, .agg (aO e)] (s.join l) (To c M st s (.int .i64 ((ops c N).eval (bG ch) e x).1) ((ops c N).eval (bG ch) e x).2)
 call : ∀ {s l : AHeap} {ch : Chn} {x : MSt} {e : Expr}, jA c C M st s l ch x → EOk (scs ch) e → e.op = 7 → left c x * C + (4 * e.sz + 1) ≤ N →
  aD prog 230 [hJ (.ip [.ptr (some ⟨M, 0, none⟩)] 0) ch, .agg (aO e)] (s.join l) (To c M st s (.int .i64 ((ops c N).call (bG ch) e x).1) ((ops c N).call (bG ch) e x).2)
 run : ∀ {s l : AHeap} {ch : Chn} {x : MSt} {b : List Stmt} {fl : Bool}, jA c C M st s l ch x → few b → (∀ y ∈ b, tT (scs ch) y) → left c x * C + aZ.wt b ≤ N →
  aD prog 29 [.ptr (some ⟨M, 0, none⟩), scV M ch, .sl (b.map bA) fl] (s.join l) (To c M st s (.tuple [.int .i64 ((ops c N).run (bG ch) b x).1.1, .bool ((ops c N).run (bG ch) b x).1.2]) ((ops c N).run (bG ch) b x).2)
 stmt : ∀ {s l : AHeap} {ch : Chn} {x : MSt} {y : Stmt}, jA c C M st s l ch x → tT (scs ch) y → left c x * C + Stmt.wt y ≤ N →
  aD prog 74 [.ptr (some ⟨M, 0, none⟩), scV M ch, .agg (bA y)] (s.join l) (To c M st s (.tuple [.int .i64 ((ops c N).stmt (bG ch) y x).1.1, .bool ((ops c N).stmt (bG ch) y x).1.2]) ((ops c N).stmt (bG ch) y x).2)
theorem fG (c : Cfg) (N : Nat) : (∀ ch e x, Kept c x ((ops c N).place ch e x).2) ∧ (∀ ch e x, Kept c x ((ops c N).eval ch e x).2) ∧ (∀ ch e x, Kept c x ((ops c N).call ch e x).2) ∧ (∀ ch b x, Kept c x ((ops c N).run ch b x).2) ∧ (∀ ch y x, Kept c x ((ops c N).stmt ch y x).2) :=
 ⟨fun ch e => (xP c N).place ch e, fun ch e => (xP c N).eval ch e, fun ch e => (xP c N).call ch e, fun ch e => (xP c N).run ch e, fun ch e => (xP c N).stmt ch e⟩
theorem aCQ (o : Ops) (ch : List Frm) (e : Expr) (x : MSt) : sQ o ch e x = if x.code = 0 then (
  if 1 ≤ e.op ∧ e.op ≤ 3 then (e.n, x)
  else if 4 ≤ e.op ∧ e.op ≤ 6 then getM (o.place ch e x).1.1 (o.place ch e x).2
  else if e.op = 7 then o.call ch e x
  else if e.op = 8 then (wr (0 - (o.eval ch (e.at 0) x).1), (o.eval ch (e.at 0) x).2)
  else if e.op = 9 then (wr (1 - (o.eval ch (e.at 0) x).1), (o.eval ch (e.at 0) x).2)
  else wW o ch e x) else (0, x) := by
 unfold sQ
 rw [b6, mQ]
 by_cases hc : x.code = 0
 ·simp only [hc, decide_true, if_true]
  split
  ·rfl
  ·split
   ·rfl
   ·split
    ·rfl
    ·split
     ·rfl
     ·split <;> rfl
 ·simp only [hc, decide_false, Bool.false_eq_true, if_false]; rfl
theorem aDO (o : Ops) (ch : List Frm) (e : Expr) (x : MSt) : wW o ch e x =
    (let r := o.eval ch (e.at 0) x
     if (e.op = 14 ∧ r.1 = 0) ∨ (e.op = 18 ∧ r.1 = 1) then r else
     let q := o.eval ch (e.at 1) r.2
     if (e.op = 11 ∨ e.op = 12) ∧ q.1 = 0 then (0, q.2.fail 19) else if q.2.code = 0 then (pP e.op r.1 q.1, q.2) else (0, q.2)) := by
  unfold wW
  rw [b6]
  simp only
  split
  · rfl
  · rw [b6]
    split
    · rfl
    · rw [b6, mQ]
      by_cases hc : (o.eval ch (e.at 1) (o.eval ch (e.at 0) x).2).2.code = 0
      · simp only [hc, decide_true, if_true]; rfl
      · simp only [hc, decide_false, Bool.false_eq_true, if_false]; rfl
theorem aBN [GI] {c : Cfg} {C M st N : Nat} (L : Lv c C M st N) {s l : AHeap} {ch : Chn} {x : MSt} {e : Expr} (h : jA c C M st s l ch x) (he : EOk (scs ch) e) (hN : left c x * C + (4 * e.sz + 2) ≤ N + 1) :
  aD prog 129 [.ptr (some ⟨M, 0, none⟩), scV M ch, .agg (aO e)] (s.join l) (To c M st s (.int .i64 ((ops c (N + 1)).eval (bG ch) e x).1) ((ops c (N + 1)).eval (bG ch) e x).2) := by
 have hR : (ops c (N + 1)).eval (bG ch) e x = sQ (ops c N) (bG ch) e x := rfl
 rw [aCQ] at hR
 generalize (ops c (N + 1)).eval (bG ch) e x = R at hR ⊢
 obtain ⟨k1, k2, k3, k4, k5⟩ := fG c N
 have he0 := he
 cases he with
 | mk _ hl hop h1 h2 hcl sub =>
 refine S7.calls (by simp) ?_
 delta S7.c0
 simp only [go_sem,seval]
 refine tcE (dS h.a h.m) ?_
 by_cases hc : x.code = 0
 case neg =>
  simp only [go_sem,seval, hc]
  rw [if_neg hc] at hR
  exact .same ⟨by rw [hR], l, rfl, h.a, by rw [hR]; exact h.m⟩
 rw [if_pos hc] at hR
 by_cases o1 : e.op = 1
 ·simp only [go_sem,seval, hc, o1, dL, EI]
  rw [if_pos (by omega)] at hR
  exact .same ⟨by rw [hR], l, rfl, h.a, by rw [hR]; exact h.m⟩
 by_cases o2 : e.op = 2
 ·simp only [go_sem,seval, hc, o1, o2, dL, EI]
  rw [if_pos (by omega)] at hR
  exact .same ⟨by rw [hR], l, rfl, h.a, by rw [hR]; exact h.m⟩
 by_cases o3 : e.op = 3
 ·simp only [go_sem,seval, hc, o1, o2, o3, dL, EI]
  rw [if_pos (by omega)] at hR
  exact .same ⟨by rw [hR], l, rfl, h.a, by rw [hR]; exact h.m⟩
 rw [if_neg (by omega)] at hR
 by_cases o46 : e.op = 4 ∨ e.op = 5 ∨ e.op = 6
 ·rw [if_pos (by omega)] at hR
  rcases o46 with o4 | o4 | o4 <;> simp only [go_sem,seval, hc, o1, o2, o3, o4, dL, aR, bO]
  all_goals
   refine tcM (L.place h he0 (by omega)) fun l1 a1 m1 => ?_
   have kp := k1 (bG ch) e x
   generalize (ops c N).place (bG ch) e x = P at hR m1 kp
   obtain ⟨⟨r, t⟩, y⟩ := P
   have h1 := h.next a1 m1 kp
   obtain ⟨cv, ov, f, m⟩ := m1
   have hM := m.hMj a1
   simp only [go_sem,seval]
   refine aS fun p hp => ?_
   simp only [go_sem,seval]
   refine aS fun q hq => ?_
   have hpq := iF hq
   have hqH := fT hq
   have hMp : M ≠ p := by intro hh; subst hh; rw [hM] at hp; cases hp
   have hMq : M ≠ q := by intro hh; subst hh; rw [hM] at hqH; cases hqH
   have hup : ∀ (H : AHeap) o1 o2, ((H.upd p o1).upd q o2) p = some o1 := fun H o1 o2 => by rw [aC _ _ _ hpq, aA]
   have hcm : ∀ (H : AHeap) o1 o2 o3, ((H.upd p o1).upd q o2).upd p o3 = (H.upd p o3).upd q o2 := fun H o1 o2 o3 => by rw [bH _ _ _ hpq.symm, aB]
   obtain ⟨hp1, hp2⟩ := join_none hp
   obtain ⟨hq1, hq2⟩ := join_none hqH
   have hu := (h1.up (.blk [.int .i64 r.1, .int .i64 r.2] 2 146) hp1 hp2).up (.blk (bV t) 3 51) (p := q) (by rw [aC _ _ _ hpq.symm]; exact hq1) hq2
   have hgm := aC6 hu.a hu.m hu.ok r.1 r.2
   rw [← bZ, ← bZ] at hgm
   simp only [go_sem,seval, aA, hup, hcm, aB, aC _ _ _ hMp, aC _ _ _ hMq, hM]
   refine tcE (hgm) ?_
   simp only [go_sem,seval, aA, hup, hcm, aB, aC _ _ _ hMp, aC _ _ _ hMq, hM]
   refine .forget ?_ ⟨by rw [hR]; rfl, l1, rfl, a1, by rw [hR]; exact h1.m⟩
   exact AHeap.le_trans (AHeap.b8 hp) (AHeap.b8 (by rw [aC _ _ _ hpq.symm]; exact hqH))
 rw [if_neg (by omega)] at hR
 have o4 : ¬ e.op = 4 := fun h => o46 (.inl h)
 have o5 : ¬ e.op = 5 := fun h => o46 (.inr (.inl h))
 have o6 : ¬ e.op = 6 := fun h => o46 (.inr (.inr h))
 by_cases o7 : e.op = 7
 ·rw [if_pos o7] at hR
  simp only [go_sem,seval, hc, o1, o2, o3, o4, o5, o6, o7, dL, aR, bO]
  refine L7 (f := 230) (by kernel_rfl) (by kernel_rfl) ?_
  refine tcM (L.call h he0 o7 (by omega)) fun l1 a1 m1 => ?_
  simp only [go_sem,seval]
  exact .same ⟨by rw [hR], l1, rfl, a1, by rw [hR]; exact m1⟩
 rw [if_neg o7] at hR
 by_cases o8 : e.op = 8
 ·rw [if_pos o8] at hR
  obtain ⟨y0, hy0, ha0, hk0, hz0⟩ := he0.at (i := 0) (by have := h1 (by omega); omega)
  rw [ha0] at hR
  simp only [go_sem,seval, hc, o1, o2, o3, o4, o5, o6, o7, o8, dL, hO, aR, bO, kY hy0]
  refine tcM (L.eval h hk0 (by omega)) fun l1 a1 m1 => ?_
  simp only [go_sem,seval]
  exact .same ⟨by rw [hR], l1, rfl, a1, by rw [hR]; exact m1⟩
 rw [if_neg o8] at hR
 by_cases o9 : e.op = 9
 ·rw [if_pos o9] at hR
  obtain ⟨y0, hy0, ha0, hk0, hz0⟩ := he0.at (i := 0) (by have := h1 (by omega); omega)
  rw [ha0] at hR
  simp only [go_sem,seval, hc, o1, o2, o3, o4, o5, o6, o7, o8, o9, dL, hO, aR, bO, kY hy0]
  refine tcM (L.eval h hk0 (by omega)) fun l1 a1 m1 => ?_
  simp only [go_sem,seval]
  exact .same ⟨by rw [hR], l1, rfl, a1, by rw [hR]; exact m1⟩
 rw [if_neg o9, aDO] at hR
 obtain ⟨y0, hy0, ha0, hk0, hz0⟩ := he0.at (i := 0) (by have := h2 (by omega); omega)
 obtain ⟨y1, hy1, ha1, hk1, hz1⟩ := he0.at (i := 1) (by have := h2 (by omega); omega)
 rw [ha0, ha1] at hR
 simp only [go_sem,seval, hc, o1, o2, o3, o4, o5, o6, o7, o8, o9, dL, hO, aR, bO, kY hy0]
 refine tcM (L.eval h hk0 (by omega)) fun l1 a1 m1 => ?_
 have kA := k2 (bG ch) y0 x
 generalize (ops c N).eval (bG ch) y0 x = A at hR m1 kA ⊢
 obtain ⟨a, xa⟩ := A
 have hA := h.next a1 m1 kA
 have lA := Nat.mul_le_mul_right C kA.left
 simp only at hR
 by_cases hs : (e.op = 14 ∧ a = 0) ∨ (e.op = 18 ∧ a = 1)
 ·rw [if_pos hs] at hR
  rcases hs with ⟨o14, ha⟩ | ⟨o18, ha⟩
  ·simp only [go_sem,seval, o14, ha, dL]
   exact .same ⟨by rw [hR, ha], l1, rfl, a1, by rw [hR]; exact m1⟩
  ·simp only [go_sem,seval, o18, ha, dL]
   exact .same ⟨by rw [hR, ha], l1, rfl, a1, by rw [hR]; exact m1⟩
 rw [if_neg hs] at hR
 have kB := k2 (bG ch) y1 xa
 have lB := L.eval hA hk1 (by omega)
 generalize (ops c N).eval (bG ch) y1 xa = B at hR kB lB
 obtain ⟨b, xb⟩ := B
 simp only at hR lB
 rcases (show (e.op = 14 ∧ ¬ a = 0) ∨ (¬ e.op = 14 ∧ e.op = 18 ∧ ¬ a = 1) ∨ (¬ e.op = 14 ∧ ¬ e.op = 18) by omega) with ⟨o14, ha⟩ | ⟨o14, o18, ha⟩ | ⟨o14, o18⟩
 ·rw [if_neg (by omega)] at hR
  simp only [go_sem,seval, o14, ha, dL, hO, aR, bO, FR hy1]
  refine tcM lB fun l2 a2 m2 => ?_
  simp only [go_sem,seval, o14, dL]
  refine tcE (dS a2 m2) ?_
  by_cases hcb : xb.code = 0
  ·rw [if_pos hcb] at hR
   simp only [go_sem,seval, hcb, o14, dL]
   refine tcE (wV _ 14 a b (by omega)) ?_
   simp only [go_sem,seval]
   exact .same ⟨by rw [hR, o14], l2, rfl, a2, by rw [hR]; exact m2⟩
  ·rw [if_neg hcb] at hR
   simp only [go_sem,seval, hcb]
   exact .same ⟨by rw [hR], l2, rfl, a2, by rw [hR]; exact m2⟩
 ·rw [if_neg (by omega)] at hR
  simp only [go_sem,seval, o18, ha, dL, hO, aR, bO, FR hy1]
  refine tcM lB fun l2 a2 m2 => ?_
  simp only [go_sem,seval, o18, dL]
  refine tcE (dS a2 m2) ?_
  by_cases hcb : xb.code = 0
  ·rw [if_pos hcb] at hR
   simp only [go_sem,seval, hcb, o18, dL]
   refine tcE (wV _ 18 a b (by omega)) ?_
   simp only [go_sem,seval]
   exact .same ⟨by rw [hR, o18], l2, rfl, a2, by rw [hR]; exact m2⟩
  ·rw [if_neg hcb] at hR
   simp only [go_sem,seval, hcb]
   exact .same ⟨by rw [hR], l2, rfl, a2, by rw [hR]; exact m2⟩
 ·simp only [go_sem,seval, o14, o18, dL, hO, aR, bO, FR hy1]
  refine tcM lB fun l2 a2 m2 => ?_
  by_cases hz : (e.op = 11 ∨ e.op = 12) ∧ b = 0
  ·rw [if_pos hz] at hR
   obtain ⟨ho, hb⟩ := hz
   have fin : ∀ l3 : AHeap, s.apart l3 → Mem l3 M st c (xb.fail 19) → ∀ n : Int, n = 0 → eE (To c M st s (.int .i64 R.1) R.2) (.int .i64 n) (s.join l3) := fun l3 a3 m3 n hn => .same ⟨by rw [hR, hn], l3, rfl, a3, by rw [hR]; exact m3⟩
   rcases ho with o | o <;> simp only [go_sem,seval, o, hb, dL]
   all_goals
    refine tcM (nB a2 m2 19) fun l3 a3 m3 => ?_
    simp only [go_sem,seval]
    have hcf : ¬ (xb.fail 19).code = 0 := by rw [EE]; split <;> first | decide | assumption
    refine tcE (dS a3 m3) ?_
    simp only [go_sem,seval, hcf]
    exact fin l3 a3 m3 0 rfl
  ·rw [if_neg hz] at hR
   rcases (show (e.op = 11 ∧ ¬ b = 0) ∨ (e.op = 12 ∧ ¬ b = 0) ∨ (¬ e.op = 11 ∧ ¬ e.op = 12) by omega) with ⟨o, hb⟩ | ⟨o, hb⟩ | ⟨o11, o12⟩
   ·simp only [go_sem,seval, o, hb, dL]
    refine tcE (dS a2 m2) ?_
    by_cases hcb : xb.code = 0
    ·rw [if_pos hcb] at hR
     simp only [go_sem,seval, hcb, o, dL]
     refine tcE (wV _ 11 a b (fun _ => hb)) ?_
     simp only [go_sem,seval]
     exact .same ⟨by rw [hR, o], l2, rfl, a2, by rw [hR]; exact m2⟩
    ·rw [if_neg hcb] at hR
     simp only [go_sem,seval, hcb]
     exact .same ⟨by rw [hR], l2, rfl, a2, by rw [hR]; exact m2⟩
   ·simp only [go_sem,seval, o, hb, dL]
    refine tcE (dS a2 m2) ?_
    by_cases hcb : xb.code = 0
    ·rw [if_pos hcb] at hR
     simp only [go_sem,seval, hcb, o, dL]
     refine tcE (wV _ 12 a b (fun _ => hb)) ?_
     simp only [go_sem,seval]
     exact .same ⟨by rw [hR, o], l2, rfl, a2, by rw [hR]; exact m2⟩
    ·rw [if_neg hcb] at hR
     simp only [go_sem,seval, hcb]
     exact .same ⟨by rw [hR], l2, rfl, a2, by rw [hR]; exact m2⟩
   ·simp only [go_sem,seval, o11, o12, dL]
    refine tcE (dS a2 m2) ?_
    by_cases hcb : xb.code = 0
    ·rw [if_pos hcb] at hR
     simp only [go_sem,seval, hcb, dL]
     refine tcE (wV _ e.op a b (by omega)) ?_
     simp only [go_sem,seval]
     exact .same ⟨by rw [hR], l2, rfl, a2, by rw [hR]; exact m2⟩
    ·rw [if_neg hcb] at hR
     simp only [go_sem,seval, hcb]
     exact .same ⟨by rw [hR], l2, rfl, a2, by rw [hR]; exact m2⟩
end Pg
