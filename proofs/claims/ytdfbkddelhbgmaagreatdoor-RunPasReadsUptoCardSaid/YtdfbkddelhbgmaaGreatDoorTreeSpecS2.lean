import Derived.Test.YtdfbkddelhbgmaaGreatDoorTreeS2
namespace Pg
open Go
set_option linter.all false
def bytes (s : ByteArray) : List UInt8 := s.data.toList
def letter (c : Nat) (first : Bool) : Bool := (decide (97 ≤ c) && decide (c ≤ 122)) || (!first && (decide (c = 95) || (decide (48 ≤ c) && decide (c ≤ 57))))
def letters : Bool → List UInt8 → Bool
 | _, [] => true
 | f, c :: r => letter c.toNat f && letters false r
def nameCode (s : ByteArray) : Int := if s = noBytes then 11 else if letters true (bytes s) then (if 32 < s.size then 3 else 0) else 11
def words0 : List ByteArray := [⟨#[97, 110, 100]⟩, ⟨#[97, 114, 114, 97, 121]⟩, ⟨#[98, 101, 103, 105, 110]⟩, ⟨#[98, 111, 111, 108, 101, 97, 110]⟩, ⟨#[99, 104, 97, 114]⟩, ⟨#[100, 105, 118]⟩, ⟨#[100, 111]⟩, ⟨#[100, 111, 119, 110, 116, 111]⟩, ⟨#[101, 108, 115, 101]⟩, ⟨#[101, 110, 100]⟩, ⟨#[102, 97, 108, 115, 101]⟩, ⟨#[102, 111, 114]⟩, ⟨#[102, 111, 114, 119, 97, 114, 100]⟩, ⟨#[102, 117, 110, 99, 116, 105, 111, 110]⟩, ⟨#[105, 102]⟩, ⟨#[105, 110, 116, 101, 103, 101, 114]⟩, ⟨#[109, 111, 100]⟩, ⟨#[110, 111, 116]⟩, ⟨#[111, 102]⟩, ⟨#[111, 114]⟩, ⟨#[112, 114, 111, 99, 101, 100, 117, 114, 101]⟩, ⟨#[112, 114, 111, 103, 114, 97, 109]⟩, ⟨#[114, 101, 97, 100]⟩, ⟨#[114, 101, 99, 111, 114, 100]⟩, ⟨#[114, 101, 112, 101, 97, 116]⟩, ⟨#[114, 101, 116, 117, 114, 110]⟩, ⟨#[116, 104, 101, 110]⟩, ⟨#[116, 111]⟩, ⟨#[116, 114, 117, 101]⟩, ⟨#[116, 121, 112, 101]⟩, ⟨#[117, 110, 116, 105, 108]⟩, ⟨#[118, 97, 114]⟩, ⟨#[119, 104, 105, 108, 101]⟩, ⟨#[119, 114, 105, 116, 101]⟩]
def among (s : ByteArray) (l : List ByteArray) : Bool := l.any fun x => decide (x = s)
def tName (s : ByteArray) : Bool := decide (nameCode s = 0) && !among s words0
def noteByte (c : Nat) : Bool := decide (c = 9) || decide (c = 10) || (decide (32 ≤ c) && decide (c ≤ 126))
def tNote (s : ByteArray) : Bool := decide (s.size ≤ 1024) && (bytes s).all fun c => noteByte c.toNat
def tNotes (l : List ByteArray) : Bool := l.all tNote && decide (l.length ≤ 512)
def tMarks (before trail : List ByteArray) : Bool := tNotes before && tNotes trail
def tTyp (t : Typ) : Bool := if t.kind = 4 then decide (t.size = 0) && tName t.name else decide (1 ≤ t.kind) && decide (t.kind ≤ 3) && decide (0 ≤ t.size) && decide (t.size ≤ 64) && decide (t.name = noBytes)
mutual
def deep : Nat → Expr → Nat
 | n, ⟨op, k, name, field, l⟩ => deeps n l + 1
def deeps : Nat → List Expr → Nat
 | 0, _ => 0
 | n + 1, [] => 0
 | n + 1, x :: r => max (if x.op = 25 then 0 else deep n x) (deeps (n + 1) r)
end
def partsOk (x : Expr) : Bool :=
 (if x.op = 1 then decide (0 ≤ x.n) else if x.op = 2 then decide (x.n = 0) || decide (x.n = 1) else if x.op = 3 then decide (0 ≤ x.n) && decide (x.n ≤ 255) else decide (x.n = 0)) &&
 (if 4 ≤ x.op ∧ x.op ≤ 7 then tName x.name else decide (x.name = noBytes)) &&
 (if x.op = 6 then tName x.field else decide (x.field = noBytes)) &&
 decide ((x.l.length : Int) = if x.op = 7 then (x.l.length : Int) else if x.op = 5 ∨ x.op = 8 ∨ x.op = 9 then 1 else if 10 ≤ x.op then 2 else 0)
mutual
def form : Nat → Expr → Bool
 | 0, _ => false
 | n + 1, ⟨op, k, name, field, l⟩ => decide (l.length ≤ 512) && decide (1 ≤ op) && decide (op ≤ 24) && partsOk ⟨op, k, name, field, l⟩ && forms n l
def forms : Nat → List Expr → Bool
 | _, [] => true
 | n, x :: r => !decide (x.op = 25) && form n x && forms n r
end
def tExpr (x : Expr) : Bool := form 48 x && decide (deep 99 x ≤ 48)
def tPlace (x : Expr) : Bool := decide (4 ≤ x.op) && decide (x.op ≤ 6) && tExpr x
def tNone (x : Expr) : Bool := decide (x.op = 0) && decide (x.n = 0) && decide (x.name = noBytes) && decide (x.field = noBytes) && decide (x.l.length = 0)
def sMarks (x : Stmt) : Bool := tMarks x.before x.trail && tNotes x.end1 && tNotes x.end2 && decide (1 ≤ x.op) && decide (x.op ≤ 9)
def sCount (x : Stmt) : Bool := decide ((if x.op = 6 then 2 else if x.op = 7 then 0 else if x.op = 9 then 0 else 1) ≤ x.e.length) && decide (x.e.length ≤ if x.op = 6 then 2 else if x.op = 7 then 0 else 1)
def sExpr (x : Stmt) (y : Expr) : Bool := tExpr y && !(decide (x.op = 2) && !decide (y.op = 7))
def sPlace (x : Stmt) : Bool := if x.op = 1 ∨ x.op = 7 then tPlace x.p else tNone x.p
def sName (x : Stmt) : Bool := if x.op = 6 then tName x.name else decide (x.name = noBytes) && !x.down
def sMore (x : Stmt) : Bool := !(x.more && !decide (x.op = 3)) && !(!x.more && (decide (0 < x.els.length) || decide (0 < x.end2.length)))
def sBody (x : Stmt) : Bool := !((decide (x.op < 3) || decide (6 < x.op)) && (decide (0 < x.body.length) || decide (0 < x.end1.length)))
def tStmt1 (x : Stmt) : Bool := sMarks x && sCount x && x.e.all (sExpr x) && sPlace x && sName x && sMore x && sBody x
mutual
def tStmt : Stmt → Int → Bool
 | ⟨before, trail, op, name, p, e, down, more, body, els, end1, end2⟩, d => decide (d ≤ 48) && tStmt1 ⟨before, trail, op, name, p, e, down, more, body, els, end1, end2⟩ && (tStmts body (d + 1) && decide (body.length ≤ 512)) && (tStmts els (d + 1) && decide (els.length ≤ 512))
def tStmts : List Stmt → Int → Bool
 | [], _ => true
 | x :: r, d => tStmt x d && tStmts r d
end
def tVar (v : Var) : Bool := tMarks v.before v.trail && tName v.name && tTyp v.t
def tVars (l : List Var) : Bool := l.all tVar && decide (l.length ≤ 512)
def tParam (p : Param) : Bool :=
 tName p.name && tTyp p.t && decide (0 ≤ p.mode) && decide (p.mode ≤ 1) && !(decide (p.mode = 0) && (!decide (p.t.size = 0) || decide (p.t.kind = 4)))
def tParams (l : List Param) : Bool := l.all tParam && decide (l.length ≤ 512)
mutual
def tRoutine : List ByteArray → Routine → Int → Bool
 | ahead, ⟨before, trail, name, result, params, vars, inner, body, endd⟩, d =>
  decide (d ≤ 48) && tMarks before trail && tNotes endd && tName name && decide (0 ≤ result) && decide (result ≤ 3) && !among name ahead && tParams params && tVars vars && (tRoutines [] inner (d + 1) && decide (inner.length ≤ 512)) && (tStmts body 1 && decide (body.length ≤ 512))
def tRoutines : List ByteArray → List Routine → Int → Bool
 | _, [], _ => true
 | ahead, x :: r, d => tRoutine ahead x d && tRoutines (ahead ++ [x.name]) r d
end
def tFld (f : Fld) : Bool := tMarks f.before f.trail && tName f.name && decide (1 ≤ f.kind) && decide (f.kind ≤ 3)
def tRec (r : Rec) : Bool := tMarks r.before r.trail && tNotes r.endd && tName r.name && !decide (r.fields.length = 0) && decide (r.fields.length ≤ 512) && r.fields.all tFld
def tPrg (p : Prg) : Bool := tName p.name && tNotes p.before && tNotes p.mid && tNotes p.after && tNotes p.endd && decide (p.recs.length ≤ 512) && p.recs.all tRec && tVars p.vars && (tRoutines [] p.routines 1 && decide (p.routines.length ≤ 512)) && (tStmts p.body 1 && decide (p.body.length ≤ 512))
end Pg
