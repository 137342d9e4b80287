import Derived.Test.YtdfbkddelhbgmaaGreatDoorTreeS3
namespace Pg
open Go
set_option linter.all false
def bytes (s : ByteArray) : List UInt8 := s.data.toList
def letter (c : Nat) (first : Bool) : Bool := (decide (97 ≤ c) && decide (c ≤ 122)) || (!first && (decide (c = 95) || (decide (48 ≤ c) && decide (c ≤ 57))))
def gK : Bool → List UInt8 → Bool
 | _, [] => true
 | f, c :: r => letter c.toNat f && gK false r
def jY (s : ByteArray) : Int := if s = noBytes then 11 else if gK true (bytes s) then (if 32 < s.size then 3 else 0) else 11
def words0 : List ByteArray := [⟨#[97, 110, 100]⟩, ⟨#[97, 114, 114, 97, 121]⟩, ⟨#[98, 101, 103, 105, 110]⟩, ⟨#[98, 111, 111, 108, 101, 97, 110]⟩, ⟨#[99, 104, 97, 114]⟩, ⟨#[100, 105, 118]⟩, ⟨#[100, 111]⟩, ⟨#[100, 111, 119, 110, 116, 111]⟩, ⟨#[101, 108, 115, 101]⟩, ⟨#[101, 110, 100]⟩, ⟨#[102, 97, 108, 115, 101]⟩, ⟨#[102, 111, 114]⟩, ⟨#[102, 111, 114, 119, 97, 114, 100]⟩, ⟨#[102, 117, 110, 99, 116, 105, 111, 110]⟩, ⟨#[105, 102]⟩, ⟨#[105, 110, 116, 101, 103, 101, 114]⟩, ⟨#[109, 111, 100]⟩, ⟨#[110, 111, 116]⟩, ⟨#[111, 102]⟩, ⟨#[111, 114]⟩, ⟨#[112, 114, 111, 99, 101, 100, 117, 114, 101]⟩, ⟨#[112, 114, 111, 103, 114, 97, 109]⟩, ⟨#[114, 101, 97, 100]⟩, ⟨#[114, 101, 99, 111, 114, 100]⟩, ⟨#[114, 101, 112, 101, 97, 116]⟩, ⟨#[114, 101, 116, 117, 114, 110]⟩, ⟨#[116, 104, 101, 110]⟩, ⟨#[116, 111]⟩, ⟨#[116, 114, 117, 101]⟩, ⟨#[116, 121, 112, 101]⟩, ⟨#[117, 110, 116, 105, 108]⟩, ⟨#[118, 97, 114]⟩, ⟨#[119, 104, 105, 108, 101]⟩, ⟨#[119, 114, 105, 116, 101]⟩]
def fY (s : ByteArray) (l : List ByteArray) : Bool := l.any fun x => decide (x = s)
def dK (s : ByteArray) : Bool := decide (jY s = 0) && !fY s words0
def nF (c : Nat) : Bool := decide (c = 9) || decide (c = 10) || (decide (32 ≤ c) && decide (c ≤ 126))
def vP (s : ByteArray) : Bool := decide (s.size ≤ 1024) && (bytes s).all fun c => nF c.toNat
def eU (l : List ByteArray) : Bool := l.all vP && decide (l.length ≤ 512)
def iH (before aP : List ByteArray) : Bool := eU before && eU aP
def mH (t : Typ) : Bool := if t.kind = 4 then decide (t.size = 0) && dK t.name else decide (1 ≤ t.kind) && decide (t.kind ≤ 3) && decide (0 ≤ t.size) && decide (t.size ≤ 64) && decide (t.name = noBytes)
mutual
def deep : Nat → Expr → Nat
 | n, ⟨op, k, name, field, l⟩ => kO n l + 1
def kO : Nat → List Expr → Nat
 | 0, _ => 0
 | n + 1, [] => 0
 | n + 1, x :: r => max (if x.op = 25 then 0 else deep n x) (kO (n + 1) r)
end
def eV (x : Expr) : Bool :=
 (if x.op = 1 then decide (0 ≤ x.n) else if x.op = 2 then decide (x.n = 0) || decide (x.n = 1) else if x.op = 3 then decide (0 ≤ x.n) && decide (x.n ≤ 255) else decide (x.n = 0)) &&
 (if 4 ≤ x.op ∧ x.op ≤ 7 then dK x.name else decide (x.name = noBytes)) &&
 (if x.op = 6 then dK x.field else decide (x.field = noBytes)) &&
 decide ((x.l.length : Int) = if x.op = 7 then (x.l.length : Int) else if x.op = 5 ∨ x.op = 8 ∨ x.op = 9 then 1 else if 10 ≤ x.op then 2 else 0)
mutual
def form : Nat → Expr → Bool
 | 0, _ => false
 | n + 1, ⟨op, k, name, field, l⟩ => decide (l.length ≤ 512) && decide (1 ≤ op) && decide (op ≤ 24) && eV ⟨op, k, name, field, l⟩ && gV n l
def gV : Nat → List Expr → Bool
 | _, [] => true
 | n, x :: r => !decide (x.op = 25) && form n x && gV n r
end
def nK (x : Expr) : Bool := form 48 x && decide (deep 99 x ≤ 48)
def j6 (x : Expr) : Bool := decide (4 ≤ x.op) && decide (x.op ≤ 6) && nK x
def kN (x : Expr) : Bool := decide (x.op = 0) && decide (x.n = 0) && decide (x.name = noBytes) && decide (x.field = noBytes) && decide (x.l.length = 0)
def wZ (x : Stmt) : Bool := iH x.before x.aP && eU x.cO && eU x.cT && decide (1 ≤ x.op) && decide (x.op ≤ 9)
def lW (x : Stmt) : Bool := decide ((if x.op = 6 then 2 else if x.op = 7 then 0 else if x.op = 9 then 0 else 1) ≤ x.e.length) && decide (x.e.length ≤ if x.op = 6 then 2 else if x.op = 7 then 0 else 1)
def fV (x : Stmt) (y : Expr) : Bool := nK y && !(decide (x.op = 2) && !decide (y.op = 7))
def iR (x : Stmt) : Bool := if x.op = 1 ∨ x.op = 7 then j6 x.p else kN x.p
def nL (x : Stmt) : Bool := if x.op = 6 then dK x.name else decide (x.name = noBytes) && !x.down
def jN (x : Stmt) : Bool := !(x.more && !decide (x.op = 3)) && !(!x.more && (decide (0 < x.els.length) || decide (0 < x.cT.length)))
def tV (x : Stmt) : Bool := !((decide (x.op < 3) || decide (6 < x.op)) && (decide (0 < x.body.length) || decide (0 < x.cO.length)))
def fB (x : Stmt) : Bool := wZ x && lW x && x.e.all (fV x) && iR x && nL x && jN x && tV x
mutual
def nJ : Stmt → Int → Bool
 | ⟨before, aP, op, name, p, e, down, more, body, els, cO, cT⟩, d => decide (d ≤ 48) && fB ⟨before, aP, op, name, p, e, down, more, body, els, cO, cT⟩ && (dA body (d + 1) && decide (body.length ≤ 512)) && (dA els (d + 1) && decide (els.length ≤ 512))
def dA : List Stmt → Int → Bool
 | [], _ => true
 | x :: r, d => nJ x d && dA r d
end
def tG (v : Var) : Bool := iH v.before v.aP && dK v.name && mH v.t
def jM (l : List Var) : Bool := l.all tG && decide (l.length ≤ 512)
def dZ (p : Param) : Bool :=
 dK p.name && mH p.t && decide (0 ≤ p.mode) && decide (p.mode ≤ 1) && !(decide (p.mode = 0) && (!decide (p.t.size = 0) || decide (p.t.kind = 4)))
def eJ (l : List Param) : Bool := l.all dZ && decide (l.length ≤ 512)
mutual
def gC : List ByteArray → Routine → Int → Bool
 | ahead, ⟨before, aP, name, result, params, vars, inner, body, bT⟩, d =>
  decide (d ≤ 48) && iH before aP && eU bT && dK name && decide (0 ≤ result) && decide (result ≤ 3) && !fY name ahead && eJ params && jM vars && (bN [] inner (d + 1) && decide (inner.length ≤ 512)) && (dA body 1 && decide (body.length ≤ 512))
def bN : List ByteArray → List Routine → Int → Bool
 | _, [], _ => true
 | ahead, x :: r, d => gC ahead x d && bN (ahead ++ [x.name]) r d
end
def qK (f : Fld) : Bool := iH f.before f.aP && dK f.name && decide (1 ≤ f.kind) && decide (f.kind ≤ 3)
def jX (r : Rec) : Bool := iH r.before r.aP && eU r.bT && dK r.name && !decide (r.fields.length = 0) && decide (r.fields.length ≤ 512) && r.fields.all qK
def eI (p : Prg) : Bool := dK p.name && eU p.before && eU p.mid && eU p.after && eU p.bT && decide (p.recs.length ≤ 512) && p.recs.all jX && jM p.vars && (bN [] p.aH 1 && decide (p.aH.length ≤ 512)) && (dA p.body 1 && decide (p.body.length ≤ 512))
end Pg
