import Derived.Test.YtdfbkddelhbgmaaGreatDoorCheckSpecJS3
import Derived.Test.YtdfbkddelhbgmaaGreatDoorFitS3
import Derived.Test.YtdfbkddelhbgmaaGreatDoorTreeSpecS3
import Derived.Test.YtdfbkddelhbgmaaGreatDoorRnS3
import Derived.Test.YtdfbkddelhbgmaaGreatDoorTreeSS3
import Derived.Test.YtdfbkddelhbgmaaGreatDoorCodeCJS3
import Derived.Test.YtdfbkddelhbgmaaGreatDoorNmWS3
import Derived.Test.YtdfbkddelhbgmaaGreatDoorHpS3
namespace Pg
open Go
set_option linter.all false
def tw (l : List ByteArray) : Nat := (l.map fun s => s.size + 1).sum
def lP (p : Param) : Nat := p.name.size + p.t.name.size
def lV (v : Var) : Nat := tw v.before + tw v.aP + v.name.size + v.t.name.size
def lF (f : Fld) : Nat := tw f.before + tw f.aP + f.name.size
def aFj (r : Rec) : Nat := tw r.before + tw r.aP + r.name.size + (r.fields.map lF).sum + tw r.bT
mutual
def wE : Expr → Nat
 | ⟨op, n, name, field, l⟩ => 2 + (name.size + field.size) + wEs l
def wEs : List Expr → Nat
 | [] => 0
 | x :: r => wE x + wEs r
end
mutual
def wS : Stmt → Nat
 | ⟨before, aP, op, name, p, e, down, more, body, els, cO, cT⟩ => 2 + (tw before + tw aP + name.size + tw cO + tw cT) + wE p + wEs e + wSs body + wSs els
def wSs : List Stmt → Nat
 | [] => 0
 | x :: r => wS x + wSs r
end
def wO (r : Rec) : Nat := 2 + r.fields.length + aFj r
def qX (l : List Rec) : Nat := (l.map wO).sum
mutual
def wR : Routine → Nat
 | ⟨before, aP, name, result, params, vars, inner, body, bT⟩ => 2 + name.size + (tw before + tw aP + (params.map lP).sum + (vars.map lV).sum + tw bT) + 2 * params.length + 2 * vars.length + wRs inner + wSs body
def wRs : List Routine → Nat
 | [] => 0
 | x :: r => wR x + wRs r
end
def wP (p : Prg) : Nat := 1 + (p.name.size + tw p.before + tw p.mid + tw p.after + tw p.bT + (p.vars.map lV).sum) + qX p.recs + 2 * p.vars.length + wRs p.aH + wSs p.body
theorem OS (x : Expr) : wE x = 2 + (x.name.size + x.field.size) + wEs x.l := by obtain ⟨op, n, name, field, l⟩ := x; rw [wE]
theorem IY (x : Stmt) : wS x = 2 + (tw x.before + tw x.aP + x.name.size + tw x.cO + tw x.cT) + wE x.p + wEs x.e + wSs x.body + wSs x.els := by obtain ⟨before, aP, op, name, p, e, down, more, body, els, cO, cT⟩ := x; rw [wS]
theorem IZ (x : Routine) : wR x = 2 + x.name.size + (tw x.before + tw x.aP + (x.params.map lP).sum + (x.vars.map lV).sum + tw x.bT) + 2 * x.params.length + 2 * x.vars.length + wRs x.inner + wSs x.body := by obtain ⟨before, aP, name, result, params, vars, inner, body, bT⟩ := x; rw [wR]
theorem LI : ∀ l, wEs l = (l.map wE).sum
 | [] => rfl
 | x :: r => by simp [wEs, LI r]
theorem E5 : ∀ l, wSs l = (l.map wS).sum
 | [] => rfl
 | x :: r => by simp [wSs, E5 r]
theorem LH : ∀ l, wRs l = (l.map wR).sum
 | [] => rfl
 | x :: r => by simp [wRs, LH r]
theorem AF : ∀ (n : Nat) (l : List Stmt), aZ.sz l ≤ n → sU l ≤ wSs l
 | n, [], h => by simp [sU, wSs]
 | 0, x :: r, h => by simp [aZ.sz] at h
 | n + 1, x :: r, h => by
  have h1 := Stmt.cY x
  have h2 : aZ.sz (x :: r) = 1 + x.sz + aZ.sz r := by simp only [aZ.sz]
  have a := AF n x.body (by omega)
  have b := AF n x.els (by omega)
  have c := AF n r (by omega)
  simp only [sU, wSs, WY, IY]
  omega
theorem IM : ∀ (n : Nat) (l : List Routine), bB.sz l ≤ n → uD l ≤ wRs l
 | n, [], h => by simp [uD, wRs]
 | 0, x :: r, h => by simp [bB.sz] at h
 | n + 1, x :: r, h => by
  have h1 := Routine.cY x
  have h2 : bB.sz (x :: r) = 1 + x.sz + bB.sz r := by simp only [bB.sz]
  have a := IM n x.inner (by omega)
  have b := AF _ x.body (Nat.le_refl _)
  have c := IM n r (by omega)
  simp only [uD, wRs, WZ, IZ]
  omega
theorem aEB (p : Prg) : ZB p ≤ wP p := by
 have a := IM _ p.aH (Nat.le_refl _)
 have b := AF _ p.body (Nat.le_refl _)
 have c : p.recs.length ≤ qX p.recs := by
  unfold qX
  generalize p.recs = l
  induction l with
  | nil => simp
  | cons x r ih =>
   have e : 2 + x.fields.length ≤ wO x := by unfold wO; omega
   simp only [List.length_cons, List.map_cons, List.sum_cons]; omega
 simp only [ZB, wP]
 omega
theorem AP : ∀ (l : List Expr), l.length ≤ wEs l
 | [] => by simp [wEs]
 | x :: r => by
  have := AP r
  have := OS x
  simp only [wEs, List.length_cons]; omega
theorem VJ {l : List Expr} {x : Expr} (h : x ∈ l) : wE x ≤ wEs l := by
 induction l with
 | nil => cases h
 | cons y r ih =>
  simp only [wEs]
  rcases List.mem_cons.1 h with rfl | h
  ·omega
  ·have := ih h; omega
theorem VH : ∀ l : List Stmt, l.length ≤ wSs l
 | [] => by simp [wSs]
 | x :: r => by
  have := VH r
  have := IY x
  simp only [wSs, List.length_cons]; omega
theorem aDJ {l : List Stmt} {x : Stmt} (h : x ∈ l) : wS x ≤ wSs l := by
 induction l with
 | nil => cases h
 | cons y r ih =>
  simp only [wSs]
  rcases List.mem_cons.1 h with rfl | h
  ·omega
  ·have := ih h; omega
theorem VI : ∀ l : List Routine, l.length ≤ wRs l
 | [] => by simp [wRs]
 | x :: r => by
  have := VI r
  have := IZ x
  simp only [wRs, List.length_cons]; omega
theorem aDK {l : List Routine} {x : Routine} (h : x ∈ l) : wR x ≤ wRs l := by
 induction l with
 | nil => cases h
 | cons y r ih =>
  simp only [wRs]
  rcases List.mem_cons.1 h with rfl | h
  ·omega
  ·have := ih h; omega
end Pg

set_option linter.all false
set_option maxHeartbeats 4000000
set_option maxRecDepth 4000
namespace Pg
open Go
def rN (s : ByteArray) : List UInt8 → Nat → Nat → List ByteArray
 | [], a, i => [s.extract a i]
 | c :: r, a, i => if c.toNat = 36 then s.extract a i :: rN s r (i + 1) (i + 1) else rN s r a (i + 1)
def parts (s : ByteArray) : List ByteArray := rN s (bytes s) 0 0
mutual
def nmE : Expr → List ByteArray
 | ⟨op, n, name, field, l⟩ => parts name ++ parts field ++ gQ l
def gQ : List Expr → List ByteArray
 | [] => []
 | x :: r => nmE x ++ gQ r
end
mutual
def nmS : Stmt → List ByteArray
 | ⟨before, aP, op, name, p, e, down, more, body, els, cO, cT⟩ => parts name ++ nmE p ++ gQ e ++ fR body ++ fR els
def fR : List Stmt → List ByteArray
 | [] => []
 | x :: r => nmS x ++ fR r
end
def BG (v : Var) : List ByteArray := parts v.name ++ parts v.t.name
def iK (l : List Var) : List ByteArray := l.flatMap BG
def tO (p : Param) : List ByteArray := parts p.name ++ parts p.t.name
def gD (l : List Param) : List ByteArray := l.flatMap tO
mutual
def nmR : Routine → List ByteArray
 | ⟨before, aP, name, result, params, vars, inner, body, bT⟩ => parts name ++ gD params ++ iK vars ++ iE inner ++ fR body
def iE : List Routine → List ByteArray
 | [] => []
 | x :: r => nmR x ++ iE r
end
def lD (l : List Fld) : List ByteArray := l.flatMap fun f => parts f.name
def BH (r : Rec) : List ByteArray := parts r.name ++ lD r.fields
def jU (l : List Rec) : List ByteArray := l.flatMap BH
def nmP (p : Prg) : List ByteArray := parts p.name ++ jU p.recs ++ iK p.vars ++ iE p.aH ++ fR p.body
def once : List ByteArray → List ByteArray → List ByteArray
 | out, [] => out
 | out, x :: r => if x = noBytes then once out r else if fY x out then once out r else once (out ++ [x]) r
def names (p : Prg) : List ByteArray := once [] (nmP p)
theorem J9 (x : Expr) : nmE x = parts x.name ++ parts x.field ++ gQ x.l := by obtain ⟨op, n, name, field, l⟩ := x; rw [nmE]
theorem J4 (x : Stmt) : nmS x = parts x.name ++ nmE x.p ++ gQ x.e ++ fR x.body ++ fR x.els := by
 obtain ⟨before, aP, op, name, p, e, down, more, body, els, cO, cT⟩ := x; rw [nmS]
theorem J6 (x : Routine) : nmR x = parts x.name ++ gD x.params ++ iK x.vars ++ iE x.inner ++ fR x.body := by
 obtain ⟨before, aP, name, result, params, vars, inner, body, bT⟩ := x; rw [nmR]
theorem QD : ∀ l, gQ l = l.flatMap nmE
 | [] => rfl
 | x :: r => by simp [gQ, QD r]
theorem QA : ∀ l, fR l = l.flatMap nmS
 | [] => rfl
 | x :: r => by simp [fR, QA r]
theorem QB : ∀ l, iE l = l.flatMap nmR
 | [] => rfl
 | x :: r => by simp [iE, QB r]
theorem aBH (s : ByteArray) (l : List ByteArray) : fY s l = true ↔ s ∈ l := by
 unfold fY
 rw [List.any_eq_true]
 constructor
 ·rintro ⟨x, hx, h⟩; simp only [decide_eq_true_eq] at h; subst h; exact hx
 ·exact fun h => ⟨s, h, by simp⟩
theorem A9 : ∀ (l out : List ByteArray) (s : ByteArray), s ∈ once out l ↔ s ∈ out ∨ (s ∈ l ∧ s ≠ noBytes)
 | [], out, s => by simp [once]
 | x :: r, out, s => by
  simp only [once]
  split
  ·rename_i hx; subst hx
   rw [A9 r out s]
   constructor
   ·rintro (h | ⟨h1, h2⟩)
    ·exact .inl h
    ·exact .inr ⟨by simp [h1], h2⟩
   ·rintro (h | ⟨h1, h2⟩)
    ·exact .inl h
    ·rcases List.mem_cons.1 h1 with h | h
     ·exact absurd h h2
     ·exact .inr ⟨h, h2⟩
  ·rename_i hx
   split
   ·rename_i ha
    rw [aBH] at ha
    rw [A9 r out s]
    constructor
    ·rintro (h | ⟨h1, h2⟩)
     ·exact .inl h
     ·exact .inr ⟨by simp [h1], h2⟩
    ·rintro (h | ⟨h1, h2⟩)
     ·exact .inl h
     ·rcases List.mem_cons.1 h1 with h | h
      ·subst h; exact .inl ha
      ·exact .inr ⟨h, h2⟩
   ·rw [A9 r (out ++ [x]) s]
    simp only [List.mem_append, List.mem_cons, List.not_mem_nil, or_false]
    constructor
    ·rintro ((h | h) | ⟨h1, h2⟩)
     ·exact .inl h
     ·subst h; exact .inr ⟨.inl rfl, hx⟩
     ·exact .inr ⟨.inr h1, h2⟩
    ·rintro (h | ⟨h1 | h1, h2⟩)
     ·exact .inl (.inl h)
     ·exact .inl (.inr h1)
     ·exact .inr ⟨h1, h2⟩
theorem BA : ∀ (l out : List ByteArray), (once out l).length ≤ out.length + l.length
 | [], out => by simp [once]
 | x :: r, out => by
  simp only [once]
  split
  ·have := BA r out; simp; omega
  ·split
   ·have := BA r out; simp; omega
   ·have := BA r (out ++ [x]); simp at this ⊢; omega
def plain (s : ByteArray) : Prop := ∀ c ∈ bytes s, c.toNat ≠ 36
theorem CT (s : ByteArray) : ∀ (l : List UInt8) (a i : Nat), (∀ c ∈ l, c.toNat ≠ 36) → rN s l a i = [s.extract a (i + l.length)]
 | [], a, i, h => by simp [rN]
 | c :: r, a, i, h => by
  simp only [rN]
  rw [if_neg (h c (by simp)), CT s r a (i + 1) (fun d hd => h d (by simp [hd]))]
  congr 2; simp; omega
theorem zE {s : ByteArray} (h : plain s) : parts s = [s] := by
 unfold parts
 rw [CT s _ 0 0 h]
 congr 1
 have : 0 + (bytes s).length = s.size := by unfold bytes; rw [Array.length_toList, Nat.zero_add]; rfl
 rw [this]
 simp
theorem CW : ∀ (l : List UInt8) (f : Bool), gK f l = true → ∀ c ∈ l, c.toNat ≠ 36
 | [], f, h => by simp
 | c :: r, f, h => by
  simp only [gK, Bool.and_eq_true] at h
  intro d hd
  rcases List.mem_cons.1 hd with rfl | hd
  ·intro he
   have := h.1
   rw [he] at this
   simp [letter] at this
  ·exact CW r false h.2 d hd
theorem A8 : plain noBytes := by intro c hc; simp [bytes, noBytes] at hc
theorem GB {s : ByteArray} (h : dK s = true) : plain s := by
 simp only [dK, Bool.and_eq_true, decide_eq_true_eq] at h
 have h1 := h.1
 unfold jY at h1
 by_cases h0 : s = noBytes
 ·rw [h0]; exact A8
 ·rw [if_neg h0] at h1
  by_cases hl : gK true (bytes s) = true
  ·exact CW _ _ hl
  ·rw [if_neg hl] at h1; simp at h1
end Pg
namespace Pg
open Go
section
variable {S : ByteArray → Prop} (hS : ∀ s, dK s = true → S s) (h0 : S noBytes)
include hS h0
theorem WV : ∀ (n : Nat) (x : Expr), form n x = true → inE S x
 | 0, x, h => by simp [form] at h
 | n + 1, ⟨op, k, name, field, l⟩, h => by
  simp only [form, eV, Bool.and_eq_true] at h
  obtain ⟨⟨_, ⟨⟨_, h1⟩, h2⟩, _⟩, h3⟩ := h
  have hl : ∀ l, gV n l = true → fS S l := by
   intro l
   induction l with
   | nil => intro _; trivial
   | cons y r ih =>
    intro hf
    simp only [gV, Bool.and_eq_true] at hf
    exact ⟨WV n y hf.1.2, ih hf.2⟩
  refine ⟨?_, ?_, hl l h3⟩
  ·split at h1
   ·exact hS _ h1
   ·simp only [decide_eq_true_eq] at h1; rw [h1]; exact h0
  ·split at h2
   ·exact hS _ h2
   ·simp only [decide_eq_true_eq] at h2; rw [h2]; exact h0
theorem PD {x : Expr} (h : nK x = true) : inE S x := by
 simp only [nK, Bool.and_eq_true] at h
 exact WV hS h0 _ x h.1
theorem V4 {t : Typ} (h : mH t = true) : S t.name := by
 unfold mH at h
 split at h
 ·simp only [Bool.and_eq_true] at h; exact hS _ h.2
 ·simp only [Bool.and_eq_true, decide_eq_true_eq] at h; rw [h.2]; exact h0
omit hS h0 in
theorem WU : ∀ {l : List Expr}, (∀ x ∈ l, inE S x) → fS S l
 | [], _ => trivial
 | x :: r, h => ⟨h x (by simp), WU fun y hy => h y (by simp [hy])⟩
theorem aAo {x : Stmt} (h : fB x = true) : S x.name ∧ inE S x.p ∧ fS S x.e := by
 simp only [fB, Bool.and_eq_true] at h
 obtain ⟨⟨⟨⟨⟨⟨h1, h2⟩, h3⟩, h4⟩, h5⟩, h6⟩, h7⟩ := h
 refine ⟨?_, ?_, WU fun y hy => ?_⟩
 ·unfold nL at h5
  split at h5
  ·exact hS _ h5
  ·simp only [Bool.and_eq_true, decide_eq_true_eq] at h5; rw [h5.1]; exact h0
 ·unfold iR at h4
  split at h4
  ·simp only [j6, Bool.and_eq_true] at h4; exact PD hS h0 h4.2
  ·simp only [kN, Bool.and_eq_true, decide_eq_true_eq] at h4
   obtain ⟨⟨⟨⟨_, _⟩, a⟩, b⟩, c⟩ := h4
   rw [pS, a, b, List.eq_nil_of_length_eq_zero c]
   exact ⟨h0, h0, trivial⟩
 ·have := List.all_eq_true.1 h3 y hy
  simp only [fV, Bool.and_eq_true] at this
  exact PD hS h0 this.1
theorem uL : ∀ (n : Nat) (l : List Stmt), aZ.sz l ≤ n → ∀ d, dA l d = true → lL S l
 | n, [], hn, d, h => trivial
 | 0, x :: r, hn, d, h => by simp [aZ.sz] at hn
 | n + 1, x :: r, hn, d, h => by
  have h1 := Stmt.cY x
  have h2 : aZ.sz (x :: r) = 1 + x.sz + aZ.sz r := by simp only [aZ.sz]
  simp only [dA, Bool.and_eq_true] at h
  refine ⟨?_, uL n r (by omega) d h.2⟩
  obtain ⟨before, aP, op, name, p, e, down, more, body, els, cO, cT⟩ := x
  have hh := h.1
  simp only [nJ, Bool.and_eq_true] at hh
  obtain ⟨⟨⟨_, a⟩, b, _⟩, c, _⟩ := hh
  obtain ⟨p1, p2, p3⟩ := aAo hS h0 a
  exact ⟨p1, p2, p3, uL n body (by simp only at h1; omega) _ b, uL n els (by simp only at h1; omega) _ c⟩
theorem PC {l : List Var} (h : jM l = true) : ∀ v ∈ l, rA S v := by
 simp only [jM, Bool.and_eq_true] at h
 intro v hv
 have := List.all_eq_true.1 h.1 v hv
 simp only [tG, Bool.and_eq_true] at this
 exact ⟨hS _ this.1.2, V4 hS h0 this.2⟩
theorem XL {l : List Param} (h : eJ l = true) : ∀ v ∈ l, nW S v := by
 simp only [eJ, Bool.and_eq_true] at h
 intro v hv
 have := List.all_eq_true.1 h.1 v hv
 simp only [dZ, Bool.and_eq_true] at this
 exact ⟨hS _ this.1.1.1.1, V4 hS h0 this.1.1.1.2⟩
theorem wX : ∀ (n : Nat) (l : List Routine), bB.sz l ≤ n → ∀ a d, bN a l d = true → kF S l
 | n, [], hn, a, d, h => trivial
 | 0, x :: r, hn, a, d, h => by simp [bB.sz] at hn
 | n + 1, x :: r, hn, a, d, h => by
  have h1 := Routine.cY x
  have h2 : bB.sz (x :: r) = 1 + x.sz + bB.sz r := by simp only [bB.sz]
  simp only [bN, Bool.and_eq_true] at h
  refine ⟨?_, wX n r (by omega) _ d h.2⟩
  obtain ⟨before, aP, name, result, params, vars, inner, body, bT⟩ := x
  have hh := h.1
  simp only [gC, Bool.and_eq_true] at hh
  obtain ⟨⟨⟨⟨⟨⟨⟨⟨⟨⟨_, _⟩, _⟩, q1⟩, _⟩, _⟩, _⟩, q2⟩, q3⟩, q4, _⟩, q5, _⟩ := hh
  exact ⟨hS _ q1, XL hS h0 q2, PC hS h0 q3, wX n inner (by simp only at h1; omega) _ _ q4, uL hS h0 _ body (Nat.le_refl _) _ q5⟩
theorem LP {p : Prg} (h : eI p = true) : inP S p := by
 simp only [eI, Bool.and_eq_true] at h
 obtain ⟨⟨⟨⟨⟨⟨⟨⟨⟨q1, _⟩, _⟩, _⟩, _⟩, _⟩, q2⟩, q3⟩, q4, _⟩, q5, _⟩ := h
 refine ⟨hS _ q1, ?_, PC hS h0 q3, wX hS h0 _ _ (Nat.le_refl _) _ _ q4, uL hS h0 _ _ (Nat.le_refl _) _ q5⟩
 intro r hr
 have := List.all_eq_true.1 q2 r hr
 simp only [jX, Bool.and_eq_true] at this
 obtain ⟨⟨⟨⟨⟨_, _⟩, a⟩, _⟩, _⟩, b⟩ := this
 refine ⟨hS _ a, fun f hf => ?_⟩
 have := List.all_eq_true.1 b f hf
 simp only [qK, Bool.and_eq_true] at this
 exact hS _ this.1.1.2
end
theorem XK {p : Prg} (h : eI p = true) : inP plain p := LP (fun _ => GB) A8 h
section
variable {S : ByteArray → Prop}
theorem told {s : ByteArray} (h : plain s) (k : ∀ n ∈ parts s, S n) : S s := k s (by rw [zE h]; simp)
theorem IG : ∀ (n : Nat) (x : Expr), x.sz ≤ n → inE plain x → (∀ m ∈ nmE x, S m) → inE S x
 | 0, x, hn, h, k => by rw [Expr.cY] at hn; omega
 | n + 1, x, hn, h, k => by
  obtain ⟨a, b, c⟩ := (pS plain x).1 h
  rw [J9] at k
  have hz := Expr.cY x
  refine (pS S x).2 ⟨told a fun m hm => k m (by simp [hm]), told b fun m hm => k m (by simp [hm]), ?_⟩
  have hl : ∀ l : List Expr, cI.sz l ≤ n → fS plain l → (∀ m ∈ gQ l, S m) → fS S l := by
   intro l
   induction l with
   | nil => intro _ _ _; trivial
   | cons y r ih =>
    intro hs hp hk
    have e : cI.sz (y :: r) = 1 + y.sz + cI.sz r := by simp only [cI.sz]
    simp only [fS] at hp
    simp only [gQ] at hk
    exact ⟨IG n y (by omega) hp.1 fun m hm => hk m (by simp [hm]), ih (by omega) hp.2 fun m hm => hk m (by simp [hm])⟩
  exact hl x.l (by omega) c fun m hm => k m (by simp [hm])
theorem NQ : ∀ {l : List Expr}, fS plain l → (∀ m ∈ gQ l, S m) → fS S l
 | [], _, _ => trivial
 | y :: r, h, k => by
  simp only [fS] at h
  simp only [gQ] at k
  exact ⟨IG _ y (Nat.le_refl _) h.1 fun m hm => k m (by simp [hm]), NQ h.2 fun m hm => k m (by simp [hm])⟩
theorem uT : ∀ (n : Nat) (l : List Stmt), aZ.sz l ≤ n → lL plain l → (∀ m ∈ fR l, S m) → lL S l
 | n, [], hn, h, k => trivial
 | 0, x :: r, hn, h, k => by simp [aZ.sz] at hn
 | n + 1, x :: r, hn, h, k => by
  have h1 := Stmt.cY x
  have h2 : aZ.sz (x :: r) = 1 + x.sz + aZ.sz r := by simp only [aZ.sz]
  simp only [lL] at h
  simp only [fR] at k
  rw [J4] at k
  obtain ⟨a, b, c, d, e⟩ := (qR plain x).1 h.1
  exact ⟨(qR S x).2 ⟨told a fun m hm => k m (by simp [hm]), IG _ x.p (Nat.le_refl _) b fun m hm => k m (by simp [hm]), NQ c fun m hm => k m (by simp [hm]),
   uT n x.body (by omega) d fun m hm => k m (by simp [hm]), uT n x.els (by omega) e fun m hm => k m (by simp [hm])⟩, uT n r (by omega) h.2 fun m hm => k m (by simp [hm])⟩
theorem GY {l : List Var} (h : ∀ v ∈ l, rA plain v) (k : ∀ m ∈ iK l, S m) : ∀ v ∈ l, rA S v := by
 intro v hv
 have hk : ∀ m ∈ BG v, S m := fun m hm => k m (List.mem_flatMap.2 ⟨v, hv, hm⟩)
 exact ⟨told (h v hv).1 fun m hm => hk m (by simp [BG, hm]), told (h v hv).2 fun m hm => hk m (by simp [BG, hm])⟩
theorem OO {l : List Param} (h : ∀ v ∈ l, nW plain v) (k : ∀ m ∈ gD l, S m) : ∀ v ∈ l, nW S v := by
 intro v hv
 have hk : ∀ m ∈ tO v, S m := fun m hm => k m (List.mem_flatMap.2 ⟨v, hv, hm⟩)
 exact ⟨told (h v hv).1 fun m hm => hk m (by simp [tO, hm]), told (h v hv).2 fun m hm => hk m (by simp [tO, hm])⟩
theorem D9 : ∀ (n : Nat) (l : List Routine), bB.sz l ≤ n → kF plain l → (∀ m ∈ iE l, S m) → kF S l
 | n, [], hn, h, k => trivial
 | 0, x :: r, hn, h, k => by simp [bB.sz] at hn
 | n + 1, x :: r, hn, h, k => by
  have h1 := Routine.cY x
  have h2 : bB.sz (x :: r) = 1 + x.sz + bB.sz r := by simp only [bB.sz]
  simp only [kF] at h
  simp only [iE] at k
  rw [J6] at k
  obtain ⟨a, b, c, d, e⟩ := (oP plain x).1 h.1
  exact ⟨(oP S x).2 ⟨told a fun m hm => k m (by simp [hm]), OO b fun m hm => k m (by simp [hm]), GY c fun m hm => k m (by simp [hm]),
   D9 n x.inner (by omega) d fun m hm => k m (by simp [hm]), uT _ x.body (Nat.le_refl _) e fun m hm => k m (by simp [hm])⟩, D9 n r (by omega) h.2 fun m hm => k m (by simp [hm])⟩
theorem QM {p : Prg} (h : inP plain p) (k : ∀ m ∈ nmP p, S m) : inP S p := by
 unfold nmP at k
 refine ⟨told h.name fun m hm => k m (by simp [hm]), ?_, GY h.vars fun m hm => k m (by simp [hm]), D9 _ _ (Nat.le_refl _) h.aH fun m hm => k m (by simp [hm]), uT _ _ (Nat.le_refl _) h.body fun m hm => k m (by simp [hm])⟩
 intro r hr
 have hk : ∀ m ∈ BH r, S m := fun m hm => k m (by
  have : m ∈ jU p.recs := List.mem_flatMap.2 ⟨r, hr, hm⟩
  simp [this])
 have := h.recs r hr
 exact ⟨told this.1 fun m hm => hk m (by simp [BH, hm]), fun f hf => told (this.2 f hf) fun m hm => hk m (by
  have : m ∈ lD r.fields := List.mem_flatMap.2 ⟨f, hf, hm⟩
  simp [BH, this])⟩
end
theorem kC {s : ByteArray} (h : plain s) : (parts s).length = 1 := by rw [zE h]; rfl
theorem L5 : ∀ (n : Nat) (x : Expr), x.sz ≤ n → inE plain x → (nmE x).length ≤ wE x
 | 0, x, hn, h => by rw [Expr.cY] at hn; omega
 | n + 1, x, hn, h => by
  obtain ⟨a, b, c⟩ := (pS plain x).1 h
  have hz := Expr.cY x
  have hl : ∀ l : List Expr, cI.sz l ≤ n → fS plain l → (gQ l).length ≤ wEs l := by
   intro l
   induction l with
   | nil => intro _ _; simp [gQ, wEs]
   | cons y r ih =>
    intro hs hp
    have e : cI.sz (y :: r) = 1 + y.sz + cI.sz r := by simp only [cI.sz]
    simp only [fS] at hp
    have i1 := L5 n y (by omega) hp.1
    have i2 := ih (by omega) hp.2
    simp only [gQ, wEs, List.length_append]; omega
  have := hl x.l (by omega) c
  rw [J9, OS]
  simp only [List.length_append, kC a, kC b]; omega
theorem QE : ∀ (l : List Expr), fS plain l → (gQ l).length ≤ wEs l
 | [], _ => by simp [gQ, wEs]
 | y :: r, hp => by
  simp only [fS] at hp
  have i1 := L5 _ y (Nat.le_refl _) hp.1
  have i2 := QE r hp.2
  simp only [gQ, wEs, List.length_append]; omega
theorem xJ : ∀ (n : Nat) (l : List Stmt), aZ.sz l ≤ n → lL plain l → (fR l).length ≤ wSs l
 | n, [], hn, h => by simp [fR, wSs]
 | 0, x :: r, hn, h => by simp [aZ.sz] at hn
 | n + 1, x :: r, hn, h => by
  have h1 := Stmt.cY x
  have h2 : aZ.sz (x :: r) = 1 + x.sz + aZ.sz r := by simp only [aZ.sz]
  simp only [lL] at h
  obtain ⟨a, b, c, d, e⟩ := (qR plain x).1 h.1
  have i1 := L5 _ x.p (Nat.le_refl _) b
  have i2 := QE x.e c
  have i3 := xJ n x.body (by omega) d
  have i4 := xJ n x.els (by omega) e
  have i5 := xJ n r (by omega) h.2
  simp only [fR, wSs, J4, IY, List.length_append, kC a]; omega
theorem BF : ∀ {l : List Var}, (∀ v ∈ l, rA plain v) → (iK l).length ≤ 2 * l.length
 | [], _ => by simp [iK]
 | v :: r, h => by
  have hv := h v (by simp)
  have := BF (l := r) fun w hw => h w (by simp [hw])
  simp only [iK, List.flatMap_cons, List.length_append, BG, kC hv.1, kC hv.2, List.length_cons] at this ⊢; omega
theorem D2 : ∀ {l : List Param}, (∀ v ∈ l, nW plain v) → (gD l).length ≤ 2 * l.length
 | [], _ => by simp [gD]
 | v :: r, h => by
  have hv := h v (by simp)
  have := D2 (l := r) fun w hw => h w (by simp [hw])
  simp only [gD, List.flatMap_cons, List.length_append, tO, kC hv.1, kC hv.2, List.length_cons] at this ⊢; omega
theorem J7 : ∀ {l : List Fld}, (∀ v ∈ l, plain v.name) → (lD l).length ≤ l.length
 | [], _ => by simp [lD]
 | v :: r, h => by
  have hv := h v (by simp)
  have := J7 (l := r) fun w hw => h w (by simp [hw])
  simp only [lD, List.flatMap_cons, List.length_append, kC hv, List.length_cons] at this ⊢; omega
theorem J5 : ∀ {l : List Rec}, (∀ v ∈ l, KC plain v) → (jU l).length ≤ qX l
 | [], _ => by simp [jU, qX]
 | v :: r, h => by
  have hv := h v (by simp)
  have := J5 (l := r) fun w hw => h w (by simp [hw])
  have a := J7 hv.2
  simp only [jU, List.flatMap_cons, List.length_append, BH, kC hv.1, qX, List.map_cons, List.sum_cons, wO] at this ⊢; omega
theorem H8 : ∀ (n : Nat) (l : List Routine), bB.sz l ≤ n → kF plain l → (iE l).length ≤ wRs l
 | n, [], hn, h => by simp [iE, wRs]
 | 0, x :: r, hn, h => by simp [bB.sz] at hn
 | n + 1, x :: r, hn, h => by
  have h1 := Routine.cY x
  have h2 : bB.sz (x :: r) = 1 + x.sz + bB.sz r := by simp only [bB.sz]
  simp only [kF] at h
  obtain ⟨a, b, c, d, e⟩ := (oP plain x).1 h.1
  have i1 := D2 b
  have i2 := BF c
  have i3 := H8 n x.inner (by omega) d
  have i4 := xJ _ x.body (Nat.le_refl _) e
  have i5 := H8 n r (by omega) h.2
  simp only [iE, wRs, J6, IZ, List.length_append, kC a]; omega
theorem aEp {p : Prg} (h : inP plain p) : (nmP p).length ≤ wP p := by
 have i1 := J5 h.recs
 have i2 := BF h.vars
 have i3 := H8 _ _ (Nat.le_refl _) h.aH
 have i4 := xJ _ _ (Nat.le_refl _) h.body
 simp only [nmP, wP, List.length_append, kC h.name]; omega
end Pg

set_option linter.all false
set_option maxHeartbeats 4000000
set_option maxRecDepth 4000
namespace Pg
open Go Go.Proofs.Tryz
theorem KY {s : ByteArray} {a b : Nat} (h1 : a ≤ b) (h2 : b ≤ s.size) : eP true 0 (.str s) (some (.int .i64 (a : Int))) (some (.int .i64 (b : Int))) = some (.str (s.extract a b)) := by
 simp only [eP, gG]
 rw [if_pos (Int.natCast_nonneg b), if_pos (Int.natCast_nonneg a)]
 simp only [Int.toNat_natCast]
 rw [if_pos ⟨h1, h2⟩]
def oF (s : ByteArray) : List (Option UInt8) → Nat → Nat → List ByteArray
 | [], _, _ => []
 | none :: r, a, i => s.extract a i :: oF s r (i + 1) (i + 1)
 | some c :: r, a, i => if c.toNat = 36 then s.extract a i :: oF s r (i + 1) (i + 1) else oF s r a (i + 1)
theorem A7 (s : ByteArray) : ∀ (l : List UInt8) (a i : Nat), oF s (l.map some ++ [none]) a i = rN s l a i
 | [], a, i => rfl
 | c :: r, a, i => by
  simp only [List.map_cons, List.cons_append, oF, rN]
  rw [A7 s r, A7 s r]
theorem yF (s : ByteArray) : ∀ (l : List (Option UInt8)) (a i : Nat), (oF s l a i).length ≤ l.length
 | [], a, i => by simp [oF]
 | none :: r, a, i => by have := yF s r (i + 1) (i + 1); simp only [oF, List.length_cons]; omega
 | some c :: r, a, i => by
  simp only [oF]
  split
  ·have := yF s r (i + 1) (i + 1); simp only [List.length_cons]; omega
  ·have := yF s r a (i + 1); simp only [List.length_cons]; omega
def small (s : ByteArray) : Prop := s.size ≤ 1099511627776
theorem IT [GI] (h : AHeap) (s : ByteArray) (hs : small s) : aD prog 38 [.str s] h (fun v g => GL 9 1 h g v (txt (parts s))) := by
 unfold small at hs
 refine F38.calls (by simp) ?_
 delta F38.c0
 simp only [go_sem,seval]
 have hlen : ((bytes s).map some ++ [none]).length = s.size + 1 := by simp [jK]
 have hpl : (parts s).length ≤ s.size + 1 := by
  have := yF s ((bytes s).map some ++ [none]) 0 0
  rw [A7] at this; rw [hlen] at this; exact this
 have hfew : few ((bytes s).map some ++ [none]) := by unfold few; rw [hlen]; omega
 refine aX ((bytes s).map some ++ [none]) (fun pre post e g => ∃ (a : Nat) (v : AV) (done : List ByteArray), GL 9 1 h g v (txt done) ∧ parts s = done ++ oF s post a pre.length ∧ a ≤ pre.length ∧ e = [(0, .str s), (3, v), (4, .int .i64 (a : Int)), (5, .int .i64 pre.length)]) (aF.env ?_) ⟨0, .sl [] true, [], .nil h, ?_, Nat.le_refl _, rfl⟩ ?_ ?_
 ·simp only [go_sem,seval]
 ·show parts s = [] ++ oF s ((bytes s).map some ++ [none]) 0 0
  rw [A7]; rfl
 ·rintro pre x post e g hp ⟨a, v, done, G, hd, ha, rfl⟩
  have hl := (gE hp).2
  rw [hlen] at hl
  have hle : ((pre.length : Int) ≤ (s.size : Int)) = True := by simp; omega
  have hdl : done.length ≤ s.size + 1 := by rw [hd, List.length_append] at hpl; omega
  have hst := aQ hfew hp
  have hnx : (pre ++ [x]).length = pre.length + 1 := by simp
  rw [hnx] at hst
  cases x with
  | none =>
   have hpost : post = [] := by
    cases post with
    | nil => rfl
    | cons y r =>
     have hl2 : ((bytes s).map some ++ [none])[pre.length]? = some none := (gE hp).1
     rw [List.getElem?_append] at hl2
     split at hl2
     ·simp at hl2
     ·rename_i hge
      have := congrArg List.length hp
      rw [hlen] at this
      simp [jK] at this hge
      omega
   have hi : pre.length = s.size := by
    have := congrArg List.length hp
    rw [hlen, hpost] at this; simp at this; omega
   have heq : ((pre.length : Int) = (s.size : Int)) = True := by simp [hi]
   simp only [go_sem,seval, hle, heq, KY ha (by omega : pre.length ≤ s.size)]
   refine G.aB0 (by omega) (fun v' g' G' => ?_)
   simp only [go_sem,seval]
   refine ⟨_, _, aF.env ?_, pre.length + 1, v', done ++ [s.extract a pre.length], G', ?_, by simp, rfl⟩
   ·simp only [go_sem,seval, hst, hnx]
   ·rw [hd, hpost]; simp [oF]
  | some c =>
   have hc : (bytes s)[pre.length]? = some c := by
    have hl2 : ((bytes s).map some ++ [none])[pre.length]? = some (some c) := (gE hp).1
    rw [List.getElem?_append] at hl2
    split at hl2
    ·simpa using hl2
    ·rename_i hge
     have : pre.length - ((bytes s).map some).length = 0 := by simp [jK] at hge ⊢; omega
     rw [this] at hl2; simp at hl2
   have hlt : pre.length < s.size := by
    rw [← jK]
    rcases Nat.lt_or_ge pre.length (bytes s).length with h | h
    ·exact h
    ·rw [List.getElem?_eq_none h] at hc; cases hc
   have heq : ((pre.length : Int) = (s.size : Int)) = False := by simp; omega
   have hsp : bytes s = (bytes s).take pre.length ++ c :: (bytes s).drop (pre.length + 1) := by
    have hb : pre.length < (bytes s).length := by rw [jK]; exact hlt
    have e := List.take_append_drop pre.length (bytes s)
    rw [List.drop_eq_getElem_cons hb] at e
    have : (bytes s)[pre.length] = c := by
     rw [List.getElem?_eq_getElem hb] at hc
     simpa using hc
    rw [this] at e
    exact e.symm
   have hsix := sE hsp
   rw [List.length_take, jK, Nat.min_eq_left (Nat.le_of_lt hlt)] at hsix
   by_cases h36 : c.toNat = 36
   ·have h36' : ((c.toNat : Int) = 36) = True := by simp; omega
    simp only [go_sem,seval, hle, heq, hsix, h36', KY ha (by omega : pre.length ≤ s.size)]
    refine G.aB0 (by omega) (fun v' g' G' => ?_)
    simp only [go_sem,seval]
    refine ⟨_, _, aF.env ?_, pre.length + 1, v', done ++ [s.extract a pre.length], G', ?_, by simp, rfl⟩
    ·simp only [go_sem,seval, hst, hnx]
    ·rw [hd]; simp [oF, h36]
   ·have h36' : ((c.toNat : Int) = 36) = False := by simp; omega
    simp only [go_sem,seval, hle, heq, hsix, h36']
    refine ⟨_, _, aF.env ?_, a, v, done, G, ?_, by simp; omega, rfl⟩
    ·simp only [go_sem,seval, hst, hnx]
    ·rw [hd]; simp [oF, h36]
 ·rintro e g ⟨a, v, done, G, hd, ha, rfl⟩
  have hle : ((((bytes s).map some ++ [none]).length : Int) ≤ (s.size : Int)) = False := by rw [hlen]; simp; omega
  simp only [go_sem,seval, hle]
  refine aM.same ?_
  simp only [go_sem,seval]
  refine .same ?_
  simp only [oF, List.append_nil] at hd
  rw [hd]; exact G
theorem j5 [GI] (h : AHeap) (s : ByteArray) (hs : small s) : aD prog 38 [.str s] h (fun v g => v = .sl (txt (parts s)) false ∧ g = h) :=
 aD.aBU ((IT h s hs).mono fun v g G => G.tQ ⟨rfl, rfl⟩)
end Pg
namespace Pg
open Go Go.Proofs.Tryz
theorem zF : ∀ (l r : List Expr), gQ (l ++ r) = gQ l ++ gQ r := fun l r => by simp [QD]
theorem GQ : ∀ (l r : List Stmt), fR (l ++ r) = fR l ++ fR r := fun l r => by simp [QA]
theorem GR : ∀ (l r : List Routine), iE (l ++ r) = iE l ++ iE r := fun l r => by simp [QB]
theorem QC (x : Expr) : gQ [x] = nmE x := by simp [gQ]
theorem aCB (x : Stmt) : fR [x] = nmS x := by simp [fR]
theorem aCC (x : Routine) : iE [x] = nmR x := by simp [iE]
abbrev roomy (l : List ByteArray) : Prop := l.length ≤ 1099511627776
theorem pR {S : ByteArray → Prop} : ∀ {l : List Expr}, fS S l → ∀ x ∈ l, inE S x
 | y :: r, h, x, hx => by
  simp only [fS] at h
  rcases List.mem_cons.1 hx with rfl | hx
  ·exact h.1
  ·exact pR h.2 x hx
theorem IE {S : ByteArray → Prop} : ∀ {l : List Stmt}, lL S l → ∀ x ∈ l, inS S x
 | y :: r, h, x, hx => by
  simp only [lL] at h
  rcases List.mem_cons.1 hx with rfl | hx
  ·exact h.1
  ·exact IE h.2 x hx
theorem IF {S : ByteArray → Prop} : ∀ {l : List Routine}, kF S l → ∀ x ∈ l, inR S x
 | y :: r, h, x, hx => by
  simp only [kF] at h
  rcases List.mem_cons.1 hx with rfl | hx
  ·exact h.1
  ·exact IF h.2 x hx
theorem J8 {l pre post : List Expr} {x : Expr} (h : l = pre ++ x :: post) : (gQ l).length = (gQ pre).length + (nmE x).length + (gQ post).length := by
 subst h; rw [zF]; simp only [gQ, List.length_append]; omega
theorem YQ {l pre post : List Stmt} {x : Stmt} (h : l = pre ++ x :: post) : (fR l).length = (fR pre).length + (nmS x).length + (fR post).length := by
 subst h; rw [GQ]; simp only [fR, List.length_append]; omega
theorem YR {l pre post : List Routine} {x : Routine} (h : l = pre ++ x :: post) : (iE l).length = (iE pre).length + (nmR x).length + (iE post).length := by
 subst h; rw [GR]; simp only [iE, List.length_append]; omega
theorem AK [GI] : ∀ (n : Nat) (x : Expr), x.sz ≤ n → x.ok → inE small x → roomy (nmE x) → ∀ h : AHeap, aD prog 87 [.agg (aO x)] h (fun v g => v = .sl (txt (nmE x)) false ∧ g = h) := by
 intro n
 induction n with
 | zero => intro x hn; rw [Expr.cY] at hn; omega
 | succ n ih =>
  intro x hn ho hs hr h
  obtain ⟨s1, s2, s3⟩ := (pS small x).1 hs
  obtain ⟨o1, o2⟩ := (Expr.cN x).1 ho
  have hz := Expr.cY x
  have hlen : (nmE x).length = (parts x.name).length + (parts x.field).length + (gQ x.l).length := by rw [J9]; simp only [List.length_append]
  unfold roomy at hr
  refine F87.calls (by simp) ?_
  delta F87.c0
  simp only [go_sem,seval]
  refine aW (IT h x.name s1) (fun v1 g1 G1 => ?_)
  simp only [go_sem,seval]
  refine tcE (j5 g1 x.field s2) ?_
  simp only [go_sem,seval]
  refine G1.nD (by omega) (fun v2 g2 G2 => ?_)
  simp only [go_sem,seval]
  refine aX x.l (fun pre post e g => ∃ v, GL 9 1 h g v (txt (parts x.name ++ parts x.field ++ gQ pre)) ∧ e = [(1, .ip (aO x) 0), (3, v), (4, .int .i64 pre.length)]) (aF.env ?_) ⟨v2, by simpa [gQ] using G2, rfl⟩ ?_ ?_
  ·simp only [go_sem,seval]
  ·rintro pre y post e g hp ⟨v, G, rfl⟩
   have hy := bJ hp
   have hyz := cI.dU hy
   have sp := J8 hp
   simp only [go_sem,seval, bI hp, aI (aK hp) (aR y)]
   refine tcE (ih y (by omega) (o2 y hy) (pR s3 y hy) (by unfold roomy; omega) g) ?_
   simp only [go_sem,seval]
   refine G.nD (by simp only [List.length_append]; omega) (fun v' g' G' => ?_)
   simp only [go_sem,seval]
   refine ⟨_, _, aF.env ?_, v', ?_, rfl⟩
   ·simp only [go_sem,seval, aQ o1 hp]
   ·rw [zF, QC, ← List.append_assoc]; exact G'
  ·rintro e g ⟨v, G, rfl⟩
   simp only [go_sem,seval, bE]
   refine aM.same ?_
   simp only [go_sem,seval]
   refine G.tQ ⟨?_, rfl⟩
   rw [J9]
theorem CI [GI] (l : List Var) (hl : few l) (hs : ∀ v ∈ l, rA small v) (hr : roomy (iK l)) (full : Bool) (h : AHeap) : aD prog 39 [.sl (l.map dF) full] h (fun v g => v = .sl (txt (iK l)) false ∧ g = h) := by
 unfold roomy at hr
 refine F39.calls (by simp) ?_
 delta F39.c0
 simp only [go_sem,seval]
 refine aX l (fun pre post e g => ∃ v, GL 9 1 h g v (txt (iK pre)) ∧ e = [(0, .sl (l.map dF) full), (3, v), (4, .int .i64 pre.length)]) (aF.env ?_) ⟨.sl [] true, .nil h, rfl⟩ ?_ ?_
 ·simp only [go_sem,seval]
 ·rintro pre y post e g hp ⟨v, G, rfl⟩
  have hy := hs y (bJ hp)
  have sp : (iK l).length = (iK pre).length + ((parts y.name).length + (parts y.t.name).length) + (iK post).length := by
   rw [hp]; simp only [iK, List.flatMap_append, List.flatMap_cons, List.length_append, BG]; omega
  simp only [go_sem,seval, bI hp, aI (aK hp) (eO y)]
  refine tcE (j5 g y.name hy.1) ?_
  simp only [go_sem,seval]
  refine G.nD (by omega) (fun v1 g1 G1 => ?_)
  simp only [go_sem,seval, aI (aK hp) (eO y)]
  refine tcE (j5 g1 y.t.name hy.2) ?_
  simp only [go_sem,seval]
  refine G1.nD (by simp only [List.length_append]; omega) (fun v2 g2 G2 => ?_)
  simp only [go_sem,seval]
  refine ⟨_, _, aF.env ?_, v2, ?_, rfl⟩
  ·simp only [go_sem,seval, aQ hl hp]
  ·have : iK (pre ++ [y]) = iK pre ++ parts y.name ++ parts y.t.name := by simp [iK, BG]
   rw [this]; exact G2
 ·rintro e g ⟨v, G, rfl⟩
  simp only [go_sem,seval, bE]
  refine aM.same ?_
  simp only [go_sem,seval]
  exact G.tQ ⟨rfl, rfl⟩
theorem zS [GI] : ∀ (n : Nat) (l : List Stmt), aZ.sz l ≤ n → few l → (∀ x ∈ l, x.ok) → lL small l → roomy (fR l) → ∀ (full : Bool) (h : AHeap), aD prog 41 [.sl (l.map bA) full] h (fun v g => v = .sl (txt (fR l)) false ∧ g = h) := by
 intro n
 induction n with
 | zero =>
  intro l hn hw ho hs hr full h
  cases l with
  | cons x r => simp [aZ.sz] at hn
  | nil =>
   refine F41.calls (by simp) ?_
   delta F41.c0
   simp only [go_sem,seval]
   refine gR ?_
   simp only [go_sem,seval]
   exact (GL.nil (ty := 9) (size := 1) h).tQ ⟨rfl, rfl⟩
 | succ n ih =>
  intro l hn hw ho hs hr full h
  unfold roomy at hr
  refine F41.calls (by simp) ?_
  delta F41.c0
  simp only [go_sem,seval]
  refine aX l (fun pre post e g => ∃ v, GL 9 1 h g v (txt (fR pre)) ∧ e = [(0, .sl (l.map bA) full), (3, v), (4, .int .i64 pre.length)]) (aF.env ?_) ⟨.sl [] true, .nil h, rfl⟩ ?_ ?_
  ·simp only [go_sem,seval]
  ·rintro pre x post e g hp ⟨v, G, rfl⟩
   have hx := bJ hp
   have hxz := aZ.dU hx
   have hz := Stmt.cY x
   have sp := YQ hp
   obtain ⟨i1, i2, i3, i4, i5⟩ := (qR small x).1 (IE hs x hx)
   have hok := (Stmt.cN x).1 (ho x hx)
   have hlen : (nmS x).length = (parts x.name).length + (nmE x.p).length + (gQ x.e).length + (fR x.body).length + (fR x.els).length := by rw [J4]; simp only [List.length_append]
   simp only [go_sem,seval, bI hp, aI (aK hp) (c6 x)]
   refine tcE (j5 g x.name i1) ?_
   simp only [go_sem,seval]
   refine G.nD (by omega) (fun v1 g1 G1 => ?_)
   simp only [go_sem,seval, aI (aK hp) (c6 x)]
   refine tcE (AK _ x.p (Nat.le_refl _) hok.2.2.1 i2 (by unfold roomy; omega) g1) ?_
   simp only [go_sem,seval]
   refine G1.nD (by simp only [List.length_append]; omega) (fun v2 g2 G2 => ?_)
   simp only [go_sem,seval]
   refine aX x.e (fun pre' post' e k => ∃ v, GL 9 1 h k v (txt (fR pre ++ parts x.name ++ nmE x.p ++ gQ pre')) ∧ e = [(0, .sl (l.map bA) full), (3, v), (4, .int .i64 pre.length), (5, .int .i64 pre'.length)]) (aF.env ?_) ⟨v2, by simpa [gQ] using G2, rfl⟩ ?_ ?_
   ·simp only [go_sem,seval]
   ·rintro pre' y post' e k hp' ⟨v3, G3, rfl⟩
    have hy := bJ hp'
    have sp' := J8 hp'
    simp only [go_sem,seval, bI hp', aI (aK hp) (c6 x), aI (aK hp') (aR y)]
    refine tcE (AK _ y (Nat.le_refl _) (hok.2.2.2.2.1 y hy) (pR i3 y hy) (by unfold roomy; omega) k) ?_
    simp only [go_sem,seval]
    refine G3.nD (by simp only [List.length_append]; omega) (fun v4 g4 G4 => ?_)
    simp only [go_sem,seval]
    refine ⟨_, _, aF.env ?_, v4, ?_, rfl⟩
    ·simp only [go_sem,seval, aQ hok.2.2.2.1 hp']
    ·rw [zF, QC, ← List.append_assoc]; exact G4
   ·rintro e k ⟨v3, G3, rfl⟩
    simp only [go_sem,seval, bE, aI (aK hp) (c6 x)]
    refine aM.same ?_
    simp only [go_sem,seval, aI (aK hp) (c6 x)]
    refine tcE (ih x.body (by omega) hok.2.2.2.2.2.1 hok.2.2.2.2.2.2.1 i4 (by unfold roomy; omega) false k) ?_
    simp only [go_sem,seval]
    refine G3.nD (by simp only [List.length_append]; omega) (fun v4 g4 G4 => ?_)
    simp only [go_sem,seval, aI (aK hp) (c6 x)]
    refine tcE (ih x.els (by omega) hok.2.2.2.2.2.2.2.1 hok.2.2.2.2.2.2.2.2.1 i5 (by unfold roomy; omega) false g4) ?_
    simp only [go_sem,seval]
    refine G4.nD (by simp only [List.length_append]; omega) (fun v5 g5 G5 => ?_)
    simp only [go_sem,seval]
    refine ⟨_, _, aF.env ?_, v5, ?_, rfl⟩
    ·simp only [go_sem,seval, aQ hw hp]
    ·have e1 : fR (pre ++ [x]) = fR pre ++ parts x.name ++ nmE x.p ++ gQ x.e ++ fR x.body ++ fR x.els := by rw [GQ, aCB, J4]; simp only [List.append_assoc]
     rw [e1]; exact G5
  ·rintro e g ⟨v, G, rfl⟩
   simp only [go_sem,seval, bE]
   refine aM.same ?_
   simp only [go_sem,seval]
   exact G.tQ ⟨rfl, rfl⟩
theorem FX [GI] : ∀ (n : Nat) (l : List Routine), bB.sz l ≤ n → few l → (∀ x ∈ l, x.ok) → kF small l → roomy (iE l) → ∀ (full : Bool) (h : AHeap), aD prog 40 [.sl (l.map aU) full] h (fun v g => v = .sl (txt (iE l)) false ∧ g = h) := by
 intro n
 induction n with
 | zero =>
  intro l hn hw ho hs hr full h
  cases l with
  | cons x r => simp [bB.sz] at hn
  | nil =>
   refine F40.calls (by simp) ?_
   delta F40.c0
   simp only [go_sem,seval]
   refine gR ?_
   simp only [go_sem,seval]
   exact (GL.nil (ty := 9) (size := 1) h).tQ ⟨rfl, rfl⟩
 | succ n ih =>
  intro l hn hw ho hs hr full h
  unfold roomy at hr
  refine F40.calls (by simp) ?_
  delta F40.c0
  simp only [go_sem,seval]
  refine aX l (fun pre post e g => ∃ v, GL 9 1 h g v (txt (iE pre)) ∧ e = [(0, .sl (l.map aU) full), (3, v), (4, .int .i64 pre.length)]) (aF.env ?_) ⟨.sl [] true, .nil h, rfl⟩ ?_ ?_
  ·simp only [go_sem,seval]
  ·rintro pre x post e g hp ⟨v, G, rfl⟩
   have hx := bJ hp
   have hxz := bB.dU hx
   have hz := Routine.cY x
   have sp := YR hp
   obtain ⟨i1, i2, i3, i4, i5⟩ := (oP small x).1 (IF hs x hx)
   have hok := (Routine.cN x).1 (ho x hx)
   have hlen : (nmR x).length = (parts x.name).length + (gD x.params).length + (iK x.vars).length + (iE x.inner).length + (fR x.body).length := by rw [J6]; simp only [List.length_append]
   simp only [go_sem,seval, bI hp, aI (aK hp) (bL x)]
   refine tcE (j5 g x.name i1) ?_
   simp only [go_sem,seval]
   refine G.nD (by omega) (fun v1 g1 G1 => ?_)
   simp only [go_sem,seval]
   refine aX x.params (fun pre' post' e k => ∃ v, GL 9 1 h k v (txt (iE pre ++ parts x.name ++ gD pre')) ∧ e = [(0, .sl (l.map aU) full), (3, v), (4, .int .i64 pre.length), (5, .ip (aU x) 0), (6, .int .i64 pre'.length)]) (aF.env ?_) ⟨v1, by simpa [gD] using G1, rfl⟩ ?_ ?_
   ·simp only [go_sem,seval]
   ·rintro pre' y post' e k hp' ⟨v3, G3, rfl⟩
    have hy := i2 y (bJ hp')
    have sp' : (gD x.params).length = (gD pre').length + ((parts y.name).length + (parts y.t.name).length) + (gD post').length := by
     rw [hp']; simp only [gD, List.flatMap_append, List.flatMap_cons, List.length_append, tO]; omega
    simp only [go_sem,seval, bI hp', aI (aK hp') (bP y)]
    refine tcE (j5 k y.name hy.1) ?_
    simp only [go_sem,seval]
    refine G3.nD (by simp only [List.length_append]; omega) (fun v4 g4 G4 => ?_)
    simp only [go_sem,seval, aI (aK hp') (bP y)]
    refine tcE (j5 g4 y.t.name hy.2) ?_
    simp only [go_sem,seval]
    refine G4.nD (by simp only [List.length_append]; omega) (fun v5 g5 G5 => ?_)
    simp only [go_sem,seval]
    refine ⟨_, _, aF.env ?_, v5, ?_, rfl⟩
    ·simp only [go_sem,seval, aQ hok.2.2.1 hp']
    ·have : iE pre ++ parts x.name ++ gD (pre' ++ [y]) = iE pre ++ parts x.name ++ gD pre' ++ parts y.name ++ parts y.t.name := by simp [gD, tO]
     rw [this]; exact G5
   ·rintro e k ⟨v3, G3, rfl⟩
    simp only [go_sem,seval, bE]
    refine aM.same ?_
    simp only [go_sem,seval]
    refine tcE (CI x.vars hok.2.2.2.1 i3 (by unfold roomy; omega) false k) ?_
    simp only [go_sem,seval]
    refine G3.nD (by simp only [List.length_append]; omega) (fun v4 g4 G4 => ?_)
    simp only [go_sem,seval]
    refine tcE (ih x.inner (by omega) hok.2.2.2.2.2.1 hok.2.2.2.2.2.2.1 i4 (by unfold roomy; omega) false g4) ?_
    simp only [go_sem,seval]
    refine G4.nD (by simp only [List.length_append]; omega) (fun v5 g5 G5 => ?_)
    simp only [go_sem,seval]
    refine tcE (zS _ x.body (Nat.le_refl _) hok.2.2.2.2.2.2.2.1 hok.2.2.2.2.2.2.2.2.1 i5 (by unfold roomy; omega) false g5) ?_
    simp only [go_sem,seval]
    refine G5.nD (by simp only [List.length_append]; omega) (fun v6 g6 G6 => ?_)
    simp only [go_sem,seval]
    refine ⟨_, _, aF.env ?_, v6, ?_, rfl⟩
    ·simp only [go_sem,seval, aQ hw hp]
    ·have e1 : iE (pre ++ [x]) = iE pre ++ parts x.name ++ gD x.params ++ iK x.vars ++ iE x.inner ++ fR x.body := by rw [GR, aCC, J6]; simp only [List.append_assoc]
     rw [e1]; exact G6
  ·rintro e g ⟨v, G, rfl⟩
   simp only [go_sem,seval, bE]
   refine aM.same ?_
   simp only [go_sem,seval]
   exact G.tQ ⟨rfl, rfl⟩
end Pg
namespace Pg
open Go Go.Proofs.Tryz
theorem oX : ∀ (l out : List ByteArray) (x : ByteArray), once out (l ++ [x]) = if x = noBytes then once out l else if fY x (once out l) then once out l else once out l ++ [x]
 | [], out, x => rfl
 | y :: l, out, x => by
  simp only [List.cons_append, once]
  split
  ·exact oX l out x
  ·split
   ·exact oX l out x
   ·exact oX l _ x
theorem Z7 {l pre post : List ByteArray} {x : ByteArray} (h : l = pre ++ x :: post) : (txt l)[pre.length]? = some [.str x] := by subst h; simp
theorem ZV [GI] (p : Prg) (ho : p.ok) (hs : inP small p) (hr : roomy (nmP p)) (h : AHeap) : aD prog 15 [.agg (fJ p)] h (fun v g => v = .sl (txt (names p)) false ∧ g = h) := by
 unfold roomy at hr
 have hlen : (nmP p).length = (parts p.name).length + (jU p.recs).length + (iK p.vars).length + (iE p.aH).length + (fR p.body).length := by unfold nmP; simp only [List.length_append]
 have hfew : few (nmP p) := by unfold few; omega
 refine F15.calls (by simp) ?_
 delta F15.c0
 simp only [go_sem,seval]
 refine aW (IT h p.name hs.name) (fun v1 g1 G1 => ?_)
 simp only [go_sem,seval]
 refine aX p.recs (fun pre post e g => ∃ v, GL 9 1 h g v (txt (parts p.name ++ jU pre)) ∧ e = [(1, .ip (fJ p) 0), (3, v), (4, .int .i64 pre.length)]) (aF.env ?_) ⟨v1, by simpa [jU] using G1, rfl⟩ ?_ ?_
 ·simp only [go_sem,seval]
 ·rintro pre x post e g hp ⟨v, G, rfl⟩
  have hx := hs.recs x (bJ hp)
  have ox := ho.rV x (bJ hp)
  have sp : (jU p.recs).length = (jU pre).length + ((parts x.name).length + (lD x.fields).length) + (jU post).length := by
   rw [hp]; simp only [jU, List.flatMap_append, List.flatMap_cons, List.length_append, BH]; omega
  simp only [go_sem,seval, bI hp, aI (aK hp) (dG x)]
  refine tcE (j5 g x.name hx.1) ?_
  simp only [go_sem,seval]
  refine G.nD (by simp only [List.length_append]; omega) (fun v2 g2 G2 => ?_)
  simp only [go_sem,seval]
  refine aX x.fields (fun pre' post' e k => ∃ v, GL 9 1 h k v (txt (parts p.name ++ jU pre ++ parts x.name ++ lD pre')) ∧ e = [(1, .ip (fJ p) 0), (3, v), (4, .int .i64 pre.length), (5, .int .i64 pre'.length)]) (aF.env ?_) ⟨v2, by simpa [lD] using G2, rfl⟩ ?_ ?_
  ·simp only [go_sem,seval]
  ·rintro pre' y post' e k hp' ⟨v3, G3, rfl⟩
   have hy := hx.2 y (bJ hp')
   have sp' : (lD x.fields).length = (lD pre').length + (parts y.name).length + (lD post').length := by
    rw [hp']; simp only [lD, List.flatMap_append, List.flatMap_cons, List.length_append]; omega
   simp only [go_sem,seval, bI hp', aI (aK hp) (dG x), aI (aK hp') (eC y)]
   refine tcE (j5 k y.name hy) ?_
   simp only [go_sem,seval]
   refine G3.nD (by simp only [List.length_append]; omega) (fun v4 g4 G4 => ?_)
   simp only [go_sem,seval]
   refine ⟨_, _, aF.env ?_, v4, ?_, rfl⟩
   ·simp only [go_sem,seval, aQ ox.fields hp']
   ·have : parts p.name ++ jU pre ++ parts x.name ++ lD (pre' ++ [y]) = parts p.name ++ jU pre ++ parts x.name ++ lD pre' ++ parts y.name := by simp [lD]
    rw [this]; exact G4
  ·rintro e k ⟨v3, G3, rfl⟩
   simp only [go_sem,seval, bE, aI (aK hp) (dG x)]
   refine aM.same ?_
   simp only [go_sem,seval]
   refine ⟨_, _, aF.env ?_, v3, ?_, rfl⟩
   ·simp only [go_sem,seval, aQ ho.recs hp]
   ·have : parts p.name ++ jU (pre ++ [x]) = parts p.name ++ jU pre ++ parts x.name ++ lD x.fields := by simp [jU, BH]
    rw [this]; exact G3
 ·rintro e g ⟨v, G, rfl⟩
  simp only [go_sem,seval, bE]
  refine aM.same ?_
  simp only [go_sem,seval]
  refine tcE (CI p.vars ho.vars hs.vars (by unfold roomy; omega) false g) ?_
  simp only [go_sem,seval]
  refine G.nD (by simp only [List.length_append]; omega) (fun v4 g4 G4 => ?_)
  simp only [go_sem,seval]
  refine tcE (FX _ p.aH (Nat.le_refl _) ho.aH ho.iO hs.aH (by unfold roomy; omega) false g4) ?_
  simp only [go_sem,seval]
  refine G4.nD (by simp only [List.length_append]; omega) (fun v5 g5 G5 => ?_)
  simp only [go_sem,seval]
  refine tcE (zS _ p.body (Nat.le_refl _) ho.body ho.rH hs.body (by unfold roomy; omega) false g5) ?_
  simp only [go_sem,seval]
  refine G5.nD (by simp only [List.length_append]; omega) (fun v6 g6 G6 => ?_)
  have G7 : GL 9 1 h g6 v6 (txt (nmP p)) := G6
  clear G6
  simp only [go_sem,seval]
  refine aX (nmP p) (fun pre post e g => ∃ v, GL 9 1 g6 g v (txt (once [] pre)) ∧ e = [(3, v6), (6, v), (7, .int .i64 pre.length)]) (aF.env ?_) ⟨.sl [] true, .nil g6, rfl⟩ ?_ ?_
  ·simp only [go_sem,seval]
  ·rintro pre x post e g hp ⟨v, G, rfl⟩
   have hA := G7.aia .i64 (Z7 hp)
   have hL := G7.len g
   have ol := BA pre []
   have pl : pre.length ≤ (nmP p).length := Nat.le_of_lt (gE hp).2
   have ofew : few (once [] pre) := by unfold few; simp at ol; omega
   by_cases h0 : x = noBytes
   ·subst h0
    simp only [go_sem,seval, hL, bI hp, hA]
    refine ⟨_, _, aF.env ?_, v, ?_, rfl⟩
    ·simp only [go_sem,seval, aQ hfew hp]
    ·rw [oX, if_pos rfl]; exact G
   ·have h0' : (x = (⟨#[]⟩ : ByteArray)) = False := by simpa using h0
    simp only [go_sem,seval, hL, bI hp, hA, h0']
    refine tcL (LD g (once [] pre) ofew false x) (.cons G.B7 (.cons (.refl _) .nil)) ?_
    simp only [go_sem,seval]
    cases ha : fY x (once [] pre) with
    | true =>
     simp only [go_sem,seval]
     refine ⟨_, _, aF.env ?_, v, ?_, rfl⟩
     ·simp only [go_sem,seval, aQ hfew hp]
     ·rw [oX, if_neg h0, if_pos ha]; exact G
    | false =>
     simp only [go_sem,seval, hA]
     refine G.aB0 (by simp at ol; omega) (fun v' g' G' => ?_)
     simp only [go_sem,seval]
     refine ⟨_, _, aF.env ?_, v', ?_, rfl⟩
     ·simp only [go_sem,seval, aQ hfew hp]
     ·rw [oX, if_neg h0, if_neg (by rw [ha]; simp)]; exact G'
  ·rintro e g ⟨v, G, rfl⟩
   have hL := G7.len g
   simp only [go_sem,seval, hL, bE]
   refine aM.same ?_
   simp only [go_sem,seval]
   exact eE.less G.B7 (AHeap.le_trans G7.le G.le) ⟨rfl, rfl⟩
end Pg
