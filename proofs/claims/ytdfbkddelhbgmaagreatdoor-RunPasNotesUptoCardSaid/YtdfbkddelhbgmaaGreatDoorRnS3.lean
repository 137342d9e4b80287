import Derived.Test.YtdfbkddelhbgmaaGreatDoorCheckSpecJS3
namespace Pg
open Go
set_option linter.all false
section
variable (ρ : ByteArray → ByteArray)
def dD (t : Typ) : Typ := ⟨t.kind, t.size, ρ t.name⟩
mutual
def rnE : Expr → Expr
 | ⟨op, n, name, field, l⟩ => ⟨op, n, ρ name, ρ field, fI l⟩
def fI : List Expr → List Expr
 | [] => []
 | x :: r => rnE x :: fI r
end
mutual
def rnS : Stmt → Stmt
 | ⟨before, aP, op, name, p, e, down, more, body, els, cO, cT⟩ => ⟨before, aP, op, ρ name, rnE ρ p, fI ρ e, down, more, fH body, fH els, cO, cT⟩
def fH : List Stmt → List Stmt
 | [] => []
 | x :: r => rnS x :: fH r
end
def jO (f : Fld) : Fld := ⟨f.before, f.aP, ρ f.name, f.kind⟩
def gA (r : Rec) : Rec := ⟨r.before, r.aP, ρ r.name, r.fields.map (jO ρ), r.bT⟩
def lJ (v : Var) : Var := ⟨v.before, v.aP, ρ v.name, dD ρ v.t⟩
def eK (p : Param) : Param := ⟨ρ p.name, dD ρ p.t, p.mode⟩
mutual
def rnR : Routine → Routine
 | ⟨before, aP, name, result, params, vars, inner, body, bT⟩ => ⟨before, aP, ρ name, result, params.map (eK ρ), vars.map (lJ ρ), iS inner, fH ρ body, bT⟩
def iS : List Routine → List Routine
 | [] => []
 | x :: r => rnR x :: iS r
end
def rnP (p : Prg) : Prg := ⟨ρ p.name, p.before, p.mid, p.after, p.recs.map (gA ρ), p.vars.map (lJ ρ), iS ρ p.aH, fH ρ p.body, p.bT⟩
theorem lC (x : Expr) : rnE ρ x = ⟨x.op, x.n, ρ x.name, ρ x.field, fI ρ x.l⟩ := by obtain ⟨op, n, name, field, l⟩ := x; rw [rnE]
theorem mV (x : Stmt) : rnS ρ x = ⟨x.before, x.aP, x.op, ρ x.name, rnE ρ x.p, fI ρ x.e, x.down, x.more, fH ρ x.body, fH ρ x.els, x.cO, x.cT⟩ := by
 obtain ⟨before, aP, op, name, p, e, down, more, body, els, cO, cT⟩ := x; rw [rnS]
theorem kZ (x : Routine) : rnR ρ x = ⟨x.before, x.aP, ρ x.name, x.result, x.params.map (eK ρ), x.vars.map (lJ ρ), iS ρ x.inner, fH ρ x.body, x.bT⟩ := by
 obtain ⟨before, aP, name, result, params, vars, inner, body, bT⟩ := x; rw [rnR]
theorem iC : ∀ l, fI ρ l = l.map (rnE ρ)
 | [] => rfl
 | x :: r => by simp [fI, iC r]
theorem kT : ∀ l, fH ρ l = l.map (rnS ρ)
 | [] => rfl
 | x :: r => by simp [fH, kT r]
theorem oD : ∀ l, iS ρ l = l.map (rnR ρ)
 | [] => rfl
 | x :: r => by simp [iS, oD r]
end
section
variable (S : ByteArray → Prop)
mutual
def inE : Expr → Prop
 | ⟨op, n, name, field, l⟩ => S name ∧ S field ∧ fS l
def fS : List Expr → Prop
 | [] => True
 | x :: r => inE x ∧ fS r
end
mutual
def inS : Stmt → Prop
 | ⟨before, aP, op, name, p, e, down, more, body, els, cO, cT⟩ => S name ∧ inE S p ∧ fS S e ∧ lL body ∧ lL els
def lL : List Stmt → Prop
 | [] => True
 | x :: r => inS x ∧ lL r
end
def KC (r : Rec) : Prop := S r.name ∧ ∀ f ∈ r.fields, S f.name
def rA (v : Var) : Prop := S v.name ∧ S v.t.name
def nW (p : Param) : Prop := S p.name ∧ S p.t.name
mutual
def inR : Routine → Prop
 | ⟨before, aP, name, result, params, vars, inner, body, bT⟩ => S name ∧ (∀ p ∈ params, nW S p) ∧ (∀ v ∈ vars, rA S v) ∧ kF inner ∧ lL S body
def kF : List Routine → Prop
 | [] => True
 | x :: r => inR x ∧ kF r
end
structure inP (p : Prg) : Prop where
 name : S p.name
 recs : ∀ r ∈ p.recs, KC S r
 vars : ∀ v ∈ p.vars, rA S v
 aH : kF S p.aH
 body : lL S p.body
theorem pS (x : Expr) : inE S x ↔ S x.name ∧ S x.field ∧ fS S x.l := by obtain ⟨op, n, name, field, l⟩ := x; rw [inE]
theorem qR (x : Stmt) : inS S x ↔ S x.name ∧ inE S x.p ∧ fS S x.e ∧ lL S x.body ∧ lL S x.els := by
 obtain ⟨before, aP, op, name, p, e, down, more, body, els, cO, cT⟩ := x; rw [inS]
theorem oP (x : Routine) : inR S x ↔ S x.name ∧ (∀ p ∈ x.params, nW S p) ∧ (∀ v ∈ x.vars, rA S v) ∧ kF S x.inner ∧ lL S x.body := by
 obtain ⟨before, aP, name, result, params, vars, inner, body, bT⟩ := x; rw [inR]
end
structure Ren (ρ : ByteArray → ByteArray) (S : ByteArray → Prop) : Prop where
 inj : ∀ a b, S a → S b → ρ a = ρ b → a = b
 none_ : ρ noBytes = noBytes
 FG : S noBytes
section
variable {ρ : ByteArray → ByteArray} {S : ByteArray → Prop} (R : Ren ρ S)
def qB (ρ : ByteArray → ByteArray) : Thing → Thing
 | .var t => .var (dD ρ t)
 | .rcd r => .rcd (gA ρ r)
 | .bU r => .bU (rnR ρ r)
def FK (S : ByteArray → Prop) : Thing → Prop
 | .var t => S t.name
 | .rcd r => KC S r
 | .bU r => inR S r
def LR (ρ : ByteArray → ByteArray) (S : ByteArray → Prop) (f f' : ByteArray → Option Thing) : Prop := ∀ n, S n → f' (ρ n) = (f n).map (qB ρ) ∧ ∀ x, f n = some x → FK S x
include R
theorem Ren.eq {a b : ByteArray} (ha : S a) (hb : S b) : (ρ a = ρ b) = (a = b) := propext ⟨R.inj a b ha hb, fun h => by rw [h]⟩
theorem Ren.dec {a b : ByteArray} (ha : S a) (hb : S b) : decide (ρ a = ρ b) = decide (a = b) := by simp only [R.eq ha hb]
theorem LR.set {f f' : ByteArray → Option Thing} (h : LR ρ S f f') {name : ByteArray} {x : Thing} (hn : S name) (hx : FK S x) : LR ρ S (fun n => if n = name then some x else f n) (fun n => if n = ρ name then some (qB ρ x) else f' n) := by
 intro n sn
 by_cases e : n = name
 ·subst e; simp only [if_true, Option.map_some, Option.some.injEq, forall_eq']; exact ⟨trivial, hx⟩
 ·have : ¬ ρ n = ρ name := by rw [R.eq sn hn]; exact e
  simp only [e, this, if_false]
  exact h n sn
def SR (ρ : ByteArray → ByteArray) (S : ByteArray → Prop) (fs fs' : List Scope) : Prop := fs ≠ [] ∧ fs' ≠ [] ∧ LR ρ S (bD fs) (bD fs')
theorem SR.lay {fs fs' : List Scope} (h : SR ρ S fs fs') {name : ByteArray} {x : Thing} (hn : S name) (hx : FK S x) : SR ρ S (j8 name x fs) (j8 (ρ name) (qB ρ x) fs') := by
 obtain ⟨h1, h2, h3⟩ := h
 refine ⟨by cases fs <;> simp_all [j8], by cases fs' <;> simp_all [j8], ?_⟩
 intro n sn
 rw [kU _ _ h1, kU _ _ h2]
 exact LR.set R h3 hn hx n sn
theorem SR.sS {fs fs' : List Scope} (h : SR ρ S fs fs') : SR ρ S ([] :: fs) ([] :: fs') := by
 refine ⟨by simp, by simp, fun n sn => ?_⟩
 have := h.2.2 n sn
 simpa [bD, look] using this
theorem LR.all : ∀ (l : List Routine), kF S l → ∀ {f f' : Scope}, LR ρ S (look f) (look f') → LR ρ S (look (cK f l)) (look (cK f' (iS ρ l)))
 | [], _, f, f', h => h
 | r :: l, hl, f, f', h => by
  simp only [kF] at hl
  simp only [iS, cK]
  refine LR.all l hl.2 ?_
  have hr := (oP S r).1 hl.1
  have := LR.set R h (name := r.name) (x := .bU r) hr.1 hl.1
  intro n sn
  rw [lK, lK]
  have hname : (rnR ρ r).name = ρ r.name := by rw [kZ]
  rw [hname]
  exact this n sn
theorem SR.all {fs fs' : List Scope} (h : SR ρ S fs fs') {l : List Routine} (hl : kF S l) : SR ρ S (cK [] l :: fs) (cK [] (iS ρ l) :: fs') := by
 refine ⟨by simp, by simp, fun n sn => ?_⟩
 have a := LR.all R l hl (f := []) (f' := []) (fun n _ => by simp [look]) n sn
 have b := h.2.2 n sn
 simp only [bD]
 rw [a.1]
 cases e : look (cK [] l) n with
 | none => simpa using b
 | some x => exact ⟨rfl, fun y hy => by cases hy; exact a.2 _ e⟩
def Sh (d : Int) (s s' : CS) : Prop := s'.bad = s.bad ∧ s'.item = w64 (s.item + d)
omit R in
theorem Sh.fail {d : Int} {s s' : CS} (h : Sh d s s') (e : Int) : Sh d (s.fail e) (s'.fail e) := by
 unfold CS.fail; rw [h.1]; split
 ·exact ⟨rfl, h.2⟩
 ·exact h
omit R in
theorem Sh.step {d : Int} {s s' : CS} (h : Sh d s s') : Sh d s.step s'.step := by
 refine ⟨h.1, ?_⟩
 simp only [CS.step, h.2, Z5]
 congr 1; omega
theorem PT {fs fs' : List Scope} (h : SR ρ S fs fs') {d : Int} {s s' : CS} (hs : Sh d s s') {name : ByteArray} {x : Thing} (hn : S name) (hx : FK S x) :
  SR ρ S (cR fs s name x).1 (cR fs' s' (ρ name) (qB ρ x)).1 ∧ Sh d (cR fs s name x).2 (cR fs' s' (ρ name) (qB ρ x)).2 := by
 unfold cR
 rw [(h.2.2 name hn).1]
 cases bD fs name with
 | none => exact ⟨h.lay R hn hx, hs⟩
 | some y => exact ⟨h, hs.fail 12⟩
theorem aAQ {fs fs' : List Scope} (h : SR ρ S fs fs') {d : Int} {s s' : CS} (hs : Sh d s s') {t : Typ} (ht : S t.name) : Sh d (iW fs s t) (iW fs' s' (dD ρ t)) := by
 unfold iW dD
 simp only [(h.2.2 _ ht).1]
 split
 ·cases e : bD fs t.name with
  | none => exact hs.fail 13
  | some y => cases y <;> simp only [Option.map_some, qB] <;> first | exact hs | exact hs.fail 13
 ·exact hs
def TR (ρ : ByteArray → ByteArray) (S : ByteArray → Prop) (d : Int) (p p' : Typ × CS) : Prop := S p.1.name ∧ p'.1 = dD ρ p.1 ∧ Sh d p.2 p'.2
theorem A3 : dD ρ noTyp = noTyp := by simp only [dD, noTyp, R.none_]
theorem JS (k : Int) : dD ρ (bC k) = bC k := by simp only [dD, bC, R.none_]
theorem TR.no {d : Int} {s s' : CS} (hs : Sh d s s') : TR ρ S d (noTyp, s) (noTyp, s') := ⟨R.FG, (A3 R).symm, hs⟩
theorem TR.kind {d : Int} {s s' : CS} (hs : Sh d s s') (k : Int) : TR ρ S d (bC k, s) (bC k, s') := ⟨R.FG, (JS R k).symm, hs⟩
theorem tX {fs fs' : List Scope} (h : SR ρ S fs fs') {d : Int} {s s' : CS} (hs : Sh d s s') {name : ByteArray} (hn : S name) : TR ρ S d (bK fs s name) (bK fs' s' (ρ name)) := by
 unfold bK
 have := h.2.2 name hn
 rw [this.1]
 cases e : bD fs name with
 | none => exact .no R (hs.fail 13)
 | some y => cases y with
  | var t => exact ⟨this.2 _ e, rfl, hs⟩
  | rcd r => exact .no R (hs.fail 13)
  | bU r => exact .no R (hs.fail 13)
theorem wD {name : ByteArray} (hn : S name) : ∀ {l : List Fld}, (∀ f ∈ l, S f.name) → (l.map (jO ρ)).find? (fun f => decide (f.name = ρ name)) = (l.find? (fun f => decide (f.name = name))).map (jO ρ)
 | [], _ => rfl
 | f :: l, h => by
  have : decide ((jO ρ f).name = ρ name) = decide (f.name = name) := R.dec (h f (by simp)) hn
  simp only [List.map_cons, List.find?_cons, this]
  cases decide (f.name = name) with
  | true => rfl
  | false => exact wD hn (fun f hf => h f (by simp [hf]))
theorem HY {fs fs' : List Scope} (h : SR ρ S fs fs') {d : Int} {s s' : CS} (hs : Sh d s s') {t : Typ} (ht : S t.name) {name : ByteArray} (hn : S name) :
  (dV fs' s' (dD ρ t) (ρ name)).1 = (dV fs s t name).1 ∧ Sh d (dV fs s t name).2 (dV fs' s' (dD ρ t) (ρ name)).2 := by
 unfold dV
 have hk : (dD ρ t).kind = t.kind := rfl
 have hnm : (dD ρ t).name = ρ t.name := rfl
 have := h.2.2 _ ht
 simp only [hk, hnm, this.1]
 split
 ·cases e : bD fs t.name with
  | none => exact ⟨rfl, hs.fail 13⟩
  | some y => cases y with
   | var t => exact ⟨rfl, hs.fail 13⟩
   | bU r => exact ⟨rfl, hs.fail 13⟩
   | rcd r =>
    have hr : KC S r := this.2 _ e
    simp only [Option.map_some, qB]
    have := wD R hn (l := r.fields) hr.2
    have hf : (gA ρ r).fields = r.fields.map (jO ρ) := rfl
    rw [hf, this]
    cases r.fields.find? (fun f => decide (f.name = name)) with
    | none => exact ⟨rfl, hs.fail 13⟩
    | some f => exact ⟨rfl, hs⟩
 ·exact ⟨rfl, hs.fail 14⟩
theorem wC {d : Int} {p p' : Typ × CS} (h : TR ρ S d p p') (kinds : List Int) : (c8 kinds p').1 = (c8 kinds p).1 ∧ Sh d (c8 kinds p).2 (c8 kinds p').2 := by
 obtain ⟨h1, h2, h3⟩ := h
 unfold c8
 rw [h2]
 refine ⟨rfl, ?_⟩
 have e1 : (dD ρ p.1).size = p.1.size := rfl
 have e2 : (dD ρ p.1).kind = p.1.kind := rfl
 simp only [e1, e2]
 split
 ·exact h3.fail 14
 ·exact h3
def RnE (ρ : ByteArray → ByteArray) (S : ByteArray → Prop) (d : Int) (fs fs' : List Scope) (x : Expr) : Prop := inE S x → ∀ s s' b, Sh d s s' → TR ρ S d (bY fs s x b) (bY fs' s' (rnE ρ x) b)
theorem tK {fs fs' : List Scope} {d : Int} : ∀ {l : List Expr}, (∀ x ∈ l, RnE ρ S d fs fs' x) → fS S l → ∀ {s s' : CS}, Sh d s s' → ∀ k, Sh d (cC fs s l k) (cC fs' s' (fI ρ l) k)
 | [], _, _, s, s', hs, k => by simp only [fI, cC]; exact hs
 | x :: r, h, hi, s, s', hs, k => by
  simp only [fS] at hi
  simp only [fI, cC]
  exact tK (fun y hy => h y (by simp [hy])) hi.2 (wC R (h x (by simp) hi.1 s s' false hs) [k]).2 k
omit R in
theorem H4 (ρ : ByteArray → ByteArray) (l : List Expr) : (fI ρ l).length = l.length := by rw [iC]; simp
theorem aAR {fs fs' : List Scope} {d : Int} {l : List Expr} (h : ∀ x ∈ l, RnE ρ S d fs fs' x) (hi : fS S l) {s s' : CS} (hs : Sh d s s') (kinds : List Int) : Sh d (j4 fs s kinds l) (j4 fs' s' kinds (fI ρ l)) := by
 cases l with
 | nil => simp only [fI, j4]; exact hs
 | cons x r =>
  simp only [fS] at hi
  simp only [fI, j4, H4]
  split
  ·have a := wC R (h x (by simp) hi.1 s s' false hs) kinds
   rw [a.1]
   exact tK R (fun y hy => h y (by simp [hy])) hi.2 a.2 _
  ·exact hs
omit R in
theorem aE3 (ρ : ByteArray → ByteArray) (x : Expr) : (rnE ρ x).op = x.op := by rw [lC]
theorem PU {a b : Typ} (ha : S a.name) (hb : S b.name) : (dD ρ a = dD ρ b) = (a = b) := by
 obtain ⟨k, z, n⟩ := a; obtain ⟨k', z', n'⟩ := b
 simp only [dD, Typ.mk.injEq, R.eq (a := n) (b := n') ha hb]
theorem FD {fs fs' : List Scope} {d : Int} : ∀ {l : List Expr}, (∀ x ∈ l, RnE ρ S d fs fs' x) → fS S l → ∀ {ps : List Param}, (∀ p ∈ ps, nW S p) → ∀ {s s' : CS}, Sh d s s' → Sh d (dB fs s ps l) (dB fs' s' (ps.map (eK ρ)) (fI ρ l))
 | [], _, _, ps, _, s, s', hs => by cases ps <;> simp only [fI, List.map_nil, List.map_cons, dB] <;> exact hs
 | x :: r, h, hi, [], _, s, s', hs => by simp only [fI, List.map_nil, dB]; exact hs
 | x :: r, h, hi, p :: ps, hp, s, s', hs => by
  simp only [fS] at hi
  have hr : ∀ y ∈ r, RnE ρ S d fs fs' y := fun y hy => h y (by simp [hy])
  have hps : ∀ p ∈ ps, nW S p := fun q hq => hp q (by simp [hq])
  have hpp := hp p (by simp)
  have e1 : (eK ρ p).mode = p.mode := rfl
  have e2 : (eK ρ p).t = dD ρ p.t := rfl
  have e3 : (dD ρ p.t).kind = p.t.kind := rfl
  simp only [fI, List.map_cons, dB, hs.1, e1, e2, e3, aE3]
  split
  ·split
   ·exact FD hr hi.2 hps (wC R (h x (by simp) hi.1 s s' false hs) _).2
   ·refine FD hr hi.2 hps ?_
    have a : Sh d (if x.op = 4 ∨ x.op = 5 ∨ x.op = 6 then s else s.fail 14) (if x.op = 4 ∨ x.op = 5 ∨ x.op = 6 then s' else s'.fail 14) := by
     split
     ·exact hs
     ·exact hs.fail 14
    obtain ⟨b1, b2, b3⟩ := h x (by simp) hi.1 _ _ false a
    rw [b2]
    have e4 := PU R b1 hpp.2
    by_cases hq : (bY fs (if x.op = 4 ∨ x.op = 5 ∨ x.op = 6 then s else s.fail 14) x false).1 = p.t
    ·have h5 := Eq.mpr e4 hq
     rw [if_pos hq, if_pos h5]; exact b3
    ·have h5 := fun h => hq (Eq.mp e4 h)
     rw [if_neg hq, if_neg h5]; exact b3.fail 14
  ·exact hs
theorem aFF {fs fs' : List Scope} (hf : SR ρ S fs fs') {d : Int} (x : Expr) (h : ∀ y ∈ x.l, RnE ρ S d fs fs' y) : RnE ρ S d fs fs' x := by
 intro hi s s' b hs
 obtain ⟨i1, i2, i3⟩ := (pS S x).1 hi
 rw [fQ, fQ, lC]
 simp only [hs.1]
 by_cases h0 : s.bad = 0
 ·simp only [h0, if_true]
  by_cases o : x.op = 1
  ·simp only [o, if_true]; exact .kind R hs 1
  simp only [o, if_false]; clear o
  by_cases o : x.op = 2
  ·simp only [o, if_true]; exact .kind R hs 2
  simp only [o, if_false]; clear o
  by_cases o : x.op = 3
  ·simp only [o, if_true]; exact .kind R hs 3
  simp only [o, if_false]; clear o
  by_cases o : x.op = 4
  ·simp only [o, if_true]; exact tX R hf hs i1
  simp only [o, if_false]; clear o
  by_cases o : x.op = 5
  ·simp only [o, if_true]
   obtain ⟨v1, v2, v3⟩ := tX R hf hs i1
   rw [v2]
   have e1 : (dD ρ (bK fs s x.name).1).kind = (bK fs s x.name).1.kind := rfl
   have e2 : (dD ρ (bK fs s x.name).1).size = (bK fs s x.name).1.size := rfl
   rw [e1, e2]
   refine .kind R (s := cC fs _ x.l 1) ?_ _
   refine tK R h i3 ?_ 1
   split
   ·exact v3.fail 14
   ·exact v3
  simp only [o, if_false]; clear o
  by_cases o : x.op = 6
  ·simp only [o, if_true]
   obtain ⟨v1, v2, v3⟩ := tX R hf hs i1
   rw [v2]
   have a := HY R hf v3 v1 i2
   rw [a.1]
   exact .kind R a.2 _
  simp only [o, if_false]; clear o
  by_cases o : x.op = 7
  ·simp only [o, if_true]
   have := hf.2.2 _ i1
   rw [this.1]
   cases e : bD fs x.name with
   | none => exact .no R (hs.fail 13)
   | some y => cases y with
    | var t => exact .no R (hs.fail 13)
    | rcd r => exact .no R (hs.fail 13)
    | bU r =>
     have hr := (oP S r).1 (this.2 _ e)
     simp only [Option.map_some, qB]
     have e1 : (rnR ρ r).result = r.result := by rw [kZ]
     have e2 : (rnR ρ r).params = r.params.map (eK ρ) := by rw [kZ]
     rw [e1, e2, List.length_map, H4]
     split
     ·exact .kind R (FD R h i3 hr.2.1 (hs.fail 14)) _
     ·split
      ·exact .kind R (FD R h i3 hr.2.1 hs) _
      ·exact .no R (hs.fail 15)
  simp only [o, if_false]; clear o
  split
  ·exact .kind R (tK R h i3 hs 2) _
  ·split
   ·exact .kind R (aAR R h i3 hs _) _
   ·split
    ·exact .kind R (aAR R h i3 hs _) _
    ·exact .kind R (tK R h i3 hs 1) _
 ·simp only [h0, if_false]
  exact .no R hs
theorem WH {fs fs' : List Scope} (hf : SR ρ S fs fs') {d : Int} : ∀ (n : Nat) (x : Expr), x.sz ≤ n → RnE ρ S d fs fs' x
 | 0, x, hn => by rw [Expr.cY] at hn; omega
 | n + 1, x, hn => aFF R hf x fun y hy => WH hf n y (by have := cI.dU hy; rw [Expr.cY] at hn; omega)
theorem FC {fs fs' : List Scope} (hf : SR ρ S fs fs') {d : Int} (x : Expr) : RnE ρ S d fs fs' x := WH R hf _ x (Nat.le_refl _)
theorem WI {fs fs' : List Scope} (hf : SR ρ S fs fs') {d : Int} : ∀ {l : List Expr}, fS S l → ∀ {s s' : CS}, Sh d s s' → Sh d (nZ fs s l) (nZ fs' s' (fI ρ l))
 | [], _, s, s', hs => by simp only [fI, nZ]; exact hs
 | x :: r, hi, s, s', hs => by
  simp only [fS] at hi
  simp only [fI, nZ]
  exact WI hf hi.2 (FC R hf x hi.1 s s' true hs).2.2
theorem WJ {fs fs' : List Scope} (hf : SR ρ S fs fs') {d : Int} : ∀ {l : List Expr}, fS S l → ∀ {s s' : CS}, Sh d s s' → Sh d (n5 fs s l) (n5 fs' s' (fI ρ l))
 | [], _, s, s', hs => by simp only [fI, n5]; exact hs
 | x :: r, hi, s, s', hs => by
  simp only [fS] at hi
  simp only [fI, n5, B1]
  exact WJ hf hi.2 (wC R (FC R hf x hi.1 s s' false hs) _).2
theorem aAS {fs fs' : List Scope} (hf : SR ρ S fs fs') {d : Int} {l : List Expr} (hi : fS S l) {s s' : CS} (hs : Sh d s s') (res : Int) : Sh d (iG fs s res l) (iG fs' s' res (fI ρ l)) := by
 unfold iG
 simp only [H4]
 have a : Sh d (if decide (0 < res) = decide (0 < l.length) then s else s.fail 16) (if decide (0 < res) = decide (0 < l.length) then s' else s'.fail 16) := by
  split
  ·exact hs
  ·exact hs.fail 16
 split
 ·exact tK R (fun x _ => FC R hf x) hi a _
 ·exact a
theorem aD5 {fs fs' : List Scope} (hf : SR ρ S fs fs') {d : Int} {x : Stmt} (hi : inS S x) {s s' : CS} (hs : Sh d s s') (res : Int) : Sh d (eX fs s res x) (eX fs' s' res (rnS ρ x)) := by
 obtain ⟨i1, i2, i3, i4, i5⟩ := (qR S x).1 hi
 have hp : ∀ {s s' : CS}, Sh d s s' → ∀ k, Sh d (cC fs s x.e k) (cC fs' s' (fI ρ x.e) k) := fun hs k => tK R (fun x _ => FC R hf x) i3 hs k
 unfold eX
 rw [mV]
 simp only
 split
 ·have a := wC R (FC R hf x.p i2 s s' false hs) [1, 2, 3]
  rw [a.1]
  exact hp a.2 _
 split
 ·exact WI R hf i3 hs
 split
 ·exact hp hs 2
 split
 ·obtain ⟨v1, v2, v3⟩ := tX R hf hs i1
  rw [v2]
  have e : (dD ρ (bK fs s x.name).1 = bC 1) = ((bK fs s x.name).1 = bC 1) := by
   have := PU R (a := (bK fs s x.name).1) (b := bC 1) v1 R.FG
   rw [JS R] at this; exact this
  simp only [e]
  refine hp ?_ 1
  split
  ·exact v3
  ·exact v3.fail 14
 split
 ·exact (wC R (FC R hf x.p i2 s s' false hs) _).2
 split
 ·exact WJ R hf i3 hs
 split
 ·exact aAS R hf i3 hs res
 ·exact hs
theorem xC {fs fs' : List Scope} (hf : SR ρ S fs fs') {d : Int} : ∀ (n : Nat) (l : List Stmt), aZ.sz l ≤ n → lL S l → ∀ {s s' : CS}, Sh d s s' → ∀ res, Sh d (cS fs s res l) (cS fs' s' res (fH ρ l))
 | n, [], hn, hi, s, s', hs, res => by simp only [fH, cS]; exact hs
 | 0, x :: r, hn, hi, s, s', hs, res => by simp [aZ.sz] at hn
 | n + 1, x :: r, hn, hi, s, s', hs, res => by
  simp only [lL] at hi
  obtain ⟨i1, i2, i3, i4, i5⟩ := (qR S x).1 hi.1
  have h1 := Stmt.cY x
  have h2 : aZ.sz (x :: r) = 1 + x.sz + aZ.sz r := by simp only [aZ.sz]
  simp only [fH, cS, hs.1, uV]
  split
  ·refine xC hf n r (by omega) hi.2 ?_ res
   have eb : (rnS ρ x).body = fH ρ x.body := by rw [mV]
   have ee : (rnS ρ x).els = fH ρ x.els := by rw [mV]
   rw [eb, ee]
   exact xC hf n x.els (by omega) i5 (xC hf n x.body (by omega) i4 (aD5 R hf hi.1 hs.step res) res) res
  ·exact hs
theorem NF {d : Int} : ∀ {l : List Param}, (∀ p ∈ l, nW S p) → ∀ {fs fs' : List Scope}, SR ρ S fs fs' → ∀ {s s' : CS}, Sh d s s' →
  SR ρ S (cA fs s l).1 (cA fs' s' (l.map (eK ρ))).1 ∧ Sh d (cA fs s l).2 (cA fs' s' (l.map (eK ρ))).2
 | [], _, fs, fs', hf, s, s', hs => by simp only [List.map_nil, cA]; exact ⟨hf, hs⟩
 | p :: l, hi, fs, fs', hf, s, s', hs => by
  have hp := hi p (by simp)
  simp only [List.map_cons, cA]
  obtain ⟨a, b⟩ := PT R hf hs (name := p.name) (x := .var p.t) hp.1 hp.2
  exact NF (fun q hq => hi q (by simp [hq])) a (aAQ R a b hp.2)
theorem aAV {n : ByteArray} (hn : S n) : ∀ {l : List Routine}, kF S l → ((iS ρ l).any fun x => decide (x.name = ρ n)) = l.any fun x => decide (x.name = n)
 | [], _ => rfl
 | r :: l, hl => by
  simp only [kF] at hl
  have hr := (oP S r).1 hl.1
  have e : (rnR ρ r).name = ρ r.name := by rw [kZ]
  simp only [iS, List.any_cons, e, R.dec hr.1 hn, aAV hn hl.2]
theorem LY {d : Int} {behind : List Routine} (hb : kF S behind) : ∀ {l : List Var}, (∀ v ∈ l, rA S v) → ∀ {fs fs' : List Scope}, SR ρ S fs fs' → ∀ {s s' : CS}, Sh d s s' →
  SR ρ S (cH fs s l behind).1 (cH fs' s' (l.map (lJ ρ)) (iS ρ behind)).1 ∧ Sh d (cH fs s l behind).2 (cH fs' s' (l.map (lJ ρ)) (iS ρ behind)).2
 | [], _, fs, fs', hf, s, s', hs => by simp only [List.map_nil, cH]; exact ⟨hf, hs⟩
 | v :: l, hi, fs, fs', hf, s, s', hs => by
  have hv := hi v (by simp)
  have en : (lJ ρ v).name = ρ v.name := rfl
  have et : (lJ ρ v).t = dD ρ v.t := rfl
  simp only [List.map_cons, cH, hs.1, en, et, aAV R hv.1 hb]
  split
  ·have a0 : Sh d (if (behind.any fun x => decide (x.name = v.name)) = true then s.step.fail 12 else s.step) (if (behind.any fun x => decide (x.name = v.name)) = true then s'.step.fail 12 else s'.step) := by
    split
    ·exact hs.step.fail 12
    ·exact hs.step
   obtain ⟨a, b⟩ := PT R hf a0 (name := v.name) (x := .var v.t) hv.1 hv.2
   exact LY hb (fun q hq => hi q (by simp [hq])) a (aAQ R a b hv.2)
  ·exact ⟨hf, hs⟩
omit R in
theorem FM (ρ : ByteArray → ByteArray) : ∀ (n : Nat) (l : List Stmt), aZ.sz l ≤ n → kW (fH ρ l) = kW l
 | n, [], hn => rfl
 | 0, x :: r, hn => by simp [aZ.sz] at hn
 | n + 1, x :: r, hn => by
  have h1 := Stmt.cY x
  have h2 : aZ.sz (x :: r) = 1 + x.sz + aZ.sz r := by simp only [aZ.sz]
  have a := FM ρ n x.body (by omega)
  have b := FM ρ n x.els (by omega)
  have c := FM ρ n r (by omega)
  obtain ⟨before, aP, op, name, p, e, down, more, body, els, cO, cT⟩ := x
  simp only at a b
  simp only [fH, rnS, kW, BT, a, b, c]
theorem zA {d : Int} : ∀ (n : Nat) (l : List Routine), bB.sz l ≤ n → kF S l → ∀ {ar ar' al al' : List Scope}, SR ρ S ar ar' → SR ρ S al al' → ∀ {s s' : CS}, Sh d s s' →
  Sh d (b7 ar al s l) (b7 ar' al' s' (iS ρ l))
 | n, [], hn, hi, ar, ar', al, al', h1, h2, s, s', hs => by simp only [iS, b7]; exact hs
 | 0, x :: r, hn, hi, ar, ar', al, al', h1, h2, s, s', hs => by simp [bB.sz] at hn
 | n + 1, x :: r, hn, hi, ar, ar', al, al', h1, h2, s, s', hs => by
  simp only [kF] at hi
  have hx := (oP S x).1 hi.1
  have z1 := Routine.cY x
  have z2 : bB.sz (x :: r) = 1 + x.sz + bB.sz r := by simp only [bB.sz]
  have en : (rnR ρ x).name = ρ x.name := by rw [kZ]
  simp only [iS, b7, hs.1, en, (h1.2.2 _ hx.1).1, Option.isSome_map]
  split
  ·refine zA n r (by omega) hi.2 h1 h2 ?_
   have a0 : Sh d (if (bD ar x.name).isSome = true then s.step.fail 12 else s.step) (if (bD ar x.name).isSome = true then s'.step.fail 12 else s'.step) := by
    split
    ·exact hs.step.fail 12
    ·exact hs.step
   revert a0
   generalize (if (bD ar x.name).isSome = true then s.step.fail 12 else s.step) = t
   generalize (if (bD ar x.name).isSome = true then s'.step.fail 12 else s'.step) = t'
   intro a0
   have e1 : (rnR ρ x).params = x.params.map (eK ρ) := by rw [kZ]
   have e2 : (rnR ρ x).vars = x.vars.map (lJ ρ) := by rw [kZ]
   have e3 : (rnR ρ x).inner = iS ρ x.inner := by rw [kZ]
   have e4 : (rnR ρ x).body = fH ρ x.body := by rw [kZ]
   have e5 : (rnR ρ x).result = x.result := by rw [kZ]
   rw [iX, iX, e1, e2, e3, e4, e5]
   simp only [FM ρ _ x.body (Nat.le_refl _)]
   obtain ⟨p1, p2⟩ := NF R hx.2.1 (SR.sS R h2) a0
   have p3 : Sh d (if 0 < x.result ∧ kW x.body = false then (cA ([] :: al) t x.params).2.fail 16 else (cA ([] :: al) t x.params).2)
     (if 0 < x.result ∧ kW x.body = false then (cA ([] :: al') t' (x.params.map (eK ρ))).2.fail 16 else (cA ([] :: al') t' (x.params.map (eK ρ))).2) := by
    split
    ·exact p2.fail 16
    ·exact p2
   obtain ⟨v1, v2⟩ := LY R hx.2.2.2.1 hx.2.2.1 p1 p3
   have v3 := SR.all R v1 hx.2.2.2.1
   exact xC R v3 _ x.body (Nat.le_refl _) hx.2.2.2.2 (zA n x.inner (by omega) hx.2.2.2.1 v1 v3 v2) _
  ·exact hs
theorem JT {n : ByteArray} (hn : S n) : ∀ {l : List Fld}, (∀ f ∈ l, S f.name) → ((l.map (jO ρ)).any fun g => decide (g.name = ρ n)) = l.any fun g => decide (g.name = n)
 | [], _ => rfl
 | f :: l, hl => by
  have e : (jO ρ f).name = ρ f.name := rfl
  have ih := JT hn (l := l) (fun g hg => hl g (by simp [hg]))
  simp only [List.map_cons, List.any_cons, e, R.dec (hl f (by simp)) hn, ih]
theorem PR : ∀ {l a : List Fld}, (∀ f ∈ l, S f.name) → (∀ f ∈ a, S f.name) → iP (a.map (jO ρ)) (l.map (jO ρ)) = iP a l
 | [], a, _, _ => rfl
 | f :: l, a, hl, ha => by
  have hf := hl f (by simp)
  have e : (jO ρ f).name = ρ f.name := rfl
  have ih := PR (l := l) (a := a ++ [f]) (fun g hg => hl g (by simp [hg])) (fun g hg => by
   rcases List.mem_append.1 hg with h | h
   ·exact ha g h
   ·simp only [List.mem_singleton] at h; subst h; exact hf)
  rw [List.map_append] at ih
  simp only [List.map_cons, List.map_nil] at ih
  simp only [List.map_cons, iP, e, JT R hf ha, ih]
theorem WC {d : Int} : ∀ {l : List Rec}, (∀ r ∈ l, KC S r) → ∀ {fs fs' : List Scope}, SR ρ S fs fs' → ∀ {s s' : CS}, Sh d s s' →
  SR ρ S (dY fs s l).1 (dY fs' s' (l.map (gA ρ))).1 ∧ Sh d (dY fs s l).2 (dY fs' s' (l.map (gA ρ))).2
 | [], _, fs, fs', hf, s, s', hs => by simp only [List.map_nil, dY]; exact ⟨hf, hs⟩
 | r :: l, hi, fs, fs', hf, s, s', hs => by
  have hr := hi r (by simp)
  have en : (gA ρ r).name = ρ r.name := rfl
  have ef : (gA ρ r).fields = r.fields.map (jO ρ) := rfl
  have tw := PR R (l := r.fields) (a := []) hr.2 (by simp)
  simp only [List.map_nil] at tw
  simp only [List.map_cons, dY, hs.1, en, ef, tw]
  split
  ·obtain ⟨a, b⟩ := PT R hf hs.step (name := r.name) (x := .rcd r) hr.1 hr
   refine WC (fun q hq => hi q (by simp [hq])) a ?_
   have e : qB ρ (.rcd r) = .rcd (gA ρ r) := rfl
   rw [e] at b
   split
   ·exact b.fail 12
   ·exact b
  ·exact ⟨hf, hs⟩
theorem aE1 {p : Prg} (hp : inP S p) : Sh 0 (mY p) (mY (rnP ρ p)) := by
 have s0 : SR ρ S [[]] [[]] := ⟨by simp, by simp, fun n sn => by simp [bD, look]⟩
 obtain ⟨a1, a2⟩ := WC R (d := 0) hp.recs s0 (s := ⟨-1, 0⟩) (s' := ⟨-1, 0⟩) ⟨rfl, by decide⟩
 obtain ⟨b1, b2⟩ := LY R hp.aH hp.vars a1 a2
 have b3 := SR.all R b1 hp.aH
 exact xC R b3 _ p.body (Nat.le_refl _) hp.body (zA R _ p.aH (Nat.le_refl _) hp.aH b1 b3 b2) _
end
end Pg
