import Derived.Test.YtlflapoljegmoaaGreatDoorCkWJC
namespace Pg
open Go
set_option linter.unusedSimpArgs false
set_option linter.unusedVariables false
set_option linter.unusedSectionVars false
section
variable (ρ : ByteArray → ByteArray)
def rnTyp (t : Typ) : Typ := ⟨t.kind, t.size, ρ t.name⟩
mutual
def rnE : Expr → Expr
 | ⟨op, n, name, field, l⟩ => ⟨op, n, ρ name, ρ field, rnEs l⟩
def rnEs : List Expr → List Expr
 | [] => []
 | x :: r => rnE x :: rnEs r
end
mutual
def rnS : Stmt → Stmt
 | ⟨before, trail, op, name, p, e, down, more, body, els, end1, end2⟩ => ⟨before, trail, op, ρ name, rnE ρ p, rnEs ρ e, down, more, rnSs body, rnSs els, end1, end2⟩
def rnSs : List Stmt → List Stmt
 | [] => []
 | x :: r => rnS x :: rnSs r
end
def rnFld (f : Fld) : Fld := ⟨f.before, f.trail, ρ f.name, f.kind⟩
def rnRec (r : Rec) : Rec := ⟨r.before, r.trail, ρ r.name, r.fields.map (rnFld ρ), r.endd⟩
def rnVar (v : Var) : Var := ⟨v.before, v.trail, ρ v.name, rnTyp ρ v.t⟩
def rnParam (p : Param) : Param := ⟨ρ p.name, rnTyp ρ p.t, p.mode⟩
mutual
def rnR : Routine → Routine
 | ⟨before, trail, name, result, params, vars, inner, body, endd⟩ => ⟨before, trail, ρ name, result, params.map (rnParam ρ), vars.map (rnVar ρ), rnRs inner, rnSs ρ body, endd⟩
def rnRs : List Routine → List Routine
 | [] => []
 | x :: r => rnR x :: rnRs r
end
theorem rnR_eq (x : Routine) : rnR ρ x = ⟨x.before, x.trail, ρ x.name, x.result, x.params.map (rnParam ρ), x.vars.map (rnVar ρ), rnRs ρ x.inner, rnSs ρ x.body, x.endd⟩ := by
 obtain ⟨before, trail, name, result, params, vars, inner, body, endd⟩ := x; rw [rnR]
end
section
variable (S : ByteArray → Prop)
mutual
def inE : Expr → Prop
 | ⟨op, n, name, field, l⟩ => S name ∧ S field ∧ inEs l
def inEs : List Expr → Prop
 | [] => True
 | x :: r => inE x ∧ inEs r
end
mutual
def inS : Stmt → Prop
 | ⟨before, trail, op, name, p, e, down, more, body, els, end1, end2⟩ => S name ∧ inE S p ∧ inEs S e ∧ inSs body ∧ inSs els
def inSs : List Stmt → Prop
 | [] => True
 | x :: r => inS x ∧ inSs r
end
def inRec (r : Rec) : Prop := S r.name ∧ ∀ f ∈ r.fields, S f.name
def inVar (v : Var) : Prop := S v.name ∧ S v.t.name
def inParam (p : Param) : Prop := S p.name ∧ S p.t.name
mutual
def inR : Routine → Prop
 | ⟨before, trail, name, result, params, vars, inner, body, endd⟩ => S name ∧ (∀ p ∈ params, inParam S p) ∧ (∀ v ∈ vars, inVar S v) ∧ inRs inner ∧ inSs S body
def inRs : List Routine → Prop
 | [] => True
 | x :: r => inR x ∧ inRs r
end
structure inP (p : Prg) : Prop where
 name : S p.name
 recs : ∀ r ∈ p.recs, inRec S r
 vars : ∀ v ∈ p.vars, inVar S v
 routines : inRs S p.routines
 body : inSs S p.body
theorem inE_eq (x : Expr) : inE S x ↔ S x.name ∧ S x.field ∧ inEs S x.l := by obtain ⟨op, n, name, field, l⟩ := x; rw [inE]
theorem inS_eq (x : Stmt) : inS S x ↔ S x.name ∧ inE S x.p ∧ inEs S x.e ∧ inSs S x.body ∧ inSs S x.els := by
 obtain ⟨before, trail, op, name, p, e, down, more, body, els, end1, end2⟩ := x; rw [inS]
theorem inR_eq (x : Routine) : inR S x ↔ S x.name ∧ (∀ p ∈ x.params, inParam S p) ∧ (∀ v ∈ x.vars, inVar S v) ∧ inRs S x.inner ∧ inSs S x.body := by
 obtain ⟨before, trail, name, result, params, vars, inner, body, endd⟩ := x; rw [inR]
end
structure Ren (ρ : ByteArray → ByteArray) (S : ByteArray → Prop) : Prop where
 inj : ∀ a b, S a → S b → ρ a = ρ b → a = b
 none_ : ρ noBytes = noBytes
 none_in : S noBytes
section
variable {ρ : ByteArray → ByteArray} {S : ByteArray → Prop} (R : Ren ρ S)
def rnThing (ρ : ByteArray → ByteArray) : Thing → Thing
 | .var t => .var (rnTyp ρ t)
 | .rcd r => .rcd (rnRec ρ r)
 | .routine r => .routine (rnR ρ r)
def inThing (S : ByteArray → Prop) : Thing → Prop
 | .var t => S t.name
 | .rcd r => inRec S r
 | .routine r => inR S r
def LR (ρ : ByteArray → ByteArray) (S : ByteArray → Prop) (f f' : ByteArray → Option Thing) : Prop := ∀ n, S n → f' (ρ n) = (f n).map (rnThing ρ) ∧ ∀ x, f n = some x → inThing S x
include R
theorem Ren.eq {a b : ByteArray} (ha : S a) (hb : S b) : (ρ a = ρ b) = (a = b) := propext ⟨R.inj a b ha hb, fun h => by rw [h]⟩
theorem LR.set {f f' : ByteArray → Option Thing} (h : LR ρ S f f') {name : ByteArray} {x : Thing} (hn : S name) (hx : inThing S x) : LR ρ S (fun n => if n = name then some x else f n) (fun n => if n = ρ name then some (rnThing ρ x) else f' n) := by
 intro n sn
 by_cases e : n = name
 ·subst e; simp only [if_true, Option.map_some, Option.some.injEq, forall_eq']; exact ⟨trivial, hx⟩
 ·have : ¬ ρ n = ρ name := by rw [R.eq sn hn]; exact e
  simp only [e, this, if_false]
  exact h n sn
def SR (ρ : ByteArray → ByteArray) (S : ByteArray → Prop) (fs fs' : List Scope) : Prop := fs ≠ [] ∧ fs' ≠ [] ∧ LR ρ S (findIn fs) (findIn fs')
theorem SR.lay {fs fs' : List Scope} (h : SR ρ S fs fs') {name : ByteArray} {x : Thing} (hn : S name) (hx : inThing S x) : SR ρ S (setTop name x fs) (setTop (ρ name) (rnThing ρ x) fs') := by
 obtain ⟨h1, h2, h3⟩ := h
 refine ⟨by cases fs <;> simp_all [setTop], by cases fs' <;> simp_all [setTop], ?_⟩
 intro n sn
 rw [findIn_setTop _ _ h1, findIn_setTop _ _ h2]
 exact LR.set R h3 hn hx n sn
theorem SR.deeper {fs fs' : List Scope} (h : SR ρ S fs fs') : SR ρ S ([] :: fs) ([] :: fs') := by
 refine ⟨by simp, by simp, fun n sn => ?_⟩
 have := h.2.2 n sn
 simpa [findIn, look] using this
theorem LR.all : ∀ (l : List Routine), inRs S l → ∀ {f f' : Scope}, LR ρ S (look f) (look f') → LR ρ S (look (allOf f l)) (look (allOf f' (rnRs ρ l)))
 | [], _, f, f', h => h
 | r :: l, hl, f, f', h => by
  simp only [inRs] at hl
  simp only [rnRs, allOf]
  refine LR.all l hl.2 ?_
  have hr := (inR_eq S r).1 hl.1
  have := LR.set R h (name := r.name) (x := .routine r) hr.1 hl.1
  intro n sn
  rw [look_setIn, look_setIn]
  have hname : (rnR ρ r).name = ρ r.name := by rw [rnR_eq]
  rw [hname]
  exact this n sn
theorem SR.all {fs fs' : List Scope} (h : SR ρ S fs fs') {l : List Routine} (hl : inRs S l) : SR ρ S (allOf [] l :: fs) (allOf [] (rnRs ρ l) :: fs') := by
 refine ⟨by simp, by simp, fun n sn => ?_⟩
 have a := LR.all R l hl (f := []) (f' := []) (fun n _ => by simp [look]) n sn
 have b := h.2.2 n sn
 simp only [findIn]
 rw [a.1]
 cases e : look (allOf [] l) n with
 | none => simpa using b
 | some x => exact ⟨rfl, fun y hy => by cases hy; exact a.2 _ e⟩
def Sh (d : Int) (s s' : CS) : Prop := s'.bad = s.bad ∧ s'.item = w64 (s.item + d)
omit R in
theorem Sh.fail {d : Int} {s s' : CS} (h : Sh d s s') (e : Int) : Sh d (s.fail e) (s'.fail e) := by
 unfold CS.fail; rw [h.1]; split
 ·exact ⟨rfl, h.2⟩
 ·exact h
omit R in
theorem Sh.step {d : Int} {s s' : CS} (h : Sh d s s') : Sh d s.step s'.step := by
 refine ⟨h.1, ?_⟩
 simp only [CS.step, h.2, w64_add_l]
 congr 1; omega
def TR (ρ : ByteArray → ByteArray) (S : ByteArray → Prop) (d : Int) (p p' : Typ × CS) : Prop := S p.1.name ∧ p'.1 = rnTyp ρ p.1 ∧ Sh d p.2 p'.2
theorem rn_kindTyp (k : Int) : rnTyp ρ (kindTyp k) = kindTyp k := by simp only [rnTyp, kindTyp, R.none_]
theorem TR.kind {d : Int} {s s' : CS} (hs : Sh d s s') (k : Int) : TR ρ S d (kindTyp k, s) (kindTyp k, s') := ⟨R.none_in, (rn_kindTyp R k).symm, hs⟩
end
end Pg
