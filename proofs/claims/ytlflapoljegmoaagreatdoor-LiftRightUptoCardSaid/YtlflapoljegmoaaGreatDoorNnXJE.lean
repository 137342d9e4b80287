import Derived.Test.YtlflapoljegmoaaGreatDoorCkWJE
import Derived.Test.YtlflapoljegmoaaGreatDoorCount2JE
import Derived.Test.YtlflapoljegmoaaGreatDoorWeighJE
import Derived.Test.YtlflapoljegmoaaGreatDoorTreeSE
import Derived.Test.YtlflapoljegmoaaGreatDoorCodeBJE
import Derived.Test.YtlflapoljegmoaaGreatDoorNmWE
import Derived.Test.YtlflapoljegmoaaGreatDoorHpE
namespace Pg
open Go
set_option linter.all false
section
variable (ρ : ByteArray → ByteArray)
def rnTyp (t : Typ) : Typ := ⟨t.kind, t.size, ρ t.name⟩
mutual
def rnE : Expr → Expr
 | ⟨op, n, name, field, l⟩ => ⟨op, n, ρ name, ρ field, rnEs l⟩
def rnEs : List Expr → List Expr
 | [] => []
 | x :: r => rnE x :: rnEs r
end
mutual
def rnS : Stmt → Stmt
 | ⟨before, trail, op, name, p, e, down, more, body, els, end1, end2⟩ => ⟨before, trail, op, ρ name, rnE ρ p, rnEs ρ e, down, more, rnSs body, rnSs els, end1, end2⟩
def rnSs : List Stmt → List Stmt
 | [] => []
 | x :: r => rnS x :: rnSs r
end
def rnFld (f : Fld) : Fld := ⟨f.before, f.trail, ρ f.name, f.kind⟩
def rnRec (r : Rec) : Rec := ⟨r.before, r.trail, ρ r.name, r.fields.map (rnFld ρ), r.endd⟩
def rnVar (v : Var) : Var := ⟨v.before, v.trail, ρ v.name, rnTyp ρ v.t⟩
def rnParam (p : Param) : Param := ⟨ρ p.name, rnTyp ρ p.t, p.mode⟩
mutual
def rnR : Routine → Routine
 | ⟨before, trail, name, result, params, vars, inner, body, endd⟩ => ⟨before, trail, ρ name, result, params.map (rnParam ρ), vars.map (rnVar ρ), rnRs inner, rnSs ρ body, endd⟩
def rnRs : List Routine → List Routine
 | [] => []
 | x :: r => rnR x :: rnRs r
end
theorem rnR_eq (x : Routine) : rnR ρ x = ⟨x.before, x.trail, ρ x.name, x.result, x.params.map (rnParam ρ), x.vars.map (rnVar ρ), rnRs ρ x.inner, rnSs ρ x.body, x.endd⟩ := by
 obtain ⟨before, trail, name, result, params, vars, inner, body, endd⟩ := x; rw [rnR]
end
section
variable (S : ByteArray → Prop)
mutual
def inE : Expr → Prop
 | ⟨op, n, name, field, l⟩ => S name ∧ S field ∧ inEs l
def inEs : List Expr → Prop
 | [] => True
 | x :: r => inE x ∧ inEs r
end
mutual
def inS : Stmt → Prop
 | ⟨before, trail, op, name, p, e, down, more, body, els, end1, end2⟩ => S name ∧ inE S p ∧ inEs S e ∧ inSs body ∧ inSs els
def inSs : List Stmt → Prop
 | [] => True
 | x :: r => inS x ∧ inSs r
end
def inRec (r : Rec) : Prop := S r.name ∧ ∀ f ∈ r.fields, S f.name
def inVar (v : Var) : Prop := S v.name ∧ S v.t.name
def inParam (p : Param) : Prop := S p.name ∧ S p.t.name
mutual
def inR : Routine → Prop
 | ⟨before, trail, name, result, params, vars, inner, body, endd⟩ => S name ∧ (∀ p ∈ params, inParam S p) ∧ (∀ v ∈ vars, inVar S v) ∧ inRs inner ∧ inSs S body
def inRs : List Routine → Prop
 | [] => True
 | x :: r => inR x ∧ inRs r
end
structure inP (p : Prg) : Prop where
 name : S p.name
 recs : ∀ r ∈ p.recs, inRec S r
 vars : ∀ v ∈ p.vars, inVar S v
 routines : inRs S p.routines
 body : inSs S p.body
theorem inE_eq (x : Expr) : inE S x ↔ S x.name ∧ S x.field ∧ inEs S x.l := by obtain ⟨op, n, name, field, l⟩ := x; rw [inE]
theorem inS_eq (x : Stmt) : inS S x ↔ S x.name ∧ inE S x.p ∧ inEs S x.e ∧ inSs S x.body ∧ inSs S x.els := by
 obtain ⟨before, trail, op, name, p, e, down, more, body, els, end1, end2⟩ := x; rw [inS]
theorem inR_eq (x : Routine) : inR S x ↔ S x.name ∧ (∀ p ∈ x.params, inParam S p) ∧ (∀ v ∈ x.vars, inVar S v) ∧ inRs S x.inner ∧ inSs S x.body := by
 obtain ⟨before, trail, name, result, params, vars, inner, body, endd⟩ := x; rw [inR]
end
structure Ren (ρ : ByteArray → ByteArray) (S : ByteArray → Prop) : Prop where
 inj : ∀ a b, S a → S b → ρ a = ρ b → a = b
 none_ : ρ noBytes = noBytes
 none_in : S noBytes
section
variable {ρ : ByteArray → ByteArray} {S : ByteArray → Prop} (R : Ren ρ S)
def rnThing (ρ : ByteArray → ByteArray) : Thing → Thing
 | .var t => .var (rnTyp ρ t)
 | .rcd r => .rcd (rnRec ρ r)
 | .routine r => .routine (rnR ρ r)
def inThing (S : ByteArray → Prop) : Thing → Prop
 | .var t => S t.name
 | .rcd r => inRec S r
 | .routine r => inR S r
def LR (ρ : ByteArray → ByteArray) (S : ByteArray → Prop) (f f' : ByteArray → Option Thing) : Prop := ∀ n, S n → f' (ρ n) = (f n).map (rnThing ρ) ∧ ∀ x, f n = some x → inThing S x
include R
theorem Ren.eq {a b : ByteArray} (ha : S a) (hb : S b) : (ρ a = ρ b) = (a = b) := propext ⟨R.inj a b ha hb, fun h => by rw [h]⟩
theorem LR.set {f f' : ByteArray → Option Thing} (h : LR ρ S f f') {name : ByteArray} {x : Thing} (hn : S name) (hx : inThing S x) : LR ρ S (fun n => if n = name then some x else f n) (fun n => if n = ρ name then some (rnThing ρ x) else f' n) := by
 intro n sn
 by_cases e : n = name
 ·subst e; simp only [if_true, Option.map_some, Option.some.injEq, forall_eq']; exact ⟨trivial, hx⟩
 ·have : ¬ ρ n = ρ name := by rw [R.eq sn hn]; exact e
  simp only [e, this, if_false]
  exact h n sn
def SR (ρ : ByteArray → ByteArray) (S : ByteArray → Prop) (fs fs' : List Scope) : Prop := fs ≠ [] ∧ fs' ≠ [] ∧ LR ρ S (findIn fs) (findIn fs')
theorem SR.lay {fs fs' : List Scope} (h : SR ρ S fs fs') {name : ByteArray} {x : Thing} (hn : S name) (hx : inThing S x) : SR ρ S (setTop name x fs) (setTop (ρ name) (rnThing ρ x) fs') := by
 obtain ⟨h1, h2, h3⟩ := h
 refine ⟨by cases fs <;> simp_all [setTop], by cases fs' <;> simp_all [setTop], ?_⟩
 intro n sn
 rw [findIn_setTop _ _ h1, findIn_setTop _ _ h2]
 exact LR.set R h3 hn hx n sn
theorem SR.deeper {fs fs' : List Scope} (h : SR ρ S fs fs') : SR ρ S ([] :: fs) ([] :: fs') := by
 refine ⟨by simp, by simp, fun n sn => ?_⟩
 have := h.2.2 n sn
 simpa [findIn, look] using this
theorem LR.all : ∀ (l : List Routine), inRs S l → ∀ {f f' : Scope}, LR ρ S (look f) (look f') → LR ρ S (look (allOf f l)) (look (allOf f' (rnRs ρ l)))
 | [], _, f, f', h => h
 | r :: l, hl, f, f', h => by
  simp only [inRs] at hl
  simp only [rnRs, allOf]
  refine LR.all l hl.2 ?_
  have hr := (inR_eq S r).1 hl.1
  have := LR.set R h (name := r.name) (x := .routine r) hr.1 hl.1
  intro n sn
  rw [look_setIn, look_setIn]
  have hname : (rnR ρ r).name = ρ r.name := by rw [rnR_eq]
  rw [hname]
  exact this n sn
theorem SR.all {fs fs' : List Scope} (h : SR ρ S fs fs') {l : List Routine} (hl : inRs S l) : SR ρ S (allOf [] l :: fs) (allOf [] (rnRs ρ l) :: fs') := by
 refine ⟨by simp, by simp, fun n sn => ?_⟩
 have a := LR.all R l hl (f := []) (f' := []) (fun n _ => by simp [look]) n sn
 have b := h.2.2 n sn
 simp only [findIn]
 rw [a.1]
 cases e : look (allOf [] l) n with
 | none => simpa using b
 | some x => exact ⟨rfl, fun y hy => by cases hy; exact a.2 _ e⟩
def Sh (d : Int) (s s' : CS) : Prop := s'.bad = s.bad ∧ s'.item = w64 (s.item + d)
omit R in
theorem Sh.fail {d : Int} {s s' : CS} (h : Sh d s s') (e : Int) : Sh d (s.fail e) (s'.fail e) := by
 unfold CS.fail; rw [h.1]; split
 ·exact ⟨rfl, h.2⟩
 ·exact h
omit R in
theorem Sh.step {d : Int} {s s' : CS} (h : Sh d s s') : Sh d s.step s'.step := by
 refine ⟨h.1, ?_⟩
 simp only [CS.step, h.2, w64_add_l]
 congr 1; omega
def TR (ρ : ByteArray → ByteArray) (S : ByteArray → Prop) (d : Int) (p p' : Typ × CS) : Prop := S p.1.name ∧ p'.1 = rnTyp ρ p.1 ∧ Sh d p.2 p'.2
theorem rn_kindTyp (k : Int) : rnTyp ρ (kindTyp k) = kindTyp k := by simp only [rnTyp, kindTyp, R.none_]
theorem TR.kind {d : Int} {s s' : CS} (hs : Sh d s s') (k : Int) : TR ρ S d (kindTyp k, s) (kindTyp k, s') := ⟨R.none_in, (rn_kindTyp R k).symm, hs⟩
end
end Pg

set_option linter.all false
set_option maxHeartbeats 4000000
set_option maxRecDepth 4000
namespace Pg
open Go
def partsAt (s : ByteArray) : List UInt8 → Nat → Nat → List ByteArray
 | [], a, i => [s.extract a i]
 | c :: r, a, i => if c.toNat = 36 then s.extract a i :: partsAt s r (i + 1) (i + 1) else partsAt s r a (i + 1)
def parts (s : ByteArray) : List ByteArray := partsAt s (bytes s) 0 0
mutual
def nmE : Expr → List ByteArray
 | ⟨op, n, name, field, l⟩ => parts name ++ parts field ++ nmEs l
def nmEs : List Expr → List ByteArray
 | [] => []
 | x :: r => nmE x ++ nmEs r
end
mutual
def nmS : Stmt → List ByteArray
 | ⟨before, trail, op, name, p, e, down, more, body, els, end1, end2⟩ => parts name ++ nmE p ++ nmEs e ++ nmSs body ++ nmSs els
def nmSs : List Stmt → List ByteArray
 | [] => []
 | x :: r => nmS x ++ nmSs r
end
def nmVar (v : Var) : List ByteArray := parts v.name ++ parts v.t.name
def nmVars (l : List Var) : List ByteArray := l.flatMap nmVar
def nmParam (p : Param) : List ByteArray := parts p.name ++ parts p.t.name
def nmParams (l : List Param) : List ByteArray := l.flatMap nmParam
mutual
def nmR : Routine → List ByteArray
 | ⟨before, trail, name, result, params, vars, inner, body, endd⟩ => parts name ++ nmParams params ++ nmVars vars ++ nmRs inner ++ nmSs body
def nmRs : List Routine → List ByteArray
 | [] => []
 | x :: r => nmR x ++ nmRs r
end
def nmFlds (l : List Fld) : List ByteArray := l.flatMap fun f => parts f.name
def nmRec (r : Rec) : List ByteArray := parts r.name ++ nmFlds r.fields
def nmRecs (l : List Rec) : List ByteArray := l.flatMap nmRec
def nmP (p : Prg) : List ByteArray := parts p.name ++ nmRecs p.recs ++ nmVars p.vars ++ nmRs p.routines ++ nmSs p.body
def once : List ByteArray → List ByteArray → List ByteArray
 | out, [] => out
 | out, x :: r => if x = noBytes then once out r else if among x out then once out r else once (out ++ [x]) r
def names (p : Prg) : List ByteArray := once [] (nmP p)
theorem nmE_eq (x : Expr) : nmE x = parts x.name ++ parts x.field ++ nmEs x.l := by obtain ⟨op, n, name, field, l⟩ := x; rw [nmE]
theorem nmS_eq (x : Stmt) : nmS x = parts x.name ++ nmE x.p ++ nmEs x.e ++ nmSs x.body ++ nmSs x.els := by
 obtain ⟨before, trail, op, name, p, e, down, more, body, els, end1, end2⟩ := x; rw [nmS]
theorem nmR_eq (x : Routine) : nmR x = parts x.name ++ nmParams x.params ++ nmVars x.vars ++ nmRs x.inner ++ nmSs x.body := by
 obtain ⟨before, trail, name, result, params, vars, inner, body, endd⟩ := x; rw [nmR]
theorem nmEs_map : ∀ l, nmEs l = l.flatMap nmE
 | [] => rfl
 | x :: r => by simp [nmEs, nmEs_map r]
theorem nmSs_map : ∀ l, nmSs l = l.flatMap nmS
 | [] => rfl
 | x :: r => by simp [nmSs, nmSs_map r]
theorem nmRs_map : ∀ l, nmRs l = l.flatMap nmR
 | [] => rfl
 | x :: r => by simp [nmRs, nmRs_map r]
theorem among_iff (s : ByteArray) (l : List ByteArray) : among s l = true ↔ s ∈ l := by
 unfold among
 rw [List.any_eq_true]
 constructor
 ·rintro ⟨x, hx, h⟩; simp only [decide_eq_true_eq] at h; subst h; exact hx
 ·exact fun h => ⟨s, h, by simp⟩
theorem once_mem : ∀ (l out : List ByteArray) (s : ByteArray), s ∈ once out l ↔ s ∈ out ∨ (s ∈ l ∧ s ≠ noBytes)
 | [], out, s => by simp [once]
 | x :: r, out, s => by
  simp only [once]
  split
  ·rename_i hx; subst hx
   rw [once_mem r out s]
   constructor
   ·rintro (h | ⟨h1, h2⟩)
    ·exact .inl h
    ·exact .inr ⟨by simp [h1], h2⟩
   ·rintro (h | ⟨h1, h2⟩)
    ·exact .inl h
    ·rcases List.mem_cons.1 h1 with h | h
     ·exact absurd h h2
     ·exact .inr ⟨h, h2⟩
  ·rename_i hx
   split
   ·rename_i ha
    rw [among_iff] at ha
    rw [once_mem r out s]
    constructor
    ·rintro (h | ⟨h1, h2⟩)
     ·exact .inl h
     ·exact .inr ⟨by simp [h1], h2⟩
    ·rintro (h | ⟨h1, h2⟩)
     ·exact .inl h
     ·rcases List.mem_cons.1 h1 with h | h
      ·subst h; exact .inl ha
      ·exact .inr ⟨h, h2⟩
   ·rw [once_mem r (out ++ [x]) s]
    simp only [List.mem_append, List.mem_cons, List.not_mem_nil, or_false]
    constructor
    ·rintro ((h | h) | ⟨h1, h2⟩)
     ·exact .inl h
     ·subst h; exact .inr ⟨.inl rfl, hx⟩
     ·exact .inr ⟨.inr h1, h2⟩
    ·rintro (h | ⟨h1 | h1, h2⟩)
     ·exact .inl (.inl h)
     ·exact .inl (.inr h1)
     ·exact .inr ⟨h1, h2⟩
theorem once_len : ∀ (l out : List ByteArray), (once out l).length ≤ out.length + l.length
 | [], out => by simp [once]
 | x :: r, out => by
  simp only [once]
  split
  ·have := once_len r out; simp; omega
  ·split
   ·have := once_len r out; simp; omega
   ·have := once_len r (out ++ [x]); simp at this ⊢; omega
def plain (s : ByteArray) : Prop := ∀ c ∈ bytes s, c.toNat ≠ 36
theorem partsAt_plain (s : ByteArray) : ∀ (l : List UInt8) (a i : Nat), (∀ c ∈ l, c.toNat ≠ 36) → partsAt s l a i = [s.extract a (i + l.length)]
 | [], a, i, h => by simp [partsAt]
 | c :: r, a, i, h => by
  simp only [partsAt]
  rw [if_neg (h c (by simp)), partsAt_plain s r a (i + 1) (fun d hd => h d (by simp [hd]))]
  congr 2; simp; omega
theorem parts_plain {s : ByteArray} (h : plain s) : parts s = [s] := by
 unfold parts
 rw [partsAt_plain s _ 0 0 h]
 congr 1
 have : 0 + (bytes s).length = s.size := by unfold bytes; rw [Array.length_toList, Nat.zero_add]; rfl
 rw [this]
 simp
theorem letters_plain : ∀ (l : List UInt8) (f : Bool), letters f l = true → ∀ c ∈ l, c.toNat ≠ 36
 | [], f, h => by simp
 | c :: r, f, h => by
  simp only [letters, Bool.and_eq_true] at h
  intro d hd
  rcases List.mem_cons.1 hd with rfl | hd
  ·intro he
   have := h.1
   rw [he] at this
   simp [letter] at this
  ·exact letters_plain r false h.2 d hd
theorem plain_none : plain noBytes := by intro c hc; simp [bytes, noBytes] at hc
theorem tName_plain {s : ByteArray} (h : tName s = true) : plain s := by
 simp only [tName, Bool.and_eq_true, decide_eq_true_eq] at h
 have h1 := h.1
 unfold nameCode at h1
 by_cases h0 : s = noBytes
 ·rw [h0]; exact plain_none
 ·rw [if_neg h0] at h1
  by_cases hl : letters true (bytes s) = true
  ·exact letters_plain _ _ hl
  ·rw [if_neg hl] at h1; simp at h1
end Pg
namespace Pg
open Go
section
variable {S : ByteArray → Prop} (hS : ∀ s, tName s = true → S s) (h0 : S noBytes)
include hS h0
theorem form_in : ∀ (n : Nat) (x : Expr), form n x = true → inE S x
 | 0, x, h => by simp [form] at h
 | n + 1, ⟨op, k, name, field, l⟩, h => by
  simp only [form, partsOk, Bool.and_eq_true] at h
  obtain ⟨⟨_, ⟨⟨_, h1⟩, h2⟩, _⟩, h3⟩ := h
  have hl : ∀ l, forms n l = true → inEs S l := by
   intro l
   induction l with
   | nil => intro _; trivial
   | cons y r ih =>
    intro hf
    simp only [forms, Bool.and_eq_true] at hf
    exact ⟨form_in n y hf.1.2, ih hf.2⟩
  refine ⟨?_, ?_, hl l h3⟩
  ·split at h1
   ·exact hS _ h1
   ·simp only [decide_eq_true_eq] at h1; rw [h1]; exact h0
  ·split at h2
   ·exact hS _ h2
   ·simp only [decide_eq_true_eq] at h2; rw [h2]; exact h0
theorem tExpr_in {x : Expr} (h : tExpr x = true) : inE S x := by
 simp only [tExpr, Bool.and_eq_true] at h
 exact form_in hS h0 _ x h.1
theorem tTyp_in {t : Typ} (h : tTyp t = true) : S t.name := by
 unfold tTyp at h
 split at h
 ·simp only [Bool.and_eq_true] at h; exact hS _ h.2
 ·simp only [Bool.and_eq_true, decide_eq_true_eq] at h; rw [h.2]; exact h0
omit hS h0 in
theorem inEs_of : ∀ {l : List Expr}, (∀ x ∈ l, inE S x) → inEs S l
 | [], _ => trivial
 | x :: r, h => ⟨h x (by simp), inEs_of fun y hy => h y (by simp [hy])⟩
theorem tStmt1_in {x : Stmt} (h : tStmt1 x = true) : S x.name ∧ inE S x.p ∧ inEs S x.e := by
 simp only [tStmt1, Bool.and_eq_true] at h
 obtain ⟨⟨⟨⟨⟨⟨h1, h2⟩, h3⟩, h4⟩, h5⟩, h6⟩, h7⟩ := h
 refine ⟨?_, ?_, inEs_of fun y hy => ?_⟩
 ·unfold sName at h5
  split at h5
  ·exact hS _ h5
  ·simp only [Bool.and_eq_true, decide_eq_true_eq] at h5; rw [h5.1]; exact h0
 ·unfold sPlace at h4
  split at h4
  ·simp only [tPlace, Bool.and_eq_true] at h4; exact tExpr_in hS h0 h4.2
  ·simp only [tNone, Bool.and_eq_true, decide_eq_true_eq] at h4
   obtain ⟨⟨⟨⟨_, _⟩, a⟩, b⟩, c⟩ := h4
   rw [inE_eq, a, b, List.eq_nil_of_length_eq_zero c]
   exact ⟨h0, h0, trivial⟩
 ·have := List.all_eq_true.1 h3 y hy
  simp only [sExpr, Bool.and_eq_true] at this
  exact tExpr_in hS h0 this.1
theorem tStmts_in : ∀ (n : Nat) (l : List Stmt), Stmts.sz l ≤ n → ∀ d, tStmts l d = true → inSs S l
 | n, [], hn, d, h => trivial
 | 0, x :: r, hn, d, h => by simp [Stmts.sz] at hn
 | n + 1, x :: r, hn, d, h => by
  have h1 := Stmt.sz_eq x
  have h2 : Stmts.sz (x :: r) = 1 + x.sz + Stmts.sz r := by simp only [Stmts.sz]
  simp only [tStmts, Bool.and_eq_true] at h
  refine ⟨?_, tStmts_in n r (by omega) d h.2⟩
  obtain ⟨before, trail, op, name, p, e, down, more, body, els, end1, end2⟩ := x
  have hh := h.1
  simp only [tStmt, Bool.and_eq_true] at hh
  obtain ⟨⟨⟨_, a⟩, b, _⟩, c, _⟩ := hh
  obtain ⟨p1, p2, p3⟩ := tStmt1_in hS h0 a
  exact ⟨p1, p2, p3, tStmts_in n body (by simp only at h1; omega) _ b, tStmts_in n els (by simp only at h1; omega) _ c⟩
theorem tVars_in {l : List Var} (h : tVars l = true) : ∀ v ∈ l, inVar S v := by
 simp only [tVars, Bool.and_eq_true] at h
 intro v hv
 have := List.all_eq_true.1 h.1 v hv
 simp only [tVar, Bool.and_eq_true] at this
 exact ⟨hS _ this.1.2, tTyp_in hS h0 this.2⟩
theorem tParams_in {l : List Param} (h : tParams l = true) : ∀ v ∈ l, inParam S v := by
 simp only [tParams, Bool.and_eq_true] at h
 intro v hv
 have := List.all_eq_true.1 h.1 v hv
 simp only [tParam, Bool.and_eq_true] at this
 exact ⟨hS _ this.1.1.1.1, tTyp_in hS h0 this.1.1.1.2⟩
theorem tRoutines_in : ∀ (n : Nat) (l : List Routine), Routines.sz l ≤ n → ∀ a d, tRoutines a l d = true → inRs S l
 | n, [], hn, a, d, h => trivial
 | 0, x :: r, hn, a, d, h => by simp [Routines.sz] at hn
 | n + 1, x :: r, hn, a, d, h => by
  have h1 := Routine.sz_eq x
  have h2 : Routines.sz (x :: r) = 1 + x.sz + Routines.sz r := by simp only [Routines.sz]
  simp only [tRoutines, Bool.and_eq_true] at h
  refine ⟨?_, tRoutines_in n r (by omega) _ d h.2⟩
  obtain ⟨before, trail, name, result, params, vars, inner, body, endd⟩ := x
  have hh := h.1
  simp only [tRoutine, Bool.and_eq_true] at hh
  obtain ⟨⟨⟨⟨⟨⟨⟨⟨⟨⟨_, _⟩, _⟩, q1⟩, _⟩, _⟩, _⟩, q2⟩, q3⟩, q4, _⟩, q5, _⟩ := hh
  exact ⟨hS _ q1, tParams_in hS h0 q2, tVars_in hS h0 q3, tRoutines_in n inner (by simp only at h1; omega) _ _ q4, tStmts_in hS h0 _ body (Nat.le_refl _) _ q5⟩
theorem tPrg_in {p : Prg} (h : tPrg p = true) : inP S p := by
 simp only [tPrg, Bool.and_eq_true] at h
 obtain ⟨⟨⟨⟨⟨⟨⟨⟨⟨q1, _⟩, _⟩, _⟩, _⟩, _⟩, q2⟩, q3⟩, q4, _⟩, q5, _⟩ := h
 refine ⟨hS _ q1, ?_, tVars_in hS h0 q3, tRoutines_in hS h0 _ _ (Nat.le_refl _) _ _ q4, tStmts_in hS h0 _ _ (Nat.le_refl _) _ q5⟩
 intro r hr
 have := List.all_eq_true.1 q2 r hr
 simp only [tRec, Bool.and_eq_true] at this
 obtain ⟨⟨⟨⟨⟨_, _⟩, a⟩, _⟩, _⟩, b⟩ := this
 refine ⟨hS _ a, fun f hf => ?_⟩
 have := List.all_eq_true.1 b f hf
 simp only [tFld, Bool.and_eq_true] at this
 exact hS _ this.1.1.2
end
theorem tPrg_plain {p : Prg} (h : tPrg p = true) : inP plain p := tPrg_in (fun _ => tName_plain) plain_none h
section
variable {S : ByteArray → Prop}
theorem told {s : ByteArray} (h : plain s) (k : ∀ n ∈ parts s, S n) : S s := k s (by rw [parts_plain h]; simp)
theorem inE_told : ∀ (n : Nat) (x : Expr), x.sz ≤ n → inE plain x → (∀ m ∈ nmE x, S m) → inE S x
 | 0, x, hn, h, k => by rw [Expr.sz_eq] at hn; omega
 | n + 1, x, hn, h, k => by
  obtain ⟨a, b, c⟩ := (inE_eq plain x).1 h
  rw [nmE_eq] at k
  have hz := Expr.sz_eq x
  refine (inE_eq S x).2 ⟨told a fun m hm => k m (by simp [hm]), told b fun m hm => k m (by simp [hm]), ?_⟩
  have hl : ∀ l : List Expr, Exprs.sz l ≤ n → inEs plain l → (∀ m ∈ nmEs l, S m) → inEs S l := by
   intro l
   induction l with
   | nil => intro _ _ _; trivial
   | cons y r ih =>
    intro hs hp hk
    have e : Exprs.sz (y :: r) = 1 + y.sz + Exprs.sz r := by simp only [Exprs.sz]
    simp only [inEs] at hp
    simp only [nmEs] at hk
    exact ⟨inE_told n y (by omega) hp.1 fun m hm => hk m (by simp [hm]), ih (by omega) hp.2 fun m hm => hk m (by simp [hm])⟩
  exact hl x.l (by omega) c fun m hm => k m (by simp [hm])
theorem inEs_told : ∀ {l : List Expr}, inEs plain l → (∀ m ∈ nmEs l, S m) → inEs S l
 | [], _, _ => trivial
 | y :: r, h, k => by
  simp only [inEs] at h
  simp only [nmEs] at k
  exact ⟨inE_told _ y (Nat.le_refl _) h.1 fun m hm => k m (by simp [hm]), inEs_told h.2 fun m hm => k m (by simp [hm])⟩
theorem inSs_told : ∀ (n : Nat) (l : List Stmt), Stmts.sz l ≤ n → inSs plain l → (∀ m ∈ nmSs l, S m) → inSs S l
 | n, [], hn, h, k => trivial
 | 0, x :: r, hn, h, k => by simp [Stmts.sz] at hn
 | n + 1, x :: r, hn, h, k => by
  have h1 := Stmt.sz_eq x
  have h2 : Stmts.sz (x :: r) = 1 + x.sz + Stmts.sz r := by simp only [Stmts.sz]
  simp only [inSs] at h
  simp only [nmSs] at k
  rw [nmS_eq] at k
  obtain ⟨a, b, c, d, e⟩ := (inS_eq plain x).1 h.1
  exact ⟨(inS_eq S x).2 ⟨told a fun m hm => k m (by simp [hm]), inE_told _ x.p (Nat.le_refl _) b fun m hm => k m (by simp [hm]), inEs_told c fun m hm => k m (by simp [hm]),
   inSs_told n x.body (by omega) d fun m hm => k m (by simp [hm]), inSs_told n x.els (by omega) e fun m hm => k m (by simp [hm])⟩, inSs_told n r (by omega) h.2 fun m hm => k m (by simp [hm])⟩
theorem inVars_told {l : List Var} (h : ∀ v ∈ l, inVar plain v) (k : ∀ m ∈ nmVars l, S m) : ∀ v ∈ l, inVar S v := by
 intro v hv
 have hk : ∀ m ∈ nmVar v, S m := fun m hm => k m (List.mem_flatMap.2 ⟨v, hv, hm⟩)
 exact ⟨told (h v hv).1 fun m hm => hk m (by simp [nmVar, hm]), told (h v hv).2 fun m hm => hk m (by simp [nmVar, hm])⟩
theorem inParams_told {l : List Param} (h : ∀ v ∈ l, inParam plain v) (k : ∀ m ∈ nmParams l, S m) : ∀ v ∈ l, inParam S v := by
 intro v hv
 have hk : ∀ m ∈ nmParam v, S m := fun m hm => k m (List.mem_flatMap.2 ⟨v, hv, hm⟩)
 exact ⟨told (h v hv).1 fun m hm => hk m (by simp [nmParam, hm]), told (h v hv).2 fun m hm => hk m (by simp [nmParam, hm])⟩
theorem inRs_told : ∀ (n : Nat) (l : List Routine), Routines.sz l ≤ n → inRs plain l → (∀ m ∈ nmRs l, S m) → inRs S l
 | n, [], hn, h, k => trivial
 | 0, x :: r, hn, h, k => by simp [Routines.sz] at hn
 | n + 1, x :: r, hn, h, k => by
  have h1 := Routine.sz_eq x
  have h2 : Routines.sz (x :: r) = 1 + x.sz + Routines.sz r := by simp only [Routines.sz]
  simp only [inRs] at h
  simp only [nmRs] at k
  rw [nmR_eq] at k
  obtain ⟨a, b, c, d, e⟩ := (inR_eq plain x).1 h.1
  exact ⟨(inR_eq S x).2 ⟨told a fun m hm => k m (by simp [hm]), inParams_told b fun m hm => k m (by simp [hm]), inVars_told c fun m hm => k m (by simp [hm]),
   inRs_told n x.inner (by omega) d fun m hm => k m (by simp [hm]), inSs_told _ x.body (Nat.le_refl _) e fun m hm => k m (by simp [hm])⟩, inRs_told n r (by omega) h.2 fun m hm => k m (by simp [hm])⟩
theorem inP_told {p : Prg} (h : inP plain p) (k : ∀ m ∈ nmP p, S m) : inP S p := by
 unfold nmP at k
 refine ⟨told h.name fun m hm => k m (by simp [hm]), ?_, inVars_told h.vars fun m hm => k m (by simp [hm]), inRs_told _ _ (Nat.le_refl _) h.routines fun m hm => k m (by simp [hm]), inSs_told _ _ (Nat.le_refl _) h.body fun m hm => k m (by simp [hm])⟩
 intro r hr
 have hk : ∀ m ∈ nmRec r, S m := fun m hm => k m (by
  have : m ∈ nmRecs p.recs := List.mem_flatMap.2 ⟨r, hr, hm⟩
  simp [this])
 have := h.recs r hr
 exact ⟨told this.1 fun m hm => hk m (by simp [nmRec, hm]), fun f hf => told (this.2 f hf) fun m hm => hk m (by
  have : m ∈ nmFlds r.fields := List.mem_flatMap.2 ⟨f, hf, hm⟩
  simp [nmRec, this])⟩
end
theorem parts_one {s : ByteArray} (h : plain s) : (parts s).length = 1 := by rw [parts_plain h]; rfl
theorem nmE_len : ∀ (n : Nat) (x : Expr), x.sz ≤ n → inE plain x → (nmE x).length ≤ wE x
 | 0, x, hn, h => by rw [Expr.sz_eq] at hn; omega
 | n + 1, x, hn, h => by
  obtain ⟨a, b, c⟩ := (inE_eq plain x).1 h
  have hz := Expr.sz_eq x
  have hl : ∀ l : List Expr, Exprs.sz l ≤ n → inEs plain l → (nmEs l).length ≤ wEs l := by
   intro l
   induction l with
   | nil => intro _ _; simp [nmEs, wEs]
   | cons y r ih =>
    intro hs hp
    have e : Exprs.sz (y :: r) = 1 + y.sz + Exprs.sz r := by simp only [Exprs.sz]
    simp only [inEs] at hp
    have i1 := nmE_len n y (by omega) hp.1
    have i2 := ih (by omega) hp.2
    simp only [nmEs, wEs, List.length_append]; omega
  have := hl x.l (by omega) c
  rw [nmE_eq, wE_eq]
  simp only [List.length_append, parts_one a, parts_one b]; omega
theorem nmEs_len : ∀ (l : List Expr), inEs plain l → (nmEs l).length ≤ wEs l
 | [], _ => by simp [nmEs, wEs]
 | y :: r, hp => by
  simp only [inEs] at hp
  have i1 := nmE_len _ y (Nat.le_refl _) hp.1
  have i2 := nmEs_len r hp.2
  simp only [nmEs, wEs, List.length_append]; omega
theorem nmSs_len : ∀ (n : Nat) (l : List Stmt), Stmts.sz l ≤ n → inSs plain l → (nmSs l).length ≤ wSs l
 | n, [], hn, h => by simp [nmSs, wSs]
 | 0, x :: r, hn, h => by simp [Stmts.sz] at hn
 | n + 1, x :: r, hn, h => by
  have h1 := Stmt.sz_eq x
  have h2 : Stmts.sz (x :: r) = 1 + x.sz + Stmts.sz r := by simp only [Stmts.sz]
  simp only [inSs] at h
  obtain ⟨a, b, c, d, e⟩ := (inS_eq plain x).1 h.1
  have i1 := nmE_len _ x.p (Nat.le_refl _) b
  have i2 := nmEs_len x.e c
  have i3 := nmSs_len n x.body (by omega) d
  have i4 := nmSs_len n x.els (by omega) e
  have i5 := nmSs_len n r (by omega) h.2
  simp only [nmSs, wSs, nmS_eq, wS_eq, List.length_append, parts_one a]; omega
theorem nmVars_len : ∀ {l : List Var}, (∀ v ∈ l, inVar plain v) → (nmVars l).length ≤ 2 * l.length
 | [], _ => by simp [nmVars]
 | v :: r, h => by
  have hv := h v (by simp)
  have := nmVars_len (l := r) fun w hw => h w (by simp [hw])
  simp only [nmVars, List.flatMap_cons, List.length_append, nmVar, parts_one hv.1, parts_one hv.2, List.length_cons] at this ⊢; omega
theorem nmParams_len : ∀ {l : List Param}, (∀ v ∈ l, inParam plain v) → (nmParams l).length ≤ 2 * l.length
 | [], _ => by simp [nmParams]
 | v :: r, h => by
  have hv := h v (by simp)
  have := nmParams_len (l := r) fun w hw => h w (by simp [hw])
  simp only [nmParams, List.flatMap_cons, List.length_append, nmParam, parts_one hv.1, parts_one hv.2, List.length_cons] at this ⊢; omega
theorem nmFlds_len : ∀ {l : List Fld}, (∀ v ∈ l, plain v.name) → (nmFlds l).length ≤ l.length
 | [], _ => by simp [nmFlds]
 | v :: r, h => by
  have hv := h v (by simp)
  have := nmFlds_len (l := r) fun w hw => h w (by simp [hw])
  simp only [nmFlds, List.flatMap_cons, List.length_append, parts_one hv, List.length_cons] at this ⊢; omega
theorem nmRecs_len : ∀ {l : List Rec}, (∀ v ∈ l, inRec plain v) → (nmRecs l).length ≤ wRecs l
 | [], _ => by simp [nmRecs, wRecs]
 | v :: r, h => by
  have hv := h v (by simp)
  have := nmRecs_len (l := r) fun w hw => h w (by simp [hw])
  have a := nmFlds_len hv.2
  simp only [nmRecs, List.flatMap_cons, List.length_append, nmRec, parts_one hv.1, wRecs, List.map_cons, List.sum_cons, wRec] at this ⊢; omega
theorem nmRs_len : ∀ (n : Nat) (l : List Routine), Routines.sz l ≤ n → inRs plain l → (nmRs l).length ≤ wRs l
 | n, [], hn, h => by simp [nmRs, wRs]
 | 0, x :: r, hn, h => by simp [Routines.sz] at hn
 | n + 1, x :: r, hn, h => by
  have h1 := Routine.sz_eq x
  have h2 : Routines.sz (x :: r) = 1 + x.sz + Routines.sz r := by simp only [Routines.sz]
  simp only [inRs] at h
  obtain ⟨a, b, c, d, e⟩ := (inR_eq plain x).1 h.1
  have i1 := nmParams_len b
  have i2 := nmVars_len c
  have i3 := nmRs_len n x.inner (by omega) d
  have i4 := nmSs_len _ x.body (Nat.le_refl _) e
  have i5 := nmRs_len n r (by omega) h.2
  simp only [nmRs, wRs, nmR_eq, wR_eq, List.length_append, parts_one a]; omega
theorem nmP_len {p : Prg} (h : inP plain p) : (nmP p).length ≤ wP p := by
 have i1 := nmRecs_len h.recs
 have i2 := nmVars_len h.vars
 have i3 := nmRs_len _ _ (Nat.le_refl _) h.routines
 have i4 := nmSs_len _ _ (Nat.le_refl _) h.body
 simp only [nmP, wP, List.length_append, parts_one h.name]; omega
end Pg

set_option linter.all false
set_option maxHeartbeats 4000000
set_option maxRecDepth 4000
namespace Pg
open Go Go.Proofs.Tryz
theorem aslice_str {s : ByteArray} {a b : Nat} (h1 : a ≤ b) (h2 : b ≤ s.size) : aslice true 0 (.str s) (some (.int .i64 (a : Int))) (some (.int .i64 (b : Int))) = some (.str (s.extract a b)) := by
 simp only [aslice, abound]
 rw [if_pos (Int.natCast_nonneg b), if_pos (Int.natCast_nonneg a)]
 simp only [Int.toNat_natCast]
 rw [if_pos ⟨h1, h2⟩]
def ptail (s : ByteArray) : List (Option UInt8) → Nat → Nat → List ByteArray
 | [], _, _ => []
 | none :: r, a, i => s.extract a i :: ptail s r (i + 1) (i + 1)
 | some c :: r, a, i => if c.toNat = 36 then s.extract a i :: ptail s r (i + 1) (i + 1) else ptail s r a (i + 1)
theorem ptail_eq (s : ByteArray) : ∀ (l : List UInt8) (a i : Nat), ptail s (l.map some ++ [none]) a i = partsAt s l a i
 | [], a, i => rfl
 | c :: r, a, i => by
  simp only [List.map_cons, List.cons_append, ptail, partsAt]
  rw [ptail_eq s r, ptail_eq s r]
theorem ptail_len (s : ByteArray) : ∀ (l : List (Option UInt8)) (a i : Nat), (ptail s l a i).length ≤ l.length
 | [], a, i => by simp [ptail]
 | none :: r, a, i => by have := ptail_len s r (i + 1) (i + 1); simp only [ptail, List.length_cons]; omega
 | some c :: r, a, i => by
  simp only [ptail]
  split
  ·have := ptail_len s r (i + 1) (i + 1); simp only [List.length_cons]; omega
  ·have := ptail_len s r a (i + 1); simp only [List.length_cons]; omega
def small (s : ByteArray) : Prop := s.size ≤ 1099511627776
theorem Parts_gl [GI] (h : AHeap) (s : ByteArray) (hs : small s) : ACalls prog 43 [.str s] h (fun v g => GL 9 1 h g v (txt (parts s))) := by
 unfold small at hs
 refine F43.calls (by simp) ?_
 delta F43.c0
 simp only [go_sem,seval]
 have hlen : ((bytes s).map some ++ [none]).length = s.size + 1 := by simp [bytes_len]
 have hpl : (parts s).length ≤ s.size + 1 := by
  have := ptail_len s ((bytes s).map some ++ [none]) 0 0
  rw [ptail_eq] at this; rw [hlen] at this; exact this
 have hfew : few ((bytes s).map some ++ [none]) := by unfold few; rw [hlen]; omega
 refine lT_list ((bytes s).map some ++ [none]) (fun pre post e g => ∃ (a : Nat) (v : AV) (done : List ByteArray), GL 9 1 h g v (txt done) ∧ parts s = done ++ ptail s post a pre.length ∧ a ≤ pre.length ∧ e = [(0, .str s), (3, v), (4, .int .i64 (a : Int)), (5, .int .i64 pre.length)]) (WeakE.env ?_) ⟨0, .sl [] true, [], .nil h, ?_, Nat.le_refl _, rfl⟩ ?_ ?_
 ·simp only [go_sem,seval]
 ·show parts s = [] ++ ptail s ((bytes s).map some ++ [none]) 0 0
  rw [ptail_eq]; rfl
 ·rintro pre x post e g hp ⟨a, v, done, G, hd, ha, rfl⟩
  have hl := (at_pre hp).2
  rw [hlen] at hl
  have hle : ((pre.length : Int) ≤ (s.size : Int)) = True := by simp; omega
  have hdl : done.length ≤ s.size + 1 := by rw [hd, List.length_append] at hpl; omega
  have hst := step_at hfew hp
  have hnx : (pre ++ [x]).length = pre.length + 1 := by simp
  rw [hnx] at hst
  cases x with
  | none =>
   have hpost : post = [] := by
    cases post with
    | nil => rfl
    | cons y r =>
     have hl2 : ((bytes s).map some ++ [none])[pre.length]? = some none := (at_pre hp).1
     rw [List.getElem?_append] at hl2
     split at hl2
     ·simp at hl2
     ·rename_i hge
      have := congrArg List.length hp
      rw [hlen] at this
      simp [bytes_len] at this hge
      omega
   have hi : pre.length = s.size := by
    have := congrArg List.length hp
    rw [hlen, hpost] at this; simp at this; omega
   have heq : ((pre.length : Int) = (s.size : Int)) = True := by simp [hi]
   simp only [go_sem,seval, hle, heq, aslice_str ha (by omega : pre.length ≤ s.size)]
   refine G.txt1 (by omega) (fun v' g' G' => ?_)
   simp only [go_sem,seval]
   refine ⟨_, _, WeakE.env ?_, pre.length + 1, v', done ++ [s.extract a pre.length], G', ?_, by simp, rfl⟩
   ·simp only [go_sem,seval, hst, hnx]
   ·rw [hd, hpost]; simp [ptail]
  | some c =>
   have hc : (bytes s)[pre.length]? = some c := by
    have hl2 : ((bytes s).map some ++ [none])[pre.length]? = some (some c) := (at_pre hp).1
    rw [List.getElem?_append] at hl2
    split at hl2
    ·simpa using hl2
    ·rename_i hge
     have : pre.length - ((bytes s).map some).length = 0 := by simp [bytes_len] at hge ⊢; omega
     rw [this] at hl2; simp at hl2
   have hlt : pre.length < s.size := by
    rw [← bytes_len]
    rcases Nat.lt_or_ge pre.length (bytes s).length with h | h
    ·exact h
    ·rw [List.getElem?_eq_none h] at hc; cases hc
   have heq : ((pre.length : Int) = (s.size : Int)) = False := by simp; omega
   have hsp : bytes s = (bytes s).take pre.length ++ c :: (bytes s).drop (pre.length + 1) := by
    have hb : pre.length < (bytes s).length := by rw [bytes_len]; exact hlt
    have e := List.take_append_drop pre.length (bytes s)
    rw [List.drop_eq_getElem_cons hb] at e
    have : (bytes s)[pre.length] = c := by
     rw [List.getElem?_eq_getElem hb] at hc
     simpa using hc
    rw [this] at e
    exact e.symm
   have hsix := six_at hsp
   rw [List.length_take, bytes_len, Nat.min_eq_left (Nat.le_of_lt hlt)] at hsix
   by_cases h36 : c.toNat = 36
   ·have h36' : ((c.toNat : Int) = 36) = True := by simp; omega
    simp only [go_sem,seval, hle, heq, hsix, h36', aslice_str ha (by omega : pre.length ≤ s.size)]
    refine G.txt1 (by omega) (fun v' g' G' => ?_)
    simp only [go_sem,seval]
    refine ⟨_, _, WeakE.env ?_, pre.length + 1, v', done ++ [s.extract a pre.length], G', ?_, by simp, rfl⟩
    ·simp only [go_sem,seval, hst, hnx]
    ·rw [hd]; simp [ptail, h36]
   ·have h36' : ((c.toNat : Int) = 36) = False := by simp; omega
    simp only [go_sem,seval, hle, heq, hsix, h36']
    refine ⟨_, _, WeakE.env ?_, a, v, done, G, ?_, by simp; omega, rfl⟩
    ·simp only [go_sem,seval, hst, hnx]
    ·rw [hd]; simp [ptail, h36]
 ·rintro e g ⟨a, v, done, G, hd, ha, rfl⟩
  have hle : ((((bytes s).map some ++ [none]).length : Int) ≤ (s.size : Int)) = False := by rw [hlen]; simp; omega
  simp only [go_sem,seval, hle]
  refine lessQ.same ?_
  simp only [go_sem,seval]
  refine .same ?_
  simp only [ptail, List.append_nil] at hd
  rw [hd]; exact G
theorem Parts_spec [GI] (h : AHeap) (s : ByteArray) (hs : small s) : ACalls prog 43 [.str s] h (fun v g => v = .sl (txt (parts s)) false ∧ g = h) :=
 ACalls.weak ((Parts_gl h s hs).mono fun v g G => G.endW ⟨rfl, rfl⟩)
end Pg
namespace Pg
open Go Go.Proofs.Tryz
theorem nmEs_append : ∀ (l r : List Expr), nmEs (l ++ r) = nmEs l ++ nmEs r := fun l r => by simp [nmEs_map]
theorem nmSs_append : ∀ (l r : List Stmt), nmSs (l ++ r) = nmSs l ++ nmSs r := fun l r => by simp [nmSs_map]
theorem nmRs_append : ∀ (l r : List Routine), nmRs (l ++ r) = nmRs l ++ nmRs r := fun l r => by simp [nmRs_map]
theorem nmEs_one (x : Expr) : nmEs [x] = nmE x := by simp [nmEs]
theorem nmSs_one (x : Stmt) : nmSs [x] = nmS x := by simp [nmSs]
theorem nmRs_one (x : Routine) : nmRs [x] = nmR x := by simp [nmRs]
abbrev roomy (l : List ByteArray) : Prop := l.length ≤ 1099511627776
theorem inEs_mem {S : ByteArray → Prop} : ∀ {l : List Expr}, inEs S l → ∀ x ∈ l, inE S x
 | y :: r, h, x, hx => by
  simp only [inEs] at h
  rcases List.mem_cons.1 hx with rfl | hx
  ·exact h.1
  ·exact inEs_mem h.2 x hx
theorem inSs_mem {S : ByteArray → Prop} : ∀ {l : List Stmt}, inSs S l → ∀ x ∈ l, inS S x
 | y :: r, h, x, hx => by
  simp only [inSs] at h
  rcases List.mem_cons.1 hx with rfl | hx
  ·exact h.1
  ·exact inSs_mem h.2 x hx
theorem inRs_mem {S : ByteArray → Prop} : ∀ {l : List Routine}, inRs S l → ∀ x ∈ l, inR S x
 | y :: r, h, x, hx => by
  simp only [inRs] at h
  rcases List.mem_cons.1 hx with rfl | hx
  ·exact h.1
  ·exact inRs_mem h.2 x hx
theorem nmEs_split {l pre post : List Expr} {x : Expr} (h : l = pre ++ x :: post) : (nmEs l).length = (nmEs pre).length + (nmE x).length + (nmEs post).length := by
 subst h; rw [nmEs_append]; simp only [nmEs, List.length_append]; omega
theorem nmSs_split {l pre post : List Stmt} {x : Stmt} (h : l = pre ++ x :: post) : (nmSs l).length = (nmSs pre).length + (nmS x).length + (nmSs post).length := by
 subst h; rw [nmSs_append]; simp only [nmSs, List.length_append]; omega
theorem nmRs_split {l pre post : List Routine} {x : Routine} (h : l = pre ++ x :: post) : (nmRs l).length = (nmRs pre).length + (nmR x).length + (nmRs post).length := by
 subst h; rw [nmRs_append]; simp only [nmRs, List.length_append]; omega
theorem ExprNames_spec [GI] : ∀ (n : Nat) (x : Expr), x.sz ≤ n → x.ok → inE small x → roomy (nmE x) → ∀ h : AHeap, ACalls prog 71 [.agg (eExpr x)] h (fun v g => v = .sl (txt (nmE x)) false ∧ g = h) := by
 intro n
 induction n with
 | zero => intro x hn; rw [Expr.sz_eq] at hn; omega
 | succ n ih =>
  intro x hn ho hs hr h
  obtain ⟨s1, s2, s3⟩ := (inE_eq small x).1 hs
  obtain ⟨o1, o2⟩ := (Expr.ok_iff x).1 ho
  have hz := Expr.sz_eq x
  have hlen : (nmE x).length = (parts x.name).length + (parts x.field).length + (nmEs x.l).length := by rw [nmE_eq]; simp only [List.length_append]
  unfold roomy at hr
  refine F71.calls (by simp) ?_
  delta F71.c0
  simp only [go_sem,seval]
  refine callT_of (Parts_gl h x.name s1) (fun v1 g1 G1 => ?_)
  simp only [go_sem,seval]
  refine tcE (Parts_spec g1 x.field s2) ?_
  simp only [go_sem,seval]
  refine G1.txts (by omega) (fun v2 g2 G2 => ?_)
  simp only [go_sem,seval]
  refine lT_list x.l (fun pre post e g => ∃ v, GL 9 1 h g v (txt (parts x.name ++ parts x.field ++ nmEs pre)) ∧ e = [(1, .ip (eExpr x) 0), (3, v), (4, .int .i64 pre.length)]) (WeakE.env ?_) ⟨v2, by simpa [nmEs] using G2, rfl⟩ ?_ ?_
  ·simp only [go_sem,seval]
  ·rintro pre y post e g hp ⟨v, G, rfl⟩
   have hy := mem_at hp
   have hyz := Exprs.sz_mem hy
   have sp := nmEs_split hp
   simp only [go_sem,seval, lt_at hp, aia_sl (map_at hp) (eExpr_len y)]
   refine tcE (ih y (by omega) (o2 y hy) (inEs_mem s3 y hy) (by unfold roomy; omega) g) ?_
   simp only [go_sem,seval]
   refine G.txts (by simp only [List.length_append]; omega) (fun v' g' G' => ?_)
   simp only [go_sem,seval]
   refine ⟨_, _, WeakE.env ?_, v', ?_, rfl⟩
   ·simp only [go_sem,seval, step_at o1 hp]
   ·rw [nmEs_append, nmEs_one, ← List.append_assoc]; exact G'
  ·rintro e g ⟨v, G, rfl⟩
   simp only [go_sem,seval, lt_end]
   refine lessQ.same ?_
   simp only [go_sem,seval]
   refine G.endW ⟨?_, rfl⟩
   rw [nmE_eq]
theorem varNames_spec [GI] (l : List Var) (hl : few l) (hs : ∀ v ∈ l, inVar small v) (hr : roomy (nmVars l)) (full : Bool) (h : AHeap) : ACalls prog 44 [.sl (l.map eVar) full] h (fun v g => v = .sl (txt (nmVars l)) false ∧ g = h) := by
 unfold roomy at hr
 refine F44.calls (by simp) ?_
 delta F44.c0
 simp only [go_sem,seval]
 refine lT_list l (fun pre post e g => ∃ v, GL 9 1 h g v (txt (nmVars pre)) ∧ e = [(0, .sl (l.map eVar) full), (3, v), (4, .int .i64 pre.length)]) (WeakE.env ?_) ⟨.sl [] true, .nil h, rfl⟩ ?_ ?_
 ·simp only [go_sem,seval]
 ·rintro pre y post e g hp ⟨v, G, rfl⟩
  have hy := hs y (mem_at hp)
  have sp : (nmVars l).length = (nmVars pre).length + ((parts y.name).length + (parts y.t.name).length) + (nmVars post).length := by
   rw [hp]; simp only [nmVars, List.flatMap_append, List.flatMap_cons, List.length_append, nmVar]; omega
  simp only [go_sem,seval, lt_at hp, aia_sl (map_at hp) (eVar_len y)]
  refine tcE (Parts_spec g y.name hy.1) ?_
  simp only [go_sem,seval]
  refine G.txts (by omega) (fun v1 g1 G1 => ?_)
  simp only [go_sem,seval, aia_sl (map_at hp) (eVar_len y)]
  refine tcE (Parts_spec g1 y.t.name hy.2) ?_
  simp only [go_sem,seval]
  refine G1.txts (by simp only [List.length_append]; omega) (fun v2 g2 G2 => ?_)
  simp only [go_sem,seval]
  refine ⟨_, _, WeakE.env ?_, v2, ?_, rfl⟩
  ·simp only [go_sem,seval, step_at hl hp]
  ·have : nmVars (pre ++ [y]) = nmVars pre ++ parts y.name ++ parts y.t.name := by simp [nmVars, nmVar]
   rw [this]; exact G2
 ·rintro e g ⟨v, G, rfl⟩
  simp only [go_sem,seval, lt_end]
  refine lessQ.same ?_
  simp only [go_sem,seval]
  exact G.endW ⟨rfl, rfl⟩
theorem stmtNames_spec [GI] : ∀ (n : Nat) (l : List Stmt), Stmts.sz l ≤ n → few l → (∀ x ∈ l, x.ok) → inSs small l → roomy (nmSs l) → ∀ (full : Bool) (h : AHeap), ACalls prog 46 [.sl (l.map eStmt) full] h (fun v g => v = .sl (txt (nmSs l)) false ∧ g = h) := by
 intro n
 induction n with
 | zero =>
  intro l hn hw ho hs hr full h
  cases l with
  | cons x r => simp [Stmts.sz] at hn
  | nil =>
   refine F46.calls (by simp) ?_
   delta F46.c0
   simp only [go_sem,seval]
   refine lT_round ?_
   simp only [go_sem,seval]
   exact (GL.nil (ty := 9) (size := 1) h).endW ⟨rfl, rfl⟩
 | succ n ih =>
  intro l hn hw ho hs hr full h
  unfold roomy at hr
  refine F46.calls (by simp) ?_
  delta F46.c0
  simp only [go_sem,seval]
  refine lT_list l (fun pre post e g => ∃ v, GL 9 1 h g v (txt (nmSs pre)) ∧ e = [(0, .sl (l.map eStmt) full), (3, v), (4, .int .i64 pre.length)]) (WeakE.env ?_) ⟨.sl [] true, .nil h, rfl⟩ ?_ ?_
  ·simp only [go_sem,seval]
  ·rintro pre x post e g hp ⟨v, G, rfl⟩
   have hx := mem_at hp
   have hxz := Stmts.sz_mem hx
   have hz := Stmt.sz_eq x
   have sp := nmSs_split hp
   obtain ⟨i1, i2, i3, i4, i5⟩ := (inS_eq small x).1 (inSs_mem hs x hx)
   have hok := (Stmt.ok_iff x).1 (ho x hx)
   have hlen : (nmS x).length = (parts x.name).length + (nmE x.p).length + (nmEs x.e).length + (nmSs x.body).length + (nmSs x.els).length := by rw [nmS_eq]; simp only [List.length_append]
   simp only [go_sem,seval, lt_at hp, aia_sl (map_at hp) (eStmt_len x)]
   refine tcE (Parts_spec g x.name i1) ?_
   simp only [go_sem,seval]
   refine G.txts (by omega) (fun v1 g1 G1 => ?_)
   simp only [go_sem,seval, aia_sl (map_at hp) (eStmt_len x)]
   refine tcE (ExprNames_spec _ x.p (Nat.le_refl _) hok.2.2.1 i2 (by unfold roomy; omega) g1) ?_
   simp only [go_sem,seval]
   refine G1.txts (by simp only [List.length_append]; omega) (fun v2 g2 G2 => ?_)
   simp only [go_sem,seval]
   refine lT_list x.e (fun pre' post' e k => ∃ v, GL 9 1 h k v (txt (nmSs pre ++ parts x.name ++ nmE x.p ++ nmEs pre')) ∧ e = [(0, .sl (l.map eStmt) full), (3, v), (4, .int .i64 pre.length), (5, .int .i64 pre'.length)]) (WeakE.env ?_) ⟨v2, by simpa [nmEs] using G2, rfl⟩ ?_ ?_
   ·simp only [go_sem,seval]
   ·rintro pre' y post' e k hp' ⟨v3, G3, rfl⟩
    have hy := mem_at hp'
    have sp' := nmEs_split hp'
    simp only [go_sem,seval, lt_at hp', aia_sl (map_at hp) (eStmt_len x), aia_sl (map_at hp') (eExpr_len y)]
    refine tcE (ExprNames_spec _ y (Nat.le_refl _) (hok.2.2.2.2.1 y hy) (inEs_mem i3 y hy) (by unfold roomy; omega) k) ?_
    simp only [go_sem,seval]
    refine G3.txts (by simp only [List.length_append]; omega) (fun v4 g4 G4 => ?_)
    simp only [go_sem,seval]
    refine ⟨_, _, WeakE.env ?_, v4, ?_, rfl⟩
    ·simp only [go_sem,seval, step_at hok.2.2.2.1 hp']
    ·rw [nmEs_append, nmEs_one, ← List.append_assoc]; exact G4
   ·rintro e k ⟨v3, G3, rfl⟩
    simp only [go_sem,seval, lt_end, aia_sl (map_at hp) (eStmt_len x)]
    refine lessQ.same ?_
    simp only [go_sem,seval, aia_sl (map_at hp) (eStmt_len x)]
    refine tcE (ih x.body (by omega) hok.2.2.2.2.2.1 hok.2.2.2.2.2.2.1 i4 (by unfold roomy; omega) false k) ?_
    simp only [go_sem,seval]
    refine G3.txts (by simp only [List.length_append]; omega) (fun v4 g4 G4 => ?_)
    simp only [go_sem,seval, aia_sl (map_at hp) (eStmt_len x)]
    refine tcE (ih x.els (by omega) hok.2.2.2.2.2.2.2.1 hok.2.2.2.2.2.2.2.2.1 i5 (by unfold roomy; omega) false g4) ?_
    simp only [go_sem,seval]
    refine G4.txts (by simp only [List.length_append]; omega) (fun v5 g5 G5 => ?_)
    simp only [go_sem,seval]
    refine ⟨_, _, WeakE.env ?_, v5, ?_, rfl⟩
    ·simp only [go_sem,seval, step_at hw hp]
    ·have e1 : nmSs (pre ++ [x]) = nmSs pre ++ parts x.name ++ nmE x.p ++ nmEs x.e ++ nmSs x.body ++ nmSs x.els := by rw [nmSs_append, nmSs_one, nmS_eq]; simp only [List.append_assoc]
     rw [e1]; exact G5
  ·rintro e g ⟨v, G, rfl⟩
   simp only [go_sem,seval, lt_end]
   refine lessQ.same ?_
   simp only [go_sem,seval]
   exact G.endW ⟨rfl, rfl⟩
theorem routineNames_spec [GI] : ∀ (n : Nat) (l : List Routine), Routines.sz l ≤ n → few l → (∀ x ∈ l, x.ok) → inRs small l → roomy (nmRs l) → ∀ (full : Bool) (h : AHeap), ACalls prog 45 [.sl (l.map eRoutine) full] h (fun v g => v = .sl (txt (nmRs l)) false ∧ g = h) := by
 intro n
 induction n with
 | zero =>
  intro l hn hw ho hs hr full h
  cases l with
  | cons x r => simp [Routines.sz] at hn
  | nil =>
   refine F45.calls (by simp) ?_
   delta F45.c0
   simp only [go_sem,seval]
   refine lT_round ?_
   simp only [go_sem,seval]
   exact (GL.nil (ty := 9) (size := 1) h).endW ⟨rfl, rfl⟩
 | succ n ih =>
  intro l hn hw ho hs hr full h
  unfold roomy at hr
  refine F45.calls (by simp) ?_
  delta F45.c0
  simp only [go_sem,seval]
  refine lT_list l (fun pre post e g => ∃ v, GL 9 1 h g v (txt (nmRs pre)) ∧ e = [(0, .sl (l.map eRoutine) full), (3, v), (4, .int .i64 pre.length)]) (WeakE.env ?_) ⟨.sl [] true, .nil h, rfl⟩ ?_ ?_
  ·simp only [go_sem,seval]
  ·rintro pre x post e g hp ⟨v, G, rfl⟩
   have hx := mem_at hp
   have hxz := Routines.sz_mem hx
   have hz := Routine.sz_eq x
   have sp := nmRs_split hp
   obtain ⟨i1, i2, i3, i4, i5⟩ := (inR_eq small x).1 (inRs_mem hs x hx)
   have hok := (Routine.ok_iff x).1 (ho x hx)
   have hlen : (nmR x).length = (parts x.name).length + (nmParams x.params).length + (nmVars x.vars).length + (nmRs x.inner).length + (nmSs x.body).length := by rw [nmR_eq]; simp only [List.length_append]
   simp only [go_sem,seval, lt_at hp, aia_sl (map_at hp) (eRoutine_len x)]
   refine tcE (Parts_spec g x.name i1) ?_
   simp only [go_sem,seval]
   refine G.txts (by omega) (fun v1 g1 G1 => ?_)
   simp only [go_sem,seval]
   refine lT_list x.params (fun pre' post' e k => ∃ v, GL 9 1 h k v (txt (nmRs pre ++ parts x.name ++ nmParams pre')) ∧ e = [(0, .sl (l.map eRoutine) full), (3, v), (4, .int .i64 pre.length), (5, .ip (eRoutine x) 0), (6, .int .i64 pre'.length)]) (WeakE.env ?_) ⟨v1, by simpa [nmParams] using G1, rfl⟩ ?_ ?_
   ·simp only [go_sem,seval]
   ·rintro pre' y post' e k hp' ⟨v3, G3, rfl⟩
    have hy := i2 y (mem_at hp')
    have sp' : (nmParams x.params).length = (nmParams pre').length + ((parts y.name).length + (parts y.t.name).length) + (nmParams post').length := by
     rw [hp']; simp only [nmParams, List.flatMap_append, List.flatMap_cons, List.length_append, nmParam]; omega
    simp only [go_sem,seval, lt_at hp', aia_sl (map_at hp') (eParam_len y)]
    refine tcE (Parts_spec k y.name hy.1) ?_
    simp only [go_sem,seval]
    refine G3.txts (by simp only [List.length_append]; omega) (fun v4 g4 G4 => ?_)
    simp only [go_sem,seval, aia_sl (map_at hp') (eParam_len y)]
    refine tcE (Parts_spec g4 y.t.name hy.2) ?_
    simp only [go_sem,seval]
    refine G4.txts (by simp only [List.length_append]; omega) (fun v5 g5 G5 => ?_)
    simp only [go_sem,seval]
    refine ⟨_, _, WeakE.env ?_, v5, ?_, rfl⟩
    ·simp only [go_sem,seval, step_at hok.2.2.1 hp']
    ·have : nmRs pre ++ parts x.name ++ nmParams (pre' ++ [y]) = nmRs pre ++ parts x.name ++ nmParams pre' ++ parts y.name ++ parts y.t.name := by simp [nmParams, nmParam]
     rw [this]; exact G5
   ·rintro e k ⟨v3, G3, rfl⟩
    simp only [go_sem,seval, lt_end]
    refine lessQ.same ?_
    simp only [go_sem,seval]
    refine tcE (varNames_spec x.vars hok.2.2.2.1 i3 (by unfold roomy; omega) false k) ?_
    simp only [go_sem,seval]
    refine G3.txts (by simp only [List.length_append]; omega) (fun v4 g4 G4 => ?_)
    simp only [go_sem,seval]
    refine tcE (ih x.inner (by omega) hok.2.2.2.2.2.1 hok.2.2.2.2.2.2.1 i4 (by unfold roomy; omega) false g4) ?_
    simp only [go_sem,seval]
    refine G4.txts (by simp only [List.length_append]; omega) (fun v5 g5 G5 => ?_)
    simp only [go_sem,seval]
    refine tcE (stmtNames_spec _ x.body (Nat.le_refl _) hok.2.2.2.2.2.2.2.1 hok.2.2.2.2.2.2.2.2.1 i5 (by unfold roomy; omega) false g5) ?_
    simp only [go_sem,seval]
    refine G5.txts (by simp only [List.length_append]; omega) (fun v6 g6 G6 => ?_)
    simp only [go_sem,seval]
    refine ⟨_, _, WeakE.env ?_, v6, ?_, rfl⟩
    ·simp only [go_sem,seval, step_at hw hp]
    ·have e1 : nmRs (pre ++ [x]) = nmRs pre ++ parts x.name ++ nmParams x.params ++ nmVars x.vars ++ nmRs x.inner ++ nmSs x.body := by rw [nmRs_append, nmRs_one, nmR_eq]; simp only [List.append_assoc]
     rw [e1]; exact G6
  ·rintro e g ⟨v, G, rfl⟩
   simp only [go_sem,seval, lt_end]
   refine lessQ.same ?_
   simp only [go_sem,seval]
   exact G.endW ⟨rfl, rfl⟩
end Pg
namespace Pg
open Go Go.Proofs.Tryz
theorem once_append : ∀ (l out : List ByteArray) (x : ByteArray), once out (l ++ [x]) = if x = noBytes then once out l else if among x (once out l) then once out l else once out l ++ [x]
 | [], out, x => rfl
 | y :: l, out, x => by
  simp only [List.cons_append, once]
  split
  ·exact once_append l out x
  ·split
   ·exact once_append l out x
   ·exact once_append l _ x
theorem txt_at {l pre post : List ByteArray} {x : ByteArray} (h : l = pre ++ x :: post) : (txt l)[pre.length]? = some [.str x] := by subst h; simp
theorem Names_spec [GI] (p : Prg) (ho : p.ok) (hs : inP small p) (hr : roomy (nmP p)) (h : AHeap) : ACalls prog 16 [.agg (ePrg p)] h (fun v g => v = .sl (txt (names p)) false ∧ g = h) := by
 unfold roomy at hr
 have hlen : (nmP p).length = (parts p.name).length + (nmRecs p.recs).length + (nmVars p.vars).length + (nmRs p.routines).length + (nmSs p.body).length := by unfold nmP; simp only [List.length_append]
 have hfew : few (nmP p) := by unfold few; omega
 refine F16.calls (by simp) ?_
 delta F16.c0
 simp only [go_sem,seval]
 refine callT_of (Parts_gl h p.name hs.name) (fun v1 g1 G1 => ?_)
 simp only [go_sem,seval]
 refine lT_list p.recs (fun pre post e g => ∃ v, GL 9 1 h g v (txt (parts p.name ++ nmRecs pre)) ∧ e = [(1, .ip (ePrg p) 0), (3, v), (4, .int .i64 pre.length)]) (WeakE.env ?_) ⟨v1, by simpa [nmRecs] using G1, rfl⟩ ?_ ?_
 ·simp only [go_sem,seval]
 ·rintro pre x post e g hp ⟨v, G, rfl⟩
  have hx := hs.recs x (mem_at hp)
  have ox := ho.eachRec x (mem_at hp)
  have sp : (nmRecs p.recs).length = (nmRecs pre).length + ((parts x.name).length + (nmFlds x.fields).length) + (nmRecs post).length := by
   rw [hp]; simp only [nmRecs, List.flatMap_append, List.flatMap_cons, List.length_append, nmRec]; omega
  simp only [go_sem,seval, lt_at hp, aia_sl (map_at hp) (eRec_len x)]
  refine tcE (Parts_spec g x.name hx.1) ?_
  simp only [go_sem,seval]
  refine G.txts (by simp only [List.length_append]; omega) (fun v2 g2 G2 => ?_)
  simp only [go_sem,seval]
  refine lT_list x.fields (fun pre' post' e k => ∃ v, GL 9 1 h k v (txt (parts p.name ++ nmRecs pre ++ parts x.name ++ nmFlds pre')) ∧ e = [(1, .ip (ePrg p) 0), (3, v), (4, .int .i64 pre.length), (5, .int .i64 pre'.length)]) (WeakE.env ?_) ⟨v2, by simpa [nmFlds] using G2, rfl⟩ ?_ ?_
  ·simp only [go_sem,seval]
  ·rintro pre' y post' e k hp' ⟨v3, G3, rfl⟩
   have hy := hx.2 y (mem_at hp')
   have sp' : (nmFlds x.fields).length = (nmFlds pre').length + (parts y.name).length + (nmFlds post').length := by
    rw [hp']; simp only [nmFlds, List.flatMap_append, List.flatMap_cons, List.length_append]; omega
   simp only [go_sem,seval, lt_at hp', aia_sl (map_at hp) (eRec_len x), aia_sl (map_at hp') (eFld_len y)]
   refine tcE (Parts_spec k y.name hy) ?_
   simp only [go_sem,seval]
   refine G3.txts (by simp only [List.length_append]; omega) (fun v4 g4 G4 => ?_)
   simp only [go_sem,seval]
   refine ⟨_, _, WeakE.env ?_, v4, ?_, rfl⟩
   ·simp only [go_sem,seval, step_at ox.fields hp']
   ·have : parts p.name ++ nmRecs pre ++ parts x.name ++ nmFlds (pre' ++ [y]) = parts p.name ++ nmRecs pre ++ parts x.name ++ nmFlds pre' ++ parts y.name := by simp [nmFlds]
    rw [this]; exact G4
  ·rintro e k ⟨v3, G3, rfl⟩
   simp only [go_sem,seval, lt_end, aia_sl (map_at hp) (eRec_len x)]
   refine lessQ.same ?_
   simp only [go_sem,seval]
   refine ⟨_, _, WeakE.env ?_, v3, ?_, rfl⟩
   ·simp only [go_sem,seval, step_at ho.recs hp]
   ·have : parts p.name ++ nmRecs (pre ++ [x]) = parts p.name ++ nmRecs pre ++ parts x.name ++ nmFlds x.fields := by simp [nmRecs, nmRec]
    rw [this]; exact G3
 ·rintro e g ⟨v, G, rfl⟩
  simp only [go_sem,seval, lt_end]
  refine lessQ.same ?_
  simp only [go_sem,seval]
  refine tcE (varNames_spec p.vars ho.vars hs.vars (by unfold roomy; omega) false g) ?_
  simp only [go_sem,seval]
  refine G.txts (by simp only [List.length_append]; omega) (fun v4 g4 G4 => ?_)
  simp only [go_sem,seval]
  refine tcE (routineNames_spec _ p.routines (Nat.le_refl _) ho.routines ho.eachRoutine hs.routines (by unfold roomy; omega) false g4) ?_
  simp only [go_sem,seval]
  refine G4.txts (by simp only [List.length_append]; omega) (fun v5 g5 G5 => ?_)
  simp only [go_sem,seval]
  refine tcE (stmtNames_spec _ p.body (Nat.le_refl _) ho.body ho.eachStmt hs.body (by unfold roomy; omega) false g5) ?_
  simp only [go_sem,seval]
  refine G5.txts (by simp only [List.length_append]; omega) (fun v6 g6 G6 => ?_)
  have G7 : GL 9 1 h g6 v6 (txt (nmP p)) := G6
  clear G6
  simp only [go_sem,seval]
  refine lT_list (nmP p) (fun pre post e g => ∃ v, GL 9 1 g6 g v (txt (once [] pre)) ∧ e = [(3, v6), (6, v), (7, .int .i64 pre.length)]) (WeakE.env ?_) ⟨.sl [] true, .nil g6, rfl⟩ ?_ ?_
  ·simp only [go_sem,seval]
  ·rintro pre x post e g hp ⟨v, G, rfl⟩
   have hA := G7.aia .i64 (txt_at hp)
   have hL := G7.len g
   have ol := once_len pre []
   have pl : pre.length ≤ (nmP p).length := Nat.le_of_lt (at_pre hp).2
   have ofew : few (once [] pre) := by unfold few; simp at ol; omega
   by_cases h0 : x = noBytes
   ·subst h0
    simp only [go_sem,seval, hL, lt_at hp, hA]
    refine ⟨_, _, WeakE.env ?_, v, ?_, rfl⟩
    ·simp only [go_sem,seval, step_at hfew hp]
    ·rw [once_append, if_pos rfl]; exact G
   ·have h0' : (x = (⟨#[]⟩ : ByteArray)) = False := by simpa using h0
    simp only [go_sem,seval, hL, lt_at hp, hA, h0']
    refine tcL (Among_spec g (once [] pre) ofew false x) (.cons G.avle (.cons (.refl _) .nil)) ?_
    simp only [go_sem,seval]
    cases ha : among x (once [] pre) with
    | true =>
     simp only [go_sem,seval]
     refine ⟨_, _, WeakE.env ?_, v, ?_, rfl⟩
     ·simp only [go_sem,seval, step_at hfew hp]
     ·rw [once_append, if_neg h0, if_pos ha]; exact G
    | false =>
     simp only [go_sem,seval, hA]
     refine G.txt1 (by simp at ol; omega) (fun v' g' G' => ?_)
     simp only [go_sem,seval]
     refine ⟨_, _, WeakE.env ?_, v', ?_, rfl⟩
     ·simp only [go_sem,seval, step_at hfew hp]
     ·rw [once_append, if_neg h0, if_neg (by rw [ha]; simp)]; exact G'
  ·rintro e g ⟨v, G, rfl⟩
   have hL := G7.len g
   simp only [go_sem,seval, hL, lt_end]
   refine lessQ.same ?_
   simp only [go_sem,seval]
   exact EndW.less G.avle (AHeap.le_trans G7.le G.le) ⟨rfl, rfl⟩
end Pg
