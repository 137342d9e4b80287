/- Names are but names: a program with other names, no two into one, is checked alike. -/
import Derived.Test.YtpebidcmkjjpnaaCheckSpec
namespace Pg
open Go
set_option linter.unusedSimpArgs false
set_option linter.unusedVariables false
set_option linter.unusedSectionVars false

section
variable (ρ : ByteArray → ByteArray)
def rnTyp (t : Typ) : Typ := ⟨t.kind, t.size, ρ t.name⟩
mutual
def rnE : Expr → Expr
  | ⟨op, n, name, field, l⟩ => ⟨op, n, ρ name, ρ field, rnEs l⟩
def rnEs : List Expr → List Expr
  | [] => []
  | x :: r => rnE x :: rnEs r
end
mutual
def rnS : Stmt → Stmt
  | ⟨before, trail, op, name, p, e, down, more, body, els, end1, end2⟩ => ⟨before, trail, op, ρ name, rnE ρ p, rnEs ρ e, down, more, rnSs body, rnSs els, end1, end2⟩
def rnSs : List Stmt → List Stmt
  | [] => []
  | x :: r => rnS x :: rnSs r
end
def rnFld (f : Fld) : Fld := ⟨f.before, f.trail, ρ f.name, f.kind⟩
def rnRec (r : Rec) : Rec := ⟨r.before, r.trail, ρ r.name, r.fields.map (rnFld ρ), r.endd⟩
def rnVar (v : Var) : Var := ⟨v.before, v.trail, ρ v.name, rnTyp ρ v.t⟩
def rnParam (p : Param) : Param := ⟨ρ p.name, rnTyp ρ p.t, p.mode⟩
mutual
def rnR : Routine → Routine
  | ⟨before, trail, name, result, params, vars, inner, body, endd⟩ => ⟨before, trail, ρ name, result, params.map (rnParam ρ), vars.map (rnVar ρ), rnRs inner, rnSs ρ body, endd⟩
def rnRs : List Routine → List Routine
  | [] => []
  | x :: r => rnR x :: rnRs r
end
def rnP (p : Prg) : Prg := ⟨ρ p.name, p.before, p.mid, p.after, p.recs.map (rnRec ρ), p.vars.map (rnVar ρ), rnRs ρ p.routines, rnSs ρ p.body, p.endd⟩
theorem rnE_eq (x : Expr) : rnE ρ x = ⟨x.op, x.n, ρ x.name, ρ x.field, rnEs ρ x.l⟩ := by obtain ⟨op, n, name, field, l⟩ := x; rw [rnE]
theorem rnS_eq (x : Stmt) : rnS ρ x = ⟨x.before, x.trail, x.op, ρ x.name, rnE ρ x.p, rnEs ρ x.e, x.down, x.more, rnSs ρ x.body, rnSs ρ x.els, x.end1, x.end2⟩ := by
  obtain ⟨before, trail, op, name, p, e, down, more, body, els, end1, end2⟩ := x; rw [rnS]
theorem rnR_eq (x : Routine) : rnR ρ x = ⟨x.before, x.trail, ρ x.name, x.result, x.params.map (rnParam ρ), x.vars.map (rnVar ρ), rnRs ρ x.inner, rnSs ρ x.body, x.endd⟩ := by
  obtain ⟨before, trail, name, result, params, vars, inner, body, endd⟩ := x; rw [rnR]
theorem rnEs_map : ∀ l, rnEs ρ l = l.map (rnE ρ)
  | [] => rfl
  | x :: r => by simp [rnEs, rnEs_map r]
theorem rnSs_map : ∀ l, rnSs ρ l = l.map (rnS ρ)
  | [] => rfl
  | x :: r => by simp [rnSs, rnSs_map r]
theorem rnRs_map : ∀ l, rnRs ρ l = l.map (rnR ρ)
  | [] => rfl
  | x :: r => by simp [rnRs, rnRs_map r]
end
/-! ### All names are among some -/
section
variable (S : ByteArray → Prop)
mutual
def inE : Expr → Prop
  | ⟨op, n, name, field, l⟩ => S name ∧ S field ∧ inEs l
def inEs : List Expr → Prop
  | [] => True
  | x :: r => inE x ∧ inEs r
end
mutual
def inS : Stmt → Prop
  | ⟨before, trail, op, name, p, e, down, more, body, els, end1, end2⟩ => S name ∧ inE S p ∧ inEs S e ∧ inSs body ∧ inSs els
def inSs : List Stmt → Prop
  | [] => True
  | x :: r => inS x ∧ inSs r
end
def inRec (r : Rec) : Prop := S r.name ∧ ∀ f ∈ r.fields, S f.name
def inVar (v : Var) : Prop := S v.name ∧ S v.t.name
def inParam (p : Param) : Prop := S p.name ∧ S p.t.name
mutual
def inR : Routine → Prop
  | ⟨before, trail, name, result, params, vars, inner, body, endd⟩ => S name ∧ (∀ p ∈ params, inParam S p) ∧ (∀ v ∈ vars, inVar S v) ∧ inRs inner ∧ inSs S body
def inRs : List Routine → Prop
  | [] => True
  | x :: r => inR x ∧ inRs r
end
structure inP (p : Prg) : Prop where
  name : S p.name
  recs : ∀ r ∈ p.recs, inRec S r
  vars : ∀ v ∈ p.vars, inVar S v
  routines : inRs S p.routines
  body : inSs S p.body
theorem inE_eq (x : Expr) : inE S x ↔ S x.name ∧ S x.field ∧ inEs S x.l := by obtain ⟨op, n, name, field, l⟩ := x; rw [inE]
theorem inS_eq (x : Stmt) : inS S x ↔ S x.name ∧ inE S x.p ∧ inEs S x.e ∧ inSs S x.body ∧ inSs S x.els := by
  obtain ⟨before, trail, op, name, p, e, down, more, body, els, end1, end2⟩ := x; rw [inS]
theorem inR_eq (x : Routine) : inR S x ↔ S x.name ∧ (∀ p ∈ x.params, inParam S p) ∧ (∀ v ∈ x.vars, inVar S v) ∧ inRs S x.inner ∧ inSs S x.body := by
  obtain ⟨before, trail, name, result, params, vars, inner, body, endd⟩ := x; rw [inR]
end
/-! ### Scopes with other names -/
/-- No two of some names become one; no name is but itself. -/
structure Ren (ρ : ByteArray → ByteArray) (S : ByteArray → Prop) : Prop where
  inj : ∀ a b, S a → S b → ρ a = ρ b → a = b
  none_ : ρ noBytes = noBytes
  none_in : S noBytes
section
variable {ρ : ByteArray → ByteArray} {S : ByteArray → Prop} (R : Ren ρ S)
def rnThing (ρ : ByteArray → ByteArray) : Thing → Thing
  | .var t => .var (rnTyp ρ t)
  | .rcd r => .rcd (rnRec ρ r)
  | .routine r => .routine (rnR ρ r)
def inThing (S : ByteArray → Prop) : Thing → Prop
  | .var t => S t.name
  | .rcd r => inRec S r
  | .routine r => inR S r
def LR (ρ : ByteArray → ByteArray) (S : ByteArray → Prop) (f f' : ByteArray → Option Thing) : Prop := ∀ n, S n → f' (ρ n) = (f n).map (rnThing ρ) ∧ ∀ x, f n = some x → inThing S x
theorem look_setIn (name : ByteArray) (x : Thing) : ∀ (f : Scope) (n : ByteArray), look (setIn name x f) n = if n = name then some x else look f n
  | [], n => by
    simp only [setIn, look, List.find?_cons, List.find?_nil]
    by_cases h : n = name <;> simp [h]
  | (m, y) :: r, n => by
    have ih := look_setIn name x r n
    simp only [setIn]
    by_cases hm : name = m
    · subst hm
      simp only [if_true, look, List.find?_cons]
      by_cases h : n = name <;> simp [h]
    · simp only [hm, if_false]
      by_cases h : n = m
      · subst h
        have : ¬ n = name := fun e => hm e.symm
        simp [look, List.find?_cons, this]
      · simp only [look, List.find?_cons, h, decide_false] at ih ⊢
        exact ih
theorem findIn_setTop (name : ByteArray) (x : Thing) {fs : List Scope} (h : fs ≠ []) (n : ByteArray) : findIn (setTop name x fs) n = if n = name then some x else findIn fs n := by
  cases fs with
  | nil => exact absurd rfl h
  | cons f fs =>
    simp only [setTop, findIn, look_setIn]
    by_cases hn : n = name <;> simp [hn]
include R
theorem Ren.eq {a b : ByteArray} (ha : S a) (hb : S b) : (ρ a = ρ b) = (a = b) := propext ⟨R.inj a b ha hb, fun h => by rw [h]⟩
theorem Ren.dec {a b : ByteArray} (ha : S a) (hb : S b) : decide (ρ a = ρ b) = decide (a = b) := by simp only [R.eq ha hb]
theorem LR.set {f f' : ByteArray → Option Thing} (h : LR ρ S f f') {name : ByteArray} {x : Thing} (hn : S name) (hx : inThing S x) : LR ρ S (fun n => if n = name then some x else f n) (fun n => if n = ρ name then some (rnThing ρ x) else f' n) := by
  intro n sn
  by_cases e : n = name
  · subst e; simp only [if_true, Option.map_some, Option.some.injEq, forall_eq']; exact ⟨trivial, hx⟩
  · have : ¬ ρ n = ρ name := by rw [R.eq sn hn]; exact e
    simp only [e, this, if_false]
    exact h n sn
def SR (ρ : ByteArray → ByteArray) (S : ByteArray → Prop) (fs fs' : List Scope) : Prop := fs ≠ [] ∧ fs' ≠ [] ∧ LR ρ S (findIn fs) (findIn fs')
theorem SR.lay {fs fs' : List Scope} (h : SR ρ S fs fs') {name : ByteArray} {x : Thing} (hn : S name) (hx : inThing S x) : SR ρ S (setTop name x fs) (setTop (ρ name) (rnThing ρ x) fs') := by
  obtain ⟨h1, h2, h3⟩ := h
  refine ⟨by cases fs <;> simp_all [setTop], by cases fs' <;> simp_all [setTop], ?_⟩
  intro n sn
  rw [findIn_setTop _ _ h1, findIn_setTop _ _ h2]
  exact LR.set R h3 hn hx n sn
theorem SR.deeper {fs fs' : List Scope} (h : SR ρ S fs fs') : SR ρ S ([] :: fs) ([] :: fs') := by
  refine ⟨by simp, by simp, fun n sn => ?_⟩
  have := h.2.2 n sn
  simpa [findIn, look] using this
theorem LR.all : ∀ (l : List Routine), inRs S l → ∀ {f f' : Scope}, LR ρ S (look f) (look f') → LR ρ S (look (allOf f l)) (look (allOf f' (rnRs ρ l)))
  | [], _, f, f', h => h
  | r :: l, hl, f, f', h => by
    simp only [inRs] at hl
    simp only [rnRs, allOf]
    refine LR.all l hl.2 ?_
    have hr := (inR_eq S r).1 hl.1
    have := LR.set R h (name := r.name) (x := .routine r) hr.1 hl.1
    intro n sn
    rw [look_setIn, look_setIn]
    have hname : (rnR ρ r).name = ρ r.name := by rw [rnR_eq]
    rw [hname]
    exact this n sn
theorem SR.all {fs fs' : List Scope} (h : SR ρ S fs fs') {l : List Routine} (hl : inRs S l) : SR ρ S (allOf [] l :: fs) (allOf [] (rnRs ρ l) :: fs') := by
  refine ⟨by simp, by simp, fun n sn => ?_⟩
  have a := LR.all R l hl (f := []) (f' := []) (fun n _ => by simp [look]) n sn
  have b := h.2.2 n sn
  simp only [findIn]
  rw [a.1]
  cases e : look (allOf [] l) n with
  | none => simpa using b
  | some x => exact ⟨rfl, fun y hy => by cases hy; exact a.2 _ e⟩
/-! ### States, so many items on -/
def Sh (d : Int) (s s' : CS) : Prop := s'.bad = s.bad ∧ s'.item = w64 (s.item + d)
omit R in
theorem Sh.fail {d : Int} {s s' : CS} (h : Sh d s s') (e : Int) : Sh d (s.fail e) (s'.fail e) := by
  unfold CS.fail; rw [h.1]; split
  · exact ⟨rfl, h.2⟩
  · exact h
omit R in
theorem Sh.step {d : Int} {s s' : CS} (h : Sh d s s') : Sh d s.step s'.step := by
  refine ⟨h.1, ?_⟩
  simp only [CS.step, h.2, w64_add_l]
  congr 1; omega
theorem rn_lay {fs fs' : List Scope} (h : SR ρ S fs fs') {d : Int} {s s' : CS} (hs : Sh d s s') {name : ByteArray} {x : Thing} (hn : S name) (hx : inThing S x) :
    SR ρ S (ckLay fs s name x).1 (ckLay fs' s' (ρ name) (rnThing ρ x)).1 ∧ Sh d (ckLay fs s name x).2 (ckLay fs' s' (ρ name) (rnThing ρ x)).2 := by
  unfold ckLay
  rw [(h.2.2 name hn).1]
  cases findIn fs name with
  | none => exact ⟨h.lay R hn hx, hs⟩
  | some y => exact ⟨h, hs.fail 12⟩
theorem rn_typ {fs fs' : List Scope} (h : SR ρ S fs fs') {d : Int} {s s' : CS} (hs : Sh d s s') {t : Typ} (ht : S t.name) : Sh d (ckTyp fs s t) (ckTyp fs' s' (rnTyp ρ t)) := by
  unfold ckTyp rnTyp
  simp only [(h.2.2 _ ht).1]
  split
  · cases e : findIn fs t.name with
    | none => exact hs.fail 13
    | some y => cases y <;> simp only [Option.map_some, rnThing] <;> first | exact hs | exact hs.fail 13
  · exact hs
/-- What an expression comes to. -/
def TR (ρ : ByteArray → ByteArray) (S : ByteArray → Prop) (d : Int) (p p' : Typ × CS) : Prop := S p.1.name ∧ p'.1 = rnTyp ρ p.1 ∧ Sh d p.2 p'.2
theorem rn_noTyp : rnTyp ρ noTyp = noTyp := by simp only [rnTyp, noTyp, R.none_]
theorem rn_kindTyp (k : Int) : rnTyp ρ (kindTyp k) = kindTyp k := by simp only [rnTyp, kindTyp, R.none_]
theorem TR.no {d : Int} {s s' : CS} (hs : Sh d s s') : TR ρ S d (noTyp, s) (noTyp, s') := ⟨R.none_in, (rn_noTyp R).symm, hs⟩
theorem TR.kind {d : Int} {s s' : CS} (hs : Sh d s s') (k : Int) : TR ρ S d (kindTyp k, s) (kindTyp k, s') := ⟨R.none_in, (rn_kindTyp R k).symm, hs⟩
theorem rn_variable {fs fs' : List Scope} (h : SR ρ S fs fs') {d : Int} {s s' : CS} (hs : Sh d s s') {name : ByteArray} (hn : S name) : TR ρ S d (ckVariable fs s name) (ckVariable fs' s' (ρ name)) := by
  unfold ckVariable
  have := h.2.2 name hn
  rw [this.1]
  cases e : findIn fs name with
  | none => exact .no R (hs.fail 13)
  | some y => cases y with
    | var t => exact ⟨this.2 _ e, rfl, hs⟩
    | rcd r => exact .no R (hs.fail 13)
    | routine r => exact .no R (hs.fail 13)
theorem rn_find {name : ByteArray} (hn : S name) : ∀ {l : List Fld}, (∀ f ∈ l, S f.name) → (l.map (rnFld ρ)).find? (fun f => decide (f.name = ρ name)) = (l.find? (fun f => decide (f.name = name))).map (rnFld ρ)
  | [], _ => rfl
  | f :: l, h => by
    have : decide ((rnFld ρ f).name = ρ name) = decide (f.name = name) := R.dec (h f (by simp)) hn
    simp only [List.map_cons, List.find?_cons, this]
    cases decide (f.name = name) with
    | true => rfl
    | false => exact rn_find hn (fun f hf => h f (by simp [hf]))
theorem rn_field {fs fs' : List Scope} (h : SR ρ S fs fs') {d : Int} {s s' : CS} (hs : Sh d s s') {t : Typ} (ht : S t.name) {name : ByteArray} (hn : S name) :
    (ckField fs' s' (rnTyp ρ t) (ρ name)).1 = (ckField fs s t name).1 ∧ Sh d (ckField fs s t name).2 (ckField fs' s' (rnTyp ρ t) (ρ name)).2 := by
  unfold ckField
  have hk : (rnTyp ρ t).kind = t.kind := rfl
  have hnm : (rnTyp ρ t).name = ρ t.name := rfl
  have := h.2.2 _ ht
  simp only [hk, hnm, this.1]
  split
  · cases e : findIn fs t.name with
    | none => exact ⟨rfl, hs.fail 13⟩
    | some y => cases y with
      | var t => exact ⟨rfl, hs.fail 13⟩
      | routine r => exact ⟨rfl, hs.fail 13⟩
      | rcd r =>
        have hr : inRec S r := this.2 _ e
        simp only [Option.map_some, rnThing]
        have := rn_find R hn (l := r.fields) hr.2
        have hf : (rnRec ρ r).fields = r.fields.map (rnFld ρ) := rfl
        rw [hf, this]
        cases r.fields.find? (fun f => decide (f.name = name)) with
        | none => exact ⟨rfl, hs.fail 13⟩
        | some f => exact ⟨rfl, hs⟩
  · exact ⟨rfl, hs.fail 14⟩
theorem rn_kind {d : Int} {p p' : Typ × CS} (h : TR ρ S d p p') (kinds : List Int) : (ckKind kinds p').1 = (ckKind kinds p).1 ∧ Sh d (ckKind kinds p).2 (ckKind kinds p').2 := by
  obtain ⟨h1, h2, h3⟩ := h
  unfold ckKind
  rw [h2]
  refine ⟨rfl, ?_⟩
  have e1 : (rnTyp ρ p.1).size = p.1.size := rfl
  have e2 : (rnTyp ρ p.1).kind = p.1.kind := rfl
  simp only [e1, e2]
  split
  · exact h3.fail 14
  · exact h3
def RnE (ρ : ByteArray → ByteArray) (S : ByteArray → Prop) (d : Int) (fs fs' : List Scope) (x : Expr) : Prop := inE S x → ∀ s s' b, Sh d s s' → TR ρ S d (ckExpr fs s x b) (ckExpr fs' s' (rnE ρ x) b)
theorem rn_pair {fs fs' : List Scope} {d : Int} : ∀ {l : List Expr}, (∀ x ∈ l, RnE ρ S d fs fs' x) → inEs S l → ∀ {s s' : CS}, Sh d s s' → ∀ k, Sh d (ckPair fs s l k) (ckPair fs' s' (rnEs ρ l) k)
  | [], _, _, s, s', hs, k => by simp only [rnEs, ckPair]; exact hs
  | x :: r, h, hi, s, s', hs, k => by
    simp only [inEs] at hi
    simp only [rnEs, ckPair]
    exact rn_pair (fun y hy => h y (by simp [hy])) hi.2 (rn_kind R (h x (by simp) hi.1 s s' false hs) [k]).2 k
omit R in
theorem rnEs_len (ρ : ByteArray → ByteArray) (l : List Expr) : (rnEs ρ l).length = l.length := by rw [rnEs_map]; simp
theorem rn_two {fs fs' : List Scope} {d : Int} {l : List Expr} (h : ∀ x ∈ l, RnE ρ S d fs fs' x) (hi : inEs S l) {s s' : CS} (hs : Sh d s s') (kinds : List Int) : Sh d (ckTwo fs s kinds l) (ckTwo fs' s' kinds (rnEs ρ l)) := by
  cases l with
  | nil => simp only [rnEs, ckTwo]; exact hs
  | cons x r =>
    simp only [inEs] at hi
    simp only [rnEs, ckTwo, rnEs_len]
    split
    · have a := rn_kind R (h x (by simp) hi.1 s s' false hs) kinds
      rw [a.1]
      exact rn_pair R (fun y hy => h y (by simp [hy])) hi.2 a.2 _
    · exact hs
omit R in
theorem rnE_op (ρ : ByteArray → ByteArray) (x : Expr) : (rnE ρ x).op = x.op := by rw [rnE_eq]
theorem rnTyp_eq {a b : Typ} (ha : S a.name) (hb : S b.name) : (rnTyp ρ a = rnTyp ρ b) = (a = b) := by
  obtain ⟨k, z, n⟩ := a; obtain ⟨k', z', n'⟩ := b
  simp only [rnTyp, Typ.mk.injEq, R.eq (a := n) (b := n') ha hb]
theorem rn_args {fs fs' : List Scope} {d : Int} : ∀ {l : List Expr}, (∀ x ∈ l, RnE ρ S d fs fs' x) → inEs S l → ∀ {ps : List Param}, (∀ p ∈ ps, inParam S p) → ∀ {s s' : CS}, Sh d s s' → Sh d (ckArgs fs s ps l) (ckArgs fs' s' (ps.map (rnParam ρ)) (rnEs ρ l))
  | [], _, _, ps, _, s, s', hs => by cases ps <;> simp only [rnEs, List.map_nil, List.map_cons, ckArgs] <;> exact hs
  | x :: r, h, hi, [], _, s, s', hs => by simp only [rnEs, List.map_nil, ckArgs]; exact hs
  | x :: r, h, hi, p :: ps, hp, s, s', hs => by
    simp only [inEs] at hi
    have hr : ∀ y ∈ r, RnE ρ S d fs fs' y := fun y hy => h y (by simp [hy])
    have hps : ∀ p ∈ ps, inParam S p := fun q hq => hp q (by simp [hq])
    have hpp := hp p (by simp)
    have e1 : (rnParam ρ p).mode = p.mode := rfl
    have e2 : (rnParam ρ p).t = rnTyp ρ p.t := rfl
    have e3 : (rnTyp ρ p.t).kind = p.t.kind := rfl
    simp only [rnEs, List.map_cons, ckArgs, hs.1, e1, e2, e3, rnE_op]
    split
    · split
      · exact rn_args hr hi.2 hps (rn_kind R (h x (by simp) hi.1 s s' false hs) _).2
      · refine rn_args hr hi.2 hps ?_
        have a : Sh d (if x.op = 4 ∨ x.op = 5 ∨ x.op = 6 then s else s.fail 14) (if x.op = 4 ∨ x.op = 5 ∨ x.op = 6 then s' else s'.fail 14) := by
          split
          · exact hs
          · exact hs.fail 14
        obtain ⟨b1, b2, b3⟩ := h x (by simp) hi.1 _ _ false a
        rw [b2]
        have e4 := rnTyp_eq R b1 hpp.2
        by_cases hq : (ckExpr fs (if x.op = 4 ∨ x.op = 5 ∨ x.op = 6 then s else s.fail 14) x false).1 = p.t
        · have h5 := Eq.mpr e4 hq
          rw [if_pos hq, if_pos h5]; exact b3
        · have h5 := fun h => hq (Eq.mp e4 h)
          rw [if_neg hq, if_neg h5]; exact b3.fail 14
    · exact hs
theorem rn_of {fs fs' : List Scope} (hf : SR ρ S fs fs') {d : Int} (x : Expr) (h : ∀ y ∈ x.l, RnE ρ S d fs fs' y) : RnE ρ S d fs fs' x := by
  intro hi s s' b hs
  obtain ⟨i1, i2, i3⟩ := (inE_eq S x).1 hi
  rw [ckExpr_eq, ckExpr_eq, rnE_eq]
  simp only [hs.1]
  by_cases h0 : s.bad = 0
  · simp only [h0, if_true]
    by_cases o : x.op = 1
    · simp only [o, if_true]; exact .kind R hs 1
    simp only [o, if_false]; clear o
    by_cases o : x.op = 2
    · simp only [o, if_true]; exact .kind R hs 2
    simp only [o, if_false]; clear o
    by_cases o : x.op = 3
    · simp only [o, if_true]; exact .kind R hs 3
    simp only [o, if_false]; clear o
    by_cases o : x.op = 4
    · simp only [o, if_true]; exact rn_variable R hf hs i1
    simp only [o, if_false]; clear o
    by_cases o : x.op = 5
    · simp only [o, if_true]
      obtain ⟨v1, v2, v3⟩ := rn_variable R hf hs i1
      rw [v2]
      have e1 : (rnTyp ρ (ckVariable fs s x.name).1).kind = (ckVariable fs s x.name).1.kind := rfl
      have e2 : (rnTyp ρ (ckVariable fs s x.name).1).size = (ckVariable fs s x.name).1.size := rfl
      rw [e1, e2]
      refine .kind R (s := ckPair fs _ x.l 1) ?_ _
      refine rn_pair R h i3 ?_ 1
      split
      · exact v3.fail 14
      · exact v3
    simp only [o, if_false]; clear o
    by_cases o : x.op = 6
    · simp only [o, if_true]
      obtain ⟨v1, v2, v3⟩ := rn_variable R hf hs i1
      rw [v2]
      have a := rn_field R hf v3 v1 i2
      rw [a.1]
      exact .kind R a.2 _
    simp only [o, if_false]; clear o
    by_cases o : x.op = 7
    · simp only [o, if_true]
      have := hf.2.2 _ i1
      rw [this.1]
      cases e : findIn fs x.name with
      | none => exact .no R (hs.fail 13)
      | some y => cases y with
        | var t => exact .no R (hs.fail 13)
        | rcd r => exact .no R (hs.fail 13)
        | routine r =>
          have hr := (inR_eq S r).1 (this.2 _ e)
          simp only [Option.map_some, rnThing]
          have e1 : (rnR ρ r).result = r.result := by rw [rnR_eq]
          have e2 : (rnR ρ r).params = r.params.map (rnParam ρ) := by rw [rnR_eq]
          rw [e1, e2, List.length_map, rnEs_len]
          split
          · exact .kind R (rn_args R h i3 hr.2.1 (hs.fail 14)) _
          · split
            · exact .kind R (rn_args R h i3 hr.2.1 hs) _
            · exact .no R (hs.fail 15)
    simp only [o, if_false]; clear o
    split
    · exact .kind R (rn_pair R h i3 hs 2) _
    · split
      · exact .kind R (rn_two R h i3 hs _) _
      · split
        · exact .kind R (rn_two R h i3 hs _) _
        · exact .kind R (rn_pair R h i3 hs 1) _
  · simp only [h0, if_false]
    exact .no R hs
theorem rn_expr {fs fs' : List Scope} (hf : SR ρ S fs fs') {d : Int} : ∀ (n : Nat) (x : Expr), x.sz ≤ n → RnE ρ S d fs fs' x
  | 0, x, hn => by rw [Expr.sz_eq] at hn; omega
  | n + 1, x, hn => rn_of R hf x fun y hy => rn_expr hf n y (by have := Exprs.sz_mem hy; rw [Expr.sz_eq] at hn; omega)
theorem rn_ex {fs fs' : List Scope} (hf : SR ρ S fs fs') {d : Int} (x : Expr) : RnE ρ S d fs fs' x := rn_expr R hf _ x (Nat.le_refl _)
theorem rn_each {fs fs' : List Scope} (hf : SR ρ S fs fs') {d : Int} : ∀ {l : List Expr}, inEs S l → ∀ {s s' : CS}, Sh d s s' → Sh d (ckEach fs s l) (ckEach fs' s' (rnEs ρ l))
  | [], _, s, s', hs => by simp only [rnEs, ckEach]; exact hs
  | x :: r, hi, s, s', hs => by
    simp only [inEs] at hi
    simp only [rnEs, ckEach]
    exact rn_each hf hi.2 (rn_ex R hf x hi.1 s s' true hs).2.2
theorem rn_anys {fs fs' : List Scope} (hf : SR ρ S fs fs') {d : Int} : ∀ {l : List Expr}, inEs S l → ∀ {s s' : CS}, Sh d s s' → Sh d (ckAnys fs s l) (ckAnys fs' s' (rnEs ρ l))
  | [], _, s, s', hs => by simp only [rnEs, ckAnys]; exact hs
  | x :: r, hi, s, s', hs => by
    simp only [inEs] at hi
    simp only [rnEs, ckAnys, ckAny]
    exact rn_anys hf hi.2 (rn_kind R (rn_ex R hf x hi.1 s s' false hs) _).2
theorem rn_result {fs fs' : List Scope} (hf : SR ρ S fs fs') {d : Int} {l : List Expr} (hi : inEs S l) {s s' : CS} (hs : Sh d s s') (res : Int) : Sh d (ckResult fs s res l) (ckResult fs' s' res (rnEs ρ l)) := by
  unfold ckResult
  simp only [rnEs_len]
  have a : Sh d (if decide (0 < res) = decide (0 < l.length) then s else s.fail 16) (if decide (0 < res) = decide (0 < l.length) then s' else s'.fail 16) := by
    split
    · exact hs
    · exact hs.fail 16
  split
  · exact rn_pair R (fun x _ => rn_ex R hf x) hi a _
  · exact a
theorem rn_stmt {fs fs' : List Scope} (hf : SR ρ S fs fs') {d : Int} {x : Stmt} (hi : inS S x) {s s' : CS} (hs : Sh d s s') (res : Int) : Sh d (ckStmt fs s res x) (ckStmt fs' s' res (rnS ρ x)) := by
  obtain ⟨i1, i2, i3, i4, i5⟩ := (inS_eq S x).1 hi
  have hp : ∀ {s s' : CS}, Sh d s s' → ∀ k, Sh d (ckPair fs s x.e k) (ckPair fs' s' (rnEs ρ x.e) k) := fun hs k => rn_pair R (fun x _ => rn_ex R hf x) i3 hs k
  unfold ckStmt
  rw [rnS_eq]
  simp only
  split
  · have a := rn_kind R (rn_ex R hf x.p i2 s s' false hs) [1, 2, 3]
    rw [a.1]
    exact hp a.2 _
  split
  · exact rn_each R hf i3 hs
  split
  · exact hp hs 2
  split
  · obtain ⟨v1, v2, v3⟩ := rn_variable R hf hs i1
    rw [v2]
    have e : (rnTyp ρ (ckVariable fs s x.name).1 = kindTyp 1) = ((ckVariable fs s x.name).1 = kindTyp 1) := by
      have := rnTyp_eq R (a := (ckVariable fs s x.name).1) (b := kindTyp 1) v1 R.none_in
      rw [rn_kindTyp R] at this; exact this
    simp only [e]
    refine hp ?_ 1
    split
    · exact v3
    · exact v3.fail 14
  split
  · exact (rn_kind R (rn_ex R hf x.p i2 s s' false hs) _).2
  split
  · exact rn_anys R hf i3 hs
  split
  · exact rn_result R hf i3 hs res
  · exact hs
theorem rn_stmts {fs fs' : List Scope} (hf : SR ρ S fs fs') {d : Int} : ∀ (n : Nat) (l : List Stmt), Stmts.sz l ≤ n → inSs S l → ∀ {s s' : CS}, Sh d s s' → ∀ res, Sh d (ckStmts fs s res l) (ckStmts fs' s' res (rnSs ρ l))
  | n, [], hn, hi, s, s', hs, res => by simp only [rnSs, ckStmts]; exact hs
  | 0, x :: r, hn, hi, s, s', hs, res => by simp [Stmts.sz] at hn
  | n + 1, x :: r, hn, hi, s, s', hs, res => by
    simp only [inSs] at hi
    obtain ⟨i1, i2, i3, i4, i5⟩ := (inS_eq S x).1 hi.1
    have h1 := Stmt.sz_eq x
    have h2 : Stmts.sz (x :: r) = 1 + x.sz + Stmts.sz r := by simp only [Stmts.sz]
    simp only [rnSs, ckStmts, hs.1, ckDeep_eq]
    split
    · refine rn_stmts hf n r (by omega) hi.2 ?_ res
      have eb : (rnS ρ x).body = rnSs ρ x.body := by rw [rnS_eq]
      have ee : (rnS ρ x).els = rnSs ρ x.els := by rw [rnS_eq]
      rw [eb, ee]
      exact rn_stmts hf n x.els (by omega) i5 (rn_stmts hf n x.body (by omega) i4 (rn_stmt R hf hi.1 hs.step res) res) res
    · exact hs
theorem rn_params {d : Int} : ∀ {l : List Param}, (∀ p ∈ l, inParam S p) → ∀ {fs fs' : List Scope}, SR ρ S fs fs' → ∀ {s s' : CS}, Sh d s s' →
    SR ρ S (ckParams fs s l).1 (ckParams fs' s' (l.map (rnParam ρ))).1 ∧ Sh d (ckParams fs s l).2 (ckParams fs' s' (l.map (rnParam ρ))).2
  | [], _, fs, fs', hf, s, s', hs => by simp only [List.map_nil, ckParams]; exact ⟨hf, hs⟩
  | p :: l, hi, fs, fs', hf, s, s', hs => by
    have hp := hi p (by simp)
    simp only [List.map_cons, ckParams]
    obtain ⟨a, b⟩ := rn_lay R hf hs (name := p.name) (x := .var p.t) hp.1 hp.2
    exact rn_params (fun q hq => hi q (by simp [hq])) a (rn_typ R a b hp.2)
theorem rn_any {n : ByteArray} (hn : S n) : ∀ {l : List Routine}, inRs S l → ((rnRs ρ l).any fun x => decide (x.name = ρ n)) = l.any fun x => decide (x.name = n)
  | [], _ => rfl
  | r :: l, hl => by
    simp only [inRs] at hl
    have hr := (inR_eq S r).1 hl.1
    have e : (rnR ρ r).name = ρ r.name := by rw [rnR_eq]
    simp only [rnRs, List.any_cons, e, R.dec hr.1 hn, rn_any hn hl.2]
theorem rn_vars {d : Int} {behind : List Routine} (hb : inRs S behind) : ∀ {l : List Var}, (∀ v ∈ l, inVar S v) → ∀ {fs fs' : List Scope}, SR ρ S fs fs' → ∀ {s s' : CS}, Sh d s s' →
    SR ρ S (ckVars fs s l behind).1 (ckVars fs' s' (l.map (rnVar ρ)) (rnRs ρ behind)).1 ∧ Sh d (ckVars fs s l behind).2 (ckVars fs' s' (l.map (rnVar ρ)) (rnRs ρ behind)).2
  | [], _, fs, fs', hf, s, s', hs => by simp only [List.map_nil, ckVars]; exact ⟨hf, hs⟩
  | v :: l, hi, fs, fs', hf, s, s', hs => by
    have hv := hi v (by simp)
    have en : (rnVar ρ v).name = ρ v.name := rfl
    have et : (rnVar ρ v).t = rnTyp ρ v.t := rfl
    simp only [List.map_cons, ckVars, hs.1, en, et, rn_any R hv.1 hb]
    split
    · have a0 : Sh d (if (behind.any fun x => decide (x.name = v.name)) = true then s.step.fail 12 else s.step) (if (behind.any fun x => decide (x.name = v.name)) = true then s'.step.fail 12 else s'.step) := by
        split
        · exact hs.step.fail 12
        · exact hs.step
      obtain ⟨a, b⟩ := rn_lay R hf a0 (name := v.name) (x := .var v.t) hv.1 hv.2
      exact rn_vars hb (fun q hq => hi q (by simp [hq])) a (rn_typ R a b hv.2)
    · exact ⟨hf, hs⟩
omit R in
theorem endL_rn (ρ : ByteArray → ByteArray) : ∀ (n : Nat) (l : List Stmt), Stmts.sz l ≤ n → endL (rnSs ρ l) = endL l
  | n, [], hn => rfl
  | 0, x :: r, hn => by simp [Stmts.sz] at hn
  | n + 1, x :: r, hn => by
    have h1 := Stmt.sz_eq x
    have h2 : Stmts.sz (x :: r) = 1 + x.sz + Stmts.sz r := by simp only [Stmts.sz]
    have a := endL_rn ρ n x.body (by omega)
    have b := endL_rn ρ n x.els (by omega)
    have c := endL_rn ρ n r (by omega)
    obtain ⟨before, trail, op, name, p, e, down, more, body, els, end1, end2⟩ := x
    simp only at a b
    simp only [rnSs, rnS, endL, endS, a, b, c]
theorem rn_routines {d : Int} : ∀ (n : Nat) (l : List Routine), Routines.sz l ≤ n → inRs S l → ∀ {ar ar' al al' : List Scope}, SR ρ S ar ar' → SR ρ S al al' → ∀ {s s' : CS}, Sh d s s' →
    Sh d (ckRoutines ar al s l) (ckRoutines ar' al' s' (rnRs ρ l))
  | n, [], hn, hi, ar, ar', al, al', h1, h2, s, s', hs => by simp only [rnRs, ckRoutines]; exact hs
  | 0, x :: r, hn, hi, ar, ar', al, al', h1, h2, s, s', hs => by simp [Routines.sz] at hn
  | n + 1, x :: r, hn, hi, ar, ar', al, al', h1, h2, s, s', hs => by
    simp only [inRs] at hi
    have hx := (inR_eq S x).1 hi.1
    have z1 := Routine.sz_eq x
    have z2 : Routines.sz (x :: r) = 1 + x.sz + Routines.sz r := by simp only [Routines.sz]
    have en : (rnR ρ x).name = ρ x.name := by rw [rnR_eq]
    simp only [rnRs, ckRoutines, hs.1, en, (h1.2.2 _ hx.1).1, Option.isSome_map]
    split
    · refine rn_routines n r (by omega) hi.2 h1 h2 ?_
      have a0 : Sh d (if (findIn ar x.name).isSome = true then s.step.fail 12 else s.step) (if (findIn ar x.name).isSome = true then s'.step.fail 12 else s'.step) := by
        split
        · exact hs.step.fail 12
        · exact hs.step
      revert a0
      generalize (if (findIn ar x.name).isSome = true then s.step.fail 12 else s.step) = t
      generalize (if (findIn ar x.name).isSome = true then s'.step.fail 12 else s'.step) = t'
      intro a0
      have e1 : (rnR ρ x).params = x.params.map (rnParam ρ) := by rw [rnR_eq]
      have e2 : (rnR ρ x).vars = x.vars.map (rnVar ρ) := by rw [rnR_eq]
      have e3 : (rnR ρ x).inner = rnRs ρ x.inner := by rw [rnR_eq]
      have e4 : (rnR ρ x).body = rnSs ρ x.body := by rw [rnR_eq]
      have e5 : (rnR ρ x).result = x.result := by rw [rnR_eq]
      rw [ckRoutine_eq, ckRoutine_eq, e1, e2, e3, e4, e5]
      simp only [endL_rn ρ _ x.body (Nat.le_refl _)]
      obtain ⟨p1, p2⟩ := rn_params R hx.2.1 (SR.deeper R h2) a0
      have p3 : Sh d (if 0 < x.result ∧ endL x.body = false then (ckParams ([] :: al) t x.params).2.fail 16 else (ckParams ([] :: al) t x.params).2)
          (if 0 < x.result ∧ endL x.body = false then (ckParams ([] :: al') t' (x.params.map (rnParam ρ))).2.fail 16 else (ckParams ([] :: al') t' (x.params.map (rnParam ρ))).2) := by
        split
        · exact p2.fail 16
        · exact p2
      obtain ⟨v1, v2⟩ := rn_vars R hx.2.2.2.1 hx.2.2.1 p1 p3
      have v3 := SR.all R v1 hx.2.2.2.1
      exact rn_stmts R v3 _ x.body (Nat.le_refl _) hx.2.2.2.2 (rn_routines n x.inner (by omega) hx.2.2.2.1 v1 v3 v2) _
    · exact hs
theorem rn_any_fld {n : ByteArray} (hn : S n) : ∀ {l : List Fld}, (∀ f ∈ l, S f.name) → ((l.map (rnFld ρ)).any fun g => decide (g.name = ρ n)) = l.any fun g => decide (g.name = n)
  | [], _ => rfl
  | f :: l, hl => by
    have e : (rnFld ρ f).name = ρ f.name := rfl
    have ih := rn_any_fld hn (l := l) (fun g hg => hl g (by simp [hg]))
    simp only [List.map_cons, List.any_cons, e, R.dec (hl f (by simp)) hn, ih]
theorem rn_twice : ∀ {l a : List Fld}, (∀ f ∈ l, S f.name) → (∀ f ∈ a, S f.name) → twice (a.map (rnFld ρ)) (l.map (rnFld ρ)) = twice a l
  | [], a, _, _ => rfl
  | f :: l, a, hl, ha => by
    have hf := hl f (by simp)
    have e : (rnFld ρ f).name = ρ f.name := rfl
    have ih := rn_twice (l := l) (a := a ++ [f]) (fun g hg => hl g (by simp [hg])) (fun g hg => by
      rcases List.mem_append.1 hg with h | h
      · exact ha g h
      · simp only [List.mem_singleton] at h; subst h; exact hf)
    rw [List.map_append] at ih
    simp only [List.map_cons, List.map_nil] at ih
    simp only [List.map_cons, twice, e, rn_any_fld R hf ha, ih]
theorem rn_recs {d : Int} : ∀ {l : List Rec}, (∀ r ∈ l, inRec S r) → ∀ {fs fs' : List Scope}, SR ρ S fs fs' → ∀ {s s' : CS}, Sh d s s' →
    SR ρ S (ckRecs fs s l).1 (ckRecs fs' s' (l.map (rnRec ρ))).1 ∧ Sh d (ckRecs fs s l).2 (ckRecs fs' s' (l.map (rnRec ρ))).2
  | [], _, fs, fs', hf, s, s', hs => by simp only [List.map_nil, ckRecs]; exact ⟨hf, hs⟩
  | r :: l, hi, fs, fs', hf, s, s', hs => by
    have hr := hi r (by simp)
    have en : (rnRec ρ r).name = ρ r.name := rfl
    have ef : (rnRec ρ r).fields = r.fields.map (rnFld ρ) := rfl
    have tw := rn_twice R (l := r.fields) (a := []) hr.2 (by simp)
    simp only [List.map_nil] at tw
    simp only [List.map_cons, ckRecs, hs.1, en, ef, tw]
    split
    · obtain ⟨a, b⟩ := rn_lay R hf hs.step (name := r.name) (x := .rcd r) hr.1 hr
      refine rn_recs (fun q hq => hi q (by simp [hq])) a ?_
      have e : rnThing ρ (.rcd r) = .rcd (rnRec ρ r) := rfl
      rw [e] at b
      split
      · exact b.fail 12
      · exact b
    · exact ⟨hf, hs⟩
theorem rn_all {p : Prg} (hp : inP S p) : Sh 0 (ckAll p) (ckAll (rnP ρ p)) := by
  have s0 : SR ρ S [[]] [[]] := ⟨by simp, by simp, fun n sn => by simp [findIn, look]⟩
  obtain ⟨a1, a2⟩ := rn_recs R (d := 0) hp.recs s0 (s := ⟨-1, 0⟩) (s' := ⟨-1, 0⟩) ⟨rfl, by decide⟩
  obtain ⟨b1, b2⟩ := rn_vars R hp.routines hp.vars a1 a2
  have b3 := SR.all R b1 hp.routines
  exact rn_stmts R b3 _ p.body (Nat.le_refl _) hp.body (rn_routines R _ p.routines (Nat.le_refl _) hp.routines b1 b3 b2) _
end
end Pg
