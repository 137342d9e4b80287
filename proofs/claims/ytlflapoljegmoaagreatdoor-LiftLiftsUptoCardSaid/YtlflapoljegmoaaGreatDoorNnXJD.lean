import Derived.Test.YtlflapoljegmoaaGreatDoorK4D
import Derived.Test.YtlflapoljegmoaaGreatDoorProg
import Derived.KernelRfl
import Derived.Test.YtlflapoljegmoaaGreatDoorCkWJD
import Derived.Test.YtlflapoljegmoaaGreatDoorTreeSpecD
import Derived.Test.YtlflapoljegmoaaGreatDoorWeighJD
import Derived.Test.YtlflapoljegmoaaGreatDoorTreeSD
import Derived.Test.YtlflapoljegmoaaGreatDoorNmXJD
import Derived.Test.YtlflapoljegmoaaGreatDoorHpD
namespace Pg
open Go Go.Proofs.Tryz
set_option maxRecDepth 100000
set_option maxHeartbeats 4000000
def F31.c0 : RCode := .seq (.reg [qr 4 (.mv (.c (.str ⟨#[]⟩)))]) (.seq (.reg [qr 10 (.mv (.t 0)),qe 11 (.call 43 [.t 10]),qr 5 (.mv (.t 11))]) (.seq (.reg [qr 6 (.mv (.c (.str ⟨#[]⟩)))]) (.seq (.seq (.reg [qr 7 (.mv (.c (.int .i64 0)))]) (.block 0 (.loop (.seq (.seq (.reg [qr 12 (.mv (.t 7)),qr 13 (.mv (.t 5)),qr 14 (.len 1 (.t 13)),qr 15 (.bin .lss (.t 12) (.t 14))]) (.cond (.t 15) .skip (.exit 0))) (.seq (.block 1 (.seq (.reg [qr 18 (.mv (.t 5)),qr 19 (.mv (.t 7)),qr 20 (.ia 1 (.t 18) (.t 19)),qr 21 (.load none (.t 20)),qr 8 (.mv (.t 21))]) (.seq (.seq (.reg [qr 9 (.mv (.c (.int .i64 0)))]) (.block 2 (.loop (.seq (.seq (.reg [qr 22 (.mv (.t 9)),qr 23 (.mv (.t 1)),qr 24 (.len 1 (.t 23)),qr 25 (.bin .lss (.t 22) (.t 24)),qr 26 (.mv (.t 25)),qg 27 (.mv (.t 5)) 26 true,qg 28 (.mv (.t 7)) 26 true,qg 29 (.ia 1 (.t 27) (.t 28)) 26 true,qg 30 (.load none (.t 29)) 26 true,qg 31 (.bin .neq (.t 30) (.c (.str ⟨#[]⟩))) 26 true,qr 32 (.pick (.t 26) (.t 31) (.c (.bool false)))]) (.cond (.t 32) .skip (.exit 2))) (.seq (.block 3 (.seq (.dreg [qr 35 (.mv (.t 1)),qr 36 (.mv (.t 9)),qr 37 (.ia 2 (.t 35) (.t 36)),qr 38 (.fa 0 (.t 37)),qr 39 (.load none (.t 38)),qr 40 (.mv (.t 5)),qr 41 (.mv (.t 7)),qr 42 (.ia 1 (.t 40) (.t 41)),qr 43 (.load none (.t 42)),qr 44 (.bin .eql (.t 39) (.t 43))]) (.cond (.t 44) (.seq (.reg [qr 45 (.mv (.t 1)),qr 46 (.mv (.t 9)),qr 47 (.ia 2 (.t 45) (.t 46)),qr 48 (.fa 1 (.t 47)),qr 49 (.load none (.t 48)),qr 8 (.mv (.t 49))]) (.exit 2)) .skip))) (.reg [qr 33 (.mv (.t 9)),qr 34 (.bin .add (.t 33) (.c (.int .i64 1))),qr 9 (.mv (.t 34))])))))) (.seq (.seq (.reg [qr 50 (.mv (.t 7)),qr 51 (.bin .gtr (.t 50) (.c (.int .i64 0)))]) (.cond (.t 51) (.reg [qr 52 (.mv (.t 6)),qr 53 (.bin .add (.t 52) (.c (.str ⟨#[36]⟩))),qr 6 (.mv (.t 53))]) .skip)) (.reg [qr 54 (.mv (.t 6)),qr 55 (.mv (.t 8)),qr 56 (.bin .add (.t 54) (.t 55)),qr 6 (.mv (.t 56))]))))) (.reg [qr 16 (.mv (.t 7)),qr 17 (.bin .add (.t 16) (.c (.int .i64 1))),qr 7 (.mv (.t 17))])))))) (.seq (.reg [qr 57 (.mv (.t 6)),qr 4 (.mv (.t 57))]) .ret))))
theorem F31.calls [GI] : CallsT prog 31 58 F31.c0 [.tmp 4] := acallsT [] [] 58 func31 ntmps31 (by kernel_rfl) (by kernel_rfl)
noncomputable def F61.c0 : CodeT prog 40 [2] [] f61 := ⟨_, by with_unfolding_all (conv => lhs; reduce)⟩
theorem F61.calls [GI] : CallsT prog 61 40 F61.c0.1 [.cell 4 (some 5)] := acallsT _ _ _ func61 ntmps61 F61.c0.2 (by kernel_rfl)
noncomputable def F34.c0 : CodeT prog 64 [] [] f34 := ⟨_, by with_unfolding_all (conv => lhs; reduce)⟩
theorem F34.calls [GI] : CallsT prog 34 64 F34.c0.1 [.tmp 4] := acallsT _ _ _ func34 ntmps34 F34.c0.2 (by kernel_rfl)
noncomputable def F32.c0 : CodeT prog 35 [] [] f32 := ⟨_, by with_unfolding_all (conv => lhs; reduce)⟩
theorem F32.calls [GI] : CallsT prog 32 35 F32.c0.1 [.tmp 4] := acallsT _ _ _ func32 ntmps32 F32.c0.2 (by kernel_rfl)
noncomputable def F33.c0 : CodeT prog 76 [] [] f33 := ⟨_, by with_unfolding_all (conv => lhs; reduce)⟩
theorem F33.calls [GI] : CallsT prog 33 76 F33.c0.1 [.tmp 4] := acallsT _ _ _ func33 ntmps33 F33.c0.2 (by kernel_rfl)
noncomputable def F11.c0 : CodeT prog 80 [2] [] f11 := ⟨_, by with_unfolding_all (conv => lhs; reduce)⟩
theorem F11.calls [GI] : CallsT prog 11 80 F11.c0.1 [.cell 4 (some 9)] := acallsT _ _ _ func11 ntmps11 F11.c0.2 (by kernel_rfl)
end Pg

namespace Pg
open Go Go.Proofs.Tryz
set_option maxRecDepth 100000
set_option maxHeartbeats 4000000
noncomputable def F43.c0 : CodeT prog 32 [] [] f43 := ⟨_, by with_unfolding_all (conv => lhs; reduce)⟩
theorem F43.calls [GI] : CallsT prog 43 32 F43.c0.1 [.tmp 2] := acallsT _ _ _ func43 ntmps43 F43.c0.2 (by kernel_rfl)
noncomputable def F71.c0 : CodeT prog 28 [1] [] f71 := ⟨_, by with_unfolding_all (conv => lhs; reduce)⟩
theorem F71.calls [GI] : CallsT prog 71 28 F71.c0.1 [.tmp 2] := acallsT _ _ _ func71 ntmps71 F71.c0.2 (by kernel_rfl)
noncomputable def F46.c0 : CodeT prog 66 [] [] f46 := ⟨_, by with_unfolding_all (conv => lhs; reduce)⟩
theorem F46.calls [GI] : CallsT prog 46 66 F46.c0.1 [.tmp 2] := acallsT _ _ _ func46 ntmps46 F46.c0.2 (by kernel_rfl)
noncomputable def F44.c0 : CodeT prog 29 [] [] f44 := ⟨_, by with_unfolding_all (conv => lhs; reduce)⟩
theorem F44.calls [GI] : CallsT prog 44 29 F44.c0.1 [.tmp 2] := acallsT _ _ _ func44 ntmps44 F44.c0.2 (by kernel_rfl)
noncomputable def F45.c0 : CodeT prog 64 [] [5] f45 := ⟨_, by with_unfolding_all (conv => lhs; reduce)⟩
theorem F45.calls [GI] : CallsT prog 45 64 F45.c0.1 [.tmp 2] := acallsT _ _ _ func45 ntmps45 F45.c0.2 (by kernel_rfl)
noncomputable def F16.c0 : CodeT prog 94 [1] [] f16 := ⟨_, by with_unfolding_all (conv => lhs; reduce)⟩
theorem F16.calls [GI] : CallsT prog 16 94 F16.c0.1 [.tmp 2] := acallsT _ _ _ func16 ntmps16 F16.c0.2 (by kernel_rfl)
end Pg

namespace Pg
open Go
set_option linter.all false
section
variable (ρ : ByteArray → ByteArray)
def rnTyp (t : Typ) : Typ := ⟨t.kind, t.size, ρ t.name⟩
mutual
def rnE : Expr → Expr
 | ⟨op, n, name, field, l⟩ => ⟨op, n, ρ name, ρ field, rnEs l⟩
def rnEs : List Expr → List Expr
 | [] => []
 | x :: r => rnE x :: rnEs r
end
mutual
def rnS : Stmt → Stmt
 | ⟨before, trail, op, name, p, e, down, more, body, els, end1, end2⟩ => ⟨before, trail, op, ρ name, rnE ρ p, rnEs ρ e, down, more, rnSs body, rnSs els, end1, end2⟩
def rnSs : List Stmt → List Stmt
 | [] => []
 | x :: r => rnS x :: rnSs r
end
def rnFld (f : Fld) : Fld := ⟨f.before, f.trail, ρ f.name, f.kind⟩
def rnRec (r : Rec) : Rec := ⟨r.before, r.trail, ρ r.name, r.fields.map (rnFld ρ), r.endd⟩
def rnVar (v : Var) : Var := ⟨v.before, v.trail, ρ v.name, rnTyp ρ v.t⟩
def rnParam (p : Param) : Param := ⟨ρ p.name, rnTyp ρ p.t, p.mode⟩
mutual
def rnR : Routine → Routine
 | ⟨before, trail, name, result, params, vars, inner, body, endd⟩ => ⟨before, trail, ρ name, result, params.map (rnParam ρ), vars.map (rnVar ρ), rnRs inner, rnSs ρ body, endd⟩
def rnRs : List Routine → List Routine
 | [] => []
 | x :: r => rnR x :: rnRs r
end
def rnP (p : Prg) : Prg := ⟨ρ p.name, p.before, p.mid, p.after, p.recs.map (rnRec ρ), p.vars.map (rnVar ρ), rnRs ρ p.routines, rnSs ρ p.body, p.endd⟩
theorem rnE_eq (x : Expr) : rnE ρ x = ⟨x.op, x.n, ρ x.name, ρ x.field, rnEs ρ x.l⟩ := by obtain ⟨op, n, name, field, l⟩ := x; rw [rnE]
theorem rnS_eq (x : Stmt) : rnS ρ x = ⟨x.before, x.trail, x.op, ρ x.name, rnE ρ x.p, rnEs ρ x.e, x.down, x.more, rnSs ρ x.body, rnSs ρ x.els, x.end1, x.end2⟩ := by
 obtain ⟨before, trail, op, name, p, e, down, more, body, els, end1, end2⟩ := x; rw [rnS]
theorem rnR_eq (x : Routine) : rnR ρ x = ⟨x.before, x.trail, ρ x.name, x.result, x.params.map (rnParam ρ), x.vars.map (rnVar ρ), rnRs ρ x.inner, rnSs ρ x.body, x.endd⟩ := by
 obtain ⟨before, trail, name, result, params, vars, inner, body, endd⟩ := x; rw [rnR]
theorem rnEs_map : ∀ l, rnEs ρ l = l.map (rnE ρ)
 | [] => rfl
 | x :: r => by simp [rnEs, rnEs_map r]
theorem rnSs_map : ∀ l, rnSs ρ l = l.map (rnS ρ)
 | [] => rfl
 | x :: r => by simp [rnSs, rnSs_map r]
theorem rnRs_map : ∀ l, rnRs ρ l = l.map (rnR ρ)
 | [] => rfl
 | x :: r => by simp [rnRs, rnRs_map r]
end
section
variable (S : ByteArray → Prop)
mutual
def inE : Expr → Prop
 | ⟨op, n, name, field, l⟩ => S name ∧ S field ∧ inEs l
def inEs : List Expr → Prop
 | [] => True
 | x :: r => inE x ∧ inEs r
end
mutual
def inS : Stmt → Prop
 | ⟨before, trail, op, name, p, e, down, more, body, els, end1, end2⟩ => S name ∧ inE S p ∧ inEs S e ∧ inSs body ∧ inSs els
def inSs : List Stmt → Prop
 | [] => True
 | x :: r => inS x ∧ inSs r
end
def inRec (r : Rec) : Prop := S r.name ∧ ∀ f ∈ r.fields, S f.name
def inVar (v : Var) : Prop := S v.name ∧ S v.t.name
def inParam (p : Param) : Prop := S p.name ∧ S p.t.name
mutual
def inR : Routine → Prop
 | ⟨before, trail, name, result, params, vars, inner, body, endd⟩ => S name ∧ (∀ p ∈ params, inParam S p) ∧ (∀ v ∈ vars, inVar S v) ∧ inRs inner ∧ inSs S body
def inRs : List Routine → Prop
 | [] => True
 | x :: r => inR x ∧ inRs r
end
structure inP (p : Prg) : Prop where
 name : S p.name
 recs : ∀ r ∈ p.recs, inRec S r
 vars : ∀ v ∈ p.vars, inVar S v
 routines : inRs S p.routines
 body : inSs S p.body
theorem inE_eq (x : Expr) : inE S x ↔ S x.name ∧ S x.field ∧ inEs S x.l := by obtain ⟨op, n, name, field, l⟩ := x; rw [inE]
theorem inS_eq (x : Stmt) : inS S x ↔ S x.name ∧ inE S x.p ∧ inEs S x.e ∧ inSs S x.body ∧ inSs S x.els := by
 obtain ⟨before, trail, op, name, p, e, down, more, body, els, end1, end2⟩ := x; rw [inS]
theorem inR_eq (x : Routine) : inR S x ↔ S x.name ∧ (∀ p ∈ x.params, inParam S p) ∧ (∀ v ∈ x.vars, inVar S v) ∧ inRs S x.inner ∧ inSs S x.body := by
 obtain ⟨before, trail, name, result, params, vars, inner, body, endd⟩ := x; rw [inR]
end
structure Ren (ρ : ByteArray → ByteArray) (S : ByteArray → Prop) : Prop where
 inj : ∀ a b, S a → S b → ρ a = ρ b → a = b
 none_ : ρ noBytes = noBytes
 none_in : S noBytes
section
variable {ρ : ByteArray → ByteArray} {S : ByteArray → Prop} (R : Ren ρ S)
def rnThing (ρ : ByteArray → ByteArray) : Thing → Thing
 | .var t => .var (rnTyp ρ t)
 | .rcd r => .rcd (rnRec ρ r)
 | .routine r => .routine (rnR ρ r)
def inThing (S : ByteArray → Prop) : Thing → Prop
 | .var t => S t.name
 | .rcd r => inRec S r
 | .routine r => inR S r
def LR (ρ : ByteArray → ByteArray) (S : ByteArray → Prop) (f f' : ByteArray → Option Thing) : Prop := ∀ n, S n → f' (ρ n) = (f n).map (rnThing ρ) ∧ ∀ x, f n = some x → inThing S x
include R
theorem Ren.eq {a b : ByteArray} (ha : S a) (hb : S b) : (ρ a = ρ b) = (a = b) := propext ⟨R.inj a b ha hb, fun h => by rw [h]⟩
theorem LR.set {f f' : ByteArray → Option Thing} (h : LR ρ S f f') {name : ByteArray} {x : Thing} (hn : S name) (hx : inThing S x) : LR ρ S (fun n => if n = name then some x else f n) (fun n => if n = ρ name then some (rnThing ρ x) else f' n) := by
 intro n sn
 by_cases e : n = name
 ·subst e; simp only [if_true, Option.map_some, Option.some.injEq, forall_eq']; exact ⟨trivial, hx⟩
 ·have : ¬ ρ n = ρ name := by rw [R.eq sn hn]; exact e
  simp only [e, this, if_false]
  exact h n sn
def SR (ρ : ByteArray → ByteArray) (S : ByteArray → Prop) (fs fs' : List Scope) : Prop := fs ≠ [] ∧ fs' ≠ [] ∧ LR ρ S (findIn fs) (findIn fs')
theorem SR.lay {fs fs' : List Scope} (h : SR ρ S fs fs') {name : ByteArray} {x : Thing} (hn : S name) (hx : inThing S x) : SR ρ S (setTop name x fs) (setTop (ρ name) (rnThing ρ x) fs') := by
 obtain ⟨h1, h2, h3⟩ := h
 refine ⟨by cases fs <;> simp_all [setTop], by cases fs' <;> simp_all [setTop], ?_⟩
 intro n sn
 rw [findIn_setTop _ _ h1, findIn_setTop _ _ h2]
 exact LR.set R h3 hn hx n sn
theorem SR.deeper {fs fs' : List Scope} (h : SR ρ S fs fs') : SR ρ S ([] :: fs) ([] :: fs') := by
 refine ⟨by simp, by simp, fun n sn => ?_⟩
 have := h.2.2 n sn
 simpa [findIn, look] using this
theorem LR.all : ∀ (l : List Routine), inRs S l → ∀ {f f' : Scope}, LR ρ S (look f) (look f') → LR ρ S (look (allOf f l)) (look (allOf f' (rnRs ρ l)))
 | [], _, f, f', h => h
 | r :: l, hl, f, f', h => by
  simp only [inRs] at hl
  simp only [rnRs, allOf]
  refine LR.all l hl.2 ?_
  have hr := (inR_eq S r).1 hl.1
  have := LR.set R h (name := r.name) (x := .routine r) hr.1 hl.1
  intro n sn
  rw [look_setIn, look_setIn]
  have hname : (rnR ρ r).name = ρ r.name := by rw [rnR_eq]
  rw [hname]
  exact this n sn
theorem SR.all {fs fs' : List Scope} (h : SR ρ S fs fs') {l : List Routine} (hl : inRs S l) : SR ρ S (allOf [] l :: fs) (allOf [] (rnRs ρ l) :: fs') := by
 refine ⟨by simp, by simp, fun n sn => ?_⟩
 have a := LR.all R l hl (f := []) (f' := []) (fun n _ => by simp [look]) n sn
 have b := h.2.2 n sn
 simp only [findIn]
 rw [a.1]
 cases e : look (allOf [] l) n with
 | none => simpa using b
 | some x => exact ⟨rfl, fun y hy => by cases hy; exact a.2 _ e⟩
def Sh (d : Int) (s s' : CS) : Prop := s'.bad = s.bad ∧ s'.item = w64 (s.item + d)
omit R in
theorem Sh.fail {d : Int} {s s' : CS} (h : Sh d s s') (e : Int) : Sh d (s.fail e) (s'.fail e) := by
 unfold CS.fail; rw [h.1]; split
 ·exact ⟨rfl, h.2⟩
 ·exact h
omit R in
theorem Sh.step {d : Int} {s s' : CS} (h : Sh d s s') : Sh d s.step s'.step := by
 refine ⟨h.1, ?_⟩
 simp only [CS.step, h.2, w64_add_l]
 congr 1; omega
def TR (ρ : ByteArray → ByteArray) (S : ByteArray → Prop) (d : Int) (p p' : Typ × CS) : Prop := S p.1.name ∧ p'.1 = rnTyp ρ p.1 ∧ Sh d p.2 p'.2
theorem rn_kindTyp (k : Int) : rnTyp ρ (kindTyp k) = kindTyp k := by simp only [rnTyp, kindTyp, R.none_]
theorem TR.kind {d : Int} {s s' : CS} (hs : Sh d s s') (k : Int) : TR ρ S d (kindTyp k, s) (kindTyp k, s') := ⟨R.none_in, (rn_kindTyp R k).symm, hs⟩
end
end Pg

set_option linter.all false
set_option maxHeartbeats 4000000
set_option maxRecDepth 4000
namespace Pg
open Go
def partsAt (s : ByteArray) : List UInt8 → Nat → Nat → List ByteArray
 | [], a, i => [s.extract a i]
 | c :: r, a, i => if c.toNat = 36 then s.extract a i :: partsAt s r (i + 1) (i + 1) else partsAt s r a (i + 1)
def parts (s : ByteArray) : List ByteArray := partsAt s (bytes s) 0 0
def plain (s : ByteArray) : Prop := ∀ c ∈ bytes s, c.toNat ≠ 36
theorem partsAt_plain (s : ByteArray) : ∀ (l : List UInt8) (a i : Nat), (∀ c ∈ l, c.toNat ≠ 36) → partsAt s l a i = [s.extract a (i + l.length)]
 | [], a, i, h => by simp [partsAt]
 | c :: r, a, i, h => by
  simp only [partsAt]
  rw [if_neg (h c (by simp)), partsAt_plain s r a (i + 1) (fun d hd => h d (by simp [hd]))]
  congr 2; simp; omega
theorem parts_plain {s : ByteArray} (h : plain s) : parts s = [s] := by
 unfold parts
 rw [partsAt_plain s _ 0 0 h]
 congr 1
 have : 0 + (bytes s).length = s.size := by unfold bytes; rw [Array.length_toList, Nat.zero_add]; rfl
 rw [this]
 simp
theorem letters_plain : ∀ (l : List UInt8) (f : Bool), letters f l = true → ∀ c ∈ l, c.toNat ≠ 36
 | [], f, h => by simp
 | c :: r, f, h => by
  simp only [letters, Bool.and_eq_true] at h
  intro d hd
  rcases List.mem_cons.1 hd with rfl | hd
  ·intro he
   have := h.1
   rw [he] at this
   simp [letter] at this
  ·exact letters_plain r false h.2 d hd
theorem plain_none : plain noBytes := by intro c hc; simp [bytes, noBytes] at hc
theorem tName_plain {s : ByteArray} (h : tName s = true) : plain s := by
 simp only [tName, Bool.and_eq_true, decide_eq_true_eq] at h
 have h1 := h.1
 unfold nameCode at h1
 by_cases h0 : s = noBytes
 ·rw [h0]; exact plain_none
 ·rw [if_neg h0] at h1
  by_cases hl : letters true (bytes s) = true
  ·exact letters_plain _ _ hl
  ·rw [if_neg hl] at h1; simp at h1
end Pg
namespace Pg
open Go
section
variable {S : ByteArray → Prop} (hS : ∀ s, tName s = true → S s) (h0 : S noBytes)
include hS h0
theorem form_in : ∀ (n : Nat) (x : Expr), form n x = true → inE S x
 | 0, x, h => by simp [form] at h
 | n + 1, ⟨op, k, name, field, l⟩, h => by
  simp only [form, partsOk, Bool.and_eq_true] at h
  obtain ⟨⟨_, ⟨⟨_, h1⟩, h2⟩, _⟩, h3⟩ := h
  have hl : ∀ l, forms n l = true → inEs S l := by
   intro l
   induction l with
   | nil => intro _; trivial
   | cons y r ih =>
    intro hf
    simp only [forms, Bool.and_eq_true] at hf
    exact ⟨form_in n y hf.1.2, ih hf.2⟩
  refine ⟨?_, ?_, hl l h3⟩
  ·split at h1
   ·exact hS _ h1
   ·simp only [decide_eq_true_eq] at h1; rw [h1]; exact h0
  ·split at h2
   ·exact hS _ h2
   ·simp only [decide_eq_true_eq] at h2; rw [h2]; exact h0
theorem tExpr_in {x : Expr} (h : tExpr x = true) : inE S x := by
 simp only [tExpr, Bool.and_eq_true] at h
 exact form_in hS h0 _ x h.1
theorem tTyp_in {t : Typ} (h : tTyp t = true) : S t.name := by
 unfold tTyp at h
 split at h
 ·simp only [Bool.and_eq_true] at h; exact hS _ h.2
 ·simp only [Bool.and_eq_true, decide_eq_true_eq] at h; rw [h.2]; exact h0
omit hS h0 in
theorem inEs_of : ∀ {l : List Expr}, (∀ x ∈ l, inE S x) → inEs S l
 | [], _ => trivial
 | x :: r, h => ⟨h x (by simp), inEs_of fun y hy => h y (by simp [hy])⟩
theorem tStmt1_in {x : Stmt} (h : tStmt1 x = true) : S x.name ∧ inE S x.p ∧ inEs S x.e := by
 simp only [tStmt1, Bool.and_eq_true] at h
 obtain ⟨⟨⟨⟨⟨⟨h1, h2⟩, h3⟩, h4⟩, h5⟩, h6⟩, h7⟩ := h
 refine ⟨?_, ?_, inEs_of fun y hy => ?_⟩
 ·unfold sName at h5
  split at h5
  ·exact hS _ h5
  ·simp only [Bool.and_eq_true, decide_eq_true_eq] at h5; rw [h5.1]; exact h0
 ·unfold sPlace at h4
  split at h4
  ·simp only [tPlace, Bool.and_eq_true] at h4; exact tExpr_in hS h0 h4.2
  ·simp only [tNone, Bool.and_eq_true, decide_eq_true_eq] at h4
   obtain ⟨⟨⟨⟨_, _⟩, a⟩, b⟩, c⟩ := h4
   rw [inE_eq, a, b, List.eq_nil_of_length_eq_zero c]
   exact ⟨h0, h0, trivial⟩
 ·have := List.all_eq_true.1 h3 y hy
  simp only [sExpr, Bool.and_eq_true] at this
  exact tExpr_in hS h0 this.1
theorem tStmts_in : ∀ (n : Nat) (l : List Stmt), Stmts.sz l ≤ n → ∀ d, tStmts l d = true → inSs S l
 | n, [], hn, d, h => trivial
 | 0, x :: r, hn, d, h => by simp [Stmts.sz] at hn
 | n + 1, x :: r, hn, d, h => by
  have h1 := Stmt.sz_eq x
  have h2 : Stmts.sz (x :: r) = 1 + x.sz + Stmts.sz r := by simp only [Stmts.sz]
  simp only [tStmts, Bool.and_eq_true] at h
  refine ⟨?_, tStmts_in n r (by omega) d h.2⟩
  obtain ⟨before, trail, op, name, p, e, down, more, body, els, end1, end2⟩ := x
  have hh := h.1
  simp only [tStmt, Bool.and_eq_true] at hh
  obtain ⟨⟨⟨_, a⟩, b, _⟩, c, _⟩ := hh
  obtain ⟨p1, p2, p3⟩ := tStmt1_in hS h0 a
  exact ⟨p1, p2, p3, tStmts_in n body (by simp only at h1; omega) _ b, tStmts_in n els (by simp only at h1; omega) _ c⟩
theorem tVars_in {l : List Var} (h : tVars l = true) : ∀ v ∈ l, inVar S v := by
 simp only [tVars, Bool.and_eq_true] at h
 intro v hv
 have := List.all_eq_true.1 h.1 v hv
 simp only [tVar, Bool.and_eq_true] at this
 exact ⟨hS _ this.1.2, tTyp_in hS h0 this.2⟩
theorem tParams_in {l : List Param} (h : tParams l = true) : ∀ v ∈ l, inParam S v := by
 simp only [tParams, Bool.and_eq_true] at h
 intro v hv
 have := List.all_eq_true.1 h.1 v hv
 simp only [tParam, Bool.and_eq_true] at this
 exact ⟨hS _ this.1.1.1.1, tTyp_in hS h0 this.1.1.1.2⟩
theorem tRoutines_in : ∀ (n : Nat) (l : List Routine), Routines.sz l ≤ n → ∀ a d, tRoutines a l d = true → inRs S l
 | n, [], hn, a, d, h => trivial
 | 0, x :: r, hn, a, d, h => by simp [Routines.sz] at hn
 | n + 1, x :: r, hn, a, d, h => by
  have h1 := Routine.sz_eq x
  have h2 : Routines.sz (x :: r) = 1 + x.sz + Routines.sz r := by simp only [Routines.sz]
  simp only [tRoutines, Bool.and_eq_true] at h
  refine ⟨?_, tRoutines_in n r (by omega) _ d h.2⟩
  obtain ⟨before, trail, name, result, params, vars, inner, body, endd⟩ := x
  have hh := h.1
  simp only [tRoutine, Bool.and_eq_true] at hh
  obtain ⟨⟨⟨⟨⟨⟨⟨⟨⟨⟨_, _⟩, _⟩, q1⟩, _⟩, _⟩, _⟩, q2⟩, q3⟩, q4, _⟩, q5, _⟩ := hh
  exact ⟨hS _ q1, tParams_in hS h0 q2, tVars_in hS h0 q3, tRoutines_in n inner (by simp only at h1; omega) _ _ q4, tStmts_in hS h0 _ body (Nat.le_refl _) _ q5⟩
theorem tPrg_in {p : Prg} (h : tPrg p = true) : inP S p := by
 simp only [tPrg, Bool.and_eq_true] at h
 obtain ⟨⟨⟨⟨⟨⟨⟨⟨⟨q1, _⟩, _⟩, _⟩, _⟩, _⟩, q2⟩, q3⟩, q4, _⟩, q5, _⟩ := h
 refine ⟨hS _ q1, ?_, tVars_in hS h0 q3, tRoutines_in hS h0 _ _ (Nat.le_refl _) _ _ q4, tStmts_in hS h0 _ _ (Nat.le_refl _) _ q5⟩
 intro r hr
 have := List.all_eq_true.1 q2 r hr
 simp only [tRec, Bool.and_eq_true] at this
 obtain ⟨⟨⟨⟨⟨_, _⟩, a⟩, _⟩, _⟩, b⟩ := this
 refine ⟨hS _ a, fun f hf => ?_⟩
 have := List.all_eq_true.1 b f hf
 simp only [tFld, Bool.and_eq_true] at this
 exact hS _ this.1.1.2
end
section
variable {S : ByteArray → Prop}
end
end Pg

set_option linter.all false
set_option maxHeartbeats 4000000
set_option maxRecDepth 4000
namespace Pg
open Go Go.Proofs.Tryz
theorem aslice_str {s : ByteArray} {a b : Nat} (h1 : a ≤ b) (h2 : b ≤ s.size) : aslice true 0 (.str s) (some (.int .i64 (a : Int))) (some (.int .i64 (b : Int))) = some (.str (s.extract a b)) := by
 simp only [aslice, abound]
 rw [if_pos (Int.natCast_nonneg b), if_pos (Int.natCast_nonneg a)]
 simp only [Int.toNat_natCast]
 rw [if_pos ⟨h1, h2⟩]
def ptail (s : ByteArray) : List (Option UInt8) → Nat → Nat → List ByteArray
 | [], _, _ => []
 | none :: r, a, i => s.extract a i :: ptail s r (i + 1) (i + 1)
 | some c :: r, a, i => if c.toNat = 36 then s.extract a i :: ptail s r (i + 1) (i + 1) else ptail s r a (i + 1)
theorem ptail_eq (s : ByteArray) : ∀ (l : List UInt8) (a i : Nat), ptail s (l.map some ++ [none]) a i = partsAt s l a i
 | [], a, i => rfl
 | c :: r, a, i => by
  simp only [List.map_cons, List.cons_append, ptail, partsAt]
  rw [ptail_eq s r, ptail_eq s r]
theorem ptail_len (s : ByteArray) : ∀ (l : List (Option UInt8)) (a i : Nat), (ptail s l a i).length ≤ l.length
 | [], a, i => by simp [ptail]
 | none :: r, a, i => by have := ptail_len s r (i + 1) (i + 1); simp only [ptail, List.length_cons]; omega
 | some c :: r, a, i => by
  simp only [ptail]
  split
  ·have := ptail_len s r (i + 1) (i + 1); simp only [List.length_cons]; omega
  ·have := ptail_len s r a (i + 1); simp only [List.length_cons]; omega
def small (s : ByteArray) : Prop := s.size ≤ 1099511627776
theorem Parts_gl [GI] (h : AHeap) (s : ByteArray) (hs : small s) : ACalls prog 43 [.str s] h (fun v g => GL 9 1 h g v (txt (parts s))) := by
 unfold small at hs
 refine F43.calls (by simp) ?_
 delta F43.c0
 simp only [go_sem,seval]
 have hlen : ((bytes s).map some ++ [none]).length = s.size + 1 := by simp [bytes_len]
 have hpl : (parts s).length ≤ s.size + 1 := by
  have := ptail_len s ((bytes s).map some ++ [none]) 0 0
  rw [ptail_eq] at this; rw [hlen] at this; exact this
 have hfew : few ((bytes s).map some ++ [none]) := by unfold few; rw [hlen]; omega
 refine lT_list ((bytes s).map some ++ [none]) (fun pre post e g => ∃ (a : Nat) (v : AV) (done : List ByteArray), GL 9 1 h g v (txt done) ∧ parts s = done ++ ptail s post a pre.length ∧ a ≤ pre.length ∧ e = [(0, .str s), (3, v), (4, .int .i64 (a : Int)), (5, .int .i64 pre.length)]) (WeakE.env ?_) ⟨0, .sl [] true, [], .nil h, ?_, Nat.le_refl _, rfl⟩ ?_ ?_
 ·simp only [go_sem,seval]
 ·show parts s = [] ++ ptail s ((bytes s).map some ++ [none]) 0 0
  rw [ptail_eq]; rfl
 ·rintro pre x post e g hp ⟨a, v, done, G, hd, ha, rfl⟩
  have hl := (at_pre hp).2
  rw [hlen] at hl
  have hle : ((pre.length : Int) ≤ (s.size : Int)) = True := by simp; omega
  have hdl : done.length ≤ s.size + 1 := by rw [hd, List.length_append] at hpl; omega
  have hst := step_at hfew hp
  have hnx : (pre ++ [x]).length = pre.length + 1 := by simp
  rw [hnx] at hst
  cases x with
  | none =>
   have hpost : post = [] := by
    cases post with
    | nil => rfl
    | cons y r =>
     have hl2 : ((bytes s).map some ++ [none])[pre.length]? = some none := (at_pre hp).1
     rw [List.getElem?_append] at hl2
     split at hl2
     ·simp at hl2
     ·rename_i hge
      have := congrArg List.length hp
      rw [hlen] at this
      simp [bytes_len] at this hge
      omega
   have hi : pre.length = s.size := by
    have := congrArg List.length hp
    rw [hlen, hpost] at this; simp at this; omega
   have heq : ((pre.length : Int) = (s.size : Int)) = True := by simp [hi]
   simp only [go_sem,seval, hle, heq, aslice_str ha (by omega : pre.length ≤ s.size)]
   refine G.txt1 (by omega) (fun v' g' G' => ?_)
   simp only [go_sem,seval]
   refine ⟨_, _, WeakE.env ?_, pre.length + 1, v', done ++ [s.extract a pre.length], G', ?_, by simp, rfl⟩
   ·simp only [go_sem,seval, hst, hnx]
   ·rw [hd, hpost]; simp [ptail]
  | some c =>
   have hc : (bytes s)[pre.length]? = some c := by
    have hl2 : ((bytes s).map some ++ [none])[pre.length]? = some (some c) := (at_pre hp).1
    rw [List.getElem?_append] at hl2
    split at hl2
    ·simpa using hl2
    ·rename_i hge
     have : pre.length - ((bytes s).map some).length = 0 := by simp [bytes_len] at hge ⊢; omega
     rw [this] at hl2; simp at hl2
   have hlt : pre.length < s.size := by
    rw [← bytes_len]
    rcases Nat.lt_or_ge pre.length (bytes s).length with h | h
    ·exact h
    ·rw [List.getElem?_eq_none h] at hc; cases hc
   have heq : ((pre.length : Int) = (s.size : Int)) = False := by simp; omega
   have hsp : bytes s = (bytes s).take pre.length ++ c :: (bytes s).drop (pre.length + 1) := by
    have hb : pre.length < (bytes s).length := by rw [bytes_len]; exact hlt
    have e := List.take_append_drop pre.length (bytes s)
    rw [List.drop_eq_getElem_cons hb] at e
    have : (bytes s)[pre.length] = c := by
     rw [List.getElem?_eq_getElem hb] at hc
     simpa using hc
    rw [this] at e
    exact e.symm
   have hsix := six_at hsp
   rw [List.length_take, bytes_len, Nat.min_eq_left (Nat.le_of_lt hlt)] at hsix
   by_cases h36 : c.toNat = 36
   ·have h36' : ((c.toNat : Int) = 36) = True := by simp; omega
    simp only [go_sem,seval, hle, heq, hsix, h36', aslice_str ha (by omega : pre.length ≤ s.size)]
    refine G.txt1 (by omega) (fun v' g' G' => ?_)
    simp only [go_sem,seval]
    refine ⟨_, _, WeakE.env ?_, pre.length + 1, v', done ++ [s.extract a pre.length], G', ?_, by simp, rfl⟩
    ·simp only [go_sem,seval, hst, hnx]
    ·rw [hd]; simp [ptail, h36]
   ·have h36' : ((c.toNat : Int) = 36) = False := by simp; omega
    simp only [go_sem,seval, hle, heq, hsix, h36']
    refine ⟨_, _, WeakE.env ?_, a, v, done, G, ?_, by simp; omega, rfl⟩
    ·simp only [go_sem,seval, hst, hnx]
    ·rw [hd]; simp [ptail, h36]
 ·rintro e g ⟨a, v, done, G, hd, ha, rfl⟩
  have hle : ((((bytes s).map some ++ [none]).length : Int) ≤ (s.size : Int)) = False := by rw [hlen]; simp; omega
  simp only [go_sem,seval, hle]
  refine lessQ.same ?_
  simp only [go_sem,seval]
  refine .same ?_
  simp only [ptail, List.append_nil] at hd
  rw [hd]; exact G
theorem Parts_spec [GI] (h : AHeap) (s : ByteArray) (hs : small s) : ACalls prog 43 [.str s] h (fun v g => v = .sl (txt (parts s)) false ∧ g = h) :=
 ACalls.weak ((Parts_gl h s hs).mono fun v g G => G.endW ⟨rfl, rfl⟩)
end Pg
namespace Pg
open Go Go.Proofs.Tryz
theorem inEs_mem {S : ByteArray → Prop} : ∀ {l : List Expr}, inEs S l → ∀ x ∈ l, inE S x
 | y :: r, h, x, hx => by
  simp only [inEs] at h
  rcases List.mem_cons.1 hx with rfl | hx
  ·exact h.1
  ·exact inEs_mem h.2 x hx
theorem inSs_mem {S : ByteArray → Prop} : ∀ {l : List Stmt}, inSs S l → ∀ x ∈ l, inS S x
 | y :: r, h, x, hx => by
  simp only [inSs] at h
  rcases List.mem_cons.1 hx with rfl | hx
  ·exact h.1
  ·exact inSs_mem h.2 x hx
theorem inRs_mem {S : ByteArray → Prop} : ∀ {l : List Routine}, inRs S l → ∀ x ∈ l, inR S x
 | y :: r, h, x, hx => by
  simp only [inRs] at h
  rcases List.mem_cons.1 hx with rfl | hx
  ·exact h.1
  ·exact inRs_mem h.2 x hx
end Pg
namespace Pg
open Go Go.Proofs.Tryz
end Pg
