import Derived.Test.YtdfbkddelhbgmaaGreatDoorR12XS2
import Derived.Test.YtdfbkddelhbgmaaGreatDoorCkYS2
namespace Pg
open Go
set_option linter.all false
def thOf (name : ByteArray) : Option Thing → Th
 | none => noTh
 | some (.var t) => thVar name t
 | some (.rcd r) => ⟨name, 1, r, noRoutine, noTyp⟩
 | some (.routine r) => ⟨name, 2, noRec, r, noTyp⟩
def Agr (fs : List Scope) (env : List Th) : Prop := ∀ name, rFind env name = thOf name (findIn fs name)
structure Wfd (fs : List Scope) : Prop where
 var : ∀ name t, findIn fs name = some (.var t) → tTyp t = true
 routine : ∀ name r, findIn fs name = some (.routine r) → (∀ p ∈ r.params, tParam p = true) ∧ 0 ≤ r.result ∧ r.result ≤ 3
def SQ {α : Type} (p q : α × CS) : Prop := p.2 = q.2 ∧ (q.2.bad = 0 → p.1 = q.1)
theorem SQ.refl {α : Type} (p : α × CS) : SQ p p := ⟨rfl, fun _ => rfl⟩
theorem fail_no (s : CS) (e : Int) (h : s.bad ≠ 0) : s.fail e = s := by simp [CS.fail, h]
theorem fail_yes (s : CS) {e : Int} (he : e ≠ 0) : (s.fail e).bad ≠ 0 := fail_ne s he
theorem ckKind_keep {kinds : List Int} {p : Typ × CS} (h : p.2.bad ≠ 0) : (ckKind kinds p).2 = p.2 := by
 unfold ckKind; simp only [fail_no _ _ h, ite_self]
theorem ckExpr_bad' (fs : List Scope) {s : CS} (h : s.bad ≠ 0) (x : Expr) (b : Bool) : ckExpr fs s x b = (noTyp, s) := by
 rw [ckExpr_eq, if_neg h]
theorem ckPair_bad' (fs : List Scope) {s : CS} (h : s.bad ≠ 0) : ∀ (l : List Expr) (k : Int), ckPair fs s l k = s
 | [], k => by simp [ckPair]
 | x :: l, k => by
  simp only [ckPair, ckExpr_bad' fs h]
  rw [ckKind_keep (by exact h)]
  exact ckPair_bad' fs h l k
section
variable {fs : List Scope} {env : List Th}
end
theorem form_sub {n : Nat} {x : Expr} (h : form (n + 1) x = true) : ∀ y ∈ x.l, form n y = true := by
 rw [form_eq] at h
 simp only [Bool.and_eq_true] at h
 exact fun y hy => forms_mem h.2 hy
structure SForm (x : Stmt) : Prop where
 op1 : 1 ≤ x.op
 op9 : x.op ≤ 9
 lo : (if x.op = 6 then 2 else if x.op = 7 then 0 else if x.op = 9 then 0 else 1) ≤ x.e.length
 hi : x.e.length ≤ if x.op = 6 then 2 else if x.op = 7 then 0 else 1
 e : ∀ y ∈ x.e, form 48 y = true
 p : x.op = 1 ∨ x.op = 7 → form 48 x.p = true
theorem tStmt1_form {x : Stmt} (h : tStmt1 x = true) : SForm x := by
 unfold tStmt1 sMarks sCount sPlace at h
 simp only [Bool.and_eq_true, decide_eq_true_eq, List.all_eq_true] at h
 obtain ⟨⟨⟨⟨⟨⟨⟨⟨_, h1⟩, h2⟩, h3, h4⟩, h5⟩, h6⟩, _⟩, _⟩, _⟩ := h
 refine ⟨h1, h2, h3, h4, fun y hy => ?_, fun hh => ?_⟩
 ·have := h5 y hy
  unfold sExpr at this
  simp only [Bool.and_eq_true] at this
  exact tExpr_form this.1
 ·rw [if_pos hh] at h6
  unfold tPlace at h6
  simp only [Bool.and_eq_true] at h6
  exact tExpr_form h6.2
theorem rFind_snoc (env : List Th) (x : Th) (name : ByteArray) (hx : x.kind ≠ 0) (ho : ∀ y ∈ env, y.kind ≠ 0) : rFind (env ++ [x]) name = if (rFind env name).kind ≠ 0 then rFind env name else if x.name = name then x else noTh := by
 unfold rFind
 rw [List.find?_append]
 cases h : env.find? (fun x => decide (x.name = name)) with
 | some y =>
  have := ho y (List.mem_of_find?_eq_some h)
  simp [this]
 | none =>
  simp only [Option.none_or, Option.getD_none]
  by_cases hn : x.name = name <;> simp [hn, noTh]
theorem thOf_kind (name : ByteArray) (x : Option Thing) : (thOf name x).kind ≠ 0 ↔ x.isSome = true := by
 cases x with
 | none => simp [thOf, noTh]
 | some y => cases y <;> simp [thOf, thVar]
structure Both (fs : List Scope) (env : List Th) : Prop where
 agr : Agr fs env
 wfd : Wfd fs
 kinds : ∀ y ∈ env, y.kind ≠ 0
 ne : fs ≠ []
theorem Both.new {fs : List Scope} {env : List Th} (b : Both fs env) (s : CS) (name : ByteArray) : rNew env s name = if (findIn fs name).isSome then s.fail 12 else s := by
 unfold rNew
 rw [b.agr name]
 by_cases h : (findIn fs name).isSome = true
 ·rw [if_pos ((thOf_kind _ _).2 h), if_pos h]
 ·rw [if_neg (fun hh => h ((thOf_kind _ _).1 hh)), if_neg h]
theorem Both.lay {fs : List Scope} {env : List Th} (b : Both fs env) (s : CS) (name : ByteArray) (x : Thing) (y : Th) (hy : y = thOf name (some x)) (hn : y.name = name)
  (hv : ∀ t, x = .var t → tTyp t = true) (hr : ∀ r, x = .routine r → (∀ p ∈ r.params, tParam p = true) ∧ 0 ≤ r.result ∧ r.result ≤ 3) :
  (ckLay fs s name x).2 = rNew env s name ∧ Both (ckLay fs s name x).1 (env ++ [y]) := by
 have hk : y.kind ≠ 0 := by rw [hy]; exact (thOf_kind name (some x)).2 rfl
 have hk' : ∀ z ∈ env ++ [y], z.kind ≠ 0 := fun z hz => by
  rcases List.mem_append.1 hz with hz | hz
  ·exact b.kinds z hz
  ·simp only [List.mem_cons, List.not_mem_nil, or_false] at hz; subst hz; exact hk
 rw [b.new]
 unfold ckLay
 cases hf : findIn fs name with
 | some z =>
  simp only [Option.isSome_some, if_true]
  refine ⟨trivial, fun n => ?_, b.wfd, hk', b.ne⟩
  rw [rFind_snoc env y n hk b.kinds, b.agr n]
  by_cases h : (thOf n (findIn fs n)).kind ≠ 0
  ·rw [if_pos h]
  ·rw [if_neg h]
   have h2 : ¬ y.name = n := by
    rw [hn]; rintro rfl
    apply h; rw [hf]; exact (thOf_kind _ _).2 rfl
   rw [if_neg h2]
   have : findIn fs n = none := by
    cases h3 : findIn fs n with
    | none => rfl
    | some w => exact absurd ((thOf_kind n (some w)).2 rfl) (by rw [← h3]; exact h)
   rw [this]; rfl
 | none =>
  simp only [Option.isSome_none, Bool.false_eq_true, if_false]
  refine ⟨trivial, fun n => ?_, ⟨fun n t h => ?_, fun n r h => ?_⟩, hk', ?_⟩
  ·rw [rFind_snoc env y n hk b.kinds, b.agr n, findIn_setTop name x b.ne]
   by_cases h : n = name
   ·subst h
    rw [if_pos rfl, hf, if_neg (by simp [thOf, noTh]), if_pos hn, hy]
   ·rw [if_neg h]
    by_cases h2 : (thOf n (findIn fs n)).kind ≠ 0
    ·rw [if_pos h2]
    ·rw [if_neg h2, if_neg (by rw [hn]; exact fun hh => h hh.symm)]
     have : findIn fs n = none := by
      cases h3 : findIn fs n with
      | none => rfl
      | some w => exact absurd ((thOf_kind n (some w)).2 rfl) (by rw [← h3]; exact h2)
     rw [this]; rfl
  ·rw [findIn_setTop name x b.ne] at h
   split at h
   ·simp only [Option.some.injEq] at h; exact hv t h
   ·exact b.wfd.var n t h
  ·rw [findIn_setTop name x b.ne] at h
   split at h
   ·simp only [Option.some.injEq] at h; exact hr r h
   ·exact b.wfd.routine n r h
  ·have := b.ne
   cases fs with
   | nil => exact absurd rfl this
   | cons f fs => simp [setTop]
theorem ckTyp_bad (fs : List Scope) {s : CS} (h : s.bad ≠ 0) (t : Typ) : ckTyp fs s t = s := by
 unfold ckTyp
 split
 ·split
  ·rfl
  ·exact fail_no _ _ h
 ·rfl
theorem ckLay_bad (fs : List Scope) {s : CS} (h : s.bad ≠ 0) (name : ByteArray) (x : Thing) : (ckLay fs s name x).2 = s := by
 unfold ckLay
 split
 ·exact fail_no _ _ h
 ·rfl
theorem ckParams_bad {s : CS} (h : s.bad ≠ 0) : ∀ (l : List Param) (fs : List Scope), (ckParams fs s l).2 = s
 | [], fs => rfl
 | v :: l, fs => by
  simp only [ckParams]
  rw [ckLay_bad fs h, ckTyp_bad _ h]
  exact ckParams_bad h l _
theorem ckVars_bad {s : CS} (h : s.bad ≠ 0) (behind : List Routine) (l : List Var) (fs : List Scope) : ckVars fs s l behind = (fs, s) := by
 cases l with
 | nil => rfl
 | cons v l => simp [ckVars, h]
theorem ckStmts_bad {s : CS} (h : s.bad ≠ 0) (fs : List Scope) (res : Int) (l : List Stmt) : ckStmts fs s res l = s := by
 cases l with
 | nil => rfl
 | cons v l => simp [ckStmts, h]
theorem ckRoutines_bad {s : CS} (h : s.bad ≠ 0) (a b : List Scope) (l : List Routine) : ckRoutines a b s l = s := by
 cases l with
 | nil => rfl
 | cons v l => simp [ckRoutines, h]
theorem tRoutines_nodup {d : Int} : ∀ {l : List Routine} {ahead : List ByteArray}, tRoutines ahead l d = true → (l.map (·.name)).Nodup ∧ ∀ r ∈ l, r.name ∉ ahead
 | [], ahead, _ => by simp
 | x :: l, ahead, h => by
  simp only [tRoutines, Bool.and_eq_true] at h
  obtain ⟨i1, i2⟩ := tRoutines_nodup h.2
  have hx := h.1
  rw [tRoutine_eq] at hx
  simp only [Bool.and_eq_true, Bool.not_eq_true'] at hx
  have hna : x.name ∉ ahead := fun hh => by
   have h2 := hx.1.1.1.1.2
   unfold among at h2
   rw [List.any_eq_false] at h2
   exact h2 _ hh (by simp)
  refine ⟨List.nodup_cons.2 ⟨fun hh => ?_, i1⟩, fun r hr => ?_⟩
  ·obtain ⟨y, hy, hyx⟩ := List.mem_map.1 hh
   exact i2 y hy (by rw [hyx]; simp)
  ·rcases List.mem_cons.1 hr with rfl | hr
   ·exact hna
   ·exact fun hh => i2 r hr (by simp [hh])
theorem Both.deeper {fs : List Scope} {env : List Th} (b : Both fs env) : Both ([] :: fs) env := by
 have e : ∀ m, findIn ([] :: fs) m = findIn fs m := fun m => rfl
 exact ⟨fun m => b.agr m, ⟨fun m t h => b.wfd.var m t h, fun m r h => b.wfd.routine m r h⟩, b.kinds, by simp⟩
end Pg
