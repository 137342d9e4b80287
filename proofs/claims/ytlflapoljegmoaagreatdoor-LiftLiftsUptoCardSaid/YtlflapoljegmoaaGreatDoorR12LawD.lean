import Derived.Test.YtlflapoljegmoaaGreatDoorR12XD
import Derived.Test.YtlflapoljegmoaaGreatDoorCkYD
namespace Pg
open Go
set_option linter.all false
def thOf (name : ByteArray) : Option Thing → Th
 | none => noTh
 | some (.var t) => thVar name t
 | some (.rcd r) => ⟨name, 1, r, noRoutine, noTyp⟩
 | some (.routine r) => ⟨name, 2, noRec, r, noTyp⟩
def Agr (fs : List Scope) (env : List Th) : Prop := ∀ name, rFind env name = thOf name (findIn fs name)
structure Wfd (fs : List Scope) : Prop where
 var : ∀ name t, findIn fs name = some (.var t) → tTyp t = true
 routine : ∀ name r, findIn fs name = some (.routine r) → (∀ p ∈ r.params, tParam p = true) ∧ 0 ≤ r.result ∧ r.result ≤ 3
def SQ {α : Type} (p q : α × CS) : Prop := p.2 = q.2 ∧ (q.2.bad = 0 → p.1 = q.1)
theorem SQ.refl {α : Type} (p : α × CS) : SQ p p := ⟨rfl, fun _ => rfl⟩
theorem fail_no (s : CS) (e : Int) (h : s.bad ≠ 0) : s.fail e = s := by simp [CS.fail, h]
theorem fail_yes (s : CS) {e : Int} (he : e ≠ 0) : (s.fail e).bad ≠ 0 := fail_ne s he
theorem kind_one {p q : Typ × CS} (h : SQ p q) {k : Int} (h1 : 1 ≤ k) (h3 : k ≤ 3) : SQ (ckKind [k] p) (rKind k q) := by
 obtain ⟨e, f⟩ := h
 obtain ⟨t, s⟩ := p
 obtain ⟨u, s'⟩ := q
 simp only at e
 subst e
 by_cases hb : s.bad = 0
 ·have := f hb
  simp only at this
  subst this
  have hc : (0 < t.size ∨ ¬ t.kind ∈ [k]) ↔ (0 < t.size ∨ t.kind < 1 ∨ 3 < t.kind ∨ (0 < k ∧ t.kind ≠ k)) := by
   simp only [List.mem_cons, List.not_mem_nil, or_false]; omega
  unfold ckKind rKind SQ
  simp only [hc]
  exact ⟨by first | trivial | rfl, fun _ => trivial⟩
 ·unfold ckKind rKind SQ
  simp only [fail_no s 14 hb, ite_self]
  exact ⟨trivial, fun h => absurd h hb⟩
theorem kind_any {p q : Typ × CS} (h : SQ p q) : SQ (ckKind [1, 2, 3] p) (rKind 0 q) := by
 obtain ⟨e, f⟩ := h
 obtain ⟨t, s⟩ := p
 obtain ⟨u, s'⟩ := q
 simp only at e
 subst e
 by_cases hb : s.bad = 0
 ·have := f hb
  simp only at this
  subst this
  have hc : (0 < t.size ∨ ¬ t.kind ∈ [1, 2, 3]) ↔ (0 < t.size ∨ t.kind < 1 ∨ 3 < t.kind ∨ ((0 : Int) < 0 ∧ t.kind ≠ 0)) := by
   simp only [List.mem_cons, List.not_mem_nil, or_false]; omega
  unfold ckKind rKind SQ
  simp only [hc]
  exact ⟨by first | trivial | rfl, fun _ => trivial⟩
 ·unfold ckKind rKind SQ
  simp only [fail_no s 14 hb, ite_self]
  exact ⟨trivial, fun h => absurd h hb⟩
theorem kind_two {p q : Typ × CS} (h : SQ p q) : SQ (ckKind [1, 3] p) ((rKind 0 q).1, if (rKind 0 q).1 = 2 then (rKind 0 q).2.fail 14 else (rKind 0 q).2) := by
 obtain ⟨e, f⟩ := h
 obtain ⟨t, s⟩ := p
 obtain ⟨u, s'⟩ := q
 simp only at e
 subst e
 by_cases hb : s.bad = 0
 ·have := f hb
  simp only at this
  subst this
  unfold ckKind rKind SQ
  simp only [List.mem_cons, List.not_mem_nil, or_false]
  by_cases h2 : t.kind = 2
  ·simp only [h2, if_true]
   have c1 : (0 < t.size ∨ ¬ ((2 : Int) = 1 ∨ (2 : Int) = 3)) := .inr (by omega)
   rw [if_pos c1]
   by_cases hs : 0 < t.size
   ·rw [if_pos (.inl hs), fail_no _ _ (fail_yes s (by decide))]
    exact ⟨by first | trivial | rfl, fun _ => by first | trivial | rfl⟩
   ·rw [if_neg (by omega)]
    exact ⟨by first | trivial | rfl, fun _ => by first | trivial | rfl⟩
  ·rw [if_neg h2]
   have hc : (0 < t.size ∨ ¬ (t.kind = 1 ∨ t.kind = 3)) ↔ (0 < t.size ∨ t.kind < 1 ∨ 3 < t.kind ∨ ((0 : Int) < 0 ∧ t.kind ≠ 0)) := by omega
   simp only [hc]
   exact ⟨by first | trivial | rfl, fun _ => trivial⟩
 ·unfold ckKind rKind SQ
  simp only [fail_no s 14 hb, ite_self]
  exact ⟨trivial, fun h => absurd h hb⟩
theorem kind_good {kinds : List Int} (hk : ∀ k ∈ kinds, 1 ≤ k ∧ k ≤ 3) {p : Typ × CS} (h : (ckKind kinds p).2.bad = 0) : 1 ≤ (ckKind kinds p).1 ∧ (ckKind kinds p).1 ≤ 3 := by
 unfold ckKind at h ⊢
 simp only at h ⊢
 split at h
 ·exact absurd h (fail_yes _ (by decide))
 ·rename_i hc
  refine hk _ ?_
  rcases Decidable.em (p.1.kind ∈ kinds) with h' | h'
  ·exact h'
  ·exact absurd (.inr h') hc
theorem ckKind_keep {kinds : List Int} {p : Typ × CS} (h : p.2.bad ≠ 0) : (ckKind kinds p).2 = p.2 := by
 unfold ckKind; simp only [fail_no _ _ h, ite_self]
theorem rKind_keep {k : Int} {p : Typ × CS} (h : p.2.bad ≠ 0) : (rKind k p).2 = p.2 := by
 unfold rKind; simp only [fail_no _ _ h, ite_self]
theorem ckExpr_bad' (fs : List Scope) {s : CS} (h : s.bad ≠ 0) (x : Expr) (b : Bool) : ckExpr fs s x b = (noTyp, s) := by
 rw [ckExpr_eq, if_neg h]
theorem rExpr_bad' (env : List Th) {s : CS} (h : s.bad ≠ 0) (x : Expr) (b : Bool) : rExpr env s x b = (noTyp, s) := by
 rw [rExpr_eq, if_neg h]
theorem ckPair_bad' (fs : List Scope) {s : CS} (h : s.bad ≠ 0) : ∀ (l : List Expr) (k : Int), ckPair fs s l k = s
 | [], k => by simp [ckPair]
 | x :: l, k => by
  simp only [ckPair, ckExpr_bad' fs h]
  rw [ckKind_keep (by exact h)]
  exact ckPair_bad' fs h l k
theorem rHead_bad' (env : List Th) {s : CS} (h : s.bad ≠ 0) : ∀ (l : List Expr) (k : Int), rHead env s l k = s
 | [], k => by simp [rHead]
 | x :: l, k => by
  simp only [rHead, rExpr_bad' env h]
  rw [rKind_keep (by exact h)]
section
variable {fs : List Scope} {env : List Th}
theorem variable_same (a : Agr fs env) (s : CS) (name : ByteArray) : SQ (ckVariable fs s name) (rVariable env s name) := by
 have h := a name
 unfold ckVariable rVariable
 rw [h]
 cases hf : findIn fs name with
 | none => simp [thOf, noTh, SQ]
 | some y =>
  cases y with
  | var t => simp [thOf, thVar, SQ]
  | rcd r => simp [thOf, SQ]
  | routine r => simp [thOf, SQ]
theorem field_same (a : Agr fs env) {p q : Typ × CS} (h : SQ p q) (name : ByteArray) : SQ (kindTyp (ckField fs p.2 p.1 name).1, (ckField fs p.2 p.1 name).2) (rField env q.2 q.1 name) := by
 obtain ⟨e, f⟩ := h
 obtain ⟨t, s⟩ := p
 obtain ⟨u, s'⟩ := q
 simp only at e
 subst e
 have keepc : s.bad ≠ 0 → (ckField fs s t name).2 = s := fun hb => by
  unfold ckField
  split
  ·split
   ·split
    ·rfl
    ·exact fail_no _ _ hb
   ·exact fail_no _ _ hb
  ·exact fail_no _ _ hb
 have keepr : s.bad ≠ 0 → (rField env s u name).2 = s := fun hb => by
  unfold rField
  split
  ·split
   ·rfl
   ·exact fail_no _ _ hb
  ·exact fail_no _ _ hb
 by_cases hb : s.bad = 0
 ·have := f hb
  simp only at this
  subst this
  unfold ckField rField
  by_cases hk : t.kind = 4
  ·simp only [hk, if_true]
   have h := a t.name
   rw [h]
   cases hf : findIn fs t.name with
   | none => exact ⟨rfl, fun hh => absurd hh (fail_yes _ (by decide))⟩
   | some y =>
    cases y with
    | var t' => exact ⟨rfl, fun hh => absurd hh (fail_yes _ (by decide))⟩
    | routine r => exact ⟨rfl, fun hh => absurd hh (fail_yes _ (by decide))⟩
    | rcd r =>
     simp only [thOf]
     cases hg : r.fields.find? (fun f => decide (f.name = name)) with
     | none => exact ⟨rfl, fun hh => absurd hh (fail_yes _ (by decide))⟩
     | some g => exact ⟨rfl, fun _ => rfl⟩
  ·simp only [hk, if_false]
   exact ⟨rfl, fun hh => absurd hh (fail_yes _ (by decide))⟩
 ·refine ⟨?_, fun hh => absurd hh ?_⟩
  ·exact (keepc hb).trans (keepr hb).symm
  ·show ¬ (rField env s u name).2.bad = 0
   rw [keepr hb]; exact hb
end
theorem form_sub {n : Nat} {x : Expr} (h : form (n + 1) x = true) : ∀ y ∈ x.l, form n y = true := by
 rw [form_eq] at h
 simp only [Bool.and_eq_true] at h
 exact fun y hy => forms_mem h.2 hy
theorem tTyp_int {t : Typ} (h : tTyp t = true) : t = kindTyp 1 ↔ ¬ (t.kind ≠ 1 ∨ t.size ≠ 0) := by
 obtain ⟨k, s, n⟩ := t
 unfold tTyp at h
 unfold kindTyp
 simp only [Typ.mk.injEq]
 constructor
 ·rintro ⟨rfl, rfl, _⟩; simp
 ·intro hh
  have h1 : k = 1 := by omega
  have h2 : s = 0 := by omega
  subst h1 h2
  simp only [Int.reduceEq, if_false, Bool.and_eq_true, decide_eq_true_eq] at h
  exact ⟨rfl, rfl, h.2⟩
theorem pair_same {fs : List Scope} {env : List Th} {k : Int} (h1 : 1 ≤ k) (h3 : k ≤ 3) : ∀ (l : List Expr), (∀ y ∈ l, ∀ s, SQ (ckExpr fs s y false) (rExpr env s y false)) → ∀ s, ckPair fs s l k = rPair env s l k
 | [], _, s => by simp [ckPair, rPair]
 | x :: l, h, s => by
  simp only [ckPair, rPair]
  rw [(kind_one (h x (by simp) s) h1 h3).1]
  exact pair_same h1 h3 l (fun y hy => h y (by simp [hy])) _
theorem args_same {fs : List Scope} {env : List Th} : ∀ (ps : List Param) (l : List Expr), (∀ y ∈ l, ∀ s, SQ (ckExpr fs s y false) (rExpr env s y false)) → (∀ p ∈ ps, tParam p = true) → ∀ s, ckArgs fs s ps l = rArgs env s ps l
 | [], [], _, _, s => by simp [ckArgs, rArgs]
 | [], _ :: _, _, _, s => by simp [ckArgs, rArgs]
 | _ :: _, [], _, _, s => by simp [ckArgs, rArgs]
 | p :: ps, x :: l, h, hp, s => by
  simp only [ckArgs, rArgs]
  have ih := args_same ps l (fun y hy => h y (by simp [hy])) (fun y hy => hp y (by simp [hy]))
  have hpp := hp p (by simp)
  split
  ·rename_i hb
   split
   ·rename_i hm
    unfold tParam tTyp at hpp
    simp only [hm, Bool.and_eq_true, Bool.not_eq_true', decide_eq_true_eq] at hpp
    have hk : 1 ≤ p.t.kind ∧ p.t.kind ≤ 3 := by
     obtain ⟨⟨⟨⟨_, ht⟩, _⟩, _⟩, hc⟩ := hpp
     split at ht
     ·rename_i h4; simp [h4] at hc
     ·simp only [Bool.and_eq_true, decide_eq_true_eq] at ht
      exact ⟨ht.1.1.1.1, ht.1.1.1.2⟩
    rw [(kind_one (h x (by simp) s) hk.1 hk.2).1]
    exact ih _
   ·have hop : (x.op = 4 ∨ x.op = 5 ∨ x.op = 6) ↔ ¬ (x.op < 4 ∨ 6 < x.op) := by omega
    have e1 : (if x.op = 4 ∨ x.op = 5 ∨ x.op = 6 then s else s.fail 14) = (if x.op < 4 ∨ 6 < x.op then s.fail 14 else s) := by
     by_cases hh : x.op < 4 ∨ 6 < x.op
     ·rw [if_pos hh, if_neg (by omega)]
     ·rw [if_neg hh, if_pos (by omega)]
    rw [e1]
    generalize (if x.op < 4 ∨ 6 < x.op then s.fail 14 else s) = s1
    obtain ⟨g1, g2⟩ := h x (by simp) s1
    rw [g1]
    by_cases hb2 : (rExpr env s1 x false).2.bad = 0
    ·rw [g2 hb2]; exact ih _
    ·simp only [fail_no _ _ hb2, ite_self]
     exact ih _
  ·rfl
theorem expr_same {fs : List Scope} {env : List Th} (a : Agr fs env) (w : Wfd fs) : ∀ (n : Nat) (x : Expr), form n x = true → ∀ (b : Bool) (s : CS), SQ (ckExpr fs s x b) (rExpr env s x b) := by
 intro n
 induction n with
 | zero => intro x h; simp [form] at h
 | succ n ih =>
  intro x hx b s
  have hsub := fun y hy => ih y (form_sub hx y hy) false
  have hx' := hx
  rw [form_eq] at hx'
  simp only [Bool.and_eq_true, decide_eq_true_eq] at hx'
  obtain ⟨⟨⟨⟨h1, h2⟩, h3⟩, h4⟩, h5⟩ := hx'
  have hlen := parts_len h4
  rw [ckExpr_eq, rExpr_eq]
  by_cases hb : s.bad = 0
  ·rw [if_pos hb, if_pos hb]
   by_cases g1 : x.op = 1 ∨ x.op = 2 ∨ x.op = 3
   ·rw [if_pos g1]
    rcases g1 with g | g | g <;> simp [g, SQ]
   rw [if_neg g1, if_neg (by omega), if_neg (by omega), if_neg (by omega)]
   by_cases g4 : x.op = 4
   ·rw [if_pos g4, if_pos g4]
    exact variable_same a s x.name
   rw [if_neg g4, if_neg g4]
   by_cases g5 : x.op = 5
   ·rw [if_pos g5, if_pos g5]
    have hl1 : x.l.length = 1 := by simp [g5] at hlen; omega
    obtain ⟨y, hy⟩ := List.length_eq_one_iff.1 hl1
    obtain ⟨e1, e2⟩ := variable_same a s x.name
    have hp : ∀ s', ckPair fs s' x.l 1 = rHead env s' x.l 1 := fun s' => by
     rw [hy]
     simp only [ckPair, rHead]
     exact (kind_one (hsub y (by rw [hy]; simp) s') (by decide) (by decide)).1
    simp only [hp]
    by_cases hb2 : (rVariable env s x.name).2.bad = 0
    ·rw [e1, e2 hb2]; exact SQ.refl _
    ·rw [e1]
     simp only [fail_no _ _ hb2, ite_self]
     rw [rHead_bad' env hb2]
     exact ⟨rfl, fun hh => absurd hh hb2⟩
   rw [if_neg g5, if_neg g5]
   by_cases g6 : x.op = 6
   ·rw [if_pos g6, if_pos g6]
    exact field_same a (variable_same a s x.name) x.field
   rw [if_neg g6, if_neg g6]
   by_cases g7 : x.op = 7
   ·rw [if_pos g7, if_pos g7]
    have h := a x.name
    cases hf : findIn fs x.name with
    | none =>
     rw [hf] at h
     simp [h, thOf, noTh, SQ]
    | some z =>
     rw [hf] at h
     cases z with
     | var t => simp [h, thOf, thVar, SQ]
     | rcd r => simp [h, thOf, SQ]
     | routine r =>
      have hw := (w.routine _ _ hf).1
      simp only [h, thOf, if_true]
      have ha := args_same r.params x.l hsub hw
      by_cases hst : decide (0 < r.result) = b
      ·rw [if_pos hst, if_pos hst]
       have hbb := fail_yes s (e := 14) (by decide)
       rw [show (if r.params.length = x.l.length then s.fail 14 else (s.fail 14).fail 15) = s.fail 14 by rw [fail_no _ _ hbb, ite_self]]
       exact ⟨ha _, fun _ => rfl⟩
      ·rw [if_neg hst, if_neg hst]
       by_cases hl : r.params.length = x.l.length
       ·rw [if_pos hl, if_pos hl]
        exact ⟨ha _, fun _ => rfl⟩
       ·rw [if_neg hl, if_neg hl]
        have hbb := fail_yes s (e := 15) (by decide)
        rw [rArgs_bad env hbb]
        exact ⟨rfl, fun hh => absurd hh hbb⟩
   rw [if_neg g7, if_neg g7]
   by_cases g9 : x.op = 9 ∨ x.op = 13 ∨ x.op = 14 ∨ x.op = 17 ∨ x.op = 18
   ·rw [if_pos g9, if_pos (by omega)]
    exact ⟨pair_same (by decide) (by decide) x.l hsub s, fun _ => rfl⟩
   rw [if_neg g9, if_neg (by omega)]
   by_cases g19 : 19 ≤ x.op ∧ x.op ≤ 24
   ·rw [if_pos g19]
    have hl2 : x.l.length = 2 := by
     rw [if_neg g7, if_neg (by omega), if_pos (by omega)] at hlen; omega
    obtain ⟨y, z, hyz⟩ : ∃ y z, x.l = [y, z] := by
     match hm : x.l, hl2 with
     | [y, z], _ => exact ⟨y, z, rfl⟩
    have hy := hsub y (by rw [hyz]; simp)
    have hz := hsub z (by rw [hyz]; simp)
    have fin : ∀ (kinds : List Int) (o : Bool), (∀ k ∈ kinds, 1 ≤ k ∧ k ≤ 3) → SQ (ckKind kinds (ckExpr fs s y false)) ((rKind 0 (rExpr env s y false)).1, if o = true ∧ (rKind 0 (rExpr env s y false)).1 = 2 then (rKind 0 (rExpr env s y false)).2.fail 14 else (rKind 0 (rExpr env s y false)).2) → ckTwo fs s kinds x.l = rTwo env s o x.l := by
     intro kinds o hk hh
     rw [hyz]
     simp only [ckTwo, rTwo, rHead, ckPair, List.length_cons, List.length_nil, if_true]
     obtain ⟨e1, e2⟩ := hh
     simp only at e1 e2
     generalize hq : (if o = true ∧ (rKind 0 (rExpr env s y false)).1 = 2 then (rKind 0 (rExpr env s y false)).2.fail 14 else (rKind 0 (rExpr env s y false)).2) = q at e1 e2
     rw [e1]
     by_cases hb2 : q.bad = 0
     ·have hg := kind_good hk (by rw [e1]; exact hb2)
      rw [e2 hb2] at hg ⊢
      exact (kind_one (hz q) hg.1 hg.2).1
     ·rw [ckExpr_bad' fs hb2, rExpr_bad' env hb2, ckKind_keep (by exact hb2), rKind_keep (by exact hb2)]
    by_cases g20 : x.op = 19 ∨ x.op = 20
    ·rw [if_pos g20]
     refine ⟨fin [1, 2, 3] _ (by simp) ?_, fun _ => rfl⟩
     rw [if_neg (by simp; omega)]
     exact kind_any (hy s)
    ·rw [if_neg g20, if_pos (by omega)]
     refine ⟨fin [1, 3] _ (by simp) ?_, fun _ => rfl⟩
     have : decide (20 < x.op) = true := by simp; omega
     simp only [this, true_and]
     exact kind_two (hy s)
   rw [if_neg g19, if_neg (by omega), if_neg (by omega)]
   exact ⟨pair_same (by decide) (by decide) x.l hsub s, fun _ => rfl⟩
  ·rw [if_neg hb, if_neg hb]
   exact SQ.refl _
structure SForm (x : Stmt) : Prop where
 op1 : 1 ≤ x.op
 op9 : x.op ≤ 9
 lo : (if x.op = 6 then 2 else if x.op = 7 then 0 else if x.op = 9 then 0 else 1) ≤ x.e.length
 hi : x.e.length ≤ if x.op = 6 then 2 else if x.op = 7 then 0 else 1
 e : ∀ y ∈ x.e, form 48 y = true
 p : x.op = 1 ∨ x.op = 7 → form 48 x.p = true
theorem tStmt1_form {x : Stmt} (h : tStmt1 x = true) : SForm x := by
 unfold tStmt1 sMarks sCount sPlace at h
 simp only [Bool.and_eq_true, decide_eq_true_eq, List.all_eq_true] at h
 obtain ⟨⟨⟨⟨⟨⟨⟨⟨_, h1⟩, h2⟩, h3, h4⟩, h5⟩, h6⟩, _⟩, _⟩, _⟩ := h
 refine ⟨h1, h2, h3, h4, fun y hy => ?_, fun hh => ?_⟩
 ·have := h5 y hy
  unfold sExpr at this
  simp only [Bool.and_eq_true] at this
  exact tExpr_form this.1
 ·rw [if_pos hh] at h6
  unfold tPlace at h6
  simp only [Bool.and_eq_true] at h6
  exact tExpr_form h6.2
theorem ckStmt_same {fs : List Scope} {env : List Th} (a : Agr fs env) (w : Wfd fs) {x : Stmt} (hx : SForm x) {res : Int} (r0 : 0 ≤ res) (r3 : res ≤ 3) (s : CS) : ckStmt fs s res x = rStmt env s res x := by
 have he := fun y hy => expr_same a w 48 y (hx.e y hy)
 have lo := hx.lo
 have hi := hx.hi
 have h1 := hx.op1
 have h9 := hx.op9
 have one : x.op ≠ 6 → x.op ≠ 7 → x.op ≠ 9 → ∃ a, x.e = [a] := fun h6 h7 h9 => by
  rw [if_neg h6, if_neg h7, if_neg h9] at lo
  rw [if_neg h6, if_neg h7] at hi
  exact List.length_eq_one_iff.1 (by omega)
 have head : ∀ (y : Expr), y ∈ x.e → ∀ (k : Int), 1 ≤ k → k ≤ 3 → ∀ s', (ckKind [k] (ckExpr fs s' y false)).2 = (rKind k (rExpr env s' y false)).2 := fun y hy k k1 k3 s' => (kind_one (he y hy false s') k1 k3).1
 unfold ckStmt rStmt
 by_cases g1 : x.op = 1
 ·rw [if_pos g1, if_pos g1]
  obtain ⟨y, hy⟩ := one (by omega) (by omega) (by omega)
  obtain ⟨e1, e2⟩ := kind_any (expr_same a w 48 x.p (hx.p (.inl g1)) false s)
  simp only [hy, ckPair, rHead]
  generalize rKind 0 (rExpr env s x.p false) = q at e1 e2 ⊢
  rw [e1]
  by_cases hb : q.2.bad = 0
  ·have hg := kind_good (kinds := [1, 2, 3]) (by simp) (by rw [e1]; exact hb)
   rw [e2 hb] at hg ⊢
   exact head y (by simp [hy]) _ hg.1 hg.2 _
  ·rw [ckExpr_bad' fs hb, rExpr_bad' env hb, ckKind_keep (p := (noTyp, q.2)) hb, rKind_keep (p := (noTyp, q.2)) hb]
 rw [if_neg g1, if_neg g1]
 by_cases g2 : x.op = 2
 ·rw [if_pos g2, if_pos g2]
  obtain ⟨y, hy⟩ := one (by omega) (by omega) (by omega)
  simp only [hy, ckEach, rCall]
  exact (he y (by simp [hy]) true s).1
 rw [if_neg g2, if_neg g2]
 by_cases g3 : x.op = 3 ∨ x.op = 4 ∨ x.op = 5
 ·rw [if_pos g3, if_pos g3]
  obtain ⟨y, hy⟩ := one (by omega) (by omega) (by omega)
  simp only [hy, ckPair, rHead]
  exact head y (by simp [hy]) 2 (by decide) (by decide) s
 rw [if_neg g3, if_neg g3]
 by_cases g6 : x.op = 6
 ·rw [if_pos g6, if_pos g6]
  rw [if_pos g6] at lo hi
  obtain ⟨y, z, hyz⟩ : ∃ y z, x.e = [y, z] := by
   have hl2 : x.e.length = 2 := by omega
   match hm : x.e, hl2 with
   | [y, z], _ => exact ⟨y, z, rfl⟩
  have hh : (if (ckVariable fs s x.name).1 = kindTyp 1 then (ckVariable fs s x.name).2 else (ckVariable fs s x.name).2.fail 14) = (if (rVariable env s x.name).1.kind ≠ 1 ∨ (rVariable env s x.name).1.size ≠ 0 then (rVariable env s x.name).2.fail 14 else (rVariable env s x.name).2) := by
   have h := a x.name
   unfold ckVariable rVariable
   rw [h]
   have nk : (noTyp = kindTyp 1) = False := by simp [noTyp, kindTyp]
   have bad : ∀ e : Int, (s.fail 13).fail e = s.fail 13 := fun e => fail_no _ _ (fail_yes s (by decide))
   cases hf : findIn fs x.name with
   | none => simp [thOf, noTh, bad]
   | some u =>
    cases u with
    | rcd r => simp [thOf, bad]
    | routine r => simp [thOf, bad]
    | var t =>
     have ht := tTyp_int (w.var _ _ hf)
     simp only [thOf, thVar, if_true]
     by_cases hc : t = kindTyp 1
     ·rw [if_pos hc, if_neg (ht.1 hc)]
     ·rw [if_neg hc, if_pos (Decidable.byContradiction fun hh => hc (ht.2 hh))]
  simp only [hyz, ckPair, rHead, List.tail_cons]
  rw [hh, head y (by simp [hyz]) 1 (by decide) (by decide), head z (by simp [hyz]) 1 (by decide) (by decide)]
 rw [if_neg g6, if_neg g6]
 by_cases g7 : x.op = 7
 ·rw [if_pos g7, if_pos g7]
  exact (kind_two (expr_same a w 48 x.p (hx.p (.inr g7)) false s)).1
 rw [if_neg g7, if_neg g7]
 by_cases g8 : x.op = 8
 ·rw [if_pos g8, if_pos g8]
  obtain ⟨y, hy⟩ := one (by omega) (by omega) (by omega)
  simp only [hy, ckAnys, ckAny, rHead]
  exact (kind_any (he y (by simp [hy]) false s)).1
 rw [if_neg g8, if_neg g8]
 have g9 : x.op = 9 := by omega
 rw [if_pos g9, if_pos g9]
 have hee : x.e = [] ∨ ∃ a, x.e = [a] := by
  have hh : x.e.length ≤ 1 := by rw [if_neg (by omega), if_neg (by omega)] at hi; exact hi
  match hm : x.e, hh with
  | [], _ => exact .inl rfl
  | [a], _ => exact .inr ⟨a, rfl⟩
 unfold ckResult
 rcases hee with hy | ⟨y, hy⟩
 ·simp only [hy, ckPair, rHead, ite_self]
 ·simp only [hy, ckPair, rHead]
  by_cases hr : 0 < res
  ·rw [if_pos hr]
   simp only [hr, List.length_cons, List.length_nil, decide_true]
   exact head y (by simp [hy]) res (by omega) r3 _
  ·rw [if_neg hr]
   have hbb := fail_yes s (e := 16) (by decide)
   simp only [hr, List.length_cons, List.length_nil, decide_false, Nat.zero_add, Nat.lt_add_one, decide_true, Bool.false_eq_true, if_false]
   rw [rExpr_bad' env hbb, rKind_keep (by exact hbb)]
theorem stmts_same {fs : List Scope} {env : List Th} (a : Agr fs env) (w : Wfd fs) {res : Int} (r0 : 0 ≤ res) (r3 : res ≤ 3) : ∀ (n : Nat) (l : List Stmt) (d : Int), Stmts.sz l ≤ n → tStmts l d = true → ∀ s, ckStmts fs s res l = rStmts env s res l
 | n, [], d, _, _, s => by simp [ckStmts, rStmts]
 | 0, x :: l, d, hn, _, s => by simp [Stmts.sz] at hn
 | n + 1, x :: l, d, hn, ht, s => by
  have hz := Stmt.sz_eq x
  simp only [Stmts.sz] at hn
  simp only [tStmts, Bool.and_eq_true] at ht
  have ht1 := ht.1
  rw [tStmt_eq] at ht1
  simp only [Bool.and_eq_true, decide_eq_true_eq] at ht1
  obtain ⟨⟨⟨hd, hso⟩, htb, hlb⟩, hte, hle⟩ := ht1
  simp only [ckStmts, rStmts]
  rw [ckDeep_eq, rDeep_eq, ckStmt_same a w (tStmt1_form hso) r0 r3, stmts_same a w r0 r3 n x.body (d + 1) (by omega) htb, stmts_same a w r0 r3 n x.els (d + 1) (by omega) hte, stmts_same a w r0 r3 n l d (by omega) ht.2]
theorem rFind_snoc (env : List Th) (x : Th) (name : ByteArray) (hx : x.kind ≠ 0) (ho : ∀ y ∈ env, y.kind ≠ 0) : rFind (env ++ [x]) name = if (rFind env name).kind ≠ 0 then rFind env name else if x.name = name then x else noTh := by
 unfold rFind
 rw [List.find?_append]
 cases h : env.find? (fun x => decide (x.name = name)) with
 | some y =>
  have := ho y (List.mem_of_find?_eq_some h)
  simp [this]
 | none =>
  simp only [Option.none_or, Option.getD_none]
  by_cases hn : x.name = name <;> simp [hn, noTh]
theorem rFind_append (env : List Th) (l : List Th) (name : ByteArray) (ho : ∀ y ∈ env, y.kind ≠ 0) : rFind (env ++ l) name = if (rFind env name).kind ≠ 0 then rFind env name else rFind l name := by
 unfold rFind
 rw [List.find?_append]
 cases h : env.find? (fun x => decide (x.name = name)) with
 | some y =>
  have := ho y (List.mem_of_find?_eq_some h)
  simp [this]
 | none => simp [noTh]
theorem thOf_kind (name : ByteArray) (x : Option Thing) : (thOf name x).kind ≠ 0 ↔ x.isSome = true := by
 cases x with
 | none => simp [thOf, noTh]
 | some y => cases y <;> simp [thOf, thVar]
structure Both (fs : List Scope) (env : List Th) : Prop where
 agr : Agr fs env
 wfd : Wfd fs
 kinds : ∀ y ∈ env, y.kind ≠ 0
 ne : fs ≠ []
theorem Both.new {fs : List Scope} {env : List Th} (b : Both fs env) (s : CS) (name : ByteArray) : rNew env s name = if (findIn fs name).isSome then s.fail 12 else s := by
 unfold rNew
 rw [b.agr name]
 by_cases h : (findIn fs name).isSome = true
 ·rw [if_pos ((thOf_kind _ _).2 h), if_pos h]
 ·rw [if_neg (fun hh => h ((thOf_kind _ _).1 hh)), if_neg h]
theorem Both.lay {fs : List Scope} {env : List Th} (b : Both fs env) (s : CS) (name : ByteArray) (x : Thing) (y : Th) (hy : y = thOf name (some x)) (hn : y.name = name)
  (hv : ∀ t, x = .var t → tTyp t = true) (hr : ∀ r, x = .routine r → (∀ p ∈ r.params, tParam p = true) ∧ 0 ≤ r.result ∧ r.result ≤ 3) :
  (ckLay fs s name x).2 = rNew env s name ∧ Both (ckLay fs s name x).1 (env ++ [y]) := by
 have hk : y.kind ≠ 0 := by rw [hy]; exact (thOf_kind name (some x)).2 rfl
 have hk' : ∀ z ∈ env ++ [y], z.kind ≠ 0 := fun z hz => by
  rcases List.mem_append.1 hz with hz | hz
  ·exact b.kinds z hz
  ·simp only [List.mem_cons, List.not_mem_nil, or_false] at hz; subst hz; exact hk
 rw [b.new]
 unfold ckLay
 cases hf : findIn fs name with
 | some z =>
  simp only [Option.isSome_some, if_true]
  refine ⟨trivial, fun n => ?_, b.wfd, hk', b.ne⟩
  rw [rFind_snoc env y n hk b.kinds, b.agr n]
  by_cases h : (thOf n (findIn fs n)).kind ≠ 0
  ·rw [if_pos h]
  ·rw [if_neg h]
   have h2 : ¬ y.name = n := by
    rw [hn]; rintro rfl
    apply h; rw [hf]; exact (thOf_kind _ _).2 rfl
   rw [if_neg h2]
   have : findIn fs n = none := by
    cases h3 : findIn fs n with
    | none => rfl
    | some w => exact absurd ((thOf_kind n (some w)).2 rfl) (by rw [← h3]; exact h)
   rw [this]; rfl
 | none =>
  simp only [Option.isSome_none, Bool.false_eq_true, if_false]
  refine ⟨trivial, fun n => ?_, ⟨fun n t h => ?_, fun n r h => ?_⟩, hk', ?_⟩
  ·rw [rFind_snoc env y n hk b.kinds, b.agr n, findIn_setTop name x b.ne]
   by_cases h : n = name
   ·subst h
    rw [if_pos rfl, hf, if_neg (by simp [thOf, noTh]), if_pos hn, hy]
   ·rw [if_neg h]
    by_cases h2 : (thOf n (findIn fs n)).kind ≠ 0
    ·rw [if_pos h2]
    ·rw [if_neg h2, if_neg (by rw [hn]; exact fun hh => h hh.symm)]
     have : findIn fs n = none := by
      cases h3 : findIn fs n with
      | none => rfl
      | some w => exact absurd ((thOf_kind n (some w)).2 rfl) (by rw [← h3]; exact h2)
     rw [this]; rfl
  ·rw [findIn_setTop name x b.ne] at h
   split at h
   ·simp only [Option.some.injEq] at h; exact hv t h
   ·exact b.wfd.var n t h
  ·rw [findIn_setTop name x b.ne] at h
   split at h
   ·simp only [Option.some.injEq] at h; exact hr r h
   ·exact b.wfd.routine n r h
  ·have := b.ne
   cases fs with
   | nil => exact absurd rfl this
   | cons f fs => simp [setTop]
theorem Both.typ {fs : List Scope} {env : List Th} (b : Both fs env) (s : CS) (name : ByteArray) (t t' : Typ) : ckTyp (ckLay fs s name (.var t)).1 (rNew env s name) t' = rTyp env (rNew env s name) t' := by
 rw [b.new]
 unfold ckTyp rTyp ckLay
 by_cases h4 : t'.kind = 4
 ·rw [if_pos h4]
  simp only [h4, true_and]
  rw [b.agr t'.name]
  cases hf : findIn fs name with
  | some z =>
   simp only [Option.isSome_some, if_true]
   cases hg : findIn fs t'.name with
   | none => simp [thOf, noTh]
   | some u => cases u <;> simp [thOf, thVar]
  | none =>
   simp only [Option.isSome_none, Bool.false_eq_true, if_false]
   rw [findIn_setTop name (.var t) b.ne]
   by_cases h : t'.name = name
   ·rw [if_pos h, h, hf]
    simp [thOf, noTh]
   ·rw [if_neg h]
    cases hg : findIn fs t'.name with
    | none => simp [thOf, noTh]
    | some u => cases u <;> simp [thOf, thVar]
 ·simp only [h4, false_and, if_false]
theorem vars_same (behind : List Routine) : ∀ (l : List Var) {fs : List Scope} {env : List Th}, Both fs env → (∀ v ∈ l, tVar v = true) → ∀ s, (ckVars fs s l behind).2 = (rVars env s l behind).2 ∧ Both (ckVars fs s l behind).1 (rVars env s l behind).1
 | [], fs, env, b, _, s => ⟨rfl, b⟩
 | v :: r, fs, env, b, hv, s => by
  simp only [ckVars, rVars]
  split
  ·have hvt : tTyp v.t = true := by
    have := hv v (by simp)
    unfold tVar at this
    simp only [Bool.and_eq_true] at this
    exact this.2
   generalize hs1 : (if (behind.any fun x => decide (x.name = v.name)) = true then s.step.fail 12 else s.step) = s1
   have hs2 : (if (behind.any fun x => decide (x.name = v.name)) = true then (rNew env s.step v.name).fail 12 else rNew env s.step v.name) = rNew env s1 v.name := by
    rw [← hs1]
    unfold rNew
    by_cases h1 : (behind.any fun x => decide (x.name = v.name)) = true
    ·rw [if_pos h1, if_pos h1]
     split
     ·rfl
     ·rfl
    ·rw [if_neg h1, if_neg h1]
   obtain ⟨e, b'⟩ := b.lay s1 v.name (.var v.t) (thVar v.name v.t) rfl rfl (fun t ht => by cases ht; exact hvt) (fun r hr => by cases hr)
   rw [hs2, e, b.typ]
   exact vars_same behind r b' (fun x hx => hv x (by simp [hx])) _
  ·exact ⟨rfl, b⟩
theorem params_same : ∀ (l : List Param) {fs : List Scope} {env : List Th}, Both fs env → (∀ v ∈ l, tParam v = true) → ∀ s, (ckParams fs s l).2 = (rParams env s l).2 ∧ Both (ckParams fs s l).1 (rParams env s l).1
 | [], fs, env, b, _, s => ⟨rfl, b⟩
 | v :: r, fs, env, b, hv, s => by
  simp only [ckParams, rParams]
  have hvt : tTyp v.t = true := by
   have := hv v (by simp)
   unfold tParam at this
   simp only [Bool.and_eq_true] at this
   exact this.1.1.1.2
  obtain ⟨e, b'⟩ := b.lay s v.name (.var v.t) (thVar v.name v.t) rfl rfl (fun t ht => by cases ht; exact hvt) (fun r hr => by cases hr)
  rw [e, b.typ]
  exact params_same r b' (fun x hx => hv x (by simp [hx])) _
theorem recs_same : ∀ (l : List Rec) {fs : List Scope} {env : List Th}, Both fs env → ∀ s, (ckRecs fs s l).2 = (rRecs env s l).2 ∧ Both (ckRecs fs s l).1 (rRecs env s l).1
 | [], fs, env, b, s => ⟨rfl, b⟩
 | v :: r, fs, env, b, s => by
  simp only [ckRecs, rRecs]
  split
  ·obtain ⟨e, b'⟩ := b.lay s.step v.name (.rcd v) (thRec v) rfl rfl (fun t ht => by cases ht) (fun r hr => by cases hr)
   rw [e]
   exact recs_same r b' _
  ·exact ⟨rfl, b⟩
theorem ckTyp_bad (fs : List Scope) {s : CS} (h : s.bad ≠ 0) (t : Typ) : ckTyp fs s t = s := by
 unfold ckTyp
 split
 ·split
  ·rfl
  ·exact fail_no _ _ h
 ·rfl
theorem ckLay_bad (fs : List Scope) {s : CS} (h : s.bad ≠ 0) (name : ByteArray) (x : Thing) : (ckLay fs s name x).2 = s := by
 unfold ckLay
 split
 ·exact fail_no _ _ h
 ·rfl
theorem ckParams_bad {s : CS} (h : s.bad ≠ 0) : ∀ (l : List Param) (fs : List Scope), (ckParams fs s l).2 = s
 | [], fs => rfl
 | v :: l, fs => by
  simp only [ckParams]
  rw [ckLay_bad fs h, ckTyp_bad _ h]
  exact ckParams_bad h l _
theorem ckVars_bad {s : CS} (h : s.bad ≠ 0) (behind : List Routine) (l : List Var) (fs : List Scope) : ckVars fs s l behind = (fs, s) := by
 cases l with
 | nil => rfl
 | cons v l => simp [ckVars, h]
theorem ckStmts_bad {s : CS} (h : s.bad ≠ 0) (fs : List Scope) (res : Int) (l : List Stmt) : ckStmts fs s res l = s := by
 cases l with
 | nil => rfl
 | cons v l => simp [ckStmts, h]
theorem ckRoutines_bad {s : CS} (h : s.bad ≠ 0) (a b : List Scope) (l : List Routine) : ckRoutines a b s l = s := by
 cases l with
 | nil => rfl
 | cons v l => simp [ckRoutines, h]
theorem ckRoutine_bad {s : CS} (h : s.bad ≠ 0) (all : List Scope) (r : Routine) : ckRoutine all s r = s := by
 rw [ckRoutine_eq]
 simp only [ckParams_bad h, fail_no _ _ h, ite_self, ckVars_bad h, ckRoutines_bad h, ckStmts_bad h]
theorem rTyp_bad (env : List Th) {s : CS} (h : s.bad ≠ 0) (t : Typ) : rTyp env s t = s := by
 unfold rTyp
 split
 ·exact fail_no _ _ h
 ·rfl
theorem rNew_bad (env : List Th) {s : CS} (h : s.bad ≠ 0) (name : ByteArray) : rNew env s name = s := by
 unfold rNew
 split
 ·exact fail_no _ _ h
 ·rfl
theorem rParams_bad {s : CS} (h : s.bad ≠ 0) : ∀ (l : List Param) (env : List Th), (rParams env s l).2 = s
 | [], env => rfl
 | v :: l, env => by
  simp only [rParams]
  rw [rNew_bad env h, rTyp_bad env h]
  exact rParams_bad h l _
theorem rVars_bad {s : CS} (h : s.bad ≠ 0) (behind : List Routine) (l : List Var) (env : List Th) : rVars env s l behind = (env, s) := by
 cases l with
 | nil => rfl
 | cons v l => simp [rVars, h]
def Eqv (a b : CS) : Prop := a = b ∨ (a.bad ≠ 0 ∧ b.bad ≠ 0)
theorem tRoutines_nodup {d : Int} : ∀ {l : List Routine} {ahead : List ByteArray}, tRoutines ahead l d = true → (l.map (·.name)).Nodup ∧ ∀ r ∈ l, r.name ∉ ahead
 | [], ahead, _ => by simp
 | x :: l, ahead, h => by
  simp only [tRoutines, Bool.and_eq_true] at h
  obtain ⟨i1, i2⟩ := tRoutines_nodup h.2
  have hx := h.1
  rw [tRoutine_eq] at hx
  simp only [Bool.and_eq_true, Bool.not_eq_true'] at hx
  have hna : x.name ∉ ahead := fun hh => by
   have h2 := hx.1.1.1.1.2
   unfold among at h2
   rw [List.any_eq_false] at h2
   exact h2 _ hh (by simp)
  refine ⟨List.nodup_cons.2 ⟨fun hh => ?_, i1⟩, fun r hr => ?_⟩
  ·obtain ⟨y, hy, hyx⟩ := List.mem_map.1 hh
   exact i2 y hy (by rw [hyx]; simp)
  ·rcases List.mem_cons.1 hr with rfl | hr
   ·exact hna
   ·exact fun hh => i2 r hr (by simp [hh])
theorem look_allOf (m : ByteArray) : ∀ (l : List Routine) (f : Scope), (l.map (·.name)).Nodup → look (allOf f l) m = match l.find? (fun r => decide (r.name = m)) with | some r => some (.routine r) | none => look f m
 | [], f, _ => rfl
 | r :: l, f, nd => by
  simp only [List.map_cons, List.nodup_cons] at nd
  simp only [allOf]
  rw [look_allOf m l _ nd.2, List.find?_cons]
  by_cases h : r.name = m
  ·simp only [h, decide_true]
   have : l.find? (fun r => decide (r.name = m)) = none := by
    rw [List.find?_eq_none]
    intro y hy hh
    simp only [decide_eq_true_eq] at hh
    exact nd.1 (List.mem_map.2 ⟨y, hy, by rw [hh, h]⟩)
   rw [this, look_setIn]
   simp
  ·simp only [h, decide_false]
   cases hl : l.find? (fun r => decide (r.name = m)) with
   | some y => rfl
   | none =>
    simp only
    rw [look_setIn, if_neg (fun hh => h hh.symm)]
theorem rFind_routines (m : ByteArray) : ∀ (l : List Routine), rFind (l.map thRoutine) m = match l.find? (fun r => decide (r.name = m)) with | some r => thRoutine r | none => noTh
 | [] => rfl
 | r :: l => by
  have ih := rFind_routines m l
  unfold rFind at ih ⊢
  simp only [List.map_cons, List.find?_cons]
  by_cases h : r.name = m
  ·have : (thRoutine r).name = m := h
   simp [h, this]
  ·have : ¬ (thRoutine r).name = m := h
   simp only [h, this, decide_false]
   exact ih
theorem Both.visible {fs : List Scope} {env : List Th} (b : Both fs env) {l : List Routine} {d : Int} {ahead : List ByteArray} (ht : tRoutines ahead l d = true) (hn : ∀ r ∈ l, findIn fs r.name = none) : Both (allOf [] l :: fs) (rVis env l) := by
 have nd := (tRoutines_nodup ht).1
 have hf : ∀ m, findIn (allOf [] l :: fs) m = match l.find? (fun r => decide (r.name = m)) with | some r => some (.routine r) | none => findIn fs m := fun m => by
  simp only [findIn]
  rw [look_allOf m l [] nd]
  cases l.find? (fun r => decide (r.name = m)) <;> rfl
 refine ⟨fun m => ?_, ⟨fun m t h => ?_, fun m r h => ?_⟩, fun y hy => ?_, by simp⟩
 ·rw [hf]
  unfold rVis
  rw [rFind_append env _ m b.kinds, rFind_routines, b.agr m]
  cases hl : l.find? (fun r => decide (r.name = m)) with
  | some r =>
   have hr := List.mem_of_find?_eq_some hl
   have hrm := List.find?_some hl
   simp only [decide_eq_true_eq] at hrm
   have := hn r hr
   rw [hrm] at this
   rw [this, if_neg (by simp [thOf, noTh])]
   subst hrm
   rfl
  | none =>
   simp only
   split
   ·rfl
   ·rename_i hk
    have : findIn fs m = none := by
     cases h3 : findIn fs m with
     | none => rfl
     | some w => exact absurd ((thOf_kind m (some w)).2 rfl) (by rw [← h3]; exact hk)
    rw [this]; rfl
 ·rw [hf] at h
  cases hl : l.find? (fun r => decide (r.name = m)) with
  | some r => rw [hl] at h; simp at h
  | none => rw [hl] at h; exact b.wfd.var m t h
 ·rw [hf] at h
  cases hl : l.find? (fun r => decide (r.name = m)) with
  | none => rw [hl] at h; exact b.wfd.routine m r h
  | some r' =>
   rw [hl] at h
   simp only [Option.some.injEq, Thing.routine.injEq] at h
   subst h
   obtain ⟨a, ha⟩ := tRoutines_mem ht (List.mem_of_find?_eq_some hl)
   rw [tRoutine_eq] at ha
   unfold tParams at ha
   simp only [Bool.and_eq_true, decide_eq_true_eq, List.all_eq_true] at ha
   exact ⟨ha.1.1.1.2.1, ha.1.1.1.1.1.1.2, ha.1.1.1.1.1.2⟩
 ·rcases List.mem_append.1 hy with hy | hy
  ·exact b.kinds y hy
  ·obtain ⟨x, _, rfl⟩ := List.mem_map.1 hy; simp [thRoutine]
theorem clash_ck {fs : List Scope} (all : List Scope) : ∀ (l : List Routine) (s : CS), (∃ r ∈ l, findIn fs r.name ≠ none) → (ckRoutines fs all s l).bad ≠ 0
 | [], s, ⟨r, hr, _⟩ => by simp at hr
 | x :: l, s, ⟨r, hr, hc⟩ => by
  by_cases hb : s.bad = 0
  ·simp only [ckRoutines, hb, if_true]
   by_cases hx : (findIn fs x.name).isSome = true
   ·rw [if_pos hx]
    have hbb := fail_yes s.step (e := 12) (by decide)
    rw [ckRoutine_bad hbb, ckRoutines_bad hbb]
    exact hbb
   ·refine clash_ck all l _ ⟨r, ?_, hc⟩
    rcases List.mem_cons.1 hr with rfl | hr
    ·exact absurd (Option.isSome_iff_ne_none.2 hc) hx
    ·exact hr
  ·rw [ckRoutines_bad hb]; exact hb
theorem clash_r {fs : List Scope} {env : List Th} (b : Both fs env) (all : List Th) : ∀ (l : List Routine) (s : CS), (∃ r ∈ l, findIn fs r.name ≠ none) → (rRoutines env all s l).bad ≠ 0
 | [], s, ⟨r, hr, _⟩ => by simp at hr
 | x :: l, s, ⟨r, hr, hc⟩ => by
  by_cases hb : s.bad = 0
  ·simp only [rRoutines, hb, if_true]
   by_cases hx : (findIn fs x.name).isSome = true
   ·have hbb := fail_yes s.step (e := 12) (by decide)
    have hr' : rRoutine env all s.step x = s.step.fail 12 := by
     rw [rRoutine_eq, b.new, if_pos hx]
     simp only [rParams_bad hbb, fail_no _ _ hbb, ite_self, rVars_bad hbb, rRoutines_bad _ _ hbb, rStmts_bad _ hbb]
    rw [hr', rRoutines_bad _ _ hbb]
    exact hbb
   ·refine clash_r b all l _ ⟨r, ?_, hc⟩
    rcases List.mem_cons.1 hr with rfl | hr
    ·exact absurd (Option.isSome_iff_ne_none.2 hc) hx
    ·exact hr
  ·rw [rRoutines_bad _ _ hb]; exact hb
theorem Both.deeper {fs : List Scope} {env : List Th} (b : Both fs env) : Both ([] :: fs) env := by
 have e : ∀ m, findIn ([] :: fs) m = findIn fs m := fun m => rfl
 exact ⟨fun m => b.agr m, ⟨fun m t h => b.wfd.var m t h, fun m r h => b.wfd.routine m r h⟩, b.kinds, by simp⟩
theorem routines_same : ∀ (n : Nat) (l : List Routine) (d : Int) (ahead : List ByteArray), Routines.sz l < n → tRoutines ahead l d = true → ∀ {fs : List Scope} {env : List Th}, Both fs env → ∀ s, Eqv (ckRoutines fs (allOf [] l :: fs) s l) (rRoutines env (rVis env l) s l)
 | 0, l, d, ahead, hn, _, _, _, _, _ => by omega
 | n + 1, l, d, ahead, hn, ht, fs, env, b, s => by
  by_cases hc : ∃ r ∈ l, findIn fs r.name ≠ none
  ·exact .inr ⟨clash_ck _ l s hc, clash_r b _ l s hc⟩
  ·have hc' : ∀ r ∈ l, findIn fs r.name = none := fun r hr => Decidable.byContradiction fun hh => hc ⟨r, hr, hh⟩
   have bv := b.visible ht hc'
   have one : ∀ r ∈ l, ∀ s, Eqv (ckRoutine (allOf [] l :: fs) s r) (rRoutine env (rVis env l) s r) := by
    intro r hr s
    have hz := Routine.sz_eq r
    have hrz := Routines.sz_mem hr
    obtain ⟨a, hrt⟩ := tRoutines_mem ht hr
    have hro := tRoutine_ok hrt
    rw [tRoutine_eq] at hrt
    unfold tParams tVars at hrt
    simp only [Bool.and_eq_true, decide_eq_true_eq, List.all_eq_true] at hrt
    obtain ⟨⟨⟨⟨⟨⟨⟨⟨⟨⟨_, _⟩, _⟩, _⟩, hr0⟩, hr3⟩, _⟩, hp, _⟩, hv, _⟩, _⟩, _⟩ := hrt
    have hnew : rNew env s r.name = s := by rw [b.new, hc' r hr]; rfl
    rw [ckRoutine_eq, rRoutine_eq, hnew]
    obtain ⟨p1, p2⟩ := params_same r.params bv.deeper hp s
    simp only [p1]
    generalize (if 0 < r.result ∧ endL r.body = false then (rParams (rVis env l) s r.params).2.fail 16 else (rParams (rVis env l) s r.params).2) = s1
    obtain ⟨q1, q2⟩ := vars_same r.inner r.vars p2 hv s1
    rw [q1]
    generalize (rVars (rParams (rVis env l) s r.params).1 s1 r.vars r.inner).2 = s2
    generalize (rVars (rParams (rVis env l) s r.params).1 s1 r.vars r.inner).1 = env2 at q2
    generalize (ckVars (ckParams ([] :: allOf [] l :: fs) s r.params).1 s1 r.vars r.inner).1 = fs2 at q2
    have ih := routines_same n r.inner (d + 1) [] (by omega) hro.inner q2 s2
    by_cases hi : ∃ y ∈ r.inner, findIn fs2 y.name ≠ none
    ·have h1 := clash_ck (allOf [] r.inner :: fs2) r.inner s2 hi
     have h2 := clash_r q2 (rVis env2 r.inner) r.inner s2 hi
     rw [ckStmts_bad h1, rStmts_bad _ h2]
     exact .inr ⟨h1, h2⟩
    ·have hi' : ∀ y ∈ r.inner, findIn fs2 y.name = none := fun y hy => Decidable.byContradiction fun hh => hi ⟨y, hy, hh⟩
     have b3 := q2.visible hro.inner hi'
     rcases ih with ih | ⟨h1, h2⟩
     ·rw [ih]
      exact .inl (stmts_same b3.agr b3.wfd hr0 hr3 _ r.body 1 (Nat.le_refl _) hro.body _)
     ·rw [ckStmts_bad h1, rStmts_bad _ h2]
      exact .inr ⟨h1, h2⟩
   have all : ∀ (l' : List Routine), (∀ r ∈ l', r ∈ l) → ∀ s s', Eqv s s' → Eqv (ckRoutines fs (allOf [] l :: fs) s l') (rRoutines env (rVis env l) s' l') := by
    intro l'
    induction l' with
    | nil => intro _ s s' h; exact h
    | cons r l' ih' =>
     intro hl s s' h
     rcases h with rfl | ⟨h1, h2⟩
     ·by_cases hb : s.bad = 0
      ·simp only [ckRoutines, rRoutines, hb, if_true]
       rw [hc' r (hl r (by simp))]
       exact ih' (fun x hx => hl x (by simp [hx])) _ _ (one r (hl r (by simp)) _)
      ·rw [ckRoutines_bad hb, rRoutines_bad _ _ hb]; exact .inl rfl
     ·rw [ckRoutines_bad h1, rRoutines_bad _ _ h2]; exact .inr ⟨h1, h2⟩
   exact all l (fun r hr => hr) s s (.inl rfl)
theorem all_same {p : Prg} (ht : tPrg p = true) : Eqv (ckAll p) (rAll p) := by
 have po := tPrg_ok ht
 have hv : ∀ v ∈ p.vars, tVar v = true := by
  unfold tPrg tVars at ht
  simp only [Bool.and_eq_true, decide_eq_true_eq, List.all_eq_true] at ht
  exact ht.1.1.2.1
 have b0 : Both [[]] [] := ⟨fun _ => rfl, ⟨fun _ _ h => by simp [findIn, look] at h, fun _ _ h => by simp [findIn, look] at h⟩, by simp, by simp⟩
 unfold ckAll rAll
 obtain ⟨a1, a2⟩ := recs_same p.recs b0 ⟨-1, 0⟩
 simp only [a1]
 obtain ⟨q1, q2⟩ := vars_same p.routines p.vars a2 hv (rRecs [] ⟨-1, 0⟩ p.recs).2
 simp only [q1]
 generalize (rVars (rRecs [] ⟨-1, 0⟩ p.recs).1 (rRecs [] ⟨-1, 0⟩ p.recs).2 p.vars p.routines).2 = s2
 generalize (rVars (rRecs [] ⟨-1, 0⟩ p.recs).1 (rRecs [] ⟨-1, 0⟩ p.recs).2 p.vars p.routines).1 = env2 at q2
 generalize (ckVars (ckRecs [[]] ⟨-1, 0⟩ p.recs).1 (rRecs [] ⟨-1, 0⟩ p.recs).2 p.vars p.routines).1 = fs2 at q2
 have ih := routines_same _ p.routines 1 [] (Nat.lt_succ_self _) po.routines q2 s2
 by_cases hi : ∃ y ∈ p.routines, findIn fs2 y.name ≠ none
 ·have h1 := clash_ck (allOf [] p.routines :: fs2) p.routines s2 hi
  have h2 := clash_r q2 (rVis env2 p.routines) p.routines s2 hi
  rw [ckStmts_bad h1, rStmts_bad _ h2]
  exact .inr ⟨h1, h2⟩
 ·have hi' : ∀ y ∈ p.routines, findIn fs2 y.name = none := fun y hy => Decidable.byContradiction fun hh => hi ⟨y, hy, hh⟩
  have b3 := q2.visible po.routines hi'
  rcases ih with ih | ⟨h1, h2⟩
  ·rw [ih]
   exact .inl (stmts_same b3.agr b3.wfd (by decide) (by decide) _ p.body 1 (Nat.le_refl _) po.body _)
  ·rw [ckStmts_bad h1, rStmts_bad _ h2]
   exact .inr ⟨h1, h2⟩
theorem right_same {p : Prg} (ht : tPrg p = true) : (check p).2 = 0 ↔ (rCheck p).2 = 0 := by
 unfold check rCheck
 rcases all_same ht with h | ⟨h1, h2⟩
 ·rw [h]
 ·rw [if_neg h1, if_neg h2]
  exact ⟨fun h => absurd h h1, fun h => absurd h h2⟩
end Pg
