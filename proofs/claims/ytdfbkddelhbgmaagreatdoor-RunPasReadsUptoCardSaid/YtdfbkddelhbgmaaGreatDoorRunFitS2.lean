import Derived.Test.YtdfbkddelhbgmaaGreatDoorRun10S2
import Derived.Test.YtdfbkddelhbgmaaGreatDoorR12LawS2
namespace Pg.Rf
open Go
set_option linter.all false
theorem ckKind_zero {kinds : List Int} {p : Typ × CS} (h : (ckKind kinds p).2.bad = 0) : p.2.bad = 0 := by
 unfold ckKind at h
 simp only at h
 split at h
 ·exact absurd h (fail_yes _ (by decide))
 ·exact h
theorem ckPair_zero {fs : List Scope} {s : CS} {l : List Expr} {k : Int} (h : (ckPair fs s l k).bad = 0) : s.bad = 0 :=
 Decidable.byContradiction fun hb => by rw [ckPair_bad' fs hb] at h; exact hb h
theorem ckArgs_zero {fs : List Scope} {s : CS} {ps : List Param} {l : List Expr} (h : (ckArgs fs s ps l).bad = 0) : s.bad = 0 := by
 refine Decidable.byContradiction fun hb => ?_
 cases ps with
 | nil => cases l <;> simp [ckArgs] at h <;> exact hb h
 | cons p ps => cases l with
  | nil => simp [ckArgs] at h; exact hb h
  | cons x l => simp [ckArgs, hb] at h
theorem ckExpr_zero {fs : List Scope} {s : CS} {x : Expr} {b : Bool} (h : (ckExpr fs s x b).2.bad = 0) : s.bad = 0 :=
 Decidable.byContradiction fun hb => by rw [ckExpr_bad' fs hb] at h; exact hb h
theorem ckStmts_zero {fs : List Scope} {res : Int} {l : List Stmt} {s : CS} (h : (ckStmts fs s res l).bad = 0) : s.bad = 0 :=
 Decidable.byContradiction fun hb => by rw [ckStmts_bad hb] at h; exact hb h
theorem ckLay_zero {fs : List Scope} {s : CS} {name : ByteArray} {x : Thing} (h : (ckLay fs s name x).2.bad = 0) : findIn fs name = none ∧ s.bad = 0 ∧ (ckLay fs s name x).1 = setTop name x fs := by
 unfold ckLay at h ⊢
 cases hf : findIn fs name with
 | some y => rw [hf] at h; exact absurd h (fail_yes _ (by decide))
 | none => rw [hf] at h; exact ⟨rfl, h, rfl⟩
theorem ckRoutines_zero {a b : List Scope} {s : CS} {l : List Routine} (h : (ckRoutines a b s l).bad = 0) : s.bad = 0 :=
 Decidable.byContradiction fun hb => by rw [ckRoutines_bad hb] at h; exact hb h
theorem ckVars_zero {fs : List Scope} {s : CS} {l : List Var} {b : List Routine} (h : (ckVars fs s l b).2.bad = 0) : s.bad = 0 :=
 Decidable.byContradiction fun hb => by rw [ckVars_bad hb] at h; exact hb h
theorem look_all_ne {m : ByteArray} : ∀ (l : List Routine) (f : Scope), look f m ≠ none → look (allOf f l) m ≠ none
 | [], f, h => h
 | r :: l, f, h => by
  simp only [allOf]
  refine look_all_ne l _ ?_
  rw [look_setIn]
  split
  ·simp
  ·exact h
mutual
def callE : Expr → List (ByteArray × Nat)
 | ⟨op, n, name, field, l⟩ => (if op = 7 then [(name, l.length)] else []) ++ callEs l
def callEs : List Expr → List (ByteArray × Nat)
 | [] => []
 | x :: r => callE x ++ callEs r
end
theorem callE_eq (x : Expr) : callE x = (if x.op = 7 then [(x.name, x.l.length)] else []) ++ callEs x.l := by
 obtain ⟨op, n, name, field, l⟩ := x; rfl
mutual
def callS : Stmt → List (ByteArray × Nat)
 | ⟨before, trail, op, name, p, e, down, more, body, els, end1, end2⟩ => callE p ++ callEs e ++ callSs body ++ callSs els
def callSs : List Stmt → List (ByteArray × Nat)
 | [] => []
 | x :: r => callS x ++ callSs r
end
theorem callS_eq (x : Stmt) : callS x = callE x.p ++ callEs x.e ++ callSs x.body ++ callSs x.els := by
 obtain ⟨before, trail, op, name, p, e, down, more, body, els, end1, end2⟩ := x; rfl
def Seen (fs : List Scope) (q : ByteArray × Nat) : Prop := ∃ r, findIn fs q.1 = some (.routine r) ∧ r.params.length = q.2
theorem pair_seen {fs : List Scope} {k : Int} : ∀ {l : List Expr} {s : CS}, (∀ y ∈ l, ∀ s, (ckExpr fs s y false).2.bad = 0 → ∀ name ∈ callE y, Seen fs name) → (ckPair fs s l k).bad = 0 → ∀ name ∈ callEs l, Seen fs name
 | [], s, _, _, name, hn => by simp [callEs] at hn
 | x :: l, s, h, hb, name, hn => by
  simp only [ckPair] at hb
  simp only [callEs, List.mem_append] at hn
  rcases hn with hn | hn
  ·exact h x (by simp) s (ckKind_zero (ckPair_zero hb)) name hn
  ·exact pair_seen (fun y hy => h y (by simp [hy])) hb name hn
theorem args_seen {fs : List Scope} : ∀ {ps : List Param} {l : List Expr} {s : CS}, ps.length = l.length → (∀ y ∈ l, ∀ s, (ckExpr fs s y false).2.bad = 0 → ∀ name ∈ callE y, Seen fs name) → (ckArgs fs s ps l).bad = 0 → ∀ name ∈ callEs l, Seen fs name
 | ps, [], s, _, _, _, name, hn => by simp [callEs] at hn
 | [], x :: l, s, hl, _, _, _, _ => by simp at hl
 | p :: ps, x :: l, s, hl, h, hb, name, hn => by
  have hs := ckArgs_zero hb
  simp only [ckArgs, hs, if_true] at hb
  simp only [callEs, List.mem_append] at hn
  have hl' : ps.length = l.length := by simpa using hl
  have h' := fun y hy => h y (List.mem_cons_of_mem x hy)
  split at hb
  ·rcases hn with hn | hn
   ·exact h x (by simp) s (ckKind_zero (ckArgs_zero hb)) name hn
   ·exact args_seen hl' h' hb name hn
  ·generalize (if x.op = 4 ∨ x.op = 5 ∨ x.op = 6 then s else s.fail 14) = s1 at hb
   rcases hn with hn | hn
   ·have h2 := ckArgs_zero hb
    split at h2
    ·exact h x (by simp) _ h2 name hn
    ·exact absurd h2 (fail_yes _ (by decide))
   ·exact args_seen hl' h' hb name hn
theorem ckTwo_seen {fs : List Scope} {kinds : List Int} {l : List Expr} {s : CS} (hl : l.length = 2) (h : ∀ y ∈ l, ∀ s, (ckExpr fs s y false).2.bad = 0 → ∀ name ∈ callE y, Seen fs name) (hb : (ckTwo fs s kinds l).bad = 0) : ∀ name ∈ callEs l, Seen fs name := by
 obtain ⟨y, z, rfl⟩ : ∃ y z, l = [y, z] := by
  match l, hl with
  | [y, z], _ => exact ⟨y, z, rfl⟩
 simp only [ckTwo, List.length_cons, List.length_nil, if_true] at hb
 intro name hn
 simp only [callEs, List.append_nil, List.mem_append] at hn
 rcases hn with hn | hn
 ·exact h y (by simp) s (ckKind_zero (ckPair_zero hb)) name hn
 ·exact pair_seen (l := [z]) (fun w hw => h w (by simp at hw; simp [hw])) hb name (by simpa [callEs] using hn)
theorem expr_seen {fs : List Scope} : ∀ (n : Nat) (x : Expr), form n x = true → ∀ (b : Bool) (s : CS), (ckExpr fs s x b).2.bad = 0 → ∀ name ∈ callE x, Seen fs name := by
 intro n
 induction n with
 | zero => intro x h; simp [form] at h
 | succ n ih =>
  intro x hx b s hb name hn
  have hsub : ∀ y ∈ x.l, ∀ s, (ckExpr fs s y false).2.bad = 0 → ∀ name ∈ callE y, Seen fs name := fun y hy s => ih y (form_sub hx y hy) false s
  rw [form_eq] at hx
  simp only [Bool.and_eq_true, decide_eq_true_eq] at hx
  obtain ⟨⟨⟨⟨h1, h2⟩, h3⟩, h4⟩, h5⟩ := hx
  have hlen := parts_len h4
  have hs := ckExpr_zero hb
  rw [ckExpr_eq, if_pos hs] at hb
  rw [callE_eq] at hn
  have nil : x.l.length = 0 → x.op ≠ 7 → False := fun h0 h7 => by
   have : x.l = [] := List.length_eq_zero_iff.1 h0
   rw [if_neg h7, this] at hn
   simp [callEs] at hn
  by_cases g7 : x.op = 7
  ·rw [if_neg (by omega), if_neg (by omega), if_neg (by omega), if_neg (by omega), if_neg (by omega), if_neg (by omega), if_pos g7] at hb
   cases hf : findIn fs x.name with
   | none => rw [hf] at hb; exact absurd hb (fail_yes _ (by decide))
   | some z =>
    rw [hf] at hb
    cases z with
    | var t => exact absurd hb (fail_yes _ (by decide))
    | rcd r => exact absurd hb (fail_yes _ (by decide))
    | routine r =>
     simp only at hb
     split at hb
     ·exact absurd (ckArgs_zero hb) (fail_yes _ (by decide))
     ·split at hb
      ·rename_i hl
       rw [if_pos g7] at hn
       rcases List.mem_append.1 hn with hn | hn
       ·simp only [List.mem_cons, List.not_mem_nil, or_false] at hn
        subst hn; exact ⟨r, hf, hl⟩
       ·exact args_seen hl hsub hb name hn
      ·exact absurd hb (fail_yes _ (by decide))
  ·rw [if_neg g7, List.nil_append] at hn
   by_cases g1 : x.op = 1 ∨ x.op = 2 ∨ x.op = 3 ∨ x.op = 4 ∨ x.op = 6
   ·exact (nil (by
     rw [if_neg g7, if_neg (by omega), if_neg (by omega)] at hlen; omega) g7).elim
   rw [if_neg (by omega), if_neg (by omega), if_neg (by omega), if_neg (by omega)] at hb
   by_cases g5 : x.op = 5
   ·rw [if_pos g5] at hb
    exact pair_seen hsub hb name hn
   rw [if_neg g5, if_neg (by omega), if_neg g7] at hb
   split at hb
   ·exact pair_seen hsub hb name hn
   ·rename_i g9
    have two : 19 ≤ x.op → x.l.length = 2 := fun h => by
     rw [if_neg g7, if_neg (by omega), if_pos (by omega)] at hlen; omega
    split at hb
    ·exact ckTwo_seen (two (by omega)) hsub hb name hn
    ·split at hb
     ·exact ckTwo_seen (two (by omega)) hsub hb name hn
     ·exact pair_seen hsub hb name hn
theorem stmt_seen {fs : List Scope} {x : Stmt} (hx : SForm x) (hp : ¬ (x.op = 1 ∨ x.op = 7) → callE x.p = []) {res : Int} {s : CS} (hb : (ckStmt fs s res x).bad = 0) : ∀ name ∈ callE x.p ++ callEs x.e, Seen fs name := by
 intro name hn
 have he : ∀ y ∈ x.e, ∀ b s, (ckExpr fs s y b).2.bad = 0 → ∀ name ∈ callE y, Seen fs name := fun y hy b s => expr_seen 48 y (hx.e y hy) b s
 have hpe : (x.op = 1 ∨ x.op = 7) → ∀ s, (ckExpr fs s x.p false).2.bad = 0 → ∀ name ∈ callE x.p, Seen fs name := fun h s => expr_seen 48 x.p (hx.p h) false s
 have lo := hx.lo
 have hi := hx.hi
 have h1 := hx.op1
 have h9 := hx.op9
 have pair : ∀ {k : Int} {s : CS}, (ckPair fs s x.e k).bad = 0 → ∀ name ∈ callEs x.e, Seen fs name := fun h => pair_seen (fun y hy => he y hy false) h
 have rest : ¬ (x.op = 1 ∨ x.op = 7) → name ∈ callEs x.e := fun h => by
  rw [hp h, List.nil_append] at hn; exact hn
 unfold ckStmt at hb
 by_cases g1 : x.op = 1
 ·rw [if_pos g1] at hb
  rcases List.mem_append.1 hn with hn | hn
  ·exact hpe (.inl g1) _ (ckKind_zero (ckPair_zero hb)) name hn
  ·exact pair hb name hn
 rw [if_neg g1] at hb
 by_cases g2 : x.op = 2
 ·rw [if_pos g2] at hb
  have hn := rest (by omega)
  obtain ⟨y, hy⟩ : ∃ y, x.e = [y] := by
   rw [if_neg (by omega), if_neg (by omega), if_neg (by omega)] at lo
   rw [if_neg (by omega), if_neg (by omega)] at hi
   exact List.length_eq_one_iff.1 (by omega)
  rw [hy] at hb hn
  simp only [ckEach] at hb
  exact he y (by simp [hy]) true s hb name (by simpa [callEs] using hn)
 rw [if_neg g2] at hb
 by_cases g3 : x.op = 3 ∨ x.op = 4 ∨ x.op = 5
 ·rw [if_pos g3] at hb
  exact pair hb name (rest (by omega))
 rw [if_neg g3] at hb
 by_cases g6 : x.op = 6
 ·rw [if_pos g6] at hb
  exact pair hb name (rest (by omega))
 rw [if_neg g6] at hb
 by_cases g7 : x.op = 7
 ·rw [if_pos g7] at hb
  have hee : x.e = [] := by
   rw [if_neg g6, if_pos g7] at hi
   exact List.length_eq_zero_iff.1 (by omega)
  rw [hee] at hn
  simp only [callEs, List.append_nil] at hn
  exact hpe (.inr g7) _ (ckKind_zero hb) name hn
 rw [if_neg g7] at hb
 by_cases g8 : x.op = 8
 ·rw [if_pos g8] at hb
  have hn := rest (by omega)
  obtain ⟨y, hy⟩ : ∃ y, x.e = [y] := by
   rw [if_neg (by omega), if_neg (by omega), if_neg (by omega)] at lo
   rw [if_neg (by omega), if_neg (by omega)] at hi
   exact List.length_eq_one_iff.1 (by omega)
  rw [hy] at hb hn
  simp only [ckAnys, ckAny] at hb
  exact he y (by simp [hy]) false s (ckKind_zero hb) name (by simpa [callEs] using hn)
 rw [if_neg g8, if_pos (by omega : x.op = 9)] at hb
 have hn := rest (by omega)
 unfold ckResult at hb
 by_cases hr : 0 < res
 ·simp only [hr, if_true] at hb
  exact pair hb name hn
 ·simp only [hr, if_false, decide_false] at hb
  have hee : x.e = [] := by
   refine Decidable.byContradiction fun hh => ?_
   have := List.length_pos_iff.2 hh
   rw [if_neg (by simp [this])] at hb
   exact absurd hb (fail_yes _ (by decide))
  rw [hee] at hn
  simp [callEs] at hn
theorem tNone_callE {x : Expr} (h : tNone x = true) : callE x = [] := by
 unfold tNone at h
 simp only [Bool.and_eq_true, decide_eq_true_eq] at h
 obtain ⟨⟨⟨⟨h1, _⟩, _⟩, _⟩, h2⟩ := h
 have hl : x.l = [] := List.length_eq_zero_iff.1 h2
 rw [callE_eq, hl]
 simp [h1, callEs]
theorem tStmt1_none {x : Stmt} (h : tStmt1 x = true) (hp : ¬ (x.op = 1 ∨ x.op = 7)) : callE x.p = [] := by
 unfold tStmt1 sPlace at h
 simp only [Bool.and_eq_true] at h
 have h6 := h.1.1.1.2
 rw [if_neg hp] at h6
 exact tNone_callE h6
theorem stmts_seen {fs : List Scope} {res : Int} : ∀ (n : Nat) (l : List Stmt) (d : Int), Stmts.sz l ≤ n → tStmts l d = true → ∀ s, (ckStmts fs s res l).bad = 0 → ∀ name ∈ callSs l, Seen fs name
 | n, [], d, _, _, s, _, name, hn => by simp [callSs] at hn
 | 0, x :: l, d, hz, _, s, _, _, _ => by simp [Stmts.sz] at hz
 | n + 1, x :: l, d, hn, ht, s, hb, name, hc => by
  have hz := Stmt.sz_eq x
  simp only [Stmts.sz] at hn
  simp only [tStmts, Bool.and_eq_true] at ht
  have ht1 := ht.1
  rw [tStmt_eq] at ht1
  simp only [Bool.and_eq_true, decide_eq_true_eq] at ht1
  obtain ⟨⟨⟨hd, hso⟩, htb, hlb⟩, hte, hle⟩ := ht1
  have hs := ckStmts_zero hb
  simp only [ckStmts, hs, if_true] at hb
  have hb1 := ckStmts_zero hb
  rw [ckDeep_eq] at hb1
  have hb2 := ckStmts_zero hb1
  have hb3 := ckStmts_zero hb2
  simp only [callSs, List.mem_append] at hc
  rcases hc with hc | hc
  ·rw [callS_eq] at hc
   simp only [List.mem_append] at hc
   rcases hc with (hc | hc) | hc
   ·exact stmt_seen (tStmt1_form hso) (fun hp => tStmt1_none hso hp) hb3 name (List.mem_append.2 hc)
   ·exact stmts_seen n x.body (d + 1) (by omega) htb _ hb2 name hc
   ·exact stmts_seen n x.els (d + 1) (by omega) hte _ hb1 name hc
  ·exact stmts_seen n l d (by omega) ht.2 _ hb name hc
theorem look_all_in {m : ByteArray} {y : Thing} : ∀ (l : List Routine) (f : Scope), look (allOf f l) m = some y → (∃ r ∈ l, r.name = m ∧ y = .routine r) ∨ look f m = some y
 | [], f, h => .inr h
 | r :: l, f, h => by
  simp only [allOf] at h
  rcases look_all_in l _ h with ⟨x, hx, h1⟩ | h
  ·exact .inl ⟨x, by simp [hx], h1⟩
  ·rw [look_setIn] at h
   split at h
   ·rename_i he
    simp only [Option.some.injEq] at h
    exact .inl ⟨r, by simp, he.symm, h.symm⟩
   ·exact .inr h
theorem look_all_some {m : ByteArray} : ∀ (l : List Routine) (f : Scope), m ∈ l.map (·.name) → look (allOf f l) m ≠ none
 | r :: l, f, h => by
  simp only [allOf]
  simp only [List.map_cons, List.mem_cons] at h
  by_cases he : m = r.name
  ·refine look_all_ne l _ ?_
   rw [look_setIn, if_pos he]; simp
  ·exact look_all_some l _ (h.resolve_left he)
theorem nodup_inj {X : Type} {l : List X} (nd : l.Nodup) {i j : Nat} {a : X} (hi : l[i]? = some a) (hj : l[j]? = some a) : i = j := by
 obtain ⟨l1, e1⟩ := List.getElem?_eq_some_iff.1 hi
 obtain ⟨l2, e2⟩ := List.getElem?_eq_some_iff.1 hj
 have hp := List.pairwise_iff_getElem.1 nd
 rcases Nat.lt_trichotomy i j with h | h | h
 ·exact absurd (e1.trans e2.symm) (hp i j l1 l2 h)
 ·exact h
 ·exact absurd (e2.trans e1.symm) (hp j i l2 l1 h)
theorem one_name {l : List Routine} {d : Int} (ht : tRoutines [] l d = true) {x y : Routine} (hx : x ∈ l) (hy : y ∈ l) (h : x.name = y.name) : x = y := by
 have nd := (tRoutines_nodup ht).1
 obtain ⟨i, hi⟩ := List.getElem?_of_mem hx
 obtain ⟨j, hj⟩ := List.getElem?_of_mem hy
 have : i = j := nodup_inj nd (a := x.name) (by simp [hi]) (by simp [hj, h])
 subst this
 rw [hi] at hj; cases hj; rfl
def Rs (sc : List (List Routine)) (fs : List Scope) : Prop := ∀ m r, findIn fs m = some (.routine r) → ∃ q, routSc m sc = some (r, q)
theorem Rs.lay {sc : List (List Routine)} {fs : List Scope} (o : Rs sc fs) (hne : fs ≠ []) (name : ByteArray) (x : Thing) (hx : ∀ r, x ≠ .routine r) : Rs sc (setTop name x fs) := fun m r h => by
 rw [findIn_setTop name _ hne] at h
 split at h
 ·simp only [Option.some.injEq] at h
  exact absurd h (hx r)
 ·exact o m r h
theorem setTop_ne {fs : List Scope} (hne : fs ≠ []) (name : ByteArray) (x : Thing) : setTop name x fs ≠ [] := by
 cases fs with
 | nil => exact absurd rfl hne
 | cons f fs => simp [setTop]
theorem Rs.deeper {sc : List (List Routine)} {fs : List Scope} (o : Rs sc fs) : Rs sc ([] :: fs) := fun m r h => o m r (by simpa [findIn, look] using h)
theorem Rs.params {sc : List (List Routine)} : ∀ (l : List Param) {fs : List Scope} {s : CS}, fs ≠ [] → Rs sc fs → (ckParams fs s l).2.bad = 0 → Rs sc (ckParams fs s l).1 ∧ (ckParams fs s l).1 ≠ []
 | [], fs, s, hne, o, h => ⟨by simpa [ckParams] using o, by simpa [ckParams] using hne⟩
 | v :: l, fs, s, hne, o, h => by
  simp only [ckParams] at h ⊢
  have h1 : (ckLay fs s v.name (.var v.t)).2.bad = 0 := by
   refine Decidable.byContradiction fun hb => ?_
   rw [ckTyp_bad _ hb, ckParams_bad hb] at h
   exact hb h
  obtain ⟨_, _, e⟩ := ckLay_zero h1
  refine Rs.params l ?_ ?_ h
  ·rw [e]; exact setTop_ne hne _ _
  ·rw [e]; exact o.lay hne _ _ (fun r h => by cases h)
theorem Rs.vars {sc : List (List Routine)} (behind : List Routine) : ∀ (l : List Var) {fs : List Scope} {s : CS}, fs ≠ [] → Rs sc fs → (ckVars fs s l behind).2.bad = 0 → Rs sc (ckVars fs s l behind).1 ∧ (ckVars fs s l behind).1 ≠ []
 | [], fs, s, hne, o, h => ⟨by simpa [ckVars] using o, by simpa [ckVars] using hne⟩
 | v :: l, fs, s, hne, o, h => by
  have hs : s.bad = 0 := Decidable.byContradiction fun hb => by rw [ckVars_bad hb] at h; exact hb h
  simp only [ckVars, hs, if_true] at h ⊢
  generalize (if (behind.any fun x => decide (x.name = v.name)) = true then s.step.fail 12 else s.step) = s1 at h ⊢
  have h1 : (ckLay fs s1 v.name (.var v.t)).2.bad = 0 := by
   refine Decidable.byContradiction fun hb => ?_
   rw [ckTyp_bad _ hb, ckVars_bad hb] at h
   exact hb h
  obtain ⟨_, _, e⟩ := ckLay_zero h1
  refine Rs.vars behind l ?_ ?_ h
  ·rw [e]; exact setTop_ne hne _ _
  ·rw [e]; exact o.lay hne _ _ (fun r h => by cases h)
theorem recs_bad : ∀ (l : List Rec) (fs : List Scope) (s : CS), s.bad ≠ 0 → (ckRecs fs s l).2 = s := fun l fs s hb => by
 cases l <;> simp [ckRecs, hb]
theorem Rs.recs {sc : List (List Routine)} : ∀ (l : List Rec) {fs : List Scope} {s : CS}, fs ≠ [] → Rs sc fs → (ckRecs fs s l).2.bad = 0 → Rs sc (ckRecs fs s l).1 ∧ (ckRecs fs s l).1 ≠ []
 | [], fs, s, hne, o, h => ⟨by simpa [ckRecs] using o, by simpa [ckRecs] using hne⟩
 | r :: l, fs, s, hne, o, h => by
  have hs : s.bad = 0 := Decidable.byContradiction fun hb => by simp [ckRecs, hb] at h
  simp only [ckRecs, hs, if_true] at h ⊢
  have h1 : (ckLay fs s.step r.name (.rcd r)).2.bad = 0 := by
   refine Decidable.byContradiction fun hb => ?_
   rw [recs_bad _ _ _ (by split; exact fail_yes _ (by decide); exact hb)] at h
   split at h
   ·exact fail_yes _ (by decide) h
   ·exact hb h
  obtain ⟨_, _, e⟩ := ckLay_zero h1
  refine Rs.recs l ?_ ?_ h
  ·rw [e]; exact setTop_ne hne _ _
  ·rw [e]; exact o.lay hne _ _ (fun r h => by cases h)
theorem Rs.push {l : List Routine} {d : Int} (ht : tRoutines [] l d = true) {sc : List (List Routine)} {fs : List Scope} (o : Rs sc fs) : Rs (l :: sc) (allOf [] l :: fs) := fun m r h => by
 simp only [findIn] at h
 cases hl : look (allOf [] l) m with
 | some y =>
  rw [hl] at h
  simp only [Option.some.injEq] at h
  subst h
  rcases look_all_in _ _ hl with ⟨x, hx, h1, h2⟩ | h
  ·cases h2
   cases hf : l.find? (fun x => decide (x.name = m)) with
   | none => exact absurd h1 (by simpa using List.find?_eq_none.1 hf r hx)
   | some z =>
    have hz := List.find?_some hf
    simp only [decide_eq_true_eq] at hz
    have := one_name ht (List.mem_of_find?_eq_some hf) hx (by rw [hz, h1])
    subst this
    exact ⟨l :: sc, by simp only [routSc, hf]⟩
  ·simp [look] at h
 | none =>
  rw [hl] at h
  obtain ⟨q, hq⟩ := o m r h
  have hf : l.find? (fun x => decide (x.name = m)) = none := List.find?_eq_none.2 fun z hz hzn => by
   simp only [decide_eq_true_eq] at hzn
   exact absurd hl (look_all_some _ _ (List.mem_map.2 ⟨z, hz, hzn⟩))
  exact ⟨q, by simp only [routSc, hf]; exact hq⟩
def FitQ (sc : List (List Routine)) (q : ByteArray × Nat) : Prop := ∃ r rs, routSc q.1 sc = some (r, rs) ∧ r.params.length = q.2
theorem Rs.fit {sc : List (List Routine)} {fs : List Scope} (o : Rs sc fs) {q : ByteArray × Nat} (h : Seen fs q) : FitQ sc q := by
 obtain ⟨r, h1, h2⟩ := h
 obtain ⟨rs, h3⟩ := o _ _ h1
 exact ⟨r, rs, h3, h2⟩
theorem callEs_mem {l : List Expr} {y : Expr} (h : y ∈ l) : ∀ q ∈ callE y, q ∈ callEs l := by
 induction l with
 | nil => simp at h
 | cons x l ih =>
  intro q hq
  simp only [callEs, List.mem_append]
  rcases List.mem_cons.1 h with rfl | h
  ·exact .inl hq
  ·exact .inr (ih h q hq)
theorem eok {sc : List (List Routine)} : ∀ (n : Nat) (x : Expr), form n x = true → (∀ q ∈ callE x, FitQ sc q) → EOk sc x := by
 intro n
 induction n with
 | zero => intro x h; simp [form] at h
 | succ n ih =>
  intro x hx hq
  have hsub := form_sub hx
  rw [form_eq] at hx
  simp only [Bool.and_eq_true, decide_eq_true_eq] at hx
  obtain ⟨⟨⟨⟨h1, h2⟩, h3⟩, h4⟩, h5⟩ := hx
  have hlen := parts_len h4
  rw [callE_eq] at hq
  refine .mk x (by unfold few; omega) ⟨h2, h3⟩ (fun h => ?_) (fun h => ?_) (fun h => ?_) (fun y hy => ih y (hsub y hy) fun q hq' => hq q (List.mem_append.2 (.inr (callEs_mem hy q hq'))))
  ·rw [if_neg (by omega), if_pos h] at hlen; omega
  ·rw [if_neg (by omega), if_neg (by omega), if_pos h] at hlen; omega
  ·exact hq (x.name, x.l.length) (List.mem_append.2 (.inl (by simp [h])))
theorem sok {sc : List (List Routine)} : ∀ (n : Nat) (l : List Stmt) (d : Int), Stmts.sz l ≤ n → tStmts l d = true → (∀ q ∈ callSs l, FitQ sc q) → ∀ y ∈ l, StOk sc y
 | n, [], d, _, _, _, y, hy => by simp at hy
 | 0, x :: l, d, hz, _, _, _, _ => by simp [Stmts.sz] at hz
 | n + 1, x :: l, d, hn, ht, hq, y, hy => by
  have hz := Stmt.sz_eq x
  simp only [Stmts.sz] at hn
  simp only [tStmts, Bool.and_eq_true] at ht
  have ht1 := ht.1
  rw [tStmt_eq] at ht1
  simp only [Bool.and_eq_true, decide_eq_true_eq] at ht1
  obtain ⟨⟨⟨hd, hso⟩, htb, hlb⟩, hte, hle⟩ := ht1
  simp only [callSs, List.mem_append] at hq
  rcases List.mem_cons.1 hy with rfl | hy
  ·have hf := tStmt1_form hso
   have lo := hf.lo; have hi := hf.hi
   have hq1 : ∀ q ∈ callS y, FitQ sc q := fun q h => hq q (.inl h)
   rw [callS_eq] at hq1
   simp only [List.mem_append] at hq1
   refine .mk y (by unfold few; split at hi <;> (try split at hi) <;> omega) (by unfold few; omega) (by unfold few; omega) (fun h => ?_) (fun h => ?_) (fun h => eok 48 _ (hf.p h) fun q h' => hq1 q (.inl (.inl (.inl h')))) (fun z hz => eok 48 z (hf.e z hz) fun q h' => hq1 q (.inl (.inl (.inr (callEs_mem hz q h')))))
    (sok n y.body (d + 1) (by omega) htb fun q h => hq1 q (.inl (.inr h))) (sok n y.els (d + 1) (by omega) hte fun q h => hq1 q (.inr h))
   ·rw [if_neg (by omega), if_neg (by omega), if_neg (by omega)] at lo; exact lo
   ·rw [if_pos h] at lo; exact lo
  ·exact sok n l d (by omega) ht.2 (fun q h => hq q (.inr h)) y hy
mutual
def wtR : Routine → Nat
 | ⟨before, trail, name, result, params, vars, inner, body, endd⟩ => Stmts.wt body + wtRs inner
def wtRs : List Routine → Nat
 | [] => 1
 | x :: r => wtR x + wtRs r
end
theorem wtR_eq (x : Routine) : wtR x = Stmts.wt x.body + wtRs x.inner := by obtain ⟨before, trail, name, result, params, vars, inner, body, endd⟩ := x; rfl
theorem rts_ok {C : Nat} : ∀ (N : Nat) (l : List Routine) (d : Int) (ahead : List ByteArray), Routines.sz l < N → tRoutines ahead l d = true → wtRs l ≤ C → ∀ {sc : List (List Routine)} {fs all : List Scope} {s : CS}, Rs sc all → (ckRoutines fs all s l).bad = 0 → ∀ x ∈ l, RtOk C sc x
 | 0, l, d, _, h, _, _, _, _, _, _, _, _, _, _ => by omega
 | N + 1, [], d, _, _, _, _, sc, fs, all, s, _, _, x, hx => by simp at hx
 | N + 1, y :: l, d, ahead, hN, ht, hC, sc, fs, all, s, o, hb, x, hx => by
  have hz := Routine.sz_eq y
  simp only [Routines.sz] at hN
  simp only [tRoutines, Bool.and_eq_true] at ht
  simp only [wtRs] at hC
  have hwy := wtR_eq y
  have hs := ckRoutines_zero hb
  simp only [ckRoutines, hs, if_true] at hb
  have hb1 := ckRoutines_zero hb
  rcases List.mem_cons.1 hx with rfl | hx
  ·have hro := tRoutine_ok ht.1
   have hpar : tParams x.params = true := by
    have h1 := ht.1
    rw [tRoutine_eq] at h1
    simp only [Bool.and_eq_true] at h1
    exact h1.1.1.1.2
   generalize (if (findIn fs x.name).isSome = true then s.step.fail 12 else s.step) = s1 at hb1
   rw [ckRoutine_eq] at hb1
   simp only at hb1
   have h4 := ckStmts_zero hb1
   have h3 := ckRoutines_zero h4
   have h2 := ckVars_zero h3
   have h1 : (ckParams ([] :: all) s1 x.params).2.bad = 0 := by
    split at h2
    ·exact absurd h2 (fail_yes _ (by decide))
    ·exact h2
   obtain ⟨o1, n1⟩ := Rs.params x.params (by simp) o.deeper h1
   obtain ⟨o2, _⟩ := Rs.vars x.inner x.vars n1 o1 h3
   have o3 := Rs.push hro.inner o2
   refine .mk sc x (sok _ x.body 1 (Nat.le_refl _) hro.body fun q hq => o3.fit (stmts_seen _ x.body 1 (Nat.le_refl _) hro.body _ hb1 q hq)) (by omega) hro.params (by have := hro.vars; unfold few; omega) (by have := hro.inners; unfold few; omega) (by have := hro.bodys; unfold few; omega) (fun p hp => ?_)
    (rts_ok N x.inner (d + 1) [] (by omega) hro.inner (by omega) o3 h4)
   unfold tParams at hpar
   simp only [Bool.and_eq_true, List.all_eq_true] at hpar
   have := hpar.1 p hp
   unfold tParam at this
   simp only [Bool.and_eq_true, decide_eq_true_eq] at this
   omega
  ·exact rts_ok N l d _ (by omega) ht.2 (by omega) o hb x hx
theorem right_c {p : Prg} (ht : tPrg p = true) (hp : p.ok) (hc : (check p).2 = 0) : RightC (1 + wtRs p.routines) p := by
 have po := tPrg_ok ht
 have hb : (ckAll p).bad = 0 := by
  unfold check at hc
  split at hc
  ·assumption
  ·exact hc
 unfold ckAll at hb
 simp only at hb
 have h3 := ckStmts_zero hb
 have h2 := ckRoutines_zero h3
 have h1 := ckVars_zero h2
 have o00 : Rs [] [([] : Scope)] := fun m r h => by simp [findIn, look] at h
 obtain ⟨o0, e1⟩ := Rs.recs (sc := []) p.recs (by simp) o00 h1
 obtain ⟨o1, _⟩ := Rs.vars p.routines p.vars e1 o0 h2
 have o2 := Rs.push po.routines o1
 exact ⟨by omega, ⟨by have := po.routine; unfold few; omega, rts_ok _ p.routines 1 [] (Nat.lt_succ_self _) po.routines (by omega) o2 h3, trivial⟩, sok _ p.body 1 (Nat.le_refl _) po.body fun q hq => o2.fit (stmts_seen _ p.body 1 (Nat.le_refl _) po.body _ hb q hq), by have := po.bodys; unfold few; omega, by have := po.vars; unfold few; omega, hp.recs, fun r hr => (hp.eachRec r hr).fields⟩
end Pg.Rf
