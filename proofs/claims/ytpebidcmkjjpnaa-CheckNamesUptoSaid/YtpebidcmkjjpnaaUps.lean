/- How many items a check looks at, where no number goes round. -/
import Derived.Test.YtpebidcmkjjpnaaCheckSpec
namespace Pg
open Go
set_option linter.unusedSimpArgs false
set_option linter.unusedVariables false
/-- From a state to another: at most so many items on; just so many if nothing is wrong behind. -/
def Ups (s s' : CS) (n : Nat) : Prop := -1 ≤ s.item → s.item + n ≤ 4611686018427387904 → s.item ≤ s'.item ∧ s'.item ≤ s.item + n ∧ (s'.bad = 0 → s.bad = 0 ∧ s'.item = s.item + n)
theorem Ups.refl (s : CS) : Ups s s 0 := fun h1 h2 => ⟨by omega, by omega, fun h => ⟨h, by omega⟩⟩
theorem Ups.trans {s s' s'' : CS} {n m k : Nat} (a : Ups s s' n) (b : Ups s' s'' m) (e : n + m = k) : Ups s s'' k := by
  intro h1 h2
  obtain ⟨a1, a2, a3⟩ := a h1 (by omega)
  obtain ⟨b1, b2, b3⟩ := b (by omega) (by omega)
  exact ⟨by omega, by omega, fun h => ⟨(a3 (b3 h).1).1, by have := (b3 h).2; have := (a3 (b3 h).1).2; omega⟩⟩
theorem Ups.fail (s : CS) {e : Int} (he : e ≠ 0) : Ups s (s.fail e) 0 := by
  intro h1 h2
  unfold CS.fail
  split
  · exact ⟨by simp, by simp, fun h => absurd h he⟩
  · rename_i hb; exact ⟨by omega, by omega, fun h => absurd h hb⟩
theorem Ups.step (s : CS) : Ups s s.step 1 := by
  intro h1 h2
  have : w64 (s.item + 1) = s.item + 1 := w64_small (by omega) (by omega)
  simp only [CS.step, this]
  exact ⟨by omega, by omega, fun h => ⟨h, by omega⟩⟩
theorem Ups.bad {s s' : CS} {n : Nat} (h : ¬ s.bad = 0) (e : s' = s) : Ups s s' n := by
  intro h1 h2
  subst e
  exact ⟨by omega, by omega, fun hh => absurd hh h⟩
theorem Ups.to {s s' s'' : CS} (a : Ups s s' 0) (b : Ups s' s'' 0) : Ups s s'' 0 := a.trans b rfl
theorem Ups.okOr (s : CS) {e : Int} (he : e ≠ 0) (c : Prop) [Decidable c] : Ups s (if c then s else s.fail e) 0 := by
  split
  · exact .refl s
  · exact .fail s he
theorem Ups.orFail (s : CS) {e : Int} (he : e ≠ 0) (c : Prop) [Decidable c] : Ups s (if c then s.fail e else s) 0 := by
  split
  · exact .fail s he
  · exact .refl s
theorem ups_lay (fs : List Scope) (s : CS) (name : ByteArray) (x : Thing) : Ups s (ckLay fs s name x).2 0 := by
  unfold ckLay; split
  · exact .fail s (by decide)
  · exact .refl s
theorem ups_typ (fs : List Scope) (s : CS) (t : Typ) : Ups s (ckTyp fs s t) 0 := by
  unfold ckTyp; split
  · split
    · exact .refl s
    · exact .fail s (by decide)
  · exact .refl s
theorem ups_variable (fs : List Scope) (s : CS) (name : ByteArray) : Ups s (ckVariable fs s name).2 0 := by
  unfold ckVariable; split
  · exact .refl s
  · exact .fail s (by decide)
theorem ups_field (fs : List Scope) (s : CS) (t : Typ) (name : ByteArray) : Ups s (ckField fs s t name).2 0 := by
  unfold ckField; split
  · split
    · split
      · exact .refl s
      · exact .fail s (by decide)
    · exact .fail s (by decide)
  · exact .fail s (by decide)
theorem ups_kind (kinds : List Int) (p : Typ × CS) : Ups p.2 (ckKind kinds p).2 0 := by
  unfold ckKind; simp only; split
  · exact .fail _ (by decide)
  · exact .refl _
def ExprU (fs : List Scope) (x : Expr) : Prop := ∀ s b, Ups s (ckExpr fs s x b).2 0
theorem ups_pair {fs : List Scope} : ∀ {l : List Expr}, (∀ x ∈ l, ExprU fs x) → ∀ s k, Ups s (ckPair fs s l k) 0
  | [], _, s, k => by simp only [ckPair]; exact .refl s
  | x :: r, h, s, k => by
    simp only [ckPair]
    exact ((h x (by simp) s false).to (ups_kind _ _)).to (ups_pair (fun y hy => h y (by simp [hy])) _ k)
theorem ups_two {fs : List Scope} {l : List Expr} (h : ∀ x ∈ l, ExprU fs x) (s : CS) (kinds : List Int) : Ups s (ckTwo fs s kinds l) 0 := by
  cases l with
  | nil => simp only [ckTwo]; exact .refl s
  | cons x r =>
    simp only [ckTwo]
    split
    · exact ((h x (by simp) s false).to (ups_kind _ _)).to (ups_pair (fun y hy => h y (by simp [hy])) _ _)
    · exact .refl s
theorem ups_args {fs : List Scope} : ∀ {l : List Expr}, (∀ x ∈ l, ExprU fs x) → ∀ s ps, Ups s (ckArgs fs s ps l) 0
  | [], _, s, ps => by cases ps <;> simp only [ckArgs] <;> exact .refl s
  | x :: r, h, s, [] => by simp only [ckArgs]; exact .refl s
  | x :: r, h, s, p :: ps => by
    have hr : ∀ y ∈ r, ExprU fs y := fun y hy => h y (by simp [hy])
    simp only [ckArgs]
    split
    · split
      · exact ((h x (by simp) s false).to (ups_kind _ _)).to (ups_args hr _ _)
      · refine Ups.to ?_ (ups_args hr _ _)
        exact ((Ups.okOr s (by decide) _).to (h x (by simp) _ false)).to (Ups.okOr _ (by decide) _)
    · exact .refl s
theorem ups_of (fs : List Scope) (x : Expr) (h : ∀ y ∈ x.l, ExprU fs y) : ExprU fs x := by
  intro s b
  rw [ckExpr_eq]
  by_cases h0 : s.bad = 0
  · rw [if_pos h0]
    by_cases o0 : x.op = 1
    · rw [if_pos o0]
      exact .refl s
    rw [if_neg o0]
    by_cases o1 : x.op = 2
    · rw [if_pos o1]
      exact .refl s
    rw [if_neg o1]
    by_cases o2 : x.op = 3
    · rw [if_pos o2]
      exact .refl s
    rw [if_neg o2]
    by_cases o3 : x.op = 4
    · rw [if_pos o3]
      exact ups_variable fs s _
    rw [if_neg o3]
    by_cases o4 : x.op = 5
    · rw [if_pos o4]
      exact ((ups_variable fs s _).to (Ups.orFail _ (by decide) _)).to (ups_pair h _ _)
    rw [if_neg o4]
    by_cases o5 : x.op = 6
    · rw [if_pos o5]
      exact (ups_variable fs s _).to (ups_field _ _ _ _)
    rw [if_neg o5]
    by_cases o6 : x.op = 7
    · rw [if_pos o6]
      have key : ∀ o : Option Thing, Ups s (match o with
        | some (.routine r) => if decide (0 < r.result) = b then (kindTyp r.result, ckArgs fs (s.fail 14) r.params x.l) else if r.params.length = x.l.length then (kindTyp r.result, ckArgs fs s r.params x.l) else (noTyp, s.fail 15)
        | _ => (noTyp, s.fail 13)).2 0 := by
        intro o
        rcases o with _ | (_ | _ | r)
        · exact .fail s (by decide)
        · exact .fail s (by decide)
        · exact .fail s (by decide)
        · simp only
          by_cases q : decide (0 < r.result) = b
          · rw [if_pos q]; exact (Ups.fail s (by decide)).to (ups_args h _ _)
          · rw [if_neg q]
            by_cases q2 : r.params.length = x.l.length
            · rw [if_pos q2]; exact ups_args h _ _
            · rw [if_neg q2]; exact .fail s (by decide)
      exact key _
    rw [if_neg o6]
    by_cases o7 : x.op = 9 ∨ (13 ≤ x.op ∧ x.op ≤ 14) ∨ (17 ≤ x.op ∧ x.op ≤ 18)
    · rw [if_pos o7]
      exact ups_pair h _ _
    rw [if_neg o7]
    by_cases o8 : x.op = 19 ∨ x.op = 20
    · rw [if_pos o8]
      exact ups_two h _ _
    rw [if_neg o8]
    by_cases o9 : 21 ≤ x.op ∧ x.op ≤ 24
    · rw [if_pos o9]
      exact ups_two h _ _
    rw [if_neg o9]
    exact ups_pair h _ _
  · rw [if_neg h0]; exact .refl s
theorem ups_all (fs : List Scope) : ∀ (n : Nat) (x : Expr), x.sz ≤ n → ExprU fs x
  | 0, x, h => by obtain ⟨op, k, name, field, l⟩ := x; simp [Expr.sz] at h
  | n + 1, x, h => ups_of fs x fun y hy => ups_all fs n y (by
      have := Exprs.sz_mem hy
      have := Expr.sz_eq x
      omega)
theorem ups_expr (fs : List Scope) (x : Expr) : ExprU fs x := ups_all fs _ x (Nat.le_refl _)
theorem ups_pair' (fs : List Scope) (s : CS) (l : List Expr) (k : Int) : Ups s (ckPair fs s l k) 0 := ups_pair (fun x _ => ups_expr fs x) s k
theorem ups_each (fs : List Scope) : ∀ (l : List Expr) (s : CS), Ups s (ckEach fs s l) 0
  | [], s => .refl s
  | x :: r, s => (ups_expr fs x s true).to (ups_each fs r _)
theorem ups_any (fs : List Scope) (s : CS) (x : Expr) : Ups s (ckAny fs s x).2 0 := (ups_expr fs x s false).to (ups_kind _ _)
theorem ups_anys (fs : List Scope) : ∀ (l : List Expr) (s : CS), Ups s (ckAnys fs s l) 0
  | [], s => .refl s
  | x :: r, s => (ups_any fs s x).to (ups_anys fs r _)
theorem ups_result (fs : List Scope) (s : CS) (res : Int) (e : List Expr) : Ups s (ckResult fs s res e) 0 := by
  unfold ckResult
  have a : Ups s (if decide (0 < res) = decide (0 < e.length) then s else s.fail 16) 0 := by
    split
    · exact .refl s
    · exact .fail s (by decide)
  simp only
  split
  · exact a.to (ups_pair' _ _ _ _)
  · exact a
theorem ups_stmt (fs : List Scope) (s : CS) (res : Int) (x : Stmt) : Ups s (ckStmt fs s res x) 0 := by
  unfold ckStmt
  split
  · exact ((ups_expr fs x.p s false).to (ups_kind _ _)).to (ups_pair' _ _ _ _)
  split
  · exact ups_each _ _ _
  split
  · exact ups_pair' _ _ _ _
  split
  · simp only
    exact ((ups_variable fs s _).to (Ups.okOr _ (by decide) _)).to (ups_pair' _ _ _ _)
  split
  · exact (ups_expr fs x.p s false).to (ups_kind _ _)
  split
  · exact ups_anys _ _ _
  split
  · exact ups_result _ _ _ _
  · exact .refl s
theorem ups_stmts (fs : List Scope) (res : Int) : ∀ (n : Nat) (l : List Stmt), Stmts.sz l ≤ n → ∀ s, Ups s (ckStmts fs s res l) (cntL l)
  | n, [], h, s => by simp only [ckStmts, cntL]; exact .refl s
  | 0, x :: r, h, s => by simp [Stmts.sz] at h
  | n + 1, x :: r, h, s => by
    simp only [ckStmts]
    have h1 := Stmt.sz_eq x
    have h2 : Stmts.sz (x :: r) = 1 + x.sz + Stmts.sz r := by simp only [Stmts.sz]
    by_cases hb : s.bad = 0
    · rw [if_pos hb, ckDeep_eq]
      have a := ups_stmts fs res n x.body (by omega) (ckStmt fs s.step res x)
      have b := ups_stmts fs res n x.els (by omega) (ckStmts fs (ckStmt fs s.step res x) res x.body)
      have c := ups_stmts fs res n r (by omega) (ckStmts fs (ckStmts fs (ckStmt fs s.step res x) res x.body) res x.els)
      refine ((((Ups.step s).trans (ups_stmt fs s.step res x) rfl).trans a rfl).trans b rfl).trans c ?_
      simp only [cntL, cntS_eq]; omega
    · rw [if_neg hb]; exact .bad hb rfl
theorem ups_vars {behind : List Routine} : ∀ (l : List Var) (fs : List Scope) (s : CS), Ups s (ckVars fs s l behind).2 l.length
  | [], fs, s => by simp only [ckVars]; exact .refl s
  | v :: r, fs, s => by
    simp only [ckVars]
    by_cases hb : s.bad = 0
    · rw [if_pos hb]
      have a : Ups s.step (if behind.any (fun x => decide (x.name = v.name)) then s.step.fail 12 else s.step) 0 := by
        split
        · exact .fail _ (by decide)
        · exact .refl _
      refine (((Ups.step s).trans ((a.to (ups_lay fs _ _ _)).to (ups_typ _ _ _)) rfl).trans (ups_vars r _ _) ?_)
      simp; omega
    · rw [if_neg hb]; exact .bad hb rfl
theorem ups_params : ∀ (l : List Param) (fs : List Scope) (s : CS), Ups s (ckParams fs s l).2 0
  | [], fs, s => by simp only [ckParams]; exact .refl s
  | v :: r, fs, s => by
    simp only [ckParams]
    exact ((ups_lay fs s _ _).to (ups_typ _ _ _)).to (ups_params r _ _)
theorem ups_recs : ∀ (l : List Rec) (fs : List Scope) (s : CS), Ups s (ckRecs fs s l).2 l.length
  | [], fs, s => by simp only [ckRecs]; exact .refl s
  | v :: r, fs, s => by
    simp only [ckRecs]
    by_cases hb : s.bad = 0
    · rw [if_pos hb]
      have a : Ups (ckLay fs s.step v.name (.rcd v)).2 (if twice [] v.fields then (ckLay fs s.step v.name (.rcd v)).2.fail 12 else (ckLay fs s.step v.name (.rcd v)).2) 0 := by
        split
        · exact .fail _ (by decide)
        · exact .refl _
      refine (((Ups.step s).trans ((ups_lay fs s.step _ _).to a) rfl).trans (ups_recs r _ _) ?_)
      simp; omega
    · rw [if_neg hb]; exact .bad hb rfl
theorem ups_routines : ∀ (n : Nat) (l : List Routine), Routines.sz l ≤ n → ∀ around all s, Ups s (ckRoutines around all s l) (cntRs l)
  | n, [], h, around, all, s => by simp only [ckRoutines, cntRs]; exact .refl s
  | 0, x :: r, h, around, all, s => by simp [Routines.sz] at h
  | n + 1, x :: r, h, around, all, s => by
    simp only [ckRoutines]
    have h1 := Routine.sz_eq x
    have h2 : Routines.sz (x :: r) = 1 + x.sz + Routines.sz r := by simp only [Routines.sz]
    by_cases hb : s.bad = 0
    · rw [if_pos hb]
      have a : Ups s.step (if (findIn around x.name).isSome then s.step.fail 12 else s.step) 0 := by
        split
        · exact .fail _ (by decide)
        · exact .refl _
      generalize (if (findIn around x.name).isSome then s.step.fail 12 else s.step) = s1 at a
      have c := ups_routines n r (by omega) around all (ckRoutine all s1 x)
      have b : Ups s1 (ckRoutine all s1 x) (cntR x) := by
        rw [ckRoutine_eq]
        have p := ups_params x.params ([] :: all) s1
        simp only
        have q : Ups (ckParams ([] :: all) s1 x.params).2 (if 0 < x.result ∧ endL x.body = false then (ckParams ([] :: all) s1 x.params).2.fail 16 else (ckParams ([] :: all) s1 x.params).2) 0 := by
          split
          · exact .fail _ (by decide)
          · exact .refl _
        refine (((p.to q).trans (ups_vars x.vars _ _) rfl).trans (ups_routines n x.inner (by omega) _ _ _) rfl).trans (ups_stmts _ _ _ x.body (Nat.le_refl _) _) ?_
        rw [cntR_eq, Nat.zero_add]
      refine (((Ups.step s).trans a rfl).trans b rfl).trans c ?_
      simp only [cntRs] <;> omega
    · rw [if_neg hb]; exact .bad hb rfl
theorem ups_prg (p : Prg) : Ups ⟨-1, 0⟩ (ckAll p) (cntP p) := by
  unfold ckAll
  refine (((ups_recs p.recs _ _).trans (ups_vars p.vars _ _) rfl).trans (ups_routines _ p.routines (Nat.le_refl _) _ _ _) rfl).trans (ups_stmts _ _ _ p.body (Nat.le_refl _) _) ?_
  simp only [cntP]
end Pg
