/- How many items a check that finds nothing wrong has looked at. -/
import Derived.Test.YtpebidcmkjjpnaaCheckSpec
namespace Pg
open Go
set_option linter.unusedSimpArgs false
set_option linter.unusedVariables false

/-- From a state to another: if nothing is wrong behind, nothing was ahead, and so many items were looked at. -/
def Runs (s s' : CS) (n : Nat) : Prop := s'.bad = 0 → s.bad = 0 ∧ w64 s'.item = w64 (s.item + n)
theorem Runs.refl (s : CS) : Runs s s 0 := fun h => ⟨h, by simp⟩
theorem Runs.trans {s s' s'' : CS} {n m k : Nat} (a : Runs s s' n) (b : Runs s' s'' m) (e : n + m = k) : Runs s s'' k := by
  intro h
  obtain ⟨b1, b2⟩ := b h
  obtain ⟨a1, a2⟩ := a b1
  refine ⟨a1, ?_⟩
  rw [b2, ← w64_add_l, a2, w64_add_l, ← e]
  congr 1; omega
theorem Runs.fail (s : CS) {e : Int} (he : e ≠ 0) : Runs s (s.fail e) 0 := by
  intro h
  unfold CS.fail at h ⊢
  split at h
  · exact absurd h he
  · rename_i hb; exact absurd h hb
theorem Runs.step (s : CS) : Runs s s.step 1 := fun h => ⟨h, by simp only [CS.step, w64_w64]; rfl⟩
theorem Runs.bad {s s' : CS} {n : Nat} (h : ¬ s.bad = 0) (e : s' = s) : Runs s s' n := fun hh => absurd (e ▸ hh) h
theorem Runs.to {s s' s'' : CS} (a : Runs s s' 0) (b : Runs s' s'' 0) : Runs s s'' 0 := a.trans b rfl
theorem Runs.okOr (s : CS) {e : Int} (he : e ≠ 0) (c : Prop) [Decidable c] : Runs s (if c then s else s.fail e) 0 := by
  split
  · exact .refl s
  · exact .fail s he
theorem Runs.orFail (s : CS) {e : Int} (he : e ≠ 0) (c : Prop) [Decidable c] : Runs s (if c then s.fail e else s) 0 := by
  split
  · exact .fail s he
  · exact .refl s
theorem runs_lay (fs : List Scope) (s : CS) (name : ByteArray) (x : Thing) : Runs s (ckLay fs s name x).2 0 := by
  unfold ckLay; split
  · exact .fail s (by decide)
  · exact .refl s
theorem runs_typ (fs : List Scope) (s : CS) (t : Typ) : Runs s (ckTyp fs s t) 0 := by
  unfold ckTyp; split
  · split
    · exact .refl s
    · exact .fail s (by decide)
  · exact .refl s
theorem runs_variable (fs : List Scope) (s : CS) (name : ByteArray) : Runs s (ckVariable fs s name).2 0 := by
  unfold ckVariable; split
  · exact .refl s
  · exact .fail s (by decide)
theorem runs_field (fs : List Scope) (s : CS) (t : Typ) (name : ByteArray) : Runs s (ckField fs s t name).2 0 := by
  unfold ckField; split
  · split
    · split
      · exact .refl s
      · exact .fail s (by decide)
    · exact .fail s (by decide)
  · exact .fail s (by decide)
theorem runs_kind (kinds : List Int) (p : Typ × CS) : Runs p.2 (ckKind kinds p).2 0 := by
  unfold ckKind; simp only; split
  · exact .fail _ (by decide)
  · exact .refl _
def ExprR (fs : List Scope) (x : Expr) : Prop := ∀ s b, Runs s (ckExpr fs s x b).2 0
theorem runs_pair {fs : List Scope} : ∀ {l : List Expr}, (∀ x ∈ l, ExprR fs x) → ∀ s k, Runs s (ckPair fs s l k) 0
  | [], _, s, k => by simp only [ckPair]; exact .refl s
  | x :: r, h, s, k => by
    simp only [ckPair]
    exact ((h x (by simp) s false).to (runs_kind _ _)).to (runs_pair (fun y hy => h y (by simp [hy])) _ k)
theorem runs_two {fs : List Scope} {l : List Expr} (h : ∀ x ∈ l, ExprR fs x) (s : CS) (kinds : List Int) : Runs s (ckTwo fs s kinds l) 0 := by
  cases l with
  | nil => simp only [ckTwo]; exact .refl s
  | cons x r =>
    simp only [ckTwo]
    split
    · exact ((h x (by simp) s false).to (runs_kind _ _)).to (runs_pair (fun y hy => h y (by simp [hy])) _ _)
    · exact .refl s
theorem runs_args {fs : List Scope} : ∀ {l : List Expr}, (∀ x ∈ l, ExprR fs x) → ∀ s ps, Runs s (ckArgs fs s ps l) 0
  | [], _, s, ps => by cases ps <;> simp only [ckArgs] <;> exact .refl s
  | x :: r, h, s, [] => by simp only [ckArgs]; exact .refl s
  | x :: r, h, s, p :: ps => by
    have hr : ∀ y ∈ r, ExprR fs y := fun y hy => h y (by simp [hy])
    simp only [ckArgs]
    split
    · split
      · exact ((h x (by simp) s false).to (runs_kind _ _)).to (runs_args hr _ _)
      · refine Runs.to ?_ (runs_args hr _ _)
        exact ((Runs.okOr s (by decide) _).to (h x (by simp) _ false)).to (Runs.okOr _ (by decide) _)
    · exact .refl s
theorem runs_of (fs : List Scope) (x : Expr) (h : ∀ y ∈ x.l, ExprR fs y) : ExprR fs x := by
  intro s b
  rw [ckExpr_eq]
  by_cases h0 : s.bad = 0
  · rw [if_pos h0]
    by_cases o0 : x.op = 1
    · rw [if_pos o0]
      exact .refl s
    rw [if_neg o0]
    by_cases o1 : x.op = 2
    · rw [if_pos o1]
      exact .refl s
    rw [if_neg o1]
    by_cases o2 : x.op = 3
    · rw [if_pos o2]
      exact .refl s
    rw [if_neg o2]
    by_cases o3 : x.op = 4
    · rw [if_pos o3]
      exact runs_variable fs s _
    rw [if_neg o3]
    by_cases o4 : x.op = 5
    · rw [if_pos o4]
      exact ((runs_variable fs s _).to (Runs.orFail _ (by decide) _)).to (runs_pair h _ _)
    rw [if_neg o4]
    by_cases o5 : x.op = 6
    · rw [if_pos o5]
      exact (runs_variable fs s _).to (runs_field _ _ _ _)
    rw [if_neg o5]
    by_cases o6 : x.op = 7
    · rw [if_pos o6]
      have key : ∀ o : Option Thing, Runs s (match o with
        | some (.routine r) => if decide (0 < r.result) = b then (kindTyp r.result, ckArgs fs (s.fail 14) r.params x.l) else if r.params.length = x.l.length then (kindTyp r.result, ckArgs fs s r.params x.l) else (noTyp, s.fail 15)
        | _ => (noTyp, s.fail 13)).2 0 := by
        intro o
        rcases o with _ | (_ | _ | r)
        · exact .fail s (by decide)
        · exact .fail s (by decide)
        · exact .fail s (by decide)
        · simp only
          by_cases q : decide (0 < r.result) = b
          · rw [if_pos q]; exact (Runs.fail s (by decide)).to (runs_args h _ _)
          · rw [if_neg q]
            by_cases q2 : r.params.length = x.l.length
            · rw [if_pos q2]; exact runs_args h _ _
            · rw [if_neg q2]; exact .fail s (by decide)
      exact key _
    rw [if_neg o6]
    by_cases o7 : x.op = 9 ∨ (13 ≤ x.op ∧ x.op ≤ 14) ∨ (17 ≤ x.op ∧ x.op ≤ 18)
    · rw [if_pos o7]
      exact runs_pair h _ _
    rw [if_neg o7]
    by_cases o8 : x.op = 19 ∨ x.op = 20
    · rw [if_pos o8]
      exact runs_two h _ _
    rw [if_neg o8]
    by_cases o9 : 21 ≤ x.op ∧ x.op ≤ 24
    · rw [if_pos o9]
      exact runs_two h _ _
    rw [if_neg o9]
    exact runs_pair h _ _
  · rw [if_neg h0]; exact .refl s
theorem runs_all (fs : List Scope) : ∀ (n : Nat) (x : Expr), x.sz ≤ n → ExprR fs x
  | 0, x, h => by obtain ⟨op, k, name, field, l⟩ := x; simp [Expr.sz] at h
  | n + 1, x, h => runs_of fs x fun y hy => runs_all fs n y (by
      have := Exprs.sz_mem hy
      have := Expr.sz_eq x
      omega)
theorem runs_expr (fs : List Scope) (x : Expr) : ExprR fs x := runs_all fs _ x (Nat.le_refl _)
theorem runs_pair' (fs : List Scope) (s : CS) (l : List Expr) (k : Int) : Runs s (ckPair fs s l k) 0 := runs_pair (fun x _ => runs_expr fs x) s k
theorem runs_each (fs : List Scope) : ∀ (l : List Expr) (s : CS), Runs s (ckEach fs s l) 0
  | [], s => .refl s
  | x :: r, s => (runs_expr fs x s true).to (runs_each fs r _)
theorem runs_any (fs : List Scope) (s : CS) (x : Expr) : Runs s (ckAny fs s x).2 0 := (runs_expr fs x s false).to (runs_kind _ _)
theorem runs_anys (fs : List Scope) : ∀ (l : List Expr) (s : CS), Runs s (ckAnys fs s l) 0
  | [], s => .refl s
  | x :: r, s => (runs_any fs s x).to (runs_anys fs r _)
theorem runs_result (fs : List Scope) (s : CS) (res : Int) (e : List Expr) : Runs s (ckResult fs s res e) 0 := by
  unfold ckResult
  have a : Runs s (if decide (0 < res) = decide (0 < e.length) then s else s.fail 16) 0 := by
    split
    · exact .refl s
    · exact .fail s (by decide)
  simp only
  split
  · exact a.to (runs_pair' _ _ _ _)
  · exact a
theorem runs_stmt (fs : List Scope) (s : CS) (res : Int) (x : Stmt) : Runs s (ckStmt fs s res x) 0 := by
  unfold ckStmt
  split
  · exact ((runs_expr fs x.p s false).to (runs_kind _ _)).to (runs_pair' _ _ _ _)
  split
  · exact runs_each _ _ _
  split
  · exact runs_pair' _ _ _ _
  split
  · simp only
    exact ((runs_variable fs s _).to (Runs.okOr _ (by decide) _)).to (runs_pair' _ _ _ _)
  split
  · exact (runs_expr fs x.p s false).to (runs_kind _ _)
  split
  · exact runs_anys _ _ _
  split
  · exact runs_result _ _ _ _
  · exact .refl s
theorem runs_stmts (fs : List Scope) (res : Int) : ∀ (n : Nat) (l : List Stmt), Stmts.sz l ≤ n → ∀ s, Runs s (ckStmts fs s res l) (cntL l)
  | n, [], h, s => by simp only [ckStmts, cntL]; exact .refl s
  | 0, x :: r, h, s => by simp [Stmts.sz] at h
  | n + 1, x :: r, h, s => by
    simp only [ckStmts]
    have h1 := Stmt.sz_eq x
    have h2 : Stmts.sz (x :: r) = 1 + x.sz + Stmts.sz r := by simp only [Stmts.sz]
    by_cases hb : s.bad = 0
    · rw [if_pos hb, ckDeep_eq]
      have a := runs_stmts fs res n x.body (by omega) (ckStmt fs s.step res x)
      have b := runs_stmts fs res n x.els (by omega) (ckStmts fs (ckStmt fs s.step res x) res x.body)
      have c := runs_stmts fs res n r (by omega) (ckStmts fs (ckStmts fs (ckStmt fs s.step res x) res x.body) res x.els)
      refine ((((Runs.step s).trans (runs_stmt fs s.step res x) rfl).trans a rfl).trans b rfl).trans c ?_
      simp only [cntL, cntS_eq]; omega
    · rw [if_neg hb]; exact .bad hb rfl
theorem runs_vars {behind : List Routine} : ∀ (l : List Var) (fs : List Scope) (s : CS), Runs s (ckVars fs s l behind).2 l.length
  | [], fs, s => by simp only [ckVars]; exact .refl s
  | v :: r, fs, s => by
    simp only [ckVars]
    by_cases hb : s.bad = 0
    · rw [if_pos hb]
      have a : Runs s.step (if behind.any (fun x => decide (x.name = v.name)) then s.step.fail 12 else s.step) 0 := by
        split
        · exact .fail _ (by decide)
        · exact .refl _
      refine (((Runs.step s).trans ((a.to (runs_lay fs _ _ _)).to (runs_typ _ _ _)) rfl).trans (runs_vars r _ _) ?_)
      simp; omega
    · rw [if_neg hb]; exact .bad hb rfl
theorem runs_params : ∀ (l : List Param) (fs : List Scope) (s : CS), Runs s (ckParams fs s l).2 0
  | [], fs, s => by simp only [ckParams]; exact .refl s
  | v :: r, fs, s => by
    simp only [ckParams]
    exact ((runs_lay fs s _ _).to (runs_typ _ _ _)).to (runs_params r _ _)
theorem runs_recs : ∀ (l : List Rec) (fs : List Scope) (s : CS), Runs s (ckRecs fs s l).2 l.length
  | [], fs, s => by simp only [ckRecs]; exact .refl s
  | v :: r, fs, s => by
    simp only [ckRecs]
    by_cases hb : s.bad = 0
    · rw [if_pos hb]
      have a : Runs (ckLay fs s.step v.name (.rcd v)).2 (if twice [] v.fields then (ckLay fs s.step v.name (.rcd v)).2.fail 12 else (ckLay fs s.step v.name (.rcd v)).2) 0 := by
        split
        · exact .fail _ (by decide)
        · exact .refl _
      refine (((Runs.step s).trans ((runs_lay fs s.step _ _).to a) rfl).trans (runs_recs r _ _) ?_)
      simp; omega
    · rw [if_neg hb]; exact .bad hb rfl
theorem runs_routines : ∀ (n : Nat) (l : List Routine), Routines.sz l ≤ n → ∀ around all s, Runs s (ckRoutines around all s l) (cntRs l)
  | n, [], h, around, all, s => by simp only [ckRoutines, cntRs]; exact .refl s
  | 0, x :: r, h, around, all, s => by simp [Routines.sz] at h
  | n + 1, x :: r, h, around, all, s => by
    simp only [ckRoutines]
    have h1 := Routine.sz_eq x
    have h2 : Routines.sz (x :: r) = 1 + x.sz + Routines.sz r := by simp only [Routines.sz]
    by_cases hb : s.bad = 0
    · rw [if_pos hb]
      have a : Runs s.step (if (findIn around x.name).isSome then s.step.fail 12 else s.step) 0 := by
        split
        · exact .fail _ (by decide)
        · exact .refl _
      generalize (if (findIn around x.name).isSome then s.step.fail 12 else s.step) = s1 at a
      have c := runs_routines n r (by omega) around all (ckRoutine all s1 x)
      have b : Runs s1 (ckRoutine all s1 x) (cntR x) := by
        rw [ckRoutine_eq]
        have p := runs_params x.params ([] :: all) s1
        simp only
        have q : Runs (ckParams ([] :: all) s1 x.params).2 (if 0 < x.result ∧ endL x.body = false then (ckParams ([] :: all) s1 x.params).2.fail 16 else (ckParams ([] :: all) s1 x.params).2) 0 := by
          split
          · exact .fail _ (by decide)
          · exact .refl _
        refine (((p.to q).trans (runs_vars x.vars _ _) rfl).trans (runs_routines n x.inner (by omega) _ _ _) rfl).trans (runs_stmts _ _ _ x.body (Nat.le_refl _) _) ?_
        rw [cntR_eq, Nat.zero_add]
      refine (((Runs.step s).trans a rfl).trans b rfl).trans c ?_
      simp only [cntRs] <;> omega
    · rw [if_neg hb]; exact .bad hb rfl
theorem runs_prg (p : Prg) : Runs ⟨-1, 0⟩ (ckAll p) (cntP p) := by
  unfold ckAll
  refine (((runs_recs p.recs _ _).trans (runs_vars p.vars _ _) rfl).trans (runs_routines _ p.routines (Nat.le_refl _) _ _ _) rfl).trans (runs_stmts _ _ _ p.body (Nat.le_refl _) _) ?_
  simp only [cntP]
theorem ckStmts_append (fs : List Scope) (res : Int) : ∀ (l r : List Stmt) (s : CS), ckStmts fs s res (l ++ r) = ckStmts fs (ckStmts fs s res l) res r
  | [], r, s => by simp only [List.nil_append, ckStmts]
  | x :: l, r, s => by
    simp only [List.cons_append, ckStmts]
    by_cases hb : s.bad = 0
    · simp only [if_pos hb]; exact ckStmts_append fs res l r _
    · simp only [if_neg hb]
      cases r with
      | nil => simp only [ckStmts]
      | cons y r => simp only [ckStmts, if_neg hb]
/-- A statement that makes no sense outside a routine. -/
def badRet : Stmt := ⟨[], [], 9, noBytes, ⟨0, 0, noBytes, noBytes, []⟩, [⟨1, 0, noBytes, noBytes, []⟩], false, false, [], [], [], []⟩
def moreP (p : Prg) : Prg := { p with body := p.body ++ [badRet] }
theorem ckAll_more (p : Prg) : ckAll (moreP p) = if (ckAll p).bad = 0 then (ckAll p).step.fail 16 else ckAll p := by
  unfold ckAll moreP
  simp only
  rw [ckStmts_append]
  generalize ckStmts (allOf [] p.routines :: _) _ 0 p.body = s
  simp only [ckStmts, ckDeep_eq, badRet]
  split
  · simp [ckStmt, ckResult]
  · rfl
theorem more_law (p : Prg) : if (check p).2 = 0 then check (moreP p) = (w64 (cntP p), 16) else check (moreP p) = check p := by
  by_cases hb : (ckAll p).bad = 0
  · have h1 : (check p).2 = 0 := by simp [check, hb]
    rw [if_pos h1]
    have hb' : ¬ (ckAll (moreP p)).bad = 0 := by rw [ckAll_more, if_pos hb]; simp [CS.fail, CS.step, hb]
    have hm := ckAll_more p
    rw [if_pos hb] at hm
    have e1 : check (moreP p) = ((ckAll (moreP p)).item, (ckAll (moreP p)).bad) := by simp [check, hb']
    rw [e1, hm]
    have := (runs_prg p hb).2
    simp only [CS.fail, CS.step, hb, if_true]
    refine Prod.ext ?_ rfl
    simp only
    rw [← w64_add_l, this, w64_add_l]
    congr 1; simp only; omega
  · have h1 : ¬ (check p).2 = 0 := by simp [check, hb]
    rw [if_neg h1]
    simp only [check, ckAll_more, if_neg hb]
end Pg
