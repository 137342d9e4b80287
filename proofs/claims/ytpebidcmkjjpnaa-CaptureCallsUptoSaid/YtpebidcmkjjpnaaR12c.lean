import Derived.Test.YtpebidcmkjjpnaaTreeS
import Derived.Test.YtpebidcmkjjpnaaR12b
namespace Pg
open Go
set_option linter.unusedSimpArgs false
set_option linter.unusedVariables false
set_option maxHeartbeats 4000000
set_option maxRecDepth 4000
theorem tExpr_form {x : Expr} (h : tExpr x = true) : form 48 x = true := by
  unfold tExpr at h
  simp only [Bool.and_eq_true] at h
  exact h.1
theorem tStmt_eq (x : Stmt) (d : Int) : tStmt x d = (decide (d ≤ 48) && tStmt1 x && (tStmts x.body (d + 1) && decide (x.body.length ≤ 512)) && (tStmts x.els (d + 1) && decide (x.els.length ≤ 512))) := by
  obtain ⟨before, trail, op, name, p, e, down, more, body, els, end1, end2⟩ := x; rfl
theorem tStmts_mem {d : Int} : ∀ {l : List Stmt} {x : Stmt}, tStmts l d = true → x ∈ l → tStmt x d = true
  | y :: r, x, h, hx => by
    simp only [tStmts, Bool.and_eq_true] at h
    rcases List.mem_cons.1 hx with rfl | hx
    · exact h.1
    · exact tStmts_mem h.2 hx
structure SOk (x : Stmt) : Prop where
  op1 : 1 ≤ x.op
  op9 : x.op ≤ 9
  lo : (if x.op = 6 then 2 else if x.op = 7 then 0 else if x.op = 9 then 0 else 1) ≤ x.e.length
  hi : x.e.length ≤ if x.op = 6 then 2 else if x.op = 7 then 0 else 1
  e : ∀ y ∈ x.e, ∀ b, Exp12 y b
  p : x.op = 1 ∨ x.op = 7 → ∀ b, Exp12 x.p b
theorem tStmt1_ok {x : Stmt} (h : tStmt1 x = true) : SOk x := by
  unfold tStmt1 sMarks sCount sPlace at h
  simp only [Bool.and_eq_true, decide_eq_true_eq, List.all_eq_true] at h
  obtain ⟨⟨⟨⟨⟨⟨⟨⟨_, h1⟩, h2⟩, h3, h4⟩, h5⟩, h6⟩, _⟩, _⟩, _⟩ := h
  refine ⟨h1, h2, h3, h4, fun y hy b => ?_, fun hh b => ?_⟩
  · have := h5 y hy
    unfold sExpr at this
    simp only [Bool.and_eq_true] at this
    intro h c s hc env o full
    exact expr_spec12 _ y (tExpr_form this.1) b hc o full
  · rw [if_pos hh] at h6
    unfold tPlace at h6
    simp only [Bool.and_eq_true] at h6
    intro h c s hc env o full
    exact expr_spec12 _ _ (tExpr_form h6.2) b hc o full
theorem rStmts_bad (env : List Th) {s : CS} (h : s.bad ≠ 0) (res : Int) (l : List Stmt) : rStmts env s res l = s := by
  cases l with
  | nil => rfl
  | cons x l => simp [rStmts, h]
theorem stmts_spec12 (res : Int) : ∀ (n : Nat) (l : List Stmt) (d : Int), Stmts.sz l ≤ n → tStmts l d = true → l.length ≤ 512 → ∀ {h : AHeap} {c : Nat} {s : CS} {env : List Th}, h c = some (lkBlk s) → EnvOk env → ∀ full f2 : Bool,
    Lks 100 [.sl (eEnv env) full, .int .i64 res, .sl (l.map eStmt) f2] h c (.tuple []) (rStmts env s res l) := by
  intro n
  induction n with
  | zero =>
    intro l d hn ht hl h c s env hc o full f2
    cases l with
    | cons x r => simp [Stmts.sz] at hn
    | nil =>
      refine F100.calls (by simp) ?_
      delta F100.c0
      simp -implicitDefEqProofs only [↓pgPre,go_sem,seval]
      refine lT_round ?_
      simp -implicitDefEqProofs only [↓pgPre,go_sem,seval]
      exact .same ⟨rfl, (upd_self hc).symm⟩
  | succ n ih =>
    intro l d hn ht hl h c s env hc o full f2
    refine F100.calls (by simp) ?_
    delta F100.c0
    simp -implicitDefEqProofs only [↓pgPre,go_sem,seval]
    refine lT_list l (fun pre post e g => (∃ s', rStmts env s res l = rStmts env s' res post ∧ g = h.upd c (lkBlk s')) ∧ e = [(0, .ptr (some ⟨c, 0, none⟩)), (1, .sl (eEnv env) full), (2, .int .i64 res), (3, .sl (l.map eStmt) f2), (8, .int .i64 pre.length)]) (WeakE.env ?_) ⟨⟨s, rfl, (upd_self hc).symm⟩, rfl⟩ ?_ ?_
    · skip
      repeat' (first | exact EnvLe.nil _ | refine EnvLe.cons ?_ ?_)
      all_goals (simp -implicitDefEqProofs only [↓pgPre,go_sem,seval]; try first | exact AVle.refl _ | exact AVle.sl _ _ | exact AVle.gs _ _ _ | assumption)
    · rintro pre x post e g hp ⟨⟨s', hs, rfl⟩, rfl⟩
      have hx := mem_at hp
      have hxz := Stmts.sz_mem hx
      have hz := Stmt.sz_eq x
      have ht' := tStmts_mem ht hx
      rw [tStmt_eq] at ht'
      simp only [Bool.and_eq_true, decide_eq_true_eq] at ht'
      obtain ⟨⟨⟨hd, hso⟩, htb, hlb⟩, hte, hle⟩ := ht'
      have so := tStmt1_ok hso
      by_cases hb : s'.bad = 0
      · simp -implicitDefEqProofs only [↓pgPre,go_sem,seval, lt_at hp]
        refine callT_of (next_spec12 (s := s') (upd_same _ _ _)) (fun v g ⟨hv, hg⟩ => ?_)
        subst v g
        simp -implicitDefEqProofs only [↓pgPre,go_sem,seval, hb, upd_upd, aia_sl (map_at hp) (eStmt_len x), eStmt_len, stmt_take]
        have lo := so.lo
        have hi := so.hi
        have one : x.op ≠ 6 → x.op ≠ 7 → x.op ≠ 9 → ∃ a, x.e = [a] := fun h6 h7 h9 => by
          rw [if_neg h6, if_neg h7, if_neg h9] at lo
          rw [if_neg h6, if_neg h7] at hi
          exact List.length_eq_one_iff.1 (by omega)
        have hsp : rStmts env s' res (x :: post) = rStmts env (rDeep env s'.step res x) res post := by simp only [rStmts, hb, if_true]
        have hP : ((eStmt x).drop 4).take 5 = eExpr x.p := by rw [eStmt_eq, eExpr_eq]; rfl
        have gap : x.op = 1 ∨ x.op = 2 ∨ x.op = 3 ∨ x.op = 4 ∨ x.op = 5 ∨ x.op = 6 ∨ x.op = 7 ∨ x.op = 8 ∨ x.op = 9 := by have := so.op1; have := so.op9; omega
        have hA : ∀ a, x.e = [a] → aia 5 (.sl (x.e.map eExpr) false) (.int .i64 0) = some (.ip (eExpr a) 0) := fun a ha => aia_sl (i := 0) (by rw [ha]; rfl) (eExpr_len a)
        rcases gap with g | g | g | g | g | g | g | g | g
        · obtain ⟨a, ha⟩ := one (by omega) (by omega) (by omega)
          have hX : rStmt env s'.step res x = (rKind (rKind 0 (rExpr env s'.step x.p false)).1 (rExpr env (rKind 0 (rExpr env s'.step x.p false)).2 a false)).2 := by simp [rStmt, g, ha, rHead]
          simp -implicitDefEqProofs only [↓pgPre,go_sem,seval, stmt_2, g, hP]
          refine callT_of (value_spec12 (so.p (.inl g) false) (upd_same _ _ _) o full 0) (fun v g ⟨hv, hg⟩ => ?_)
          subst v g
          simp -implicitDefEqProofs only [↓pgPre,go_sem,seval, upd_upd, stmt_9, hA a ha, eExpr_len, expr_take]
          refine callT_of (value_spec12 (so.e a (by rw [ha]; simp) false) (upd_same _ _ _) o full _) (fun v g ⟨hv, hg⟩ => ?_)
          subst v g
          rw [← hX]
          simp -implicitDefEqProofs only [↓pgPre,go_sem,seval, upd_upd, stmt_12]
          refine callT_of (ih x.body (d + 1) (by omega) htb hlb (upd_same _ _ _) o full false) (fun v g ⟨hv, hg⟩ => ?_)
          subst v g
          simp -implicitDefEqProofs only [↓pgPre,go_sem,seval, upd_upd, stmt_13]
          refine callT_of (ih x.els (d + 1) (by omega) hte hle (upd_same _ _ _) o full false) (fun v g ⟨hv, hg⟩ => ?_)
          subst v g
          simp -implicitDefEqProofs only [↓pgPre,go_sem,seval, upd_upd]
          refine ⟨_, _, WeakE.env ?_, ⟨_, ?_, rfl⟩, rfl⟩
          · skip
            repeat' (first | exact EnvLe.nil _ | refine EnvLe.cons ?_ ?_)
            all_goals (simp -implicitDefEqProofs only [↓pgPre,go_sem,seval, step_at (few_small (l := l) (by omega)) hp]; try first | exact AVle.refl _ | exact AVle.sl _ _ | exact AVle.gs _ _ _ | assumption)
          · rw [hs, hsp, rDeep_eq]
        · obtain ⟨a, ha⟩ := one (by omega) (by omega) (by omega)
          have hX : rStmt env s'.step res x = (rExpr env s'.step a true).2 := by simp [rStmt, g, ha, rCall]
          simp -implicitDefEqProofs only [↓pgPre,go_sem,seval, stmt_2, g, stmt_9, hA a ha, eExpr_len, expr_take]
          refine callT_of (so.e a (by rw [ha]; simp) true (upd_same _ _ _) o full) (fun v g ⟨hv, hg⟩ => ?_)
          subst v g
          rw [← hX]
          simp -implicitDefEqProofs only [↓pgPre,go_sem,seval, upd_upd, stmt_12]
          refine callT_of (ih x.body (d + 1) (by omega) htb hlb (upd_same _ _ _) o full false) (fun v g ⟨hv, hg⟩ => ?_)
          subst v g
          simp -implicitDefEqProofs only [↓pgPre,go_sem,seval, upd_upd, stmt_13]
          refine callT_of (ih x.els (d + 1) (by omega) hte hle (upd_same _ _ _) o full false) (fun v g ⟨hv, hg⟩ => ?_)
          subst v g
          simp -implicitDefEqProofs only [↓pgPre,go_sem,seval, upd_upd]
          refine ⟨_, _, WeakE.env ?_, ⟨_, ?_, rfl⟩, rfl⟩
          · skip
            repeat' (first | exact EnvLe.nil _ | refine EnvLe.cons ?_ ?_)
            all_goals (simp -implicitDefEqProofs only [↓pgPre,go_sem,seval, step_at (few_small (l := l) (by omega)) hp]; try first | exact AVle.refl _ | exact AVle.sl _ _ | exact AVle.gs _ _ _ | assumption)
          · rw [hs, hsp, rDeep_eq]
        iterate 3
          · obtain ⟨a, ha⟩ := one (by omega) (by omega) (by omega)
            have hX : rStmt env s'.step res x = (rKind 2 (rExpr env s'.step a false)).2 := by simp [rStmt, g, ha, rHead]
            simp -implicitDefEqProofs only [↓pgPre,go_sem,seval, stmt_2, g, stmt_9, hA a ha, eExpr_len, expr_take]
            refine callT_of (value_spec12 (so.e a (by rw [ha]; simp) false) (upd_same _ _ _) o full 2) (fun v g ⟨hv, hg⟩ => ?_)
            subst v g
            rw [← hX]
            simp -implicitDefEqProofs only [↓pgPre,go_sem,seval, upd_upd, stmt_12]
            refine callT_of (ih x.body (d + 1) (by omega) htb hlb (upd_same _ _ _) o full false) (fun v g ⟨hv, hg⟩ => ?_)
            subst v g
            simp -implicitDefEqProofs only [↓pgPre,go_sem,seval, upd_upd, stmt_13]
            refine callT_of (ih x.els (d + 1) (by omega) hte hle (upd_same _ _ _) o full false) (fun v g ⟨hv, hg⟩ => ?_)
            subst v g
            simp -implicitDefEqProofs only [↓pgPre,go_sem,seval, upd_upd]
            refine ⟨_, _, WeakE.env ?_, ⟨_, ?_, rfl⟩, rfl⟩
            · skip
              repeat' (first | exact EnvLe.nil _ | refine EnvLe.cons ?_ ?_)
              all_goals (simp -implicitDefEqProofs only [↓pgPre,go_sem,seval, step_at (few_small (l := l) (by omega)) hp]; try first | exact AVle.refl _ | exact AVle.sl _ _ | exact AVle.gs _ _ _ | assumption)
            · rw [hs, hsp, rDeep_eq]
        · obtain ⟨a, b, hab⟩ : ∃ a b, x.e = [a, b] := by
            rw [if_pos g] at lo hi
            have hl2 : x.e.length = 2 := by omega
            match hm : x.e, hl2 with
            | [a, b], _ => exact ⟨a, b, rfl⟩
          have hA6 : aia 5 (.sl (x.e.map eExpr) false) (.int .i64 0) = some (.ip (eExpr a) 0) := aia_sl (i := 0) (by rw [hab]; rfl) (eExpr_len a)
          have hB6 : aia 5 (.sl (x.e.map eExpr) false) (.int .i64 1) = some (.ip (eExpr b) 0) := aia_sl (i := 1) (by rw [hab]; rfl) (eExpr_len b)
          have hX : ∀ s2, (if (rVariable env s'.step x.name).1.kind ≠ 1 ∨ (rVariable env s'.step x.name).1.size ≠ 0 then (rVariable env s'.step x.name).2.fail 14 else (rVariable env s'.step x.name).2) = s2 → rStmt env s'.step res x = (rKind 1 (rExpr env (rKind 1 (rExpr env s2 a false)).2 b false)).2 := by rintro s2 rfl; simp [rStmt, g, hab, rHead]
          simp -implicitDefEqProofs only [↓pgPre,go_sem,seval, stmt_2, g, stmt_3]
          refine callT_of (variable_spec12 (upd_same _ _ _) env o.fewE full x.name) (fun v g ⟨hv, hg⟩ => ?_)
          subst v g
          generalize rVariable env s'.step x.name = q at hX
          by_cases hk : q.1.kind = 1
          · by_cases hz' : q.1.size = 0
            · have hX := hX q.2 (by simp [hk, hz'])
              simp -implicitDefEqProofs only [↓pgPre,go_sem,seval, eTyp_len, typ_take, typ_0, typ_1, hk, hz', upd_upd, stmt_9, hA6, eExpr_len, expr_take]
              refine callT_of (value_spec12 (so.e a (by rw [hab]; simp) false) (upd_same _ _ _) o full 1) (fun v g ⟨hv, hg⟩ => ?_)
              subst v g
              simp -implicitDefEqProofs only [↓pgPre,go_sem,seval, upd_upd, stmt_9, hB6, eExpr_len, expr_take]
              refine callT_of (value_spec12 (so.e b (by rw [hab]; simp) false) (upd_same _ _ _) o full 1) (fun v g ⟨hv, hg⟩ => ?_)
              subst v g
              rw [← hX]
              simp -implicitDefEqProofs only [↓pgPre,go_sem,seval, upd_upd, stmt_12]
              refine callT_of (ih x.body (d + 1) (by omega) htb hlb (upd_same _ _ _) o full false) (fun v g ⟨hv, hg⟩ => ?_)
              subst v g
              simp -implicitDefEqProofs only [↓pgPre,go_sem,seval, upd_upd, stmt_13]
              refine callT_of (ih x.els (d + 1) (by omega) hte hle (upd_same _ _ _) o full false) (fun v g ⟨hv, hg⟩ => ?_)
              subst v g
              simp -implicitDefEqProofs only [↓pgPre,go_sem,seval, upd_upd]
              refine ⟨_, _, WeakE.env ?_, ⟨_, ?_, rfl⟩, rfl⟩
              · skip
                repeat' (first | exact EnvLe.nil _ | refine EnvLe.cons ?_ ?_)
                all_goals (simp -implicitDefEqProofs only [↓pgPre,go_sem,seval, step_at (few_small (l := l) (by omega)) hp]; try first | exact AVle.refl _ | exact AVle.sl _ _ | exact AVle.gs _ _ _ | assumption)
              · rw [hs, hsp, rDeep_eq]
            · have hX := hX (q.2.fail 14) (by simp [hk, hz'])
              simp -implicitDefEqProofs only [↓pgPre,go_sem,seval, eTyp_len, typ_take, typ_0, typ_1, hk, hz']
              refine callT_of (fail_spec12 (upd_same _ _ _) 14) (fun v g ⟨hv, hg⟩ => ?_)
              subst v g
              simp -implicitDefEqProofs only [↓pgPre,go_sem,seval, upd_upd, stmt_9, hA6, eExpr_len, expr_take]
              refine callT_of (value_spec12 (so.e a (by rw [hab]; simp) false) (upd_same _ _ _) o full 1) (fun v g ⟨hv, hg⟩ => ?_)
              subst v g
              simp -implicitDefEqProofs only [↓pgPre,go_sem,seval, upd_upd, stmt_9, hB6, eExpr_len, expr_take]
              refine callT_of (value_spec12 (so.e b (by rw [hab]; simp) false) (upd_same _ _ _) o full 1) (fun v g ⟨hv, hg⟩ => ?_)
              subst v g
              rw [← hX]
              simp -implicitDefEqProofs only [↓pgPre,go_sem,seval, upd_upd, stmt_12]
              refine callT_of (ih x.body (d + 1) (by omega) htb hlb (upd_same _ _ _) o full false) (fun v g ⟨hv, hg⟩ => ?_)
              subst v g
              simp -implicitDefEqProofs only [↓pgPre,go_sem,seval, upd_upd, stmt_13]
              refine callT_of (ih x.els (d + 1) (by omega) hte hle (upd_same _ _ _) o full false) (fun v g ⟨hv, hg⟩ => ?_)
              subst v g
              simp -implicitDefEqProofs only [↓pgPre,go_sem,seval, upd_upd]
              refine ⟨_, _, WeakE.env ?_, ⟨_, ?_, rfl⟩, rfl⟩
              · skip
                repeat' (first | exact EnvLe.nil _ | refine EnvLe.cons ?_ ?_)
                all_goals (simp -implicitDefEqProofs only [↓pgPre,go_sem,seval, step_at (few_small (l := l) (by omega)) hp]; try first | exact AVle.refl _ | exact AVle.sl _ _ | exact AVle.gs _ _ _ | assumption)
              · rw [hs, hsp, rDeep_eq]
          · have hX := hX (q.2.fail 14) (by simp [hk])
            simp -implicitDefEqProofs only [↓pgPre,go_sem,seval, eTyp_len, typ_take, typ_0, typ_1, hk]
            refine callT_of (fail_spec12 (upd_same _ _ _) 14) (fun v g ⟨hv, hg⟩ => ?_)
            subst v g
            simp -implicitDefEqProofs only [↓pgPre,go_sem,seval, upd_upd, stmt_9, hA6, eExpr_len, expr_take]
            refine callT_of (value_spec12 (so.e a (by rw [hab]; simp) false) (upd_same _ _ _) o full 1) (fun v g ⟨hv, hg⟩ => ?_)
            subst v g
            simp -implicitDefEqProofs only [↓pgPre,go_sem,seval, upd_upd, stmt_9, hB6, eExpr_len, expr_take]
            refine callT_of (value_spec12 (so.e b (by rw [hab]; simp) false) (upd_same _ _ _) o full 1) (fun v g ⟨hv, hg⟩ => ?_)
            subst v g
            rw [← hX]
            simp -implicitDefEqProofs only [↓pgPre,go_sem,seval, upd_upd, stmt_12]
            refine callT_of (ih x.body (d + 1) (by omega) htb hlb (upd_same _ _ _) o full false) (fun v g ⟨hv, hg⟩ => ?_)
            subst v g
            simp -implicitDefEqProofs only [↓pgPre,go_sem,seval, upd_upd, stmt_13]
            refine callT_of (ih x.els (d + 1) (by omega) hte hle (upd_same _ _ _) o full false) (fun v g ⟨hv, hg⟩ => ?_)
            subst v g
            simp -implicitDefEqProofs only [↓pgPre,go_sem,seval, upd_upd]
            refine ⟨_, _, WeakE.env ?_, ⟨_, ?_, rfl⟩, rfl⟩
            · skip
              repeat' (first | exact EnvLe.nil _ | refine EnvLe.cons ?_ ?_)
              all_goals (simp -implicitDefEqProofs only [↓pgPre,go_sem,seval, step_at (few_small (l := l) (by omega)) hp]; try first | exact AVle.refl _ | exact AVle.sl _ _ | exact AVle.gs _ _ _ | assumption)
            · rw [hs, hsp, rDeep_eq]
        · have hX : rStmt env s'.step res x = if (rKind 0 (rExpr env s'.step x.p false)).1 = 2 then (rKind 0 (rExpr env s'.step x.p false)).2.fail 14 else (rKind 0 (rExpr env s'.step x.p false)).2 := by simp [rStmt, g]
          simp -implicitDefEqProofs only [↓pgPre,go_sem,seval, stmt_2, g, hP]
          refine callT_of (value_spec12 (so.p (.inr g) false) (upd_same _ _ _) o full 0) (fun v g ⟨hv, hg⟩ => ?_)
          subst v g
          generalize rKind 0 (rExpr env s'.step x.p false) = q at hX
          by_cases hk : q.1 = 2
          · rw [if_pos hk] at hX
            simp -implicitDefEqProofs only [↓pgPre,go_sem,seval, hk]
            refine callT_of (fail_spec12 (upd_same _ _ _) 14) (fun v g ⟨hv, hg⟩ => ?_)
            subst v g
            rw [← hX]
            simp -implicitDefEqProofs only [↓pgPre,go_sem,seval, upd_upd, stmt_12]
            refine callT_of (ih x.body (d + 1) (by omega) htb hlb (upd_same _ _ _) o full false) (fun v g ⟨hv, hg⟩ => ?_)
            subst v g
            simp -implicitDefEqProofs only [↓pgPre,go_sem,seval, upd_upd, stmt_13]
            refine callT_of (ih x.els (d + 1) (by omega) hte hle (upd_same _ _ _) o full false) (fun v g ⟨hv, hg⟩ => ?_)
            subst v g
            simp -implicitDefEqProofs only [↓pgPre,go_sem,seval, upd_upd]
            refine ⟨_, _, WeakE.env ?_, ⟨_, ?_, rfl⟩, rfl⟩
            · skip
              repeat' (first | exact EnvLe.nil _ | refine EnvLe.cons ?_ ?_)
              all_goals (simp -implicitDefEqProofs only [↓pgPre,go_sem,seval, step_at (few_small (l := l) (by omega)) hp]; try first | exact AVle.refl _ | exact AVle.sl _ _ | exact AVle.gs _ _ _ | assumption)
            · rw [hs, hsp, rDeep_eq]
          · rw [if_neg hk] at hX
            simp -implicitDefEqProofs only [↓pgPre,go_sem,seval, hk]
            rw [← hX]
            simp -implicitDefEqProofs only [↓pgPre,go_sem,seval, upd_upd, stmt_12]
            refine callT_of (ih x.body (d + 1) (by omega) htb hlb (upd_same _ _ _) o full false) (fun v g ⟨hv, hg⟩ => ?_)
            subst v g
            simp -implicitDefEqProofs only [↓pgPre,go_sem,seval, upd_upd, stmt_13]
            refine callT_of (ih x.els (d + 1) (by omega) hte hle (upd_same _ _ _) o full false) (fun v g ⟨hv, hg⟩ => ?_)
            subst v g
            simp -implicitDefEqProofs only [↓pgPre,go_sem,seval, upd_upd]
            refine ⟨_, _, WeakE.env ?_, ⟨_, ?_, rfl⟩, rfl⟩
            · skip
              repeat' (first | exact EnvLe.nil _ | refine EnvLe.cons ?_ ?_)
              all_goals (simp -implicitDefEqProofs only [↓pgPre,go_sem,seval, step_at (few_small (l := l) (by omega)) hp]; try first | exact AVle.refl _ | exact AVle.sl _ _ | exact AVle.gs _ _ _ | assumption)
            · rw [hs, hsp, rDeep_eq]
        · obtain ⟨a, ha⟩ := one (by omega) (by omega) (by omega)
          have hX : rStmt env s'.step res x = (rKind 0 (rExpr env s'.step a false)).2 := by simp [rStmt, g, ha, rHead]
          simp -implicitDefEqProofs only [↓pgPre,go_sem,seval, stmt_2, g, stmt_9, hA a ha, eExpr_len, expr_take]
          refine callT_of (value_spec12 (so.e a (by rw [ha]; simp) false) (upd_same _ _ _) o full 0) (fun v g ⟨hv, hg⟩ => ?_)
          subst v g
          rw [← hX]
          simp -implicitDefEqProofs only [↓pgPre,go_sem,seval, upd_upd, stmt_12]
          refine callT_of (ih x.body (d + 1) (by omega) htb hlb (upd_same _ _ _) o full false) (fun v g ⟨hv, hg⟩ => ?_)
          subst v g
          simp -implicitDefEqProofs only [↓pgPre,go_sem,seval, upd_upd, stmt_13]
          refine callT_of (ih x.els (d + 1) (by omega) hte hle (upd_same _ _ _) o full false) (fun v g ⟨hv, hg⟩ => ?_)
          subst v g
          simp -implicitDefEqProofs only [↓pgPre,go_sem,seval, upd_upd]
          refine ⟨_, _, WeakE.env ?_, ⟨_, ?_, rfl⟩, rfl⟩
          · skip
            repeat' (first | exact EnvLe.nil _ | refine EnvLe.cons ?_ ?_)
            all_goals (simp -implicitDefEqProofs only [↓pgPre,go_sem,seval, step_at (few_small (l := l) (by omega)) hp]; try first | exact AVle.refl _ | exact AVle.sl _ _ | exact AVle.gs _ _ _ | assumption)
          · rw [hs, hsp, rDeep_eq]
        · have hee : x.e = [] ∨ ∃ a, x.e = [a] := by
            have hh : x.e.length ≤ 1 := by rw [if_neg (by omega), if_neg (by omega)] at hi; exact hi
            match hm : x.e, hh with
            | [], _ => exact .inl rfl
            | [a], _ => exact .inr ⟨a, rfl⟩
          rcases hee with ha | ⟨a, ha⟩
          · have hlen : (((x.e.length : Nat) : Int) > 0) = False := by rw [ha]; simp
            by_cases hr : res > 0
            · have hX : rStmt env s'.step res x = s'.step.fail 16 := by
                have hr' : 0 < res := hr
                simp [rStmt, g, ha, rHead, hr']
              simp -implicitDefEqProofs only [↓pgPre,go_sem,seval, stmt_2, stmt_9, g, hr, hlen]
              refine callT_of (fail_spec12 (upd_same _ _ _) 16) (fun v g ⟨hv, hg⟩ => ?_)
              subst v g
              rw [← hX]
              simp -implicitDefEqProofs only [↓pgPre,go_sem,seval, upd_upd, stmt_9, hlen, stmt_12]
              refine callT_of (ih x.body (d + 1) (by omega) htb hlb (upd_same _ _ _) o full false) (fun v g ⟨hv, hg⟩ => ?_)
              subst v g
              simp -implicitDefEqProofs only [↓pgPre,go_sem,seval, upd_upd, stmt_13]
              refine callT_of (ih x.els (d + 1) (by omega) hte hle (upd_same _ _ _) o full false) (fun v g ⟨hv, hg⟩ => ?_)
              subst v g
              simp -implicitDefEqProofs only [↓pgPre,go_sem,seval, upd_upd]
              refine ⟨_, _, WeakE.env ?_, ⟨_, ?_, rfl⟩, rfl⟩
              · skip
                repeat' (first | exact EnvLe.nil _ | refine EnvLe.cons ?_ ?_)
                all_goals (simp -implicitDefEqProofs only [↓pgPre,go_sem,seval, step_at (few_small (l := l) (by omega)) hp]; try first | exact AVle.refl _ | exact AVle.sl _ _ | exact AVle.gs _ _ _ | assumption)
              · rw [hs, hsp, rDeep_eq]
            · have hX : rStmt env s'.step res x = s'.step := by
                have hr' : ¬ 0 < res := hr
                simp [rStmt, g, ha, rHead, hr']
              simp -implicitDefEqProofs only [↓pgPre,go_sem,seval, g, hr, hlen]
              rw [← hX]
              refine callT_of (ih x.body (d + 1) (by omega) htb hlb (upd_same _ _ _) o full false) (fun v g ⟨hv, hg⟩ => ?_)
              subst v g
              simp -implicitDefEqProofs only [↓pgPre,go_sem,seval, upd_upd, stmt_13]
              refine callT_of (ih x.els (d + 1) (by omega) hte hle (upd_same _ _ _) o full false) (fun v g ⟨hv, hg⟩ => ?_)
              subst v g
              simp -implicitDefEqProofs only [↓pgPre,go_sem,seval, upd_upd]
              refine ⟨_, _, WeakE.env ?_, ⟨_, ?_, rfl⟩, rfl⟩
              · skip
                repeat' (first | exact EnvLe.nil _ | refine EnvLe.cons ?_ ?_)
                all_goals (simp -implicitDefEqProofs only [↓pgPre,go_sem,seval, step_at (few_small (l := l) (by omega)) hp]; try first | exact AVle.refl _ | exact AVle.sl _ _ | exact AVle.gs _ _ _ | assumption)
              · rw [hs, hsp, rDeep_eq]
          · have hlen : (((x.e.length : Nat) : Int) > 0) = True := by rw [ha]; simp
            by_cases hr : res > 0
            · have hX : rStmt env s'.step res x = (rKind res (rExpr env s'.step a false)).2 := by
                have hr' : 0 < res := hr
                simp [rStmt, g, ha, rHead, hr']
              simp -implicitDefEqProofs only [↓pgPre,go_sem,seval, stmt_2, stmt_9, g, hr, hlen, hA a ha, eExpr_len, expr_take]
              refine callT_of (value_spec12 (so.e a (by rw [ha]; simp) false) (upd_same _ _ _) o full res) (fun v g ⟨hv, hg⟩ => ?_)
              subst v g
              rw [← hX]
              simp -implicitDefEqProofs only [↓pgPre,go_sem,seval, upd_upd, stmt_12]
              refine callT_of (ih x.body (d + 1) (by omega) htb hlb (upd_same _ _ _) o full false) (fun v g ⟨hv, hg⟩ => ?_)
              subst v g
              simp -implicitDefEqProofs only [↓pgPre,go_sem,seval, upd_upd, stmt_13]
              refine callT_of (ih x.els (d + 1) (by omega) hte hle (upd_same _ _ _) o full false) (fun v g ⟨hv, hg⟩ => ?_)
              subst v g
              simp -implicitDefEqProofs only [↓pgPre,go_sem,seval, upd_upd]
              refine ⟨_, _, WeakE.env ?_, ⟨_, ?_, rfl⟩, rfl⟩
              · skip
                repeat' (first | exact EnvLe.nil _ | refine EnvLe.cons ?_ ?_)
                all_goals (simp -implicitDefEqProofs only [↓pgPre,go_sem,seval, step_at (few_small (l := l) (by omega)) hp]; try first | exact AVle.refl _ | exact AVle.sl _ _ | exact AVle.gs _ _ _ | assumption)
              · rw [hs, hsp, rDeep_eq]
            · have hX : rStmt env s'.step res x = (rKind res (rExpr env (s'.step.fail 16) a false)).2 := by
                have hr' : ¬ 0 < res := hr
                simp [rStmt, g, ha, rHead, hr']
              simp -implicitDefEqProofs only [↓pgPre,go_sem,seval, stmt_2, stmt_9, g, hr, hlen]
              refine callT_of (fail_spec12 (upd_same _ _ _) 16) (fun v g ⟨hv, hg⟩ => ?_)
              subst v g
              simp -implicitDefEqProofs only [↓pgPre,go_sem,seval, upd_upd, stmt_9, hlen, hA a ha, eExpr_len, expr_take]
              refine callT_of (value_spec12 (so.e a (by rw [ha]; simp) false) (upd_same _ _ _) o full res) (fun v g ⟨hv, hg⟩ => ?_)
              subst v g
              rw [← hX]
              simp -implicitDefEqProofs only [↓pgPre,go_sem,seval, upd_upd, stmt_12]
              refine callT_of (ih x.body (d + 1) (by omega) htb hlb (upd_same _ _ _) o full false) (fun v g ⟨hv, hg⟩ => ?_)
              subst v g
              simp -implicitDefEqProofs only [↓pgPre,go_sem,seval, upd_upd, stmt_13]
              refine callT_of (ih x.els (d + 1) (by omega) hte hle (upd_same _ _ _) o full false) (fun v g ⟨hv, hg⟩ => ?_)
              subst v g
              simp -implicitDefEqProofs only [↓pgPre,go_sem,seval, upd_upd]
              refine ⟨_, _, WeakE.env ?_, ⟨_, ?_, rfl⟩, rfl⟩
              · skip
                repeat' (first | exact EnvLe.nil _ | refine EnvLe.cons ?_ ?_)
                all_goals (simp -implicitDefEqProofs only [↓pgPre,go_sem,seval, step_at (few_small (l := l) (by omega)) hp]; try first | exact AVle.refl _ | exact AVle.sl _ _ | exact AVle.gs _ _ _ | assumption)
              · rw [hs, hsp, rDeep_eq]
      · simp -implicitDefEqProofs only [↓pgPre,go_sem,seval, lt_at hp]
        refine callT_of (next_spec12 (s := s') (upd_same _ _ _)) (fun v g ⟨hv, hg⟩ => ?_)
        subst v g
        simp -implicitDefEqProofs only [↓pgPre,go_sem,seval, hb, upd_upd]
        refine lessQ.same ?_
        simp -implicitDefEqProofs only [↓pgPre,go_sem,seval]
        refine .same ⟨rfl, ?_⟩
        rw [hs, rStmts_bad env hb]
    · rintro e g ⟨⟨s', hs, rfl⟩, rfl⟩
      simp -implicitDefEqProofs only [↓pgPre,go_sem,seval, lt_end]
      refine lessQ.same ?_
      simp -implicitDefEqProofs only [↓pgPre,go_sem,seval]
      rw [hs]
      exact .same ⟨rfl, rfl⟩
end Pg
