import Derived.Test.YtpebidcmkjjpnaaGreatTreeS
import Derived.Test.YtpebidcmkjjpnaaGreatCk4
namespace Pg
open Go
set_option linter.unusedSimpArgs false
set_option linter.unusedVariables false
set_option maxHeartbeats 4000000
set_option maxRecDepth 4000

theorem splice_all3 {α : Type} {a b c d e f : α} : splice [a, b, c] 0 [d, e, f] = [d, e, f] := by
  simp [splice]
theorem expr_of (x : Expr) (hl : few x.l) (he : ∀ y ∈ x.l, ExprC y false) (stmt : Bool) : ExprC x stmt := by
  intro h c sp inp s fs bs k fw
  unfold Turns
  have hcl := k.cell
  refine F86.calls (by simp) ?_
  delta F86.c0
  simp -implicitDefEqProofs only [↓pgPre,go_sem,seval]
  refine afreshT_intro fun p hp => ?_
  have hne := k.ne hp
  have hne' := hne.symm
  have kp := fun o => k.fresh (p := p) hp o
  have fin : ∀ (t : Typ) (s' : CS) (r : Typ × CS), r = (t, s') → EndW (fun v g => v = .agg (eTyp r.1) ∧ g = h.upd c (ckBlk sp r.2 inp)) (.agg [.int .i64 t.kind, .int .i64 t.size, .str t.name]) ((h.upd p (.blk [.int .i64 t.kind, .int .i64 t.size, .str t.name] 3 36)).upd c (ckBlk sp s' inp)) := by
    intro t s' r e
    rw [e]
    exact .forget (le_upd_upd (upd_le hp) _ _) ⟨rfl, rfl⟩
  have fin0 : ∀ (t : Typ), ckExpr fs s x stmt = (t, s) → EndW (fun v g => v = .agg (eTyp (ckExpr fs s x stmt).1) ∧ g = h.upd c (ckBlk sp (ckExpr fs s x stmt).2 inp)) (.agg [.int .i64 t.kind, .int .i64 t.size, .str t.name]) (h.upd p (.blk [.int .i64 t.kind, .int .i64 t.size, .str t.name] 3 36)) := by
    intro t e
    have := fin t s _ e
    rwa [upd_self (h := h.upd p _) (b := c) (by rw [upd_ne _ _ _ hne]; exact k.hc)] at this
  by_cases hb : s.bad = 0
  case neg =>
    simp -implicitDefEqProofs only [↓pgPre,go_sem,seval, hcl, upd_ne _ _ _ hne, hb, upd_upd]
    exact fin0 noTyp (by rw [ckExpr_eq]; simp [hb])
  have scal : ∀ n : Int, n = 1 ∨ n = 2 ∨ n = 3 → x.op = n → ckExpr fs s x stmt = (kindTyp n, s) := by
    intro n hn hop
    rw [ckExpr_eq]
    rcases hn with rfl | rfl | rfl <;> simp [hb, hop]
  have pairs : ∀ (n : Int) (s' : CS), ckExpr fs s x stmt = (kindTyp n, s') → EndW (fun v g => v = .agg (eTyp (ckExpr fs s x stmt).1) ∧ g = h.upd c (ckBlk sp (ckExpr fs s x stmt).2 inp)) (.agg [.int .i64 n, .int .i64 0, .str ⟨#[]⟩]) ((h.upd p (.blk [.int .i64 n, .int .i64 0, .str ⟨#[]⟩] 3 36)).upd c (ckBlk sp s' inp)) :=
    fun n s' e => fin (kindTyp n) s' _ e
  have bools : (x.op = 9 ∨ x.op = 13 ∨ x.op = 14 ∨ x.op = 17 ∨ x.op = 18) → ckExpr fs s x stmt = (kindTyp 2, ckPair fs s x.l 2) := by
    intro hop
    rw [ckExpr_eq]
    rcases hop with hop | hop | hop | hop | hop <;> simp [hb, hop]
  by_cases h1 : x.op = 1
  · simp -implicitDefEqProofs only [↓pgPre,go_sem,seval, hcl, upd_ne _ _ _ hne, hb, upd_upd, h1]
    exact fin0 (kindTyp 1) (scal 1 (by simp) h1)
  by_cases h2 : x.op = 2
  · simp -implicitDefEqProofs only [↓pgPre,go_sem,seval, hcl, upd_ne _ _ _ hne, hb, upd_upd, h2]
    exact fin0 (kindTyp 2) (scal 2 (by simp) h2)
  by_cases h3 : x.op = 3
  · simp -implicitDefEqProofs only [↓pgPre,go_sem,seval, hcl, upd_ne _ _ _ hne, hb, upd_upd, h3]
    exact fin0 (kindTyp 3) (scal 3 (by simp) h3)
  by_cases h4 : x.op = 4
  · simp -implicitDefEqProofs only [↓pgPre,go_sem,seval, hcl, upd_ne _ _ _ hne, hb, upd_upd, h4]
    refine callT_of (variable_spec (kp _) x.name) (fun v g ⟨hv, hg⟩ => ?_)
    subst v g
    simp -implicitDefEqProofs only [↓pgPre,go_sem,seval, upd_ne _ _ _ hne', upd_comm _ _ _ hne, upd_upd, eTyp, splice_all3]
    exact fin _ _ _ (by rw [ckExpr_eq]; simp [hb, h4])
  by_cases h5 : x.op = 5
  · have e5 : ckExpr fs s x stmt = (kindTyp (ckVariable fs s x.name).1.kind, ckPair fs (if (ckVariable fs s x.name).1.size = 0 then (ckVariable fs s x.name).2.fail 14 else (ckVariable fs s x.name).2) x.l 1) := by
      rw [ckExpr_eq]; simp [hb, h5]
    simp -implicitDefEqProofs only [↓pgPre,go_sem,seval, hcl, upd_ne _ _ _ hne, hb, upd_upd, h5]
    refine callT_of (variable_spec (kp _) x.name) (fun v g ⟨hv, hg⟩ => ?_)
    subst v g
    by_cases hz : (ckVariable fs s x.name).1.size = 0
    · simp -implicitDefEqProofs only [↓pgPre,go_sem,seval, hz]
      refine callT_of (fail_spec ((kp _).next _).hc 14) (fun v g ⟨hv, hg⟩ => ?_)
      subst v g
      simp -implicitDefEqProofs only [↓pgPre,go_sem,seval, upd_upd]
      refine callT_of (pair_of x.l hl he ((kp _).next _) fw 1 false) (fun v g ⟨hv, hg⟩ => ?_)
      subst v g
      simp -implicitDefEqProofs only [↓pgPre,go_sem,seval, upd_ne _ _ _ hne', upd_comm _ _ _ hne, upd_upd]
      exact pairs _ _ (by rw [e5]; simp [hz])
    · simp -implicitDefEqProofs only [↓pgPre,go_sem,seval, hz]
      refine callT_of (pair_of x.l hl he ((kp _).next _) fw 1 false) (fun v g ⟨hv, hg⟩ => ?_)
      subst v g
      simp -implicitDefEqProofs only [↓pgPre,go_sem,seval, upd_ne _ _ _ hne', upd_comm _ _ _ hne, upd_upd]
      exact pairs _ _ (by rw [e5]; simp [hz])
  by_cases h6 : x.op = 6
  · simp -implicitDefEqProofs only [↓pgPre,go_sem,seval, hcl, upd_ne _ _ _ hne, hb, upd_upd, h6]
    refine callT_of (variable_spec (kp _) x.name) (fun v g ⟨hv, hg⟩ => ?_)
    subst v g
    simp -implicitDefEqProofs only [↓pgPre,go_sem,seval]
    refine callT_of (field_spec ((kp _).next _) _ x.field (fun r hr => fw.rcd _ _ hr)) (fun v g ⟨hv, hg⟩ => ?_)
    subst v g
    simp -implicitDefEqProofs only [↓pgPre,go_sem,seval, upd_ne _ _ _ hne', upd_comm _ _ _ hne, upd_upd]
    exact pairs _ _ (by rw [ckExpr_eq]; simp [hb, h6])
  by_cases h7 : x.op = 7
  · simp -implicitDefEqProofs only [↓pgPre,go_sem,seval, hcl, upd_ne _ _ _ hne, hb, upd_upd, h7]
    refine callT_of (call_of x h7 hb hl he (kp _) fw stmt) (fun v g ⟨hv, hg⟩ => ?_)
    subst v g
    simp -implicitDefEqProofs only [↓pgPre,go_sem,seval, upd_ne _ _ _ hne', upd_comm _ _ _ hne, upd_upd, eTyp, splice_all3]
    exact fin _ _ _ rfl
  by_cases hbo : x.op = 9 ∨ x.op = 13 ∨ x.op = 14 ∨ x.op = 17 ∨ x.op = 18
  · have e := bools hbo
    rcases hbo with hop | hop | hop | hop | hop
    all_goals
      simp -implicitDefEqProofs only [↓pgPre,go_sem,seval, hcl, upd_ne _ _ _ hne, hb, upd_upd, hop]
      refine callT_of (pair_of x.l hl he (kp _) fw 2 false) (fun v g ⟨hv, hg⟩ => ?_)
      subst v g
      simp -implicitDefEqProofs only [↓pgPre,go_sem,seval, upd_ne _ _ _ hne', upd_comm _ _ _ hne, upd_upd]
      exact pairs _ _ e
  have two : ∀ kinds : List Int, ∀ y z : Expr, x.l = [y, z] → ckTwo fs s kinds x.l = (ckKind [(ckKind kinds (ckExpr fs s y false)).1] (ckExpr fs (ckKind kinds (ckExpr fs s y false)).2 z false)).2 := by
    intro kinds y z e
    rw [e]; simp [ckTwo, ckPair]
  have two0 : ∀ kinds : List Int, x.l.length ≠ 2 → ckTwo fs s kinds x.l = s := by
    intro kinds e
    cases hl' : x.l with
    | nil => rfl
    | cons y r => rw [hl'] at e; simp only [ckTwo]; rw [if_neg (by simp at e; omega)]
  have cases2 : x.l.length = 2 → ∃ y z, x.l = [y, z] := by
    intro e
    match hl' : x.l, e with
    | [y, z], _ => exact ⟨y, z, rfl⟩
  by_cases heq : x.op = 19 ∨ x.op = 20
  · have e : ckExpr fs s x stmt = (kindTyp 2, ckTwo fs s [1, 2, 3] x.l) := by
      rw [ckExpr_eq]; rcases heq with hop | hop <;> simp [hb, hop]
    by_cases hlen : x.l.length = 2
    · obtain ⟨y, z, hyz⟩ := cases2 hlen
      rw [two _ y z hyz] at e
      have hy : ExprC y false := fun k fw => he y (by simp [hyz]) k fw
      have hz : ExprC z false := fun k fw => he z (by simp [hyz]) k fw
      have a0 : ∀ f, aia 5 (.sl (x.l.map eExpr) f) (.int .i64 0) = some (.ip (eExpr y) 0) := fun f => aia_sl (i := 0) (by rw [hyz]; rfl) (eExpr_len y)
      have a1 : ∀ f, aia 5 (.sl (x.l.map eExpr) f) (.int .i64 1) = some (.ip (eExpr z) 0) := fun f => aia_sl (i := 1) (by rw [hyz]; rfl) (eExpr_len z)
      rcases heq with hop | hop
      all_goals
        simp -implicitDefEqProofs only [↓pgPre,go_sem,seval, hcl, upd_ne _ _ _ hne, hb, upd_upd, hop, a0, a1, show ((x.l.length : Int) = 2) = True by simp; omega]
        refine callT_of (any_of y hy (kp _) fw) (fun v g ⟨hv, hg⟩ => ?_)
        subst v g
        simp -implicitDefEqProofs only [↓pgPre,go_sem,seval, upd_upd]
        refine callT_of (value_of z hz ((kp _).next _) fw [_] (few_small (by simp)) true) (fun v g ⟨hv, hg⟩ => ?_)
        subst v g
        simp -implicitDefEqProofs only [↓pgPre,go_sem,seval, upd_ne _ _ _ hne', upd_comm _ _ _ hne, upd_upd]
        exact pairs _ _ e
    · rcases heq with hop | hop
      all_goals
        simp -implicitDefEqProofs only [↓pgPre,go_sem,seval, hcl, upd_ne _ _ _ hne, hb, upd_upd, hop, show ((x.l.length : Int) = 2) = False by simp; omega]
        exact fin0 (kindTyp 2) (by rw [e, two0 _ hlen])
  by_cases hlt : x.op = 21 ∨ x.op = 22 ∨ x.op = 23 ∨ x.op = 24
  · have e : ckExpr fs s x stmt = (kindTyp 2, ckTwo fs s [1, 3] x.l) := by
      rw [ckExpr_eq]; rcases hlt with hop | hop | hop | hop <;> simp [hb, hop]
    by_cases hlen : x.l.length = 2
    · obtain ⟨y, z, hyz⟩ := cases2 hlen
      rw [two _ y z hyz] at e
      have hy : ExprC y false := fun k fw => he y (by simp [hyz]) k fw
      have hz : ExprC z false := fun k fw => he z (by simp [hyz]) k fw
      have a0 : ∀ f, aia 5 (.sl (x.l.map eExpr) f) (.int .i64 0) = some (.ip (eExpr y) 0) := fun f => aia_sl (i := 0) (by rw [hyz]; rfl) (eExpr_len y)
      have a1 : ∀ f, aia 5 (.sl (x.l.map eExpr) f) (.int .i64 1) = some (.ip (eExpr z) 0) := fun f => aia_sl (i := 1) (by rw [hyz]; rfl) (eExpr_len z)
      rcases hlt with hop | hop | hop | hop
      all_goals
        simp -implicitDefEqProofs only [↓pgPre,go_sem,seval, hcl, upd_ne _ _ _ hne, hb, upd_upd, hop, a0, a1, show ((x.l.length : Int) = 2) = True by simp; omega]
        refine callT_of (value_of y hy (kp _) fw [1, 3] (few_small (by simp)) true) (fun v g ⟨hv, hg⟩ => ?_)
        subst v g
        simp -implicitDefEqProofs only [↓pgPre,go_sem,seval, upd_upd]
        refine callT_of (value_of z hz ((kp _).next _) fw [_] (few_small (by simp)) true) (fun v g ⟨hv, hg⟩ => ?_)
        subst v g
        simp -implicitDefEqProofs only [↓pgPre,go_sem,seval, upd_ne _ _ _ hne', upd_comm _ _ _ hne, upd_upd]
        exact pairs _ _ e
    · rcases hlt with hop | hop | hop | hop
      all_goals
        simp -implicitDefEqProofs only [↓pgPre,go_sem,seval, hcl, upd_ne _ _ _ hne, hb, upd_upd, hop, show ((x.l.length : Int) = 2) = False by simp; omega]
        exact fin0 (kindTyp 2) (by rw [e, two0 _ hlen])
  have e : ckExpr fs s x stmt = (kindTyp 1, ckPair fs s x.l 1) := by
    rw [ckExpr_eq, if_pos hb, if_neg h1, if_neg h2, if_neg h3, if_neg h4, if_neg h5, if_neg h6, if_neg h7, if_neg (by omega), if_neg (by omega), if_neg (by omega)]
  simp -implicitDefEqProofs only [↓pgPre,go_sem,seval, hcl, upd_ne _ _ _ hne, hb, upd_upd, h1, h2, h3, h4, h5, h6, h7]
  repeat' (refine agateT_split (fun hg => ?_) (fun hg => ?_) <;> simp -implicitDefEqProofs only [↓pgPre,go_sem,seval, hg, Bool.not_true, Bool.not_false, upd_upd])
  all_goals first
    | (exfalso
       simp only [decide_eq_true_eq, decide_eq_false_iff_not, Bool.not_true, Bool.not_false] at *
       omega)
    | skip
  all_goals
    refine callT_of (pair_of x.l hl he (kp _) fw 1 false) (fun v g ⟨hv, hg⟩ => ?_)
    subst v g
    simp -implicitDefEqProofs only [↓pgPre,go_sem,seval, upd_ne _ _ _ hne', upd_comm _ _ _ hne, upd_upd]
    exact pairs _ _ e
theorem expr_all : ∀ (n : Nat) (x : Expr), x.sz ≤ n → x.ok → ∀ stmt, ExprC x stmt := by
  intro n
  induction n with
  | zero => intro x hn; rw [Expr.sz_eq] at hn; omega
  | succ n ih =>
    intro x hn ho stmt
    rw [Expr.sz_eq] at hn
    obtain ⟨h1, h2⟩ := (Expr.ok_iff x).1 ho
    exact expr_of x h1 (fun y hy => ih y (by have := Exprs.sz_mem hy; omega) (h2 y hy) false) stmt
theorem expr_spec (x : Expr) (ho : x.ok) (stmt : Bool) : ExprC x stmt := expr_all _ x (Nat.le_refl _) ho stmt
end Pg
