import Derived.Test.YtpebidcmkjjpnaaGreatTreeS
import Derived.Test.YtpebidcmkjjpnaaGreatCkW
namespace Pg
open Go
set_option linter.unusedSimpArgs false
set_option linter.unusedVariables false
set_option maxHeartbeats 4000000
set_option maxRecDepth 4000

theorem typ_eq (a b : Typ) : cellsEq [1, 1, 2] (eTyp a) (eTyp b) = some (decide (a = b)) := by
  obtain ⟨k, s, n⟩ := a
  obtain ⟨k', s', n'⟩ := b
  simp only [eTyp, cellsEq, cellEq, if_true]
  congr 1
  by_cases h1 : k = k' <;> by_cases h2 : s = s' <;> by_cases h3 : n = n' <;> simp [h1, h2, h3]
section
variable {h : AHeap} {c : Nat} {sp inp : AV} {s : CS} {fs : List Scope} {bs : List Nat}
theorem args_loop (x : Expr) (hl : few x.l) (he : ∀ y ∈ x.l, ExprC y false) (k : CkIn h c sp inp s fs bs) (fw : FewIn fs) (r : Routine) (hr : few r.params) (p6 : AV) {Q : Exit → Env → AHeap → Tok → Prop} {e : Env}
    (g0 : e.get 0 = .ptr (some ⟨c, 0, none⟩)) (g4 : e.get 4 = .ip (eExpr x) 0) (g6 : e.get 6 = p6) (g7 : e.get 7 = .ip (eThing (.routine r)) 0) (g63 : e.get 63 = .sl (r.params.map eParam) false) (g64 : e.get 64 = .int .i64 r.params.length) (g65 : e.get 65 = .int .i64 0)
    (hQ : Q (.exit 1) [(6, p6), (7, .ip (eThing (.routine r)) 0)] (h.upd c (ckBlk sp (ckArgs fs s r.params x.l) inp)) .go) : lT .go Go.Proofs.Tryz.prog 134 F97.c19 Q e h := by
  delta F97.c19
  refine lT_list r.params (fun pre post e g => (∃ s', ckArgs fs s r.params x.l = ckArgs fs s' post (x.l.drop pre.length) ∧ g = h.upd c (ckBlk sp s' inp)) ∧ e = [(0, .ptr (some ⟨c, 0, none⟩)), (4, .ip (eExpr x) 0), (6, p6), (7, .ip (eThing (.routine r)) 0), (63, .sl (r.params.map eParam) false), (64, .int .i64 r.params.length), (65, .int .i64 pre.length)]) (WeakE.env ?_) ⟨⟨s, by simp, k.self.symm⟩, rfl⟩ ?_ ?_
  · skip
    repeat' (first | exact EnvLe.nil _ | refine EnvLe.cons ?_ ?_)
    all_goals (simp -implicitDefEqProofs only [↓pgPre,go_sem,seval, g0, g4, g6, g7, g63, g64, g65]; try first | exact AVle.refl _ | exact AVle.sl _ _ | exact AVle.gs _ _ _ | assumption)
  · rintro pre y post e g hp ⟨⟨s', hs, rfl⟩, rfl⟩
    have out : ckArgs fs s' (y :: post) (x.l.drop pre.length) = s' → lessQ Q (.exit 1) [(6, p6), (7, .ip (eThing (.routine r)) 0)] (h.upd c (ckBlk sp s' inp)) := fun hh => by rw [hs, hh] at hQ; exact .same hQ
    have outE : ∀ e', EnvLe e' [(6, p6), (7, .ip (eThing (.routine r)) 0)] → ckArgs fs s' (y :: post) (x.l.drop pre.length) = s' → lessQ Q (.exit 1) e' (h.upd c (ckBlk sp s' inp)) := fun e' le hh => by rw [hs, hh] at hQ; exact .to (.env le) hQ
    have k' := k.next s'
    have kc := k'.cell
    simp -implicitDefEqProofs only [↓pgPre,go_sem,seval, lt_at hp, aia_sl (map_at hp) (eParam_len y), ↓kc]
    by_cases hb : s'.bad = 0
    · by_cases hi : pre.length < x.l.length
      · have hx : x.l.drop pre.length = x.l[pre.length] :: x.l.drop (pre.length + 1) := List.drop_eq_getElem_cons hi
        have hxm : (x.l.map eExpr)[pre.length]? = some (eExpr x.l[pre.length]) := by simp [hi]
        have hmem : x.l[pre.length] ∈ x.l := List.getElem_mem hi
        generalize x.l[pre.length] = z at hx hxm hmem
        simp -implicitDefEqProofs only [↓pgPre,go_sem,seval, hb, show ((pre.length : Int) ≥ x.l.length) = False by simp; omega, aia_sl hxm (eExpr_len z)]
        by_cases hm : y.mode = 0
        · simp -implicitDefEqProofs only [↓pgPre,go_sem,seval, hm, aia_sl hxm (eExpr_len z)]
          refine callT_of (value_of z (he z hmem) k' fw [y.t.kind] (few_small (by simp)) true) (fun v g ⟨hv, hg⟩ => ?_)
          subst v g
          simp -implicitDefEqProofs only [↓pgPre,go_sem,seval, upd_upd]
          refine ⟨_, _, WeakE.env ?_, ⟨_, ?_, rfl⟩, rfl⟩
          · skip
            repeat' (first | exact EnvLe.nil _ | refine EnvLe.cons ?_ ?_)
            all_goals (simp -implicitDefEqProofs only [↓pgPre,go_sem,seval, step_at hr hp]; try first | exact AVle.refl _ | exact AVle.sl _ _ | exact AVle.gs _ _ _ | assumption)
          · rw [hs, hx]
            simp [ckArgs, hb, hm]
        · simp -implicitDefEqProofs only [↓pgPre,go_sem,seval, hm, aia_sl hxm (eExpr_len z)]
          have mid : ∀ (s2 : CS) (e2 : Env), s2 = (if z.op = 4 ∨ z.op = 5 ∨ z.op = 6 then s' else s'.fail 14) → ckArgs fs s' (y :: post) (z :: x.l.drop (pre.length + 1)) = ckArgs fs (if (ckExpr fs s2 z false).1 = y.t then (ckExpr fs s2 z false).2 else (ckExpr fs s2 z false).2.fail 14) post (x.l.drop (pre.length + 1)) := by
            rintro s2 e2 rfl
            simp only [ckArgs, hb, hm, if_true, if_false]
          repeat' (refine agateT_split (fun hg => ?_) (fun hg => ?_) <;> simp -implicitDefEqProofs only [↓pgPre,go_sem,seval, hg, Bool.not_true, Bool.not_false, aia_sl hxm (eExpr_len z)])
          all_goals try
            refine callT_of (fail_spec k'.hc 14) (fun v g ⟨hv, hg⟩ => ?_)
            subst v g
            simp -implicitDefEqProofs only [↓pgPre,go_sem,seval, upd_upd, aia_sl hxm (eExpr_len z)]
          all_goals
            first
            | (refine callT_of (he z hmem (k.next (s'.fail 14)) fw) (fun v g ⟨hv, hg⟩ => ?_); subst v g)
            | (refine callT_of (he z hmem k' fw) (fun v g ⟨hv, hg⟩ => ?_); subst v g)
          all_goals
            simp -implicitDefEqProofs only [↓pgPre,go_sem,seval, upd_upd, typ_eq]
            repeat' (refine agateT_split (fun hg => ?_) (fun hg => ?_) <;> simp -implicitDefEqProofs only [↓pgPre,go_sem,seval, hg, Bool.not_true, Bool.not_false])
          all_goals try
            refine callT_of (fail_spec (k.next _).hc 14) (fun v g ⟨hv, hg⟩ => ?_)
            subst v g
            simp -implicitDefEqProofs only [↓pgPre,go_sem,seval, upd_upd]
          all_goals
            refine ⟨_, _, WeakE.env ?_, ⟨_, ?_, rfl⟩, rfl⟩
            · skip
              repeat' (first | exact EnvLe.nil _ | refine EnvLe.cons ?_ ?_)
              all_goals (simp -implicitDefEqProofs only [↓pgPre,go_sem,seval, step_at hr hp]; try first | exact AVle.refl _ | exact AVle.sl _ _ | exact AVle.gs _ _ _ | assumption)
            · rw [hs, hx, mid _ [] rfl]
              simp_all
      · have hx : x.l.drop pre.length = [] := List.drop_eq_nil_of_le (by omega)
        simp -implicitDefEqProofs only [↓pgPre,go_sem,seval, hb, show ((pre.length : Int) ≥ x.l.length) = True by simp; omega]
        refine outE _ ?_ (by rw [hx]; simp [ckArgs])
        repeat' (first | exact EnvLe.nil _ | refine EnvLe.cons ?_ ?_)
        all_goals (simp -implicitDefEqProofs only [↓pgPre,go_sem,seval]; try first | exact AVle.refl _ | exact AVle.sl _ _ | exact AVle.gs _ _ _ | assumption)
    · simp -implicitDefEqProofs only [↓pgPre,go_sem,seval, hb]
      refine outE _ ?_ ?_
      · skip
        repeat' (first | exact EnvLe.nil _ | refine EnvLe.cons ?_ ?_)
        all_goals (simp -implicitDefEqProofs only [↓pgPre,go_sem,seval]; try first | exact AVle.refl _ | exact AVle.sl _ _ | exact AVle.gs _ _ _ | assumption)
      · cases hd : x.l.drop pre.length with
        | nil => simp [ckArgs]
        | cons z zs => simp [ckArgs, hb]
  · rintro e g ⟨⟨s', hs, rfl⟩, rfl⟩
    simp -implicitDefEqProofs only [↓pgPre,go_sem,seval, lt_end]
    rw [hs] at hQ
    simp only [ckArgs] at hQ
    refine lessQ.to (.env ?_) hQ
    repeat' (first | exact EnvLe.nil _ | refine EnvLe.cons ?_ ?_)
    all_goals (simp -implicitDefEqProofs only [↓pgPre,go_sem,seval]; try first | exact AVle.refl _ | exact AVle.sl _ _ | exact AVle.gs _ _ _ | assumption)
theorem call_of (x : Expr) (hop : x.op = 7) (hb : s.bad = 0) (hl : few x.l) (he : ∀ y ∈ x.l, ExprC y false) (k : CkIn h c sp inp s fs bs) (fw : FewIn fs) (stmt : Bool) :
    Turns 97 [.ptr (some ⟨c, 0, none⟩), .agg (eExpr x), .bool stmt] h c sp inp (.agg (eTyp (ckExpr fs s x stmt).1)) (ckExpr fs s x stmt).2 := by
  unfold Turns
  have hcl := k.cell
  rw [ckExpr_eq]
  simp only [hb, hop, if_true, Int.reduceEq, if_false]
  refine F97.calls (by simp) ?_
  delta F97.c0
  simp -implicitDefEqProofs only [↓pgPre,go_sem,seval]
  refine afreshT_intro fun p hp => ?_
  have hne := k.ne hp
  have hne' := hne.symm
  have kp := k.fresh hp (.blk [.int .i64 0, .int .i64 0, .str ⟨#[]⟩] 3 36)
  simp -implicitDefEqProofs only [↓pgPre,go_sem,seval, hcl, upd_ne _ _ _ hne]
  refine callT_of (find_spec kp.ch x.name) (fun v g ⟨hv, hg⟩ => ?_)
  subst v g
  simp -implicitDefEqProofs only [↓pgPre,go_sem,seval, hcl, upd_ne _ _ _ hne]
  refine afreshT_intro fun q hq => ?_
  have hcq := kp.ne hq
  have hpq : p ≠ q := fresh_ne hq
  have fin : ∀ (t : Typ) (s' : CS) (r : Typ × CS), r = (t, s') → EndW (fun v g => v = .agg (eTyp r.1) ∧ g = h.upd c (ckBlk sp r.2 inp)) (.agg [.int .i64 t.kind, .int .i64 t.size, .str t.name]) ((h.upd p (.blk [.int .i64 t.kind, .int .i64 t.size, .str t.name] 3 36)).upd c (ckBlk sp s' inp)) := by
    intro t s' r e
    rw [e]
    exact .forget (le_upd_upd (upd_le hp) _ _) ⟨rfl, rfl⟩
  cases hf : findIn fs x.name with
  | none =>
    simp -implicitDefEqProofs only [↓pgPre,go_sem,seval, hcl, upd_ne _ _ _ hcq, upd_ne _ _ _ hne, upd_upd, del_upd _ _ _ hq]
    refine callT_of (fail_spec kp.hc 13) (fun v g ⟨hv, hg⟩ => ?_)
    subst v g
    simp -implicitDefEqProofs only [↓pgPre,go_sem,seval, upd_ne _ _ _ hne', upd_comm _ _ _ hne, upd_upd]
    exact fin noTyp _ _ rfl
  | some y =>
    cases y with
    | var t =>
      simp -implicitDefEqProofs only [↓pgPre,go_sem,seval, eThing, hcl, upd_ne _ _ _ hcq, upd_ne _ _ _ hne, upd_upd, del_upd _ _ _ hq]
      refine callT_of (fail_spec kp.hc 13) (fun v g ⟨hv, hg⟩ => ?_)
      subst v g
      simp -implicitDefEqProofs only [↓pgPre,go_sem,seval, upd_ne _ _ _ hne', upd_comm _ _ _ hne, upd_upd]
      exact fin noTyp _ _ rfl
    | rcd r =>
      simp -implicitDefEqProofs only [↓pgPre,go_sem,seval, eThing, hcl, upd_ne _ _ _ hcq, upd_ne _ _ _ hne, upd_upd, del_upd _ _ _ hq]
      refine callT_of (fail_spec kp.hc 13) (fun v g ⟨hv, hg⟩ => ?_)
      subst v g
      simp -implicitDefEqProofs only [↓pgPre,go_sem,seval, upd_ne _ _ _ hne', upd_comm _ _ _ hne, upd_upd]
      exact fin noTyp _ _ rfl
    | routine r =>
      simp -implicitDefEqProofs only [↓pgPre,go_sem,seval, eThing, hcl, upd_ne _ _ _ hcq, upd_ne _ _ _ hne, upd_upd, del_upd _ _ _ hq]
      by_cases hst : decide (0 < r.result) = stmt
      · have hst' : decide (r.result > 0) = stmt := hst
        simp -implicitDefEqProofs only [↓pgPre,go_sem,seval, hst']
        refine callT_of (fail_spec kp.hc 14) (fun v g ⟨hv, hg⟩ => ?_)
        subst v g
        simp -implicitDefEqProofs only [↓pgPre,go_sem,seval, eThing]
        refine args_loop x hl he (kp.next (s.fail 14)) fw r (fw.routine _ _ hf) (.ptr (some ⟨p, 0, none⟩)) ?_ ?_ ?_ ?_ ?_ ?_ ?_ ?_
        iterate 7 (simp -implicitDefEqProofs only [↓pgPre,go_sem,seval, eThing])
        simp -implicitDefEqProofs only [↓pgPre,go_sem,seval, eThing, upd_ne _ _ _ hne', upd_comm _ _ _ hne, upd_upd]
        exact fin (kindTyp r.result) _ _ (by first | rfl | simp only [hst, if_true])
      · have hst' : (decide (r.result > 0) = stmt) = False := by simpa using hst
        by_cases hlen : r.params.length = x.l.length
        · simp -implicitDefEqProofs only [↓pgPre,go_sem,seval, hst', hlen, eThing]
          refine args_loop x hl he kp fw r (fw.routine _ _ hf) (.ptr (some ⟨p, 0, none⟩)) ?_ ?_ ?_ ?_ ?_ ?_ ?_ ?_
          iterate 7 (simp -implicitDefEqProofs only [↓pgPre,go_sem,seval, eThing, hlen])
          simp -implicitDefEqProofs only [↓pgPre,go_sem,seval, eThing, upd_ne _ _ _ hne', upd_comm _ _ _ hne, upd_upd]
          exact fin (kindTyp r.result) _ _ (by first | rfl | simp only [hst, hlen, if_true, if_false])
        · simp -implicitDefEqProofs only [↓pgPre,go_sem,seval, hst', eThing, show ((r.params.length : Int) = x.l.length) = False by simp; omega]
          refine callT_of (fail_spec kp.hc 15) (fun v g ⟨hv, hg⟩ => ?_)
          subst v g
          simp -implicitDefEqProofs only [↓pgPre,go_sem,seval, eThing, upd_ne _ _ _ hne', upd_comm _ _ _ hne, upd_upd]
          exact fin noTyp _ _ (by first | rfl | simp only [hst, hlen, if_false])
end
end Pg
