import Derived.Test.YtdfbkddelhbgmaaGreatDoorTreeSS2
import Derived.Test.YtdfbkddelhbgmaaGreatDoorCkWS2
namespace Pg
open Go Go.Proofs.Tryz
set_option linter.all false
set_option maxHeartbeats 4000000
set_option maxRecDepth 4000
theorem typ_eq (a b : Typ) : cellsEq [1, 1, 2] (eTyp a) (eTyp b) = some (decide (a = b)) := by
 obtain ⟨k, s, n⟩ := a
 obtain ⟨k', s', n'⟩ := b
 simp only [eTyp, cellsEq, cellEq, if_true]
 congr 1
 by_cases h1 : k = k' <;> by_cases h2 : s = s' <;> by_cases h3 : n = n' <;> simp [h1, h2, h3]
section
variable {h : AHeap} {c : Nat} {sp inp : AV} {s : CS} {fs : List Scope} {bs : List Nat}
theorem args_loop [GI] (x : Expr) (hl : few x.l) (he : ∀ y ∈ x.l, ExprC y false) (k : CkIn h c sp inp s fs bs) (fw : FewIn fs) (r : Routine) (hr : few r.params) (p6 : AV) {Q : Exit → Env → AHeap → Tok → Prop} {e : Env}
  (g0 : e.get 0 = .ptr (some ⟨c, 0, none⟩)) (g4 : e.get 4 = .ip (eExpr x) 0) (g6 : e.get 6 = p6) (g7 : e.get 7 = .ip (eThing (.routine r)) 0) (g63 : e.get 63 = .sl (r.params.map eParam) false) (g64 : e.get 64 = .int .i64 r.params.length) (g65 : e.get 65 = .int .i64 0)
  (hQ : Q (.exit 1) [(6, p6), (7, .ip (eThing (.routine r)) 0)] (h.upd c (ckBlk sp (ckArgs fs s r.params x.l) inp)) .go) : lT .go prog 134 F176.c19 Q e h := by
 delta F176.c19
 refine lT_list r.params (fun pre post e g => (∃ s', ckArgs fs s r.params x.l = ckArgs fs s' post (x.l.drop pre.length) ∧ g = h.upd c (ckBlk sp s' inp)) ∧ e = [(0, .ptr (some ⟨c, 0, none⟩)), (4, .ip (eExpr x) 0), (6, p6), (7, .ip (eThing (.routine r)) 0), (63, .sl (r.params.map eParam) false), (64, .int .i64 r.params.length), (65, .int .i64 pre.length)]) (WeakE.env ?_) ⟨⟨s, by simp, k.self.symm⟩, rfl⟩ ?_ ?_
 ·simp only [go_sem,seval, g0, g4, g6, g7, g63, g64, g65]
 ·rintro pre y post e g hp ⟨⟨s', hs, rfl⟩, rfl⟩
  have out : ckArgs fs s' (y :: post) (x.l.drop pre.length) = s' → lessQ Q (.exit 1) [(6, p6), (7, .ip (eThing (.routine r)) 0)] (h.upd c (ckBlk sp s' inp)) := fun hh => by rw [hs, hh] at hQ; exact .same hQ
  have outE : ∀ e', EnvLe e' [(6, p6), (7, .ip (eThing (.routine r)) 0)] → ckArgs fs s' (y :: post) (x.l.drop pre.length) = s' → lessQ Q (.exit 1) e' (h.upd c (ckBlk sp s' inp)) := fun e' le hh => by rw [hs, hh] at hQ; exact .to (.env le) hQ
  have k' := k.next s'
  have kc := k'.cell
  simp only [go_sem,seval, lt_at hp, aia_sl (map_at hp) (eParam_len y), ↓kc]
  by_cases hb : s'.bad = 0
  ·by_cases hi : pre.length < x.l.length
   ·have hx : x.l.drop pre.length = x.l[pre.length] :: x.l.drop (pre.length + 1) := List.drop_eq_getElem_cons hi
    have hxm : (x.l.map eExpr)[pre.length]? = some (eExpr x.l[pre.length]) := by simp [hi]
    have hmem : x.l[pre.length] ∈ x.l := List.getElem_mem hi
    generalize x.l[pre.length] = z at hx hxm hmem
    simp only [go_sem,seval, hb, show ((pre.length : Int) ≥ x.l.length) = False by simp; omega, aia_sl hxm (eExpr_len z)]
    by_cases hm : y.mode = 0
    ·simp only [go_sem,seval, hm, aia_sl hxm (eExpr_len z)]
     refine tcE (value_of z (he z hmem) k' fw [y.t.kind] (few_small (by simp)) true) ?_
     simp only [go_sem,seval, upd_upd]
     refine ⟨_, _, WeakE.env ?_, ⟨_, ?_, rfl⟩, rfl⟩
     ·simp only [go_sem,seval, step_at hr hp]
     ·rw [hs, hx]
      simp [ckArgs, hb, hm]
    ·simp only [go_sem,seval, hm, aia_sl hxm (eExpr_len z)]
     have mid : ∀ (s2 : CS) (e2 : Env), s2 = (if z.op = 4 ∨ z.op = 5 ∨ z.op = 6 then s' else s'.fail 14) → ckArgs fs s' (y :: post) (z :: x.l.drop (pre.length + 1)) = ckArgs fs (if (ckExpr fs s2 z false).1 = y.t then (ckExpr fs s2 z false).2 else (ckExpr fs s2 z false).2.fail 14) post (x.l.drop (pre.length + 1)) := by
      rintro s2 e2 rfl
      simp only [ckArgs, hb, hm, if_true, if_false]
     repeat' (refine agateT_split (fun hg => ?_) (fun hg => ?_) <;> simp only [go_sem,seval, hg, Bool.not_true, Bool.not_false, aia_sl hxm (eExpr_len z)])
     all_goals try
      refine tcE (fail_spec k'.hc 14) ?_
      simp only [go_sem,seval, upd_upd, aia_sl hxm (eExpr_len z)]
     all_goals
      first
      | (refine callT_of (he z hmem (k.next (s'.fail 14)) fw) (fun v g ⟨hv, hg⟩ => ?_); subst v g)
      | (refine callT_of (he z hmem k' fw) (fun v g ⟨hv, hg⟩ => ?_); subst v g)
     all_goals
      simp only [go_sem,seval, upd_upd, typ_eq]
      repeat' (refine agateT_split (fun hg => ?_) (fun hg => ?_) <;> simp only [go_sem,seval, hg, Bool.not_true, Bool.not_false])
     all_goals try
      refine tcE (fail_spec (k.next _).hc 14) ?_
      simp only [go_sem,seval, upd_upd]
     all_goals
      refine ⟨_, _, WeakE.env ?_, ⟨_, ?_, rfl⟩, rfl⟩
      ·simp only [go_sem,seval, step_at hr hp]
      ·rw [hs, hx, mid _ [] rfl]
       simp_all
   ·have hx : x.l.drop pre.length = [] := List.drop_eq_nil_of_le (by omega)
    simp only [go_sem,seval, hb, show ((pre.length : Int) ≥ x.l.length) = True by simp; omega]
    refine outE _ ?_ (by rw [hx]; simp [ckArgs])
    simp only [go_sem,seval]
  ·simp only [go_sem,seval, hb]
   refine outE _ ?_ ?_
   ·simp only [go_sem,seval]
   ·cases hd : x.l.drop pre.length with
    | nil => simp [ckArgs]
    | cons z zs => simp [ckArgs, hb]
 ·rintro e g ⟨⟨s', hs, rfl⟩, rfl⟩
  simp only [go_sem,seval, lt_end]
  rw [hs] at hQ
  simp only [ckArgs] at hQ
  refine lessQ.to (.env ?_) hQ
  simp only [go_sem,seval]
theorem call_of [GI] (x : Expr) (hop : x.op = 7) (hb : s.bad = 0) (hl : few x.l) (he : ∀ y ∈ x.l, ExprC y false) (k : CkIn h c sp inp s fs bs) (fw : FewIn fs) (stmt : Bool) :
  Turns 176 [.ptr (some ⟨c, 0, none⟩), .agg (eExpr x), .bool stmt] h c sp inp (.agg (eTyp (ckExpr fs s x stmt).1)) (ckExpr fs s x stmt).2 := by
 unfold Turns
 have hcl := k.cell
 rw [ckExpr_eq]
 simp only [hb, hop, if_true, Int.reduceEq, if_false]
 refine F176.calls (by simp) ?_
 delta F176.c0
 simp only [go_sem,seval]
 refine afreshT_intro fun p hp => ?_
 have hne := k.ne hp
 have hne' := hne.symm
 have kp := k.fresh hp (.blk [.int .i64 0, .int .i64 0, .str ⟨#[]⟩] 3 51)
 simp only [go_sem,seval, hcl, upd_ne _ _ _ hne]
 refine tcE (find_spec kp.ch x.name) ?_
 simp only [go_sem,seval, hcl, upd_ne _ _ _ hne]
 refine afreshT_intro fun q hq => ?_
 have hcq := kp.ne hq
 have hpq : p ≠ q := fresh_ne hq
 have fin : ∀ (t : Typ) (s' : CS) (r : Typ × CS), r = (t, s') → EndW (fun v g => v = .agg (eTyp r.1) ∧ g = h.upd c (ckBlk sp r.2 inp)) (.agg [.int .i64 t.kind, .int .i64 t.size, .str t.name]) ((h.upd p (.blk [.int .i64 t.kind, .int .i64 t.size, .str t.name] 3 51)).upd c (ckBlk sp s' inp)) := by
  intro t s' r e
  rw [e]
  exact .forget (le_upd_upd (upd_le hp) _ _) ⟨rfl, rfl⟩
 cases hf : findIn fs x.name with
 | none =>
  simp only [go_sem,seval, hcl, upd_ne _ _ _ hcq, upd_ne _ _ _ hne, upd_upd, del_upd _ _ _ hq]
  refine tcE (fail_spec kp.hc 13) ?_
  simp only [go_sem,seval, upd_ne _ _ _ hne', upd_comm _ _ _ hne, upd_upd]
  exact fin noTyp _ _ rfl
 | some y =>
  cases y with
  | var t =>
   simp only [go_sem,seval, eThing, hcl, upd_ne _ _ _ hcq, upd_ne _ _ _ hne, upd_upd, del_upd _ _ _ hq]
   refine tcE (fail_spec kp.hc 13) ?_
   simp only [go_sem,seval, upd_ne _ _ _ hne', upd_comm _ _ _ hne, upd_upd]
   exact fin noTyp _ _ rfl
  | rcd r =>
   simp only [go_sem,seval, eThing, hcl, upd_ne _ _ _ hcq, upd_ne _ _ _ hne, upd_upd, del_upd _ _ _ hq]
   refine tcE (fail_spec kp.hc 13) ?_
   simp only [go_sem,seval, upd_ne _ _ _ hne', upd_comm _ _ _ hne, upd_upd]
   exact fin noTyp _ _ rfl
  | routine r =>
   simp only [go_sem,seval, eThing, hcl, upd_ne _ _ _ hcq, upd_ne _ _ _ hne, upd_upd, del_upd _ _ _ hq]
   by_cases hst : decide (0 < r.result) = stmt
   ·have hst' : decide (r.result > 0) = stmt := hst
    simp only [go_sem,seval, hst']
    refine tcE (fail_spec kp.hc 14) ?_
    simp only [go_sem,seval, eThing]
    refine args_loop x hl he (kp.next (s.fail 14)) fw r (fw.routine _ _ hf) (.ptr (some ⟨p, 0, none⟩)) ?_ ?_ ?_ ?_ ?_ ?_ ?_ ?_
    iterate 7 (simp only [go_sem,seval, eThing])
    simp only [go_sem,seval, eThing, upd_ne _ _ _ hne', upd_comm _ _ _ hne, upd_upd]
    exact fin (kindTyp r.result) _ _ (by first | rfl | simp only [hst, if_true])
   ·have hst' : (decide (r.result > 0) = stmt) = False := by simpa using hst
    by_cases hlen : r.params.length = x.l.length
    ·simp only [go_sem,seval, hst', hlen, eThing]
     refine args_loop x hl he kp fw r (fw.routine _ _ hf) (.ptr (some ⟨p, 0, none⟩)) ?_ ?_ ?_ ?_ ?_ ?_ ?_ ?_
     iterate 7 (simp only [go_sem,seval, eThing, hlen])
     simp only [go_sem,seval, eThing, upd_ne _ _ _ hne', upd_comm _ _ _ hne, upd_upd]
     exact fin (kindTyp r.result) _ _ (by first | rfl | simp only [hst, hlen, if_true, if_false])
    ·simp only [go_sem,seval, hst', eThing, show ((r.params.length : Int) = x.l.length) = False by simp; omega]
     refine tcE (fail_spec kp.hc 15) ?_
     simp only [go_sem,seval, eThing, upd_ne _ _ _ hne', upd_comm _ _ _ hne, upd_upd]
     exact fin noTyp _ _ (by first | rfl | simp only [hst, hlen, if_false])
end
end Pg

namespace Pg
open Go
set_option linter.all false
set_option maxHeartbeats 4000000
set_option maxRecDepth 4000
theorem splice_all3 {α : Type} {a b c d e f : α} : splice [a, b, c] 0 [d, e, f] = [d, e, f] := by
 simp [splice]
theorem expr_of [GI] (x : Expr) (hl : few x.l) (he : ∀ y ∈ x.l, ExprC y false) (stmt : Bool) : ExprC x stmt := by
  intro h c sp inp s fs bs k fw
  unfold Turns
  have hcl := k.cell
  refine F143.calls (by simp) ?_
  delta F143.c0
  simp only [go_sem,seval]
  refine afreshT_intro fun p hp => ?_
  have hne := k.ne hp
  have hne' := hne.symm
  have kp := fun o => k.fresh (p := p) hp o
  have fin : ∀ (t : Typ) (s' : CS) (r : Typ × CS), r = (t, s') → EndW (fun v g => v = .agg (eTyp r.1) ∧ g = h.upd c (ckBlk sp r.2 inp)) (.agg [.int .i64 t.kind, .int .i64 t.size, .str t.name]) ((h.upd p (.blk [.int .i64 t.kind, .int .i64 t.size, .str t.name] 3 51)).upd c (ckBlk sp s' inp)) := by
    intro t s' r e
    rw [e]
    exact .forget (le_upd_upd (upd_le hp) _ _) ⟨rfl, rfl⟩
  have fin0 : ∀ (t : Typ), ckExpr fs s x stmt = (t, s) → EndW (fun v g => v = .agg (eTyp (ckExpr fs s x stmt).1) ∧ g = h.upd c (ckBlk sp (ckExpr fs s x stmt).2 inp)) (.agg [.int .i64 t.kind, .int .i64 t.size, .str t.name]) (h.upd p (.blk [.int .i64 t.kind, .int .i64 t.size, .str t.name] 3 51)) := by
    intro t e
    have := fin t s _ e
    rwa [upd_self (h := h.upd p _) (b := c) (by rw [upd_ne _ _ _ hne]; exact k.hc)] at this
  by_cases hb : s.bad = 0
  case neg =>
    simp only [go_sem,seval, hcl, upd_ne _ _ _ hne, hb, upd_upd]
    exact fin0 noTyp (by rw [ckExpr_eq]; simp [hb])
  have scal : ∀ n : Int, n = 1 ∨ n = 2 ∨ n = 3 → x.op = n → ckExpr fs s x stmt = (kindTyp n, s) := by
    intro n hn hop
    rw [ckExpr_eq]
    rcases hn with rfl | rfl | rfl <;> simp [hb, hop]
  have pairs : ∀ (n : Int) (s' : CS), ckExpr fs s x stmt = (kindTyp n, s') → EndW (fun v g => v = .agg (eTyp (ckExpr fs s x stmt).1) ∧ g = h.upd c (ckBlk sp (ckExpr fs s x stmt).2 inp)) (.agg [.int .i64 n, .int .i64 0, .str ⟨#[]⟩]) ((h.upd p (.blk [.int .i64 n, .int .i64 0, .str ⟨#[]⟩] 3 51)).upd c (ckBlk sp s' inp)) :=
    fun n s' e => fin (kindTyp n) s' _ e
  have bools : (x.op = 9 ∨ x.op = 13 ∨ x.op = 14 ∨ x.op = 17 ∨ x.op = 18) → ckExpr fs s x stmt = (kindTyp 2, ckPair fs s x.l 2) := by
    intro hop
    rw [ckExpr_eq]
    rcases hop with hop | hop | hop | hop | hop <;> simp [hb, hop]
  by_cases h1 : x.op = 1
  · simp only [go_sem,seval, hcl, upd_ne _ _ _ hne, hb, upd_upd, h1]
    exact fin0 (kindTyp 1) (scal 1 (by simp) h1)
  by_cases h2 : x.op = 2
  · simp only [go_sem,seval, hcl, upd_ne _ _ _ hne, hb, upd_upd, h2]
    exact fin0 (kindTyp 2) (scal 2 (by simp) h2)
  by_cases h3 : x.op = 3
  · simp only [go_sem,seval, hcl, upd_ne _ _ _ hne, hb, upd_upd, h3]
    exact fin0 (kindTyp 3) (scal 3 (by simp) h3)
  by_cases h4 : x.op = 4
  · simp only [go_sem,seval, hcl, upd_ne _ _ _ hne, hb, upd_upd, h4]
    refine tcE (variable_spec (kp _) x.name) ?_
    simp only [go_sem,seval, upd_ne _ _ _ hne', upd_comm _ _ _ hne, upd_upd, eTyp, splice_all3]
    exact fin _ _ _ (by rw [ckExpr_eq]; simp [hb, h4])
  by_cases h5 : x.op = 5
  · have e5 : ckExpr fs s x stmt = (kindTyp (ckVariable fs s x.name).1.kind, ckPair fs (if (ckVariable fs s x.name).1.size = 0 then (ckVariable fs s x.name).2.fail 14 else (ckVariable fs s x.name).2) x.l 1) := by
      rw [ckExpr_eq]; simp [hb, h5]
    simp only [go_sem,seval, hcl, upd_ne _ _ _ hne, hb, upd_upd, h5]
    refine tcE (variable_spec (kp _) x.name) ?_
    by_cases hz : (ckVariable fs s x.name).1.size = 0
    · simp only [go_sem,seval, hz]
      refine tcE (fail_spec ((kp _).next _).hc 14) ?_
      simp only [go_sem,seval, upd_upd]
      refine tcE (pair_of x.l hl he ((kp _).next _) fw 1 false) ?_
      simp only [go_sem,seval, upd_ne _ _ _ hne', upd_comm _ _ _ hne, upd_upd]
      exact pairs _ _ (by rw [e5]; simp [hz])
    · simp only [go_sem,seval, hz]
      refine tcE (pair_of x.l hl he ((kp _).next _) fw 1 false) ?_
      simp only [go_sem,seval, upd_ne _ _ _ hne', upd_comm _ _ _ hne, upd_upd]
      exact pairs _ _ (by rw [e5]; simp [hz])
  by_cases h6 : x.op = 6
  · simp only [go_sem,seval, hcl, upd_ne _ _ _ hne, hb, upd_upd, h6]
    refine tcE (variable_spec (kp _) x.name) ?_
    simp only [go_sem,seval]
    refine tcE (field_spec ((kp _).next _) _ x.field (fun r hr => fw.rcd _ _ hr)) ?_
    simp only [go_sem,seval, upd_ne _ _ _ hne', upd_comm _ _ _ hne, upd_upd]
    exact pairs _ _ (by rw [ckExpr_eq]; simp [hb, h6])
  by_cases h7 : x.op = 7
  · simp only [go_sem,seval, hcl, upd_ne _ _ _ hne, hb, upd_upd, h7]
    refine tcE (call_of x h7 hb hl he (kp _) fw stmt) ?_
    simp only [go_sem,seval, upd_ne _ _ _ hne', upd_comm _ _ _ hne, upd_upd, eTyp, splice_all3]
    exact fin _ _ _ rfl
  by_cases hbo : x.op = 9 ∨ x.op = 13 ∨ x.op = 14 ∨ x.op = 17 ∨ x.op = 18
  · have e := bools hbo
    rcases hbo with hop | hop | hop | hop | hop
    all_goals
      simp only [go_sem,seval, hcl, upd_ne _ _ _ hne, hb, upd_upd, hop]
      refine tcE (pair_of x.l hl he (kp _) fw 2 false) ?_
      simp only [go_sem,seval, upd_ne _ _ _ hne', upd_comm _ _ _ hne, upd_upd]
      exact pairs _ _ e
  have two : ∀ kinds : List Int, ∀ y z : Expr, x.l = [y, z] → ckTwo fs s kinds x.l = (ckKind [(ckKind kinds (ckExpr fs s y false)).1] (ckExpr fs (ckKind kinds (ckExpr fs s y false)).2 z false)).2 := by
    intro kinds y z e
    rw [e]; simp [ckTwo, ckPair]
  have two0 : ∀ kinds : List Int, x.l.length ≠ 2 → ckTwo fs s kinds x.l = s := by
    intro kinds e
    cases hl' : x.l with
    | nil => rfl
    | cons y r => rw [hl'] at e; simp only [ckTwo]; rw [if_neg (by simp at e; omega)]
  have cases2 : x.l.length = 2 → ∃ y z, x.l = [y, z] := by
    intro e
    match hl' : x.l, e with
    | [y, z], _ => exact ⟨y, z, rfl⟩
  by_cases heq : x.op = 19 ∨ x.op = 20
  · have e : ckExpr fs s x stmt = (kindTyp 2, ckTwo fs s [1, 2, 3] x.l) := by
      rw [ckExpr_eq]; rcases heq with hop | hop <;> simp [hb, hop]
    by_cases hlen : x.l.length = 2
    · obtain ⟨y, z, hyz⟩ := cases2 hlen
      rw [two _ y z hyz] at e
      have hy : ExprC y false := fun k fw => he y (by simp [hyz]) k fw
      have hz : ExprC z false := fun k fw => he z (by simp [hyz]) k fw
      have a0 : ∀ f, aia 5 (.sl (x.l.map eExpr) f) (.int .i64 0) = some (.ip (eExpr y) 0) := fun f => aia_sl (i := 0) (by rw [hyz]; rfl) (eExpr_len y)
      have a1 : ∀ f, aia 5 (.sl (x.l.map eExpr) f) (.int .i64 1) = some (.ip (eExpr z) 0) := fun f => aia_sl (i := 1) (by rw [hyz]; rfl) (eExpr_len z)
      rcases heq with hop | hop
      all_goals
        simp only [go_sem,seval, hcl, upd_ne _ _ _ hne, hb, upd_upd, hop, a0, a1, show ((x.l.length : Int) = 2) = True by simp; omega]
        refine tcE (any_of y hy (kp _) fw) ?_
        simp only [go_sem,seval, upd_upd]
        refine tcE (value_of z hz ((kp _).next _) fw [_] (few_small (by simp)) true) ?_
        simp only [go_sem,seval, upd_ne _ _ _ hne', upd_comm _ _ _ hne, upd_upd]
        exact pairs _ _ e
    · rcases heq with hop | hop
      all_goals
        simp only [go_sem,seval, hcl, upd_ne _ _ _ hne, hb, upd_upd, hop, show ((x.l.length : Int) = 2) = False by simp; omega]
        exact fin0 (kindTyp 2) (by rw [e, two0 _ hlen])
  by_cases hlt : x.op = 21 ∨ x.op = 22 ∨ x.op = 23 ∨ x.op = 24
  · have e : ckExpr fs s x stmt = (kindTyp 2, ckTwo fs s [1, 3] x.l) := by
      rw [ckExpr_eq]; rcases hlt with hop | hop | hop | hop <;> simp [hb, hop]
    by_cases hlen : x.l.length = 2
    · obtain ⟨y, z, hyz⟩ := cases2 hlen
      rw [two _ y z hyz] at e
      have hy : ExprC y false := fun k fw => he y (by simp [hyz]) k fw
      have hz : ExprC z false := fun k fw => he z (by simp [hyz]) k fw
      have a0 : ∀ f, aia 5 (.sl (x.l.map eExpr) f) (.int .i64 0) = some (.ip (eExpr y) 0) := fun f => aia_sl (i := 0) (by rw [hyz]; rfl) (eExpr_len y)
      have a1 : ∀ f, aia 5 (.sl (x.l.map eExpr) f) (.int .i64 1) = some (.ip (eExpr z) 0) := fun f => aia_sl (i := 1) (by rw [hyz]; rfl) (eExpr_len z)
      rcases hlt with hop | hop | hop | hop
      all_goals
        simp only [go_sem,seval, hcl, upd_ne _ _ _ hne, hb, upd_upd, hop, a0, a1, show ((x.l.length : Int) = 2) = True by simp; omega]
        refine tcE (value_of y hy (kp _) fw [1, 3] (few_small (by simp)) true) ?_
        simp only [go_sem,seval, upd_upd]
        refine tcE (value_of z hz ((kp _).next _) fw [_] (few_small (by simp)) true) ?_
        simp only [go_sem,seval, upd_ne _ _ _ hne', upd_comm _ _ _ hne, upd_upd]
        exact pairs _ _ e
    · rcases hlt with hop | hop | hop | hop
      all_goals
        simp only [go_sem,seval, hcl, upd_ne _ _ _ hne, hb, upd_upd, hop, show ((x.l.length : Int) = 2) = False by simp; omega]
        exact fin0 (kindTyp 2) (by rw [e, two0 _ hlen])
  have e : ckExpr fs s x stmt = (kindTyp 1, ckPair fs s x.l 1) := by
    rw [ckExpr_eq, if_pos hb, if_neg h1, if_neg h2, if_neg h3, if_neg h4, if_neg h5, if_neg h6, if_neg h7, if_neg (by omega), if_neg (by omega), if_neg (by omega)]
  simp only [go_sem,seval, hcl, upd_ne _ _ _ hne, hb, upd_upd, h1, h2, h3, h4, h5, h6, h7]
  repeat' (refine agateT_split (fun hg => ?_) (fun hg => ?_) <;> simp only [go_sem,seval, hg, Bool.not_true, Bool.not_false, upd_upd])
  all_goals first
    | (exfalso
       simp only [decide_eq_true_eq, decide_eq_false_iff_not, Bool.not_true, Bool.not_false] at *
       omega)
    | skip
  all_goals
    refine tcE (pair_of x.l hl he (kp _) fw 1 false) ?_
    simp only [go_sem,seval, upd_ne _ _ _ hne', upd_comm _ _ _ hne, upd_upd]
    exact pairs _ _ e
theorem expr_all [GI] : ∀ (n : Nat) (x : Expr), x.sz ≤ n → x.ok → ∀ stmt, ExprC x stmt := by
 intro n
 induction n with
 | zero => intro x hn; rw [Expr.sz_eq] at hn; omega
 | succ n ih =>
  intro x hn ho stmt
  rw [Expr.sz_eq] at hn
  obtain ⟨h1, h2⟩ := (Expr.ok_iff x).1 ho
  exact expr_of x h1 (fun y hy => ih y (by have := Exprs.sz_mem hy; omega) (h2 y hy) false) stmt
theorem expr_spec [GI] (x : Expr) (ho : x.ok) (stmt : Bool) : ExprC x stmt := expr_all _ x (Nat.le_refl _) ho stmt
end Pg
