import Derived.Test.YtlflapoljegmoaaGreatDoorTreeSD
import Derived.Test.YtlflapoljegmoaaGreatDoorR12aJD
import Derived.Test.YtlflapoljegmoaaGreatDoorTreeSpecD
import Derived.Test.YtlflapoljegmoaaGreatDoorCountJD
import Derived.Test.YtlflapoljegmoaaGreatDoorCount2D
set_option linter.all false
set_option maxHeartbeats 4000000
set_option maxRecDepth 4000
namespace Pg
open Go Go.Proofs.Tryz
structure EnvOk (env : List Th) : Prop where
 few : env.length ≤ 1000000
 fields : ∀ x ∈ env, Pg.few x.rcd.fields
theorem EnvOk.fewE {env : List Th} (o : EnvOk env) : Pg.few env := by have := o.few; unfold Pg.few; omega
theorem EnvOk.found {env : List Th} (o : EnvOk env) (name : ByteArray) : Pg.few (rFind env name).rcd.fields := by
 unfold rFind
 cases h : env.find? (fun x => decide (x.name = name)) with
 | none => simp [noTh, noRec, Pg.few]
 | some x => exact o.fields x (List.mem_of_find?_eq_some h)
abbrev Lks [GI] (f : FuncId) (args : List AV) (h : AHeap) (c : Nat) (v : AV) (s : CS) : Prop := ACalls prog f (.ptr (some ⟨c, 0, none⟩) :: args) h (fun w g => w = v ∧ g = h.upd c (lkBlk s))
def Exp12 [GI] (x : Expr) (stmt : Bool) : Prop := ∀ {h : AHeap} {c : Nat} {s : CS}, h c = some (lkBlk s) → ∀ {env : List Th}, EnvOk env → ∀ full : Bool,
 Lks 108 [.sl (eEnv env) full, .agg (eExpr x), .bool stmt] h c (.agg (eTyp (rExpr env s x stmt).1)) (rExpr env s x stmt).2
section
variable {h : AHeap} {c : Nat} {s : CS} {env : List Th}
theorem value_spec12 [GI] {x : Expr} (hx : Exp12 x false) (hc : h c = some (lkBlk s)) (o : EnvOk env) (full : Bool) (kind : Int) :
    Lks 107 [.sl (eEnv env) full, .agg (eExpr x), .int .i64 kind] h c (.int .i64 (rKind kind (rExpr env s x false)).1) (rKind kind (rExpr env s x false)).2 := by
  refine F107.calls (by simp) ?_
  delta F107.c0
  simp only [go_sem,seval]
  refine tcE (hx hc o full) ?_
  simp only [go_sem,seval]
  repeat' (refine agateT_split (fun hg => ?_) (fun hg => ?_) <;> simp only [go_sem,seval, hg, Bool.not_true, Bool.not_false])
  all_goals simp only [Bool.not_true, Bool.not_false, decide_eq_true_eq, decide_eq_false_iff_not] at *
  all_goals first
    | (refine .same ⟨rfl, ?_⟩
       simp only [rKind]; rw [if_neg (by omega)])
    | (refine callT_of (fail_spec12 (upd_same _ _ _) 14) (fun v g ⟨hv, hg⟩ => ?_)
       subst v g
       simp only [go_sem,seval, upd_upd]
       refine .same ⟨rfl, ?_⟩
       simp only [rKind]; rw [if_pos (by omega)])
end
theorem form_eq (n : Nat) (x : Expr) : form (n + 1) x = (decide (x.l.length ≤ 512) && decide (1 ≤ x.op) && decide (x.op ≤ 24) && partsOk x && forms n x.l) := by
 obtain ⟨op, k, name, field, l⟩ := x; rfl
theorem forms_mem {n : Nat} : ∀ {l : List Expr} {x : Expr}, forms n l = true → x ∈ l → form n x = true
 | y :: r, x, h, hx => by
  simp only [forms, Bool.and_eq_true] at h
  rcases List.mem_cons.1 hx with rfl | hx
  ·exact h.1.2
  ·exact forms_mem h.2 hx
theorem th_1 (x : Th) : (eTh x)[1]? = some (.int .i64 x.kind) := rfl
theorem th_10 (x : Th) : (eTh x)[10]? = some (.int .i64 x.r.result) := rfl
theorem th_11 (x : Th) : (eTh x)[11]? = some (.sl (x.r.params.map eParam) false) := rfl
theorem fail_ne (s : CS) {e : Int} (he : e ≠ 0) : (s.fail e).bad ≠ 0 := by
 unfold CS.fail
 split
 ·exact he
 ·assumption
theorem rArgs_bad (env : List Th) {s : CS} (h : s.bad ≠ 0) (ps : List Param) (l : List Expr) : rArgs env s ps l = s := by
 cases ps with
 | nil => cases l <;> simp [rArgs]
 | cons p ps => cases l with
  | nil => simp [rArgs]
  | cons x l => simp [rArgs, h]
section
variable {h : AHeap} {c : Nat} {s : CS} {env : List Th}
theorem args_loop12 [GI] (x : Expr) (hl : few x.l) (he : ∀ y ∈ x.l, Exp12 y false) (hc : h c = some (lkBlk s)) (o : EnvOk env) (full : Bool) (y : Th) (hlen : s.bad = 0 → y.r.params.length = x.l.length) (p8 : AV) {Q : Exit → Env → AHeap → Tok → Prop} {e : Env}
  (g0 : e.get 0 = .ptr (some ⟨c, 0, none⟩)) (g1 : e.get 1 = .sl (eEnv env) full) (g6 : e.get 6 = .ip (eExpr x) 0) (g8 : e.get 8 = p8) (g9 : e.get 9 = .ip (eTh y) 0) (g10 : e.get 10 = .int .i64 0)
  (hQ : Q (.exit 0) [(8, p8), (9, .ip (eTh y) 0)] (h.upd c (lkBlk (rArgs env s y.r.params x.l))) .go) : lT .go prog 109 F133.c17 Q e h := by
 delta F133.c17
 refine lT_list x.l (fun pre post e g => (∃ s', rArgs env s y.r.params x.l = rArgs env s' (y.r.params.drop pre.length) post ∧ (s'.bad = 0 → y.r.params.length = x.l.length) ∧ g = h.upd c (lkBlk s')) ∧ e = [(0, .ptr (some ⟨c, 0, none⟩)), (1, .sl (eEnv env) full), (6, .ip (eExpr x) 0), (8, p8), (9, .ip (eTh y) 0), (10, .int .i64 pre.length)]) (WeakE.env ?_) ⟨⟨s, by simp, hlen, (upd_self hc).symm⟩, rfl⟩ ?_ ?_
 ·simp only [go_sem,seval, g0, g1, g6, g8, g9, g10]
 ·rintro pre z post e g hp ⟨⟨s', hs, hln, rfl⟩, rfl⟩
  have kc : (h.upd c (lkBlk s')) c = some (.blk [.int .i64 s'.item, .int .i64 s'.bad] 2 127) := upd_same _ _ _
  have kc' : (h.upd c (lkBlk s')) c = some (lkBlk s') := upd_same _ _ _
  by_cases hb : s'.bad = 0
  ·have hi : pre.length < y.r.params.length := by rw [hln hb]; exact (at_pre hp).2
   have hx : y.r.params.drop pre.length = y.r.params[pre.length] :: y.r.params.drop (pre.length + 1) := List.drop_eq_getElem_cons hi
   have hxm : (y.r.params.map eParam)[pre.length]? = some (eParam y.r.params[pre.length]) := by simp [hi]
   generalize y.r.params[pre.length] = q at hx hxm
   have p4 : (eParam q)[4]? = some (.int .i64 q.mode) := rfl
   have p1 : (eParam q)[1]? = some (.int .i64 q.t.kind) := rfl
   have pt : ((eParam q).drop 1).take 3 = eTyp q.t := rfl
   by_cases hm : q.mode = 0
   ·simp only [go_sem,seval, lt_at hp, ↓kc, hb, th_11, aia_sl hxm (eParam_len q), aia_sl (map_at hp) (eExpr_len z), eParam_len, List.take_of_length_le, p4, hm, p1]
    refine tcE (value_spec12 (he z (mem_at hp)) kc' o full q.t.kind) ?_
    simp only [go_sem,seval, upd_upd]
    refine ⟨_, _, WeakE.env ?_, ⟨_, ?_, ?_, rfl⟩, rfl⟩
    ·simp only [go_sem,seval, step_at hl hp]
    ·rw [hs, hx]
     simp [rArgs, hb, hm]
    ·intro _; exact hln hb
   ·simp only [go_sem,seval, lt_at hp, ↓kc, hb, th_11, aia_sl hxm (eParam_len q), aia_sl (map_at hp) (eExpr_len z), eParam_len, List.take_of_length_le, p4, hm, p1]
    have mid : ∀ (s2 : CS), s2 = (if z.op < 4 ∨ 6 < z.op then s'.fail 14 else s') → rArgs env s' (q :: y.r.params.drop (pre.length + 1)) (z :: post) = rArgs env (if (rExpr env s2 z false).1 = q.t then (rExpr env s2 z false).2 else (rExpr env s2 z false).2.fail 14) (y.r.params.drop (pre.length + 1)) post := by
     rintro s2 rfl
     simp only [rArgs, hb, hm, if_true, if_false]
    repeat' (refine agateT_split (fun hg => ?_) (fun hg => ?_) <;> simp only [go_sem,seval, hg, Bool.not_true, Bool.not_false, aia_sl (map_at hp) (eExpr_len z)])
    all_goals try
     refine tcE (fail_spec12 kc' 14) ?_
     simp only [go_sem,seval, upd_upd, aia_sl (map_at hp) (eExpr_len z)]
    all_goals
     first
     | (refine callT_of (he z (mem_at hp) (s := s'.fail 14) (upd_same _ _ _) o full) (fun v g ⟨hv, hg⟩ => ?_); subst v g)
     | (refine callT_of (he z (mem_at hp) (s := s') kc' o full) (fun v g ⟨hv, hg⟩ => ?_); subst v g)
    all_goals
     simp only [go_sem,seval, upd_upd, pt, typ_eq]
     repeat' (refine agateT_split (fun hg => ?_) (fun hg => ?_) <;> simp only [go_sem,seval, hg, Bool.not_true, Bool.not_false])
    all_goals try
     refine tcE (fail_spec12 (upd_same _ _ _) 14) ?_
     simp only [go_sem,seval, upd_upd]
    all_goals
     refine ⟨_, _, WeakE.env ?_, ⟨_, ?_, fun _ => hln hb, rfl⟩, rfl⟩
     ·simp only [go_sem,seval, step_at hl hp]
     ·rw [hs, hx, mid _ rfl]
      simp only [Bool.not_true, Bool.not_false, decide_eq_true_eq, decide_eq_false_iff_not] at *
      first
      | rw [if_pos (show z.op < 4 ∨ 6 < z.op by omega)]
      | rw [if_neg (show ¬ (z.op < 4 ∨ 6 < z.op) by omega)]
      simp [hg]
  ·simp only [go_sem,seval, lt_at hp, ↓kc, hb]
   refine lessQ.to (.env ?_) (by rw [hs, rArgs_bad env hb] at hQ; exact hQ)
   simp only [go_sem,seval]
 ·rintro e g ⟨⟨s', hs, hln, rfl⟩, rfl⟩
  have kc : (h.upd c (lkBlk s')) c = some (.blk [.int .i64 s'.item, .int .i64 s'.bad] 2 127) := upd_same _ _ _
  have hr : rArgs env s' (y.r.params.drop x.l.length) [] = s' := by cases y.r.params.drop x.l.length <;> simp [rArgs]
  simp only [go_sem,seval, lt_end]
  rw [hs, hr] at hQ
  refine lessQ.to (.env ?_) hQ
  simp only [go_sem,seval]
theorem call_spec12 [GI] (x : Expr) (hop : x.op = 7) (hb : s.bad = 0) (hl : few x.l) (he : ∀ y ∈ x.l, Exp12 y false) (hc : h c = some (lkBlk s)) (o : EnvOk env) (full : Bool) (stmt : Bool) :
  Lks 133 [.sl (eEnv env) full, .agg (eExpr x), .bool stmt] h c (.agg (eTyp (rExpr env s x stmt).1)) (rExpr env s x stmt).2 := by
 rw [rExpr_eq]
 simp only [hb, hop, if_true, Int.reduceEq, if_false, or_self]
 refine F133.calls (by simp) ?_
 delta F133.c0
 simp only [go_sem,seval]
 refine afreshT_intro fun p hp => ?_
 have hne := none_ne hp hc
 have kp : (h.upd p (.blk [.int .i64 0, .int .i64 0, .str ⟨#[]⟩] 3 80)) c = some (lkBlk s) := by rw [upd_ne _ _ _ hne]; exact hc
 simp only [go_sem,seval]
 refine tcE (find_spec12 _ env o.fewE full x.name) ?_
 generalize rFind env x.name = y
 have fin : ∀ (t : Typ) (s' : CS) (r : Typ × CS), r = (t, s') → EndW (fun v g => v = .agg (eTyp r.1) ∧ g = h.upd c (lkBlk r.2)) (.agg [.int .i64 t.kind, .int .i64 t.size, .str t.name]) ((h.upd p (.blk [.int .i64 t.kind, .int .i64 t.size, .str t.name] 3 80)).upd c (lkBlk s')) := by
  intro t s' r e
  rw [e]
  exact .forget (le_upd_upd (upd_le hp) _ _) ⟨rfl, rfl⟩
 by_cases hk : y.kind = 2
 ·by_cases hst : decide (0 < y.r.result) = stmt
  ·have hst' : decide (y.r.result > 0) = stmt := hst
   simp only [go_sem,seval, th_1, th_10, th_11, hk, hst', eTh_len, eTh_take]
   refine tcE (fail_spec12 kp 14) ?_
   by_cases hln : y.r.params.length = x.l.length
   ·simp only [go_sem,seval, th_11, hln]
    refine args_loop12 x hl he (upd_same _ _ _) o full y (fun _ => hln) (.ptr (some ⟨p, 0, none⟩)) ?_ ?_ ?_ ?_ ?_ ?_ ?_
    iterate 6 (simp only [go_sem,seval])
    simp only [go_sem,seval, th_10, upd_ne _ _ _ hne.symm, upd_comm _ _ _ hne, upd_upd]
    exact fin (kindTyp y.r.result) _ _ rfl
   ·simp only [go_sem,seval, th_11, show ((y.r.params.length : Int) = x.l.length) = False by simp; omega]
    refine tcE (fail_spec12 (upd_same _ _ _) 15) ?_
    simp only [go_sem,seval]
    refine args_loop12 x hl he (s := (s.fail 14).fail 15) (by rw [upd_upd]; exact upd_same _ _ _) o full y (fun hh => absurd hh (fail_ne _ (by decide))) (.ptr (some ⟨p, 0, none⟩)) ?_ ?_ ?_ ?_ ?_ ?_ ?_
    iterate 6 (simp only [go_sem,seval])
    simp only [go_sem,seval, th_10, upd_ne _ _ _ hne.symm, upd_comm _ _ _ hne, upd_upd]
    simp only [if_neg hln]
    exact fin (kindTyp y.r.result) _ _ rfl
  ·have hst' : (decide (y.r.result > 0) = stmt) = False := by simpa using hst
   by_cases hln : y.r.params.length = x.l.length
   ·simp only [go_sem,seval, th_1, th_10, th_11, hk, hst', eTh_len, eTh_take, hln]
    refine args_loop12 x hl he kp o full y (fun _ => hln) (.ptr (some ⟨p, 0, none⟩)) ?_ ?_ ?_ ?_ ?_ ?_ ?_
    iterate 6 (simp only [go_sem,seval])
    simp only [go_sem,seval, th_10, upd_ne _ _ _ hne.symm, upd_comm _ _ _ hne, upd_upd]
    exact fin (kindTyp y.r.result) _ _ rfl
   ·simp only [go_sem,seval, th_1, th_10, th_11, hk, hst', eTh_len, eTh_take, show ((y.r.params.length : Int) = x.l.length) = False by simp; omega]
    refine tcE (fail_spec12 kp 15) ?_
    simp only [go_sem,seval]
    refine args_loop12 x hl he (s := s.fail 15) (upd_same _ _ _) o full y (fun hh => absurd hh (fail_ne _ (by decide))) (.ptr (some ⟨p, 0, none⟩)) ?_ ?_ ?_ ?_ ?_ ?_ ?_
    iterate 6 (simp only [go_sem,seval])
    simp only [go_sem,seval, th_10, upd_ne _ _ _ hne.symm, upd_comm _ _ _ hne, upd_upd]
    simp only [if_neg hln]
    exact fin (kindTyp y.r.result) _ _ rfl
 ·simp only [go_sem,seval, th_1, hk, eTh_len, eTh_take]
  refine tcE (fail_spec12 kp 13) ?_
  simp only [go_sem,seval, upd_ne _ _ _ hne.symm, upd_comm _ _ _ hne, upd_upd]
  exact fin noTyp _ _ (by first | rfl | simp [hk])
end
theorem parts_len {x : Expr} (h : partsOk x = true) : (x.l.length : Int) = if x.op = 7 then (x.l.length : Int) else if x.op = 5 ∨ x.op = 8 ∨ x.op = 9 then 1 else if 10 ≤ x.op then 2 else 0 := by
 unfold partsOk at h
 simp only [Bool.and_eq_true, decide_eq_true_eq] at h
 exact h.2
theorem typ_splice (a b d : AV) (t : Typ) : splice [a, b, d] 0 (eTyp t) = eTyp t := rfl
theorem th_rec (x : Th) : ((eTh x).drop 2).take 5 = eRec x.rcd := rfl
theorem expr_spec12 [GI] : ∀ (n : Nat) (x : Expr), form n x = true → ∀ stmt : Bool, Exp12 x stmt := by
 intro n
 induction n with
 | zero => intro x hx; simp [form] at hx
 | succ n ih =>
  intro x hx stmt h c s hc env o full
  rw [form_eq] at hx
  simp only [Bool.and_eq_true, decide_eq_true_eq] at hx
  obtain ⟨⟨⟨⟨h1, h2⟩, h3⟩, h4⟩, h5⟩ := hx
  have hsub : ∀ y ∈ x.l, ∀ b, Exp12 y b := fun y hy b => ih y (forms_mem h5 hy) b
  have hcd : h c = some (.blk [.int .i64 s.item, .int .i64 s.bad] 2 127) := hc
  have fin : ∀ {p : Nat}, h p = none → ∀ (t : Typ) (s' : CS) (r : Typ × CS), r = (t, s') → EndW (fun v g => v = .agg (eTyp r.1) ∧ g = h.upd c (lkBlk r.2)) (.agg (eTyp t)) ((h.upd p (.blk (eTyp t) 3 80)).upd c (lkBlk s')) := by
   intro p hp t s' r e
   rw [e]
   exact .forget (le_upd_upd (upd_le hp) _ _) ⟨rfl, rfl⟩
  have fin0 : ∀ {p : Nat}, h p = none → ∀ (t : Typ) (r : Typ × CS), r = (t, s) → EndW (fun v g => v = .agg (eTyp r.1) ∧ g = h.upd c (lkBlk r.2)) (.agg (eTyp t)) (h.upd p (.blk (eTyp t) 3 80)) := by
   intro p hp t r e
   rw [e]
   exact .forget (upd_le hp) ⟨rfl, by rw [upd_self hc]⟩
  have hlen := parts_len h4
  rw [rExpr_eq]
  refine F108.calls (by simp) ?_
  delta F108.c0
  simp only [go_sem,seval]
  refine afreshT_intro fun p hp => ?_
  have hne := none_ne hp hc
  have kp : (h.upd p (.blk [.int .i64 0, .int .i64 0, .str ⟨#[]⟩] 3 80)) c = some (lkBlk s) := by rw [upd_ne _ _ _ hne]; exact hc
  have kpd : (h.upd p (.blk [.int .i64 0, .int .i64 0, .str ⟨#[]⟩] 3 80)) c = some (.blk [.int .i64 s.item, .int .i64 s.bad] 2 127) := kp
  by_cases hb : s.bad = 0
  ·rw [if_pos hb]
   by_cases g1 : x.op = 1 ∨ x.op = 2 ∨ x.op = 3
   ·rw [if_pos g1]
    rcases g1 with g1 | g1 | g1
    all_goals
     simp only [go_sem,seval, kpd, hb, expr_0, g1, upd_upd]
     exact fin0 hp (kindTyp _) _ rfl
   rw [if_neg g1]
   by_cases g4 : x.op = 4
   ·rw [if_pos g4]
    simp only [go_sem,seval, kpd, hb, expr_0, expr_2, g4]
    refine tcE (variable_spec12 kp env o.fewE full x.name) ?_
    simp only [go_sem,seval, eTyp_len, upd_ne _ _ _ hne.symm, upd_comm _ _ _ hne, upd_upd, typ_splice, typ_take]
    exact fin hp _ _ _ rfl
   rw [if_neg g4]
   by_cases g5 : x.op = 5
   ·rw [if_pos g5]
    have hl1 : x.l.length = 1 := by simp [g5] at hlen; omega
    obtain ⟨y, hy⟩ := List.length_eq_one_iff.1 hl1
    have hym : y ∈ x.l := by rw [hy]; simp
    have hA : aia 5 (.sl (x.l.map eExpr) false) (.int .i64 0) = some (.ip (eExpr y) 0) := aia_sl (i := 0) (by rw [hy]; rfl) (eExpr_len y)
    have hH : ∀ s', rHead env s' x.l 1 = (rKind 1 (rExpr env s' y false)).2 := by intro s'; rw [hy]; simp only [rHead]
    simp only [go_sem,seval, kpd, hb, expr_0, expr_2, g5]
    refine tcE (variable_spec12 kp env o.fewE full x.name) ?_
    generalize rVariable env s x.name = q
    by_cases hz : q.1.size = 0
    ·simp only [go_sem,seval, eTyp_len, typ_take, typ_1, typ_0, hz]
     refine tcE (fail_spec12 (upd_same _ _ _) 14) ?_
     simp only [go_sem,seval, upd_upd, expr_4, hA, eExpr_len, expr_take]
     refine tcE (value_spec12 (hsub y hym false) (upd_same _ _ _) o full 1) ?_
     simp only [go_sem,seval, upd_upd, upd_ne _ _ _ hne.symm, upd_comm _ _ _ hne, typ_0]
     simp only [hH]
     exact fin hp (kindTyp q.1.kind) _ _ rfl
    ·simp only [go_sem,seval, eTyp_len, typ_take, typ_1, typ_0, hz, expr_4, hA, eExpr_len, expr_take]
     refine tcE (value_spec12 (hsub y hym false) (upd_same _ _ _) o full 1) ?_
     simp only [go_sem,seval, upd_upd, upd_ne _ _ _ hne.symm, upd_comm _ _ _ hne, typ_0]
     simp only [hH]
     exact fin hp (kindTyp q.1.kind) _ _ rfl
   rw [if_neg g5]
   by_cases g6 : x.op = 6
   ·rw [if_pos g6]
    simp only [go_sem,seval, kpd, hb, expr_0, expr_2, g6]
    refine tcE (variable_spec12 kp env o.fewE full x.name) ?_
    generalize rVariable env s x.name = q
    by_cases hz : q.1.kind = 4
    ·simp only [go_sem,seval, eTyp_len, typ_take, typ_2, typ_0, hz]
     refine tcE (find_spec12 _ env o.fewE full q.1.name) ?_
     have hff := o.found q.1.name
     generalize hw : rFind env q.1.name = w at hff
     simp only [go_sem,seval, eTh_len, th_rec, eRec_len, rec_take]
     generalize hB : AHeap.upd (AHeap.upd h p _) c _ = B
     have hBp : B p = some (.blk [.int .i64 0, .int .i64 0, .str ⟨#[]⟩] 3 80) := by rw [← hB, upd_ne _ _ _ hne.symm, upd_same]
     refine lT_list w.rcd.fields (fun pre post e g => w.rcd.fields.find? (fun f => decide (f.name = x.field)) = post.find? (fun f => decide (f.name = x.field)) ∧ g = B ∧ e = [(0, .ptr (some ⟨c, 0, none⟩)), (6, .ip (eExpr x) 0), (8, .ptr (some ⟨p, 0, none⟩)), (11, .ip (eRec w.rcd) 0), (12, .int .i64 pre.length)]) (WeakE.env ?_) ⟨rfl, rfl, rfl⟩ ?_ ?_
     ·simp only [go_sem,seval]
     ·rintro pre f post e g hp' ⟨hk, rfl, rfl⟩
      by_cases he : f.name = x.field
      ·simp only [go_sem,seval, rec_3, lt_at hp', aia_sl (map_at hp') (eFld_len f), fld_2, fld_3, expr_3, he, hBp]
       refine lessQ.same ?_
       rw [← hB]
       simp only [go_sem,seval, upd_ne _ _ _ hne.symm, upd_comm _ _ _ hne, upd_upd]
       refine fin hp (kindTyp f.kind) _ _ ?_
       simp [rField, hz, hw, hk, he]
      ·simp only [go_sem,seval, rec_3, lt_at hp', aia_sl (map_at hp') (eFld_len f), fld_2, fld_3, expr_3, he]
       refine ⟨_, _, WeakE.env ?_, ?_, rfl, rfl⟩
       ·simp only [go_sem,seval, step_at hff hp']
       ·rw [hk]; simp [he]
     ·rintro e g ⟨hk, rfl, rfl⟩
      simp only [go_sem,seval, rec_3, lt_end]
      refine lessQ.same ?_
      rw [← hB]
      simp only [go_sem,seval]
      refine tcE (fail_spec12 (s := q.2) (upd_same _ _ _) 13) ?_
      simp only [go_sem,seval, upd_upd, upd_ne _ _ _ hne.symm, upd_comm _ _ _ hne]
      refine fin hp noTyp _ _ ?_
      simp [rField, hz, hw, hk]
    ·simp only [go_sem,seval, eTyp_len, typ_take, typ_2, typ_0, hz]
     refine tcE (fail_spec12 (upd_same _ _ _) 14) ?_
     simp only [go_sem,seval, upd_upd, upd_ne _ _ _ hne.symm, upd_comm _ _ _ hne]
     exact fin hp noTyp _ _ (by simp [rField, hz])
   rw [if_neg g6]
   by_cases g7 : x.op = 7
   ·rw [if_pos g7]
    simp only [go_sem,seval, kpd, hb, expr_0, g7, eExpr_len, expr_take]
    refine tcE (call_spec12 x g7 hb (few_small (by omega)) (fun y hy => hsub y hy false) kp o full stmt) ?_
    simp only [go_sem,seval, eTyp_len, upd_ne _ _ _ hne.symm, upd_comm _ _ _ hne, upd_upd, typ_splice, typ_take]
    refine fin hp _ _ _ ?_
    rw [rExpr_eq]; simp [hb, g7]
   rw [if_neg g7]
   by_cases g9 : x.op = 9 ∨ x.op = 13 ∨ x.op = 14 ∨ x.op = 17 ∨ x.op = 18
   ·rw [if_pos g9]
    rcases g9 with g9 | g9 | g9 | g9 | g9
    all_goals
     simp only [go_sem,seval, kpd, hb, expr_0, g9]
     refine lT_list x.l (fun pre post e g => (∃ s', rPair env s x.l 2 = rPair env s' post 2 ∧ g = (h.upd p (.blk [.int .i64 0, .int .i64 0, .str ⟨#[]⟩] 3 80)).upd c (lkBlk s')) ∧ e = [(0, .ptr (some ⟨c, 0, none⟩)), (1, .sl (eEnv env) full), (6, .ip (eExpr x) 0), (8, .ptr (some ⟨p, 0, none⟩)), (13, .int .i64 pre.length)]) (WeakE.env ?_) ⟨⟨s, rfl, (upd_self kp).symm⟩, rfl⟩ ?_ ?_
     ·simp only [go_sem,seval]
     ·rintro pre z post e g hp' ⟨⟨s', hs, rfl⟩, rfl⟩
      simp only [go_sem,seval, expr_4, lt_at hp', aia_sl (map_at hp') (eExpr_len z), eExpr_len, expr_take]
      refine tcE (value_spec12 (hsub z (mem_at hp') false) (upd_same _ _ _) o full 2) ?_
      simp only [go_sem,seval, upd_upd]
      refine ⟨_, _, WeakE.env ?_, ⟨_, ?_, rfl⟩, rfl⟩
      ·simp only [go_sem,seval, step_at (few_small (l := x.l) (by omega)) hp']
      ·rw [hs]; simp only [rPair]
     ·rintro e g ⟨⟨s', hs, rfl⟩, rfl⟩
      simp only [go_sem,seval, expr_4, lt_end]
      refine lessQ.same ?_
      simp only [go_sem,seval, upd_upd, upd_ne _ _ _ hne.symm, upd_comm _ _ _ hne]
      rw [hs]
      simp only [rPair]
      exact fin hp (kindTyp 2) _ _ rfl
   rw [if_neg g9]
   by_cases g19 : 19 ≤ x.op ∧ x.op ≤ 24
   ·rw [if_pos g19]
    have hl2 : x.l.length = 2 := by
     rw [if_neg g7, if_neg (by omega), if_pos (by omega)] at hlen; omega
    obtain ⟨a, b, hab⟩ : ∃ a b, x.l = [a, b] := by
     match hm : x.l, hl2 with
     | [a, b], _ => exact ⟨a, b, rfl⟩
    have hA : aia 5 (.sl (x.l.map eExpr) false) (.int .i64 0) = some (.ip (eExpr a) 0) := aia_sl (i := 0) (by rw [hab]; rfl) (eExpr_len a)
    have hB : aia 5 (.sl (x.l.map eExpr) false) (.int .i64 1) = some (.ip (eExpr b) 0) := aia_sl (i := 1) (by rw [hab]; rfl) (eExpr_len b)
    have ha : a ∈ x.l := by rw [hab]; simp
    have hb' : b ∈ x.l := by rw [hab]; simp
    have hT : rTwo env s (decide (20 < x.op)) x.l = (rKind (rKind 0 (rExpr env s a false)).1 (rExpr env (if 20 < x.op ∧ (rKind 0 (rExpr env s a false)).1 = 2 then (rKind 0 (rExpr env s a false)).2.fail 14 else (rKind 0 (rExpr env s a false)).2) b false)).2 := by
     rw [hab]; simp only [rTwo, rHead, decide_eq_true_eq]
    rw [hT]
    generalize hq : rKind 0 (rExpr env s a false) = q
    have g19' : x.op = 19 ∨ x.op = 20 ∨ x.op = 21 ∨ x.op = 22 ∨ x.op = 23 ∨ x.op = 24 := by omega
    rcases g19' with g9 | g9 | g9 | g9 | g9 | g9
    all_goals
     simp only [go_sem,seval, kpd, hb, expr_0, g9, expr_4, hA, eExpr_len, expr_take]
     refine tcE (value_spec12 (hsub a ha false) kp o full 0) ?_
     rw [hq]
     try (simp only [go_sem,seval, expr_0, g9, expr_4, hB, eExpr_len, expr_take])
    iterate 2
     ·refine tcE (value_spec12 (hsub b hb' false) (upd_same _ _ _) o full q.1) ?_
      simp only [go_sem,seval, upd_upd, upd_ne _ _ _ hne.symm, upd_comm _ _ _ hne]
      simp only [false_and, if_false]
      exact fin hp (kindTyp 2) _ _ rfl
    all_goals
     by_cases hk : q.1 = 2
     ·simp only [go_sem,seval, hk]
      refine tcE (fail_spec12 (upd_same _ _ _) 14) ?_
      simp only [go_sem,seval, upd_upd, expr_4, hB, eExpr_len, expr_take, hk]
      refine tcE (value_spec12 (hsub b hb' false) (upd_same _ _ _) o full 2) ?_
      simp only [go_sem,seval, upd_upd, upd_ne _ _ _ hne.symm, upd_comm _ _ _ hne]
      exact fin hp (kindTyp 2) _ _ rfl
     ·simp only [go_sem,seval, hk, expr_4, hB, eExpr_len, expr_take]
      refine tcE (value_spec12 (hsub b hb' false) (upd_same _ _ _) o full q.1) ?_
      simp only [go_sem,seval, upd_upd, upd_ne _ _ _ hne.symm, upd_comm _ _ _ hne]
      exact fin hp (kindTyp 2) _ _ rfl
   rw [if_neg g19]
   have g8 : x.op = 8 ∨ x.op = 10 ∨ x.op = 11 ∨ x.op = 12 ∨ x.op = 15 ∨ x.op = 16 := by omega
   rcases g8 with g9 | g9 | g9 | g9 | g9 | g9
   all_goals
     simp only [go_sem,seval, kpd, hb, expr_0, g9]
     refine lT_list x.l (fun pre post e g => (∃ s', rPair env s x.l 1 = rPair env s' post 1 ∧ g = (h.upd p (.blk [.int .i64 0, .int .i64 0, .str ⟨#[]⟩] 3 80)).upd c (lkBlk s')) ∧ e = [(0, .ptr (some ⟨c, 0, none⟩)), (1, .sl (eEnv env) full), (6, .ip (eExpr x) 0), (8, .ptr (some ⟨p, 0, none⟩)), (15, .int .i64 pre.length)]) (WeakE.env ?_) ⟨⟨s, rfl, (upd_self kp).symm⟩, rfl⟩ ?_ ?_
     ·simp only [go_sem,seval]
     ·rintro pre z post e g hp' ⟨⟨s', hs, rfl⟩, rfl⟩
      simp only [go_sem,seval, expr_4, lt_at hp', aia_sl (map_at hp') (eExpr_len z), eExpr_len, expr_take]
      refine tcE (value_spec12 (hsub z (mem_at hp') false) (upd_same _ _ _) o full 1) ?_
      simp only [go_sem,seval, upd_upd]
      refine ⟨_, _, WeakE.env ?_, ⟨_, ?_, rfl⟩, rfl⟩
      ·simp only [go_sem,seval, step_at (few_small (l := x.l) (by omega)) hp']
      ·rw [hs]; simp only [rPair]
     ·rintro e g ⟨⟨s', hs, rfl⟩, rfl⟩
      simp only [go_sem,seval, expr_4, lt_end]
      refine lessQ.same ?_
      simp only [go_sem,seval, upd_upd, upd_ne _ _ _ hne.symm, upd_comm _ _ _ hne]
      rw [hs]
      simp only [rPair]
      exact fin hp (kindTyp 1) _ _ rfl
  ·rw [if_neg hb]
   simp only [go_sem,seval, kpd, hb, upd_upd]
   exact fin0 hp noTyp _ rfl
end Pg
namespace Pg
open Go Go.Proofs.Tryz
theorem tExpr_form {x : Expr} (h : tExpr x = true) : form 48 x = true := by
 unfold tExpr at h
 simp only [Bool.and_eq_true] at h
 exact h.1
theorem tStmt_eq (x : Stmt) (d : Int) : tStmt x d = (decide (d ≤ 48) && tStmt1 x && (tStmts x.body (d + 1) && decide (x.body.length ≤ 512)) && (tStmts x.els (d + 1) && decide (x.els.length ≤ 512))) := by
 obtain ⟨before, trail, op, name, p, e, down, more, body, els, end1, end2⟩ := x; rfl
theorem tStmts_mem {d : Int} : ∀ {l : List Stmt} {x : Stmt}, tStmts l d = true → x ∈ l → tStmt x d = true
 | y :: r, x, h, hx => by
  simp only [tStmts, Bool.and_eq_true] at h
  rcases List.mem_cons.1 hx with rfl | hx
  ·exact h.1
  ·exact tStmts_mem h.2 hx
structure SOk [GI] (x : Stmt) : Prop where
 op1 : 1 ≤ x.op
 op9 : x.op ≤ 9
 lo : (if x.op = 6 then 2 else if x.op = 7 then 0 else if x.op = 9 then 0 else 1) ≤ x.e.length
 hi : x.e.length ≤ if x.op = 6 then 2 else if x.op = 7 then 0 else 1
 e : ∀ y ∈ x.e, ∀ b, Exp12 y b
 p : x.op = 1 ∨ x.op = 7 → ∀ b, Exp12 x.p b
theorem tStmt1_ok [GI] {x : Stmt} (h : tStmt1 x = true) : SOk x := by
 unfold tStmt1 sMarks sCount sPlace at h
 simp only [Bool.and_eq_true, decide_eq_true_eq, List.all_eq_true] at h
 obtain ⟨⟨⟨⟨⟨⟨⟨⟨_, h1⟩, h2⟩, h3, h4⟩, h5⟩, h6⟩, _⟩, _⟩, _⟩ := h
 refine ⟨h1, h2, h3, h4, fun y hy b => ?_, fun hh b => ?_⟩
 ·have := h5 y hy
  unfold sExpr at this
  simp only [Bool.and_eq_true] at this
  intro h c s hc env o full
  exact expr_spec12 _ y (tExpr_form this.1) b hc o full
 ·rw [if_pos hh] at h6
  unfold tPlace at h6
  simp only [Bool.and_eq_true] at h6
  intro h c s hc env o full
  exact expr_spec12 _ _ (tExpr_form h6.2) b hc o full
theorem rStmts_bad (env : List Th) {s : CS} (h : s.bad ≠ 0) (res : Int) (l : List Stmt) : rStmts env s res l = s := by
 cases l with
 | nil => rfl
 | cons x l => simp [rStmts, h]
theorem stmts_spec12 [GI] (res : Int) : ∀ (n : Nat) (l : List Stmt) (d : Int), Stmts.sz l ≤ n → tStmts l d = true → l.length ≤ 512 → ∀ {h : AHeap} {c : Nat} {s : CS} {env : List Th}, h c = some (lkBlk s) → EnvOk env → ∀ full f2 : Bool,
  Lks 69 [.sl (eEnv env) full, .int .i64 res, .sl (l.map eStmt) f2] h c (.tuple []) (rStmts env s res l) := by
 intro n
 induction n with
 | zero =>
  intro l d hn ht hl h c s env hc o full f2
  cases l with
  | cons x r => simp [Stmts.sz] at hn
  | nil =>
   refine F69.calls (by simp) ?_
   delta F69.c0
   simp only [go_sem,seval]
   refine lT_round ?_
   simp only [go_sem,seval]
   exact .same ⟨rfl, (upd_self hc).symm⟩
 | succ n ih =>
  intro l d hn ht hl h c s env hc o full f2
  refine F69.calls (by simp) ?_
  delta F69.c0
  simp only [go_sem,seval]
  refine lT_list l (fun pre post e g => (∃ s', rStmts env s res l = rStmts env s' res post ∧ g = h.upd c (lkBlk s')) ∧ e = [(0, .ptr (some ⟨c, 0, none⟩)), (1, .sl (eEnv env) full), (2, .int .i64 res), (3, .sl (l.map eStmt) f2), (8, .int .i64 pre.length)]) (WeakE.env ?_) ⟨⟨s, rfl, (upd_self hc).symm⟩, rfl⟩ ?_ ?_
  ·simp only [go_sem,seval]
  ·rintro pre x post e g hp ⟨⟨s', hs, rfl⟩, rfl⟩
   have hx := mem_at hp
   have hxz := Stmts.sz_mem hx
   have hz := Stmt.sz_eq x
   have ht' := tStmts_mem ht hx
   rw [tStmt_eq] at ht'
   simp only [Bool.and_eq_true, decide_eq_true_eq] at ht'
   obtain ⟨⟨⟨hd, hso⟩, htb, hlb⟩, hte, hle⟩ := ht'
   have so := tStmt1_ok hso
   by_cases hb : s'.bad = 0
   ·simp only [go_sem,seval, lt_at hp]
    refine tcE (next_spec12 (s := s') (upd_same _ _ _)) ?_
    simp only [go_sem,seval, hb, upd_upd, aia_sl (map_at hp) (eStmt_len x), eStmt_len, stmt_take]
    have lo := so.lo
    have hi := so.hi
    have one : x.op ≠ 6 → x.op ≠ 7 → x.op ≠ 9 → ∃ a, x.e = [a] := fun h6 h7 h9 => by
     rw [if_neg h6, if_neg h7, if_neg h9] at lo
     rw [if_neg h6, if_neg h7] at hi
     exact List.length_eq_one_iff.1 (by omega)
    have hsp : rStmts env s' res (x :: post) = rStmts env (rDeep env s'.step res x) res post := by simp only [rStmts, hb, if_true]
    have hP : ((eStmt x).drop 4).take 5 = eExpr x.p := by rw [eStmt_eq, eExpr_eq]; rfl
    have gap : x.op = 1 ∨ x.op = 2 ∨ x.op = 3 ∨ x.op = 4 ∨ x.op = 5 ∨ x.op = 6 ∨ x.op = 7 ∨ x.op = 8 ∨ x.op = 9 := by have := so.op1; have := so.op9; omega
    have hA : ∀ a, x.e = [a] → aia 5 (.sl (x.e.map eExpr) false) (.int .i64 0) = some (.ip (eExpr a) 0) := fun a ha => aia_sl (i := 0) (by rw [ha]; rfl) (eExpr_len a)
    rcases gap with g | g | g | g | g | g | g | g | g
    ·obtain ⟨a, ha⟩ := one (by omega) (by omega) (by omega)
     have hX : rStmt env s'.step res x = (rKind (rKind 0 (rExpr env s'.step x.p false)).1 (rExpr env (rKind 0 (rExpr env s'.step x.p false)).2 a false)).2 := by simp [rStmt, g, ha, rHead]
     simp only [go_sem,seval, stmt_2, g, hP]
     refine tcE (value_spec12 (so.p (.inl g) false) (upd_same _ _ _) o full 0) ?_
     simp only [go_sem,seval, upd_upd, stmt_9, hA a ha, eExpr_len, expr_take]
     refine tcE (value_spec12 (so.e a (by rw [ha]; simp) false) (upd_same _ _ _) o full _) ?_
     rw [← hX]
     simp only [go_sem,seval, upd_upd, stmt_12]
     refine tcE (ih x.body (d + 1) (by omega) htb hlb (upd_same _ _ _) o full false) ?_
     simp only [go_sem,seval, upd_upd, stmt_13]
     refine tcE (ih x.els (d + 1) (by omega) hte hle (upd_same _ _ _) o full false) ?_
     simp only [go_sem,seval, upd_upd]
     refine ⟨_, _, WeakE.env ?_, ⟨_, ?_, rfl⟩, rfl⟩
     ·simp only [go_sem,seval, step_at (few_small (l := l) (by omega)) hp]
     ·rw [hs, hsp, rDeep_eq]
    ·obtain ⟨a, ha⟩ := one (by omega) (by omega) (by omega)
     have hX : rStmt env s'.step res x = (rExpr env s'.step a true).2 := by simp [rStmt, g, ha, rCall]
     simp only [go_sem,seval, stmt_2, g, stmt_9, hA a ha, eExpr_len, expr_take]
     refine tcE (so.e a (by rw [ha]; simp) true (upd_same _ _ _) o full) ?_
     rw [← hX]
     simp only [go_sem,seval, upd_upd, stmt_12]
     refine tcE (ih x.body (d + 1) (by omega) htb hlb (upd_same _ _ _) o full false) ?_
     simp only [go_sem,seval, upd_upd, stmt_13]
     refine tcE (ih x.els (d + 1) (by omega) hte hle (upd_same _ _ _) o full false) ?_
     simp only [go_sem,seval, upd_upd]
     refine ⟨_, _, WeakE.env ?_, ⟨_, ?_, rfl⟩, rfl⟩
     ·simp only [go_sem,seval, step_at (few_small (l := l) (by omega)) hp]
     ·rw [hs, hsp, rDeep_eq]
    iterate 3
     ·obtain ⟨a, ha⟩ := one (by omega) (by omega) (by omega)
      have hX : rStmt env s'.step res x = (rKind 2 (rExpr env s'.step a false)).2 := by simp [rStmt, g, ha, rHead]
      simp only [go_sem,seval, stmt_2, g, stmt_9, hA a ha, eExpr_len, expr_take]
      refine tcE (value_spec12 (so.e a (by rw [ha]; simp) false) (upd_same _ _ _) o full 2) ?_
      rw [← hX]
      simp only [go_sem,seval, upd_upd, stmt_12]
      refine tcE (ih x.body (d + 1) (by omega) htb hlb (upd_same _ _ _) o full false) ?_
      simp only [go_sem,seval, upd_upd, stmt_13]
      refine tcE (ih x.els (d + 1) (by omega) hte hle (upd_same _ _ _) o full false) ?_
      simp only [go_sem,seval, upd_upd]
      refine ⟨_, _, WeakE.env ?_, ⟨_, ?_, rfl⟩, rfl⟩
      ·simp only [go_sem,seval, step_at (few_small (l := l) (by omega)) hp]
      ·rw [hs, hsp, rDeep_eq]
    ·obtain ⟨a, b, hab⟩ : ∃ a b, x.e = [a, b] := by
      rw [if_pos g] at lo hi
      have hl2 : x.e.length = 2 := by omega
      match hm : x.e, hl2 with
      | [a, b], _ => exact ⟨a, b, rfl⟩
     have hA6 : aia 5 (.sl (x.e.map eExpr) false) (.int .i64 0) = some (.ip (eExpr a) 0) := aia_sl (i := 0) (by rw [hab]; rfl) (eExpr_len a)
     have hB6 : aia 5 (.sl (x.e.map eExpr) false) (.int .i64 1) = some (.ip (eExpr b) 0) := aia_sl (i := 1) (by rw [hab]; rfl) (eExpr_len b)
     have hX : ∀ s2, (if (rVariable env s'.step x.name).1.kind ≠ 1 ∨ (rVariable env s'.step x.name).1.size ≠ 0 then (rVariable env s'.step x.name).2.fail 14 else (rVariable env s'.step x.name).2) = s2 → rStmt env s'.step res x = (rKind 1 (rExpr env (rKind 1 (rExpr env s2 a false)).2 b false)).2 := by rintro s2 rfl; simp [rStmt, g, hab, rHead]
     simp only [go_sem,seval, stmt_2, g, stmt_3]
     refine tcE (variable_spec12 (upd_same _ _ _) env o.fewE full x.name) ?_
     generalize rVariable env s'.step x.name = q at hX
     by_cases hk : q.1.kind = 1
     ·by_cases hz' : q.1.size = 0
      ·have hX := hX q.2 (by simp [hk, hz'])
       simp only [go_sem,seval, eTyp_len, typ_take, typ_0, typ_1, hk, hz', upd_upd, stmt_9, hA6, eExpr_len, expr_take]
       refine tcE (value_spec12 (so.e a (by rw [hab]; simp) false) (upd_same _ _ _) o full 1) ?_
       simp only [go_sem,seval, upd_upd, stmt_9, hB6, eExpr_len, expr_take]
       refine tcE (value_spec12 (so.e b (by rw [hab]; simp) false) (upd_same _ _ _) o full 1) ?_
       rw [← hX]
       simp only [go_sem,seval, upd_upd, stmt_12]
       refine tcE (ih x.body (d + 1) (by omega) htb hlb (upd_same _ _ _) o full false) ?_
       simp only [go_sem,seval, upd_upd, stmt_13]
       refine tcE (ih x.els (d + 1) (by omega) hte hle (upd_same _ _ _) o full false) ?_
       simp only [go_sem,seval, upd_upd]
       refine ⟨_, _, WeakE.env ?_, ⟨_, ?_, rfl⟩, rfl⟩
       ·simp only [go_sem,seval, step_at (few_small (l := l) (by omega)) hp]
       ·rw [hs, hsp, rDeep_eq]
      ·have hX := hX (q.2.fail 14) (by simp [hk, hz'])
       simp only [go_sem,seval, eTyp_len, typ_take, typ_0, typ_1, hk, hz']
       refine tcE (fail_spec12 (upd_same _ _ _) 14) ?_
       simp only [go_sem,seval, upd_upd, stmt_9, hA6, eExpr_len, expr_take]
       refine tcE (value_spec12 (so.e a (by rw [hab]; simp) false) (upd_same _ _ _) o full 1) ?_
       simp only [go_sem,seval, upd_upd, stmt_9, hB6, eExpr_len, expr_take]
       refine tcE (value_spec12 (so.e b (by rw [hab]; simp) false) (upd_same _ _ _) o full 1) ?_
       rw [← hX]
       simp only [go_sem,seval, upd_upd, stmt_12]
       refine tcE (ih x.body (d + 1) (by omega) htb hlb (upd_same _ _ _) o full false) ?_
       simp only [go_sem,seval, upd_upd, stmt_13]
       refine tcE (ih x.els (d + 1) (by omega) hte hle (upd_same _ _ _) o full false) ?_
       simp only [go_sem,seval, upd_upd]
       refine ⟨_, _, WeakE.env ?_, ⟨_, ?_, rfl⟩, rfl⟩
       ·simp only [go_sem,seval, step_at (few_small (l := l) (by omega)) hp]
       ·rw [hs, hsp, rDeep_eq]
     ·have hX := hX (q.2.fail 14) (by simp [hk])
      simp only [go_sem,seval, eTyp_len, typ_take, typ_0, typ_1, hk]
      refine tcE (fail_spec12 (upd_same _ _ _) 14) ?_
      simp only [go_sem,seval, upd_upd, stmt_9, hA6, eExpr_len, expr_take]
      refine tcE (value_spec12 (so.e a (by rw [hab]; simp) false) (upd_same _ _ _) o full 1) ?_
      simp only [go_sem,seval, upd_upd, stmt_9, hB6, eExpr_len, expr_take]
      refine tcE (value_spec12 (so.e b (by rw [hab]; simp) false) (upd_same _ _ _) o full 1) ?_
      rw [← hX]
      simp only [go_sem,seval, upd_upd, stmt_12]
      refine tcE (ih x.body (d + 1) (by omega) htb hlb (upd_same _ _ _) o full false) ?_
      simp only [go_sem,seval, upd_upd, stmt_13]
      refine tcE (ih x.els (d + 1) (by omega) hte hle (upd_same _ _ _) o full false) ?_
      simp only [go_sem,seval, upd_upd]
      refine ⟨_, _, WeakE.env ?_, ⟨_, ?_, rfl⟩, rfl⟩
      ·simp only [go_sem,seval, step_at (few_small (l := l) (by omega)) hp]
      ·rw [hs, hsp, rDeep_eq]
    ·have hX : rStmt env s'.step res x = if (rKind 0 (rExpr env s'.step x.p false)).1 = 2 then (rKind 0 (rExpr env s'.step x.p false)).2.fail 14 else (rKind 0 (rExpr env s'.step x.p false)).2 := by simp [rStmt, g]
     simp only [go_sem,seval, stmt_2, g, hP]
     refine tcE (value_spec12 (so.p (.inr g) false) (upd_same _ _ _) o full 0) ?_
     generalize rKind 0 (rExpr env s'.step x.p false) = q at hX
     by_cases hk : q.1 = 2
     ·rw [if_pos hk] at hX
      simp only [go_sem,seval, hk]
      refine tcE (fail_spec12 (upd_same _ _ _) 14) ?_
      rw [← hX]
      simp only [go_sem,seval, upd_upd, stmt_12]
      refine tcE (ih x.body (d + 1) (by omega) htb hlb (upd_same _ _ _) o full false) ?_
      simp only [go_sem,seval, upd_upd, stmt_13]
      refine tcE (ih x.els (d + 1) (by omega) hte hle (upd_same _ _ _) o full false) ?_
      simp only [go_sem,seval, upd_upd]
      refine ⟨_, _, WeakE.env ?_, ⟨_, ?_, rfl⟩, rfl⟩
      ·simp only [go_sem,seval, step_at (few_small (l := l) (by omega)) hp]
      ·rw [hs, hsp, rDeep_eq]
     ·rw [if_neg hk] at hX
      simp only [go_sem,seval, hk]
      rw [← hX]
      simp only [go_sem,seval, upd_upd, stmt_12]
      refine tcE (ih x.body (d + 1) (by omega) htb hlb (upd_same _ _ _) o full false) ?_
      simp only [go_sem,seval, upd_upd, stmt_13]
      refine tcE (ih x.els (d + 1) (by omega) hte hle (upd_same _ _ _) o full false) ?_
      simp only [go_sem,seval, upd_upd]
      refine ⟨_, _, WeakE.env ?_, ⟨_, ?_, rfl⟩, rfl⟩
      ·simp only [go_sem,seval, step_at (few_small (l := l) (by omega)) hp]
      ·rw [hs, hsp, rDeep_eq]
    ·obtain ⟨a, ha⟩ := one (by omega) (by omega) (by omega)
     have hX : rStmt env s'.step res x = (rKind 0 (rExpr env s'.step a false)).2 := by simp [rStmt, g, ha, rHead]
     simp only [go_sem,seval, stmt_2, g, stmt_9, hA a ha, eExpr_len, expr_take]
     refine tcE (value_spec12 (so.e a (by rw [ha]; simp) false) (upd_same _ _ _) o full 0) ?_
     rw [← hX]
     simp only [go_sem,seval, upd_upd, stmt_12]
     refine tcE (ih x.body (d + 1) (by omega) htb hlb (upd_same _ _ _) o full false) ?_
     simp only [go_sem,seval, upd_upd, stmt_13]
     refine tcE (ih x.els (d + 1) (by omega) hte hle (upd_same _ _ _) o full false) ?_
     simp only [go_sem,seval, upd_upd]
     refine ⟨_, _, WeakE.env ?_, ⟨_, ?_, rfl⟩, rfl⟩
     ·simp only [go_sem,seval, step_at (few_small (l := l) (by omega)) hp]
     ·rw [hs, hsp, rDeep_eq]
    ·have hee : x.e = [] ∨ ∃ a, x.e = [a] := by
      have hh : x.e.length ≤ 1 := by rw [if_neg (by omega), if_neg (by omega)] at hi; exact hi
      match hm : x.e, hh with
      | [], _ => exact .inl rfl
      | [a], _ => exact .inr ⟨a, rfl⟩
     rcases hee with ha | ⟨a, ha⟩
     ·have hlen : (((x.e.length : Nat) : Int) > 0) = False := by rw [ha]; simp
      by_cases hr : res > 0
      ·have hX : rStmt env s'.step res x = s'.step.fail 16 := by
        have hr' : 0 < res := hr
        simp [rStmt, g, ha, rHead, hr']
       simp only [go_sem,seval, stmt_2, stmt_9, g, hr, hlen]
       refine tcE (fail_spec12 (upd_same _ _ _) 16) ?_
       rw [← hX]
       simp only [go_sem,seval, upd_upd, stmt_9, hlen, stmt_12]
       refine tcE (ih x.body (d + 1) (by omega) htb hlb (upd_same _ _ _) o full false) ?_
       simp only [go_sem,seval, upd_upd, stmt_13]
       refine tcE (ih x.els (d + 1) (by omega) hte hle (upd_same _ _ _) o full false) ?_
       simp only [go_sem,seval, upd_upd]
       refine ⟨_, _, WeakE.env ?_, ⟨_, ?_, rfl⟩, rfl⟩
       ·simp only [go_sem,seval, step_at (few_small (l := l) (by omega)) hp]
       ·rw [hs, hsp, rDeep_eq]
      ·have hX : rStmt env s'.step res x = s'.step := by
        have hr' : ¬ 0 < res := hr
        simp [rStmt, g, ha, rHead, hr']
       simp only [go_sem,seval, g, hr, hlen]
       rw [← hX]
       refine tcE (ih x.body (d + 1) (by omega) htb hlb (upd_same _ _ _) o full false) ?_
       simp only [go_sem,seval, upd_upd, stmt_13]
       refine tcE (ih x.els (d + 1) (by omega) hte hle (upd_same _ _ _) o full false) ?_
       simp only [go_sem,seval, upd_upd]
       refine ⟨_, _, WeakE.env ?_, ⟨_, ?_, rfl⟩, rfl⟩
       ·simp only [go_sem,seval, step_at (few_small (l := l) (by omega)) hp]
       ·rw [hs, hsp, rDeep_eq]
     ·have hlen : (((x.e.length : Nat) : Int) > 0) = True := by rw [ha]; simp
      by_cases hr : res > 0
      ·have hX : rStmt env s'.step res x = (rKind res (rExpr env s'.step a false)).2 := by
        have hr' : 0 < res := hr
        simp [rStmt, g, ha, rHead, hr']
       simp only [go_sem,seval, stmt_2, stmt_9, g, hr, hlen, hA a ha, eExpr_len, expr_take]
       refine tcE (value_spec12 (so.e a (by rw [ha]; simp) false) (upd_same _ _ _) o full res) ?_
       rw [← hX]
       simp only [go_sem,seval, upd_upd, stmt_12]
       refine tcE (ih x.body (d + 1) (by omega) htb hlb (upd_same _ _ _) o full false) ?_
       simp only [go_sem,seval, upd_upd, stmt_13]
       refine tcE (ih x.els (d + 1) (by omega) hte hle (upd_same _ _ _) o full false) ?_
       simp only [go_sem,seval, upd_upd]
       refine ⟨_, _, WeakE.env ?_, ⟨_, ?_, rfl⟩, rfl⟩
       ·simp only [go_sem,seval, step_at (few_small (l := l) (by omega)) hp]
       ·rw [hs, hsp, rDeep_eq]
      ·have hX : rStmt env s'.step res x = (rKind res (rExpr env (s'.step.fail 16) a false)).2 := by
        have hr' : ¬ 0 < res := hr
        simp [rStmt, g, ha, rHead, hr']
       simp only [go_sem,seval, stmt_2, stmt_9, g, hr, hlen]
       refine tcE (fail_spec12 (upd_same _ _ _) 16) ?_
       simp only [go_sem,seval, upd_upd, stmt_9, hlen, hA a ha, eExpr_len, expr_take]
       refine tcE (value_spec12 (so.e a (by rw [ha]; simp) false) (upd_same _ _ _) o full res) ?_
       rw [← hX]
       simp only [go_sem,seval, upd_upd, stmt_12]
       refine tcE (ih x.body (d + 1) (by omega) htb hlb (upd_same _ _ _) o full false) ?_
       simp only [go_sem,seval, upd_upd, stmt_13]
       refine tcE (ih x.els (d + 1) (by omega) hte hle (upd_same _ _ _) o full false) ?_
       simp only [go_sem,seval, upd_upd]
       refine ⟨_, _, WeakE.env ?_, ⟨_, ?_, rfl⟩, rfl⟩
       ·simp only [go_sem,seval, step_at (few_small (l := l) (by omega)) hp]
       ·rw [hs, hsp, rDeep_eq]
   ·simp only [go_sem,seval, lt_at hp]
    refine tcE (next_spec12 (s := s') (upd_same _ _ _)) ?_
    simp only [go_sem,seval, hb, upd_upd]
    refine lessQ.same ?_
    simp only [go_sem,seval]
    refine .same ⟨rfl, ?_⟩
    rw [hs, rStmts_bad env hb]
  ·rintro e g ⟨⟨s', hs, rfl⟩, rfl⟩
   simp only [go_sem,seval, lt_end]
   refine lessQ.same ?_
   simp only [go_sem,seval]
   rw [hs]
   exact .same ⟨rfl, rfl⟩
end Pg
namespace Pg
open Go Go.Proofs.Tryz
theorem few_of {α : Type} {l : List α} (h : l.length ≤ 1000000) : few l := by unfold few; omega
theorem thRoutine_le (x : Routine) : AVle (.agg (.str x.name :: .int .i64 2 :: .sl [] true :: .sl [] true :: .str ⟨#[]⟩ :: .sl [] true :: .sl [] true :: splice [.sl [] true, .sl [] true, .str ⟨#[]⟩, .int .i64 0, .sl [] true, .sl [] true, .sl [] true, .sl [] true, .sl [] true, .int .i64 0, .int .i64 0, .str ⟨#[]⟩] 0 (eRoutine x))) (.agg (eTh (thRoutine x))) := by
 rw [eRoutine_eq x]
 refine AVle.agg ?_
 simp only [splice, List.take_zero, List.nil_append, List.length_cons, List.length_nil, List.drop_succ_cons, List.drop_zero, List.cons_append, eTh, thRoutine]
 repeat' (first | exact AVles.nil | refine AVles.cons ?_ ?_)
 all_goals first | exact .refl _ | exact AVle.sl _ _
theorem thRec_le (x : Rec) : AVle (.agg (.str x.name :: .int .i64 1 :: splice [.sl [] true, .sl [] true, .str ⟨#[]⟩, .sl [] true, .sl [] true, .sl [] true, .sl [] true, .str ⟨#[]⟩, .int .i64 0, .sl [] true, .sl [] true, .sl [] true, .sl [] true, .sl [] true, .int .i64 0, .int .i64 0, .str ⟨#[]⟩] 0 (eRec x))) (.agg (eTh (thRec x))) := by
 refine AVle.agg ?_
 simp only [eRec, splice, List.take_zero, List.nil_append, List.length_cons, List.length_nil, List.drop_succ_cons, List.drop_zero, List.cons_append, eTh, thRec]
 repeat' (first | exact AVles.nil | refine AVles.cons ?_ ?_)
 all_goals first | exact .refl _ | exact AVle.sl _ _
theorem thVar_le (name : ByteArray) (t : Typ) : AVle (.agg (.str name :: .int .i64 3 :: .sl [] true :: .sl [] true :: .str ⟨#[]⟩ :: .sl [] true :: .sl [] true :: .sl [] true :: .sl [] true :: .str ⟨#[]⟩ :: .int .i64 0 :: .sl [] true :: .sl [] true :: .sl [] true :: .sl [] true :: .sl [] true :: eTyp t)) (.agg (eTh (thVar name t))) := by
 refine AVle.agg ?_
 simp only [eTyp, eTh, thVar]
 repeat' (first | exact AVles.nil | refine AVles.cons ?_ ?_)
 all_goals first | exact .refl _ | exact AVle.sl _ _
theorem Visible_spec [GI] (h : AHeap) (env : List Th) (l : List Routine) (hn : env.length + l.length ≤ 1000000) (full f2 : Bool) : ACalls prog 70 [.sl (eEnv env) full, .sl (l.map eRoutine) f2] h (fun v g => v = .sl (eEnv (rVis env l)) false ∧ g = h) := by
 refine F70.calls (by simp) ?_
 delta F70.c0
 simp only [go_sem,seval]
 refine lT_list l (fun pre post e g => (∃ f, e = [(0, .sl (eEnv (rVis env pre)) f), (1, .sl (l.map eRoutine) f2), (5, .int .i64 pre.length)]) ∧ g = h) (WeakE.env ?_) ⟨⟨full, by simp [rVis]; rfl⟩, rfl⟩ ?_ ?_
 ·simp only [go_sem,seval]
 ·rintro pre x post e g hp ⟨⟨f, rfl⟩, rfl⟩
  have hpl := (at_pre hp).2
  simp only [go_sem,seval, lt_at hp, aia_sl (map_at hp) (eRoutine_len x), routine_2, eRoutine_len, routine_take]
  refine tcL (with_spec g (rVis env pre) (by simp [rVis]; omega) f (thRoutine x)) (.cons (.refl _) (.cons (thRoutine_le x) .nil)) ?_
  simp only [go_sem,seval]
  refine ⟨_, _, WeakE.env ?_, ⟨false, rfl⟩, rfl⟩
  simp only [go_sem,seval, step_at (few_of (l := l) (by omega)) hp]
  simp [rVis]
  exact .refl _
 ·rintro e g ⟨⟨f, rfl⟩, rfl⟩
  simp only [go_sem,seval, lt_end]
  refine lessQ.same ?_
  simp only [go_sem,seval]
  exact EndW.less (AVle.sl _ _) (AHeap.le_refl _) ⟨rfl, rfl⟩
theorem EnvOk.with {env : List Th} (o : EnvOk env) {x : Th} (h : Pg.few x.rcd.fields) (hl : env.length + 1 ≤ 1000000) : EnvOk (env ++ [x]) := by
 refine ⟨by simpa using hl, fun y hy => ?_⟩
 rcases List.mem_append.1 hy with hy | hy
 ·exact o.fields y hy
 ·simp at hy; subst hy; exact h
theorem EnvOk.vis {env : List Th} (o : EnvOk env) {l : List Routine} (hl : env.length + l.length ≤ 1000000) : EnvOk (rVis env l) := by
 refine ⟨by simpa [rVis] using hl, fun y hy => ?_⟩
 rcases List.mem_append.1 hy with hy | hy
 ·exact o.fields y hy
 ·obtain ⟨x, _, rfl⟩ := List.mem_map.1 hy; exact few_of (by simp [thRoutine, noRec])
theorem rVars_len (behind : List Routine) : ∀ (l : List Var) (env : List Th) (s : CS), (rVars env s l behind).1.length ≤ env.length + l.length
 | [], env, s => by simp [rVars]
 | v :: r, env, s => by
  simp only [rVars]
  split
  ·have := rVars_len behind r (env ++ [thVar v.name v.t]) (rTyp env (if behind.any (fun x => decide (x.name = v.name)) then (rNew env s.step v.name).fail 12 else rNew env s.step v.name) v.t)
   simp at this ⊢; omega
  ·simp
theorem CS.fail_twice (s : CS) {e : Int} (he : e ≠ 0) : (s.fail e).fail e = s.fail e := by
 rw [CS.fail_bad _ _ (fail_ne s he)]
theorem EnvOk.var {env : List Th} (o : EnvOk env) (name : ByteArray) (t : Typ) (hl : env.length + 1 ≤ 1000000) : EnvOk (env ++ [thVar name t]) := o.with (few_of (by simp [thVar, noRec])) hl
theorem vars_spec12 [GI] (behind : List Routine) (hbl : behind.length ≤ 1000) {h : AHeap} {c : Nat} {s : CS} {env : List Th} (hc : h c = some (lkBlk s)) (o : EnvOk env) (l : List Var) (hl : env.length + l.length ≤ 1000000) (full f2 f3 : Bool) :
    ACalls prog 67 [.ptr (some ⟨c, 0, none⟩), .sl (eEnv env) full, .sl (l.map eVar) f2, .sl (behind.map eRoutine) f3] h (fun v g => v = .sl (eEnv (rVars env s l behind).1) false ∧ g = h.upd c (lkBlk (rVars env s l behind).2)) := by
  refine F67.calls (by simp) ?_
  delta F67.c0
  simp only [go_sem,seval]
  refine lT_list l (fun pre post e g => ∃ (f : Bool) (env' : List Th) (s' : CS), EnvOk env' ∧ env'.length = env.length + pre.length ∧ rVars env s l behind = rVars env' s' post behind ∧ e = [(0, .ptr (some ⟨c, 0, none⟩)), (1, .sl (eEnv env') f), (2, .sl (l.map eVar) f2), (3, .sl (behind.map eRoutine) f3), (9, .int .i64 pre.length)] ∧ g = h.upd c (lkBlk s')) (WeakE.env ?_) ⟨full, env, s, o, rfl, rfl, rfl, (upd_self hc).symm⟩ ?_ ?_
  · simp only [go_sem,seval]
  · rintro pre x post e g hp ⟨f, env', s', o', hel, hs, rfl, rfl⟩
    have hpl := (at_pre hp).2
    have hw : env'.length + 1 ≤ 1000000 := by omega
    simp only [go_sem,seval, lt_at hp]
    refine tcE (next_spec12 (s := s') (upd_same _ _ _)) ?_
    by_cases hb : s'.bad = 0
    · have hsp : rVars env' s' (x :: post) behind = rVars (env' ++ [thVar x.name x.t]) (rTyp env' (if behind.any (fun y => decide (y.name = x.name)) then (rNew env' s'.step x.name).fail 12 else rNew env' s'.step x.name) x.t) post behind := by simp only [rVars, hb, if_true]
      simp only [go_sem,seval, hb, upd_upd, aia_sl (map_at hp) (eVar_len x)]
      refine tcE (find_spec12 _ env' o'.fewE f x.name) ?_
      by_cases hk : (rFind env' x.name).kind = 0
      all_goals simp only [go_sem,seval, hk, th_1, eTh_len]
      all_goals
        first
        | (refine callT_of (fail_spec12 (s := s'.step) (upd_same _ _ _) 12) (fun v g ⟨hv, hg⟩ => ?_)
           subst v g
           have hN : s'.step.fail 12 = rNew env' s'.step x.name := by simp [rNew, hk]
           rw [hN]
           simp only [go_sem,seval, upd_upd])
        | (have hN : s'.step = rNew env' s'.step x.name := by simp [rNew, hk]
           rw [hN])
      all_goals
        generalize rNew env' s'.step x.name = sN at hsp
        refine lT_list behind (fun pre2 post2 e g => g = h.upd c (lkBlk (if pre2.any (fun y => decide (y.name = x.name)) then sN.fail 12 else sN)) ∧ e = [(0, .ptr (some ⟨c, 0, none⟩)), (1, .sl (eEnv env') f), (2, .sl (l.map eVar) f2), (3, .sl (behind.map eRoutine) f3), (9, .int .i64 pre.length), (10, .int .i64 pre2.length)]) (WeakE.env ?_) ⟨rfl, rfl⟩ ?_ ?_
        · simp only [go_sem,seval]
        · rintro pre2 y post2 e g hp2 ⟨rfl, rfl⟩
          by_cases he : y.name = x.name
          · simp only [go_sem,seval, lt_at hp2, aia_sl (map_at hp2) (eRoutine_len y), aia_sl (map_at hp) (eVar_len x), he]
            refine tcE (fail_spec12 (upd_same _ _ _) 12) ?_
            simp only [go_sem,seval, upd_upd]
            refine ⟨_, _, WeakE.env ?_, ?_, rfl⟩
            · simp only [go_sem,seval, step_at (few_small hbl) hp2]
            · congr 2
              cases hh : pre2.any (fun y => decide (y.name = x.name)) <;> simp [List.any_append, hh, he, CS.fail_twice]
          · simp only [go_sem,seval, lt_at hp2, aia_sl (map_at hp2) (eRoutine_len y), aia_sl (map_at hp) (eVar_len x), he]
            refine ⟨_, _, WeakE.env ?_, ?_, rfl⟩
            · simp only [go_sem,seval, step_at (few_small hbl) hp2]
            · congr 2
              cases hh : pre2.any (fun y => decide (y.name = x.name)) <;> simp [List.any_append, hh, he]
        · rintro e g ⟨rfl, rfl⟩
          simp only [go_sem,seval, lt_end]
          refine lessQ.same ?_
          have tk : ((eVar x).drop 3).take 3 = eTyp x.t := rfl
          simp only [go_sem,seval, aia_sl (map_at hp) (eVar_len x), eVar_len, tk]
          refine tcE (typ_spec12 (upd_same _ _ _) env' o'.fewE f x.t) ?_
          simp only [go_sem,seval, upd_upd, aia_sl (map_at hp) (eVar_len x), eVar_len, tk]
          refine tcL (with_spec _ env' o'.few f (thVar x.name x.t)) (.cons (.refl _) (.cons (thVar_le x.name x.t) .nil)) ?_
          simp only [go_sem,seval]
          refine ⟨_, _, WeakE.env ?_, false, _, _, o'.var x.name x.t hw, ?_, ?_, rfl, rfl⟩
          · simp only [go_sem,seval, step_at (few_of (l := l) (by omega)) hp]
          · simp; omega
          · rw [hs, hsp]
    · simp only [go_sem,seval, hb, upd_upd]
      refine lessQ.same ?_
      simp only [go_sem,seval]
      have hr : rVars env' s' (x :: post) behind = (env', s') := by simp [rVars, hb]
      rw [hs, hr]
      exact EndW.less (AVle.sl _ _) (AHeap.le_refl _) ⟨rfl, rfl⟩
  · rintro e g ⟨f, env', s', o', hel, hs, rfl, rfl⟩
    simp only [go_sem,seval, lt_end]
    refine lessQ.same ?_
    simp only [go_sem,seval]
    rw [hs]
    exact EndW.less (AVle.sl _ _) (AHeap.le_refl _) ⟨rfl, rfl⟩
theorem twice_snoc (x : Fld) : ∀ (l a : List Fld), twice a (l ++ [x]) = (twice a l || (a ++ l).any fun g => decide (g.name = x.name))
 | [], a => by simp [twice]
 | y :: l, a => by
  simp only [List.cons_append, twice]
  rw [twice_snoc x l (a ++ [y])]
  simp [Bool.or_assoc]
theorem rRecs_len : ∀ (l : List Rec) (env : List Th) (s : CS), (rRecs env s l).1.length ≤ env.length + l.length
 | [], env, s => by simp [rRecs]
 | v :: r, env, s => by
  simp only [rRecs]
  split
  ·have := rRecs_len r (env ++ [thRec v]) (if twice [] v.fields then (rNew env s.step v.name).fail 12 else rNew env s.step v.name)
   simp at this ⊢; omega
  ·simp
theorem recs_spec12 [GI] {h : AHeap} {c : Nat} {s : CS} (hc : h c = some (lkBlk s)) (l : List Rec) (hl : l.length ≤ 1000) (hf : ∀ r ∈ l, few r.fields) (f2 : Bool) :
    ACalls prog 66 [.ptr (some ⟨c, 0, none⟩), .sl (l.map eRec) f2] h (fun v g => v = .sl (eEnv (rRecs [] s l).1) false ∧ g = h.upd c (lkBlk (rRecs [] s l).2)) := by
  refine F66.calls (by simp) ?_
  delta F66.c0
  simp only [go_sem,seval]
  refine lT_list l (fun pre post e g => ∃ (f : Bool) (env' : List Th) (s' : CS), EnvOk env' ∧ env'.length = pre.length ∧ rRecs [] s l = rRecs env' s' post ∧ e = [(0, .ptr (some ⟨c, 0, none⟩)), (1, .sl (l.map eRec) f2), (5, .sl (eEnv env') f), (6, .int .i64 pre.length)] ∧ g = h.upd c (lkBlk s')) (WeakE.env ?_) ⟨true, [], s, ⟨by simp, by simp⟩, rfl, rfl, rfl, (upd_self hc).symm⟩ ?_ ?_
  · simp only [go_sem,seval]
  · rintro pre x post e g hp ⟨f, env', s', o', hel, hs, rfl, rfl⟩
    have hpl := (at_pre hp).2
    have hw : env'.length + 1 ≤ 1000000 := by omega
    have hff := hf x (mem_at hp)
    simp only [go_sem,seval, lt_at hp]
    refine tcE (next_spec12 (s := s') (upd_same _ _ _)) ?_
    by_cases hb : s'.bad = 0
    · have hsp : rRecs env' s' (x :: post) = rRecs (env' ++ [thRec x]) (if twice [] x.fields then (rNew env' s'.step x.name).fail 12 else rNew env' s'.step x.name) post := by simp only [rRecs, hb, if_true]
      simp only [go_sem,seval, hb, upd_upd, aia_sl (map_at hp) (eRec_len x)]
      refine tcE (find_spec12 _ env' o'.fewE f x.name) ?_
      by_cases hk : (rFind env' x.name).kind = 0
      all_goals simp only [go_sem,seval, hk, th_1, eTh_len]
      all_goals
        first
        | (refine callT_of (fail_spec12 (s := s'.step) (upd_same _ _ _) 12) (fun v g ⟨hv, hg⟩ => ?_)
           subst v g
           have hN : s'.step.fail 12 = rNew env' s'.step x.name := by simp [rNew, hk]
           rw [hN]
           simp only [go_sem,seval, upd_upd])
        | (have hN : s'.step = rNew env' s'.step x.name := by simp [rNew, hk]
           rw [hN])
      all_goals
        generalize rNew env' s'.step x.name = sN at hsp
        refine lT_list x.fields (fun pre2 post2 e g => g = h.upd c (lkBlk (if twice [] pre2 then sN.fail 12 else sN)) ∧ e = [(0, .ptr (some ⟨c, 0, none⟩)), (1, .sl (l.map eRec) f2), (5, .sl (eEnv env') f), (6, .int .i64 pre.length), (7, .int .i64 pre2.length)]) (WeakE.env ?_) ⟨rfl, rfl⟩ ?_ ?_
        · simp only [go_sem,seval]
        · rintro pre2 y post2 e g hp2 ⟨rfl, rfl⟩
          simp only [go_sem,seval, lt_at hp2, aia_sl (map_at hp) (eRec_len x)]
          refine lT_list pre2 (fun pre3 post3 e g => g = h.upd c (lkBlk (if twice [] pre2 || pre3.any (fun g => decide (g.name = y.name)) then sN.fail 12 else sN)) ∧ e = [(0, .ptr (some ⟨c, 0, none⟩)), (1, .sl (l.map eRec) f2), (5, .sl (eEnv env') f), (6, .int .i64 pre.length), (7, .int .i64 pre2.length), (8, .int .i64 pre3.length)]) (WeakE.env ?_) ⟨by simp, rfl⟩ ?_ ?_
          · simp only [go_sem,seval]
          · rintro pre3 z post3 e g hp3 ⟨rfl, rfl⟩
            have hp3' : x.fields = pre3 ++ z :: (post3 ++ y :: post2) := by rw [hp2, hp3]; simp
            by_cases he : z.name = y.name
            · simp only [go_sem,seval, lt_at hp3, aia_sl (map_at hp) (eRec_len x), aia_sl (map_at hp3') (eFld_len z), aia_sl (map_at hp2) (eFld_len y), he]
              refine tcE (fail_spec12 (upd_same _ _ _) 12) ?_
              simp only [go_sem,seval, upd_upd]
              refine ⟨_, _, WeakE.env ?_, ?_, rfl⟩
              · simp only [go_sem,seval, step_at (l := pre2) (by have := (at_pre hp2).2; unfold few at hff ⊢; omega) hp3]
              · congr 2
                cases hh : (twice [] pre2 || pre3.any (fun g => decide (g.name = y.name))) <;> simp [List.any_append, he, CS.fail_twice]
            · simp only [go_sem,seval, lt_at hp3, aia_sl (map_at hp) (eRec_len x), aia_sl (map_at hp3') (eFld_len z), aia_sl (map_at hp2) (eFld_len y), show (y.name = z.name) = False by simpa using fun hh => he hh.symm]
              refine ⟨_, _, WeakE.env ?_, ?_, rfl⟩
              · simp only [go_sem,seval, step_at (l := pre2) (by have := (at_pre hp2).2; unfold few at hff ⊢; omega) hp3]
              · rw [show (pre3 ++ [z]).any (fun g => decide (g.name = y.name)) = pre3.any (fun g => decide (g.name = y.name)) by simp [List.any_append, he]]
          · rintro e g ⟨rfl, rfl⟩
            simp only [go_sem,seval, lt_end]
            refine lessQ.same ?_
            simp only [go_sem,seval]
            refine ⟨_, _, WeakE.env ?_, ?_, rfl⟩
            · simp only [go_sem,seval, step_at hff hp2]
            · rw [twice_snoc]; rfl
        · rintro e g ⟨rfl, rfl⟩
          simp only [go_sem,seval, aia_sl (map_at hp) (eRec_len x), lt_end]
          refine lessQ.same ?_
          simp only [go_sem,seval, aia_sl (map_at hp) (eRec_len x), eRec_len, rec_take]
          refine tcL (with_spec _ env' o'.few f (thRec x)) (.cons (.refl _) (.cons (thRec_le x) .nil)) ?_
          simp only [go_sem,seval]
          refine ⟨_, _, WeakE.env ?_, false, _, _, o'.with (x := thRec x) hff hw, ?_, ?_, rfl, rfl⟩
          · simp only [go_sem,seval, step_at (few_of (l := l) (by omega)) hp]
          · simp; omega
          · rw [hs, hsp]
    · simp only [go_sem,seval, hb, upd_upd]
      refine lessQ.same ?_
      simp only [go_sem,seval]
      have hr : rRecs env' s' (x :: post) = (env', s') := by simp [rRecs, hb]
      rw [hs, hr]
      exact EndW.less (AVle.sl _ _) (AHeap.le_refl _) ⟨rfl, rfl⟩
  · rintro e g ⟨f, env', s', o', hel, hs, rfl, rfl⟩
    simp only [go_sem,seval, lt_end]
    refine lessQ.same ?_
    simp only [go_sem,seval]
    rw [hs]
    exact EndW.less (AVle.sl _ _) (AHeap.le_refl _) ⟨rfl, rfl⟩
theorem rVars_ok (behind : List Routine) : ∀ (l : List Var) {env : List Th} (s : CS), EnvOk env → env.length + l.length ≤ 1000000 → EnvOk (rVars env s l behind).1
 | [], env, s, o, _ => o
 | v :: r, env, s, o, h => by
  simp only [rVars]
  split
  ·exact rVars_ok behind r _ (o.var v.name v.t (by simp at h; omega)) (by simp at h ⊢; omega)
  ·exact o
theorem rRecs_ok : ∀ (l : List Rec) {env : List Th} (s : CS), EnvOk env → (∀ r ∈ l, few r.fields) → env.length + l.length ≤ 1000000 → EnvOk (rRecs env s l).1
 | [], env, s, o, _, _ => o
 | v :: r, env, s, o, hf, h => by
  simp only [rRecs]
  split
  ·exact rRecs_ok r _ (o.with (x := thRec v) (hf v (by simp)) (by simp at h; omega)) (fun x hx => hf x (by simp [hx])) (by simp at h ⊢; omega)
  ·exact o
theorem tRoutine_eq (ahead : List ByteArray) (x : Routine) (d : Int) : tRoutine ahead x d = (decide (d ≤ 48) && tMarks x.before x.trail && tNotes x.endd && tName x.name && decide (0 ≤ x.result) && decide (x.result ≤ 3) && !among x.name ahead && tParams x.params && tVars x.vars && (tRoutines [] x.inner (d + 1) && decide (x.inner.length ≤ 512)) && (tStmts x.body 1 && decide (x.body.length ≤ 512))) := by
 obtain ⟨before, trail, name, result, params, vars, inner, body, endd⟩ := x; rfl
theorem tRoutines_mem {d : Int} : ∀ {l : List Routine} {x : Routine} {ahead : List ByteArray}, tRoutines ahead l d = true → x ∈ l → ∃ a, tRoutine a x d = true
 | y :: r, x, ahead, h, hx => by
  simp only [tRoutines, Bool.and_eq_true] at h
  rcases List.mem_cons.1 hx with rfl | hx
  ·exact ⟨_, h.1⟩
  ·exact tRoutines_mem h.2 hx
structure ROk (x : Routine) (d : Int) : Prop where
 deep : d ≤ 48
 params : x.params.length ≤ 512
 vars : x.vars.length ≤ 512
 inner : tRoutines [] x.inner (d + 1) = true
 inners : x.inner.length ≤ 512
 body : tStmts x.body 1 = true
 bodys : x.body.length ≤ 512
theorem tRoutine_ok {a : List ByteArray} {x : Routine} {d : Int} (h : tRoutine a x d = true) : ROk x d := by
 rw [tRoutine_eq] at h
 unfold tParams tVars at h
 simp only [Bool.and_eq_true, decide_eq_true_eq] at h
 obtain ⟨⟨⟨⟨⟨⟨⟨⟨⟨⟨h1, _⟩, _⟩, _⟩, _⟩, _⟩, _⟩, _, h2⟩, _, h3⟩, h4, h5⟩, h6, h7⟩ := h
 exact ⟨h1, h2, h3, h4, h5, h6, h7⟩
theorem rRoutines_bad (env all : List Th) {s : CS} (h : s.bad ≠ 0) (l : List Routine) : rRoutines env all s l = s := by
 cases l with
 | nil => rfl
 | cons x l => simp [rRoutines, h]
theorem routines_spec12 [GI] : ∀ (n : Nat) (l : List Routine) (d : Int) (ahead : List ByteArray), Routines.sz l ≤ n → tRoutines ahead l d = true → l.length ≤ 512 → (∀ x ∈ l, x.ok) → ∀ {h : AHeap} {c : Nat} {s : CS} {env : List Th}, h c = some (lkBlk s) → EnvOk env → env.length + 2048 * (49 - d).toNat ≤ 900000 → ∀ full f2 : Bool,
    Lks 68 [.sl (eEnv env) full, .sl (l.map eRoutine) f2] h c (.tuple []) (rRoutines env (rVis env l) s l) := by
  intro n
  induction n with
  | zero =>
    intro l d ahead hn ht hl hok h c s env hc o hw full f2
    cases l with
    | cons x r => simp [Routines.sz] at hn
    | nil =>
      refine F68.calls (by simp) ?_
      delta F68.c0
      simp only [go_sem,seval]
      refine tcE (Visible_spec _ env [] (by simp; omega) full f2) ?_
      simp only [go_sem,seval]
      refine lT_round ?_
      simp only [go_sem,seval]
      exact .same ⟨rfl, (upd_self hc).symm⟩
  | succ n ih =>
    intro l d ahead hn ht hl hok h c s env hc o hw full f2
    refine F68.calls (by simp) ?_
    delta F68.c0
    simp only [go_sem,seval]
    refine tcE (Visible_spec _ env l (by omega) full f2) ?_
    simp only [go_sem,seval]
    have oa : EnvOk (rVis env l) := o.vis (by omega)
    have hal : (rVis env l).length = env.length + l.length := by simp [rVis]
    generalize rVis env l = all at oa hal
    refine lT_list l (fun pre post e g => ∃ s', rRoutines env all s l = rRoutines env all s' post ∧ e = [(0, .ptr (some ⟨c, 0, none⟩)), (1, .sl (eEnv env) full), (2, .sl (l.map eRoutine) f2), (6, .sl (eEnv all) false), (7, .int .i64 pre.length)] ∧ g = h.upd c (lkBlk s')) (WeakE.env ?_) ⟨s, rfl, rfl, (upd_self hc).symm⟩ ?_ ?_
    · simp only [go_sem,seval]
    · rintro pre x post e g hp ⟨s', hs, rfl, rfl⟩
      have hx := mem_at hp
      have hxz := Routines.sz_mem hx
      have hz := Routine.sz_eq x
      obtain ⟨a, ht'⟩ := tRoutines_mem ht hx
      have ro := tRoutine_ok ht'
      have hd := ro.deep
      have hxo := (Routine.ok_iff x).1 (hok x hx)
      have hrp := ro.params
      have hrv := ro.vars
      have hri := ro.inners
      have hrb := ro.bodys
      have hstep := step_at (few_small (l := l) (by omega)) hp
      simp only [go_sem,seval, lt_at hp]
      refine tcE (next_spec12 (s := s') (upd_same _ _ _)) ?_
      by_cases hb : s'.bad = 0
      · have hsp : rRoutines env all s' (x :: post) = rRoutines env all (rRoutine env all s'.step x) post := by simp only [rRoutines, hb, if_true]
        rw [rRoutine_eq] at hsp
        simp only [go_sem,seval, hb, upd_upd, aia_sl (map_at hp) (eRoutine_len x), eRoutine_len, routine_take]
        refine tcE (find_spec12 _ env o.fewE full x.name) ?_
        by_cases hk : (rFind env x.name).kind = 0
        all_goals simp only [go_sem,seval, hk, th_1, eTh_len]
        all_goals
          first
          | (refine callT_of (fail_spec12 (s := s'.step) (upd_same _ _ _) 12) (fun v g ⟨hv, hg⟩ => ?_)
             subst v g
             have hN : s'.step.fail 12 = rNew env s'.step x.name := by simp [rNew, hk]
             rw [hN]
             simp only [go_sem,seval, upd_upd])
          | (have hN : s'.step = rNew env s'.step x.name := by simp [rNew, hk]
             rw [hN])
        all_goals
          generalize rNew env s'.step x.name = sN at hsp
          refine lT_list x.params (fun pre2 post2 e g => ∃ (f : Bool) (env' : List Th) (s2 : CS), EnvOk env' ∧ env'.length = all.length + pre2.length ∧ rParams all sN x.params = rParams env' s2 post2 ∧ e = [(0, .ptr (some ⟨c, 0, none⟩)), (1, .sl (eEnv env) full), (2, .sl (l.map eRoutine) f2), (6, .sl (eEnv all) false), (7, .int .i64 pre.length), (8, .ip (eRoutine x) 0), (9, .sl (eEnv env') f), (10, .int .i64 pre2.length)] ∧ g = h.upd c (lkBlk s2)) (WeakE.env ?_) ⟨false, all, sN, oa, rfl, rfl, rfl, rfl⟩ ?_ ?_
          · simp only [go_sem,seval]
          · rintro pre2 y post2 e g hp2 ⟨f, env', s2, o2, hel, hs2, rfl, rfl⟩
            have hpl2 := (at_pre hp2).2
            have tk : ((eParam y).drop 1).take 3 = eTyp y.t := rfl
            have hs3 : rParams env' s2 (y :: post2) = rParams (env' ++ [thVar y.name y.t]) (rTyp env' (rNew env' s2 y.name) y.t) post2 := rfl
            have hstep2 := step_at (few_small (l := x.params) (by omega)) hp2
            simp only [go_sem,seval, lt_at hp2, aia_sl (map_at hp2) (eParam_len y)]
            refine tcE (find_spec12 _ env' o2.fewE f y.name) ?_
            by_cases hk2 : (rFind env' y.name).kind = 0
            all_goals simp only [go_sem,seval, hk2, th_1, eTh_len]
            all_goals
              first
              | (refine callT_of (fail_spec12 (s := s2) (upd_same _ _ _) 12) (fun v g ⟨hv, hg⟩ => ?_)
                 subst v g
                 have hN : s2.fail 12 = rNew env' s2 y.name := by simp [rNew, hk2]
                 rw [hN]
                 simp only [go_sem,seval, upd_upd, aia_sl (map_at hp2) (eParam_len y), eParam_len, tk])
              | (simp only [go_sem,seval, aia_sl (map_at hp2) (eParam_len y), eParam_len, tk]
                 have hN : s2 = rNew env' s2 y.name := by simp [rNew, hk2]
                 rw [hN])
            all_goals
              refine tcE (typ_spec12 (s := rNew env' s2 y.name) (upd_same _ _ _) env' o2.fewE f y.t) ?_
              simp only [go_sem,seval, upd_upd, aia_sl (map_at hp2) (eParam_len y), eParam_len, tk]
              refine tcL (with_spec _ env' o2.few f (thVar y.name y.t)) (.cons (.refl _) (.cons (thVar_le y.name y.t) .nil)) ?_
              simp only [go_sem,seval]
              refine ⟨_, _, WeakE.env ?_, false, _, _, o2.var y.name y.t (by omega), ?_, ?_, rfl, rfl⟩
              · simp only [go_sem,seval, hstep2]
              · simp; omega
              · rw [hs2, hs3]
          · rintro e g ⟨f, env', s2, o2, hel, hs2, rfl, rfl⟩
            have hP : rParams all sN x.params = (env', s2) := hs2
            rw [hP] at hsp
            simp only [go_sem,seval, lt_end]
            refine lessQ.same ?_
            by_cases hr : x.result > 0
            all_goals simp only [go_sem,seval, hr]
            all_goals
              first
              | (refine callT_of (REnds_spec _ x.body (Nat.le_refl _) (few_small (by omega)) hxo.2.2.2.2.2.2.2.2.1 false _) (fun v g ⟨hv, hg⟩ => ?_)
                 subst v g
                 cases he : endL x.body)
              | skip
            all_goals try simp only [go_sem,seval]
            all_goals
              first
              | (refine callT_of (fail_spec12 (s := s2) (upd_same _ _ _) 16) (fun v g ⟨hv, hg⟩ => ?_)
                 subst v g
                 have hN : s2.fail 16 = (if 0 < x.result ∧ endL x.body = false then s2.fail 16 else s2) := by rw [if_pos ⟨hr, he⟩]
                 rw [hN]
                 simp only [go_sem,seval, upd_upd])
              | (have hN : s2 = (if 0 < x.result ∧ endL x.body = false then s2.fail 16 else s2) := by
                   rw [if_neg]
                   rintro ⟨h1, h2⟩
                   first | exact hr h1 | simp [he] at h2
                 rw [hN])
            all_goals
              generalize hs3 : (if 0 < x.result ∧ endL x.body = false then s2.fail 16 else s2) = s3
              have hq1 := rVars_len x.inner x.vars env' s3
              have hq2 := rVars_ok x.inner x.vars s3 o2 (by omega)
              refine tcE (vars_spec12 x.inner (by omega) (upd_same _ _ _) o2 x.vars (by omega) f false false) ?_
              simp only [go_sem,seval, upd_upd]
              generalize hq : rVars env' s3 x.vars x.inner = q at hq1 hq2
              refine tcE (ih x.inner (d + 1) [] (by omega) ro.inner hri hxo.2.2.2.2.2.2.1 (upd_same _ _ _) hq2 (by omega) false false) ?_
              simp only [go_sem,seval, upd_upd]
              refine tcE (Visible_spec _ q.1 x.inner (by omega) false false) ?_
              simp only [go_sem,seval]
              refine tcE (stmts_spec12 x.result _ x.body 1 (Nat.le_refl _) ro.body hrb (upd_same _ _ _) (hq2.vis (by omega)) false false) ?_
              simp only [go_sem,seval, upd_upd]
              refine ⟨_, _, WeakE.env ?_, _, ?_, rfl, rfl⟩
              · simp only [go_sem,seval, hstep]
              · rw [hs, hsp]
                subst hs3 hq
                rfl
      · simp only [go_sem,seval, hb, upd_upd]
        refine lessQ.same ?_
        simp only [go_sem,seval]
        refine .same ⟨rfl, ?_⟩
        rw [hs, rRoutines_bad env all hb]
    · rintro e g ⟨s', hs, rfl, rfl⟩
      simp only [go_sem,seval, lt_end]
      refine lessQ.same ?_
      simp only [go_sem,seval]
      rw [hs]
      exact .same ⟨rfl, rfl⟩
structure POk (p : Prg) : Prop where
 recs : p.recs.length ≤ 512
 vars : p.vars.length ≤ 512
 routines : tRoutines [] p.routines 1 = true
 routine : p.routines.length ≤ 512
 body : tStmts p.body 1 = true
 bodys : p.body.length ≤ 512
theorem tPrg_ok {p : Prg} (h : tPrg p = true) : POk p := by
 unfold tPrg tVars at h
 simp only [Bool.and_eq_true, decide_eq_true_eq] at h
 obtain ⟨⟨⟨⟨⟨⟨⟨⟨⟨_, _⟩, _⟩, _⟩, _⟩, h1⟩, _⟩, _, h2⟩, h3, h4⟩, h5, h6⟩ := h
 exact ⟨h1, h2, h3, h4, h5, h6⟩
theorem Check_spec12 [GI] (p : Prg) (ht : tPrg p = true) (ho : p.ok) (h : AHeap) : ACalls prog 42 [.agg (ePrg p)] h (fun v g => v = .tuple [.int .i64 (rCheck p).1, .int .i64 (rCheck p).2] ∧ g = h) := by
 have po := tPrg_ok ht
 have p1 := po.recs
 have p2 := po.vars
 have p3 := po.routine
 have hf : ∀ r ∈ p.recs, few r.fields := fun r hr => (ho.eachRec r hr).fields
 refine F42.calls (by simp) ?_
 delta F42.c0
 simp only [go_sem,seval]
 refine afreshT_intro fun c hc => ?_
 simp only [go_sem,seval, ePrg_eq p]
 have k0 : (h.upd c (.blk [.int .i64 (-1), .int .i64 0] 2 127)) c = some (lkBlk ⟨-1, 0⟩) := upd_same _ _ _
 refine tcE (recs_spec12 k0 p.recs (by omega) hf false) ?_
 have a1 := rRecs_len p.recs [] ⟨-1, 0⟩
 have a2 := rRecs_ok p.recs (env := []) ⟨-1, 0⟩ ⟨by simp, by simp⟩ hf (by simp; omega)
 generalize ha : rRecs [] ⟨-1, 0⟩ p.recs = a at a1 a2
 simp only [List.length_nil, Nat.zero_add] at a1
 simp only [go_sem,seval, upd_upd]
 refine tcE (vars_spec12 p.routines (by omega) (upd_same _ _ _) a2 p.vars (by omega) false false false) ?_
 have b1 := rVars_len p.routines p.vars a.1 a.2
 have b2 := rVars_ok p.routines p.vars a.2 a2 (by omega)
 generalize hb : rVars a.1 a.2 p.vars p.routines = b at b1 b2
 simp only [go_sem,seval, upd_upd]
 refine tcE (routines_spec12 _ p.routines 1 [] (Nat.le_refl _) po.routines p3 ho.eachRoutine (upd_same _ _ _) b2 (by simp; omega) false false) ?_
 simp only [go_sem,seval, upd_upd]
 refine tcE (Visible_spec _ b.1 p.routines (by omega) false false) ?_
 simp only [go_sem,seval]
 refine tcE (stmts_spec12 0 _ p.body 1 (Nat.le_refl _) po.body po.bodys (upd_same _ _ _) (b2.vis (by omega)) false false) ?_
 have hA : rAll p = rStmts (rVis b.1 p.routines) (rRoutines b.1 (rVis b.1 p.routines) b.2 p.routines) 0 p.body := by subst hb ha; rfl
 rw [← hA]
 have kA : ∀ g : AHeap, (g.upd c (lkBlk (rAll p))) c = some (.blk [.int .i64 (rAll p).item, .int .i64 (rAll p).bad] 2 127) := fun g => upd_same _ _ _
 by_cases hz : (rAll p).bad = 0
 ·simp only [go_sem,seval, kA, hz, upd_upd]
  exact .forget (AHeap.le_upd hc) ⟨by simp [rCheck, hz], rfl⟩
 ·simp only [go_sem,seval, kA, hz, upd_upd]
  exact .forget (AHeap.le_upd hc) ⟨by simp [rCheck, hz], rfl⟩
end Pg
