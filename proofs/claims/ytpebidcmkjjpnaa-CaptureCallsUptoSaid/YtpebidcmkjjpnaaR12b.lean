import Derived.Test.YtpebidcmkjjpnaaTreeS
import Derived.Test.YtpebidcmkjjpnaaR12a
import Derived.Test.YtpebidcmkjjpnaaTreeSpec
import Derived.Test.YtpebidcmkjjpnaaCk4
namespace Pg
open Go
set_option linter.unusedSimpArgs false
set_option linter.unusedVariables false
set_option maxHeartbeats 4000000
set_option maxRecDepth 4000
structure EnvOk (env : List Th) : Prop where
  few : env.length ≤ 1000000
  fields : ∀ x ∈ env, Pg.few x.rcd.fields
theorem EnvOk.fewE {env : List Th} (o : EnvOk env) : Pg.few env := by have := o.few; unfold Pg.few; omega
theorem EnvOk.found {env : List Th} (o : EnvOk env) (name : ByteArray) : Pg.few (rFind env name).rcd.fields := by
  unfold rFind
  cases h : env.find? (fun x => decide (x.name = name)) with
  | none => simp [noTh, noRec, Pg.few]
  | some x => exact o.fields x (List.mem_of_find?_eq_some h)
/-- A function turns what looks. -/
abbrev Lks (f : FuncId) (args : List AV) (h : AHeap) (c : Nat) (v : AV) (s : CS) : Prop := ACalls Go.Proofs.Try.prog f (.ptr (some ⟨c, 0, none⟩) :: args) h (fun w g => w = v ∧ g = h.upd c (lkBlk s))
def Exp12 (x : Expr) (stmt : Bool) : Prop := ∀ {h : AHeap} {c : Nat} {s : CS}, h c = some (lkBlk s) → ∀ {env : List Th}, EnvOk env → ∀ full : Bool,
  Lks 116 [.sl (eEnv env) full, .agg (eExpr x), .bool stmt] h c (.agg (eTyp (rExpr env s x stmt).1)) (rExpr env s x stmt).2
theorem lkOut {s : CS} : (lkBlk s) = .blk [.int .i64 s.item, .int .i64 s.bad] 2 161 := rfl
section
variable {h : AHeap} {c : Nat} {s : CS} {env : List Th}
theorem value_spec12 {x : Expr} (hx : Exp12 x false) (hc : h c = some (lkBlk s)) (o : EnvOk env) (full : Bool) (kind : Int) :
    Lks 115 [.sl (eEnv env) full, .agg (eExpr x), .int .i64 kind] h c (.int .i64 (rKind kind (rExpr env s x false)).1) (rKind kind (rExpr env s x false)).2 := by
  refine F115.calls (by simp) ?_
  delta F115.c0
  simp -implicitDefEqProofs only [↓pgPre,go_sem,seval]
  refine callT_of (hx hc o full) (fun v g ⟨hv, hg⟩ => ?_)
  subst v g
  simp -implicitDefEqProofs only [↓pgPre,go_sem,seval]
  repeat' (refine agateT_split (fun hg => ?_) (fun hg => ?_) <;> simp -implicitDefEqProofs only [↓pgPre,go_sem,seval, hg, Bool.not_true, Bool.not_false])
  all_goals simp only [Bool.not_true, Bool.not_false, decide_eq_true_eq, decide_eq_false_iff_not] at *
  all_goals first
    | (refine .same ⟨rfl, ?_⟩
       simp only [rKind]; rw [if_neg (by omega)])
    | (refine callT_of (fail_spec12 (upd_same _ _ _) 14) (fun v g ⟨hv, hg⟩ => ?_)
       subst v g
       simp -implicitDefEqProofs only [↓pgPre,go_sem,seval, upd_upd]
       refine .same ⟨rfl, ?_⟩
       simp only [rKind]; rw [if_pos (by omega)])
end
/-! ### Expressions -/
theorem form_eq (n : Nat) (x : Expr) : form (n + 1) x = (decide (x.l.length ≤ 512) && decide (1 ≤ x.op) && decide (x.op ≤ 24) && partsOk x && forms n x.l) := by
  obtain ⟨op, k, name, field, l⟩ := x; rfl
theorem forms_mem {n : Nat} : ∀ {l : List Expr} {x : Expr}, forms n l = true → x ∈ l → form n x = true
  | y :: r, x, h, hx => by
    simp only [forms, Bool.and_eq_true] at h
    rcases List.mem_cons.1 hx with rfl | hx
    · exact h.1.2
    · exact forms_mem h.2 hx
theorem kindTyp_e (k : Int) : eTyp (kindTyp k) = [.int .i64 k, .int .i64 0, .str ⟨#[]⟩] := rfl
theorem th_0 (x : Th) : (eTh x)[0]? = some (.str x.name) := rfl
theorem th_1 (x : Th) : (eTh x)[1]? = some (.int .i64 x.kind) := rfl
theorem th_5 (x : Th) : (eTh x)[5]? = some (.sl (x.rcd.fields.map eFld) false) := rfl
theorem th_10 (x : Th) : (eTh x)[10]? = some (.int .i64 x.r.result) := rfl
theorem th_11 (x : Th) : (eTh x)[11]? = some (.sl (x.r.params.map eParam) false) := rfl
theorem fail_ne (s : CS) {e : Int} (he : e ≠ 0) : (s.fail e).bad ≠ 0 := by
  unfold CS.fail
  split
  · exact he
  · assumption
theorem rArgs_bad (env : List Th) {s : CS} (h : s.bad ≠ 0) (ps : List Param) (l : List Expr) : rArgs env s ps l = s := by
  cases ps with
  | nil => cases l <;> simp [rArgs]
  | cons p ps => cases l with
    | nil => simp [rArgs]
    | cons x l => simp [rArgs, h]
section
variable {h : AHeap} {c : Nat} {s : CS} {env : List Th}
theorem args_loop12 (x : Expr) (hl : few x.l) (he : ∀ y ∈ x.l, Exp12 y false) (hc : h c = some (lkBlk s)) (o : EnvOk env) (full : Bool) (y : Th) (hlen : s.bad = 0 → y.r.params.length = x.l.length) (p8 : AV) {Q : Exit → Env → AHeap → Tok → Prop} {e : Env}
    (g0 : e.get 0 = .ptr (some ⟨c, 0, none⟩)) (g1 : e.get 1 = .sl (eEnv env) full) (g6 : e.get 6 = .ip (eExpr x) 0) (g8 : e.get 8 = p8) (g9 : e.get 9 = .ip (eTh y) 0) (g10 : e.get 10 = .int .i64 0)
    (hQ : Q (.exit 0) [(8, p8), (9, .ip (eTh y) 0)] (h.upd c (lkBlk (rArgs env s y.r.params x.l))) .go) : lT .go Go.Proofs.Try.prog 109 F121.c17 Q e h := by
  delta F121.c17
  refine lT_list x.l (fun pre post e g => (∃ s', rArgs env s y.r.params x.l = rArgs env s' (y.r.params.drop pre.length) post ∧ (s'.bad = 0 → y.r.params.length = x.l.length) ∧ g = h.upd c (lkBlk s')) ∧ e = [(0, .ptr (some ⟨c, 0, none⟩)), (1, .sl (eEnv env) full), (6, .ip (eExpr x) 0), (8, p8), (9, .ip (eTh y) 0), (10, .int .i64 pre.length)]) (WeakE.env ?_) ⟨⟨s, by simp, hlen, (upd_self hc).symm⟩, rfl⟩ ?_ ?_
  · skip
    repeat' (first | exact EnvLe.nil _ | refine EnvLe.cons ?_ ?_)
    all_goals (simp -implicitDefEqProofs only [↓pgPre,go_sem,seval, g0, g1, g6, g8, g9, g10]; try first | exact AVle.refl _ | exact AVle.sl _ _ | exact AVle.gs _ _ _ | assumption)
  · rintro pre z post e g hp ⟨⟨s', hs, hln, rfl⟩, rfl⟩
    have kc : (h.upd c (lkBlk s')) c = some (.blk [.int .i64 s'.item, .int .i64 s'.bad] 2 161) := upd_same _ _ _
    have kc' : (h.upd c (lkBlk s')) c = some (lkBlk s') := upd_same _ _ _
    by_cases hb : s'.bad = 0
    · have hi : pre.length < y.r.params.length := by rw [hln hb]; exact (at_pre hp).2
      have hx : y.r.params.drop pre.length = y.r.params[pre.length] :: y.r.params.drop (pre.length + 1) := List.drop_eq_getElem_cons hi
      have hxm : (y.r.params.map eParam)[pre.length]? = some (eParam y.r.params[pre.length]) := by simp [hi]
      generalize y.r.params[pre.length] = q at hx hxm
      have p4 : (eParam q)[4]? = some (.int .i64 q.mode) := rfl
      have p1 : (eParam q)[1]? = some (.int .i64 q.t.kind) := rfl
      have pt : ((eParam q).drop 1).take 3 = eTyp q.t := rfl
      by_cases hm : q.mode = 0
      · simp -implicitDefEqProofs only [↓pgPre,go_sem,seval, lt_at hp, ↓kc, hb, th_11, aia_sl hxm (eParam_len q), aia_sl (map_at hp) (eExpr_len z), eParam_len, List.take_of_length_le, p4, hm, p1]
        refine callT_of (value_spec12 (he z (mem_at hp)) kc' o full q.t.kind) (fun v g ⟨hv, hg⟩ => ?_)
        subst v g
        simp -implicitDefEqProofs only [↓pgPre,go_sem,seval, upd_upd]
        refine ⟨_, _, WeakE.env ?_, ⟨_, ?_, ?_, rfl⟩, rfl⟩
        · skip
          repeat' (first | exact EnvLe.nil _ | refine EnvLe.cons ?_ ?_)
          all_goals (simp -implicitDefEqProofs only [↓pgPre,go_sem,seval, step_at hl hp]; try first | exact AVle.refl _ | exact AVle.sl _ _ | exact AVle.gs _ _ _ | assumption)
        · rw [hs, hx]
          simp [rArgs, hb, hm]
        · intro _; exact hln hb
      · simp -implicitDefEqProofs only [↓pgPre,go_sem,seval, lt_at hp, ↓kc, hb, th_11, aia_sl hxm (eParam_len q), aia_sl (map_at hp) (eExpr_len z), eParam_len, List.take_of_length_le, p4, hm, p1]
        have mid : ∀ (s2 : CS), s2 = (if z.op < 4 ∨ 6 < z.op then s'.fail 14 else s') → rArgs env s' (q :: y.r.params.drop (pre.length + 1)) (z :: post) = rArgs env (if (rExpr env s2 z false).1 = q.t then (rExpr env s2 z false).2 else (rExpr env s2 z false).2.fail 14) (y.r.params.drop (pre.length + 1)) post := by
          rintro s2 rfl
          simp only [rArgs, hb, hm, if_true, if_false]
        repeat' (refine agateT_split (fun hg => ?_) (fun hg => ?_) <;> simp -implicitDefEqProofs only [↓pgPre,go_sem,seval, hg, Bool.not_true, Bool.not_false, aia_sl (map_at hp) (eExpr_len z)])
        all_goals try
          refine callT_of (fail_spec12 kc' 14) (fun v g ⟨hv, hg⟩ => ?_)
          subst v g
          simp -implicitDefEqProofs only [↓pgPre,go_sem,seval, upd_upd, aia_sl (map_at hp) (eExpr_len z)]
        all_goals
          first
          | (refine callT_of (he z (mem_at hp) (s := s'.fail 14) (upd_same _ _ _) o full) (fun v g ⟨hv, hg⟩ => ?_); subst v g)
          | (refine callT_of (he z (mem_at hp) (s := s') kc' o full) (fun v g ⟨hv, hg⟩ => ?_); subst v g)
        all_goals
          simp -implicitDefEqProofs only [↓pgPre,go_sem,seval, upd_upd, pt, typ_eq]
          repeat' (refine agateT_split (fun hg => ?_) (fun hg => ?_) <;> simp -implicitDefEqProofs only [↓pgPre,go_sem,seval, hg, Bool.not_true, Bool.not_false])
        all_goals try
          refine callT_of (fail_spec12 (upd_same _ _ _) 14) (fun v g ⟨hv, hg⟩ => ?_)
          subst v g
          simp -implicitDefEqProofs only [↓pgPre,go_sem,seval, upd_upd]
        all_goals
          refine ⟨_, _, WeakE.env ?_, ⟨_, ?_, fun _ => hln hb, rfl⟩, rfl⟩
          · skip
            repeat' (first | exact EnvLe.nil _ | refine EnvLe.cons ?_ ?_)
            all_goals (simp -implicitDefEqProofs only [↓pgPre,go_sem,seval, step_at hl hp]; try first | exact AVle.refl _ | exact AVle.sl _ _ | exact AVle.gs _ _ _ | assumption)
          · rw [hs, hx, mid _ rfl]
            simp only [Bool.not_true, Bool.not_false, decide_eq_true_eq, decide_eq_false_iff_not] at *
            first
            | rw [if_pos (show z.op < 4 ∨ 6 < z.op by omega)]
            | rw [if_neg (show ¬ (z.op < 4 ∨ 6 < z.op) by omega)]
            simp [hg]
    · simp -implicitDefEqProofs only [↓pgPre,go_sem,seval, lt_at hp, ↓kc, hb]
      refine lessQ.to (.env ?_) (by rw [hs, rArgs_bad env hb] at hQ; exact hQ)
      repeat' (first | exact EnvLe.nil _ | refine EnvLe.cons ?_ ?_)
      all_goals (simp -implicitDefEqProofs only [↓pgPre,go_sem,seval]; try first | exact AVle.refl _ | exact AVle.sl _ _ | exact AVle.gs _ _ _ | assumption)
  · rintro e g ⟨⟨s', hs, hln, rfl⟩, rfl⟩
    have kc : (h.upd c (lkBlk s')) c = some (.blk [.int .i64 s'.item, .int .i64 s'.bad] 2 161) := upd_same _ _ _
    have hr : rArgs env s' (y.r.params.drop x.l.length) [] = s' := by cases y.r.params.drop x.l.length <;> simp [rArgs]
    simp -implicitDefEqProofs only [↓pgPre,go_sem,seval, lt_end]
    rw [hs, hr] at hQ
    refine lessQ.to (.env ?_) hQ
    repeat' (first | exact EnvLe.nil _ | refine EnvLe.cons ?_ ?_)
    all_goals (simp -implicitDefEqProofs only [↓pgPre,go_sem,seval]; try first | exact AVle.refl _ | exact AVle.sl _ _ | exact AVle.gs _ _ _ | assumption)
theorem call_spec12 (x : Expr) (hop : x.op = 7) (hb : s.bad = 0) (hl : few x.l) (he : ∀ y ∈ x.l, Exp12 y false) (hc : h c = some (lkBlk s)) (o : EnvOk env) (full : Bool) (stmt : Bool) :
    Lks 121 [.sl (eEnv env) full, .agg (eExpr x), .bool stmt] h c (.agg (eTyp (rExpr env s x stmt).1)) (rExpr env s x stmt).2 := by
  rw [rExpr_eq]
  simp only [hb, hop, if_true, Int.reduceEq, if_false, or_self]
  refine F121.calls (by simp) ?_
  delta F121.c0
  simp -implicitDefEqProofs only [↓pgPre,go_sem,seval]
  refine afreshT_intro fun p hp => ?_
  have hne := none_ne hp hc
  have kp : (h.upd p (.blk [.int .i64 0, .int .i64 0, .str ⟨#[]⟩] 3 43)) c = some (lkBlk s) := by rw [upd_ne _ _ _ hne]; exact hc
  simp -implicitDefEqProofs only [↓pgPre,go_sem,seval]
  refine callT_of (find_spec12 _ env o.fewE full x.name) (fun v g ⟨hv, hg⟩ => ?_)
  subst v g
  generalize rFind env x.name = y
  have fin : ∀ (t : Typ) (s' : CS) (r : Typ × CS), r = (t, s') → EndW (fun v g => v = .agg (eTyp r.1) ∧ g = h.upd c (lkBlk r.2)) (.agg [.int .i64 t.kind, .int .i64 t.size, .str t.name]) ((h.upd p (.blk [.int .i64 t.kind, .int .i64 t.size, .str t.name] 3 43)).upd c (lkBlk s')) := by
    intro t s' r e
    rw [e]
    exact .forget (le_upd_upd (upd_le hp) _ _) ⟨rfl, rfl⟩
  by_cases hk : y.kind = 2
  · by_cases hst : decide (0 < y.r.result) = stmt
    · have hst' : decide (y.r.result > 0) = stmt := hst
      simp -implicitDefEqProofs only [↓pgPre,go_sem,seval, th_1, th_10, th_11, hk, hst', eTh_len, eTh_take]
      refine callT_of (fail_spec12 kp 14) (fun v g ⟨hv, hg⟩ => ?_)
      subst v g
      by_cases hln : y.r.params.length = x.l.length
      · simp -implicitDefEqProofs only [↓pgPre,go_sem,seval, th_11, hln]
        refine args_loop12 x hl he (upd_same _ _ _) o full y (fun _ => hln) (.ptr (some ⟨p, 0, none⟩)) ?_ ?_ ?_ ?_ ?_ ?_ ?_
        iterate 6 (simp -implicitDefEqProofs only [↓pgPre,go_sem,seval])
        simp -implicitDefEqProofs only [↓pgPre,go_sem,seval, th_10, upd_ne _ _ _ hne.symm, upd_comm _ _ _ hne, upd_upd]
        exact fin (kindTyp y.r.result) _ _ rfl
      · simp -implicitDefEqProofs only [↓pgPre,go_sem,seval, th_11, show ((y.r.params.length : Int) = x.l.length) = False by simp; omega]
        refine callT_of (fail_spec12 (upd_same _ _ _) 15) (fun v g ⟨hv, hg⟩ => ?_)
        subst v g
        simp -implicitDefEqProofs only [↓pgPre,go_sem,seval]
        refine args_loop12 x hl he (s := (s.fail 14).fail 15) (by rw [upd_upd]; exact upd_same _ _ _) o full y (fun hh => absurd hh (fail_ne _ (by decide))) (.ptr (some ⟨p, 0, none⟩)) ?_ ?_ ?_ ?_ ?_ ?_ ?_
        iterate 6 (simp -implicitDefEqProofs only [↓pgPre,go_sem,seval])
        simp -implicitDefEqProofs only [↓pgPre,go_sem,seval, th_10, upd_ne _ _ _ hne.symm, upd_comm _ _ _ hne, upd_upd]
        simp only [if_neg hln]
        exact fin (kindTyp y.r.result) _ _ rfl
    · have hst' : (decide (y.r.result > 0) = stmt) = False := by simpa using hst
      by_cases hln : y.r.params.length = x.l.length
      · simp -implicitDefEqProofs only [↓pgPre,go_sem,seval, th_1, th_10, th_11, hk, hst', eTh_len, eTh_take, hln]
        refine args_loop12 x hl he kp o full y (fun _ => hln) (.ptr (some ⟨p, 0, none⟩)) ?_ ?_ ?_ ?_ ?_ ?_ ?_
        iterate 6 (simp -implicitDefEqProofs only [↓pgPre,go_sem,seval])
        simp -implicitDefEqProofs only [↓pgPre,go_sem,seval, th_10, upd_ne _ _ _ hne.symm, upd_comm _ _ _ hne, upd_upd]
        exact fin (kindTyp y.r.result) _ _ rfl
      · simp -implicitDefEqProofs only [↓pgPre,go_sem,seval, th_1, th_10, th_11, hk, hst', eTh_len, eTh_take, show ((y.r.params.length : Int) = x.l.length) = False by simp; omega]
        refine callT_of (fail_spec12 kp 15) (fun v g ⟨hv, hg⟩ => ?_)
        subst v g
        simp -implicitDefEqProofs only [↓pgPre,go_sem,seval]
        refine args_loop12 x hl he (s := s.fail 15) (upd_same _ _ _) o full y (fun hh => absurd hh (fail_ne _ (by decide))) (.ptr (some ⟨p, 0, none⟩)) ?_ ?_ ?_ ?_ ?_ ?_ ?_
        iterate 6 (simp -implicitDefEqProofs only [↓pgPre,go_sem,seval])
        simp -implicitDefEqProofs only [↓pgPre,go_sem,seval, th_10, upd_ne _ _ _ hne.symm, upd_comm _ _ _ hne, upd_upd]
        simp only [if_neg hln]
        exact fin (kindTyp y.r.result) _ _ rfl
  · simp -implicitDefEqProofs only [↓pgPre,go_sem,seval, th_1, hk, eTh_len, eTh_take]
    refine callT_of (fail_spec12 kp 13) (fun v g ⟨hv, hg⟩ => ?_)
    subst v g
    simp -implicitDefEqProofs only [↓pgPre,go_sem,seval, upd_ne _ _ _ hne.symm, upd_comm _ _ _ hne, upd_upd]
    exact fin noTyp _ _ (by first | rfl | simp [hk])
end
theorem parts_len {x : Expr} (h : partsOk x = true) : (x.l.length : Int) = if x.op = 7 then (x.l.length : Int) else if x.op = 5 ∨ x.op = 8 ∨ x.op = 9 then 1 else if 10 ≤ x.op then 2 else 0 := by
  unfold partsOk at h
  simp only [Bool.and_eq_true, decide_eq_true_eq] at h
  exact h.2
theorem typ_splice (a b d : AV) (t : Typ) : splice [a, b, d] 0 (eTyp t) = eTyp t := rfl
theorem th_rec (x : Th) : ((eTh x).drop 2).take 5 = eRec x.rcd := rfl
theorem noTyp_e : eTyp noTyp = [.int .i64 0, .int .i64 0, .str ⟨#[]⟩] := rfl
theorem expr_spec12 : ∀ (n : Nat) (x : Expr), form n x = true → ∀ stmt : Bool, Exp12 x stmt := by
  intro n
  induction n with
  | zero => intro x hx; simp [form] at hx
  | succ n ih =>
    intro x hx stmt h c s hc env o full
    rw [form_eq] at hx
    simp only [Bool.and_eq_true, decide_eq_true_eq] at hx
    obtain ⟨⟨⟨⟨h1, h2⟩, h3⟩, h4⟩, h5⟩ := hx
    have hsub : ∀ y ∈ x.l, ∀ b, Exp12 y b := fun y hy b => ih y (forms_mem h5 hy) b
    have hcd : h c = some (.blk [.int .i64 s.item, .int .i64 s.bad] 2 161) := hc
    have fin : ∀ {p : Nat}, h p = none → ∀ (t : Typ) (s' : CS) (r : Typ × CS), r = (t, s') → EndW (fun v g => v = .agg (eTyp r.1) ∧ g = h.upd c (lkBlk r.2)) (.agg (eTyp t)) ((h.upd p (.blk (eTyp t) 3 43)).upd c (lkBlk s')) := by
      intro p hp t s' r e
      rw [e]
      exact .forget (le_upd_upd (upd_le hp) _ _) ⟨rfl, rfl⟩
    have fin0 : ∀ {p : Nat}, h p = none → ∀ (t : Typ) (r : Typ × CS), r = (t, s) → EndW (fun v g => v = .agg (eTyp r.1) ∧ g = h.upd c (lkBlk r.2)) (.agg (eTyp t)) (h.upd p (.blk (eTyp t) 3 43)) := by
      intro p hp t r e
      rw [e]
      exact .forget (upd_le hp) ⟨rfl, by rw [upd_self hc]⟩
    have hlen := parts_len h4
    rw [rExpr_eq]
    refine F116.calls (by simp) ?_
    delta F116.c0
    simp -implicitDefEqProofs only [↓pgPre,go_sem,seval]
    refine afreshT_intro fun p hp => ?_
    have hne := none_ne hp hc
    have kp : (h.upd p (.blk [.int .i64 0, .int .i64 0, .str ⟨#[]⟩] 3 43)) c = some (lkBlk s) := by rw [upd_ne _ _ _ hne]; exact hc
    have kpd : (h.upd p (.blk [.int .i64 0, .int .i64 0, .str ⟨#[]⟩] 3 43)) c = some (.blk [.int .i64 s.item, .int .i64 s.bad] 2 161) := kp
    by_cases hb : s.bad = 0
    · rw [if_pos hb]
      by_cases g1 : x.op = 1 ∨ x.op = 2 ∨ x.op = 3
      · rw [if_pos g1]
        rcases g1 with g1 | g1 | g1
        all_goals
          simp -implicitDefEqProofs only [↓pgPre,go_sem,seval, kpd, hb, expr_0, g1, upd_upd]
          exact fin0 hp (kindTyp _) _ rfl
      rw [if_neg g1]
      by_cases g4 : x.op = 4
      · rw [if_pos g4]
        simp -implicitDefEqProofs only [↓pgPre,go_sem,seval, kpd, hb, expr_0, expr_2, g4]
        refine callT_of (variable_spec12 kp env o.fewE full x.name) (fun v g ⟨hv, hg⟩ => ?_)
        subst v g
        simp -implicitDefEqProofs only [↓pgPre,go_sem,seval, eTyp_len, upd_ne _ _ _ hne.symm, upd_comm _ _ _ hne, upd_upd, typ_splice, typ_take]
        exact fin hp _ _ _ rfl
      rw [if_neg g4]
      by_cases g5 : x.op = 5
      · rw [if_pos g5]
        have hl1 : x.l.length = 1 := by simp [g5] at hlen; omega
        obtain ⟨y, hy⟩ := List.length_eq_one_iff.1 hl1
        have hym : y ∈ x.l := by rw [hy]; simp
        have hA : aia 5 (.sl (x.l.map eExpr) false) (.int .i64 0) = some (.ip (eExpr y) 0) := aia_sl (i := 0) (by rw [hy]; rfl) (eExpr_len y)
        have hH : ∀ s', rHead env s' x.l 1 = (rKind 1 (rExpr env s' y false)).2 := by intro s'; rw [hy]; simp only [rHead]
        simp -implicitDefEqProofs only [↓pgPre,go_sem,seval, kpd, hb, expr_0, expr_2, g5]
        refine callT_of (variable_spec12 kp env o.fewE full x.name) (fun v g ⟨hv, hg⟩ => ?_)
        subst v g
        generalize rVariable env s x.name = q
        by_cases hz : q.1.size = 0
        · simp -implicitDefEqProofs only [↓pgPre,go_sem,seval, eTyp_len, typ_take, typ_1, typ_0, hz]
          refine callT_of (fail_spec12 (upd_same _ _ _) 14) (fun v g ⟨hv, hg⟩ => ?_)
          subst v g
          simp -implicitDefEqProofs only [↓pgPre,go_sem,seval, upd_upd, expr_4, hA, eExpr_len, expr_take]
          refine callT_of (value_spec12 (hsub y hym false) (upd_same _ _ _) o full 1) (fun v g ⟨hv, hg⟩ => ?_)
          subst v g
          simp -implicitDefEqProofs only [↓pgPre,go_sem,seval, upd_upd, upd_ne _ _ _ hne.symm, upd_comm _ _ _ hne, typ_0]
          simp only [hH]
          exact fin hp (kindTyp q.1.kind) _ _ rfl
        · simp -implicitDefEqProofs only [↓pgPre,go_sem,seval, eTyp_len, typ_take, typ_1, typ_0, hz, expr_4, hA, eExpr_len, expr_take]
          refine callT_of (value_spec12 (hsub y hym false) (upd_same _ _ _) o full 1) (fun v g ⟨hv, hg⟩ => ?_)
          subst v g
          simp -implicitDefEqProofs only [↓pgPre,go_sem,seval, upd_upd, upd_ne _ _ _ hne.symm, upd_comm _ _ _ hne, typ_0]
          simp only [hH]
          exact fin hp (kindTyp q.1.kind) _ _ rfl
      rw [if_neg g5]
      by_cases g6 : x.op = 6
      · rw [if_pos g6]
        simp -implicitDefEqProofs only [↓pgPre,go_sem,seval, kpd, hb, expr_0, expr_2, g6]
        refine callT_of (variable_spec12 kp env o.fewE full x.name) (fun v g ⟨hv, hg⟩ => ?_)
        subst v g
        generalize rVariable env s x.name = q
        by_cases hz : q.1.kind = 4
        · simp -implicitDefEqProofs only [↓pgPre,go_sem,seval, eTyp_len, typ_take, typ_2, typ_0, hz]
          refine callT_of (find_spec12 _ env o.fewE full q.1.name) (fun v g ⟨hv, hg⟩ => ?_)
          subst v g
          have hff := o.found q.1.name
          generalize hw : rFind env q.1.name = w at hff
          simp -implicitDefEqProofs only [↓pgPre,go_sem,seval, eTh_len, th_rec, eRec_len, rec_take]
          generalize hB : AHeap.upd (AHeap.upd h p _) c _ = B
          have hBp : B p = some (.blk [.int .i64 0, .int .i64 0, .str ⟨#[]⟩] 3 43) := by rw [← hB, upd_ne _ _ _ hne.symm, upd_same]
          refine lT_list w.rcd.fields (fun pre post e g => w.rcd.fields.find? (fun f => decide (f.name = x.field)) = post.find? (fun f => decide (f.name = x.field)) ∧ g = B ∧ e = [(0, .ptr (some ⟨c, 0, none⟩)), (6, .ip (eExpr x) 0), (8, .ptr (some ⟨p, 0, none⟩)), (11, .ip (eRec w.rcd) 0), (12, .int .i64 pre.length)]) (WeakE.env ?_) ⟨rfl, rfl, rfl⟩ ?_ ?_
          · skip
            repeat' (first | exact EnvLe.nil _ | refine EnvLe.cons ?_ ?_)
            all_goals (simp -implicitDefEqProofs only [↓pgPre,go_sem,seval]; try first | exact AVle.refl _ | exact AVle.sl _ _ | exact AVle.gs _ _ _ | assumption)
          · rintro pre f post e g hp' ⟨hk, rfl, rfl⟩
            by_cases he : f.name = x.field
            · simp -implicitDefEqProofs only [↓pgPre,go_sem,seval, rec_3, lt_at hp', aia_sl (map_at hp') (eFld_len f), fld_2, fld_3, expr_3, he, hBp]
              refine lessQ.same ?_
              rw [← hB]
              simp -implicitDefEqProofs only [↓pgPre,go_sem,seval, upd_ne _ _ _ hne.symm, upd_comm _ _ _ hne, upd_upd]
              refine fin hp (kindTyp f.kind) _ _ ?_
              simp [rField, hz, hw, hk, he]
            · simp -implicitDefEqProofs only [↓pgPre,go_sem,seval, rec_3, lt_at hp', aia_sl (map_at hp') (eFld_len f), fld_2, fld_3, expr_3, he]
              refine ⟨_, _, WeakE.env ?_, ?_, rfl, rfl⟩
              · skip
                repeat' (first | exact EnvLe.nil _ | refine EnvLe.cons ?_ ?_)
                all_goals (simp -implicitDefEqProofs only [↓pgPre,go_sem,seval, step_at hff hp']; try first | exact AVle.refl _ | exact AVle.sl _ _ | exact AVle.gs _ _ _ | assumption)
              · rw [hk]; simp [he]
          · rintro e g ⟨hk, rfl, rfl⟩
            simp -implicitDefEqProofs only [↓pgPre,go_sem,seval, rec_3, lt_end]
            refine lessQ.same ?_
            rw [← hB]
            simp -implicitDefEqProofs only [↓pgPre,go_sem,seval]
            refine callT_of (fail_spec12 (s := q.2) (upd_same _ _ _) 13) (fun v g ⟨hv, hg⟩ => ?_)
            subst v g
            simp -implicitDefEqProofs only [↓pgPre,go_sem,seval, upd_upd, upd_ne _ _ _ hne.symm, upd_comm _ _ _ hne]
            refine fin hp noTyp _ _ ?_
            simp [rField, hz, hw, hk]
        · simp -implicitDefEqProofs only [↓pgPre,go_sem,seval, eTyp_len, typ_take, typ_2, typ_0, hz]
          refine callT_of (fail_spec12 (upd_same _ _ _) 14) (fun v g ⟨hv, hg⟩ => ?_)
          subst v g
          simp -implicitDefEqProofs only [↓pgPre,go_sem,seval, upd_upd, upd_ne _ _ _ hne.symm, upd_comm _ _ _ hne]
          exact fin hp noTyp _ _ (by simp [rField, hz])
      rw [if_neg g6]
      by_cases g7 : x.op = 7
      · rw [if_pos g7]
        simp -implicitDefEqProofs only [↓pgPre,go_sem,seval, kpd, hb, expr_0, g7, eExpr_len, expr_take]
        refine callT_of (call_spec12 x g7 hb (few_small (by omega)) (fun y hy => hsub y hy false) kp o full stmt) (fun v g ⟨hv, hg⟩ => ?_)
        subst v g
        simp -implicitDefEqProofs only [↓pgPre,go_sem,seval, eTyp_len, upd_ne _ _ _ hne.symm, upd_comm _ _ _ hne, upd_upd, typ_splice, typ_take]
        refine fin hp _ _ _ ?_
        rw [rExpr_eq]; simp [hb, g7]
      rw [if_neg g7]
      by_cases g9 : x.op = 9 ∨ x.op = 13 ∨ x.op = 14 ∨ x.op = 17 ∨ x.op = 18
      · rw [if_pos g9]
        rcases g9 with g9 | g9 | g9 | g9 | g9
        all_goals
          simp -implicitDefEqProofs only [↓pgPre,go_sem,seval, kpd, hb, expr_0, g9]
          refine lT_list x.l (fun pre post e g => (∃ s', rPair env s x.l 2 = rPair env s' post 2 ∧ g = (h.upd p (.blk [.int .i64 0, .int .i64 0, .str ⟨#[]⟩] 3 43)).upd c (lkBlk s')) ∧ e = [(0, .ptr (some ⟨c, 0, none⟩)), (1, .sl (eEnv env) full), (6, .ip (eExpr x) 0), (8, .ptr (some ⟨p, 0, none⟩)), (13, .int .i64 pre.length)]) (WeakE.env ?_) ⟨⟨s, rfl, (upd_self kp).symm⟩, rfl⟩ ?_ ?_
          · skip
            repeat' (first | exact EnvLe.nil _ | refine EnvLe.cons ?_ ?_)
            all_goals (simp -implicitDefEqProofs only [↓pgPre,go_sem,seval]; try first | exact AVle.refl _ | exact AVle.sl _ _ | exact AVle.gs _ _ _ | assumption)
          · rintro pre z post e g hp' ⟨⟨s', hs, rfl⟩, rfl⟩
            simp -implicitDefEqProofs only [↓pgPre,go_sem,seval, expr_4, lt_at hp', aia_sl (map_at hp') (eExpr_len z), eExpr_len, expr_take]
            refine callT_of (value_spec12 (hsub z (mem_at hp') false) (upd_same _ _ _) o full 2) (fun v g ⟨hv, hg⟩ => ?_)
            subst v g
            simp -implicitDefEqProofs only [↓pgPre,go_sem,seval, upd_upd]
            refine ⟨_, _, WeakE.env ?_, ⟨_, ?_, rfl⟩, rfl⟩
            · skip
              repeat' (first | exact EnvLe.nil _ | refine EnvLe.cons ?_ ?_)
              all_goals (simp -implicitDefEqProofs only [↓pgPre,go_sem,seval, step_at (few_small (l := x.l) (by omega)) hp']; try first | exact AVle.refl _ | exact AVle.sl _ _ | exact AVle.gs _ _ _ | assumption)
            · rw [hs]; simp only [rPair]
          · rintro e g ⟨⟨s', hs, rfl⟩, rfl⟩
            simp -implicitDefEqProofs only [↓pgPre,go_sem,seval, expr_4, lt_end]
            refine lessQ.same ?_
            simp -implicitDefEqProofs only [↓pgPre,go_sem,seval, upd_upd, upd_ne _ _ _ hne.symm, upd_comm _ _ _ hne]
            rw [hs]
            simp only [rPair]
            exact fin hp (kindTyp 2) _ _ rfl
      rw [if_neg g9]
      by_cases g19 : 19 ≤ x.op ∧ x.op ≤ 24
      · rw [if_pos g19]
        have hl2 : x.l.length = 2 := by
          rw [if_neg g7, if_neg (by omega), if_pos (by omega)] at hlen; omega
        obtain ⟨a, b, hab⟩ : ∃ a b, x.l = [a, b] := by
          match hm : x.l, hl2 with
          | [a, b], _ => exact ⟨a, b, rfl⟩
        have hA : aia 5 (.sl (x.l.map eExpr) false) (.int .i64 0) = some (.ip (eExpr a) 0) := aia_sl (i := 0) (by rw [hab]; rfl) (eExpr_len a)
        have hB : aia 5 (.sl (x.l.map eExpr) false) (.int .i64 1) = some (.ip (eExpr b) 0) := aia_sl (i := 1) (by rw [hab]; rfl) (eExpr_len b)
        have ha : a ∈ x.l := by rw [hab]; simp
        have hb' : b ∈ x.l := by rw [hab]; simp
        have hT : rTwo env s (decide (20 < x.op)) x.l = (rKind (rKind 0 (rExpr env s a false)).1 (rExpr env (if 20 < x.op ∧ (rKind 0 (rExpr env s a false)).1 = 2 then (rKind 0 (rExpr env s a false)).2.fail 14 else (rKind 0 (rExpr env s a false)).2) b false)).2 := by
          rw [hab]; simp only [rTwo, rHead, decide_eq_true_eq]
        rw [hT]
        generalize hq : rKind 0 (rExpr env s a false) = q
        have g19' : x.op = 19 ∨ x.op = 20 ∨ x.op = 21 ∨ x.op = 22 ∨ x.op = 23 ∨ x.op = 24 := by omega
        rcases g19' with g9 | g9 | g9 | g9 | g9 | g9
        all_goals
          simp -implicitDefEqProofs only [↓pgPre,go_sem,seval, kpd, hb, expr_0, g9, expr_4, hA, eExpr_len, expr_take]
          refine callT_of (value_spec12 (hsub a ha false) kp o full 0) (fun v g ⟨hv, hg⟩ => ?_)
          subst v g
          rw [hq]
          try (simp -implicitDefEqProofs only [↓pgPre,go_sem,seval, expr_0, g9, expr_4, hB, eExpr_len, expr_take])
        iterate 2
          · refine callT_of (value_spec12 (hsub b hb' false) (upd_same _ _ _) o full q.1) (fun v g ⟨hv, hg⟩ => ?_)
            subst v g
            simp -implicitDefEqProofs only [↓pgPre,go_sem,seval, upd_upd, upd_ne _ _ _ hne.symm, upd_comm _ _ _ hne]
            simp only [false_and, if_false]
            exact fin hp (kindTyp 2) _ _ rfl
        all_goals
          by_cases hk : q.1 = 2
          · simp -implicitDefEqProofs only [↓pgPre,go_sem,seval, hk]
            refine callT_of (fail_spec12 (upd_same _ _ _) 14) (fun v g ⟨hv, hg⟩ => ?_)
            subst v g
            simp -implicitDefEqProofs only [↓pgPre,go_sem,seval, upd_upd, expr_4, hB, eExpr_len, expr_take, hk]
            refine callT_of (value_spec12 (hsub b hb' false) (upd_same _ _ _) o full 2) (fun v g ⟨hv, hg⟩ => ?_)
            subst v g
            simp -implicitDefEqProofs only [↓pgPre,go_sem,seval, upd_upd, upd_ne _ _ _ hne.symm, upd_comm _ _ _ hne]
            exact fin hp (kindTyp 2) _ _ rfl
          · simp -implicitDefEqProofs only [↓pgPre,go_sem,seval, hk, expr_4, hB, eExpr_len, expr_take]
            refine callT_of (value_spec12 (hsub b hb' false) (upd_same _ _ _) o full q.1) (fun v g ⟨hv, hg⟩ => ?_)
            subst v g
            simp -implicitDefEqProofs only [↓pgPre,go_sem,seval, upd_upd, upd_ne _ _ _ hne.symm, upd_comm _ _ _ hne]
            exact fin hp (kindTyp 2) _ _ rfl
      rw [if_neg g19]
      have g8 : x.op = 8 ∨ x.op = 10 ∨ x.op = 11 ∨ x.op = 12 ∨ x.op = 15 ∨ x.op = 16 := by omega
      rcases g8 with g9 | g9 | g9 | g9 | g9 | g9
      all_goals
          simp -implicitDefEqProofs only [↓pgPre,go_sem,seval, kpd, hb, expr_0, g9]
          refine lT_list x.l (fun pre post e g => (∃ s', rPair env s x.l 1 = rPair env s' post 1 ∧ g = (h.upd p (.blk [.int .i64 0, .int .i64 0, .str ⟨#[]⟩] 3 43)).upd c (lkBlk s')) ∧ e = [(0, .ptr (some ⟨c, 0, none⟩)), (1, .sl (eEnv env) full), (6, .ip (eExpr x) 0), (8, .ptr (some ⟨p, 0, none⟩)), (15, .int .i64 pre.length)]) (WeakE.env ?_) ⟨⟨s, rfl, (upd_self kp).symm⟩, rfl⟩ ?_ ?_
          · skip
            repeat' (first | exact EnvLe.nil _ | refine EnvLe.cons ?_ ?_)
            all_goals (simp -implicitDefEqProofs only [↓pgPre,go_sem,seval]; try first | exact AVle.refl _ | exact AVle.sl _ _ | exact AVle.gs _ _ _ | assumption)
          · rintro pre z post e g hp' ⟨⟨s', hs, rfl⟩, rfl⟩
            simp -implicitDefEqProofs only [↓pgPre,go_sem,seval, expr_4, lt_at hp', aia_sl (map_at hp') (eExpr_len z), eExpr_len, expr_take]
            refine callT_of (value_spec12 (hsub z (mem_at hp') false) (upd_same _ _ _) o full 1) (fun v g ⟨hv, hg⟩ => ?_)
            subst v g
            simp -implicitDefEqProofs only [↓pgPre,go_sem,seval, upd_upd]
            refine ⟨_, _, WeakE.env ?_, ⟨_, ?_, rfl⟩, rfl⟩
            · skip
              repeat' (first | exact EnvLe.nil _ | refine EnvLe.cons ?_ ?_)
              all_goals (simp -implicitDefEqProofs only [↓pgPre,go_sem,seval, step_at (few_small (l := x.l) (by omega)) hp']; try first | exact AVle.refl _ | exact AVle.sl _ _ | exact AVle.gs _ _ _ | assumption)
            · rw [hs]; simp only [rPair]
          · rintro e g ⟨⟨s', hs, rfl⟩, rfl⟩
            simp -implicitDefEqProofs only [↓pgPre,go_sem,seval, expr_4, lt_end]
            refine lessQ.same ?_
            simp -implicitDefEqProofs only [↓pgPre,go_sem,seval, upd_upd, upd_ne _ _ _ hne.symm, upd_comm _ _ _ hne]
            rw [hs]
            simp only [rPair]
            exact fin hp (kindTyp 1) _ _ rfl
    · rw [if_neg hb]
      simp -implicitDefEqProofs only [↓pgPre,go_sem,seval, kpd, hb, upd_upd]
      exact fin0 hp noTyp _ rfl
end Pg
