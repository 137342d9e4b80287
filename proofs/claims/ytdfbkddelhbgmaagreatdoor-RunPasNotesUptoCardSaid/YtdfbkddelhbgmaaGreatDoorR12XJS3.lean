import Derived.Test.YtdfbkddelhbgmaaGreatDoorTreeSS3
import Derived.Test.YtdfbkddelhbgmaaGreatDoorCountS3
import Derived.Test.YtdfbkddelhbgmaaGreatDoorR12aS3
import Derived.Test.YtdfbkddelhbgmaaGreatDoorTreeSpecS3
import Derived.Test.YtdfbkddelhbgmaaGreatDoorCk5JS3
namespace Pg
open Go
set_option linter.all false
set_option maxHeartbeats 1000000
set_option maxRecDepth 4000
end Pg

set_option linter.all false
set_option maxHeartbeats 4000000
set_option maxRecDepth 4000
namespace Pg
open Go Go.Proofs.Tryz
structure gB (env : List Th) : Prop where
 few : env.length ≤ 1000000
 fields : ∀ x ∈ env, Pg.few x.rcd.fields
theorem gB.vC {env : List Th} (o : gB env) : Pg.few env := by have := o.few; unfold Pg.few; omega
theorem gB.found {env : List Th} (o : gB env) (name : ByteArray) : Pg.few (dT env name).rcd.fields := by
 unfold dT
 cases h : env.find? (fun x => decide (x.name = name)) with
 | none => simp [noTh, BE, Pg.few]
 | some x => exact o.fields x (List.mem_of_find?_eq_some h)
abbrev Lks [GI] (f : FuncId) (args : List AV) (h : AHeap) (c : Nat) (v : AV) (s : CS) : Prop := aD prog f (.ptr (some ⟨c, 0, none⟩) :: args) h (fun w g => w = v ∧ g = h.upd c (c9 s))
def CE [GI] (x : Expr) (stmt : Bool) : Prop := ∀ {h : AHeap} {c : Nat} {s : CS}, h c = some (c9 s) → ∀ {env : List Th}, gB env → ∀ full : Bool,
 Lks 85 [.sl (gN env) full, .agg (aO x), .bool stmt] h c (.agg (bV (cQ env s x stmt).1)) (cQ env s x stmt).2
section
variable {h : AHeap} {c : Nat} {s : CS} {env : List Th}
theorem cM [GI] {x : Expr} (hx : CE x false) (hc : h c = some (c9 s)) (o : gB env) (full : Bool) (kind : Int) :
    Lks 84 [.sl (gN env) full, .agg (aO x), .int .i64 kind] h c (.int .i64 (cW kind (cQ env s x false)).1) (cW kind (cQ env s x false)).2 := by
  refine F84.calls (by simp) ?_
  delta F84.c0
  simp only [go_sem,seval]
  refine tcE (hx hc o full) ?_
  simp only [go_sem,seval]
  repeat' (refine cP (fun hg => ?_) (fun hg => ?_) <;> simp only [go_sem,seval, hg, Bool.not_true, Bool.not_false])
  all_goals simp only [Bool.not_true, Bool.not_false, decide_eq_true_eq, decide_eq_false_iff_not] at *
  all_goals first
    | (refine .same ⟨rfl, ?_⟩
       simp only [cW]; rw [if_neg (by omega)])
    | (refine aW (cJ (aA _ _ _) 14) (fun v g ⟨hv, hg⟩ => ?_)
       subst v g
       simp only [go_sem,seval, aB]
       refine .same ⟨rfl, ?_⟩
       simp only [cW]; rw [if_pos (by omega)])
end
theorem qF (n : Nat) (x : Expr) : form (n + 1) x = (decide (x.l.length ≤ 512) && decide (1 ≤ x.op) && decide (x.op ≤ 24) && eV x && gV n x.l) := by
 obtain ⟨op, k, name, field, l⟩ := x; rfl
theorem EB {n : Nat} : ∀ {l : List Expr} {x : Expr}, gV n l = true → x ∈ l → form n x = true
 | y :: r, x, h, hx => by
  simp only [gV, Bool.and_eq_true] at h
  rcases List.mem_cons.1 hx with rfl | hx
  ·exact h.1.2
  ·exact EB h.2 hx
theorem DA (x : Th) : (eTh x)[1]? = some (.int .i64 x.kind) := rfl
theorem AU (x : Th) : (eTh x)[10]? = some (.int .i64 x.r.result) := rfl
theorem AT (x : Th) : (eTh x)[11]? = some (.sl (x.r.params.map c7) false) := rfl
theorem FL (s : CS) {e : Int} (he : e ≠ 0) : (s.fail e).bad ≠ 0 := by
 unfold CS.fail
 split
 ·exact he
 ·assumption
theorem NI (env : List Th) {s : CS} (h : s.bad ≠ 0) (ps : List Param) (l : List Expr) : jP env s ps l = s := by
 cases ps with
 | nil => cases l <;> simp [jP]
 | cons p ps => cases l with
  | nil => simp [jP]
  | cons x l => simp [jP, h]
section
variable {h : AHeap} {c : Nat} {s : CS} {env : List Th}
theorem uJ [GI] (x : Expr) (hl : few x.l) (he : ∀ y ∈ x.l, CE y false) (hc : h c = some (c9 s)) (o : gB env) (full : Bool) (y : Th) (hlen : s.bad = 0 → y.r.params.length = x.l.length) (p8 : AV) {Q : Exit → Env → AHeap → Tok → Prop} {e : Env}
  (g0 : e.get 0 = .ptr (some ⟨c, 0, none⟩)) (g1 : e.get 1 = .sl (gN env) full) (g6 : e.get 6 = .ip (aO x) 0) (g8 : e.get 8 = p8) (g9 : e.get 9 = .ip (eTh y) 0) (g10 : e.get 10 = .int .i64 0)
  (hQ : Q (.exit 0) [(8, p8), (9, .ip (eTh y) 0)] (h.upd c (c9 (jP env s y.r.params x.l))) .go) : lT .go prog 109 E0.c17 Q e h := by
 delta E0.c17
 refine aX x.l (fun pre post e g => (∃ s', jP env s y.r.params x.l = jP env s' (y.r.params.drop pre.length) post ∧ (s'.bad = 0 → y.r.params.length = x.l.length) ∧ g = h.upd c (c9 s')) ∧ e = [(0, .ptr (some ⟨c, 0, none⟩)), (1, .sl (gN env) full), (6, .ip (aO x) 0), (8, p8), (9, .ip (eTh y) 0), (10, .int .i64 pre.length)]) (aF.env ?_) ⟨⟨s, by simp, hlen, (dQ hc).symm⟩, rfl⟩ ?_ ?_
 ·simp only [go_sem,seval, g0, g1, g6, g8, g9, g10]
 ·rintro pre z post e g hp ⟨⟨s', hs, hln, rfl⟩, rfl⟩
  have kc : (h.upd c (c9 s')) c = some (.blk [.int .i64 s'.item, .int .i64 s'.bad] 2 92) := aA _ _ _
  have kc' : (h.upd c (c9 s')) c = some (c9 s') := aA _ _ _
  by_cases hb : s'.bad = 0
  ·have hi : pre.length < y.r.params.length := by rw [hln hb]; exact (gE hp).2
   have hx : y.r.params.drop pre.length = y.r.params[pre.length] :: y.r.params.drop (pre.length + 1) := List.drop_eq_getElem_cons hi
   have hxm : (y.r.params.map c7)[pre.length]? = some (c7 y.r.params[pre.length]) := by simp [hi]
   generalize y.r.params[pre.length] = q at hx hxm
   have p4 : (c7 q)[4]? = some (.int .i64 q.mode) := rfl
   have p1 : (c7 q)[1]? = some (.int .i64 q.t.kind) := rfl
   have pt : ((c7 q).drop 1).take 3 = bV q.t := rfl
   by_cases hm : q.mode = 0
   ·simp only [go_sem,seval, bI hp, ↓kc, hb, AT, aI hxm (bP q), aI (aK hp) (aR z), bP, List.take_of_length_le, p4, hm, p1]
    refine tcE (cM (he z (bJ hp)) kc' o full q.t.kind) ?_
    simp only [go_sem,seval, aB]
    refine ⟨_, _, aF.env ?_, ⟨_, ?_, ?_, rfl⟩, rfl⟩
    ·simp only [go_sem,seval, aQ hl hp]
    ·rw [hs, hx]
     simp [jP, hb, hm]
    ·intro _; exact hln hb
   ·simp only [go_sem,seval, bI hp, ↓kc, hb, AT, aI hxm (bP q), aI (aK hp) (aR z), bP, List.take_of_length_le, p4, hm, p1]
    have mid : ∀ (s2 : CS), s2 = (if z.op < 4 ∨ 6 < z.op then s'.fail 14 else s') → jP env s' (q :: y.r.params.drop (pre.length + 1)) (z :: post) = jP env (if (cQ env s2 z false).1 = q.t then (cQ env s2 z false).2 else (cQ env s2 z false).2.fail 14) (y.r.params.drop (pre.length + 1)) post := by
     rintro s2 rfl
     simp only [jP, hb, hm, if_true, if_false]
    repeat' (refine cP (fun hg => ?_) (fun hg => ?_) <;> simp only [go_sem,seval, hg, Bool.not_true, Bool.not_false, aI (aK hp) (aR z)])
    all_goals try
     refine tcE (cJ kc' 14) ?_
     simp only [go_sem,seval, aB, aI (aK hp) (aR z)]
    all_goals
     first
     | (refine aW (he z (bJ hp) (s := s'.fail 14) (aA _ _ _) o full) (fun v g ⟨hv, hg⟩ => ?_); subst v g)
     | (refine aW (he z (bJ hp) (s := s') kc' o full) (fun v g ⟨hv, hg⟩ => ?_); subst v g)
    all_goals
     simp only [go_sem,seval, aB, pt, O5]
     repeat' (refine cP (fun hg => ?_) (fun hg => ?_) <;> simp only [go_sem,seval, hg, Bool.not_true, Bool.not_false])
    all_goals try
     refine tcE (cJ (aA _ _ _) 14) ?_
     simp only [go_sem,seval, aB]
    all_goals
     refine ⟨_, _, aF.env ?_, ⟨_, ?_, fun _ => hln hb, rfl⟩, rfl⟩
     ·simp only [go_sem,seval, aQ hl hp]
     ·rw [hs, hx, mid _ rfl]
      simp only [Bool.not_true, Bool.not_false, decide_eq_true_eq, decide_eq_false_iff_not] at *
      first
      | rw [if_pos (show z.op < 4 ∨ 6 < z.op by omega)]
      | rw [if_neg (show ¬ (z.op < 4 ∨ 6 < z.op) by omega)]
      simp [hg]
  ·simp only [go_sem,seval, bI hp, ↓kc, hb]
   refine aM.to (.env ?_) (by rw [hs, NI env hb] at hQ; exact hQ)
   simp only [go_sem,seval]
 ·rintro e g ⟨⟨s', hs, hln, rfl⟩, rfl⟩
  have kc : (h.upd c (c9 s')) c = some (.blk [.int .i64 s'.item, .int .i64 s'.bad] 2 92) := aA _ _ _
  have hr : jP env s' (y.r.params.drop x.l.length) [] = s' := by cases y.r.params.drop x.l.length <;> simp [jP]
  simp only [go_sem,seval, bE]
  rw [hs, hr] at hQ
  refine aM.to (.env ?_) hQ
  simp only [go_sem,seval]
theorem UZ [GI] (x : Expr) (hop : x.op = 7) (hb : s.bad = 0) (hl : few x.l) (he : ∀ y ∈ x.l, CE y false) (hc : h c = some (c9 s)) (o : gB env) (full : Bool) (stmt : Bool) :
  Lks 136 [.sl (gN env) full, .agg (aO x), .bool stmt] h c (.agg (bV (cQ env s x stmt).1)) (cQ env s x stmt).2 := by
 rw [xG]
 simp only [hb, hop, if_true, Int.reduceEq, if_false, or_self]
 refine E0.calls (by simp) ?_
 delta E0.c0
 simp only [go_sem,seval]
 refine aS fun p hp => ?_
 have hne := FF hp hc
 have kp : (h.upd p (.blk [.int .i64 0, .int .i64 0, .str ⟨#[]⟩] 3 51)) c = some (c9 s) := by rw [aC _ _ _ hne]; exact hc
 simp only [go_sem,seval]
 refine tcE (lO _ env o.vC full x.name) ?_
 generalize dT env x.name = y
 have fin : ∀ (t : Typ) (s' : CS) (r : Typ × CS), r = (t, s') → eE (fun v g => v = .agg (bV r.1) ∧ g = h.upd c (c9 r.2)) (.agg [.int .i64 t.kind, .int .i64 t.size, .str t.name]) ((h.upd p (.blk [.int .i64 t.kind, .int .i64 t.size, .str t.name] 3 51)).upd c (c9 s')) := by
  intro t s' r e
  rw [e]
  exact .forget (oH (r9 hp) _ _) ⟨rfl, rfl⟩
 by_cases hk : y.kind = 2
 ·by_cases hst : decide (0 < y.r.result) = stmt
  ·have hst' : decide (y.r.result > 0) = stmt := hst
   simp only [go_sem,seval, DA, AU, AT, hk, hst', jF, oK]
   refine tcE (cJ kp 14) ?_
   by_cases hln : y.r.params.length = x.l.length
   ·simp only [go_sem,seval, AT, hln]
    refine uJ x hl he (aA _ _ _) o full y (fun _ => hln) (.ptr (some ⟨p, 0, none⟩)) ?_ ?_ ?_ ?_ ?_ ?_ ?_
    iterate 6 (simp only [go_sem,seval])
    simp only [go_sem,seval, AU, aC _ _ _ hne.symm, bH _ _ _ hne, aB]
    exact fin (bC y.r.result) _ _ rfl
   ·simp only [go_sem,seval, AT, show ((y.r.params.length : Int) = x.l.length) = False by simp; omega]
    refine tcE (cJ (aA _ _ _) 15) ?_
    simp only [go_sem,seval]
    refine uJ x hl he (s := (s.fail 14).fail 15) (by rw [aB]; exact aA _ _ _) o full y (fun hh => absurd hh (FL _ (by decide))) (.ptr (some ⟨p, 0, none⟩)) ?_ ?_ ?_ ?_ ?_ ?_ ?_
    iterate 6 (simp only [go_sem,seval])
    simp only [go_sem,seval, AU, aC _ _ _ hne.symm, bH _ _ _ hne, aB]
    simp only [if_neg hln]
    exact fin (bC y.r.result) _ _ rfl
  ·have hst' : (decide (y.r.result > 0) = stmt) = False := by simpa using hst
   by_cases hln : y.r.params.length = x.l.length
   ·simp only [go_sem,seval, DA, AU, AT, hk, hst', jF, oK, hln]
    refine uJ x hl he kp o full y (fun _ => hln) (.ptr (some ⟨p, 0, none⟩)) ?_ ?_ ?_ ?_ ?_ ?_ ?_
    iterate 6 (simp only [go_sem,seval])
    simp only [go_sem,seval, AU, aC _ _ _ hne.symm, bH _ _ _ hne, aB]
    exact fin (bC y.r.result) _ _ rfl
   ·simp only [go_sem,seval, DA, AU, AT, hk, hst', jF, oK, show ((y.r.params.length : Int) = x.l.length) = False by simp; omega]
    refine tcE (cJ kp 15) ?_
    simp only [go_sem,seval]
    refine uJ x hl he (s := s.fail 15) (aA _ _ _) o full y (fun hh => absurd hh (FL _ (by decide))) (.ptr (some ⟨p, 0, none⟩)) ?_ ?_ ?_ ?_ ?_ ?_ ?_
    iterate 6 (simp only [go_sem,seval])
    simp only [go_sem,seval, AU, aC _ _ _ hne.symm, bH _ _ _ hne, aB]
    simp only [if_neg hln]
    exact fin (bC y.r.result) _ _ rfl
 ·simp only [go_sem,seval, DA, hk, jF, oK]
  refine tcE (cJ kp 13) ?_
  simp only [go_sem,seval, aC _ _ _ hne.symm, bH _ _ _ hne, aB]
  exact fin noTyp _ _ (by first | rfl | simp [hk])
end
theorem yH {x : Expr} (h : eV x = true) : (x.l.length : Int) = if x.op = 7 then (x.l.length : Int) else if x.op = 5 ∨ x.op = 8 ∨ x.op = 9 then 1 else if 10 ≤ x.op then 2 else 0 := by
 unfold eV at h
 simp only [Bool.and_eq_true, decide_eq_true_eq] at h
 exact h.2
theorem I2 (a b d : AV) (t : Typ) : bM [a, b, d] 0 (bV t) = bV t := rfl
theorem aEN (x : Th) : ((eTh x).drop 2).take 5 = eB x.rcd := rfl
theorem HB [GI] : ∀ (n : Nat) (x : Expr), form n x = true → ∀ stmt : Bool, CE x stmt := by
 intro n
 induction n with
 | zero => intro x hx; simp [form] at hx
 | succ n ih =>
  intro x hx stmt h c s hc env o full
  rw [qF] at hx
  simp only [Bool.and_eq_true, decide_eq_true_eq] at hx
  obtain ⟨⟨⟨⟨h1, h2⟩, h3⟩, h4⟩, h5⟩ := hx
  have hsub : ∀ y ∈ x.l, ∀ b, CE y b := fun y hy b => ih y (EB h5 hy) b
  have hcd : h c = some (.blk [.int .i64 s.item, .int .i64 s.bad] 2 92) := hc
  have fin : ∀ {p : Nat}, h p = none → ∀ (t : Typ) (s' : CS) (r : Typ × CS), r = (t, s') → eE (fun v g => v = .agg (bV r.1) ∧ g = h.upd c (c9 r.2)) (.agg (bV t)) ((h.upd p (.blk (bV t) 3 51)).upd c (c9 s')) := by
   intro p hp t s' r e
   rw [e]
   exact .forget (oH (r9 hp) _ _) ⟨rfl, rfl⟩
  have fin0 : ∀ {p : Nat}, h p = none → ∀ (t : Typ) (r : Typ × CS), r = (t, s) → eE (fun v g => v = .agg (bV r.1) ∧ g = h.upd c (c9 r.2)) (.agg (bV t)) (h.upd p (.blk (bV t) 3 51)) := by
   intro p hp t r e
   rw [e]
   exact .forget (r9 hp) ⟨rfl, by rw [dQ hc]⟩
  have hlen := yH h4
  rw [xG]
  refine F85.calls (by simp) ?_
  delta F85.c0
  simp only [go_sem,seval]
  refine aS fun p hp => ?_
  have hne := FF hp hc
  have kp : (h.upd p (.blk [.int .i64 0, .int .i64 0, .str ⟨#[]⟩] 3 51)) c = some (c9 s) := by rw [aC _ _ _ hne]; exact hc
  have kpd : (h.upd p (.blk [.int .i64 0, .int .i64 0, .str ⟨#[]⟩] 3 51)) c = some (.blk [.int .i64 s.item, .int .i64 s.bad] 2 92) := kp
  by_cases hb : s.bad = 0
  ·rw [if_pos hb]
   by_cases g1 : x.op = 1 ∨ x.op = 2 ∨ x.op = 3
   ·rw [if_pos g1]
    rcases g1 with g1 | g1 | g1
    all_goals
     simp only [go_sem,seval, kpd, hb, dL, g1, aB]
     exact fin0 hp (bC _) _ rfl
   rw [if_neg g1]
   by_cases g4 : x.op = 4
   ·rw [if_pos g4]
    simp only [go_sem,seval, kpd, hb, dL, xR, g4]
    refine tcE (pF kp env o.vC full x.name) ?_
    simp only [go_sem,seval, b9, aC _ _ _ hne.symm, bH _ _ _ hne, aB, I2, cE]
    exact fin hp _ _ _ rfl
   rw [if_neg g4]
   by_cases g5 : x.op = 5
   ·rw [if_pos g5]
    have hl1 : x.l.length = 1 := by simp [g5] at hlen; omega
    obtain ⟨y, hy⟩ := List.length_eq_one_iff.1 hl1
    have hym : y ∈ x.l := by rw [hy]; simp
    have hA : aia 5 (.sl (x.l.map aO) false) (.int .i64 0) = some (.ip (aO y) 0) := aI (i := 0) (by rw [hy]; rfl) (aR y)
    have hH : ∀ s', eZ env s' x.l 1 = (cW 1 (cQ env s' y false)).2 := by intro s'; rw [hy]; simp only [eZ]
    simp only [go_sem,seval, kpd, hb, dL, xR, g5]
    refine tcE (pF kp env o.vC full x.name) ?_
    generalize cZ env s x.name = q
    by_cases hz : q.1.size = 0
    ·simp only [go_sem,seval, b9, cE, AM, dW, hz]
     refine tcE (cJ (aA _ _ _) 14) ?_
     simp only [go_sem,seval, aB, hO, hA, aR, bO]
     refine tcE (cM (hsub y hym false) (aA _ _ _) o full 1) ?_
     simp only [go_sem,seval, aB, aC _ _ _ hne.symm, bH _ _ _ hne, dW]
     simp only [hH]
     exact fin hp (bC q.1.kind) _ _ rfl
    ·simp only [go_sem,seval, b9, cE, AM, dW, hz, hO, hA, aR, bO]
     refine tcE (cM (hsub y hym false) (aA _ _ _) o full 1) ?_
     simp only [go_sem,seval, aB, aC _ _ _ hne.symm, bH _ _ _ hne, dW]
     simp only [hH]
     exact fin hp (bC q.1.kind) _ _ rfl
   rw [if_neg g5]
   by_cases g6 : x.op = 6
   ·rw [if_pos g6]
    simp only [go_sem,seval, kpd, hb, dL, xR, g6]
    refine tcE (pF kp env o.vC full x.name) ?_
    generalize cZ env s x.name = q
    by_cases hz : q.1.kind = 4
    ·simp only [go_sem,seval, b9, cE, fU, dW, hz]
     refine tcE (lO _ env o.vC full q.1.name) ?_
     have hff := o.found q.1.name
     generalize hw : dT env q.1.name = w at hff
     simp only [go_sem,seval, jF, aEN, dG, A5]
     generalize hB : AHeap.upd (AHeap.upd h p _) c _ = B
     have hBp : B p = some (.blk [.int .i64 0, .int .i64 0, .str ⟨#[]⟩] 3 51) := by rw [← hB, aC _ _ _ hne.symm, aA]
     refine aX w.rcd.fields (fun pre post e g => w.rcd.fields.find? (fun f => decide (f.name = x.field)) = post.find? (fun f => decide (f.name = x.field)) ∧ g = B ∧ e = [(0, .ptr (some ⟨c, 0, none⟩)), (6, .ip (aO x) 0), (8, .ptr (some ⟨p, 0, none⟩)), (11, .ip (eB w.rcd) 0), (12, .int .i64 pre.length)]) (aF.env ?_) ⟨rfl, rfl, rfl⟩ ?_ ?_
     ·simp only [go_sem,seval]
     ·rintro pre f post e g hp' ⟨hk, rfl, rfl⟩
      by_cases he : f.name = x.field
      ·simp only [go_sem,seval, rec_3, bI hp', aI (aK hp') (eC f), KI, KH, EH, he, hBp]
       refine aM.same ?_
       rw [← hB]
       simp only [go_sem,seval, aC _ _ _ hne.symm, bH _ _ _ hne, aB]
       refine fin hp (bC f.kind) _ _ ?_
       simp [qO, hz, hw, hk, he]
      ·simp only [go_sem,seval, rec_3, bI hp', aI (aK hp') (eC f), KI, KH, EH, he]
       refine ⟨_, _, aF.env ?_, ?_, rfl, rfl⟩
       ·simp only [go_sem,seval, aQ hff hp']
       ·rw [hk]; simp [he]
     ·rintro e g ⟨hk, rfl, rfl⟩
      simp only [go_sem,seval, rec_3, bE]
      refine aM.same ?_
      rw [← hB]
      simp only [go_sem,seval]
      refine tcE (cJ (s := q.2) (aA _ _ _) 13) ?_
      simp only [go_sem,seval, aB, aC _ _ _ hne.symm, bH _ _ _ hne]
      refine fin hp noTyp _ _ ?_
      simp [qO, hz, hw, hk]
    ·simp only [go_sem,seval, b9, cE, fU, dW, hz]
     refine tcE (cJ (aA _ _ _) 14) ?_
     simp only [go_sem,seval, aB, aC _ _ _ hne.symm, bH _ _ _ hne]
     exact fin hp noTyp _ _ (by simp [qO, hz])
   rw [if_neg g6]
   by_cases g7 : x.op = 7
   ·rw [if_pos g7]
    simp only [go_sem,seval, kpd, hb, dL, g7, aR, bO]
    refine tcE (UZ x g7 hb (cX (by omega)) (fun y hy => hsub y hy false) kp o full stmt) ?_
    simp only [go_sem,seval, b9, aC _ _ _ hne.symm, bH _ _ _ hne, aB, I2, cE]
    refine fin hp _ _ _ ?_
    rw [xG]; simp [hb, g7]
   rw [if_neg g7]
   by_cases g9 : x.op = 9 ∨ x.op = 13 ∨ x.op = 14 ∨ x.op = 17 ∨ x.op = 18
   ·rw [if_pos g9]
    rcases g9 with g9 | g9 | g9 | g9 | g9
    all_goals
     simp only [go_sem,seval, kpd, hb, dL, g9]
     refine aX x.l (fun pre post e g => (∃ s', nM env s x.l 2 = nM env s' post 2 ∧ g = (h.upd p (.blk [.int .i64 0, .int .i64 0, .str ⟨#[]⟩] 3 51)).upd c (c9 s')) ∧ e = [(0, .ptr (some ⟨c, 0, none⟩)), (1, .sl (gN env) full), (6, .ip (aO x) 0), (8, .ptr (some ⟨p, 0, none⟩)), (13, .int .i64 pre.length)]) (aF.env ?_) ⟨⟨s, rfl, (dQ kp).symm⟩, rfl⟩ ?_ ?_
     ·simp only [go_sem,seval]
     ·rintro pre z post e g hp' ⟨⟨s', hs, rfl⟩, rfl⟩
      simp only [go_sem,seval, hO, bI hp', aI (aK hp') (aR z), aR, bO]
      refine tcE (cM (hsub z (bJ hp') false) (aA _ _ _) o full 2) ?_
      simp only [go_sem,seval, aB]
      refine ⟨_, _, aF.env ?_, ⟨_, ?_, rfl⟩, rfl⟩
      ·simp only [go_sem,seval, aQ (cX (l := x.l) (by omega)) hp']
      ·rw [hs]; simp only [nM]
     ·rintro e g ⟨⟨s', hs, rfl⟩, rfl⟩
      simp only [go_sem,seval, hO, bE]
      refine aM.same ?_
      simp only [go_sem,seval, aB, aC _ _ _ hne.symm, bH _ _ _ hne]
      rw [hs]
      simp only [nM]
      exact fin hp (bC 2) _ _ rfl
   rw [if_neg g9]
   by_cases g19 : 19 ≤ x.op ∧ x.op ≤ 24
   ·rw [if_pos g19]
    have hl2 : x.l.length = 2 := by
     rw [if_neg g7, if_neg (by omega), if_pos (by omega)] at hlen; omega
    obtain ⟨a, b, hab⟩ : ∃ a b, x.l = [a, b] := by
     match hm : x.l, hl2 with
     | [a, b], _ => exact ⟨a, b, rfl⟩
    have hA : aia 5 (.sl (x.l.map aO) false) (.int .i64 0) = some (.ip (aO a) 0) := aI (i := 0) (by rw [hab]; rfl) (aR a)
    have hB : aia 5 (.sl (x.l.map aO) false) (.int .i64 1) = some (.ip (aO b) 0) := aI (i := 1) (by rw [hab]; rfl) (aR b)
    have ha : a ∈ x.l := by rw [hab]; simp
    have hb' : b ∈ x.l := by rw [hab]; simp
    have hT : L0 env s (decide (20 < x.op)) x.l = (cW (cW 0 (cQ env s a false)).1 (cQ env (if 20 < x.op ∧ (cW 0 (cQ env s a false)).1 = 2 then (cW 0 (cQ env s a false)).2.fail 14 else (cW 0 (cQ env s a false)).2) b false)).2 := by
     rw [hab]; simp only [L0, eZ, decide_eq_true_eq]
    rw [hT]
    generalize hq : cW 0 (cQ env s a false) = q
    have g19' : x.op = 19 ∨ x.op = 20 ∨ x.op = 21 ∨ x.op = 22 ∨ x.op = 23 ∨ x.op = 24 := by omega
    rcases g19' with g9 | g9 | g9 | g9 | g9 | g9
    all_goals
     simp only [go_sem,seval, kpd, hb, dL, g9, hO, hA, aR, bO]
     refine tcE (cM (hsub a ha false) kp o full 0) ?_
     rw [hq]
     try (simp only [go_sem,seval, dL, g9, hO, hB, aR, bO])
    iterate 2
     ·refine tcE (cM (hsub b hb' false) (aA _ _ _) o full q.1) ?_
      simp only [go_sem,seval, aB, aC _ _ _ hne.symm, bH _ _ _ hne]
      simp only [false_and, if_false]
      exact fin hp (bC 2) _ _ rfl
    all_goals
     by_cases hk : q.1 = 2
     ·simp only [go_sem,seval, hk]
      refine tcE (cJ (aA _ _ _) 14) ?_
      simp only [go_sem,seval, aB, hO, hB, aR, bO, hk]
      refine tcE (cM (hsub b hb' false) (aA _ _ _) o full 2) ?_
      simp only [go_sem,seval, aB, aC _ _ _ hne.symm, bH _ _ _ hne]
      exact fin hp (bC 2) _ _ rfl
     ·simp only [go_sem,seval, hk, hO, hB, aR, bO]
      refine tcE (cM (hsub b hb' false) (aA _ _ _) o full q.1) ?_
      simp only [go_sem,seval, aB, aC _ _ _ hne.symm, bH _ _ _ hne]
      exact fin hp (bC 2) _ _ rfl
   rw [if_neg g19]
   have g8 : x.op = 8 ∨ x.op = 10 ∨ x.op = 11 ∨ x.op = 12 ∨ x.op = 15 ∨ x.op = 16 := by omega
   rcases g8 with g9 | g9 | g9 | g9 | g9 | g9
   all_goals
     simp only [go_sem,seval, kpd, hb, dL, g9]
     refine aX x.l (fun pre post e g => (∃ s', nM env s x.l 1 = nM env s' post 1 ∧ g = (h.upd p (.blk [.int .i64 0, .int .i64 0, .str ⟨#[]⟩] 3 51)).upd c (c9 s')) ∧ e = [(0, .ptr (some ⟨c, 0, none⟩)), (1, .sl (gN env) full), (6, .ip (aO x) 0), (8, .ptr (some ⟨p, 0, none⟩)), (15, .int .i64 pre.length)]) (aF.env ?_) ⟨⟨s, rfl, (dQ kp).symm⟩, rfl⟩ ?_ ?_
     ·simp only [go_sem,seval]
     ·rintro pre z post e g hp' ⟨⟨s', hs, rfl⟩, rfl⟩
      simp only [go_sem,seval, hO, bI hp', aI (aK hp') (aR z), aR, bO]
      refine tcE (cM (hsub z (bJ hp') false) (aA _ _ _) o full 1) ?_
      simp only [go_sem,seval, aB]
      refine ⟨_, _, aF.env ?_, ⟨_, ?_, rfl⟩, rfl⟩
      ·simp only [go_sem,seval, aQ (cX (l := x.l) (by omega)) hp']
      ·rw [hs]; simp only [nM]
     ·rintro e g ⟨⟨s', hs, rfl⟩, rfl⟩
      simp only [go_sem,seval, hO, bE]
      refine aM.same ?_
      simp only [go_sem,seval, aB, aC _ _ _ hne.symm, bH _ _ _ hne]
      rw [hs]
      simp only [nM]
      exact fin hp (bC 1) _ _ rfl
  ·rw [if_neg hb]
   simp only [go_sem,seval, kpd, hb, aB]
   exact fin0 hp noTyp _ rfl
end Pg
namespace Pg
open Go Go.Proofs.Tryz
theorem vQ {x : Expr} (h : nK x = true) : form 48 x = true := by
 unfold nK at h
 simp only [Bool.and_eq_true] at h
 exact h.1
theorem oA (x : Stmt) (d : Int) : nJ x d = (decide (d ≤ 48) && fB x && (dA x.body (d + 1) && decide (x.body.length ≤ 512)) && (dA x.els (d + 1) && decide (x.els.length ≤ 512))) := by
 obtain ⟨before, aP, op, name, p, e, down, more, body, els, cO, cT⟩ := x; rfl
theorem JG {d : Int} : ∀ {l : List Stmt} {x : Stmt}, dA l d = true → x ∈ l → nJ x d = true
 | y :: r, x, h, hx => by
  simp only [dA, Bool.and_eq_true] at h
  rcases List.mem_cons.1 hx with rfl | hx
  ·exact h.1
  ·exact JG h.2 hx
structure SOk [GI] (x : Stmt) : Prop where
 op1 : 1 ≤ x.op
 op9 : x.op ≤ 9
 lo : (if x.op = 6 then 2 else if x.op = 7 then 0 else if x.op = 9 then 0 else 1) ≤ x.e.length
 hi : x.e.length ≤ if x.op = 6 then 2 else if x.op = 7 then 0 else 1
 e : ∀ y ∈ x.e, ∀ b, CE y b
 p : x.op = 1 ∨ x.op = 7 → ∀ b, CE x.p b
theorem aAn [GI] {x : Stmt} (h : fB x = true) : SOk x := by
 unfold fB wZ lW iR at h
 simp only [Bool.and_eq_true, decide_eq_true_eq, List.all_eq_true] at h
 obtain ⟨⟨⟨⟨⟨⟨⟨⟨_, h1⟩, h2⟩, h3, h4⟩, h5⟩, h6⟩, _⟩, _⟩, _⟩ := h
 refine ⟨h1, h2, h3, h4, fun y hy b => ?_, fun hh b => ?_⟩
 ·have := h5 y hy
  unfold fV at this
  simp only [Bool.and_eq_true] at this
  intro h c s hc env o full
  exact HB _ y (vQ this.1) b hc o full
 ·rw [if_pos hh] at h6
  unfold j6 at h6
  simp only [Bool.and_eq_true] at h6
  intro h c s hc env o full
  exact HB _ _ (vQ h6.2) b hc o full
theorem qC (env : List Th) {s : CS} (h : s.bad ≠ 0) (res : Int) (l : List Stmt) : iI env s res l = s := by
 cases l with
 | nil => rfl
 | cons x l => simp [iI, h]
theorem DK [GI] (res : Int) : ∀ (n : Nat) (l : List Stmt) (d : Int), aZ.sz l ≤ n → dA l d = true → l.length ≤ 512 → ∀ {h : AHeap} {c : Nat} {s : CS} {env : List Th}, h c = some (c9 s) → gB env → ∀ full f2 : Bool,
  Lks 36 [.sl (gN env) full, .int .i64 res, .sl (l.map bA) f2] h c (.tuple []) (iI env s res l) := by
 intro n
 induction n with
 | zero =>
  intro l d hn ht hl h c s env hc o full f2
  cases l with
  | cons x r => simp [aZ.sz] at hn
  | nil =>
   refine F36.calls (by simp) ?_
   delta F36.c0
   simp only [go_sem,seval]
   refine gR ?_
   simp only [go_sem,seval]
   exact .same ⟨rfl, (dQ hc).symm⟩
 | succ n ih =>
  intro l d hn ht hl h c s env hc o full f2
  refine F36.calls (by simp) ?_
  delta F36.c0
  simp only [go_sem,seval]
  refine aX l (fun pre post e g => (∃ s', iI env s res l = iI env s' res post ∧ g = h.upd c (c9 s')) ∧ e = [(0, .ptr (some ⟨c, 0, none⟩)), (1, .sl (gN env) full), (2, .int .i64 res), (3, .sl (l.map bA) f2), (8, .int .i64 pre.length)]) (aF.env ?_) ⟨⟨s, rfl, (dQ hc).symm⟩, rfl⟩ ?_ ?_
  ·simp only [go_sem,seval]
  ·rintro pre x post e g hp ⟨⟨s', hs, rfl⟩, rfl⟩
   have hx := bJ hp
   have hxz := aZ.dU hx
   have hz := Stmt.cY x
   have ht' := JG ht hx
   rw [oA] at ht'
   simp only [Bool.and_eq_true, decide_eq_true_eq] at ht'
   obtain ⟨⟨⟨hd, hso⟩, htb, hlb⟩, hte, hle⟩ := ht'
   have so := aAn hso
   by_cases hb : s'.bad = 0
   ·simp only [go_sem,seval, bI hp]
    refine tcE (qQ (s := s') (aA _ _ _)) ?_
    simp only [go_sem,seval, hb, aB, aI (aK hp) (c6 x), c6, j7]
    have lo := so.lo
    have hi := so.hi
    have one : x.op ≠ 6 → x.op ≠ 7 → x.op ≠ 9 → ∃ a, x.e = [a] := fun h6 h7 h9 => by
     rw [if_neg h6, if_neg h7, if_neg h9] at lo
     rw [if_neg h6, if_neg h7] at hi
     exact List.length_eq_one_iff.1 (by omega)
    have hsp : iI env s' res (x :: post) = iI env (YI env s'.step res x) res post := by simp only [iI, hb, if_true]
    have hP : ((bA x).drop 4).take 5 = aO x.p := by rw [dO, cF]; rfl
    have gap : x.op = 1 ∨ x.op = 2 ∨ x.op = 3 ∨ x.op = 4 ∨ x.op = 5 ∨ x.op = 6 ∨ x.op = 7 ∨ x.op = 8 ∨ x.op = 9 := by have := so.op1; have := so.op9; omega
    have hA : ∀ a, x.e = [a] → aia 5 (.sl (x.e.map aO) false) (.int .i64 0) = some (.ip (aO a) 0) := fun a ha => aI (i := 0) (by rw [ha]; rfl) (aR a)
    rcases gap with g | g | g | g | g | g | g | g | g
    ·obtain ⟨a, ha⟩ := one (by omega) (by omega) (by omega)
     have hX : iL env s'.step res x = (cW (cW 0 (cQ env s'.step x.p false)).1 (cQ env (cW 0 (cQ env s'.step x.p false)).2 a false)).2 := by simp [iL, g, ha, eZ]
     simp only [go_sem,seval, gP, g, hP]
     refine tcE (cM (so.p (.inl g) false) (aA _ _ _) o full 0) ?_
     simp only [go_sem,seval, aB, fC, hA a ha, aR, bO]
     refine tcE (cM (so.e a (by rw [ha]; simp) false) (aA _ _ _) o full _) ?_
     rw [← hX]
     simp only [go_sem,seval, aB, gH]
     refine tcE (ih x.body (d + 1) (by omega) htb hlb (aA _ _ _) o full false) ?_
     simp only [go_sem,seval, aB, jD]
     refine tcE (ih x.els (d + 1) (by omega) hte hle (aA _ _ _) o full false) ?_
     simp only [go_sem,seval, aB]
     refine ⟨_, _, aF.env ?_, ⟨_, ?_, rfl⟩, rfl⟩
     ·simp only [go_sem,seval, aQ (cX (l := l) (by omega)) hp]
     ·rw [hs, hsp, iT]
    ·obtain ⟨a, ha⟩ := one (by omega) (by omega) (by omega)
     have hX : iL env s'.step res x = (cQ env s'.step a true).2 := by simp [iL, g, ha, YJ]
     simp only [go_sem,seval, gP, g, fC, hA a ha, aR, bO]
     refine tcE (so.e a (by rw [ha]; simp) true (aA _ _ _) o full) ?_
     rw [← hX]
     simp only [go_sem,seval, aB, gH]
     refine tcE (ih x.body (d + 1) (by omega) htb hlb (aA _ _ _) o full false) ?_
     simp only [go_sem,seval, aB, jD]
     refine tcE (ih x.els (d + 1) (by omega) hte hle (aA _ _ _) o full false) ?_
     simp only [go_sem,seval, aB]
     refine ⟨_, _, aF.env ?_, ⟨_, ?_, rfl⟩, rfl⟩
     ·simp only [go_sem,seval, aQ (cX (l := l) (by omega)) hp]
     ·rw [hs, hsp, iT]
    iterate 3
     ·obtain ⟨a, ha⟩ := one (by omega) (by omega) (by omega)
      have hX : iL env s'.step res x = (cW 2 (cQ env s'.step a false)).2 := by simp [iL, g, ha, eZ]
      simp only [go_sem,seval, gP, g, fC, hA a ha, aR, bO]
      refine tcE (cM (so.e a (by rw [ha]; simp) false) (aA _ _ _) o full 2) ?_
      rw [← hX]
      simp only [go_sem,seval, aB, gH]
      refine tcE (ih x.body (d + 1) (by omega) htb hlb (aA _ _ _) o full false) ?_
      simp only [go_sem,seval, aB, jD]
      refine tcE (ih x.els (d + 1) (by omega) hte hle (aA _ _ _) o full false) ?_
      simp only [go_sem,seval, aB]
      refine ⟨_, _, aF.env ?_, ⟨_, ?_, rfl⟩, rfl⟩
      ·simp only [go_sem,seval, aQ (cX (l := l) (by omega)) hp]
      ·rw [hs, hsp, iT]
    ·obtain ⟨a, b, hab⟩ : ∃ a b, x.e = [a, b] := by
      rw [if_pos g] at lo hi
      have hl2 : x.e.length = 2 := by omega
      match hm : x.e, hl2 with
      | [a, b], _ => exact ⟨a, b, rfl⟩
     have hA6 : aia 5 (.sl (x.e.map aO) false) (.int .i64 0) = some (.ip (aO a) 0) := aI (i := 0) (by rw [hab]; rfl) (aR a)
     have hB6 : aia 5 (.sl (x.e.map aO) false) (.int .i64 1) = some (.ip (aO b) 0) := aI (i := 1) (by rw [hab]; rfl) (aR b)
     have hX : ∀ s2, (if (cZ env s'.step x.name).1.kind ≠ 1 ∨ (cZ env s'.step x.name).1.size ≠ 0 then (cZ env s'.step x.name).2.fail 14 else (cZ env s'.step x.name).2) = s2 → iL env s'.step res x = (cW 1 (cQ env (cW 1 (cQ env s2 a false)).2 b false)).2 := by rintro s2 rfl; simp [iL, g, hab, eZ]
     simp only [go_sem,seval, gP, g, JI]
     refine tcE (pF (aA _ _ _) env o.vC full x.name) ?_
     generalize cZ env s'.step x.name = q at hX
     by_cases hk : q.1.kind = 1
     ·by_cases hz' : q.1.size = 0
      ·have hX := hX q.2 (by simp [hk, hz'])
       simp only [go_sem,seval, b9, cE, dW, AM, hk, hz', aB, fC, hA6, aR, bO]
       refine tcE (cM (so.e a (by rw [hab]; simp) false) (aA _ _ _) o full 1) ?_
       simp only [go_sem,seval, aB, fC, hB6, aR, bO]
       refine tcE (cM (so.e b (by rw [hab]; simp) false) (aA _ _ _) o full 1) ?_
       rw [← hX]
       simp only [go_sem,seval, aB, gH]
       refine tcE (ih x.body (d + 1) (by omega) htb hlb (aA _ _ _) o full false) ?_
       simp only [go_sem,seval, aB, jD]
       refine tcE (ih x.els (d + 1) (by omega) hte hle (aA _ _ _) o full false) ?_
       simp only [go_sem,seval, aB]
       refine ⟨_, _, aF.env ?_, ⟨_, ?_, rfl⟩, rfl⟩
       ·simp only [go_sem,seval, aQ (cX (l := l) (by omega)) hp]
       ·rw [hs, hsp, iT]
      ·have hX := hX (q.2.fail 14) (by simp [hk, hz'])
       simp only [go_sem,seval, b9, cE, dW, AM, hk, hz']
       refine tcE (cJ (aA _ _ _) 14) ?_
       simp only [go_sem,seval, aB, fC, hA6, aR, bO]
       refine tcE (cM (so.e a (by rw [hab]; simp) false) (aA _ _ _) o full 1) ?_
       simp only [go_sem,seval, aB, fC, hB6, aR, bO]
       refine tcE (cM (so.e b (by rw [hab]; simp) false) (aA _ _ _) o full 1) ?_
       rw [← hX]
       simp only [go_sem,seval, aB, gH]
       refine tcE (ih x.body (d + 1) (by omega) htb hlb (aA _ _ _) o full false) ?_
       simp only [go_sem,seval, aB, jD]
       refine tcE (ih x.els (d + 1) (by omega) hte hle (aA _ _ _) o full false) ?_
       simp only [go_sem,seval, aB]
       refine ⟨_, _, aF.env ?_, ⟨_, ?_, rfl⟩, rfl⟩
       ·simp only [go_sem,seval, aQ (cX (l := l) (by omega)) hp]
       ·rw [hs, hsp, iT]
     ·have hX := hX (q.2.fail 14) (by simp [hk])
      simp only [go_sem,seval, b9, cE, dW, AM, hk]
      refine tcE (cJ (aA _ _ _) 14) ?_
      simp only [go_sem,seval, aB, fC, hA6, aR, bO]
      refine tcE (cM (so.e a (by rw [hab]; simp) false) (aA _ _ _) o full 1) ?_
      simp only [go_sem,seval, aB, fC, hB6, aR, bO]
      refine tcE (cM (so.e b (by rw [hab]; simp) false) (aA _ _ _) o full 1) ?_
      rw [← hX]
      simp only [go_sem,seval, aB, gH]
      refine tcE (ih x.body (d + 1) (by omega) htb hlb (aA _ _ _) o full false) ?_
      simp only [go_sem,seval, aB, jD]
      refine tcE (ih x.els (d + 1) (by omega) hte hle (aA _ _ _) o full false) ?_
      simp only [go_sem,seval, aB]
      refine ⟨_, _, aF.env ?_, ⟨_, ?_, rfl⟩, rfl⟩
      ·simp only [go_sem,seval, aQ (cX (l := l) (by omega)) hp]
      ·rw [hs, hsp, iT]
    ·have hX : iL env s'.step res x = if (cW 0 (cQ env s'.step x.p false)).1 = 2 then (cW 0 (cQ env s'.step x.p false)).2.fail 14 else (cW 0 (cQ env s'.step x.p false)).2 := by simp [iL, g]
     simp only [go_sem,seval, gP, g, hP]
     refine tcE (cM (so.p (.inr g) false) (aA _ _ _) o full 0) ?_
     generalize cW 0 (cQ env s'.step x.p false) = q at hX
     by_cases hk : q.1 = 2
     ·rw [if_pos hk] at hX
      simp only [go_sem,seval, hk]
      refine tcE (cJ (aA _ _ _) 14) ?_
      rw [← hX]
      simp only [go_sem,seval, aB, gH]
      refine tcE (ih x.body (d + 1) (by omega) htb hlb (aA _ _ _) o full false) ?_
      simp only [go_sem,seval, aB, jD]
      refine tcE (ih x.els (d + 1) (by omega) hte hle (aA _ _ _) o full false) ?_
      simp only [go_sem,seval, aB]
      refine ⟨_, _, aF.env ?_, ⟨_, ?_, rfl⟩, rfl⟩
      ·simp only [go_sem,seval, aQ (cX (l := l) (by omega)) hp]
      ·rw [hs, hsp, iT]
     ·rw [if_neg hk] at hX
      simp only [go_sem,seval, hk]
      rw [← hX]
      simp only [go_sem,seval, aB, gH]
      refine tcE (ih x.body (d + 1) (by omega) htb hlb (aA _ _ _) o full false) ?_
      simp only [go_sem,seval, aB, jD]
      refine tcE (ih x.els (d + 1) (by omega) hte hle (aA _ _ _) o full false) ?_
      simp only [go_sem,seval, aB]
      refine ⟨_, _, aF.env ?_, ⟨_, ?_, rfl⟩, rfl⟩
      ·simp only [go_sem,seval, aQ (cX (l := l) (by omega)) hp]
      ·rw [hs, hsp, iT]
    ·obtain ⟨a, ha⟩ := one (by omega) (by omega) (by omega)
     have hX : iL env s'.step res x = (cW 0 (cQ env s'.step a false)).2 := by simp [iL, g, ha, eZ]
     simp only [go_sem,seval, gP, g, fC, hA a ha, aR, bO]
     refine tcE (cM (so.e a (by rw [ha]; simp) false) (aA _ _ _) o full 0) ?_
     rw [← hX]
     simp only [go_sem,seval, aB, gH]
     refine tcE (ih x.body (d + 1) (by omega) htb hlb (aA _ _ _) o full false) ?_
     simp only [go_sem,seval, aB, jD]
     refine tcE (ih x.els (d + 1) (by omega) hte hle (aA _ _ _) o full false) ?_
     simp only [go_sem,seval, aB]
     refine ⟨_, _, aF.env ?_, ⟨_, ?_, rfl⟩, rfl⟩
     ·simp only [go_sem,seval, aQ (cX (l := l) (by omega)) hp]
     ·rw [hs, hsp, iT]
    ·have hee : x.e = [] ∨ ∃ a, x.e = [a] := by
      have hh : x.e.length ≤ 1 := by rw [if_neg (by omega), if_neg (by omega)] at hi; exact hi
      match hm : x.e, hh with
      | [], _ => exact .inl rfl
      | [a], _ => exact .inr ⟨a, rfl⟩
     rcases hee with ha | ⟨a, ha⟩
     ·have hlen : (((x.e.length : Nat) : Int) > 0) = False := by rw [ha]; simp
      by_cases hr : res > 0
      ·have hX : iL env s'.step res x = s'.step.fail 16 := by
        have hr' : 0 < res := hr
        simp [iL, g, ha, eZ, hr']
       simp only [go_sem,seval, gP, fC, g, hr, hlen]
       refine tcE (cJ (aA _ _ _) 16) ?_
       rw [← hX]
       simp only [go_sem,seval, aB, fC, hlen, gH]
       refine tcE (ih x.body (d + 1) (by omega) htb hlb (aA _ _ _) o full false) ?_
       simp only [go_sem,seval, aB, jD]
       refine tcE (ih x.els (d + 1) (by omega) hte hle (aA _ _ _) o full false) ?_
       simp only [go_sem,seval, aB]
       refine ⟨_, _, aF.env ?_, ⟨_, ?_, rfl⟩, rfl⟩
       ·simp only [go_sem,seval, aQ (cX (l := l) (by omega)) hp]
       ·rw [hs, hsp, iT]
      ·have hX : iL env s'.step res x = s'.step := by
        have hr' : ¬ 0 < res := hr
        simp [iL, g, ha, eZ, hr']
       simp only [go_sem,seval, g, hr, hlen]
       rw [← hX]
       refine tcE (ih x.body (d + 1) (by omega) htb hlb (aA _ _ _) o full false) ?_
       simp only [go_sem,seval, aB, jD]
       refine tcE (ih x.els (d + 1) (by omega) hte hle (aA _ _ _) o full false) ?_
       simp only [go_sem,seval, aB]
       refine ⟨_, _, aF.env ?_, ⟨_, ?_, rfl⟩, rfl⟩
       ·simp only [go_sem,seval, aQ (cX (l := l) (by omega)) hp]
       ·rw [hs, hsp, iT]
     ·have hlen : (((x.e.length : Nat) : Int) > 0) = True := by rw [ha]; simp
      by_cases hr : res > 0
      ·have hX : iL env s'.step res x = (cW res (cQ env s'.step a false)).2 := by
        have hr' : 0 < res := hr
        simp [iL, g, ha, eZ, hr']
       simp only [go_sem,seval, gP, fC, g, hr, hlen, hA a ha, aR, bO]
       refine tcE (cM (so.e a (by rw [ha]; simp) false) (aA _ _ _) o full res) ?_
       rw [← hX]
       simp only [go_sem,seval, aB, gH]
       refine tcE (ih x.body (d + 1) (by omega) htb hlb (aA _ _ _) o full false) ?_
       simp only [go_sem,seval, aB, jD]
       refine tcE (ih x.els (d + 1) (by omega) hte hle (aA _ _ _) o full false) ?_
       simp only [go_sem,seval, aB]
       refine ⟨_, _, aF.env ?_, ⟨_, ?_, rfl⟩, rfl⟩
       ·simp only [go_sem,seval, aQ (cX (l := l) (by omega)) hp]
       ·rw [hs, hsp, iT]
      ·have hX : iL env s'.step res x = (cW res (cQ env (s'.step.fail 16) a false)).2 := by
        have hr' : ¬ 0 < res := hr
        simp [iL, g, ha, eZ, hr']
       simp only [go_sem,seval, gP, fC, g, hr, hlen]
       refine tcE (cJ (aA _ _ _) 16) ?_
       simp only [go_sem,seval, aB, fC, hlen, hA a ha, aR, bO]
       refine tcE (cM (so.e a (by rw [ha]; simp) false) (aA _ _ _) o full res) ?_
       rw [← hX]
       simp only [go_sem,seval, aB, gH]
       refine tcE (ih x.body (d + 1) (by omega) htb hlb (aA _ _ _) o full false) ?_
       simp only [go_sem,seval, aB, jD]
       refine tcE (ih x.els (d + 1) (by omega) hte hle (aA _ _ _) o full false) ?_
       simp only [go_sem,seval, aB]
       refine ⟨_, _, aF.env ?_, ⟨_, ?_, rfl⟩, rfl⟩
       ·simp only [go_sem,seval, aQ (cX (l := l) (by omega)) hp]
       ·rw [hs, hsp, iT]
   ·simp only [go_sem,seval, bI hp]
    refine tcE (qQ (s := s') (aA _ _ _)) ?_
    simp only [go_sem,seval, hb, aB]
    refine aM.same ?_
    simp only [go_sem,seval]
    refine .same ⟨rfl, ?_⟩
    rw [hs, qC env hb]
  ·rintro e g ⟨⟨s', hs, rfl⟩, rfl⟩
   simp only [go_sem,seval, bE]
   refine aM.same ?_
   simp only [go_sem,seval]
   rw [hs]
   exact .same ⟨rfl, rfl⟩
end Pg
namespace Pg
open Go Go.Proofs.Tryz
theorem EC {α : Type} {l : List α} (h : l.length ≤ 1000000) : few l := by unfold few; omega
theorem O7 (x : Routine) : dE (.agg (.str x.name :: .int .i64 2 :: .sl [] true :: .sl [] true :: .str ⟨#[]⟩ :: .sl [] true :: .sl [] true :: bM [.sl [] true, .sl [] true, .str ⟨#[]⟩, .int .i64 0, .sl [] true, .sl [] true, .sl [] true, .sl [] true, .sl [] true, .int .i64 0, .int .i64 0, .str ⟨#[]⟩] 0 (aU x))) (.agg (eTh (lN x))) := by
 rw [dX x]
 refine dE.agg ?_
 simp only [bM, List.take_zero, List.nil_append, List.length_cons, List.length_nil, List.drop_succ_cons, List.drop_zero, List.cons_append, eTh, lN]
 repeat' (first | exact fA.nil | refine fA.cons ?_ ?_)
 all_goals first | exact .refl _ | exact dE.sl _ _
theorem aB2 (x : Rec) : dE (.agg (.str x.name :: .int .i64 1 :: bM [.sl [] true, .sl [] true, .str ⟨#[]⟩, .sl [] true, .sl [] true, .sl [] true, .sl [] true, .str ⟨#[]⟩, .int .i64 0, .sl [] true, .sl [] true, .sl [] true, .sl [] true, .sl [] true, .int .i64 0, .int .i64 0, .str ⟨#[]⟩] 0 (eB x))) (.agg (eTh (vN x))) := by
 refine dE.agg ?_
 simp only [eB, bM, List.take_zero, List.nil_append, List.length_cons, List.length_nil, List.drop_succ_cons, List.drop_zero, List.cons_append, eTh, vN]
 repeat' (first | exact fA.nil | refine fA.cons ?_ ?_)
 all_goals first | exact .refl _ | exact dE.sl _ _
theorem O6 (name : ByteArray) (t : Typ) : dE (.agg (.str name :: .int .i64 3 :: .sl [] true :: .sl [] true :: .str ⟨#[]⟩ :: .sl [] true :: .sl [] true :: .sl [] true :: .sl [] true :: .str ⟨#[]⟩ :: .int .i64 0 :: .sl [] true :: .sl [] true :: .sl [] true :: .sl [] true :: .sl [] true :: bV t)) (.agg (eTh (kM name t))) := by
 refine dE.agg ?_
 simp only [bV, eTh, kM]
 repeat' (first | exact fA.nil | refine fA.cons ?_ ?_)
 all_goals first | exact .refl _ | exact dE.sl _ _
theorem tA [GI] (h : AHeap) (env : List Th) (l : List Routine) (hn : env.length + l.length ≤ 1000000) (full f2 : Bool) : aD prog 37 [.sl (gN env) full, .sl (l.map aU) f2] h (fun v g => v = .sl (gN (hG env l)) false ∧ g = h) := by
 refine F37.calls (by simp) ?_
 delta F37.c0
 simp only [go_sem,seval]
 refine aX l (fun pre post e g => (∃ f, e = [(0, .sl (gN (hG env pre)) f), (1, .sl (l.map aU) f2), (5, .int .i64 pre.length)]) ∧ g = h) (aF.env ?_) ⟨⟨full, by simp [hG]; rfl⟩, rfl⟩ ?_ ?_
 ·simp only [go_sem,seval]
 ·rintro pre x post e g hp ⟨⟨f, rfl⟩, rfl⟩
  have hpl := (gE hp).2
  simp only [go_sem,seval, bI hp, aI (aK hp) (bL x), yD, bL, lZ]
  refine tcL (xZ g (hG env pre) (by simp [hG]; omega) f (lN x)) (.cons (.refl _) (.cons (O7 x) .nil)) ?_
  simp only [go_sem,seval]
  refine ⟨_, _, aF.env ?_, ⟨false, rfl⟩, rfl⟩
  simp only [go_sem,seval, aQ (EC (l := l) (by omega)) hp]
  simp [hG]
  exact .refl _
 ·rintro e g ⟨⟨f, rfl⟩, rfl⟩
  simp only [go_sem,seval, bE]
  refine aM.same ?_
  simp only [go_sem,seval]
  exact eE.less (dE.sl _ _) (AHeap.le_refl _) ⟨rfl, rfl⟩
theorem gB.with {env : List Th} (o : gB env) {x : Th} (h : Pg.few x.rcd.fields) (hl : env.length + 1 ≤ 1000000) : gB (env ++ [x]) := by
 refine ⟨by simpa using hl, fun y hy => ?_⟩
 rcases List.mem_append.1 hy with hy | hy
 ·exact o.fields y hy
 ·simp at hy; subst hy; exact h
theorem gB.vis {env : List Th} (o : gB env) {l : List Routine} (hl : env.length + l.length ≤ 1000000) : gB (hG env l) := by
 refine ⟨by simpa [hG] using hl, fun y hy => ?_⟩
 rcases List.mem_append.1 hy with hy | hy
 ·exact o.fields y hy
 ·obtain ⟨x, _, rfl⟩ := List.mem_map.1 hy; exact EC (by simp [lN, BE])
theorem DX (behind : List Routine) : ∀ (l : List Var) (env : List Th) (s : CS), (fW env s l behind).1.length ≤ env.length + l.length
 | [], env, s => by simp [fW]
 | v :: r, env, s => by
  simp only [fW]
  split
  ·have := DX behind r (env ++ [kM v.name v.t]) (tL env (if behind.any (fun x => decide (x.name = v.name)) then (eF env s.step v.name).fail 12 else eF env s.step v.name) v.t)
   simp at this ⊢; omega
  ·simp
theorem CS.KM (s : CS) {e : Int} (he : e ≠ 0) : (s.fail e).fail e = s.fail e := by
 rw [CS.aCN _ _ (FL s he)]
theorem gB.var {env : List Th} (o : gB env) (name : ByteArray) (t : Typ) (hl : env.length + 1 ≤ 1000000) : gB (env ++ [kM name t]) := o.with (EC (by simp [kM, BE])) hl
theorem F1 [GI] (behind : List Routine) (hbl : behind.length ≤ 1000) {h : AHeap} {c : Nat} {s : CS} {env : List Th} (hc : h c = some (c9 s)) (o : gB env) (l : List Var) (hl : env.length + l.length ≤ 1000000) (full f2 f3 : Bool) :
    aD prog 34 [.ptr (some ⟨c, 0, none⟩), .sl (gN env) full, .sl (l.map dF) f2, .sl (behind.map aU) f3] h (fun v g => v = .sl (gN (fW env s l behind).1) false ∧ g = h.upd c (c9 (fW env s l behind).2)) := by
  refine F34.calls (by simp) ?_
  delta F34.c0
  simp only [go_sem,seval]
  refine aX l (fun pre post e g => ∃ (f : Bool) (env' : List Th) (s' : CS), gB env' ∧ env'.length = env.length + pre.length ∧ fW env s l behind = fW env' s' post behind ∧ e = [(0, .ptr (some ⟨c, 0, none⟩)), (1, .sl (gN env') f), (2, .sl (l.map dF) f2), (3, .sl (behind.map aU) f3), (9, .int .i64 pre.length)] ∧ g = h.upd c (c9 s')) (aF.env ?_) ⟨full, env, s, o, rfl, rfl, rfl, (dQ hc).symm⟩ ?_ ?_
  · simp only [go_sem,seval]
  · rintro pre x post e g hp ⟨f, env', s', o', hel, hs, rfl, rfl⟩
    have hpl := (gE hp).2
    have hw : env'.length + 1 ≤ 1000000 := by omega
    simp only [go_sem,seval, bI hp]
    refine tcE (qQ (s := s') (aA _ _ _)) ?_
    by_cases hb : s'.bad = 0
    · have hsp : fW env' s' (x :: post) behind = fW (env' ++ [kM x.name x.t]) (tL env' (if behind.any (fun y => decide (y.name = x.name)) then (eF env' s'.step x.name).fail 12 else eF env' s'.step x.name) x.t) post behind := by simp only [fW, hb, if_true]
      simp only [go_sem,seval, hb, aB, aI (aK hp) (eO x)]
      refine tcE (lO _ env' o'.vC f x.name) ?_
      by_cases hk : (dT env' x.name).kind = 0
      all_goals simp only [go_sem,seval, hk, DA, jF]
      all_goals
        first
        | (refine aW (cJ (s := s'.step) (aA _ _ _) 12) (fun v g ⟨hv, hg⟩ => ?_)
           subst v g
           have hN : s'.step.fail 12 = eF env' s'.step x.name := by simp [eF, hk]
           rw [hN]
           simp only [go_sem,seval, aB])
        | (have hN : s'.step = eF env' s'.step x.name := by simp [eF, hk]
           rw [hN])
      all_goals
        generalize eF env' s'.step x.name = sN at hsp
        refine aX behind (fun pre2 post2 e g => g = h.upd c (c9 (if pre2.any (fun y => decide (y.name = x.name)) then sN.fail 12 else sN)) ∧ e = [(0, .ptr (some ⟨c, 0, none⟩)), (1, .sl (gN env') f), (2, .sl (l.map dF) f2), (3, .sl (behind.map aU) f3), (9, .int .i64 pre.length), (10, .int .i64 pre2.length)]) (aF.env ?_) ⟨rfl, rfl⟩ ?_ ?_
        · simp only [go_sem,seval]
        · rintro pre2 y post2 e g hp2 ⟨rfl, rfl⟩
          by_cases he : y.name = x.name
          · simp only [go_sem,seval, bI hp2, aI (aK hp2) (bL y), aI (aK hp) (eO x), he]
            refine tcE (cJ (aA _ _ _) 12) ?_
            simp only [go_sem,seval, aB]
            refine ⟨_, _, aF.env ?_, ?_, rfl⟩
            · simp only [go_sem,seval, aQ (cX hbl) hp2]
            · congr 2
              cases hh : pre2.any (fun y => decide (y.name = x.name)) <;> simp [List.any_append, hh, he, CS.KM]
          · simp only [go_sem,seval, bI hp2, aI (aK hp2) (bL y), aI (aK hp) (eO x), he]
            refine ⟨_, _, aF.env ?_, ?_, rfl⟩
            · simp only [go_sem,seval, aQ (cX hbl) hp2]
            · congr 2
              cases hh : pre2.any (fun y => decide (y.name = x.name)) <;> simp [List.any_append, hh, he]
        · rintro e g ⟨rfl, rfl⟩
          simp only [go_sem,seval, bE]
          refine aM.same ?_
          have tk : ((dF x).drop 3).take 3 = bV x.t := rfl
          simp only [go_sem,seval, aI (aK hp) (eO x), eO, tk]
          refine tcE (I3 (aA _ _ _) env' o'.vC f x.t) ?_
          simp only [go_sem,seval, aB, aI (aK hp) (eO x), eO, tk]
          refine tcL (xZ _ env' o'.few f (kM x.name x.t)) (.cons (.refl _) (.cons (O6 x.name x.t) .nil)) ?_
          simp only [go_sem,seval]
          refine ⟨_, _, aF.env ?_, false, _, _, o'.var x.name x.t hw, ?_, ?_, rfl, rfl⟩
          · simp only [go_sem,seval, aQ (EC (l := l) (by omega)) hp]
          · simp; omega
          · rw [hs, hsp]
    · simp only [go_sem,seval, hb, aB]
      refine aM.same ?_
      simp only [go_sem,seval]
      have hr : fW env' s' (x :: post) behind = (env', s') := by simp [fW, hb]
      rw [hs, hr]
      exact eE.less (dE.sl _ _) (AHeap.le_refl _) ⟨rfl, rfl⟩
  · rintro e g ⟨f, env', s', o', hel, hs, rfl, rfl⟩
    simp only [go_sem,seval, bE]
    refine aM.same ?_
    simp only [go_sem,seval]
    rw [hs]
    exact eE.less (dE.sl _ _) (AHeap.le_refl _) ⟨rfl, rfl⟩
theorem I4 (x : Fld) : ∀ (l a : List Fld), iP a (l ++ [x]) = (iP a l || (a ++ l).any fun g => decide (g.name = x.name))
 | [], a => by simp [iP]
 | y :: l, a => by
  simp only [List.cons_append, iP]
  rw [I4 x l (a ++ [y])]
  simp [Bool.or_assoc]
theorem NH : ∀ (l : List Rec) (env : List Th) (s : CS), (gT env s l).1.length ≤ env.length + l.length
 | [], env, s => by simp [gT]
 | v :: r, env, s => by
  simp only [gT]
  split
  ·have := NH r (env ++ [vN v]) (if iP [] v.fields then (eF env s.step v.name).fail 12 else eF env s.step v.name)
   simp at this ⊢; omega
  ·simp
theorem UK [GI] {h : AHeap} {c : Nat} {s : CS} (hc : h c = some (c9 s)) (l : List Rec) (hl : l.length ≤ 1000) (hf : ∀ r ∈ l, few r.fields) (f2 : Bool) :
    aD prog 33 [.ptr (some ⟨c, 0, none⟩), .sl (l.map eB) f2] h (fun v g => v = .sl (gN (gT [] s l).1) false ∧ g = h.upd c (c9 (gT [] s l).2)) := by
  refine F33.calls (by simp) ?_
  delta F33.c0
  simp only [go_sem,seval]
  refine aX l (fun pre post e g => ∃ (f : Bool) (env' : List Th) (s' : CS), gB env' ∧ env'.length = pre.length ∧ gT [] s l = gT env' s' post ∧ e = [(0, .ptr (some ⟨c, 0, none⟩)), (1, .sl (l.map eB) f2), (5, .sl (gN env') f), (6, .int .i64 pre.length)] ∧ g = h.upd c (c9 s')) (aF.env ?_) ⟨true, [], s, ⟨by simp, by simp⟩, rfl, rfl, rfl, (dQ hc).symm⟩ ?_ ?_
  · simp only [go_sem,seval]
  · rintro pre x post e g hp ⟨f, env', s', o', hel, hs, rfl, rfl⟩
    have hpl := (gE hp).2
    have hw : env'.length + 1 ≤ 1000000 := by omega
    have hff := hf x (bJ hp)
    simp only [go_sem,seval, bI hp]
    refine tcE (qQ (s := s') (aA _ _ _)) ?_
    by_cases hb : s'.bad = 0
    · have hsp : gT env' s' (x :: post) = gT (env' ++ [vN x]) (if iP [] x.fields then (eF env' s'.step x.name).fail 12 else eF env' s'.step x.name) post := by simp only [gT, hb, if_true]
      simp only [go_sem,seval, hb, aB, aI (aK hp) (dG x)]
      refine tcE (lO _ env' o'.vC f x.name) ?_
      by_cases hk : (dT env' x.name).kind = 0
      all_goals simp only [go_sem,seval, hk, DA, jF]
      all_goals
        first
        | (refine aW (cJ (s := s'.step) (aA _ _ _) 12) (fun v g ⟨hv, hg⟩ => ?_)
           subst v g
           have hN : s'.step.fail 12 = eF env' s'.step x.name := by simp [eF, hk]
           rw [hN]
           simp only [go_sem,seval, aB])
        | (have hN : s'.step = eF env' s'.step x.name := by simp [eF, hk]
           rw [hN])
      all_goals
        generalize eF env' s'.step x.name = sN at hsp
        refine aX x.fields (fun pre2 post2 e g => g = h.upd c (c9 (if iP [] pre2 then sN.fail 12 else sN)) ∧ e = [(0, .ptr (some ⟨c, 0, none⟩)), (1, .sl (l.map eB) f2), (5, .sl (gN env') f), (6, .int .i64 pre.length), (7, .int .i64 pre2.length)]) (aF.env ?_) ⟨rfl, rfl⟩ ?_ ?_
        · simp only [go_sem,seval]
        · rintro pre2 y post2 e g hp2 ⟨rfl, rfl⟩
          simp only [go_sem,seval, bI hp2, aI (aK hp) (dG x)]
          refine aX pre2 (fun pre3 post3 e g => g = h.upd c (c9 (if iP [] pre2 || pre3.any (fun g => decide (g.name = y.name)) then sN.fail 12 else sN)) ∧ e = [(0, .ptr (some ⟨c, 0, none⟩)), (1, .sl (l.map eB) f2), (5, .sl (gN env') f), (6, .int .i64 pre.length), (7, .int .i64 pre2.length), (8, .int .i64 pre3.length)]) (aF.env ?_) ⟨by simp, rfl⟩ ?_ ?_
          · simp only [go_sem,seval]
          · rintro pre3 z post3 e g hp3 ⟨rfl, rfl⟩
            have hp3' : x.fields = pre3 ++ z :: (post3 ++ y :: post2) := by rw [hp2, hp3]; simp
            by_cases he : z.name = y.name
            · simp only [go_sem,seval, bI hp3, aI (aK hp) (dG x), aI (aK hp3') (eC z), aI (aK hp2) (eC y), he]
              refine tcE (cJ (aA _ _ _) 12) ?_
              simp only [go_sem,seval, aB]
              refine ⟨_, _, aF.env ?_, ?_, rfl⟩
              · simp only [go_sem,seval, aQ (l := pre2) (by have := (gE hp2).2; unfold few at hff ⊢; omega) hp3]
              · congr 2
                cases hh : (iP [] pre2 || pre3.any (fun g => decide (g.name = y.name))) <;> simp [List.any_append, he, CS.KM]
            · simp only [go_sem,seval, bI hp3, aI (aK hp) (dG x), aI (aK hp3') (eC z), aI (aK hp2) (eC y), show (y.name = z.name) = False by simpa using fun hh => he hh.symm]
              refine ⟨_, _, aF.env ?_, ?_, rfl⟩
              · simp only [go_sem,seval, aQ (l := pre2) (by have := (gE hp2).2; unfold few at hff ⊢; omega) hp3]
              · rw [show (pre3 ++ [z]).any (fun g => decide (g.name = y.name)) = pre3.any (fun g => decide (g.name = y.name)) by simp [List.any_append, he]]
          · rintro e g ⟨rfl, rfl⟩
            simp only [go_sem,seval, bE]
            refine aM.same ?_
            simp only [go_sem,seval]
            refine ⟨_, _, aF.env ?_, ?_, rfl⟩
            · simp only [go_sem,seval, aQ hff hp2]
            · rw [I4]; rfl
        · rintro e g ⟨rfl, rfl⟩
          simp only [go_sem,seval, aI (aK hp) (dG x), bE]
          refine aM.same ?_
          simp only [go_sem,seval, aI (aK hp) (dG x), dG, A5]
          refine tcL (xZ _ env' o'.few f (vN x)) (.cons (.refl _) (.cons (aB2 x) .nil)) ?_
          simp only [go_sem,seval]
          refine ⟨_, _, aF.env ?_, false, _, _, o'.with (x := vN x) hff hw, ?_, ?_, rfl, rfl⟩
          · simp only [go_sem,seval, aQ (EC (l := l) (by omega)) hp]
          · simp; omega
          · rw [hs, hsp]
    · simp only [go_sem,seval, hb, aB]
      refine aM.same ?_
      simp only [go_sem,seval]
      have hr : gT env' s' (x :: post) = (env', s') := by simp [gT, hb]
      rw [hs, hr]
      exact eE.less (dE.sl _ _) (AHeap.le_refl _) ⟨rfl, rfl⟩
  · rintro e g ⟨f, env', s', o', hel, hs, rfl, rfl⟩
    simp only [go_sem,seval, bE]
    refine aM.same ?_
    simp only [go_sem,seval]
    rw [hs]
    exact eE.less (dE.sl _ _) (AHeap.le_refl _) ⟨rfl, rfl⟩
theorem H6 (behind : List Routine) : ∀ (l : List Var) {env : List Th} (s : CS), gB env → env.length + l.length ≤ 1000000 → gB (fW env s l behind).1
 | [], env, s, o, _ => o
 | v :: r, env, s, o, h => by
  simp only [fW]
  split
  ·exact H6 behind r _ (o.var v.name v.t (by simp at h; omega)) (by simp at h ⊢; omega)
  ·exact o
theorem P3 : ∀ (l : List Rec) {env : List Th} (s : CS), gB env → (∀ r ∈ l, few r.fields) → env.length + l.length ≤ 1000000 → gB (gT env s l).1
 | [], env, s, o, _, _ => o
 | v :: r, env, s, o, hf, h => by
  simp only [gT]
  split
  ·exact P3 r _ (o.with (x := vN v) (hf v (by simp)) (by simp at h; omega)) (fun x hx => hf x (by simp [hx])) (by simp at h ⊢; omega)
  ·exact o
theorem dP (ahead : List ByteArray) (x : Routine) (d : Int) : gC ahead x d = (decide (d ≤ 48) && iH x.before x.aP && eU x.bT && dK x.name && decide (0 ≤ x.result) && decide (x.result ≤ 3) && !fY x.name ahead && eJ x.params && jM x.vars && (bN [] x.inner (d + 1) && decide (x.inner.length ≤ 512)) && (dA x.body 1 && decide (x.body.length ≤ 512))) := by
 obtain ⟨before, aP, name, result, params, vars, inner, body, bT⟩ := x; rfl
theorem qZ {d : Int} : ∀ {l : List Routine} {x : Routine} {ahead : List ByteArray}, bN ahead l d = true → x ∈ l → ∃ a, gC a x d = true
 | y :: r, x, ahead, h, hx => by
  simp only [bN, Bool.and_eq_true] at h
  rcases List.mem_cons.1 hx with rfl | hx
  ·exact ⟨_, h.1⟩
  ·exact qZ h.2 hx
structure ROk (x : Routine) (d : Int) : Prop where
 deep : d ≤ 48
 params : x.params.length ≤ 512
 vars : x.vars.length ≤ 512
 inner : bN [] x.inner (d + 1) = true
 aBm : x.inner.length ≤ 512
 body : dA x.body 1 = true
 KX : x.body.length ≤ 512
theorem y7 {a : List ByteArray} {x : Routine} {d : Int} (h : gC a x d = true) : ROk x d := by
 rw [dP] at h
 unfold eJ jM at h
 simp only [Bool.and_eq_true, decide_eq_true_eq] at h
 obtain ⟨⟨⟨⟨⟨⟨⟨⟨⟨⟨h1, _⟩, _⟩, _⟩, _⟩, _⟩, _⟩, _, h2⟩, _, h3⟩, h4, h5⟩, h6, h7⟩ := h
 exact ⟨h1, h2, h3, h4, h5, h6, h7⟩
theorem mL (env all : List Th) {s : CS} (h : s.bad ≠ 0) (l : List Routine) : eR env all s l = s := by
 cases l with
 | nil => rfl
 | cons x l => simp [eR, h]
theorem JQ [GI] : ∀ (n : Nat) (l : List Routine) (d : Int) (ahead : List ByteArray), bB.sz l ≤ n → bN ahead l d = true → l.length ≤ 512 → (∀ x ∈ l, x.ok) → ∀ {h : AHeap} {c : Nat} {s : CS} {env : List Th}, h c = some (c9 s) → gB env → env.length + 2048 * (49 - d).toNat ≤ 900000 → ∀ full f2 : Bool,
    Lks 35 [.sl (gN env) full, .sl (l.map aU) f2] h c (.tuple []) (eR env (hG env l) s l) := by
  intro n
  induction n with
  | zero =>
    intro l d ahead hn ht hl hok h c s env hc o hw full f2
    cases l with
    | cons x r => simp [bB.sz] at hn
    | nil =>
      refine F35.calls (by simp) ?_
      delta F35.c0
      simp only [go_sem,seval]
      refine tcE (tA _ env [] (by simp; omega) full f2) ?_
      simp only [go_sem,seval]
      refine gR ?_
      simp only [go_sem,seval]
      exact .same ⟨rfl, (dQ hc).symm⟩
  | succ n ih =>
    intro l d ahead hn ht hl hok h c s env hc o hw full f2
    refine F35.calls (by simp) ?_
    delta F35.c0
    simp only [go_sem,seval]
    refine tcE (tA _ env l (by omega) full f2) ?_
    simp only [go_sem,seval]
    have oa : gB (hG env l) := o.vis (by omega)
    have hal : (hG env l).length = env.length + l.length := by simp [hG]
    generalize hG env l = all at oa hal
    refine aX l (fun pre post e g => ∃ s', eR env all s l = eR env all s' post ∧ e = [(0, .ptr (some ⟨c, 0, none⟩)), (1, .sl (gN env) full), (2, .sl (l.map aU) f2), (6, .sl (gN all) false), (7, .int .i64 pre.length)] ∧ g = h.upd c (c9 s')) (aF.env ?_) ⟨s, rfl, rfl, (dQ hc).symm⟩ ?_ ?_
    · simp only [go_sem,seval]
    · rintro pre x post e g hp ⟨s', hs, rfl, rfl⟩
      have hx := bJ hp
      have hxz := bB.dU hx
      have hz := Routine.cY x
      obtain ⟨a, ht'⟩ := qZ ht hx
      have ro := y7 ht'
      have hd := ro.deep
      have hxo := (Routine.cN x).1 (hok x hx)
      have hrp := ro.params
      have hrv := ro.vars
      have hri := ro.aBm
      have hrb := ro.KX
      have hstep := aQ (cX (l := l) (by omega)) hp
      simp only [go_sem,seval, bI hp]
      refine tcE (qQ (s := s') (aA _ _ _)) ?_
      by_cases hb : s'.bad = 0
      · have hsp : eR env all s' (x :: post) = eR env all (xF env all s'.step x) post := by simp only [eR, hb, if_true]
        rw [zC] at hsp
        simp only [go_sem,seval, hb, aB, aI (aK hp) (bL x), bL, lZ]
        refine tcE (lO _ env o.vC full x.name) ?_
        by_cases hk : (dT env x.name).kind = 0
        all_goals simp only [go_sem,seval, hk, DA, jF]
        all_goals
          first
          | (refine aW (cJ (s := s'.step) (aA _ _ _) 12) (fun v g ⟨hv, hg⟩ => ?_)
             subst v g
             have hN : s'.step.fail 12 = eF env s'.step x.name := by simp [eF, hk]
             rw [hN]
             simp only [go_sem,seval, aB])
          | (have hN : s'.step = eF env s'.step x.name := by simp [eF, hk]
             rw [hN])
        all_goals
          generalize eF env s'.step x.name = sN at hsp
          refine aX x.params (fun pre2 post2 e g => ∃ (f : Bool) (env' : List Th) (s2 : CS), gB env' ∧ env'.length = all.length + pre2.length ∧ iJ all sN x.params = iJ env' s2 post2 ∧ e = [(0, .ptr (some ⟨c, 0, none⟩)), (1, .sl (gN env) full), (2, .sl (l.map aU) f2), (6, .sl (gN all) false), (7, .int .i64 pre.length), (8, .ip (aU x) 0), (9, .sl (gN env') f), (10, .int .i64 pre2.length)] ∧ g = h.upd c (c9 s2)) (aF.env ?_) ⟨false, all, sN, oa, rfl, rfl, rfl, rfl⟩ ?_ ?_
          · simp only [go_sem,seval]
          · rintro pre2 y post2 e g hp2 ⟨f, env', s2, o2, hel, hs2, rfl, rfl⟩
            have hpl2 := (gE hp2).2
            have tk : ((c7 y).drop 1).take 3 = bV y.t := rfl
            have hs3 : iJ env' s2 (y :: post2) = iJ (env' ++ [kM y.name y.t]) (tL env' (eF env' s2 y.name) y.t) post2 := rfl
            have hstep2 := aQ (cX (l := x.params) (by omega)) hp2
            simp only [go_sem,seval, bI hp2, aI (aK hp2) (bP y)]
            refine tcE (lO _ env' o2.vC f y.name) ?_
            by_cases hk2 : (dT env' y.name).kind = 0
            all_goals simp only [go_sem,seval, hk2, DA, jF]
            all_goals
              first
              | (refine aW (cJ (s := s2) (aA _ _ _) 12) (fun v g ⟨hv, hg⟩ => ?_)
                 subst v g
                 have hN : s2.fail 12 = eF env' s2 y.name := by simp [eF, hk2]
                 rw [hN]
                 simp only [go_sem,seval, aB, aI (aK hp2) (bP y), bP, tk])
              | (simp only [go_sem,seval, aI (aK hp2) (bP y), bP, tk]
                 have hN : s2 = eF env' s2 y.name := by simp [eF, hk2]
                 rw [hN])
            all_goals
              refine tcE (I3 (s := eF env' s2 y.name) (aA _ _ _) env' o2.vC f y.t) ?_
              simp only [go_sem,seval, aB, aI (aK hp2) (bP y), bP, tk]
              refine tcL (xZ _ env' o2.few f (kM y.name y.t)) (.cons (.refl _) (.cons (O6 y.name y.t) .nil)) ?_
              simp only [go_sem,seval]
              refine ⟨_, _, aF.env ?_, false, _, _, o2.var y.name y.t (by omega), ?_, ?_, rfl, rfl⟩
              · simp only [go_sem,seval, hstep2]
              · simp; omega
              · rw [hs2, hs3]
          · rintro e g ⟨f, env', s2, o2, hel, hs2, rfl, rfl⟩
            have hP : iJ all sN x.params = (env', s2) := hs2
            rw [hP] at hsp
            simp only [go_sem,seval, bE]
            refine aM.same ?_
            by_cases hr : x.result > 0
            all_goals simp only [go_sem,seval, hr]
            all_goals
              first
              | (refine aW (ZR _ x.body (Nat.le_refl _) (cX (by omega)) hxo.2.2.2.2.2.2.2.2.1 false _) (fun v g ⟨hv, hg⟩ => ?_)
                 subst v g
                 cases he : kW x.body)
              | skip
            all_goals try simp only [go_sem,seval]
            all_goals
              first
              | (refine aW (cJ (s := s2) (aA _ _ _) 16) (fun v g ⟨hv, hg⟩ => ?_)
                 subst v g
                 have hN : s2.fail 16 = (if 0 < x.result ∧ kW x.body = false then s2.fail 16 else s2) := by rw [if_pos ⟨hr, he⟩]
                 rw [hN]
                 simp only [go_sem,seval, aB])
              | (have hN : s2 = (if 0 < x.result ∧ kW x.body = false then s2.fail 16 else s2) := by
                   rw [if_neg]
                   rintro ⟨h1, h2⟩
                   first | exact hr h1 | simp [he] at h2
                 rw [hN])
            all_goals
              generalize hs3 : (if 0 < x.result ∧ kW x.body = false then s2.fail 16 else s2) = s3
              have hq1 := DX x.inner x.vars env' s3
              have hq2 := H6 x.inner x.vars s3 o2 (by omega)
              refine tcE (F1 x.inner (by omega) (aA _ _ _) o2 x.vars (by omega) f false false) ?_
              simp only [go_sem,seval, aB]
              generalize hq : fW env' s3 x.vars x.inner = q at hq1 hq2
              refine tcE (ih x.inner (d + 1) [] (by omega) ro.inner hri hxo.2.2.2.2.2.2.1 (aA _ _ _) hq2 (by omega) false false) ?_
              simp only [go_sem,seval, aB]
              refine tcE (tA _ q.1 x.inner (by omega) false false) ?_
              simp only [go_sem,seval]
              refine tcE (DK x.result _ x.body 1 (Nat.le_refl _) ro.body hrb (aA _ _ _) (hq2.vis (by omega)) false false) ?_
              simp only [go_sem,seval, aB]
              refine ⟨_, _, aF.env ?_, _, ?_, rfl, rfl⟩
              · simp only [go_sem,seval, hstep]
              · rw [hs, hsp]
                subst hs3 hq
                rfl
      · simp only [go_sem,seval, hb, aB]
        refine aM.same ?_
        simp only [go_sem,seval]
        refine .same ⟨rfl, ?_⟩
        rw [hs, mL env all hb]
    · rintro e g ⟨s', hs, rfl, rfl⟩
      simp only [go_sem,seval, bE]
      refine aM.same ?_
      simp only [go_sem,seval]
      rw [hs]
      exact .same ⟨rfl, rfl⟩
structure POk (p : Prg) : Prop where
 recs : p.recs.length ≤ 512
 vars : p.vars.length ≤ 512
 aH : bN [] p.aH 1 = true
 bU : p.aH.length ≤ 512
 body : dA p.body 1 = true
 KX : p.body.length ≤ 512
theorem LO {p : Prg} (h : eI p = true) : POk p := by
 unfold eI jM at h
 simp only [Bool.and_eq_true, decide_eq_true_eq] at h
 obtain ⟨⟨⟨⟨⟨⟨⟨⟨⟨_, _⟩, _⟩, _⟩, _⟩, h1⟩, _⟩, _, h2⟩, h3, h4⟩, h5, h6⟩ := h
 exact ⟨h1, h2, h3, h4, h5, h6⟩
theorem T2 [GI] (p : Prg) (ht : eI p = true) (ho : p.ok) (h : AHeap) : aD prog 14 [.agg (fJ p)] h (fun v g => v = .tuple [.int .i64 (xH p).1, .int .i64 (xH p).2] ∧ g = h) := by
 have po := LO ht
 have p1 := po.recs
 have p2 := po.vars
 have p3 := po.bU
 have hf : ∀ r ∈ p.recs, few r.fields := fun r hr => (ho.rV r hr).fields
 refine F14.calls (by simp) ?_
 delta F14.c0
 simp only [go_sem,seval]
 refine aS fun c hc => ?_
 simp only [go_sem,seval, gY p]
 have k0 : (h.upd c (.blk [.int .i64 (-1), .int .i64 0] 2 92)) c = some (c9 ⟨-1, 0⟩) := aA _ _ _
 refine tcE (UK k0 p.recs (by omega) hf false) ?_
 have a1 := NH p.recs [] ⟨-1, 0⟩
 have a2 := P3 p.recs (env := []) ⟨-1, 0⟩ ⟨by simp, by simp⟩ hf (by simp; omega)
 generalize ha : gT [] ⟨-1, 0⟩ p.recs = a at a1 a2
 simp only [List.length_nil, Nat.zero_add] at a1
 simp only [go_sem,seval, aB]
 refine tcE (F1 p.aH (by omega) (aA _ _ _) a2 p.vars (by omega) false false false) ?_
 have b1 := DX p.aH p.vars a.1 a.2
 have b2 := H6 p.aH p.vars a.2 a2 (by omega)
 generalize hb : fW a.1 a.2 p.vars p.aH = b at b1 b2
 simp only [go_sem,seval, aB]
 refine tcE (JQ _ p.aH 1 [] (Nat.le_refl _) po.aH p3 ho.iO (aA _ _ _) b2 (by simp; omega) false false) ?_
 simp only [go_sem,seval, aB]
 refine tcE (tA _ b.1 p.aH (by omega) false false) ?_
 simp only [go_sem,seval]
 refine tcE (DK 0 _ p.body 1 (Nat.le_refl _) po.body po.KX (aA _ _ _) (b2.vis (by omega)) false false) ?_
 have hA : zD p = iI (hG b.1 p.aH) (eR b.1 (hG b.1 p.aH) b.2 p.aH) 0 p.body := by subst hb ha; rfl
 rw [← hA]
 have kA : ∀ g : AHeap, (g.upd c (c9 (zD p))) c = some (.blk [.int .i64 (zD p).item, .int .i64 (zD p).bad] 2 92) := fun g => aA _ _ _
 by_cases hz : (zD p).bad = 0
 ·simp only [go_sem,seval, kA, hz, aB]
  exact .forget (AHeap.b8 hc) ⟨by simp [xH, hz], rfl⟩
 ·simp only [go_sem,seval, kA, hz, aB]
  exact .forget (AHeap.b8 hc) ⟨by simp [xH, hz], rfl⟩
end Pg
