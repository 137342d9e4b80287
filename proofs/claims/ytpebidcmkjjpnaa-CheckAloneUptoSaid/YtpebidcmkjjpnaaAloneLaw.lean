/- A variable that nobody names, behind all others, changes nothing but the items' numbers. -/
import Derived.Test.YtpebidcmkjjpnaaRn
import Derived.Test.YtpebidcmkjjpnaaUps
import Derived.Test.YtpebidcmkjjpnaaWeigh
namespace Pg
open Go
set_option linter.unusedSimpArgs false
set_option linter.unusedVariables false
theorem rnTyp_id (t : Typ) : rnTyp id t = t := rfl
mutual
theorem rnE_id : ∀ x, rnE id x = x
  | ⟨op, n, name, field, l⟩ => by simp only [rnE, id_eq, rnEs_id l]
theorem rnEs_id : ∀ l, rnEs id l = l
  | [] => rfl
  | x :: r => by simp only [rnEs, rnE_id x, rnEs_id r]
end
mutual
theorem rnS_id : ∀ x, rnS id x = x
  | ⟨before, trail, op, name, p, e, down, more, body, els, end1, end2⟩ => by simp only [rnS, id_eq, rnE_id, rnEs_id, rnSs_id body, rnSs_id els]
theorem rnSs_id : ∀ l, rnSs id l = l
  | [] => rfl
  | x :: r => by simp only [rnSs, rnS_id x, rnSs_id r]
end
theorem map_same {X : Type} {f : X → X} (h : ∀ x, f x = x) (l : List X) : l.map f = l := by rw [show f = id from funext h]; simp
mutual
theorem rnR_id : ∀ x, rnR id x = x
  | ⟨before, trail, name, result, params, vars, inner, body, endd⟩ => by
    simp only [rnR, id_eq, map_same (f := rnParam id) (fun _ => rfl), map_same (f := rnVar id) (fun _ => rfl), rnRs_id inner, rnSs_id]
theorem rnRs_id : ∀ l, rnRs id l = l
  | [] => rfl
  | x :: r => by simp only [rnRs, rnR_id x, rnRs_id r]
end
def zzz : ByteArray := ⟨#[122, 122, 122]⟩
def zVar : Var := ⟨[], [], zzz, ⟨1, 0, noBytes⟩⟩
def aloneP (p : Prg) : Prg := { p with vars := p.vars ++ [zVar] }
theorem ckVars_append {behind : List Routine} : ∀ (l r : List Var) (fs : List Scope) (s : CS), ckVars fs s (l ++ r) behind = ckVars (ckVars fs s l behind).1 (ckVars fs s l behind).2 r behind
  | [], r, fs, s => by simp only [List.nil_append, ckVars]
  | v :: l, r, fs, s => by
    simp only [List.cons_append, ckVars]
    by_cases hb : s.bad = 0
    · simp only [if_pos hb]; exact ckVars_append l r _ _
    · simp only [if_neg hb]
      cases r with
      | nil => simp only [ckVars]
      | cons v r => simp only [ckVars, if_neg hb]
theorem ckRoutines_bad (ar al : List Scope) {s : CS} (h : ¬ s.bad = 0) (l : List Routine) : ckRoutines ar al s l = s := by cases l <;> simp only [ckRoutines, if_neg h]
theorem ckStmts_bad (fs : List Scope) {s : CS} (h : ¬ s.bad = 0) (res : Int) (l : List Stmt) : ckStmts fs s res l = s := by cases l <;> simp only [ckStmts, if_neg h]
/-- Nothing of that name is laid. -/
def NoZ (fs : List Scope) : Prop := fs ≠ [] ∧ findIn fs zzz = none
theorem NoZ.lay {fs : List Scope} (h : NoZ fs) {name : ByteArray} (hn : name ≠ zzz) (s : CS) (x : Thing) : NoZ (ckLay fs s name x).1 := by
  unfold ckLay
  split
  · exact h
  · refine ⟨?_, by rw [findIn_setTop _ _ h.1, if_neg hn.symm]; exact h.2⟩
    have := h.1
    cases fs with
    | nil => exact absurd rfl this
    | cons f fs => simp [setTop]
theorem NoZ.recs : ∀ {l : List Rec}, (∀ r ∈ l, r.name ≠ zzz) → ∀ {fs : List Scope}, NoZ fs → ∀ s, NoZ (ckRecs fs s l).1
  | [], _, fs, h, s => by simp only [ckRecs]; exact h
  | r :: l, hl, fs, h, s => by
    simp only [ckRecs]
    split
    · exact NoZ.recs (fun q hq => hl q (by simp [hq])) (h.lay (hl r (by simp)) _ _) _
    · exact h
theorem NoZ.vars {behind : List Routine} : ∀ {l : List Var}, (∀ r ∈ l, r.name ≠ zzz) → ∀ {fs : List Scope}, NoZ fs → ∀ s, NoZ (ckVars fs s l behind).1
  | [], _, fs, h, s => by simp only [ckVars]; exact h
  | r :: l, hl, fs, h, s => by
    simp only [ckVars]
    split
    · exact NoZ.vars (fun q hq => hl q (by simp [hq])) (h.lay (hl r (by simp)) _ _) _
    · exact h
def notZ (n : ByteArray) : Prop := n ≠ zzz
theorem renZ : Ren id notZ := ⟨fun a b _ _ h => h, rfl, by unfold notZ; decide⟩
theorem rnThing_id (x : Thing) : rnThing id x = x := by cases x <;> simp only [rnThing, rnTyp_id, rnR_id]; rename_i r; simp only [rnRec, id_eq, map_same (f := rnFld id) (fun _ => rfl)]
/-- Of each thing in scope the names are not that one. -/
def InZ (fs : List Scope) : Prop := fs ≠ [] ∧ ∀ n, notZ n → ∀ x, findIn fs n = some x → inThing notZ x
theorem InZ.sr {fs : List Scope} (h : InZ fs) (x : Thing) : SR id notZ fs (setTop zzz x fs) := by
  refine ⟨h.1, ?_, fun n hn => ?_⟩
  · have := h.1
    cases fs with
    | nil => exact absurd rfl this
    | cons f fs => simp [setTop]
  · rw [findIn_setTop _ _ h.1, id_eq, if_neg hn]
    refine ⟨?_, h.2 n hn⟩
    cases findIn fs n <;> simp [rnThing_id]
theorem anyZ : ∀ {l : List Routine}, inRs notZ l → (l.any fun x => decide (x.name = zzz)) = false
  | [], _ => rfl
  | r :: l, h => by
    simp only [inRs] at h
    have := ((inR_eq notZ r).1 h.1).1
    simp only [List.any_cons, anyZ h.2, Bool.or_false, decide_eq_false_iff_not]
    exact this
theorem ups_pos {s s1 s' : CS} {n m : Nat} (a : Ups s s1 1) (b : Ups s1 s' m) (h0 : s.bad = 0) (e : s1.item = s.item + 1) (h1 : -1 ≤ s.item) (h2 : s.item + 1 + m ≤ 4611686018427387904) : s.item + 1 ≤ s'.item := by
  have := (b (by omega) (by omega)).1
  omega
theorem step_item (s : CS) (h1 : -1 ≤ s.item) (h2 : s.item + 1 ≤ 4611686018427387904) : s.step.item = s.item + 1 := w64_small (by omega) (by omega)
theorem stmts_on {fs : List Scope} {res : Int} {l : List Stmt} {s : CS} (h0 : s.bad = 0) (h1 : -1 ≤ s.item) (h2 : s.item + (cntL l + 1) ≤ 4611686018427387904) (hb : ¬ (ckStmts fs s res l).bad = 0) : s.item + 1 ≤ (ckStmts fs s res l).item := by
  cases l with
  | nil => simp only [ckStmts] at hb; exact absurd h0 hb
  | cons x r =>
    have hc : cntL (x :: r) = 1 + cntS x + cntL r := by simp only [cntL]
    simp only [ckStmts, if_pos h0, ckDeep_eq]
    have a := ups_stmts fs res _ x.body (Nat.le_refl _) (ckStmt fs s.step res x)
    have b := ups_stmts fs res _ x.els (Nat.le_refl _) (ckStmts fs (ckStmt fs s.step res x) res x.body)
    have c := ups_stmts fs res _ r (Nat.le_refl _) (ckStmts fs (ckStmts fs (ckStmt fs s.step res x) res x.body) res x.els)
    have t := (((ups_stmt fs s.step res x).trans a rfl).trans b rfl).trans c rfl
    have e := step_item s h1 (by omega)
    have hs := cntS_eq x
    have := (t (by omega) (by rw [e]; omega)).1
    omega
theorem routines_on {ar al : List Scope} {l : List Routine} {s : CS} (h0 : s.bad = 0) (h1 : -1 ≤ s.item) (h2 : s.item + (cntRs l + 1) ≤ 4611686018427387904) (hb : ¬ (ckRoutines ar al s l).bad = 0) : s.item + 1 ≤ (ckRoutines ar al s l).item := by
  cases l with
  | nil => simp only [ckRoutines] at hb; exact absurd h0 hb
  | cons x r =>
    have hc : cntRs (x :: r) = 1 + cntR x + cntRs r := by simp only [cntRs]
    have e := step_item s h1 (by omega)
    simp only [ckRoutines, if_pos h0]
    have a : Ups s.step (if (findIn ar x.name).isSome then s.step.fail 12 else s.step) 0 := by
      split
      · exact .fail _ (by decide)
      · exact .refl _
    generalize (if (findIn ar x.name).isSome then s.step.fail 12 else s.step) = s1 at a
    have b : Ups s1 (ckRoutine al s1 x) (cntR x) := by
      rw [ckRoutine_eq]
      have p := ups_params x.params ([] :: al) s1
      simp only
      have q : Ups (ckParams ([] :: al) s1 x.params).2 (if 0 < x.result ∧ endL x.body = false then (ckParams ([] :: al) s1 x.params).2.fail 16 else (ckParams ([] :: al) s1 x.params).2) 0 := by
        split
        · exact .fail _ (by decide)
        · exact .refl _
      refine (((p.to q).trans (ups_vars x.vars _ _) rfl).trans (ups_routines _ x.inner (Nat.le_refl _) _ _ _) rfl).trans (ups_stmts _ _ _ x.body (Nat.le_refl _) _) ?_
      rw [cntR_eq, Nat.zero_add]
    have c := ups_routines _ r (Nat.le_refl _) ar al (ckRoutine al s1 x)
    have t := (a.trans b rfl).trans c rfl
    have := (t (by omega) (by rw [e]; omega)).1
    omega
theorem InZ.recs_vars {p : Prg} (hp : inP notZ p) : InZ (ckVars (ckRecs [[]] ⟨-1, 0⟩ p.recs).1 (ckRecs [[]] ⟨-1, 0⟩ p.recs).2 p.vars p.routines).1 := by
  have s0 : SR id notZ [[]] [[]] := ⟨by simp, by simp, fun n sn => by simp [findIn, look]⟩
  obtain ⟨a1, a2⟩ := rn_recs renZ (d := 0) hp.recs s0 (s := ⟨-1, 0⟩) (s' := ⟨-1, 0⟩) ⟨rfl, by decide⟩
  obtain ⟨b1, b2⟩ := rn_vars renZ hp.routines hp.vars a1 a2
  exact ⟨b1.1, fun n hn => (b1.2.2 n hn).2⟩
theorem alone_law (p : Prg) (hp : inP notZ p) (hw : wP p ≤ 1048576) :
    check (aloneP p) = (if ¬ (check p).2 = 0 ∧ (p.recs.length : Int) + p.vars.length ≤ (check p).1 then (check p).1 + 1 else (check p).1, (check p).2) := by
  have hcnt := cntP_le p
  have hc0 : cntP p = p.recs.length + p.vars.length + cntRs p.routines + cntL p.body := rfl
  have hr : NoZ (ckRecs [[]] ⟨-1, 0⟩ p.recs).1 := NoZ.recs (fun r hr => (hp.recs r hr).1) ⟨by simp, by simp [findIn, look]⟩ _
  have hz := NoZ.vars (behind := p.routines) (l := p.vars) (fun r hr => (hp.vars r hr).1) hr (ckRecs [[]] ⟨-1, 0⟩ p.recs).2
  have hin := InZ.recs_vars hp
  have u1 := ups_recs p.recs [[]] ⟨-1, 0⟩
  have u2 := ups_vars (behind := p.routines) p.vars (ckRecs [[]] ⟨-1, 0⟩ p.recs).1 (ckRecs [[]] ⟨-1, 0⟩ p.recs).2
  have u := u1.trans u2 rfl
  obtain ⟨v1, v2, v3⟩ := u (by simp) (by simp; omega)
  have eq : ckVars (ckRecs [[]] ⟨-1, 0⟩ p.recs).1 (ckRecs [[]] ⟨-1, 0⟩ p.recs).2 (p.vars ++ [zVar]) p.routines = ckVars (ckVars (ckRecs [[]] ⟨-1, 0⟩ p.recs).1 (ckRecs [[]] ⟨-1, 0⟩ p.recs).2 p.vars p.routines).1 (ckVars (ckRecs [[]] ⟨-1, 0⟩ p.recs).1 (ckRecs [[]] ⟨-1, 0⟩ p.recs).2 p.vars p.routines).2 [zVar] p.routines := ckVars_append _ _ _ _
  have ep : ckAll p = ckStmts (allOf [] p.routines :: (ckVars (ckRecs [[]] ⟨-1, 0⟩ p.recs).1 (ckRecs [[]] ⟨-1, 0⟩ p.recs).2 p.vars p.routines).1) (ckRoutines (ckVars (ckRecs [[]] ⟨-1, 0⟩ p.recs).1 (ckRecs [[]] ⟨-1, 0⟩ p.recs).2 p.vars p.routines).1 (allOf [] p.routines :: (ckVars (ckRecs [[]] ⟨-1, 0⟩ p.recs).1 (ckRecs [[]] ⟨-1, 0⟩ p.recs).2 p.vars p.routines).1) (ckVars (ckRecs [[]] ⟨-1, 0⟩ p.recs).1 (ckRecs [[]] ⟨-1, 0⟩ p.recs).2 p.vars p.routines).2 p.routines) 0 p.body := rfl
  have ea : ckAll (aloneP p) = ckStmts (allOf [] p.routines :: (ckVars (ckRecs [[]] ⟨-1, 0⟩ p.recs).1 (ckRecs [[]] ⟨-1, 0⟩ p.recs).2 (p.vars ++ [zVar]) p.routines).1) (ckRoutines (ckVars (ckRecs [[]] ⟨-1, 0⟩ p.recs).1 (ckRecs [[]] ⟨-1, 0⟩ p.recs).2 (p.vars ++ [zVar]) p.routines).1 (allOf [] p.routines :: (ckVars (ckRecs [[]] ⟨-1, 0⟩ p.recs).1 (ckRecs [[]] ⟨-1, 0⟩ p.recs).2 (p.vars ++ [zVar]) p.routines).1) (ckVars (ckRecs [[]] ⟨-1, 0⟩ p.recs).1 (ckRecs [[]] ⟨-1, 0⟩ p.recs).2 (p.vars ++ [zVar]) p.routines).2 p.routines) 0 p.body := rfl
  rw [eq] at ea
  clear eq
  generalize ckVars (ckRecs [[]] ⟨-1, 0⟩ p.recs).1 (ckRecs [[]] ⟨-1, 0⟩ p.recs).2 p.vars p.routines = b at *
  obtain ⟨fs, s⟩ := b
  simp only at *
  by_cases hb : s.bad = 0
  · obtain ⟨_, v4⟩ := v3 hb
    have e1 : ckVars fs s [zVar] p.routines = (setTop zzz (.var zVar.t) fs, s.step) := by
      have ha : (p.routines.any fun x => decide (x.name = zVar.name)) = false := anyZ hp.routines
      have hl : findIn fs zVar.name = none := hz.2
      have hk : ¬ zVar.t.kind = 4 := by decide
      simp only [ckVars, if_pos hb, ha, Bool.false_eq_true, if_false, ckLay, hl, ckTyp, if_neg hk]
      rfl
    rw [e1] at ea
    have r1 := hin.sr (.var zVar.t)
    have r2 := SR.all renZ r1 hp.routines
    rw [rnRs_id] at r2
    have sh : Sh 1 s s.step := ⟨rfl, rfl⟩
    have c1 := rn_routines renZ _ p.routines (Nat.le_refl _) hp.routines r1 r2 sh
    rw [rnRs_id] at c1
    have d1 := rn_stmts renZ r2 _ p.body (Nat.le_refl _) hp.body c1 0
    rw [rnSs_id] at d1
    simp only at ea
    rw [← ea, ← ep] at d1
    by_cases h0 : (ckAll p).bad = 0
    · have h0' : (ckAll (aloneP p)).bad = 0 := by rw [d1.1]; exact h0
      simp [check, h0, h0']
    · have h0' : ¬ (ckAll (aloneP p)).bad = 0 := by rw [d1.1]; exact h0
      have up := (((ups_routines _ p.routines (Nat.le_refl _) fs (allOf [] p.routines :: fs) s).trans (ups_stmts (allOf [] p.routines :: fs) 0 _ p.body (Nat.le_refl _) _) rfl) (by simp at v4; omega) (by simp at v4; omega)).2.1
      rw [← ep] at up
      have low : s.item + 1 ≤ (ckAll p).item := by
        by_cases hc : (ckRoutines fs (allOf [] p.routines :: fs) s p.routines).bad = 0
        · have q := (ups_routines _ p.routines (Nat.le_refl _) fs (allOf [] p.routines :: fs) s) (by simp at v4; omega) (by simp at v4; omega)
          have q2 := (q.2.2 hc).2
          have := stmts_on (fs := allOf [] p.routines :: fs) (res := 0) (l := p.body) hc (by simp at v4; omega) (by rw [q2]; simp at v4; omega) (by rw [← ep]; exact h0)
          rw [← ep] at this
          omega
        · have := routines_on (ar := fs) (al := allOf [] p.routines :: fs) (l := p.routines) hb (by simp at v4; omega) (by simp at v4; omega) hc
          rw [ep, ckStmts_bad _ hc]; exact this
      have hi : (ckAll (aloneP p)).item = (ckAll p).item + 1 := by
        rw [d1.2]
        exact w64_small (by simp at v4; omega) (by simp at v4; omega)
      have hge : (p.recs.length : Int) + p.vars.length ≤ (ckAll p).item := by simp at v4; omega
      simp [check, h0, h0', hi, hge, d1.1]
  · have e1 : ckVars fs s [zVar] p.routines = (fs, s) := by simp only [ckVars, if_neg hb]
    rw [e1] at ea
    simp only at ea
    rw [ckRoutines_bad _ _ hb, ckStmts_bad _ hb] at ep ea
    have hlt : ¬ (p.recs.length : Int) + p.vars.length ≤ s.item := by simp at v2; omega
    simp [check, ep, ea, hb, hlt]
end Pg
