import Derived.Test.YtpebidcmkjjpnaaTreeS
import Derived.Test.YtpebidcmkjjpnaaR12c
import Derived.Test.YtpebidcmkjjpnaaCount2
namespace Pg
open Go
set_option linter.unusedSimpArgs false
set_option linter.unusedVariables false
set_option maxHeartbeats 4000000
set_option maxRecDepth 4000
theorem few_of {α : Type} {l : List α} (h : l.length ≤ 1000000) : few l := by unfold few; omega
theorem thRoutine_le (x : Routine) : AVle (.agg (.str x.name :: .int .i64 2 :: .sl [] true :: .sl [] true :: .str ⟨#[]⟩ :: .sl [] true :: .sl [] true :: splice [.sl [] true, .sl [] true, .str ⟨#[]⟩, .int .i64 0, .sl [] true, .sl [] true, .sl [] true, .sl [] true, .sl [] true, .int .i64 0, .int .i64 0, .str ⟨#[]⟩] 0 (eRoutine x))) (.agg (eTh (thRoutine x))) := by
  rw [eRoutine_eq x]
  refine AVle.agg ?_
  simp only [splice, List.take_zero, List.nil_append, List.length_cons, List.length_nil, List.drop_succ_cons, List.drop_zero, List.cons_append, eTh, thRoutine]
  repeat' (first | exact AVles.nil | refine AVles.cons ?_ ?_)
  all_goals first | exact .refl _ | exact AVle.sl _ _
theorem thRec_le (x : Rec) : AVle (.agg (.str x.name :: .int .i64 1 :: splice [.sl [] true, .sl [] true, .str ⟨#[]⟩, .sl [] true, .sl [] true, .sl [] true, .sl [] true, .str ⟨#[]⟩, .int .i64 0, .sl [] true, .sl [] true, .sl [] true, .sl [] true, .sl [] true, .int .i64 0, .int .i64 0, .str ⟨#[]⟩] 0 (eRec x))) (.agg (eTh (thRec x))) := by
  refine AVle.agg ?_
  simp only [eRec, splice, List.take_zero, List.nil_append, List.length_cons, List.length_nil, List.drop_succ_cons, List.drop_zero, List.cons_append, eTh, thRec]
  repeat' (first | exact AVles.nil | refine AVles.cons ?_ ?_)
  all_goals first | exact .refl _ | exact AVle.sl _ _
theorem thVar_le (name : ByteArray) (t : Typ) : AVle (.agg (.str name :: .int .i64 3 :: .sl [] true :: .sl [] true :: .str ⟨#[]⟩ :: .sl [] true :: .sl [] true :: .sl [] true :: .sl [] true :: .str ⟨#[]⟩ :: .int .i64 0 :: .sl [] true :: .sl [] true :: .sl [] true :: .sl [] true :: .sl [] true :: eTyp t)) (.agg (eTh (thVar name t))) := by
  refine AVle.agg ?_
  simp only [eTyp, eTh, thVar]
  repeat' (first | exact AVles.nil | refine AVles.cons ?_ ?_)
  all_goals first | exact .refl _ | exact AVle.sl _ _
theorem Visible_spec (h : AHeap) (env : List Th) (l : List Routine) (hn : env.length + l.length ≤ 1000000) (full f2 : Bool) : ACalls Go.Proofs.Try.prog 101 [.sl (eEnv env) full, .sl (l.map eRoutine) f2] h (fun v g => v = .sl (eEnv (rVis env l)) false ∧ g = h) := by
  refine F101.calls (by simp) ?_
  delta F101.c0
  simp -implicitDefEqProofs only [↓pgPre,go_sem,seval]
  refine lT_list l (fun pre post e g => (∃ f, e = [(0, .sl (eEnv (rVis env pre)) f), (1, .sl (l.map eRoutine) f2), (5, .int .i64 pre.length)]) ∧ g = h) (WeakE.env ?_) ⟨⟨full, by simp [rVis]; rfl⟩, rfl⟩ ?_ ?_
  · skip
    repeat' (first | exact EnvLe.nil _ | refine EnvLe.cons ?_ ?_)
    all_goals (simp -implicitDefEqProofs only [↓pgPre,go_sem,seval]; try first | exact AVle.refl _ | exact AVle.sl _ _ | exact AVle.gs _ _ _ | assumption)
  · rintro pre x post e g hp ⟨⟨f, rfl⟩, rfl⟩
    have hpl := (at_pre hp).2
    simp -implicitDefEqProofs only [↓pgPre,go_sem,seval, lt_at hp, aia_sl (map_at hp) (eRoutine_len x), routine_2, eRoutine_len, routine_take]
    refine callT_le (with_spec g (rVis env pre) (by simp [rVis]; omega) f (thRoutine x)) (.cons (.refl _) (.cons (thRoutine_le x) .nil)) (fun v k ⟨hv, hk⟩ => ?_)
    subst v k
    simp -implicitDefEqProofs only [↓pgPre,go_sem,seval]
    refine ⟨_, _, WeakE.env ?_, ⟨false, rfl⟩, rfl⟩
    repeat' (first | exact EnvLe.nil _ | refine EnvLe.cons ?_ ?_)
    all_goals (simp -implicitDefEqProofs only [↓pgPre,go_sem,seval, step_at (few_of (l := l) (by omega)) hp]; try first | exact AVle.refl _ | exact AVle.sl _ _ | exact AVle.gs _ _ _ | assumption)
    simp [rVis]
    exact .refl _
  · rintro e g ⟨⟨f, rfl⟩, rfl⟩
    simp -implicitDefEqProofs only [↓pgPre,go_sem,seval, lt_end]
    refine lessQ.same ?_
    simp -implicitDefEqProofs only [↓pgPre,go_sem,seval]
    exact EndW.less (AVle.sl _ _) (AHeap.le_refl _) ⟨rfl, rfl⟩
theorem EnvOk.with {env : List Th} (o : EnvOk env) {x : Th} (h : Pg.few x.rcd.fields) (hl : env.length + 1 ≤ 1000000) : EnvOk (env ++ [x]) := by
  refine ⟨by simpa using hl, fun y hy => ?_⟩
  rcases List.mem_append.1 hy with hy | hy
  · exact o.fields y hy
  · simp at hy; subst hy; exact h
theorem EnvOk.vis {env : List Th} (o : EnvOk env) {l : List Routine} (hl : env.length + l.length ≤ 1000000) : EnvOk (rVis env l) := by
  refine ⟨by simpa [rVis] using hl, fun y hy => ?_⟩
  rcases List.mem_append.1 hy with hy | hy
  · exact o.fields y hy
  · obtain ⟨x, _, rfl⟩ := List.mem_map.1 hy; exact few_of (by simp [thRoutine, noRec])
theorem rVars_len (behind : List Routine) : ∀ (l : List Var) (env : List Th) (s : CS), (rVars env s l behind).1.length ≤ env.length + l.length
  | [], env, s => by simp [rVars]
  | v :: r, env, s => by
    simp only [rVars]
    split
    · have := rVars_len behind r (env ++ [thVar v.name v.t]) (rTyp env (if behind.any (fun x => decide (x.name = v.name)) then (rNew env s.step v.name).fail 12 else rNew env s.step v.name) v.t)
      simp at this ⊢; omega
    · simp
theorem CS.fail_twice (s : CS) {e : Int} (he : e ≠ 0) : (s.fail e).fail e = s.fail e := by
  rw [CS.fail_bad _ _ (fail_ne s he)]
theorem EnvOk.var {env : List Th} (o : EnvOk env) (name : ByteArray) (t : Typ) (hl : env.length + 1 ≤ 1000000) : EnvOk (env ++ [thVar name t]) := o.with (few_of (by simp [thVar, noRec])) hl
theorem vars_spec12 (behind : List Routine) (hbl : behind.length ≤ 1000) {h : AHeap} {c : Nat} {s : CS} {env : List Th} (hc : h c = some (lkBlk s)) (o : EnvOk env) (l : List Var) (hl : env.length + l.length ≤ 1000000) (full f2 f3 : Bool) :
    ACalls Go.Proofs.Try.prog 98 [.ptr (some ⟨c, 0, none⟩), .sl (eEnv env) full, .sl (l.map eVar) f2, .sl (behind.map eRoutine) f3] h (fun v g => v = .sl (eEnv (rVars env s l behind).1) false ∧ g = h.upd c (lkBlk (rVars env s l behind).2)) := by
  refine F98.calls (by simp) ?_
  delta F98.c0
  simp -implicitDefEqProofs only [↓pgPre,go_sem,seval]
  refine lT_list l (fun pre post e g => ∃ (f : Bool) (env' : List Th) (s' : CS), EnvOk env' ∧ env'.length = env.length + pre.length ∧ rVars env s l behind = rVars env' s' post behind ∧ e = [(0, .ptr (some ⟨c, 0, none⟩)), (1, .sl (eEnv env') f), (2, .sl (l.map eVar) f2), (3, .sl (behind.map eRoutine) f3), (9, .int .i64 pre.length)] ∧ g = h.upd c (lkBlk s')) (WeakE.env ?_) ⟨full, env, s, o, rfl, rfl, rfl, (upd_self hc).symm⟩ ?_ ?_
  · skip
    repeat' (first | exact EnvLe.nil _ | refine EnvLe.cons ?_ ?_)
    all_goals (simp -implicitDefEqProofs only [↓pgPre,go_sem,seval]; try first | exact AVle.refl _ | exact AVle.sl _ _ | exact AVle.gs _ _ _ | assumption)
  · rintro pre x post e g hp ⟨f, env', s', o', hel, hs, rfl, rfl⟩
    have hpl := (at_pre hp).2
    have hw : env'.length + 1 ≤ 1000000 := by omega
    simp -implicitDefEqProofs only [↓pgPre,go_sem,seval, lt_at hp]
    refine callT_of (next_spec12 (s := s') (upd_same _ _ _)) (fun v g ⟨hv, hg⟩ => ?_)
    subst v g
    by_cases hb : s'.bad = 0
    · have hsp : rVars env' s' (x :: post) behind = rVars (env' ++ [thVar x.name x.t]) (rTyp env' (if behind.any (fun y => decide (y.name = x.name)) then (rNew env' s'.step x.name).fail 12 else rNew env' s'.step x.name) x.t) post behind := by simp only [rVars, hb, if_true]
      simp -implicitDefEqProofs only [↓pgPre,go_sem,seval, hb, upd_upd, aia_sl (map_at hp) (eVar_len x)]
      refine callT_of (find_spec12 _ env' o'.fewE f x.name) (fun v g ⟨hv, hg⟩ => ?_)
      subst v g
      by_cases hk : (rFind env' x.name).kind = 0
      all_goals simp -implicitDefEqProofs only [↓pgPre,go_sem,seval, hk, th_1, eTh_len]
      all_goals
        first
        | (refine callT_of (fail_spec12 (s := s'.step) (upd_same _ _ _) 12) (fun v g ⟨hv, hg⟩ => ?_)
           subst v g
           have hN : s'.step.fail 12 = rNew env' s'.step x.name := by simp [rNew, hk]
           rw [hN]
           simp -implicitDefEqProofs only [↓pgPre,go_sem,seval, upd_upd])
        | (have hN : s'.step = rNew env' s'.step x.name := by simp [rNew, hk]
           rw [hN])
      all_goals
        generalize rNew env' s'.step x.name = sN at hsp
        refine lT_list behind (fun pre2 post2 e g => g = h.upd c (lkBlk (if pre2.any (fun y => decide (y.name = x.name)) then sN.fail 12 else sN)) ∧ e = [(0, .ptr (some ⟨c, 0, none⟩)), (1, .sl (eEnv env') f), (2, .sl (l.map eVar) f2), (3, .sl (behind.map eRoutine) f3), (9, .int .i64 pre.length), (10, .int .i64 pre2.length)]) (WeakE.env ?_) ⟨rfl, rfl⟩ ?_ ?_
        · skip
          repeat' (first | exact EnvLe.nil _ | refine EnvLe.cons ?_ ?_)
          all_goals (simp -implicitDefEqProofs only [↓pgPre,go_sem,seval]; try first | exact AVle.refl _ | exact AVle.sl _ _ | exact AVle.gs _ _ _ | assumption)
        · rintro pre2 y post2 e g hp2 ⟨rfl, rfl⟩
          by_cases he : y.name = x.name
          · simp -implicitDefEqProofs only [↓pgPre,go_sem,seval, lt_at hp2, aia_sl (map_at hp2) (eRoutine_len y), aia_sl (map_at hp) (eVar_len x), he]
            refine callT_of (fail_spec12 (upd_same _ _ _) 12) (fun v g ⟨hv, hg⟩ => ?_)
            subst v g
            simp -implicitDefEqProofs only [↓pgPre,go_sem,seval, upd_upd]
            refine ⟨_, _, WeakE.env ?_, ?_, rfl⟩
            · skip
              repeat' (first | exact EnvLe.nil _ | refine EnvLe.cons ?_ ?_)
              all_goals (simp -implicitDefEqProofs only [↓pgPre,go_sem,seval, step_at (few_small hbl) hp2]; try first | exact AVle.refl _ | exact AVle.sl _ _ | exact AVle.gs _ _ _ | assumption)
            · congr 2
              cases hh : pre2.any (fun y => decide (y.name = x.name)) <;> simp [List.any_append, hh, he, CS.fail_twice]
          · simp -implicitDefEqProofs only [↓pgPre,go_sem,seval, lt_at hp2, aia_sl (map_at hp2) (eRoutine_len y), aia_sl (map_at hp) (eVar_len x), he]
            refine ⟨_, _, WeakE.env ?_, ?_, rfl⟩
            · skip
              repeat' (first | exact EnvLe.nil _ | refine EnvLe.cons ?_ ?_)
              all_goals (simp -implicitDefEqProofs only [↓pgPre,go_sem,seval, step_at (few_small hbl) hp2]; try first | exact AVle.refl _ | exact AVle.sl _ _ | exact AVle.gs _ _ _ | assumption)
            · congr 2
              cases hh : pre2.any (fun y => decide (y.name = x.name)) <;> simp [List.any_append, hh, he]
        · rintro e g ⟨rfl, rfl⟩
          simp -implicitDefEqProofs only [↓pgPre,go_sem,seval, lt_end]
          refine lessQ.same ?_
          have tk : ((eVar x).drop 3).take 3 = eTyp x.t := rfl
          simp -implicitDefEqProofs only [↓pgPre,go_sem,seval, aia_sl (map_at hp) (eVar_len x), eVar_len, tk]
          refine callT_of (typ_spec12 (upd_same _ _ _) env' o'.fewE f x.t) (fun v g ⟨hv, hg⟩ => ?_)
          subst v g
          simp -implicitDefEqProofs only [↓pgPre,go_sem,seval, upd_upd, aia_sl (map_at hp) (eVar_len x), eVar_len, tk]
          refine callT_le (with_spec _ env' o'.few f (thVar x.name x.t)) (.cons (.refl _) (.cons (thVar_le x.name x.t) .nil)) (fun v k ⟨hv, hk⟩ => ?_)
          subst v k
          simp -implicitDefEqProofs only [↓pgPre,go_sem,seval]
          refine ⟨_, _, WeakE.env ?_, false, _, _, o'.var x.name x.t hw, ?_, ?_, rfl, rfl⟩
          · skip
            repeat' (first | exact EnvLe.nil _ | refine EnvLe.cons ?_ ?_)
            all_goals (simp -implicitDefEqProofs only [↓pgPre,go_sem,seval, step_at (few_of (l := l) (by omega)) hp]; try first | exact AVle.refl _ | exact AVle.sl _ _ | exact AVle.gs _ _ _ | assumption)
          · simp; omega
          · rw [hs, hsp]
    · simp -implicitDefEqProofs only [↓pgPre,go_sem,seval, hb, upd_upd]
      refine lessQ.same ?_
      simp -implicitDefEqProofs only [↓pgPre,go_sem,seval]
      have hr : rVars env' s' (x :: post) behind = (env', s') := by simp [rVars, hb]
      rw [hs, hr]
      exact EndW.less (AVle.sl _ _) (AHeap.le_refl _) ⟨rfl, rfl⟩
  · rintro e g ⟨f, env', s', o', hel, hs, rfl, rfl⟩
    simp -implicitDefEqProofs only [↓pgPre,go_sem,seval, lt_end]
    refine lessQ.same ?_
    simp -implicitDefEqProofs only [↓pgPre,go_sem,seval]
    rw [hs]
    exact EndW.less (AVle.sl _ _) (AHeap.le_refl _) ⟨rfl, rfl⟩
/-! ### The records -/
theorem twice_snoc (x : Fld) : ∀ (l a : List Fld), twice a (l ++ [x]) = (twice a l || (a ++ l).any fun g => decide (g.name = x.name))
  | [], a => by simp [twice]
  | y :: l, a => by
    simp only [List.cons_append, twice]
    rw [twice_snoc x l (a ++ [y])]
    simp [Bool.or_assoc]
theorem rRecs_len : ∀ (l : List Rec) (env : List Th) (s : CS), (rRecs env s l).1.length ≤ env.length + l.length
  | [], env, s => by simp [rRecs]
  | v :: r, env, s => by
    simp only [rRecs]
    split
    · have := rRecs_len r (env ++ [thRec v]) (if twice [] v.fields then (rNew env s.step v.name).fail 12 else rNew env s.step v.name)
      simp at this ⊢; omega
    · simp
theorem recs_spec12 {h : AHeap} {c : Nat} {s : CS} (hc : h c = some (lkBlk s)) (l : List Rec) (hl : l.length ≤ 1000) (hf : ∀ r ∈ l, few r.fields) (f2 : Bool) :
    ACalls Go.Proofs.Try.prog 97 [.ptr (some ⟨c, 0, none⟩), .sl (l.map eRec) f2] h (fun v g => v = .sl (eEnv (rRecs [] s l).1) false ∧ g = h.upd c (lkBlk (rRecs [] s l).2)) := by
  refine F97.calls (by simp) ?_
  delta F97.c0
  simp -implicitDefEqProofs only [↓pgPre,go_sem,seval]
  refine lT_list l (fun pre post e g => ∃ (f : Bool) (env' : List Th) (s' : CS), EnvOk env' ∧ env'.length = pre.length ∧ rRecs [] s l = rRecs env' s' post ∧ e = [(0, .ptr (some ⟨c, 0, none⟩)), (1, .sl (l.map eRec) f2), (5, .sl (eEnv env') f), (6, .int .i64 pre.length)] ∧ g = h.upd c (lkBlk s')) (WeakE.env ?_) ⟨true, [], s, ⟨by simp, by simp⟩, rfl, rfl, rfl, (upd_self hc).symm⟩ ?_ ?_
  · skip
    repeat' (first | exact EnvLe.nil _ | refine EnvLe.cons ?_ ?_)
    all_goals (simp -implicitDefEqProofs only [↓pgPre,go_sem,seval]; try first | exact AVle.refl _ | exact AVle.sl _ _ | exact AVle.gs _ _ _ | assumption)
  · rintro pre x post e g hp ⟨f, env', s', o', hel, hs, rfl, rfl⟩
    have hpl := (at_pre hp).2
    have hw : env'.length + 1 ≤ 1000000 := by omega
    have hff := hf x (mem_at hp)
    simp -implicitDefEqProofs only [↓pgPre,go_sem,seval, lt_at hp]
    refine callT_of (next_spec12 (s := s') (upd_same _ _ _)) (fun v g ⟨hv, hg⟩ => ?_)
    subst v g
    by_cases hb : s'.bad = 0
    · have hsp : rRecs env' s' (x :: post) = rRecs (env' ++ [thRec x]) (if twice [] x.fields then (rNew env' s'.step x.name).fail 12 else rNew env' s'.step x.name) post := by simp only [rRecs, hb, if_true]
      simp -implicitDefEqProofs only [↓pgPre,go_sem,seval, hb, upd_upd, aia_sl (map_at hp) (eRec_len x)]
      refine callT_of (find_spec12 _ env' o'.fewE f x.name) (fun v g ⟨hv, hg⟩ => ?_)
      subst v g
      by_cases hk : (rFind env' x.name).kind = 0
      all_goals simp -implicitDefEqProofs only [↓pgPre,go_sem,seval, hk, th_1, eTh_len]
      all_goals
        first
        | (refine callT_of (fail_spec12 (s := s'.step) (upd_same _ _ _) 12) (fun v g ⟨hv, hg⟩ => ?_)
           subst v g
           have hN : s'.step.fail 12 = rNew env' s'.step x.name := by simp [rNew, hk]
           rw [hN]
           simp -implicitDefEqProofs only [↓pgPre,go_sem,seval, upd_upd])
        | (have hN : s'.step = rNew env' s'.step x.name := by simp [rNew, hk]
           rw [hN])
      all_goals
        generalize rNew env' s'.step x.name = sN at hsp
        refine lT_list x.fields (fun pre2 post2 e g => g = h.upd c (lkBlk (if twice [] pre2 then sN.fail 12 else sN)) ∧ e = [(0, .ptr (some ⟨c, 0, none⟩)), (1, .sl (l.map eRec) f2), (5, .sl (eEnv env') f), (6, .int .i64 pre.length), (7, .int .i64 pre2.length)]) (WeakE.env ?_) ⟨rfl, rfl⟩ ?_ ?_
        · skip
          repeat' (first | exact EnvLe.nil _ | refine EnvLe.cons ?_ ?_)
          all_goals (simp -implicitDefEqProofs only [↓pgPre,go_sem,seval]; try first | exact AVle.refl _ | exact AVle.sl _ _ | exact AVle.gs _ _ _ | assumption)
        · rintro pre2 y post2 e g hp2 ⟨rfl, rfl⟩
          simp -implicitDefEqProofs only [↓pgPre,go_sem,seval, lt_at hp2, aia_sl (map_at hp) (eRec_len x)]
          refine lT_list pre2 (fun pre3 post3 e g => g = h.upd c (lkBlk (if twice [] pre2 || pre3.any (fun g => decide (g.name = y.name)) then sN.fail 12 else sN)) ∧ e = [(0, .ptr (some ⟨c, 0, none⟩)), (1, .sl (l.map eRec) f2), (5, .sl (eEnv env') f), (6, .int .i64 pre.length), (7, .int .i64 pre2.length), (8, .int .i64 pre3.length)]) (WeakE.env ?_) ⟨by simp, rfl⟩ ?_ ?_
          · skip
            repeat' (first | exact EnvLe.nil _ | refine EnvLe.cons ?_ ?_)
            all_goals (simp -implicitDefEqProofs only [↓pgPre,go_sem,seval]; try first | exact AVle.refl _ | exact AVle.sl _ _ | exact AVle.gs _ _ _ | assumption)
          · rintro pre3 z post3 e g hp3 ⟨rfl, rfl⟩
            have hp3' : x.fields = pre3 ++ z :: (post3 ++ y :: post2) := by rw [hp2, hp3]; simp
            by_cases he : z.name = y.name
            · simp -implicitDefEqProofs only [↓pgPre,go_sem,seval, lt_at hp3, aia_sl (map_at hp) (eRec_len x), aia_sl (map_at hp3') (eFld_len z), aia_sl (map_at hp2) (eFld_len y), he]
              refine callT_of (fail_spec12 (upd_same _ _ _) 12) (fun v g ⟨hv, hg⟩ => ?_)
              subst v g
              simp -implicitDefEqProofs only [↓pgPre,go_sem,seval, upd_upd]
              refine ⟨_, _, WeakE.env ?_, ?_, rfl⟩
              · skip
                repeat' (first | exact EnvLe.nil _ | refine EnvLe.cons ?_ ?_)
                all_goals (simp -implicitDefEqProofs only [↓pgPre,go_sem,seval, step_at (l := pre2) (by have := (at_pre hp2).2; unfold few at hff ⊢; omega) hp3]; try first | exact AVle.refl _ | exact AVle.sl _ _ | exact AVle.gs _ _ _ | assumption)
              · congr 2
                cases hh : (twice [] pre2 || pre3.any (fun g => decide (g.name = y.name))) <;> simp [List.any_append, he, CS.fail_twice]
            · simp -implicitDefEqProofs only [↓pgPre,go_sem,seval, lt_at hp3, aia_sl (map_at hp) (eRec_len x), aia_sl (map_at hp3') (eFld_len z), aia_sl (map_at hp2) (eFld_len y), show (y.name = z.name) = False by simpa using fun hh => he hh.symm]
              refine ⟨_, _, WeakE.env ?_, ?_, rfl⟩
              · skip
                repeat' (first | exact EnvLe.nil _ | refine EnvLe.cons ?_ ?_)
                all_goals (simp -implicitDefEqProofs only [↓pgPre,go_sem,seval, step_at (l := pre2) (by have := (at_pre hp2).2; unfold few at hff ⊢; omega) hp3]; try first | exact AVle.refl _ | exact AVle.sl _ _ | exact AVle.gs _ _ _ | assumption)
              · rw [show (pre3 ++ [z]).any (fun g => decide (g.name = y.name)) = pre3.any (fun g => decide (g.name = y.name)) by simp [List.any_append, he]]
          · rintro e g ⟨rfl, rfl⟩
            simp -implicitDefEqProofs only [↓pgPre,go_sem,seval, lt_end]
            refine lessQ.same ?_
            simp -implicitDefEqProofs only [↓pgPre,go_sem,seval]
            refine ⟨_, _, WeakE.env ?_, ?_, rfl⟩
            · skip
              repeat' (first | exact EnvLe.nil _ | refine EnvLe.cons ?_ ?_)
              all_goals (simp -implicitDefEqProofs only [↓pgPre,go_sem,seval, step_at hff hp2]; try first | exact AVle.refl _ | exact AVle.sl _ _ | exact AVle.gs _ _ _ | assumption)
            · rw [twice_snoc]; rfl
        · rintro e g ⟨rfl, rfl⟩
          simp -implicitDefEqProofs only [↓pgPre,go_sem,seval, aia_sl (map_at hp) (eRec_len x), lt_end]
          refine lessQ.same ?_
          simp -implicitDefEqProofs only [↓pgPre,go_sem,seval, aia_sl (map_at hp) (eRec_len x), eRec_len, rec_take]
          refine callT_le (with_spec _ env' o'.few f (thRec x)) (.cons (.refl _) (.cons (thRec_le x) .nil)) (fun v k ⟨hv, hk⟩ => ?_)
          subst v k
          simp -implicitDefEqProofs only [↓pgPre,go_sem,seval]
          refine ⟨_, _, WeakE.env ?_, false, _, _, o'.with (x := thRec x) hff hw, ?_, ?_, rfl, rfl⟩
          · skip
            repeat' (first | exact EnvLe.nil _ | refine EnvLe.cons ?_ ?_)
            all_goals (simp -implicitDefEqProofs only [↓pgPre,go_sem,seval, step_at (few_of (l := l) (by omega)) hp]; try first | exact AVle.refl _ | exact AVle.sl _ _ | exact AVle.gs _ _ _ | assumption)
          · simp; omega
          · rw [hs, hsp]
    · simp -implicitDefEqProofs only [↓pgPre,go_sem,seval, hb, upd_upd]
      refine lessQ.same ?_
      simp -implicitDefEqProofs only [↓pgPre,go_sem,seval]
      have hr : rRecs env' s' (x :: post) = (env', s') := by simp [rRecs, hb]
      rw [hs, hr]
      exact EndW.less (AVle.sl _ _) (AHeap.le_refl _) ⟨rfl, rfl⟩
  · rintro e g ⟨f, env', s', o', hel, hs, rfl, rfl⟩
    simp -implicitDefEqProofs only [↓pgPre,go_sem,seval, lt_end]
    refine lessQ.same ?_
    simp -implicitDefEqProofs only [↓pgPre,go_sem,seval]
    rw [hs]
    exact EndW.less (AVle.sl _ _) (AHeap.le_refl _) ⟨rfl, rfl⟩
/-! ### The routines -/
theorem rParams_len : ∀ (l : List Param) (env : List Th) (s : CS), (rParams env s l).1.length = env.length + l.length
  | [], env, s => by simp [rParams]
  | v :: r, env, s => by
    simp only [rParams]
    rw [rParams_len]; simp; omega
theorem rParams_ok : ∀ (l : List Param) {env : List Th} (s : CS), EnvOk env → env.length + l.length ≤ 1000000 → EnvOk (rParams env s l).1
  | [], env, s, o, _ => o
  | v :: r, env, s, o, h => by
    simp only [rParams]
    exact rParams_ok r _ (o.var v.name v.t (by simp at h; omega)) (by simp at h ⊢; omega)
theorem rVars_ok (behind : List Routine) : ∀ (l : List Var) {env : List Th} (s : CS), EnvOk env → env.length + l.length ≤ 1000000 → EnvOk (rVars env s l behind).1
  | [], env, s, o, _ => o
  | v :: r, env, s, o, h => by
    simp only [rVars]
    split
    · exact rVars_ok behind r _ (o.var v.name v.t (by simp at h; omega)) (by simp at h ⊢; omega)
    · exact o
theorem rRecs_ok : ∀ (l : List Rec) {env : List Th} (s : CS), EnvOk env → (∀ r ∈ l, few r.fields) → env.length + l.length ≤ 1000000 → EnvOk (rRecs env s l).1
  | [], env, s, o, _, _ => o
  | v :: r, env, s, o, hf, h => by
    simp only [rRecs]
    split
    · exact rRecs_ok r _ (o.with (x := thRec v) (hf v (by simp)) (by simp at h; omega)) (fun x hx => hf x (by simp [hx])) (by simp at h ⊢; omega)
    · exact o
theorem tRoutine_eq (ahead : List ByteArray) (x : Routine) (d : Int) : tRoutine ahead x d = (decide (d ≤ 48) && tMarks x.before x.trail && tNotes x.endd && tName x.name && decide (0 ≤ x.result) && decide (x.result ≤ 3) && !among x.name ahead && tParams x.params && tVars x.vars && (tRoutines [] x.inner (d + 1) && decide (x.inner.length ≤ 512)) && (tStmts x.body 1 && decide (x.body.length ≤ 512))) := by
  obtain ⟨before, trail, name, result, params, vars, inner, body, endd⟩ := x; rfl
theorem tRoutines_mem {d : Int} : ∀ {l : List Routine} {x : Routine} {ahead : List ByteArray}, tRoutines ahead l d = true → x ∈ l → ∃ a, tRoutine a x d = true
  | y :: r, x, ahead, h, hx => by
    simp only [tRoutines, Bool.and_eq_true] at h
    rcases List.mem_cons.1 hx with rfl | hx
    · exact ⟨_, h.1⟩
    · exact tRoutines_mem h.2 hx
structure ROk (x : Routine) (d : Int) : Prop where
  deep : d ≤ 48
  params : x.params.length ≤ 512
  vars : x.vars.length ≤ 512
  inner : tRoutines [] x.inner (d + 1) = true
  inners : x.inner.length ≤ 512
  body : tStmts x.body 1 = true
  bodys : x.body.length ≤ 512
theorem tRoutine_ok {a : List ByteArray} {x : Routine} {d : Int} (h : tRoutine a x d = true) : ROk x d := by
  rw [tRoutine_eq] at h
  unfold tParams tVars at h
  simp only [Bool.and_eq_true, decide_eq_true_eq] at h
  obtain ⟨⟨⟨⟨⟨⟨⟨⟨⟨⟨h1, _⟩, _⟩, _⟩, _⟩, _⟩, _⟩, _, h2⟩, _, h3⟩, h4, h5⟩, h6, h7⟩ := h
  exact ⟨h1, h2, h3, h4, h5, h6, h7⟩
theorem rRoutines_bad (env all : List Th) {s : CS} (h : s.bad ≠ 0) (l : List Routine) : rRoutines env all s l = s := by
  cases l with
  | nil => rfl
  | cons x l => simp [rRoutines, h]
theorem routines_spec12 : ∀ (n : Nat) (l : List Routine) (d : Int) (ahead : List ByteArray), Routines.sz l ≤ n → tRoutines ahead l d = true → l.length ≤ 512 → (∀ x ∈ l, x.ok) → ∀ {h : AHeap} {c : Nat} {s : CS} {env : List Th}, h c = some (lkBlk s) → EnvOk env → env.length + 2048 * (49 - d).toNat ≤ 900000 → ∀ full f2 : Bool,
    Lks 99 [.sl (eEnv env) full, .sl (l.map eRoutine) f2] h c (.tuple []) (rRoutines env (rVis env l) s l) := by
  intro n
  induction n with
  | zero =>
    intro l d ahead hn ht hl hok h c s env hc o hw full f2
    cases l with
    | cons x r => simp [Routines.sz] at hn
    | nil =>
      refine F99.calls (by simp) ?_
      delta F99.c0
      simp -implicitDefEqProofs only [↓pgPre,go_sem,seval]
      refine callT_of (Visible_spec _ env [] (by simp; omega) full f2) (fun v g ⟨hv, hg⟩ => ?_)
      subst v g
      simp -implicitDefEqProofs only [↓pgPre,go_sem,seval]
      refine lT_round ?_
      simp -implicitDefEqProofs only [↓pgPre,go_sem,seval]
      exact .same ⟨rfl, (upd_self hc).symm⟩
  | succ n ih =>
    intro l d ahead hn ht hl hok h c s env hc o hw full f2
    refine F99.calls (by simp) ?_
    delta F99.c0
    simp -implicitDefEqProofs only [↓pgPre,go_sem,seval]
    refine callT_of (Visible_spec _ env l (by omega) full f2) (fun v g ⟨hv, hg⟩ => ?_)
    subst v g
    simp -implicitDefEqProofs only [↓pgPre,go_sem,seval]
    have oa : EnvOk (rVis env l) := o.vis (by omega)
    have hal : (rVis env l).length = env.length + l.length := by simp [rVis]
    generalize rVis env l = all at oa hal
    refine lT_list l (fun pre post e g => ∃ s', rRoutines env all s l = rRoutines env all s' post ∧ e = [(0, .ptr (some ⟨c, 0, none⟩)), (1, .sl (eEnv env) full), (2, .sl (l.map eRoutine) f2), (6, .sl (eEnv all) false), (7, .int .i64 pre.length)] ∧ g = h.upd c (lkBlk s')) (WeakE.env ?_) ⟨s, rfl, rfl, (upd_self hc).symm⟩ ?_ ?_
    · skip
      repeat' (first | exact EnvLe.nil _ | refine EnvLe.cons ?_ ?_)
      all_goals (simp -implicitDefEqProofs only [↓pgPre,go_sem,seval]; try first | exact AVle.refl _ | exact AVle.sl _ _ | exact AVle.gs _ _ _ | assumption)
    · rintro pre x post e g hp ⟨s', hs, rfl, rfl⟩
      have hx := mem_at hp
      have hxz := Routines.sz_mem hx
      have hz := Routine.sz_eq x
      obtain ⟨a, ht'⟩ := tRoutines_mem ht hx
      have ro := tRoutine_ok ht'
      have hd := ro.deep
      have hxo := (Routine.ok_iff x).1 (hok x hx)
      have hrp := ro.params
      have hrv := ro.vars
      have hri := ro.inners
      have hrb := ro.bodys
      have hstep := step_at (few_small (l := l) (by omega)) hp
      simp -implicitDefEqProofs only [↓pgPre,go_sem,seval, lt_at hp]
      refine callT_of (next_spec12 (s := s') (upd_same _ _ _)) (fun v g ⟨hv, hg⟩ => ?_)
      subst v g
      by_cases hb : s'.bad = 0
      · have hsp : rRoutines env all s' (x :: post) = rRoutines env all (rRoutine env all s'.step x) post := by simp only [rRoutines, hb, if_true]
        rw [rRoutine_eq] at hsp
        simp -implicitDefEqProofs only [↓pgPre,go_sem,seval, hb, upd_upd, aia_sl (map_at hp) (eRoutine_len x), eRoutine_len, routine_take]
        refine callT_of (find_spec12 _ env o.fewE full x.name) (fun v g ⟨hv, hg⟩ => ?_)
        subst v g
        by_cases hk : (rFind env x.name).kind = 0
        all_goals simp -implicitDefEqProofs only [↓pgPre,go_sem,seval, hk, th_1, eTh_len]
        all_goals
          first
          | (refine callT_of (fail_spec12 (s := s'.step) (upd_same _ _ _) 12) (fun v g ⟨hv, hg⟩ => ?_)
             subst v g
             have hN : s'.step.fail 12 = rNew env s'.step x.name := by simp [rNew, hk]
             rw [hN]
             simp -implicitDefEqProofs only [↓pgPre,go_sem,seval, upd_upd])
          | (have hN : s'.step = rNew env s'.step x.name := by simp [rNew, hk]
             rw [hN])
        all_goals
          generalize rNew env s'.step x.name = sN at hsp
          refine lT_list x.params (fun pre2 post2 e g => ∃ (f : Bool) (env' : List Th) (s2 : CS), EnvOk env' ∧ env'.length = all.length + pre2.length ∧ rParams all sN x.params = rParams env' s2 post2 ∧ e = [(0, .ptr (some ⟨c, 0, none⟩)), (1, .sl (eEnv env) full), (2, .sl (l.map eRoutine) f2), (6, .sl (eEnv all) false), (7, .int .i64 pre.length), (8, .ip (eRoutine x) 0), (9, .sl (eEnv env') f), (10, .int .i64 pre2.length)] ∧ g = h.upd c (lkBlk s2)) (WeakE.env ?_) ⟨false, all, sN, oa, rfl, rfl, rfl, rfl⟩ ?_ ?_
          · skip
            repeat' (first | exact EnvLe.nil _ | refine EnvLe.cons ?_ ?_)
            all_goals (simp -implicitDefEqProofs only [↓pgPre,go_sem,seval]; try first | exact AVle.refl _ | exact AVle.sl _ _ | exact AVle.gs _ _ _ | assumption)
          · rintro pre2 y post2 e g hp2 ⟨f, env', s2, o2, hel, hs2, rfl, rfl⟩
            have hpl2 := (at_pre hp2).2
            have tk : ((eParam y).drop 1).take 3 = eTyp y.t := rfl
            have hs3 : rParams env' s2 (y :: post2) = rParams (env' ++ [thVar y.name y.t]) (rTyp env' (rNew env' s2 y.name) y.t) post2 := rfl
            have hstep2 := step_at (few_small (l := x.params) (by omega)) hp2
            simp -implicitDefEqProofs only [↓pgPre,go_sem,seval, lt_at hp2, aia_sl (map_at hp2) (eParam_len y)]
            refine callT_of (find_spec12 _ env' o2.fewE f y.name) (fun v g ⟨hv, hg⟩ => ?_)
            subst v g
            by_cases hk2 : (rFind env' y.name).kind = 0
            all_goals simp -implicitDefEqProofs only [↓pgPre,go_sem,seval, hk2, th_1, eTh_len]
            all_goals
              first
              | (refine callT_of (fail_spec12 (s := s2) (upd_same _ _ _) 12) (fun v g ⟨hv, hg⟩ => ?_)
                 subst v g
                 have hN : s2.fail 12 = rNew env' s2 y.name := by simp [rNew, hk2]
                 rw [hN]
                 simp -implicitDefEqProofs only [↓pgPre,go_sem,seval, upd_upd, aia_sl (map_at hp2) (eParam_len y), eParam_len, tk])
              | (simp -implicitDefEqProofs only [↓pgPre,go_sem,seval, aia_sl (map_at hp2) (eParam_len y), eParam_len, tk]
                 have hN : s2 = rNew env' s2 y.name := by simp [rNew, hk2]
                 rw [hN])
            all_goals
              refine callT_of (typ_spec12 (s := rNew env' s2 y.name) (upd_same _ _ _) env' o2.fewE f y.t) (fun v g ⟨hv, hg⟩ => ?_)
              subst v g
              simp -implicitDefEqProofs only [↓pgPre,go_sem,seval, upd_upd, aia_sl (map_at hp2) (eParam_len y), eParam_len, tk]
              refine callT_le (with_spec _ env' o2.few f (thVar y.name y.t)) (.cons (.refl _) (.cons (thVar_le y.name y.t) .nil)) (fun v k ⟨hv, hk⟩ => ?_)
              subst v k
              simp -implicitDefEqProofs only [↓pgPre,go_sem,seval]
              refine ⟨_, _, WeakE.env ?_, false, _, _, o2.var y.name y.t (by omega), ?_, ?_, rfl, rfl⟩
              · skip
                repeat' (first | exact EnvLe.nil _ | refine EnvLe.cons ?_ ?_)
                all_goals (simp -implicitDefEqProofs only [↓pgPre,go_sem,seval, hstep2]; try first | exact AVle.refl _ | exact AVle.sl _ _ | exact AVle.gs _ _ _ | assumption)
              · simp; omega
              · rw [hs2, hs3]
          · rintro e g ⟨f, env', s2, o2, hel, hs2, rfl, rfl⟩
            have hP : rParams all sN x.params = (env', s2) := hs2
            rw [hP] at hsp
            simp -implicitDefEqProofs only [↓pgPre,go_sem,seval, lt_end]
            refine lessQ.same ?_
            by_cases hr : x.result > 0
            all_goals simp -implicitDefEqProofs only [↓pgPre,go_sem,seval, hr]
            all_goals
              first
              | (refine callT_of (REnds_spec _ x.body (Nat.le_refl _) (few_small (by omega)) hxo.2.2.2.2.2.2.2.2.1 false _) (fun v g ⟨hv, hg⟩ => ?_)
                 subst v g
                 cases he : endL x.body)
              | skip
            all_goals try simp -implicitDefEqProofs only [↓pgPre,go_sem,seval]
            all_goals
              first
              | (refine callT_of (fail_spec12 (s := s2) (upd_same _ _ _) 16) (fun v g ⟨hv, hg⟩ => ?_)
                 subst v g
                 have hN : s2.fail 16 = (if 0 < x.result ∧ endL x.body = false then s2.fail 16 else s2) := by rw [if_pos ⟨hr, he⟩]
                 rw [hN]
                 simp -implicitDefEqProofs only [↓pgPre,go_sem,seval, upd_upd])
              | (have hN : s2 = (if 0 < x.result ∧ endL x.body = false then s2.fail 16 else s2) := by
                   rw [if_neg]
                   rintro ⟨h1, h2⟩
                   first | exact hr h1 | simp [he] at h2
                 rw [hN])
            all_goals
              generalize hs3 : (if 0 < x.result ∧ endL x.body = false then s2.fail 16 else s2) = s3
              have hq1 := rVars_len x.inner x.vars env' s3
              have hq2 := rVars_ok x.inner x.vars s3 o2 (by omega)
              refine callT_of (vars_spec12 x.inner (by omega) (upd_same _ _ _) o2 x.vars (by omega) f false false) (fun v g ⟨hv, hg⟩ => ?_)
              subst v g
              simp -implicitDefEqProofs only [↓pgPre,go_sem,seval, upd_upd]
              generalize hq : rVars env' s3 x.vars x.inner = q at hq1 hq2
              refine callT_of (ih x.inner (d + 1) [] (by omega) ro.inner hri hxo.2.2.2.2.2.2.1 (upd_same _ _ _) hq2 (by omega) false false) (fun v g ⟨hv, hg⟩ => ?_)
              subst v g
              simp -implicitDefEqProofs only [↓pgPre,go_sem,seval, upd_upd]
              refine callT_of (Visible_spec _ q.1 x.inner (by omega) false false) (fun v g ⟨hv, hg⟩ => ?_)
              subst v g
              simp -implicitDefEqProofs only [↓pgPre,go_sem,seval]
              refine callT_of (stmts_spec12 x.result _ x.body 1 (Nat.le_refl _) ro.body hrb (upd_same _ _ _) (hq2.vis (by omega)) false false) (fun v g ⟨hv, hg⟩ => ?_)
              subst v g
              simp -implicitDefEqProofs only [↓pgPre,go_sem,seval, upd_upd]
              refine ⟨_, _, WeakE.env ?_, _, ?_, rfl, rfl⟩
              · skip
                repeat' (first | exact EnvLe.nil _ | refine EnvLe.cons ?_ ?_)
                all_goals (simp -implicitDefEqProofs only [↓pgPre,go_sem,seval, hstep]; try first | exact AVle.refl _ | exact AVle.sl _ _ | exact AVle.gs _ _ _ | assumption)
              · rw [hs, hsp]
                subst hs3 hq
                rfl
      · simp -implicitDefEqProofs only [↓pgPre,go_sem,seval, hb, upd_upd]
        refine lessQ.same ?_
        simp -implicitDefEqProofs only [↓pgPre,go_sem,seval]
        refine .same ⟨rfl, ?_⟩
        rw [hs, rRoutines_bad env all hb]
    · rintro e g ⟨s', hs, rfl, rfl⟩
      simp -implicitDefEqProofs only [↓pgPre,go_sem,seval, lt_end]
      refine lessQ.same ?_
      simp -implicitDefEqProofs only [↓pgPre,go_sem,seval]
      rw [hs]
      exact .same ⟨rfl, rfl⟩
/-! ### All of it -/
structure POk (p : Prg) : Prop where
  recs : p.recs.length ≤ 512
  vars : p.vars.length ≤ 512
  routines : tRoutines [] p.routines 1 = true
  routine : p.routines.length ≤ 512
  body : tStmts p.body 1 = true
  bodys : p.body.length ≤ 512
theorem tPrg_ok {p : Prg} (h : tPrg p = true) : POk p := by
  unfold tPrg tVars at h
  simp only [Bool.and_eq_true, decide_eq_true_eq] at h
  obtain ⟨⟨⟨⟨⟨⟨⟨⟨⟨_, _⟩, _⟩, _⟩, _⟩, h1⟩, _⟩, _, h2⟩, h3, h4⟩, h5, h6⟩ := h
  exact ⟨h1, h2, h3, h4, h5, h6⟩
theorem Check_spec12 (p : Prg) (ht : tPrg p = true) (ho : p.ok) (h : AHeap) : ACalls Go.Proofs.Try.prog 80 [.agg (ePrg p)] h (fun v g => v = .tuple [.int .i64 (rCheck p).1, .int .i64 (rCheck p).2] ∧ g = h) := by
  have po := tPrg_ok ht
  have p1 := po.recs
  have p2 := po.vars
  have p3 := po.routine
  have hf : ∀ r ∈ p.recs, few r.fields := fun r hr => (ho.eachRec r hr).fields
  refine F80.calls (by simp) ?_
  delta F80.c0
  simp -implicitDefEqProofs only [↓pgPre,go_sem,seval]
  refine afreshT_intro fun c hc => ?_
  simp -implicitDefEqProofs only [↓pgPre,go_sem,seval, ePrg_eq p]
  have k0 : (h.upd c (.blk [.int .i64 (-1), .int .i64 0] 2 161)) c = some (lkBlk ⟨-1, 0⟩) := upd_same _ _ _
  refine callT_of (recs_spec12 k0 p.recs (by omega) hf false) (fun v g ⟨hv, hg⟩ => ?_)
  subst v g
  have a1 := rRecs_len p.recs [] ⟨-1, 0⟩
  have a2 := rRecs_ok p.recs (env := []) ⟨-1, 0⟩ ⟨by simp, by simp⟩ hf (by simp; omega)
  generalize ha : rRecs [] ⟨-1, 0⟩ p.recs = a at a1 a2
  simp only [List.length_nil, Nat.zero_add] at a1
  simp -implicitDefEqProofs only [↓pgPre,go_sem,seval, upd_upd]
  refine callT_of (vars_spec12 p.routines (by omega) (upd_same _ _ _) a2 p.vars (by omega) false false false) (fun v g ⟨hv, hg⟩ => ?_)
  subst v g
  have b1 := rVars_len p.routines p.vars a.1 a.2
  have b2 := rVars_ok p.routines p.vars a.2 a2 (by omega)
  generalize hb : rVars a.1 a.2 p.vars p.routines = b at b1 b2
  simp -implicitDefEqProofs only [↓pgPre,go_sem,seval, upd_upd]
  refine callT_of (routines_spec12 _ p.routines 1 [] (Nat.le_refl _) po.routines p3 ho.eachRoutine (upd_same _ _ _) b2 (by simp; omega) false false) (fun v g ⟨hv, hg⟩ => ?_)
  subst v g
  simp -implicitDefEqProofs only [↓pgPre,go_sem,seval, upd_upd]
  refine callT_of (Visible_spec _ b.1 p.routines (by omega) false false) (fun v g ⟨hv, hg⟩ => ?_)
  subst v g
  simp -implicitDefEqProofs only [↓pgPre,go_sem,seval]
  refine callT_of (stmts_spec12 0 _ p.body 1 (Nat.le_refl _) po.body po.bodys (upd_same _ _ _) (b2.vis (by omega)) false false) (fun v g ⟨hv, hg⟩ => ?_)
  subst v g
  have hA : rAll p = rStmts (rVis b.1 p.routines) (rRoutines b.1 (rVis b.1 p.routines) b.2 p.routines) 0 p.body := by subst hb ha; rfl
  rw [← hA]
  have kA : ∀ g : AHeap, (g.upd c (lkBlk (rAll p))) c = some (.blk [.int .i64 (rAll p).item, .int .i64 (rAll p).bad] 2 161) := fun g => upd_same _ _ _
  by_cases hz : (rAll p).bad = 0
  · simp -implicitDefEqProofs only [↓pgPre,go_sem,seval, kA, hz, upd_upd]
    exact .forget (AHeap.le_upd hc) ⟨by simp [rCheck, hz], rfl⟩
  · simp -implicitDefEqProofs only [↓pgPre,go_sem,seval, kA, hz, upd_upd]
    exact .forget (AHeap.le_upd hc) ⟨by simp [rCheck, hz], rfl⟩
end Pg
