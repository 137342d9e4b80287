import Derived.Test.YtpebidcmkjjpnaaTreeS
import Derived.Test.YtpebidcmkjjpnaaRw2
namespace Pg
open Go
set_option linter.unusedSimpArgs false
set_option linter.unusedVariables false
set_option maxHeartbeats 4000000
set_option maxRecDepth 4000
theorem eParam_eq (v : Param) : eParam v = [.str v.name, .int .i64 v.t.kind, .int .i64 v.t.size, .str v.t.name, .int .i64 v.mode] := rfl
theorem wRs_len : ∀ l : List Routine, l.length ≤ wRs l
  | [] => by simp [wRs]
  | x :: r => by
    have := wRs_len r
    have := wR_eq x
    simp only [wRs, List.length_cons]; omega
theorem wRs_mem {l : List Routine} {x : Routine} (h : x ∈ l) : wR x ≤ wRs l := by
  induction l with
  | nil => cases h
  | cons y r ih =>
    simp only [wRs]
    rcases List.mem_cons.1 h with rfl | h
    · omega
    · have := ih h; omega
theorem turnRoutines_spec {by_ : List Pair} (hb : ByOk by_) (full : Bool) : ∀ (n : Nat) (l : List Routine), Routines.sz l ≤ n → few l → (∀ x ∈ l, x.ok) → inRs soft l → wRs l ≤ 274877906944 → ∀ (f2 : Bool) (h : AHeap),
    ACalls Go.Proofs.Try.prog 51 [.sl (l.map eRoutine) f2, .sl (by_.map ePair) full] h (fun v g => v = .sl ((rnRs (turn by_) l).map eRoutine) false ∧ g = h) := by
  intro n
  induction n with
  | zero =>
    intro l hn hl ho hs hw f2 h
    cases l with
    | cons x r => simp [Routines.sz] at hn
    | nil =>
      refine F51.calls (by simp) ?_
      delta F51.c0 F51.c1 F51.c2 F51.c30 F51.r20 F51.c3 F51.c4 F51.c5 F51.c6 F51.c9 F51.r19 F51.c10 F51.c11 F51.c12 F51.c13 F51.c14 F51.c26 F51.c27 F51.c28 F51.c29 F51.r18 F51.r17 F51.r16 F51.r15 F51.r14 F51.c15 F51.c16 F51.c17 F51.c18 F51.c21 F51.r13 F51.c22 F51.c23 F51.c24 F51.c25 F51.r12 F51.r11 F51.r10 F51.r9 F51.c19 F51.c20 F51.r8 F51.r7 F51.r6 F51.r5 F51.r4 F51.c7 F51.c8 F51.r3 F51.r2 F51.r1 F51.r0
      simp -implicitDefEqProofs only [↓pgPre,go_sem,↓reduceIte,reduceCtorEq,seval]
      refine lT_round ?_
      simp -implicitDefEqProofs only [↓pgPre,go_sem,↓reduceIte,reduceCtorEq,seval]
      exact (GL.nil (ty := 62) (size := 9) h).endW ⟨rfl, rfl⟩
  | succ n ih =>
    intro l hn hl ho hs hw f2 h
    refine F51.calls (by simp) ?_
    delta F51.c0 F51.c1 F51.c2 F51.c30 F51.r20 F51.c3 F51.c4 F51.c5 F51.c6 F51.c9 F51.r19 F51.c10 F51.c11 F51.c12 F51.c13 F51.c14 F51.c26 F51.c27 F51.c28 F51.c29 F51.r18 F51.r17 F51.r16 F51.r15 F51.r14 F51.c15 F51.c16 F51.c17 F51.c18 F51.c21 F51.r13 F51.c22 F51.c23 F51.c24 F51.c25 F51.r12 F51.r11 F51.r10 F51.r9 F51.c19 F51.c20 F51.r8 F51.r7 F51.r6 F51.r5 F51.r4 F51.c7 F51.c8 F51.r3 F51.r2 F51.r1 F51.r0
    simp -implicitDefEqProofs only [↓pgPre,go_sem,↓reduceIte,reduceCtorEq,seval]
    refine lT_list l (fun pre post e g => ∃ v, GL 62 9 h g v ((pre.map (rnR (turn by_))).map eRoutine) ∧ e = [(0, .sl (l.map eRoutine) f2), (1, .sl (by_.map ePair) full), (5, v), (6, .int .i64 pre.length)]) (WeakE.env ?_) ⟨.sl [] true, .nil h, rfl⟩ ?_ ?_
    · skip
      repeat' (first | exact EnvLe.nil _ | refine EnvLe.cons ?_ ?_)
      all_goals (simp -implicitDefEqProofs only [↓pgPre,go_sem,↓reduceIte,reduceCtorEq,seval]; try first | exact AVle.refl _ | exact AVle.sl _ _ | exact AVle.gs _ _ _ | assumption)
    · rintro pre x post e g hp ⟨v, G, rfl⟩
      have hx := mem_at hp
      have hxz := Routines.sz_mem hx
      have hxw := wRs_mem hx
      have hz := Routine.sz_eq x
      have hwx := wR_eq x
      have hpl := (at_pre hp).2
      have hlw := wRs_len l
      obtain ⟨i1, i2, i3, i4, i5⟩ := (inR_eq soft x).1 (inRs_mem hs x hx)
      have hok := (Routine.ok_iff x).1 (ho x hx)
      simp -implicitDefEqProofs only [↓pgPre,go_sem,↓reduceIte,reduceCtorEq,seval, lt_at hp, aia_sl (map_at hp) (eRoutine_len x)]
      refine afreshT_intro fun b hbk => ?_
      simp -implicitDefEqProofs only [↓pgPre,go_sem,↓reduceIte,reduceCtorEq,seval, eRoutine_eq x]
      refine callT_of (Turned_spec _ x.name i1.1 i1.2 by_ hb.few hb.small full) (fun v' g' ⟨hv, hg⟩ => ?_)
      subst v' g'
      simp -implicitDefEqProofs only [↓pgPre,go_sem,↓reduceIte,reduceCtorEq,seval, upd_upd]
      generalize hB : (AHeap.upd g b _) = B
      have hBb : B b = some (.blk [eTexts x.before, eTexts x.trail, .str (turn by_ x.name), .int .i64 x.result, .sl (x.params.map eParam) false, .sl (x.vars.map eVar) false, .sl (x.inner.map eRoutine) false, .sl (x.body.map eStmt) false, eTexts x.endd] 9 62) := by rw [← hB, upd_same]
      refine lT_list x.params (fun pre' post' e k => ∃ ve, GL 66 5 B k ve ((pre'.map (rnParam (turn by_))).map eParam) ∧ e = [(0, .sl (l.map eRoutine) f2), (1, .sl (by_.map ePair) full), (5, v), (6, .int .i64 pre.length), (7, .ptr (some ⟨b, 0, none⟩)), (8, ve), (9, .int .i64 pre'.length)]) (WeakE.env ?_) ⟨.sl [] true, .nil B, rfl⟩ ?_ ?_
      · skip
        repeat' (first | exact EnvLe.nil _ | refine EnvLe.cons ?_ ?_)
        all_goals (simp -implicitDefEqProofs only [↓pgPre,go_sem,↓reduceIte,reduceCtorEq,seval]; try first | exact AVle.refl _ | exact AVle.sl _ _ | exact AVle.gs _ _ _ | assumption)
      · rintro pre' y post' e k hp' ⟨ve, E, rfl⟩
        have hy := i2 y (mem_at hp')
        have hpl' := (at_pre hp').2
        have hkb := E.at hBb
        simp -implicitDefEqProofs only [↓pgPre,go_sem,↓reduceIte,reduceCtorEq,seval, hkb, lt_at hp', aia_sl (map_at hp') (eParam_len y)]
        refine afreshT_intro fun c hck => ?_
        simp -implicitDefEqProofs only [↓pgPre,go_sem,↓reduceIte,reduceCtorEq,seval, eParam_eq y]
        refine callT_of (Turned_spec _ y.name hy.1.1 hy.1.2 by_ hb.few hb.small full) (fun v' g' ⟨hv, hg⟩ => ?_)
        subst v' g'
        simp -implicitDefEqProofs only [↓pgPre,go_sem,↓reduceIte,reduceCtorEq,seval]
        refine callT_of (Turned_spec _ y.t.name hy.2.1 hy.2.2 by_ hb.few hb.small full) (fun v' g' ⟨hv, hg⟩ => ?_)
        subst v' g'
        simp -implicitDefEqProofs only [↓pgPre,go_sem,↓reduceIte,reduceCtorEq,seval, upd_upd]
        refine (E.fresh hck _).append1 (xs := eParam (rnParam (turn by_) y)) (bytes := 56) rfl (by unfold roomFor; simp; omega) (fun v' g' E' => ?_)
        simp -implicitDefEqProofs only [↓pgPre,go_sem,↓reduceIte,reduceCtorEq,seval]
        obtain ⟨h3, E3, le3⟩ := E'.rebase (h0 := B) (AHeap.le_upd (none_le E.le hck))
        refine ⟨_, h3, WeakE.of ?_ (.of_le le3), v', ?_, rfl⟩
        · skip
          repeat' (first | exact EnvLe.nil _ | refine EnvLe.cons ?_ ?_)
          all_goals (simp -implicitDefEqProofs only [↓pgPre,go_sem,↓reduceIte,reduceCtorEq,seval, step_at hok.2.2.1 hp']; try first | exact AVle.refl _ | exact AVle.sl _ _ | exact AVle.gs _ _ _ | assumption)
        · simpa using E3
      · rintro e k ⟨ve, E, rfl⟩
        have hkb := E.at hBb
        simp -implicitDefEqProofs only [↓pgPre,go_sem,↓reduceIte,reduceCtorEq,seval, hkb, lt_end]
        refine lessQ.to (e' := [(0, .sl (l.map eRoutine) f2), (1, .sl (by_.map ePair) full), (5, v), (6, .int .i64 pre.length), (7, .ptr (some ⟨b, 0, none⟩)), (8, .sl ((x.params.map (rnParam (turn by_))).map eParam) false)]) (g := B) (WeakE.of ?_ (.of_le E.le)) ?_
        · skip
          repeat' (first | exact EnvLe.nil _ | refine EnvLe.cons ?_ ?_)
          all_goals (simp -implicitDefEqProofs only [↓pgPre,go_sem,↓reduceIte,reduceCtorEq,seval]; try first | exact AVle.refl _ | exact AVle.sl _ _ | exact AVle.gs _ _ _ | assumption)
          exact E.avle
        simp -implicitDefEqProofs only [↓pgPre,go_sem,↓reduceIte,reduceCtorEq,seval, hBb]
        refine callT_of (turnVars_spec hb full x.vars hok.2.2.2.1 i3 (by omega) false _) (fun v' g' ⟨hv, hg⟩ => ?_)
        subst v' g'
        simp -implicitDefEqProofs only [↓pgPre,go_sem,↓reduceIte,reduceCtorEq,seval]
        refine callT_of (ih x.inner (by omega) hok.2.2.2.2.2.1 hok.2.2.2.2.2.2.1 i4 (by omega) false _) (fun v' g' ⟨hv, hg⟩ => ?_)
        subst v' g'
        simp -implicitDefEqProofs only [↓pgPre,go_sem,↓reduceIte,reduceCtorEq,seval]
        refine callT_of (turnStmts_spec hb full _ x.body (Nat.le_refl _) hok.2.2.2.2.2.2.2.1 hok.2.2.2.2.2.2.2.2.1 i5 (by omega) false _) (fun v' g' ⟨hv, hg⟩ => ?_)
        subst v' g'
        simp -implicitDefEqProofs only [↓pgPre,go_sem,↓reduceIte,reduceCtorEq,seval, upd_upd]
        rw [← hB, upd_upd]
        have hrow : eRoutine (rnR (turn by_) x) = [eTexts x.before, eTexts x.trail, .str (turn by_ x.name), .int .i64 x.result, .sl ((x.params.map (rnParam (turn by_))).map eParam) false, .sl ((x.vars.map (rnVar (turn by_))).map eVar) false, .sl ((rnRs (turn by_) x.inner).map eRoutine) false, .sl ((rnSs (turn by_) x.body).map eStmt) false, eTexts x.endd] := by
          rw [eRoutine_eq, rnR_eq]
        rw [← hrow]
        refine (G.fresh hbk _).append1 (xs := eRoutine (rnR (turn by_) x)) (bytes := 192) (eRoutine_len _) (by unfold roomFor; simp; omega) (fun v' g' G' => ?_)
        simp -implicitDefEqProofs only [↓pgPre,go_sem,↓reduceIte,reduceCtorEq,seval]
        obtain ⟨h3, G3, le3⟩ := G'.rebase (h0 := h) (AHeap.le_upd (none_le G.le hbk))
        refine ⟨_, h3, WeakE.of ?_ (.of_le le3), v', ?_, rfl⟩
        · skip
          repeat' (first | exact EnvLe.nil _ | refine EnvLe.cons ?_ ?_)
          all_goals (simp -implicitDefEqProofs only [↓pgPre,go_sem,↓reduceIte,reduceCtorEq,seval, step_at hl hp]; try first | exact AVle.refl _ | exact AVle.sl _ _ | exact AVle.gs _ _ _ | assumption)
        · simpa using G3
    · rintro e g ⟨v, G, rfl⟩
      simp -implicitDefEqProofs only [↓pgPre,go_sem,↓reduceIte,reduceCtorEq,seval, lt_end]
      refine lessQ.same ?_
      simp -implicitDefEqProofs only [↓pgPre,go_sem,↓reduceIte,reduceCtorEq,seval]
      refine G.endW ⟨?_, rfl⟩
      rw [rnRs_map]
theorem eRec_eq (r : Rec) : eRec r = [eTexts r.before, eTexts r.trail, .str r.name, .sl (r.fields.map eFld) false, eTexts r.endd] := rfl
theorem eFld_eq (f : Fld) : eFld f = [eTexts f.before, eTexts f.trail, .str f.name, .int .i64 f.kind] := rfl
theorem wRecs_len : ∀ l : List Rec, l.length ≤ wRecs l
  | [] => by simp [wRecs]
  | x :: r => by
    have := wRecs_len r
    simp only [wRecs, List.map_cons, List.sum_cons, List.length_cons, wRec] at this ⊢; omega
theorem wRecs_mem {l : List Rec} {x : Rec} (h : x ∈ l) : wRec x ≤ wRecs l := by
  induction l with
  | nil => cases h
  | cons y r ih =>
    simp only [wRecs, List.map_cons, List.sum_cons] at ih ⊢
    rcases List.mem_cons.1 h with rfl | h
    · omega
    · have := ih h; omega
theorem Rename_spec {by_ : List Pair} (hb : ByOk by_) (full : Bool) (p : Prg) (ho : p.ok) (hs : inP soft p) (hw : wP p ≤ 274877906944) (h : AHeap) :
    ACalls Go.Proofs.Try.prog 16 [.agg (ePrg p), .sl (by_.map ePair) full] h (fun v g => v = .agg (ePrg (rnP (turn by_) p)) ∧ g = h) := by
  unfold wP at hw
  have hrl := wRecs_len p.recs
  refine F16.calls (by simp) ?_
  delta F16.c0 F16.c1 F16.c2 F16.c3 F16.c4 F16.c28 F16.c29 F16.c30 F16.c31 F16.r21 F16.r20 F16.r19 F16.r18 F16.c5 F16.c6 F16.c7 F16.c8 F16.c11 F16.r17 F16.c12 F16.c13 F16.c14 F16.c15 F16.c16 F16.c27 F16.r16 F16.r15 F16.c17 F16.c18 F16.c19 F16.c20 F16.c23 F16.r14 F16.c24 F16.c25 F16.c26 F16.r13 F16.r12 F16.r11 F16.c21 F16.c22 F16.r10 F16.r9 F16.r8 F16.r7 F16.r6 F16.c9 F16.c10 F16.r5 F16.r4 F16.r3 F16.r2 F16.r1 F16.r0
  simp -implicitDefEqProofs only [↓pgPre,go_sem,↓reduceIte,reduceCtorEq,seval]
  refine afreshT_intro fun b4 hb4 => ?_
  simp -implicitDefEqProofs only [↓pgPre,go_sem,↓reduceIte,reduceCtorEq,seval]
  refine afreshT_intro fun b5 hb5 => ?_
  obtain ⟨hne, hb5'⟩ := none_upd hb5
  simp -implicitDefEqProofs only [↓pgPre,go_sem,↓reduceIte,reduceCtorEq,seval, ePrg_eq p]
  refine callT_of (Turned_spec _ p.name hs.name.1 hs.name.2 by_ hb.few hb.small full) (fun v' g' ⟨hv, hg⟩ => ?_)
  subst v' g'
  simp -implicitDefEqProofs only [↓pgPre,go_sem,↓reduceIte,reduceCtorEq,seval, upd_upd]
  generalize hB : (h.upd b4 _) = B
  have hB4 : ∃ z, B b4 = some (.blk z 9 28) ∧ z.length = 9 := by rw [← hB, upd_same]; exact ⟨_, rfl, rfl⟩
  obtain ⟨z4, hB4, hz4⟩ := hB4
  have hBle : h.le B := by rw [← hB]; exact AHeap.le_upd hb4
  have hB5 : B b5 = none := by rw [← hB]; exact hb5
  let cells : AV → List AV := fun v => [.str (turn by_ p.name), eTexts p.before, eTexts p.mid, eTexts p.after, v, .sl (p.vars.map eVar) false, .sl (p.routines.map eRoutine) false, .sl (p.body.map eStmt) false, eTexts p.endd]
  refine lT_list p.recs (fun pre post e g => ∃ v, GL 74 5 (B.upd b5 (.blk (cells v) 9 28)) g v ((pre.map (rnRec (turn by_))).map eRec) ∧ e = [(1, .sl (by_.map ePair) full), (2, .ip (ePrg p) 0), (4, .ptr (some ⟨b4, 0, none⟩)), (5, .ptr (some ⟨b5, 0, none⟩)), (6, .int .i64 pre.length)]) (WeakE.env ?_) ⟨.sl [] true, .nil _, rfl⟩ ?_ ?_
  · skip
    rw [ePrg_eq p]
    repeat' (first | exact EnvLe.nil _ | refine EnvLe.cons ?_ ?_)
    all_goals (simp -implicitDefEqProofs only [↓pgPre,go_sem,↓reduceIte,reduceCtorEq,seval]; try first | exact AVle.refl _ | exact AVle.sl _ _ | exact AVle.gs _ _ _ | assumption)
  · rintro pre x post e g hp ⟨v, G, rfl⟩
    have hx := hs.recs x (mem_at hp)
    have ox := ho.eachRec x (mem_at hp)
    have hxw := wRecs_mem (mem_at hp)
    have hpl := (at_pre hp).2
    have hwr : wRec x = 2 + x.fields.length := rfl
    have hg5 : g b5 = some (.blk [.str (turn by_ p.name), eTexts p.before, eTexts p.mid, eTexts p.after, v, .sl (p.vars.map eVar) false, .sl (p.routines.map eRoutine) false, .sl (p.body.map eStmt) false, eTexts p.endd] 9 28) := G.at (upd_same B b5 _)
    simp -implicitDefEqProofs only [↓pgPre,go_sem,↓reduceIte,reduceCtorEq,seval, lt_at hp, aia_sl (map_at hp) (eRec_len x)]
    refine afreshT_intro fun b hbk => ?_
    have hb5n : b5 ≠ b := by intro hh; subst hh; rw [hg5] at hbk; cases hbk
    simp -implicitDefEqProofs only [↓pgPre,go_sem,↓reduceIte,reduceCtorEq,seval, eRec_eq x]
    refine callT_of (Turned_spec _ x.name hx.1.1 hx.1.2 by_ hb.few hb.small full) (fun v' g' ⟨hv, hg⟩ => ?_)
    subst v' g'
    simp -implicitDefEqProofs only [↓pgPre,go_sem,↓reduceIte,reduceCtorEq,seval, upd_upd]
    generalize hC : (AHeap.upd g b _) = C
    have hCb : C b = some (.blk [eTexts x.before, eTexts x.trail, .str (turn by_ x.name), .sl (x.fields.map eFld) false, eTexts x.endd] 5 74) := by rw [← hC, upd_same]
    refine lT_list x.fields (fun pre' post' e k => ∃ ve, GL 77 4 C k ve ((pre'.map (rnFld (turn by_))).map eFld) ∧ e = [(1, .sl (by_.map ePair) full), (2, .ip (ePrg p) 0), (4, .ptr (some ⟨b4, 0, none⟩)), (5, .ptr (some ⟨b5, 0, none⟩)), (6, .int .i64 pre.length), (7, .ptr (some ⟨b, 0, none⟩)), (8, ve), (9, .int .i64 pre'.length)]) (WeakE.env ?_) ⟨.sl [] true, .nil C, rfl⟩ ?_ ?_
    · skip
      repeat' (first | exact EnvLe.nil _ | refine EnvLe.cons ?_ ?_)
      all_goals (simp -implicitDefEqProofs only [↓pgPre,go_sem,↓reduceIte,reduceCtorEq,seval]; try first | exact AVle.refl _ | exact AVle.sl _ _ | exact AVle.gs _ _ _ | assumption)
    · rintro pre' y post' e k hp' ⟨ve, E, rfl⟩
      have hy := hx.2 y (mem_at hp')
      have hpl' := (at_pre hp').2
      have hkb := E.at hCb
      simp -implicitDefEqProofs only [↓pgPre,go_sem,↓reduceIte,reduceCtorEq,seval, hkb, lt_at hp', aia_sl (map_at hp') (eFld_len y)]
      refine afreshT_intro fun c hck => ?_
      simp -implicitDefEqProofs only [↓pgPre,go_sem,↓reduceIte,reduceCtorEq,seval, eFld_eq y]
      refine callT_of (Turned_spec _ y.name hy.1 hy.2 by_ hb.few hb.small full) (fun v' g' ⟨hv, hg⟩ => ?_)
      subst v' g'
      simp -implicitDefEqProofs only [↓pgPre,go_sem,↓reduceIte,reduceCtorEq,seval, upd_upd]
      refine (E.fresh hck _).append1 (xs := eFld (rnFld (turn by_) y)) (bytes := 72) rfl (by unfold roomFor; simp; omega) (fun v' g' E' => ?_)
      simp -implicitDefEqProofs only [↓pgPre,go_sem,↓reduceIte,reduceCtorEq,seval]
      obtain ⟨h3, E3, le3⟩ := E'.rebase (h0 := C) (AHeap.le_upd (none_le E.le hck))
      refine ⟨_, h3, WeakE.of ?_ (.of_le le3), v', ?_, rfl⟩
      · skip
        repeat' (first | exact EnvLe.nil _ | refine EnvLe.cons ?_ ?_)
        all_goals (simp -implicitDefEqProofs only [↓pgPre,go_sem,↓reduceIte,reduceCtorEq,seval, step_at ox.fields hp']; try first | exact AVle.refl _ | exact AVle.sl _ _ | exact AVle.gs _ _ _ | assumption)
      · simpa using E3
    · rintro e k ⟨ve, E, rfl⟩
      have hkb := E.at hCb
      simp -implicitDefEqProofs only [↓pgPre,go_sem,↓reduceIte,reduceCtorEq,seval, hkb, lt_end]
      refine lessQ.to (e' := [(1, .sl (by_.map ePair) full), (2, .ip (ePrg p) 0), (4, .ptr (some ⟨b4, 0, none⟩)), (5, .ptr (some ⟨b5, 0, none⟩)), (6, .int .i64 pre.length), (7, .ptr (some ⟨b, 0, none⟩)), (8, .sl ((x.fields.map (rnFld (turn by_))).map eFld) false)]) (g := C) (WeakE.of ?_ (.of_le E.le)) ?_
      · skip
        repeat' (first | exact EnvLe.nil _ | refine EnvLe.cons ?_ ?_)
        all_goals (simp -implicitDefEqProofs only [↓pgPre,go_sem,↓reduceIte,reduceCtorEq,seval]; try first | exact AVle.refl _ | exact AVle.sl _ _ | exact AVle.gs _ _ _ | assumption)
        exact E.avle
      have hC5 : C b5 = some (.blk [.str (turn by_ p.name), eTexts p.before, eTexts p.mid, eTexts p.after, v, .sl (p.vars.map eVar) false, .sl (p.routines.map eRoutine) false, .sl (p.body.map eStmt) false, eTexts p.endd] 9 28) := by rw [← hC, upd_ne _ _ _ hb5n]; exact hg5
      simp -implicitDefEqProofs only [↓pgPre,go_sem,↓reduceIte,reduceCtorEq,seval, hCb, upd_ne _ _ _ hb5n, hC5]
      rw [← hC, upd_upd]
      have hrow : eRec (rnRec (turn by_) x) = [eTexts x.before, eTexts x.trail, .str (turn by_ x.name), .sl ((x.fields.map (rnFld (turn by_))).map eFld) false, eTexts x.endd] := rfl
      rw [← hrow]
      refine (G.fresh hbk _).append1 (xs := eRec (rnRec (turn by_) x)) (bytes := 112) rfl (by unfold roomFor; simp; omega) (fun v' g' G' => ?_)
      obtain ⟨h3, G3, le3⟩ := G'.rebase (h0 := B.upd b5 (.blk (cells v) 9 28)) (AHeap.le_upd (none_le G.le hbk))
      have hg5' : g' b5 = some (.blk [.str (turn by_ p.name), eTexts p.before, eTexts p.mid, eTexts p.after, v, .sl (p.vars.map eVar) false, .sl (p.routines.map eRoutine) false, .sl (p.body.map eStmt) false, eTexts p.endd] 9 28) := le3 _ _ (G3.at (upd_same B b5 _))
      simp -implicitDefEqProofs only [↓pgPre,go_sem,↓reduceIte,reduceCtorEq,seval, hg5', G3.cells]
      have G4 := G3.upd (upd_same B b5 _) (.blk (cells v') 9 28)
      rw [upd_upd] at G4
      refine ⟨_, _, WeakE.of ?_ (.of_le (le_upd_upd le3 b5 _)), v', ?_, rfl⟩
      · skip
        repeat' (first | exact EnvLe.nil _ | refine EnvLe.cons ?_ ?_)
        all_goals (simp -implicitDefEqProofs only [↓pgPre,go_sem,↓reduceIte,reduceCtorEq,seval, step_at ho.recs hp]; try first | exact AVle.refl _ | exact AVle.sl _ _ | exact AVle.gs _ _ _ | assumption)
      · simpa using G4
  · rintro e g ⟨v, G, rfl⟩
    have hg5 : g b5 = some (.blk [.str (turn by_ p.name), eTexts p.before, eTexts p.mid, eTexts p.after, v, .sl (p.vars.map eVar) false, .sl (p.routines.map eRoutine) false, .sl (p.body.map eStmt) false, eTexts p.endd] 9 28) := G.at (upd_same B b5 _)
    have hg4 : g b4 = some (.blk z4 9 28) := G.at (by rw [upd_ne _ _ _ hne.symm]; exact hB4)
    simp -implicitDefEqProofs only [↓pgPre,go_sem,↓reduceIte,reduceCtorEq,seval, lt_end]
    refine lessQ.same ?_
    simp -implicitDefEqProofs only [↓pgPre,go_sem,↓reduceIte,reduceCtorEq,seval]
    refine callT_of (turnVars_spec hb full p.vars ho.vars hs.vars (by omega) false _) (fun v' g' ⟨hv, hg⟩ => ?_)
    subst v' g'
    simp -implicitDefEqProofs only [↓pgPre,go_sem,↓reduceIte,reduceCtorEq,seval, hg5]
    refine callT_of (turnRoutines_spec hb full _ p.routines (Nat.le_refl _) ho.routines ho.eachRoutine hs.routines (by omega) false _) (fun v' g' ⟨hv, hg⟩ => ?_)
    subst v' g'
    simp -implicitDefEqProofs only [↓pgPre,go_sem,↓reduceIte,reduceCtorEq,seval]
    refine callT_of (turnStmts_spec hb full _ p.body (Nat.le_refl _) ho.body ho.eachStmt hs.body (by omega) false _) (fun v' g' ⟨hv, hg⟩ => ?_)
    subst v' g'
    simp -implicitDefEqProofs only [↓pgPre,go_sem,↓reduceIte,reduceCtorEq,seval, upd_ne _ _ _ hne.symm, hg4, upd_upd, hz4]
    rw [splice_same (by rw [hz4]; rfl)]
    refine EndW.less (AVle.agg ?_) ?_ ⟨rfl, rfl⟩
    · rw [ePrg_eq]
      simp only [rnP]
      exact .cons (.refl _) (.cons (.refl _) (.cons (.refl _) (.cons (.refl _) (.cons G.avle (.cons (.refl _) (.cons (.refl _) (.cons (.refl _) (.cons (.refl _) .nil))))))))
    · exact le_upd_of hb4 (le_upd_of hb5' (AHeap.le_trans (AHeap.le_trans hBle (AHeap.le_upd hB5)) G.le) _) _
end Pg
