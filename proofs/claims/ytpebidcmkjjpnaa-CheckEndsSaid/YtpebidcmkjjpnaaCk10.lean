import Derived.Test.YtpebidcmkjjpnaaTreeS
import Derived.Test.YtpebidcmkjjpnaaCk9
namespace Pg
open Go
set_option linter.unusedSimpArgs false
set_option linter.unusedVariables false
set_option maxHeartbeats 4000000
set_option maxRecDepth 4000

theorem allOf_append (x : Routine) : ∀ (l : List Routine) (f : Scope), allOf f (l ++ [x]) = setIn x.name (.routine x) (allOf f l)
  | [], f => rfl
  | y :: l, f => by simp only [List.cons_append, allOf]; exact allOf_append x l _
theorem Chain.up {h : AHeap} {sp : AV} {m : Nat} {f : Scope} {fs : List Scope} {bs : List Nat} (c : Chain h (.ip [sp, .map (some m)] 0) (f :: fs) (m :: bs)) : Chain h sp fs bs := by
  obtain ⟨m2, par, bs2, hb, hsp, hm2, hch⟩ := c
  obtain ⟨rfl, rfl⟩ := List.cons.inj hb
  simp only [AV.ip.injEq, List.cons.injEq, and_true] at hsp
  rw [hsp]; exact hch
theorem CkIn.deeper {h : AHeap} {c : Nat} {sp inp : AV} {s : CS} {fs : List Scope} {bs : List Nat} (k : CkIn h c sp inp s fs bs) {m : Nat} (hm : h m = none) (f : Scope) :
    CkIn ((h.upd m (.mp (f.map eEntry))).upd c (ckBlk (.ip [sp, .map (some m)] 0) s inp)) c (.ip [sp, .map (some m)] 0) inp s (f :: fs) (m :: bs) := by
  have hne := k.ne hm
  refine ⟨upd_same _ _ _, ⟨m, sp, bs, rfl, rfl, by rw [upd_ne _ _ _ hne.symm, upd_same], (k.ch.upd _ (k.ch.fresh hm)).upd _ k.hn⟩, ?_⟩
  simp only [List.mem_cons, not_or]; exact ⟨hne, k.hn⟩
theorem routines_of (l : List Routine) (ih : ∀ x ∈ l, RoutinesC x.inner) (hw : few l) (ho : ∀ x ∈ l, x.ok) : RoutinesC l := by
  intro h c sp inp s fs bs k hd hg hi full
  have hcl := k.cell
  refine F47.calls (by simp) ?_
  delta F47.c0 F47.c1 F47.c2 F47.c12 F47.c13 F47.c14 F47.c15 F47.c16 F47.c17 F47.c19 F47.r18 F47.c20 F47.c21 F47.c22 F47.c25 F47.c29 F47.c30 F47.r17 F47.r16 F47.r15 F47.c26 F47.c27 F47.c28 F47.r14 F47.r13 F47.r12 F47.c23 F47.c24 F47.r11 F47.r10 F47.c18 F47.r9 F47.r8 F47.r7 F47.c3 F47.c4 F47.c5 F47.c6 F47.c7 F47.c9 F47.r6 F47.c10 F47.c11 F47.r5 F47.r4 F47.c8 F47.r3 F47.r2 F47.r1 F47.r0
  simp -implicitDefEqProofs only [↓pgPre, pgPost, aread, envOf, ↓reduceIte, Nat.reduceEqDiff, Nat.reduceAdd, Nat.reduceSub, Nat.reduceLeDiff, Nat.reduceLT, Nat.reduceMul, apeq, boolNeg, afa, aload, abin, aun, amn, amx, aext, aconv, abeq, anilc, RRead.still, REff.allocs, evParts, afill, astore, reduceCtorEq, aseq, cellsEq, cellEq, Int.reduceAdd, Int.reduceSub, Int.reduceMul, Int.reduceEq, Int.reduceLT, Int.reduceLE, Int.reduceGT, Int.reduceGE, Int.reduceToNat, Int.reduceNeg, eq_self, if_true, if_false, chunks, aelems, elemsFit, forall_eq, Nat.reduceBEq, Nat.reduceBNe, abx, afld, pgTree, hcl]
  refine callT_of (deeper_spec k.ch.cells) (fun v g ⟨m, hm, hv, hg'⟩ => ?_)
  subst hv hg'
  have hcm := k.ne hm
  simp -implicitDefEqProofs only [↓pgPre, pgPost, aread, envOf, ↓reduceIte, Nat.reduceEqDiff, Nat.reduceAdd, Nat.reduceSub, Nat.reduceLeDiff, Nat.reduceLT, Nat.reduceMul, apeq, boolNeg, afa, aload, abin, aun, amn, amx, aext, aconv, abeq, anilc, RRead.still, REff.allocs, evParts, afill, astore, reduceCtorEq, aseq, cellsEq, cellEq, Int.reduceAdd, Int.reduceSub, Int.reduceMul, Int.reduceEq, Int.reduceLT, Int.reduceLE, Int.reduceGT, Int.reduceGE, Int.reduceToNat, Int.reduceNeg, eq_self, if_true, if_false, chunks, aelems, elemsFit, forall_eq, Nat.reduceBEq, Nat.reduceBNe, abx, afld, pgTree, hcl, upd_ne _ _ _ hcm]
  refine lT_list l (fun pre post e g => g = (h.upd m (.mp ((allOf [] pre).map eEntry))).upd c (ckBlk (.ip [sp, .map (some m)] 0) s inp) ∧ e = [(0, .ptr (some ⟨c, 0, none⟩)), (1, .sl (l.map eRoutine) full), (4, sp), (20, .int .i64 l.length), (21, .int .i64 pre.length)]) (WeakE.env ?_) ⟨rfl, rfl⟩ ?_ ?_
  · skip
    repeat' (first | exact EnvLe.nil _ | refine EnvLe.cons ?_ ?_)
    all_goals (simp -implicitDefEqProofs only [↓pgPre, pgPost, aread, envOf, ↓reduceIte, Nat.reduceEqDiff, Nat.reduceAdd, Nat.reduceSub, Nat.reduceLeDiff, Nat.reduceLT, Nat.reduceMul, apeq, boolNeg, afa, aload, abin, aun, amn, amx, aext, aconv, abeq, anilc, RRead.still, REff.allocs, evParts, afill, astore, reduceCtorEq, aseq, cellsEq, cellEq, Int.reduceAdd, Int.reduceSub, Int.reduceMul, Int.reduceEq, Int.reduceLT, Int.reduceLE, Int.reduceGT, Int.reduceGE, Int.reduceToNat, Int.reduceNeg, eq_self, if_true, if_false, chunks, aelems, elemsFit, forall_eq, Nat.reduceBEq, Nat.reduceBNe, abx, afld, pgTree]; try first | exact AVle.refl _ | exact AVle.sl _ _ | exact AVle.gs _ _ _ | assumption)
  · rintro pre x post e g hp ⟨rfl, rfl⟩
    simp -implicitDefEqProofs only [↓pgPre, pgPost, aread, envOf, ↓reduceIte, Nat.reduceEqDiff, Nat.reduceAdd, Nat.reduceSub, Nat.reduceLeDiff, Nat.reduceLT, Nat.reduceMul, apeq, boolNeg, afa, aload, abin, aun, amn, amx, aext, aconv, abeq, anilc, RRead.still, REff.allocs, evParts, afill, astore, reduceCtorEq, aseq, cellsEq, cellEq, Int.reduceAdd, Int.reduceSub, Int.reduceMul, Int.reduceEq, Int.reduceLT, Int.reduceLE, Int.reduceGT, Int.reduceGE, Int.reduceToNat, Int.reduceNeg, eq_self, if_true, if_false, chunks, aelems, elemsFit, forall_eq, Nat.reduceBEq, Nat.reduceBNe, abx, afld, pgTree, lt_at hp, aia_sl (map_at hp) (eRoutine_len x), ckBlk]
    refine mapupT_of (es := (allOf [] pre).map eEntry) (by rw [upd_ne _ _ _ hcm.symm, upd_same]) (aset_scope x.name (.routine x) _) rfl ?_
    simp -implicitDefEqProofs only [↓pgPre, pgPost, aread, envOf, ↓reduceIte, Nat.reduceEqDiff, Nat.reduceAdd, Nat.reduceSub, Nat.reduceLeDiff, Nat.reduceLT, Nat.reduceMul, apeq, boolNeg, afa, aload, abin, aun, amn, amx, aext, aconv, abeq, anilc, RRead.still, REff.allocs, evParts, afill, astore, reduceCtorEq, aseq, cellsEq, cellEq, Int.reduceAdd, Int.reduceSub, Int.reduceMul, Int.reduceEq, Int.reduceLT, Int.reduceLE, Int.reduceGT, Int.reduceGE, Int.reduceToNat, Int.reduceNeg, eq_self, if_true, if_false, chunks, aelems, elemsFit, forall_eq, Nat.reduceBEq, Nat.reduceBNe, abx, afld, pgTree, upd_ne _ _ _ hcm]
    refine ⟨_, _, WeakE.env ?_, ?_, rfl⟩
    · skip
      repeat' (first | exact EnvLe.nil _ | refine EnvLe.cons ?_ ?_)
      all_goals (simp -implicitDefEqProofs only [↓pgPre, pgPost, aread, envOf, ↓reduceIte, Nat.reduceEqDiff, Nat.reduceAdd, Nat.reduceSub, Nat.reduceLeDiff, Nat.reduceLT, Nat.reduceMul, apeq, boolNeg, afa, aload, abin, aun, amn, amx, aext, aconv, abeq, anilc, RRead.still, REff.allocs, evParts, afill, astore, reduceCtorEq, aseq, cellsEq, cellEq, Int.reduceAdd, Int.reduceSub, Int.reduceMul, Int.reduceEq, Int.reduceLT, Int.reduceLE, Int.reduceGT, Int.reduceGE, Int.reduceToNat, Int.reduceNeg, eq_self, if_true, if_false, chunks, aelems, elemsFit, forall_eq, Nat.reduceBEq, Nat.reduceBNe, abx, afld, pgTree, step_at hw hp]; try first | exact AVle.refl _ | exact AVle.sl _ _ | exact AVle.gs _ _ _ | assumption)
    · rw [upd_comm _ _ _ hcm, upd_upd, allOf_append]
  · rintro e g ⟨rfl, rfl⟩
    simp -implicitDefEqProofs only [↓pgPre, pgPost, aread, envOf, ↓reduceIte, Nat.reduceEqDiff, Nat.reduceAdd, Nat.reduceSub, Nat.reduceLeDiff, Nat.reduceLT, Nat.reduceMul, apeq, boolNeg, afa, aload, abin, aun, amn, amx, aext, aconv, abeq, anilc, RRead.still, REff.allocs, evParts, afill, astore, reduceCtorEq, aseq, cellsEq, cellEq, Int.reduceAdd, Int.reduceSub, Int.reduceMul, Int.reduceEq, Int.reduceLT, Int.reduceLE, Int.reduceGT, Int.reduceGE, Int.reduceToNat, Int.reduceNeg, eq_self, if_true, if_false, chunks, aelems, elemsFit, forall_eq, Nat.reduceBEq, Nat.reduceBNe, abx, afld, pgTree, lt_end, ckBlk]
    refine lessQ.same ?_
    simp -implicitDefEqProofs only [↓pgPre, pgPost, aread, envOf, ↓reduceIte, Nat.reduceEqDiff, Nat.reduceAdd, Nat.reduceSub, Nat.reduceLeDiff, Nat.reduceLT, Nat.reduceMul, apeq, boolNeg, afa, aload, abin, aun, amn, amx, aext, aconv, abeq, anilc, RRead.still, REff.allocs, evParts, afill, astore, reduceCtorEq, aseq, cellsEq, cellEq, Int.reduceAdd, Int.reduceSub, Int.reduceMul, Int.reduceEq, Int.reduceLT, Int.reduceLE, Int.reduceGT, Int.reduceGE, Int.reduceToNat, Int.reduceNeg, eq_self, if_true, if_false, chunks, aelems, elemsFit, forall_eq, Nat.reduceBEq, Nat.reduceBNe, abx, afld, pgTree, ckBlk]
    have k0 := k.deeper hm (allOf [] l)
    have o0 : Old h ((h.upd m (.mp ((allOf [] l).map eEntry))).upd c (ckBlk (.ip [sp, .map (some m)] 0) s inp)) c := (Old.fresh hm c _).trans (.next _ _ _)
    unfold ckBlk at k0 o0
    generalize ((h.upd m (.mp ((allOf [] l).map eEntry))).upd c _) = g0 at k0 o0 ⊢
    have hdm : (m :: bs).Nodup := List.nodup_cons.2 ⟨k.ch.fresh hm, hd⟩
    refine lT_list l (fun pre post e g => (∃ s', ckRoutines fs (allOf [] l :: fs) s l = ckRoutines fs (allOf [] l :: fs) s' post ∧ CkIn g c (.ip [sp, .map (some m)] 0) inp s' (allOf [] l :: fs) (m :: bs) ∧ Old h g c) ∧ e = [(0, .ptr (some ⟨c, 0, none⟩)), (1, .sl (l.map eRoutine) full), (4, sp), (6, .ip [sp, .map (some m)] 0), (46, .int .i64 l.length), (47, .int .i64 pre.length)]) (WeakE.env ?_) ⟨⟨s, rfl, k0, o0⟩, rfl⟩ ?_ ?_
    · skip
      repeat' (first | exact EnvLe.nil _ | refine EnvLe.cons ?_ ?_)
      all_goals (simp -implicitDefEqProofs only [↓pgPre, pgPost, aread, envOf, ↓reduceIte, Nat.reduceEqDiff, Nat.reduceAdd, Nat.reduceSub, Nat.reduceLeDiff, Nat.reduceLT, Nat.reduceMul, apeq, boolNeg, afa, aload, abin, aun, amn, amx, aext, aconv, abeq, anilc, RRead.still, REff.allocs, evParts, afill, astore, reduceCtorEq, aseq, cellsEq, cellEq, Int.reduceAdd, Int.reduceSub, Int.reduceMul, Int.reduceEq, Int.reduceLT, Int.reduceLE, Int.reduceGT, Int.reduceGE, Int.reduceToNat, Int.reduceNeg, eq_self, if_true, if_false, chunks, aelems, elemsFit, forall_eq, Nat.reduceBEq, Nat.reduceBNe, abx, afld, pgTree]; try first | exact AVle.refl _ | exact AVle.sl _ _ | exact AVle.gs _ _ _ | assumption)
    · rintro pre x post e g hp ⟨⟨s', hs, k', ol⟩, rfl⟩
      have hx := mem_at hp
      simp -implicitDefEqProofs only [↓pgPre, pgPost, aread, envOf, ↓reduceIte, Nat.reduceEqDiff, Nat.reduceAdd, Nat.reduceSub, Nat.reduceLeDiff, Nat.reduceLT, Nat.reduceMul, apeq, boolNeg, afa, aload, abin, aun, amn, amx, aext, aconv, abeq, anilc, RRead.still, REff.allocs, evParts, afill, astore, reduceCtorEq, aseq, cellsEq, cellEq, Int.reduceAdd, Int.reduceSub, Int.reduceMul, Int.reduceEq, Int.reduceLT, Int.reduceLE, Int.reduceGT, Int.reduceGE, Int.reduceToNat, Int.reduceNeg, eq_self, if_true, if_false, chunks, aelems, elemsFit, forall_eq, Nat.reduceBEq, Nat.reduceBNe, abx, afld, pgTree, lt_at hp]
      refine callT_of (next_spec k'.hc) (fun v g ⟨hv, hg⟩ => ?_)
      subst v g
      by_cases hz : s'.bad = 0
      · simp -implicitDefEqProofs only [↓pgPre, pgPost, aread, envOf, ↓reduceIte, Nat.reduceEqDiff, Nat.reduceAdd, Nat.reduceSub, Nat.reduceLeDiff, Nat.reduceLT, Nat.reduceMul, apeq, boolNeg, afa, aload, abin, aun, amn, amx, aext, aconv, abeq, anilc, RRead.still, REff.allocs, evParts, afill, astore, reduceCtorEq, aseq, cellsEq, cellEq, Int.reduceAdd, Int.reduceSub, Int.reduceMul, Int.reduceEq, Int.reduceLT, Int.reduceLE, Int.reduceGT, Int.reduceGE, Int.reduceToNat, Int.reduceNeg, eq_self, if_true, if_false, chunks, aelems, elemsFit, forall_eq, Nat.reduceBEq, Nat.reduceBNe, abx, afld, pgTree, hz, aia_sl (map_at hp) (eRoutine_len x)]
        have k1 := k'.next s'.step
        refine callT_of (find_spec k1.ch.up x.name) (fun v g ⟨hv, hg⟩ => ?_)
        subst v g
        simp -implicitDefEqProofs only [↓pgPre, pgPost, aread, envOf, ↓reduceIte, Nat.reduceEqDiff, Nat.reduceAdd, Nat.reduceSub, Nat.reduceLeDiff, Nat.reduceLT, Nat.reduceMul, apeq, boolNeg, afa, aload, abin, aun, amn, amx, aext, aconv, abeq, anilc, RRead.still, REff.allocs, evParts, afill, astore, reduceCtorEq, aseq, cellsEq, cellEq, Int.reduceAdd, Int.reduceSub, Int.reduceMul, Int.reduceEq, Int.reduceLT, Int.reduceLE, Int.reduceGT, Int.reduceGE, Int.reduceToNat, Int.reduceNeg, eq_self, if_true, if_false, chunks, aelems, elemsFit, forall_eq, Nat.reduceBEq, Nat.reduceBNe, abx, afld, pgTree, aia_sl (map_at hp) (eRoutine_len x)]
        cases hf : findIn fs x.name with
        | none =>
          simp -implicitDefEqProofs only [↓pgPre, pgPost, aread, envOf, ↓reduceIte, Nat.reduceEqDiff, Nat.reduceAdd, Nat.reduceSub, Nat.reduceLeDiff, Nat.reduceLT, Nat.reduceMul, apeq, boolNeg, afa, aload, abin, aun, amn, amx, aext, aconv, abeq, anilc, RRead.still, REff.allocs, evParts, afill, astore, reduceCtorEq, aseq, cellsEq, cellEq, Int.reduceAdd, Int.reduceSub, Int.reduceMul, Int.reduceEq, Int.reduceLT, Int.reduceLE, Int.reduceGT, Int.reduceGE, Int.reduceToNat, Int.reduceNeg, eq_self, if_true, if_false, chunks, aelems, elemsFit, forall_eq, Nat.reduceBEq, Nat.reduceBNe, abx, afld, pgTree, aia_sl (map_at hp) (eRoutine_len x)]
          refine callT_of (deeper_spec k1.ch.cells) (fun v g1 ⟨md, hmd, hv, hg1⟩ => ?_)
          subst hv hg1
          have hcd := k1.ne hmd
          have kc := k1.cell
          simp -implicitDefEqProofs only [↓pgPre, pgPost, aread, envOf, ↓reduceIte, Nat.reduceEqDiff, Nat.reduceAdd, Nat.reduceSub, Nat.reduceLeDiff, Nat.reduceLT, Nat.reduceMul, apeq, boolNeg, afa, aload, abin, aun, amn, amx, aext, aconv, abeq, anilc, RRead.still, REff.allocs, evParts, afill, astore, reduceCtorEq, aseq, cellsEq, cellEq, Int.reduceAdd, Int.reduceSub, Int.reduceMul, Int.reduceEq, Int.reduceLT, Int.reduceLE, Int.reduceGT, Int.reduceGE, Int.reduceToNat, Int.reduceNeg, eq_self, if_true, if_false, chunks, aelems, elemsFit, forall_eq, Nat.reduceBEq, Nat.reduceBNe, abx, afld, pgTree, ↓upd_upd, ↓kc, upd_ne _ _ _ hcd, aia_sl (map_at hp) (eRoutine_len x)]
          have k2 := k1.deeper hmd []
          refine callT_of (routine_of x (ho x hx) (ih x hx) k2 (List.nodup_cons.2 ⟨k1.ch.fresh hmd, hdm⟩) ((hg.all ho).cons (by simp)) rfl hi) (fun v g3 ⟨hv, sp', h3, h4⟩ => ?_)
          subst hv
          generalize e5 : ckRoutine (allOf [] l :: fs) _ x = s5 at h3
          unfold ckBlk at h3
          simp -implicitDefEqProofs only [↓pgPre, pgPost, aread, envOf, ↓reduceIte, Nat.reduceEqDiff, Nat.reduceAdd, Nat.reduceSub, Nat.reduceLeDiff, Nat.reduceLT, Nat.reduceMul, apeq, boolNeg, afa, aload, abin, aun, amn, amx, aext, aconv, abeq, anilc, RRead.still, REff.allocs, evParts, afill, astore, reduceCtorEq, aseq, cellsEq, cellEq, Int.reduceAdd, Int.reduceSub, Int.reduceMul, Int.reduceEq, Int.reduceLT, Int.reduceLE, Int.reduceGT, Int.reduceGE, Int.reduceToNat, Int.reduceNeg, eq_self, if_true, if_false, chunks, aelems, elemsFit, forall_eq, Nat.reduceBEq, Nat.reduceBNe, abx, afld, pgTree, h3]
          have ho1 : Old g3 (g3.upd c (ckBlk (.ip [sp, .map (some m)] 0) s5 inp)) c := .next _ _ _
          have ko : ∀ b, b ≠ c → (g.upd c (ckBlk (.ip [sp, .map (some m)] 0) s'.step inp)) b ≠ none → g3 b = (g.upd c (ckBlk (.ip [sp, .map (some m)] 0) s'.step inp)) b := by
            intro b h1 h2
            have hbd : b ≠ md := by intro hh; subst hh; exact h2 hmd
            have e8 : (((g.upd c (ckBlk (.ip [sp, .map (some m)] 0) s'.step inp)).upd md (.mp (([] : Scope).map eEntry))).upd c (ckBlk (.ip [.ip [sp, .map (some m)] 0, .map (some md)] 0) s'.step inp)) b = (g.upd c (ckBlk (.ip [sp, .map (some m)] 0) s'.step inp)) b := by rw [upd_ne _ _ _ h1, upd_ne _ _ _ hbd]
            exact (h4 b h1 hbd (fun hh => h2 (e8.symm.trans hh))).trans e8
          refine ⟨_, _, WeakE.env ?_, ⟨s5, ?_, ⟨upd_same _ _ _, ?_, k1.hn⟩, ?_⟩, rfl⟩
          · skip
            repeat' (first | exact EnvLe.nil _ | refine EnvLe.cons ?_ ?_)
            all_goals (simp -implicitDefEqProofs only [↓pgPre, pgPost, aread, envOf, ↓reduceIte, Nat.reduceEqDiff, Nat.reduceAdd, Nat.reduceSub, Nat.reduceLeDiff, Nat.reduceLT, Nat.reduceMul, apeq, boolNeg, afa, aload, abin, aun, amn, amx, aext, aconv, abeq, anilc, RRead.still, REff.allocs, evParts, afill, astore, reduceCtorEq, aseq, cellsEq, cellEq, Int.reduceAdd, Int.reduceSub, Int.reduceMul, Int.reduceEq, Int.reduceLT, Int.reduceLE, Int.reduceGT, Int.reduceGE, Int.reduceToNat, Int.reduceNeg, eq_self, if_true, if_false, chunks, aelems, elemsFit, forall_eq, Nat.reduceBEq, Nat.reduceBNe, abx, afld, pgTree, step_at hw hp]; try first | exact AVle.refl _ | exact AVle.sl _ _ | exact AVle.gs _ _ _ | assumption)
          · rw [hs, ← e5]; simp only [ckRoutines, hz, hf, if_true, if_false, Option.isSome_some, Option.isSome_none, Bool.false_eq_true]
          · refine Chain.upd _ k1.hn (Chain.same (fun b hb => ko b (fun hh => k1.hn (hh ▸ hb)) (k1.ch.mem b hb)) k1.ch)
          · have o2 : Old h (g.upd c (ckBlk (.ip [sp, .map (some m)] 0) s'.step inp)) c := ol.trans (.next _ _ _)
            exact (Old.trans o2 fun b h1 h2 => ko b h1 h2).trans ho1
        | some y =>
          simp -implicitDefEqProofs only [↓pgPre, pgPost, aread, envOf, ↓reduceIte, Nat.reduceEqDiff, Nat.reduceAdd, Nat.reduceSub, Nat.reduceLeDiff, Nat.reduceLT, Nat.reduceMul, apeq, boolNeg, afa, aload, abin, aun, amn, amx, aext, aconv, abeq, anilc, RRead.still, REff.allocs, evParts, afill, astore, reduceCtorEq, aseq, cellsEq, cellEq, Int.reduceAdd, Int.reduceSub, Int.reduceMul, Int.reduceEq, Int.reduceLT, Int.reduceLE, Int.reduceGT, Int.reduceGE, Int.reduceToNat, Int.reduceNeg, eq_self, if_true, if_false, chunks, aelems, elemsFit, forall_eq, Nat.reduceBEq, Nat.reduceBNe, abx, afld, pgTree, eThing_len, aia_sl (map_at hp) (eRoutine_len x)]
          refine callT_of (fail_spec k1.hc 12) (fun v g ⟨hv, hg⟩ => ?_)
          subst v g
          have k3 := k'.next (s'.step.fail 12)
          simp -implicitDefEqProofs only [↓pgPre, pgPost, aread, envOf, ↓reduceIte, Nat.reduceEqDiff, Nat.reduceAdd, Nat.reduceSub, Nat.reduceLeDiff, Nat.reduceLT, Nat.reduceMul, apeq, boolNeg, afa, aload, abin, aun, amn, amx, aext, aconv, abeq, anilc, RRead.still, REff.allocs, evParts, afill, astore, reduceCtorEq, aseq, cellsEq, cellEq, Int.reduceAdd, Int.reduceSub, Int.reduceMul, Int.reduceEq, Int.reduceLT, Int.reduceLE, Int.reduceGT, Int.reduceGE, Int.reduceToNat, Int.reduceNeg, eq_self, if_true, if_false, chunks, aelems, elemsFit, forall_eq, Nat.reduceBEq, Nat.reduceBNe, abx, afld, pgTree, aia_sl (map_at hp) (eRoutine_len x), upd_upd]
          refine callT_of (deeper_spec k3.ch.cells) (fun v g1 ⟨md, hmd, hv, hg1⟩ => ?_)
          subst hv hg1
          have hcd := k3.ne hmd
          have kc := k3.cell
          simp -implicitDefEqProofs only [↓pgPre, pgPost, aread, envOf, ↓reduceIte, Nat.reduceEqDiff, Nat.reduceAdd, Nat.reduceSub, Nat.reduceLeDiff, Nat.reduceLT, Nat.reduceMul, apeq, boolNeg, afa, aload, abin, aun, amn, amx, aext, aconv, abeq, anilc, RRead.still, REff.allocs, evParts, afill, astore, reduceCtorEq, aseq, cellsEq, cellEq, Int.reduceAdd, Int.reduceSub, Int.reduceMul, Int.reduceEq, Int.reduceLT, Int.reduceLE, Int.reduceGT, Int.reduceGE, Int.reduceToNat, Int.reduceNeg, eq_self, if_true, if_false, chunks, aelems, elemsFit, forall_eq, Nat.reduceBEq, Nat.reduceBNe, abx, afld, pgTree, ↓upd_upd, ↓kc, upd_ne _ _ _ hcd, aia_sl (map_at hp) (eRoutine_len x)]
          have k2 := k3.deeper hmd []
          refine callT_of (routine_of x (ho x hx) (ih x hx) k2 (List.nodup_cons.2 ⟨k3.ch.fresh hmd, hdm⟩) ((hg.all ho).cons (by simp)) rfl hi) (fun v g3 ⟨hv, sp', h3, h4⟩ => ?_)
          subst hv
          generalize e5 : ckRoutine (allOf [] l :: fs) _ x = s5 at h3
          unfold ckBlk at h3
          simp -implicitDefEqProofs only [↓pgPre, pgPost, aread, envOf, ↓reduceIte, Nat.reduceEqDiff, Nat.reduceAdd, Nat.reduceSub, Nat.reduceLeDiff, Nat.reduceLT, Nat.reduceMul, apeq, boolNeg, afa, aload, abin, aun, amn, amx, aext, aconv, abeq, anilc, RRead.still, REff.allocs, evParts, afill, astore, reduceCtorEq, aseq, cellsEq, cellEq, Int.reduceAdd, Int.reduceSub, Int.reduceMul, Int.reduceEq, Int.reduceLT, Int.reduceLE, Int.reduceGT, Int.reduceGE, Int.reduceToNat, Int.reduceNeg, eq_self, if_true, if_false, chunks, aelems, elemsFit, forall_eq, Nat.reduceBEq, Nat.reduceBNe, abx, afld, pgTree, h3]
          have ho1 : Old g3 (g3.upd c (ckBlk (.ip [sp, .map (some m)] 0) s5 inp)) c := .next _ _ _
          have ko : ∀ b, b ≠ c → (g.upd c (ckBlk (.ip [sp, .map (some m)] 0) (s'.step.fail 12) inp)) b ≠ none → g3 b = (g.upd c (ckBlk (.ip [sp, .map (some m)] 0) (s'.step.fail 12) inp)) b := by
            intro b h1 h2
            have hbd : b ≠ md := by intro hh; subst hh; exact h2 hmd
            have e8 : (((g.upd c (ckBlk (.ip [sp, .map (some m)] 0) (s'.step.fail 12) inp)).upd md (.mp (([] : Scope).map eEntry))).upd c (ckBlk (.ip [.ip [sp, .map (some m)] 0, .map (some md)] 0) (s'.step.fail 12) inp)) b = (g.upd c (ckBlk (.ip [sp, .map (some m)] 0) (s'.step.fail 12) inp)) b := by rw [upd_ne _ _ _ h1, upd_ne _ _ _ hbd]
            exact (h4 b h1 hbd (fun hh => h2 (e8.symm.trans hh))).trans e8
          refine ⟨_, _, WeakE.env ?_, ⟨s5, ?_, ⟨upd_same _ _ _, ?_, k3.hn⟩, ?_⟩, rfl⟩
          · skip
            repeat' (first | exact EnvLe.nil _ | refine EnvLe.cons ?_ ?_)
            all_goals (simp -implicitDefEqProofs only [↓pgPre, pgPost, aread, envOf, ↓reduceIte, Nat.reduceEqDiff, Nat.reduceAdd, Nat.reduceSub, Nat.reduceLeDiff, Nat.reduceLT, Nat.reduceMul, apeq, boolNeg, afa, aload, abin, aun, amn, amx, aext, aconv, abeq, anilc, RRead.still, REff.allocs, evParts, afill, astore, reduceCtorEq, aseq, cellsEq, cellEq, Int.reduceAdd, Int.reduceSub, Int.reduceMul, Int.reduceEq, Int.reduceLT, Int.reduceLE, Int.reduceGT, Int.reduceGE, Int.reduceToNat, Int.reduceNeg, eq_self, if_true, if_false, chunks, aelems, elemsFit, forall_eq, Nat.reduceBEq, Nat.reduceBNe, abx, afld, pgTree, step_at hw hp]; try first | exact AVle.refl _ | exact AVle.sl _ _ | exact AVle.gs _ _ _ | assumption)
          · rw [hs, ← e5]; simp only [ckRoutines, hz, hf, if_true, if_false, Option.isSome_some, Option.isSome_none, Bool.false_eq_true]
          · refine Chain.upd _ k3.hn (Chain.same (fun b hb => ko b (fun hh => k3.hn (hh ▸ hb)) (k3.ch.mem b hb)) k3.ch)
          · have o2 : Old h (g.upd c (ckBlk (.ip [sp, .map (some m)] 0) (s'.step.fail 12) inp)) c := ol.trans (.next _ _ _)
            exact (Old.trans o2 fun b h1 h2 => ko b h1 h2).trans ho1
      · simp -implicitDefEqProofs only [↓pgPre, pgPost, aread, envOf, ↓reduceIte, Nat.reduceEqDiff, Nat.reduceAdd, Nat.reduceSub, Nat.reduceLeDiff, Nat.reduceLT, Nat.reduceMul, apeq, boolNeg, afa, aload, abin, aun, amn, amx, aext, aconv, abeq, anilc, RRead.still, REff.allocs, evParts, afill, astore, reduceCtorEq, aseq, cellsEq, cellEq, Int.reduceAdd, Int.reduceSub, Int.reduceMul, Int.reduceEq, Int.reduceLT, Int.reduceLE, Int.reduceGT, Int.reduceGE, Int.reduceToNat, Int.reduceNeg, eq_self, if_true, if_false, chunks, aelems, elemsFit, forall_eq, Nat.reduceBEq, Nat.reduceBNe, abx, afld, pgTree, hz]
        refine lessQ.same ?_
        simp -implicitDefEqProofs only [↓pgPre, pgPost, aread, envOf, ↓reduceIte, Nat.reduceEqDiff, Nat.reduceAdd, Nat.reduceSub, Nat.reduceLeDiff, Nat.reduceLT, Nat.reduceMul, apeq, boolNeg, afa, aload, abin, aun, amn, amx, aext, aconv, abeq, anilc, RRead.still, REff.allocs, evParts, afill, astore, reduceCtorEq, aseq, cellsEq, cellEq, Int.reduceAdd, Int.reduceSub, Int.reduceMul, Int.reduceEq, Int.reduceLT, Int.reduceLE, Int.reduceGT, Int.reduceGE, Int.reduceToNat, Int.reduceNeg, eq_self, if_true, if_false, chunks, aelems, elemsFit, forall_eq, Nat.reduceBEq, Nat.reduceBNe, abx, afld, pgTree]
        refine .same ⟨rfl, m, k.ch.fresh hm, ?_, ol.trans (.next _ _ _)⟩
        rw [hs]
        simp only [ckRoutines, hz, if_false]
        exact k'.next s'
    · rintro e g ⟨⟨s', hs, k', ol⟩, rfl⟩
      simp -implicitDefEqProofs only [↓pgPre, pgPost, aread, envOf, ↓reduceIte, Nat.reduceEqDiff, Nat.reduceAdd, Nat.reduceSub, Nat.reduceLeDiff, Nat.reduceLT, Nat.reduceMul, apeq, boolNeg, afa, aload, abin, aun, amn, amx, aext, aconv, abeq, anilc, RRead.still, REff.allocs, evParts, afill, astore, reduceCtorEq, aseq, cellsEq, cellEq, Int.reduceAdd, Int.reduceSub, Int.reduceMul, Int.reduceEq, Int.reduceLT, Int.reduceLE, Int.reduceGT, Int.reduceGE, Int.reduceToNat, Int.reduceNeg, eq_self, if_true, if_false, chunks, aelems, elemsFit, forall_eq, Nat.reduceBEq, Nat.reduceBNe, abx, afld, pgTree, lt_end]
      refine lessQ.same ?_
      simp -implicitDefEqProofs only [↓pgPre, pgPost, aread, envOf, ↓reduceIte, Nat.reduceEqDiff, Nat.reduceAdd, Nat.reduceSub, Nat.reduceLeDiff, Nat.reduceLT, Nat.reduceMul, apeq, boolNeg, afa, aload, abin, aun, amn, amx, aext, aconv, abeq, anilc, RRead.still, REff.allocs, evParts, afill, astore, reduceCtorEq, aseq, cellsEq, cellEq, Int.reduceAdd, Int.reduceSub, Int.reduceMul, Int.reduceEq, Int.reduceLT, Int.reduceLE, Int.reduceGT, Int.reduceGE, Int.reduceToNat, Int.reduceNeg, eq_self, if_true, if_false, chunks, aelems, elemsFit, forall_eq, Nat.reduceBEq, Nat.reduceBNe, abx, afld, pgTree]
      refine .same ⟨rfl, m, k.ch.fresh hm, ?_, ol⟩
      rw [hs]; simpa only [ckRoutines] using k'
theorem routines_spec : ∀ (n : Nat) (l : List Routine), Routines.sz l ≤ n → few l → (∀ x ∈ l, x.ok) → RoutinesC l := by
  intro n
  induction n with
  | zero =>
    intro l hn hw ho
    refine routines_of l (fun x hx => ?_) hw ho
    have := Routines.sz_mem hx
    omega
  | succ n ih =>
    intro l hn hw ho
    refine routines_of l (fun x hx => ?_) hw ho
    have hz1 := Routines.sz_mem hx
    have hz2 := Routine.sz_eq x
    have hok := (Routine.ok_iff x).1 (ho x hx)
    exact @ih x.inner (by omega) hok.2.2.2.2.2.1 hok.2.2.2.2.2.2.1
end Pg
