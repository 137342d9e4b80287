import Derived.Test.YtpebidcmkjjpnaaTreeS
import Derived.Test.YtpebidcmkjjpnaaCk10
namespace Pg
open Go
set_option linter.unusedSimpArgs false
set_option linter.unusedVariables false
set_option maxHeartbeats 4000000
set_option maxRecDepth 4000

theorem Check_spec (h : AHeap) (p : Prg) (ho : p.ok) : ACalls Go.Proofs.Try.prog 15 [.agg (ePrg p)] h (fun v g => v = .tuple [.int .i64 (check p).1, .int .i64 (check p).2] ∧ g = h) := by
  refine F15.calls (by simp) ?_
  delta F15.c0 F15.c1 F15.c2 F15.c3 F15.c19 F15.c20 F15.c21 F15.c22 F15.c26 F15.r16 F15.c23 F15.c24 F15.c25 F15.r15 F15.r14 F15.r13 F15.r12 F15.r11 F15.c4 F15.c5 F15.c6 F15.c7 F15.c8 F15.c10 F15.r10 F15.c11 F15.c12 F15.c13 F15.c16 F15.c17 F15.c18 F15.r9 F15.r8 F15.r7 F15.c14 F15.c15 F15.r6 F15.r5 F15.c9 F15.r4 F15.r3 F15.r2 F15.r1 F15.r0
  simp -implicitDefEqProofs only [↓pgPre, pgPost, aread, envOf, ↓reduceIte, Nat.reduceEqDiff, Nat.reduceAdd, Nat.reduceSub, Nat.reduceLeDiff, Nat.reduceLT, Nat.reduceMul, apeq, boolNeg, afa, aload, abin, aun, amn, amx, aext, aconv, abeq, anilc, RRead.still, REff.allocs, evParts, afill, astore, reduceCtorEq, aseq, cellsEq, cellEq, Int.reduceAdd, Int.reduceSub, Int.reduceMul, Int.reduceEq, Int.reduceLT, Int.reduceLE, Int.reduceGT, Int.reduceGE, Int.reduceToNat, Int.reduceNeg, eq_self, if_true, if_false, chunks, aelems, elemsFit, forall_eq, Nat.reduceBEq, Nat.reduceBNe, abx, afld, pgTree]
  refine callT_of (deeper_spec (sp := .ptr none) rfl) (fun v g ⟨m, hm, hv, hg'⟩ => ?_)
  subst hv hg'
  simp -implicitDefEqProofs only [↓pgPre, pgPost, aread, envOf, ↓reduceIte, Nat.reduceEqDiff, Nat.reduceAdd, Nat.reduceSub, Nat.reduceLeDiff, Nat.reduceLT, Nat.reduceMul, apeq, boolNeg, afa, aload, abin, aun, amn, amx, aext, aconv, abeq, anilc, RRead.still, REff.allocs, evParts, afill, astore, reduceCtorEq, aseq, cellsEq, cellEq, Int.reduceAdd, Int.reduceSub, Int.reduceMul, Int.reduceEq, Int.reduceLT, Int.reduceLE, Int.reduceGT, Int.reduceGE, Int.reduceToNat, Int.reduceNeg, eq_self, if_true, if_false, chunks, aelems, elemsFit, forall_eq, Nat.reduceBEq, Nat.reduceBNe, abx, afld, pgTree]
  refine afreshT_intro fun c hc => ?_
  have hcm : c ≠ m := by intro hh; subst hh; rw [upd_same] at hc; cases hc
  have hcn : h c = none := by rw [upd_ne _ _ _ hcm] at hc; exact hc
  simp -implicitDefEqProofs only [↓pgPre, pgPost, aread, envOf, ↓reduceIte, Nat.reduceEqDiff, Nat.reduceAdd, Nat.reduceSub, Nat.reduceLeDiff, Nat.reduceLT, Nat.reduceMul, apeq, boolNeg, afa, aload, abin, aun, amn, amx, aext, aconv, abeq, anilc, RRead.still, REff.allocs, evParts, afill, astore, reduceCtorEq, aseq, cellsEq, cellEq, Int.reduceAdd, Int.reduceSub, Int.reduceMul, Int.reduceEq, Int.reduceLT, Int.reduceLE, Int.reduceGT, Int.reduceGE, Int.reduceToNat, Int.reduceNeg, eq_self, if_true, if_false, chunks, aelems, elemsFit, forall_eq, Nat.reduceBEq, Nat.reduceBNe, abx, afld, pgTree]
  have k0 : CkIn ((h.upd m (.mp [])).upd c (ckBlk (.ip [.ptr none, .map (some m)] 0) ⟨-1, 0⟩ (.ptr none))) c (.ip [.ptr none, .map (some m)] 0) (.ptr none) ⟨-1, 0⟩ [[]] [m] :=
    ⟨upd_same _ _ _, ⟨m, .ptr none, [], rfl, rfl, by rw [upd_ne _ _ _ hcm.symm, upd_same]; rfl, rfl, rfl⟩, by simp [hcm]⟩
  have ke0 : Keeps h ((h.upd m (.mp [])).upd c (ckBlk (.ip [.ptr none, .map (some m)] 0) ⟨-1, 0⟩ (.ptr none))) c m := by
    intro b h1 h2
    rw [upd_ne _ _ _ h1, upd_ne _ _ _ h2]
  unfold ckBlk at k0 ke0
  simp -implicitDefEqProofs only [↓pgPre, pgPost, aread, envOf, ↓reduceIte, Nat.reduceEqDiff, Nat.reduceAdd, Nat.reduceSub, Nat.reduceLeDiff, Nat.reduceLT, Nat.reduceMul, apeq, boolNeg, afa, aload, abin, aun, amn, amx, aext, aconv, abeq, anilc, RRead.still, REff.allocs, evParts, afill, astore, reduceCtorEq, aseq, cellsEq, cellEq, Int.reduceAdd, Int.reduceSub, Int.reduceMul, Int.reduceEq, Int.reduceLT, Int.reduceLE, Int.reduceGT, Int.reduceGE, Int.reduceToNat, Int.reduceNeg, eq_self, if_true, if_false, chunks, aelems, elemsFit, forall_eq, Nat.reduceBEq, Nat.reduceBNe, abx, afld, pgTree] at k0 ke0
  generalize ((h.upd m (.mp [])).upd c _) = g0 at k0 ke0 ⊢
  refine lT_list p.recs (fun pre post e g => (∃ s' f', ckRecs [[]] ⟨-1, 0⟩ p.recs = ckRecs [f'] s' post ∧ CkIn g c (.ip [.ptr none, .map (some m)] 0) (.ptr none) s' [f'] [m] ∧ Keeps h g c m ∧ Good [f']) ∧ e = [(1, .ip (ePrg p) 0), (5, .ptr (some ⟨c, 0, none⟩)), (13, .int .i64 p.recs.length), (14, .int .i64 pre.length)]) (WeakE.env ?_) ⟨⟨⟨-1, 0⟩, [], rfl, k0, ke0, fun f hf p hp => by simp at hf; subst hf; simp at hp⟩, rfl⟩ ?_ ?_
  · skip
    repeat' (first | exact EnvLe.nil _ | refine EnvLe.cons ?_ ?_)
    all_goals (simp -implicitDefEqProofs only [↓pgPre, pgPost, aread, envOf, ↓reduceIte, Nat.reduceEqDiff, Nat.reduceAdd, Nat.reduceSub, Nat.reduceLeDiff, Nat.reduceLT, Nat.reduceMul, apeq, boolNeg, afa, aload, abin, aun, amn, amx, aext, aconv, abeq, anilc, RRead.still, REff.allocs, evParts, afill, astore, reduceCtorEq, aseq, cellsEq, cellEq, Int.reduceAdd, Int.reduceSub, Int.reduceMul, Int.reduceEq, Int.reduceLT, Int.reduceLE, Int.reduceGT, Int.reduceGE, Int.reduceToNat, Int.reduceNeg, eq_self, if_true, if_false, chunks, aelems, elemsFit, forall_eq, Nat.reduceBEq, Nat.reduceBNe, abx, afld, pgTree]; try first | exact AVle.refl _ | exact AVle.sl _ _ | exact AVle.gs _ _ _ | assumption)
  · rintro pre x post e g hp ⟨⟨s', f', hs, k', ke, gd⟩, rfl⟩
    simp -implicitDefEqProofs only [↓pgPre, pgPost, aread, envOf, ↓reduceIte, Nat.reduceEqDiff, Nat.reduceAdd, Nat.reduceSub, Nat.reduceLeDiff, Nat.reduceLT, Nat.reduceMul, apeq, boolNeg, afa, aload, abin, aun, amn, amx, aext, aconv, abeq, anilc, RRead.still, REff.allocs, evParts, afill, astore, reduceCtorEq, aseq, cellsEq, cellEq, Int.reduceAdd, Int.reduceSub, Int.reduceMul, Int.reduceEq, Int.reduceLT, Int.reduceLE, Int.reduceGT, Int.reduceGE, Int.reduceToNat, Int.reduceNeg, eq_self, if_true, if_false, chunks, aelems, elemsFit, forall_eq, Nat.reduceBEq, Nat.reduceBNe, abx, afld, pgTree, lt_at hp, aia_sl (map_at hp) (eRec_len x)]
    refine callT_of (next_spec k'.hc) (fun v g ⟨hv, hg⟩ => ?_)
    subst v g
    by_cases hz : s'.bad = 0
    · simp -implicitDefEqProofs only [↓pgPre, pgPost, aread, envOf, ↓reduceIte, Nat.reduceEqDiff, Nat.reduceAdd, Nat.reduceSub, Nat.reduceLeDiff, Nat.reduceLT, Nat.reduceMul, apeq, boolNeg, afa, aload, abin, aun, amn, amx, aext, aconv, abeq, anilc, RRead.still, REff.allocs, evParts, afill, astore, reduceCtorEq, aseq, cellsEq, cellEq, Int.reduceAdd, Int.reduceSub, Int.reduceMul, Int.reduceEq, Int.reduceLT, Int.reduceLE, Int.reduceGT, Int.reduceGE, Int.reduceToNat, Int.reduceNeg, eq_self, if_true, if_false, chunks, aelems, elemsFit, forall_eq, Nat.reduceBEq, Nat.reduceBNe, abx, afld, pgTree, hz, aia_sl (map_at hp) (eRec_len x)]
      have k1 := k'.next s'.step
      refine callT_of (lay_spec' k1 (by simp) x.name (.rcd x)) (fun v g1 ⟨hv, k2, ke2⟩ => ?_)
      subst hv
      obtain ⟨f2, hf2⟩ := lay_tail f' [] s'.step x.name (.rcd x)
      have hx := ho.eachRec x (mem_at hp)
      have gd2 : Good (ckLay [f'] s'.step x.name (.rcd x)).1 := gd.lay hx.fields
      rw [hf2] at gd2 k2
      simp -implicitDefEqProofs only [↓pgPre, pgPost, aread, envOf, ↓reduceIte, Nat.reduceEqDiff, Nat.reduceAdd, Nat.reduceSub, Nat.reduceLeDiff, Nat.reduceLT, Nat.reduceMul, apeq, boolNeg, afa, aload, abin, aun, amn, amx, aext, aconv, abeq, anilc, RRead.still, REff.allocs, evParts, afill, astore, reduceCtorEq, aseq, cellsEq, cellEq, Int.reduceAdd, Int.reduceSub, Int.reduceMul, Int.reduceEq, Int.reduceLT, Int.reduceLE, Int.reduceGT, Int.reduceGE, Int.reduceToNat, Int.reduceNeg, eq_self, if_true, if_false, chunks, aelems, elemsFit, forall_eq, Nat.reduceBEq, Nat.reduceBNe, abx, afld, pgTree, aia_sl (map_at hp) (eRec_len x)]
      refine callT_of (fields_spec _ x hx.fields) (fun v g ⟨hv, hg⟩ => ?_)
      subst v g
      cases ht : twice [] x.fields with
      | true =>
        simp -implicitDefEqProofs only [↓pgPre, pgPost, aread, envOf, ↓reduceIte, Nat.reduceEqDiff, Nat.reduceAdd, Nat.reduceSub, Nat.reduceLeDiff, Nat.reduceLT, Nat.reduceMul, apeq, boolNeg, afa, aload, abin, aun, amn, amx, aext, aconv, abeq, anilc, RRead.still, REff.allocs, evParts, afill, astore, reduceCtorEq, aseq, cellsEq, cellEq, Int.reduceAdd, Int.reduceSub, Int.reduceMul, Int.reduceEq, Int.reduceLT, Int.reduceLE, Int.reduceGT, Int.reduceGE, Int.reduceToNat, Int.reduceNeg, eq_self, if_true, if_false, chunks, aelems, elemsFit, forall_eq, Nat.reduceBEq, Nat.reduceBNe, abx, afld, pgTree, ht]
        refine callT_of (fail_spec k2.hc 12) (fun v g ⟨hv, hg⟩ => ?_)
        subst v g
        simp -implicitDefEqProofs only [↓pgPre, pgPost, aread, envOf, ↓reduceIte, Nat.reduceEqDiff, Nat.reduceAdd, Nat.reduceSub, Nat.reduceLeDiff, Nat.reduceLT, Nat.reduceMul, apeq, boolNeg, afa, aload, abin, aun, amn, amx, aext, aconv, abeq, anilc, RRead.still, REff.allocs, evParts, afill, astore, reduceCtorEq, aseq, cellsEq, cellEq, Int.reduceAdd, Int.reduceSub, Int.reduceMul, Int.reduceEq, Int.reduceLT, Int.reduceLE, Int.reduceGT, Int.reduceGE, Int.reduceToNat, Int.reduceNeg, eq_self, if_true, if_false, chunks, aelems, elemsFit, forall_eq, Nat.reduceBEq, Nat.reduceBNe, abx, afld, pgTree]
        refine ⟨_, _, WeakE.env ?_, ⟨_, f2, ?_, k2.next _, (((ke.trans (.next _ _ _ _)).trans ke2)).trans (.next _ _ _ _), gd2⟩, rfl⟩
        · skip
          repeat' (first | exact EnvLe.nil _ | refine EnvLe.cons ?_ ?_)
          all_goals (simp -implicitDefEqProofs only [↓pgPre, pgPost, aread, envOf, ↓reduceIte, Nat.reduceEqDiff, Nat.reduceAdd, Nat.reduceSub, Nat.reduceLeDiff, Nat.reduceLT, Nat.reduceMul, apeq, boolNeg, afa, aload, abin, aun, amn, amx, aext, aconv, abeq, anilc, RRead.still, REff.allocs, evParts, afill, astore, reduceCtorEq, aseq, cellsEq, cellEq, Int.reduceAdd, Int.reduceSub, Int.reduceMul, Int.reduceEq, Int.reduceLT, Int.reduceLE, Int.reduceGT, Int.reduceGE, Int.reduceToNat, Int.reduceNeg, eq_self, if_true, if_false, chunks, aelems, elemsFit, forall_eq, Nat.reduceBEq, Nat.reduceBNe, abx, afld, pgTree, step_at ho.recs hp]; try first | exact AVle.refl _ | exact AVle.sl _ _ | exact AVle.gs _ _ _ | assumption)
        · rw [hs]; simp only [ckRecs, hz, if_true, hf2, ht]
      | false =>
        simp -implicitDefEqProofs only [↓pgPre, pgPost, aread, envOf, ↓reduceIte, Nat.reduceEqDiff, Nat.reduceAdd, Nat.reduceSub, Nat.reduceLeDiff, Nat.reduceLT, Nat.reduceMul, apeq, boolNeg, afa, aload, abin, aun, amn, amx, aext, aconv, abeq, anilc, RRead.still, REff.allocs, evParts, afill, astore, reduceCtorEq, aseq, cellsEq, cellEq, Int.reduceAdd, Int.reduceSub, Int.reduceMul, Int.reduceEq, Int.reduceLT, Int.reduceLE, Int.reduceGT, Int.reduceGE, Int.reduceToNat, Int.reduceNeg, eq_self, if_true, if_false, chunks, aelems, elemsFit, forall_eq, Nat.reduceBEq, Nat.reduceBNe, abx, afld, pgTree, ht]
        refine ⟨_, _, WeakE.env ?_, ⟨_, f2, ?_, k2, ((ke.trans (.next _ _ _ _)).trans ke2), gd2⟩, rfl⟩
        · skip
          repeat' (first | exact EnvLe.nil _ | refine EnvLe.cons ?_ ?_)
          all_goals (simp -implicitDefEqProofs only [↓pgPre, pgPost, aread, envOf, ↓reduceIte, Nat.reduceEqDiff, Nat.reduceAdd, Nat.reduceSub, Nat.reduceLeDiff, Nat.reduceLT, Nat.reduceMul, apeq, boolNeg, afa, aload, abin, aun, amn, amx, aext, aconv, abeq, anilc, RRead.still, REff.allocs, evParts, afill, astore, reduceCtorEq, aseq, cellsEq, cellEq, Int.reduceAdd, Int.reduceSub, Int.reduceMul, Int.reduceEq, Int.reduceLT, Int.reduceLE, Int.reduceGT, Int.reduceGE, Int.reduceToNat, Int.reduceNeg, eq_self, if_true, if_false, chunks, aelems, elemsFit, forall_eq, Nat.reduceBEq, Nat.reduceBNe, abx, afld, pgTree, step_at ho.recs hp]; try first | exact AVle.refl _ | exact AVle.sl _ _ | exact AVle.gs _ _ _ | assumption)
        · rw [hs]; simp only [ckRecs, hz, if_true, hf2, ht, Bool.false_eq_true, if_false]
    · simp -implicitDefEqProofs only [↓pgPre, pgPost, aread, envOf, ↓reduceIte, Nat.reduceEqDiff, Nat.reduceAdd, Nat.reduceSub, Nat.reduceLeDiff, Nat.reduceLT, Nat.reduceMul, apeq, boolNeg, afa, aload, abin, aun, amn, amx, aext, aconv, abeq, anilc, RRead.still, REff.allocs, evParts, afill, astore, reduceCtorEq, aseq, cellsEq, cellEq, Int.reduceAdd, Int.reduceSub, Int.reduceMul, Int.reduceEq, Int.reduceLT, Int.reduceLE, Int.reduceGT, Int.reduceGE, Int.reduceToNat, Int.reduceNeg, eq_self, if_true, if_false, chunks, aelems, elemsFit, forall_eq, Nat.reduceBEq, Nat.reduceBNe, abx, afld, pgTree, hz]
      refine lessQ.same ?_
      simp -implicitDefEqProofs only [↓pgPre, pgPost, aread, envOf, ↓reduceIte, Nat.reduceEqDiff, Nat.reduceAdd, Nat.reduceSub, Nat.reduceLeDiff, Nat.reduceLT, Nat.reduceMul, apeq, boolNeg, afa, aload, abin, aun, amn, amx, aext, aconv, abeq, anilc, RRead.still, REff.allocs, evParts, afill, astore, reduceCtorEq, aseq, cellsEq, cellEq, Int.reduceAdd, Int.reduceSub, Int.reduceMul, Int.reduceEq, Int.reduceLT, Int.reduceLE, Int.reduceGT, Int.reduceGE, Int.reduceToNat, Int.reduceNeg, eq_self, if_true, if_false, chunks, aelems, elemsFit, forall_eq, Nat.reduceBEq, Nat.reduceBNe, abx, afld, pgTree]
      have k1 := k'.next s'
      have hg1 : Good [f'] := gd
      refine callT_of (variables_spec k1 (by simp) p.vars ho.vars p.routines ho.routines false false) (fun v g2 ⟨hv, k2, ke2⟩ => ?_)
      subst hv
      have hg2 : Good (ckVars [f'] s' p.vars p.routines).1 := hg1.vars
      have eb : ckRecs [[]] ⟨-1, 0⟩ p.recs = ([f'], s') := by rw [hs]; simp only [ckRecs, hz, if_false]
      generalize e2 : ckVars [f'] s' p.vars p.routines = q at k2 hg2
      simp -implicitDefEqProofs only [↓pgPre, pgPost, aread, envOf, ↓reduceIte, Nat.reduceEqDiff, Nat.reduceAdd, Nat.reduceSub, Nat.reduceLeDiff, Nat.reduceLT, Nat.reduceMul, apeq, boolNeg, afa, aload, abin, aun, amn, amx, aext, aconv, abeq, anilc, RRead.still, REff.allocs, evParts, afill, astore, reduceCtorEq, aseq, cellsEq, cellEq, Int.reduceAdd, Int.reduceSub, Int.reduceMul, Int.reduceEq, Int.reduceLT, Int.reduceLE, Int.reduceGT, Int.reduceGE, Int.reduceToNat, Int.reduceNeg, eq_self, if_true, if_false, chunks, aelems, elemsFit, forall_eq, Nat.reduceBEq, Nat.reduceBNe, abx, afld, pgTree]
      refine callT_of (routines_spec _ p.routines (Nat.le_refl _) ho.routines ho.eachRoutine k2 (by simp) hg2 rfl false) (fun v g3 ⟨hv, m3, hm3, k3, ke3⟩ => ?_)
      subst hv
      generalize e3 : ckRoutines q.1 (allOf [] p.routines :: q.1) q.2 p.routines = s3 at k3
      simp -implicitDefEqProofs only [↓pgPre, pgPost, aread, envOf, ↓reduceIte, Nat.reduceEqDiff, Nat.reduceAdd, Nat.reduceSub, Nat.reduceLeDiff, Nat.reduceLT, Nat.reduceMul, apeq, boolNeg, afa, aload, abin, aun, amn, amx, aext, aconv, abeq, anilc, RRead.still, REff.allocs, evParts, afill, astore, reduceCtorEq, aseq, cellsEq, cellEq, Int.reduceAdd, Int.reduceSub, Int.reduceMul, Int.reduceEq, Int.reduceLT, Int.reduceLE, Int.reduceGT, Int.reduceGE, Int.reduceToNat, Int.reduceNeg, eq_self, if_true, if_false, chunks, aelems, elemsFit, forall_eq, Nat.reduceBEq, Nat.reduceBNe, abx, afld, pgTree]
      refine callT_of (stmts_spec _ p.body (Nat.le_refl _) ho.body ho.eachStmt (.inl ⟨rfl, rfl⟩) k3 (Good.fewIn (hg2.all ho.eachRoutine)) false) (fun v g ⟨hv, hg⟩ => ?_)
      subst v g
      generalize e4 : ckStmts (allOf [] p.routines :: q.1) s3 0 p.body = s4
      have kc := (k3.next s4).cell
      have ea : ckAll p = s4 := by simp only [ckAll, eb, e2, e3, e4]
      have lz : h.le (g3.upd c (ckBlk (.ip [.ip [.ptr none, .map (some m)] 0, .map (some m3)] 0) s4 (.ptr none))) := by
        intro b o hb
        have hbc : b ≠ c := by intro hh; subst hh; rw [hcn] at hb; cases hb
        have hbm : b ≠ m := by intro hh; subst hh; rw [hm] at hb; cases hb
        have e7 : g2 b = h b := (ke2 b hbc hbm).trans ((upd_ne _ _ _ hbc).trans (ke b hbc hbm))
        rw [upd_ne _ _ _ hbc, ke3 b hbc (by rw [e7, hb]; simp), e7, hb]
      simp -implicitDefEqProofs only [↓pgPre, pgPost, aread, envOf, ↓reduceIte, Nat.reduceEqDiff, Nat.reduceAdd, Nat.reduceSub, Nat.reduceLeDiff, Nat.reduceLT, Nat.reduceMul, apeq, boolNeg, afa, aload, abin, aun, amn, amx, aext, aconv, abeq, anilc, RRead.still, REff.allocs, evParts, afill, astore, reduceCtorEq, aseq, cellsEq, cellEq, Int.reduceAdd, Int.reduceSub, Int.reduceMul, Int.reduceEq, Int.reduceLT, Int.reduceLE, Int.reduceGT, Int.reduceGE, Int.reduceToNat, Int.reduceNeg, eq_self, if_true, if_false, chunks, aelems, elemsFit, forall_eq, Nat.reduceBEq, Nat.reduceBNe, abx, afld, pgTree, ↓kc]
      by_cases hb : s4.bad = 0
      · simp -implicitDefEqProofs only [↓pgPre, pgPost, aread, envOf, ↓reduceIte, Nat.reduceEqDiff, Nat.reduceAdd, Nat.reduceSub, Nat.reduceLeDiff, Nat.reduceLT, Nat.reduceMul, apeq, boolNeg, afa, aload, abin, aun, amn, amx, aext, aconv, abeq, anilc, RRead.still, REff.allocs, evParts, afill, astore, reduceCtorEq, aseq, cellsEq, cellEq, Int.reduceAdd, Int.reduceSub, Int.reduceMul, Int.reduceEq, Int.reduceLT, Int.reduceLE, Int.reduceGT, Int.reduceGE, Int.reduceToNat, Int.reduceNeg, eq_self, if_true, if_false, chunks, aelems, elemsFit, forall_eq, Nat.reduceBEq, Nat.reduceBNe, abx, afld, pgTree, hb]
        exact .forget lz ⟨by simp [check, ea, hb], rfl⟩
      · simp -implicitDefEqProofs only [↓pgPre, pgPost, aread, envOf, ↓reduceIte, Nat.reduceEqDiff, Nat.reduceAdd, Nat.reduceSub, Nat.reduceLeDiff, Nat.reduceLT, Nat.reduceMul, apeq, boolNeg, afa, aload, abin, aun, amn, amx, aext, aconv, abeq, anilc, RRead.still, REff.allocs, evParts, afill, astore, reduceCtorEq, aseq, cellsEq, cellEq, Int.reduceAdd, Int.reduceSub, Int.reduceMul, Int.reduceEq, Int.reduceLT, Int.reduceLE, Int.reduceGT, Int.reduceGE, Int.reduceToNat, Int.reduceNeg, eq_self, if_true, if_false, chunks, aelems, elemsFit, forall_eq, Nat.reduceBEq, Nat.reduceBNe, abx, afld, pgTree, hb, ↓kc]
        exact .forget lz ⟨by simp [check, ea, hb], rfl⟩
  · rintro e g ⟨⟨s', f', hs, k', ke, gd⟩, rfl⟩
    simp -implicitDefEqProofs only [↓pgPre, pgPost, aread, envOf, ↓reduceIte, Nat.reduceEqDiff, Nat.reduceAdd, Nat.reduceSub, Nat.reduceLeDiff, Nat.reduceLT, Nat.reduceMul, apeq, boolNeg, afa, aload, abin, aun, amn, amx, aext, aconv, abeq, anilc, RRead.still, REff.allocs, evParts, afill, astore, reduceCtorEq, aseq, cellsEq, cellEq, Int.reduceAdd, Int.reduceSub, Int.reduceMul, Int.reduceEq, Int.reduceLT, Int.reduceLE, Int.reduceGT, Int.reduceGE, Int.reduceToNat, Int.reduceNeg, eq_self, if_true, if_false, chunks, aelems, elemsFit, forall_eq, Nat.reduceBEq, Nat.reduceBNe, abx, afld, pgTree, lt_end]
    refine lessQ.same ?_
    simp -implicitDefEqProofs only [↓pgPre, pgPost, aread, envOf, ↓reduceIte, Nat.reduceEqDiff, Nat.reduceAdd, Nat.reduceSub, Nat.reduceLeDiff, Nat.reduceLT, Nat.reduceMul, apeq, boolNeg, afa, aload, abin, aun, amn, amx, aext, aconv, abeq, anilc, RRead.still, REff.allocs, evParts, afill, astore, reduceCtorEq, aseq, cellsEq, cellEq, Int.reduceAdd, Int.reduceSub, Int.reduceMul, Int.reduceEq, Int.reduceLT, Int.reduceLE, Int.reduceGT, Int.reduceGE, Int.reduceToNat, Int.reduceNeg, eq_self, if_true, if_false, chunks, aelems, elemsFit, forall_eq, Nat.reduceBEq, Nat.reduceBNe, abx, afld, pgTree]
    have hg1 : Good [f'] := gd
    refine callT_of (variables_spec k' (by simp) p.vars ho.vars p.routines ho.routines false false) (fun v g2 ⟨hv, k2, ke2⟩ => ?_)
    subst hv
    have hg2 : Good (ckVars [f'] s' p.vars p.routines).1 := hg1.vars
    have eb : ckRecs [[]] ⟨-1, 0⟩ p.recs = ([f'], s') := by rw [hs]; simp only [ckRecs]
    generalize e2 : ckVars [f'] s' p.vars p.routines = q at k2 hg2
    simp -implicitDefEqProofs only [↓pgPre, pgPost, aread, envOf, ↓reduceIte, Nat.reduceEqDiff, Nat.reduceAdd, Nat.reduceSub, Nat.reduceLeDiff, Nat.reduceLT, Nat.reduceMul, apeq, boolNeg, afa, aload, abin, aun, amn, amx, aext, aconv, abeq, anilc, RRead.still, REff.allocs, evParts, afill, astore, reduceCtorEq, aseq, cellsEq, cellEq, Int.reduceAdd, Int.reduceSub, Int.reduceMul, Int.reduceEq, Int.reduceLT, Int.reduceLE, Int.reduceGT, Int.reduceGE, Int.reduceToNat, Int.reduceNeg, eq_self, if_true, if_false, chunks, aelems, elemsFit, forall_eq, Nat.reduceBEq, Nat.reduceBNe, abx, afld, pgTree]
    refine callT_of (routines_spec _ p.routines (Nat.le_refl _) ho.routines ho.eachRoutine k2 (by simp) hg2 rfl false) (fun v g3 ⟨hv, m3, hm3, k3, ke3⟩ => ?_)
    subst hv
    generalize e3 : ckRoutines q.1 (allOf [] p.routines :: q.1) q.2 p.routines = s3 at k3
    simp -implicitDefEqProofs only [↓pgPre, pgPost, aread, envOf, ↓reduceIte, Nat.reduceEqDiff, Nat.reduceAdd, Nat.reduceSub, Nat.reduceLeDiff, Nat.reduceLT, Nat.reduceMul, apeq, boolNeg, afa, aload, abin, aun, amn, amx, aext, aconv, abeq, anilc, RRead.still, REff.allocs, evParts, afill, astore, reduceCtorEq, aseq, cellsEq, cellEq, Int.reduceAdd, Int.reduceSub, Int.reduceMul, Int.reduceEq, Int.reduceLT, Int.reduceLE, Int.reduceGT, Int.reduceGE, Int.reduceToNat, Int.reduceNeg, eq_self, if_true, if_false, chunks, aelems, elemsFit, forall_eq, Nat.reduceBEq, Nat.reduceBNe, abx, afld, pgTree]
    refine callT_of (stmts_spec _ p.body (Nat.le_refl _) ho.body ho.eachStmt (.inl ⟨rfl, rfl⟩) k3 (Good.fewIn (hg2.all ho.eachRoutine)) false) (fun v g ⟨hv, hg⟩ => ?_)
    subst v g
    generalize e4 : ckStmts (allOf [] p.routines :: q.1) s3 0 p.body = s4
    have kc := (k3.next s4).cell
    have ea : ckAll p = s4 := by simp only [ckAll, eb, e2, e3, e4]
    have lz : h.le (g3.upd c (ckBlk (.ip [.ip [.ptr none, .map (some m)] 0, .map (some m3)] 0) s4 (.ptr none))) := by
      intro b o hb
      have hbc : b ≠ c := by intro hh; subst hh; rw [hcn] at hb; cases hb
      have hbm : b ≠ m := by intro hh; subst hh; rw [hm] at hb; cases hb
      have e7 : g2 b = h b := (ke2 b hbc hbm).trans (ke b hbc hbm)
      rw [upd_ne _ _ _ hbc, ke3 b hbc (by rw [e7, hb]; simp), e7, hb]
    simp -implicitDefEqProofs only [↓pgPre, pgPost, aread, envOf, ↓reduceIte, Nat.reduceEqDiff, Nat.reduceAdd, Nat.reduceSub, Nat.reduceLeDiff, Nat.reduceLT, Nat.reduceMul, apeq, boolNeg, afa, aload, abin, aun, amn, amx, aext, aconv, abeq, anilc, RRead.still, REff.allocs, evParts, afill, astore, reduceCtorEq, aseq, cellsEq, cellEq, Int.reduceAdd, Int.reduceSub, Int.reduceMul, Int.reduceEq, Int.reduceLT, Int.reduceLE, Int.reduceGT, Int.reduceGE, Int.reduceToNat, Int.reduceNeg, eq_self, if_true, if_false, chunks, aelems, elemsFit, forall_eq, Nat.reduceBEq, Nat.reduceBNe, abx, afld, pgTree, ↓kc]
    by_cases hb : s4.bad = 0
    · simp -implicitDefEqProofs only [↓pgPre, pgPost, aread, envOf, ↓reduceIte, Nat.reduceEqDiff, Nat.reduceAdd, Nat.reduceSub, Nat.reduceLeDiff, Nat.reduceLT, Nat.reduceMul, apeq, boolNeg, afa, aload, abin, aun, amn, amx, aext, aconv, abeq, anilc, RRead.still, REff.allocs, evParts, afill, astore, reduceCtorEq, aseq, cellsEq, cellEq, Int.reduceAdd, Int.reduceSub, Int.reduceMul, Int.reduceEq, Int.reduceLT, Int.reduceLE, Int.reduceGT, Int.reduceGE, Int.reduceToNat, Int.reduceNeg, eq_self, if_true, if_false, chunks, aelems, elemsFit, forall_eq, Nat.reduceBEq, Nat.reduceBNe, abx, afld, pgTree, hb]
      exact .forget lz ⟨by simp [check, ea, hb], rfl⟩
    · simp -implicitDefEqProofs only [↓pgPre, pgPost, aread, envOf, ↓reduceIte, Nat.reduceEqDiff, Nat.reduceAdd, Nat.reduceSub, Nat.reduceLeDiff, Nat.reduceLT, Nat.reduceMul, apeq, boolNeg, afa, aload, abin, aun, amn, amx, aext, aconv, abeq, anilc, RRead.still, REff.allocs, evParts, afill, astore, reduceCtorEq, aseq, cellsEq, cellEq, Int.reduceAdd, Int.reduceSub, Int.reduceMul, Int.reduceEq, Int.reduceLT, Int.reduceLE, Int.reduceGT, Int.reduceGE, Int.reduceToNat, Int.reduceNeg, eq_self, if_true, if_false, chunks, aelems, elemsFit, forall_eq, Nat.reduceBEq, Nat.reduceBNe, abx, afld, pgTree, hb, ↓kc]
      exact .forget lz ⟨by simp [check, ea, hb], rfl⟩
end Pg
