import Derived.Test.YtpebidcmkjjpnaaTreeS
import Derived.Test.YtpebidcmkjjpnaaCk8
namespace Pg
open Go
set_option linter.unusedSimpArgs false
set_option linter.unusedVariables false
set_option maxHeartbeats 4000000
set_option maxRecDepth 4000

/-- What was stays, but for one block. -/
def Old (h g : AHeap) (c : Nat) : Prop := ∀ b, b ≠ c → h b ≠ none → g b = h b
theorem Old.refl (h : AHeap) (c : Nat) : Old h h c := fun _ _ _ => rfl
theorem Old.trans {h g k : AHeap} {c : Nat} (a : Old h g c) (b : Old g k c) : Old h k c := fun x h1 h2 => (b x h1 (by rw [a x h1 h2]; exact h2)).trans (a x h1 h2)
theorem Old.next (h : AHeap) (c : Nat) (o : AObj) : Old h (h.upd c o) c := fun b h1 _ => upd_ne _ _ _ h1
theorem Old.fresh {h : AHeap} {m : Nat} (hm : h m = none) (c : Nat) (o : AObj) : Old h (h.upd m o) c := fun b h1 h2 => upd_ne _ _ _ (by intro hh; subst hh; exact h2 hm)
theorem Chain.same {h g : AHeap} : ∀ {fs : List Scope} {sp : AV} {bs : List Nat}, (∀ b ∈ bs, g b = h b) → Chain h sp fs bs → Chain g sp fs bs
  | [], _, _, _, c => c
  | f :: fs, _, _, e, ⟨m, par, bs', h1, h2, h4, h5⟩ => by
    subst h1
    exact ⟨m, par, bs', rfl, h2, by rw [e m (by simp)]; exact h4, h5.same fun b hb => e b (by simp [hb])⟩
theorem CkIn.next' {h : AHeap} {c : Nat} {sp inp : AV} {s : CS} {fs : List Scope} {bs : List Nat} (k : CkIn h c sp inp s fs bs) (inp' : AV) (s' : CS) : CkIn (h.upd c (ckBlk sp s' inp')) c sp inp' s' fs bs := ⟨upd_same _ _ _, k.ch.upd _ k.hn, k.hn⟩
/-- The rule for a list of routines. -/
def RoutinesC (l : List Routine) : Prop := ∀ {h : AHeap} {c : Nat} {sp inp : AV} {s : CS} {fs : List Scope} {bs : List Nat} (k : CkIn h c sp inp s fs bs) (hd : bs.Nodup) (hg : Good fs) (hi : inp.cells? = some [inp]) (full : Bool),
  ACalls Go.Proofs.Try.prog 47 [.ptr (some ⟨c, 0, none⟩), .sl (l.map eRoutine) full] h (fun v g => v = .tuple [] ∧ ∃ m', m' ∉ bs ∧ CkIn g c (.ip [sp, .map (some m')] 0) inp (ckRoutines fs (allOf [] l :: fs) s l) (allOf [] l :: fs) (m' :: bs) ∧ Old h g c)
theorem routine_of (x : Routine) (ho : x.ok) (ih : RoutinesC x.inner) {h : AHeap} {c m : Nat} {sp inp : AV} {s : CS} {f : Scope} {all : List Scope} {bs : List Nat} (k : CkIn h c sp inp s (f :: all) (m :: bs)) (hd : (m :: bs).Nodup) (hg : Good (f :: all)) (hf : f = []) (hi : inp.cells? = some [inp]) :
    ACalls Go.Proofs.Try.prog 76 [.ptr (some ⟨c, 0, none⟩), .ip (eRoutine x) 0] h (fun v g => v = .tuple [] ∧ ∃ sp', g c = some (ckBlk sp' (ckRoutine all s x) inp) ∧ ∀ b, b ≠ c → b ≠ m → h b ≠ none → g b = h b) := by
  have hok := (Routine.ok_iff x).1 ho
  have hpar : few x.params := hok.2.2.1
  have hvars : few x.vars := hok.2.2.2.1
  have hinner : few x.inner := hok.2.2.2.2.2.1
  refine F76.calls (by simp) ?_
  delta F76.c0 F76.c11 F76.c14 F76.c15 F76.c16 F76.c17 F76.c18 F76.r13 F76.r12 F76.r11 F76.r10 F76.r9 F76.r8 F76.c12 F76.c13 F76.r7 F76.r6 F76.c1 F76.c2 F76.c3 F76.c4 F76.c5 F76.c7 F76.r5 F76.c8 F76.c9 F76.c10 F76.r4 F76.r3 F76.r2 F76.c6 F76.r1 F76.r0
  simp -implicitDefEqProofs only [↓pgPre, pgPost, aread, envOf, ↓reduceIte, Nat.reduceEqDiff, Nat.reduceAdd, Nat.reduceSub, Nat.reduceLeDiff, Nat.reduceLT, Nat.reduceMul, apeq, boolNeg, afa, aload, abin, aun, amn, amx, aext, aconv, abeq, anilc, RRead.still, REff.allocs, evParts, afill, astore, reduceCtorEq, aseq, cellsEq, cellEq, Int.reduceAdd, Int.reduceSub, Int.reduceMul, Int.reduceEq, Int.reduceLT, Int.reduceLE, Int.reduceGT, Int.reduceGE, Int.reduceToNat, Int.reduceNeg, eq_self, if_true, if_false, chunks, aelems, elemsFit, forall_eq, Nat.reduceBEq, Nat.reduceBNe, abx, afld, pgTree]
  refine lT_list x.params (fun pre post e g => (∃ s' f', ckParams (f :: all) s x.params = ckParams (f' :: all) s' post ∧ CkIn g c sp inp s' (f' :: all) (m :: bs) ∧ Keeps h g c m) ∧ e = [(0, .ptr (some ⟨c, 0, none⟩)), (1, .ip (eRoutine x) 0), (10, .sl (x.params.map eParam) false), (11, .int .i64 x.params.length), (12, .int .i64 pre.length)]) (WeakE.env ?_) ⟨⟨s, f, rfl, k, .refl _ _ _⟩, rfl⟩ ?_ ?_
  · skip
    repeat' (first | exact EnvLe.nil _ | refine EnvLe.cons ?_ ?_)
    all_goals (simp -implicitDefEqProofs only [↓pgPre, pgPost, aread, envOf, ↓reduceIte, Nat.reduceEqDiff, Nat.reduceAdd, Nat.reduceSub, Nat.reduceLeDiff, Nat.reduceLT, Nat.reduceMul, apeq, boolNeg, afa, aload, abin, aun, amn, amx, aext, aconv, abeq, anilc, RRead.still, REff.allocs, evParts, afill, astore, reduceCtorEq, aseq, cellsEq, cellEq, Int.reduceAdd, Int.reduceSub, Int.reduceMul, Int.reduceEq, Int.reduceLT, Int.reduceLE, Int.reduceGT, Int.reduceGE, Int.reduceToNat, Int.reduceNeg, eq_self, if_true, if_false, chunks, aelems, elemsFit, forall_eq, Nat.reduceBEq, Nat.reduceBNe, abx, afld, pgTree]; try first | exact AVle.refl _ | exact AVle.sl _ _ | exact AVle.gs _ _ _ | assumption)
  · rintro pre y post e g hp ⟨⟨s', f', hs, k', ke⟩, rfl⟩
    simp -implicitDefEqProofs only [↓pgPre, pgPost, aread, envOf, ↓reduceIte, Nat.reduceEqDiff, Nat.reduceAdd, Nat.reduceSub, Nat.reduceLeDiff, Nat.reduceLT, Nat.reduceMul, apeq, boolNeg, afa, aload, abin, aun, amn, amx, aext, aconv, abeq, anilc, RRead.still, REff.allocs, evParts, afill, astore, reduceCtorEq, aseq, cellsEq, cellEq, Int.reduceAdd, Int.reduceSub, Int.reduceMul, Int.reduceEq, Int.reduceLT, Int.reduceLE, Int.reduceGT, Int.reduceGE, Int.reduceToNat, Int.reduceNeg, eq_self, if_true, if_false, chunks, aelems, elemsFit, forall_eq, Nat.reduceBEq, Nat.reduceBNe, abx, afld, pgTree, lt_at hp, aia_sl (map_at hp) (eParam_len y)]
    refine callT_of (lay_spec' k' hd y.name (.var y.t)) (fun v g1 ⟨hv, k3, ke3⟩ => ?_)
    subst hv
    simp -implicitDefEqProofs only [↓pgPre, pgPost, aread, envOf, ↓reduceIte, Nat.reduceEqDiff, Nat.reduceAdd, Nat.reduceSub, Nat.reduceLeDiff, Nat.reduceLT, Nat.reduceMul, apeq, boolNeg, afa, aload, abin, aun, amn, amx, aext, aconv, abeq, anilc, RRead.still, REff.allocs, evParts, afill, astore, reduceCtorEq, aseq, cellsEq, cellEq, Int.reduceAdd, Int.reduceSub, Int.reduceMul, Int.reduceEq, Int.reduceLT, Int.reduceLE, Int.reduceGT, Int.reduceGE, Int.reduceToNat, Int.reduceNeg, eq_self, if_true, if_false, chunks, aelems, elemsFit, forall_eq, Nat.reduceBEq, Nat.reduceBNe, abx, afld, pgTree]
    refine callT_of (typ_spec k3.hc k3.ch y.t) (fun v g ⟨hv, hg⟩ => ?_)
    subst v g
    simp -implicitDefEqProofs only [↓pgPre, pgPost, aread, envOf, ↓reduceIte, Nat.reduceEqDiff, Nat.reduceAdd, Nat.reduceSub, Nat.reduceLeDiff, Nat.reduceLT, Nat.reduceMul, apeq, boolNeg, afa, aload, abin, aun, amn, amx, aext, aconv, abeq, anilc, RRead.still, REff.allocs, evParts, afill, astore, reduceCtorEq, aseq, cellsEq, cellEq, Int.reduceAdd, Int.reduceSub, Int.reduceMul, Int.reduceEq, Int.reduceLT, Int.reduceLE, Int.reduceGT, Int.reduceGE, Int.reduceToNat, Int.reduceNeg, eq_self, if_true, if_false, chunks, aelems, elemsFit, forall_eq, Nat.reduceBEq, Nat.reduceBNe, abx, afld, pgTree]
    obtain ⟨f2, hf2⟩ := lay_tail f' all s' y.name (.var y.t)
    refine ⟨_, _, WeakE.env ?_, ⟨ckTyp (ckLay (f' :: all) s' y.name (.var y.t)).1 (ckLay (f' :: all) s' y.name (.var y.t)).2 y.t, f2, ?_, ?_, (ke.trans ke3).trans (.next _ _ _ _)⟩, rfl⟩
    · skip
      repeat' (first | exact EnvLe.nil _ | refine EnvLe.cons ?_ ?_)
      all_goals (simp -implicitDefEqProofs only [↓pgPre, pgPost, aread, envOf, ↓reduceIte, Nat.reduceEqDiff, Nat.reduceAdd, Nat.reduceSub, Nat.reduceLeDiff, Nat.reduceLT, Nat.reduceMul, apeq, boolNeg, afa, aload, abin, aun, amn, amx, aext, aconv, abeq, anilc, RRead.still, REff.allocs, evParts, afill, astore, reduceCtorEq, aseq, cellsEq, cellEq, Int.reduceAdd, Int.reduceSub, Int.reduceMul, Int.reduceEq, Int.reduceLT, Int.reduceLE, Int.reduceGT, Int.reduceGE, Int.reduceToNat, Int.reduceNeg, eq_self, if_true, if_false, chunks, aelems, elemsFit, forall_eq, Nat.reduceBEq, Nat.reduceBNe, abx, afld, pgTree, step_at hpar hp]; try first | exact AVle.refl _ | exact AVle.sl _ _ | exact AVle.gs _ _ _ | assumption)
    · rw [hs]; simp only [ckParams, hf2]
    · have := k3.next (ckTyp (ckLay (f' :: all) s' y.name (.var y.t)).1 (ckLay (f' :: all) s' y.name (.var y.t)).2 y.t)
      rw [hf2] at this ⊢
      exact this
  · rintro e g ⟨⟨s', f1, hs, k', ke⟩, rfl⟩
    have hg1 : Good (f1 :: all) := by
      have := Good.params (l := x.params) (s := s) hg
      rw [hs] at this
      simpa only [ckParams] using this
    simp -implicitDefEqProofs only [↓pgPre, pgPost, aread, envOf, ↓reduceIte, Nat.reduceEqDiff, Nat.reduceAdd, Nat.reduceSub, Nat.reduceLeDiff, Nat.reduceLT, Nat.reduceMul, apeq, boolNeg, afa, aload, abin, aun, amn, amx, aext, aconv, abeq, anilc, RRead.still, REff.allocs, evParts, afill, astore, reduceCtorEq, aseq, cellsEq, cellEq, Int.reduceAdd, Int.reduceSub, Int.reduceMul, Int.reduceEq, Int.reduceLT, Int.reduceLE, Int.reduceGT, Int.reduceGE, Int.reduceToNat, Int.reduceNeg, eq_self, if_true, if_false, chunks, aelems, elemsFit, forall_eq, Nat.reduceBEq, Nat.reduceBNe, abx, afld, pgTree, lt_end]
    refine lessQ.same ?_
    simp -implicitDefEqProofs only [↓pgPre, pgPost, aread, envOf, ↓reduceIte, Nat.reduceEqDiff, Nat.reduceAdd, Nat.reduceSub, Nat.reduceLeDiff, Nat.reduceLT, Nat.reduceMul, apeq, boolNeg, afa, aload, abin, aun, amn, amx, aext, aconv, abeq, anilc, RRead.still, REff.allocs, evParts, afill, astore, reduceCtorEq, aseq, cellsEq, cellEq, Int.reduceAdd, Int.reduceSub, Int.reduceMul, Int.reduceEq, Int.reduceLT, Int.reduceLE, Int.reduceGT, Int.reduceGE, Int.reduceToNat, Int.reduceNeg, eq_self, if_true, if_false, chunks, aelems, elemsFit, forall_eq, Nat.reduceBEq, Nat.reduceBNe, abx, afld, pgTree]
    by_cases hr : 0 < x.result
    · have hr' : (x.result > 0) = True := by simpa using hr
      simp -implicitDefEqProofs only [↓pgPre, pgPost, aread, envOf, ↓reduceIte, Nat.reduceEqDiff, Nat.reduceAdd, Nat.reduceSub, Nat.reduceLeDiff, Nat.reduceLT, Nat.reduceMul, apeq, boolNeg, afa, aload, abin, aun, amn, amx, aext, aconv, abeq, anilc, RRead.still, REff.allocs, evParts, afill, astore, reduceCtorEq, aseq, cellsEq, cellEq, Int.reduceAdd, Int.reduceSub, Int.reduceMul, Int.reduceEq, Int.reduceLT, Int.reduceLE, Int.reduceGT, Int.reduceGE, Int.reduceToNat, Int.reduceNeg, eq_self, if_true, if_false, chunks, aelems, elemsFit, forall_eq, Nat.reduceBEq, Nat.reduceBNe, abx, afld, pgTree, hr']
      refine callT_of (Ends_spec _ x.body (Nat.le_refl _) hok.2.2.2.2.2.2.2.1 hok.2.2.2.2.2.2.2.2.1 false _) (fun v g ⟨hv, hg⟩ => ?_)
      subst v g
      cases he : endL x.body with
      | false =>
        simp -implicitDefEqProofs only [↓pgPre, pgPost, aread, envOf, ↓reduceIte, Nat.reduceEqDiff, Nat.reduceAdd, Nat.reduceSub, Nat.reduceLeDiff, Nat.reduceLT, Nat.reduceMul, apeq, boolNeg, afa, aload, abin, aun, amn, amx, aext, aconv, abeq, anilc, RRead.still, REff.allocs, evParts, afill, astore, reduceCtorEq, aseq, cellsEq, cellEq, Int.reduceAdd, Int.reduceSub, Int.reduceMul, Int.reduceEq, Int.reduceLT, Int.reduceLE, Int.reduceGT, Int.reduceGE, Int.reduceToNat, Int.reduceNeg, eq_self, if_true, if_false, chunks, aelems, elemsFit, forall_eq, Nat.reduceBEq, Nat.reduceBNe, abx, afld, pgTree]
        refine callT_of (fail_spec k'.hc 16) (fun v g ⟨hv, hg⟩ => ?_)
        subst v g
        have k1 := k'.next (s'.fail 16)
        simp -implicitDefEqProofs only [↓pgPre, pgPost, aread, envOf, ↓reduceIte, Nat.reduceEqDiff, Nat.reduceAdd, Nat.reduceSub, Nat.reduceLeDiff, Nat.reduceLT, Nat.reduceMul, apeq, boolNeg, afa, aload, abin, aun, amn, amx, aext, aconv, abeq, anilc, RRead.still, REff.allocs, evParts, afill, astore, reduceCtorEq, aseq, cellsEq, cellEq, Int.reduceAdd, Int.reduceSub, Int.reduceMul, Int.reduceEq, Int.reduceLT, Int.reduceLE, Int.reduceGT, Int.reduceGE, Int.reduceToNat, Int.reduceNeg, eq_self, if_true, if_false, chunks, aelems, elemsFit, forall_eq, Nat.reduceBEq, Nat.reduceBNe, abx, afld, pgTree]
        refine callT_of (variables_spec k1 hd x.vars hvars x.inner hinner false false) (fun v g2 ⟨hv, k2, ke2⟩ => ?_)
        subst hv
        have hg2 : Good (ckVars (f1 :: all) (s'.fail 16) x.vars x.inner).1 := hg1.vars
        generalize e2 : ckVars (f1 :: all) (s'.fail 16) x.vars x.inner = q at k2 hg2
        simp -implicitDefEqProofs only [↓pgPre, pgPost, aread, envOf, ↓reduceIte, Nat.reduceEqDiff, Nat.reduceAdd, Nat.reduceSub, Nat.reduceLeDiff, Nat.reduceLT, Nat.reduceMul, apeq, boolNeg, afa, aload, abin, aun, amn, amx, aext, aconv, abeq, anilc, RRead.still, REff.allocs, evParts, afill, astore, reduceCtorEq, aseq, cellsEq, cellEq, Int.reduceAdd, Int.reduceSub, Int.reduceMul, Int.reduceEq, Int.reduceLT, Int.reduceLE, Int.reduceGT, Int.reduceGE, Int.reduceToNat, Int.reduceNeg, eq_self, if_true, if_false, chunks, aelems, elemsFit, forall_eq, Nat.reduceBEq, Nat.reduceBNe, abx, afld, pgTree]
        refine callT_of (ih k2 hd hg2 hi false) (fun v g3 ⟨hv, m3, hm3, k3, ke3⟩ => ?_)
        subst hv
        generalize e3 : ckRoutines q.1 (allOf [] x.inner :: q.1) q.2 x.inner = s3 at k3
        have kc := k3.cell
        simp -implicitDefEqProofs only [↓pgPre, pgPost, aread, envOf, ↓reduceIte, Nat.reduceEqDiff, Nat.reduceAdd, Nat.reduceSub, Nat.reduceLeDiff, Nat.reduceLT, Nat.reduceMul, apeq, boolNeg, afa, aload, abin, aun, amn, amx, aext, aconv, abeq, anilc, RRead.still, REff.allocs, evParts, afill, astore, reduceCtorEq, aseq, cellsEq, cellEq, Int.reduceAdd, Int.reduceSub, Int.reduceMul, Int.reduceEq, Int.reduceLT, Int.reduceLE, Int.reduceGT, Int.reduceGE, Int.reduceToNat, Int.reduceNeg, eq_self, if_true, if_false, chunks, aelems, elemsFit, forall_eq, Nat.reduceBEq, Nat.reduceBNe, abx, afld, pgTree, ↓kc]
        have k4 := k3.next' (.ip (eRoutine x) 0) s3
        refine callT_of (stmts_spec _ x.body (Nat.le_refl _) hok.2.2.2.2.2.2.2.1 hok.2.2.2.2.2.2.2.2.1 (.inr ⟨x, rfl, rfl⟩) k4 (Good.fewIn (hg2.all hok.2.2.2.2.2.2.1)) false) (fun v g ⟨hv, hg⟩ => ?_)
        subst v g
        generalize e4 : ckStmts _ s3 x.result x.body = s4
        have k5 := (k3.next' (.ip (eRoutine x) 0) s4).cell
        simp -implicitDefEqProofs only [↓pgPre, pgPost, aread, envOf, ↓reduceIte, Nat.reduceEqDiff, Nat.reduceAdd, Nat.reduceSub, Nat.reduceLeDiff, Nat.reduceLT, Nat.reduceMul, apeq, boolNeg, afa, aload, abin, aun, amn, amx, aext, aconv, abeq, anilc, RRead.still, REff.allocs, evParts, afill, astore, reduceCtorEq, aseq, cellsEq, cellEq, Int.reduceAdd, Int.reduceSub, Int.reduceMul, Int.reduceEq, Int.reduceLT, Int.reduceLE, Int.reduceGT, Int.reduceGE, Int.reduceToNat, Int.reduceNeg, eq_self, if_true, if_false, chunks, aelems, elemsFit, forall_eq, Nat.reduceBEq, Nat.reduceBNe, abx, afld, pgTree, ↓upd_upd, ↓k5, hi]
        have e5 : ckRoutine all s x = s4 := by
          subst hf
          simp only [ckParams] at hs
          rw [ckRoutine_eq]
          simp only [hs, hr, he, and_self, and_false, false_and, if_true, if_false, reduceCtorEq, e2, e3, e4]
        refine .same ⟨rfl, _, by rw [upd_same, e5]; rfl, ?_⟩
        intro b h1 h2 h3
        have e6 : g b = h b := ke b h1 h2
        rw [upd_ne _ _ _ h1]
        have e7 : g2 b = h b := (ke2 b h1 h2).trans ((upd_ne _ _ _ h1).trans e6)
        rw [ke3 b h1 (by rw [e7]; exact h3), e7]
      | true =>
        simp -implicitDefEqProofs only [↓pgPre, pgPost, aread, envOf, ↓reduceIte, Nat.reduceEqDiff, Nat.reduceAdd, Nat.reduceSub, Nat.reduceLeDiff, Nat.reduceLT, Nat.reduceMul, apeq, boolNeg, afa, aload, abin, aun, amn, amx, aext, aconv, abeq, anilc, RRead.still, REff.allocs, evParts, afill, astore, reduceCtorEq, aseq, cellsEq, cellEq, Int.reduceAdd, Int.reduceSub, Int.reduceMul, Int.reduceEq, Int.reduceLT, Int.reduceLE, Int.reduceGT, Int.reduceGE, Int.reduceToNat, Int.reduceNeg, eq_self, if_true, if_false, chunks, aelems, elemsFit, forall_eq, Nat.reduceBEq, Nat.reduceBNe, abx, afld, pgTree]
        refine callT_of (variables_spec k' hd x.vars hvars x.inner hinner false false) (fun v g2 ⟨hv, k2, ke2⟩ => ?_)
        subst hv
        have hg2 : Good (ckVars (f1 :: all) s' x.vars x.inner).1 := hg1.vars
        generalize e2 : ckVars (f1 :: all) s' x.vars x.inner = q at k2 hg2
        simp -implicitDefEqProofs only [↓pgPre, pgPost, aread, envOf, ↓reduceIte, Nat.reduceEqDiff, Nat.reduceAdd, Nat.reduceSub, Nat.reduceLeDiff, Nat.reduceLT, Nat.reduceMul, apeq, boolNeg, afa, aload, abin, aun, amn, amx, aext, aconv, abeq, anilc, RRead.still, REff.allocs, evParts, afill, astore, reduceCtorEq, aseq, cellsEq, cellEq, Int.reduceAdd, Int.reduceSub, Int.reduceMul, Int.reduceEq, Int.reduceLT, Int.reduceLE, Int.reduceGT, Int.reduceGE, Int.reduceToNat, Int.reduceNeg, eq_self, if_true, if_false, chunks, aelems, elemsFit, forall_eq, Nat.reduceBEq, Nat.reduceBNe, abx, afld, pgTree]
        refine callT_of (ih k2 hd hg2 hi false) (fun v g3 ⟨hv, m3, hm3, k3, ke3⟩ => ?_)
        subst hv
        generalize e3 : ckRoutines q.1 (allOf [] x.inner :: q.1) q.2 x.inner = s3 at k3
        have kc := k3.cell
        simp -implicitDefEqProofs only [↓pgPre, pgPost, aread, envOf, ↓reduceIte, Nat.reduceEqDiff, Nat.reduceAdd, Nat.reduceSub, Nat.reduceLeDiff, Nat.reduceLT, Nat.reduceMul, apeq, boolNeg, afa, aload, abin, aun, amn, amx, aext, aconv, abeq, anilc, RRead.still, REff.allocs, evParts, afill, astore, reduceCtorEq, aseq, cellsEq, cellEq, Int.reduceAdd, Int.reduceSub, Int.reduceMul, Int.reduceEq, Int.reduceLT, Int.reduceLE, Int.reduceGT, Int.reduceGE, Int.reduceToNat, Int.reduceNeg, eq_self, if_true, if_false, chunks, aelems, elemsFit, forall_eq, Nat.reduceBEq, Nat.reduceBNe, abx, afld, pgTree, ↓kc]
        have k4 := k3.next' (.ip (eRoutine x) 0) s3
        refine callT_of (stmts_spec _ x.body (Nat.le_refl _) hok.2.2.2.2.2.2.2.1 hok.2.2.2.2.2.2.2.2.1 (.inr ⟨x, rfl, rfl⟩) k4 (Good.fewIn (hg2.all hok.2.2.2.2.2.2.1)) false) (fun v g ⟨hv, hg⟩ => ?_)
        subst v g
        generalize e4 : ckStmts _ s3 x.result x.body = s4
        have k5 := (k3.next' (.ip (eRoutine x) 0) s4).cell
        simp -implicitDefEqProofs only [↓pgPre, pgPost, aread, envOf, ↓reduceIte, Nat.reduceEqDiff, Nat.reduceAdd, Nat.reduceSub, Nat.reduceLeDiff, Nat.reduceLT, Nat.reduceMul, apeq, boolNeg, afa, aload, abin, aun, amn, amx, aext, aconv, abeq, anilc, RRead.still, REff.allocs, evParts, afill, astore, reduceCtorEq, aseq, cellsEq, cellEq, Int.reduceAdd, Int.reduceSub, Int.reduceMul, Int.reduceEq, Int.reduceLT, Int.reduceLE, Int.reduceGT, Int.reduceGE, Int.reduceToNat, Int.reduceNeg, eq_self, if_true, if_false, chunks, aelems, elemsFit, forall_eq, Nat.reduceBEq, Nat.reduceBNe, abx, afld, pgTree, ↓upd_upd, ↓k5, hi]
        have e5 : ckRoutine all s x = s4 := by
          subst hf
          simp only [ckParams] at hs
          rw [ckRoutine_eq]
          simp only [hs, hr, he, and_self, and_false, false_and, if_true, if_false, reduceCtorEq, e2, e3, e4]
        refine .same ⟨rfl, _, by rw [upd_same, e5]; rfl, ?_⟩
        intro b h1 h2 h3
        have e6 : g b = h b := ke b h1 h2
        rw [upd_ne _ _ _ h1]
        have e7 : g2 b = h b := (ke2 b h1 h2).trans e6
        rw [ke3 b h1 (by rw [e7]; exact h3), e7]
    · have hr' : (x.result > 0) = False := by simpa using hr
      simp -implicitDefEqProofs only [↓pgPre, pgPost, aread, envOf, ↓reduceIte, Nat.reduceEqDiff, Nat.reduceAdd, Nat.reduceSub, Nat.reduceLeDiff, Nat.reduceLT, Nat.reduceMul, apeq, boolNeg, afa, aload, abin, aun, amn, amx, aext, aconv, abeq, anilc, RRead.still, REff.allocs, evParts, afill, astore, reduceCtorEq, aseq, cellsEq, cellEq, Int.reduceAdd, Int.reduceSub, Int.reduceMul, Int.reduceEq, Int.reduceLT, Int.reduceLE, Int.reduceGT, Int.reduceGE, Int.reduceToNat, Int.reduceNeg, eq_self, if_true, if_false, chunks, aelems, elemsFit, forall_eq, Nat.reduceBEq, Nat.reduceBNe, abx, afld, pgTree, hr']
      refine callT_of (variables_spec k' hd x.vars hvars x.inner hinner false false) (fun v g2 ⟨hv, k2, ke2⟩ => ?_)
      subst hv
      have hg2 : Good (ckVars (f1 :: all) s' x.vars x.inner).1 := hg1.vars
      generalize e2 : ckVars (f1 :: all) s' x.vars x.inner = q at k2 hg2
      simp -implicitDefEqProofs only [↓pgPre, pgPost, aread, envOf, ↓reduceIte, Nat.reduceEqDiff, Nat.reduceAdd, Nat.reduceSub, Nat.reduceLeDiff, Nat.reduceLT, Nat.reduceMul, apeq, boolNeg, afa, aload, abin, aun, amn, amx, aext, aconv, abeq, anilc, RRead.still, REff.allocs, evParts, afill, astore, reduceCtorEq, aseq, cellsEq, cellEq, Int.reduceAdd, Int.reduceSub, Int.reduceMul, Int.reduceEq, Int.reduceLT, Int.reduceLE, Int.reduceGT, Int.reduceGE, Int.reduceToNat, Int.reduceNeg, eq_self, if_true, if_false, chunks, aelems, elemsFit, forall_eq, Nat.reduceBEq, Nat.reduceBNe, abx, afld, pgTree]
      refine callT_of (ih k2 hd hg2 hi false) (fun v g3 ⟨hv, m3, hm3, k3, ke3⟩ => ?_)
      subst hv
      generalize e3 : ckRoutines q.1 (allOf [] x.inner :: q.1) q.2 x.inner = s3 at k3
      have kc := k3.cell
      simp -implicitDefEqProofs only [↓pgPre, pgPost, aread, envOf, ↓reduceIte, Nat.reduceEqDiff, Nat.reduceAdd, Nat.reduceSub, Nat.reduceLeDiff, Nat.reduceLT, Nat.reduceMul, apeq, boolNeg, afa, aload, abin, aun, amn, amx, aext, aconv, abeq, anilc, RRead.still, REff.allocs, evParts, afill, astore, reduceCtorEq, aseq, cellsEq, cellEq, Int.reduceAdd, Int.reduceSub, Int.reduceMul, Int.reduceEq, Int.reduceLT, Int.reduceLE, Int.reduceGT, Int.reduceGE, Int.reduceToNat, Int.reduceNeg, eq_self, if_true, if_false, chunks, aelems, elemsFit, forall_eq, Nat.reduceBEq, Nat.reduceBNe, abx, afld, pgTree, ↓kc]
      have k4 := k3.next' (.ip (eRoutine x) 0) s3
      refine callT_of (stmts_spec _ x.body (Nat.le_refl _) hok.2.2.2.2.2.2.2.1 hok.2.2.2.2.2.2.2.2.1 (.inr ⟨x, rfl, rfl⟩) k4 (Good.fewIn (hg2.all hok.2.2.2.2.2.2.1)) false) (fun v g ⟨hv, hg⟩ => ?_)
      subst v g
      generalize e4 : ckStmts _ s3 x.result x.body = s4
      have k5 := (k3.next' (.ip (eRoutine x) 0) s4).cell
      simp -implicitDefEqProofs only [↓pgPre, pgPost, aread, envOf, ↓reduceIte, Nat.reduceEqDiff, Nat.reduceAdd, Nat.reduceSub, Nat.reduceLeDiff, Nat.reduceLT, Nat.reduceMul, apeq, boolNeg, afa, aload, abin, aun, amn, amx, aext, aconv, abeq, anilc, RRead.still, REff.allocs, evParts, afill, astore, reduceCtorEq, aseq, cellsEq, cellEq, Int.reduceAdd, Int.reduceSub, Int.reduceMul, Int.reduceEq, Int.reduceLT, Int.reduceLE, Int.reduceGT, Int.reduceGE, Int.reduceToNat, Int.reduceNeg, eq_self, if_true, if_false, chunks, aelems, elemsFit, forall_eq, Nat.reduceBEq, Nat.reduceBNe, abx, afld, pgTree, ↓upd_upd, ↓k5, hi]
      have e5 : ckRoutine all s x = s4 := by
        subst hf
        simp only [ckParams] at hs
        rw [ckRoutine_eq]
        simp only [hs, hr, hr, and_self, and_false, false_and, if_true, if_false, reduceCtorEq, e2, e3, e4]
      refine .same ⟨rfl, _, by rw [upd_same, e5]; rfl, ?_⟩
      intro b h1 h2 h3
      have e6 : g b = h b := ke b h1 h2
      rw [upd_ne _ _ _ h1]
      have e7 : g2 b = h b := (ke2 b h1 h2).trans e6
      rw [ke3 b h1 (by rw [e7]; exact h3), e7]
end Pg
