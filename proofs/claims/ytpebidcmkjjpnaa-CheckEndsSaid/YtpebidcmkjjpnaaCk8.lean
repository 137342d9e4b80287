import Derived.Test.YtpebidcmkjjpnaaTreeS
import Derived.Test.YtpebidcmkjjpnaaCk7
namespace Pg
open Go
set_option linter.unusedSimpArgs false
set_option linter.unusedVariables false
set_option maxHeartbeats 4000000
set_option maxRecDepth 4000

theorem asl_take (n : Nat) (es : List (List AV)) (m : Nat) (hm : m ≤ es.length) : aslice false n (.sl es false) none (some (.int .i64 (m : Int))) = some (.sl (es.take m) false) := by
  simp [aslice, abound, hm]
theorem fields_spec (h : AHeap) (r : Rec) (hw : few r.fields) : ACalls Go.Proofs.Try.prog 44 [.agg (eRec r)] h (fun v g => v = .bool (twice [] r.fields) ∧ g = h) := by
  refine F44.calls (by simp) ?_
  delta F44.c0 F44.c1 F44.c2 F44.c3 F44.c4 F44.c26 F44.r12 F44.c5 F44.c6 F44.c7 F44.c8 F44.c9 F44.c11 F44.r11 F44.c12 F44.c13 F44.c14 F44.c15 F44.c16 F44.c17 F44.c18 F44.c20 F44.r10 F44.c21 F44.c22 F44.c23 F44.c24 F44.c25 F44.r9 F44.r8 F44.r7 F44.c19 F44.r6 F44.r5 F44.r4 F44.c10 F44.r3 F44.r2 F44.r1 F44.r0
  simp -implicitDefEqProofs only [↓pgPre, pgPost, aread, envOf, ↓reduceIte, Nat.reduceEqDiff, Nat.reduceAdd, Nat.reduceSub, Nat.reduceLeDiff, Nat.reduceLT, Nat.reduceMul, apeq, boolNeg, afa, aload, abin, aun, amn, amx, aext, aconv, abeq, anilc, RRead.still, REff.allocs, evParts, afill, astore, reduceCtorEq, aseq, cellsEq, cellEq, Int.reduceAdd, Int.reduceSub, Int.reduceMul, Int.reduceEq, Int.reduceLT, Int.reduceLE, Int.reduceGT, Int.reduceGE, Int.reduceToNat, Int.reduceNeg, eq_self, if_true, if_false, chunks, aelems, elemsFit, forall_eq, Nat.reduceBEq, Nat.reduceBNe, abx, afld, pgTree]
  refine lT_list r.fields (fun pre post e g => (twice [] r.fields = twice pre post ∧ g = h) ∧ e = [(1, .ip (eRec r) 0), (3, .bool false), (9, .sl (r.fields.map eFld) false), (10, .int .i64 r.fields.length), (11, .int .i64 pre.length)]) (WeakE.env ?_) ⟨⟨rfl, rfl⟩, rfl⟩ ?_ ?_
  · skip
    repeat' (first | exact EnvLe.nil _ | refine EnvLe.cons ?_ ?_)
    all_goals (simp -implicitDefEqProofs only [↓pgPre, pgPost, aread, envOf, ↓reduceIte, Nat.reduceEqDiff, Nat.reduceAdd, Nat.reduceSub, Nat.reduceLeDiff, Nat.reduceLT, Nat.reduceMul, apeq, boolNeg, afa, aload, abin, aun, amn, amx, aext, aconv, abeq, anilc, RRead.still, REff.allocs, evParts, afill, astore, reduceCtorEq, aseq, cellsEq, cellEq, Int.reduceAdd, Int.reduceSub, Int.reduceMul, Int.reduceEq, Int.reduceLT, Int.reduceLE, Int.reduceGT, Int.reduceGE, Int.reduceToNat, Int.reduceNeg, eq_self, if_true, if_false, chunks, aelems, elemsFit, forall_eq, Nat.reduceBEq, Nat.reduceBNe, abx, afld, pgTree]; try first | exact AVle.refl _ | exact AVle.sl _ _ | exact AVle.gs _ _ _ | assumption)
  · rintro pre x post e g hp ⟨⟨hs, rfl⟩, rfl⟩
    simp -implicitDefEqProofs only [↓pgPre, pgPost, aread, envOf, ↓reduceIte, Nat.reduceEqDiff, Nat.reduceAdd, Nat.reduceSub, Nat.reduceLeDiff, Nat.reduceLT, Nat.reduceMul, apeq, boolNeg, afa, aload, abin, aun, amn, amx, aext, aconv, abeq, anilc, RRead.still, REff.allocs, evParts, afill, astore, reduceCtorEq, aseq, cellsEq, cellEq, Int.reduceAdd, Int.reduceSub, Int.reduceMul, Int.reduceEq, Int.reduceLT, Int.reduceLE, Int.reduceGT, Int.reduceGE, Int.reduceToNat, Int.reduceNeg, eq_self, if_true, if_false, chunks, aelems, elemsFit, forall_eq, Nat.reduceBEq, Nat.reduceBNe, abx, afld, pgTree, lt_at hp, aia_sl (map_at hp) (eFld_len x)]
    have hle : pre.length ≤ (r.fields.map eFld).length := by rw [hp]; simp
    have htk : (r.fields.map eFld).take pre.length = pre.map eFld := by rw [hp]; simp
    have hwp : few pre := by
      unfold few at hw ⊢
      rw [hp] at hw; simp at hw; omega
    simp -implicitDefEqProofs only [↓pgPre, pgPost, aread, envOf, ↓reduceIte, Nat.reduceEqDiff, Nat.reduceAdd, Nat.reduceSub, Nat.reduceLeDiff, Nat.reduceLT, Nat.reduceMul, apeq, boolNeg, afa, aload, abin, aun, amn, amx, aext, aconv, abeq, anilc, RRead.still, REff.allocs, evParts, afill, astore, reduceCtorEq, aseq, cellsEq, cellEq, Int.reduceAdd, Int.reduceSub, Int.reduceMul, Int.reduceEq, Int.reduceLT, Int.reduceLE, Int.reduceGT, Int.reduceGE, Int.reduceToNat, Int.reduceNeg, eq_self, if_true, if_false, chunks, aelems, elemsFit, forall_eq, Nat.reduceBEq, Nat.reduceBNe, abx, afld, pgTree, asl_take _ _ _ hle, htk]
    refine lT_list pre (fun pre' post' e k => ((∀ y ∈ pre', ¬ y.name = x.name) ∧ k = g) ∧ e = [(1, .ip (eRec r) 0), (3, .bool false), (5, .ip (eFld x) 0), (9, .sl (r.fields.map eFld) false), (10, .int .i64 r.fields.length), (11, .int .i64 pre.length), (19, .sl (pre.map eFld) false), (20, .int .i64 pre.length), (21, .int .i64 pre'.length)]) (WeakE.env ?_) ⟨⟨by simp, rfl⟩, rfl⟩ ?_ ?_
    · skip
      repeat' (first | exact EnvLe.nil _ | refine EnvLe.cons ?_ ?_)
      all_goals (simp -implicitDefEqProofs only [↓pgPre, pgPost, aread, envOf, ↓reduceIte, Nat.reduceEqDiff, Nat.reduceAdd, Nat.reduceSub, Nat.reduceLeDiff, Nat.reduceLT, Nat.reduceMul, apeq, boolNeg, afa, aload, abin, aun, amn, amx, aext, aconv, abeq, anilc, RRead.still, REff.allocs, evParts, afill, astore, reduceCtorEq, aseq, cellsEq, cellEq, Int.reduceAdd, Int.reduceSub, Int.reduceMul, Int.reduceEq, Int.reduceLT, Int.reduceLE, Int.reduceGT, Int.reduceGE, Int.reduceToNat, Int.reduceNeg, eq_self, if_true, if_false, chunks, aelems, elemsFit, forall_eq, Nat.reduceBEq, Nat.reduceBNe, abx, afld, pgTree]; try first | exact AVle.refl _ | exact AVle.sl _ _ | exact AVle.gs _ _ _ | assumption)
    · rintro pre' y post' e k hp' ⟨⟨hn, rfl⟩, rfl⟩
      simp -implicitDefEqProofs only [↓pgPre, pgPost, aread, envOf, ↓reduceIte, Nat.reduceEqDiff, Nat.reduceAdd, Nat.reduceSub, Nat.reduceLeDiff, Nat.reduceLT, Nat.reduceMul, apeq, boolNeg, afa, aload, abin, aun, amn, amx, aext, aconv, abeq, anilc, RRead.still, REff.allocs, evParts, afill, astore, reduceCtorEq, aseq, cellsEq, cellEq, Int.reduceAdd, Int.reduceSub, Int.reduceMul, Int.reduceEq, Int.reduceLT, Int.reduceLE, Int.reduceGT, Int.reduceGE, Int.reduceToNat, Int.reduceNeg, eq_self, if_true, if_false, chunks, aelems, elemsFit, forall_eq, Nat.reduceBEq, Nat.reduceBNe, abx, afld, pgTree, lt_at hp', aia_sl (map_at hp') (eFld_len y)]
      by_cases hy : y.name = x.name
      · simp -implicitDefEqProofs only [↓pgPre, pgPost, aread, envOf, ↓reduceIte, Nat.reduceEqDiff, Nat.reduceAdd, Nat.reduceSub, Nat.reduceLeDiff, Nat.reduceLT, Nat.reduceMul, apeq, boolNeg, afa, aload, abin, aun, amn, amx, aext, aconv, abeq, anilc, RRead.still, REff.allocs, evParts, afill, astore, reduceCtorEq, aseq, cellsEq, cellEq, Int.reduceAdd, Int.reduceSub, Int.reduceMul, Int.reduceEq, Int.reduceLT, Int.reduceLE, Int.reduceGT, Int.reduceGE, Int.reduceToNat, Int.reduceNeg, eq_self, if_true, if_false, chunks, aelems, elemsFit, forall_eq, Nat.reduceBEq, Nat.reduceBNe, abx, afld, pgTree, hy]
        refine lessQ.same ?_
        simp -implicitDefEqProofs only [↓pgPre, pgPost, aread, envOf, ↓reduceIte, Nat.reduceEqDiff, Nat.reduceAdd, Nat.reduceSub, Nat.reduceLeDiff, Nat.reduceLT, Nat.reduceMul, apeq, boolNeg, afa, aload, abin, aun, amn, amx, aext, aconv, abeq, anilc, RRead.still, REff.allocs, evParts, afill, astore, reduceCtorEq, aseq, cellsEq, cellEq, Int.reduceAdd, Int.reduceSub, Int.reduceMul, Int.reduceEq, Int.reduceLT, Int.reduceLE, Int.reduceGT, Int.reduceGE, Int.reduceToNat, Int.reduceNeg, eq_self, if_true, if_false, chunks, aelems, elemsFit, forall_eq, Nat.reduceBEq, Nat.reduceBNe, abx, afld, pgTree]
        refine lessQ.same ?_
        simp -implicitDefEqProofs only [↓pgPre, pgPost, aread, envOf, ↓reduceIte, Nat.reduceEqDiff, Nat.reduceAdd, Nat.reduceSub, Nat.reduceLeDiff, Nat.reduceLT, Nat.reduceMul, apeq, boolNeg, afa, aload, abin, aun, amn, amx, aext, aconv, abeq, anilc, RRead.still, REff.allocs, evParts, afill, astore, reduceCtorEq, aseq, cellsEq, cellEq, Int.reduceAdd, Int.reduceSub, Int.reduceMul, Int.reduceEq, Int.reduceLT, Int.reduceLE, Int.reduceGT, Int.reduceGE, Int.reduceToNat, Int.reduceNeg, eq_self, if_true, if_false, chunks, aelems, elemsFit, forall_eq, Nat.reduceBEq, Nat.reduceBNe, abx, afld, pgTree]
        refine .same ⟨?_, rfl⟩
        rw [hs]
        have : pre.any (fun g => decide (g.name = x.name)) = true := List.any_eq_true.2 ⟨y, mem_at hp', by simp [hy]⟩
        simp [twice, this]
      · simp -implicitDefEqProofs only [↓pgPre, pgPost, aread, envOf, ↓reduceIte, Nat.reduceEqDiff, Nat.reduceAdd, Nat.reduceSub, Nat.reduceLeDiff, Nat.reduceLT, Nat.reduceMul, apeq, boolNeg, afa, aload, abin, aun, amn, amx, aext, aconv, abeq, anilc, RRead.still, REff.allocs, evParts, afill, astore, reduceCtorEq, aseq, cellsEq, cellEq, Int.reduceAdd, Int.reduceSub, Int.reduceMul, Int.reduceEq, Int.reduceLT, Int.reduceLE, Int.reduceGT, Int.reduceGE, Int.reduceToNat, Int.reduceNeg, eq_self, if_true, if_false, chunks, aelems, elemsFit, forall_eq, Nat.reduceBEq, Nat.reduceBNe, abx, afld, pgTree, hy]
        refine ⟨_, _, WeakE.env ?_, ⟨?_, rfl⟩, rfl⟩
        · skip
          repeat' (first | exact EnvLe.nil _ | refine EnvLe.cons ?_ ?_)
          all_goals (simp -implicitDefEqProofs only [↓pgPre, pgPost, aread, envOf, ↓reduceIte, Nat.reduceEqDiff, Nat.reduceAdd, Nat.reduceSub, Nat.reduceLeDiff, Nat.reduceLT, Nat.reduceMul, apeq, boolNeg, afa, aload, abin, aun, amn, amx, aext, aconv, abeq, anilc, RRead.still, REff.allocs, evParts, afill, astore, reduceCtorEq, aseq, cellsEq, cellEq, Int.reduceAdd, Int.reduceSub, Int.reduceMul, Int.reduceEq, Int.reduceLT, Int.reduceLE, Int.reduceGT, Int.reduceGE, Int.reduceToNat, Int.reduceNeg, eq_self, if_true, if_false, chunks, aelems, elemsFit, forall_eq, Nat.reduceBEq, Nat.reduceBNe, abx, afld, pgTree, step_at hwp hp']; try first | exact AVle.refl _ | exact AVle.sl _ _ | exact AVle.gs _ _ _ | assumption)
        · intro z hz
          rcases List.mem_append.1 hz with hz | hz
          · exact hn z hz
          · simp at hz; subst hz; exact hy
    · rintro e k ⟨⟨hn, rfl⟩, rfl⟩
      simp -implicitDefEqProofs only [↓pgPre, pgPost, aread, envOf, ↓reduceIte, Nat.reduceEqDiff, Nat.reduceAdd, Nat.reduceSub, Nat.reduceLeDiff, Nat.reduceLT, Nat.reduceMul, apeq, boolNeg, afa, aload, abin, aun, amn, amx, aext, aconv, abeq, anilc, RRead.still, REff.allocs, evParts, afill, astore, reduceCtorEq, aseq, cellsEq, cellEq, Int.reduceAdd, Int.reduceSub, Int.reduceMul, Int.reduceEq, Int.reduceLT, Int.reduceLE, Int.reduceGT, Int.reduceGE, Int.reduceToNat, Int.reduceNeg, eq_self, if_true, if_false, chunks, aelems, elemsFit, forall_eq, Nat.reduceBEq, Nat.reduceBNe, abx, afld, pgTree, lt_end]
      refine lessQ.same ?_
      simp -implicitDefEqProofs only [↓pgPre, pgPost, aread, envOf, ↓reduceIte, Nat.reduceEqDiff, Nat.reduceAdd, Nat.reduceSub, Nat.reduceLeDiff, Nat.reduceLT, Nat.reduceMul, apeq, boolNeg, afa, aload, abin, aun, amn, amx, aext, aconv, abeq, anilc, RRead.still, REff.allocs, evParts, afill, astore, reduceCtorEq, aseq, cellsEq, cellEq, Int.reduceAdd, Int.reduceSub, Int.reduceMul, Int.reduceEq, Int.reduceLT, Int.reduceLE, Int.reduceGT, Int.reduceGE, Int.reduceToNat, Int.reduceNeg, eq_self, if_true, if_false, chunks, aelems, elemsFit, forall_eq, Nat.reduceBEq, Nat.reduceBNe, abx, afld, pgTree]
      refine ⟨_, _, WeakE.env ?_, ⟨?_, rfl⟩, rfl⟩
      · skip
        repeat' (first | exact EnvLe.nil _ | refine EnvLe.cons ?_ ?_)
        all_goals (simp -implicitDefEqProofs only [↓pgPre, pgPost, aread, envOf, ↓reduceIte, Nat.reduceEqDiff, Nat.reduceAdd, Nat.reduceSub, Nat.reduceLeDiff, Nat.reduceLT, Nat.reduceMul, apeq, boolNeg, afa, aload, abin, aun, amn, amx, aext, aconv, abeq, anilc, RRead.still, REff.allocs, evParts, afill, astore, reduceCtorEq, aseq, cellsEq, cellEq, Int.reduceAdd, Int.reduceSub, Int.reduceMul, Int.reduceEq, Int.reduceLT, Int.reduceLE, Int.reduceGT, Int.reduceGE, Int.reduceToNat, Int.reduceNeg, eq_self, if_true, if_false, chunks, aelems, elemsFit, forall_eq, Nat.reduceBEq, Nat.reduceBNe, abx, afld, pgTree, step_at hw hp]; try first | exact AVle.refl _ | exact AVle.sl _ _ | exact AVle.gs _ _ _ | assumption)
      · rw [hs]
        have : pre.any (fun g => decide (g.name = x.name)) = false := List.any_eq_false.2 (by simpa using hn)
        simp only [twice, this, Bool.false_or]
  · rintro e g ⟨⟨hs, rfl⟩, rfl⟩
    simp -implicitDefEqProofs only [↓pgPre, pgPost, aread, envOf, ↓reduceIte, Nat.reduceEqDiff, Nat.reduceAdd, Nat.reduceSub, Nat.reduceLeDiff, Nat.reduceLT, Nat.reduceMul, apeq, boolNeg, afa, aload, abin, aun, amn, amx, aext, aconv, abeq, anilc, RRead.still, REff.allocs, evParts, afill, astore, reduceCtorEq, aseq, cellsEq, cellEq, Int.reduceAdd, Int.reduceSub, Int.reduceMul, Int.reduceEq, Int.reduceLT, Int.reduceLE, Int.reduceGT, Int.reduceGE, Int.reduceToNat, Int.reduceNeg, eq_self, if_true, if_false, chunks, aelems, elemsFit, forall_eq, Nat.reduceBEq, Nat.reduceBNe, abx, afld, pgTree, lt_end]
    refine lessQ.same ?_
    simp -implicitDefEqProofs only [↓pgPre, pgPost, aread, envOf, ↓reduceIte, Nat.reduceEqDiff, Nat.reduceAdd, Nat.reduceSub, Nat.reduceLeDiff, Nat.reduceLT, Nat.reduceMul, apeq, boolNeg, afa, aload, abin, aun, amn, amx, aext, aconv, abeq, anilc, RRead.still, REff.allocs, evParts, afill, astore, reduceCtorEq, aseq, cellsEq, cellEq, Int.reduceAdd, Int.reduceSub, Int.reduceMul, Int.reduceEq, Int.reduceLT, Int.reduceLE, Int.reduceGT, Int.reduceGE, Int.reduceToNat, Int.reduceNeg, eq_self, if_true, if_false, chunks, aelems, elemsFit, forall_eq, Nat.reduceBEq, Nat.reduceBNe, abx, afld, pgTree]
    exact .same ⟨by rw [hs]; simp [twice], rfl⟩
end Pg
