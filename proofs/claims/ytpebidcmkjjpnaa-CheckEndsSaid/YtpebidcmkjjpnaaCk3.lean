import Derived.Test.YtpebidcmkjjpnaaTreeS
import Derived.Test.YtpebidcmkjjpnaaCk2
namespace Pg
open Go
set_option linter.unusedSimpArgs false
set_option linter.unusedVariables false
set_option maxHeartbeats 1000000
set_option maxRecDepth 4000

structure FewIn (fs : List Scope) : Prop where
  rcd : ∀ name r, findIn fs name = some (.rcd r) → few r.fields
  routine : ∀ name r, findIn fs name = some (.routine r) → few r.params
def ExprC (x : Expr) (stmt : Bool) : Prop := ∀ {h : AHeap} {c : Nat} {sp inp : AV} {s : CS} {fs : List Scope} {bs : List Nat}, CkIn h c sp inp s fs bs → FewIn fs →
  Turns 93 [.ptr (some ⟨c, 0, none⟩), .agg (eExpr x), .bool stmt] h c sp inp (.agg (eTyp (ckExpr fs s x stmt).1)) (ckExpr fs s x stmt).2
theorem few_small {α : Type} {l : List α} (h : l.length ≤ 1000) : few l := by unfold few; omega
section
variable {h : AHeap} {c : Nat} {sp inp : AV} {s : CS} {fs : List Scope} {bs : List Nat}
theorem value_of (x : Expr) (hx : ExprC x false) (k : CkIn h c sp inp s fs bs) (fw : FewIn fs) (kinds : List Int) (hk : few kinds) (full : Bool) :
    Turns 107 [.ptr (some ⟨c, 0, none⟩), .agg (eExpr x), .sl (eInts kinds) full] h c sp inp (.int .i64 (ckKind kinds (ckExpr fs s x false)).1) (ckKind kinds (ckExpr fs s x false)).2 := by
  unfold Turns
  have kn := k.next (ckExpr fs s x false).2
  refine F107.calls (by simp) ?_
  delta F107.c0 F107.c1 F107.c2 F107.c5 F107.r4 F107.c3 F107.c4 F107.r3 F107.r2 F107.r1 F107.r0
  simp -implicitDefEqProofs only [↓pgPre, pgPost, aread, envOf, ↓reduceIte, Nat.reduceEqDiff, Nat.reduceAdd, Nat.reduceSub, Nat.reduceLeDiff, Nat.reduceLT, Nat.reduceMul, apeq, boolNeg, afa, aload, abin, aun, amn, amx, aext, aconv, abeq, anilc, RRead.still, REff.allocs, evParts, afill, astore, reduceCtorEq, aseq, cellsEq, cellEq, Int.reduceAdd, Int.reduceSub, Int.reduceMul, Int.reduceEq, Int.reduceLT, Int.reduceLE, Int.reduceGT, Int.reduceGE, Int.reduceToNat, Int.reduceNeg, eq_self, if_true, if_false, chunks, aelems, elemsFit, forall_eq, Nat.reduceBEq, Nat.reduceBNe, abx, afld, pgTree]
  refine callT_of (hx k fw) (fun v g ⟨hv, hg⟩ => ?_)
  subst v g
  simp -implicitDefEqProofs only [↓pgPre, pgPost, aread, envOf, ↓reduceIte, Nat.reduceEqDiff, Nat.reduceAdd, Nat.reduceSub, Nat.reduceLeDiff, Nat.reduceLT, Nat.reduceMul, apeq, boolNeg, afa, aload, abin, aun, amn, amx, aext, aconv, abeq, anilc, RRead.still, REff.allocs, evParts, afill, astore, reduceCtorEq, aseq, cellsEq, cellEq, Int.reduceAdd, Int.reduceSub, Int.reduceMul, Int.reduceEq, Int.reduceLT, Int.reduceLE, Int.reduceGT, Int.reduceGE, Int.reduceToNat, Int.reduceNeg, eq_self, if_true, if_false, chunks, aelems, elemsFit, forall_eq, Nat.reduceBEq, Nat.reduceBNe, abx, afld, pgTree]
  repeat' (refine agateT_split (fun hg => ?_) (fun hg => ?_) <;> simp -implicitDefEqProofs only [↓pgPre, pgPost, aread, envOf, ↓reduceIte, Nat.reduceEqDiff, Nat.reduceAdd, Nat.reduceSub, Nat.reduceLeDiff, Nat.reduceLT, Nat.reduceMul, apeq, boolNeg, afa, aload, abin, aun, amn, amx, aext, aconv, abeq, anilc, RRead.still, REff.allocs, evParts, afill, astore, reduceCtorEq, aseq, cellsEq, cellEq, Int.reduceAdd, Int.reduceSub, Int.reduceMul, Int.reduceEq, Int.reduceLT, Int.reduceLE, Int.reduceGT, Int.reduceGE, Int.reduceToNat, Int.reduceNeg, eq_self, if_true, if_false, chunks, aelems, elemsFit, forall_eq, Nat.reduceBEq, Nat.reduceBNe, abx, afld, pgTree, hg, Bool.not_true, Bool.not_false])
  · refine callT_of (ContainsI_spec _ kinds hk full _) (fun v g ⟨hv, hg⟩ => ?_)
    subst v g
    simp -implicitDefEqProofs only [↓pgPre, pgPost, aread, envOf, ↓reduceIte, Nat.reduceEqDiff, Nat.reduceAdd, Nat.reduceSub, Nat.reduceLeDiff, Nat.reduceLT, Nat.reduceMul, apeq, boolNeg, afa, aload, abin, aun, amn, amx, aext, aconv, abeq, anilc, RRead.still, REff.allocs, evParts, afill, astore, reduceCtorEq, aseq, cellsEq, cellEq, Int.reduceAdd, Int.reduceSub, Int.reduceMul, Int.reduceEq, Int.reduceLT, Int.reduceLE, Int.reduceGT, Int.reduceGE, Int.reduceToNat, Int.reduceNeg, eq_self, if_true, if_false, chunks, aelems, elemsFit, forall_eq, Nat.reduceBEq, Nat.reduceBNe, abx, afld, pgTree]
    by_cases hm : (ckExpr fs s x false).1.kind ∈ kinds
    · simp -implicitDefEqProofs only [↓pgPre, pgPost, aread, envOf, ↓reduceIte, Nat.reduceEqDiff, Nat.reduceAdd, Nat.reduceSub, Nat.reduceLeDiff, Nat.reduceLT, Nat.reduceMul, apeq, boolNeg, afa, aload, abin, aun, amn, amx, aext, aconv, abeq, anilc, RRead.still, REff.allocs, evParts, afill, astore, reduceCtorEq, aseq, cellsEq, cellEq, Int.reduceAdd, Int.reduceSub, Int.reduceMul, Int.reduceEq, Int.reduceLT, Int.reduceLE, Int.reduceGT, Int.reduceGE, Int.reduceToNat, Int.reduceNeg, eq_self, if_true, if_false, chunks, aelems, elemsFit, forall_eq, Nat.reduceBEq, Nat.reduceBNe, abx, afld, pgTree, hm]
      refine .same ⟨rfl, ?_⟩
      have : ¬ 0 < (ckExpr fs s x false).1.size := of_decide_eq_false hg
      simp [ckKind, this, hm]
    · simp -implicitDefEqProofs only [↓pgPre, pgPost, aread, envOf, ↓reduceIte, Nat.reduceEqDiff, Nat.reduceAdd, Nat.reduceSub, Nat.reduceLeDiff, Nat.reduceLT, Nat.reduceMul, apeq, boolNeg, afa, aload, abin, aun, amn, amx, aext, aconv, abeq, anilc, RRead.still, REff.allocs, evParts, afill, astore, reduceCtorEq, aseq, cellsEq, cellEq, Int.reduceAdd, Int.reduceSub, Int.reduceMul, Int.reduceEq, Int.reduceLT, Int.reduceLE, Int.reduceGT, Int.reduceGE, Int.reduceToNat, Int.reduceNeg, eq_self, if_true, if_false, chunks, aelems, elemsFit, forall_eq, Nat.reduceBEq, Nat.reduceBNe, abx, afld, pgTree, hm]
      refine callT_of (fail_spec kn.hc 14) (fun v g ⟨hv, hg⟩ => ?_)
      subst v g
      simp -implicitDefEqProofs only [↓pgPre, pgPost, aread, envOf, ↓reduceIte, Nat.reduceEqDiff, Nat.reduceAdd, Nat.reduceSub, Nat.reduceLeDiff, Nat.reduceLT, Nat.reduceMul, apeq, boolNeg, afa, aload, abin, aun, amn, amx, aext, aconv, abeq, anilc, RRead.still, REff.allocs, evParts, afill, astore, reduceCtorEq, aseq, cellsEq, cellEq, Int.reduceAdd, Int.reduceSub, Int.reduceMul, Int.reduceEq, Int.reduceLT, Int.reduceLE, Int.reduceGT, Int.reduceGE, Int.reduceToNat, Int.reduceNeg, eq_self, if_true, if_false, chunks, aelems, elemsFit, forall_eq, Nat.reduceBEq, Nat.reduceBNe, abx, afld, pgTree, upd_upd]
      refine .same ⟨rfl, ?_⟩
      simp [ckKind, hm]
  · refine callT_of (fail_spec kn.hc 14) (fun v g ⟨hv, hg⟩ => ?_)
    subst v g
    simp -implicitDefEqProofs only [↓pgPre, pgPost, aread, envOf, ↓reduceIte, Nat.reduceEqDiff, Nat.reduceAdd, Nat.reduceSub, Nat.reduceLeDiff, Nat.reduceLT, Nat.reduceMul, apeq, boolNeg, afa, aload, abin, aun, amn, amx, aext, aconv, abeq, anilc, RRead.still, REff.allocs, evParts, afill, astore, reduceCtorEq, aseq, cellsEq, cellEq, Int.reduceAdd, Int.reduceSub, Int.reduceMul, Int.reduceEq, Int.reduceLT, Int.reduceLE, Int.reduceGT, Int.reduceGE, Int.reduceToNat, Int.reduceNeg, eq_self, if_true, if_false, chunks, aelems, elemsFit, forall_eq, Nat.reduceBEq, Nat.reduceBNe, abx, afld, pgTree, upd_upd]
    refine .same ⟨rfl, ?_⟩
    have : 0 < (ckExpr fs s x false).1.size := of_decide_eq_true hg
    simp [ckKind, this]
theorem pair_of (l : List Expr) (hl : few l) (he : ∀ x ∈ l, ExprC x false) (k : CkIn h c sp inp s fs bs) (fw : FewIn fs) (n : Int) (full : Bool) :
    Turns 92 [.ptr (some ⟨c, 0, none⟩), .sl (l.map eExpr) full, .int .i64 n] h c sp inp (.tuple []) (ckPair fs s l n) := by
  unfold Turns
  refine F92.calls (by simp) ?_
  delta F92.c0 F92.c1 F92.c2 F92.c3 F92.c4 F92.c6 F92.r4 F92.c7 F92.c8 F92.r3 F92.r2 F92.c5 F92.r1 F92.r0
  simp -implicitDefEqProofs only [↓pgPre, pgPost, aread, envOf, ↓reduceIte, Nat.reduceEqDiff, Nat.reduceAdd, Nat.reduceSub, Nat.reduceLeDiff, Nat.reduceLT, Nat.reduceMul, apeq, boolNeg, afa, aload, abin, aun, amn, amx, aext, aconv, abeq, anilc, RRead.still, REff.allocs, evParts, afill, astore, reduceCtorEq, aseq, cellsEq, cellEq, Int.reduceAdd, Int.reduceSub, Int.reduceMul, Int.reduceEq, Int.reduceLT, Int.reduceLE, Int.reduceGT, Int.reduceGE, Int.reduceToNat, Int.reduceNeg, eq_self, if_true, if_false, chunks, aelems, elemsFit, forall_eq, Nat.reduceBEq, Nat.reduceBNe, abx, afld, pgTree]
  refine lT_list l (fun pre post e g => (∃ s', ckPair fs s l n = ckPair fs s' post n ∧ g = h.upd c (ckBlk sp s' inp)) ∧ e = [(0, .ptr (some ⟨c, 0, none⟩)), (2, .int .i64 n), (8, .sl (l.map eExpr) full), (9, .int .i64 l.length), (10, .int .i64 pre.length)]) (WeakE.env ?_) ⟨⟨s, rfl, k.self.symm⟩, rfl⟩ ?_ ?_
  · skip
    repeat' (first | exact EnvLe.nil _ | refine EnvLe.cons ?_ ?_)
    all_goals (simp -implicitDefEqProofs only [↓pgPre, pgPost, aread, envOf, ↓reduceIte, Nat.reduceEqDiff, Nat.reduceAdd, Nat.reduceSub, Nat.reduceLeDiff, Nat.reduceLT, Nat.reduceMul, apeq, boolNeg, afa, aload, abin, aun, amn, amx, aext, aconv, abeq, anilc, RRead.still, REff.allocs, evParts, afill, astore, reduceCtorEq, aseq, cellsEq, cellEq, Int.reduceAdd, Int.reduceSub, Int.reduceMul, Int.reduceEq, Int.reduceLT, Int.reduceLE, Int.reduceGT, Int.reduceGE, Int.reduceToNat, Int.reduceNeg, eq_self, if_true, if_false, chunks, aelems, elemsFit, forall_eq, Nat.reduceBEq, Nat.reduceBNe, abx, afld, pgTree]; try first | exact AVle.refl _ | exact AVle.sl _ _ | exact AVle.gs _ _ _ | assumption)
  · rintro pre x post e g hl' ⟨⟨s', hs, rfl⟩, rfl⟩
    simp -implicitDefEqProofs only [↓pgPre, pgPost, aread, envOf, ↓reduceIte, Nat.reduceEqDiff, Nat.reduceAdd, Nat.reduceSub, Nat.reduceLeDiff, Nat.reduceLT, Nat.reduceMul, apeq, boolNeg, afa, aload, abin, aun, amn, amx, aext, aconv, abeq, anilc, RRead.still, REff.allocs, evParts, afill, astore, reduceCtorEq, aseq, cellsEq, cellEq, Int.reduceAdd, Int.reduceSub, Int.reduceMul, Int.reduceEq, Int.reduceLT, Int.reduceLE, Int.reduceGT, Int.reduceGE, Int.reduceToNat, Int.reduceNeg, eq_self, if_true, if_false, chunks, aelems, elemsFit, forall_eq, Nat.reduceBEq, Nat.reduceBNe, abx, afld, pgTree, lt_at hl', aia_sl (map_at hl') (eExpr_len x)]
    refine callT_of (value_of x (he x (mem_at hl')) (k.next s') fw [n] (few_small (by simp)) true) (fun v g ⟨hv, hg⟩ => ?_)
    subst v g
    simp -implicitDefEqProofs only [↓pgPre, pgPost, aread, envOf, ↓reduceIte, Nat.reduceEqDiff, Nat.reduceAdd, Nat.reduceSub, Nat.reduceLeDiff, Nat.reduceLT, Nat.reduceMul, apeq, boolNeg, afa, aload, abin, aun, amn, amx, aext, aconv, abeq, anilc, RRead.still, REff.allocs, evParts, afill, astore, reduceCtorEq, aseq, cellsEq, cellEq, Int.reduceAdd, Int.reduceSub, Int.reduceMul, Int.reduceEq, Int.reduceLT, Int.reduceLE, Int.reduceGT, Int.reduceGE, Int.reduceToNat, Int.reduceNeg, eq_self, if_true, if_false, chunks, aelems, elemsFit, forall_eq, Nat.reduceBEq, Nat.reduceBNe, abx, afld, pgTree, upd_upd]
    refine ⟨_, _, WeakE.env ?_, ⟨_, ?_, rfl⟩, rfl⟩
    · skip
      repeat' (first | exact EnvLe.nil _ | refine EnvLe.cons ?_ ?_)
      all_goals (simp -implicitDefEqProofs only [↓pgPre, pgPost, aread, envOf, ↓reduceIte, Nat.reduceEqDiff, Nat.reduceAdd, Nat.reduceSub, Nat.reduceLeDiff, Nat.reduceLT, Nat.reduceMul, apeq, boolNeg, afa, aload, abin, aun, amn, amx, aext, aconv, abeq, anilc, RRead.still, REff.allocs, evParts, afill, astore, reduceCtorEq, aseq, cellsEq, cellEq, Int.reduceAdd, Int.reduceSub, Int.reduceMul, Int.reduceEq, Int.reduceLT, Int.reduceLE, Int.reduceGT, Int.reduceGE, Int.reduceToNat, Int.reduceNeg, eq_self, if_true, if_false, chunks, aelems, elemsFit, forall_eq, Nat.reduceBEq, Nat.reduceBNe, abx, afld, pgTree, step_at hl hl']; try first | exact AVle.refl _ | exact AVle.sl _ _ | exact AVle.gs _ _ _ | assumption)
    · rw [hs]; simp only [ckPair]
  · rintro e g ⟨⟨s', hs, rfl⟩, rfl⟩
    simp -implicitDefEqProofs only [↓pgPre, pgPost, aread, envOf, ↓reduceIte, Nat.reduceEqDiff, Nat.reduceAdd, Nat.reduceSub, Nat.reduceLeDiff, Nat.reduceLT, Nat.reduceMul, apeq, boolNeg, afa, aload, abin, aun, amn, amx, aext, aconv, abeq, anilc, RRead.still, REff.allocs, evParts, afill, astore, reduceCtorEq, aseq, cellsEq, cellEq, Int.reduceAdd, Int.reduceSub, Int.reduceMul, Int.reduceEq, Int.reduceLT, Int.reduceLE, Int.reduceGT, Int.reduceGE, Int.reduceToNat, Int.reduceNeg, eq_self, if_true, if_false, chunks, aelems, elemsFit, forall_eq, Nat.reduceBEq, Nat.reduceBNe, abx, afld, pgTree, lt_end]
    refine lessQ.same ?_
    simp -implicitDefEqProofs only [↓pgPre, pgPost, aread, envOf, ↓reduceIte, Nat.reduceEqDiff, Nat.reduceAdd, Nat.reduceSub, Nat.reduceLeDiff, Nat.reduceLT, Nat.reduceMul, apeq, boolNeg, afa, aload, abin, aun, amn, amx, aext, aconv, abeq, anilc, RRead.still, REff.allocs, evParts, afill, astore, reduceCtorEq, aseq, cellsEq, cellEq, Int.reduceAdd, Int.reduceSub, Int.reduceMul, Int.reduceEq, Int.reduceLT, Int.reduceLE, Int.reduceGT, Int.reduceGE, Int.reduceToNat, Int.reduceNeg, eq_self, if_true, if_false, chunks, aelems, elemsFit, forall_eq, Nat.reduceBEq, Nat.reduceBNe, abx, afld, pgTree]
    exact .same ⟨rfl, by rw [hs]; simp only [ckPair]⟩
theorem any_of (x : Expr) (hx : ExprC x false) (k : CkIn h c sp inp s fs bs) (fw : FewIn fs) :
    Turns 95 [.ptr (some ⟨c, 0, none⟩), .agg (eExpr x)] h c sp inp (.int .i64 (ckAny fs s x).1) (ckAny fs s x).2 := by
  unfold Turns
  refine F95.calls (by simp) ?_
  delta F95.c0 F95.c1 F95.r1 F95.r0
  simp -implicitDefEqProofs only [↓pgPre, pgPost, aread, envOf, ↓reduceIte, Nat.reduceEqDiff, Nat.reduceAdd, Nat.reduceSub, Nat.reduceLeDiff, Nat.reduceLT, Nat.reduceMul, apeq, boolNeg, afa, aload, abin, aun, amn, amx, aext, aconv, abeq, anilc, RRead.still, REff.allocs, evParts, afill, astore, reduceCtorEq, aseq, cellsEq, cellEq, Int.reduceAdd, Int.reduceSub, Int.reduceMul, Int.reduceEq, Int.reduceLT, Int.reduceLE, Int.reduceGT, Int.reduceGE, Int.reduceToNat, Int.reduceNeg, eq_self, if_true, if_false, chunks, aelems, elemsFit, forall_eq, Nat.reduceBEq, Nat.reduceBNe, abx, afld, pgTree]
  refine callT_of (value_of x hx k fw [1, 2, 3] (few_small (by simp)) true) (fun v g ⟨hv, hg⟩ => ?_)
  subst v g
  simp -implicitDefEqProofs only [↓pgPre, pgPost, aread, envOf, ↓reduceIte, Nat.reduceEqDiff, Nat.reduceAdd, Nat.reduceSub, Nat.reduceLeDiff, Nat.reduceLT, Nat.reduceMul, apeq, boolNeg, afa, aload, abin, aun, amn, amx, aext, aconv, abeq, anilc, RRead.still, REff.allocs, evParts, afill, astore, reduceCtorEq, aseq, cellsEq, cellEq, Int.reduceAdd, Int.reduceSub, Int.reduceMul, Int.reduceEq, Int.reduceLT, Int.reduceLE, Int.reduceGT, Int.reduceGE, Int.reduceToNat, Int.reduceNeg, eq_self, if_true, if_false, chunks, aelems, elemsFit, forall_eq, Nat.reduceBEq, Nat.reduceBNe, abx, afld, pgTree]
  exact .same ⟨rfl, rfl⟩
theorem set_of (x : Expr) (hx : ExprC x false) (k : CkIn h c sp inp s fs bs) (fw : FewIn fs) (kinds : List Int) (hk : few kinds) (full : Bool) :
    Turns 91 [.ptr (some ⟨c, 0, none⟩), .agg (eExpr x), .sl (eInts kinds) full] h c sp inp (.int .i64 (ckKind kinds (ckExpr fs s x false)).1) (ckKind kinds (ckExpr fs s x false)).2 := by
  unfold Turns
  refine F91.calls (by simp) ?_
  delta F91.c0 F91.c1 F91.r1 F91.r0
  simp -implicitDefEqProofs only [↓pgPre, pgPost, aread, envOf, ↓reduceIte, Nat.reduceEqDiff, Nat.reduceAdd, Nat.reduceSub, Nat.reduceLeDiff, Nat.reduceLT, Nat.reduceMul, apeq, boolNeg, afa, aload, abin, aun, amn, amx, aext, aconv, abeq, anilc, RRead.still, REff.allocs, evParts, afill, astore, reduceCtorEq, aseq, cellsEq, cellEq, Int.reduceAdd, Int.reduceSub, Int.reduceMul, Int.reduceEq, Int.reduceLT, Int.reduceLE, Int.reduceGT, Int.reduceGE, Int.reduceToNat, Int.reduceNeg, eq_self, if_true, if_false, chunks, aelems, elemsFit, forall_eq, Nat.reduceBEq, Nat.reduceBNe, abx, afld, pgTree]
  refine callT_of (value_of x hx k fw kinds hk full) (fun v g ⟨hv, hg⟩ => ?_)
  subst v g
  simp -implicitDefEqProofs only [↓pgPre, pgPost, aread, envOf, ↓reduceIte, Nat.reduceEqDiff, Nat.reduceAdd, Nat.reduceSub, Nat.reduceLeDiff, Nat.reduceLT, Nat.reduceMul, apeq, boolNeg, afa, aload, abin, aun, amn, amx, aext, aconv, abeq, anilc, RRead.still, REff.allocs, evParts, afill, astore, reduceCtorEq, aseq, cellsEq, cellEq, Int.reduceAdd, Int.reduceSub, Int.reduceMul, Int.reduceEq, Int.reduceLT, Int.reduceLE, Int.reduceGT, Int.reduceGE, Int.reduceToNat, Int.reduceNeg, eq_self, if_true, if_false, chunks, aelems, elemsFit, forall_eq, Nat.reduceBEq, Nat.reduceBNe, abx, afld, pgTree]
  exact .same ⟨rfl, rfl⟩
end
end Pg
