import Derived.Test.YtpebidcmkjjpnaaTreeS
import Derived.Test.YtpebidcmkjjpnaaCk1
namespace Pg
open Go
set_option linter.unusedSimpArgs false
set_option linter.unusedVariables false
set_option maxHeartbeats 1000000
set_option maxRecDepth 4000

structure CkIn (h : AHeap) (c : Nat) (sp inp : AV) (s : CS) (fs : List Scope) (bs : List Nat) : Prop where
  hc : h c = some (ckBlk sp s inp)
  ch : Chain h sp fs bs
  hn : c ∉ bs
theorem CkIn.next {h : AHeap} {c : Nat} {sp inp : AV} {s : CS} {fs : List Scope} {bs : List Nat} (k : CkIn h c sp inp s fs bs) (s' : CS) : CkIn (h.upd c (ckBlk sp s' inp)) c sp inp s' fs bs := ⟨upd_same _ _ _, k.ch.upd _ k.hn, k.hn⟩
theorem CkIn.ne {h : AHeap} {c : Nat} {sp inp : AV} {s : CS} {fs : List Scope} {bs : List Nat} (k : CkIn h c sp inp s fs bs) {p : Nat} (hp : h p = none) : c ≠ p := by intro hh; subst hh; rw [k.hc] at hp; cases hp
theorem CkIn.fresh {h : AHeap} {c : Nat} {sp inp : AV} {s : CS} {fs : List Scope} {bs : List Nat} (k : CkIn h c sp inp s fs bs) {p : Nat} (hp : h p = none) (o : AObj) : CkIn (h.upd p o) c sp inp s fs bs :=
  ⟨by rw [upd_ne _ _ _ (k.ne hp)]; exact k.hc, k.ch.upd _ (k.ch.fresh hp), k.hn⟩
theorem CkIn.cell {h : AHeap} {c : Nat} {sp inp : AV} {s : CS} {fs : List Scope} {bs : List Nat} (k : CkIn h c sp inp s fs bs) : h c = some (.blk [sp, .int .i64 s.item, .int .i64 s.bad, inp] 4 91) := k.hc
/-- A call that turns the checker's state alone. -/
def Turns (f : Nat) (args : List AV) (h : AHeap) (c : Nat) (sp inp : AV) (v : AV) (s : CS) : Prop := ACalls Go.Proofs.Try.prog f args h (fun r g => r = v ∧ g = h.upd c (ckBlk sp s inp))

theorem variable_spec {h : AHeap} {c : Nat} {sp inp : AV} {s : CS} {fs : List Scope} {bs : List Nat} (k : CkIn h c sp inp s fs bs) (name : ByteArray) :
    Turns 94 [.ptr (some ⟨c, 0, none⟩), .str name] h c sp inp (.agg (eTyp (ckVariable fs s name).1)) (ckVariable fs s name).2 := by
  unfold Turns
  have hcl := k.cell
  refine F94.calls (by simp) ?_
  delta F94.c0 F94.c1 F94.c2 F94.c5 F94.r4 F94.c3 F94.c4 F94.r3 F94.r2 F94.r1 F94.r0
  simp -implicitDefEqProofs only [↓pgPre, pgPost, aread, envOf, ↓reduceIte, Nat.reduceEqDiff, Nat.reduceAdd, Nat.reduceSub, Nat.reduceLeDiff, Nat.reduceLT, Nat.reduceMul, apeq, boolNeg, afa, aload, abin, aun, amn, amx, aext, aconv, abeq, anilc, RRead.still, REff.allocs, evParts, afill, astore, reduceCtorEq, aseq, cellsEq, cellEq, Int.reduceAdd, Int.reduceSub, Int.reduceMul, Int.reduceEq, Int.reduceLT, Int.reduceLE, Int.reduceGT, Int.reduceGE, Int.reduceToNat, Int.reduceNeg, eq_self, if_true, if_false, chunks, aelems, elemsFit, forall_eq, Nat.reduceBEq, Nat.reduceBNe, abx, afld, pgTree]
  refine afreshT_intro fun p hp => ?_
  have hne := k.ne hp
  have hne' := hne.symm
  simp -implicitDefEqProofs only [↓pgPre, pgPost, aread, envOf, ↓reduceIte, Nat.reduceEqDiff, Nat.reduceAdd, Nat.reduceSub, Nat.reduceLeDiff, Nat.reduceLT, Nat.reduceMul, apeq, boolNeg, afa, aload, abin, aun, amn, amx, aext, aconv, abeq, anilc, RRead.still, REff.allocs, evParts, afill, astore, reduceCtorEq, aseq, cellsEq, cellEq, Int.reduceAdd, Int.reduceSub, Int.reduceMul, Int.reduceEq, Int.reduceLT, Int.reduceLE, Int.reduceGT, Int.reduceGE, Int.reduceToNat, Int.reduceNeg, eq_self, if_true, if_false, chunks, aelems, elemsFit, forall_eq, Nat.reduceBEq, Nat.reduceBNe, abx, afld, pgTree, hcl, upd_ne _ _ _ hne]
  refine callT_of (find_spec (k.fresh hp _).ch name) (fun v g ⟨hv, hg⟩ => ?_)
  subst hv hg
  have fin : ∀ t s', (t, s') = ckVariable fs s name → EndW (fun r g => r = .agg (eTyp (ckVariable fs s name).1) ∧ g = h.upd c (ckBlk sp (ckVariable fs s name).2 inp)) (.agg [.int .i64 t.kind, .int .i64 t.size, .str t.name]) ((h.upd p (.blk [.int .i64 t.kind, .int .i64 t.size, .str t.name] 3 43)).upd c (ckBlk sp s' inp)) := by
    intro t s' e
    rw [← e]
    exact .forget (le_upd_upd (upd_le hp) _ _) ⟨rfl, rfl⟩
  cases hf : findIn fs name with
  | none =>
    simp -implicitDefEqProofs only [↓pgPre, pgPost, aread, envOf, ↓reduceIte, Nat.reduceEqDiff, Nat.reduceAdd, Nat.reduceSub, Nat.reduceLeDiff, Nat.reduceLT, Nat.reduceMul, apeq, boolNeg, afa, aload, abin, aun, amn, amx, aext, aconv, abeq, anilc, RRead.still, REff.allocs, evParts, afill, astore, reduceCtorEq, aseq, cellsEq, cellEq, Int.reduceAdd, Int.reduceSub, Int.reduceMul, Int.reduceEq, Int.reduceLT, Int.reduceLE, Int.reduceGT, Int.reduceGE, Int.reduceToNat, Int.reduceNeg, eq_self, if_true, if_false, chunks, aelems, elemsFit, forall_eq, Nat.reduceBEq, Nat.reduceBNe, abx, afld, pgTree]
    refine callT_of (fail_spec (k.fresh hp _).hc 13) (fun v g ⟨hv, hg⟩ => ?_)
    subst hv hg
    simp -implicitDefEqProofs only [↓pgPre, pgPost, aread, envOf, ↓reduceIte, Nat.reduceEqDiff, Nat.reduceAdd, Nat.reduceSub, Nat.reduceLeDiff, Nat.reduceLT, Nat.reduceMul, apeq, boolNeg, afa, aload, abin, aun, amn, amx, aext, aconv, abeq, anilc, RRead.still, REff.allocs, evParts, afill, astore, reduceCtorEq, aseq, cellsEq, cellEq, Int.reduceAdd, Int.reduceSub, Int.reduceMul, Int.reduceEq, Int.reduceLT, Int.reduceLE, Int.reduceGT, Int.reduceGE, Int.reduceToNat, Int.reduceNeg, eq_self, if_true, if_false, chunks, aelems, elemsFit, forall_eq, Nat.reduceBEq, Nat.reduceBNe, abx, afld, pgTree, upd_ne _ _ _ hne', upd_comm _ _ _ hne, upd_upd]
    exact fin noTyp _ (by simp [ckVariable, hf])
  | some y =>
    cases y with
    | var t =>
      simp -implicitDefEqProofs only [↓pgPre, pgPost, aread, envOf, ↓reduceIte, Nat.reduceEqDiff, Nat.reduceAdd, Nat.reduceSub, Nat.reduceLeDiff, Nat.reduceLT, Nat.reduceMul, apeq, boolNeg, afa, aload, abin, aun, amn, amx, aext, aconv, abeq, anilc, RRead.still, REff.allocs, evParts, afill, astore, reduceCtorEq, aseq, cellsEq, cellEq, Int.reduceAdd, Int.reduceSub, Int.reduceMul, Int.reduceEq, Int.reduceLT, Int.reduceLE, Int.reduceGT, Int.reduceGE, Int.reduceToNat, Int.reduceNeg, eq_self, if_true, if_false, chunks, aelems, elemsFit, forall_eq, Nat.reduceBEq, Nat.reduceBNe, abx, afld, pgTree, eThing, upd_ne _ _ _ hne', upd_upd]
      have := fin t s (by simp [ckVariable, hf])
      rwa [upd_self (h := h.upd p _) (b := c) (by rw [upd_ne _ _ _ hne]; exact k.hc)] at this
    | rcd r =>
      simp -implicitDefEqProofs only [↓pgPre, pgPost, aread, envOf, ↓reduceIte, Nat.reduceEqDiff, Nat.reduceAdd, Nat.reduceSub, Nat.reduceLeDiff, Nat.reduceLT, Nat.reduceMul, apeq, boolNeg, afa, aload, abin, aun, amn, amx, aext, aconv, abeq, anilc, RRead.still, REff.allocs, evParts, afill, astore, reduceCtorEq, aseq, cellsEq, cellEq, Int.reduceAdd, Int.reduceSub, Int.reduceMul, Int.reduceEq, Int.reduceLT, Int.reduceLE, Int.reduceGT, Int.reduceGE, Int.reduceToNat, Int.reduceNeg, eq_self, if_true, if_false, chunks, aelems, elemsFit, forall_eq, Nat.reduceBEq, Nat.reduceBNe, abx, afld, pgTree, eThing]
      refine callT_of (fail_spec (k.fresh hp _).hc 13) (fun v g ⟨hv, hg⟩ => ?_)
      subst hv hg
      simp -implicitDefEqProofs only [↓pgPre, pgPost, aread, envOf, ↓reduceIte, Nat.reduceEqDiff, Nat.reduceAdd, Nat.reduceSub, Nat.reduceLeDiff, Nat.reduceLT, Nat.reduceMul, apeq, boolNeg, afa, aload, abin, aun, amn, amx, aext, aconv, abeq, anilc, RRead.still, REff.allocs, evParts, afill, astore, reduceCtorEq, aseq, cellsEq, cellEq, Int.reduceAdd, Int.reduceSub, Int.reduceMul, Int.reduceEq, Int.reduceLT, Int.reduceLE, Int.reduceGT, Int.reduceGE, Int.reduceToNat, Int.reduceNeg, eq_self, if_true, if_false, chunks, aelems, elemsFit, forall_eq, Nat.reduceBEq, Nat.reduceBNe, abx, afld, pgTree, upd_ne _ _ _ hne', upd_comm _ _ _ hne, upd_upd]
      exact fin noTyp _ (by simp [ckVariable, hf])
    | routine r =>
      simp -implicitDefEqProofs only [↓pgPre, pgPost, aread, envOf, ↓reduceIte, Nat.reduceEqDiff, Nat.reduceAdd, Nat.reduceSub, Nat.reduceLeDiff, Nat.reduceLT, Nat.reduceMul, apeq, boolNeg, afa, aload, abin, aun, amn, amx, aext, aconv, abeq, anilc, RRead.still, REff.allocs, evParts, afill, astore, reduceCtorEq, aseq, cellsEq, cellEq, Int.reduceAdd, Int.reduceSub, Int.reduceMul, Int.reduceEq, Int.reduceLT, Int.reduceLE, Int.reduceGT, Int.reduceGE, Int.reduceToNat, Int.reduceNeg, eq_self, if_true, if_false, chunks, aelems, elemsFit, forall_eq, Nat.reduceBEq, Nat.reduceBNe, abx, afld, pgTree, eThing]
      refine callT_of (fail_spec (k.fresh hp _).hc 13) (fun v g ⟨hv, hg⟩ => ?_)
      subst hv hg
      simp -implicitDefEqProofs only [↓pgPre, pgPost, aread, envOf, ↓reduceIte, Nat.reduceEqDiff, Nat.reduceAdd, Nat.reduceSub, Nat.reduceLeDiff, Nat.reduceLT, Nat.reduceMul, apeq, boolNeg, afa, aload, abin, aun, amn, amx, aext, aconv, abeq, anilc, RRead.still, REff.allocs, evParts, afill, astore, reduceCtorEq, aseq, cellsEq, cellEq, Int.reduceAdd, Int.reduceSub, Int.reduceMul, Int.reduceEq, Int.reduceLT, Int.reduceLE, Int.reduceGT, Int.reduceGE, Int.reduceToNat, Int.reduceNeg, eq_self, if_true, if_false, chunks, aelems, elemsFit, forall_eq, Nat.reduceBEq, Nat.reduceBNe, abx, afld, pgTree, upd_ne _ _ _ hne', upd_comm _ _ _ hne, upd_upd]
      exact fin noTyp _ (by simp [ckVariable, hf])

theorem CkIn.self {h : AHeap} {c : Nat} {sp inp : AV} {s : CS} {fs : List Scope} {bs : List Nat} (k : CkIn h c sp inp s fs bs) : h.upd c (ckBlk sp s inp) = h := upd_self k.hc
theorem field_spec {h : AHeap} {c : Nat} {sp inp : AV} {s : CS} {fs : List Scope} {bs : List Nat} (k : CkIn h c sp inp s fs bs) (t : Typ) (name : ByteArray) (hw : ∀ r, findIn fs t.name = some (.rcd r) → few r.fields) :
    Turns 108 [.ptr (some ⟨c, 0, none⟩), .agg (eTyp t), .str name] h c sp inp (.int .i64 (ckField fs s t name).1) (ckField fs s t name).2 := by
  unfold Turns
  have hcl := k.cell
  refine F108.calls (by simp) ?_
  delta F108.c0 F108.c1 F108.c6 F108.c23 F108.c24 F108.r13 F108.r12 F108.c7 F108.c9 F108.c10 F108.c11 F108.c12 F108.c13 F108.c14 F108.c15 F108.c17 F108.r11 F108.c18 F108.c19 F108.c20 F108.c21 F108.c22 F108.r10 F108.r9 F108.r8 F108.c16 F108.r7 F108.r6 F108.r5 F108.c8 F108.r4 F108.c2 F108.c3 F108.c4 F108.c5 F108.r3 F108.r2 F108.r1 F108.r0
  simp -implicitDefEqProofs only [↓pgPre, pgPost, aread, envOf, ↓reduceIte, Nat.reduceEqDiff, Nat.reduceAdd, Nat.reduceSub, Nat.reduceLeDiff, Nat.reduceLT, Nat.reduceMul, apeq, boolNeg, afa, aload, abin, aun, amn, amx, aext, aconv, abeq, anilc, RRead.still, REff.allocs, evParts, afill, astore, reduceCtorEq, aseq, cellsEq, cellEq, Int.reduceAdd, Int.reduceSub, Int.reduceMul, Int.reduceEq, Int.reduceLT, Int.reduceLE, Int.reduceGT, Int.reduceGE, Int.reduceToNat, Int.reduceNeg, eq_self, if_true, if_false, chunks, aelems, elemsFit, forall_eq, Nat.reduceBEq, Nat.reduceBNe, abx, afld, pgTree]
  by_cases hk : t.kind = 4
  · simp -implicitDefEqProofs only [↓pgPre, pgPost, aread, envOf, ↓reduceIte, Nat.reduceEqDiff, Nat.reduceAdd, Nat.reduceSub, Nat.reduceLeDiff, Nat.reduceLT, Nat.reduceMul, apeq, boolNeg, afa, aload, abin, aun, amn, amx, aext, aconv, abeq, anilc, RRead.still, REff.allocs, evParts, afill, astore, reduceCtorEq, aseq, cellsEq, cellEq, Int.reduceAdd, Int.reduceSub, Int.reduceMul, Int.reduceEq, Int.reduceLT, Int.reduceLE, Int.reduceGT, Int.reduceGE, Int.reduceToNat, Int.reduceNeg, eq_self, if_true, if_false, chunks, aelems, elemsFit, forall_eq, Nat.reduceBEq, Nat.reduceBNe, abx, afld, pgTree, hk, hcl]
    refine callT_of (find_spec k.ch t.name) (fun v g ⟨hv, hg⟩ => ?_)
    subst v g
    simp -implicitDefEqProofs only [↓pgPre, pgPost, aread, envOf, ↓reduceIte, Nat.reduceEqDiff, Nat.reduceAdd, Nat.reduceSub, Nat.reduceLeDiff, Nat.reduceLT, Nat.reduceMul, apeq, boolNeg, afa, aload, abin, aun, amn, amx, aext, aconv, abeq, anilc, RRead.still, REff.allocs, evParts, afill, astore, reduceCtorEq, aseq, cellsEq, cellEq, Int.reduceAdd, Int.reduceSub, Int.reduceMul, Int.reduceEq, Int.reduceLT, Int.reduceLE, Int.reduceGT, Int.reduceGE, Int.reduceToNat, Int.reduceNeg, eq_self, if_true, if_false, chunks, aelems, elemsFit, forall_eq, Nat.reduceBEq, Nat.reduceBNe, abx, afld, pgTree, hcl]
    refine afreshT_intro fun q hq => ?_
    have hne := k.ne hq
    cases hf : findIn fs t.name with
    | none =>
      simp -implicitDefEqProofs only [↓pgPre, pgPost, aread, envOf, ↓reduceIte, Nat.reduceEqDiff, Nat.reduceAdd, Nat.reduceSub, Nat.reduceLeDiff, Nat.reduceLT, Nat.reduceMul, apeq, boolNeg, afa, aload, abin, aun, amn, amx, aext, aconv, abeq, anilc, RRead.still, REff.allocs, evParts, afill, astore, reduceCtorEq, aseq, cellsEq, cellEq, Int.reduceAdd, Int.reduceSub, Int.reduceMul, Int.reduceEq, Int.reduceLT, Int.reduceLE, Int.reduceGT, Int.reduceGE, Int.reduceToNat, Int.reduceNeg, eq_self, if_true, if_false, chunks, aelems, elemsFit, forall_eq, Nat.reduceBEq, Nat.reduceBNe, abx, afld, pgTree, hcl, upd_ne _ _ _ hne, del_upd _ _ _ hq, upd_upd]
      refine callT_of (fail_spec k.hc 13) (fun v g ⟨hv, hg⟩ => ?_)
      subst v g
      simp -implicitDefEqProofs only [↓pgPre, pgPost, aread, envOf, ↓reduceIte, Nat.reduceEqDiff, Nat.reduceAdd, Nat.reduceSub, Nat.reduceLeDiff, Nat.reduceLT, Nat.reduceMul, apeq, boolNeg, afa, aload, abin, aun, amn, amx, aext, aconv, abeq, anilc, RRead.still, REff.allocs, evParts, afill, astore, reduceCtorEq, aseq, cellsEq, cellEq, Int.reduceAdd, Int.reduceSub, Int.reduceMul, Int.reduceEq, Int.reduceLT, Int.reduceLE, Int.reduceGT, Int.reduceGE, Int.reduceToNat, Int.reduceNeg, eq_self, if_true, if_false, chunks, aelems, elemsFit, forall_eq, Nat.reduceBEq, Nat.reduceBNe, abx, afld, pgTree]
      exact .same ⟨by simp [ckField, hk, hf], by simp [ckField, hk, hf]⟩
    | some y =>
      cases y with
      | var t' =>
        simp -implicitDefEqProofs only [↓pgPre, pgPost, aread, envOf, ↓reduceIte, Nat.reduceEqDiff, Nat.reduceAdd, Nat.reduceSub, Nat.reduceLeDiff, Nat.reduceLT, Nat.reduceMul, apeq, boolNeg, afa, aload, abin, aun, amn, amx, aext, aconv, abeq, anilc, RRead.still, REff.allocs, evParts, afill, astore, reduceCtorEq, aseq, cellsEq, cellEq, Int.reduceAdd, Int.reduceSub, Int.reduceMul, Int.reduceEq, Int.reduceLT, Int.reduceLE, Int.reduceGT, Int.reduceGE, Int.reduceToNat, Int.reduceNeg, eq_self, if_true, if_false, chunks, aelems, elemsFit, forall_eq, Nat.reduceBEq, Nat.reduceBNe, abx, afld, pgTree, eThing, hcl, upd_ne _ _ _ hne, del_upd _ _ _ hq, upd_upd]
        refine callT_of (fail_spec k.hc 13) (fun v g ⟨hv, hg⟩ => ?_)
        subst v g
        simp -implicitDefEqProofs only [↓pgPre, pgPost, aread, envOf, ↓reduceIte, Nat.reduceEqDiff, Nat.reduceAdd, Nat.reduceSub, Nat.reduceLeDiff, Nat.reduceLT, Nat.reduceMul, apeq, boolNeg, afa, aload, abin, aun, amn, amx, aext, aconv, abeq, anilc, RRead.still, REff.allocs, evParts, afill, astore, reduceCtorEq, aseq, cellsEq, cellEq, Int.reduceAdd, Int.reduceSub, Int.reduceMul, Int.reduceEq, Int.reduceLT, Int.reduceLE, Int.reduceGT, Int.reduceGE, Int.reduceToNat, Int.reduceNeg, eq_self, if_true, if_false, chunks, aelems, elemsFit, forall_eq, Nat.reduceBEq, Nat.reduceBNe, abx, afld, pgTree]
        exact .same ⟨by simp [ckField, hk, hf], by simp [ckField, hk, hf]⟩
      | routine r =>
        simp -implicitDefEqProofs only [↓pgPre, pgPost, aread, envOf, ↓reduceIte, Nat.reduceEqDiff, Nat.reduceAdd, Nat.reduceSub, Nat.reduceLeDiff, Nat.reduceLT, Nat.reduceMul, apeq, boolNeg, afa, aload, abin, aun, amn, amx, aext, aconv, abeq, anilc, RRead.still, REff.allocs, evParts, afill, astore, reduceCtorEq, aseq, cellsEq, cellEq, Int.reduceAdd, Int.reduceSub, Int.reduceMul, Int.reduceEq, Int.reduceLT, Int.reduceLE, Int.reduceGT, Int.reduceGE, Int.reduceToNat, Int.reduceNeg, eq_self, if_true, if_false, chunks, aelems, elemsFit, forall_eq, Nat.reduceBEq, Nat.reduceBNe, abx, afld, pgTree, eThing, hcl, upd_ne _ _ _ hne, del_upd _ _ _ hq, upd_upd]
        refine callT_of (fail_spec k.hc 13) (fun v g ⟨hv, hg⟩ => ?_)
        subst v g
        simp -implicitDefEqProofs only [↓pgPre, pgPost, aread, envOf, ↓reduceIte, Nat.reduceEqDiff, Nat.reduceAdd, Nat.reduceSub, Nat.reduceLeDiff, Nat.reduceLT, Nat.reduceMul, apeq, boolNeg, afa, aload, abin, aun, amn, amx, aext, aconv, abeq, anilc, RRead.still, REff.allocs, evParts, afill, astore, reduceCtorEq, aseq, cellsEq, cellEq, Int.reduceAdd, Int.reduceSub, Int.reduceMul, Int.reduceEq, Int.reduceLT, Int.reduceLE, Int.reduceGT, Int.reduceGE, Int.reduceToNat, Int.reduceNeg, eq_self, if_true, if_false, chunks, aelems, elemsFit, forall_eq, Nat.reduceBEq, Nat.reduceBNe, abx, afld, pgTree]
        exact .same ⟨by simp [ckField, hk, hf], by simp [ckField, hk, hf]⟩
      | rcd r =>
        have hw := hw r hf
        simp -implicitDefEqProofs only [↓pgPre, pgPost, aread, envOf, ↓reduceIte, Nat.reduceEqDiff, Nat.reduceAdd, Nat.reduceSub, Nat.reduceLeDiff, Nat.reduceLT, Nat.reduceMul, apeq, boolNeg, afa, aload, abin, aun, amn, amx, aext, aconv, abeq, anilc, RRead.still, REff.allocs, evParts, afill, astore, reduceCtorEq, aseq, cellsEq, cellEq, Int.reduceAdd, Int.reduceSub, Int.reduceMul, Int.reduceEq, Int.reduceLT, Int.reduceLE, Int.reduceGT, Int.reduceGE, Int.reduceToNat, Int.reduceNeg, eq_self, if_true, if_false, chunks, aelems, elemsFit, forall_eq, Nat.reduceBEq, Nat.reduceBNe, abx, afld, pgTree, eThing, hcl, upd_ne _ _ _ hne, del_upd _ _ _ hq, upd_upd]
        refine lT_list r.fields (fun pre post e g => (∀ f ∈ pre, ¬ f.name = name) ∧ g = h ∧ e = [(0, .ptr (some ⟨c, 0, none⟩)), (2, .str name), (6, .int .i64 0), (36, .sl (r.fields.map eFld) false), (37, .int .i64 r.fields.length), (38, .int .i64 pre.length)]) (WeakE.env ?_) ⟨by simp, rfl, rfl⟩ ?_ ?_
        · skip
          repeat' (first | exact EnvLe.nil _ | refine EnvLe.cons ?_ ?_)
          all_goals (simp -implicitDefEqProofs only [↓pgPre, pgPost, aread, envOf, ↓reduceIte, Nat.reduceEqDiff, Nat.reduceAdd, Nat.reduceSub, Nat.reduceLeDiff, Nat.reduceLT, Nat.reduceMul, apeq, boolNeg, afa, aload, abin, aun, amn, amx, aext, aconv, abeq, anilc, RRead.still, REff.allocs, evParts, afill, astore, reduceCtorEq, aseq, cellsEq, cellEq, Int.reduceAdd, Int.reduceSub, Int.reduceMul, Int.reduceEq, Int.reduceLT, Int.reduceLE, Int.reduceGT, Int.reduceGE, Int.reduceToNat, Int.reduceNeg, eq_self, if_true, if_false, chunks, aelems, elemsFit, forall_eq, Nat.reduceBEq, Nat.reduceBNe, abx, afld, pgTree]; try first | exact AVle.refl _ | exact AVle.sl _ _ | exact AVle.gs _ _ _ | assumption)
        · rintro pre x post e g hl ⟨hp, rfl, rfl⟩
          simp -implicitDefEqProofs only [↓pgPre, pgPost, aread, envOf, ↓reduceIte, Nat.reduceEqDiff, Nat.reduceAdd, Nat.reduceSub, Nat.reduceLeDiff, Nat.reduceLT, Nat.reduceMul, apeq, boolNeg, afa, aload, abin, aun, amn, amx, aext, aconv, abeq, anilc, RRead.still, REff.allocs, evParts, afill, astore, reduceCtorEq, aseq, cellsEq, cellEq, Int.reduceAdd, Int.reduceSub, Int.reduceMul, Int.reduceEq, Int.reduceLT, Int.reduceLE, Int.reduceGT, Int.reduceGE, Int.reduceToNat, Int.reduceNeg, eq_self, if_true, if_false, chunks, aelems, elemsFit, forall_eq, Nat.reduceBEq, Nat.reduceBNe, abx, afld, pgTree, lt_at hl, aia_sl (map_at hl) (eFld_len x)]
          by_cases hx : x.name = name
          · simp -implicitDefEqProofs only [↓pgPre, pgPost, aread, envOf, ↓reduceIte, Nat.reduceEqDiff, Nat.reduceAdd, Nat.reduceSub, Nat.reduceLeDiff, Nat.reduceLT, Nat.reduceMul, apeq, boolNeg, afa, aload, abin, aun, amn, amx, aext, aconv, abeq, anilc, RRead.still, REff.allocs, evParts, afill, astore, reduceCtorEq, aseq, cellsEq, cellEq, Int.reduceAdd, Int.reduceSub, Int.reduceMul, Int.reduceEq, Int.reduceLT, Int.reduceLE, Int.reduceGT, Int.reduceGE, Int.reduceToNat, Int.reduceNeg, eq_self, if_true, if_false, chunks, aelems, elemsFit, forall_eq, Nat.reduceBEq, Nat.reduceBNe, abx, afld, pgTree, hx]
            refine lessQ.same ?_
            simp -implicitDefEqProofs only [↓pgPre, pgPost, aread, envOf, ↓reduceIte, Nat.reduceEqDiff, Nat.reduceAdd, Nat.reduceSub, Nat.reduceLeDiff, Nat.reduceLT, Nat.reduceMul, apeq, boolNeg, afa, aload, abin, aun, amn, amx, aext, aconv, abeq, anilc, RRead.still, REff.allocs, evParts, afill, astore, reduceCtorEq, aseq, cellsEq, cellEq, Int.reduceAdd, Int.reduceSub, Int.reduceMul, Int.reduceEq, Int.reduceLT, Int.reduceLE, Int.reduceGT, Int.reduceGE, Int.reduceToNat, Int.reduceNeg, eq_self, if_true, if_false, chunks, aelems, elemsFit, forall_eq, Nat.reduceBEq, Nat.reduceBNe, abx, afld, pgTree]
            have : r.fields.find? (fun f => decide (f.name = name)) = some x := by
              rw [hl, List.find?_append, List.find?_eq_none.2 (by simpa using hp)]
              simp [hx]
            exact .same ⟨by simp [ckField, hk, hf, this], by simp [ckField, hk, hf, this, k.self]⟩
          · simp -implicitDefEqProofs only [↓pgPre, pgPost, aread, envOf, ↓reduceIte, Nat.reduceEqDiff, Nat.reduceAdd, Nat.reduceSub, Nat.reduceLeDiff, Nat.reduceLT, Nat.reduceMul, apeq, boolNeg, afa, aload, abin, aun, amn, amx, aext, aconv, abeq, anilc, RRead.still, REff.allocs, evParts, afill, astore, reduceCtorEq, aseq, cellsEq, cellEq, Int.reduceAdd, Int.reduceSub, Int.reduceMul, Int.reduceEq, Int.reduceLT, Int.reduceLE, Int.reduceGT, Int.reduceGE, Int.reduceToNat, Int.reduceNeg, eq_self, if_true, if_false, chunks, aelems, elemsFit, forall_eq, Nat.reduceBEq, Nat.reduceBNe, abx, afld, pgTree, hx]
            refine ⟨_, _, WeakE.env ?_, ?_, rfl, rfl⟩
            · skip
              repeat' (first | exact EnvLe.nil _ | refine EnvLe.cons ?_ ?_)
              all_goals (simp -implicitDefEqProofs only [↓pgPre, pgPost, aread, envOf, ↓reduceIte, Nat.reduceEqDiff, Nat.reduceAdd, Nat.reduceSub, Nat.reduceLeDiff, Nat.reduceLT, Nat.reduceMul, apeq, boolNeg, afa, aload, abin, aun, amn, amx, aext, aconv, abeq, anilc, RRead.still, REff.allocs, evParts, afill, astore, reduceCtorEq, aseq, cellsEq, cellEq, Int.reduceAdd, Int.reduceSub, Int.reduceMul, Int.reduceEq, Int.reduceLT, Int.reduceLE, Int.reduceGT, Int.reduceGE, Int.reduceToNat, Int.reduceNeg, eq_self, if_true, if_false, chunks, aelems, elemsFit, forall_eq, Nat.reduceBEq, Nat.reduceBNe, abx, afld, pgTree, step_at hw hl]; try first | exact AVle.refl _ | exact AVle.sl _ _ | exact AVle.gs _ _ _ | assumption)
            · intro y hy
              rcases List.mem_append.1 hy with hy | hy
              · exact hp y hy
              · simp at hy; subst hy; exact hx
        · rintro e g ⟨hp, rfl, rfl⟩
          simp -implicitDefEqProofs only [↓pgPre, pgPost, aread, envOf, ↓reduceIte, Nat.reduceEqDiff, Nat.reduceAdd, Nat.reduceSub, Nat.reduceLeDiff, Nat.reduceLT, Nat.reduceMul, apeq, boolNeg, afa, aload, abin, aun, amn, amx, aext, aconv, abeq, anilc, RRead.still, REff.allocs, evParts, afill, astore, reduceCtorEq, aseq, cellsEq, cellEq, Int.reduceAdd, Int.reduceSub, Int.reduceMul, Int.reduceEq, Int.reduceLT, Int.reduceLE, Int.reduceGT, Int.reduceGE, Int.reduceToNat, Int.reduceNeg, eq_self, if_true, if_false, chunks, aelems, elemsFit, forall_eq, Nat.reduceBEq, Nat.reduceBNe, abx, afld, pgTree, lt_end]
          refine lessQ.same ?_
          simp -implicitDefEqProofs only [↓pgPre, pgPost, aread, envOf, ↓reduceIte, Nat.reduceEqDiff, Nat.reduceAdd, Nat.reduceSub, Nat.reduceLeDiff, Nat.reduceLT, Nat.reduceMul, apeq, boolNeg, afa, aload, abin, aun, amn, amx, aext, aconv, abeq, anilc, RRead.still, REff.allocs, evParts, afill, astore, reduceCtorEq, aseq, cellsEq, cellEq, Int.reduceAdd, Int.reduceSub, Int.reduceMul, Int.reduceEq, Int.reduceLT, Int.reduceLE, Int.reduceGT, Int.reduceGE, Int.reduceToNat, Int.reduceNeg, eq_self, if_true, if_false, chunks, aelems, elemsFit, forall_eq, Nat.reduceBEq, Nat.reduceBNe, abx, afld, pgTree]
          refine callT_of (fail_spec k.hc 13) (fun v g ⟨hv, hg⟩ => ?_)
          subst v g
          simp -implicitDefEqProofs only [↓pgPre, pgPost, aread, envOf, ↓reduceIte, Nat.reduceEqDiff, Nat.reduceAdd, Nat.reduceSub, Nat.reduceLeDiff, Nat.reduceLT, Nat.reduceMul, apeq, boolNeg, afa, aload, abin, aun, amn, amx, aext, aconv, abeq, anilc, RRead.still, REff.allocs, evParts, afill, astore, reduceCtorEq, aseq, cellsEq, cellEq, Int.reduceAdd, Int.reduceSub, Int.reduceMul, Int.reduceEq, Int.reduceLT, Int.reduceLE, Int.reduceGT, Int.reduceGE, Int.reduceToNat, Int.reduceNeg, eq_self, if_true, if_false, chunks, aelems, elemsFit, forall_eq, Nat.reduceBEq, Nat.reduceBNe, abx, afld, pgTree]
          have : r.fields.find? (fun f => decide (f.name = name)) = none := List.find?_eq_none.2 (by simpa using hp)
          exact .same ⟨by simp [ckField, hk, hf, this], by simp [ckField, hk, hf, this]⟩
  · simp -implicitDefEqProofs only [↓pgPre, pgPost, aread, envOf, ↓reduceIte, Nat.reduceEqDiff, Nat.reduceAdd, Nat.reduceSub, Nat.reduceLeDiff, Nat.reduceLT, Nat.reduceMul, apeq, boolNeg, afa, aload, abin, aun, amn, amx, aext, aconv, abeq, anilc, RRead.still, REff.allocs, evParts, afill, astore, reduceCtorEq, aseq, cellsEq, cellEq, Int.reduceAdd, Int.reduceSub, Int.reduceMul, Int.reduceEq, Int.reduceLT, Int.reduceLE, Int.reduceGT, Int.reduceGE, Int.reduceToNat, Int.reduceNeg, eq_self, if_true, if_false, chunks, aelems, elemsFit, forall_eq, Nat.reduceBEq, Nat.reduceBNe, abx, afld, pgTree, hk]
    refine callT_of (fail_spec k.hc 14) (fun v g ⟨hv, hg⟩ => ?_)
    subst v g
    simp -implicitDefEqProofs only [↓pgPre, pgPost, aread, envOf, ↓reduceIte, Nat.reduceEqDiff, Nat.reduceAdd, Nat.reduceSub, Nat.reduceLeDiff, Nat.reduceLT, Nat.reduceMul, apeq, boolNeg, afa, aload, abin, aun, amn, amx, aext, aconv, abeq, anilc, RRead.still, REff.allocs, evParts, afill, astore, reduceCtorEq, aseq, cellsEq, cellEq, Int.reduceAdd, Int.reduceSub, Int.reduceMul, Int.reduceEq, Int.reduceLT, Int.reduceLE, Int.reduceGT, Int.reduceGE, Int.reduceToNat, Int.reduceNeg, eq_self, if_true, if_false, chunks, aelems, elemsFit, forall_eq, Nat.reduceBEq, Nat.reduceBNe, abx, afld, pgTree]
    exact .same ⟨by simp [ckField, hk], by simp [ckField, hk]⟩

def eInts (l : List Int) : List (List AV) := l.map fun n => [.int .i64 n]
theorem IndexI_spec (h : AHeap) (l : List Int) (hw : few l) (full : Bool) (n : Int) : ACalls Go.Proofs.Try.prog 125 [.sl (eInts l) full, .int .i64 n] h (fun v g => v = .int .i64 (match l.findIdx? (fun x => decide (n = x)) with | some i => i | none => -1) ∧ g = h) := by
  unfold eInts
  refine F125.calls (by simp) ?_
  delta F125.c0 F125.c1 F125.c14 F125.r7 F125.c2 F125.c3 F125.c4 F125.c5 F125.c6 F125.c8 F125.r6 F125.c9 F125.c10 F125.c11 F125.c12 F125.c13 F125.r5 F125.r4 F125.r3 F125.c7 F125.r2 F125.r1 F125.r0
  simp -implicitDefEqProofs only [↓pgPre, pgPost, aread, envOf, ↓reduceIte, Nat.reduceEqDiff, Nat.reduceAdd, Nat.reduceSub, Nat.reduceLeDiff, Nat.reduceLT, Nat.reduceMul, apeq, boolNeg, afa, aload, abin, aun, amn, amx, aext, aconv, abeq, anilc, RRead.still, REff.allocs, evParts, afill, astore, reduceCtorEq, aseq, cellsEq, cellEq, Int.reduceAdd, Int.reduceSub, Int.reduceMul, Int.reduceEq, Int.reduceLT, Int.reduceLE, Int.reduceGT, Int.reduceGE, Int.reduceToNat, Int.reduceNeg, eq_self, if_true, if_false, chunks, aelems, elemsFit, forall_eq, Nat.reduceBEq, Nat.reduceBNe, abx, afld, pgTree]
  refine lT_list l (fun pre post e g => (∀ x ∈ pre, ¬ n = x) ∧ g = h ∧ e = [(0, .sl (l.map fun n => [.int .i64 n]) full), (1, .int .i64 n), (7, .int .i64 l.length), (8, .int .i64 pre.length)]) (WeakE.env ?_) ⟨by simp, rfl, rfl⟩ ?_ ?_
  · skip
    repeat' (first | exact EnvLe.nil _ | refine EnvLe.cons ?_ ?_)
    all_goals (simp -implicitDefEqProofs only [↓pgPre, pgPost, aread, envOf, ↓reduceIte, Nat.reduceEqDiff, Nat.reduceAdd, Nat.reduceSub, Nat.reduceLeDiff, Nat.reduceLT, Nat.reduceMul, apeq, boolNeg, afa, aload, abin, aun, amn, amx, aext, aconv, abeq, anilc, RRead.still, REff.allocs, evParts, afill, astore, reduceCtorEq, aseq, cellsEq, cellEq, Int.reduceAdd, Int.reduceSub, Int.reduceMul, Int.reduceEq, Int.reduceLT, Int.reduceLE, Int.reduceGT, Int.reduceGE, Int.reduceToNat, Int.reduceNeg, eq_self, if_true, if_false, chunks, aelems, elemsFit, forall_eq, Nat.reduceBEq, Nat.reduceBNe, abx, afld, pgTree]; try first | exact AVle.refl _ | exact AVle.sl _ _ | exact AVle.gs _ _ _ | assumption)
  · rintro pre x post e g hl ⟨hp, rfl, rfl⟩
    simp -implicitDefEqProofs only [↓pgPre, pgPost, aread, envOf, ↓reduceIte, Nat.reduceEqDiff, Nat.reduceAdd, Nat.reduceSub, Nat.reduceLeDiff, Nat.reduceLT, Nat.reduceMul, apeq, boolNeg, afa, aload, abin, aun, amn, amx, aext, aconv, abeq, anilc, RRead.still, REff.allocs, evParts, afill, astore, reduceCtorEq, aseq, cellsEq, cellEq, Int.reduceAdd, Int.reduceSub, Int.reduceMul, Int.reduceEq, Int.reduceLT, Int.reduceLE, Int.reduceGT, Int.reduceGE, Int.reduceToNat, Int.reduceNeg, eq_self, if_true, if_false, chunks, aelems, elemsFit, forall_eq, Nat.reduceBEq, Nat.reduceBNe, abx, afld, pgTree, lt_at hl, aia_sl (map_at (e := fun n => [AV.int .i64 n]) hl) (show _ = 1 from rfl)]
    by_cases hx : n = x
    · subst hx
      simp -implicitDefEqProofs only [↓pgPre, pgPost, aread, envOf, ↓reduceIte, Nat.reduceEqDiff, Nat.reduceAdd, Nat.reduceSub, Nat.reduceLeDiff, Nat.reduceLT, Nat.reduceMul, apeq, boolNeg, afa, aload, abin, aun, amn, amx, aext, aconv, abeq, anilc, RRead.still, REff.allocs, evParts, afill, astore, reduceCtorEq, aseq, cellsEq, cellEq, Int.reduceAdd, Int.reduceSub, Int.reduceMul, Int.reduceEq, Int.reduceLT, Int.reduceLE, Int.reduceGT, Int.reduceGE, Int.reduceToNat, Int.reduceNeg, eq_self, if_true, if_false, chunks, aelems, elemsFit, forall_eq, Nat.reduceBEq, Nat.reduceBNe, abx, afld, pgTree]
      refine lessQ.same ?_
      simp -implicitDefEqProofs only [↓pgPre, pgPost, aread, envOf, ↓reduceIte, Nat.reduceEqDiff, Nat.reduceAdd, Nat.reduceSub, Nat.reduceLeDiff, Nat.reduceLT, Nat.reduceMul, apeq, boolNeg, afa, aload, abin, aun, amn, amx, aext, aconv, abeq, anilc, RRead.still, REff.allocs, evParts, afill, astore, reduceCtorEq, aseq, cellsEq, cellEq, Int.reduceAdd, Int.reduceSub, Int.reduceMul, Int.reduceEq, Int.reduceLT, Int.reduceLE, Int.reduceGT, Int.reduceGE, Int.reduceToNat, Int.reduceNeg, eq_self, if_true, if_false, chunks, aelems, elemsFit, forall_eq, Nat.reduceBEq, Nat.reduceBNe, abx, afld, pgTree]
      have : l.findIdx? (fun x => decide (n = x)) = some pre.length := by
        subst hl
        rw [List.findIdx?_append, List.findIdx?_eq_none_iff.2 (by simpa using hp)]
        simp [List.findIdx?_cons]
      refine .same ⟨?_, rfl⟩
      rw [this]
    · simp -implicitDefEqProofs only [↓pgPre, pgPost, aread, envOf, ↓reduceIte, Nat.reduceEqDiff, Nat.reduceAdd, Nat.reduceSub, Nat.reduceLeDiff, Nat.reduceLT, Nat.reduceMul, apeq, boolNeg, afa, aload, abin, aun, amn, amx, aext, aconv, abeq, anilc, RRead.still, REff.allocs, evParts, afill, astore, reduceCtorEq, aseq, cellsEq, cellEq, Int.reduceAdd, Int.reduceSub, Int.reduceMul, Int.reduceEq, Int.reduceLT, Int.reduceLE, Int.reduceGT, Int.reduceGE, Int.reduceToNat, Int.reduceNeg, eq_self, if_true, if_false, chunks, aelems, elemsFit, forall_eq, Nat.reduceBEq, Nat.reduceBNe, abx, afld, pgTree, hx]
      refine ⟨_, _, WeakE.env ?_, ?_, rfl, rfl⟩
      · skip
        repeat' (first | exact EnvLe.nil _ | refine EnvLe.cons ?_ ?_)
        all_goals (simp -implicitDefEqProofs only [↓pgPre, pgPost, aread, envOf, ↓reduceIte, Nat.reduceEqDiff, Nat.reduceAdd, Nat.reduceSub, Nat.reduceLeDiff, Nat.reduceLT, Nat.reduceMul, apeq, boolNeg, afa, aload, abin, aun, amn, amx, aext, aconv, abeq, anilc, RRead.still, REff.allocs, evParts, afill, astore, reduceCtorEq, aseq, cellsEq, cellEq, Int.reduceAdd, Int.reduceSub, Int.reduceMul, Int.reduceEq, Int.reduceLT, Int.reduceLE, Int.reduceGT, Int.reduceGE, Int.reduceToNat, Int.reduceNeg, eq_self, if_true, if_false, chunks, aelems, elemsFit, forall_eq, Nat.reduceBEq, Nat.reduceBNe, abx, afld, pgTree, step_at hw hl]; try first | exact AVle.refl _ | exact AVle.sl _ _ | exact AVle.gs _ _ _ | assumption)
      · intro y hy
        rcases List.mem_append.1 hy with hy | hy
        · exact hp y hy
        · simp at hy; subst hy; exact hx
  · rintro e g ⟨hp, rfl, rfl⟩
    simp -implicitDefEqProofs only [↓pgPre, pgPost, aread, envOf, ↓reduceIte, Nat.reduceEqDiff, Nat.reduceAdd, Nat.reduceSub, Nat.reduceLeDiff, Nat.reduceLT, Nat.reduceMul, apeq, boolNeg, afa, aload, abin, aun, amn, amx, aext, aconv, abeq, anilc, RRead.still, REff.allocs, evParts, afill, astore, reduceCtorEq, aseq, cellsEq, cellEq, Int.reduceAdd, Int.reduceSub, Int.reduceMul, Int.reduceEq, Int.reduceLT, Int.reduceLE, Int.reduceGT, Int.reduceGE, Int.reduceToNat, Int.reduceNeg, eq_self, if_true, if_false, chunks, aelems, elemsFit, forall_eq, Nat.reduceBEq, Nat.reduceBNe, abx, afld, pgTree, lt_end]
    refine lessQ.same ?_
    simp -implicitDefEqProofs only [↓pgPre, pgPost, aread, envOf, ↓reduceIte, Nat.reduceEqDiff, Nat.reduceAdd, Nat.reduceSub, Nat.reduceLeDiff, Nat.reduceLT, Nat.reduceMul, apeq, boolNeg, afa, aload, abin, aun, amn, amx, aext, aconv, abeq, anilc, RRead.still, REff.allocs, evParts, afill, astore, reduceCtorEq, aseq, cellsEq, cellEq, Int.reduceAdd, Int.reduceSub, Int.reduceMul, Int.reduceEq, Int.reduceLT, Int.reduceLE, Int.reduceGT, Int.reduceGE, Int.reduceToNat, Int.reduceNeg, eq_self, if_true, if_false, chunks, aelems, elemsFit, forall_eq, Nat.reduceBEq, Nat.reduceBNe, abx, afld, pgTree]
    refine .same ⟨?_, rfl⟩
    rw [List.findIdx?_eq_none_iff.2 (by simpa using hp)]
theorem ContainsI_spec (h : AHeap) (l : List Int) (hw : few l) (full : Bool) (n : Int) : ACalls Go.Proofs.Try.prog 120 [.sl (eInts l) full, .int .i64 n] h (fun v g => v = .bool (decide (n ∈ l)) ∧ g = h) := by
  refine F120.calls (by simp) ?_
  delta F120.c0 F120.c1 F120.r1 F120.r0
  simp -implicitDefEqProofs only [↓pgPre, pgPost, aread, envOf, ↓reduceIte, Nat.reduceEqDiff, Nat.reduceAdd, Nat.reduceSub, Nat.reduceLeDiff, Nat.reduceLT, Nat.reduceMul, apeq, boolNeg, afa, aload, abin, aun, amn, amx, aext, aconv, abeq, anilc, RRead.still, REff.allocs, evParts, afill, astore, reduceCtorEq, aseq, cellsEq, cellEq, Int.reduceAdd, Int.reduceSub, Int.reduceMul, Int.reduceEq, Int.reduceLT, Int.reduceLE, Int.reduceGT, Int.reduceGE, Int.reduceToNat, Int.reduceNeg, eq_self, if_true, if_false, chunks, aelems, elemsFit, forall_eq, Nat.reduceBEq, Nat.reduceBNe, abx, afld, pgTree]
  refine callT_of (IndexI_spec h l hw full n) (fun v k ⟨hv, hk⟩ => ?_)
  generalize hm : (match l.findIdx? (fun x => decide (n = x)) with | some i => (i : Int) | none => -1) = m at hv
  subst hv hk
  simp -implicitDefEqProofs only [↓pgPre, pgPost, aread, envOf, ↓reduceIte, Nat.reduceEqDiff, Nat.reduceAdd, Nat.reduceSub, Nat.reduceLeDiff, Nat.reduceLT, Nat.reduceMul, apeq, boolNeg, afa, aload, abin, aun, amn, amx, aext, aconv, abeq, anilc, RRead.still, REff.allocs, evParts, afill, astore, reduceCtorEq, aseq, cellsEq, cellEq, Int.reduceAdd, Int.reduceSub, Int.reduceMul, Int.reduceEq, Int.reduceLT, Int.reduceLE, Int.reduceGT, Int.reduceGE, Int.reduceToNat, Int.reduceNeg, eq_self, if_true, if_false, chunks, aelems, elemsFit, forall_eq, Nat.reduceBEq, Nat.reduceBNe, abx, afld, pgTree]
  refine .same ⟨?_, rfl⟩
  congr 1
  subst hm
  cases hi : l.findIdx? (fun x => decide (n = x)) with
  | none =>
    have := List.findIdx?_eq_none_iff.1 hi
    have hn : ¬ n ∈ l := fun hh => by have := this n hh; simp at this
    simp [hn]
  | some i =>
    obtain ⟨h1, h2, _⟩ := List.findIdx?_eq_some_iff_getElem.1 hi
    have : n ∈ l := by rw [of_decide_eq_true h2]; exact List.getElem_mem h1
    simp [this]
end Pg
