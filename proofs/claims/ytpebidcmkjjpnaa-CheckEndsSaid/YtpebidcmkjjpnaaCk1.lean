import Derived.Test.YtpebidcmkjjpnaaTreeS
import Derived.Test.YtpebidcmkjjpnaaCodeA
import Derived.Test.YtpebidcmkjjpnaaCheckSpec
namespace Pg
open Go
set_option linter.unusedSimpArgs false
set_option linter.unusedVariables false
set_option maxHeartbeats 1000000
set_option maxRecDepth 4000

def eThing : Thing → List AV
  | .var t => [.int .i64 0, .ptr none, .ptr none, .int .i64 t.kind, .int .i64 t.size, .str t.name]
  | .rcd r => [.int .i64 1, .ip (eRec r) 0, .ptr none, .int .i64 0, .int .i64 0, .str ⟨#[]⟩]
  | .routine r => [.int .i64 2, .ptr none, .ip (eRoutine r) 0, .int .i64 0, .int .i64 0, .str ⟨#[]⟩]
theorem eThing_len (x : Thing) : (eThing x).length = 6 := by cases x <;> rfl
theorem eThing_take (x : Thing) : List.take 6 (eThing x) = eThing x := List.take_of_length_le (by rw [eThing_len]; exact Nat.le_refl _)
def eEntry (p : ByteArray × Thing) : AV × AV := (.str p.1, .agg (eThing p.2))
theorem afind_scope (name : ByteArray) : ∀ f : Scope, afind [2] (.str name) (f.map eEntry) = some ((look f name).map fun x => .agg (eThing x))
  | [] => rfl
  | (n, y) :: f => by
    have hk : keyEq [2] (.str name) (.str n) = some (decide (name = n)) := rfl
    simp only [List.map_cons, eEntry, afind, hk, look, List.find?_cons]
    by_cases h : name = n
    · simp [h]
    · simp only [h, decide_false]
      exact afind_scope name f
theorem aset_scope (name : ByteArray) (x : Thing) : ∀ f : Scope, aset [2] (.str name) (.agg (eThing x)) (f.map eEntry) = some ((setIn name x f).map eEntry)
  | [] => rfl
  | (n, y) :: f => by
    have hk : keyEq [2] (.str name) (.str n) = some (decide (name = n)) := rfl
    simp only [List.map_cons, eEntry, aset, hk, setIn]
    by_cases h : name = n
    · simp [h, eEntry]
    · simp only [h, decide_false, if_false]
      rw [aset_scope name x f]; simp [eEntry]
/-- Scopes in memory: each has the one around it and its names; 'bs' are the maps. -/
def Chain (h : AHeap) : AV → List Scope → List Nat → Prop
  | sp, [], bs => sp = .ptr none ∧ bs = []
  | sp, f :: fs, bs => ∃ m par bs', bs = m :: bs' ∧ sp = .ip [par, .map (some m)] 0 ∧ h m = some (.mp (f.map eEntry)) ∧ Chain h par fs bs'
theorem Chain.of_le {h g : AHeap} (le : h.le g) : ∀ {fs : List Scope} {sp : AV} {bs : List Nat}, Chain h sp fs bs → Chain g sp fs bs
  | [], _, _, c => c
  | f :: fs, _, _, ⟨m, par, bs', h1, h2, h4, h5⟩ => ⟨m, par, bs', h1, h2, le _ _ h4, h5.of_le le⟩
theorem Chain.upd {h : AHeap} {p : Nat} (o : AObj) : ∀ {fs : List Scope} {sp : AV} {bs : List Nat}, p ∉ bs → Chain h sp fs bs → Chain (h.upd p o) sp fs bs
  | [], _, _, _, c => c
  | f :: fs, _, _, hp, ⟨m, par, bs', h1, h2, h4, h5⟩ => by
    subst h1
    simp only [List.mem_cons, not_or] at hp
    exact ⟨m, par, bs', rfl, h2, by rw [upd_ne _ _ _ (Ne.symm hp.1)]; exact h4, h5.upd o hp.2⟩
theorem Chain.mem {h : AHeap} : ∀ {fs : List Scope} {sp : AV} {bs : List Nat}, Chain h sp fs bs → ∀ b ∈ bs, h b ≠ none
  | [], _, _, ⟨_, h2⟩, b, hb => by subst h2; simp at hb
  | f :: fs, _, _, ⟨m, par, bs', h1, h2, h4, h5⟩, b, hb => by
    subst h1
    simp only [List.mem_cons] at hb
    rcases hb with rfl | hb
    · rw [h4]; simp
    · exact h5.mem b hb
theorem Chain.fresh {h : AHeap} {fs : List Scope} {sp : AV} {bs : List Nat} (c : Chain h sp fs bs) {p : Nat} (hp : h p = none) : p ∉ bs := fun hh => c.mem p hh hp
theorem Chain.top {h : AHeap} {fs : List Scope} {sp : AV} {bs : List Nat} {f : Scope} (c : Chain h sp (f :: fs) bs) : ∃ m par, sp = .ip [par, .map (some m)] 0 ∧ h m = some (.mp (f.map eEntry)) := by
  obtain ⟨m, par, bs', h1, h2, h4, h5⟩ := c
  exact ⟨m, par, h2, h4⟩

theorem splice_all {α : Type} {a b c d e f : α} {l : List α} (h : l.length = 6) : splice [a, b, c, d, e, f] 0 l = l := by
  simp [splice, h]
theorem find_spec {h : AHeap} {sp : AV} {fs : List Scope} {bs : List Nat} (c : Chain h sp fs bs) (name : ByteArray) :
    ACalls Go.Proofs.Try.prog 72 [sp, .str name] h (fun v g => v = .tuple [.agg (match findIn fs name with | some x => eThing x | none => [.int .i64 0, .ptr none, .ptr none, .int .i64 0, .int .i64 0, .str ⟨#[]⟩]), .bool (findIn fs name).isSome] ∧ g = h) := by
  refine F72.calls (by simp) ?_
  delta F72.c0 F72.c1 F72.c14 F72.r7 F72.c2 F72.c3 F72.c4 F72.c5 F72.c8 F72.r6 F72.c9 F72.c10 F72.c11 F72.c12 F72.c13 F72.r5 F72.r4 F72.r3 F72.c6 F72.c7 F72.r2 F72.r1 F72.r0
  simp -implicitDefEqProofs only [↓pgPre, pgPost, aread, envOf, ↓reduceIte, Nat.reduceEqDiff, Nat.reduceAdd, Nat.reduceSub, Nat.reduceLeDiff, Nat.reduceLT, Nat.reduceMul, apeq, boolNeg, afa, aload, abin, aun, amn, amx, aext, aconv, abeq, anilc, RRead.still, REff.allocs, evParts, afill, astore, reduceCtorEq, aseq, cellsEq, cellEq, Int.reduceAdd, Int.reduceSub, Int.reduceMul, Int.reduceEq, Int.reduceLT, Int.reduceLE, Int.reduceGT, Int.reduceGE, Int.reduceToNat, Int.reduceNeg, eq_self, if_true, if_false, chunks, aelems, elemsFit, forall_eq, Nat.reduceBEq, Nat.reduceBNe, abx, afld, pgTree]
  refine afreshT_intro fun p hp => ?_
  simp -implicitDefEqProofs only [↓pgPre, pgPost, aread, envOf, ↓reduceIte, Nat.reduceEqDiff, Nat.reduceAdd, Nat.reduceSub, Nat.reduceLeDiff, Nat.reduceLT, Nat.reduceMul, apeq, boolNeg, afa, aload, abin, aun, amn, amx, aext, aconv, abeq, anilc, RRead.still, REff.allocs, evParts, afill, astore, reduceCtorEq, aseq, cellsEq, cellEq, Int.reduceAdd, Int.reduceSub, Int.reduceMul, Int.reduceEq, Int.reduceLT, Int.reduceLE, Int.reduceGT, Int.reduceGE, Int.reduceToNat, Int.reduceNeg, eq_self, if_true, if_false, chunks, aelems, elemsFit, forall_eq, Nat.reduceBEq, Nat.reduceBNe, abx, afld, pgTree]
  generalize hg : h.upd p _ = g
  have c' : Chain g sp fs bs := by rw [← hg]; exact c.of_le (upd_le hp)
  refine lT_inv2 (fun n e k => ∃ fs' sp' bs', fs'.length = n ∧ Chain g sp' fs' bs' ∧ findIn fs name = findIn fs' name ∧ k = g ∧ e = [(1, .str name), (4, .ptr (some ⟨p, 0, none⟩)), (6, sp')]) fs.length (WeakE.env ?_) ⟨fs, sp, bs, rfl, c', rfl, rfl, rfl⟩ ?_
  · skip
    repeat' (first | exact EnvLe.nil _ | refine EnvLe.cons ?_ ?_)
    all_goals (simp -implicitDefEqProofs only [↓pgPre, pgPost, aread, envOf, ↓reduceIte, Nat.reduceEqDiff, Nat.reduceAdd, Nat.reduceSub, Nat.reduceLeDiff, Nat.reduceLT, Nat.reduceMul, apeq, boolNeg, afa, aload, abin, aun, amn, amx, aext, aconv, abeq, anilc, RRead.still, REff.allocs, evParts, afill, astore, reduceCtorEq, aseq, cellsEq, cellEq, Int.reduceAdd, Int.reduceSub, Int.reduceMul, Int.reduceEq, Int.reduceLT, Int.reduceLE, Int.reduceGT, Int.reduceGE, Int.reduceToNat, Int.reduceNeg, eq_self, if_true, if_false, chunks, aelems, elemsFit, forall_eq, Nat.reduceBEq, Nat.reduceBNe, abx, afld, pgTree]; try first | exact AVle.refl _ | exact AVle.sl _ _ | exact AVle.gs _ _ _ | assumption)
  · rintro n e k ⟨fs', sp', bs', hn, c2, hf, rfl, rfl⟩
    cases fs' with
    | nil =>
      obtain ⟨rfl, rfl⟩ := c2
      simp -implicitDefEqProofs only [↓pgPre, pgPost, aread, envOf, ↓reduceIte, Nat.reduceEqDiff, Nat.reduceAdd, Nat.reduceSub, Nat.reduceLeDiff, Nat.reduceLT, Nat.reduceMul, apeq, boolNeg, afa, aload, abin, aun, amn, amx, aext, aconv, abeq, anilc, RRead.still, REff.allocs, evParts, afill, astore, reduceCtorEq, aseq, cellsEq, cellEq, Int.reduceAdd, Int.reduceSub, Int.reduceMul, Int.reduceEq, Int.reduceLT, Int.reduceLE, Int.reduceGT, Int.reduceGE, Int.reduceToNat, Int.reduceNeg, eq_self, if_true, if_false, chunks, aelems, elemsFit, forall_eq, Nat.reduceBEq, Nat.reduceBNe, abx, afld, pgTree]
      refine lessQ.same ?_
      subst hg
      simp -implicitDefEqProofs only [↓pgPre, pgPost, aread, envOf, ↓reduceIte, Nat.reduceEqDiff, Nat.reduceAdd, Nat.reduceSub, Nat.reduceLeDiff, Nat.reduceLT, Nat.reduceMul, apeq, boolNeg, afa, aload, abin, aun, amn, amx, aext, aconv, abeq, anilc, RRead.still, REff.allocs, evParts, afill, astore, reduceCtorEq, aseq, cellsEq, cellEq, Int.reduceAdd, Int.reduceSub, Int.reduceMul, Int.reduceEq, Int.reduceLT, Int.reduceLE, Int.reduceGT, Int.reduceGE, Int.reduceToNat, Int.reduceNeg, eq_self, if_true, if_false, chunks, aelems, elemsFit, forall_eq, Nat.reduceBEq, Nat.reduceBNe, abx, afld, pgTree, upd_upd]
      refine .forget (upd_le hp) ⟨?_, rfl⟩
      rw [hf]; rfl
    | cons f fs' =>
      obtain ⟨m, par, bs', rfl, rfl, h4, h5⟩ := c2
      simp -implicitDefEqProofs only [↓pgPre, pgPost, aread, envOf, ↓reduceIte, Nat.reduceEqDiff, Nat.reduceAdd, Nat.reduceSub, Nat.reduceLeDiff, Nat.reduceLT, Nat.reduceMul, apeq, boolNeg, afa, aload, abin, aun, amn, amx, aext, aconv, abeq, anilc, RRead.still, REff.allocs, evParts, afill, astore, reduceCtorEq, aseq, cellsEq, cellEq, Int.reduceAdd, Int.reduceSub, Int.reduceMul, Int.reduceEq, Int.reduceLT, Int.reduceLE, Int.reduceGT, Int.reduceGE, Int.reduceToNat, Int.reduceNeg, eq_self, if_true, if_false, chunks, aelems, elemsFit, forall_eq, Nat.reduceBEq, Nat.reduceBNe, abx, afld, pgTree, h4, alookup, amapOf, keyFits, afind_scope]
      cases hl : look f name with
      | some x =>
        subst hg
        simp -implicitDefEqProofs only [↓pgPre, pgPost, aread, envOf, ↓reduceIte, Nat.reduceEqDiff, Nat.reduceAdd, Nat.reduceSub, Nat.reduceLeDiff, Nat.reduceLT, Nat.reduceMul, apeq, boolNeg, afa, aload, abin, aun, amn, amx, aext, aconv, abeq, anilc, RRead.still, REff.allocs, evParts, afill, astore, reduceCtorEq, aseq, cellsEq, cellEq, Int.reduceAdd, Int.reduceSub, Int.reduceMul, Int.reduceEq, Int.reduceLT, Int.reduceLE, Int.reduceGT, Int.reduceGE, Int.reduceToNat, Int.reduceNeg, eq_self, if_true, if_false, chunks, aelems, elemsFit, forall_eq, Nat.reduceBEq, Nat.reduceBNe, abx, afld, pgTree, eThing_len, eThing_take, splice_all (eThing_len x), upd_upd]
        refine lessQ.same ?_
        simp -implicitDefEqProofs only [↓pgPre, pgPost, aread, envOf, ↓reduceIte, Nat.reduceEqDiff, Nat.reduceAdd, Nat.reduceSub, Nat.reduceLeDiff, Nat.reduceLT, Nat.reduceMul, apeq, boolNeg, afa, aload, abin, aun, amn, amx, aext, aconv, abeq, anilc, RRead.still, REff.allocs, evParts, afill, astore, reduceCtorEq, aseq, cellsEq, cellEq, Int.reduceAdd, Int.reduceSub, Int.reduceMul, Int.reduceEq, Int.reduceLT, Int.reduceLE, Int.reduceGT, Int.reduceGE, Int.reduceToNat, Int.reduceNeg, eq_self, if_true, if_false, chunks, aelems, elemsFit, forall_eq, Nat.reduceBEq, Nat.reduceBNe, abx, afld, pgTree, eThing_len, eThing_take, upd_upd]
        refine .forget (upd_le hp) ⟨?_, rfl⟩
        rw [hf]; simp [findIn, hl]
      | none =>
        simp -implicitDefEqProofs only [↓pgPre, pgPost, aread, envOf, ↓reduceIte, Nat.reduceEqDiff, Nat.reduceAdd, Nat.reduceSub, Nat.reduceLeDiff, Nat.reduceLT, Nat.reduceMul, apeq, boolNeg, afa, aload, abin, aun, amn, amx, aext, aconv, abeq, anilc, RRead.still, REff.allocs, evParts, afill, astore, reduceCtorEq, aseq, cellsEq, cellEq, Int.reduceAdd, Int.reduceSub, Int.reduceMul, Int.reduceEq, Int.reduceLT, Int.reduceLE, Int.reduceGT, Int.reduceGE, Int.reduceToNat, Int.reduceNeg, eq_self, if_true, if_false, chunks, aelems, elemsFit, forall_eq, Nat.reduceBEq, Nat.reduceBNe, abx, afld, pgTree]
        refine lessI.to fs'.length _ _ (by simp at hn; omega) (WeakE.env ?_) ⟨fs', par, bs', rfl, h5, ?_, rfl, rfl⟩
        · skip
          repeat' (first | exact EnvLe.nil _ | refine EnvLe.cons ?_ ?_)
          all_goals (simp -implicitDefEqProofs only [↓pgPre, pgPost, aread, envOf, ↓reduceIte, Nat.reduceEqDiff, Nat.reduceAdd, Nat.reduceSub, Nat.reduceLeDiff, Nat.reduceLT, Nat.reduceMul, apeq, boolNeg, afa, aload, abin, aun, amn, amx, aext, aconv, abeq, anilc, RRead.still, REff.allocs, evParts, afill, astore, reduceCtorEq, aseq, cellsEq, cellEq, Int.reduceAdd, Int.reduceSub, Int.reduceMul, Int.reduceEq, Int.reduceLT, Int.reduceLE, Int.reduceGT, Int.reduceGE, Int.reduceToNat, Int.reduceNeg, eq_self, if_true, if_false, chunks, aelems, elemsFit, forall_eq, Nat.reduceBEq, Nat.reduceBNe, abx, afld, pgTree]; try first | exact AVle.refl _ | exact AVle.sl _ _ | exact AVle.gs _ _ _ | assumption)
        · rw [hf]; simp [findIn, hl]

/-- The checker in memory. -/
def ckBlk (sp : AV) (s : CS) (inp : AV) : AObj := .blk [sp, .int .i64 s.item, .int .i64 s.bad, inp] 4 91
theorem fail_spec {h : AHeap} {c : Nat} {sp inp : AV} {s : CS} (hc : h c = some (ckBlk sp s inp)) (e : Int) : ACalls Go.Proofs.Try.prog 45 [.ptr (some ⟨c, 0, none⟩), .int .i64 e] h (fun v g => v = .tuple [] ∧ g = h.upd c (ckBlk sp (s.fail e) inp)) := by
  unfold ckBlk at hc
  refine F45.calls (by simp) ?_
  delta F45.c0 F45.c1 F45.r1 F45.r0
  simp -implicitDefEqProofs only [↓pgPre, pgPost, aread, envOf, ↓reduceIte, Nat.reduceEqDiff, Nat.reduceAdd, Nat.reduceSub, Nat.reduceLeDiff, Nat.reduceLT, Nat.reduceMul, apeq, boolNeg, afa, aload, abin, aun, amn, amx, aext, aconv, abeq, anilc, RRead.still, REff.allocs, evParts, afill, astore, reduceCtorEq, aseq, cellsEq, cellEq, Int.reduceAdd, Int.reduceSub, Int.reduceMul, Int.reduceEq, Int.reduceLT, Int.reduceLE, Int.reduceGT, Int.reduceGE, Int.reduceToNat, Int.reduceNeg, eq_self, if_true, if_false, chunks, aelems, elemsFit, forall_eq, Nat.reduceBEq, Nat.reduceBNe, abx, afld, pgTree, hc]
  by_cases hb : s.bad = 0
  · simp -implicitDefEqProofs only [↓pgPre, pgPost, aread, envOf, ↓reduceIte, Nat.reduceEqDiff, Nat.reduceAdd, Nat.reduceSub, Nat.reduceLeDiff, Nat.reduceLT, Nat.reduceMul, apeq, boolNeg, afa, aload, abin, aun, amn, amx, aext, aconv, abeq, anilc, RRead.still, REff.allocs, evParts, afill, astore, reduceCtorEq, aseq, cellsEq, cellEq, Int.reduceAdd, Int.reduceSub, Int.reduceMul, Int.reduceEq, Int.reduceLT, Int.reduceLE, Int.reduceGT, Int.reduceGE, Int.reduceToNat, Int.reduceNeg, eq_self, if_true, if_false, chunks, aelems, elemsFit, forall_eq, Nat.reduceBEq, Nat.reduceBNe, abx, afld, pgTree, hb, hc]
    exact .same ⟨rfl, by simp [CS.fail, hb, ckBlk]⟩
  · simp -implicitDefEqProofs only [↓pgPre, pgPost, aread, envOf, ↓reduceIte, Nat.reduceEqDiff, Nat.reduceAdd, Nat.reduceSub, Nat.reduceLeDiff, Nat.reduceLT, Nat.reduceMul, apeq, boolNeg, afa, aload, abin, aun, amn, amx, aext, aconv, abeq, anilc, RRead.still, REff.allocs, evParts, afill, astore, reduceCtorEq, aseq, cellsEq, cellEq, Int.reduceAdd, Int.reduceSub, Int.reduceMul, Int.reduceEq, Int.reduceLT, Int.reduceLE, Int.reduceGT, Int.reduceGE, Int.reduceToNat, Int.reduceNeg, eq_self, if_true, if_false, chunks, aelems, elemsFit, forall_eq, Nat.reduceBEq, Nat.reduceBNe, abx, afld, pgTree, hb]
    refine .same ⟨rfl, ?_⟩
    rw [upd_self (by rw [hc]; simp [CS.fail, hb, ckBlk])]
theorem next_spec {h : AHeap} {c : Nat} {sp inp : AV} {s : CS} (hc : h c = some (ckBlk sp s inp)) : ACalls Go.Proofs.Try.prog 42 [.ptr (some ⟨c, 0, none⟩)] h (fun v g => v = .bool (decide (s.bad = 0)) ∧ g = h.upd c (ckBlk sp (if s.bad = 0 then s.step else s) inp)) := by
  unfold ckBlk at hc
  refine F42.calls (by simp) ?_
  delta F42.c0 F42.c1 F42.c5 F42.c6 F42.r4 F42.r3 F42.c2 F42.c3 F42.c4 F42.r2 F42.r1 F42.r0
  simp -implicitDefEqProofs only [↓pgPre, pgPost, aread, envOf, ↓reduceIte, Nat.reduceEqDiff, Nat.reduceAdd, Nat.reduceSub, Nat.reduceLeDiff, Nat.reduceLT, Nat.reduceMul, apeq, boolNeg, afa, aload, abin, aun, amn, amx, aext, aconv, abeq, anilc, RRead.still, REff.allocs, evParts, afill, astore, reduceCtorEq, aseq, cellsEq, cellEq, Int.reduceAdd, Int.reduceSub, Int.reduceMul, Int.reduceEq, Int.reduceLT, Int.reduceLE, Int.reduceGT, Int.reduceGE, Int.reduceToNat, Int.reduceNeg, eq_self, if_true, if_false, chunks, aelems, elemsFit, forall_eq, Nat.reduceBEq, Nat.reduceBNe, abx, afld, pgTree, hc]
  by_cases hb : s.bad = 0
  · simp -implicitDefEqProofs only [↓pgPre, pgPost, aread, envOf, ↓reduceIte, Nat.reduceEqDiff, Nat.reduceAdd, Nat.reduceSub, Nat.reduceLeDiff, Nat.reduceLT, Nat.reduceMul, apeq, boolNeg, afa, aload, abin, aun, amn, amx, aext, aconv, abeq, anilc, RRead.still, REff.allocs, evParts, afill, astore, reduceCtorEq, aseq, cellsEq, cellEq, Int.reduceAdd, Int.reduceSub, Int.reduceMul, Int.reduceEq, Int.reduceLT, Int.reduceLE, Int.reduceGT, Int.reduceGE, Int.reduceToNat, Int.reduceNeg, eq_self, if_true, if_false, chunks, aelems, elemsFit, forall_eq, Nat.reduceBEq, Nat.reduceBNe, abx, afld, pgTree, hb, hc]
    exact .same ⟨rfl, by simp [CS.step, hb, ckBlk]⟩
  · simp -implicitDefEqProofs only [↓pgPre, pgPost, aread, envOf, ↓reduceIte, Nat.reduceEqDiff, Nat.reduceAdd, Nat.reduceSub, Nat.reduceLeDiff, Nat.reduceLT, Nat.reduceMul, apeq, boolNeg, afa, aload, abin, aun, amn, amx, aext, aconv, abeq, anilc, RRead.still, REff.allocs, evParts, afill, astore, reduceCtorEq, aseq, cellsEq, cellEq, Int.reduceAdd, Int.reduceSub, Int.reduceMul, Int.reduceEq, Int.reduceLT, Int.reduceLE, Int.reduceGT, Int.reduceGE, Int.reduceToNat, Int.reduceNeg, eq_self, if_true, if_false, chunks, aelems, elemsFit, forall_eq, Nat.reduceBEq, Nat.reduceBNe, abx, afld, pgTree, hb]
    refine .same ⟨rfl, ?_⟩
    rw [upd_self (by rw [hc]; simp [hb, ckBlk])]
theorem Chain.cells {h : AHeap} {fs : List Scope} {sp : AV} {bs : List Nat} (c : Chain h sp fs bs) : sp.cells? = some [sp] := by
  cases fs with
  | nil => obtain ⟨rfl, _⟩ := c; rfl
  | cons f fs => obtain ⟨m, par, bs', _, rfl, _⟩ := c; rfl
theorem deeper_spec {h : AHeap} {sp : AV} (hs : sp.cells? = some [sp]) : ACalls Go.Proofs.Try.prog 41 [sp] h (fun v g => ∃ m, h m = none ∧ v = .ip [sp, .map (some m)] 0 ∧ g = h.upd m (.mp [])) := by
  refine F41.calls (by simp) ?_
  delta F41.c0 F41.c1 F41.r1 F41.r0
  simp -implicitDefEqProofs only [↓pgPre, pgPost, aread, envOf, ↓reduceIte, Nat.reduceEqDiff, Nat.reduceAdd, Nat.reduceSub, Nat.reduceLeDiff, Nat.reduceLT, Nat.reduceMul, apeq, boolNeg, afa, aload, abin, aun, amn, amx, aext, aconv, abeq, anilc, RRead.still, REff.allocs, evParts, afill, astore, reduceCtorEq, aseq, cellsEq, cellEq, Int.reduceAdd, Int.reduceSub, Int.reduceMul, Int.reduceEq, Int.reduceLT, Int.reduceLE, Int.reduceGT, Int.reduceGE, Int.reduceToNat, Int.reduceNeg, eq_self, if_true, if_false, chunks, aelems, elemsFit, forall_eq, Nat.reduceBEq, Nat.reduceBNe, abx, afld, pgTree]
  refine afreshT_intro fun m hm => ?_
  simp -implicitDefEqProofs only [↓pgPre, pgPost, aread, envOf, ↓reduceIte, Nat.reduceEqDiff, Nat.reduceAdd, Nat.reduceSub, Nat.reduceLeDiff, Nat.reduceLT, Nat.reduceMul, apeq, boolNeg, afa, aload, abin, aun, amn, amx, aext, aconv, abeq, anilc, RRead.still, REff.allocs, evParts, afill, astore, reduceCtorEq, aseq, cellsEq, cellEq, Int.reduceAdd, Int.reduceSub, Int.reduceMul, Int.reduceEq, Int.reduceLT, Int.reduceLE, Int.reduceGT, Int.reduceGE, Int.reduceToNat, Int.reduceNeg, eq_self, if_true, if_false, chunks, aelems, elemsFit, forall_eq, Nat.reduceBEq, Nat.reduceBNe, abx, afld, pgTree, hs]
  exact .same ⟨m, hm, rfl, rfl⟩
theorem CS.fail_bad (s : CS) (e : Int) (h : s.bad ≠ 0) : s.fail e = s := by simp [CS.fail, h]
theorem lay_spec {h : AHeap} {c : Nat} {sp inp : AV} {s : CS} {f : Scope} {fs : List Scope} {m : Nat} {bs' : List Nat} (hc : h c = some (ckBlk sp s inp)) (ch : Chain h sp (f :: fs) (m :: bs')) (hn : c ∉ m :: bs') (hd : (m :: bs').Nodup) (name : ByteArray) (x : Thing) :
    ACalls Go.Proofs.Try.prog 43 [.ptr (some ⟨c, 0, none⟩), .str name, .agg (eThing x)] h (fun v g => v = .tuple [] ∧ g = (h.upd m (.mp (((ckLay (f :: fs) s name x).1.headD []).map eEntry))).upd c (ckBlk sp (ckLay (f :: fs) s name x).2 inp) ∧ Chain g sp (ckLay (f :: fs) s name x).1 (m :: bs')) := by
  obtain ⟨m', par, bs2, hb, rfl, hm, hch⟩ := ch
  obtain ⟨rfl, rfl⟩ := List.cons.inj hb
  have ch : Chain h (.ip [par, .map (some m)] 0) (f :: fs) (m :: bs') := ⟨m, par, bs', rfl, rfl, hm, hch⟩
  simp only [List.mem_cons, not_or, List.nodup_cons] at hn hd
  have hc' := hc
  unfold ckBlk at hc'
  refine F43.calls (by simp) ?_
  delta F43.c0 F43.c1 F43.r4 F43.c2 F43.c3 F43.c4 F43.c5 F43.r3 F43.r2 F43.r1 F43.r0
  simp -implicitDefEqProofs only [↓pgPre, pgPost, aread, envOf, ↓reduceIte, Nat.reduceEqDiff, Nat.reduceAdd, Nat.reduceSub, Nat.reduceLeDiff, Nat.reduceLT, Nat.reduceMul, apeq, boolNeg, afa, aload, abin, aun, amn, amx, aext, aconv, abeq, anilc, RRead.still, REff.allocs, evParts, afill, astore, reduceCtorEq, aseq, cellsEq, cellEq, Int.reduceAdd, Int.reduceSub, Int.reduceMul, Int.reduceEq, Int.reduceLT, Int.reduceLE, Int.reduceGT, Int.reduceGE, Int.reduceToNat, Int.reduceNeg, eq_self, if_true, if_false, chunks, aelems, elemsFit, forall_eq, Nat.reduceBEq, Nat.reduceBNe, abx, afld, pgTree, hc']
  refine callT_of (find_spec ch name) (fun v g ⟨hv, hg⟩ => ?_)
  subst hv hg
  simp -implicitDefEqProofs only [↓pgPre, pgPost, aread, envOf, ↓reduceIte, Nat.reduceEqDiff, Nat.reduceAdd, Nat.reduceSub, Nat.reduceLeDiff, Nat.reduceLT, Nat.reduceMul, apeq, boolNeg, afa, aload, abin, aun, amn, amx, aext, aconv, abeq, anilc, RRead.still, REff.allocs, evParts, afill, astore, reduceCtorEq, aseq, cellsEq, cellEq, Int.reduceAdd, Int.reduceSub, Int.reduceMul, Int.reduceEq, Int.reduceLT, Int.reduceLE, Int.reduceGT, Int.reduceGE, Int.reduceToNat, Int.reduceNeg, eq_self, if_true, if_false, chunks, aelems, elemsFit, forall_eq, Nat.reduceBEq, Nat.reduceBNe, abx, afld, pgTree]
  have key : ∀ y : Thing, (abx (some 6) (.agg (eThing y)) = some (.ip (eThing y) 0)) := fun y => by simp [abx, AV.cells?, eThing_len]
  cases hf : findIn (f :: fs) name with
  | some y =>
    simp -implicitDefEqProofs only [↓pgPre, pgPost, aread, envOf, ↓reduceIte, Nat.reduceEqDiff, Nat.reduceAdd, Nat.reduceSub, Nat.reduceLeDiff, Nat.reduceLT, Nat.reduceMul, apeq, boolNeg, afa, aload, abin, aun, amn, amx, aext, aconv, abeq, anilc, RRead.still, REff.allocs, evParts, afill, astore, reduceCtorEq, aseq, cellsEq, cellEq, Int.reduceAdd, Int.reduceSub, Int.reduceMul, Int.reduceEq, Int.reduceLT, Int.reduceLE, Int.reduceGT, Int.reduceGE, Int.reduceToNat, Int.reduceNeg, eq_self, if_true, if_false, chunks, aelems, elemsFit, forall_eq, Nat.reduceBEq, Nat.reduceBNe, abx, afld, pgTree, eThing_len]
    refine callT_of (fail_spec hc 12) (fun v k ⟨hv, hk⟩ => ?_)
    subst hv hk
    simp -implicitDefEqProofs only [↓pgPre, pgPost, aread, envOf, ↓reduceIte, Nat.reduceEqDiff, Nat.reduceAdd, Nat.reduceSub, Nat.reduceLeDiff, Nat.reduceLT, Nat.reduceMul, apeq, boolNeg, afa, aload, abin, aun, amn, amx, aext, aconv, abeq, anilc, RRead.still, REff.allocs, evParts, afill, astore, reduceCtorEq, aseq, cellsEq, cellEq, Int.reduceAdd, Int.reduceSub, Int.reduceMul, Int.reduceEq, Int.reduceLT, Int.reduceLE, Int.reduceGT, Int.reduceGE, Int.reduceToNat, Int.reduceNeg, eq_self, if_true, if_false, chunks, aelems, elemsFit, forall_eq, Nat.reduceBEq, Nat.reduceBNe, abx, afld, pgTree]
    refine .same ⟨rfl, ?_, ?_⟩
    · simp only [ckLay, hf, List.headD_cons]
      rw [upd_self hm]
    · simp only [ckLay, hf]
      exact ch.upd _ (by simp [hn])
  | none =>
    simp -implicitDefEqProofs only [↓pgPre, pgPost, aread, envOf, ↓reduceIte, Nat.reduceEqDiff, Nat.reduceAdd, Nat.reduceSub, Nat.reduceLeDiff, Nat.reduceLT, Nat.reduceMul, apeq, boolNeg, afa, aload, abin, aun, amn, amx, aext, aconv, abeq, anilc, RRead.still, REff.allocs, evParts, afill, astore, reduceCtorEq, aseq, cellsEq, cellEq, Int.reduceAdd, Int.reduceSub, Int.reduceMul, Int.reduceEq, Int.reduceLT, Int.reduceLE, Int.reduceGT, Int.reduceGE, Int.reduceToNat, Int.reduceNeg, eq_self, if_true, if_false, chunks, aelems, elemsFit, forall_eq, Nat.reduceBEq, Nat.reduceBNe, abx, afld, pgTree, hc', eThing_len, eThing_take]
    refine mapupT_of hm (aset_scope name x f) rfl ?_
    simp -implicitDefEqProofs only [↓pgPre, pgPost, aread, envOf, ↓reduceIte, Nat.reduceEqDiff, Nat.reduceAdd, Nat.reduceSub, Nat.reduceLeDiff, Nat.reduceLT, Nat.reduceMul, apeq, boolNeg, afa, aload, abin, aun, amn, amx, aext, aconv, abeq, anilc, RRead.still, REff.allocs, evParts, afill, astore, reduceCtorEq, aseq, cellsEq, cellEq, Int.reduceAdd, Int.reduceSub, Int.reduceMul, Int.reduceEq, Int.reduceLT, Int.reduceLE, Int.reduceGT, Int.reduceGE, Int.reduceToNat, Int.reduceNeg, eq_self, if_true, if_false, chunks, aelems, elemsFit, forall_eq, Nat.reduceBEq, Nat.reduceBNe, abx, afld, pgTree, hc', upd_ne _ _ _ hn.1]
    refine .same ⟨rfl, ?_, ?_⟩
    · simp only [ckLay, hf, setTop, List.headD_cons]
      exact (upd_self (by rw [upd_ne _ _ _ hn.1]; exact hc)).symm
    · simp only [ckLay, hf, setTop]
      exact ⟨m, par, bs', rfl, rfl, upd_same _ _ _, hch.upd _ hd.1⟩
theorem typ_spec {h : AHeap} {c : Nat} {sp inp : AV} {s : CS} {fs : List Scope} {bs : List Nat} (hc : h c = some (ckBlk sp s inp)) (ch : Chain h sp fs bs) (t : Typ) :
    ACalls Go.Proofs.Try.prog 75 [.ptr (some ⟨c, 0, none⟩), .agg (eTyp t)] h (fun v g => v = .tuple [] ∧ g = h.upd c (ckBlk sp (ckTyp fs s t) inp)) := by
  have hc' := hc
  unfold ckBlk at hc'
  refine F75.calls (by simp) ?_
  delta F75.c0 F75.c1 F75.c4 F75.c6 F75.c7 F75.r4 F75.r3 F75.c5 F75.r2 F75.c2 F75.c3 F75.r1 F75.r0
  simp -implicitDefEqProofs only [↓pgPre, pgPost, aread, envOf, ↓reduceIte, Nat.reduceEqDiff, Nat.reduceAdd, Nat.reduceSub, Nat.reduceLeDiff, Nat.reduceLT, Nat.reduceMul, apeq, boolNeg, afa, aload, abin, aun, amn, amx, aext, aconv, abeq, anilc, RRead.still, REff.allocs, evParts, afill, astore, reduceCtorEq, aseq, cellsEq, cellEq, Int.reduceAdd, Int.reduceSub, Int.reduceMul, Int.reduceEq, Int.reduceLT, Int.reduceLE, Int.reduceGT, Int.reduceGE, Int.reduceToNat, Int.reduceNeg, eq_self, if_true, if_false, chunks, aelems, elemsFit, forall_eq, Nat.reduceBEq, Nat.reduceBNe, abx, afld, pgTree]
  by_cases hk : t.kind = 4
  · simp -implicitDefEqProofs only [↓pgPre, pgPost, aread, envOf, ↓reduceIte, Nat.reduceEqDiff, Nat.reduceAdd, Nat.reduceSub, Nat.reduceLeDiff, Nat.reduceLT, Nat.reduceMul, apeq, boolNeg, afa, aload, abin, aun, amn, amx, aext, aconv, abeq, anilc, RRead.still, REff.allocs, evParts, afill, astore, reduceCtorEq, aseq, cellsEq, cellEq, Int.reduceAdd, Int.reduceSub, Int.reduceMul, Int.reduceEq, Int.reduceLT, Int.reduceLE, Int.reduceGT, Int.reduceGE, Int.reduceToNat, Int.reduceNeg, eq_self, if_true, if_false, chunks, aelems, elemsFit, forall_eq, Nat.reduceBEq, Nat.reduceBNe, abx, afld, pgTree, hk, hc']
    refine callT_of (find_spec ch t.name) (fun v g ⟨hv, hg⟩ => ?_)
    subst hv hg
    simp -implicitDefEqProofs only [↓pgPre, pgPost, aread, envOf, ↓reduceIte, Nat.reduceEqDiff, Nat.reduceAdd, Nat.reduceSub, Nat.reduceLeDiff, Nat.reduceLT, Nat.reduceMul, apeq, boolNeg, afa, aload, abin, aun, amn, amx, aext, aconv, abeq, anilc, RRead.still, REff.allocs, evParts, afill, astore, reduceCtorEq, aseq, cellsEq, cellEq, Int.reduceAdd, Int.reduceSub, Int.reduceMul, Int.reduceEq, Int.reduceLT, Int.reduceLE, Int.reduceGT, Int.reduceGE, Int.reduceToNat, Int.reduceNeg, eq_self, if_true, if_false, chunks, aelems, elemsFit, forall_eq, Nat.reduceBEq, Nat.reduceBNe, abx, afld, pgTree, hc']
    refine afreshT_intro fun q hq => ?_
    cases hf : findIn fs t.name with
    | none =>
      simp -implicitDefEqProofs only [↓pgPre, pgPost, aread, envOf, ↓reduceIte, Nat.reduceEqDiff, Nat.reduceAdd, Nat.reduceSub, Nat.reduceLeDiff, Nat.reduceLT, Nat.reduceMul, apeq, boolNeg, afa, aload, abin, aun, amn, amx, aext, aconv, abeq, anilc, RRead.still, REff.allocs, evParts, afill, astore, reduceCtorEq, aseq, cellsEq, cellEq, Int.reduceAdd, Int.reduceSub, Int.reduceMul, Int.reduceEq, Int.reduceLT, Int.reduceLE, Int.reduceGT, Int.reduceGE, Int.reduceToNat, Int.reduceNeg, eq_self, if_true, if_false, chunks, aelems, elemsFit, forall_eq, Nat.reduceBEq, Nat.reduceBNe, abx, afld, pgTree, hc', del_upd _ _ _ hq, upd_upd, upd_ne _ _ _ (show c ≠ q by intro hh; subst hh; rw [hc] at hq; cases hq)]
      refine callT_of (fail_spec hc 13) (fun v k ⟨hv, hk⟩ => ?_)
      subst hv hk
      simp -implicitDefEqProofs only [↓pgPre, pgPost, aread, envOf, ↓reduceIte, Nat.reduceEqDiff, Nat.reduceAdd, Nat.reduceSub, Nat.reduceLeDiff, Nat.reduceLT, Nat.reduceMul, apeq, boolNeg, afa, aload, abin, aun, amn, amx, aext, aconv, abeq, anilc, RRead.still, REff.allocs, evParts, afill, astore, reduceCtorEq, aseq, cellsEq, cellEq, Int.reduceAdd, Int.reduceSub, Int.reduceMul, Int.reduceEq, Int.reduceLT, Int.reduceLE, Int.reduceGT, Int.reduceGE, Int.reduceToNat, Int.reduceNeg, eq_self, if_true, if_false, chunks, aelems, elemsFit, forall_eq, Nat.reduceBEq, Nat.reduceBNe, abx, afld, pgTree]
      exact .same ⟨rfl, by simp [ckTyp, hk, hf]⟩
    | some y =>
      cases y with
      | rcd r =>
        simp -implicitDefEqProofs only [↓pgPre, pgPost, aread, envOf, ↓reduceIte, Nat.reduceEqDiff, Nat.reduceAdd, Nat.reduceSub, Nat.reduceLeDiff, Nat.reduceLT, Nat.reduceMul, apeq, boolNeg, afa, aload, abin, aun, amn, amx, aext, aconv, abeq, anilc, RRead.still, REff.allocs, evParts, afill, astore, reduceCtorEq, aseq, cellsEq, cellEq, Int.reduceAdd, Int.reduceSub, Int.reduceMul, Int.reduceEq, Int.reduceLT, Int.reduceLE, Int.reduceGT, Int.reduceGE, Int.reduceToNat, Int.reduceNeg, eq_self, if_true, if_false, chunks, aelems, elemsFit, forall_eq, Nat.reduceBEq, Nat.reduceBNe, abx, afld, pgTree, eThing, hc', del_upd _ _ _ hq, upd_upd, upd_ne _ _ _ (show c ≠ q by intro hh; subst hh; rw [hc] at hq; cases hq)]
        exact .same ⟨rfl, by simp [ckTyp, hk, hf]; rw [upd_self hc]⟩
      | var t' =>
        simp -implicitDefEqProofs only [↓pgPre, pgPost, aread, envOf, ↓reduceIte, Nat.reduceEqDiff, Nat.reduceAdd, Nat.reduceSub, Nat.reduceLeDiff, Nat.reduceLT, Nat.reduceMul, apeq, boolNeg, afa, aload, abin, aun, amn, amx, aext, aconv, abeq, anilc, RRead.still, REff.allocs, evParts, afill, astore, reduceCtorEq, aseq, cellsEq, cellEq, Int.reduceAdd, Int.reduceSub, Int.reduceMul, Int.reduceEq, Int.reduceLT, Int.reduceLE, Int.reduceGT, Int.reduceGE, Int.reduceToNat, Int.reduceNeg, eq_self, if_true, if_false, chunks, aelems, elemsFit, forall_eq, Nat.reduceBEq, Nat.reduceBNe, abx, afld, pgTree, eThing, hc', del_upd _ _ _ hq, upd_upd, upd_ne _ _ _ (show c ≠ q by intro hh; subst hh; rw [hc] at hq; cases hq)]
        refine callT_of (fail_spec hc 13) (fun v k ⟨hv, hk⟩ => ?_)
        subst hv hk
        simp -implicitDefEqProofs only [↓pgPre, pgPost, aread, envOf, ↓reduceIte, Nat.reduceEqDiff, Nat.reduceAdd, Nat.reduceSub, Nat.reduceLeDiff, Nat.reduceLT, Nat.reduceMul, apeq, boolNeg, afa, aload, abin, aun, amn, amx, aext, aconv, abeq, anilc, RRead.still, REff.allocs, evParts, afill, astore, reduceCtorEq, aseq, cellsEq, cellEq, Int.reduceAdd, Int.reduceSub, Int.reduceMul, Int.reduceEq, Int.reduceLT, Int.reduceLE, Int.reduceGT, Int.reduceGE, Int.reduceToNat, Int.reduceNeg, eq_self, if_true, if_false, chunks, aelems, elemsFit, forall_eq, Nat.reduceBEq, Nat.reduceBNe, abx, afld, pgTree]
        exact .same ⟨rfl, by simp [ckTyp, hk, hf]⟩
      | routine r =>
        simp -implicitDefEqProofs only [↓pgPre, pgPost, aread, envOf, ↓reduceIte, Nat.reduceEqDiff, Nat.reduceAdd, Nat.reduceSub, Nat.reduceLeDiff, Nat.reduceLT, Nat.reduceMul, apeq, boolNeg, afa, aload, abin, aun, amn, amx, aext, aconv, abeq, anilc, RRead.still, REff.allocs, evParts, afill, astore, reduceCtorEq, aseq, cellsEq, cellEq, Int.reduceAdd, Int.reduceSub, Int.reduceMul, Int.reduceEq, Int.reduceLT, Int.reduceLE, Int.reduceGT, Int.reduceGE, Int.reduceToNat, Int.reduceNeg, eq_self, if_true, if_false, chunks, aelems, elemsFit, forall_eq, Nat.reduceBEq, Nat.reduceBNe, abx, afld, pgTree, eThing, hc', del_upd _ _ _ hq, upd_upd, upd_ne _ _ _ (show c ≠ q by intro hh; subst hh; rw [hc] at hq; cases hq)]
        refine callT_of (fail_spec hc 13) (fun v k ⟨hv, hk⟩ => ?_)
        subst hv hk
        simp -implicitDefEqProofs only [↓pgPre, pgPost, aread, envOf, ↓reduceIte, Nat.reduceEqDiff, Nat.reduceAdd, Nat.reduceSub, Nat.reduceLeDiff, Nat.reduceLT, Nat.reduceMul, apeq, boolNeg, afa, aload, abin, aun, amn, amx, aext, aconv, abeq, anilc, RRead.still, REff.allocs, evParts, afill, astore, reduceCtorEq, aseq, cellsEq, cellEq, Int.reduceAdd, Int.reduceSub, Int.reduceMul, Int.reduceEq, Int.reduceLT, Int.reduceLE, Int.reduceGT, Int.reduceGE, Int.reduceToNat, Int.reduceNeg, eq_self, if_true, if_false, chunks, aelems, elemsFit, forall_eq, Nat.reduceBEq, Nat.reduceBNe, abx, afld, pgTree]
        exact .same ⟨rfl, by simp [ckTyp, hk, hf]⟩
  · simp -implicitDefEqProofs only [↓pgPre, pgPost, aread, envOf, ↓reduceIte, Nat.reduceEqDiff, Nat.reduceAdd, Nat.reduceSub, Nat.reduceLeDiff, Nat.reduceLT, Nat.reduceMul, apeq, boolNeg, afa, aload, abin, aun, amn, amx, aext, aconv, abeq, anilc, RRead.still, REff.allocs, evParts, afill, astore, reduceCtorEq, aseq, cellsEq, cellEq, Int.reduceAdd, Int.reduceSub, Int.reduceMul, Int.reduceEq, Int.reduceLT, Int.reduceLE, Int.reduceGT, Int.reduceGE, Int.reduceToNat, Int.reduceNeg, eq_self, if_true, if_false, chunks, aelems, elemsFit, forall_eq, Nat.reduceBEq, Nat.reduceBNe, abx, afld, pgTree, hk]
    exact .same ⟨rfl, by simp [ckTyp, hk]; rw [upd_self hc]⟩
end Pg
