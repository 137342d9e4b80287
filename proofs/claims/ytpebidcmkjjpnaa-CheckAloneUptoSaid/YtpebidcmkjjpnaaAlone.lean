import Derived.Test.YtpebidcmkjjpnaaTreeS
import Derived.Test.YtpebidcmkjjpnaaNnX
import Derived.Test.YtpebidcmkjjpnaaNnW
import Derived.Test.YtpebidcmkjjpnaaAloneLaw
import Derived.Test.YtpebidcmkjjpnaaCodeD
import Derived.Test.YtpebidcmkjjpnaaNmX
import Derived.Test.YtpebidcmkjjpnaaCheckMore
namespace Pg
open Go
set_option linter.unusedSimpArgs false
set_option linter.unusedVariables false
set_option maxHeartbeats 4000000
set_option maxRecDepth 4000
theorem tName_small {s : ByteArray} (h : tName s = true) : small s := by
  simp only [tName, Bool.and_eq_true, decide_eq_true_eq] at h
  have h1 := h.1
  unfold nameCode at h1
  unfold small
  by_cases h0 : s = noBytes
  · rw [h0]; decide
  · rw [if_neg h0] at h1
    by_cases hl : letters true (bytes s) = true
    · rw [if_pos hl] at h1
      by_cases h2 : 32 < s.size
      · rw [if_pos h2] at h1; simp at h1
      · omega
    · rw [if_neg hl] at h1; simp at h1
theorem tPrg_small {p : Prg} (h : tPrg p = true) : inP small p := tPrg_in (fun _ => tName_small) (by unfold small; decide) h
theorem check_le (p : Prg) (hw : wP p ≤ 1048576) : -1 ≤ (check p).1 ∧ (check p).1 ≤ 1048576 := by
  have hcnt := cntP_le p
  obtain ⟨u1, u2, _⟩ := ups_prg p (by simp) (by simp; omega)
  unfold check
  simp only at u1 u2
  split
  · simp
  · simp only; omega
theorem aloneP_ok (p : Prg) (ho : p.ok) (hl : p.vars.length ≤ 512) : (aloneP p).ok := by
  refine ⟨ho.before, ho.mid, ho.after, ho.recs, ho.eachRec, ?_, ?_, ho.routines, ho.eachRoutine, ho.body, ho.eachStmt, ho.endd⟩
  · unfold few aloneP; simp; omega
  · intro s hs
    rcases List.mem_append.1 hs with hs | hs
    · exact ho.eachVar s hs
    · simp only [List.mem_singleton] at hs
      subst hs
      exact ⟨few_nil, few_nil⟩
theorem CheckAlone_spec (h : AHeap) (p : Prg) (ho : p.ok) (hf : p.fit) (hw : wP p ≤ 1048576) : ACalls Go.Proofs.Try.prog 4 [.agg (ePrg p)] h (fun v g => v = .bool true ∧ g = h) := by
  refine F4.calls (by simp) ?_
  delta F4.c0 F4.c1 F4.c2 F4.c3 F4.c4 F4.r2 F4.r1 F4.r0
  simp -implicitDefEqProofs only [↓pgPre,pgPost,aread,envOf,↓reduceIte,apeq,boolNeg,afa,aload,abin,aun,amn,amx,aext,aconv,abeq,anilc,RRead.still,REff.allocs,evParts,afill,astore,reduceCtorEq,aseq,cellsEq,cellEq,eq_self,if_true,if_false,chunks,aelems,elemsFit,forall_eq,abx,afld,seval,pgTree]
  refine callT_of (tPrg_spec p ho hf h) (fun v g ⟨hv, hg⟩ => ?_)
  subst v g
  cases ht : tPrg p
  · simp -implicitDefEqProofs only [↓pgPre,pgPost,aread,envOf,↓reduceIte,apeq,boolNeg,afa,aload,abin,aun,amn,amx,aext,aconv,abeq,anilc,RRead.still,REff.allocs,evParts,afill,astore,reduceCtorEq,aseq,cellsEq,cellEq,eq_self,if_true,if_false,chunks,aelems,elemsFit,forall_eq,abx,afld,seval,pgTree]
    refine callT_of (awake_spec h) (fun v g ⟨hv, hg⟩ => ?_)
    subst v g
    simp -implicitDefEqProofs only [↓pgPre,pgPost,aread,envOf,↓reduceIte,apeq,boolNeg,afa,aload,abin,aun,amn,amx,aext,aconv,abeq,anilc,RRead.still,REff.allocs,evParts,afill,astore,reduceCtorEq,aseq,cellsEq,cellEq,eq_self,if_true,if_false,chunks,aelems,elemsFit,forall_eq,abx,afld,seval,pgTree]
    exact .same ⟨rfl, rfl⟩
  by_cases hl : (p.vars.length : Int) ≥ 512
  · simp -implicitDefEqProofs only [↓pgPre,pgPost,aread,envOf,↓reduceIte,apeq,boolNeg,afa,aload,abin,aun,amn,amx,aext,aconv,abeq,anilc,RRead.still,REff.allocs,evParts,afill,astore,reduceCtorEq,aseq,cellsEq,cellEq,eq_self,if_true,if_false,chunks,aelems,elemsFit,forall_eq,abx,afld,seval,pgTree, hl]
    refine callT_of (awake_spec h) (fun v g ⟨hv, hg⟩ => ?_)
    subst v g
    simp -implicitDefEqProofs only [↓pgPre,pgPost,aread,envOf,↓reduceIte,apeq,boolNeg,afa,aload,abin,aun,amn,amx,aext,aconv,abeq,anilc,RRead.still,REff.allocs,evParts,afill,astore,reduceCtorEq,aseq,cellsEq,cellEq,eq_self,if_true,if_false,chunks,aelems,elemsFit,forall_eq,abx,afld,seval,pgTree]
    exact .same ⟨rfl, rfl⟩
  simp -implicitDefEqProofs only [↓pgPre,pgPost,aread,envOf,↓reduceIte,apeq,boolNeg,afa,aload,abin,aun,amn,amx,aext,aconv,abeq,anilc,RRead.still,REff.allocs,evParts,afill,astore,reduceCtorEq,aseq,cellsEq,cellEq,eq_self,if_true,if_false,chunks,aelems,elemsFit,forall_eq,abx,afld,seval,pgTree, hl]
  have hpl := tPrg_plain ht
  have hnl := nmP_len hpl
  have hsm := tPrg_small ht
  refine callT_of (Names_spec p ho hsm (by unfold roomy; omega) h) (fun v g ⟨hv, hg⟩ => ?_)
  subst v g
  simp -implicitDefEqProofs only [↓pgPre,pgPost,aread,envOf,↓reduceIte,apeq,boolNeg,afa,aload,abin,aun,amn,amx,aext,aconv,abeq,anilc,RRead.still,REff.allocs,evParts,afill,astore,reduceCtorEq,aseq,cellsEq,cellEq,eq_self,if_true,if_false,chunks,aelems,elemsFit,forall_eq,abx,afld,seval,pgTree]
  have hnm : (names p).length ≤ 1048576 := by
    have := once_len (nmP p) []
    simp at this; unfold names; omega
  refine callT_of (Among_spec h (names p) (by unfold few; omega) false zzz) (fun v g ⟨hv, hg⟩ => ?_)
  subst v g
  simp -implicitDefEqProofs only [↓pgPre,pgPost,aread,envOf,↓reduceIte,apeq,boolNeg,afa,aload,abin,aun,amn,amx,aext,aconv,abeq,anilc,RRead.still,REff.allocs,evParts,afill,astore,reduceCtorEq,aseq,cellsEq,cellEq,eq_self,if_true,if_false,chunks,aelems,elemsFit,forall_eq,abx,afld,seval,pgTree]
  cases hz : among zzz (names p)
  case true =>
    simp -implicitDefEqProofs only [↓pgPre,pgPost,aread,envOf,↓reduceIte,apeq,boolNeg,afa,aload,abin,aun,amn,amx,aext,aconv,abeq,anilc,RRead.still,REff.allocs,evParts,afill,astore,reduceCtorEq,aseq,cellsEq,cellEq,eq_self,if_true,if_false,chunks,aelems,elemsFit,forall_eq,abx,afld,seval,pgTree]
    refine callT_of (awake_spec h) (fun v g ⟨hv, hg⟩ => ?_)
    subst v g
    simp -implicitDefEqProofs only [↓pgPre,pgPost,aread,envOf,↓reduceIte,apeq,boolNeg,afa,aload,abin,aun,amn,amx,aext,aconv,abeq,anilc,RRead.still,REff.allocs,evParts,afill,astore,reduceCtorEq,aseq,cellsEq,cellEq,eq_self,if_true,if_false,chunks,aelems,elemsFit,forall_eq,abx,afld,seval,pgTree]
    exact .same ⟨rfl, rfl⟩
  have hin : inP notZ p := inP_told hpl fun m hm hmz => by
    subst hmz
    have : among zzz (names p) = true := by
      rw [among_iff]
      exact (once_mem _ _ _).2 (.inr ⟨hm, by decide⟩)
    rw [this] at hz; cases hz
  simp -implicitDefEqProofs only [↓pgPre,pgPost,aread,envOf,↓reduceIte,apeq,boolNeg,afa,aload,abin,aun,amn,amx,aext,aconv,abeq,anilc,RRead.still,REff.allocs,evParts,afill,astore,reduceCtorEq,aseq,cellsEq,cellEq,eq_self,if_true,if_false,chunks,aelems,elemsFit,forall_eq,abx,afld,seval,pgTree]
  delta F4.c5 F4.c6 F4.r4 F4.r3
  simp -implicitDefEqProofs only [↓pgPre,pgPost,aread,envOf,↓reduceIte,apeq,boolNeg,afa,aload,abin,aun,amn,amx,aext,aconv,abeq,anilc,RRead.still,REff.allocs,evParts,afill,astore,reduceCtorEq,aseq,cellsEq,cellEq,eq_self,if_true,if_false,chunks,aelems,elemsFit,forall_eq,abx,afld,seval,pgTree]
  refine callT_of (Check_spec h p ho) (fun v g ⟨hv, hg⟩ => ?_)
  subst v g
  simp -implicitDefEqProofs only [↓pgPre,pgPost,aread,envOf,↓reduceIte,apeq,boolNeg,afa,aload,abin,aun,amn,amx,aext,aconv,abeq,anilc,RRead.still,REff.allocs,evParts,afill,astore,reduceCtorEq,aseq,cellsEq,cellEq,eq_self,if_true,if_false,chunks,aelems,elemsFit,forall_eq,abx,afld,seval,pgTree]
  refine afreshT_intro fun b hb => ?_
  simp -implicitDefEqProofs only [↓pgPre,pgPost,aread,envOf,↓reduceIte,apeq,boolNeg,afa,aload,abin,aun,amn,amx,aext,aconv,abeq,anilc,RRead.still,REff.allocs,evParts,afill,astore,reduceCtorEq,aseq,cellsEq,cellEq,eq_self,if_true,if_false,chunks,aelems,elemsFit,forall_eq,abx,afld,seval,pgTree]
  delta F4.c7 F4.r5
  simp -implicitDefEqProofs only [↓pgPre,pgPost,aread,envOf,↓reduceIte,apeq,boolNeg,afa,aload,abin,aun,amn,amx,aext,aconv,abeq,anilc,RRead.still,REff.allocs,evParts,afill,astore,reduceCtorEq,aseq,cellsEq,cellEq,eq_self,if_true,if_false,chunks,aelems,elemsFit,forall_eq,abx,afld,seval,pgTree]
  refine ⟨by intro e he; obtain ⟨s, _, rfl⟩ := List.mem_map.1 he; exact eVar_len s, ?_⟩
  rw [upd_upd, splice_eq (by rw [ePrg_len]; rfl)]
  have hb2 : p.vars.length ≤ 511 := by omega
  refine (GL.nil (ty := 47) (size := 6) (h.upd b (.blk (ePrg p) 9 28))).append (new := p.vars.map eVar) (by simp) rfl (by intro e he; obtain ⟨s, _, rfl⟩ := List.mem_map.1 he; exact eVar_len s) (by unfold roomFor; simp; omega) (fun v1 h1 G1 => ?_)
  rw [List.nil_append] at G1
  simp -implicitDefEqProofs only [↓pgPre,pgPost,aread,envOf,↓reduceIte,apeq,boolNeg,afa,aload,abin,aun,amn,amx,aext,aconv,abeq,anilc,RRead.still,REff.allocs,evParts,afill,astore,reduceCtorEq,aseq,cellsEq,cellEq,eq_self,if_true,if_false,chunks,aelems,elemsFit,forall_eq,abx,afld,seval,pgTree]
  refine G1.append1 rfl (by unfold roomFor; simp; omega) (fun v2 h2 G2 => ?_)
  have hbk := G2.at (upd_same h b _)
  rw [ePrg_eq p] at hbk
  simp -implicitDefEqProofs only [↓pgPre,pgPost,aread,envOf,↓reduceIte,apeq,boolNeg,afa,aload,abin,aun,amn,amx,aext,aconv,abeq,anilc,RRead.still,REff.allocs,evParts,afill,astore,reduceCtorEq,aseq,cellsEq,cellEq,eq_self,if_true,if_false,chunks,aelems,elemsFit,forall_eq,abx,afld,seval,pgTree, G2.cells, hbk]
  delta F4.c8 F4.c9 F4.c12 F4.r9 F4.c10 F4.c11 F4.r8 F4.r7 F4.r6
  simp -implicitDefEqProofs only [↓pgPre,pgPost,aread,envOf,↓reduceIte,apeq,boolNeg,afa,aload,abin,aun,amn,amx,aext,aconv,abeq,anilc,RRead.still,REff.allocs,evParts,afill,astore,reduceCtorEq,aseq,cellsEq,cellEq,eq_self,if_true,if_false,chunks,aelems,elemsFit,forall_eq,abx,afld,seval,pgTree]
  have le : AVles [.agg [.str p.name, eTexts p.before, eTexts p.mid, eTexts p.after, .sl (p.recs.map eRec) false, v2, .sl (p.routines.map eRoutine) false, .sl (p.body.map eStmt) false, eTexts p.endd]] [.agg (ePrg (aloneP p))] := by
    refine .cons (.agg ?_) .nil
    rw [ePrg_eq (aloneP p)]
    refine .cons (.refl _) (.cons (.refl _) (.cons (.refl _) (.cons (.refl _) (.cons (.refl _) (.cons (G2.avle.trans ?_) (.cons (.refl _) (.cons (.refl _) (.cons (.refl _) .nil))))))))
    have e : (aloneP p).vars.map eVar = p.vars.map eVar ++ [eVar zVar] := by simp [aloneP]
    rw [e]
    refine AVle.rows (RowsLe.snoc (by rfl) ?_ _) false
    exact .cons (.sl _ _) (.cons (.sl _ _) (.cons (.refl _) (.cons (.refl _) (.cons (.refl _) (.cons (.refl _) .nil)))))
  refine callT_le (Check_spec _ (aloneP p) (aloneP_ok p ho (by omega))) le (fun v g ⟨hv, hg⟩ => ?_)
  subst v g
  have end_ : h.le (h2.upd b (.blk [.str p.name, eTexts p.before, eTexts p.mid, eTexts p.after, .sl (p.recs.map eRec) false, v2, .sl (p.routines.map eRoutine) false, .sl (p.body.map eStmt) false, eTexts p.endd] 9 28)) := by
    intro k o hk
    have hkb : k ≠ b := by intro hh; subst hh; rw [hb] at hk; cases hk
    rw [upd_ne _ _ _ hkb]
    exact G2.at (by rw [upd_ne _ _ _ hkb]; exact hk)
  have law := alone_law p hin hw
  have cnt := cntP_le p
  have hrv : p.recs.length + p.vars.length ≤ cntP p := by unfold cntP; omega
  have hwr : IntKind.i64.wrap ((p.recs.length : Int) + p.vars.length) = (p.recs.length : Int) + p.vars.length := wrap64 (by omega) (by omega)
  simp -implicitDefEqProofs only [↓pgPre,pgPost,aread,envOf,↓reduceIte,apeq,boolNeg,afa,aload,abin,aun,amn,amx,aext,aconv,abeq,anilc,RRead.still,REff.allocs,evParts,afill,astore,reduceCtorEq,aseq,cellsEq,cellEq,eq_self,if_true,if_false,chunks,aelems,elemsFit,forall_eq,abx,afld,seval,pgTree]
  by_cases h0 : (check p).2 = 0
  · have law' : check (aloneP p) = check p := by rw [law, h0]; simp; rw [← h0]
    simp -implicitDefEqProofs only [↓pgPre,pgPost,aread,envOf,↓reduceIte,apeq,boolNeg,afa,aload,abin,aun,amn,amx,aext,aconv,abeq,anilc,RRead.still,REff.allocs,evParts,afill,astore,reduceCtorEq,aseq,cellsEq,cellEq,eq_self,if_true,if_false,chunks,aelems,elemsFit,forall_eq,abx,afld,seval,pgTree, h0, law']
    refine callT_of (awake_spec _) (fun v g ⟨hv, hg⟩ => ?_)
    subst v g
    simp -implicitDefEqProofs only [↓pgPre,pgPost,aread,envOf,↓reduceIte,apeq,boolNeg,afa,aload,abin,aun,amn,amx,aext,aconv,abeq,anilc,RRead.still,REff.allocs,evParts,afill,astore,reduceCtorEq,aseq,cellsEq,cellEq,eq_self,if_true,if_false,chunks,aelems,elemsFit,forall_eq,abx,afld,seval,pgTree]
    exact .forget end_ ⟨rfl, rfl⟩
  · by_cases h1 : (check p).1 ≥ (p.recs.length : Int) + p.vars.length
    · have h1' : (p.recs.length : Int) + p.vars.length ≤ (check p).1 := h1
      have law' : check (aloneP p) = ((check p).1 + 1, (check p).2) := by rw [law]; simp [h0, h1']
      have hup := check_le p hw
      have hw1 : IntKind.i64.wrap ((check p).1 + 1) = (check p).1 + 1 := wrap64 (by omega) (by omega)
      simp -implicitDefEqProofs only [↓pgPre,pgPost,aread,envOf,↓reduceIte,apeq,boolNeg,afa,aload,abin,aun,amn,amx,aext,aconv,abeq,anilc,RRead.still,REff.allocs,evParts,afill,astore,reduceCtorEq,aseq,cellsEq,cellEq,eq_self,if_true,if_false,chunks,aelems,elemsFit,forall_eq,abx,afld,seval,pgTree, h0, hwr, h1, law', hw1]
      refine callT_of (awake_spec _) (fun v g ⟨hv, hg⟩ => ?_)
      subst v g
      simp -implicitDefEqProofs only [↓pgPre,pgPost,aread,envOf,↓reduceIte,apeq,boolNeg,afa,aload,abin,aun,amn,amx,aext,aconv,abeq,anilc,RRead.still,REff.allocs,evParts,afill,astore,reduceCtorEq,aseq,cellsEq,cellEq,eq_self,if_true,if_false,chunks,aelems,elemsFit,forall_eq,abx,afld,seval,pgTree]
      exact .forget end_ ⟨rfl, rfl⟩
    · have h1' : ¬ (p.recs.length : Int) + p.vars.length ≤ (check p).1 := h1
      have law' : check (aloneP p) = check p := by rw [law]; simp [h1']
      simp -implicitDefEqProofs only [↓pgPre,pgPost,aread,envOf,↓reduceIte,apeq,boolNeg,afa,aload,abin,aun,amn,amx,aext,aconv,abeq,anilc,RRead.still,REff.allocs,evParts,afill,astore,reduceCtorEq,aseq,cellsEq,cellEq,eq_self,if_true,if_false,chunks,aelems,elemsFit,forall_eq,abx,afld,seval,pgTree, h0, hwr, h1, law']
      refine callT_of (awake_spec _) (fun v g ⟨hv, hg⟩ => ?_)
      subst v g
      simp -implicitDefEqProofs only [↓pgPre,pgPost,aread,envOf,↓reduceIte,apeq,boolNeg,afa,aload,abin,aun,amn,amx,aext,aconv,abeq,anilc,RRead.still,REff.allocs,evParts,afill,astore,reduceCtorEq,aseq,cellsEq,cellEq,eq_self,if_true,if_false,chunks,aelems,elemsFit,forall_eq,abx,afld,seval,pgTree]
      exact .forget end_ ⟨rfl, rfl⟩
end Pg
