import Derived.Test.YtpebidcmkjjpnaaTreeS
import Derived.Test.YtpebidcmkjjpnaaNmX
import Derived.Test.YtpebidcmkjjpnaaItems
import Derived.Test.YtpebidcmkjjpnaaAwake
import Derived.Test.YtpebidcmkjjpnaaCount2
namespace Pg
open Go
set_option linter.unusedSimpArgs false
set_option linter.unusedVariables false
set_option maxHeartbeats 4000000
set_option maxRecDepth 4000

/-- Rows that say less, one by one. -/
def RowsLe : List (List AV) → List (List AV) → Prop
  | [], [] => True
  | a :: l, b :: m => a.length = b.length ∧ AVles a b ∧ RowsLe l m
  | _, _ => False
theorem RowsLe.refl : ∀ l, RowsLe l l
  | [] => trivial
  | a :: l => ⟨rfl, .refl _, RowsLe.refl l⟩
theorem RowsLe.snoc {a b : List AV} (h : a.length = b.length) (k : AVles a b) : ∀ l, RowsLe (l ++ [a]) (l ++ [b])
  | [] => ⟨h, k, trivial⟩
  | x :: l => ⟨rfl, .refl _, RowsLe.snoc h k l⟩
theorem RowsLe.len : ∀ {l m : List (List AV)}, RowsLe l m → l.length = m.length
  | [], [], _ => rfl
  | _ :: _, _ :: _, h => by simp [RowsLe.len h.2.2]
  | [], _ :: _, h => h.elim
  | _ :: _, [], h => h.elim
theorem RowsLe.at : ∀ {l m : List (List AV)}, RowsLe l m → ∀ {i : Nat} {b : List AV}, m[i]? = some b → ∃ a, l[i]? = some a ∧ a.length = b.length ∧ AVles a b
  | [], [], _, i, b, e => by simp at e
  | a :: l, c :: m, h, 0, b, e => by simp at e; subst e; exact ⟨a, rfl, h.1, h.2.1⟩
  | a :: l, c :: m, h, i + 1, b, e => by simp at e; obtain ⟨x, x1, x2⟩ := RowsLe.at h.2.2 e; exact ⟨x, by simpa using x1, x2⟩
  | [], _ :: _, h, _, _, _ => h.elim
  | _ :: _, [], h, _, _, _ => h.elim
theorem AVle.rows {l m : List (List AV)} (h : RowsLe l m) (f : Bool) : AVle (.sl l f) (.sl m false) := by
  intro I v r
  obtain ⟨a, cap, rfl, h1, h2, h3, h4, h5⟩ := r.inv_sl
  have hl := h.len
  rcases h5 with rfl | ⟨b, o, size, vss, rfl, R⟩
  · cases m with
    | nil => exact r.sl_open
    | cons _ _ => exact h.elim
  · have : Rd I (.sl m false) (.slice (some ⟨b, o, none⟩) m.length cap) := by
      refine Rd.of_rows (es := m) (vss := vss) false (by omega) (fun h => by cases h) ⟨by rw [← R.len, hl], ?_, R.mem, R.one, ?_⟩
      · intro i e vs e1 e2
        obtain ⟨x, x1, x2, x3⟩ := h.at e1
        have := R.size_ i x vs x1 e2
        exact ⟨by rw [← x2]; exact this.1, this.2⟩
      · intro i e vs j c v e1 e2 e3 e4
        obtain ⟨x, x1, x2, x3⟩ := h.at e1
        have hs := R.size_ i x vs x1 e2
        exact (x3 I vs ⟨by rw [hs.1, hs.2], fun j c v q1 q2 => R.rd i x vs j c v x1 e2 q1 q2⟩).at_ j c v e3 e4
    rw [hl]; exact this
theorem moreP_ok (p : Prg) (ho : p.ok) (hl : p.body.length ≤ 512) : (moreP p).ok := by
  refine ⟨ho.before, ho.mid, ho.after, ho.recs, ho.eachRec, ho.vars, ho.eachVar, ho.routines, ho.eachRoutine, ?_, ?_, ho.endd⟩
  · unfold few moreP; simp; omega
  · intro s hs
    rcases List.mem_append.1 hs with hs | hs
    · exact ho.eachStmt s hs
    · simp only [List.mem_singleton] at hs
      subst hs
      exact (Stmt.ok_iff _).2 ⟨few_nil, few_nil, leaf_ok _ _ _ _, few_one _, by intro y hy; simp only [badRet, List.mem_singleton] at hy; subst hy; exact leaf_ok _ _ _ _, few_nil, by simp [badRet], few_nil, by simp [badRet], few_nil, few_nil⟩
theorem splice_eq {α : Type} {l m : List α} (h : l.length = m.length) : splice l 0 m = m := by
  unfold splice; rw [← h]; simp
theorem CheckMore_spec (h : AHeap) (p : Prg) (ho : p.ok) (hf : p.fit) : ACalls Go.Proofs.Try.prog 6 [.agg (ePrg p)] h (fun v g => v = .bool true ∧ g = h) := by
  refine F6.calls (by simp) ?_
  delta F6.c0 F6.c1 F6.c2 F6.c3 F6.c4 F6.r2 F6.r1 F6.r0
  simp -implicitDefEqProofs only [↓pgPre,pgPost,aread,envOf,↓reduceIte,apeq,boolNeg,afa,aload,abin,aun,amn,amx,aext,aconv,abeq,anilc,RRead.still,REff.allocs,evParts,afill,astore,reduceCtorEq,aseq,cellsEq,cellEq,eq_self,if_true,if_false,chunks,aelems,elemsFit,forall_eq,abx,afld,seval,pgTree]
  refine callT_of (tPrg_spec p ho hf h) (fun v g ⟨hv, hg⟩ => ?_)
  subst v g
  cases ht : tPrg p
  · simp -implicitDefEqProofs only [↓pgPre,pgPost,aread,envOf,↓reduceIte,apeq,boolNeg,afa,aload,abin,aun,amn,amx,aext,aconv,abeq,anilc,RRead.still,REff.allocs,evParts,afill,astore,reduceCtorEq,aseq,cellsEq,cellEq,eq_self,if_true,if_false,chunks,aelems,elemsFit,forall_eq,abx,afld,seval,pgTree]
    refine callT_of (awake_spec h) (fun v g ⟨hv, hg⟩ => ?_)
    subst v g
    simp -implicitDefEqProofs only [↓pgPre,pgPost,aread,envOf,↓reduceIte,apeq,boolNeg,afa,aload,abin,aun,amn,amx,aext,aconv,abeq,anilc,RRead.still,REff.allocs,evParts,afill,astore,reduceCtorEq,aseq,cellsEq,cellEq,eq_self,if_true,if_false,chunks,aelems,elemsFit,forall_eq,abx,afld,seval,pgTree]
    exact .same ⟨rfl, rfl⟩
  by_cases hl : (p.body.length : Int) ≥ 512
  · simp -implicitDefEqProofs only [↓pgPre,pgPost,aread,envOf,↓reduceIte,apeq,boolNeg,afa,aload,abin,aun,amn,amx,aext,aconv,abeq,anilc,RRead.still,REff.allocs,evParts,afill,astore,reduceCtorEq,aseq,cellsEq,cellEq,eq_self,if_true,if_false,chunks,aelems,elemsFit,forall_eq,abx,afld,seval,pgTree, hl]
    refine callT_of (awake_spec h) (fun v g ⟨hv, hg⟩ => ?_)
    subst v g
    simp -implicitDefEqProofs only [↓pgPre,pgPost,aread,envOf,↓reduceIte,apeq,boolNeg,afa,aload,abin,aun,amn,amx,aext,aconv,abeq,anilc,RRead.still,REff.allocs,evParts,afill,astore,reduceCtorEq,aseq,cellsEq,cellEq,eq_self,if_true,if_false,chunks,aelems,elemsFit,forall_eq,abx,afld,seval,pgTree]
    exact .same ⟨rfl, rfl⟩
  simp -implicitDefEqProofs only [↓pgPre,pgPost,aread,envOf,↓reduceIte,apeq,boolNeg,afa,aload,abin,aun,amn,amx,aext,aconv,abeq,anilc,RRead.still,REff.allocs,evParts,afill,astore,reduceCtorEq,aseq,cellsEq,cellEq,eq_self,if_true,if_false,chunks,aelems,elemsFit,forall_eq,abx,afld,seval,pgTree, hl]
  delta F6.c5 F6.c6 F6.r4 F6.r3
  simp -implicitDefEqProofs only [↓pgPre,pgPost,aread,envOf,↓reduceIte,apeq,boolNeg,afa,aload,abin,aun,amn,amx,aext,aconv,abeq,anilc,RRead.still,REff.allocs,evParts,afill,astore,reduceCtorEq,aseq,cellsEq,cellEq,eq_self,if_true,if_false,chunks,aelems,elemsFit,forall_eq,abx,afld,seval,pgTree]
  refine callT_of (Check_spec h p ho) (fun v g ⟨hv, hg⟩ => ?_)
  subst v g
  simp -implicitDefEqProofs only [↓pgPre,pgPost,aread,envOf,↓reduceIte,apeq,boolNeg,afa,aload,abin,aun,amn,amx,aext,aconv,abeq,anilc,RRead.still,REff.allocs,evParts,afill,astore,reduceCtorEq,aseq,cellsEq,cellEq,eq_self,if_true,if_false,chunks,aelems,elemsFit,forall_eq,abx,afld,seval,pgTree]
  refine afreshT_intro fun b hb => ?_
  simp -implicitDefEqProofs only [↓pgPre,pgPost,aread,envOf,↓reduceIte,apeq,boolNeg,afa,aload,abin,aun,amn,amx,aext,aconv,abeq,anilc,RRead.still,REff.allocs,evParts,afill,astore,reduceCtorEq,aseq,cellsEq,cellEq,eq_self,if_true,if_false,chunks,aelems,elemsFit,forall_eq,abx,afld,seval,pgTree]
  delta F6.c7 F6.r5
  simp -implicitDefEqProofs only [↓pgPre,pgPost,aread,envOf,↓reduceIte,apeq,boolNeg,afa,aload,abin,aun,amn,amx,aext,aconv,abeq,anilc,RRead.still,REff.allocs,evParts,afill,astore,reduceCtorEq,aseq,cellsEq,cellEq,eq_self,if_true,if_false,chunks,aelems,elemsFit,forall_eq,abx,afld,seval,pgTree]
  refine ⟨by intro e he; obtain ⟨s, _, rfl⟩ := List.mem_map.1 he; exact eStmt_len s, ?_⟩
  rw [upd_upd, splice_eq (by rw [ePrg_len]; rfl)]
  have hb2 : p.body.length ≤ 511 := by omega
  refine (GL.nil (ty := 55) (size := 16) (h.upd b (.blk (ePrg p) 9 28))).append (new := p.body.map eStmt) (by simp) rfl (by intro e he; obtain ⟨s, _, rfl⟩ := List.mem_map.1 he; exact eStmt_len s) (by unfold roomFor; simp; omega) (fun v1 h1 G1 => ?_)
  rw [List.nil_append] at G1
  simp -implicitDefEqProofs only [↓pgPre,pgPost,aread,envOf,↓reduceIte,apeq,boolNeg,afa,aload,abin,aun,amn,amx,aext,aconv,abeq,anilc,RRead.still,REff.allocs,evParts,afill,astore,reduceCtorEq,aseq,cellsEq,cellEq,eq_self,if_true,if_false,chunks,aelems,elemsFit,forall_eq,abx,afld,seval,pgTree]
  refine G1.append1 rfl (by unfold roomFor; simp; omega) (fun v2 h2 G2 => ?_)
  have hbk := G2.at (upd_same h b _)
  have hcl : (ePrg p) = [.str p.name, eTexts p.before, eTexts p.mid, eTexts p.after, .sl (p.recs.map eRec) false, .sl (p.vars.map eVar) false, .sl (p.routines.map eRoutine) false, .sl (p.body.map eStmt) false, eTexts p.endd] := ePrg_eq p
  rw [hcl] at hbk
  simp -implicitDefEqProofs only [↓pgPre,pgPost,aread,envOf,↓reduceIte,apeq,boolNeg,afa,aload,abin,aun,amn,amx,aext,aconv,abeq,anilc,RRead.still,REff.allocs,evParts,afill,astore,reduceCtorEq,aseq,cellsEq,cellEq,eq_self,if_true,if_false,chunks,aelems,elemsFit,forall_eq,abx,afld,seval,pgTree, G2.cells, hbk]
  delta F6.c8 F6.c9 F6.c13 F6.r9 F6.c10 F6.c11 F6.c12 F6.r8 F6.r7 F6.r6
  simp -implicitDefEqProofs only [↓pgPre,pgPost,aread,envOf,↓reduceIte,apeq,boolNeg,afa,aload,abin,aun,amn,amx,aext,aconv,abeq,anilc,RRead.still,REff.allocs,evParts,afill,astore,reduceCtorEq,aseq,cellsEq,cellEq,eq_self,if_true,if_false,chunks,aelems,elemsFit,forall_eq,abx,afld,seval,pgTree]
  have le : AVles [.agg [.str p.name, eTexts p.before, eTexts p.mid, eTexts p.after, .sl (p.recs.map eRec) false, .sl (p.vars.map eVar) false, .sl (p.routines.map eRoutine) false, v2, eTexts p.endd]] [.agg (ePrg (moreP p))] := by
    refine .cons (.agg ?_) .nil
    rw [ePrg_eq (moreP p)]
    refine .cons (.refl _) (.cons (.refl _) (.cons (.refl _) (.cons (.refl _) (.cons (.refl _) (.cons (.refl _) (.cons (.refl _) (.cons (G2.avle.trans ?_) (.cons (.refl _) .nil))))))))
    have e : (moreP p).body.map eStmt = p.body.map eStmt ++ [eStmt badRet] := by simp [moreP]
    rw [e]
    refine AVle.rows (RowsLe.snoc (by rw [eStmt_len]; rfl) ?_ _) false
    rw [eStmt_eq]
    refine .cons (.sl _ _) (.cons (.sl _ _) (.cons (.refl _) (.cons (.refl _) (.cons (.refl _) (.cons (.refl _) (.cons (.refl _) (.cons (.refl _) (.cons (.sl _ _) (.cons ?_ (.cons (.refl _) (.cons (.refl _) (.cons (.sl _ _) (.cons (.sl _ _) (.cons (.sl _ _) (.cons (.sl _ _) .nil)))))))))))))))
    have he : RowsLe [[.int .i64 1, .int .i64 0, .str ⟨#[]⟩, .str ⟨#[]⟩, .sl [] true]] (badRet.e.map eExpr) := by
      refine ⟨rfl, ?_, trivial⟩
      rw [eExpr_eq]
      exact .cons (.refl _) (.cons (.refl _) (.cons (.refl _) (.cons (.refl _) (.cons (.sl _ _) .nil))))
    exact AVle.rows he true
  refine callT_le (Check_spec _ (moreP p) (moreP_ok p ho (by omega))) le (fun v g ⟨hv, hg⟩ => ?_)
  subst v g
  simp -implicitDefEqProofs only [↓pgPre,pgPost,aread,envOf,↓reduceIte,apeq,boolNeg,afa,aload,abin,aun,amn,amx,aext,aconv,abeq,anilc,RRead.still,REff.allocs,evParts,afill,astore,reduceCtorEq,aseq,cellsEq,cellEq,eq_self,if_true,if_false,chunks,aelems,elemsFit,forall_eq,abx,afld,seval,pgTree]
  have end_ : h.le (h2.upd b (.blk [.str p.name, eTexts p.before, eTexts p.mid, eTexts p.after, .sl (p.recs.map eRec) false, .sl (p.vars.map eVar) false, .sl (p.routines.map eRoutine) false, v2, eTexts p.endd] 9 28)) := by
    intro k o hk
    have hkb : k ≠ b := by intro hh; subst hh; rw [hb] at hk; cases hk
    rw [upd_ne _ _ _ hkb]
    exact G2.at (by rw [upd_ne _ _ _ hkb]; exact hk)
  have law := more_law p
  by_cases h0 : (check p).2 = 0
  · rw [if_pos h0] at law
    rw [law]
    simp -implicitDefEqProofs only [↓pgPre,pgPost,aread,envOf,↓reduceIte,apeq,boolNeg,afa,aload,abin,aun,amn,amx,aext,aconv,abeq,anilc,RRead.still,REff.allocs,evParts,afill,astore,reduceCtorEq,aseq,cellsEq,cellEq,eq_self,if_true,if_false,chunks,aelems,elemsFit,forall_eq,abx,afld,seval,pgTree, h0]
    refine callT_of (Count_spec p ho _) (fun v g ⟨hv, hg⟩ => ?_)
    subst v g
    simp -implicitDefEqProofs only [↓pgPre,pgPost,aread,envOf,↓reduceIte,apeq,boolNeg,afa,aload,abin,aun,amn,amx,aext,aconv,abeq,anilc,RRead.still,REff.allocs,evParts,afill,astore,reduceCtorEq,aseq,cellsEq,cellEq,eq_self,if_true,if_false,chunks,aelems,elemsFit,forall_eq,abx,afld,seval,pgTree]
    refine callT_of (awake_spec _) (fun v g ⟨hv, hg⟩ => ?_)
    subst v g
    simp -implicitDefEqProofs only [↓pgPre,pgPost,aread,envOf,↓reduceIte,apeq,boolNeg,afa,aload,abin,aun,amn,amx,aext,aconv,abeq,anilc,RRead.still,REff.allocs,evParts,afill,astore,reduceCtorEq,aseq,cellsEq,cellEq,eq_self,if_true,if_false,chunks,aelems,elemsFit,forall_eq,abx,afld,seval,pgTree]
    exact .forget end_ ⟨rfl, rfl⟩
  · rw [if_neg h0] at law
    rw [law]
    simp -implicitDefEqProofs only [↓pgPre,pgPost,aread,envOf,↓reduceIte,apeq,boolNeg,afa,aload,abin,aun,amn,amx,aext,aconv,abeq,anilc,RRead.still,REff.allocs,evParts,afill,astore,reduceCtorEq,aseq,cellsEq,cellEq,eq_self,if_true,if_false,chunks,aelems,elemsFit,forall_eq,abx,afld,seval,pgTree, h0]
    refine callT_of (awake_spec _) (fun v g ⟨hv, hg⟩ => ?_)
    subst v g
    simp -implicitDefEqProofs only [↓pgPre,pgPost,aread,envOf,↓reduceIte,apeq,boolNeg,afa,aload,abin,aun,amn,amx,aext,aconv,abeq,anilc,RRead.still,REff.allocs,evParts,afill,astore,reduceCtorEq,aseq,cellsEq,cellEq,eq_self,if_true,if_false,chunks,aelems,elemsFit,forall_eq,abx,afld,seval,pgTree]
    exact .forget end_ ⟨rfl, rfl⟩
end Pg
