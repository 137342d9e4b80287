import Derived.Test.YtpebidcmkjjpnaaTreeS
import Derived.Test.YtpebidcmkjjpnaaRw1
namespace Pg
open Go
set_option linter.unusedSimpArgs false
set_option linter.unusedVariables false
set_option maxHeartbeats 4000000
set_option maxRecDepth 4000
theorem eVar_eq (v : Var) : eVar v = [eTexts v.before, eTexts v.trail, .str v.name, .int .i64 v.t.kind, .int .i64 v.t.size, .str v.t.name] := rfl
theorem turnVars_spec {by_ : List Pair} (hb : ByOk by_) (full : Bool) (l : List Var) (hl : few l) (hs : ∀ v ∈ l, inVar soft v) (hw : l.length ≤ 1099511627776) (f2 : Bool) (h : AHeap) :
    ACalls Go.Proofs.Try.prog 50 [.sl (l.map eVar) f2, .sl (by_.map ePair) full] h (fun v g => v = .sl ((l.map (rnVar (turn by_))).map eVar) false ∧ g = h) := by
  refine F50.calls (by simp) ?_
  delta F50.c0 F50.c1 F50.c2 F50.c14 F50.r9 F50.c3 F50.c4 F50.c5 F50.c6 F50.c9 F50.r8 F50.c10 F50.c11 F50.c12 F50.c13 F50.r7 F50.r6 F50.r5 F50.r4 F50.c7 F50.c8 F50.r3 F50.r2 F50.r1 F50.r0
  simp -implicitDefEqProofs only [↓pgPre,go_sem,↓reduceIte,reduceCtorEq,seval]
  refine lT_list l (fun pre post e g => ∃ v, GL 47 6 h g v ((pre.map (rnVar (turn by_))).map eVar) ∧ e = [(0, .sl (l.map eVar) f2), (1, .sl (by_.map ePair) full), (5, v), (6, .int .i64 pre.length)]) (WeakE.env ?_) ⟨.sl [] true, .nil h, rfl⟩ ?_ ?_
  · skip
    repeat' (first | exact EnvLe.nil _ | refine EnvLe.cons ?_ ?_)
    all_goals (simp -implicitDefEqProofs only [↓pgPre,go_sem,↓reduceIte,reduceCtorEq,seval]; try first | exact AVle.refl _ | exact AVle.sl _ _ | exact AVle.gs _ _ _ | assumption)
  · rintro pre x post e g hp ⟨v, G, rfl⟩
    have hx := hs x (mem_at hp)
    have hpl := (at_pre hp).2
    simp -implicitDefEqProofs only [↓pgPre,go_sem,↓reduceIte,reduceCtorEq,seval, lt_at hp, aia_sl (map_at hp) (eVar_len x)]
    refine afreshT_intro fun b hbk => ?_
    simp -implicitDefEqProofs only [↓pgPre,go_sem,↓reduceIte,reduceCtorEq,seval, eVar_eq x]
    refine callT_of (Turned_spec _ x.name hx.1.1 hx.1.2 by_ hb.few hb.small full) (fun v' g' ⟨hv, hg⟩ => ?_)
    subst v' g'
    simp -implicitDefEqProofs only [↓pgPre,go_sem,↓reduceIte,reduceCtorEq,seval]
    refine callT_of (Turned_spec _ x.t.name hx.2.1 hx.2.2 by_ hb.few hb.small full) (fun v' g' ⟨hv, hg⟩ => ?_)
    subst v' g'
    simp -implicitDefEqProofs only [↓pgPre,go_sem,↓reduceIte,reduceCtorEq,seval, upd_upd]
    refine (G.fresh hbk _).append1 (xs := eVar (rnVar (turn by_) x)) (bytes := 96) rfl (by unfold roomFor; simp; omega) (fun v' g' G' => ?_)
    simp -implicitDefEqProofs only [↓pgPre,go_sem,↓reduceIte,reduceCtorEq,seval]
    obtain ⟨h3, G3, le3⟩ := G'.rebase (h0 := h) (AHeap.le_upd (by
      cases hh : h b with
      | none => rfl
      | some o => rw [G.at hh] at hbk; cases hbk))
    refine ⟨_, h3, WeakE.of ?_ (.of_le le3), v', ?_, rfl⟩
    · skip
      repeat' (first | exact EnvLe.nil _ | refine EnvLe.cons ?_ ?_)
      all_goals (simp -implicitDefEqProofs only [↓pgPre,go_sem,↓reduceIte,reduceCtorEq,seval, step_at hl hp]; try first | exact AVle.refl _ | exact AVle.sl _ _ | exact AVle.gs _ _ _ | assumption)
    · simpa using G3
  · rintro e g ⟨v, G, rfl⟩
    simp -implicitDefEqProofs only [↓pgPre,go_sem,↓reduceIte,reduceCtorEq,seval, lt_end]
    refine lessQ.same ?_
    simp -implicitDefEqProofs only [↓pgPre,go_sem,↓reduceIte,reduceCtorEq,seval]
    exact G.endW ⟨rfl, rfl⟩
theorem none_le {h g : AHeap} (le : h.le g) {b : Nat} (hb : g b = none) : h b = none := by
  cases hh : h b with
  | none => rfl
  | some o => rw [le b o hh] at hb; cases hb
theorem wSs_len : ∀ l : List Stmt, l.length ≤ wSs l
  | [] => by simp [wSs]
  | x :: r => by
    have := wSs_len r
    have := wS_eq x
    simp only [wSs, List.length_cons]; omega
theorem wSs_mem {l : List Stmt} {x : Stmt} (h : x ∈ l) : wS x ≤ wSs l := by
  induction l with
  | nil => cases h
  | cons y r ih =>
    simp only [wSs]
    rcases List.mem_cons.1 h with rfl | h
    · omega
    · have := ih h; omega
theorem turnStmts_spec {by_ : List Pair} (hb : ByOk by_) (full : Bool) : ∀ (n : Nat) (l : List Stmt), Stmts.sz l ≤ n → few l → (∀ x ∈ l, x.ok) → inSs soft l → wSs l ≤ 274877906944 → ∀ (f2 : Bool) (h : AHeap),
    ACalls Go.Proofs.Try.prog 52 [.sl (l.map eStmt) f2, .sl (by_.map ePair) full] h (fun v g => v = .sl ((rnSs (turn by_) l).map eStmt) false ∧ g = h) := by
  intro n
  induction n with
  | zero =>
    intro l hn hl ho hs hw f2 h
    cases l with
    | cons x r => simp [Stmts.sz] at hn
    | nil =>
      refine F52.calls (by simp) ?_
      delta F52.c0 F52.c1 F52.c2 F52.c27 F52.r17 F52.c3 F52.c4 F52.c5 F52.c6 F52.c9 F52.r16 F52.c10 F52.c11 F52.c12 F52.c13 F52.c14 F52.c15 F52.c24 F52.c25 F52.c26 F52.r15 F52.r14 F52.r13 F52.r12 F52.c16 F52.c17 F52.c18 F52.c19 F52.c22 F52.r11 F52.c23 F52.r10 F52.c20 F52.c21 F52.r9 F52.r8 F52.r7 F52.r6 F52.r5 F52.r4 F52.c7 F52.c8 F52.r3 F52.r2 F52.r1 F52.r0
      simp -implicitDefEqProofs only [↓pgPre,go_sem,↓reduceIte,reduceCtorEq,seval]
      refine lT_round ?_
      simp -implicitDefEqProofs only [↓pgPre,go_sem,↓reduceIte,reduceCtorEq,seval]
      exact (GL.nil (ty := 55) (size := 16) h).endW ⟨rfl, rfl⟩
  | succ n ih =>
    intro l hn hl ho hs hw f2 h
    refine F52.calls (by simp) ?_
    delta F52.c0 F52.c1 F52.c2 F52.c27 F52.r17 F52.c3 F52.c4 F52.c5 F52.c6 F52.c9 F52.r16 F52.c10 F52.c11 F52.c12 F52.c13 F52.c14 F52.c15 F52.c24 F52.c25 F52.c26 F52.r15 F52.r14 F52.r13 F52.r12 F52.c16 F52.c17 F52.c18 F52.c19 F52.c22 F52.r11 F52.c23 F52.r10 F52.c20 F52.c21 F52.r9 F52.r8 F52.r7 F52.r6 F52.r5 F52.r4 F52.c7 F52.c8 F52.r3 F52.r2 F52.r1 F52.r0
    simp -implicitDefEqProofs only [↓pgPre,go_sem,↓reduceIte,reduceCtorEq,seval]
    refine lT_list l (fun pre post e g => ∃ v, GL 55 16 h g v ((pre.map (rnS (turn by_))).map eStmt) ∧ e = [(0, .sl (l.map eStmt) f2), (1, .sl (by_.map ePair) full), (5, v), (6, .int .i64 pre.length)]) (WeakE.env ?_) ⟨.sl [] true, .nil h, rfl⟩ ?_ ?_
    · skip
      repeat' (first | exact EnvLe.nil _ | refine EnvLe.cons ?_ ?_)
      all_goals (simp -implicitDefEqProofs only [↓pgPre,go_sem,↓reduceIte,reduceCtorEq,seval]; try first | exact AVle.refl _ | exact AVle.sl _ _ | exact AVle.gs _ _ _ | assumption)
    · rintro pre x post e g hp ⟨v, G, rfl⟩
      have hx := mem_at hp
      have hxz := Stmts.sz_mem hx
      have hxw := wSs_mem hx
      have hz := Stmt.sz_eq x
      have hwx := wS_eq x
      have hpl := (at_pre hp).2
      have hlw := wSs_len l
      have hel := turnE_room x.e
      obtain ⟨i1, i2, i3, i4, i5⟩ := (inS_eq soft x).1 (inSs_mem hs x hx)
      have hok := (Stmt.ok_iff x).1 (ho x hx)
      simp -implicitDefEqProofs only [↓pgPre,go_sem,↓reduceIte,reduceCtorEq,seval, lt_at hp, aia_sl (map_at hp) (eStmt_len x)]
      refine afreshT_intro fun b hbk => ?_
      simp -implicitDefEqProofs only [↓pgPre,go_sem,↓reduceIte,reduceCtorEq,seval, eStmt_eq x]
      refine callT_of (Turned_spec _ x.name i1.1 i1.2 by_ hb.few hb.small full) (fun v' g' ⟨hv, hg⟩ => ?_)
      subst v' g'
      simp -implicitDefEqProofs only [↓pgPre,go_sem,↓reduceIte,reduceCtorEq,seval]
      have hP := turnExpr_spec hb full _ x.p (Nat.le_refl _) hok.2.2.1 i2 (by omega)
      rw [eExpr_eq x.p] at hP
      refine callT_of (hP _) (fun v' g' ⟨hv, hg⟩ => ?_)
      subst v' g'
      simp -implicitDefEqProofs only [↓pgPre,go_sem,↓reduceIte,reduceCtorEq,seval, upd_upd, eExpr_eq (rnE (turn by_) x.p)]
      generalize hB : (AHeap.upd g b _) = B
      have hBb : B b = some (.blk [eTexts x.before, eTexts x.trail, .int .i64 x.op, .str (turn by_ x.name), .int .i64 (rnE (turn by_) x.p).op, .int .i64 (rnE (turn by_) x.p).n, .str (rnE (turn by_) x.p).name, .str (rnE (turn by_) x.p).field, .sl ((rnE (turn by_) x.p).l.map eExpr) false, .sl (x.e.map eExpr) false, .bool x.down, .bool x.more, .sl (x.body.map eStmt) false, .sl (x.els.map eStmt) false, eTexts x.end1, eTexts x.end2] 16 55) := by rw [← hB, upd_same]
      refine lT_list x.e (fun pre' post' e k => ∃ ve, GL 53 5 B k ve ((pre'.map (rnE (turn by_))).map eExpr) ∧ e = [(0, .sl (l.map eStmt) f2), (1, .sl (by_.map ePair) full), (5, v), (6, .int .i64 pre.length), (7, .ptr (some ⟨b, 0, none⟩)), (8, ve), (9, .int .i64 pre'.length)]) (WeakE.env ?_) ⟨.sl [] true, .nil B, rfl⟩ ?_ ?_
      · skip
        repeat' (first | exact EnvLe.nil _ | refine EnvLe.cons ?_ ?_)
        all_goals (simp -implicitDefEqProofs only [↓pgPre,go_sem,↓reduceIte,reduceCtorEq,seval]; try first | exact AVle.refl _ | exact AVle.sl _ _ | exact AVle.gs _ _ _ | assumption)
      · rintro pre' y post' e k hp' ⟨ve, E, rfl⟩
        have hy := mem_at hp'
        have hyw := wEs_mem hy
        have hpl' := (at_pre hp').2
        have hkb := E.at hBb
        simp -implicitDefEqProofs only [↓pgPre,go_sem,↓reduceIte,reduceCtorEq,seval, hkb, lt_at hp', aia_sl (map_at hp') (eExpr_len y)]
        refine callT_of (turnExpr_spec hb full _ y (Nat.le_refl _) (hok.2.2.2.2.1 y hy) (inEs_mem i3 y hy) (by omega) k) (fun v' g' ⟨hv, hg⟩ => ?_)
        subst v' g'
        simp -implicitDefEqProofs only [↓pgPre,go_sem,↓reduceIte,reduceCtorEq,seval, splice_same, expr_take]
        refine E.append1 (xs := eExpr (rnE (turn by_) y)) (bytes := 72) (eExpr_len _) (by unfold roomFor; simp; omega) (fun v' g' E' => ?_)
        simp -implicitDefEqProofs only [↓pgPre,go_sem,↓reduceIte,reduceCtorEq,seval]
        refine ⟨_, _, WeakE.env ?_, v', ?_, rfl⟩
        · skip
          repeat' (first | exact EnvLe.nil _ | refine EnvLe.cons ?_ ?_)
          all_goals (simp -implicitDefEqProofs only [↓pgPre,go_sem,↓reduceIte,reduceCtorEq,seval, step_at hok.2.2.2.1 hp']; try first | exact AVle.refl _ | exact AVle.sl _ _ | exact AVle.gs _ _ _ | assumption)
        · simpa using E'
      · rintro e k ⟨ve, E, rfl⟩
        have hkb := E.at hBb
        simp -implicitDefEqProofs only [↓pgPre,go_sem,↓reduceIte,reduceCtorEq,seval, hkb, lt_end]
        refine lessQ.to (e' := [(0, .sl (l.map eStmt) f2), (1, .sl (by_.map ePair) full), (5, v), (6, .int .i64 pre.length), (7, .ptr (some ⟨b, 0, none⟩)), (8, .sl ((x.e.map (rnE (turn by_))).map eExpr) false)]) (g := B) (WeakE.of ?_ (.of_le E.le)) ?_
        · skip
          repeat' (first | exact EnvLe.nil _ | refine EnvLe.cons ?_ ?_)
          all_goals (simp -implicitDefEqProofs only [↓pgPre,go_sem,↓reduceIte,reduceCtorEq,seval]; try first | exact AVle.refl _ | exact AVle.sl _ _ | exact AVle.gs _ _ _ | assumption)
          exact E.avle
        simp -implicitDefEqProofs only [↓pgPre,go_sem,↓reduceIte,reduceCtorEq,seval, hBb]
        refine callT_of (ih x.body (by omega) hok.2.2.2.2.2.1 hok.2.2.2.2.2.2.1 i4 (by omega) false _) (fun v' g' ⟨hv, hg⟩ => ?_)
        subst v' g'
        simp -implicitDefEqProofs only [↓pgPre,go_sem,↓reduceIte,reduceCtorEq,seval]
        refine callT_of (ih x.els (by omega) hok.2.2.2.2.2.2.2.1 hok.2.2.2.2.2.2.2.2.1 i5 (by omega) false _) (fun v' g' ⟨hv, hg⟩ => ?_)
        subst v' g'
        simp -implicitDefEqProofs only [↓pgPre,go_sem,↓reduceIte,reduceCtorEq,seval, upd_upd]
        rw [← hB, upd_upd]
        have hrow : eStmt (rnS (turn by_) x) = [eTexts x.before, eTexts x.trail, .int .i64 x.op, .str (turn by_ x.name), .int .i64 (rnE (turn by_) x.p).op, .int .i64 (rnE (turn by_) x.p).n, .str (rnE (turn by_) x.p).name, .str (rnE (turn by_) x.p).field, .sl ((rnE (turn by_) x.p).l.map eExpr) false, .sl ((x.e.map (rnE (turn by_))).map eExpr) false, .bool x.down, .bool x.more, .sl ((rnSs (turn by_) x.body).map eStmt) false, .sl ((rnSs (turn by_) x.els).map eStmt) false, eTexts x.end1, eTexts x.end2] := by
          rw [eStmt_eq, rnS_eq, ← rnEs_map]
        rw [← hrow]
        refine (G.fresh hbk _).append1 (xs := eStmt (rnS (turn by_) x)) (bytes := 272) (eStmt_len _) (by unfold roomFor; simp; omega) (fun v' g' G' => ?_)
        simp -implicitDefEqProofs only [↓pgPre,go_sem,↓reduceIte,reduceCtorEq,seval]
        obtain ⟨h3, G3, le3⟩ := G'.rebase (h0 := h) (AHeap.le_upd (none_le G.le hbk))
        refine ⟨_, h3, WeakE.of ?_ (.of_le le3), v', ?_, rfl⟩
        · skip
          repeat' (first | exact EnvLe.nil _ | refine EnvLe.cons ?_ ?_)
          all_goals (simp -implicitDefEqProofs only [↓pgPre,go_sem,↓reduceIte,reduceCtorEq,seval, step_at hl hp]; try first | exact AVle.refl _ | exact AVle.sl _ _ | exact AVle.gs _ _ _ | assumption)
        · simpa using G3
    · rintro e g ⟨v, G, rfl⟩
      simp -implicitDefEqProofs only [↓pgPre,go_sem,↓reduceIte,reduceCtorEq,seval, lt_end]
      refine lessQ.same ?_
      simp -implicitDefEqProofs only [↓pgPre,go_sem,↓reduceIte,reduceCtorEq,seval]
      refine G.endW ⟨?_, rfl⟩
      rw [rnSs_map]
end Pg
