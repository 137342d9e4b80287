import Derived.Test.YtpebidcmkjjpnaaGreatTreeS
import Derived.Test.YtpebidcmkjjpnaaGreatCodeM
import Derived.Test.YtpebidcmkjjpnaaGreatNodes
import Derived.Test.YtpebidcmkjjpnaaGreatCpX
import Derived.Test.YtpebidcmkjjpnaaGreatLwX
namespace Pg
open Go
set_option linter.unusedSimpArgs false
set_option linter.unusedVariables false
set_option maxHeartbeats 4000000
set_option maxRecDepth 4000
theorem exprCalls_spec : ∀ (N : Nat) (l : List Expr), Exprs.sz l < N → few l → (∀ x ∈ l, x.ok) → wEs l ≤ 274877906944 → ∀ (f : Bool) (h : AHeap),
    ACalls Go.Proofs.Tryz.prog 70 [.sl (l.map eExpr) f] h (fun v g => v = .sl (txt (callEs l)) false ∧ g = h) := by
  intro N
  induction N with
  | zero => intro l h; omega
  | succ N ih =>
    intro l hN hl hok hw f h
    refine F70.calls (by simp) ?_
    delta F70.c0
    simp -implicitDefEqProofs only [↓pgPre,go_sem,seval]
    refine lT_list l (fun pre post e g => ∃ v, GL 9 1 h g v (txt (callEs pre)) ∧ e = [(0, .sl (l.map eExpr) f), (3, v), (4, .int .i64 pre.length)]) (WeakE.env ?_) ⟨.sl [] true, .nil h, rfl⟩ ?_ ?_
    · skip
      repeat' (first | exact EnvLe.nil _ | refine EnvLe.cons ?_ ?_)
      all_goals (simp -implicitDefEqProofs only [↓pgPre,go_sem,seval]; try first | exact AVle.refl _ | exact AVle.sl _ _ | exact AVle.gs _ _ _ | assumption)
    · rintro pre x post e g hp ⟨v, G, rfl⟩
      have hx := mem_at hp
      have hxz := Exprs.sz_mem hx
      have hz := Expr.sz_eq x
      obtain ⟨o1, o2⟩ := (Expr.ok_iff x).1 (hok x hx)
      have hww := wEs_at hp
      have hwx := wE_eq x
      have hcl := callEs_len _ pre (Nat.le_refl _)
      have hcx := callEs_len _ x.l (Nat.le_refl _)
      by_cases h7 : x.op = 7
      · have hC : callE x = [x.name] ++ callEs x.l := by rw [callE_eq, if_pos h7]
        simp -implicitDefEqProofs only [↓pgPre,go_sem,seval, lt_at hp, aia_sl (map_at hp) (eExpr_len x), expr_0, expr_2, h7]
        refine G.txt1 (by omega) (fun v1 g1 G1 => ?_)
        simp -implicitDefEqProofs only [↓pgPre,go_sem,seval, aia_sl (map_at hp) (eExpr_len x), expr_4]
        refine callT_of (ih x.l (by omega) o1 o2 (by omega) false _) (fun v2 g2 ⟨hv, hg⟩ => ?_)
        subst v2 g2
        simp -implicitDefEqProofs only [↓pgPre,go_sem,seval]
        refine G1.txts (m := callEs x.l) (by rw [List.length_append]; simp; omega) (fun v3 g3 G3 => ?_)
        simp -implicitDefEqProofs only [↓pgPre,go_sem,seval]
        refine ⟨_, _, WeakE.env ?_, v3, ?_, rfl⟩
        · skip
          repeat' (first | exact EnvLe.nil _ | refine EnvLe.cons ?_ ?_)
          all_goals (simp -implicitDefEqProofs only [↓pgPre,go_sem,seval, step_at hl hp]; try first | exact AVle.refl _ | exact AVle.sl _ _ | exact AVle.gs _ _ _ | assumption)
        · rw [callEs_at, hC, ← List.append_assoc]; exact G3
      · have hC : callE x = callEs x.l := by rw [callE_eq, if_neg h7]; rfl
        simp -implicitDefEqProofs only [↓pgPre,go_sem,seval, lt_at hp, aia_sl (map_at hp) (eExpr_len x), expr_0, h7, expr_4]
        refine callT_of (ih x.l (by omega) o1 o2 (by omega) false _) (fun v2 g2 ⟨hv, hg⟩ => ?_)
        subst v2 g2
        simp -implicitDefEqProofs only [↓pgPre,go_sem,seval]
        refine G.txts (m := callEs x.l) (by omega) (fun v3 g3 G3 => ?_)
        simp -implicitDefEqProofs only [↓pgPre,go_sem,seval]
        refine ⟨_, _, WeakE.env ?_, v3, ?_, rfl⟩
        · skip
          repeat' (first | exact EnvLe.nil _ | refine EnvLe.cons ?_ ?_)
          all_goals (simp -implicitDefEqProofs only [↓pgPre,go_sem,seval, step_at hl hp]; try first | exact AVle.refl _ | exact AVle.sl _ _ | exact AVle.gs _ _ _ | assumption)
        · rw [callEs_at, hC]; exact G3
    · rintro e g ⟨v, G, rfl⟩
      simp -implicitDefEqProofs only [↓pgPre,go_sem,seval, lt_end]
      refine lessQ.same ?_
      simp -implicitDefEqProofs only [↓pgPre,go_sem,seval]
      exact G.endW ⟨rfl, rfl⟩
theorem Calls_spec : ∀ (N : Nat) (l : List Stmt), Stmts.sz l < N → few l → (∀ x ∈ l, x.ok) → wSs l ≤ 274877906944 → ∀ (f : Bool) (h : AHeap),
    ACalls Go.Proofs.Tryz.prog 39 [.sl (l.map eStmt) f] h (fun v g => v = .sl (txt (callSs l)) false ∧ g = h) := by
  intro N
  induction N with
  | zero => intro l h; omega
  | succ N ih =>
    intro l hN hl hok hw f h
    refine F39.calls (by simp) ?_
    delta F39.c0
    simp -implicitDefEqProofs only [↓pgPre,go_sem,seval]
    refine lT_list l (fun pre post e g => ∃ v, GL 9 1 h g v (txt (callSs pre)) ∧ e = [(0, .sl (l.map eStmt) f), (3, v), (4, .int .i64 pre.length)]) (WeakE.env ?_) ⟨.sl [] true, .nil h, rfl⟩ ?_ ?_
    · skip
      repeat' (first | exact EnvLe.nil _ | refine EnvLe.cons ?_ ?_)
      all_goals (simp -implicitDefEqProofs only [↓pgPre,go_sem,seval]; try first | exact AVle.refl _ | exact AVle.sl _ _ | exact AVle.gs _ _ _ | assumption)
    · rintro pre x post e g hp ⟨v, G, rfl⟩
      have hx := mem_at hp
      have hxz := Stmts.sz_mem hx
      have hz := Stmt.sz_eq x
      have hok' := (Stmt.ok_iff x).1 (hok x hx)
      have hww := wSs_at hp
      have hwx := wS_eq x
      have hcl := callSs_len _ pre (Nat.le_refl _)
      have hc1 := callE_len x.p
      have hc2 := callEs_len _ x.e (Nat.le_refl _)
      have hc3 := callSs_len _ x.body (Nat.le_refl _)
      have hc4 := callSs_len _ x.els (Nat.le_refl _)
      have hP : ((eStmt x).drop 4).take 5 = eExpr x.p := by rw [eStmt_eq, eExpr_eq]; rfl
      have hp1 : callEs [x.p] = callE x.p := by simp [callEs]
      have hwp : wEs [x.p] = wE x.p := by simp [wEs]
      simp -implicitDefEqProofs only [↓pgPre,go_sem,seval, lt_at hp, aia_sl (map_at hp) (eStmt_len x), hP, eStmt_len, eExpr_len, splice_same]
      refine callT_of (exprCalls_spec _ [x.p] (Nat.lt_succ_self _) (by unfold few; simp) (by simpa using hok'.2.2.1) (by omega) true _) (fun v2 g2 ⟨hv, hg⟩ => ?_)
      subst v2 g2
      rw [hp1]
      simp -implicitDefEqProofs only [↓pgPre,go_sem,seval]
      refine G.txts (m := callE x.p) (by omega) (fun v3 g3 G3 => ?_)
      simp -implicitDefEqProofs only [↓pgPre,go_sem,seval, aia_sl (map_at hp) (eStmt_len x), stmt_9]
      refine callT_of (exprCalls_spec _ x.e (Nat.lt_succ_self _) hok'.2.2.2.1 hok'.2.2.2.2.1 (by omega) false _) (fun v2 g2 ⟨hv, hg⟩ => ?_)
      subst v2 g2
      simp -implicitDefEqProofs only [↓pgPre,go_sem,seval]
      refine G3.txts (m := callEs x.e) (by simp only [List.length_append]; omega) (fun v4 g4 G4 => ?_)
      simp -implicitDefEqProofs only [↓pgPre,go_sem,seval, aia_sl (map_at hp) (eStmt_len x), stmt_12]
      refine callT_of (ih x.body (by omega) hok'.2.2.2.2.2.1 hok'.2.2.2.2.2.2.1 (by omega) false _) (fun v2 g2 ⟨hv, hg⟩ => ?_)
      subst v2 g2
      simp -implicitDefEqProofs only [↓pgPre,go_sem,seval]
      refine G4.txts (m := callSs x.body) (by simp only [List.length_append]; omega) (fun v5 g5 G5 => ?_)
      simp -implicitDefEqProofs only [↓pgPre,go_sem,seval, aia_sl (map_at hp) (eStmt_len x), stmt_13]
      refine callT_of (ih x.els (by omega) hok'.2.2.2.2.2.2.2.1 hok'.2.2.2.2.2.2.2.2.1 (by omega) false _) (fun v2 g2 ⟨hv, hg⟩ => ?_)
      subst v2 g2
      simp -implicitDefEqProofs only [↓pgPre,go_sem,seval]
      refine G5.txts (m := callSs x.els) (by simp only [List.length_append]; omega) (fun v6 g6 G6 => ?_)
      simp -implicitDefEqProofs only [↓pgPre,go_sem,seval]
      refine ⟨_, _, WeakE.env ?_, v6, ?_, rfl⟩
      · skip
        repeat' (first | exact EnvLe.nil _ | refine EnvLe.cons ?_ ?_)
        all_goals (simp -implicitDefEqProofs only [↓pgPre,go_sem,seval, step_at hl hp]; try first | exact AVle.refl _ | exact AVle.sl _ _ | exact AVle.gs _ _ _ | assumption)
      · rw [callSs_at, callS_eq]
        simpa [List.append_assoc] using G6
    · rintro e g ⟨v, G, rfl⟩
      simp -implicitDefEqProofs only [↓pgPre,go_sem,seval, lt_end]
      refine lessQ.same ?_
      simp -implicitDefEqProofs only [↓pgPre,go_sem,seval]
      exact G.endW ⟨rfl, rfl⟩
theorem Callee_spec (h : AHeap) (ns : List CN) (hn : ns.length ≤ 1048576) (har : ∀ (i : Nat) n, ns[i]? = some n → n.around < (i : Int) ∧ -1 ≤ n.around) (a0 : Int) (h0 : -1 ≤ a0) (h1 : a0 < ns.length) (name : ByteArray) :
    ACalls Go.Proofs.Tryz.prog 40 [.sl (ns.map eNd) false, .int .i64 a0, .str name] h (fun v g => v = .int .i64 (calleeAt ns name (a0 + 2).toNat a0) ∧ g = h) := by
  have hfn : few ns := by unfold few; omega
  refine F40.calls (by simp) ?_
  delta F40.c0
  simp -implicitDefEqProofs only [↓pgPre,go_sem,seval]
  refine lT_inv2 (fun m e g => ∃ (a : Int) (f : Nat), m = (a + 1).toNat ∧ -1 ≤ a ∧ a < ns.length ∧ (a + 2).toNat ≤ f ∧ calleeAt ns name (a0 + 2).toNat a0 = calleeAt ns name f a ∧ e = [(0, .sl (ns.map eNd) false), (1, .int .i64 a), (2, .str name)] ∧ h = g) (a0 + 1).toNat (WeakE.env ?_) ⟨a0, _, rfl, h0, h1, Nat.le_refl _, rfl, rfl, rfl⟩ ?_
  · skip
    repeat' (first | exact EnvLe.nil _ | refine EnvLe.cons ?_ ?_)
    all_goals (simp -implicitDefEqProofs only [↓pgPre,go_sem,seval]; try first | exact AVle.refl _ | exact AVle.sl _ _ | exact AVle.gs _ _ _ | assumption)
  · rintro m e g ⟨a, f, rfl, ha, hal, hf, hN, rfl, rfl⟩
    obtain ⟨f, rfl⟩ : ∃ f', f = f' + 1 := ⟨f - 1, by omega⟩
    simp -implicitDefEqProofs only [↓pgPre,go_sem,seval]
    refine lT_list ns (fun pre post e g => ns.findIdx? (fun n => decide (n.around = a) && decide (n.r.name = name)) = (post.findIdx? (fun n => decide (n.around = a) && decide (n.r.name = name))).map (· + pre.length) ∧ e = [(0, .sl (ns.map eNd) false), (1, .int .i64 a), (2, .str name), (7, .int .i64 pre.length)] ∧ h = g) (WeakE.env ?_) ⟨by simp, rfl, rfl⟩ ?_ ?_
    · skip
      repeat' (first | exact EnvLe.nil _ | refine EnvLe.cons ?_ ?_)
      all_goals (simp -implicitDefEqProofs only [↓pgPre,go_sem,seval]; try first | exact AVle.refl _ | exact AVle.sl _ _ | exact AVle.gs _ _ _ | assumption)
    · rintro pre n post e g hp ⟨hk, rfl, rfl⟩
      have hrow : (ns.map eNd)[pre.length]? = some (eNd n) := map_at hp
      have n1 : (eNd n)[1]? = some (.int .i64 n.around) := rfl
      have n4 : (eNd n)[4]? = some (.str n.r.name) := rfl
      by_cases hx : n.around = a
      · by_cases hy : n.r.name = name
        · simp -implicitDefEqProofs only [↓pgPre,go_sem,seval, lt_at hp, aia_sl hrow (eNd_len n), n1, n4, hx, hy]
          refine lessQ.same ?_
          simp -implicitDefEqProofs only [↓pgPre,go_sem,seval]
          refine lessQ.same ?_
          simp -implicitDefEqProofs only [↓pgPre,go_sem,seval]
          refine .same ⟨?_, rfl⟩
          rw [hN]
          simp only [calleeAt]
          rw [hk]
          simp [List.findIdx?_cons, hx, hy]
        · simp -implicitDefEqProofs only [↓pgPre,go_sem,seval, lt_at hp, aia_sl hrow (eNd_len n), n1, n4, hx, hy]
          refine ⟨_, _, WeakE.env ?_, ?_, rfl, rfl⟩
          · skip
            repeat' (first | exact EnvLe.nil _ | refine EnvLe.cons ?_ ?_)
            all_goals (simp -implicitDefEqProofs only [↓pgPre,go_sem,seval, step_at hfn hp]; try first | exact AVle.refl _ | exact AVle.sl _ _ | exact AVle.gs _ _ _ | assumption)
          · rw [hk]; simp [List.findIdx?_cons, hx, hy]
            cases post.findIdx? (fun n => decide (n.around = a) && decide (n.r.name = name)) <;> simp
            omega
      · simp -implicitDefEqProofs only [↓pgPre,go_sem,seval, lt_at hp, aia_sl hrow (eNd_len n), n1, n4, hx]
        refine ⟨_, _, WeakE.env ?_, ?_, rfl, rfl⟩
        · skip
          repeat' (first | exact EnvLe.nil _ | refine EnvLe.cons ?_ ?_)
          all_goals (simp -implicitDefEqProofs only [↓pgPre,go_sem,seval, step_at hfn hp]; try first | exact AVle.refl _ | exact AVle.sl _ _ | exact AVle.gs _ _ _ | assumption)
        · rw [hk]; simp [List.findIdx?_cons, hx]
          cases post.findIdx? (fun n => decide (n.around = a) && decide (n.r.name = name)) <;> simp
          omega
    · rintro e g ⟨hk, rfl, rfl⟩
      have hnone : ns.findIdx? (fun n => decide (n.around = a) && decide (n.r.name = name)) = none := by rw [hk]; rfl
      simp -implicitDefEqProofs only [↓pgPre,go_sem,seval, lt_end]
      refine lessQ.same ?_
      by_cases hneg : a < 0
      · simp -implicitDefEqProofs only [↓pgPre,go_sem,seval, hneg]
        refine lessQ.same ?_
        simp -implicitDefEqProofs only [↓pgPre,go_sem,seval]
        refine .same ⟨?_, rfl⟩
        rw [hN]
        simp only [calleeAt]
        rw [hnone]
        simp [hneg]
      · obtain ⟨k, rfl⟩ := Int.eq_ofNat_of_zero_le (by omega : 0 ≤ a)
        obtain ⟨n, hn'⟩ : ∃ n, ns[k]? = some n := ⟨_, List.getElem?_eq_getElem (by omega)⟩
        have hrow : (ns.map eNd)[k]? = some (eNd n) := by simp [hn']
        have n1 : (eNd n)[1]? = some (.int .i64 n.around) := rfl
        have hna := har k n hn'
        simp -implicitDefEqProofs only [↓pgPre,go_sem,seval, hneg, aia_sl hrow (eNd_len n), n1]
        refine lessI.to (n.around + 1).toNat _ _ (by omega) (WeakE.env ?_) ⟨n.around, f, rfl, by omega, by omega, by omega, ?_, rfl, rfl⟩
        · skip
          repeat' (first | exact EnvLe.nil _ | refine EnvLe.cons ?_ ?_)
          all_goals (simp -implicitDefEqProofs only [↓pgPre,go_sem,seval]; try first | exact AVle.refl _ | exact AVle.sl _ _ | exact AVle.gs _ _ _ | assumption)
        · rw [hN]
          simp only [calleeAt]
          rw [hnone]
          simp only [hneg, if_false, Int.toNat_natCast, hn']
end Pg
