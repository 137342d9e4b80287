import Derived.Test.YtpebidcmkjjpnaaGreatTreeS
import Derived.Test.YtpebidcmkjjpnaaGreatCodeH
import Derived.Test.YtpebidcmkjjpnaaGreatR12Spec
import Derived.Test.YtpebidcmkjjpnaaGreatHp
import Derived.Test.YtpebidcmkjjpnaaGreatCountSpec
namespace Pg
open Go
set_option linter.unusedSimpArgs false
set_option linter.unusedVariables false
set_option maxHeartbeats 4000000
set_option maxRecDepth 4000
def eTh (x : Th) : List AV := [.str x.name, .int .i64 x.kind, eTexts x.rcd.before, eTexts x.rcd.trail, .str x.rcd.name, .sl (x.rcd.fields.map eFld) false, eTexts x.rcd.endd, eTexts x.r.before, eTexts x.r.trail, .str x.r.name, .int .i64 x.r.result, .sl (x.r.params.map eParam) false, .sl (x.r.vars.map eVar) false, .sl (x.r.inner.map eRoutine) false, .sl (x.r.body.map eStmt) false, eTexts x.r.endd, .int .i64 x.t.kind, .int .i64 x.t.size, .str x.t.name]
theorem eTh_len (x : Th) : (eTh x).length = 19 := rfl
abbrev eEnv (l : List Th) : List (List AV) := l.map eTh
theorem eEnv_len (l : List Th) : ∀ e ∈ eEnv l, e.length = 19 := by
  intro e he; obtain ⟨s, _, rfl⟩ := List.mem_map.1 he; rfl
theorem eTh_take (x : Th) : List.take 19 (eTh x) = eTh x := rfl
abbrev zTh : List AV := [.str ⟨#[]⟩, .int .i64 0, .sl [] true, .sl [] true, .str ⟨#[]⟩, .sl [] true, .sl [] true, .sl [] true, .sl [] true, .str ⟨#[]⟩, .int .i64 0, .sl [] true, .sl [] true, .sl [] true, .sl [] true, .sl [] true, .int .i64 0, .int .i64 0, .str ⟨#[]⟩]
theorem zTh_le : AVle (.agg zTh) (.agg (eTh noTh)) := by
  refine AVle.agg ?_
  repeat' (first | exact AVles.nil | refine AVles.cons ?_ ?_)
  all_goals first | exact .refl _ | exact AVle.sl _ _
theorem find_spec12 (h : AHeap) (env : List Th) (hl : few env) (full : Bool) (name : ByteArray) : ACalls Go.Proofs.Tryz.prog 61 [.sl (eEnv env) full, .str name] h (fun v g => v = .agg (eTh (rFind env name)) ∧ g = h) := by
  refine F61.calls (by simp) ?_
  delta F61.c0
  simp -implicitDefEqProofs only [↓pgPre,go_sem,seval]
  refine afreshT_intro fun b hb => ?_
  simp -implicitDefEqProofs only [↓pgPre,go_sem,seval]
  generalize hB : AHeap.upd h b _ = B
  have hBb : B b = some (.blk zTh 19 134) := by rw [← hB, upd_same]
  refine lT_list env (fun pre post e g => rFind env name = rFind post name ∧ g = B ∧ e = [(0, .sl (eEnv env) full), (1, .str name), (4, .ptr (some ⟨b, 0, none⟩)), (5, .int .i64 pre.length)]) (WeakE.env ?_) ⟨rfl, rfl, rfl⟩ ?_ ?_
  · skip
    repeat' (first | exact EnvLe.nil _ | refine EnvLe.cons ?_ ?_)
    all_goals (simp -implicitDefEqProofs only [↓pgPre,go_sem,seval]; try first | exact AVle.refl _ | exact AVle.sl _ _ | exact AVle.gs _ _ _ | assumption)
  · rintro pre x post e g hp ⟨hk, rfl, rfl⟩
    have h0 : (eTh x)[0]? = some (.str x.name) := rfl
    by_cases he : x.name = name
    · simp -implicitDefEqProofs only [↓pgPre,go_sem,seval, lt_at hp, aia_sl (map_at hp) (eTh_len x), h0, he, eTh_len, eTh_take, hBb]
      refine lessQ.same ?_
      rw [splice_same (by rfl), ← hB, upd_upd]
      simp -implicitDefEqProofs only [↓pgPre,go_sem,seval, eTh_len, eTh_take]
      refine .forget (AHeap.le_upd hb) ⟨?_, rfl⟩
      rw [hk]; simp [rFind, he]
    · simp -implicitDefEqProofs only [↓pgPre,go_sem,seval, lt_at hp, aia_sl (map_at hp) (eTh_len x), h0, he]
      refine ⟨_, _, WeakE.env ?_, ?_, rfl, rfl⟩
      · skip
        repeat' (first | exact EnvLe.nil _ | refine EnvLe.cons ?_ ?_)
        all_goals (simp -implicitDefEqProofs only [↓pgPre,go_sem,seval, step_at hl hp]; try first | exact AVle.refl _ | exact AVle.sl _ _ | exact AVle.gs _ _ _ | assumption)
      · rw [hk]; simp [rFind, he]
  · rintro e g ⟨hk, rfl, rfl⟩
    simp -implicitDefEqProofs only [↓pgPre,go_sem,seval, lt_end]
    refine lessQ.same ?_
    simp -implicitDefEqProofs only [↓pgPre,go_sem,seval, hBb]
    rw [← hB, upd_upd]
    refine EndW.less zTh_le (AHeap.le_upd hb) ⟨?_, rfl⟩
    rw [hk]; rfl
theorem with_spec (h : AHeap) (env : List Th) (hl : env.length ≤ 1000000) (full : Bool) (x : Th) : ACalls Go.Proofs.Tryz.prog 63 [.sl (eEnv env) full, .agg (eTh x)] h (fun v g => v = .sl (eEnv (env ++ [x])) false ∧ g = h) := by
  refine F63.calls (by simp) ?_
  delta F63.c0
  simp -implicitDefEqProofs only [↓pgPre,go_sem,seval]
  refine ⟨eEnv_len env, (GL.nil (ty := 134) (size := 19) h).append (new := eEnv env) (by simp) rfl (eEnv_len env) (by unfold roomFor; simp; omega) fun v g G => ?_⟩
  simp -implicitDefEqProofs only [↓pgPre,go_sem,seval, eTh_take, eTh_len, splice_same]
  refine G.append1 (xs := eTh x) (bytes := 360) rfl (by unfold roomFor; simp; omega) fun v g G => ?_
  simp -implicitDefEqProofs only [↓pgPre,go_sem,seval]
  exact G.endW ⟨by simp, rfl⟩
def lkBlk (s : CS) : AObj := .blk [.int .i64 s.item, .int .i64 s.bad] 2 97
theorem fail_spec12 {h : AHeap} {c : Nat} {s : CS} (hc : h c = some (lkBlk s)) (e : Int) : ACalls Go.Proofs.Tryz.prog 62 [.ptr (some ⟨c, 0, none⟩), .int .i64 e] h (fun v g => v = .tuple [] ∧ g = h.upd c (lkBlk (s.fail e))) := by
  unfold lkBlk at hc
  refine F62.calls (by simp) ?_
  delta F62.c0
  simp -implicitDefEqProofs only [↓pgPre,go_sem,seval, hc]
  by_cases hb : s.bad = 0
  · simp -implicitDefEqProofs only [↓pgPre,go_sem,seval, hb, hc]
    exact .same ⟨rfl, by simp [CS.fail, hb, lkBlk]⟩
  · simp -implicitDefEqProofs only [↓pgPre,go_sem,seval, hb]
    refine .same ⟨rfl, ?_⟩
    rw [upd_self (by rw [hc]; simp [CS.fail, hb, lkBlk])]
theorem next_spec12 {h : AHeap} {c : Nat} {s : CS} (hc : h c = some (lkBlk s)) : ACalls Go.Proofs.Tryz.prog 60 [.ptr (some ⟨c, 0, none⟩)] h (fun v g => v = .bool (decide (s.bad = 0)) ∧ g = h.upd c (lkBlk (if s.bad = 0 then s.step else s))) := by
  unfold lkBlk at hc
  refine F60.calls (by simp) ?_
  delta F60.c0
  simp -implicitDefEqProofs only [↓pgPre,go_sem,seval, hc]
  by_cases hb : s.bad = 0
  · simp -implicitDefEqProofs only [↓pgPre,go_sem,seval, hb, hc]
    exact .same ⟨rfl, by simp [CS.step, hb, lkBlk]⟩
  · simp -implicitDefEqProofs only [↓pgPre,go_sem,seval, hb]
    refine .same ⟨rfl, ?_⟩
    rw [upd_self (by rw [hc]; simp [hb, lkBlk])]
theorem typ_spec12 {h : AHeap} {c : Nat} {s : CS} (hc : h c = some (lkBlk s)) (env : List Th) (hl : few env) (full : Bool) (t : Typ) : ACalls Go.Proofs.Tryz.prog 64 [.ptr (some ⟨c, 0, none⟩), .sl (eEnv env) full, .agg (eTyp t)] h (fun v g => v = .tuple [] ∧ g = h.upd c (lkBlk (rTyp env s t))) := by
  refine F64.calls (by simp) ?_
  delta F64.c0
  have e0 : (eTyp t)[0]? = some (.int .i64 t.kind) := rfl
  have e2 : (eTyp t)[2]? = some (.str t.name) := rfl
  have f1 : (eTh (rFind env t.name))[1]? = some (.int .i64 (rFind env t.name).kind) := rfl
  by_cases ht : t.kind = 4
  · simp -implicitDefEqProofs only [↓pgPre,go_sem,seval, e0, e2, ht]
    refine callT_of (find_spec12 h env hl full t.name) (fun v g ⟨hv, hg⟩ => ?_)
    subst v g
    simp -implicitDefEqProofs only [↓pgPre,go_sem,seval, f1]
    by_cases hk : (rFind env t.name).kind = 1
    · simp -implicitDefEqProofs only [↓pgPre,go_sem,seval, hk]
      refine .same ⟨rfl, ?_⟩
      rw [upd_self (by rw [hc]; simp [rTyp, hk])]
    · simp -implicitDefEqProofs only [↓pgPre,go_sem,seval, hk]
      refine callT_of (fail_spec12 hc 13) (fun v g ⟨hv, hg⟩ => ?_)
      subst v g
      simp -implicitDefEqProofs only [↓pgPre,go_sem,seval]
      exact .same ⟨rfl, by simp [rTyp, hk, ht]⟩
  · simp -implicitDefEqProofs only [↓pgPre,go_sem,seval, e0, ht]
    refine .same ⟨rfl, ?_⟩
    rw [upd_self (by rw [hc]; simp [rTyp, ht])]
theorem variable_spec12 {h : AHeap} {c : Nat} {s : CS} (hc : h c = some (lkBlk s)) (env : List Th) (hl : few env) (full : Bool) (name : ByteArray) : ACalls Go.Proofs.Tryz.prog 68 [.ptr (some ⟨c, 0, none⟩), .sl (eEnv env) full, .str name] h (fun v g => v = .agg (eTyp (rVariable env s name).1) ∧ g = h.upd c (lkBlk (rVariable env s name).2)) := by
  refine F68.calls (by simp) ?_
  delta F68.c0
  simp -implicitDefEqProofs only [↓pgPre,go_sem,seval]
  refine afreshT_intro fun b hb => ?_
  have hcb := none_ne hb hc
  simp -implicitDefEqProofs only [↓pgPre,go_sem,seval]
  refine callT_of (find_spec12 _ env hl full name) (fun v g ⟨hv, hg⟩ => ?_)
  subst v g
  have f1 : (eTh (rFind env name))[1]? = some (.int .i64 (rFind env name).kind) := rfl
  have f2 : ((eTh (rFind env name)).drop 16).take 3 = eTyp (rFind env name).t := rfl
  by_cases hk : (rFind env name).kind = 3
  · simp -implicitDefEqProofs only [↓pgPre,go_sem,seval, f1, f2, hk, eTh_len, eTh_take, eTyp_len]
    rw [splice_same (by rfl), upd_upd]
    refine .forget (AHeap.le_upd hb) ⟨?_, ?_⟩
    · simp [rVariable, hk]; rfl
    · rw [upd_self (by rw [hc]; simp [rVariable, hk])]
  · simp -implicitDefEqProofs only [↓pgPre,go_sem,seval, f1, hk, eTh_len, eTh_take]
    refine callT_of (fail_spec12 (s := s) (by rw [upd_ne _ _ _ hcb]; exact hc) 13) (fun v g ⟨hv, hg⟩ => ?_)
    subst v g
    simp -implicitDefEqProofs only [↓pgPre,go_sem,seval, upd_ne _ _ _ hcb.symm]
    refine .forget (le_side hb hc _ _) ⟨?_, ?_⟩
    · simp [rVariable, hk]; rfl
    · simp [rVariable, hk]
end Pg
