import Derived.Test.YtdfbkddelhbgmaaGreatDoorTreeSS2
import Derived.Test.YtdfbkddelhbgmaaGreatDoorRun9S2
import Derived.Test.YtdfbkddelhbgmaaGreatDoorCodeR2S2
import Derived.Test.YtdfbkddelhbgmaaGreatDoorCkYS2
import Derived.Test.YtdfbkddelhbgmaaGreatDoorOwnS2
namespace Pg
open Go Go.Proofs.Tryz
set_option linter.all false
set_option maxHeartbeats 4000000
set_option maxRecDepth 4000
theorem sNew_spec [GI] (h : AHeap) (n : Int) : ACalls prog 72 [.int .i64 n] h (fun v g => ∃ b, v = .ptr (some ⟨b, 0, none⟩) ∧ h b = none ∧ g = h.upd b (.blk [.int .i64 n, .sl [] true] 2 210)) := by
 refine F72.calls (by simp) ?_
 delta F72.c0
 simp only [go_sem,seval]
 refine afreshT_intro fun b hb => ?_
 simp only [go_sem,seval]
 exact .same ⟨b, rfl, hb, rfl⟩
theorem clampF (n : Int) : (if (if 1048576 < n then 1048576 else n) > 0 then (if 1048576 < n then 1048576 else n) else 0) = max 0 (min n 1048576) := by
 split <;> split at * <;> omega
theorem mNew_spec [GI] (h : AHeap) (p : Prg) (input : List Int) (f : Bool) (fuel : Int) : ACalls prog 27 [.sl (p.recs.map eRec) false, .sl (input.map eInt) f, .int .i64 fuel] h (fun v g => ∃ M st l', v = .ptr (some ⟨M, 0, none⟩) ∧ g = h.join l' ∧ h.apart l' ∧ Mem l' M st (cfgOf p fuel) (mNew input)) := by
 refine F27.calls (by simp) ?_
 delta F27.c0
 simp only [go_sem,seval]
 refine callT_of (sNew_spec h _) fun v g hg => ?_
 obtain ⟨st, rfl, hst, rfl⟩ := hg
 simp only [go_sem,seval, clampF]
 refine afreshT_intro fun M hM => ?_
 simp only [go_sem,seval]
 have hne := fresh_ne hM
 have hMh := fresh_of hM
 have hg : (h.upd st (.blk [.int .i64 1048576, .sl [] true] 2 210)).upd M (mBlk st p.recs (max 0 (min fuel 1048576)) (mNew input) (.sl [] true) f) = h.join ((eheap.upd st (.blk [.int .i64 1048576, .sl [] true] 2 210)).upd M (mBlk st p.recs (max 0 (min fuel 1048576)) (mNew input) (.sl [] true) f)) := by
  rw [← join_upd_right _ _ hMh, ← join_upd_right _ _ hst, join_eheap]
 refine .same ⟨M, st, _, rfl, hg, ?_, .sl [] true, .sl [] true, f, upd_same _ _ _, ?_, .nil _ _ _, .nil _ _ _, .nil _, .nil _, .nil _, .nil _, (fun _ _ _ e => by cases e), hne.symm⟩
 ·exact apart_upd_right (apart_upd_right (apart_eheap h) _ hst) _ hMh
 ·rw [upd_ne _ _ _ hne, upd_same]
theorem EndW.outcome [GI] {K : AV → AHeap → Prop} {a b : Int} {ov : AV} {s s0 l : AHeap} (le0 : s0.le s) (ap : s.apart l) {rows : List (List AV)} (o : OL l 2 1 ov rows) (k : K (.agg [.int .i64 a, .sl rows false, .int .i64 b]) s0) : EndW K (.agg [.int .i64 a, ov, .int .i64 b]) (s.join l) := by
 rcases o with ⟨rfl, rfl⟩ | ⟨q, cap, cs, rfl, h2, h3, h4, h5, h6⟩
 ·exact EndW.less (AVle.agg (.cons (.refl _) (.cons (.sl _ _) (.cons (.refl _) .nil)))) (AHeap.le_trans le0 (AHeap.le_join s l)) k
 ·refine ⟨_, _, ?_, k⟩
  intro I w us r sat
  have hq := (AHeap.le_join_right ap) _ _ h2
  obtain ⟨J, n, s', hv⟩ := freeze_sat sat hq (es := rows) (size := 1) h5.symm h6
  have le : s0.le ((s.join l).del q) := by
   intro b' x e0
   have e := le0 _ _ e0
   by_cases hb : b' = q
   ·subst hb; rw [apart_at ap h2] at e; cases e
   ·rw [del_ne _ _ hb]; exact join_left e
  refine ⟨J, n.forget le, ?_, s'.forget le⟩
  obtain ⟨u, us', rfl, r1, r2⟩ := r.uncons
  have := r2.of_nil; subst this
  obtain ⟨vs, rfl, r3, r4⟩ := r1.inv_agg
  obtain ⟨v1, vs1, rfl, q1, q2⟩ := r3.uncons
  obtain ⟨v2, vs2, rfl, q3, q4⟩ := q2.uncons
  obtain ⟨v3, vs3, rfl, q5, q6⟩ := q4.uncons
  have := q6.of_nil; subst this
  have := q3.inv_os; subst this
  exact .cons (.of_agg (.cons (q1.mono n.imm) (.cons (hv cap h3) (.cons (q5.mono n.imm) (.nil J)))) r4) (.nil J)
structure RightC (C : Nat) (p : Prg) : Prop where
 C1 : 1 ≤ C
 sc : ScOk C [p.routines]
 body : ∀ y ∈ p.body, StOk [p.routines] y
 few : few p.body
 vars : Pg.few p.vars
 recs : Pg.few p.recs
 flds : ∀ r ∈ p.recs, Pg.few r.fields
abbrev eOut (code : Int) (out : List Int) (steps : Int) : List AV := [.int .i64 code, .sl (out.map eInt) false, .int .i64 steps]
abbrev bigN (C : Nat) (p : Prg) : Nat := 1048576 * C + Stmts.wt p.body
theorem Run_spec [GI] (h : AHeap) (p : Prg) (ho : p.ok) (ht : (check p).2 = 0 → ACalls prog 26 [.int .i64 0, .agg (ePrg p)] h (fun v g => v = .int .i64 0 ∧ g = h)) {C : Nat} (hC : (check p).2 = 0 → RightC C p) (input : List Int) (hi : few input) (f : Bool) (fuel : Int) :
  ACalls prog 11 [.agg (ePrg p), .sl (input.map eInt) f, .int .i64 fuel] h (fun v g => v = .agg (if (check p).2 = 0 then eOut (runP (bigN C p) p input fuel).code (runP (bigN C p) p input fuel).out (runP (bigN C p) p input fuel).steps else eOut 1 [] 0) ∧ g = h) := by
 refine F11.calls (by simp) ?_
 delta F11.c0
 simp only [go_sem,seval]
 refine afreshT_intro fun b hb => ?_
 simp only [go_sem,seval, ePrg_len, prg_take]
 refine tcE (Check_spec _ p ho) ?_
 by_cases hc : (check p).2 = 0
 case neg =>
  simp only [go_sem,seval, hc, upd_same, upd_upd]
  refine EndW.less (AVle.agg (.cons (.refl _) (.cons (.sl _ _) (.cons (.refl _) .nil)))) (AHeap.le_upd hb) ⟨?_, rfl⟩
  simp [hc]
 have R := hC hc
 have htc := ht hc
 have htf : ACalls prog 26 [.int .i64 0, .agg (ePrg p)] (h.upd b (.blk [.int .i64 0, .sl [] true, .int .i64 0] 3 34)) (fun v g => v = .int .i64 0 ∧ g = h.upd b (.blk [.int .i64 0, .sl [] true, .int .i64 0] 3 34)) := by
  refine (acalls_frame1 hb htc).mono ?_
  rintro v g ⟨g', _, rfl, rfl, rfl⟩
  exact ⟨rfl, rfl⟩
 simp only [go_sem,seval, hc, ePrg_len, prg_take]
 refine tcE (htf) ?_
 simp only [go_sem,seval, prg_4, prg_6]
 refine callT_of (mNew_spec _ p input f fuel) fun v g hg => ?_
 obtain ⟨M, st, l1, rfl, rfl, a1, m1⟩ := hg
 simp only [go_sem,seval]
 refine afreshT_intro fun nm hnm => ?_
 obtain ⟨hn1, hn2⟩ := join_none hnm
 rw [join_upd_left]
 have hfn : ∀ (F : Frm), frmV (.ip [.ptr (some ⟨M, 0, none⟩)] 0) [(nm, F)] = .ip [.ip [.ptr (some ⟨M, 0, none⟩)] 0, .map (some nm), .sl (F.routines.map eRoutine) false, .ptr none] 0 := fun _ => rfl
 have k0 : MOk (cfgOf p fuel) (mNew input) := ⟨by simp only [cfgOf]; omega, by simp [mNew], by simp [mNew], by simp only [mNew, cfgOf]; omega, by simp [mNew], by simp [mNew], by simp [mNew], hi⟩
 simp only [go_sem,seval, prg_5]
 have fl := flay_spec (nm := nm) (s := h.upd b (.blk [.int .i64 0, .sl [] true, .int .i64 0] 3 34)) (M := M) (st := st) (c := cfgOf p fuel) R.recs p.vars R.vars false [] ⟨[], p.routines⟩ [] (l := l1) (x := mNew input) (apart_upd_left a1 _ hn2) m1 k0
 rw [hfn] at fl
 have kV : Kept (cfgOf p fuel) (mNew input) (laysV (cfgOf p fuel) p.vars [] (mNew input)).2 := (kept_sim _).laysV p.vars [] (mNew input)
 have hP : runP (bigN C p) p input fuel = ((ops (cfgOf p fuel) (bigN C p)).run [⟨(laysV (cfgOf p fuel) p.vars [] (mNew input)).1, p.routines⟩] p.body (laysV (cfgOf p fuel) p.vars [] (mNew input)).2).2 := rfl
 generalize laysV (cfgOf p fuel) p.vars [] (mNew input) = V at hP fl kV
 obtain ⟨names, x1⟩ := V
 simp only at hP fl kV
 refine callT_of fl fun w g hg => ?_
 obtain ⟨rfl, l2, rfl, a2, m2⟩ := hg
 have k1 := kV.ok k0
 have H : Here (cfgOf p fuel) C M st ((h.upd b (.blk [.int .i64 0, .sl [] true, .int .i64 0] 3 34)).upd nm (.mp (names.map eNm))) l2 [(nm, ⟨names, p.routines⟩)] x1 := ⟨a2, m2, k1, fun q hq => by simp at hq; subst hq; exact upd_same _ _ _, R.sc, R.recs, R.flds, R.C1⟩
 have hleft : left (cfgOf p fuel) x1 ≤ 1048576 := by have := k1.fuel; have := k1.steps0; unfold left; omega
 have hmul : left (cfgOf p fuel) x1 * C ≤ 1048576 * C := Nat.mul_le_mul_right C hleft
 have lr := (lv_all (c := cfgOf p fuel) (C := C) (M := M) (st := st) (bigN C p)).run (fl := false) H R.few R.body (by unfold bigN; omega)
 change ACalls _ _ _ _ (To _ M st _ (.tuple [.int .i64 ((ops (cfgOf p fuel) (bigN C p)).run [⟨names, p.routines⟩] p.body x1).1.1, .bool ((ops (cfgOf p fuel) (bigN C p)).run [⟨names, p.routines⟩] p.body x1).1.2]) ((ops (cfgOf p fuel) (bigN C p)).run [⟨names, p.routines⟩] p.body x1).2) at lr
 rw [hP]
 generalize (ops (cfgOf p fuel) (bigN C p)).run [⟨names, p.routines⟩] p.body x1 = Q at lr ⊢
 obtain ⟨⟨n, bk⟩, y⟩ := Q
 simp only at lr ⊢
 simp only [go_sem,seval, hfn, prg_7]
 refine tcM lr fun l3 a3 m3 => ?_
 simp only [go_sem,seval]
 refine callT_of (Outcome_spec a3 m3) fun v g hg => ?_
 obtain ⟨ov, rfl, oo, rfl⟩ := hg
 have hnb : nm ≠ b := by
  intro hh; subst hh
  rw [upd_same] at hn1; cases hn1
 have hbj : (((h.upd b (.blk [.int .i64 0, .sl [] true, .int .i64 0] 3 34)).upd nm (.mp (names.map eNm))).join l3) b = some (.blk [.int .i64 0, .sl [] true, .int .i64 0] 3 34) := join_left (by rw [upd_ne _ _ _ hnb.symm, upd_same])
 simp only [go_sem,seval, hbj, upd_same]
 rw [join_upd_left, upd_comm _ _ _ hnb, upd_upd]
 have a4 : ((h.upd b (.blk [.int .i64 y.code, ov, .int .i64 y.steps] 3 34)).upd nm (.mp (names.map eNm))).apart l3 := by
  intro k o e
  by_cases h1 : k = nm
  ·subst h1; exact a3 k _ (upd_same _ _ _)
  ·rw [upd_ne _ _ _ h1] at e
   by_cases h2 : k = b
   ·subst h2; exact a3 k (.blk [.int .i64 0, .sl [] true, .int .i64 0] 3 34) (by rw [upd_ne _ _ _ h1, upd_same])
   ·rw [upd_ne _ _ _ h2] at e
    exact a3 k o (by rw [upd_ne _ _ _ h1, upd_ne _ _ _ h2]; exact e)
 exact EndW.outcome (two_blocks hnb.symm hb (fresh_of hn1) _ _) a4 oo ⟨by simp [hc], rfl⟩
end Pg
