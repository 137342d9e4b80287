import Derived.Test.YtlflapoljegmoaaGreatDoorTreeSE
import Derived.Test.YtlflapoljegmoaaGreatDoorLift3JE
import Derived.Test.YtlflapoljegmoaaGreatDoorMap3JE
import Derived.Test.YtlflapoljegmoaaGreatDoorLwXE
namespace Pg
open Go Go.Proofs.Tryz
set_option linter.all false
set_option maxHeartbeats 4000000
set_option maxRecDepth 4000
def zPrg : Prg := ⟨noBytes, [], [], [], [], [], [], [], []⟩
def liftR (ns : List CN) (ups : List (List Param)) (i : Nat) (n : CN) (us : List Param) : Routine := ⟨n.r.before, n.r.trail, n.path, n.r.result, n.r.params ++ us, n.r.vars, [], liftSs (liftF ns ups i) n.r.body, n.r.endd⟩
def liftRs (ns : List CN) (ups : List (List Param)) : Nat → List (CN × List Param) → List Routine
 | _, [] => []
 | i, q :: l => liftR ns ups i q.1 q.2 :: liftRs ns ups (i + 1) l
def tooMany (q : CN × List Param) : Bool := decide (512 < q.1.r.params.length + q.2.length)
noncomputable def liftP (p : Prg) : Prg × Int :=
 let ns := nodesOf p.routines
 let ups := cUps p.routines
 if 512 < ns.length then (zPrg, 3)
 else if (ns.zip ups).any tooMany then (zPrg, 3)
 else (⟨p.name, p.before, p.mid, p.after, p.recs, p.vars, liftRs ns ups 0 (ns.zip ups), liftSs (liftF ns ups (-1)) p.body, p.endd⟩, 0)
theorem liftRs_snoc (ns : List CN) (ups : List (List Param)) (q : CN × List Param) : ∀ (l : List (CN × List Param)) (i : Nat), liftRs ns ups i (l ++ [q]) = liftRs ns ups i l ++ [liftR ns ups (i + l.length) q.1 q.2]
 | [], i => by simp [liftRs]
 | r :: l, i => by simp only [List.cons_append, liftRs, List.length_cons]; rw [liftRs_snoc ns ups q l, show i + 1 + l.length = i + (l.length + 1) by omega]
def RLe (rows : List (List AV)) (xs : List Routine) : Prop := rows.length = xs.length ∧ ∀ (i : Nat) e x, rows[i]? = some e → xs[i]? = some x → e.length = 9 ∧ AVles e (eRoutine x)
theorem RLe.snoc {rows : List (List AV)} {xs : List Routine} (r : RLe rows xs) {e : List AV} {x : Routine} (hl : e.length = 9) (h : AVles e (eRoutine x)) : RLe (rows ++ [e]) (xs ++ [x]) := by
 refine ⟨by simp [r.1], fun i e' x' h1 h2 => ?_⟩
 rcases Nat.lt_or_ge i rows.length with hi | hi
 ·rw [List.getElem?_append_left hi] at h1
  rw [List.getElem?_append_left (by rw [← r.1]; exact hi)] at h2
  exact r.2 i e' x' h1 h2
 ·rw [List.getElem?_append_right hi] at h1
  rw [List.getElem?_append_right (by rw [← r.1]; exact hi), ← r.1] at h2
  cases hz : i - rows.length with
  | zero => rw [hz] at h1 h2; simp at h1 h2; subst h1 h2; exact ⟨hl, h⟩
  | succ k => rw [hz] at h1; simp at h1
theorem RLe.avle {rows : List (List AV)} {xs : List Routine} (r : RLe rows xs) (f : Bool) : AVle (.sl rows f) (.sl (xs.map eRoutine) false) := by
 refine AVle.rows (by simp [r.1]) fun i e e' h1 h2 => ?_
 rw [List.getElem?_map, Option.map_eq_some_iff] at h2
 obtain ⟨x, hx, rfl⟩ := h2
 obtain ⟨a, b⟩ := r.2 i e x h1 hx
 exact ⟨by rw [a, eRoutine_len], b⟩
theorem join_le_left {n s l : AHeap} (le : n.le s) (a : s.apart l) : (n.join l).le (s.join l) := by
 intro b o e
 rcases AHeap.join_cases e with h | ⟨h1, h2⟩
 ·exact join_left (le b o h)
 ·rw [join_right]
  ·exact h2
  ·exact apart_at a h2
theorem zPrg_le : AVle (.agg [.str (⟨#[]⟩ : ByteArray), .sl [] true, .sl [] true, .sl [] true, .sl [] true, .sl [] true, .sl [] true, .sl [] true, .sl [] true]) (.agg (ePrg zPrg)) := by
 rw [ePrg_eq]
 exact AVle.agg (.cons (.refl _) (.cons (.sl _ _) (.cons (.sl _ _) (.cons (.sl _ _) (.cons (.sl _ _) (.cons (.sl _ _) (.cons (.sl _ _) (.cons (.sl _ _) (.cons (.sl _ _) .nil)))))))))
abbrev kPv (p : Prg) (v : AV) : List AV := [.str p.name, eTexts p.before, eTexts p.mid, eTexts p.after, .sl (p.recs.map eRec) false, .sl (p.vars.map eVar) false, v, .sl (p.body.map eStmt) false, eTexts p.endd]
abbrev pBlk (p : Prg) (v : AV) : AObj := .blk (kPv p v) 9 28
theorem Lift_bad [GI] (h : AHeap) (p : Prg) (ho : p.ok) (hc : (check p).2 ≠ 0) : ACalls prog 9 [.agg (ePrg p)] h (fun v g => v = .tuple [.agg (ePrg zPrg), .int .i64 1] ∧ g = h) := by
 refine F9.calls (by simp) ?_
 delta F9.c0
 simp only [go_sem,seval]
 refine afreshT_intro fun rb hrb => ?_
 simp only [go_sem,seval, ePrg_len, prg_take]
 refine tcE (lof_bad _ p ho hc) ?_
 simp only [go_sem,seval, upd_same, upd_upd]
 refine EndW.less (AVle.tuple (.cons zPrg_le (.cons (.refl _) .nil))) (AHeap.le_upd hrb) ⟨rfl, rfl⟩
theorem nodes_pre (p : List Routine) : (nodesOf p).map (·.r) = preL p := capL_pre p 0 p (-1) noBytes
theorem liftRs_len (ns : List CN) (ups : List (List Param)) : ∀ (l : List (CN × List Param)) (i : Nat), (liftRs ns ups i l).length = l.length
 | [], i => rfl
 | q :: l, i => by simp [liftRs, liftRs_len ns ups l]
theorem ups_len (p : List Routine) (us : List Param) (h : us ∈ cUps p) : us.length ≤ wRs p := by
 unfold cUps at h
 obtain ⟨j, _, rfl⟩ := List.mem_map.1 h
 have := upN_len (fun i k => @decide (Caps (gra p) j (i, k)) (Classical.propDecidable _)) (nodesOf p) 0
 exact Nat.le_trans this (nLocs_le _ p (Nat.lt_succ_self _) 0 p (-1) noBytes)
theorem Lift_good [GI] (hm : Max0) (h : AHeap) (p : Prg) (ho : p.ok) (hw : wP p ≤ 1048576) (hc : (check p).2 = 0) :
  ACalls prog 9 [.agg (ePrg p)] h (fun v g => v = .tuple [.agg (ePrg (liftP p).1), .int .i64 (liftP p).2] ∧ g = h) := by
 obtain ⟨b1, b2⟩ := prg_bounds hw
 have hns : (nodesOf p.routines).length ≤ 1048576 := by
  show (capL 0 p.routines (-1) noBytes p.routines).length ≤ _
  rw [capL_len]
  have := rcnts_le _ p.routines (Nat.le_refl _)
  unfold wP at hw; omega
 have hwr : wRs p.routines ≤ 1048576 := by unfold wP at hw; omega
 have hall : ∀ n ∈ nodesOf p.routines, n.r.ok ∧ wR n.r ≤ 1048576 := capL_all (P := fun x => x.ok ∧ wR x ≤ 1048576) (fun x hx y hy => ⟨((Routine.ok_iff x).1 hx.1).2.2.2.2.2.2.1 y hy, Nat.le_trans (wR_in hy) hx.2⟩) _ p.routines (Nat.lt_succ_self _) (fun x hx => ⟨ho.eachRoutine x hx, Nat.le_trans (wRs_mem hx) hwr⟩) 0 p.routines (-1) noBytes
 refine F9.calls (by simp) ?_
 delta F9.c0
 simp only [go_sem,seval]
 refine afreshT_intro fun rb hrb => ?_
 simp only [go_sem,seval, ePrg_len, prg_take]
 refine callT_of (lof_good _ p ho b1 b2 hc) (fun v g hg => ?_)
 obtain ⟨tb, l1, u1, u2, rfl, rfl, ap1, R0, ps0, FL0, T1⟩ := hg
 have htb := (AHeap.le_join_right ap1) _ _ T1.hb
 have hR0 : R0.length = (nodesOf p.routines).length := by rw [FL0.len.1, List.length_map]
 simp only [go_sem,seval, htb, T1.o1.len, hR0]
 by_cases hbig : 512 < (nodesOf p.routines).length
 ·have hL : liftP p = (zPrg, 3) := by unfold liftP; simp [hbig]
  rw [hL]
  have hbi : (512 : Int) < ((nodesOf p.routines).length : Int) := by omega
  have hrb1 : ∀ o, ((h.upd rb o).join l1) rb = some o := fun o => join_left (upd_same _ _ _)
  simp only [go_sem,seval, hbi, hrb1, upd_same, upd_upd]
  refine EndW.less (AVle.tuple (.cons zPrg_le (.cons (.refl _) .nil))) (le_upd_of hrb (AHeap.le_trans (AHeap.le_upd hrb) (AHeap.le_join _ _)) _) ⟨rfl, rfl⟩
 ·have hbi : ¬ (512 : Int) < ((nodesOf p.routines).length : Int) := by omega
  simp only [go_sem,seval, hbi, ePrg_len, prg_take]
  refine callT_of (tRename_spec hm p ho hw _) (fun v k hk => ?_)
  obtain ⟨rows, ps, rfl, KR, TT⟩ := hk
  obtain ⟨n0, T2, rfl, ap2⟩ := TT.unjoin ap1
  simp only [go_sem,seval]
  refine afreshT_intro fun ob hob => ?_
  obtain ⟨hob1, hob2⟩ := join_none hob
  have n0tb := apart_at ap2 T1.hb
  have hot : ob ≠ tb := by intro hh; subst hh; rw [T1.hb] at hob2; cases hob2
  have htb2 : ∀ o, ((n0.join l1).upd ob o) tb = some (tBlk u1 u2 (pathsV p) (upsV p)) := fun o => by rw [upd_ne _ _ _ hot.symm]; exact (AHeap.le_join_right ap2) _ _ T1.hb
  have hobf : ∀ (H : AHeap) o1 o2, ((H.upd ob o1).upd tb o2) ob = some o1 := fun H o1 o2 => by rw [upd_ne _ _ _ hot, upd_same]
  simp only [go_sem,seval, upd_same, upd_upd, htb2, hobf]
  rw [join_upd_left, join_upd_right _ _ (by rw [upd_ne _ _ _ hot.symm]; exact n0tb)]
  have ap3 := apart_upd_right (apart_upd_left ap2 (pBlk p (.sl rows false)) hob2) (tBlk (.sl [] true) (.sl [] true) (pathsV p) (upsV p)) (b := tb) (by rw [upd_ne _ _ _ hot.symm]; exact n0tb)
  have T3 : Tb (l1.upd tb (tBlk (.sl [] true) (.sl [] true) (pathsV p) (upsV p))) tb (.sl [] true) (.sl [] true) (.sl [] true) (.sl [] true) [] [] (pathsV p) (upsV p) := ⟨upd_same _ _ _, .nil _ _ _, .nil _ _ _, .nil _, .nil _, fun _ _ _ e => by cases e⟩
  refine callT_of (ladd_spec _ p.routines (Nat.lt_succ_self _) ho.routines ho.eachRoutine _ _ tb _ _ _ _ [] [] (-1) p.routines noBytes false rows ps KR ap3 T3 (by simpa using b1) rfl) (fun w g hg => ?_)
  obtain ⟨rfl, l2, w1, w2, R, rfl, ap4, FL, T4⟩ := hg
  simp only [List.nil_append, List.length_nil] at T4 FL
  change Flat ((nodesOf p.routines).map (·.r)) R ps at FL
  change Tb l2 tb w1 w2 w1 w2 R ((nodesOf p.routines).map aRow) _ _ at T4
  have ob2 : l2 ob = none := ap4 ob _ (upd_same _ _ _)
  have hobj : ((n0.upd ob (pBlk p (.sl rows false))).join l2) ob = some (pBlk p (.sl rows false)) := join_left (upd_same _ _ _)
  have ap5 := apart_upd_left ap4 (pBlk p (.sl [] true)) ob2
  rw [upd_upd] at ap5
  have T5 := T2.fresh hob1 (pBlk p (.sl [] true))
  have hups : (cUps p.routines).length = (nodesOf p.routines).length := by unfold cUps; rw [List.length_map, List.length_range]; rfl
  have hzip : ((nodesOf p.routines).zip (cUps p.routines)).length = (nodesOf p.routines).length := by rw [List.length_zip, hups]; omega
  have hR : R.length = ((nodesOf p.routines).zip (cUps p.routines)).length := by rw [FL.len.1, List.length_map, hzip]
  have hT : ((n0.upd ob (pBlk p (.sl [] true))).join l2) tb = some (tBlk w1 w2 (pathsV p) (upsV p)) := (AHeap.le_join_right ap5) _ _ T4.hb
  simp only [go_sem,seval, hobj]
  rw [join_upd_left, upd_upd]
  simp only [go_sem,seval, hT, T4.o1.len, hR]
  have hob0 : (h.upd rb (.blk [.str (⟨#[]⟩ : ByteArray), .sl [] true, .sl [] true, .sl [] true, .sl [] true, .sl [] true, .sl [] true, .sl [] true, .sl [] true] 9 28)) ob = none := none_le T2.le hob1
  have hpre : ((nodesOf p.routines).zip (cUps p.routines)).map (fun q => q.1.r) = preL p.routines := by
   rw [← nodes_pre, ← List.map_fst_zip (l₁ := nodesOf p.routines) (l₂ := cUps p.routines) (by omega), List.map_map]
   rw [List.map_fst_zip (by omega)]
   rfl
  generalize hH1 : h.upd rb (.blk [.str (⟨#[]⟩ : ByteArray), .sl [] true, .sl [] true, .sl [] true, .sl [] true, .sl [] true, .sl [] true, .sl [] true, .sl [] true] 9 28) = H1 at T5 hob0
  generalize n0.upd ob (pBlk p (.sl [] true)) = s0 at T5 ap5 hT
  have hrbo : rb ≠ ob := by intro hh; subst hh; rw [← hH1, upd_same] at hob0; cases hob0
  have har : ∀ (i : Nat) n, (nodesOf p.routines)[i]? = some n → n.around < (i : Int) ∧ -1 ≤ n.around := fun i n hn => by
   have := capL_around _ p.routines (Nat.lt_succ_self _) 0 p.routines (-1) noBytes (by omega) (by omega) i n hn
   omega
  have Tl2 : Tv l2 tb (nodesOf p.routines) (cUps p.routines) := ⟨hns, har, hups, fun us hu => Nat.le_trans (ups_len p.routines us hu) hwr, w1, w2, R, ps, T4.hb, FL, T4.o1, T4.o2⟩
  refine lT_list ((nodesOf p.routines).zip (cUps p.routines)) (fun pre post e g => ∃ s v m O qs, g = s.join l2 ∧ s.apart l2 ∧ GL 43 9 (H1.upd ob (pBlk p v)) m v O ∧ TL m s qs (post.map fun q => q.1.r) ∧ (∃ ps1, ps = ps1 ++ qs ∧ ps1.length = pre.length) ∧ RLe O (liftRs (nodesOf p.routines) (cUps p.routines) 0 pre) ∧ pre.any tooMany = false ∧ e = [(2, .ptr (some ⟨rb, 0, none⟩)), (4, .ptr (some ⟨tb, 0, none⟩)), (6, .ptr (some ⟨ob, 0, none⟩)), (40, w1), (41, .int .i64 ((nodesOf p.routines).zip (cUps p.routines)).length), (42, .int .i64 pre.length)]) (WeakE.env ?_) ⟨s0, .sl [] true, _, [], ps, rfl, ap5, .nil _, by rw [hpre]; exact T5, ⟨[], rfl, rfl⟩, ⟨rfl, fun i e x h => by simp at h⟩, rfl, rfl⟩ ?_ ?_
  ·simp only [go_sem,seval]
  ·rintro pre ⟨n, us⟩ post e g hp ⟨s, v, m, O, qs, rfl, aps, G, TLs, ⟨ps1, hps, hps1⟩, hRL, hany, rfl⟩
   have hi := (at_pre hp).1
   have hil := (at_pre hp).2
   rw [List.getElem?_zip_eq_some] at hi
   obtain ⟨hn, hu⟩ := hi
   simp only [List.map_cons] at TLs
   cases TLs with
   | @cons _ m1 _ pv _ qs' _ Gp TLr =>
   obtain ⟨pv', ir, hpv', hRi⟩ := FL.get (i := pre.length) (x := n.r) (by simp [hn])
   have hpe : pv' = pv := by
    rw [hps, ← hps1] at hpv'
    simpa using hpv'.symm
   subst hpe
   obtain ⟨bb, cs, tot, e1, e2, e3, e4, e5⟩ := (T4.o1.of_le (AHeap.le_join_right aps)).at (k := .i64) hRi
   simp only [go_sem,seval, lt_at hp, e1, e2, e3, e4, kRow_len, kRow_take]
   refine afreshT_intro fun b8 hb8 => ?_
   obtain ⟨hb81, hb82⟩ := join_none hb8
   have n8t : tb ≠ b8 := by intro hh; subst hh; rw [T4.hb] at hb82; cases hb82
   have hT8 : ∀ o, ((s.join l2).upd b8 o) tb = some (tBlk w1 w2 (pathsV p) (upsV p)) := fun o => by rw [upd_ne _ _ _ n8t]; exact (AHeap.le_join_right aps) _ _ T4.hb
   have hr1 : ((gra p.routines).ns.map fun n => [AV.str n.path])[pre.length]? = some [.str n.path] := by
    show ((nodesOf p.routines).map fun n => [AV.str n.path])[pre.length]? = _
    simp [hn]
   have hr2 : ((cUps p.routines).map uRow)[pre.length]? = some (uRow us) := by simp [hu]
   simp only [go_sem,seval, upd_same, upd_upd, hT8, aia_sl (size := 1) hr1 rfl, aia_sl (size := 1) hr2 rfl]
   refine ⟨fun e he => by obtain ⟨u, _, rfl⟩ := List.mem_map.1 he; exact eParam_len u, ?_⟩
   obtain ⟨n1, TLn, Gs⟩ := TL.swap Gp TLr
   have Gf := Gs.fresh hb81 (.blk [eTexts n.r.before, eTexts n.r.trail, .str n.path, .int .i64 n.r.result, pv', .sl (n.r.vars.map eVar) false, ir, .sl (n.r.body.map eStmt) false, eTexts n.r.endd] 9 43)
   have apx := apart_upd_left aps (.blk [eTexts n.r.before, eTexts n.r.trail, .str n.path, .int .i64 n.r.result, pv', .sl (n.r.vars.map eVar) false, ir, .sl (n.r.body.map eStmt) false, eTexts n.r.endd] 9 43) hb82
   rw [join_upd_left]
   obtain ⟨hnok, hnw⟩ := hall n (List.mem_of_getElem? hn)
   have hnw' := wR_eq n.r
   have hup := ups_len p.routines us (List.mem_of_getElem? hu)
   refine (Gf.tojoin apx).append (new := us.map eParam) (by simp) rfl (fun e he => by obtain ⟨u, _, rfl⟩ := List.mem_map.1 he; exact eParam_len u) (by unfold roomFor; simp; omega) (fun v2 h2 G2 => ?_)
   obtain ⟨s2, G3, rfl, ap6⟩ := G2.unjoin (fun b o e => apx b o (Gf.le b o e))
   have e6 : (s2.join l2) b8 = some (.blk [eTexts n.r.before, eTexts n.r.trail, .str n.path, .int .i64 n.r.result, pv', .sl (n.r.vars.map eVar) false, ir, .sl (n.r.body.map eStmt) false, eTexts n.r.endd] 9 43) := join_left (G3.at (upd_same _ _ _))
   have hT9 : (s2.join l2) tb = some (tBlk w1 w2 (pathsV p) (upsV p)) := (AHeap.le_join_right ap6) _ _ T4.hb
   have hlen : (n.r.params.map eParam ++ us.map eParam).length = n.r.params.length + us.length := by simp
   simp only [go_sem,seval, e6, hT9, G2.cells]
   refine ⟨⟨.inr (by decide), .inr (by decide)⟩, ?_⟩
   have hn8 : n1 b8 = none := none_le Gs.le hb81
   have crb0 : (H1.upd ob (pBlk p v)) rb = some (.blk [.str (⟨#[]⟩ : ByteArray), .sl [] true, .sl [] true, .sl [] true, .sl [] true, .sl [] true, .sl [] true, .sl [] true, .sl [] true] 9 28) := by rw [upd_ne _ _ _ hrbo, ← hH1, upd_same]
   have crb1 : n1 rb = some (.blk [.str (⟨#[]⟩ : ByteArray), .sl [] true, .sl [] true, .sl [] true, .sl [] true, .sl [] true, .sl [] true, .sl [] true, .sl [] true] 9 28) := TLn.le _ _ (G.le _ _ crb0)
   have hr8 : rb ≠ b8 := by intro hh; subst hh; rw [hn8] at crb1; cases crb1
   have crb : ∀ o, ((s2.join l2).upd b8 o) rb = some (.blk [.str (⟨#[]⟩ : ByteArray), .sl [] true, .sl [] true, .sl [] true, .sl [] true, .sl [] true, .sl [] true, .sl [] true, .sl [] true] 9 28) := fun o => by
    rw [upd_ne _ _ _ hr8]; exact join_left (G3.at (AHeap.le_upd hn8 _ _ crb1))
   have cob1 : n1 ob = some (pBlk p v) := TLn.le _ _ (G.le _ _ (upd_same _ _ _))
   have ho8 : ob ≠ b8 := by intro hh; subst hh; rw [hn8] at cob1; cases cob1
   have cob : ∀ o, ((s2.join l2).upd b8 o) ob = some (pBlk p v) := fun o => by
    rw [upd_ne _ _ _ ho8]; exact join_left (G3.at (AHeap.le_upd hn8 _ _ cob1))
   have hT10 : ∀ o, ((s2.join l2).upd b8 o) tb = some (tBlk w1 w2 (pathsV p) (upsV p)) := fun o => by rw [upd_ne _ _ _ n8t]; exact hT9
   by_cases htm : 512 < n.r.params.length + us.length
   ·have hL : liftP p = (zPrg, 3) := by
     have hy : (nodesOf p.routines).zip (cUps p.routines) |>.any tooMany := by
      rw [hp, List.any_append, List.any_cons]
      simp [tooMany, htm]
     unfold liftP
     simp only [if_neg hbig]
     rw [if_pos hy]
    have hgt : (512 : Int) < ((n.r.params.length + us.length : Nat) : Int) := by omega
    simp only [go_sem,seval, G2.len, hlen, hgt, crb]
    refine lessQ.same ?_
    simp only [go_sem,seval, crb, upd_same]
    rw [hL]
    have hle1 : h.le H1 := by rw [← hH1]; exact AHeap.le_upd hrb
    have hle2 : h.le (s2.join l2) := AHeap.le_trans (AHeap.le_trans (AHeap.le_trans (AHeap.le_trans (le_upd_of (none_le hle1 hob0) hle1 _) G.le) TLn.le) (AHeap.le_upd hn8)) (AHeap.le_trans G3.le (AHeap.le_join _ _))
    refine EndW.less (AVle.tuple (.cons zPrg_le (.cons (.refl _) .nil))) (le_upd_of hrb (le_upd_of ?_ hle2 _) _) ⟨rfl, rfl⟩
    exact none_le (AHeap.le_trans (le_upd_of (none_le hle1 hob0) hle1 _) (AHeap.le_trans G.le TLn.le)) hn8
   ·have hgt : ¬ (512 : Int) < ((n.r.params.length + us.length : Nat) : Int) := by omega
    have Tvv : ∀ o, Tv ((s2.join l2).upd b8 o) tb (nodesOf p.routines) (cUps p.routines) := fun o => by
     rw [join_upd_left]
     exact Tl2.le (AHeap.le_join_right (apart_upd_left ap6 o hb82))
    have hrok := (Routine.ok_iff n.r).1 hnok
    simp only [go_sem,seval, G2.len, hlen, hgt, upd_same, upd_upd]
    refine tcE (lstmts_spec (by omega) (by omega) _ n.r.body (Nat.lt_succ_self _) hrok.2.2.2.2.2.2.2.1 hrok.2.2.2.2.2.2.2.2.1 (by omega) false _ (Tvv _)) ?_
    simp only [go_sem,seval, upd_same, upd_upd, cob]
    rw [join_upd_left]
    obtain ⟨m', TLa, Ga⟩ := TL.swap G TLn
    have Gb := Ga.fresh hn8 (.blk [eTexts n.r.before, eTexts n.r.trail, .str n.path, .int .i64 n.r.result, v2, .sl (n.r.vars.map eVar) false, .sl [] true, .sl ((liftSs (liftF (nodesOf p.routines) (cUps p.routines) (pre.length : Int)) n.r.body).map eStmt) false, eTexts n.r.endd] 9 43)
    have G5 := G3.upd (upd_same _ _ _) (.blk [eTexts n.r.before, eTexts n.r.trail, .str n.path, .int .i64 n.r.result, v2, .sl (n.r.vars.map eVar) false, .sl [] true, .sl ((liftSs (liftF (nodesOf p.routines) (cUps p.routines) (pre.length : Int)) n.r.body).map eStmt) false, eTexts n.r.endd] 9 43)
    rw [upd_upd] at G5
    obtain ⟨k, Gc, Gd⟩ := Gb.swap G5
    have ap8 := apart_upd_left ap6 (.blk [eTexts n.r.before, eTexts n.r.trail, .str n.path, .int .i64 n.r.result, v2, .sl (n.r.vars.map eVar) false, .sl [] true, .sl ((liftSs (liftF (nodesOf p.routines) (cUps p.routines) (pre.length : Int)) n.r.body).map eStmt) false, eTexts n.r.endd] 9 43) hb82
    have hOl : O.length = pre.length := by rw [hRL.1]; exact liftRs_len _ _ _ _
    refine (Gd.tojoin ap8).append1 (xs := [eTexts n.r.before, eTexts n.r.trail, .str n.path, .int .i64 n.r.result, v2, .sl (n.r.vars.map eVar) false, .sl [] true, .sl ((liftSs (liftF (nodesOf p.routines) (cUps p.routines) (pre.length : Int)) n.r.body).map eStmt) false, eTexts n.r.endd]) rfl (by rw [hOl]; unfold roomFor; omega) (fun v' h3 G6 => ?_)
    obtain ⟨s4, G7, rfl, ap9⟩ := G6.unjoin (fun b o e => ap8 b o (Gd.le b o e))
    have hm8 : m' b8 = none := none_le Ga.le hn8
    have cobm : m' ob = some (pBlk p v) := TLa.le _ _ (upd_same _ _ _)
    have cobm8 : (m'.upd b8 (.blk [eTexts n.r.before, eTexts n.r.trail, .str n.path, .int .i64 n.r.result, v2, .sl (n.r.vars.map eVar) false, .sl [] true, .sl ((liftSs (liftF (nodesOf p.routines) (cUps p.routines) (pre.length : Int)) n.r.body).map eStmt) false, eTexts n.r.endd] 9 43)) ob = some (pBlk p v) := by rw [upd_ne _ _ _ ho8]; exact cobm
    have cobk := Gc.at cobm8
    have cob4 : (s4.join l2) ob = some (pBlk p v) := join_left (G7.at cobk)
    simp only [go_sem,seval, cob4, G6.cells]
    rw [join_upd_left]
    have K1 := Gc.upd cobm8 (pBlk p v')
    have G8 := G7.upd cobk (pBlk p v')
    obtain ⟨k2, Ge, Gf2⟩ := K1.swap G8
    rw [upd_comm _ _ _ ho8.symm] at Ge
    obtain ⟨n2, Gg, rfl, hn2⟩ := GL.drop (by rw [upd_ne _ _ _ ho8.symm]; exact hm8) Ge
    have TLb := TLa.upd (upd_same _ _ _) (pBlk p v')
    rw [upd_upd] at TLb
    obtain ⟨m3, Gh, TLc⟩ := TLb.swap' Gg
    have ap10 := apart_upd_left ap9 (pBlk p v') ob2
    have hle4 : n2.le (s4.upd ob (pBlk p v')) := AHeap.le_trans (AHeap.le_upd hn2) Gf2.le
    refine ⟨_, _, WeakE.of ?_ (.of_le (join_le_left hle4 ap10)), n2, v', m3, _, qs', rfl, fun b o e => ap10 b o (hle4 b o e), Gh, TLc, ⟨ps1 ++ [pv'], by simp [hps], by simp [hps1]⟩, ?_, ?_, rfl⟩
    ·simp only [go_sem,seval, step_at (l := (nodesOf p.routines).zip (cUps p.routines)) (by unfold few; omega) hp]
    ·rw [liftRs_snoc]
     refine hRL.snoc rfl ?_
     rw [eRoutine_eq]
     have hav := G2.avle
     rw [← List.map_append] at hav
     simp only [liftR, Nat.zero_add]
     exact .cons (.refl _) (.cons (.refl _) (.cons (.refl _) (.cons (.refl _) (.cons hav (.cons (.refl _) (.cons (.sl _ _) (.cons (.refl _) (.cons (.refl _) .nil))))))))
    ·rw [List.any_append, hany]
     simp [tooMany, htm]
  ·rintro e g ⟨s, v, m, O, qs, rfl, aps, G, TLs, _, hRL, hany, rfl⟩
   cases TLs
   have cob : (s.join l2) ob = some (pBlk p v) := join_left (G.at (upd_same _ _ _))
   have crb0 : (H1.upd ob (pBlk p v)) rb = some (.blk [.str (⟨#[]⟩ : ByteArray), .sl [] true, .sl [] true, .sl [] true, .sl [] true, .sl [] true, .sl [] true, .sl [] true, .sl [] true] 9 28) := by rw [upd_ne _ _ _ hrbo, ← hH1, upd_same]
   have crb : ∀ o, ((s.join l2).upd ob o) rb = some (.blk [.str (⟨#[]⟩ : ByteArray), .sl [] true, .sl [] true, .sl [] true, .sl [] true, .sl [] true, .sl [] true, .sl [] true, .sl [] true] 9 28) := fun o => by rw [upd_ne _ _ _ hrbo]; exact join_left (G.at crb0)
   have hbp := ho.body
   simp only [go_sem,seval, lt_end]
   refine lessQ.same ?_
   simp only [go_sem,seval, cob]
   refine tcE (lstmts_spec (by omega) (by omega) _ p.body (Nat.lt_succ_self _) ho.body ho.eachStmt (by unfold wP at hw; omega) false _ (Tl2.le (AHeap.le_join_right aps))) ?_
   simp only [go_sem,seval, cob, crb, upd_same]
   have hL : liftP p = (⟨p.name, p.before, p.mid, p.after, p.recs, p.vars, liftRs (nodesOf p.routines) (cUps p.routines) 0 ((nodesOf p.routines).zip (cUps p.routines)), liftSs (liftF (nodesOf p.routines) (cUps p.routines) (-1)) p.body, p.endd⟩, 0) := by
    unfold liftP
    simp only [if_neg hbig]
    rw [if_neg (by rw [hany]; simp)]
   rw [hL]
   have hle1 : h.le H1 := by rw [← hH1]; exact AHeap.le_upd hrb
   have hob : h ob = none := none_le hle1 hob0
   have hle2 : h.le (s.join l2) := AHeap.le_trans (AHeap.le_trans (le_upd_of hob hle1 _) G.le) (AHeap.le_join _ _)
   refine EndW.less (AVle.tuple (.cons (AVle.agg ?_) (.cons (.refl _) .nil))) (le_upd_of hrb (le_upd_of hob hle2 _) _) ⟨rfl, rfl⟩
   rw [ePrg_eq]
   exact .cons (.refl _) (.cons (.refl _) (.cons (.refl _) (.cons (.refl _) (.cons (.refl _) (.cons (.refl _) (.cons (G.avle.trans (hRL.avle _)) (.cons (.refl _) (.cons (.refl _) .nil))))))))
end Pg

namespace Pg
open Go
set_option linter.all false
set_option maxRecDepth 4000
theorem few_lt {α : Type} {l : List α} (h : l.length ≤ 4611686018427387904) : few l := by unfold few; omega
def FewUps (N : Nat) (f : ByteArray → Option (ByteArray × List Param)) : Prop := ∀ name path us, f name = some (path, us) → us.length ≤ N
theorem liftE_okL {f : ByteArray → Option (ByteArray × List Param)} (hf : FewUps 512 f) {x : Expr} (hl : x.l.length ≤ 1048576) (H : ∀ y ∈ liftEs f x.l, y.ok) : (liftE f x).ok := by
 have hlen : (liftEs f x.l).length = x.l.length := by rw [liftEs_map, List.length_map]
 have h1 : few (liftEs f x.l) := by unfold few; omega
 rw [liftE_eq]
 split
 ·split
  ·rename_i path us he
   have := hf _ _ _ he
   refine (Expr.ok_iff _).2 ⟨few_lt (by simp only [List.length_append, List.length_map]; omega), fun y hy => ?_⟩
   rcases List.mem_append.1 hy with h | h
   ·exact H y h
   ·obtain ⟨u, _, rfl⟩ := List.mem_map.1 h
    exact (Expr.ok_iff _).2 ⟨few_lt (by simp [upE]), by simp [upE]⟩
  ·exact (Expr.ok_iff _).2 ⟨h1, H⟩
 ·exact (Expr.ok_iff _).2 ⟨h1, H⟩
theorem liftE_ok {f : ByteArray → Option (ByteArray × List Param)} (hf : FewUps 512 f) : ∀ (n : Nat) (x : Expr), x.sz < n → wE x ≤ 1048576 → (liftE f x).ok
 | 0, x, h, _ => absurd h (Nat.not_lt_zero _)
 | n + 1, x, h, hw => by
  rw [Expr.sz_eq] at h
  rw [wE_eq] at hw
  have hl := turnE_room x.l
  refine liftE_okL hf (by omega) fun y hy => ?_
  rw [liftEs_map] at hy
  obtain ⟨z, hz, rfl⟩ := List.mem_map.1 hy
  have := Exprs.sz_mem hz
  have := wEs_mem hz
  exact liftE_ok hf n z (by omega) (by omega)
theorem liftEs_ok {f : ByteArray → Option (ByteArray × List Param)} (hf : FewUps 512 f) {l : List Expr} (hw : wEs l ≤ 1048576) : ∀ y ∈ liftEs f l, y.ok := fun y hy => by
 rw [liftEs_map] at hy
 obtain ⟨z, hz, rfl⟩ := List.mem_map.1 hy
 have := wEs_mem hz
 exact liftE_ok hf _ z (Nat.lt_succ_self _) (by omega)
theorem liftS_ok {f : ByteArray → Option (ByteArray × List Param)} (hf : FewUps 512 f) : ∀ (n : Nat) (x : Stmt), x.sz < n → x.ok → wS x ≤ 1048576 → (liftS f x).ok
 | 0, x, h, _, _ => absurd h (Nat.not_lt_zero _)
 | n + 1, x, h, ho, hw => by
  rw [Stmt.sz_eq] at h
  rw [wS_eq] at hw
  obtain ⟨o1, o2, o3, o4, o5, o6, o7, o8, o9, o10, o11⟩ := (Stmt.ok_iff x).1 ho
  have e1 := turnE_room x.e
  have e2 := wSs_len x.body
  have e3 := wSs_len x.els
  have e4 := wE_eq x.p
  have e5 := turnE_room x.p.l
  have ss : ∀ (l : List Stmt), Stmts.sz l < n → (∀ y ∈ l, y.ok) → wSs l ≤ 1048576 → ∀ y ∈ liftSs f l, y.ok := fun l hl hok hw y hy => by
   rw [liftSs_map] at hy
   obtain ⟨z, hz, rfl⟩ := List.mem_map.1 hy
   have := Stmts.sz_mem hz
   have := wSs_mem hz
   exact liftS_ok hf n z (by omega) (hok z hz) (by omega)
  rw [liftS_eq, Stmt.ok_iff]
  refine ⟨o1, o2, (Expr.ok_iff _).2 ⟨few_lt (by simp only [liftEs_map, liftSs_map, List.length_map]; omega), liftEs_ok hf (by omega)⟩, few_lt (by simp only [liftEs_map, liftSs_map, List.length_map]; omega), liftEs_ok hf (by omega), few_lt (by simp only [liftEs_map, liftSs_map, List.length_map]; omega), ss _ (by omega) o7 (by omega), few_lt (by simp only [liftEs_map, liftSs_map, List.length_map]; omega), ss _ (by omega) o9 (by omega), o10, o11⟩
theorem liftSs_ok {f : ByteArray → Option (ByteArray × List Param)} (hf : FewUps 512 f) {l : List Stmt} (ho : ∀ y ∈ l, y.ok) (hw : wSs l ≤ 1048576) : ∀ y ∈ liftSs f l, y.ok := fun y hy => by
 rw [liftSs_map] at hy
 obtain ⟨z, hz, rfl⟩ := List.mem_map.1 hy
 have := wSs_mem hz
 exact liftS_ok hf _ z (Nat.lt_succ_self _) (ho z hz) (by omega)
theorem liftP_good {p : Prg} (h : (liftP p).2 = 0) : (nodesOf p.routines).length ≤ 512 ∧ (∀ q ∈ (nodesOf p.routines).zip (cUps p.routines), q.1.r.params.length + q.2.length ≤ 512) ∧
  (liftP p).1 = ⟨p.name, p.before, p.mid, p.after, p.recs, p.vars, liftRs (nodesOf p.routines) (cUps p.routines) 0 ((nodesOf p.routines).zip (cUps p.routines)), liftSs (liftF (nodesOf p.routines) (cUps p.routines) (-1)) p.body, p.endd⟩ := by
 unfold liftP at h ⊢
 simp only at h ⊢
 split at h
 ·simp at h
 ·rename_i h1
  split at h
  ·simp at h
  ·rename_i h2
   rw [if_neg h1, if_neg h2]
   refine ⟨by omega, fun q hq => ?_, rfl⟩
   simp only [List.any_eq_true, not_exists, not_and] at h2
   have := h2 q hq
   simp [tooMany] at this
   omega
theorem liftF_few {p : Prg} (h : (liftP p).2 = 0) (a : Int) : FewUps 512 (liftF (nodesOf p.routines) (cUps p.routines) a) := fun name path us he => by
 obtain ⟨_, h2, _⟩ := liftP_good h
 unfold liftF at he
 simp only at he
 split at he
 ·cases he
 ·split at he
  ·rename_i n vs e1 e2
   simp only [Option.some.injEq, Prod.mk.injEq] at he
   obtain ⟨rfl, rfl⟩ := he
   have hz : ((nodesOf p.routines).zip (cUps p.routines))[(calleeAt (nodesOf p.routines) name (a + 2).toNat a).toNat]? = some (n, vs) := by
    rw [List.getElem?_zip_eq_some]; exact ⟨e1, e2⟩
   have := h2 _ (List.mem_of_getElem? hz)
   simp only at this; omega
  ·cases he
theorem liftRs_mem {ns : List CN} {ups : List (List Param)} {r : Routine} : ∀ {l : List (CN × List Param)} {i : Nat}, r ∈ liftRs ns ups i l → ∃ (j : Nat) (q : CN × List Param), l[j]? = some q ∧ r = liftR ns ups (i + j) q.1 q.2
 | [], i, h => by simp [liftRs] at h
 | q :: l, i, h => by
  simp only [liftRs, List.mem_cons] at h
  rcases h with rfl | h
  ·exact ⟨0, q, rfl, rfl⟩
  ·obtain ⟨j, q', h1, h2⟩ := liftRs_mem h
   exact ⟨j + 1, q', h1, by rw [h2, Nat.add_assoc, Nat.add_comm 1 j]⟩
theorem lift_ok {p : Prg} (ho : p.ok) (hw : wP p ≤ 1048576) (h : (liftP p).2 = 0) : (liftP p).1.ok := by
 obtain ⟨h1, h2, h3⟩ := liftP_good h
 have hwr : wRs p.routines ≤ 1048576 := by unfold wP at hw; omega
 have hwb : wSs p.body ≤ 1048576 := by unfold wP at hw; omega
 have hall : ∀ n ∈ nodesOf p.routines, n.r.ok ∧ wR n.r ≤ 1048576 := capL_all (P := fun x => x.ok ∧ wR x ≤ 1048576) (fun x hx y hy => ⟨((Routine.ok_iff x).1 hx.1).2.2.2.2.2.2.1 y hy, Nat.le_trans (wR_in hy) hx.2⟩) _ p.routines (Nat.lt_succ_self _) (fun x hx => ⟨ho.eachRoutine x hx, Nat.le_trans (wRs_mem hx) hwr⟩) 0 p.routines (-1) noBytes
 rw [h3]
 refine ⟨ho.before, ho.mid, ho.after, ho.recs, ho.eachRec, ho.vars, ho.eachVar, few_lt ?_, fun r hr => ?_, few_lt ?_, liftSs_ok (liftF_few h _) ho.eachStmt (by omega), ho.endd⟩
 ·simp only
  rw [liftRs_len, List.length_zip]; omega
 ·obtain ⟨j, q, hq, rfl⟩ := liftRs_mem hr
  have hm := List.mem_of_getElem? hq
  have hqn : q.1 ∈ nodesOf p.routines := (List.of_mem_zip (show (q.1, q.2) ∈ _ from hm)).1
  obtain ⟨o, w⟩ := hall _ hqn
  obtain ⟨o1, o2, o3, o4, o5, o6, o7, o8, o9, o10⟩ := (Routine.ok_iff _).1 o
  rw [wR_eq] at w
  have := h2 _ hm
  have e := wSs_len q.1.r.body
  refine (Routine.ok_iff _).2 ⟨o1, o2, few_lt (by simp only [liftR, List.length_append]; omega), o4, o5, few_lt (by simp [liftR]), by simp [liftR], few_lt (by simp only [liftR]; rw [liftSs_map, List.length_map]; omega), liftSs_ok (liftF_few h _) o9 (by omega), o10⟩
 ·simp only
  have e := wSs_len p.body
  rw [liftSs_map, List.length_map]; omega
theorem callee_name {ns : List CN} {name : ByteArray} : ∀ (f : Nat) (a : Int), ¬ calleeAt ns name f a < 0 → ∃ n, ns[(calleeAt ns name f a).toNat]? = some n ∧ n.r.name = name
 | 0, a, h => by simp [calleeAt] at h
 | f + 1, a, h => by
  simp only [calleeAt] at h ⊢
  cases hi : ns.findIdx? (fun n => decide (n.around = a) && decide (n.r.name = name)) with
  | some i =>
   simp only [hi] at h ⊢
   obtain ⟨hl, hp, _⟩ := List.findIdx?_eq_some_iff_getElem.1 hi
   simp only [Bool.and_eq_true, decide_eq_true_eq] at hp
   exact ⟨ns[i], by simp [List.getElem?_eq_getElem hl], hp.2⟩
  | none =>
   simp only [hi] at h ⊢
   split at h
   ·simp at h
   ·rename_i ha
    rw [if_neg ha]
    split at h
    ·rename_i n hn
     exact callee_name f n.around h
    ·simp at h
theorem tree_nodes {p : Prg} (ht : tPrg p = true) : ∀ n ∈ nodesOf p.routines, ∃ a d, tRoutine a n.r d = true := by
 have hr : tRoutines [] p.routines 1 = true := by
  unfold tPrg at ht
  simp only [Bool.and_eq_true, decide_eq_true_eq] at ht
  exact ht.1.2.1
 refine capL_all (P := fun x => ∃ a d, tRoutine a x d = true) (fun x hx y hy => ?_) _ p.routines (Nat.lt_succ_self _) (fun x hx => ?_) 0 p.routines (-1) noBytes
 ·obtain ⟨a, d, h⟩ := hx
  rw [tRoutine_eq] at h
  simp only [Bool.and_eq_true, decide_eq_true_eq] at h
  obtain ⟨⟨_, hin, _⟩, _⟩ := h
  obtain ⟨a', h'⟩ := tRoutines_mem hin hy
  exact ⟨a', _, h'⟩
 ·obtain ⟨a, h⟩ := tRoutines_mem hr hx
  exact ⟨a, _, h⟩
end Pg
