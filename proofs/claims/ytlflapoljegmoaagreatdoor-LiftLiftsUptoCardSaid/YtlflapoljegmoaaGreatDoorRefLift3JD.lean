import Derived.Test.YtlflapoljegmoaaGreatDoorTreeSD
import Derived.Test.YtlflapoljegmoaaGreatDoorLift3JD
import Derived.Test.YtlflapoljegmoaaGreatDoorMap3JD
import Derived.Test.YtlflapoljegmoaaGreatDoorLwXD
import Derived.Test.YtlflapoljegmoaaGreatDoorCodeGJD
import Derived.Test.YtlflapoljegmoaaGreatDoorRuXD
import Derived.Test.YtlflapoljegmoaaGreatDoorR12XD
import Derived.Test.YtlflapoljegmoaaGreatDoorRightCJD
namespace Pg
open Go Go.Proofs.Tryz
set_option linter.all false
set_option maxHeartbeats 4000000
set_option maxRecDepth 4000
def zPrg : Prg := ⟨noBytes, [], [], [], [], [], [], [], []⟩
def liftR (ns : List CN) (ups : List (List Param)) (i : Nat) (n : CN) (us : List Param) : Routine := ⟨n.r.before, n.r.trail, n.path, n.r.result, n.r.params ++ us, n.r.vars, [], liftSs (liftF ns ups i) n.r.body, n.r.endd⟩
def liftRs (ns : List CN) (ups : List (List Param)) : Nat → List (CN × List Param) → List Routine
 | _, [] => []
 | i, q :: l => liftR ns ups i q.1 q.2 :: liftRs ns ups (i + 1) l
def tooMany (q : CN × List Param) : Bool := decide (512 < q.1.r.params.length + q.2.length)
noncomputable def liftP (p : Prg) : Prg × Int :=
 let ns := nodesOf p.routines
 let ups := cUps p.routines
 if 512 < ns.length then (zPrg, 3)
 else if (ns.zip ups).any tooMany then (zPrg, 3)
 else (⟨p.name, p.before, p.mid, p.after, p.recs, p.vars, liftRs ns ups 0 (ns.zip ups), liftSs (liftF ns ups (-1)) p.body, p.endd⟩, 0)
theorem liftRs_snoc (ns : List CN) (ups : List (List Param)) (q : CN × List Param) : ∀ (l : List (CN × List Param)) (i : Nat), liftRs ns ups i (l ++ [q]) = liftRs ns ups i l ++ [liftR ns ups (i + l.length) q.1 q.2]
 | [], i => by simp [liftRs]
 | r :: l, i => by simp only [List.cons_append, liftRs, List.length_cons]; rw [liftRs_snoc ns ups q l, show i + 1 + l.length = i + (l.length + 1) by omega]
def RLe (rows : List (List AV)) (xs : List Routine) : Prop := rows.length = xs.length ∧ ∀ (i : Nat) e x, rows[i]? = some e → xs[i]? = some x → e.length = 9 ∧ AVles e (eRoutine x)
theorem RLe.snoc {rows : List (List AV)} {xs : List Routine} (r : RLe rows xs) {e : List AV} {x : Routine} (hl : e.length = 9) (h : AVles e (eRoutine x)) : RLe (rows ++ [e]) (xs ++ [x]) := by
 refine ⟨by simp [r.1], fun i e' x' h1 h2 => ?_⟩
 rcases Nat.lt_or_ge i rows.length with hi | hi
 ·rw [List.getElem?_append_left hi] at h1
  rw [List.getElem?_append_left (by rw [← r.1]; exact hi)] at h2
  exact r.2 i e' x' h1 h2
 ·rw [List.getElem?_append_right hi] at h1
  rw [List.getElem?_append_right (by rw [← r.1]; exact hi), ← r.1] at h2
  cases hz : i - rows.length with
  | zero => rw [hz] at h1 h2; simp at h1 h2; subst h1 h2; exact ⟨hl, h⟩
  | succ k => rw [hz] at h1; simp at h1
theorem RLe.avle {rows : List (List AV)} {xs : List Routine} (r : RLe rows xs) (f : Bool) : AVle (.sl rows f) (.sl (xs.map eRoutine) false) := by
 refine AVle.rows (by simp [r.1]) fun i e e' h1 h2 => ?_
 rw [List.getElem?_map, Option.map_eq_some_iff] at h2
 obtain ⟨x, hx, rfl⟩ := h2
 obtain ⟨a, b⟩ := r.2 i e x h1 hx
 exact ⟨by rw [a, eRoutine_len], b⟩
theorem join_le_left {n s l : AHeap} (le : n.le s) (a : s.apart l) : (n.join l).le (s.join l) := by
 intro b o e
 rcases AHeap.join_cases e with h | ⟨h1, h2⟩
 ·exact join_left (le b o h)
 ·rw [join_right]
  ·exact h2
  ·exact apart_at a h2
theorem zPrg_le : AVle (.agg [.str (⟨#[]⟩ : ByteArray), .sl [] true, .sl [] true, .sl [] true, .sl [] true, .sl [] true, .sl [] true, .sl [] true, .sl [] true]) (.agg (ePrg zPrg)) := by
 rw [ePrg_eq]
 exact AVle.agg (.cons (.refl _) (.cons (.sl _ _) (.cons (.sl _ _) (.cons (.sl _ _) (.cons (.sl _ _) (.cons (.sl _ _) (.cons (.sl _ _) (.cons (.sl _ _) (.cons (.sl _ _) .nil)))))))))
abbrev kPv (p : Prg) (v : AV) : List AV := [.str p.name, eTexts p.before, eTexts p.mid, eTexts p.after, .sl (p.recs.map eRec) false, .sl (p.vars.map eVar) false, v, .sl (p.body.map eStmt) false, eTexts p.endd]
abbrev pBlk (p : Prg) (v : AV) : AObj := .blk (kPv p v) 9 28
theorem Lift_bad [GI] (h : AHeap) (p : Prg) (ho : p.ok) (hc : (check p).2 ≠ 0) : ACalls prog 9 [.agg (ePrg p)] h (fun v g => v = .tuple [.agg (ePrg zPrg), .int .i64 1] ∧ g = h) := by
 refine F9.calls (by simp) ?_
 delta F9.c0
 simp only [go_sem,seval]
 refine afreshT_intro fun rb hrb => ?_
 simp only [go_sem,seval, ePrg_len, prg_take]
 refine tcE (lof_bad _ p ho hc) ?_
 simp only [go_sem,seval, upd_same, upd_upd]
 refine EndW.less (AVle.tuple (.cons zPrg_le (.cons (.refl _) .nil))) (AHeap.le_upd hrb) ⟨rfl, rfl⟩
theorem nodes_pre (p : List Routine) : (nodesOf p).map (·.r) = preL p := capL_pre p 0 p (-1) noBytes
theorem liftRs_len (ns : List CN) (ups : List (List Param)) : ∀ (l : List (CN × List Param)) (i : Nat), (liftRs ns ups i l).length = l.length
 | [], i => rfl
 | q :: l, i => by simp [liftRs, liftRs_len ns ups l]
theorem ups_len (p : List Routine) (us : List Param) (h : us ∈ cUps p) : us.length ≤ wRs p := by
 unfold cUps at h
 obtain ⟨j, _, rfl⟩ := List.mem_map.1 h
 have := upN_len (fun i k => @decide (Caps (gra p) j (i, k)) (Classical.propDecidable _)) (nodesOf p) 0
 exact Nat.le_trans this (nLocs_le _ p (Nat.lt_succ_self _) 0 p (-1) noBytes)
theorem Lift_good [GI] (hm : Max0) (h : AHeap) (p : Prg) (ho : p.ok) (hw : wP p ≤ 1048576) (hc : (check p).2 = 0) :
  ACalls prog 9 [.agg (ePrg p)] h (fun v g => v = .tuple [.agg (ePrg (liftP p).1), .int .i64 (liftP p).2] ∧ g = h) := by
 obtain ⟨b1, b2⟩ := prg_bounds hw
 have hns : (nodesOf p.routines).length ≤ 1048576 := by
  show (capL 0 p.routines (-1) noBytes p.routines).length ≤ _
  rw [capL_len]
  have := rcnts_le _ p.routines (Nat.le_refl _)
  unfold wP at hw; omega
 have hwr : wRs p.routines ≤ 1048576 := by unfold wP at hw; omega
 have hall : ∀ n ∈ nodesOf p.routines, n.r.ok ∧ wR n.r ≤ 1048576 := capL_all (P := fun x => x.ok ∧ wR x ≤ 1048576) (fun x hx y hy => ⟨((Routine.ok_iff x).1 hx.1).2.2.2.2.2.2.1 y hy, Nat.le_trans (wR_in hy) hx.2⟩) _ p.routines (Nat.lt_succ_self _) (fun x hx => ⟨ho.eachRoutine x hx, Nat.le_trans (wRs_mem hx) hwr⟩) 0 p.routines (-1) noBytes
 refine F9.calls (by simp) ?_
 delta F9.c0
 simp only [go_sem,seval]
 refine afreshT_intro fun rb hrb => ?_
 simp only [go_sem,seval, ePrg_len, prg_take]
 refine callT_of (lof_good _ p ho b1 b2 hc) (fun v g hg => ?_)
 obtain ⟨tb, l1, u1, u2, rfl, rfl, ap1, R0, ps0, FL0, T1⟩ := hg
 have htb := (AHeap.le_join_right ap1) _ _ T1.hb
 have hR0 : R0.length = (nodesOf p.routines).length := by rw [FL0.len.1, List.length_map]
 simp only [go_sem,seval, htb, T1.o1.len, hR0]
 by_cases hbig : 512 < (nodesOf p.routines).length
 ·have hL : liftP p = (zPrg, 3) := by unfold liftP; simp [hbig]
  rw [hL]
  have hbi : (512 : Int) < ((nodesOf p.routines).length : Int) := by omega
  have hrb1 : ∀ o, ((h.upd rb o).join l1) rb = some o := fun o => join_left (upd_same _ _ _)
  simp only [go_sem,seval, hbi, hrb1, upd_same, upd_upd]
  refine EndW.less (AVle.tuple (.cons zPrg_le (.cons (.refl _) .nil))) (le_upd_of hrb (AHeap.le_trans (AHeap.le_upd hrb) (AHeap.le_join _ _)) _) ⟨rfl, rfl⟩
 ·have hbi : ¬ (512 : Int) < ((nodesOf p.routines).length : Int) := by omega
  simp only [go_sem,seval, hbi, ePrg_len, prg_take]
  refine callT_of (tRename_spec hm p ho hw _) (fun v k hk => ?_)
  obtain ⟨rows, ps, rfl, KR, TT⟩ := hk
  obtain ⟨n0, T2, rfl, ap2⟩ := TT.unjoin ap1
  simp only [go_sem,seval]
  refine afreshT_intro fun ob hob => ?_
  obtain ⟨hob1, hob2⟩ := join_none hob
  have n0tb := apart_at ap2 T1.hb
  have hot : ob ≠ tb := by intro hh; subst hh; rw [T1.hb] at hob2; cases hob2
  have htb2 : ∀ o, ((n0.join l1).upd ob o) tb = some (tBlk u1 u2 (pathsV p) (upsV p)) := fun o => by rw [upd_ne _ _ _ hot.symm]; exact (AHeap.le_join_right ap2) _ _ T1.hb
  have hobf : ∀ (H : AHeap) o1 o2, ((H.upd ob o1).upd tb o2) ob = some o1 := fun H o1 o2 => by rw [upd_ne _ _ _ hot, upd_same]
  simp only [go_sem,seval, upd_same, upd_upd, htb2, hobf]
  rw [join_upd_left, join_upd_right _ _ (by rw [upd_ne _ _ _ hot.symm]; exact n0tb)]
  have ap3 := apart_upd_right (apart_upd_left ap2 (pBlk p (.sl rows false)) hob2) (tBlk (.sl [] true) (.sl [] true) (pathsV p) (upsV p)) (b := tb) (by rw [upd_ne _ _ _ hot.symm]; exact n0tb)
  have T3 : Tb (l1.upd tb (tBlk (.sl [] true) (.sl [] true) (pathsV p) (upsV p))) tb (.sl [] true) (.sl [] true) (.sl [] true) (.sl [] true) [] [] (pathsV p) (upsV p) := ⟨upd_same _ _ _, .nil _ _ _, .nil _ _ _, .nil _, .nil _, fun _ _ _ e => by cases e⟩
  refine callT_of (ladd_spec _ p.routines (Nat.lt_succ_self _) ho.routines ho.eachRoutine _ _ tb _ _ _ _ [] [] (-1) p.routines noBytes false rows ps KR ap3 T3 (by simpa using b1) rfl) (fun w g hg => ?_)
  obtain ⟨rfl, l2, w1, w2, R, rfl, ap4, FL, T4⟩ := hg
  simp only [List.nil_append, List.length_nil] at T4 FL
  change Flat ((nodesOf p.routines).map (·.r)) R ps at FL
  change Tb l2 tb w1 w2 w1 w2 R ((nodesOf p.routines).map aRow) _ _ at T4
  have ob2 : l2 ob = none := ap4 ob _ (upd_same _ _ _)
  have hobj : ((n0.upd ob (pBlk p (.sl rows false))).join l2) ob = some (pBlk p (.sl rows false)) := join_left (upd_same _ _ _)
  have ap5 := apart_upd_left ap4 (pBlk p (.sl [] true)) ob2
  rw [upd_upd] at ap5
  have T5 := T2.fresh hob1 (pBlk p (.sl [] true))
  have hups : (cUps p.routines).length = (nodesOf p.routines).length := by unfold cUps; rw [List.length_map, List.length_range]; rfl
  have hzip : ((nodesOf p.routines).zip (cUps p.routines)).length = (nodesOf p.routines).length := by rw [List.length_zip, hups]; omega
  have hR : R.length = ((nodesOf p.routines).zip (cUps p.routines)).length := by rw [FL.len.1, List.length_map, hzip]
  have hT : ((n0.upd ob (pBlk p (.sl [] true))).join l2) tb = some (tBlk w1 w2 (pathsV p) (upsV p)) := (AHeap.le_join_right ap5) _ _ T4.hb
  simp only [go_sem,seval, hobj]
  rw [join_upd_left, upd_upd]
  simp only [go_sem,seval, hT, T4.o1.len, hR]
  have hob0 : (h.upd rb (.blk [.str (⟨#[]⟩ : ByteArray), .sl [] true, .sl [] true, .sl [] true, .sl [] true, .sl [] true, .sl [] true, .sl [] true, .sl [] true] 9 28)) ob = none := none_le T2.le hob1
  have hpre : ((nodesOf p.routines).zip (cUps p.routines)).map (fun q => q.1.r) = preL p.routines := by
   rw [← nodes_pre, ← List.map_fst_zip (l₁ := nodesOf p.routines) (l₂ := cUps p.routines) (by omega), List.map_map]
   rw [List.map_fst_zip (by omega)]
   rfl
  generalize hH1 : h.upd rb (.blk [.str (⟨#[]⟩ : ByteArray), .sl [] true, .sl [] true, .sl [] true, .sl [] true, .sl [] true, .sl [] true, .sl [] true, .sl [] true] 9 28) = H1 at T5 hob0
  generalize n0.upd ob (pBlk p (.sl [] true)) = s0 at T5 ap5 hT
  have hrbo : rb ≠ ob := by intro hh; subst hh; rw [← hH1, upd_same] at hob0; cases hob0
  have har : ∀ (i : Nat) n, (nodesOf p.routines)[i]? = some n → n.around < (i : Int) ∧ -1 ≤ n.around := fun i n hn => by
   have := capL_around _ p.routines (Nat.lt_succ_self _) 0 p.routines (-1) noBytes (by omega) (by omega) i n hn
   omega
  have Tl2 : Tv l2 tb (nodesOf p.routines) (cUps p.routines) := ⟨hns, har, hups, fun us hu => Nat.le_trans (ups_len p.routines us hu) hwr, w1, w2, R, ps, T4.hb, FL, T4.o1, T4.o2⟩
  refine lT_list ((nodesOf p.routines).zip (cUps p.routines)) (fun pre post e g => ∃ s v m O qs, g = s.join l2 ∧ s.apart l2 ∧ GL 43 9 (H1.upd ob (pBlk p v)) m v O ∧ TL m s qs (post.map fun q => q.1.r) ∧ (∃ ps1, ps = ps1 ++ qs ∧ ps1.length = pre.length) ∧ RLe O (liftRs (nodesOf p.routines) (cUps p.routines) 0 pre) ∧ pre.any tooMany = false ∧ e = [(2, .ptr (some ⟨rb, 0, none⟩)), (4, .ptr (some ⟨tb, 0, none⟩)), (6, .ptr (some ⟨ob, 0, none⟩)), (40, w1), (41, .int .i64 ((nodesOf p.routines).zip (cUps p.routines)).length), (42, .int .i64 pre.length)]) (WeakE.env ?_) ⟨s0, .sl [] true, _, [], ps, rfl, ap5, .nil _, by rw [hpre]; exact T5, ⟨[], rfl, rfl⟩, ⟨rfl, fun i e x h => by simp at h⟩, rfl, rfl⟩ ?_ ?_
  ·simp only [go_sem,seval]
  ·rintro pre ⟨n, us⟩ post e g hp ⟨s, v, m, O, qs, rfl, aps, G, TLs, ⟨ps1, hps, hps1⟩, hRL, hany, rfl⟩
   have hi := (at_pre hp).1
   have hil := (at_pre hp).2
   rw [List.getElem?_zip_eq_some] at hi
   obtain ⟨hn, hu⟩ := hi
   simp only [List.map_cons] at TLs
   cases TLs with
   | @cons _ m1 _ pv _ qs' _ Gp TLr =>
   obtain ⟨pv', ir, hpv', hRi⟩ := FL.get (i := pre.length) (x := n.r) (by simp [hn])
   have hpe : pv' = pv := by
    rw [hps, ← hps1] at hpv'
    simpa using hpv'.symm
   subst hpe
   obtain ⟨bb, cs, tot, e1, e2, e3, e4, e5⟩ := (T4.o1.of_le (AHeap.le_join_right aps)).at (k := .i64) hRi
   simp only [go_sem,seval, lt_at hp, e1, e2, e3, e4, kRow_len, kRow_take]
   refine afreshT_intro fun b8 hb8 => ?_
   obtain ⟨hb81, hb82⟩ := join_none hb8
   have n8t : tb ≠ b8 := by intro hh; subst hh; rw [T4.hb] at hb82; cases hb82
   have hT8 : ∀ o, ((s.join l2).upd b8 o) tb = some (tBlk w1 w2 (pathsV p) (upsV p)) := fun o => by rw [upd_ne _ _ _ n8t]; exact (AHeap.le_join_right aps) _ _ T4.hb
   have hr1 : ((gra p.routines).ns.map fun n => [AV.str n.path])[pre.length]? = some [.str n.path] := by
    show ((nodesOf p.routines).map fun n => [AV.str n.path])[pre.length]? = _
    simp [hn]
   have hr2 : ((cUps p.routines).map uRow)[pre.length]? = some (uRow us) := by simp [hu]
   simp only [go_sem,seval, upd_same, upd_upd, hT8, aia_sl (size := 1) hr1 rfl, aia_sl (size := 1) hr2 rfl]
   refine ⟨fun e he => by obtain ⟨u, _, rfl⟩ := List.mem_map.1 he; exact eParam_len u, ?_⟩
   obtain ⟨n1, TLn, Gs⟩ := TL.swap Gp TLr
   have Gf := Gs.fresh hb81 (.blk [eTexts n.r.before, eTexts n.r.trail, .str n.path, .int .i64 n.r.result, pv', .sl (n.r.vars.map eVar) false, ir, .sl (n.r.body.map eStmt) false, eTexts n.r.endd] 9 43)
   have apx := apart_upd_left aps (.blk [eTexts n.r.before, eTexts n.r.trail, .str n.path, .int .i64 n.r.result, pv', .sl (n.r.vars.map eVar) false, ir, .sl (n.r.body.map eStmt) false, eTexts n.r.endd] 9 43) hb82
   rw [join_upd_left]
   obtain ⟨hnok, hnw⟩ := hall n (List.mem_of_getElem? hn)
   have hnw' := wR_eq n.r
   have hup := ups_len p.routines us (List.mem_of_getElem? hu)
   refine (Gf.tojoin apx).append (new := us.map eParam) (by simp) rfl (fun e he => by obtain ⟨u, _, rfl⟩ := List.mem_map.1 he; exact eParam_len u) (by unfold roomFor; simp; omega) (fun v2 h2 G2 => ?_)
   obtain ⟨s2, G3, rfl, ap6⟩ := G2.unjoin (fun b o e => apx b o (Gf.le b o e))
   have e6 : (s2.join l2) b8 = some (.blk [eTexts n.r.before, eTexts n.r.trail, .str n.path, .int .i64 n.r.result, pv', .sl (n.r.vars.map eVar) false, ir, .sl (n.r.body.map eStmt) false, eTexts n.r.endd] 9 43) := join_left (G3.at (upd_same _ _ _))
   have hT9 : (s2.join l2) tb = some (tBlk w1 w2 (pathsV p) (upsV p)) := (AHeap.le_join_right ap6) _ _ T4.hb
   have hlen : (n.r.params.map eParam ++ us.map eParam).length = n.r.params.length + us.length := by simp
   simp only [go_sem,seval, e6, hT9, G2.cells]
   refine ⟨⟨.inr (by decide), .inr (by decide)⟩, ?_⟩
   have hn8 : n1 b8 = none := none_le Gs.le hb81
   have crb0 : (H1.upd ob (pBlk p v)) rb = some (.blk [.str (⟨#[]⟩ : ByteArray), .sl [] true, .sl [] true, .sl [] true, .sl [] true, .sl [] true, .sl [] true, .sl [] true, .sl [] true] 9 28) := by rw [upd_ne _ _ _ hrbo, ← hH1, upd_same]
   have crb1 : n1 rb = some (.blk [.str (⟨#[]⟩ : ByteArray), .sl [] true, .sl [] true, .sl [] true, .sl [] true, .sl [] true, .sl [] true, .sl [] true, .sl [] true] 9 28) := TLn.le _ _ (G.le _ _ crb0)
   have hr8 : rb ≠ b8 := by intro hh; subst hh; rw [hn8] at crb1; cases crb1
   have crb : ∀ o, ((s2.join l2).upd b8 o) rb = some (.blk [.str (⟨#[]⟩ : ByteArray), .sl [] true, .sl [] true, .sl [] true, .sl [] true, .sl [] true, .sl [] true, .sl [] true, .sl [] true] 9 28) := fun o => by
    rw [upd_ne _ _ _ hr8]; exact join_left (G3.at (AHeap.le_upd hn8 _ _ crb1))
   have cob1 : n1 ob = some (pBlk p v) := TLn.le _ _ (G.le _ _ (upd_same _ _ _))
   have ho8 : ob ≠ b8 := by intro hh; subst hh; rw [hn8] at cob1; cases cob1
   have cob : ∀ o, ((s2.join l2).upd b8 o) ob = some (pBlk p v) := fun o => by
    rw [upd_ne _ _ _ ho8]; exact join_left (G3.at (AHeap.le_upd hn8 _ _ cob1))
   have hT10 : ∀ o, ((s2.join l2).upd b8 o) tb = some (tBlk w1 w2 (pathsV p) (upsV p)) := fun o => by rw [upd_ne _ _ _ n8t]; exact hT9
   by_cases htm : 512 < n.r.params.length + us.length
   ·have hL : liftP p = (zPrg, 3) := by
     have hy : (nodesOf p.routines).zip (cUps p.routines) |>.any tooMany := by
      rw [hp, List.any_append, List.any_cons]
      simp [tooMany, htm]
     unfold liftP
     simp only [if_neg hbig]
     rw [if_pos hy]
    have hgt : (512 : Int) < ((n.r.params.length + us.length : Nat) : Int) := by omega
    simp only [go_sem,seval, G2.len, hlen, hgt, crb]
    refine lessQ.same ?_
    simp only [go_sem,seval, crb, upd_same]
    rw [hL]
    have hle1 : h.le H1 := by rw [← hH1]; exact AHeap.le_upd hrb
    have hle2 : h.le (s2.join l2) := AHeap.le_trans (AHeap.le_trans (AHeap.le_trans (AHeap.le_trans (le_upd_of (none_le hle1 hob0) hle1 _) G.le) TLn.le) (AHeap.le_upd hn8)) (AHeap.le_trans G3.le (AHeap.le_join _ _))
    refine EndW.less (AVle.tuple (.cons zPrg_le (.cons (.refl _) .nil))) (le_upd_of hrb (le_upd_of ?_ hle2 _) _) ⟨rfl, rfl⟩
    exact none_le (AHeap.le_trans (le_upd_of (none_le hle1 hob0) hle1 _) (AHeap.le_trans G.le TLn.le)) hn8
   ·have hgt : ¬ (512 : Int) < ((n.r.params.length + us.length : Nat) : Int) := by omega
    have Tvv : ∀ o, Tv ((s2.join l2).upd b8 o) tb (nodesOf p.routines) (cUps p.routines) := fun o => by
     rw [join_upd_left]
     exact Tl2.le (AHeap.le_join_right (apart_upd_left ap6 o hb82))
    have hrok := (Routine.ok_iff n.r).1 hnok
    simp only [go_sem,seval, G2.len, hlen, hgt, upd_same, upd_upd]
    refine tcE (lstmts_spec (by omega) (by omega) _ n.r.body (Nat.lt_succ_self _) hrok.2.2.2.2.2.2.2.1 hrok.2.2.2.2.2.2.2.2.1 (by omega) false _ (Tvv _)) ?_
    simp only [go_sem,seval, upd_same, upd_upd, cob]
    rw [join_upd_left]
    obtain ⟨m', TLa, Ga⟩ := TL.swap G TLn
    have Gb := Ga.fresh hn8 (.blk [eTexts n.r.before, eTexts n.r.trail, .str n.path, .int .i64 n.r.result, v2, .sl (n.r.vars.map eVar) false, .sl [] true, .sl ((liftSs (liftF (nodesOf p.routines) (cUps p.routines) (pre.length : Int)) n.r.body).map eStmt) false, eTexts n.r.endd] 9 43)
    have G5 := G3.upd (upd_same _ _ _) (.blk [eTexts n.r.before, eTexts n.r.trail, .str n.path, .int .i64 n.r.result, v2, .sl (n.r.vars.map eVar) false, .sl [] true, .sl ((liftSs (liftF (nodesOf p.routines) (cUps p.routines) (pre.length : Int)) n.r.body).map eStmt) false, eTexts n.r.endd] 9 43)
    rw [upd_upd] at G5
    obtain ⟨k, Gc, Gd⟩ := Gb.swap G5
    have ap8 := apart_upd_left ap6 (.blk [eTexts n.r.before, eTexts n.r.trail, .str n.path, .int .i64 n.r.result, v2, .sl (n.r.vars.map eVar) false, .sl [] true, .sl ((liftSs (liftF (nodesOf p.routines) (cUps p.routines) (pre.length : Int)) n.r.body).map eStmt) false, eTexts n.r.endd] 9 43) hb82
    have hOl : O.length = pre.length := by rw [hRL.1]; exact liftRs_len _ _ _ _
    refine (Gd.tojoin ap8).append1 (xs := [eTexts n.r.before, eTexts n.r.trail, .str n.path, .int .i64 n.r.result, v2, .sl (n.r.vars.map eVar) false, .sl [] true, .sl ((liftSs (liftF (nodesOf p.routines) (cUps p.routines) (pre.length : Int)) n.r.body).map eStmt) false, eTexts n.r.endd]) rfl (by rw [hOl]; unfold roomFor; omega) (fun v' h3 G6 => ?_)
    obtain ⟨s4, G7, rfl, ap9⟩ := G6.unjoin (fun b o e => ap8 b o (Gd.le b o e))
    have hm8 : m' b8 = none := none_le Ga.le hn8
    have cobm : m' ob = some (pBlk p v) := TLa.le _ _ (upd_same _ _ _)
    have cobm8 : (m'.upd b8 (.blk [eTexts n.r.before, eTexts n.r.trail, .str n.path, .int .i64 n.r.result, v2, .sl (n.r.vars.map eVar) false, .sl [] true, .sl ((liftSs (liftF (nodesOf p.routines) (cUps p.routines) (pre.length : Int)) n.r.body).map eStmt) false, eTexts n.r.endd] 9 43)) ob = some (pBlk p v) := by rw [upd_ne _ _ _ ho8]; exact cobm
    have cobk := Gc.at cobm8
    have cob4 : (s4.join l2) ob = some (pBlk p v) := join_left (G7.at cobk)
    simp only [go_sem,seval, cob4, G6.cells]
    rw [join_upd_left]
    have K1 := Gc.upd cobm8 (pBlk p v')
    have G8 := G7.upd cobk (pBlk p v')
    obtain ⟨k2, Ge, Gf2⟩ := K1.swap G8
    rw [upd_comm _ _ _ ho8.symm] at Ge
    obtain ⟨n2, Gg, rfl, hn2⟩ := GL.drop (by rw [upd_ne _ _ _ ho8.symm]; exact hm8) Ge
    have TLb := TLa.upd (upd_same _ _ _) (pBlk p v')
    rw [upd_upd] at TLb
    obtain ⟨m3, Gh, TLc⟩ := TLb.swap' Gg
    have ap10 := apart_upd_left ap9 (pBlk p v') ob2
    have hle4 : n2.le (s4.upd ob (pBlk p v')) := AHeap.le_trans (AHeap.le_upd hn2) Gf2.le
    refine ⟨_, _, WeakE.of ?_ (.of_le (join_le_left hle4 ap10)), n2, v', m3, _, qs', rfl, fun b o e => ap10 b o (hle4 b o e), Gh, TLc, ⟨ps1 ++ [pv'], by simp [hps], by simp [hps1]⟩, ?_, ?_, rfl⟩
    ·simp only [go_sem,seval, step_at (l := (nodesOf p.routines).zip (cUps p.routines)) (by unfold few; omega) hp]
    ·rw [liftRs_snoc]
     refine hRL.snoc rfl ?_
     rw [eRoutine_eq]
     have hav := G2.avle
     rw [← List.map_append] at hav
     simp only [liftR, Nat.zero_add]
     exact .cons (.refl _) (.cons (.refl _) (.cons (.refl _) (.cons (.refl _) (.cons hav (.cons (.refl _) (.cons (.sl _ _) (.cons (.refl _) (.cons (.refl _) .nil))))))))
    ·rw [List.any_append, hany]
     simp [tooMany, htm]
  ·rintro e g ⟨s, v, m, O, qs, rfl, aps, G, TLs, _, hRL, hany, rfl⟩
   cases TLs
   have cob : (s.join l2) ob = some (pBlk p v) := join_left (G.at (upd_same _ _ _))
   have crb0 : (H1.upd ob (pBlk p v)) rb = some (.blk [.str (⟨#[]⟩ : ByteArray), .sl [] true, .sl [] true, .sl [] true, .sl [] true, .sl [] true, .sl [] true, .sl [] true, .sl [] true] 9 28) := by rw [upd_ne _ _ _ hrbo, ← hH1, upd_same]
   have crb : ∀ o, ((s.join l2).upd ob o) rb = some (.blk [.str (⟨#[]⟩ : ByteArray), .sl [] true, .sl [] true, .sl [] true, .sl [] true, .sl [] true, .sl [] true, .sl [] true, .sl [] true] 9 28) := fun o => by rw [upd_ne _ _ _ hrbo]; exact join_left (G.at crb0)
   have hbp := ho.body
   simp only [go_sem,seval, lt_end]
   refine lessQ.same ?_
   simp only [go_sem,seval, cob]
   refine tcE (lstmts_spec (by omega) (by omega) _ p.body (Nat.lt_succ_self _) ho.body ho.eachStmt (by unfold wP at hw; omega) false _ (Tl2.le (AHeap.le_join_right aps))) ?_
   simp only [go_sem,seval, cob, crb, upd_same]
   have hL : liftP p = (⟨p.name, p.before, p.mid, p.after, p.recs, p.vars, liftRs (nodesOf p.routines) (cUps p.routines) 0 ((nodesOf p.routines).zip (cUps p.routines)), liftSs (liftF (nodesOf p.routines) (cUps p.routines) (-1)) p.body, p.endd⟩, 0) := by
    unfold liftP
    simp only [if_neg hbig]
    rw [if_neg (by rw [hany]; simp)]
   rw [hL]
   have hle1 : h.le H1 := by rw [← hH1]; exact AHeap.le_upd hrb
   have hob : h ob = none := none_le hle1 hob0
   have hle2 : h.le (s.join l2) := AHeap.le_trans (AHeap.le_trans (le_upd_of hob hle1 _) G.le) (AHeap.le_join _ _)
   refine EndW.less (AVle.tuple (.cons (AVle.agg ?_) (.cons (.refl _) .nil))) (le_upd_of hrb (le_upd_of hob hle2 _) _) ⟨rfl, rfl⟩
   rw [ePrg_eq]
   exact .cons (.refl _) (.cons (.refl _) (.cons (.refl _) (.cons (.refl _) (.cons (.refl _) (.cons (.refl _) (.cons (G.avle.trans (hRL.avle _)) (.cons (.refl _) (.cons (.refl _) .nil))))))))
end Pg

namespace Pg
open Go
set_option linter.all false
set_option maxRecDepth 4000
theorem few_lt {α : Type} {l : List α} (h : l.length ≤ 4611686018427387904) : few l := by unfold few; omega
def FewUps (N : Nat) (f : ByteArray → Option (ByteArray × List Param)) : Prop := ∀ name path us, f name = some (path, us) → us.length ≤ N
theorem liftE_okL {f : ByteArray → Option (ByteArray × List Param)} (hf : FewUps 512 f) {x : Expr} (hl : x.l.length ≤ 1048576) (H : ∀ y ∈ liftEs f x.l, y.ok) : (liftE f x).ok := by
 have hlen : (liftEs f x.l).length = x.l.length := by rw [liftEs_map, List.length_map]
 have h1 : few (liftEs f x.l) := by unfold few; omega
 rw [liftE_eq]
 split
 ·split
  ·rename_i path us he
   have := hf _ _ _ he
   refine (Expr.ok_iff _).2 ⟨few_lt (by simp only [List.length_append, List.length_map]; omega), fun y hy => ?_⟩
   rcases List.mem_append.1 hy with h | h
   ·exact H y h
   ·obtain ⟨u, _, rfl⟩ := List.mem_map.1 h
    exact (Expr.ok_iff _).2 ⟨few_lt (by simp [upE]), by simp [upE]⟩
  ·exact (Expr.ok_iff _).2 ⟨h1, H⟩
 ·exact (Expr.ok_iff _).2 ⟨h1, H⟩
theorem liftE_ok {f : ByteArray → Option (ByteArray × List Param)} (hf : FewUps 512 f) : ∀ (n : Nat) (x : Expr), x.sz < n → wE x ≤ 1048576 → (liftE f x).ok
 | 0, x, h, _ => absurd h (Nat.not_lt_zero _)
 | n + 1, x, h, hw => by
  rw [Expr.sz_eq] at h
  rw [wE_eq] at hw
  have hl := turnE_room x.l
  refine liftE_okL hf (by omega) fun y hy => ?_
  rw [liftEs_map] at hy
  obtain ⟨z, hz, rfl⟩ := List.mem_map.1 hy
  have := Exprs.sz_mem hz
  have := wEs_mem hz
  exact liftE_ok hf n z (by omega) (by omega)
theorem liftEs_ok {f : ByteArray → Option (ByteArray × List Param)} (hf : FewUps 512 f) {l : List Expr} (hw : wEs l ≤ 1048576) : ∀ y ∈ liftEs f l, y.ok := fun y hy => by
 rw [liftEs_map] at hy
 obtain ⟨z, hz, rfl⟩ := List.mem_map.1 hy
 have := wEs_mem hz
 exact liftE_ok hf _ z (Nat.lt_succ_self _) (by omega)
theorem liftS_ok {f : ByteArray → Option (ByteArray × List Param)} (hf : FewUps 512 f) : ∀ (n : Nat) (x : Stmt), x.sz < n → x.ok → wS x ≤ 1048576 → (liftS f x).ok
 | 0, x, h, _, _ => absurd h (Nat.not_lt_zero _)
 | n + 1, x, h, ho, hw => by
  rw [Stmt.sz_eq] at h
  rw [wS_eq] at hw
  obtain ⟨o1, o2, o3, o4, o5, o6, o7, o8, o9, o10, o11⟩ := (Stmt.ok_iff x).1 ho
  have e1 := turnE_room x.e
  have e2 := wSs_len x.body
  have e3 := wSs_len x.els
  have e4 := wE_eq x.p
  have e5 := turnE_room x.p.l
  have ss : ∀ (l : List Stmt), Stmts.sz l < n → (∀ y ∈ l, y.ok) → wSs l ≤ 1048576 → ∀ y ∈ liftSs f l, y.ok := fun l hl hok hw y hy => by
   rw [liftSs_map] at hy
   obtain ⟨z, hz, rfl⟩ := List.mem_map.1 hy
   have := Stmts.sz_mem hz
   have := wSs_mem hz
   exact liftS_ok hf n z (by omega) (hok z hz) (by omega)
  rw [liftS_eq, Stmt.ok_iff]
  refine ⟨o1, o2, (Expr.ok_iff _).2 ⟨few_lt (by simp only [liftEs_map, liftSs_map, List.length_map]; omega), liftEs_ok hf (by omega)⟩, few_lt (by simp only [liftEs_map, liftSs_map, List.length_map]; omega), liftEs_ok hf (by omega), few_lt (by simp only [liftEs_map, liftSs_map, List.length_map]; omega), ss _ (by omega) o7 (by omega), few_lt (by simp only [liftEs_map, liftSs_map, List.length_map]; omega), ss _ (by omega) o9 (by omega), o10, o11⟩
theorem liftSs_ok {f : ByteArray → Option (ByteArray × List Param)} (hf : FewUps 512 f) {l : List Stmt} (ho : ∀ y ∈ l, y.ok) (hw : wSs l ≤ 1048576) : ∀ y ∈ liftSs f l, y.ok := fun y hy => by
 rw [liftSs_map] at hy
 obtain ⟨z, hz, rfl⟩ := List.mem_map.1 hy
 have := wSs_mem hz
 exact liftS_ok hf _ z (Nat.lt_succ_self _) (ho z hz) (by omega)
theorem liftP_good {p : Prg} (h : (liftP p).2 = 0) : (nodesOf p.routines).length ≤ 512 ∧ (∀ q ∈ (nodesOf p.routines).zip (cUps p.routines), q.1.r.params.length + q.2.length ≤ 512) ∧
  (liftP p).1 = ⟨p.name, p.before, p.mid, p.after, p.recs, p.vars, liftRs (nodesOf p.routines) (cUps p.routines) 0 ((nodesOf p.routines).zip (cUps p.routines)), liftSs (liftF (nodesOf p.routines) (cUps p.routines) (-1)) p.body, p.endd⟩ := by
 unfold liftP at h ⊢
 simp only at h ⊢
 split at h
 ·simp at h
 ·rename_i h1
  split at h
  ·simp at h
  ·rename_i h2
   rw [if_neg h1, if_neg h2]
   refine ⟨by omega, fun q hq => ?_, rfl⟩
   simp only [List.any_eq_true, not_exists, not_and] at h2
   have := h2 q hq
   simp [tooMany] at this
   omega
theorem liftF_few {p : Prg} (h : (liftP p).2 = 0) (a : Int) : FewUps 512 (liftF (nodesOf p.routines) (cUps p.routines) a) := fun name path us he => by
 obtain ⟨_, h2, _⟩ := liftP_good h
 unfold liftF at he
 simp only at he
 split at he
 ·cases he
 ·split at he
  ·rename_i n vs e1 e2
   simp only [Option.some.injEq, Prod.mk.injEq] at he
   obtain ⟨rfl, rfl⟩ := he
   have hz : ((nodesOf p.routines).zip (cUps p.routines))[(calleeAt (nodesOf p.routines) name (a + 2).toNat a).toNat]? = some (n, vs) := by
    rw [List.getElem?_zip_eq_some]; exact ⟨e1, e2⟩
   have := h2 _ (List.mem_of_getElem? hz)
   simp only at this; omega
  ·cases he
theorem liftRs_mem {ns : List CN} {ups : List (List Param)} {r : Routine} : ∀ {l : List (CN × List Param)} {i : Nat}, r ∈ liftRs ns ups i l → ∃ (j : Nat) (q : CN × List Param), l[j]? = some q ∧ r = liftR ns ups (i + j) q.1 q.2
 | [], i, h => by simp [liftRs] at h
 | q :: l, i, h => by
  simp only [liftRs, List.mem_cons] at h
  rcases h with rfl | h
  ·exact ⟨0, q, rfl, rfl⟩
  ·obtain ⟨j, q', h1, h2⟩ := liftRs_mem h
   exact ⟨j + 1, q', h1, by rw [h2, Nat.add_assoc, Nat.add_comm 1 j]⟩
theorem lift_ok {p : Prg} (ho : p.ok) (hw : wP p ≤ 1048576) (h : (liftP p).2 = 0) : (liftP p).1.ok := by
 obtain ⟨h1, h2, h3⟩ := liftP_good h
 have hwr : wRs p.routines ≤ 1048576 := by unfold wP at hw; omega
 have hwb : wSs p.body ≤ 1048576 := by unfold wP at hw; omega
 have hall : ∀ n ∈ nodesOf p.routines, n.r.ok ∧ wR n.r ≤ 1048576 := capL_all (P := fun x => x.ok ∧ wR x ≤ 1048576) (fun x hx y hy => ⟨((Routine.ok_iff x).1 hx.1).2.2.2.2.2.2.1 y hy, Nat.le_trans (wR_in hy) hx.2⟩) _ p.routines (Nat.lt_succ_self _) (fun x hx => ⟨ho.eachRoutine x hx, Nat.le_trans (wRs_mem hx) hwr⟩) 0 p.routines (-1) noBytes
 rw [h3]
 refine ⟨ho.before, ho.mid, ho.after, ho.recs, ho.eachRec, ho.vars, ho.eachVar, few_lt ?_, fun r hr => ?_, few_lt ?_, liftSs_ok (liftF_few h _) ho.eachStmt (by omega), ho.endd⟩
 ·simp only
  rw [liftRs_len, List.length_zip]; omega
 ·obtain ⟨j, q, hq, rfl⟩ := liftRs_mem hr
  have hm := List.mem_of_getElem? hq
  have hqn : q.1 ∈ nodesOf p.routines := (List.of_mem_zip (show (q.1, q.2) ∈ _ from hm)).1
  obtain ⟨o, w⟩ := hall _ hqn
  obtain ⟨o1, o2, o3, o4, o5, o6, o7, o8, o9, o10⟩ := (Routine.ok_iff _).1 o
  rw [wR_eq] at w
  have := h2 _ hm
  have e := wSs_len q.1.r.body
  refine (Routine.ok_iff _).2 ⟨o1, o2, few_lt (by simp only [liftR, List.length_append]; omega), o4, o5, few_lt (by simp [liftR]), by simp [liftR], few_lt (by simp only [liftR]; rw [liftSs_map, List.length_map]; omega), liftSs_ok (liftF_few h _) o9 (by omega), o10⟩
 ·simp only
  have e := wSs_len p.body
  rw [liftSs_map, List.length_map]; omega
theorem callee_name {ns : List CN} {name : ByteArray} : ∀ (f : Nat) (a : Int), ¬ calleeAt ns name f a < 0 → ∃ n, ns[(calleeAt ns name f a).toNat]? = some n ∧ n.r.name = name
 | 0, a, h => by simp [calleeAt] at h
 | f + 1, a, h => by
  simp only [calleeAt] at h ⊢
  cases hi : ns.findIdx? (fun n => decide (n.around = a) && decide (n.r.name = name)) with
  | some i =>
   simp only [hi] at h ⊢
   obtain ⟨hl, hp, _⟩ := List.findIdx?_eq_some_iff_getElem.1 hi
   simp only [Bool.and_eq_true, decide_eq_true_eq] at hp
   exact ⟨ns[i], by simp [List.getElem?_eq_getElem hl], hp.2⟩
  | none =>
   simp only [hi] at h ⊢
   split at h
   ·simp at h
   ·rename_i ha
    rw [if_neg ha]
    split at h
    ·rename_i n hn
     exact callee_name f n.around h
    ·simp at h
theorem tree_nodes {p : Prg} (ht : tPrg p = true) : ∀ n ∈ nodesOf p.routines, ∃ a d, tRoutine a n.r d = true := by
 have hr : tRoutines [] p.routines 1 = true := by
  unfold tPrg at ht
  simp only [Bool.and_eq_true, decide_eq_true_eq] at ht
  exact ht.1.2.1
 refine capL_all (P := fun x => ∃ a d, tRoutine a x d = true) (fun x hx y hy => ?_) _ p.routines (Nat.lt_succ_self _) (fun x hx => ?_) 0 p.routines (-1) noBytes
 ·obtain ⟨a, d, h⟩ := hx
  rw [tRoutine_eq] at h
  simp only [Bool.and_eq_true, decide_eq_true_eq] at h
  obtain ⟨⟨_, hin, _⟩, _⟩ := h
  obtain ⟨a', h'⟩ := tRoutines_mem hin hy
  exact ⟨a', _, h'⟩
 ·obtain ⟨a, h⟩ := tRoutines_mem hr hx
  exact ⟨a, _, h⟩
end Pg

namespace Pg
open Go Go.Proofs.Tryz
set_option linter.all false
set_option maxHeartbeats 4000000
set_option maxRecDepth 4000
structure LK (ns : List CN) (ups : List (List Param)) (a : Int) : Prop where
 hns : ns.length ≤ 1048576
 har : ∀ (i : Nat) n, ns[i]? = some n → n.around < (i : Int) ∧ -1 ≤ n.around
 len : ups.length = ns.length
 few : ∀ us ∈ ups, us.length ≤ 1048576
 lo : -1 ≤ a
 hi : a < ns.length
def Found (ns : List CN) (a : Int) (l : List ByteArray) : Prop := ∀ name ∈ l, ¬ calleeAt ns name (a + 2).toNat a < 0
theorem liftF_found {ns : List CN} {ups : List (List Param)} {a : Int} (K : LK ns ups a) {name : ByteArray} (h : ¬ calleeAt ns name (a + 2).toNat a < 0) :
  ∃ (k : Nat) (n : CN) (us : List Param), calleeAt ns name (a + 2).toNat a = (k : Int) ∧ ns[k]? = some n ∧ ups[k]? = some us ∧ liftF ns ups a name = some (n.path, us) := by
 obtain ⟨n, e1, e2⟩ := callee_name _ _ h
 obtain ⟨k, hk⟩ := Int.eq_ofNat_of_zero_le (Int.not_lt.1 h)
 rw [hk] at e1
 simp only [Int.toNat_natCast] at e1
 have hl := (List.getElem?_eq_some_iff.1 e1).1
 have hu : ups[k]? = some (ups[k]'(by rw [K.len]; exact hl)) := List.getElem?_eq_getElem _
 refine ⟨k, n, _, hk, e1, hu, ?_⟩
 unfold liftF
 simp only
 rw [if_neg h, hk]
 simp only [Int.toNat_natCast]
 rw [e1, hu]
theorem rexpr_spec [GI] {ns : List CN} {ups : List (List Param)} {a : Int} (K : LK ns ups a) : ∀ (n : Nat) (x : Expr), x.sz ≤ n → x.ok → wE x ≤ 1048576 → Found ns a (callE x) → ∀ h : AHeap,
  ACalls prog 63 [.sl (ns.map eNd) false, .sl (ups.map uRow) false, .int .i64 a, .agg (eExpr x)] h (fun v g => v = .agg (eExpr (liftE (liftF ns ups a) x)) ∧ g = h) := by
 intro n
 induction n with
 | zero => intro x hn; rw [Expr.sz_eq] at hn; omega
 | succ n ih =>
  intro x hn ho hw hF h
  obtain ⟨o1, o2⟩ := (Expr.ok_iff x).1 ho
  have hz := Expr.sz_eq x
  have hwe := wE_eq x
  have hll := turnE_room x.l
  have hFl : ∀ y ∈ x.l, Found ns a (callE y) := fun y hy name hn => hF name (by
   rw [callE_eq]
   refine List.mem_append.2 (.inr ?_)
   have key : ∀ l : List Expr, y ∈ l → name ∈ callEs l := by
    intro l
    induction l with
    | nil => intro h; cases h
    | cons z r ih =>
     intro h
     simp only [callEs, List.mem_append]
     rcases List.mem_cons.1 h with rfl | h
     ·exact .inl hn
     ·exact .inr (ih h)
   exact key _ hy)
  refine F63.calls (by simp) ?_
  delta F63.c0
  simp only [go_sem,seval]
  refine afreshT_intro fun b8 hb8 => ?_
  simp only [go_sem,seval, expr_take]
  refine afreshT_intro fun b9 hb9 => ?_
  obtain ⟨hne, hb9'⟩ := none_upd hb9
  simp only [go_sem,seval, upd_same, eExpr_eq x]
  rw [upd_upd, upd_upd]
  generalize hB : (h.upd b8 _) = B
  have hB8 : B b8 = some (.blk [.int .i64 0, .int .i64 0, .str ⟨#[]⟩, .str ⟨#[]⟩, .sl [] true] 5 76) := by rw [← hB, upd_same]
  have hBle : h.le B := by rw [← hB]; exact AHeap.le_upd hb8
  have hB9 : B b9 = none := by rw [← hB]; exact hb9
  rw [← eExpr_eq x]
  refine lT_list x.l (fun pre post e g => ∃ v, GL 76 5 (B.upd b9 (.blk [.int .i64 x.op, .int .i64 x.n, .str x.name, .str x.field, v] 5 76)) g v ((pre.map (liftE (liftF ns ups a))).map eExpr) ∧ e = [(0, .sl (ns.map eNd) false), (1, .sl (ups.map uRow) false), (2, .int .i64 a), (7, .ip (eExpr x) 0), (8, .ptr (some ⟨b8, 0, none⟩)), (9, .ptr (some ⟨b9, 0, none⟩)), (10, .int .i64 pre.length)]) (WeakE.env ?_) ⟨.sl [] true, .nil _, rfl⟩ ?_ ?_
  ·simp only [go_sem,seval]
  ·rintro pre y post e g hp ⟨v, G, rfl⟩
   have hy := mem_at hp
   have hyz := Exprs.sz_mem hy
   have hyw := wEs_mem hy
   have hpl := (at_pre hp).2
   have hg9 := G.at (upd_same B b9 _)
   simp only [go_sem,seval, lt_at hp, hg9, aia_sl (map_at hp) (eExpr_len y)]
   refine tcE (ih y (by omega) (o2 y hy) (by omega) (hFl y hy) _) ?_
   simp only [go_sem,seval, hg9, splice_same, expr_take]
   refine G.append1 (xs := eExpr (liftE (liftF ns ups a) y)) (bytes := 72) (eExpr_len _) (by unfold roomFor; simp; omega) (fun v' g' G' => ?_)
   have hg9' := G'.at (upd_same B b9 _)
   simp only [go_sem,seval, hg9', G'.cells]
   have G'' := G'.upd (upd_same B b9 _) (.blk [.int .i64 x.op, .int .i64 x.n, .str x.name, .str x.field, v'] 5 76)
   rw [upd_upd] at G''
   refine ⟨.inr (by decide), _, _, WeakE.env ?_, v', ?_, rfl⟩
   ·simp only [go_sem,seval, step_at o1 hp]
   ·simpa using G''
  ·rintro e g ⟨v, G, rfl⟩
   have hg9 := G.at (upd_same B b9 _)
   have hg8 := G.at (show (B.upd b9 _) b8 = some _ by rw [upd_ne _ _ _ hne.symm]; exact hB8)
   simp only [go_sem,seval, lt_end]
   refine lessQ.same ?_
   by_cases h7 : x.op = 7
   ·obtain ⟨k, nd, us, hk, e1, e2, hfk⟩ := liftF_found K (hF x.name (by rw [callE_eq, if_pos h7]; simp))
    have hrow : (ns.map eNd)[k]? = some (eNd nd) := by simp [e1]
    have hrow2 : (ups.map uRow)[k]? = some (uRow us) := by simp [e2]
    have n0 : (eNd nd)[0]? = some (.str nd.path) := rfl
    have hu0 : (uRow us)[0]? = some (.sl (us.map eParam) false) := rfl
    have hus := K.few us (List.mem_of_getElem? e2)
    simp only [go_sem,seval, h7, ne_eq, not_true_eq_false]
    refine tcE (Callee_spec g ns K.hns K.har a K.lo K.hi x.name) ?_
    rw [hk]
    simp only [go_sem,seval, aia_sl hrow (eNd_len nd), n0, hg9]
    have G1 := G.upd (upd_same B b9 _) (.blk [.int .i64 x.op, .int .i64 x.n, .str nd.path, .str x.field, v] 5 76)
    rw [upd_upd] at G1
    simp only [h7] at G1 ⊢
    refine lT_list us (fun pre post e g => ∃ v, GL 76 5 (B.upd b9 (.blk [.int .i64 7, .int .i64 x.n, .str nd.path, .str x.field, v] 5 76)) g v ((x.l.map (liftE (liftF ns ups a))).map eExpr ++ pre.map upRow) ∧ e = [(0, .sl (ns.map eNd) false), (1, .sl (ups.map uRow) false), (8, .ptr (some ⟨b8, 0, none⟩)), (9, .ptr (some ⟨b9, 0, none⟩)), (11, .int .i64 (k : Int)), (12, .int .i64 pre.length)]) (WeakE.env ?_) ⟨v, by simpa using G1, rfl⟩ ?_ ?_
    ·simp only [go_sem,seval]
    ·rintro pre u post e g2 hp ⟨v2, G2, rfl⟩
     have hpl := (at_pre hp).2
     have hg9 := G2.at (upd_same B b9 _)
     simp only [go_sem,seval, aia_sl (size := 1) hrow2 rfl, hu0, lt_at hp, hg9, aia_sl (map_at hp) (eParam_len u)]
     refine G2.append1 (xs := upRow u) (bytes := 72) rfl (by unfold roomFor; simp; omega) (fun v' g' G' => ?_)
     have hg9' := G'.at (upd_same B b9 _)
     simp only [go_sem,seval, hg9', G'.cells]
     have G'' := G'.upd (upd_same B b9 _) (.blk [.int .i64 7, .int .i64 x.n, .str nd.path, .str x.field, v'] 5 76)
     rw [upd_upd] at G''
     refine ⟨.inr (by decide), _, _, WeakE.env ?_, v', ?_, rfl⟩
     ·simp only [go_sem,seval, step_at (l := us) (by unfold few; omega) hp]
     ·simpa using G''
    ·rintro e g2 ⟨v2, G2, rfl⟩
     have hg9 := G2.at (upd_same B b9 _)
     have hg8 := G2.at (show (B.upd b9 _) b8 = some _ by rw [upd_ne _ _ _ hne.symm]; exact hB8)
     simp only [go_sem,seval, aia_sl (size := 1) hrow2 rfl, hu0, lt_end]
     refine lessQ.same ?_
     simp only [go_sem,seval, hg9, hg8]
     refine EndW.less (AVle.agg ?_) ?_ ⟨rfl, rfl⟩
     ·rw [liftE_eq, if_pos h7, hfk, eExpr_eq]
      simp only [liftEs_map]
      rw [← h7]
      exact .cons (.refl _) (.cons (.refl _) (.cons (.refl _) (.cons (.refl _) (.cons (G2.avle.trans (avle_ups _ _)) .nil))))
     ·exact le_upd_of hb8 (AHeap.le_trans (AHeap.le_trans hBle (AHeap.le_upd hB9)) G2.le) _
   ·simp only [go_sem,seval, h7, ne_eq, not_false_eq_true, hg9, hg8]
    refine EndW.less (AVle.agg ?_) ?_ ⟨rfl, rfl⟩
    ·rw [liftE_eq, if_neg h7, eExpr_eq]
     simp only [liftEs_map]
     exact .cons (.refl _) (.cons (.refl _) (.cons (.refl _) (.cons (.refl _) (.cons G.avle .nil))))
    ·exact le_upd_of hb8 (AHeap.le_trans (AHeap.le_trans hBle (AHeap.le_upd hB9)) G.le) _
end Pg

namespace Pg
open Go Go.Proofs.Tryz
set_option linter.all false
set_option maxHeartbeats 4000000
set_option maxRecDepth 4000
theorem found_in {ns : List CN} {a : Int} {l : List Expr} (h : Found ns a (callEs l)) : ∀ y ∈ l, Found ns a (callE y) := by
 induction l with
 | nil => simp
 | cons z r ih =>
  intro y hy
  simp only [callEs] at h
  rcases List.mem_cons.1 hy with rfl | hy
  ·exact fun name hn => h name (by simp [hn])
  ·exact ih (fun name hn => h name (by simp [hn])) y hy
theorem found_inS {ns : List CN} {a : Int} {l : List Stmt} (h : Found ns a (callSs l)) : ∀ y ∈ l, Found ns a (callS y) := by
 induction l with
 | nil => simp
 | cons z r ih =>
  intro y hy
  simp only [callSs] at h
  rcases List.mem_cons.1 hy with rfl | hy
  ·exact fun name hn => h name (by simp [hn])
  ·exact ih (fun name hn => h name (by simp [hn])) y hy
theorem place_op {x : Stmt} {d : Int} (h : tStmt x d = true) : x.p.op ≠ 7 ∧ tStmts x.body (d + 1) = true ∧ tStmts x.els (d + 1) = true := by
 rw [tStmt_eq] at h
 simp only [Bool.and_eq_true, decide_eq_true_eq, tStmt1, sPlace] at h
 obtain ⟨⟨⟨_, ⟨⟨⟨_, hp⟩, _⟩, _⟩, _⟩, hb, _⟩, he, _⟩ := h
 refine ⟨fun h7 => ?_, hb, he⟩
 split at hp
 ·simp only [tPlace, Bool.and_eq_true, decide_eq_true_eq] at hp; omega
 ·simp only [tNone, Bool.and_eq_true, decide_eq_true_eq] at hp; omega
theorem rstmts_spec [GI] {ns : List CN} {ups : List (List Param)} {a : Int} (K : LK ns ups a) : ∀ (n : Nat) (l : List Stmt) (d : Int), Stmts.sz l ≤ n → few l → (∀ x ∈ l, x.ok) → wSs l ≤ 1048576 → Found ns a (callSs l) → tStmts l d = true → ∀ (f2 : Bool) (h : AHeap),
  ACalls prog 36 [.sl (ns.map eNd) false, .sl (ups.map uRow) false, .int .i64 a, .sl (l.map eStmt) f2] h (fun v g => v = .sl ((liftSs (liftF ns ups a) l).map eStmt) false ∧ g = h) := by
 intro n
 induction n with
 | zero =>
  intro l d hn hl ho hw hF ht f2 h
  cases l with
  | cons x r => simp [Stmts.sz] at hn
  | nil =>
   refine F36.calls (by simp) ?_
   delta F36.c0
   simp only [go_sem,seval]
   refine lT_round ?_
   simp only [go_sem,seval]
   exact (GL.nil (ty := 78) (size := 16) h).endW ⟨rfl, rfl⟩
 | succ n ih =>
  intro l d hn hl ho hw hF ht f2 h
  refine F36.calls (by simp) ?_
  delta F36.c0
  simp only [go_sem,seval]
  refine lT_list l (fun pre post e g => ∃ v, GL 78 16 h g v ((pre.map (liftS (liftF ns ups a))).map eStmt) ∧ e = [(0, .sl (ns.map eNd) false), (1, .sl (ups.map uRow) false), (2, .int .i64 a), (3, .sl (l.map eStmt) f2), (9, v), (10, .int .i64 pre.length)]) (WeakE.env ?_) ⟨.sl [] true, .nil h, rfl⟩ ?_ ?_
  ·simp only [go_sem,seval]
  ·rintro pre x post e g hp ⟨v, G, rfl⟩
   have hx := mem_at hp
   have hxz := Stmts.sz_mem hx
   have hxw := wSs_mem hx
   have hz := Stmt.sz_eq x
   have hwx := wS_eq x
   have hpl := (at_pre hp).2
   have hlw := wSs_len l
   have hel := turnE_room x.e
   obtain ⟨hop, hb, he⟩ := place_op (tStmts_mem ht hx)
   have hok := (Stmt.ok_iff x).1 (ho x hx)
   have hFx := found_inS hF x hx
   rw [callS_eq] at hFx
   have F1 : Found ns a (callE x.p) := fun m hm => hFx m (by simp [hm])
   have F2 : Found ns a (callEs x.e) := fun m hm => hFx m (by simp [hm])
   have F3 : Found ns a (callSs x.body) := fun m hm => hFx m (by simp [hm])
   have F4 : Found ns a (callSs x.els) := fun m hm => hFx m (by simp [hm])
   simp only [go_sem,seval, lt_at hp, aia_sl (map_at hp) (eStmt_len x)]
   refine afreshT_intro fun b hbk => ?_
   simp only [go_sem,seval, eStmt_eq x]
   have hP := rexpr_spec K _ x.p (Nat.le_refl _) hok.2.2.1 (by omega) F1
   rw [eExpr_eq x.p] at hP
   refine tcE (hP _) ?_
   rw [liftE_eq, if_neg hop]
   simp only [go_sem,seval, upd_upd, eExpr_eq { x.p with l := liftEs (liftF ns ups a) x.p.l }]
   generalize hB : (AHeap.upd g b _) = B
   have hBb : B b = some (.blk [eTexts x.before, eTexts x.trail, .int .i64 x.op, .str x.name, .int .i64 x.p.op, .int .i64 x.p.n, .str x.p.name, .str x.p.field, .sl ((liftEs (liftF ns ups a) x.p.l).map eExpr) false, .sl (x.e.map eExpr) false, .bool x.down, .bool x.more, .sl (x.body.map eStmt) false, .sl (x.els.map eStmt) false, eTexts x.end1, eTexts x.end2] 16 78) := by rw [← hB, upd_same]
   refine lT_list x.e (fun pre' post' e k => ∃ ve, GL 76 5 B k ve ((pre'.map (liftE (liftF ns ups a))).map eExpr) ∧ e = [(0, .sl (ns.map eNd) false), (1, .sl (ups.map uRow) false), (2, .int .i64 a), (3, .sl (l.map eStmt) f2), (9, v), (10, .int .i64 pre.length), (11, .ptr (some ⟨b, 0, none⟩)), (12, ve), (13, .int .i64 pre'.length)]) (WeakE.env ?_) ⟨.sl [] true, .nil B, rfl⟩ ?_ ?_
   ·simp only [go_sem,seval]
   ·rintro pre' y post' e k hp' ⟨ve, E, rfl⟩
    have hy := mem_at hp'
    have hyw := wEs_mem hy
    have hpl' := (at_pre hp').2
    have hkb := E.at hBb
    simp only [go_sem,seval, hkb, lt_at hp', aia_sl (map_at hp') (eExpr_len y)]
    refine tcE (rexpr_spec K _ y (Nat.le_refl _) (hok.2.2.2.2.1 y hy) (by omega) (found_in F2 y hy) k) ?_
    simp only [go_sem,seval, splice_same, expr_take]
    refine E.append1 (xs := eExpr (liftE (liftF ns ups a) y)) (bytes := 72) (eExpr_len _) (by unfold roomFor; simp; omega) (fun v' g' E' => ?_)
    simp only [go_sem,seval]
    refine ⟨_, _, WeakE.env ?_, v', ?_, rfl⟩
    ·simp only [go_sem,seval, step_at hok.2.2.2.1 hp']
    ·simpa using E'
   ·rintro e k ⟨ve, E, rfl⟩
    have hkb := E.at hBb
    simp only [go_sem,seval, hkb, lt_end]
    refine lessQ.to (e' := [(0, .sl (ns.map eNd) false), (1, .sl (ups.map uRow) false), (2, .int .i64 a), (3, .sl (l.map eStmt) f2), (9, v), (10, .int .i64 pre.length), (11, .ptr (some ⟨b, 0, none⟩)), (12, .sl ((x.e.map (liftE (liftF ns ups a))).map eExpr) false)]) (g := B) (WeakE.of ?_ (.of_le E.le)) ?_
    ·simp only [go_sem,seval]
     exact E.avle
    simp only [go_sem,seval, hBb]
    refine tcE (ih x.body _ (by omega) hok.2.2.2.2.2.1 hok.2.2.2.2.2.2.1 (by omega) F3 hb false _) ?_
    simp only [go_sem,seval]
    refine tcE (ih x.els _ (by omega) hok.2.2.2.2.2.2.2.1 hok.2.2.2.2.2.2.2.2.1 (by omega) F4 he false _) ?_
    simp only [go_sem,seval, upd_upd]
    rw [← hB, upd_upd]
    have hrow : eStmt (liftS (liftF ns ups a) x) = [eTexts x.before, eTexts x.trail, .int .i64 x.op, .str x.name, .int .i64 x.p.op, .int .i64 x.p.n, .str x.p.name, .str x.p.field, .sl ((liftEs (liftF ns ups a) x.p.l).map eExpr) false, .sl ((x.e.map (liftE (liftF ns ups a))).map eExpr) false, .bool x.down, .bool x.more, .sl ((liftSs (liftF ns ups a) x.body).map eStmt) false, .sl ((liftSs (liftF ns ups a) x.els).map eStmt) false, eTexts x.end1, eTexts x.end2] := by
     rw [eStmt_eq, liftS_eq, ← liftEs_map]
    rw [← hrow]
    refine (G.fresh hbk _).append1 (xs := eStmt (liftS (liftF ns ups a) x)) (bytes := 272) (eStmt_len _) (by unfold roomFor; simp; omega) (fun v' g' G' => ?_)
    simp only [go_sem,seval]
    obtain ⟨h3, G3, le3⟩ := G'.rebase (h0 := h) (AHeap.le_upd (none_le G.le hbk))
    refine ⟨_, h3, WeakE.of ?_ (.of_le le3), v', ?_, rfl⟩
    ·simp only [go_sem,seval, step_at hl hp]
    ·simpa using G3
  ·rintro e g ⟨v, G, rfl⟩
   simp only [go_sem,seval, lt_end]
   refine lessQ.same ?_
   simp only [go_sem,seval]
   refine G.endW ⟨?_, rfl⟩
   rw [liftSs_map]
end Pg

namespace Pg
open Go Go.Proofs.Tryz
set_option linter.all false
set_option maxHeartbeats 4000000
set_option maxRecDepth 4000
theorem nd_r (n : CN) : List.take 9 (List.drop 2 (eNd n)) = eRoutine n.r := by
 unfold eNd
 rw [eRoutine_eq]; rfl
theorem ep (l : List Param) : ∀ e ∈ l.map eParam, e.length = 5 := fun e he => by obtain ⟨q, _, rfl⟩ := List.mem_map.1 he; rfl
theorem tree_body {a : List ByteArray} {r : Routine} {d : Int} (h : tRoutine a r d = true) : tStmts r.body 1 = true := by
 rw [tRoutine_eq] at h
 simp only [Bool.and_eq_true, decide_eq_true_eq] at h
 exact h.2.1
theorem RLift_bad [GI] (h : AHeap) (p : Prg) (ho : p.ok) (ht : tPrg p = true) (hc : (check p).2 ≠ 0) : ACalls prog 12 [.agg (ePrg p)] h (fun v g => v = .tuple [.agg (ePrg zPrg), .int .i64 1] ∧ g = h) := by
 refine F12.calls (by simp) ?_
 delta F12.c0
 simp only [go_sem,seval]
 refine afreshT_intro fun b2 hb2 => ?_
 simp only [go_sem,seval, ePrg_len, prg_take]
 refine tcE (Right_spec _ p ho ht) ?_
 simp only [go_sem,seval, hc, upd_same, upd_upd]
 exact EndW.less (AVle.tuple (.cons zPrg_le (.cons (.refl _) .nil))) (AHeap.le_upd hb2) ⟨rfl, rfl⟩
theorem RLift_good [GI] (h : AHeap) (p : Prg) (ho : p.ok) (ht : tPrg p = true) (hw : wP p ≤ 1048576) (hc : (check p).2 = 0) :
  ACalls prog 12 [.agg (ePrg p)] h (fun v g => v = .tuple [.agg (ePrg (liftP p).1), .int .i64 (liftP p).2] ∧ g = h) := by
 have pb := prg_bounds hw
 have hns : (nodesOf p.routines).length ≤ 1048576 := by
  show (capL 0 p.routines (-1) noBytes p.routines).length ≤ _
  rw [capL_len]
  have := rcnts_le _ p.routines (Nat.le_refl _)
  unfold wP at hw; omega
 have hwr : wRs p.routines ≤ 1048576 := by unfold wP at hw; omega
 have hwb : wSs p.body ≤ 1048576 := by unfold wP at hw; omega
 have hall : ∀ n ∈ nodesOf p.routines, n.r.ok ∧ wR n.r ≤ 1048576 := capL_all (P := fun x => x.ok ∧ wR x ≤ 1048576) (fun x hx y hy => ⟨((Routine.ok_iff x).1 hx.1).2.2.2.2.2.2.1 y hy, Nat.le_trans (wR_in hy) hx.2⟩) _ p.routines (Nat.lt_succ_self _) (fun x hx => ⟨ho.eachRoutine x hx, Nat.le_trans (wRs_mem hx) hwr⟩) 0 p.routines (-1) noBytes
 have har : ∀ (i : Nat) n, (nodesOf p.routines)[i]? = some n → n.around < (i : Int) ∧ -1 ≤ n.around := fun i n hn => by
  have := capL_around _ p.routines (Nat.lt_succ_self _) 0 p.routines (-1) noBytes (by omega) (by omega) i n hn
  omega
 have hups : (cUps p.routines).length = (nodesOf p.routines).length := by unfold cUps; rw [List.length_map, List.length_range]; rfl
 have hfu : ∀ us ∈ cUps p.routines, us.length ≤ 1048576 := fun us hu => Nat.le_trans (ups_len p.routines us hu) hwr
 obtain ⟨rn1, rn2, _⟩ := right_nodes ht hc
 have hrs : tRoutines [] p.routines 1 = true ∧ tStmts p.body 1 = true := by
  unfold tPrg at ht
  simp only [Bool.and_eq_true, decide_eq_true_eq] at ht
  exact ⟨ht.1.2.1, ht.2.1⟩
 have hzip : ((nodesOf p.routines).zip (cUps p.routines)).length = (nodesOf p.routines).length := by rw [List.length_zip, hups]; omega
 refine F12.calls (by simp) ?_
 delta F12.c0
 simp only [go_sem,seval]
 refine afreshT_intro fun b2 hb2 => ?_
 simp only [go_sem,seval, ePrg_len, prg_take]
 refine tcE (Right_spec _ p ho ht) ?_
 simp only [go_sem,seval, hc, prg_6]
 generalize hB : (h.upd b2 _) = B
 have hB2 : B b2 = some (.blk [.str ⟨#[]⟩, .sl [] true, .sl [] true, .sl [] true, .sl [] true, .sl [] true, .sl [] true, .sl [] true, .sl [] true] 9 28) := by rw [← hB, upd_same]
 have hBle : h.le B := by rw [← hB]; exact AHeap.le_upd hb2
 refine callT_of (Nodes_spec _ p.routines (Nat.lt_succ_self _) ho.routines ho.eachRoutine B B (.sl [] true) [] (-1) noBytes (.nil B) (by simpa using pb.1) (by have : noBytes.size = 0 := rfl; have := pb.2; omega)) (fun w g1 G1 => ?_)
 simp only [List.nil_append, List.length_nil] at G1
 change GL _ _ _ _ _ ((nodesOf p.routines).map eNd) at G1
 have hlen1 := G1.len
 rw [List.length_map] at hlen1
 simp only [go_sem,seval, ePrg_len, prg_take]
 refine tcE (RefUps_spec ho (refOk ho hw pb.1 hc ht) pb.1 pb.2 g1) ?_
 simp only [go_sem,seval, hlen1]
 by_cases hbig : 512 < (nodesOf p.routines).length
 ·have hL : liftP p = (zPrg, 3) := by unfold liftP; simp [hbig]
  have hbi : ((nodesOf p.routines).length : Int) > 512 := by omega
  rw [hL]
  simp only [go_sem,seval, hbi, G1.at hB2, upd_upd]
  exact EndW.less (AVle.tuple (.cons zPrg_le (.cons (.refl _) .nil))) (le_upd_of hb2 (AHeap.le_trans hBle G1.le) _) ⟨rfl, rfl⟩
 have hbi : ¬ ((nodesOf p.routines).length : Int) > 512 := by omega
 simp only [go_sem,seval, hbi, ePrg_len, prg_take]
 refine afreshT_intro fun b6 hb6 => ?_
 have hB6 : B b6 = none := none_le G1.le hb6
 have h26 : b2 ≠ b6 := by intro hh; subst hh; rw [hB2] at hB6; cases hB6
 simp only [go_sem,seval, upd_same, upd_upd, ePrg_eq p]
 rw [← ePrg_eq p]
 refine lT_list ((nodesOf p.routines).zip (cUps p.routines)) (fun pre post e g => ∃ v O, GL 43 9 (B.upd b6 (pBlk p v)) g v O ∧ RLe O (liftRs (nodesOf p.routines) (cUps p.routines) 0 pre) ∧ pre.any tooMany = false ∧ e = [(1, .ip (ePrg p) 0), (2, .ptr (some ⟨b2, 0, none⟩)), (4, .sl ((nodesOf p.routines).map eNd) false), (5, .sl ((cUps p.routines).map uRow) false), (6, .ptr (some ⟨b6, 0, none⟩)), (7, .int .i64 pre.length)]) (WeakE.of ?_ (.of_le (le_upd_upd G1.le b6 _))) ⟨.sl [] true, [], .nil _, ⟨rfl, fun i e x h => by simp at h⟩, rfl, rfl⟩ ?_ ?_
 ·simp only [go_sem,seval]
  exact G1.avle
 ·rintro pre ⟨n, us⟩ post e g hp ⟨v, O, G, hRL, hany, rfl⟩
  have hz := (at_pre hp).1
  have hpl := (at_pre hp).2
  obtain ⟨e1, e2⟩ := List.getElem?_zip_eq_some.1 hz
  have hlt := lt_at hp
  rw [hzip] at hlt hpl
  have hrow : ((nodesOf p.routines).map eNd)[pre.length]? = some (eNd n) := by simp [e1]
  have hrow2 : ((cUps p.routines).map uRow)[pre.length]? = some (uRow us) := by simp [e2]
  have n0 : (eNd n)[0]? = some (.str n.path) := rfl
  have hu0 : (uRow us)[0]? = some (.sl (us.map eParam) false) := rfl
  obtain ⟨ok, okw⟩ := hall n (List.mem_of_getElem? e1)
  have hus := hfu us (List.mem_of_getElem? e2)
  have K : LK (nodesOf p.routines) (cUps p.routines) (pre.length : Int) := ⟨hns, har, hups, hfu, by omega, by omega⟩
  have hF : Found (nodesOf p.routines) (pre.length : Int) (callSs n.r.body) := fun m hm => by
   obtain ⟨v, _, _, hv⟩ := rn1 _ n e1 m hm
   have : ((pre.length : Int) + 2).toNat = pre.length + 2 := by omega
   rw [this, hv]; omega
  obtain ⟨ra, rd, htr⟩ := tree_nodes ht n (List.mem_of_getElem? e1)
  obtain ⟨o1, o2, o3, o4, o5, o6, o7, o8, o9, o10⟩ := (Routine.ok_iff n.r).1 ok
  have hwr := wR_eq n.r
  simp only [go_sem,seval, hlt, aia_sl hrow (eNd_len n), nd_r, eNd_len]
  refine afreshT_intro fun b8 hb8 => ?_
  have hb86 : b6 ≠ b8 := by intro hh; subst hh; rw [G.at (upd_same B b6 _)] at hb8; cases hb8
  simp only [go_sem,seval, eRoutine_eq n.r, upd_same, upd_upd]
  refine ⟨ep _, (GL.nil (ty := 105) (size := 5) _).append (new := n.r.params.map eParam) (m := n.r.params.length) (bytes := 56) (by simp) rfl (ep _) (by unfold roomFor; simp; omega) (fun v1 k1 E1 => ?_)⟩
  rw [List.nil_append] at E1
  simp only [go_sem,seval, aia_sl (size := 1) hrow2 rfl, hu0]
  refine ⟨ep _, E1.append (new := us.map eParam) (m := us.length) (bytes := 56) (by simp) rfl (ep _) (by unfold roomFor; simp; omega) (fun v2 k2 E2 => ?_)⟩
  have hlen2 := E2.len
  rw [List.length_append, List.length_map, List.length_map] at hlen2
  simp only [go_sem,seval, hlen2]
  by_cases htm : 512 < n.r.params.length + us.length
  ·have hL : liftP p = (zPrg, 3) := by
    unfold liftP
    simp only [if_neg hbig]
    rw [if_pos]
    rw [hp, List.any_append, List.any_cons]
    simp [tooMany, htm]
   have hgt : ((n.r.params.length + us.length : Nat) : Int) > 512 := by omega
   have hb2k := E2.at (show (g.upd b8 _) b2 = some _ by rw [upd_ne _ _ _ (by intro hh; subst hh; rw [G.at (show (B.upd b6 _) b2 = some _ by rw [upd_ne _ _ _ h26]; exact hB2)] at hb8; cases hb8)]; exact G.at (show (B.upd b6 _) b2 = some _ by rw [upd_ne _ _ _ h26]; exact hB2))
   rw [hL]
   simp only [go_sem,seval, hgt, hb2k, upd_upd]
   refine lessQ.same ?_
   simp only [go_sem,seval, upd_same]
   exact EndW.less (AVle.tuple (.cons zPrg_le (.cons (.refl _) .nil))) (le_upd_of hb2 (AHeap.le_trans (AHeap.le_trans (AHeap.le_trans hBle (AHeap.le_upd hB6)) (AHeap.le_trans G.le (AHeap.le_upd hb8))) E2.le) _) ⟨rfl, rfl⟩
  ·have hgt : ¬ ((n.r.params.length + us.length : Nat) : Int) > 512 := by omega
   have hk8 := E2.at (upd_same g b8 _)
   have hk6 := E2.at (show (g.upd b8 _) b6 = some _ by rw [upd_ne _ _ _ hb86]; exact G.at (upd_same B b6 _))
   have hk6' : ∀ o, (k2.upd b8 o) b6 = some (pBlk p v) := fun o => by rw [upd_ne _ _ _ hb86]; exact hk6
   simp only [go_sem,seval, hgt, aia_sl hrow (eNd_len n), n0, hk8, upd_same, upd_upd, E2.cells]
   refine tcE (rstmts_spec K _ n.r.body 1 (Nat.le_refl _) o8 o9 (by omega) hF (tree_body htr) false _) ?_
   simp only [go_sem,seval, upd_same, upd_upd, hk6']
   have Gb := G.fresh hb8 (.blk [eTexts n.r.before, eTexts n.r.trail, .str n.r.name, .int .i64 n.r.result, .sl (n.r.params.map eParam) false, .sl (n.r.vars.map eVar) false, .sl (n.r.inner.map eRoutine) false, .sl (n.r.body.map eStmt) false, eTexts n.r.endd] 9 43)
   obtain ⟨k, Ea, Gc⟩ := Gb.swap E2
   have Gd := Gc.upd (Ea.at (upd_same _ b8 _)) (.blk [eTexts n.r.before, eTexts n.r.trail, .str n.path, .int .i64 n.r.result, v2, .sl (n.r.vars.map eVar) false, .sl [] true, .sl ((liftSs (liftF (nodesOf p.routines) (cUps p.routines) (pre.length : Int)) n.r.body).map eStmt) false, eTexts n.r.endd] 9 43)
   have hOl : O.length = pre.length := by rw [hRL.1]; exact liftRs_len _ _ _ _
   refine Gd.append1 (xs := [eTexts n.r.before, eTexts n.r.trail, .str n.path, .int .i64 n.r.result, v2, .sl (n.r.vars.map eVar) false, .sl [] true, .sl ((liftSs (liftF (nodesOf p.routines) (cUps p.routines) (pre.length : Int)) n.r.body).map eStmt) false, eTexts n.r.endd]) rfl (by rw [hOl]; unfold roomFor; omega) (fun v' g' G' => ?_)
   have hB86 : (B.upd b6 (pBlk p v)) b8 = none := none_le G.le hb8
   have hkle : (B.upd b6 (pBlk p v)).le (k.upd b8 (.blk [eTexts n.r.before, eTexts n.r.trail, .str n.path, .int .i64 n.r.result, v2, .sl (n.r.vars.map eVar) false, .sl [] true, .sl ((liftSs (liftF (nodesOf p.routines) (cUps p.routines) (pre.length : Int)) n.r.body).map eStmt) false, eTexts n.r.endd] 9 43)) := le_upd_of hB86 (AHeap.le_trans (AHeap.le_upd hB86) Ea.le) _
   obtain ⟨h3, G3, le3⟩ := G'.rebase (h0 := B.upd b6 (pBlk p v)) hkle
   have hg6' : g' b6 = some (pBlk p v) := le3 _ _ (G3.at (upd_same B b6 _))
   simp only [go_sem,seval, hg6', G3.cells]
   have G4 := G3.upd (upd_same B b6 _) (pBlk p v')
   rw [upd_upd] at G4
   refine ⟨_, _, WeakE.of ?_ (.of_le (le_upd_upd le3 b6 _)), v', _, G4, ?_, ?_, rfl⟩
   ·simp only [go_sem,seval, step_at (l := (nodesOf p.routines).zip (cUps p.routines)) (by unfold few; omega) hp]
   ·rw [liftRs_snoc]
    refine hRL.snoc rfl ?_
    rw [eRoutine_eq]
    have hav := E2.avle
    rw [← List.map_append] at hav
    simp only [liftR, Nat.zero_add]
    exact .cons (.refl _) (.cons (.refl _) (.cons (.refl _) (.cons (.refl _) (.cons hav (.cons (.refl _) (.cons (.sl _ _) (.cons (.refl _) (.cons (.refl _) .nil))))))))
   ·rw [List.any_append, hany]
    simp [tooMany, htm]
 ·rintro e g ⟨v, O, G, hRL, hany, rfl⟩
  have hg6 := G.at (upd_same B b6 _)
  have hg2 := G.at (show (B.upd b6 _) b2 = some _ by rw [upd_ne _ _ _ h26]; exact hB2)
  have hg2' : ∀ o, (g.upd b6 o) b2 = some _ := fun o => by rw [upd_ne _ _ _ h26]; exact hg2
  have K : LK (nodesOf p.routines) (cUps p.routines) (-1) := ⟨hns, har, hups, hfu, by omega, by omega⟩
  have hF : Found (nodesOf p.routines) (-1) (callSs p.body) := fun m hm => by
   obtain ⟨v, _, _, hv⟩ := rn2 m hm
   have : ((-1 : Int) + 2).toNat = 1 := by decide
   rw [this, hv]; omega
  rw [hzip]
  simp only [go_sem,seval, lt_end]
  refine lessQ.same ?_
  simp only [go_sem,seval]
  refine tcE (rstmts_spec K _ p.body 1 (Nat.le_refl _) ho.body ho.eachStmt hwb hF hrs.2 false _) ?_
  simp only [go_sem,seval, hg6, hg2', upd_same]
  have hL : liftP p = (⟨p.name, p.before, p.mid, p.after, p.recs, p.vars, liftRs (nodesOf p.routines) (cUps p.routines) 0 ((nodesOf p.routines).zip (cUps p.routines)), liftSs (liftF (nodesOf p.routines) (cUps p.routines) (-1)) p.body, p.endd⟩, 0) := by
   unfold liftP
   simp only [if_neg hbig]
   rw [if_neg (by rw [hany]; simp)]
  rw [hL]
  have hb6h : h b6 = none := none_le hBle hB6
  refine EndW.less (AVle.tuple (.cons (AVle.agg ?_) (.cons (.refl _) .nil))) (le_upd_of hb2 (le_upd_of hb6h (AHeap.le_trans (AHeap.le_trans hBle (AHeap.le_upd hB6)) G.le) _) _) ⟨rfl, rfl⟩
  rw [ePrg_eq]
  exact .cons (.refl _) (.cons (.refl _) (.cons (.refl _) (.cons (.refl _) (.cons (.refl _) (.cons (.refl _) (.cons (G.avle.trans (hRL.avle _)) (.cons (.refl _) (.cons (.refl _) .nil))))))))
end Pg
