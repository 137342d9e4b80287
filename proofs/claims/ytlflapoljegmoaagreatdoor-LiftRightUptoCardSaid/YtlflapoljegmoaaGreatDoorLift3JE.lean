import Derived.Test.YtlflapoljegmoaaGreatDoorTreeSE
import Derived.Test.YtlflapoljegmoaaGreatDoorNodesJE
import Derived.Test.YtlflapoljegmoaaGreatDoorCpXE
import Derived.Test.YtlflapoljegmoaaGreatDoorLwXE
import Derived.Test.YtlflapoljegmoaaGreatDoorLift1JE
import Derived.Test.YtlflapoljegmoaaGreatDoorK4E
namespace Pg
open Go
set_option linter.all false
set_option maxHeartbeats 4000000
set_option maxRecDepth 4000
end Pg

namespace Pg
open Go Go.Proofs.Tryz
set_option linter.all false
set_option maxHeartbeats 4000000
set_option maxRecDepth 4000
abbrev pathsV (p : Prg) : AV := .sl ((gra p.routines).ns.map fun n => [.str n.path]) false
noncomputable abbrev upsV (p : Prg) : AV := .sl ((cUps p.routines).map uRow) false
theorem lof_bad [GI] (h : AHeap) (p : Prg) (ho : p.ok) (hc : (check p).2 ≠ 0) : ACalls prog 27 [.agg (ePrg p)] h (fun v g => v = .tuple [.ptr none, .bool false] ∧ g = h) := by
 refine F27.calls (by simp) ?_
 delta F27.c0
 simp only [go_sem,seval, ePrg_len]
 refine tcE (Check_spec h p ho) ?_
 simp only [go_sem,seval, hc]
 exact .same ⟨rfl, rfl⟩
theorem lof_good [GI] (h : AHeap) (p : Prg) (ho : p.ok) (hw : wRs p.routines ≤ 274877906944) (hnw : nwRs p.routines ≤ 274877906944) (hc : (check p).2 = 0) :
  ACalls prog 27 [.agg (ePrg p)] h (fun v g => ∃ tb l1 u1 u2, v = .tuple [.ptr (some ⟨tb, 0, none⟩), .bool true] ∧ g = h.join l1 ∧ h.apart l1 ∧ ∃ R ps, Flat ((nodesOf p.routines).map (·.r)) R ps ∧ Tb l1 tb u1 u2 u1 u2 R ((nodesOf p.routines).map aRow) (pathsV p) (upsV p)) := by
 refine F27.calls (by simp) ?_
 delta F27.c0
 simp only [go_sem,seval, ePrg_len]
 refine tcE (Check_spec h p ho) ?_
 simp only [go_sem,seval, hc, ePrg_len]
 refine tcE (Paths_good h p ho hw hnw hc) ?_
 simp only [go_sem,seval]
 refine tcE (Ups_good h p ho hw hnw hc) ?_
 simp only [go_sem,seval]
 refine afreshT_intro fun tb htb => ?_
 simp only [go_sem,seval]
 rw [← join_single htb]
 have ap : h.apart (AHeap.single tb (tBlk (.sl [] true) (.sl [] true) (pathsV p) (upsV p))) := fun b o e => by
  simp only [AHeap.single]
  rw [if_neg]
  intro hh; subst hh; rw [htb] at e; cases e
 have T : Tb (AHeap.single tb (tBlk (.sl [] true) (.sl [] true) (pathsV p) (upsV p))) tb (.sl [] true) (.sl [] true) (.sl [] true) (.sl [] true) [] [] (pathsV p) (upsV p) := ⟨by simp [AHeap.single], .nil _ _ _, .nil _ _ _, .nil _, .nil _, fun _ _ _ e => by cases e⟩
 obtain ⟨ps, KR⟩ := KRs.of _ p.routines (Nat.lt_succ_self _)
 refine callT_of (ladd_spec _ p.routines (Nat.lt_succ_self _) ho.routines ho.eachRoutine h _ tb _ _ _ _ _ _ (-1) p.routines noBytes false _ _ KR ap T (by simpa using hw) rfl) (fun w g hg => ?_)
 obtain ⟨rfl, l1, u1, u2, R, rfl, ap1, FL, T1⟩ := hg
 simp only [go_sem,seval]
 exact .same ⟨tb, l1, u1, u2, rfl, rfl, ap1, R, ps, FL, by simpa using T1⟩
theorem lcallee_spec [GI] (h : AHeap) (ns : List CN) (hn : ns.length ≤ 1048576) (har : ∀ (i : Nat) n, ns[i]? = some n → n.around < (i : Int) ∧ -1 ≤ n.around) (a0 : Int) (h0 : -1 ≤ a0) (h1 : a0 < ns.length) (name : ByteArray)
  {tb : Nat} {u1 u2 v3 v4 : AV} (hb : h tb = some (tBlk u1 u2 v3 v4)) {R : List (List AV)} {ps : List AV} (FL : Flat (ns.map (·.r)) R ps) (o1 : OL h 43 9 u1 R) (o2 : OL h 3 1 u2 (ns.map aRow)) :
  ACalls prog 47 [.ptr (some ⟨tb, 0, none⟩), .int .i64 a0, .str name] h (fun v g => v = .int .i64 (calleeAt ns name (a0 + 2).toNat a0) ∧ g = h) := by
 have hfn : few ns := by unfold few; omega
 have hl1 : R.length = ns.length := by rw [FL.len.1, List.length_map]
 refine F47.calls (by simp) ?_
 delta F47.c0
 simp only [go_sem,seval]
 refine lT_inv2 (fun m e g => ∃ (a : Int) (f : Nat), m = (a + 1).toNat ∧ -1 ≤ a ∧ a < ns.length ∧ (a + 2).toNat ≤ f ∧ calleeAt ns name (a0 + 2).toNat a0 = calleeAt ns name f a ∧ e = [(0, .ptr (some ⟨tb, 0, none⟩)), (1, .int .i64 a), (2, .str name)] ∧ h = g) (a0 + 1).toNat (WeakE.env ?_) ⟨a0, _, rfl, h0, h1, Nat.le_refl _, rfl, rfl, rfl⟩ ?_
 ·simp only [go_sem,seval]
 ·rintro m e g ⟨a, f, rfl, ha, hal, hf, hN, rfl, rfl⟩
  obtain ⟨f, rfl⟩ : ∃ f', f = f' + 1 := ⟨f - 1, by omega⟩
  simp only [go_sem,seval, hb, o1.len, hl1]
  refine lT_list ns (fun pre post e g => ns.findIdx? (fun n => decide (n.around = a) && decide (n.r.name = name)) = (post.findIdx? (fun n => decide (n.around = a) && decide (n.r.name = name))).map (· + pre.length) ∧ e = [(0, .ptr (some ⟨tb, 0, none⟩)), (1, .int .i64 a), (2, .str name), (12, u1), (13, .int .i64 ns.length), (14, .int .i64 pre.length)] ∧ h = g) (WeakE.env ?_) ⟨by simp, rfl, rfl⟩ ?_ ?_
  ·simp only [go_sem,seval]
  ·rintro pre n post e g hp ⟨hk, rfl, rfl⟩
   obtain ⟨pv, ir, _, hrow1⟩ := FL.get (map_at hp)
   have hrow2 : (ns.map aRow)[pre.length]? = some (aRow n) := map_at hp
   obtain ⟨b1, cs1, t1, e1, e2, e3, e4, e5⟩ := o1.at (k := .i64) hrow1
   obtain ⟨b2, cs2, t2, d1, d2, d3⟩ := o2.at1 (k := .i64) hrow2
   by_cases hx : n.around = a
   ·by_cases hy : n.r.name = name
    ·simp only [go_sem,seval, lt_at hp, e1, e2, e3, e4, d1, d2, d3, hb, kRow_len, kRow_take, kRow_2, hx, hy]
     refine lessQ.same ?_
     simp only [go_sem,seval]
     refine lessQ.same ?_
     simp only [go_sem,seval]
     refine .same ⟨?_, rfl⟩
     rw [hN]
     simp only [calleeAt]
     rw [hk]
     simp [List.findIdx?_cons, hx, hy]
    ·simp only [go_sem,seval, lt_at hp, e1, e2, e3, e4, d1, d2, d3, hb, kRow_len, kRow_take, kRow_2, hx, hy]
     refine ⟨_, _, WeakE.env ?_, ?_, rfl, rfl⟩
     ·simp only [go_sem,seval, step_at hfn hp]
     ·rw [hk]; simp [List.findIdx?_cons, hx, hy]
      cases post.findIdx? (fun n => decide (n.around = a) && decide (n.r.name = name)) <;> simp
      omega
   ·simp only [go_sem,seval, lt_at hp, e1, e2, e3, e4, d1, d2, d3, hb, kRow_len, kRow_take, hx]
    refine ⟨_, _, WeakE.env ?_, ?_, rfl, rfl⟩
    ·simp only [go_sem,seval, step_at hfn hp]
    ·rw [hk]; simp [List.findIdx?_cons, hx]
     cases post.findIdx? (fun n => decide (n.around = a) && decide (n.r.name = name)) <;> simp
     omega
  ·rintro e g ⟨hk, rfl, rfl⟩
   have hnone : ns.findIdx? (fun n => decide (n.around = a) && decide (n.r.name = name)) = none := by rw [hk]; rfl
   simp only [go_sem,seval, lt_end]
   refine lessQ.same ?_
   by_cases hneg : a < 0
   ·simp only [go_sem,seval, hneg]
    refine lessQ.same ?_
    simp only [go_sem,seval]
    refine .same ⟨?_, rfl⟩
    rw [hN]
    simp only [calleeAt]
    rw [hnone]
    simp [hneg]
   ·obtain ⟨k, rfl⟩ := Int.eq_ofNat_of_zero_le (by omega : 0 ≤ a)
    obtain ⟨n, hn'⟩ : ∃ n, ns[k]? = some n := ⟨_, List.getElem?_eq_getElem (by omega)⟩
    have hrow : (ns.map aRow)[k]? = some (aRow n) := by simp [hn']
    obtain ⟨b2, cs2, t2, d1, d2, d3⟩ := o2.at1 (k := .i64) hrow
    have hna := har k n hn'
    simp only [go_sem,seval, hneg, hb, d1, d2, d3]
    refine lessI.to (n.around + 1).toNat _ _ (by omega) (WeakE.env ?_) ⟨n.around, f, rfl, by omega, by omega, by omega, ?_, rfl, rfl⟩
    ·simp only [go_sem,seval]
    ·rw [hN]
     simp only [calleeAt]
     rw [hnone]
     simp [hneg, hn']
end Pg

namespace Pg
open Go
set_option linter.all false
theorem AVle.rows {es es' : List (List AV)} {f : Bool} (hl : es.length = es'.length) (h : ∀ (i : Nat) e e', es[i]? = some e → es'[i]? = some e' → e.length = e'.length ∧ AVles e e') : AVle (.sl es f) (.sl es' false) := by
 intro I v r
 obtain ⟨a, cap, rfl, h1, h2, h3, h4, h5⟩ := r.inv_sl
 rcases h5 with h5 | ⟨b, o, size, vss, rfl, R⟩
 ·subst h5
  have : es' = [] := by simpa using hl.symm
  subst this
  exact r.sl_open
 ·have get : ∀ (i : Nat) e', es'[i]? = some e' → ∃ e, es[i]? = some e := fun i e' e1 => ⟨_, List.getElem?_eq_getElem (by
   rw [hl]
   rcases Nat.lt_or_ge i es'.length with h | h
   ·exact h
   ·rw [List.getElem?_eq_none h] at e1; cases e1)⟩
  rw [hl] at h1 ⊢
  refine Rd.of_rows (es := es') (vss := vss) false h1 (fun h => by cases h) ⟨by rw [← R.len]; exact hl.symm, ?_, fun i vs j v e1 e2 => R.mem i vs j v e1 e2, R.one, ?_⟩
  ·intro i e' vs e1 e2
   obtain ⟨e, he⟩ := get i e' e1
   have := R.size_ i e vs he e2
   exact ⟨by rw [← (h i e e' he e1).1]; exact this.1, this.2⟩
  ·intro i e' vs j c v e1 e2 e3 e4
   obtain ⟨e, he⟩ := get i e' e1
   have hs := R.size_ i e vs he e2
   exact ((h i e e' he e1).2 I vs ⟨by rw [hs.1, hs.2], fun j c v e3 e4 => R.rd i e vs j c v he e2 e3 e4⟩).at_ j c v e3 e4
theorem AVle.row1 {x y : List AV} {f : Bool} (hl : x.length = y.length) (h : AVles x y) : AVle (.sl [x] f) (.sl [y] false) := by
 refine AVle.rows rfl fun i e e' h1 h2 => ?_
 cases i with
 | zero => simp at h1 h2; subst h1 h2; exact ⟨hl, h⟩
 | succ i => simp at h1
end Pg

namespace Pg
open Go Go.Proofs.Tryz
set_option linter.all false
set_option maxHeartbeats 4000000
set_option maxRecDepth 4000
structure Tv (h : AHeap) (tb : Nat) (ns : List CN) (ups : List (List Param)) : Prop where
 len : ns.length ≤ 1048576
 around : ∀ (i : Nat) n, ns[i]? = some n → n.around < (i : Int) ∧ -1 ≤ n.around
 same : ups.length = ns.length
 each : ∀ l ∈ ups, l.length ≤ 1048576
 ex : ∃ u1 u2 R ps, h tb = some (tBlk u1 u2 (.sl (ns.map fun n => [.str n.path]) false) (.sl (ups.map uRow) false)) ∧ Flat (ns.map (·.r)) R ps ∧ OL h 43 9 u1 R ∧ OL h 3 1 u2 (ns.map aRow)
theorem Tv.le {h g : AHeap} {tb : Nat} {ns : List CN} {ups : List (List Param)} (t : Tv h tb ns ups) (le : h.le g) : Tv g tb ns ups := by
 obtain ⟨u1, u2, R, ps, e, F, o1, o2⟩ := t.ex
 exact ⟨t.len, t.around, t.same, t.each, u1, u2, R, ps, le _ _ e, F, o1.of_le le, o2.of_le le⟩
theorem calleeAt_lt (ns : List CN) (name : ByteArray) : ∀ (f : Nat) (a : Int), calleeAt ns name f a < ns.length
 | 0, a => by simp only [calleeAt]; omega
 | f + 1, a => by
  simp only [calleeAt]
  split
  ·rename_i i hi
   have := (List.findIdx?_eq_some_iff_getElem.1 hi).1
   omega
  ·split
   ·omega
   ·split
    ·exact calleeAt_lt ns name f _
    ·omega
def liftF (ns : List CN) (ups : List (List Param)) (a : Int) (name : ByteArray) : Option (ByteArray × List Param) :=
 let k := calleeAt ns name (a + 2).toNat a
 if k < 0 then none else match ns[k.toNat]?, ups[k.toNat]? with
  | some n, some us => some (n.path, us)
  | _, _ => none
abbrev upRow (u : Param) : List AV := [.int .i64 25, .int .i64 0, .str u.name, .str (⟨#[]⟩ : ByteArray), .sl [] true]
theorem avle_ups (l : List Expr) (us : List Param) : AVle (.sl (l.map eExpr ++ us.map upRow) false) (.sl ((l ++ us.map upE).map eExpr) false) := by
 rw [List.map_append]
 refine AVle.rows (by simp) fun i e e' h1 h2 => ?_
 rcases Nat.lt_or_ge i l.length with h | h
 ·rw [List.getElem?_append_left (by simpa using h)] at h1 h2
  rw [h1] at h2; cases h2
  exact ⟨rfl, .refl _⟩
 ·rw [List.getElem?_append_right (by simpa using h)] at h1 h2
  simp only [List.map_map, List.getElem?_map, Option.map_eq_some_iff] at h1 h2
  obtain ⟨u, hu, rfl⟩ := h1
  obtain ⟨u', hu', rfl⟩ := h2
  simp only [List.length_map] at hu hu'
  rw [hu] at hu'; cases hu'
  simp only [Function.comp]
  rw [eExpr_eq]
  exact ⟨rfl, .cons (.refl _) (.cons (.refl _) (.cons (.refl _) (.cons (.refl _) (.cons (.sl _ _) .nil))))⟩
theorem lcall_spec [GI] {h0 h : AHeap} {tb : Nat} {ns : List CN} {ups : List (List Param)} (T : Tv h0 tb ns ups) {a0 : Int} (ha : -1 ≤ a0) (hb : a0 < ns.length) (op n : Int) (name field : ByteArray) (l : List Expr) (hl : l.length ≤ 2097152) {v : AV} (G : GL 76 5 h0 h v (l.map eExpr)) :
  ACalls prog 97 [.agg [.ptr (some ⟨tb, 0, none⟩), .int .i64 a0], .agg [.int .i64 op, .int .i64 n, .str name, .str field, v]] h
   (fun w g => w = .agg (eExpr (match liftF ns ups a0 name with | some (path, us) => ⟨op, n, path, field, l ++ us.map upE⟩ | none => ⟨op, n, name, field, l⟩)) ∧ g = h0) := by
 obtain ⟨u1, u2, R, ps, e, F, o1, o2⟩ := T.ex
 refine F97.calls (by simp) ?_
 delta F97.c0
 simp only [go_sem,seval]
 refine afreshT_intro fun b3 hb3 => ?_
 simp only [go_sem,seval]
 refine afreshT_intro fun b4 hb4 => ?_
 obtain ⟨hne, hb4'⟩ := none_upd hb4
 have h03 := none_le G.le hb3
 have h04 := none_le G.le hb4'
 have G1 := (G.fresh hb3 (.blk [.int .i64 op, .int .i64 n, .str name, .str field, v] 5 76)).fresh hb4 (.blk [.int .i64 0, .int .i64 0, .str (⟨#[]⟩ : ByteArray), .str (⟨#[]⟩ : ByteArray), .sl [] true] 5 76)
 have hle := AHeap.le_trans (AHeap.le_upd h03 (o := .blk [.int .i64 op, .int .i64 n, .str name, .str field, v] 5 76)) (AHeap.le_upd (b := b4) (o := .blk [.int .i64 0, .int .i64 0, .str (⟨#[]⟩ : ByteArray), .str (⟨#[]⟩ : ByteArray), .sl [] true] 5 76) (by rw [upd_ne _ _ _ hne]; exact h04))
 have c3 : ((h0.upd b3 (.blk [.int .i64 op, .int .i64 n, .str name, .str field, v] 5 76)).upd b4 (.blk [.int .i64 0, .int .i64 0, .str (⟨#[]⟩ : ByteArray), .str (⟨#[]⟩ : ByteArray), .sl [] true] 5 76)) b3 = some (.blk [.int .i64 op, .int .i64 n, .str name, .str field, v] 5 76) := by rw [upd_ne _ _ _ hne.symm, upd_same]
 have c4 : ((h0.upd b3 (.blk [.int .i64 op, .int .i64 n, .str name, .str field, v] 5 76)).upd b4 (.blk [.int .i64 0, .int .i64 0, .str (⟨#[]⟩ : ByteArray), .str (⟨#[]⟩ : ByteArray), .sl [] true] 5 76)) b4 = some (.blk [.int .i64 0, .int .i64 0, .str (⟨#[]⟩ : ByteArray), .str (⟨#[]⟩ : ByteArray), .sl [] true] 5 76) := upd_same _ _ _
 generalize (h0.upd b3 (.blk [.int .i64 op, .int .i64 n, .str name, .str field, v] 5 76)).upd b4 (.blk [.int .i64 0, .int .i64 0, .str (⟨#[]⟩ : ByteArray), .str (⟨#[]⟩ : ByteArray), .sl [] true] 5 76) = H0 at G1 hle c3 c4
 generalize (h.upd b3 (.blk [.int .i64 op, .int .i64 n, .str name, .str field, v] 5 76)).upd b4 (.blk [.int .i64 0, .int .i64 0, .str (⟨#[]⟩ : ByteArray), .str (⟨#[]⟩ : ByteArray), .sl [] true] 5 76) = H at G1
 have hleH := AHeap.le_trans hle G1.le
 have e3 := G1.at c3
 have e4 := G1.at c4
 simp only [go_sem,seval, e3]
 refine tcE (lcallee_spec H ns T.len T.around a0 ha hb name (hleH _ _ e) F (o1.of_le hleH) (o2.of_le hleH)) ?_
 have hlt := calleeAt_lt ns name (a0 + 2).toNat a0
 by_cases hk : calleeAt ns name (a0 + 2).toNat a0 < 0
 ·have hf : liftF ns ups a0 name = none := by unfold liftF; simp [hk]
  rw [hf]
  simp only [go_sem,seval, hk, e3, e4, upd_same]
  refine EndW.less (AVle.agg ?_) (le_upd_of h04 hleH _) ⟨rfl, rfl⟩
  rw [eExpr_eq]
  exact .cons (.refl _) (.cons (.refl _) (.cons (.refl _) (.cons (.refl _) (.cons G.avle .nil))))
 ·obtain ⟨k, hk2⟩ : ∃ k : Nat, calleeAt ns name (a0 + 2).toNat a0 = k := Int.eq_ofNat_of_zero_le (by omega)
  obtain ⟨nk, hnk⟩ : ∃ n, ns[k]? = some n := ⟨_, List.getElem?_eq_getElem (by omega)⟩
  obtain ⟨us, hus⟩ : ∃ n, ups[k]? = some n := ⟨_, List.getElem?_eq_getElem (by have := T.same; omega)⟩
  have hul := T.each us (List.mem_of_getElem? hus)
  have hf : liftF ns ups a0 name = some (nk.path, us) := by unfold liftF; simp [hk2, hnk, hus]
  rw [hf]
  have hr1 : (ns.map fun n => [AV.str n.path])[k]? = some [.str nk.path] := by simp [hnk]
  have hr2 : (ups.map uRow)[k]? = some (uRow us) := by simp [hus]
  have htb := hleH _ _ e
  have hkn : ¬ (k : Int) < 0 := by omega
  simp only [go_sem,seval, hk2, hkn, htb, aia_sl (size := 1) hr1 rfl, e3]
  have nbt : tb ≠ b3 := by intro hh; subst hh; rw [h03] at e; cases e
  have htb2 : ∀ o, (H.upd b3 o) tb = some (tBlk u1 u2 (.sl (ns.map fun n => [.str n.path]) false) (.sl (ups.map uRow) false)) := fun o => by rw [upd_ne _ _ _ nbt]; exact htb
  simp only [go_sem,seval, htb2, aia_sl (size := 1) hr2 rfl]
  have G2 := G1.upd c3 (.blk [.int .i64 op, .int .i64 n, .str nk.path, .str field, v] 5 76)
  have hB : ∀ o, h0.le (H0.upd b3 o) := fun o => le_upd_of h03 hle o
  have c5 : ∀ o, (H0.upd b3 o) b4 = some (.blk [.int .i64 0, .int .i64 0, .str (⟨#[]⟩ : ByteArray), .str (⟨#[]⟩ : ByteArray), .sl [] true] 5 76) := fun o => by rw [upd_ne _ _ _ hne]; exact c4
  refine lT_list us (fun pre post e g => ∃ v', GL 76 5 (H0.upd b3 (.blk [.int .i64 op, .int .i64 n, .str nk.path, .str field, v'] 5 76)) g v' (l.map eExpr ++ pre.map upRow) ∧ e = [(3, .ptr (some ⟨b3, 0, none⟩)), (4, .ptr (some ⟨b4, 0, none⟩)), (34, .sl (us.map eParam) false), (35, .int .i64 us.length), (36, .int .i64 pre.length)]) (WeakE.env ?_) ⟨v, by simpa using G2, rfl⟩ ?_ ?_
  ·simp only [go_sem,seval]
  ·rintro pre u post e g hp ⟨v', E, rfl⟩
   have hpl := (at_pre hp).2
   have e5 := E.at (upd_same _ _ _)
   simp only [go_sem,seval, lt_at hp, aia_sl (map_at hp) (eParam_len u), eParam_len, param_take, param_0, e5]
   refine E.append1 (xs := upRow u) (bytes := 72) rfl (by unfold roomFor; simp; omega) (fun v2 g2 E2 => ?_)
   have e6 := E2.at (upd_same _ _ _)
   simp only [go_sem,seval, e6, E2.cells]
   have E3 := E2.upd (upd_same _ _ _) (.blk [.int .i64 op, .int .i64 n, .str nk.path, .str field, v2] 5 76)
   rw [upd_upd] at E3
   refine ⟨_, _, WeakE.env ?_, v2, by simpa using E3, rfl⟩
   ·simp only [go_sem,seval, step_at (l := us) (by unfold few; omega) hp]
  ·rintro e g ⟨v', E, rfl⟩
   have e5 := E.at (upd_same _ _ _)
   have e6 := E.at (c5 _)
   simp only [go_sem,seval, lt_end]
   refine lessQ.same ?_
   simp only [go_sem,seval, e5, e6, upd_same]
   refine EndW.less (AVle.agg ?_) (le_upd_of h04 (AHeap.le_trans (hB _) E.le) _) ⟨rfl, rfl⟩
   rw [eExpr_eq]
   exact .cons (.refl _) (.cons (.refl _) (.cons (.refl _) (.cons (.refl _) (.cons (E.avle.trans (avle_ups _ _)) .nil))))
theorem liftEs_snoc (f : ByteArray → Option (ByteArray × List Param)) (pre : List Expr) (x : Expr) : liftEs f (pre ++ [x]) = liftEs f pre ++ [liftE f x] := by simp [liftEs_map]
theorem liftSs_snoc (f : ByteArray → Option (ByteArray × List Param)) (pre : List Stmt) (x : Stmt) : liftSs f (pre ++ [x]) = liftSs f pre ++ [liftS f x] := by simp [liftSs_map]
theorem acalls_still [GI] {f : FuncId} {args : List AV} {h : AHeap} {ty : TypeId} {size : Nat} {rows : List (List AV)} (c : ACalls prog f args h (fun v g => GL ty size h g v rows)) : ACalls prog f args h (fun v g => v = .sl rows false ∧ g = h) :=
 ACalls.weak (c.mono fun v g G => G.endW ⟨rfl, rfl⟩)
theorem lexprs_spec [GI] {tb : Nat} {ns : List CN} {ups : List (List Param)} {a0 : Int} (ha : -1 ≤ a0) (hb : a0 < ns.length) : ∀ (N : Nat) (l : List Expr), Exprs.sz l < N → few l → (∀ x ∈ l, x.ok) → wEs l ≤ 1048576 → ∀ (fl : Bool) (h : AHeap), Tv h tb ns ups →
  ACalls prog 60 [.agg [.ptr (some ⟨tb, 0, none⟩), .int .i64 a0], .sl (l.map eExpr) fl] h (fun v g => GL 76 5 h g v ((liftEs (liftF ns ups a0) l).map eExpr)) := by
 intro N
 induction N with
 | zero => intro l h; omega
 | succ N ih =>
  intro l hN hl hok hw fl h T
  refine F60.calls (by simp) ?_
  delta F60.c0
  simp only [go_sem,seval]
  refine lT_list l (fun pre post e g => ∃ v, GL 76 5 h g v ((liftEs (liftF ns ups a0) pre).map eExpr) ∧ e = [(2, .ip [.ptr (some ⟨tb, 0, none⟩), .int .i64 a0] 0), (5, v), (8, .sl (l.map eExpr) fl), (9, .int .i64 l.length), (10, .int .i64 pre.length)]) (WeakE.env ?_) ⟨.sl [] true, .nil h, rfl⟩ ?_ ?_
  ·simp only [go_sem,seval]
  ·rintro pre x post e g hp ⟨v, G, rfl⟩
   have hx := mem_at hp
   have hpl := (at_pre hp).2
   have hxz := Exprs.sz_mem hx
   have hz := Expr.sz_eq x
   obtain ⟨o1, o2⟩ := (Expr.ok_iff x).1 (hok x hx)
   have hww := wEs_mem hx
   have hwx := wE_eq x
   have hll := turnE_room l
   have hlx := turnE_room x.l
   have hre : ((liftEs (liftF ns ups a0) pre).map eExpr).length = pre.length := by simp [liftEs_map]
   simp only [go_sem,seval, lt_at hp, aia_sl (map_at hp) (eExpr_len x), eExpr_len, expr_take]
   refine afreshT_intro fun b hbn => ?_
   rw [eExpr_eq]
   simp only [go_sem,seval]
   rw [upd_upd]
   have hbh := none_le G.le hbn
   have Tg := T.le (AHeap.le_trans G.le (AHeap.le_upd hbn (o := .blk [.int .i64 x.op, .int .i64 x.n, .str x.name, .str x.field, .sl (x.l.map eExpr) false] 5 76)))
   have IH := ih x.l (by omega) o1 o2 (by omega) false _ Tg
   have hlr : ((liftEs (liftF ns ups a0) x.l)).length = x.l.length := by simp [liftEs_map]
   by_cases h7 : x.op = 7
   ·refine callT_of IH (fun v2 k E => ?_)
    have e1 := E.at (upd_same _ _ _)
    have E2 := E.upd (upd_same _ _ _) (.blk [.int .i64 x.op, .int .i64 x.n, .str x.name, .str x.field, v2] 5 76)
    rw [upd_upd] at E2
    simp only [go_sem,seval, e1, E.cells, h7]
    rw [h7] at E2
    have T2 := T.le (AHeap.le_trans G.le (AHeap.le_upd hbn (o := .blk [.int .i64 7, .int .i64 x.n, .str x.name, .str x.field, v2] 5 76)))
    refine tcE (lcall_spec T2 ha hb 7 x.n x.name x.field (liftEs (liftF ns ups a0) x.l) (by omega) E2) ?_
    have hL : liftE (liftF ns ups a0) x = (match liftF ns ups a0 x.name with | some (path, us) => ⟨7, x.n, path, x.field, liftEs (liftF ns ups a0) x.l ++ us.map upE⟩ | none => ⟨7, x.n, x.name, x.field, liftEs (liftF ns ups a0) x.l⟩) := by
     rw [liftE_eq, if_pos h7]
     cases liftF ns ups a0 x.name with
     | none => simp only; rw [← h7]
     | some q => simp only; rw [h7]
    rw [← hL]
    simp only [go_sem,seval, upd_same, upd_upd, eExpr_len, expr_take, splice_same]
    have G2 := G.fresh hbn (.blk (eExpr (liftE (liftF ns ups a0) x)) 5 76)
    refine G2.append1 (xs := eExpr (liftE (liftF ns ups a0) x)) (bytes := 72) (eExpr_len _) (by unfold roomFor; rw [hre]; omega) (fun v3 g3 G3 => ?_)
    obtain ⟨n, G4, rfl, hn⟩ := GL.drop hbh G3
    simp only [go_sem,seval]
    refine ⟨_, _, WeakE.of ?_ (.of_le (AHeap.le_upd hn)), v3, by rw [liftEs_snoc, List.map_append]; exact G4, rfl⟩
    ·simp only [go_sem,seval, step_at hl hp]
   ·refine tcE (acalls_still IH) ?_
    have hL : eExpr (liftE (liftF ns ups a0) x) = [.int .i64 x.op, .int .i64 x.n, .str x.name, .str x.field, .sl ((liftEs (liftF ns ups a0) x.l).map eExpr) false] := by
     rw [liftE_eq, if_neg h7, eExpr_eq]
    simp only [go_sem,seval, upd_same, upd_upd, h7]
    rw [← hL]
    have G2 := G.fresh hbn (.blk (eExpr (liftE (liftF ns ups a0) x)) 5 76)
    refine G2.append1 (xs := eExpr (liftE (liftF ns ups a0) x)) (bytes := 72) (eExpr_len _) (by unfold roomFor; rw [hre]; omega) (fun v3 g3 G3 => ?_)
    obtain ⟨n, G4, rfl, hn⟩ := GL.drop hbh G3
    simp only [go_sem,seval]
    refine ⟨_, _, WeakE.of ?_ (.of_le (AHeap.le_upd hn)), v3, by rw [liftEs_snoc, List.map_append]; exact G4, rfl⟩
    ·simp only [go_sem,seval, step_at hl hp]
  ·rintro e g ⟨v, G, rfl⟩
   simp only [go_sem,seval, lt_end]
   refine lessQ.same ?_
   simp only [go_sem,seval]
   exact .same G
theorem lstmts_spec [GI] {tb : Nat} {ns : List CN} {ups : List (List Param)} {a0 : Int} (ha : -1 ≤ a0) (hb : a0 < ns.length) : ∀ (N : Nat) (l : List Stmt), Stmts.sz l < N → few l → (∀ x ∈ l, x.ok) → wSs l ≤ 1048576 → ∀ (fl : Bool) (h : AHeap), Tv h tb ns ups →
  ACalls prog 30 [.agg [.ptr (some ⟨tb, 0, none⟩), .int .i64 a0], .sl (l.map eStmt) fl] h (fun v g => v = .sl ((liftSs (liftF ns ups a0) l).map eStmt) false ∧ g = h) := by
 intro N
 induction N with
 | zero => intro l h; omega
 | succ N ih =>
  intro l hN hl hok hw fl h T
  refine F30.calls (by simp) ?_
  delta F30.c0
  simp only [go_sem,seval]
  refine lT_list l (fun pre post e g => ∃ v, GL 78 16 h g v ((liftSs (liftF ns ups a0) pre).map eStmt) ∧ e = [(2, .ip [.ptr (some ⟨tb, 0, none⟩), .int .i64 a0] 0), (5, v), (8, .sl (l.map eStmt) fl), (9, .int .i64 l.length), (10, .int .i64 pre.length)]) (WeakE.env ?_) ⟨.sl [] true, .nil h, rfl⟩ ?_ ?_
  ·simp only [go_sem,seval]
  ·rintro pre x post e g hp ⟨v, G, rfl⟩
   have hx := mem_at hp
   have hpl := (at_pre hp).2
   have hxz := Stmts.sz_mem hx
   have hz := Stmt.sz_eq x
   obtain ⟨f1, f2, okp, fe, oke, fb, okb, fs, oks, f3, f4⟩ := (Stmt.ok_iff x).1 (hok x hx)
   obtain ⟨op1, op2⟩ := (Expr.ok_iff x.p).1 okp
   have hww := wSs_mem hx
   have hwx := wS_eq x
   have hwp := wE_eq x.p
   have hll := wSs_len l
   have hre : ((liftSs (liftF ns ups a0) pre).map eStmt).length = pre.length := by simp [liftSs_map]
   simp only [go_sem,seval, lt_at hp, aia_sl (map_at hp) (eStmt_len x), eStmt_len, stmt_take]
   refine afreshT_intro fun b hbn => ?_
   rw [eStmt_eq]
   simp only [go_sem,seval]
   rw [upd_upd]
   have hbh := none_le G.le hbn
   have Tg : ∀ o, Tv (g.upd b o) tb ns ups := fun o => T.le (AHeap.le_trans G.le (AHeap.le_upd hbn))
   refine tcE (acalls_still (lexprs_spec ha hb _ x.p.l (Nat.lt_succ_self _) op1 op2 (by omega) false _ (Tg _))) ?_
   simp only [go_sem,seval, upd_same, upd_upd]
   refine tcE (acalls_still (lexprs_spec ha hb _ x.e (Nat.lt_succ_self _) fe oke (by omega) false _ (Tg _))) ?_
   simp only [go_sem,seval, upd_same, upd_upd]
   refine tcE (ih x.body (by omega) fb okb (by omega) false _ (Tg _)) ?_
   simp only [go_sem,seval, upd_same, upd_upd]
   refine tcE (ih x.els (by omega) fs oks (by omega) false _ (Tg _)) ?_
   simp only [go_sem,seval, upd_same, upd_upd]
   refine ⟨.inr (by decide), ⟨.inr (by decide), .inr (by decide)⟩, ?_⟩
   have hL : eStmt (liftS (liftF ns ups a0) x) = [eTexts x.before, eTexts x.trail, .int .i64 x.op, .str x.name, .int .i64 x.p.op, .int .i64 x.p.n, .str x.p.name, .str x.p.field, .sl ((liftEs (liftF ns ups a0) x.p.l).map eExpr) false, .sl ((liftEs (liftF ns ups a0) x.e).map eExpr) false, .bool x.down, .bool x.more, .sl ((liftSs (liftF ns ups a0) x.body).map eStmt) false, .sl ((liftSs (liftF ns ups a0) x.els).map eStmt) false, eTexts x.end1, eTexts x.end2] := by
    rw [liftS_eq, eStmt_eq]
   rw [← hL]
   have G2 := G.fresh hbn (.blk (eStmt (liftS (liftF ns ups a0) x)) 16 78)
   refine G2.append1 (xs := eStmt (liftS (liftF ns ups a0) x)) (bytes := 272) (eStmt_len _) (by unfold roomFor; rw [hre]; omega) (fun v3 g3 G3 => ?_)
   obtain ⟨n, G4, rfl, hn⟩ := GL.drop hbh G3
   simp only [go_sem,seval]
   refine ⟨_, _, WeakE.of ?_ (.of_le (AHeap.le_upd hn)), v3, by rw [liftSs_snoc, List.map_append]; exact G4, rfl⟩
   ·simp only [go_sem,seval, step_at hl hp]
  ·rintro e g ⟨v, G, rfl⟩
   simp only [go_sem,seval, lt_end]
   refine lessQ.same ?_
   simp only [go_sem,seval]
   exact G.endW ⟨rfl, rfl⟩
end Pg
