import Derived.Test.YtlflapoljegmoaaGreatDoorTreeSD
import Derived.Test.YtlflapoljegmoaaGreatDoorCodeGJD
import Derived.Test.YtlflapoljegmoaaGreatDoorNodesD
import Derived.Test.YtlflapoljegmoaaGreatDoorCpXD
import Derived.Test.YtlflapoljegmoaaGreatDoorLwXD
namespace Pg
open Go Go.Proofs.Tryz
set_option linter.all false
set_option maxHeartbeats 4000000
set_option maxRecDepth 4000
theorem exprCalls_spec [GI] : ∀ (N : Nat) (l : List Expr), Exprs.sz l < N → few l → (∀ x ∈ l, x.ok) → wEs l ≤ 274877906944 → ∀ (f : Bool) (h : AHeap),
  ACalls prog 132 [.sl (l.map eExpr) f] h (fun v g => v = .sl (txt (callEs l)) false ∧ g = h) := by
 intro N
 induction N with
 | zero => intro l h; omega
 | succ N ih =>
  intro l hN hl hok hw f h
  refine F132.calls (by simp) ?_
  delta F132.c0
  simp only [go_sem,seval]
  refine lT_list l (fun pre post e g => ∃ v, GL 9 1 h g v (txt (callEs pre)) ∧ e = [(0, .sl (l.map eExpr) f), (3, v), (4, .int .i64 pre.length)]) (WeakE.env ?_) ⟨.sl [] true, .nil h, rfl⟩ ?_ ?_
  ·simp only [go_sem,seval]
  ·rintro pre x post e g hp ⟨v, G, rfl⟩
   have hx := mem_at hp
   have hxz := Exprs.sz_mem hx
   have hz := Expr.sz_eq x
   obtain ⟨o1, o2⟩ := (Expr.ok_iff x).1 (hok x hx)
   have hww := wEs_at hp
   have hwx := wE_eq x
   have hcl := callEs_len _ pre (Nat.le_refl _)
   have hcx := callEs_len _ x.l (Nat.le_refl _)
   by_cases h7 : x.op = 7
   ·have hC : callE x = [x.name] ++ callEs x.l := by rw [callE_eq, if_pos h7]
    simp only [go_sem,seval, lt_at hp, aia_sl (map_at hp) (eExpr_len x), expr_0, expr_2, h7]
    refine G.txt1 (by omega) (fun v1 g1 G1 => ?_)
    simp only [go_sem,seval, aia_sl (map_at hp) (eExpr_len x), expr_4]
    refine tcE (ih x.l (by omega) o1 o2 (by omega) false _) ?_
    simp only [go_sem,seval]
    refine G1.txts (m := callEs x.l) (by rw [List.length_append]; simp; omega) (fun v3 g3 G3 => ?_)
    simp only [go_sem,seval]
    refine ⟨_, _, WeakE.env ?_, v3, ?_, rfl⟩
    ·simp only [go_sem,seval, step_at hl hp]
    ·rw [callEs_at, hC, ← List.append_assoc]; exact G3
   ·have hC : callE x = callEs x.l := by rw [callE_eq, if_neg h7]; rfl
    simp only [go_sem,seval, lt_at hp, aia_sl (map_at hp) (eExpr_len x), expr_0, h7, expr_4]
    refine tcE (ih x.l (by omega) o1 o2 (by omega) false _) ?_
    simp only [go_sem,seval]
    refine G.txts (m := callEs x.l) (by omega) (fun v3 g3 G3 => ?_)
    simp only [go_sem,seval]
    refine ⟨_, _, WeakE.env ?_, v3, ?_, rfl⟩
    ·simp only [go_sem,seval, step_at hl hp]
    ·rw [callEs_at, hC]; exact G3
  ·rintro e g ⟨v, G, rfl⟩
   simp only [go_sem,seval, lt_end]
   refine lessQ.same ?_
   simp only [go_sem,seval]
   exact G.endW ⟨rfl, rfl⟩
theorem Calls_spec [GI] : ∀ (N : Nat) (l : List Stmt), Stmts.sz l < N → few l → (∀ x ∈ l, x.ok) → wSs l ≤ 274877906944 → ∀ (f : Bool) (h : AHeap),
  ACalls prog 100 [.sl (l.map eStmt) f] h (fun v g => v = .sl (txt (callSs l)) false ∧ g = h) := by
 intro N
 induction N with
 | zero => intro l h; omega
 | succ N ih =>
  intro l hN hl hok hw f h
  refine F100.calls (by simp) ?_
  delta F100.c0
  simp only [go_sem,seval]
  refine lT_list l (fun pre post e g => ∃ v, GL 9 1 h g v (txt (callSs pre)) ∧ e = [(0, .sl (l.map eStmt) f), (3, v), (4, .int .i64 pre.length)]) (WeakE.env ?_) ⟨.sl [] true, .nil h, rfl⟩ ?_ ?_
  ·simp only [go_sem,seval]
  ·rintro pre x post e g hp ⟨v, G, rfl⟩
   have hx := mem_at hp
   have hxz := Stmts.sz_mem hx
   have hz := Stmt.sz_eq x
   have hok' := (Stmt.ok_iff x).1 (hok x hx)
   have hww := wSs_at hp
   have hwx := wS_eq x
   have hcl := callSs_len _ pre (Nat.le_refl _)
   have hc1 := callE_len x.p
   have hc2 := callEs_len _ x.e (Nat.le_refl _)
   have hc3 := callSs_len _ x.body (Nat.le_refl _)
   have hc4 := callSs_len _ x.els (Nat.le_refl _)
   have hP : ((eStmt x).drop 4).take 5 = eExpr x.p := by rw [eStmt_eq, eExpr_eq]; rfl
   have hp1 : callEs [x.p] = callE x.p := by simp [callEs]
   have hwp : wEs [x.p] = wE x.p := by simp [wEs]
   simp only [go_sem,seval, lt_at hp, aia_sl (map_at hp) (eStmt_len x), hP, eStmt_len, eExpr_len, splice_same]
   refine tcE (exprCalls_spec _ [x.p] (Nat.lt_succ_self _) (by unfold few; simp) (by simpa using hok'.2.2.1) (by omega) true _) ?_
   rw [hp1]
   simp only [go_sem,seval]
   refine G.txts (m := callE x.p) (by omega) (fun v3 g3 G3 => ?_)
   simp only [go_sem,seval, aia_sl (map_at hp) (eStmt_len x), stmt_9]
   refine tcE (exprCalls_spec _ x.e (Nat.lt_succ_self _) hok'.2.2.2.1 hok'.2.2.2.2.1 (by omega) false _) ?_
   simp only [go_sem,seval]
   refine G3.txts (m := callEs x.e) (by simp only [List.length_append]; omega) (fun v4 g4 G4 => ?_)
   simp only [go_sem,seval, aia_sl (map_at hp) (eStmt_len x), stmt_12]
   refine tcE (ih x.body (by omega) hok'.2.2.2.2.2.1 hok'.2.2.2.2.2.2.1 (by omega) false _) ?_
   simp only [go_sem,seval]
   refine G4.txts (m := callSs x.body) (by simp only [List.length_append]; omega) (fun v5 g5 G5 => ?_)
   simp only [go_sem,seval, aia_sl (map_at hp) (eStmt_len x), stmt_13]
   refine tcE (ih x.els (by omega) hok'.2.2.2.2.2.2.2.1 hok'.2.2.2.2.2.2.2.2.1 (by omega) false _) ?_
   simp only [go_sem,seval]
   refine G5.txts (m := callSs x.els) (by simp only [List.length_append]; omega) (fun v6 g6 G6 => ?_)
   simp only [go_sem,seval]
   refine ⟨_, _, WeakE.env ?_, v6, ?_, rfl⟩
   ·simp only [go_sem,seval, step_at hl hp]
   ·rw [callSs_at, callS_eq]
    simpa [List.append_assoc] using G6
  ·rintro e g ⟨v, G, rfl⟩
   simp only [go_sem,seval, lt_end]
   refine lessQ.same ?_
   simp only [go_sem,seval]
   exact G.endW ⟨rfl, rfl⟩
theorem Callee_spec [GI] (h : AHeap) (ns : List CN) (hn : ns.length ≤ 1048576) (har : ∀ (i : Nat) n, ns[i]? = some n → n.around < (i : Int) ∧ -1 ≤ n.around) (a0 : Int) (h0 : -1 ≤ a0) (h1 : a0 < ns.length) (name : ByteArray) :
  ACalls prog 20 [.sl (ns.map eNd) false, .int .i64 a0, .str name] h (fun v g => v = .int .i64 (calleeAt ns name (a0 + 2).toNat a0) ∧ g = h) := by
 have hfn : few ns := by unfold few; omega
 refine F20.calls (by simp) ?_
 delta F20.c0
 simp only [go_sem,seval]
 refine lT_inv2 (fun m e g => ∃ (a : Int) (f : Nat), m = (a + 1).toNat ∧ -1 ≤ a ∧ a < ns.length ∧ (a + 2).toNat ≤ f ∧ calleeAt ns name (a0 + 2).toNat a0 = calleeAt ns name f a ∧ e = [(0, .sl (ns.map eNd) false), (1, .int .i64 a), (2, .str name)] ∧ h = g) (a0 + 1).toNat (WeakE.env ?_) ⟨a0, _, rfl, h0, h1, Nat.le_refl _, rfl, rfl, rfl⟩ ?_
 ·simp only [go_sem,seval]
 ·rintro m e g ⟨a, f, rfl, ha, hal, hf, hN, rfl, rfl⟩
  obtain ⟨f, rfl⟩ : ∃ f', f = f' + 1 := ⟨f - 1, by omega⟩
  simp only [go_sem,seval]
  refine lT_list ns (fun pre post e g => ns.findIdx? (fun n => decide (n.around = a) && decide (n.r.name = name)) = (post.findIdx? (fun n => decide (n.around = a) && decide (n.r.name = name))).map (· + pre.length) ∧ e = [(0, .sl (ns.map eNd) false), (1, .int .i64 a), (2, .str name), (7, .int .i64 pre.length)] ∧ h = g) (WeakE.env ?_) ⟨by simp, rfl, rfl⟩ ?_ ?_
  ·simp only [go_sem,seval]
  ·rintro pre n post e g hp ⟨hk, rfl, rfl⟩
   have hrow : (ns.map eNd)[pre.length]? = some (eNd n) := map_at hp
   have n1 : (eNd n)[1]? = some (.int .i64 n.around) := rfl
   have n4 : (eNd n)[4]? = some (.str n.r.name) := rfl
   by_cases hx : n.around = a
   ·by_cases hy : n.r.name = name
    ·simp only [go_sem,seval, lt_at hp, aia_sl hrow (eNd_len n), n1, n4, hx, hy]
     refine lessQ.same ?_
     simp only [go_sem,seval]
     refine lessQ.same ?_
     simp only [go_sem,seval]
     refine .same ⟨?_, rfl⟩
     rw [hN]
     simp only [calleeAt]
     rw [hk]
     simp [List.findIdx?_cons, hx, hy]
    ·simp only [go_sem,seval, lt_at hp, aia_sl hrow (eNd_len n), n1, n4, hx, hy]
     refine ⟨_, _, WeakE.env ?_, ?_, rfl, rfl⟩
     ·simp only [go_sem,seval, step_at hfn hp]
     ·rw [hk]; simp [List.findIdx?_cons, hx, hy]
      cases post.findIdx? (fun n => decide (n.around = a) && decide (n.r.name = name)) <;> simp
      omega
   ·simp only [go_sem,seval, lt_at hp, aia_sl hrow (eNd_len n), n1, n4, hx]
    refine ⟨_, _, WeakE.env ?_, ?_, rfl, rfl⟩
    ·simp only [go_sem,seval, step_at hfn hp]
    ·rw [hk]; simp [List.findIdx?_cons, hx]
     cases post.findIdx? (fun n => decide (n.around = a) && decide (n.r.name = name)) <;> simp
     omega
  ·rintro e g ⟨hk, rfl, rfl⟩
   have hnone : ns.findIdx? (fun n => decide (n.around = a) && decide (n.r.name = name)) = none := by rw [hk]; rfl
   simp only [go_sem,seval, lt_end]
   refine lessQ.same ?_
   by_cases hneg : a < 0
   ·simp only [go_sem,seval, hneg]
    refine lessQ.same ?_
    simp only [go_sem,seval]
    refine .same ⟨?_, rfl⟩
    rw [hN]
    simp only [calleeAt]
    rw [hnone]
    simp [hneg]
   ·obtain ⟨k, rfl⟩ := Int.eq_ofNat_of_zero_le (by omega : 0 ≤ a)
    obtain ⟨n, hn'⟩ : ∃ n, ns[k]? = some n := ⟨_, List.getElem?_eq_getElem (by omega)⟩
    have hrow : (ns.map eNd)[k]? = some (eNd n) := by simp [hn']
    have n1 : (eNd n)[1]? = some (.int .i64 n.around) := rfl
    have hna := har k n hn'
    simp only [go_sem,seval, hneg, aia_sl hrow (eNd_len n), n1]
    refine lessI.to (n.around + 1).toNat _ _ (by omega) (WeakE.env ?_) ⟨n.around, f, rfl, by omega, by omega, by omega, ?_, rfl, rfl⟩
    ·simp only [go_sem,seval]
    ·rw [hN]
     simp only [calleeAt]
     rw [hnone]
     simp only [hneg, if_false, Int.toNat_natCast, hn']
end Pg

namespace Pg
open Go
set_option linter.all false
theorem up_iff {ns : List CN} {j o : Nat} {n : CN} (hn : ns[j]? = some n) : Up ns j o ↔ n.around = (o : Int) ∨ ∃ b : Nat, n.around = (b : Int) ∧ Up ns b o := by
 constructor
 ·intro u
  cases u with
  | base h ha => rw [hn] at h; cases h; exact .inl ha
  | step h ha u => rw [hn] at h; cases h; exact .inr ⟨_, ha, u⟩
 ·rintro (h | ⟨b, h, u⟩)
  ·exact .base hn h
  ·exact .step hn h u
theorem up_lt {ns : List CN} (har : ∀ (i : Nat) n, ns[i]? = some n → n.around < (i : Int) ∧ -1 ≤ n.around) {j o : Nat} (u : Up ns j o) : o < j := by
 induction u with
 | base h ha => have := har _ _ h; omega
 | step h ha _ ih => have := har _ _ h; omega
theorem chain_at {ns : List CN} {L0 L : List ByteArray} {o : Nat} {m : CN} (hm : ns[o]? = some m) (c : LChain ns L0 (o : Int) L) : ∃ L', LChain ns L0 m.around L' ∧ L = L' ++ (locs m.r).map (·.name) := by
 generalize hi : (o : Int) = i at c
 cases c with
 | top => omega
 | @up i' n L hn c =>
  have : o = i' := by omega
  subst this
  rw [hm] at hn; cases hn
  exact ⟨L, c, rfl⟩
theorem chain_up {ns : List CN} {L0 : List ByteArray} {a o : Nat} {m : CN} (hm : ns[o]? = some m) (u : Up ns a o) : ∀ {L : List ByteArray}, LChain ns L0 (a : Int) L → ∀ y ∈ (locs m.r).map (·.name), y ∈ L := by
 induction u with
 | @base j i n h ha =>
  intro L c y hy
  obtain ⟨L', c', rfl⟩ := chain_at h c
  rw [ha] at c'
  obtain ⟨L'', _, rfl⟩ := chain_at hm c'
  simp only [List.mem_append]
  exact .inl (.inr hy)
 | @step j k i n h ha u ih =>
  intro L c y hy
  obtain ⟨L', c', rfl⟩ := chain_at h c
  rw [ha] at c'
  exact List.mem_append.2 (.inl (ih hm c' y hy))
theorem nodup_map {X Y : Type} {f : X → Y} {l : List X} (nd : (l.map f).Nodup) {i j : Nat} {a b : X} (hi : l[i]? = some a) (hj : l[j]? = some b) (h : f a = f b) : i = j := by
 have e1 : (l.map f)[i]? = some (f a) := by simp [hi]
 have e2 : (l.map f)[j]? = some (f b) := by simp [hj]
 exact nodup_inj nd e1 (by rw [e2, h])
theorem find_at {l : List Param} (nd : (l.map (·.name)).Nodup) {k : Nat} {x : Param} (hx : l[k]? = some x) : l.findIdx? (fun p => decide (p.name = x.name)) = some k := by
 cases hf : l.findIdx? (fun p => decide (p.name = x.name)) with
 | none =>
  rw [List.findIdx?_eq_none_iff] at hf
  have := hf x (List.mem_of_getElem? hx)
  simp at this
 | some w =>
  obtain ⟨hlt, hp, _⟩ := List.findIdx?_eq_some_iff_getElem.1 hf
  simp only [decide_eq_true_eq] at hp
  congr 1
  exact nodup_map (f := fun y : Param => y.name) nd (List.getElem?_eq_getElem hlt) hx hp
theorem find_not {l : List Param} {name : ByteArray} (h : name ∉ l.map (·.name)) : l.findIdx? (fun p => decide (p.name = name)) = none := by
 rw [List.findIdx?_eq_none_iff]
 intro x hx
 simp only [decide_eq_false_iff_not]
 intro hh
 exact h (List.mem_map.2 ⟨x, hx, hh⟩)
structure Sense (ns : List CN) (L0 : List ByteArray) : Prop where
 around : ∀ (i : Nat) n, ns[i]? = some n → n.around < (i : Int) ∧ -1 ≤ n.around
 chain : ∀ (i : Nat) n, ns[i]? = some n → ∃ L, LChain ns L0 n.around L ∧ (L ++ (locs n.r).map (·.name)).Nodup
theorem Sense.own {ns : List CN} {L0 : List ByteArray} (s : Sense ns L0) {i : Nat} {n : CN} (hn : ns[i]? = some n) : ((locs n.r).map (·.name)).Nodup := by
 obtain ⟨L, _, nd⟩ := s.chain i n hn
 exact (List.nodup_append.1 nd).2.1
theorem Sense.find {ns : List CN} {L0 : List ByteArray} (s : Sense ns L0) {o : Nat} {m : CN} (hm : ns[o]? = some m) {k : Nat} {x : Param} (hx : (locs m.r)[k]? = some x) {j : Nat} (u : Up ns j o) : ∀ f, j + 1 ≤ f → nameAt ns x.name f j = some (o, k) := by
 have hxm : x.name ∈ (locs m.r).map (·.name) := List.mem_map.2 ⟨x, List.mem_of_getElem? hx, rfl⟩
 have skip : ∀ {j : Nat} {n : CN}, ns[j]? = some n → Up ns j o → (locs n.r).findIdx? (fun p => decide (p.name = x.name)) = none := fun {j n} hn u => by
  refine find_not fun hh => ?_
  obtain ⟨L, c, nd⟩ := s.chain j n hn
  have hL : x.name ∈ L := by
   rcases (up_iff hn).1 u with h | ⟨b, h, u'⟩
   ·rw [h] at c
    obtain ⟨L', _, rfl⟩ := chain_at hm c
    exact List.mem_append.2 (.inr hxm)
   ·rw [h] at c
    exact chain_up hm u' c _ hxm
  exact (List.nodup_append.1 nd).2.2 _ hL _ hh rfl
 induction u with
 | @base j i n h ha =>
  intro f hf
  have hlt := s.around j n h
  obtain ⟨f, rfl⟩ : ∃ g, f = g + 1 + 1 := ⟨f - 2, by omega⟩
  rw [nameAt, if_neg (by omega)]
  simp only [Int.toNat_natCast, h]
  rw [skip h (.base h ha)]
  simp only [ha]
  rw [nameAt, if_neg (by omega)]
  simp only [Int.toNat_natCast, hm]
  rw [find_at (s.own hm) hx]
 | @step j b i n h ha u ih =>
  intro f hf
  have hlt := s.around j n h
  obtain ⟨f, rfl⟩ : ∃ g, f = g + 1 := ⟨f - 1, by omega⟩
  rw [nameAt, if_neg (by omega)]
  simp only [Int.toNat_natCast, h]
  rw [skip h (.step h ha u)]
  simp only [ha]
  exact ih hm skip f (by omega)
theorem nameAt_name {ns : List CN} {name : ByteArray} : ∀ {f : Nat} {i : Int} {o k : Nat}, nameAt ns name f i = some (o, k) → ∃ m x, ns[o]? = some m ∧ (locs m.r)[k]? = some x ∧ x.name = name
 | 0, i, o, k, h => by simp [nameAt] at h
 | f + 1, i, o, k, h => by
  simp only [nameAt] at h
  split at h
  ·cases h
  ·cases hn : ns[i.toNat]? with
   | none => rw [hn] at h; cases h
   | some n =>
    rw [hn] at h
    simp only at h
    cases hk : (locs n.r).findIdx? (fun p => decide (p.name = name)) with
    | some v =>
     rw [hk] at h
     simp only [Option.some.injEq, Prod.mk.injEq] at h
     obtain ⟨rfl, rfl⟩ := h
     obtain ⟨hlt, hp, _⟩ := List.findIdx?_eq_some_iff_getElem.1 hk
     exact ⟨n, _, hn, List.getElem?_eq_getElem hlt, by simpa using hp⟩
    | none =>
     rw [hk] at h
     exact nameAt_name h
theorem use_iff {p : List Routine} {L0 : List ByteArray} (s : Sense (nodesOf p) L0) {j o k : Nat} {n m : CN} {x : Param} (hn : (nodesOf p)[j]? = some n) (hm : (nodesOf p)[o]? = some m) (hx : (locs m.r)[k]? = some x) :
  (o, k) ∈ (gra p).hs0 j ↔ Up (nodesOf p) j o ∧ x.name ∈ useSs n.r.body := by
 have e : (gra p).hs0 j = hasAt (nodesOf p) j (useSs n.r.body) [] := by
  unfold Gra.hs0
  have : (gra p).ns[j]? = some n := hn
  rw [this]
  rfl
 rw [e]
 constructor
 ·intro h
  rcases hasAt_in h with h | ⟨name, h1, h2, h3⟩
  ·simp at h
  ·obtain ⟨m', x', e1, e2, e3⟩ := nameAt_name h2
   rw [hm] at e1; cases e1
   rw [hx] at e2; cases e2
   obtain ⟨a, ha, hu⟩ := nameAt_up h2
   have : a = j := by omega
   subst this
   rcases hu with hu | hu
   ·exact absurd hu h3
   ·exact ⟨hu, by rw [e3]; exact h1⟩
 ·rintro ⟨u, h⟩
  have := up_lt s.around u
  exact hasAt_of (s.find hm hx u (j + 1) (Nat.le_refl _)) (by simp; omega) (.inl h)
def Goes (p : List Routine) (i v : Nat) : Prop := ∃ n, (nodesOf p)[i]? = some n ∧ ∃ name ∈ callSs n.r.body, calleeAt (nodesOf p) name (i + 2) i = (v : Int)
structure Sound (p : List Routine) (o k : Nat) (bs : List Bool) : Prop where
 len : bs.length = (nodesOf p).length
 sound : ∀ j : Nat, bs[j]? = some true → Caps (gra p) j (o, k)
def All (p : List Routine) (o k : Nat) (bs : List Bool) : Prop := ∀ j : Nat, Caps (gra p) j (o, k) → bs[j]? = some true
def trues (bs : List Bool) : Nat := bs.countP id
def Sub (a b : List Bool) : Prop := a.length = b.length ∧ ∀ j : Nat, a[j]? = some true → b[j]? = some true
theorem Sub.refl (a : List Bool) : Sub a a := ⟨rfl, fun _ h => h⟩
theorem Sub.trans {a b c : List Bool} (h : Sub a b) (g : Sub b c) : Sub a c := ⟨h.1.trans g.1, fun j e => g.2 j (h.2 j e)⟩
theorem Sub.set (a : List Bool) (i : Nat) : Sub a (a.set i true) := ⟨by simp, fun j h => by
 rw [List.getElem?_set]
 split
 ·rename_i hij
  subst hij
  rw [if_pos (List.getElem?_eq_some_iff.1 h).1]
 ·exact h⟩
theorem Sub.count : ∀ {a b : List Bool}, Sub a b → trues a ≤ trues b ∧ (trues a = trues b → a = b)
 | [], [], _ => by simp
 | [], _ :: _, h => by simp [Sub] at h
 | _ :: _, [], h => by simp [Sub] at h
 | x :: a, y :: b, h => by
  have ih := Sub.count (a := a) (b := b) ⟨by simpa using h.1, fun j hj => by simpa using h.2 (j + 1) (by simpa using hj)⟩
  have h0 := h.2 0
  simp only [List.getElem?_cons_zero, Option.some.injEq] at h0
  unfold trues at *
  cases x with
  | true =>
   have := h0 rfl
   subst this
   simp only [List.countP_cons, id_eq, if_true]
   refine ⟨by omega, fun hh => ?_⟩
   rw [ih.2 (by omega)]
  | false =>
   cases y with
   | true =>
    simp only [List.countP_cons, id_eq, if_true]
    refine ⟨by simp; omega, fun hh => ?_⟩
    simp at hh; omega
   | false =>
    simp only [List.countP_cons, id_eq]
    refine ⟨by simp; omega, fun hh => ?_⟩
    rw [ih.2 (by simpa using hh)]
theorem trues_le (bs : List Bool) : trues bs ≤ bs.length := List.countP_le_length
theorem trues_full {bs : List Bool} (h : bs.length ≤ trues bs) : ∀ j, j < bs.length → bs[j]? = some true := fun j hj => by
 have := List.countP_eq_length.1 (Nat.le_antisymm (trues_le bs) h)
 have := this bs[j] (List.getElem_mem hj)
 rw [List.getElem?_eq_getElem hj]
 simpa using this
structure Known (p : List Routine) (L0 : List ByteArray) : Prop extends sense : Sense (nodesOf p) L0 where
 calls : ∀ (i : Nat) n, (nodesOf p)[i]? = some n → ∀ m ∈ callSs n.r.body, ∃ v, routAt (nodesOf p) (capMap 0 [] p) m (i + 1) i = some v ∧ v < (nodesOf p).length ∧ calleeAt (nodesOf p) m (i + 2) i = v
theorem Known.goes {p : List Routine} {L0 : List ByteArray} (s : Known p L0) {i v : Nat} : v ∈ (gra p).cs0 i ↔ Goes p i v := by
 unfold Gra.cs0 Goes
 have : (gra p).ns = nodesOf p := rfl
 rw [this]
 cases hn : (nodesOf p)[i]? with
 | none => simp
 | some n =>
  simp only [callAt, List.mem_filterMap]
  constructor
  ·rintro ⟨name, h1, h2⟩
   obtain ⟨w, e1, e2, e3⟩ := s.calls i n hn name h1
   have h2' : routAt (nodesOf p) (capMap 0 [] p) name (i + 1) i = some v := h2
   rw [e1] at h2'; cases h2'
   exact ⟨n, rfl, name, h1, e3⟩
  ·rintro ⟨n', e, name, h1, h2⟩
   cases e
   obtain ⟨w, e1, e2, e3⟩ := s.calls i n hn name h1
   have : w = v := by omega
   subst this
   exact ⟨name, h1, e1⟩
theorem Sound.turn {p : List Routine} {L0 : List ByteArray} (s : Known p L0) {o k : Nat} {bs : List Bool} (b : Sound p o k bs) {i v : Nat} (hu : Up (nodesOf p) i o) (hg : Goes p i v) (hv : bs[v]? = some true) : Sound p o k (bs.set i true) := by
 refine ⟨by simpa using b.len, fun j hj => ?_⟩
 rw [List.getElem?_set] at hj
 split at hj
 ·rename_i h
  subst h
  have := up_lt s.around hu
  exact .call (s.goes.2 hg) (b.sound v hv) (by simp; omega)
 ·exact b.sound j hj
theorem all_of {p : List Routine} {L0 : List ByteArray} (s : Known p L0) {o k : Nat} {bs : List Bool} (h0 : ∀ j, (o, k) ∈ (gra p).hs0 j → bs[j]? = some true) (h1 : ∀ i v, Up (nodesOf p) i o → Goes p i v → bs[v]? = some true → bs[i]? = some true) : All p o k bs := by
 intro j c
 generalize hx : (o, k) = x at c
 induction c with
 | @use i x h => subst hx; exact h0 _ h
 | @call i v x hk c hne ih =>
  subst hx
  exact h1 i v (caps_up (.call hk c hne)) (s.goes.1 hk) (ih rfl)
theorem all_step {p : List Routine} {L0 : List ByteArray} (s : Known p L0) {o k t : Nat} {bs cur : List Bool} (hb : Sound p o k bs) (h0 : ∀ j, (o, k) ∈ (gra p).hs0 j → bs[j]? = some true) (hsub : Sub bs cur) (h1 : ∀ i v, Up (nodesOf p) i o → Goes p i v → bs[v]? = some true → cur[i]? = some true) (h2 : All p o k bs ∨ t ≤ trues bs) : All p o k cur ∨ t + 1 ≤ trues cur := by
 rcases h2 with h2 | h2
 ·exact .inl fun j c => hsub.2 j (h2 j c)
 ·have hc := hsub.count
  by_cases he : trues bs = trues cur
  ·have := hc.2 he
   subst this
   exact .inl (all_of s h0 h1)
  ·exact .inr (by omega)
theorem all_end {p : List Routine} {o k : Nat} {bs : List Bool} (hb : Sound p o k bs) (h2 : All p o k bs ∨ (nodesOf p).length ≤ trues bs) (hlt : ∀ j, Caps (gra p) j (o, k) → j < (nodesOf p).length) : ∀ j b, bs[j]? = some b → (b = true ↔ Caps (gra p) j (o, k)) := by
 intro j b hj
 constructor
 ·rintro rfl; exact hb.sound j hj
 ·intro c
  have : bs[j]? = some true := by
   rcases h2 with h2 | h2
   ·exact h2 j c
   ·exact trues_full (by rw [hb.len]; exact h2) j (by rw [hb.len]; exact hlt j c)
  rw [hj] at this
  simpa using this
end Pg
