import Derived.Test.YtpebidcmkjjpnaaTreeS
import Derived.Test.YtpebidcmkjjpnaaCap1
namespace Pg
open Go
set_option linter.unusedSimpArgs false
set_option linter.unusedVariables false
set_option maxHeartbeats 4000000
set_option maxRecDepth 4000
/-! ### Sets of pairs -/
def ePk (x : Nat × Nat) : AV := .agg [.int .i64 x.1, .int .i64 x.2]
def ePr (x : Nat × Nat) : AV × AV := (ePk x, .bool true)
theorem keyEq_pair (x y : Nat × Nat) : keyEq [3, 1, 1] (ePk x) (ePk y) = some (decide (x = y)) := by
  obtain ⟨a, b⟩ := x
  obtain ⟨c, d⟩ := y
  simp only [ePk, keyEq, cellsEq, cellEq, if_true]
  congr 1
  by_cases h1 : a = c <;> by_cases h2 : b = d <;> simp [h1, h2] <;> omega
theorem afind_pair (x : Nat × Nat) : ∀ hs : Pairs, afind [3, 1, 1] (ePk x) (hs.map ePr) = some (if x ∈ hs then some (.bool true) else none)
  | [] => rfl
  | y :: r => by
    simp only [List.map_cons, ePr, afind, keyEq_pair]
    by_cases h : x = y
    · simp [h]
    · simp only [h, decide_false, List.mem_cons, false_or]
      exact afind_pair x r
theorem aset_pair (x : Nat × Nat) : ∀ hs : Pairs, aset [3, 1, 1] (ePk x) (.bool true) (hs.map ePr) = some ((hadd hs x).map ePr)
  | [] => by simp [aset, hadd, ePr]
  | y :: r => by
    simp only [List.map_cons, ePr, aset, keyEq_pair]
    by_cases h : x = y
    · subst h; simp [hadd, ePr]
    · simp only [h, decide_false]
      have e := aset_pair x r
      rw [e]
      simp only [hadd, List.mem_cons, h, false_or]
      by_cases hr : x ∈ r <;> simp [hr, ePr]
/-! ### A graph, as it stays -/
structure Gra where
  gb : Nat
  mt : Nat
  bs : List NB
  ns : List CN
  top : List (ByteArray × Nat)
structure Gra.ok (G : Gra) : Prop where
  len : G.bs.length = G.ns.length
  nodup : (G.gb :: G.mt :: ids G.bs).Nodup
  around : ∀ (i : Nat) n, G.ns[i]? = some n → n.around < i ∧ -1 ≤ n.around
  room : G.ns.length ≤ 1099511627776
  locs : ∀ n ∈ G.ns, (locs n.r).length ≤ 1099511627776
structure Stat (G : Gra) (h : AHeap) : Prop where
  g : h G.gb = some (gBlk (.sl (G.bs.map pRow) false) (.map (some G.mt)))
  top : h G.mt = some (.mp (G.top.map eIx))
  node : ∀ (i : Nat) b n, G.bs[i]? = some b → G.ns[i]? = some n → ∃ calls, h b.p = some (oNode n.path n.around n.list n.r (.sl ((Pg.locs n.r).map eParam) false) (.map (some b.mi)) calls (.map (some b.mh)))
  inner : ∀ (i : Nat) b n, G.bs[i]? = some b → G.ns[i]? = some n → h b.mi = some (.mp (n.inner.map eIx))
theorem Stat.of_le {G : Gra} {h g : AHeap} (s : Stat G h) (le : h.le g) : Stat G g :=
  ⟨le _ _ s.g, le _ _ s.top, fun i b n hb hn => let ⟨c, hc⟩ := s.node i b n hb hn; ⟨c, le _ _ hc⟩, fun i b n hb hn => le _ _ (s.inner i b n hb hn)⟩
theorem names_spec {G : Gra} (ok : G.ok) {h : AHeap} (s : Stat G h) {j : Nat} {bj : NB} (hj : G.bs[j]? = some bj) {hs : Pairs} (hh : h bj.mh = some (.mp (hs.map ePr))) (name : ByteArray) :
    ACalls Go.Proofs.Try.prog 103 [.ptr (some ⟨G.gb, 0, none⟩), .int .i64 (j : Int), .str name] h (fun v g => v = .tuple [] ∧ g = h.upd bj.mh (.mp ((useAt G.ns j hs name).map ePr))) := by
  have hjl : j < G.ns.length := by
    rw [← ok.len]
    rcases Nat.lt_or_ge j G.bs.length with h | h
    · exact h
    · rw [List.getElem?_eq_none h] at hj; cases hj
  have hroom := ok.room
  refine F103.calls (by simp) ?_
  delta F103.c0
  simp -implicitDefEqProofs only [↓pgPre,go_sem,↓reduceIte,reduceCtorEq,seval]
  refine lT_inv2 (fun m e k => ∃ (i : Int) (f : Nat), m = (i + 1).toNat ∧ -1 ≤ i ∧ i ≤ j ∧ (i + 1).toNat ≤ f ∧ nameAt G.ns name (j + 1) j = nameAt G.ns name f i ∧ e = [(0, .ptr (some ⟨G.gb, 0, none⟩)), (1, .int .i64 (j : Int)), (2, .str name), (6, .int .i64 i)] ∧ k = h) (j + 1) (WeakE.env ?_) ⟨j, j + 1, by omega, by omega, by omega, by omega, rfl, rfl, rfl⟩ ?_
  · skip
    repeat' (first | exact EnvLe.nil _ | refine EnvLe.cons ?_ ?_)
    all_goals (simp -implicitDefEqProofs only [↓pgPre,go_sem,↓reduceIte,reduceCtorEq,seval]; try first | exact AVle.refl _ | exact AVle.sl _ _ | exact AVle.gs _ _ _ | assumption)
  · rintro m e k ⟨i, f, rfl, hi1, hi2, hf, hN, rfl, rfl⟩
    by_cases hi : i < 0
    · have hi' : (i ≥ 0) = False := by simp; omega
      simp -implicitDefEqProofs only [↓pgPre,go_sem,↓reduceIte,reduceCtorEq,seval, hi']
      refine lessQ.same ?_
      simp -implicitDefEqProofs only [↓pgPre,go_sem,↓reduceIte,reduceCtorEq,seval]
      refine .same ⟨rfl, ?_⟩
      have : nameAt G.ns name f i = none := by cases f <;> simp [nameAt, hi]
      rw [upd_self (by rw [hh]; simp [useAt, hN, this])]
    · obtain ⟨a, rfl⟩ := Int.eq_ofNat_of_zero_le (by omega : 0 ≤ i)
      have ha : a ≤ j := by omega
      obtain ⟨n, hn⟩ : ∃ n, G.ns[a]? = some n := ⟨_, List.getElem?_eq_getElem (by omega)⟩
      obtain ⟨b, hb⟩ : ∃ b, G.bs[a]? = some b := ⟨_, List.getElem?_eq_getElem (by rw [ok.len]; omega)⟩
      obtain ⟨calls, hc⟩ := s.node a b n hb hn
      have hrow : (G.bs.map pRow)[a]? = some (pRow b) := by simp [hb]
      have hloc := ok.locs n (List.mem_of_getElem? hn)
      have har := ok.around a n hn
      have hi' : ((a : Int) ≥ 0) = True := by simp
      have hsg := s.g
      obtain ⟨f, rfl⟩ : ∃ f', f = f' + 1 := ⟨f - 1, by omega⟩
      have hNa : nameAt G.ns name (f + 1) a = match (locs n.r).findIdx? (fun p => decide (p.name = name)) with
          | some k => some (a, k)
          | none => nameAt G.ns name f n.around := by
        simp only [nameAt]
        rw [if_neg (by omega)]
        simp only [Int.toNat_natCast, hn]
        cases (locs n.r).findIdx? (fun p => decide (p.name = name)) <;> rfl
      simp -implicitDefEqProofs only [↓pgPre,go_sem,↓reduceIte,reduceCtorEq,seval, hi', hsg, aia_sl (size := 1) hrow rfl, hc]
      generalize hLL : locs n.r = L at hloc hNa
      refine lT_list L (fun pre post e k' => L.findIdx? (fun p => decide (p.name = name)) = (post.findIdx? (fun p => decide (p.name = name))).map (· + pre.length) ∧ k' = k ∧ e = [(0, .ptr (some ⟨G.gb, 0, none⟩)), (1, .int .i64 (j : Int)), (2, .str name), (6, .int .i64 a), (32, .sl (L.map eParam) false), (33, .int .i64 L.length), (34, .int .i64 pre.length)]) (WeakE.env ?_) ⟨by simp, rfl, rfl⟩ ?_ ?_
      · skip
        repeat' (first | exact EnvLe.nil _ | refine EnvLe.cons ?_ ?_)
        all_goals (simp -implicitDefEqProofs only [↓pgPre,go_sem,↓reduceIte,reduceCtorEq,seval]; try first | exact AVle.refl _ | exact AVle.sl _ _ | exact AVle.gs _ _ _ | assumption)
      · rintro pre x post e k' hp ⟨hk, rfl, rfl⟩
        by_cases he : x.name = name
        · have hfi : nameAt G.ns name (f + 1) a = some (a, pre.length) := by rw [hNa, hk]; simp [List.findIdx?_cons, he]
          simp -implicitDefEqProofs only [↓pgPre,go_sem,↓reduceIte,reduceCtorEq,seval, lt_at hp, aia_sl (map_at hp) (eParam_len x), eParam_len, param_take, param_0, he]
          by_cases haj : a = j
          · have haj' : ((a : Int) = (j : Int)) = True := by simp [haj]
            simp -implicitDefEqProofs only [↓pgPre,go_sem,↓reduceIte,reduceCtorEq,seval, haj']
            refine lessQ.same ?_
            simp -implicitDefEqProofs only [↓pgPre,go_sem,↓reduceIte,reduceCtorEq,seval]
            refine lessQ.same ?_
            simp -implicitDefEqProofs only [↓pgPre,go_sem,↓reduceIte,reduceCtorEq,seval]
            refine .same ⟨rfl, ?_⟩
            rw [upd_self (by rw [hh]; unfold useAt; rw [hN, hfi]; simp [haj])]
          · have haj' : ((a : Int) = (j : Int)) = False := by simp; omega
            obtain ⟨nj, hnj⟩ : ∃ n, G.ns[j]? = some n := ⟨_, List.getElem?_eq_getElem hjl⟩
            obtain ⟨cj, hcj⟩ := s.node j bj nj hj hnj
            have hrowj : (G.bs.map pRow)[j]? = some (pRow bj) := by simp [hj]
            simp -implicitDefEqProofs only [↓pgPre,go_sem,↓reduceIte,reduceCtorEq,seval, haj', hsg, aia_sl (size := 1) hrowj rfl, hcj]
            refine mapupT_of hh (aset_pair (a, pre.length) hs) rfl ?_
            simp -implicitDefEqProofs only [↓pgPre,go_sem,↓reduceIte,reduceCtorEq,seval]
            refine lessQ.same ?_
            simp -implicitDefEqProofs only [↓pgPre,go_sem,↓reduceIte,reduceCtorEq,seval]
            refine lessQ.same ?_
            simp -implicitDefEqProofs only [↓pgPre,go_sem,↓reduceIte,reduceCtorEq,seval]
            refine .same ⟨rfl, ?_⟩
            simp [useAt, hN, hfi, haj]
        · simp -implicitDefEqProofs only [↓pgPre,go_sem,↓reduceIte,reduceCtorEq,seval, lt_at hp, aia_sl (map_at hp) (eParam_len x), eParam_len, param_take, param_0, he]
          refine ⟨_, _, WeakE.env ?_, ?_, rfl, rfl⟩
          · skip
            repeat' (first | exact EnvLe.nil _ | refine EnvLe.cons ?_ ?_)
            all_goals (simp -implicitDefEqProofs only [↓pgPre,go_sem,↓reduceIte,reduceCtorEq,seval, step_at (l := L) (by unfold few; omega) hp]; try first | exact AVle.refl _ | exact AVle.sl _ _ | exact AVle.gs _ _ _ | assumption)
          · rw [hk]; simp [List.findIdx?_cons, he]
            cases post.findIdx? (fun p => decide (p.name = name)) <;> simp
            omega
      · rintro e k' ⟨hk, rfl, rfl⟩
        simp -implicitDefEqProofs only [↓pgPre,go_sem,↓reduceIte,reduceCtorEq,seval, lt_end]
        refine lessQ.same ?_
        simp -implicitDefEqProofs only [↓pgPre,go_sem,↓reduceIte,reduceCtorEq,seval, hsg, aia_sl (size := 1) hrow rfl, hc]
        refine lessI.to (n.around + 1).toNat _ _ (by omega) (WeakE.env ?_) ⟨n.around, f, rfl, by omega, by omega, by omega, ?_, rfl, rfl⟩
        · skip
          repeat' (first | exact EnvLe.nil _ | refine EnvLe.cons ?_ ?_)
          all_goals (simp -implicitDefEqProofs only [↓pgPre,go_sem,↓reduceIte,reduceCtorEq,seval]; try first | exact AVle.refl _ | exact AVle.sl _ _ | exact AVle.gs _ _ _ | assumption)
        · rw [hN, hNa, hk]; simp
theorem routine_spec13 {G : Gra} (ok : G.ok) {h : AHeap} (s : Stat G h) {j : Nat} (hjl : j < G.ns.length) (name : ByteArray) :
    ACalls Go.Proofs.Try.prog 119 [.ptr (some ⟨G.gb, 0, none⟩), .int .i64 (j : Int), .str name] h (fun v g => v = .tuple [.int .i64 (((routAt G.ns G.top name (j + 1) j).getD 0 : Nat) : Int), .bool (routAt G.ns G.top name (j + 1) j).isSome] ∧ g = h) := by
  have hroom := ok.room
  have hsg := s.g
  have hst := s.top
  refine F119.calls (by simp) ?_
  delta F119.c0
  simp -implicitDefEqProofs only [↓pgPre,go_sem,↓reduceIte,reduceCtorEq,seval]
  refine lT_inv2 (fun m e k => ∃ (i : Int) (f : Nat), m = (i + 1).toNat ∧ -1 ≤ i ∧ i ≤ j ∧ (i + 1).toNat ≤ f ∧ routAt G.ns G.top name (j + 1) j = routAt G.ns G.top name f i ∧ e = [(0, .ptr (some ⟨G.gb, 0, none⟩)), (1, .int .i64 (j : Int)), (2, .str name), (8, .int .i64 i)] ∧ k = h) (j + 1) (WeakE.env ?_) ⟨j, j + 1, by omega, by omega, by omega, by omega, rfl, rfl, rfl⟩ ?_
  · skip
    repeat' (first | exact EnvLe.nil _ | refine EnvLe.cons ?_ ?_)
    all_goals (simp -implicitDefEqProofs only [↓pgPre,go_sem,↓reduceIte,reduceCtorEq,seval]; try first | exact AVle.refl _ | exact AVle.sl _ _ | exact AVle.gs _ _ _ | assumption)
  · rintro m e k ⟨i, f, rfl, hi1, hi2, hf, hN, rfl, rfl⟩
    by_cases hi : i < 0
    · have hi' : (i ≥ 0) = False := by simp; omega
      have hT : routAt G.ns G.top name (j + 1) j = lookN name G.top := by rw [hN]; cases f <;> simp [routAt, hi]
      simp -implicitDefEqProofs only [↓pgPre,go_sem,↓reduceIte,reduceCtorEq,seval, hi']
      refine lessQ.same ?_
      simp -implicitDefEqProofs only [↓pgPre,go_sem,↓reduceIte,reduceCtorEq,seval, hsg, hst, alookup, amapOf, keyFits, afind_ix]
      rw [hT]
      cases lookN name G.top with
      | none =>
        simp -implicitDefEqProofs only [↓pgPre,go_sem,↓reduceIte,reduceCtorEq,seval]
        exact .same ⟨rfl, rfl⟩
      | some x =>
        simp -implicitDefEqProofs only [↓pgPre,go_sem,↓reduceIte,reduceCtorEq,seval]
        exact .same ⟨rfl, rfl⟩
    · obtain ⟨a, rfl⟩ := Int.eq_ofNat_of_zero_le (by omega : 0 ≤ i)
      have ha : a ≤ j := by omega
      obtain ⟨n, hn⟩ : ∃ n, G.ns[a]? = some n := ⟨_, List.getElem?_eq_getElem (by omega)⟩
      obtain ⟨b, hb⟩ : ∃ b, G.bs[a]? = some b := ⟨_, List.getElem?_eq_getElem (by rw [ok.len]; omega)⟩
      obtain ⟨calls, hc⟩ := s.node a b n hb hn
      have hin := s.inner a b n hb hn
      have hrow : (G.bs.map pRow)[a]? = some (pRow b) := by simp [hb]
      have har := ok.around a n hn
      have hi' : ((a : Int) ≥ 0) = True := by simp
      obtain ⟨f, rfl⟩ : ∃ f', f = f' + 1 := ⟨f - 1, by omega⟩
      have hNa : routAt G.ns G.top name (f + 1) a = match lookN name n.inner with
          | some k => some k
          | none => routAt G.ns G.top name f n.around := by
        simp only [routAt]
        rw [if_neg (by omega)]
        simp only [Int.toNat_natCast, hn]
        cases lookN name n.inner <;> rfl
      simp -implicitDefEqProofs only [↓pgPre,go_sem,↓reduceIte,reduceCtorEq,seval, hi', hsg, aia_sl (size := 1) hrow rfl, hc, hin, alookup, amapOf, keyFits, afind_ix]
      cases hl : lookN name n.inner with
      | some x =>
        rw [hl] at hNa
        simp -implicitDefEqProofs only [↓pgPre,go_sem,↓reduceIte,reduceCtorEq,seval]
        refine lessQ.same ?_
        simp -implicitDefEqProofs only [↓pgPre,go_sem,↓reduceIte,reduceCtorEq,seval]
        exact .same ⟨by rw [hN, hNa]; rfl, rfl⟩
      | none =>
        rw [hl] at hNa
        simp -implicitDefEqProofs only [↓pgPre,go_sem,↓reduceIte,reduceCtorEq,seval, hsg, aia_sl (size := 1) hrow rfl, hc]
        refine lessI.to (n.around + 1).toNat _ _ (by omega) (WeakE.env ?_) ⟨n.around, f, rfl, by omega, by omega, by omega, ?_, rfl, rfl⟩
        · skip
          repeat' (first | exact EnvLe.nil _ | refine EnvLe.cons ?_ ?_)
          all_goals (simp -implicitDefEqProofs only [↓pgPre,go_sem,↓reduceIte,reduceCtorEq,seval]; try first | exact AVle.refl _ | exact AVle.sl _ _ | exact AVle.gs _ _ _ | assumption)
        · rw [hN, hNa]
end Pg
