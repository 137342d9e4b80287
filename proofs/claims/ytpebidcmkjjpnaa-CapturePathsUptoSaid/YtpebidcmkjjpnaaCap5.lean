import Derived.Test.YtpebidcmkjjpnaaTreeS
import Derived.Test.YtpebidcmkjjpnaaCapFacts
import Derived.Test.YtpebidcmkjjpnaaCkY
namespace Pg
open Go
set_option linter.unusedSimpArgs false
set_option linter.unusedVariables false
set_option maxHeartbeats 4000000
set_option maxRecDepth 4000
theorem NodesAt.get {h : AHeap} : ∀ {bs : List NB} {ns : List CN}, NodesAt h bs ns → ∀ {i : Nat} {b : NB} {n : CN}, bs[i]? = some b → ns[i]? = some n → NodeAt h b n
  | [], [], _, i, b, n, hb, _ => by simp at hb
  | c :: bs, m :: ns, ⟨k1, k⟩, 0, b, n, hb, hn => by
    simp only [List.getElem?_cons_zero, Option.some.injEq] at hb hn
    subst hb hn; exact k1
  | c :: bs, m :: ns, ⟨k1, k⟩, i + 1, b, n, hb, hn => by
    simp only [List.getElem?_cons_succ] at hb hn
    exact k.get hb hn
  | [], _ :: _, k, _, _, _, _, _ => k.elim
  | _ :: _, [], k, _, _, _, _, _ => k.elim
/-- A graph of which the first k routines are looked at. -/
structure Half (G : Gra) (k : Nat) (h : AHeap) : Prop where
  stat : Stat G h
  done : ∀ (i : Nat) b n, i < k → G.bs[i]? = some b → G.ns[i]? = some n → h b.p = some (oNode n.path n.around n.list n.r (.sl ((locs n.r).map eParam) false) (.map (some b.mi)) (.sl ((G.cs0 i).map iRow) false) (.map (some b.mh))) ∧ h b.mh = some (.mp ((G.hs0 i).map ePr))
  rest : ∀ (i : Nat) b n, k ≤ i → G.bs[i]? = some b → G.ns[i]? = some n → h b.p = some (nodeO n (.sl [] true) b) ∧ h b.mh = some (.mp [])
theorem weak_calls {path : ByteArray} {around : Int} {list : List Routine} {r : Routine} {v v' locals inner has : AV} (h : AVle v v') : ObjLe (oNode path around list r locals inner v has) (oNode path around list r locals inner v' has) := by
  refine ⟨rfl, rfl, rfl, ?_⟩
  iterate 14 refine AVles.cons (.refl _) ?_
  exact AVles.cons h (.refl _)
theorem hh_weak {b : NB} (hne : b.p ≠ b.mh) {n : CN} {H g : AHeap} {v v' : AV} {hs : Pairs} (le : (hh b n H v hs).le g) (a : AVle v v') : HeapLe g (hh b n H v' hs) := by
  unfold hh at le ⊢
  rw [upd_comm _ _ _ hne] at le ⊢
  exact weak_cell le (weak_calls a)
theorem hh_other {b : NB} {n : CN} {H : AHeap} {v : AV} {hs : Pairs} {x : Nat} (h1 : x ≠ b.p) (h2 : x ≠ b.mh) : hh b n H v hs x = H x := by
  unfold hh
  rw [upd_ne _ _ _ h2, upd_ne _ _ _ h1]
theorem Half.step {G : Gra} (ok : G.ok) {k : Nat} {h : AHeap} (s : Half G k h) {b : NB} {n : CN} (hb : G.bs[k]? = some b) (hn : G.ns[k]? = some n) : Half G (k + 1) (hh b n h (.sl ((G.cs0 k).map iRow) false) (G.hs0 k)) := by
  have nd := ok.ids_nd
  have oth : ∀ (i : Nat) b', i ≠ k → G.bs[i]? = some b' → (hh b n h (.sl ((G.cs0 k).map iRow) false) (G.hs0 k)) b'.p = h b'.p ∧ (hh b n h (.sl ((G.cs0 k).map iRow) false) (G.hs0 k)) b'.mh = h b'.mh := by
    intro i b' hik hb'
    have : ∀ x ∈ b'.ids, x ≠ b.p ∧ x ≠ b.mh := fun x hx => ⟨fun hh => hik (ids_apart nd hb' hb hx (by simp [NB.ids, hh])), fun hh => hik (ids_apart nd hb' hb hx (by simp [NB.ids, hh]))⟩
    have e1 := this b'.p (by simp [NB.ids])
    have e2 := this b'.mh (by simp [NB.ids])
    exact ⟨hh_other e1.1 e1.2, hh_other e2.1 e2.2⟩
  refine ⟨s.stat.hh ok hb hn _ _, fun i b' n' hi hb' hn' => ?_, fun i b' n' hi hb' hn' => ?_⟩
  · by_cases hik : i = k
    · subst hik
      rw [hb] at hb'; rw [hn] at hn'; cases hb'; cases hn'
      exact ⟨hh_p (ids_one nd hb).2.1 _ _ _ _, hh_mh _ _ _ _ _⟩
    · obtain ⟨e1, e2⟩ := oth i b' hik hb'
      rw [e1, e2]
      exact s.done i b' n' (by omega) hb' hn'
  · obtain ⟨e1, e2⟩ := oth i b' (by omega) hb'
    rw [e1, e2]
    exact s.rest i b' n' (by omega) hb' hn'
theorem Half.full {G : Gra} (ok : G.ok) {h : AHeap} (s : Half G G.ns.length h) : Full G G.hs0 h := by
  have lt : ∀ {i : Nat} {n : CN}, G.ns[i]? = some n → i < G.ns.length := fun {i n} hn => by
    rcases Nat.lt_or_ge i G.ns.length with h | h
    · exact h
    · rw [List.getElem?_eq_none h] at hn; cases hn
  refine ⟨s.stat.g, s.stat.top, fun i b n hb hn => (s.done i b n (lt hn) hb hn).1, s.stat.inner, fun i b hb => ?_⟩
  obtain ⟨n, hn⟩ : ∃ n, G.ns[i]? = some n := ⟨_, List.getElem?_eq_getElem (by
    rw [← ok.len]
    rcases Nat.lt_or_ge i G.bs.length with h | h
    · exact h
    · rw [List.getElem?_eq_none h] at hb; cases hb)⟩
  exact (s.done i b n (lt hn) hb hn).2
/-- A graph that is done. -/
structure Done (p : List Routine) (G : Gra) (hf : Nat → Pairs) (h0 h : AHeap) : Prop where
  isOf : G = Gra.of G.gb G.mt G.bs p
  ok : G.ok2
  full : Full G hf h
  fair : Fair G hf
  shut : ∀ i < G.ns.length, Shut G hf i (G.cs0 i)
  le : h0.le h
theorem of_bad (h : AHeap) (p : Prg) (ho : p.ok) (hc : (check p).2 ≠ 0) : ACalls Go.Proofs.Try.prog 62 [.agg (ePrg p)] h (fun v g => v = .ptr none ∧ g = h) := by
  refine F62.calls (by simp) ?_
  delta F62.c0
  simp -implicitDefEqProofs only [↓pgPre,go_sem,↓reduceIte,reduceCtorEq,seval]
  refine callT_of (Check_spec h p ho) (fun v g ⟨hv, hg⟩ => ?_)
  subst v g
  simp -implicitDefEqProofs only [↓pgPre,go_sem,↓reduceIte,reduceCtorEq,seval, hc]
  exact .same ⟨rfl, rfl⟩
theorem of_good (h : AHeap) (p : Prg) (ho : p.ok) (hw : wRs p.routines ≤ 274877906944) (hnw : nwRs p.routines ≤ 274877906944) (hc : (check p).2 = 0) :
    ACalls Go.Proofs.Try.prog 62 [.agg (ePrg p)] h (fun v g => ∃ G hf, v = .ptr (some ⟨G.gb, 0, none⟩) ∧ Done p.routines G hf h g) := by
  refine F62.calls (by simp) ?_
  delta F62.c0
  simp -implicitDefEqProofs only [↓pgPre,go_sem,↓reduceIte,reduceCtorEq,seval]
  refine callT_of (Check_spec h p ho) (fun v g ⟨hv, hg⟩ => ?_)
  subst v g
  simp -implicitDefEqProofs only [↓pgPre,go_sem,↓reduceIte,reduceCtorEq,seval, hc]
  refine afreshT_intro fun gb hgb => ?_
  simp -implicitDefEqProofs only [↓pgPre,go_sem,↓reduceIte,reduceCtorEq,seval]
  have G0 : GL 117 1 (h.upd gb (gBlk (.sl [] true) (.map none))) (h.upd gb (gBlk (.sl [] true) (.map none))) (.sl [] true) [] := .nil _
  refine callT_of (add_spec _ p.routines (Nat.lt_succ_self _) ho.routines ho.eachRoutine h _ gb (.sl [] true) [] (-1) noBytes G0 (by simpa using hw) (by have : noBytes.size = 0 := rfl; omega)) (fun w g1 hw1 => ?_)
  obtain ⟨v1, B1, bs, m, rfl, G1, le1, NA, hm, nd, fr⟩ := hw1
  simp only [List.length_nil] at NA hm
  simp only [List.nil_append] at G1
  have hgb1 : g1 gb = some (gBlk v1 (.map none)) := G1.at (upd_same _ _ _)
  simp -implicitDefEqProofs only [↓pgPre,go_sem,↓reduceIte,reduceCtorEq,seval, hgb1]
  have hgg : (g1.upd gb (gBlk v1 (.map (some m)))) gb = some (gBlk v1 (.map (some m))) := upd_same _ _ _
  have G2 := G1.upd (upd_same _ _ _) (gBlk v1 (.map (some m)))
  rw [upd_upd] at G2
  have nd' : (gb :: m :: ids bs).Nodup := List.nodup_cons.2 ⟨fun hh => (fr gb hh).2 rfl, nd⟩
  have ok : (Gra.of gb m bs p.routines).ok2 := gra_ok2 (by rw [NA.length, capL_len]) nd' hw
  have hgn : gb ∉ ids bs := fun hh => (fr gb (by simp [hh])).2 rfl
  have hmg : m ≠ gb := (fr m (by simp)).2
  have H0 : Half (Gra.of gb m bs p.routines) 0 (B1.upd gb (gBlk (.sl (bs.map pRow) false) (.map (some m)))) := by
    have NB := NA.upd hgn (gBlk (.sl (bs.map pRow) false) (.map (some m)))
    refine ⟨⟨upd_same _ _ _, ?_, fun i b n hb hn => ⟨_, (NB.get hb hn).1⟩, fun i b n hb hn => (NB.get hb hn).2.1⟩, fun i b n hi => by omega, fun i b n _ hb hn => ⟨(NB.get hb hn).1, (NB.get hb hn).2.2⟩⟩
    show (B1.upd gb _) m = _
    rw [upd_ne _ _ _ hmg]; exact hm
  have le2 : h.le (B1.upd gb (gBlk (.sl (bs.map pRow) false) (.map (some m)))) := le_upd_of hgb le1 _
  have hwk : HeapLe (g1.upd gb (gBlk v1 (.map (some m)))) (B1.upd gb (gBlk (.sl (bs.map pRow) false) (.map (some m)))) := weak_cell G2.le ⟨rfl, rfl, rfl, .cons G1.avle (.refl _)⟩
  have hbl : bs.length = (Gra.of gb m bs p.routines).ns.length := ok.len
  simp -implicitDefEqProofs only [↓pgPre,go_sem,↓reduceIte,reduceCtorEq,seval, hgg, G1.len]
  refine lT_list bs (fun pre post e g => Half (Gra.of gb m bs p.routines) pre.length g ∧ GKeeps (Gra.of gb m bs p.routines) (B1.upd gb (gBlk (.sl (bs.map pRow) false) (.map (some m)))) g ∧ e = [(5, .ptr (some ⟨gb, 0, none⟩)), (27, .sl (bs.map pRow) false), (28, .int .i64 bs.length), (29, .int .i64 pre.length)]) (WeakE.of ?_ hwk) ⟨H0, GKeeps.refl _ _, rfl⟩ ?_ ?_
  · skip
    repeat' (first | exact EnvLe.nil _ | refine EnvLe.cons ?_ ?_)
    all_goals (simp -implicitDefEqProofs only [↓pgPre,go_sem,↓reduceIte,reduceCtorEq,seval]; try first | exact AVle.refl _ | exact AVle.sl _ _ | exact AVle.gs _ _ _ | assumption)
    exact G1.avle
  · rintro pre b post e g hp ⟨H, kp, rfl⟩
    have hbi : (Gra.of gb m bs p.routines).bs[pre.length]? = some b := (at_pre hp).1
    have hil := (at_pre hp).2
    obtain ⟨n, hn⟩ : ∃ n, (Gra.of gb m bs p.routines).ns[pre.length]? = some n := ⟨_, List.getElem?_eq_getElem (by omega)⟩
    obtain ⟨hr1, hr2⟩ := H.rest _ b n (Nat.le_refl _) hbi hn
    have hrow : (bs.map pRow)[pre.length]? = some (pRow b) := map_at hp
    have hr1' : g b.p = some (oNode n.path n.around n.list n.r (.sl ((locs n.r).map eParam) false) (.map (some b.mi)) (.sl [] true) (.map (some b.mh))) := hr1
    simp -implicitDefEqProofs only [↓pgPre,go_sem,↓reduceIte,reduceCtorEq,seval, lt_at hp, aia_sl (size := 1) hrow rfl, hr1']
    have hnm := List.mem_of_getElem? hn
    have hro : n.r.ok := capL_all (P := Routine.ok) (fun x hx y hy => ((Routine.ok_iff x).1 hx).2.2.2.2.2.2.1 y hy) _ p.routines (Nat.lt_succ_self _) ho.eachRoutine 0 p.routines (-1) noBytes n hnm
    have hro' := (Routine.ok_iff n.r).1 hro
    have hrw : wR n.r ≤ 274877906944 := capL_all (P := fun x => wR x ≤ 274877906944) (fun x hx y hy => Nat.le_trans (wR_in hy) hx) _ p.routines (Nat.lt_succ_self _) (fun x hx => Nat.le_trans (wRs_mem hx) hw) 0 p.routines (-1) noBytes n hnm
    have hwr := wR_eq n.r
    have hself : hh b n g (.sl [] true) [] = g := by
      unfold hh
      rw [upd_self hr1']
      exact upd_self hr2
    have hst := stmts_spec13 ok.ok1 H.stat hbi hn _ n.r.body (Nat.lt_succ_self _) hro'.2.2.2.2.2.2.2.1 hro'.2.2.2.2.2.2.2.2.1 false g (.sl [] true) [] [] (by rw [hself]; exact .nil _) (by simp; omega)
    refine callT_of hst (fun v g2 hg2 => ?_)
    obtain ⟨rfl, v2, G3⟩ := hg2
    have hcs : (Gra.of gb m bs p.routines).cs0 pre.length = callAt (Gra.of gb m bs p.routines).ns (Gra.of gb m bs p.routines).top pre.length (callSs n.r.body) := by unfold Gra.cs0; rw [hn]
    have hhs : (Gra.of gb m bs p.routines).hs0 pre.length = hasAt (Gra.of gb m bs p.routines).ns pre.length (useSs n.r.body) [] := by unfold Gra.hs0; rw [hn]
    rw [List.nil_append, ← hcs, ← hhs] at G3
    simp -implicitDefEqProofs only [↓pgPre,go_sem,↓reduceIte,reduceCtorEq,seval]
    have hne := (ids_one ok.ok1.ids_nd hbi).2.1
    refine ⟨_, _, WeakE.of ?_ (hh_weak hne G3.le G3.avle), ?_, ?_, rfl⟩
    · skip
      repeat' (first | exact EnvLe.nil _ | refine EnvLe.cons ?_ ?_)
      all_goals (simp -implicitDefEqProofs only [↓pgPre,go_sem,↓reduceIte,reduceCtorEq,seval, step_at (l := bs) (by have := ok.ok1.room; unfold few; omega) hp]; try first | exact AVle.refl _ | exact AVle.sl _ _ | exact AVle.gs _ _ _ | assumption)
    · simpa using H.step ok.ok1 hbi hn
    · unfold hh
      exact (kp.upd (ids_mem hbi (by simp [NB.ids])) _).upd (ids_mem hbi (by simp [NB.ids])) _
  · rintro e g ⟨H, kp, rfl⟩
    simp -implicitDefEqProofs only [↓pgPre,go_sem,↓reduceIte,reduceCtorEq,seval, lt_end]
    refine lessQ.same ?_
    rw [hbl] at H
    simp -implicitDefEqProofs only [↓pgPre,go_sem,↓reduceIte,reduceCtorEq,seval]
    refine callT_of (close_spec ok (H.full ok.ok1) (gra_fair _)) (fun v g2 hg2 => ?_)
    obtain ⟨rfl, hf, F, fa, kp2, sh⟩ := hg2
    simp -implicitDefEqProofs only [↓pgPre,go_sem,↓reduceIte,reduceCtorEq,seval]
    refine .same ⟨Gra.of gb m bs p.routines, hf, rfl, ⟨rfl, ok, F, fa, sh, ?_⟩⟩
    intro x o e
    have hx : x ∉ ids bs := fun hh => by
      have := (fr x (by simp [hh])).1
      rw [this] at e; cases e
    exact (kp.trans kp2) x o (le2 x o e) hx
/-! ### What is told -/
def upL (f : Nat → Nat → Bool) (i : Nat) : Nat → List Param → List Param
  | _, [] => []
  | k, p :: r => (if f i k then [p] else []) ++ upL f i (k + 1) r
def upN (f : Nat → Nat → Bool) : Nat → List CN → List Param
  | _, [] => []
  | i, n :: r => upL f i 0 (locs n.r) ++ upN f (i + 1) r
theorem upL_snoc (f : Nat → Nat → Bool) (i : Nat) (x : Param) : ∀ (l : List Param) (k : Nat), upL f i k (l ++ [x]) = upL f i k l ++ (if f i (k + l.length) then [x] else [])
  | [], k => by simp [upL]
  | y :: l, k => by
    simp only [List.cons_append, upL, List.length_cons]
    rw [upL_snoc f i x l (k + 1), List.append_assoc, show k + 1 + l.length = k + (l.length + 1) by omega]
theorem upN_snoc (f : Nat → Nat → Bool) (x : CN) : ∀ (l : List CN) (i : Nat), upN f i (l ++ [x]) = upN f i l ++ upL f (i + l.length) 0 (locs x.r)
  | [], i => by simp [upN]
  | y :: l, i => by
    simp only [List.cons_append, upN, List.length_cons]
    rw [upN_snoc f x l (i + 1), List.append_assoc, show i + 1 + l.length = i + (l.length + 1) by omega]
theorem upL_len (f : Nat → Nat → Bool) (i : Nat) : ∀ (l : List Param) (k : Nat), (upL f i k l).length ≤ l.length
  | [], k => by simp [upL]
  | y :: l, k => by
    have := upL_len f i l (k + 1)
    simp only [upL, List.length_append, List.length_cons]
    split <;> simp <;> omega
/-- How many locals there are. -/
def nLocs (l : List CN) : Nat := (l.map fun n => (locs n.r).length).sum
theorem upN_len (f : Nat → Nat → Bool) : ∀ (l : List CN) (i : Nat), (upN f i l).length ≤ nLocs l
  | [], i => by simp [upN, nLocs]
  | y :: l, i => by
    have := upN_len f l (i + 1)
    have := upL_len f i (locs y.r) 0
    simp only [upN, List.length_append, nLocs, List.map_cons, List.sum_cons] at *
    omega
theorem nLocs_le : ∀ (N : Nat) (l : List Routine), Routines.sz l < N → ∀ (k : Nat) (whole : List Routine) (around : Int) (path : ByteArray), nLocs (capL k whole around path l) ≤ wRs l
  | 0, l, h, _, _, _, _ => by omega
  | N + 1, [], h, k, whole, around, path => by simp [capL, nLocs]
  | N + 1, x :: l, h, k, whole, around, path => by
    have hz := Routine.sz_eq x
    simp only [Routines.sz] at h
    have h1 := nLocs_le N x.inner (by omega) (k + 1) x.inner k (path ++ x.name ++ dollar)
    have h2 := nLocs_le N l (by omega) (k + rcnt x) whole around path
    have hw := wR_eq x
    simp only [nLocs] at h1 h2 ⊢
    simp only [capL, capR_eq, wRs, List.map_append, List.map_cons, List.sum_append, List.sum_cons]
    simp only [locs, List.length_append, List.length_map] at h1 h2 ⊢
    omega
abbrev uRow (l : List Param) : List AV := [.sl (l.map eParam) false]
theorem Ups_walk (h : AHeap) (p : Prg) (ho : p.ok) (hw : wRs p.routines ≤ 274877906944) (hnw : nwRs p.routines ≤ 274877906944) (hc : (check p).2 = 0) :
    ACalls Go.Proofs.Try.prog 24 [.agg (ePrg p)] h (fun v g => ∃ G hf h', Done p.routines G hf h h' ∧ v = .sl (((List.range G.ns.length).map fun j => upN (fun i k => decide ((i, k) ∈ hf j)) 0 G.ns).map uRow) false ∧ g = h) := by
  refine F24.calls (by simp) ?_
  delta F24.c0
  simp -implicitDefEqProofs only [↓pgPre,go_sem,↓reduceIte,reduceCtorEq,seval, ePrg_len]
  refine callT_of (of_good h p ho hw hnw hc) (fun v g hg => ?_)
  obtain ⟨G, hf, rfl, D⟩ := hg
  simp -implicitDefEqProofs only [↓pgPre,go_sem,↓reduceIte,reduceCtorEq,seval]
  have ok := D.ok
  have nd := ok.ok1.ids_nd
  have hlen := ok.ok1.len
  have hroom := ok.ok1.room
  have hsg := D.full.g
  have hnl : nLocs G.ns ≤ 274877906944 := by
    rw [D.isOf]
    exact Nat.le_trans (nLocs_le _ p.routines (Nat.lt_succ_self _) 0 p.routines (-1) noBytes) hw
  have hnn : G.ns.length ≤ 274877906944 := by
    rw [D.isOf]
    show (capL 0 p.routines (-1) noBytes p.routines).length ≤ _
    rw [capL_len]
    exact Nat.le_trans (rcnts_le _ _ (Nat.le_refl _)) hw
  have hfb : few G.bs := by unfold few; omega
  generalize hR : (fun j => upN (fun i k => decide ((i, k) ∈ hf j)) 0 G.ns) = R
  simp -implicitDefEqProofs only [↓pgPre,go_sem,↓reduceIte,reduceCtorEq,seval, hsg]
  refine lT_list G.bs (fun pre post e k => ∃ ov, GL 60 1 g k ov (((List.range pre.length).map R).map uRow) ∧ e = [(3, .ptr (some ⟨G.gb, 0, none⟩)), (4, ov), (19, .sl (G.bs.map pRow) false), (20, .int .i64 G.bs.length), (21, .int .i64 pre.length)]) (WeakE.env ?_) ⟨.sl [] true, .nil g, rfl⟩ ?_ ?_
  · skip
    repeat' (first | exact EnvLe.nil _ | refine EnvLe.cons ?_ ?_)
    all_goals (simp -implicitDefEqProofs only [↓pgPre,go_sem,↓reduceIte,reduceCtorEq,seval]; try first | exact AVle.refl _ | exact AVle.sl _ _ | exact AVle.gs _ _ _ | assumption)
  · rintro pre b post e k hp ⟨ov, O, rfl⟩
    have hbi := (at_pre hp).1
    have hil := (at_pre hp).2
    have Fk := D.full.of_le O.le
    have hgk := Fk.g
    have hrow : (G.bs.map pRow)[pre.length]? = some (pRow b) := map_at hp
    obtain ⟨n, hn⟩ : ∃ n, G.ns[pre.length]? = some n := ⟨_, List.getElem?_eq_getElem (by omega)⟩
    simp -implicitDefEqProofs only [↓pgPre,go_sem,↓reduceIte,reduceCtorEq,seval, lt_at hp, aia_sl (size := 1) hrow rfl, hgk]
    refine lT_list G.bs (fun preB postB e kB => ∃ lv, GL 66 5 k kB lv ((upN (fun i k => decide ((i, k) ∈ hf pre.length)) 0 (G.ns.take preB.length)).map eParam) ∧ e = [(3, .ptr (some ⟨G.gb, 0, none⟩)), (4, ov), (6, .ptr (some ⟨b.p, 0, none⟩)), (7, lv), (19, .sl (G.bs.map pRow) false), (20, .int .i64 G.bs.length), (21, .int .i64 pre.length), (28, .sl (G.bs.map pRow) false), (29, .int .i64 G.bs.length), (30, .int .i64 preB.length)]) (WeakE.env ?_) ⟨.sl [] true, by simp [upN]; exact .nil k, rfl⟩ ?_ ?_
    · skip
      repeat' (first | exact EnvLe.nil _ | refine EnvLe.cons ?_ ?_)
      all_goals (simp -implicitDefEqProofs only [↓pgPre,go_sem,↓reduceIte,reduceCtorEq,seval]; try first | exact AVle.refl _ | exact AVle.sl _ _ | exact AVle.gs _ _ _ | assumption)
    · rintro preB c postB e kB hpB ⟨lv, E, rfl⟩
      have hci := (at_pre hpB).1
      have hcl := (at_pre hpB).2
      obtain ⟨m, hm⟩ : ∃ m, G.ns[preB.length]? = some m := ⟨_, List.getElem?_eq_getElem (by omega)⟩
      have hcn := (Fk.of_le E.le).node _ c m hci hm
      have hrowB : (G.bs.map pRow)[preB.length]? = some (pRow c) := map_at hpB
      have hlm := ok.ok1.locs m (List.mem_of_getElem? hm)
      have htake : G.ns.take (preB.length + 1) = G.ns.take preB.length ++ [m] := by
        rw [List.take_add_one, hm]; rfl
      have htl : (G.ns.take preB.length).length = preB.length := by rw [List.length_take]; omega
      simp -implicitDefEqProofs only [↓pgPre,go_sem,↓reduceIte,reduceCtorEq,seval, lt_at hpB, aia_sl (size := 1) hrowB rfl, hcn]
      refine lT_list (locs m.r) (fun preC postC e kC => ∃ lv, GL 66 5 k kC lv ((upN (fun i k => decide ((i, k) ∈ hf pre.length)) 0 (G.ns.take preB.length) ++ upL (fun i k => decide ((i, k) ∈ hf pre.length)) preB.length 0 preC).map eParam) ∧ e = [(3, .ptr (some ⟨G.gb, 0, none⟩)), (4, ov), (6, .ptr (some ⟨b.p, 0, none⟩)), (7, lv), (8, .int .i64 preB.length), (19, .sl (G.bs.map pRow) false), (20, .int .i64 G.bs.length), (21, .int .i64 pre.length), (28, .sl (G.bs.map pRow) false), (29, .int .i64 G.bs.length), (30, .int .i64 preB.length), (38, .sl ((locs m.r).map eParam) false), (39, .int .i64 (locs m.r).length), (40, .int .i64 preC.length)]) (WeakE.env ?_) ⟨lv, by simp [upL]; exact E, rfl⟩ ?_ ?_
      · skip
        repeat' (first | exact EnvLe.nil _ | refine EnvLe.cons ?_ ?_)
        all_goals (simp -implicitDefEqProofs only [↓pgPre,go_sem,↓reduceIte,reduceCtorEq,seval]; try first | exact AVle.refl _ | exact AVle.sl _ _ | exact AVle.gs _ _ _ | assumption)
      · rintro preC x postC e kC hpC ⟨lv, E, rfl⟩
        have hpl := (at_pre hpC).2
        have FC := (Fk.of_le E.le)
        have hbn := FC.node _ b n hbi hn
        have hbh := FC.has _ b hbi
        have hal : amapOf kC (.map (some b.mh)) = some ((hf pre.length).map ePr) := by unfold amapOf; simp only [hbh]
        have haf : ∀ hs : Pairs, afind [3, 1, 1] (.agg [.int .i64 (preB.length : Int), .int .i64 (preC.length : Int)]) (hs.map ePr) = some (if (preB.length, preC.length) ∈ hs then some (.bool true) else none) := afind_pair (preB.length, preC.length)
        have hkf : keyFits [3, 1, 1] (.agg [.int .i64 (preB.length : Int), .int .i64 (preC.length : Int)]) = true := rfl
        have hcu := upN_len (fun i k => decide ((i, k) ∈ hf pre.length)) (G.ns.take preB.length) 0
        have hcl := upL_len (fun i k => decide ((i, k) ∈ hf pre.length)) preB.length preC 0
        have hnt : nLocs (G.ns.take preB.length) + (locs m.r).length ≤ nLocs G.ns := by
          have e : nLocs (G.ns.take (preB.length + 1)) ≤ nLocs G.ns := by
            have := congrArg nLocs (List.take_append_drop (preB.length + 1) G.ns)
            simp only [nLocs, List.map_append, List.sum_append] at this ⊢
            omega
          rw [htake] at e
          simpa [nLocs] using e
        by_cases hx : (preB.length, preC.length) ∈ hf pre.length
        · simp -implicitDefEqProofs only [↓pgPre,go_sem,↓reduceIte,reduceCtorEq,seval, lt_at hpC, aia_sl (map_at hpC) (eParam_len x), eParam_len, param_take, hbn, alookup, hkf, hal, haf, hx, splice_same]
          refine E.append1 (xs := eParam x) (bytes := 56) rfl (by unfold roomFor; simp; omega) (fun v' g' E' => ?_)
          simp -implicitDefEqProofs only [↓pgPre,go_sem,↓reduceIte,reduceCtorEq,seval]
          refine ⟨_, _, WeakE.env ?_, v', ?_, rfl⟩
          · skip
            repeat' (first | exact EnvLe.nil _ | refine EnvLe.cons ?_ ?_)
            all_goals (simp -implicitDefEqProofs only [↓pgPre,go_sem,↓reduceIte,reduceCtorEq,seval, step_at (l := locs m.r) (by unfold few; omega) hpC]; try first | exact AVle.refl _ | exact AVle.sl _ _ | exact AVle.gs _ _ _ | assumption)
          · rw [upL_snoc]
            simpa [hx] using E'
        · simp -implicitDefEqProofs only [↓pgPre,go_sem,↓reduceIte,reduceCtorEq,seval, lt_at hpC, aia_sl (map_at hpC) (eParam_len x), eParam_len, param_take, hbn, alookup, hkf, hal, haf, hx]
          refine ⟨_, _, WeakE.env ?_, lv, ?_, rfl⟩
          · skip
            repeat' (first | exact EnvLe.nil _ | refine EnvLe.cons ?_ ?_)
            all_goals (simp -implicitDefEqProofs only [↓pgPre,go_sem,↓reduceIte,reduceCtorEq,seval, step_at (l := locs m.r) (by unfold few; omega) hpC]; try first | exact AVle.refl _ | exact AVle.sl _ _ | exact AVle.gs _ _ _ | assumption)
          · rw [upL_snoc]
            simpa [hx] using E
      · rintro e kC ⟨lv, E, rfl⟩
        simp -implicitDefEqProofs only [↓pgPre,go_sem,↓reduceIte,reduceCtorEq,seval, lt_end]
        refine lessQ.same ?_
        simp -implicitDefEqProofs only [↓pgPre,go_sem,↓reduceIte,reduceCtorEq,seval]
        refine ⟨_, _, WeakE.env ?_, lv, ?_, rfl⟩
        · skip
          repeat' (first | exact EnvLe.nil _ | refine EnvLe.cons ?_ ?_)
          all_goals (simp -implicitDefEqProofs only [↓pgPre,go_sem,↓reduceIte,reduceCtorEq,seval, step_at hfb hpB]; try first | exact AVle.refl _ | exact AVle.sl _ _ | exact AVle.gs _ _ _ | assumption)
        · rw [show (preB ++ [c]).length = preB.length + 1 by simp, htake, upN_snoc, htl, Nat.zero_add]
          exact E
    · rintro e kB ⟨lv, E, rfl⟩
      simp -implicitDefEqProofs only [↓pgPre,go_sem,↓reduceIte,reduceCtorEq,seval, lt_end]
      rw [List.take_of_length_le (by omega)] at E
      refine lessQ.to (e' := [(3, .ptr (some ⟨G.gb, 0, none⟩)), (4, ov), (7, .sl ((R pre.length).map eParam) false), (19, .sl (G.bs.map pRow) false), (20, .int .i64 G.bs.length), (21, .int .i64 pre.length)]) (g := k) (WeakE.of ?_ (.of_le E.le)) ?_
      · skip
        repeat' (first | exact EnvLe.nil _ | refine EnvLe.cons ?_ ?_)
        all_goals (simp -implicitDefEqProofs only [↓pgPre,go_sem,↓reduceIte,reduceCtorEq,seval]; try first | exact AVle.refl _ | exact AVle.sl _ _ | exact AVle.gs _ _ _ | assumption)
        subst hR
        exact E.avle
      simp -implicitDefEqProofs only [↓pgPre,go_sem,↓reduceIte,reduceCtorEq,seval]
      refine O.append1 (xs := uRow (R pre.length)) (bytes := 24) rfl (by unfold roomFor; simp; omega) (fun v' g' O' => ?_)
      simp -implicitDefEqProofs only [↓pgPre,go_sem,↓reduceIte,reduceCtorEq,seval]
      refine ⟨_, _, WeakE.env ?_, v', ?_, rfl⟩
      · skip
        repeat' (first | exact EnvLe.nil _ | refine EnvLe.cons ?_ ?_)
        all_goals (simp -implicitDefEqProofs only [↓pgPre,go_sem,↓reduceIte,reduceCtorEq,seval, step_at hfb hp]; try first | exact AVle.refl _ | exact AVle.sl _ _ | exact AVle.gs _ _ _ | assumption)
      · rw [show (pre ++ [b]).length = pre.length + 1 by simp, List.range_succ]
        simpa using O'
  · rintro e k ⟨ov, O, rfl⟩
    simp -implicitDefEqProofs only [↓pgPre,go_sem,↓reduceIte,reduceCtorEq,seval, lt_end]
    refine lessQ.same ?_
    simp -implicitDefEqProofs only [↓pgPre,go_sem,↓reduceIte,reduceCtorEq,seval]
    refine EndW.less O.avle (AHeap.le_trans D.le O.le) ⟨G, hf, g, D, ?_, rfl⟩
    rw [hlen, ← hR]
theorem Caps.to {G G' : Gra} (h1 : G.hs0 = G'.hs0) (h2 : G.cs0 = G'.cs0) {i : Nat} {x : Nat × Nat} (c : Caps G i x) : Caps G' i x := by
  induction c with
  | use h => exact .use (h1 ▸ h)
  | call hk _ hx ih => exact .call (h2 ▸ hk) ih hx
/-- The graph of a program, without its places. -/
abbrev gra (p : List Routine) : Gra := Gra.of 0 0 [] p
theorem caps_gra {gb mt : Nat} {bs : List NB} {p : List Routine} {i : Nat} {x : Nat × Nat} : Caps (Gra.of gb mt bs p) i x ↔ Caps (gra p) i x := ⟨fun c => Caps.to (G := Gra.of gb mt bs p) (G' := gra p) rfl rfl c, fun c => Caps.to (G := gra p) (G' := Gra.of gb mt bs p) rfl rfl c⟩
open Classical in
/-- What each routine captures. -/
noncomputable def cUps (p : List Routine) : List (List Param) := (List.range (gra p).ns.length).map fun j => upN (fun i k => decide (Caps (gra p) j (i, k))) 0 (gra p).ns
theorem upL_ext {f g : Nat → Nat → Bool} (h : f = g) : ∀ i k l, upL f i k l = upL g i k l := fun _ _ _ => by rw [h]
theorem Ups_good (h : AHeap) (p : Prg) (ho : p.ok) (hw : wRs p.routines ≤ 274877906944) (hnw : nwRs p.routines ≤ 274877906944) (hc : (check p).2 = 0) :
    ACalls Go.Proofs.Try.prog 24 [.agg (ePrg p)] h (fun v g => v = .sl ((cUps p.routines).map uRow) false ∧ g = h) := by
  refine (Ups_walk h p ho hw hnw hc).mono ?_
  rintro v g ⟨G, hf, h', D, rfl, rfl⟩
  refine ⟨?_, rfl⟩
  have hns : G.ns = (gra p.routines).ns := by rw [D.isOf]; rfl
  have key : ∀ j ∈ List.range G.ns.length, (fun i k => decide ((i, k) ∈ hf j)) = (fun i k => @decide (Caps (gra p.routines) j (i, k)) (Classical.propDecidable _)) := by
    intro j hj
    funext i k
    have := D.fair.caps D.ok.calls D.shut (i := j) (x := (i, k)) (List.mem_range.1 hj)
    rw [D.isOf] at this
    rw [caps_gra] at this
    exact decide_eq_decide.2 this
  unfold cUps
  rw [← hns]
  congr 2
  refine List.map_congr_left fun j hj => ?_
  rw [key j hj]
theorem Ups_bad (h : AHeap) (p : Prg) (ho : p.ok) (hc : (check p).2 ≠ 0) :
    ACalls Go.Proofs.Try.prog 24 [.agg (ePrg p)] h (fun v g => v = .sl [] true ∧ g = h) := by
  refine F24.calls (by simp) ?_
  delta F24.c0
  simp -implicitDefEqProofs only [↓pgPre,go_sem,↓reduceIte,reduceCtorEq,seval, ePrg_len]
  refine callT_of (of_bad h p ho hc) (fun v g ⟨hv, hg⟩ => ?_)
  subst v g
  simp -implicitDefEqProofs only [↓pgPre,go_sem,↓reduceIte,reduceCtorEq,seval]
  exact .same ⟨rfl, rfl⟩
theorem Paths_bad (h : AHeap) (p : Prg) (ho : p.ok) (hc : (check p).2 ≠ 0) :
    ACalls Go.Proofs.Try.prog 29 [.agg (ePrg p)] h (fun v g => v = .sl [] true ∧ g = h) := by
  refine F29.calls (by simp) ?_
  delta F29.c0
  simp -implicitDefEqProofs only [↓pgPre,go_sem,↓reduceIte,reduceCtorEq,seval, ePrg_len]
  refine callT_of (of_bad h p ho hc) (fun v g ⟨hv, hg⟩ => ?_)
  subst v g
  simp -implicitDefEqProofs only [↓pgPre,go_sem,↓reduceIte,reduceCtorEq,seval]
  exact .same ⟨rfl, rfl⟩
theorem Paths_good (h : AHeap) (p : Prg) (ho : p.ok) (hw : wRs p.routines ≤ 274877906944) (hnw : nwRs p.routines ≤ 274877906944) (hc : (check p).2 = 0) :
    ACalls Go.Proofs.Try.prog 29 [.agg (ePrg p)] h (fun v g => v = .sl ((gra p.routines).ns.map fun n => [.str n.path]) false ∧ g = h) := by
  refine F29.calls (by simp) ?_
  delta F29.c0
  simp -implicitDefEqProofs only [↓pgPre,go_sem,↓reduceIte,reduceCtorEq,seval, ePrg_len]
  refine callT_of (of_good h p ho hw hnw hc) (fun v g hg => ?_)
  obtain ⟨G, hf, rfl, D⟩ := hg
  simp -implicitDefEqProofs only [↓pgPre,go_sem,↓reduceIte,reduceCtorEq,seval]
  have ok := D.ok
  have hlen := ok.ok1.len
  have hsg := D.full.g
  have hns : G.ns = (gra p.routines).ns := by rw [D.isOf]; rfl
  have hnn : G.ns.length ≤ 274877906944 := by
    rw [D.isOf]
    show (capL 0 p.routines (-1) noBytes p.routines).length ≤ _
    rw [capL_len]
    exact Nat.le_trans (rcnts_le _ _ (Nat.le_refl _)) hw
  have hfb : few G.bs := by unfold few; omega
  simp -implicitDefEqProofs only [↓pgPre,go_sem,↓reduceIte,reduceCtorEq,seval, hsg]
  refine lT_list G.bs (fun pre post e k => ∃ ov, GL 9 1 g k ov ((G.ns.take pre.length).map fun n => [.str n.path]) ∧ e = [(3, .ptr (some ⟨G.gb, 0, none⟩)), (4, ov), (14, .sl (G.bs.map pRow) false), (15, .int .i64 G.bs.length), (16, .int .i64 pre.length)]) (WeakE.env ?_) ⟨.sl [] true, by simp; exact .nil g, rfl⟩ ?_ ?_
  · skip
    repeat' (first | exact EnvLe.nil _ | refine EnvLe.cons ?_ ?_)
    all_goals (simp -implicitDefEqProofs only [↓pgPre,go_sem,↓reduceIte,reduceCtorEq,seval]; try first | exact AVle.refl _ | exact AVle.sl _ _ | exact AVle.gs _ _ _ | assumption)
  · rintro pre b post e k hp ⟨ov, O, rfl⟩
    have hbi := (at_pre hp).1
    have hil := (at_pre hp).2
    obtain ⟨n, hn⟩ : ∃ n, G.ns[pre.length]? = some n := ⟨_, List.getElem?_eq_getElem (by omega)⟩
    have hbn := (D.full.of_le O.le).node _ b n hbi hn
    have hrow : (G.bs.map pRow)[pre.length]? = some (pRow b) := map_at hp
    have htake : G.ns.take (pre.length + 1) = G.ns.take pre.length ++ [n] := by
      rw [List.take_add_one, hn]; rfl
    simp -implicitDefEqProofs only [↓pgPre,go_sem,↓reduceIte,reduceCtorEq,seval, lt_at hp, aia_sl (size := 1) hrow rfl, hbn]
    refine O.append1 (xs := [.str n.path]) (bytes := 16) rfl (by unfold roomFor; simp; omega) (fun v' g' O' => ?_)
    simp -implicitDefEqProofs only [↓pgPre,go_sem,↓reduceIte,reduceCtorEq,seval]
    refine ⟨_, _, WeakE.env ?_, v', ?_, rfl⟩
    · skip
      repeat' (first | exact EnvLe.nil _ | refine EnvLe.cons ?_ ?_)
      all_goals (simp -implicitDefEqProofs only [↓pgPre,go_sem,↓reduceIte,reduceCtorEq,seval, step_at hfb hp]; try first | exact AVle.refl _ | exact AVle.sl _ _ | exact AVle.gs _ _ _ | assumption)
    · rw [show (pre ++ [b]).length = pre.length + 1 by simp, htake]
      simpa using O'
  · rintro e k ⟨ov, O, rfl⟩
    simp -implicitDefEqProofs only [↓pgPre,go_sem,↓reduceIte,reduceCtorEq,seval, lt_end]
    refine lessQ.same ?_
    simp -implicitDefEqProofs only [↓pgPre,go_sem,↓reduceIte,reduceCtorEq,seval]
    rw [List.take_of_length_le (by omega), hns] at O
    exact EndW.less O.avle (AHeap.le_trans D.le O.le) ⟨rfl, rfl⟩
end Pg
