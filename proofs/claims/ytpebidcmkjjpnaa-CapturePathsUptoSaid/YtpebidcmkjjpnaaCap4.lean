import Derived.Test.YtpebidcmkjjpnaaTreeS
import Derived.Test.YtpebidcmkjjpnaaCap3
namespace Pg
open Go
set_option linter.unusedSimpArgs false
set_option linter.unusedVariables false
set_option maxHeartbeats 4000000
set_option maxRecDepth 4000
/-! ### What routines capture -/
def Gra.cs0 (G : Gra) (i : Nat) : List Nat := match G.ns[i]? with | some n => callAt G.ns G.top i (callSs n.r.body) | none => []
def Gra.hs0 (G : Gra) (i : Nat) : Pairs := match G.ns[i]? with | some n => hasAt G.ns i (useSs n.r.body) [] | none => []
/-- What a routine captures: the least. -/
inductive Caps (G : Gra) : Nat → Nat × Nat → Prop
  | use {i : Nat} {x : Nat × Nat} (h : x ∈ G.hs0 i) : Caps G i x
  | call {i k : Nat} {x : Nat × Nat} (hk : k ∈ G.cs0 i) (h : Caps G k x) (hx : x.1 ≠ i) : Caps G i x
/-- A graph with all calls, and what each routine has. -/
structure Full (G : Gra) (hf : Nat → Pairs) (h : AHeap) : Prop where
  g : h G.gb = some (gBlk (.sl (G.bs.map pRow) false) (.map (some G.mt)))
  top : h G.mt = some (.mp (G.top.map eIx))
  node : ∀ (i : Nat) b n, G.bs[i]? = some b → G.ns[i]? = some n → h b.p = some (oNode n.path n.around n.list n.r (.sl ((locs n.r).map eParam) false) (.map (some b.mi)) (.sl ((G.cs0 i).map iRow) false) (.map (some b.mh)))
  inner : ∀ (i : Nat) b n, G.bs[i]? = some b → G.ns[i]? = some n → h b.mi = some (.mp (n.inner.map eIx))
  has : ∀ (i : Nat) b, G.bs[i]? = some b → h b.mh = some (.mp ((hf i).map ePr))
def setAt (hf : Nat → Pairs) (i : Nat) (hs : Pairs) : Nat → Pairs := fun k => if k = i then hs else hf k
theorem Full.of_le {G : Gra} {hf : Nat → Pairs} {h g : AHeap} (s : Full G hf h) (le : h.le g) : Full G hf g :=
  ⟨le _ _ s.g, le _ _ s.top, fun i b n hb hn => le _ _ (s.node i b n hb hn), fun i b n hb hn => le _ _ (s.inner i b n hb hn), fun i b hb => le _ _ (s.has i b hb)⟩
theorem Full.set {G : Gra} (ok : G.ok) {hf : Nat → Pairs} {h : AHeap} (s : Full G hf h) {i : Nat} {b : NB} (hb : G.bs[i]? = some b) (hs : Pairs) : Full G (setAt hf i hs) (h.upd b.mh (.mp (hs.map ePr))) := by
  have nd := ok.ids_nd
  have a2 := ok.apart hb (x := b.mh) (by simp [NB.ids])
  have one : ∀ {k : Nat} {b' : NB}, G.bs[k]? = some b' → b'.p ≠ b.mh ∧ b'.mi ≠ b.mh := by
    intro k b' hb'
    refine ⟨fun hh => ?_, fun hh => ?_⟩
    · have := ids_apart nd hb' hb (x := b'.p) (by simp [NB.ids]) (by simp [NB.ids, hh])
      subst this
      rw [hb] at hb'; cases hb'
      exact (ids_one nd hb).2.1 hh
    · have := ids_apart nd hb' hb (x := b'.mi) (by simp [NB.ids]) (by simp [NB.ids, hh])
      subst this
      rw [hb] at hb'; cases hb'
      exact (ids_one nd hb).2.2 hh
  refine ⟨?_, ?_, ?_, ?_, ?_⟩
  · rw [upd_ne _ _ _ a2.1.symm]; exact s.g
  · rw [upd_ne _ _ _ a2.2.1.symm]; exact s.top
  · intro k b' n' hb' hn'
    rw [upd_ne _ _ _ (one hb').1]; exact s.node k b' n' hb' hn'
  · intro k b' n' hb' hn'
    rw [upd_ne _ _ _ (one hb').2]; exact s.inner k b' n' hb' hn'
  · intro k b' hb'
    by_cases hk : k = i
    · subst hk
      rw [hb] at hb'; cases hb'
      rw [upd_same]; simp [setAt]
    · have : b'.mh ≠ b.mh := fun hh => hk (ids_apart nd hb' hb (x := b'.mh) (by simp [NB.ids]) (by simp [NB.ids, hh]))
      rw [upd_ne _ _ _ this, s.has k b' hb']
      simp [setAt, hk]
/-- All that isn't the graph's stays. -/
def GKeeps (G : Gra) (h g : AHeap) : Prop := ∀ x o, h x = some o → x ∉ ids G.bs → g x = some o
theorem GKeeps.refl (G : Gra) (h : AHeap) : GKeeps G h h := fun _ _ e _ => e
theorem GKeeps.trans {G : Gra} {h g k : AHeap} (a : GKeeps G h g) (b : GKeeps G g k) : GKeeps G h k := fun x o e n => b x o (a x o e n) n
theorem GKeeps.of_le {G : Gra} {h g k : AHeap} (a : GKeeps G h g) (le : g.le k) : GKeeps G h k := fun x o e n => le x o (a x o e n)
theorem GKeeps.upd {G : Gra} {h g : AHeap} (a : GKeeps G h g) {p : Nat} (hp : p ∈ ids G.bs) (o : AObj) : GKeeps G h (g.upd p o) := fun x o' e n => by
  have : x ≠ p := by intro hh; subst hh; exact n hp
  rw [upd_ne _ _ _ this]; exact a x o' e n
/-! ### How much is missing -/
theorem cnt_le {α : Type} {p q : α → Bool} (h : ∀ x, q x = true → p x = true) : ∀ l : List α, l.countP q ≤ l.countP p
  | [] => by simp
  | x :: r => by
    have := cnt_le h r
    simp only [List.countP_cons]
    have := h x
    cases hq : q x <;> cases hp : p x <;> simp_all <;> omega
theorem cnt_lt {α : Type} {p q : α → Bool} (h : ∀ x, q x = true → p x = true) : ∀ {l : List α} {x : α}, x ∈ l → p x = true → q x = false → l.countP q < l.countP p
  | y :: r, x, hx, hp, hq => by
    simp only [List.countP_cons]
    rcases List.mem_cons.1 hx with rfl | hx
    · have := cnt_le h r
      simp [hp, hq]; omega
    · have := cnt_lt h hx hp hq
      have := h y
      cases hq' : q y <;> cases hp' : p y <;> simp_all <;> omega
def Gra.pairs (G : Gra) : Pairs := (List.range G.ns.length).flatMap fun i => match G.ns[i]? with | some n => (List.range (locs n.r).length).map fun k => (i, k) | none => []
def Gra.triples (G : Gra) : List (Nat × (Nat × Nat)) := (List.range G.ns.length).flatMap fun i => G.pairs.map fun x => (i, x)
def Gra.missing (G : Gra) (hf : Nat → Pairs) : Nat := G.triples.countP fun t => decide (t.2 ∉ hf t.1)
theorem hadd_mem {hs : Pairs} {x y : Nat × Nat} : y ∈ hadd hs x ↔ y ∈ hs ∨ y = x := by
  unfold hadd
  split
  · rename_i h
    exact ⟨.inl, fun k => k.elim id fun e => e ▸ h⟩
  · simp
theorem missing_lt {G : Gra} {hf : Nat → Pairs} {i : Nat} {x : Nat × Nat} (hi : i < G.ns.length) (hx : x ∈ G.pairs) (hn : x ∉ hf i) : G.missing (setAt hf i (hadd (hf i) x)) < G.missing hf := by
  unfold Gra.missing
  refine cnt_lt ?_ (x := (i, x)) ?_ ?_ ?_
  · rintro ⟨k, y⟩ hk
    simp only [decide_eq_true_eq] at hk ⊢
    intro hh
    apply hk
    unfold setAt
    split
    · rename_i h; subst h; exact hadd_mem.2 (.inl hh)
    · exact hh
  · exact List.mem_flatMap.2 ⟨i, List.mem_range.2 hi, List.mem_map.2 ⟨x, hx, rfl⟩⟩
  · simpa using hn
  · simp [setAt, hadd_mem]
/-- What holds of what routines have, all along. -/
structure Fair (G : Gra) (hf : Nat → Pairs) : Prop where
  least : ∀ i x, x ∈ hf i → Caps G i x
  most : ∀ i x, x ∈ G.hs0 i → x ∈ hf i
  small : ∀ i x, x ∈ hf i → x ∈ G.pairs
def Shut (G : Gra) (hf : Nat → Pairs) (i : Nat) (l : List Nat) : Prop := ∀ k ∈ l, ∀ x ∈ hf k, x.1 = i ∨ x ∈ hf i
theorem Fair.add {G : Gra} {hf : Nat → Pairs} (f : Fair G hf) {i k : Nat} {x : Nat × Nat} (hk : k ∈ G.cs0 i) (hx : x ∈ hf k) (hn : x.1 ≠ i) : Fair G (setAt hf i (hadd (hf i) x)) := by
  refine ⟨fun m y hy => ?_, fun m y hy => ?_, fun m y hy => ?_⟩
  · unfold setAt at hy
    split at hy
    · rename_i h; subst h
      rcases hadd_mem.1 hy with hy | rfl
      · exact f.least _ _ hy
      · exact .call hk (f.least _ _ hx) hn
    · exact f.least _ _ hy
  · unfold setAt
    split
    · rename_i h; subst h; exact hadd_mem.2 (.inl (f.most _ _ hy))
    · exact f.most _ _ hy
  · unfold setAt at hy
    split at hy
    · rename_i h; subst h
      rcases hadd_mem.1 hy with hy | rfl
      · exact f.small _ _ hy
      · exact f.small _ _ hx
    · exact f.small _ _ hy
theorem Fair.caps {G : Gra} {hf : Nat → Pairs} (f : Fair G hf) (hl : ∀ i, ∀ k ∈ G.cs0 i, k < G.ns.length) (sh : ∀ i < G.ns.length, Shut G hf i (G.cs0 i)) {i : Nat} {x : Nat × Nat} (hi : i < G.ns.length) : x ∈ hf i ↔ Caps G i x := by
  refine ⟨f.least i x, fun c => ?_⟩
  revert hi
  induction c with
  | use h => exact fun _ => f.most _ _ h
  | call hk h hx ih =>
    intro hi
    rcases sh _ hi _ hk _ (ih (hl _ _ hk)) with e | e
    · exact absurd e hx
    · exact e
theorem rngT_of {h : AHeap} {m : Nat} {es : List (AV × AV)} {K : AV → AHeap → Tok → Prop} (hm : h m = some (.mp es))
    (k : ∀ (bs : List Nat) (clock : Nat), bs.length = es.length → bs.Nodup → (∀ s ∈ bs, s < clock) → ∀ b, h b = none → K (.ptr (some ⟨b, 0, none⟩)) ((h.upd m (.mpc es bs clock)).upd b (.it (some m) clock [] clock)) .go) : rngT .go h (.map (some m)) K := by
  unfold rngT arng
  simp only [hm]
  exact fun bs clock h1 h2 h3 => fun b hb => k bs clock h1 h2 h3 b hb
theorem nxtT_of {h : AHeap} {b m since last clock : Nat} {seen bs : List Nat} {es : List (AV × AV)} {K : AV → AHeap → Tok → Prop} (hb : h b = some (.it (some m) since seen last)) (hm : h m = some (.mpc es bs clock)) (h1 : ∀ s ∈ bs, s < since) (h2 : since ≤ last)
    (k1 : ∀ (i : Nat) (e : AV × AV) (s : Nat), es[i]? = some e → bs[i]? = some s → s ∉ seen → K (.tuple [.bool true, e.1, e.2]) (h.upd b (.it (some m) since (seen ++ [s]) clock)) .go) (k2 : (∀ s ∈ bs, s ∈ seen) → K (.tuple [.bool false]) h .go) : nxtT .go h (.ptr (some ⟨b, 0, none⟩)) K := by
  unfold nxtT anxt
  simp only [hb, hm]
  exact ⟨h1, h2, k1, k2⟩
theorem entryAt_of : ∀ {es : List (AV × AV)} {bs : List Nat} {i : Nat} {e : AV × AV} {s : Nat}, es[i]? = some e → bs[i]? = some s → bs.Nodup → entryAt es bs s = some e
  | [], bs, i, e, s, h1, _, _ => by simp at h1
  | _ :: _, [], i, e, s, _, h2, _ => by simp at h2
  | x :: es, b :: bs, 0, e, s, h1, h2, _ => by
    simp only [List.getElem?_cons_zero, Option.some.injEq] at h1 h2
    subst h1 h2
    simp [entryAt]
  | x :: es, b :: bs, i + 1, e, s, h1, h2, nd => by
    simp only [List.getElem?_cons_succ] at h1 h2
    have n2 := List.nodup_cons.1 nd
    have : b ≠ s := fun hh => n2.1 (hh ▸ List.mem_of_getElem? h2)
    simp only [entryAt, this, if_false]
    exact entryAt_of h1 h2 n2.2
theorem nodup_idx : ∀ {l : List Nat} {i j s : Nat}, l.Nodup → l[i]? = some s → l[j]? = some s → i = j
  | [], i, j, s, _, h, _ => by simp at h
  | x :: l, 0, 0, s, _, _, _ => rfl
  | x :: l, 0, j + 1, s, nd, h1, h2 => by
    simp only [List.getElem?_cons_zero, Option.some.injEq, List.getElem?_cons_succ] at h1 h2
    subst h1
    exact absurd (List.mem_of_getElem? h2) (List.nodup_cons.1 nd).1
  | x :: l, i + 1, 0, s, nd, h1, h2 => by
    simp only [List.getElem?_cons_zero, Option.some.injEq, List.getElem?_cons_succ] at h1 h2
    subst h2
    exact absurd (List.mem_of_getElem? h1) (List.nodup_cons.1 nd).1
  | x :: l, i + 1, j + 1, s, nd, h1, h2 => by
    simp only [List.getElem?_cons_succ] at h1 h2
    rw [nodup_idx (List.nodup_cons.1 nd).2 h1 h2]
structure Prog (G : Gra) (more : Bool) (hf hf' : Nat → Pairs) : Prop where
  stay : more = false → hf' = hf
  less : more = true → G.missing hf' < G.missing hf
structure Gra.ok2 (G : Gra) : Prop extends ok1 : G.ok where
  calls : ∀ i, ∀ k ∈ G.cs0 i, k < G.ns.length
  fewCalls : ∀ i, (G.cs0 i).length ≤ 1099511627776
theorem close_spec {G : Gra} (ok : G.ok2) {h : AHeap} {hf0 : Nat → Pairs} (s0 : Full G hf0 h) (f0 : Fair G hf0) :
    ACalls Go.Proofs.Try.prog 83 [.ptr (some ⟨G.gb, 0, none⟩)] h (fun v g => v = .tuple [] ∧ ∃ hf, Full G hf g ∧ Fair G hf ∧ GKeeps G h g ∧ ∀ i < G.ns.length, Shut G hf i (G.cs0 i)) := by
  have nd := ok.ids_nd
  have hroom := ok.room
  have hlenb := ok.len
  refine F83.calls (by simp) ?_
  delta F83.c0
  simp -implicitDefEqProofs only [↓pgPre,go_sem,↓reduceIte,reduceCtorEq,seval]
  refine lT_inv2 (fun m e g => ∃ more hf, m = (if more then G.missing hf + 1 else 0) ∧ Full G hf g ∧ Fair G hf ∧ GKeeps G h g ∧ (more = false → ∀ i < G.ns.length, Shut G hf i (G.cs0 i)) ∧ e = [(0, .ptr (some ⟨G.gb, 0, none⟩)), (2, .bool more)]) (G.missing hf0 + 1) (WeakE.env ?_) ⟨true, hf0, rfl, s0, f0, GKeeps.refl G h, by simp, rfl⟩ ?_
  · skip
    repeat' (first | exact EnvLe.nil _ | refine EnvLe.cons ?_ ?_)
    all_goals (simp -implicitDefEqProofs only [↓pgPre,go_sem,↓reduceIte,reduceCtorEq,seval]; try first | exact AVle.refl _ | exact AVle.sl _ _ | exact AVle.gs _ _ _ | assumption)
  · rintro m e g ⟨more, hf, rfl, s, f, kp, sh, rfl⟩
    have hsg := s.g
    cases more with
    | false =>
      simp -implicitDefEqProofs only [↓pgPre,go_sem,↓reduceIte,reduceCtorEq,seval]
      refine lessQ.same ?_
      simp -implicitDefEqProofs only [↓pgPre,go_sem,↓reduceIte,reduceCtorEq,seval]
      exact .same ⟨rfl, hf, s, f, kp, sh rfl⟩
    | true =>
      simp -implicitDefEqProofs only [↓pgPre,go_sem,↓reduceIte,reduceCtorEq,seval, hsg]
      refine lT_list G.bs (fun pre post e g' => ∃ more hf', Full G hf' g' ∧ Fair G hf' ∧ GKeeps G h g' ∧ Prog G more hf hf' ∧ (more = false → ∀ i < pre.length, Shut G hf' i (G.cs0 i)) ∧ e = [(0, .ptr (some ⟨G.gb, 0, none⟩)), (2, .bool more), (12, .sl (G.bs.map pRow) false), (13, .int .i64 G.bs.length), (14, .int .i64 pre.length)]) (WeakE.env ?_) ⟨false, hf, s, f, kp, ⟨fun _ => rfl, by simp⟩, by simp, rfl⟩ ?_ ?_
      · skip
        repeat' (first | exact EnvLe.nil _ | refine EnvLe.cons ?_ ?_)
        all_goals (simp -implicitDefEqProofs only [↓pgPre,go_sem,↓reduceIte,reduceCtorEq,seval]; try first | exact AVle.refl _ | exact AVle.sl _ _ | exact AVle.gs _ _ _ | assumption)
      · rintro pre b post e g' hp ⟨more, hf', s', f', kp', pr', sh', rfl⟩
        have hbi := (at_pre hp).1
        have hil := (at_pre hp).2
        obtain ⟨n, hn⟩ : ∃ n, G.ns[pre.length]? = some n := ⟨_, List.getElem?_eq_getElem (by omega)⟩
        have hnode := s'.node _ b n hbi hn
        have hrowb : (G.bs.map pRow)[pre.length]? = some (pRow b) := map_at hp
        simp -implicitDefEqProofs only [↓pgPre,go_sem,↓reduceIte,reduceCtorEq,seval, lt_at hp, aia_sl (size := 1) hrowb rfl, hnode]
        refine lT_list (G.cs0 pre.length) (fun preB postB e g' => ∃ more hf', Full G hf' g' ∧ Fair G hf' ∧ GKeeps G h g' ∧ Prog G more hf hf' ∧ (more = false → ∀ i < pre.length, Shut G hf' i (G.cs0 i)) ∧ (more = false → Shut G hf' pre.length preB) ∧ e = [(0, .ptr (some ⟨G.gb, 0, none⟩)), (2, .bool more), (3, .int .i64 pre.length), (4, .ptr (some ⟨b.p, 0, none⟩)), (12, .sl (G.bs.map pRow) false), (13, .int .i64 G.bs.length), (14, .int .i64 pre.length), (22, .sl ((G.cs0 pre.length).map iRow) false), (23, .int .i64 (G.cs0 pre.length).length), (24, .int .i64 preB.length)]) (WeakE.env ?_) ⟨more, hf', s', f', kp', pr', sh', fun _ k hk => by simp at hk, rfl⟩ ?_ ?_
        · skip
          repeat' (first | exact EnvLe.nil _ | refine EnvLe.cons ?_ ?_)
          all_goals (simp -implicitDefEqProofs only [↓pgPre,go_sem,↓reduceIte,reduceCtorEq,seval]; try first | exact AVle.refl _ | exact AVle.sl _ _ | exact AVle.gs _ _ _ | assumption)
        · rintro preB k postB e g2 hpB ⟨more, hf2, s2, f2, kp2, pr2, sh2, sd2, rfl⟩
          have hkc := mem_at hpB
          have hkl := ok.calls _ k hkc
          obtain ⟨nk, hnk⟩ : ∃ n, G.ns[k]? = some n := ⟨_, List.getElem?_eq_getElem hkl⟩
          obtain ⟨bk, hbk⟩ : ∃ b, G.bs[k]? = some b := ⟨_, List.getElem?_eq_getElem (by omega)⟩
          have hnodek := s2.node k bk nk hbk hnk
          have hrowk : (G.bs.map pRow)[k]? = some (pRow bk) := by simp [hbk]
          have hrowc : ((G.cs0 pre.length).map iRow)[preB.length]? = some (iRow k) := map_at hpB
          have hsg2 := s2.g
          have hmk := s2.has k bk hbk
          simp -implicitDefEqProofs only [↓pgPre,go_sem,↓reduceIte,reduceCtorEq,seval, lt_at hpB, aia_sl (size := 1) hrowc rfl, hsg2, aia_sl (size := 1) hrowk rfl, hnodek]
          refine rngT_of hmk fun st ck hst hnd hlt it hit => ?_
          simp -implicitDefEqProofs only [↓pgPre,go_sem,↓reduceIte,reduceCtorEq,seval]
          generalize hhk : hf2 k = hk at hst hmk
          refine lT_inv2 (fun m e g3 => ∃ more hf3 g0 seen, m = (st.filter (fun s => decide (s ∉ seen))).length ∧ Full G hf3 g0 ∧ Fair G hf3 ∧ GKeeps G h g0 ∧ Prog G more hf hf3 ∧ (more = false → ∀ i < pre.length, Shut G hf3 i (G.cs0 i)) ∧ (more = false → Shut G hf3 pre.length preB) ∧ (more = false → ∀ (j : Nat) (x : Nat × Nat) (s : Nat), hk[j]? = some x → st[j]? = some s → s ∈ seen → x.1 = pre.length ∨ x ∈ hf3 pre.length) ∧ hf3 k = hk ∧ g0 it = none ∧ g3 = (g0.upd bk.mh (.mpc (hk.map ePr) st ck)).upd it (.it (some bk.mh) ck seen ck) ∧ e = [(0, .ptr (some ⟨G.gb, 0, none⟩)), (2, .bool more), (3, .int .i64 pre.length), (4, .ptr (some ⟨b.p, 0, none⟩)), (12, .sl (G.bs.map pRow) false), (13, .int .i64 G.bs.length), (14, .int .i64 pre.length), (22, .sl ((G.cs0 pre.length).map iRow) false), (23, .int .i64 (G.cs0 pre.length).length), (24, .int .i64 preB.length), (38, .ptr (some ⟨it, 0, none⟩))]) (st.filter (fun s => decide (s ∉ ([] : List Nat)))).length (WeakE.env ?_) ⟨more, hf2, g2, [], rfl, s2, f2, kp2, pr2, sh2, sd2, fun _ _ _ _ _ _ hh => by simp at hh, hhk, hit, rfl, rfl⟩ ?_
          · skip
            repeat' (first | exact EnvLe.nil _ | refine EnvLe.cons ?_ ?_)
            all_goals (simp -implicitDefEqProofs only [↓pgPre,go_sem,↓reduceIte,reduceCtorEq,seval]; try first | exact AVle.refl _ | exact AVle.sl _ _ | exact AVle.gs _ _ _ | assumption)
          · clear s2 f2 kp2 pr2 sh2 sd2 hnodek hsg2 hmk hhk hit
            rintro m e g3 ⟨more, hf3, g0, seen, rfl, s3, f3, kp3, pr3, sh3, sd3, pc3, hhk, hit, rfl, rfl⟩
            have hmk := s3.has k bk hbk
            rw [hhk] at hmk
            have hne1 := none_ne hit hmk
            have hit3 : ((g0.upd bk.mh (.mpc (hk.map ePr) st ck)).upd it (.it (some bk.mh) ck seen ck)) it = some (.it (some bk.mh) ck seen ck) := upd_same _ _ _
            have hmk3 : ∀ o, ((g0.upd bk.mh (.mpc (hk.map ePr) st ck)).upd it o) bk.mh = some (.mpc (hk.map ePr) st ck) := fun o => by rw [upd_ne _ _ _ hne1, upd_same]
            have hx3 := s3.node _ b n hbi hn
            have hmi := s3.has _ b hbi
            have hp1 := none_ne hit hx3
            have hp2 : b.p ≠ bk.mh := fun hh => by
              have := ids_apart nd hbi hbk (x := b.p) (by simp [NB.ids]) (by simp [NB.ids, hh])
              subst this
              rw [hbi] at hbk; cases hbk
              exact (ids_one nd hbi).2.1 hh
            have hmh1 := none_ne hit hmi
            have hx4 : ∀ o, ((g0.upd bk.mh (.mpc (hk.map ePr) st ck)).upd it o) b.p = g0 b.p := fun o => by rw [upd_ne _ _ _ hp1, upd_ne _ _ _ hp2]
            have ham : ∀ o, amapOf ((g0.upd bk.mh (.mpc (hk.map ePr) st ck)).upd it o) (.map (some b.mh)) = some ((hf3 pre.length).map ePr) := fun o => by
              by_cases hki : k = pre.length
              · subst hki
                rw [hbi] at hbk; cases hbk
                unfold amapOf
                simp only [hmk3, hhk]
              · have : b.mh ≠ bk.mh := fun hh => hki (ids_apart nd hbk hbi (x := bk.mh) (by simp [NB.ids]) (by simp [NB.ids, hh]))
                unfold amapOf
                simp only [upd_ne _ _ _ hmh1, upd_ne _ _ _ this, hmi]
            simp -implicitDefEqProofs only [↓pgPre,go_sem,↓reduceIte,reduceCtorEq,seval]
            refine nxtT_of hit3 (hmk3 _) hlt (Nat.le_refl _) (fun j e s hj hs hns => ?_) (fun hall => ?_)
            · rw [upd_upd]
              obtain ⟨x, hxj, rfl⟩ : ∃ x, hk[j]? = some x ∧ ePr x = e := by
                rw [List.getElem?_map] at hj
                cases hh : hk[j]? with
                | none => rw [hh] at hj; cases hj
                | some x => rw [hh] at hj; exact ⟨x, rfl, by simpa using hj⟩
              have hgl : (seen ++ [s]).getLast? = some s := by simp
              have haf : ∀ hs : Pairs, afind [3, 1, 1] (.agg [.int .i64 x.1, .int .i64 x.2]) (hs.map ePr) = some (if x ∈ hs then some (.bool true) else none) := afind_pair x
              have hkf : keyFits [3, 1, 1] (.agg [.int .i64 x.1, .int .i64 x.2]) = true := rfl
              have hmeas : (st.filter (fun s' => decide (s' ∉ seen ++ [s]))).length < (st.filter (fun s => decide (s ∉ seen))).length := by
                rw [← List.countP_eq_length_filter, ← List.countP_eq_length_filter]
                refine cnt_lt ?_ (List.mem_of_getElem? hs) (by simpa using hns) (by simp)
                intro y hy
                simp only [List.mem_append, not_or, decide_eq_true_eq] at hy ⊢
                exact hy.1
              simp -implicitDefEqProofs only [↓pgPre,go_sem,↓reduceIte,reduceCtorEq,seval, hmk3, hgl, entryAt_of hj hs hnd, ePr, ePk]
              by_cases hxi : x.1 = pre.length
              · have hxi' : ((x.1 : Int) = (pre.length : Int)) = True := by simp [hxi]
                simp -implicitDefEqProofs only [↓pgPre,go_sem,↓reduceIte,reduceCtorEq,seval, hxi']
                refine lessI.to _ _ _ hmeas (WeakE.env ?_) ⟨more, hf3, g0, seen ++ [s], rfl, s3, f3, kp3, pr3, sh3, sd3, ?_, hhk, hit, rfl, rfl⟩
                · skip
                  repeat' (first | exact EnvLe.nil _ | refine EnvLe.cons ?_ ?_)
                  all_goals (simp -implicitDefEqProofs only [↓pgPre,go_sem,↓reduceIte,reduceCtorEq,seval]; try first | exact AVle.refl _ | exact AVle.sl _ _ | exact AVle.gs _ _ _ | assumption)
                · intro hm j' x' s' h1 h2 h3
                  rcases List.mem_append.1 h3 with h3 | h3
                  · exact pc3 hm j' x' s' h1 h2 h3
                  · simp only [List.mem_cons, List.not_mem_nil, or_false] at h3
                    subst h3
                    have := nodup_idx hnd h2 hs
                    subst this
                    rw [hxj] at h1; cases h1
                    exact .inl hxi
              · have hxi' : ((x.1 : Int) = (pre.length : Int)) = False := by simp; omega
                by_cases hxm : x ∈ hf3 pre.length
                · simp -implicitDefEqProofs only [↓pgPre,go_sem,↓reduceIte,reduceCtorEq,seval, hxi', hx4, hx3, alookup, hkf, ham, haf, hxm]
                  refine lessI.to _ _ _ hmeas (WeakE.env ?_) ⟨more, hf3, g0, seen ++ [s], rfl, s3, f3, kp3, pr3, sh3, sd3, ?_, hhk, hit, rfl, rfl⟩
                  · skip
                    repeat' (first | exact EnvLe.nil _ | refine EnvLe.cons ?_ ?_)
                    all_goals (simp -implicitDefEqProofs only [↓pgPre,go_sem,↓reduceIte,reduceCtorEq,seval]; try first | exact AVle.refl _ | exact AVle.sl _ _ | exact AVle.gs _ _ _ | assumption)
                  · intro hm j' x' s' h1 h2 h3
                    rcases List.mem_append.1 h3 with h3 | h3
                    · exact pc3 hm j' x' s' h1 h2 h3
                    · simp only [List.mem_cons, List.not_mem_nil, or_false] at h3
                      subst h3
                      have := nodup_idx hnd h2 hs
                      subst this
                      rw [hxj] at h1; cases h1
                      exact .inr hxm
                · simp -implicitDefEqProofs only [↓pgPre,go_sem,↓reduceIte,reduceCtorEq,seval, hxi', hx4, hx3, alookup, hkf, ham, haf, hxm]
                  have hki : k ≠ pre.length := by
                    intro hh
                    apply hxm
                    rw [← hh, hhk]
                    exact List.mem_of_getElem? hxj
                  have hmm : b.mh ≠ bk.mh := fun hh => hki (ids_apart nd hbk hbi (x := bk.mh) (by simp [NB.ids]) (by simp [NB.ids, hh]))
                  have hmi4 : ∀ o, ((g0.upd bk.mh (.mpc (hk.map ePr) st ck)).upd it o) b.mh = some (.mp ((hf3 pre.length).map ePr)) := fun o => by rw [upd_ne _ _ _ hmh1, upd_ne _ _ _ hmm]; exact hmi
                  refine mapupT_of (hmi4 _) (aset_pair x (hf3 pre.length)) rfl ?_
                  simp -implicitDefEqProofs only [↓pgPre,go_sem,↓reduceIte,reduceCtorEq,seval]
                  rw [upd_comm _ _ _ hmh1.symm, upd_comm _ _ _ hmm.symm]
                  have hki' : setAt hf3 pre.length (hadd (hf3 pre.length) x) k = hk := by simp [setAt, hki, hhk]
                  have hxk : x ∈ hf3 k := by rw [hhk]; exact List.mem_of_getElem? hxj
                  have hmiss := missing_lt (G := G) (hf := hf3) (i := pre.length) (x := x) (by omega) (f3.small _ _ hxk) hxm
                  refine ⟨.inr (by decide), ?_⟩
                  refine lessI.to _ _ _ hmeas (WeakE.env ?_) ⟨true, setAt hf3 pre.length (hadd (hf3 pre.length) x), g0.upd b.mh (.mp ((hadd (hf3 pre.length) x).map ePr)), seen ++ [s], rfl, s3.set ok.ok1 hbi _, f3.add hkc hxk hxi, kp3.upd (ids_mem hbi (by simp [NB.ids])) _, ⟨by simp, fun _ => ?_⟩, by simp, by simp, by simp, hki', by rw [upd_ne _ _ _ hmh1.symm]; exact hit, rfl, rfl⟩
                  · skip
                    repeat' (first | exact EnvLe.nil _ | refine EnvLe.cons ?_ ?_)
                    all_goals (simp -implicitDefEqProofs only [↓pgPre,go_sem,↓reduceIte,reduceCtorEq,seval]; try first | exact AVle.refl _ | exact AVle.sl _ _ | exact AVle.gs _ _ _ | assumption)
                  · cases more with
                    | false => rw [pr3.stay rfl] at hmiss ⊢; exact hmiss
                    | true => exact Nat.lt_trans hmiss (pr3.less rfl)
            · simp -implicitDefEqProofs only [↓pgPre,go_sem,↓reduceIte,reduceCtorEq,seval]
              refine lessQ.same ?_
              simp -implicitDefEqProofs only [↓pgPre,go_sem,↓reduceIte,reduceCtorEq,seval]
              have hle : HeapLe ((g0.upd bk.mh (.mpc (hk.map ePr) st ck)).upd it (.it (some bk.mh) ck seen ck)) g0 := by
                intro y o ho
                have hy := none_ne hit ho
                rw [upd_ne _ _ _ hy]
                by_cases hyk : y = bk.mh
                · subst hyk
                  rw [hmk] at ho; cases ho
                  exact ⟨_, upd_same _ _ _, rfl⟩
                · rw [upd_ne _ _ _ hyk]; exact ⟨o, ho, .refl _⟩
              refine ⟨_, g0, WeakE.of ?_ hle, more, hf3, s3, f3, kp3, pr3, sh3, fun hm q hq => ?_, rfl⟩
              · skip
                repeat' (first | exact EnvLe.nil _ | refine EnvLe.cons ?_ ?_)
                all_goals (simp -implicitDefEqProofs only [↓pgPre,go_sem,↓reduceIte,reduceCtorEq,seval, step_at (l := G.cs0 pre.length) (by have := ok.fewCalls pre.length; unfold few; omega) hpB]; try first | exact AVle.refl _ | exact AVle.sl _ _ | exact AVle.gs _ _ _ | assumption)
              · rcases List.mem_append.1 hq with hq | hq
                · exact sd3 hm q hq
                · simp only [List.mem_cons, List.not_mem_nil, or_false] at hq
                  subst hq
                  intro x hx
                  rw [hhk] at hx
                  obtain ⟨j, hj⟩ := List.getElem?_of_mem hx
                  have hjl : j < st.length := by
                    rw [hst, List.length_map]
                    rcases Nat.lt_or_ge j hk.length with h | h
                    · exact h
                    · rw [List.getElem?_eq_none h] at hj; cases hj
                  exact pc3 hm j x _ hj (List.getElem?_eq_getElem hjl) (hall _ (List.getElem_mem hjl))
        · rintro e g' ⟨more, hf', s', f', kp', pr', sh', sd', rfl⟩
          simp -implicitDefEqProofs only [↓pgPre,go_sem,↓reduceIte,reduceCtorEq,seval, lt_end]
          refine lessQ.same ?_
          simp -implicitDefEqProofs only [↓pgPre,go_sem,↓reduceIte,reduceCtorEq,seval]
          refine ⟨_, _, WeakE.env ?_, more, hf', s', f', kp', pr', fun hm i hi => ?_, rfl⟩
          · skip
            repeat' (first | exact EnvLe.nil _ | refine EnvLe.cons ?_ ?_)
            all_goals (simp -implicitDefEqProofs only [↓pgPre,go_sem,↓reduceIte,reduceCtorEq,seval, step_at (l := G.bs) (by unfold few; omega) hp]; try first | exact AVle.refl _ | exact AVle.sl _ _ | exact AVle.gs _ _ _ | assumption)
          · simp only [List.length_append, List.length_cons, List.length_nil] at hi
            by_cases hip : i = pre.length
            · subst hip; exact sd' hm
            · exact sh' hm i (by omega)
      · rintro e g' ⟨more, hf', s', f', kp', pr', sh', rfl⟩
        simp -implicitDefEqProofs only [↓pgPre,go_sem,↓reduceIte,reduceCtorEq,seval, lt_end]
        refine lessQ.same ?_
        simp -implicitDefEqProofs only [↓pgPre,go_sem,↓reduceIte,reduceCtorEq,seval]
        refine lessI.to _ _ _ ?_ (WeakE.env ?_) ⟨more, hf', rfl, s', f', kp', fun hm => by rw [← hlenb]; exact sh' hm, rfl⟩
        · cases more with
          | false => simp
          | true => have := pr'.less rfl; simp; exact this
        · skip
          repeat' (first | exact EnvLe.nil _ | refine EnvLe.cons ?_ ?_)
          all_goals (simp -implicitDefEqProofs only [↓pgPre,go_sem,↓reduceIte,reduceCtorEq,seval]; try first | exact AVle.refl _ | exact AVle.sl _ _ | exact AVle.gs _ _ _ | assumption)
end Pg
