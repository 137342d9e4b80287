import Derived.Test.YtpebidcmkjjpnaaTreeS
import Derived.Test.YtpebidcmkjjpnaaCap2
namespace Pg
open Go
set_option linter.unusedSimpArgs false
set_option linter.unusedVariables false
set_option maxHeartbeats 4000000
set_option maxRecDepth 4000
theorem ids_mem {bs : List NB} {i : Nat} {b : NB} (h : bs[i]? = some b) {x : Nat} (hx : x ∈ b.ids) : x ∈ ids bs := List.mem_flatMap.2 ⟨b, List.mem_of_getElem? h, hx⟩
theorem ids_apart : ∀ {bs : List NB}, (ids bs).Nodup → ∀ {i j : Nat} {a b : NB}, bs[i]? = some a → bs[j]? = some b → ∀ {x : Nat}, x ∈ a.ids → x ∈ b.ids → i = j
  | [], _, i, j, a, b, hi, _, _, _, _ => by simp at hi
  | c :: bs, nd, i, j, a, b, hi, hj, x, hx, hy => by
    simp only [ids, List.flatMap_cons] at nd
    obtain ⟨n1, n2, n3⟩ := List.nodup_append.1 nd
    cases i with
    | zero =>
      cases j with
      | zero => rfl
      | succ j =>
        simp only [List.getElem?_cons_zero, Option.some.injEq] at hi
        simp only [List.getElem?_cons_succ] at hj
        subst hi
        exact absurd rfl (n3 x hx x (ids_mem hj hy))
    | succ i =>
      simp only [List.getElem?_cons_succ] at hi
      cases j with
      | zero =>
        simp only [List.getElem?_cons_zero, Option.some.injEq] at hj
        subst hj
        exact absurd rfl (n3 x hy x (ids_mem hi hx))
      | succ j =>
        simp only [List.getElem?_cons_succ] at hj
        rw [ids_apart n2 hi hj hx hy]
theorem ids_one : ∀ {bs : List NB}, (ids bs).Nodup → ∀ {i : Nat} {a : NB}, bs[i]? = some a → a.p ≠ a.mi ∧ a.p ≠ a.mh ∧ a.mi ≠ a.mh
  | [], _, i, a, hi => by simp at hi
  | c :: bs, nd, i, a, hi => by
    simp only [ids, List.flatMap_cons] at nd
    obtain ⟨n1, n2, n3⟩ := List.nodup_append.1 nd
    cases i with
    | zero =>
      simp only [List.getElem?_cons_zero, Option.some.injEq] at hi
      subst hi
      simp only [NB.ids, List.nodup_cons, List.mem_cons, List.not_mem_nil, or_false, not_or] at n1
      exact ⟨n1.1.1, n1.1.2, n1.2.1⟩
    | succ i =>
      simp only [List.getElem?_cons_succ] at hi
      exact ids_one n2 hi
/-- What the graph's own blocks are apart from. -/
theorem Gra.ok.apart {G : Gra} (ok : G.ok) {j : Nat} {b : NB} (hj : G.bs[j]? = some b) {x : Nat} (hx : x ∈ b.ids) : x ≠ G.gb ∧ x ≠ G.mt ∧ x ∈ ids G.bs := by
  have nd := ok.nodup
  have hm := ids_mem hj hx
  simp only [List.nodup_cons, List.mem_cons, not_or] at nd
  exact ⟨fun hh => nd.1.2 (hh ▸ hm), fun hh => nd.2.1 (hh ▸ hm), hm⟩
theorem Gra.ok.ids_nd {G : Gra} (ok : G.ok) : (ids G.bs).Nodup := (List.nodup_cons.1 (List.nodup_cons.1 ok.nodup).2).2
/-- A graph's heap, with the calls and the captured of one routine. -/
def hh (b : NB) (n : CN) (H : AHeap) (v : AV) (hs : Pairs) : AHeap := (H.upd b.p (oNode n.path n.around n.list n.r (.sl ((locs n.r).map eParam) false) (.map (some b.mi)) v (.map (some b.mh)))).upd b.mh (.mp (hs.map ePr))
theorem Stat.hh {G : Gra} (ok : G.ok) {H : AHeap} (s : Stat G H) {j : Nat} {b : NB} {n : CN} (hb : G.bs[j]? = some b) (hn : G.ns[j]? = some n) (v : AV) (hs : Pairs) : Stat G (Pg.hh b n H v hs) := by
  have ap : ∀ x ∈ b.ids, x ≠ G.gb ∧ x ≠ G.mt := fun x hx => ⟨(ok.apart hb hx).1, (ok.apart hb hx).2.1⟩
  have a1 := ap b.p (by simp [NB.ids])
  have a2 := ap b.mh (by simp [NB.ids])
  have nd := ok.ids_nd
  unfold Pg.hh
  refine ⟨?_, ?_, ?_, ?_⟩
  · rw [upd_ne _ _ _ a2.1.symm, upd_ne _ _ _ a1.1.symm]; exact s.g
  · rw [upd_ne _ _ _ a2.2.symm, upd_ne _ _ _ a1.2.symm]; exact s.top
  · intro i b' n' hb' hn'
    by_cases hij : i = j
    · subst hij
      rw [hb] at hb'; rw [hn] at hn'; cases hb'; cases hn'
      refine ⟨v, ?_⟩
      rw [upd_ne _ _ _ (ids_one nd hb).2.1, upd_same]
    · have e1 : b'.p ≠ b.p := fun hh => hij (ids_apart nd hb' hb (x := b'.p) (by simp [NB.ids]) (by simp [NB.ids, hh]))
      have e2 : b'.p ≠ b.mh := fun hh => hij (ids_apart nd hb' hb (x := b'.p) (by simp [NB.ids]) (by simp [NB.ids, hh]))
      rw [upd_ne _ _ _ e2, upd_ne _ _ _ e1]
      exact s.node i b' n' hb' hn'
  · intro i b' n' hb' hn'
    have e1 : b'.mi ≠ b.p := by
      intro hh
      have := ids_apart nd hb' hb (x := b'.mi) (by simp [NB.ids]) (by simp [NB.ids, hh])
      subst this
      rw [hb] at hb'; cases hb'
      exact (ids_one nd hb).1 hh.symm
    have e2 : b'.mi ≠ b.mh := by
      intro hh
      have := ids_apart nd hb' hb (x := b'.mi) (by simp [NB.ids]) (by simp [NB.ids, hh])
      subst this
      rw [hb] at hb'; cases hb'
      exact (ids_one nd hb).2.2 hh
    rw [upd_ne _ _ _ e2, upd_ne _ _ _ e1]
    exact s.inner i b' n' hb' hn'
theorem hh_mh (b : NB) (n : CN) (H : AHeap) (v : AV) (hs : Pairs) : hh b n H v hs b.mh = some (.mp (hs.map ePr)) := upd_same _ _ _
theorem hh_p {b : NB} (hne : b.p ≠ b.mh) (n : CN) (H : AHeap) (v : AV) (hs : Pairs) : hh b n H v hs b.p = some (oNode n.path n.around n.list n.r (.sl ((locs n.r).map eParam) false) (.map (some b.mi)) v (.map (some b.mh))) := by
  unfold hh; rw [upd_ne _ _ _ hne, upd_same]
theorem hh_set (b : NB) (n : CN) (H : AHeap) (v : AV) (hs hs' : Pairs) : (hh b n H v hs).upd b.mh (.mp (hs'.map ePr)) = hh b n H v hs' := upd_upd _ _ _ _
theorem hh_calls {b : NB} (hne : b.p ≠ b.mh) (n : CN) (H : AHeap) (v v' : AV) (hs : Pairs) : (hh b n H v hs).upd b.p (oNode n.path n.around n.list n.r (.sl ((locs n.r).map eParam) false) (.map (some b.mi)) v' (.map (some b.mh))) = hh b n H v' hs := by
  unfold hh; rw [upd_comm _ _ _ hne.symm, upd_upd]
abbrev iRow (k : Nat) : List AV := [.int .i64 (k : Int)]
theorem hasAt_append (ns : List CN) (j : Nat) (a b : List ByteArray) (hs : Pairs) : hasAt ns j (a ++ b) hs = hasAt ns j b (hasAt ns j a hs) := List.foldl_append ..
theorem callAt_append (ns : List CN) (top : List (ByteArray × Nat)) (j : Nat) (a b : List ByteArray) : callAt ns top j (a ++ b) = callAt ns top j a ++ callAt ns top j b := List.filterMap_append
theorem callEs_at : ∀ (pre : List Expr) (x : Expr), callEs (pre ++ [x]) = callEs pre ++ callE x
  | [], x => by simp [callEs]
  | y :: r, x => by simp only [List.cons_append, callEs]; rw [callEs_at r x, List.append_assoc]
theorem useEs_at : ∀ (pre : List Expr) (x : Expr), useEs (pre ++ [x]) = useEs pre ++ useE x
  | [], x => by simp [useEs]
  | y :: r, x => by simp only [List.cons_append, useEs]; rw [useEs_at r x, List.append_assoc]
theorem callEs_len : ∀ (n : Nat) (l : List Expr), Exprs.sz l ≤ n → (callEs l).length ≤ wEs l
  | n, [], h => by simp [callEs]
  | 0, x :: r, h => by simp [Exprs.sz] at h
  | n + 1, x :: r, h => by
    have hz := Expr.sz_eq x
    simp only [Exprs.sz] at h
    have h1 := callEs_len n x.l (by omega)
    have h2 := callEs_len n r (by omega)
    have hw := wE_eq x
    simp only [callEs, wEs, List.length_append, callE_eq]
    split <;> simp <;> omega
theorem callAt_len (ns : List CN) (top : List (ByteArray × Nat)) (j : Nat) (a : List ByteArray) : (callAt ns top j a).length ≤ a.length := List.length_filterMap_le _ _
theorem wEs_at {l pre post : List Expr} {x : Expr} (h : l = pre ++ x :: post) : wEs l = wEs pre + wE x + wEs post := by
  subst h; rw [wEs_map, wEs_map, wEs_map]; simp; omega
theorem exprs_spec {G : Gra} (ok : G.ok) {H : AHeap} (s : Stat G H) {j : Nat} {b : NB} {n : CN} (hb : G.bs[j]? = some b) (hn : G.ns[j]? = some n) : ∀ (N : Nat) (l : List Expr), Exprs.sz l < N → few l → (∀ x ∈ l, x.ok) → ∀ (f : Bool) (g : AHeap) (v : AV) (hs : Pairs) (cs : List Nat),
    GL 3 1 (hh b n H v hs) g v (cs.map iRow) → cs.length + wEs l ≤ 274877906944 →
    ACalls Go.Proofs.Try.prog 104 [.ptr (some ⟨G.gb, 0, none⟩), .int .i64 (j : Int), .sl (l.map eExpr) f] g (fun w g' => w = .tuple [] ∧ ∃ v', GL 3 1 (hh b n H v' (hasAt G.ns j (useEs l) hs)) g' v' ((cs ++ callAt G.ns G.top j (callEs l)).map iRow)) := by
  have nd := ok.ids_nd
  have hne := (ids_one nd hb).2.1
  have hjl : j < G.ns.length := by
    rcases Nat.lt_or_ge j G.ns.length with h | h
    · exact h
    · rw [List.getElem?_eq_none h] at hn; cases hn
  intro N
  induction N with
  | zero => intro l h; omega
  | succ N ih =>
    intro l hN hl hok f g v hs cs GG hw
    refine F104.calls (by simp) ?_
    delta F104.c0
    simp -implicitDefEqProofs only [↓pgPre,go_sem,↓reduceIte,reduceCtorEq,seval]
    refine lT_list l (fun pre post e g' => ∃ v', GL 3 1 (hh b n H v' (hasAt G.ns j (useEs pre) hs)) g' v' ((cs ++ callAt G.ns G.top j (callEs pre)).map iRow) ∧ e = [(0, .ptr (some ⟨G.gb, 0, none⟩)), (1, .int .i64 (j : Int)), (10, .sl (l.map eExpr) f), (11, .int .i64 l.length), (12, .int .i64 pre.length)]) (WeakE.env ?_) ⟨v, by simpa [hasAt, callAt, useEs, callEs] using GG, rfl⟩ ?_ ?_
    · skip
      repeat' (first | exact EnvLe.nil _ | refine EnvLe.cons ?_ ?_)
      all_goals (simp -implicitDefEqProofs only [↓pgPre,go_sem,↓reduceIte,reduceCtorEq,seval]; try first | exact AVle.refl _ | exact AVle.sl _ _ | exact AVle.gs _ _ _ | assumption)
    · rintro pre x post e g' hp ⟨v', G', rfl⟩
      have hx := mem_at hp
      have hxz := Exprs.sz_mem hx
      have hz := Expr.sz_eq x
      obtain ⟨o1, o2⟩ := (Expr.ok_iff x).1 (hok x hx)
      simp -implicitDefEqProofs only [↓pgPre,go_sem,↓reduceIte,reduceCtorEq,seval, lt_at hp, aia_sl (map_at hp) (eExpr_len x), eExpr_len, expr_take]
      have hww := wEs_at hp
      have hwx := wE_eq x
      have hcl := callEs_len _ pre (Nat.le_refl _)
      have hca := callAt_len G.ns G.top j (callEs pre)
      have sg : Stat G g' := (s.hh ok hb hn v' _).of_le G'.le
      have hmh : g' b.mh = some (.mp ((hasAt G.ns j (useEs pre) hs).map ePr)) := G'.at (hh_mh _ _ _ _ _)
      have hpb := G'.at (hh_p hne _ _ _ _)
      have hsg := sg.g
      have hrow : (G.bs.map pRow)[j]? = some (pRow b) := by simp [hb]
      have key : ∀ (U C : List ByteArray), useE x = U ++ useEs x.l → callE x = C ++ callEs x.l → ∀ v1 g1, GL 3 1 (hh b n H v1 (hasAt G.ns j (useEs pre ++ U) hs)) g1 v1 ((cs ++ callAt G.ns G.top j (callEs pre ++ C)).map iRow) → C.length ≤ 1 → ACalls Go.Proofs.Try.prog 104 [.ptr (some ⟨G.gb, 0, none⟩), .int .i64 (j : Int), .sl (x.l.map eExpr) false] g1 (fun w g' => w = .tuple [] ∧ ∃ v', GL 3 1 (hh b n H v' (hasAt G.ns j (useEs (pre ++ [x])) hs)) g' v' ((cs ++ callAt G.ns G.top j (callEs (pre ++ [x]))).map iRow)) := by
        intro U C hU hC v1 g1 G1 hlC
        have hcc := callAt_len G.ns G.top j (callEs pre ++ C)
        rw [List.length_append] at hcc
        have h := ih x.l (by omega) o1 o2 false g1 v1 _ _ G1 (by rw [List.length_append]; omega)
        have e1 : hasAt G.ns j (useEs x.l) (hasAt G.ns j (useEs pre ++ U) hs) = hasAt G.ns j (useEs (pre ++ [x])) hs := by rw [← hasAt_append, useEs_at, hU, List.append_assoc]
        have e2 : cs ++ callAt G.ns G.top j (callEs pre ++ C) ++ callAt G.ns G.top j (callEs x.l) = cs ++ callAt G.ns G.top j (callEs (pre ++ [x])) := by rw [List.append_assoc, ← callAt_append, callEs_at, hC, List.append_assoc]
        rw [e1, e2] at h
        exact h
      by_cases hu : x.op = 4 ∨ x.op = 5 ∨ x.op = 6
      · have hU : useE x = [x.name] ++ useEs x.l := by rw [useE_eq, if_pos hu]
        have hC : callE x = [] ++ callEs x.l := by rw [callE_eq, if_neg (by omega)]
        have G1 := G'.upd (hh_mh _ _ _ _ _) (.mp ((useAt G.ns j (hasAt G.ns j (useEs pre) hs) x.name).map ePr))
        rw [hh_set] at G1
        have K := key _ _ hU hC v' _ (by rw [hasAt_append, List.append_nil]; exact G1) (by simp)
        rcases hu with hu | hu | hu
        all_goals
          simp -implicitDefEqProofs only [↓pgPre,go_sem,↓reduceIte,reduceCtorEq,seval, hu]
          refine callT_of (names_spec ok sg hb hmh x.name) (fun v g ⟨hv, hg⟩ => ?_)
          subst v g
          simp -implicitDefEqProofs only [↓pgPre,go_sem,↓reduceIte,reduceCtorEq,seval, eExpr_len, expr_take]
          refine callT_of K (fun v g5 hg5 => ?_)
          obtain ⟨rfl, v5, G5⟩ := hg5
          simp -implicitDefEqProofs only [↓pgPre,go_sem,↓reduceIte,reduceCtorEq,seval]
          refine ⟨_, _, WeakE.env ?_, v5, G5, rfl⟩
          repeat' (first | exact EnvLe.nil _ | refine EnvLe.cons ?_ ?_)
          all_goals (simp -implicitDefEqProofs only [↓pgPre,go_sem,↓reduceIte,reduceCtorEq,seval, step_at hl hp]; try first | exact AVle.refl _ | exact AVle.sl _ _ | exact AVle.gs _ _ _ | assumption)
      · have hu4 : ¬ x.op = 4 := fun h => hu (.inl h)
        have hu5 : ¬ x.op = 5 := fun h => hu (.inr (.inl h))
        have hu6 : ¬ x.op = 6 := fun h => hu (.inr (.inr h))
        have hU : useE x = [] ++ useEs x.l := by rw [useE_eq, if_neg hu]
        by_cases h7 : x.op = 7
        · have hC : callE x = [x.name] ++ callEs x.l := by rw [callE_eq, if_pos h7]
          simp -implicitDefEqProofs only [↓pgPre,go_sem,↓reduceIte,reduceCtorEq,seval, h7]
          refine callT_of (routine_spec13 ok sg hjl x.name) (fun v g ⟨hv, hg⟩ => ?_)
          subst v g
          cases hr : routAt G.ns G.top x.name (j + 1) j with
          | none =>
            have K := key _ _ hU hC v' g' (by rw [List.append_nil, callAt_append]; simpa [callAt, hr] using G') (by simp)
            simp -implicitDefEqProofs only [↓pgPre,go_sem,↓reduceIte,reduceCtorEq,seval, hr, Option.isSome, eExpr_len, expr_take]
            refine callT_of K (fun v g5 hg5 => ?_)
            obtain ⟨rfl, v5, G5⟩ := hg5
            simp -implicitDefEqProofs only [↓pgPre,go_sem,↓reduceIte,reduceCtorEq,seval]
            refine ⟨_, _, WeakE.env ?_, v5, G5, rfl⟩
            repeat' (first | exact EnvLe.nil _ | refine EnvLe.cons ?_ ?_)
            all_goals (simp -implicitDefEqProofs only [↓pgPre,go_sem,↓reduceIte,reduceCtorEq,seval, step_at hl hp]; try first | exact AVle.refl _ | exact AVle.sl _ _ | exact AVle.gs _ _ _ | assumption)
          | some k =>
            simp -implicitDefEqProofs only [↓pgPre,go_sem,↓reduceIte,reduceCtorEq,seval, hr, Option.isSome, hsg, aia_sl (size := 1) hrow rfl, hpb]
            refine G'.append1 (xs := iRow k) (bytes := 8) rfl (by unfold roomFor; simp; omega) (fun v1 g1 G1 => ?_)
            have hpb1 := G1.at (hh_p hne _ _ _ _)
            have hsg1 := ((s.hh ok hb hn v' _).of_le G1.le).g
            have hgp := (ok.apart hb (x := b.p) (by simp [NB.ids])).1.symm
            simp -implicitDefEqProofs only [↓pgPre,go_sem,↓reduceIte,reduceCtorEq,seval, hpb1, G1.cells, hsg1, upd_ne _ _ _ hgp]
            have G2 := G1.upd (hh_p hne _ _ _ _) (oNode n.path n.around n.list n.r (.sl ((locs n.r).map eParam) false) (.map (some b.mi)) v1 (.map (some b.mh)))
            rw [hh_calls hne] at G2
            have K := key _ _ hU hC v1 _ (by rw [List.append_nil, callAt_append]; simpa [callAt, hr] using G2) (by simp)
            refine ⟨.inr (by decide), ?_⟩
            refine callT_of K (fun v g5 hg5 => ?_)
            obtain ⟨rfl, v5, G5⟩ := hg5
            simp -implicitDefEqProofs only [↓pgPre,go_sem,↓reduceIte,reduceCtorEq,seval]
            refine ⟨_, _, WeakE.env ?_, v5, G5, rfl⟩
            repeat' (first | exact EnvLe.nil _ | refine EnvLe.cons ?_ ?_)
            all_goals (simp -implicitDefEqProofs only [↓pgPre,go_sem,↓reduceIte,reduceCtorEq,seval, step_at hl hp]; try first | exact AVle.refl _ | exact AVle.sl _ _ | exact AVle.gs _ _ _ | assumption)
        · have hC : callE x = [] ++ callEs x.l := by rw [callE_eq, if_neg h7]
          have K := key _ _ hU hC v' g' (by rw [List.append_nil, List.append_nil]; exact G') (by simp)
          simp -implicitDefEqProofs only [↓pgPre,go_sem,↓reduceIte,reduceCtorEq,seval, hu4, hu5, hu6, h7, eExpr_len, expr_take]
          refine callT_of K (fun v g5 hg5 => ?_)
          obtain ⟨rfl, v5, G5⟩ := hg5
          simp -implicitDefEqProofs only [↓pgPre,go_sem,↓reduceIte,reduceCtorEq,seval]
          refine ⟨_, _, WeakE.env ?_, v5, G5, rfl⟩
          repeat' (first | exact EnvLe.nil _ | refine EnvLe.cons ?_ ?_)
          all_goals (simp -implicitDefEqProofs only [↓pgPre,go_sem,↓reduceIte,reduceCtorEq,seval, step_at hl hp]; try first | exact AVle.refl _ | exact AVle.sl _ _ | exact AVle.gs _ _ _ | assumption)
    · rintro e g' ⟨v', G', rfl⟩
      simp -implicitDefEqProofs only [↓pgPre,go_sem,↓reduceIte,reduceCtorEq,seval, lt_end]
      refine lessQ.same ?_
      simp -implicitDefEqProofs only [↓pgPre,go_sem,↓reduceIte,reduceCtorEq,seval]
      exact .same ⟨rfl, v', G'⟩
theorem callSs_at : ∀ (pre : List Stmt) (x : Stmt), callSs (pre ++ [x]) = callSs pre ++ callS x
  | [], x => by simp [callSs]
  | y :: r, x => by simp only [List.cons_append, callSs]; rw [callSs_at r x, List.append_assoc]
theorem useSs_at : ∀ (pre : List Stmt) (x : Stmt), useSs (pre ++ [x]) = useSs pre ++ useS x
  | [], x => by simp [useSs]
  | y :: r, x => by simp only [List.cons_append, useSs]; rw [useSs_at r x, List.append_assoc]
theorem callE_len (x : Expr) : (callE x).length ≤ wE x := by
  have := callEs_len _ [x] (Nat.le_refl _)
  simpa [callEs, wEs] using this
theorem callSs_len : ∀ (n : Nat) (l : List Stmt), Stmts.sz l ≤ n → (callSs l).length ≤ wSs l
  | n, [], h => by simp [callSs]
  | 0, x :: r, h => by simp [Stmts.sz] at h
  | n + 1, x :: r, h => by
    have hz := Stmt.sz_eq x
    simp only [Stmts.sz] at h
    have h1 := callSs_len n x.body (by omega)
    have h2 := callSs_len n x.els (by omega)
    have h3 := callSs_len n r (by omega)
    have h4 := callE_len x.p
    have h5 := callEs_len _ x.e (Nat.le_refl _)
    have hw := wS_eq x
    simp only [callSs, wSs, List.length_append, callS_eq]
    omega
theorem wSs_map' : ∀ l, wSs l = (l.map wS).sum
  | [] => by simp [wSs]
  | x :: r => by simp [wSs, wSs_map' r]
theorem wSs_at {l pre post : List Stmt} {x : Stmt} (h : l = pre ++ x :: post) : wSs l = wSs pre + wS x + wSs post := by
  subst h; rw [wSs_map', wSs_map', wSs_map']; simp; omega
theorem stmts_spec13 {G : Gra} (ok : G.ok) {H : AHeap} (s : Stat G H) {j : Nat} {b : NB} {n : CN} (hb : G.bs[j]? = some b) (hn : G.ns[j]? = some n) : ∀ (N : Nat) (l : List Stmt), Stmts.sz l < N → few l → (∀ x ∈ l, x.ok) → ∀ (f : Bool) (g : AHeap) (v : AV) (hs : Pairs) (cs : List Nat),
    GL 3 1 (hh b n H v hs) g v (cs.map iRow) → cs.length + wSs l ≤ 274877906944 →
    ACalls Go.Proofs.Try.prog 82 [.ptr (some ⟨G.gb, 0, none⟩), .int .i64 (j : Int), .sl (l.map eStmt) f] g (fun w g' => w = .tuple [] ∧ ∃ v', GL 3 1 (hh b n H v' (hasAt G.ns j (useSs l) hs)) g' v' ((cs ++ callAt G.ns G.top j (callSs l)).map iRow)) := by
  intro N
  induction N with
  | zero => intro l h; omega
  | succ N ih =>
    intro l hN hl hok f g v hs cs GG hw
    refine F82.calls (by simp) ?_
    delta F82.c0
    simp -implicitDefEqProofs only [↓pgPre,go_sem,↓reduceIte,reduceCtorEq,seval]
    refine lT_list l (fun pre post e g' => ∃ v', GL 3 1 (hh b n H v' (hasAt G.ns j (useSs pre) hs)) g' v' ((cs ++ callAt G.ns G.top j (callSs pre)).map iRow) ∧ e = [(0, .ptr (some ⟨G.gb, 0, none⟩)), (1, .int .i64 (j : Int)), (8, .sl (l.map eStmt) f), (9, .int .i64 l.length), (10, .int .i64 pre.length)]) (WeakE.env ?_) ⟨v, by simpa [hasAt, callAt, useSs, callSs] using GG, rfl⟩ ?_ ?_
    · skip
      repeat' (first | exact EnvLe.nil _ | refine EnvLe.cons ?_ ?_)
      all_goals (simp -implicitDefEqProofs only [↓pgPre,go_sem,↓reduceIte,reduceCtorEq,seval]; try first | exact AVle.refl _ | exact AVle.sl _ _ | exact AVle.gs _ _ _ | assumption)
    · rintro pre x post e g' hp ⟨v', G', rfl⟩
      have hx := mem_at hp
      have hxz := Stmts.sz_mem hx
      have hz := Stmt.sz_eq x
      have hok' := (Stmt.ok_iff x).1 (hok x hx)
      have hww := wSs_at hp
      have hwx := wS_eq x
      have hcl := callSs_len _ pre (Nat.le_refl _)
      have hc1 := callE_len x.p
      have hc2 := callEs_len _ x.e (Nat.le_refl _)
      have hc3 := callSs_len _ x.body (Nat.le_refl _)
      have sg : Stat G g' := (s.hh ok hb hn v' _).of_le G'.le
      have hmh : g' b.mh = some (.mp ((hasAt G.ns j (useSs pre) hs).map ePr)) := G'.at (hh_mh _ _ _ _ _)
      have hP : ((eStmt x).drop 4).take 5 = eExpr x.p := by rw [eStmt_eq, eExpr_eq]; rfl
      have hlit : ∀ z : Expr, [eExpr z] = [z].map eExpr := fun z => rfl
      by_cases h6 : x.op = 6
      all_goals
        first
        | (have G1 := G'.upd (hh_mh _ _ _ _ _) (.mp ((useAt G.ns j (hasAt G.ns j (useSs pre) hs) x.name).map ePr))
           rw [hh_set] at G1
           have hU : (if x.op = 6 then [x.name] else []) = [x.name] := if_pos h6
           have hh1 : useAt G.ns j (hasAt G.ns j (useSs pre) hs) x.name = hasAt G.ns j (useSs pre ++ [x.name]) hs := by rw [hasAt_append]; rfl
           simp -implicitDefEqProofs only [↓pgPre,go_sem,↓reduceIte,reduceCtorEq,seval, lt_at hp, aia_sl (map_at hp) (eStmt_len x), eStmt_len, stmt_take, h6]
           refine callT_of (names_spec ok sg hb hmh x.name) (fun v g ⟨hv, hg⟩ => ?_)
           subst v g
           simp -implicitDefEqProofs only [↓pgPre,go_sem,↓reduceIte,reduceCtorEq,seval, hP, eExpr_len, splice_same])
        | (have G1 := G'
           have hU : (if x.op = 6 then [x.name] else []) = [] := if_neg h6
           have hh1 : hasAt G.ns j (useSs pre) hs = hasAt G.ns j (useSs pre ++ []) hs := by rw [List.append_nil]
           simp -implicitDefEqProofs only [↓pgPre,go_sem,↓reduceIte,reduceCtorEq,seval, lt_at hp, aia_sl (map_at hp) (eStmt_len x), eStmt_len, stmt_take, h6, hP, eExpr_len, splice_same])
        rw [hh1] at G1
        try rw [hh1]
        have ca0 := callAt_len G.ns G.top j (callSs pre)
        have ca1 := callAt_len G.ns G.top j (callEs [x.p])
        have ca2 := callAt_len G.ns G.top j (callEs x.e)
        have ca3 := callAt_len G.ns G.top j (callSs x.body)
        have hp1 : callEs [x.p] = callE x.p := by simp [callEs]
        have hwp : wEs [x.p] = wE x.p := by simp [wEs]
        rw [hp1] at ca1
        refine callT_of (exprs_spec ok s hb hn _ [x.p] (Nat.lt_succ_self _) (by unfold few; simp) (by simpa using hok'.2.2.1) true _ _ _ (cs ++ callAt G.ns G.top j (callSs pre)) G1 (by rw [List.length_append, hwp]; omega)) (fun v g5 hg5 => ?_)
        obtain ⟨rfl, v2, G2⟩ := hg5
        simp -implicitDefEqProofs only [↓pgPre,go_sem,↓reduceIte,reduceCtorEq,seval]
        refine callT_of (exprs_spec ok s hb hn _ x.e (Nat.lt_succ_self _) hok'.2.2.2.1 hok'.2.2.2.2.1 false _ _ _ (cs ++ callAt G.ns G.top j (callSs pre) ++ callAt G.ns G.top j (callEs [x.p])) G2 (by rw [List.length_append, List.length_append, hp1]; omega)) (fun v g5 hg5 => ?_)
        obtain ⟨rfl, v3, G3⟩ := hg5
        simp -implicitDefEqProofs only [↓pgPre,go_sem,↓reduceIte,reduceCtorEq,seval]
        refine callT_of (ih x.body (by omega) hok'.2.2.2.2.2.1 hok'.2.2.2.2.2.2.1 false _ _ _ (cs ++ callAt G.ns G.top j (callSs pre) ++ callAt G.ns G.top j (callEs [x.p]) ++ callAt G.ns G.top j (callEs x.e)) G3 (by simp only [List.length_append, hp1]; omega)) (fun v g5 hg5 => ?_)
        obtain ⟨rfl, v4, G4⟩ := hg5
        simp -implicitDefEqProofs only [↓pgPre,go_sem,↓reduceIte,reduceCtorEq,seval]
        refine callT_of (ih x.els (by omega) hok'.2.2.2.2.2.2.2.1 hok'.2.2.2.2.2.2.2.2.1 false _ _ _ (cs ++ callAt G.ns G.top j (callSs pre) ++ callAt G.ns G.top j (callEs [x.p]) ++ callAt G.ns G.top j (callEs x.e) ++ callAt G.ns G.top j (callSs x.body)) G4 (by simp only [List.length_append, hp1]; omega)) (fun v g5 hg5 => ?_)
        obtain ⟨rfl, v5, G5⟩ := hg5
        simp -implicitDefEqProofs only [↓pgPre,go_sem,↓reduceIte,reduceCtorEq,seval]
        refine ⟨_, _, WeakE.env ?_, v5, ?_, rfl⟩
        · skip
          repeat' (first | exact EnvLe.nil _ | refine EnvLe.cons ?_ ?_)
          all_goals (simp -implicitDefEqProofs only [↓pgPre,go_sem,↓reduceIte,reduceCtorEq,seval, step_at hl hp]; try first | exact AVle.refl _ | exact AVle.sl _ _ | exact AVle.gs _ _ _ | assumption)
        · have e1 : hasAt G.ns j (useSs x.els) (hasAt G.ns j (useSs x.body) (hasAt G.ns j (useEs x.e) (hasAt G.ns j (useEs [x.p]) (hasAt G.ns j (useSs pre ++ (if x.op = 6 then [x.name] else [])) hs)))) = hasAt G.ns j (useSs (pre ++ [x])) hs := by
            simp only [← hasAt_append]
            rw [useSs_at, useS_eq]
            simp [useEs]
          have e2 : cs ++ callAt G.ns G.top j (callSs pre) ++ callAt G.ns G.top j (callEs [x.p]) ++ callAt G.ns G.top j (callEs x.e) ++ callAt G.ns G.top j (callSs x.body) ++ callAt G.ns G.top j (callSs x.els) = cs ++ callAt G.ns G.top j (callSs (pre ++ [x])) := by
            simp only [List.append_assoc, ← callAt_append]
            rw [callSs_at, callS_eq, hp1]
            simp [callAt_append]
          rw [hU] at e1
          rw [e1, e2] at G5
          exact G5
    · rintro e g' ⟨v', G', rfl⟩
      simp -implicitDefEqProofs only [↓pgPre,go_sem,↓reduceIte,reduceCtorEq,seval, lt_end]
      refine lessQ.same ?_
      simp -implicitDefEqProofs only [↓pgPre,go_sem,↓reduceIte,reduceCtorEq,seval]
      exact .same ⟨rfl, v', G'⟩
end Pg
