import Derived.Test.YtlflapoljegmoaaGreatDoorTreeSE
import Derived.Test.YtlflapoljegmoaaGreatDoorCpWE
import Derived.Test.YtlflapoljegmoaaGreatDoorCkYE
set_option linter.all false
set_option maxHeartbeats 4000000
set_option maxRecDepth 4000
namespace Pg
open Go Go.Proofs.Tryz
theorem ids_mem {bs : List NB} {i : Nat} {b : NB} (h : bs[i]? = some b) {x : Nat} (hx : x ∈ b.ids) : x ∈ ids bs := List.mem_flatMap.2 ⟨b, List.mem_of_getElem? h, hx⟩
theorem ids_apart : ∀ {bs : List NB}, (ids bs).Nodup → ∀ {i j : Nat} {a b : NB}, bs[i]? = some a → bs[j]? = some b → ∀ {x : Nat}, x ∈ a.ids → x ∈ b.ids → i = j
 | [], _, i, j, a, b, hi, _, _, _, _ => by simp at hi
 | c :: bs, nd, i, j, a, b, hi, hj, x, hx, hy => by
  simp only [ids, List.flatMap_cons] at nd
  obtain ⟨n1, n2, n3⟩ := List.nodup_append.1 nd
  cases i with
  | zero =>
   cases j with
   | zero => rfl
   | succ j =>
    simp only [List.getElem?_cons_zero, Option.some.injEq] at hi
    simp only [List.getElem?_cons_succ] at hj
    subst hi
    exact absurd rfl (n3 x hx x (ids_mem hj hy))
  | succ i =>
   simp only [List.getElem?_cons_succ] at hi
   cases j with
   | zero =>
    simp only [List.getElem?_cons_zero, Option.some.injEq] at hj
    subst hj
    exact absurd rfl (n3 x hy x (ids_mem hi hx))
   | succ j =>
    simp only [List.getElem?_cons_succ] at hj
    rw [ids_apart n2 hi hj hx hy]
theorem ids_one : ∀ {bs : List NB}, (ids bs).Nodup → ∀ {i : Nat} {a : NB}, bs[i]? = some a → a.p ≠ a.mi ∧ a.p ≠ a.mh ∧ a.mi ≠ a.mh
 | [], _, i, a, hi => by simp at hi
 | c :: bs, nd, i, a, hi => by
  simp only [ids, List.flatMap_cons] at nd
  obtain ⟨n1, n2, n3⟩ := List.nodup_append.1 nd
  cases i with
  | zero =>
   simp only [List.getElem?_cons_zero, Option.some.injEq] at hi
   subst hi
   simp only [NB.ids, List.nodup_cons, List.mem_cons, List.not_mem_nil, or_false, not_or] at n1
   exact ⟨n1.1.1, n1.1.2, n1.2.1⟩
  | succ i =>
   simp only [List.getElem?_cons_succ] at hi
   exact ids_one n2 hi
theorem Gra.ok.apart {G : Gra} (ok : G.ok) {j : Nat} {b : NB} (hj : G.bs[j]? = some b) {x : Nat} (hx : x ∈ b.ids) : x ≠ G.gb ∧ x ≠ G.mt ∧ x ∈ ids G.bs := by
 have nd := ok.nodup
 have hm := ids_mem hj hx
 simp only [List.nodup_cons, List.mem_cons, not_or] at nd
 exact ⟨fun hh => nd.1.2 (hh ▸ hm), fun hh => nd.2.1 (hh ▸ hm), hm⟩
theorem Gra.ok.ids_nd {G : Gra} (ok : G.ok) : (ids G.bs).Nodup := (List.nodup_cons.1 (List.nodup_cons.1 ok.nodup).2).2
def hh (b : NB) (n : CN) (H : AHeap) (v : AV) (hs : Pairs) : AHeap := (H.upd b.p (oNode n.path n.around n.list n.r (.sl ((locs n.r).map eParam) false) (.map (some b.mi)) v (.map (some b.mh)))).upd b.mh (.mp (hs.map ePr))
theorem Stat.hh {G : Gra} (ok : G.ok) {H : AHeap} (s : Stat G H) {j : Nat} {b : NB} {n : CN} (hb : G.bs[j]? = some b) (hn : G.ns[j]? = some n) (v : AV) (hs : Pairs) : Stat G (Pg.hh b n H v hs) := by
 have ap : ∀ x ∈ b.ids, x ≠ G.gb ∧ x ≠ G.mt := fun x hx => ⟨(ok.apart hb hx).1, (ok.apart hb hx).2.1⟩
 have a1 := ap b.p (by simp [NB.ids])
 have a2 := ap b.mh (by simp [NB.ids])
 have nd := ok.ids_nd
 unfold Pg.hh
 refine ⟨?_, ?_, ?_, ?_⟩
 ·rw [upd_ne _ _ _ a2.1.symm, upd_ne _ _ _ a1.1.symm]; exact s.g
 ·rw [upd_ne _ _ _ a2.2.symm, upd_ne _ _ _ a1.2.symm]; exact s.top
 ·intro i b' n' hb' hn'
  by_cases hij : i = j
  ·subst hij
   rw [hb] at hb'; rw [hn] at hn'; cases hb'; cases hn'
   refine ⟨v, ?_⟩
   rw [upd_ne _ _ _ (ids_one nd hb).2.1, upd_same]
  ·have e1 : b'.p ≠ b.p := fun hh => hij (ids_apart nd hb' hb (x := b'.p) (by simp [NB.ids]) (by simp [NB.ids, hh]))
   have e2 : b'.p ≠ b.mh := fun hh => hij (ids_apart nd hb' hb (x := b'.p) (by simp [NB.ids]) (by simp [NB.ids, hh]))
   rw [upd_ne _ _ _ e2, upd_ne _ _ _ e1]
   exact s.node i b' n' hb' hn'
 ·intro i b' n' hb' hn'
  have e1 : b'.mi ≠ b.p := by
   intro hh
   have := ids_apart nd hb' hb (x := b'.mi) (by simp [NB.ids]) (by simp [NB.ids, hh])
   subst this
   rw [hb] at hb'; cases hb'
   exact (ids_one nd hb).1 hh.symm
  have e2 : b'.mi ≠ b.mh := by
   intro hh
   have := ids_apart nd hb' hb (x := b'.mi) (by simp [NB.ids]) (by simp [NB.ids, hh])
   subst this
   rw [hb] at hb'; cases hb'
   exact (ids_one nd hb).2.2 hh
  rw [upd_ne _ _ _ e2, upd_ne _ _ _ e1]
  exact s.inner i b' n' hb' hn'
theorem hh_mh (b : NB) (n : CN) (H : AHeap) (v : AV) (hs : Pairs) : hh b n H v hs b.mh = some (.mp (hs.map ePr)) := upd_same _ _ _
theorem hh_p {b : NB} (hne : b.p ≠ b.mh) (n : CN) (H : AHeap) (v : AV) (hs : Pairs) : hh b n H v hs b.p = some (oNode n.path n.around n.list n.r (.sl ((locs n.r).map eParam) false) (.map (some b.mi)) v (.map (some b.mh))) := by
 unfold hh; rw [upd_ne _ _ _ hne, upd_same]
theorem hh_set (b : NB) (n : CN) (H : AHeap) (v : AV) (hs hs' : Pairs) : (hh b n H v hs).upd b.mh (.mp (hs'.map ePr)) = hh b n H v hs' := upd_upd _ _ _ _
theorem hh_calls {b : NB} (hne : b.p ≠ b.mh) (n : CN) (H : AHeap) (v v' : AV) (hs : Pairs) : (hh b n H v hs).upd b.p (oNode n.path n.around n.list n.r (.sl ((locs n.r).map eParam) false) (.map (some b.mi)) v' (.map (some b.mh))) = hh b n H v' hs := by
 unfold hh; rw [upd_comm _ _ _ hne.symm, upd_upd]
abbrev iRow (k : Nat) : List AV := [.int .i64 (k : Int)]
theorem hasAt_append (ns : List CN) (j : Nat) (a b : List ByteArray) (hs : Pairs) : hasAt ns j (a ++ b) hs = hasAt ns j b (hasAt ns j a hs) := List.foldl_append ..
theorem callAt_append (ns : List CN) (top : List (ByteArray × Nat)) (j : Nat) (a b : List ByteArray) : callAt ns top j (a ++ b) = callAt ns top j a ++ callAt ns top j b := List.filterMap_append
theorem callEs_at : ∀ (pre : List Expr) (x : Expr), callEs (pre ++ [x]) = callEs pre ++ callE x
 | [], x => by simp [callEs]
 | y :: r, x => by simp only [List.cons_append, callEs]; rw [callEs_at r x, List.append_assoc]
theorem useEs_at : ∀ (pre : List Expr) (x : Expr), useEs (pre ++ [x]) = useEs pre ++ useE x
 | [], x => by simp [useEs]
 | y :: r, x => by simp only [List.cons_append, useEs]; rw [useEs_at r x, List.append_assoc]
theorem callEs_len : ∀ (n : Nat) (l : List Expr), Exprs.sz l ≤ n → (callEs l).length ≤ wEs l
 | n, [], h => by simp [callEs]
 | 0, x :: r, h => by simp [Exprs.sz] at h
 | n + 1, x :: r, h => by
  have hz := Expr.sz_eq x
  simp only [Exprs.sz] at h
  have h1 := callEs_len n x.l (by omega)
  have h2 := callEs_len n r (by omega)
  have hw := wE_eq x
  simp only [callEs, wEs, List.length_append, callE_eq]
  split <;> simp <;> omega
theorem callAt_len (ns : List CN) (top : List (ByteArray × Nat)) (j : Nat) (a : List ByteArray) : (callAt ns top j a).length ≤ a.length := List.length_filterMap_le _ _
theorem wEs_at {l pre post : List Expr} {x : Expr} (h : l = pre ++ x :: post) : wEs l = wEs pre + wE x + wEs post := by
 subst h; rw [wEs_map, wEs_map, wEs_map]; simp; omega
theorem exprs_spec [GI] {G : Gra} (ok : G.ok) {H : AHeap} (s : Stat G H) {j : Nat} {b : NB} {n : CN} (hb : G.bs[j]? = some b) (hn : G.ns[j]? = some n) : ∀ (N : Nat) (l : List Expr), Exprs.sz l < N → few l → (∀ x ∈ l, x.ok) → ∀ (f : Bool) (g : AHeap) (v : AV) (hs : Pairs) (cs : List Nat),
  GL 3 1 (hh b n H v hs) g v (cs.map iRow) → cs.length + wEs l ≤ 274877906944 →
  ACalls prog 144 [.ptr (some ⟨G.gb, 0, none⟩), .int .i64 (j : Int), .sl (l.map eExpr) f] g (fun w g' => w = .tuple [] ∧ ∃ v', GL 3 1 (hh b n H v' (hasAt G.ns j (useEs l) hs)) g' v' ((cs ++ callAt G.ns G.top j (callEs l)).map iRow)) := by
 have nd := ok.ids_nd
 have hne := (ids_one nd hb).2.1
 have hjl : j < G.ns.length := by
  rcases Nat.lt_or_ge j G.ns.length with h | h
  ·exact h
  ·rw [List.getElem?_eq_none h] at hn; cases hn
 intro N
 induction N with
 | zero => intro l h; omega
 | succ N ih =>
  intro l hN hl hok f g v hs cs GG hw
  refine F144.calls (by simp) ?_
  delta F144.c0
  simp -implicitDefEqProofs only [go_sem,seval]
  refine lT_list l (fun pre post e g' => ∃ v', GL 3 1 (hh b n H v' (hasAt G.ns j (useEs pre) hs)) g' v' ((cs ++ callAt G.ns G.top j (callEs pre)).map iRow) ∧ e = [(0, .ptr (some ⟨G.gb, 0, none⟩)), (1, .int .i64 (j : Int)), (10, .sl (l.map eExpr) f), (11, .int .i64 l.length), (12, .int .i64 pre.length)]) (WeakE.env ?_) ⟨v, by simpa [hasAt, callAt, useEs, callEs] using GG, rfl⟩ ?_ ?_
  ·simp -implicitDefEqProofs only [go_sem,seval]
  ·rintro pre x post e g' hp ⟨v', G', rfl⟩
   have hx := mem_at hp
   have hxz := Exprs.sz_mem hx
   have hz := Expr.sz_eq x
   obtain ⟨o1, o2⟩ := (Expr.ok_iff x).1 (hok x hx)
   simp -implicitDefEqProofs only [go_sem,seval, lt_at hp, aia_sl (map_at hp) (eExpr_len x), eExpr_len, expr_take]
   have hww := wEs_at hp
   have hwx := wE_eq x
   have hcl := callEs_len _ pre (Nat.le_refl _)
   have hca := callAt_len G.ns G.top j (callEs pre)
   have sg : Stat G g' := (s.hh ok hb hn v' _).of_le G'.le
   have hmh : g' b.mh = some (.mp ((hasAt G.ns j (useEs pre) hs).map ePr)) := G'.at (hh_mh _ _ _ _ _)
   have hpb := G'.at (hh_p hne _ _ _ _)
   have hsg := sg.g
   have hrow : (G.bs.map pRow)[j]? = some (pRow b) := by simp [hb]
   have key : ∀ (U C : List ByteArray), useE x = U ++ useEs x.l → callE x = C ++ callEs x.l → ∀ v1 g1, GL 3 1 (hh b n H v1 (hasAt G.ns j (useEs pre ++ U) hs)) g1 v1 ((cs ++ callAt G.ns G.top j (callEs pre ++ C)).map iRow) → C.length ≤ 1 → ACalls prog 144 [.ptr (some ⟨G.gb, 0, none⟩), .int .i64 (j : Int), .sl (x.l.map eExpr) false] g1 (fun w g' => w = .tuple [] ∧ ∃ v', GL 3 1 (hh b n H v' (hasAt G.ns j (useEs (pre ++ [x])) hs)) g' v' ((cs ++ callAt G.ns G.top j (callEs (pre ++ [x]))).map iRow)) := by
    intro U C hU hC v1 g1 G1 hlC
    have hcc := callAt_len G.ns G.top j (callEs pre ++ C)
    rw [List.length_append] at hcc
    have h := ih x.l (by omega) o1 o2 false g1 v1 _ _ G1 (by rw [List.length_append]; omega)
    have e1 : hasAt G.ns j (useEs x.l) (hasAt G.ns j (useEs pre ++ U) hs) = hasAt G.ns j (useEs (pre ++ [x])) hs := by rw [← hasAt_append, useEs_at, hU, List.append_assoc]
    have e2 : cs ++ callAt G.ns G.top j (callEs pre ++ C) ++ callAt G.ns G.top j (callEs x.l) = cs ++ callAt G.ns G.top j (callEs (pre ++ [x])) := by rw [List.append_assoc, ← callAt_append, callEs_at, hC, List.append_assoc]
    rw [e1, e2] at h
    exact h
   by_cases hu : x.op = 4 ∨ x.op = 5 ∨ x.op = 6
   ·have hU : useE x = [x.name] ++ useEs x.l := by rw [useE_eq, if_pos hu]
    have hC : callE x = [] ++ callEs x.l := by rw [callE_eq, if_neg (by omega)]
    have G1 := G'.upd (hh_mh _ _ _ _ _) (.mp ((useAt G.ns j (hasAt G.ns j (useEs pre) hs) x.name).map ePr))
    rw [hh_set] at G1
    have K := key _ _ hU hC v' _ (by rw [hasAt_append, List.append_nil]; exact G1) (by simp)
    rcases hu with hu | hu | hu
    all_goals
     simp -implicitDefEqProofs only [go_sem,seval, hu]
     refine tcE (names_spec ok sg hb hmh x.name) ?_
     simp -implicitDefEqProofs only [go_sem,seval, eExpr_len, expr_take]
     refine callT_of K (fun v g5 hg5 => ?_)
     obtain ⟨rfl, v5, G5⟩ := hg5
     simp -implicitDefEqProofs only [go_sem,seval]
     refine ⟨_, _, WeakE.env ?_, v5, G5, rfl⟩
     simp -implicitDefEqProofs only [go_sem,seval, step_at hl hp]
   ·have hu4 : ¬ x.op = 4 := fun h => hu (.inl h)
    have hu5 : ¬ x.op = 5 := fun h => hu (.inr (.inl h))
    have hu6 : ¬ x.op = 6 := fun h => hu (.inr (.inr h))
    have hU : useE x = [] ++ useEs x.l := by rw [useE_eq, if_neg hu]
    by_cases h7 : x.op = 7
    ·have hC : callE x = [x.name] ++ callEs x.l := by rw [callE_eq, if_pos h7]
     simp -implicitDefEqProofs only [go_sem,seval, h7]
     refine tcE (routine_spec13 ok sg hjl x.name) ?_
     cases hr : routAt G.ns G.top x.name (j + 1) j with
     | none =>
      have K := key _ _ hU hC v' g' (by rw [List.append_nil, callAt_append]; simpa [callAt, hr] using G') (by simp)
      simp -implicitDefEqProofs only [go_sem,seval, hr, Option.isSome, eExpr_len, expr_take]
      refine callT_of K (fun v g5 hg5 => ?_)
      obtain ⟨rfl, v5, G5⟩ := hg5
      simp -implicitDefEqProofs only [go_sem,seval]
      refine ⟨_, _, WeakE.env ?_, v5, G5, rfl⟩
      simp -implicitDefEqProofs only [go_sem,seval, step_at hl hp]
     | some k =>
      simp -implicitDefEqProofs only [go_sem,seval, hr, Option.isSome, hsg, aia_sl (size := 1) hrow rfl, hpb]
      refine G'.append1 (xs := iRow k) (bytes := 8) rfl (by unfold roomFor; simp; omega) (fun v1 g1 G1 => ?_)
      have hpb1 := G1.at (hh_p hne _ _ _ _)
      have hsg1 := ((s.hh ok hb hn v' _).of_le G1.le).g
      have hgp := (ok.apart hb (x := b.p) (by simp [NB.ids])).1.symm
      simp -implicitDefEqProofs only [go_sem,seval, hpb1, G1.cells, hsg1, upd_ne _ _ _ hgp]
      have G2 := G1.upd (hh_p hne _ _ _ _) (oNode n.path n.around n.list n.r (.sl ((locs n.r).map eParam) false) (.map (some b.mi)) v1 (.map (some b.mh)))
      rw [hh_calls hne] at G2
      have K := key _ _ hU hC v1 _ (by rw [List.append_nil, callAt_append]; simpa [callAt, hr] using G2) (by simp)
      refine ⟨.inr (by decide), ?_⟩
      refine callT_of K (fun v g5 hg5 => ?_)
      obtain ⟨rfl, v5, G5⟩ := hg5
      simp -implicitDefEqProofs only [go_sem,seval]
      refine ⟨_, _, WeakE.env ?_, v5, G5, rfl⟩
      simp -implicitDefEqProofs only [go_sem,seval, step_at hl hp]
    ·have hC : callE x = [] ++ callEs x.l := by rw [callE_eq, if_neg h7]
     have K := key _ _ hU hC v' g' (by rw [List.append_nil, List.append_nil]; exact G') (by simp)
     simp -implicitDefEqProofs only [go_sem,seval, hu4, hu5, hu6, h7, eExpr_len, expr_take]
     refine callT_of K (fun v g5 hg5 => ?_)
     obtain ⟨rfl, v5, G5⟩ := hg5
     simp -implicitDefEqProofs only [go_sem,seval]
     refine ⟨_, _, WeakE.env ?_, v5, G5, rfl⟩
     simp -implicitDefEqProofs only [go_sem,seval, step_at hl hp]
  ·rintro e g' ⟨v', G', rfl⟩
   simp -implicitDefEqProofs only [go_sem,seval, lt_end]
   refine lessQ.same ?_
   simp -implicitDefEqProofs only [go_sem,seval]
   exact .same ⟨rfl, v', G'⟩
theorem callSs_at : ∀ (pre : List Stmt) (x : Stmt), callSs (pre ++ [x]) = callSs pre ++ callS x
 | [], x => by simp [callSs]
 | y :: r, x => by simp only [List.cons_append, callSs]; rw [callSs_at r x, List.append_assoc]
theorem useSs_at : ∀ (pre : List Stmt) (x : Stmt), useSs (pre ++ [x]) = useSs pre ++ useS x
 | [], x => by simp [useSs]
 | y :: r, x => by simp only [List.cons_append, useSs]; rw [useSs_at r x, List.append_assoc]
theorem callE_len (x : Expr) : (callE x).length ≤ wE x := by
 have := callEs_len _ [x] (Nat.le_refl _)
 simpa [callEs, wEs] using this
theorem callSs_len : ∀ (n : Nat) (l : List Stmt), Stmts.sz l ≤ n → (callSs l).length ≤ wSs l
 | n, [], h => by simp [callSs]
 | 0, x :: r, h => by simp [Stmts.sz] at h
 | n + 1, x :: r, h => by
  have hz := Stmt.sz_eq x
  simp only [Stmts.sz] at h
  have h1 := callSs_len n x.body (by omega)
  have h2 := callSs_len n x.els (by omega)
  have h3 := callSs_len n r (by omega)
  have h4 := callE_len x.p
  have h5 := callEs_len _ x.e (Nat.le_refl _)
  have hw := wS_eq x
  simp only [callSs, wSs, List.length_append, callS_eq]
  omega
theorem wSs_map' : ∀ l, wSs l = (l.map wS).sum
 | [] => by simp [wSs]
 | x :: r => by simp [wSs, wSs_map' r]
theorem wSs_at {l pre post : List Stmt} {x : Stmt} (h : l = pre ++ x :: post) : wSs l = wSs pre + wS x + wSs post := by
 subst h; rw [wSs_map', wSs_map', wSs_map']; simp; omega
theorem stmts_spec13 [GI] {G : Gra} (ok : G.ok) {H : AHeap} (s : Stat G H) {j : Nat} {b : NB} {n : CN} (hb : G.bs[j]? = some b) (hn : G.ns[j]? = some n) : ∀ (N : Nat) (l : List Stmt), Stmts.sz l < N → few l → (∀ x ∈ l, x.ok) → ∀ (f : Bool) (g : AHeap) (v : AV) (hs : Pairs) (cs : List Nat),
    GL 3 1 (hh b n H v hs) g v (cs.map iRow) → cs.length + wSs l ≤ 274877906944 →
    ACalls prog 119 [.ptr (some ⟨G.gb, 0, none⟩), .int .i64 (j : Int), .sl (l.map eStmt) f] g (fun w g' => w = .tuple [] ∧ ∃ v', GL 3 1 (hh b n H v' (hasAt G.ns j (useSs l) hs)) g' v' ((cs ++ callAt G.ns G.top j (callSs l)).map iRow)) := by
  intro N
  induction N with
  | zero => intro l h; omega
  | succ N ih =>
    intro l hN hl hok f g v hs cs GG hw
    refine F119.calls (by simp) ?_
    delta F119.c0
    simp -implicitDefEqProofs only [go_sem,seval]
    refine lT_list l (fun pre post e g' => ∃ v', GL 3 1 (hh b n H v' (hasAt G.ns j (useSs pre) hs)) g' v' ((cs ++ callAt G.ns G.top j (callSs pre)).map iRow) ∧ e = [(0, .ptr (some ⟨G.gb, 0, none⟩)), (1, .int .i64 (j : Int)), (8, .sl (l.map eStmt) f), (9, .int .i64 l.length), (10, .int .i64 pre.length)]) (WeakE.env ?_) ⟨v, by simpa [hasAt, callAt, useSs, callSs] using GG, rfl⟩ ?_ ?_
    · simp -implicitDefEqProofs only [go_sem,seval]
    · rintro pre x post e g' hp ⟨v', G', rfl⟩
      have hx := mem_at hp
      have hxz := Stmts.sz_mem hx
      have hz := Stmt.sz_eq x
      have hok' := (Stmt.ok_iff x).1 (hok x hx)
      have hww := wSs_at hp
      have hwx := wS_eq x
      have hcl := callSs_len _ pre (Nat.le_refl _)
      have hc1 := callE_len x.p
      have hc2 := callEs_len _ x.e (Nat.le_refl _)
      have hc3 := callSs_len _ x.body (Nat.le_refl _)
      have sg : Stat G g' := (s.hh ok hb hn v' _).of_le G'.le
      have hmh : g' b.mh = some (.mp ((hasAt G.ns j (useSs pre) hs).map ePr)) := G'.at (hh_mh _ _ _ _ _)
      have hP : ((eStmt x).drop 4).take 5 = eExpr x.p := by rw [eStmt_eq, eExpr_eq]; rfl
      have hlit : ∀ z : Expr, [eExpr z] = [z].map eExpr := fun z => rfl
      by_cases h6 : x.op = 6
      all_goals
        first
        | (have G1 := G'.upd (hh_mh _ _ _ _ _) (.mp ((useAt G.ns j (hasAt G.ns j (useSs pre) hs) x.name).map ePr))
           rw [hh_set] at G1
           have hU : (if x.op = 6 then [x.name] else []) = [x.name] := if_pos h6
           have hh1 : useAt G.ns j (hasAt G.ns j (useSs pre) hs) x.name = hasAt G.ns j (useSs pre ++ [x.name]) hs := by rw [hasAt_append]; rfl
           simp -implicitDefEqProofs only [go_sem,seval, lt_at hp, aia_sl (map_at hp) (eStmt_len x), eStmt_len, stmt_take, h6]
           refine tcE (names_spec ok sg hb hmh x.name) ?_
           simp -implicitDefEqProofs only [go_sem,seval, hP, eExpr_len, splice_same])
        | (have G1 := G'
           have hU : (if x.op = 6 then [x.name] else []) = [] := if_neg h6
           have hh1 : hasAt G.ns j (useSs pre) hs = hasAt G.ns j (useSs pre ++ []) hs := by rw [List.append_nil]
           simp -implicitDefEqProofs only [go_sem,seval, lt_at hp, aia_sl (map_at hp) (eStmt_len x), eStmt_len, stmt_take, h6, hP, eExpr_len, splice_same])
        rw [hh1] at G1
        try rw [hh1]
        have ca0 := callAt_len G.ns G.top j (callSs pre)
        have ca1 := callAt_len G.ns G.top j (callEs [x.p])
        have ca2 := callAt_len G.ns G.top j (callEs x.e)
        have ca3 := callAt_len G.ns G.top j (callSs x.body)
        have hp1 : callEs [x.p] = callE x.p := by simp [callEs]
        have hwp : wEs [x.p] = wE x.p := by simp [wEs]
        rw [hp1] at ca1
        refine callT_of (exprs_spec ok s hb hn _ [x.p] (Nat.lt_succ_self _) (by unfold few; simp) (by simpa using hok'.2.2.1) true _ _ _ (cs ++ callAt G.ns G.top j (callSs pre)) G1 (by rw [List.length_append, hwp]; omega)) (fun v g5 hg5 => ?_)
        obtain ⟨rfl, v2, G2⟩ := hg5
        simp -implicitDefEqProofs only [go_sem,seval]
        refine callT_of (exprs_spec ok s hb hn _ x.e (Nat.lt_succ_self _) hok'.2.2.2.1 hok'.2.2.2.2.1 false _ _ _ (cs ++ callAt G.ns G.top j (callSs pre) ++ callAt G.ns G.top j (callEs [x.p])) G2 (by rw [List.length_append, List.length_append, hp1]; omega)) (fun v g5 hg5 => ?_)
        obtain ⟨rfl, v3, G3⟩ := hg5
        simp -implicitDefEqProofs only [go_sem,seval]
        refine callT_of (ih x.body (by omega) hok'.2.2.2.2.2.1 hok'.2.2.2.2.2.2.1 false _ _ _ (cs ++ callAt G.ns G.top j (callSs pre) ++ callAt G.ns G.top j (callEs [x.p]) ++ callAt G.ns G.top j (callEs x.e)) G3 (by simp only [List.length_append, hp1]; omega)) (fun v g5 hg5 => ?_)
        obtain ⟨rfl, v4, G4⟩ := hg5
        simp -implicitDefEqProofs only [go_sem,seval]
        refine callT_of (ih x.els (by omega) hok'.2.2.2.2.2.2.2.1 hok'.2.2.2.2.2.2.2.2.1 false _ _ _ (cs ++ callAt G.ns G.top j (callSs pre) ++ callAt G.ns G.top j (callEs [x.p]) ++ callAt G.ns G.top j (callEs x.e) ++ callAt G.ns G.top j (callSs x.body)) G4 (by simp only [List.length_append, hp1]; omega)) (fun v g5 hg5 => ?_)
        obtain ⟨rfl, v5, G5⟩ := hg5
        simp -implicitDefEqProofs only [go_sem,seval]
        refine ⟨_, _, WeakE.env ?_, v5, ?_, rfl⟩
        · simp -implicitDefEqProofs only [go_sem,seval, step_at hl hp]
        · have e1 : hasAt G.ns j (useSs x.els) (hasAt G.ns j (useSs x.body) (hasAt G.ns j (useEs x.e) (hasAt G.ns j (useEs [x.p]) (hasAt G.ns j (useSs pre ++ (if x.op = 6 then [x.name] else [])) hs)))) = hasAt G.ns j (useSs (pre ++ [x])) hs := by
            simp only [← hasAt_append]
            rw [useSs_at, useS_eq]
            simp [useEs]
          have e2 : cs ++ callAt G.ns G.top j (callSs pre) ++ callAt G.ns G.top j (callEs [x.p]) ++ callAt G.ns G.top j (callEs x.e) ++ callAt G.ns G.top j (callSs x.body) ++ callAt G.ns G.top j (callSs x.els) = cs ++ callAt G.ns G.top j (callSs (pre ++ [x])) := by
            simp only [List.append_assoc, ← callAt_append]
            rw [callSs_at, callS_eq, hp1]
            simp [callAt_append]
          rw [hU] at e1
          rw [e1, e2] at G5
          exact G5
    · rintro e g' ⟨v', G', rfl⟩
      simp -implicitDefEqProofs only [go_sem,seval, lt_end]
      refine lessQ.same ?_
      simp -implicitDefEqProofs only [go_sem,seval]
      exact .same ⟨rfl, v', G'⟩
end Pg
namespace Pg
open Go Go.Proofs.Tryz
def Gra.cs0 (G : Gra) (i : Nat) : List Nat := match G.ns[i]? with | some n => callAt G.ns G.top i (callSs n.r.body) | none => []
def Gra.hs0 (G : Gra) (i : Nat) : Pairs := match G.ns[i]? with | some n => hasAt G.ns i (useSs n.r.body) [] | none => []
inductive Caps (G : Gra) : Nat → Nat × Nat → Prop
 | use {i : Nat} {x : Nat × Nat} (h : x ∈ G.hs0 i) : Caps G i x
 | call {i k : Nat} {x : Nat × Nat} (hk : k ∈ G.cs0 i) (h : Caps G k x) (hx : x.1 ≠ i) : Caps G i x
structure Full (G : Gra) (hf : Nat → Pairs) (h : AHeap) : Prop where
 g : h G.gb = some (gBlk (.sl (G.bs.map pRow) false) (.map (some G.mt)))
 top : h G.mt = some (.mp (G.top.map eIx))
 node : ∀ (i : Nat) b n, G.bs[i]? = some b → G.ns[i]? = some n → h b.p = some (oNode n.path n.around n.list n.r (.sl ((locs n.r).map eParam) false) (.map (some b.mi)) (.sl ((G.cs0 i).map iRow) false) (.map (some b.mh)))
 inner : ∀ (i : Nat) b n, G.bs[i]? = some b → G.ns[i]? = some n → h b.mi = some (.mp (n.inner.map eIx))
 has : ∀ (i : Nat) b, G.bs[i]? = some b → h b.mh = some (.mp ((hf i).map ePr))
def setAt (hf : Nat → Pairs) (i : Nat) (hs : Pairs) : Nat → Pairs := fun k => if k = i then hs else hf k
theorem Full.of_le {G : Gra} {hf : Nat → Pairs} {h g : AHeap} (s : Full G hf h) (le : h.le g) : Full G hf g :=
 ⟨le _ _ s.g, le _ _ s.top, fun i b n hb hn => le _ _ (s.node i b n hb hn), fun i b n hb hn => le _ _ (s.inner i b n hb hn), fun i b hb => le _ _ (s.has i b hb)⟩
theorem Full.set {G : Gra} (ok : G.ok) {hf : Nat → Pairs} {h : AHeap} (s : Full G hf h) {i : Nat} {b : NB} (hb : G.bs[i]? = some b) (hs : Pairs) : Full G (setAt hf i hs) (h.upd b.mh (.mp (hs.map ePr))) := by
 have nd := ok.ids_nd
 have a2 := ok.apart hb (x := b.mh) (by simp [NB.ids])
 have one : ∀ {k : Nat} {b' : NB}, G.bs[k]? = some b' → b'.p ≠ b.mh ∧ b'.mi ≠ b.mh := by
  intro k b' hb'
  refine ⟨fun hh => ?_, fun hh => ?_⟩
  ·have := ids_apart nd hb' hb (x := b'.p) (by simp [NB.ids]) (by simp [NB.ids, hh])
   subst this
   rw [hb] at hb'; cases hb'
   exact (ids_one nd hb).2.1 hh
  ·have := ids_apart nd hb' hb (x := b'.mi) (by simp [NB.ids]) (by simp [NB.ids, hh])
   subst this
   rw [hb] at hb'; cases hb'
   exact (ids_one nd hb).2.2 hh
 refine ⟨?_, ?_, ?_, ?_, ?_⟩
 ·rw [upd_ne _ _ _ a2.1.symm]; exact s.g
 ·rw [upd_ne _ _ _ a2.2.1.symm]; exact s.top
 ·intro k b' n' hb' hn'
  rw [upd_ne _ _ _ (one hb').1]; exact s.node k b' n' hb' hn'
 ·intro k b' n' hb' hn'
  rw [upd_ne _ _ _ (one hb').2]; exact s.inner k b' n' hb' hn'
 ·intro k b' hb'
  by_cases hk : k = i
  ·subst hk
   rw [hb] at hb'; cases hb'
   rw [upd_same]; simp [setAt]
  ·have : b'.mh ≠ b.mh := fun hh => hk (ids_apart nd hb' hb (x := b'.mh) (by simp [NB.ids]) (by simp [NB.ids, hh]))
   rw [upd_ne _ _ _ this, s.has k b' hb']
   simp [setAt, hk]
def GKeeps (G : Gra) (h g : AHeap) : Prop := ∀ x o, h x = some o → x ∉ ids G.bs → g x = some o
theorem GKeeps.refl (G : Gra) (h : AHeap) : GKeeps G h h := fun _ _ e _ => e
theorem GKeeps.trans {G : Gra} {h g k : AHeap} (a : GKeeps G h g) (b : GKeeps G g k) : GKeeps G h k := fun x o e n => b x o (a x o e n) n
theorem GKeeps.of_le {G : Gra} {h g k : AHeap} (a : GKeeps G h g) (le : g.le k) : GKeeps G h k := fun x o e n => le x o (a x o e n)
theorem GKeeps.upd {G : Gra} {h g : AHeap} (a : GKeeps G h g) {p : Nat} (hp : p ∈ ids G.bs) (o : AObj) : GKeeps G h (g.upd p o) := fun x o' e n => by
 have : x ≠ p := by intro hh; subst hh; exact n hp
 rw [upd_ne _ _ _ this]; exact a x o' e n
theorem cnt_le {α : Type} {p q : α → Bool} (h : ∀ x, q x = true → p x = true) : ∀ l : List α, l.countP q ≤ l.countP p
 | [] => by simp
 | x :: r => by
  have := cnt_le h r
  simp only [List.countP_cons]
  have := h x
  cases hq : q x <;> cases hp : p x <;> simp_all <;> omega
theorem cnt_lt {α : Type} {p q : α → Bool} (h : ∀ x, q x = true → p x = true) : ∀ {l : List α} {x : α}, x ∈ l → p x = true → q x = false → l.countP q < l.countP p
 | y :: r, x, hx, hp, hq => by
  simp only [List.countP_cons]
  rcases List.mem_cons.1 hx with rfl | hx
  ·have := cnt_le h r
   simp [hp, hq]; omega
  ·have := cnt_lt h hx hp hq
   have := h y
   cases hq' : q y <;> cases hp' : p y <;> simp_all <;> omega
def Gra.pairs (G : Gra) : Pairs := (List.range G.ns.length).flatMap fun i => match G.ns[i]? with | some n => (List.range (locs n.r).length).map fun k => (i, k) | none => []
def Gra.triples (G : Gra) : List (Nat × (Nat × Nat)) := (List.range G.ns.length).flatMap fun i => G.pairs.map fun x => (i, x)
def Gra.missing (G : Gra) (hf : Nat → Pairs) : Nat := G.triples.countP fun t => decide (t.2 ∉ hf t.1)
theorem hadd_mem {hs : Pairs} {x y : Nat × Nat} : y ∈ hadd hs x ↔ y ∈ hs ∨ y = x := by
 unfold hadd
 split
 ·rename_i h
  exact ⟨.inl, fun k => k.elim id fun e => e ▸ h⟩
 ·simp
theorem missing_lt {G : Gra} {hf : Nat → Pairs} {i : Nat} {x : Nat × Nat} (hi : i < G.ns.length) (hx : x ∈ G.pairs) (hn : x ∉ hf i) : G.missing (setAt hf i (hadd (hf i) x)) < G.missing hf := by
 unfold Gra.missing
 refine cnt_lt ?_ (x := (i, x)) ?_ ?_ ?_
 ·rintro ⟨k, y⟩ hk
  simp only [decide_eq_true_eq] at hk ⊢
  intro hh
  apply hk
  unfold setAt
  split
  ·rename_i h; subst h; exact hadd_mem.2 (.inl hh)
  ·exact hh
 ·exact List.mem_flatMap.2 ⟨i, List.mem_range.2 hi, List.mem_map.2 ⟨x, hx, rfl⟩⟩
 ·simpa using hn
 ·simp [setAt, hadd_mem]
structure Fair (G : Gra) (hf : Nat → Pairs) : Prop where
 least : ∀ i x, x ∈ hf i → Caps G i x
 most : ∀ i x, x ∈ G.hs0 i → x ∈ hf i
 small : ∀ i x, x ∈ hf i → x ∈ G.pairs
def Shut (G : Gra) (hf : Nat → Pairs) (i : Nat) (l : List Nat) : Prop := ∀ k ∈ l, ∀ x ∈ hf k, x.1 = i ∨ x ∈ hf i
theorem Fair.add {G : Gra} {hf : Nat → Pairs} (f : Fair G hf) {i k : Nat} {x : Nat × Nat} (hk : k ∈ G.cs0 i) (hx : x ∈ hf k) (hn : x.1 ≠ i) : Fair G (setAt hf i (hadd (hf i) x)) := by
 refine ⟨fun m y hy => ?_, fun m y hy => ?_, fun m y hy => ?_⟩
 ·unfold setAt at hy
  split at hy
  ·rename_i h; subst h
   rcases hadd_mem.1 hy with hy | rfl
   ·exact f.least _ _ hy
   ·exact .call hk (f.least _ _ hx) hn
  ·exact f.least _ _ hy
 ·unfold setAt
  split
  ·rename_i h; subst h; exact hadd_mem.2 (.inl (f.most _ _ hy))
  ·exact f.most _ _ hy
 ·unfold setAt at hy
  split at hy
  ·rename_i h; subst h
   rcases hadd_mem.1 hy with hy | rfl
   ·exact f.small _ _ hy
   ·exact f.small _ _ hx
  ·exact f.small _ _ hy
theorem Fair.caps {G : Gra} {hf : Nat → Pairs} (f : Fair G hf) (hl : ∀ i, ∀ k ∈ G.cs0 i, k < G.ns.length) (sh : ∀ i < G.ns.length, Shut G hf i (G.cs0 i)) {i : Nat} {x : Nat × Nat} (hi : i < G.ns.length) : x ∈ hf i ↔ Caps G i x := by
 refine ⟨f.least i x, fun c => ?_⟩
 revert hi
 induction c with
 | use h => exact fun _ => f.most _ _ h
 | call hk h hx ih =>
  intro hi
  rcases sh _ hi _ hk _ (ih (hl _ _ hk)) with e | e
  ·exact absurd e hx
  ·exact e
theorem rngT_of {h : AHeap} {m : Nat} {es : List (AV × AV)} {K : AV → AHeap → Tok → Prop} (hm : h m = some (.mp es))
  (k : ∀ (bs : List Nat) (clock : Nat), bs.length = es.length → bs.Nodup → (∀ s ∈ bs, s < clock) → ∀ b, h b = none → K (.ptr (some ⟨b, 0, none⟩)) ((h.upd m (.mpc es bs clock)).upd b (.it (some m) clock [] clock)) .go) : rngT .go h (.map (some m)) K := by
 unfold rngT arng
 simp only [hm]
 exact fun bs clock h1 h2 h3 => fun b hb => k bs clock h1 h2 h3 b hb
theorem nxtT_of {h : AHeap} {b m since last clock : Nat} {seen bs : List Nat} {es : List (AV × AV)} {K : AV → AHeap → Tok → Prop} (hb : h b = some (.it (some m) since seen last)) (hm : h m = some (.mpc es bs clock)) (h1 : ∀ s ∈ bs, s < since) (h2 : since ≤ last)
  (k1 : ∀ (i : Nat) (e : AV × AV) (s : Nat), es[i]? = some e → bs[i]? = some s → s ∉ seen → K (.tuple [.bool true, e.1, e.2]) (h.upd b (.it (some m) since (seen ++ [s]) clock)) .go) (k2 : (∀ s ∈ bs, s ∈ seen) → K (.tuple [.bool false]) h .go) : nxtT .go h (.ptr (some ⟨b, 0, none⟩)) K := by
 unfold nxtT anxt
 simp only [hb, hm]
 exact ⟨h1, h2, k1, k2⟩
theorem entryAt_of : ∀ {es : List (AV × AV)} {bs : List Nat} {i : Nat} {e : AV × AV} {s : Nat}, es[i]? = some e → bs[i]? = some s → bs.Nodup → entryAt es bs s = some e
 | [], bs, i, e, s, h1, _, _ => by simp at h1
 | _ :: _, [], i, e, s, _, h2, _ => by simp at h2
 | x :: es, b :: bs, 0, e, s, h1, h2, _ => by
  simp only [List.getElem?_cons_zero, Option.some.injEq] at h1 h2
  subst h1 h2
  simp [entryAt]
 | x :: es, b :: bs, i + 1, e, s, h1, h2, nd => by
  simp only [List.getElem?_cons_succ] at h1 h2
  have n2 := List.nodup_cons.1 nd
  have : b ≠ s := fun hh => n2.1 (hh ▸ List.mem_of_getElem? h2)
  simp only [entryAt, this, if_false]
  exact entryAt_of h1 h2 n2.2
theorem nodup_idx : ∀ {l : List Nat} {i j s : Nat}, l.Nodup → l[i]? = some s → l[j]? = some s → i = j
 | [], i, j, s, _, h, _ => by simp at h
 | x :: l, 0, 0, s, _, _, _ => rfl
 | x :: l, 0, j + 1, s, nd, h1, h2 => by
  simp only [List.getElem?_cons_zero, Option.some.injEq, List.getElem?_cons_succ] at h1 h2
  subst h1
  exact absurd (List.mem_of_getElem? h2) (List.nodup_cons.1 nd).1
 | x :: l, i + 1, 0, s, nd, h1, h2 => by
  simp only [List.getElem?_cons_zero, Option.some.injEq, List.getElem?_cons_succ] at h1 h2
  subst h2
  exact absurd (List.mem_of_getElem? h1) (List.nodup_cons.1 nd).1
 | x :: l, i + 1, j + 1, s, nd, h1, h2 => by
  simp only [List.getElem?_cons_succ] at h1 h2
  rw [nodup_idx (List.nodup_cons.1 nd).2 h1 h2]
structure Prog (G : Gra) (more : Bool) (hf hf' : Nat → Pairs) : Prop where
 stay : more = false → hf' = hf
 less : more = true → G.missing hf' < G.missing hf
structure Gra.ok2 (G : Gra) : Prop extends ok1 : G.ok where
 calls : ∀ i, ∀ k ∈ G.cs0 i, k < G.ns.length
 fewCalls : ∀ i, (G.cs0 i).length ≤ 1099511627776
theorem close_spec [GI] {G : Gra} (ok : G.ok2) {h : AHeap} {hf0 : Nat → Pairs} (s0 : Full G hf0 h) (f0 : Fair G hf0) :
  ACalls prog 120 [.ptr (some ⟨G.gb, 0, none⟩)] h (fun v g => v = .tuple [] ∧ ∃ hf, Full G hf g ∧ Fair G hf ∧ GKeeps G h g ∧ ∀ i < G.ns.length, Shut G hf i (G.cs0 i)) := by
 have nd := ok.ids_nd
 have hroom := ok.room
 have hlenb := ok.len
 refine F120.calls (by simp) ?_
 delta F120.c0
 simp -implicitDefEqProofs only [go_sem,seval]
 refine lT_inv2 (fun m e g => ∃ more hf, m = (if more then G.missing hf + 1 else 0) ∧ Full G hf g ∧ Fair G hf ∧ GKeeps G h g ∧ (more = false → ∀ i < G.ns.length, Shut G hf i (G.cs0 i)) ∧ e = [(0, .ptr (some ⟨G.gb, 0, none⟩)), (2, .bool more)]) (G.missing hf0 + 1) (WeakE.env ?_) ⟨true, hf0, rfl, s0, f0, GKeeps.refl G h, by simp, rfl⟩ ?_
 ·simp -implicitDefEqProofs only [go_sem,seval]
 ·rintro m e g ⟨more, hf, rfl, s, f, kp, sh, rfl⟩
  have hsg := s.g
  cases more with
  | false =>
   simp -implicitDefEqProofs only [go_sem,seval]
   refine lessQ.same ?_
   simp -implicitDefEqProofs only [go_sem,seval]
   exact .same ⟨rfl, hf, s, f, kp, sh rfl⟩
  | true =>
   simp -implicitDefEqProofs only [go_sem,seval, hsg]
   refine lT_list G.bs (fun pre post e g' => ∃ more hf', Full G hf' g' ∧ Fair G hf' ∧ GKeeps G h g' ∧ Prog G more hf hf' ∧ (more = false → ∀ i < pre.length, Shut G hf' i (G.cs0 i)) ∧ e = [(0, .ptr (some ⟨G.gb, 0, none⟩)), (2, .bool more), (12, .sl (G.bs.map pRow) false), (13, .int .i64 G.bs.length), (14, .int .i64 pre.length)]) (WeakE.env ?_) ⟨false, hf, s, f, kp, ⟨fun _ => rfl, by simp⟩, by simp, rfl⟩ ?_ ?_
   ·simp -implicitDefEqProofs only [go_sem,seval]
   ·rintro pre b post e g' hp ⟨more, hf', s', f', kp', pr', sh', rfl⟩
    have hbi := (at_pre hp).1
    have hil := (at_pre hp).2
    obtain ⟨n, hn⟩ : ∃ n, G.ns[pre.length]? = some n := ⟨_, List.getElem?_eq_getElem (by omega)⟩
    have hnode := s'.node _ b n hbi hn
    have hrowb : (G.bs.map pRow)[pre.length]? = some (pRow b) := map_at hp
    simp -implicitDefEqProofs only [go_sem,seval, lt_at hp, aia_sl (size := 1) hrowb rfl, hnode]
    refine lT_list (G.cs0 pre.length) (fun preB postB e g' => ∃ more hf', Full G hf' g' ∧ Fair G hf' ∧ GKeeps G h g' ∧ Prog G more hf hf' ∧ (more = false → ∀ i < pre.length, Shut G hf' i (G.cs0 i)) ∧ (more = false → Shut G hf' pre.length preB) ∧ e = [(0, .ptr (some ⟨G.gb, 0, none⟩)), (2, .bool more), (3, .int .i64 pre.length), (4, .ptr (some ⟨b.p, 0, none⟩)), (12, .sl (G.bs.map pRow) false), (13, .int .i64 G.bs.length), (14, .int .i64 pre.length), (22, .sl ((G.cs0 pre.length).map iRow) false), (23, .int .i64 (G.cs0 pre.length).length), (24, .int .i64 preB.length)]) (WeakE.env ?_) ⟨more, hf', s', f', kp', pr', sh', fun _ k hk => by simp at hk, rfl⟩ ?_ ?_
    ·simp -implicitDefEqProofs only [go_sem,seval]
    ·rintro preB k postB e g2 hpB ⟨more, hf2, s2, f2, kp2, pr2, sh2, sd2, rfl⟩
     have hkc := mem_at hpB
     have hkl := ok.calls _ k hkc
     obtain ⟨nk, hnk⟩ : ∃ n, G.ns[k]? = some n := ⟨_, List.getElem?_eq_getElem hkl⟩
     obtain ⟨bk, hbk⟩ : ∃ b, G.bs[k]? = some b := ⟨_, List.getElem?_eq_getElem (by omega)⟩
     have hnodek := s2.node k bk nk hbk hnk
     have hrowk : (G.bs.map pRow)[k]? = some (pRow bk) := by simp [hbk]
     have hrowc : ((G.cs0 pre.length).map iRow)[preB.length]? = some (iRow k) := map_at hpB
     have hsg2 := s2.g
     have hmk := s2.has k bk hbk
     simp -implicitDefEqProofs only [go_sem,seval, lt_at hpB, aia_sl (size := 1) hrowc rfl, hsg2, aia_sl (size := 1) hrowk rfl, hnodek]
     refine rngT_of hmk fun st ck hst hnd hlt it hit => ?_
     simp -implicitDefEqProofs only [go_sem,seval]
     generalize hhk : hf2 k = hk at hst hmk
     refine lT_inv2 (fun m e g3 => ∃ more hf3 g0 seen, m = (st.filter (fun s => decide (s ∉ seen))).length ∧ Full G hf3 g0 ∧ Fair G hf3 ∧ GKeeps G h g0 ∧ Prog G more hf hf3 ∧ (more = false → ∀ i < pre.length, Shut G hf3 i (G.cs0 i)) ∧ (more = false → Shut G hf3 pre.length preB) ∧ (more = false → ∀ (j : Nat) (x : Nat × Nat) (s : Nat), hk[j]? = some x → st[j]? = some s → s ∈ seen → x.1 = pre.length ∨ x ∈ hf3 pre.length) ∧ hf3 k = hk ∧ g0 it = none ∧ g3 = (g0.upd bk.mh (.mpc (hk.map ePr) st ck)).upd it (.it (some bk.mh) ck seen ck) ∧ e = [(0, .ptr (some ⟨G.gb, 0, none⟩)), (2, .bool more), (3, .int .i64 pre.length), (4, .ptr (some ⟨b.p, 0, none⟩)), (12, .sl (G.bs.map pRow) false), (13, .int .i64 G.bs.length), (14, .int .i64 pre.length), (22, .sl ((G.cs0 pre.length).map iRow) false), (23, .int .i64 (G.cs0 pre.length).length), (24, .int .i64 preB.length), (38, .ptr (some ⟨it, 0, none⟩))]) (st.filter (fun s => decide (s ∉ ([] : List Nat)))).length (WeakE.env ?_) ⟨more, hf2, g2, [], rfl, s2, f2, kp2, pr2, sh2, sd2, fun _ _ _ _ _ _ hh => by simp at hh, hhk, hit, rfl, rfl⟩ ?_
     ·simp -implicitDefEqProofs only [go_sem,seval]
     ·clear s2 f2 kp2 pr2 sh2 sd2 hnodek hsg2 hmk hhk hit
      rintro m e g3 ⟨more, hf3, g0, seen, rfl, s3, f3, kp3, pr3, sh3, sd3, pc3, hhk, hit, rfl, rfl⟩
      have hmk := s3.has k bk hbk
      rw [hhk] at hmk
      have hne1 := none_ne hit hmk
      have hit3 : ((g0.upd bk.mh (.mpc (hk.map ePr) st ck)).upd it (.it (some bk.mh) ck seen ck)) it = some (.it (some bk.mh) ck seen ck) := upd_same _ _ _
      have hmk3 : ∀ o, ((g0.upd bk.mh (.mpc (hk.map ePr) st ck)).upd it o) bk.mh = some (.mpc (hk.map ePr) st ck) := fun o => by rw [upd_ne _ _ _ hne1, upd_same]
      have hx3 := s3.node _ b n hbi hn
      have hmi := s3.has _ b hbi
      have hp1 := none_ne hit hx3
      have hp2 : b.p ≠ bk.mh := fun hh => by
       have := ids_apart nd hbi hbk (x := b.p) (by simp [NB.ids]) (by simp [NB.ids, hh])
       subst this
       rw [hbi] at hbk; cases hbk
       exact (ids_one nd hbi).2.1 hh
      have hmh1 := none_ne hit hmi
      have hx4 : ∀ o, ((g0.upd bk.mh (.mpc (hk.map ePr) st ck)).upd it o) b.p = g0 b.p := fun o => by rw [upd_ne _ _ _ hp1, upd_ne _ _ _ hp2]
      have ham : ∀ o, amapOf ((g0.upd bk.mh (.mpc (hk.map ePr) st ck)).upd it o) (.map (some b.mh)) = some ((hf3 pre.length).map ePr) := fun o => by
       by_cases hki : k = pre.length
       ·subst hki
        rw [hbi] at hbk; cases hbk
        unfold amapOf
        simp only [hmk3, hhk]
       ·have : b.mh ≠ bk.mh := fun hh => hki (ids_apart nd hbk hbi (x := bk.mh) (by simp [NB.ids]) (by simp [NB.ids, hh]))
        unfold amapOf
        simp only [upd_ne _ _ _ hmh1, upd_ne _ _ _ this, hmi]
      simp -implicitDefEqProofs only [go_sem,seval]
      refine nxtT_of hit3 (hmk3 _) hlt (Nat.le_refl _) (fun j e s hj hs hns => ?_) (fun hall => ?_)
      ·rw [upd_upd]
       obtain ⟨x, hxj, rfl⟩ : ∃ x, hk[j]? = some x ∧ ePr x = e := by
        rw [List.getElem?_map] at hj
        cases hh : hk[j]? with
        | none => rw [hh] at hj; cases hj
        | some x => rw [hh] at hj; exact ⟨x, rfl, by simpa using hj⟩
       have hgl : (seen ++ [s]).getLast? = some s := by simp
       have haf : ∀ hs : Pairs, afind [3, 1, 1] (.agg [.int .i64 x.1, .int .i64 x.2]) (hs.map ePr) = some (if x ∈ hs then some (.bool true) else none) := afind_pair x
       have hkf : keyFits [3, 1, 1] (.agg [.int .i64 x.1, .int .i64 x.2]) = true := rfl
       have hmeas : (st.filter (fun s' => decide (s' ∉ seen ++ [s]))).length < (st.filter (fun s => decide (s ∉ seen))).length := by
        rw [← List.countP_eq_length_filter, ← List.countP_eq_length_filter]
        refine cnt_lt ?_ (List.mem_of_getElem? hs) (by simpa using hns) (by simp)
        intro y hy
        simp only [List.mem_append, not_or, decide_eq_true_eq] at hy ⊢
        exact hy.1
       simp -implicitDefEqProofs only [go_sem,seval, hmk3, hgl, entryAt_of hj hs hnd, ePr, ePk]
       by_cases hxi : x.1 = pre.length
       ·have hxi' : ((x.1 : Int) = (pre.length : Int)) = True := by simp [hxi]
        simp -implicitDefEqProofs only [go_sem,seval, hxi']
        refine lessI.to _ _ _ hmeas (WeakE.env ?_) ⟨more, hf3, g0, seen ++ [s], rfl, s3, f3, kp3, pr3, sh3, sd3, ?_, hhk, hit, rfl, rfl⟩
        ·simp -implicitDefEqProofs only [go_sem,seval]
        ·intro hm j' x' s' h1 h2 h3
         rcases List.mem_append.1 h3 with h3 | h3
         ·exact pc3 hm j' x' s' h1 h2 h3
         ·simp only [List.mem_cons, List.not_mem_nil, or_false] at h3
          subst h3
          have := nodup_idx hnd h2 hs
          subst this
          rw [hxj] at h1; cases h1
          exact .inl hxi
       ·have hxi' : ((x.1 : Int) = (pre.length : Int)) = False := by simp; omega
        by_cases hxm : x ∈ hf3 pre.length
        ·simp -implicitDefEqProofs only [go_sem,seval, hxi', hx4, hx3, alookup, hkf, ham, haf, hxm]
         refine lessI.to _ _ _ hmeas (WeakE.env ?_) ⟨more, hf3, g0, seen ++ [s], rfl, s3, f3, kp3, pr3, sh3, sd3, ?_, hhk, hit, rfl, rfl⟩
         ·simp -implicitDefEqProofs only [go_sem,seval]
         ·intro hm j' x' s' h1 h2 h3
          rcases List.mem_append.1 h3 with h3 | h3
          ·exact pc3 hm j' x' s' h1 h2 h3
          ·simp only [List.mem_cons, List.not_mem_nil, or_false] at h3
           subst h3
           have := nodup_idx hnd h2 hs
           subst this
           rw [hxj] at h1; cases h1
           exact .inr hxm
        ·simp -implicitDefEqProofs only [go_sem,seval, hxi', hx4, hx3, alookup, hkf, ham, haf, hxm]
         have hki : k ≠ pre.length := by
          intro hh
          apply hxm
          rw [← hh, hhk]
          exact List.mem_of_getElem? hxj
         have hmm : b.mh ≠ bk.mh := fun hh => hki (ids_apart nd hbk hbi (x := bk.mh) (by simp [NB.ids]) (by simp [NB.ids, hh]))
         have hmi4 : ∀ o, ((g0.upd bk.mh (.mpc (hk.map ePr) st ck)).upd it o) b.mh = some (.mp ((hf3 pre.length).map ePr)) := fun o => by rw [upd_ne _ _ _ hmh1, upd_ne _ _ _ hmm]; exact hmi
         refine mapupT_of (hmi4 _) (aset_pair x (hf3 pre.length)) rfl ?_
         simp -implicitDefEqProofs only [go_sem,seval]
         rw [upd_comm _ _ _ hmh1.symm, upd_comm _ _ _ hmm.symm]
         have hki' : setAt hf3 pre.length (hadd (hf3 pre.length) x) k = hk := by simp [setAt, hki, hhk]
         have hxk : x ∈ hf3 k := by rw [hhk]; exact List.mem_of_getElem? hxj
         have hmiss := missing_lt (G := G) (hf := hf3) (i := pre.length) (x := x) (by omega) (f3.small _ _ hxk) hxm
         refine ⟨.inr (by decide), ?_⟩
         refine lessI.to _ _ _ hmeas (WeakE.env ?_) ⟨true, setAt hf3 pre.length (hadd (hf3 pre.length) x), g0.upd b.mh (.mp ((hadd (hf3 pre.length) x).map ePr)), seen ++ [s], rfl, s3.set ok.ok1 hbi _, f3.add hkc hxk hxi, kp3.upd (ids_mem hbi (by simp [NB.ids])) _, ⟨by simp, fun _ => ?_⟩, by simp, by simp, by simp, hki', by rw [upd_ne _ _ _ hmh1.symm]; exact hit, rfl, rfl⟩
         ·simp -implicitDefEqProofs only [go_sem,seval]
         ·cases more with
          | false => rw [pr3.stay rfl] at hmiss ⊢; exact hmiss
          | true => exact Nat.lt_trans hmiss (pr3.less rfl)
      ·simp -implicitDefEqProofs only [go_sem,seval]
       refine lessQ.same ?_
       simp -implicitDefEqProofs only [go_sem,seval]
       have hle : HeapLe ((g0.upd bk.mh (.mpc (hk.map ePr) st ck)).upd it (.it (some bk.mh) ck seen ck)) g0 := by
        intro y o ho
        have hy := none_ne hit ho
        rw [upd_ne _ _ _ hy]
        by_cases hyk : y = bk.mh
        ·subst hyk
         rw [hmk] at ho; cases ho
         exact ⟨_, upd_same _ _ _, rfl⟩
        ·rw [upd_ne _ _ _ hyk]; exact ⟨o, ho, .refl _⟩
       refine ⟨_, g0, WeakE.of ?_ hle, more, hf3, s3, f3, kp3, pr3, sh3, fun hm q hq => ?_, rfl⟩
       ·simp -implicitDefEqProofs only [go_sem,seval, step_at (l := G.cs0 pre.length) (by have := ok.fewCalls pre.length; unfold few; omega) hpB]
       ·rcases List.mem_append.1 hq with hq | hq
        ·exact sd3 hm q hq
        ·simp only [List.mem_cons, List.not_mem_nil, or_false] at hq
         subst hq
         intro x hx
         rw [hhk] at hx
         obtain ⟨j, hj⟩ := List.getElem?_of_mem hx
         have hjl : j < st.length := by
          rw [hst, List.length_map]
          rcases Nat.lt_or_ge j hk.length with h | h
          ·exact h
          ·rw [List.getElem?_eq_none h] at hj; cases hj
         exact pc3 hm j x _ hj (List.getElem?_eq_getElem hjl) (hall _ (List.getElem_mem hjl))
    ·rintro e g' ⟨more, hf', s', f', kp', pr', sh', sd', rfl⟩
     simp -implicitDefEqProofs only [go_sem,seval, lt_end]
     refine lessQ.same ?_
     simp -implicitDefEqProofs only [go_sem,seval]
     refine ⟨_, _, WeakE.env ?_, more, hf', s', f', kp', pr', fun hm i hi => ?_, rfl⟩
     ·simp -implicitDefEqProofs only [go_sem,seval, step_at (l := G.bs) (by unfold few; omega) hp]
     ·simp only [List.length_append, List.length_cons, List.length_nil] at hi
      by_cases hip : i = pre.length
      ·subst hip; exact sd' hm
      ·exact sh' hm i (by omega)
   ·rintro e g' ⟨more, hf', s', f', kp', pr', sh', rfl⟩
    simp -implicitDefEqProofs only [go_sem,seval, lt_end]
    refine lessQ.same ?_
    simp -implicitDefEqProofs only [go_sem,seval]
    refine lessI.to _ _ _ ?_ (WeakE.env ?_) ⟨more, hf', rfl, s', f', kp', fun hm => by rw [← hlenb]; exact sh' hm, rfl⟩
    ·cases more with
     | false => simp
     | true => have := pr'.less rfl; simp; exact this
    ·simp -implicitDefEqProofs only [go_sem,seval]
end Pg
namespace Pg
open Go Go.Proofs.Tryz
theorem capL_all {P : Routine → Prop} (hP : ∀ x, P x → ∀ y ∈ x.inner, P y) : ∀ (N : Nat) (l : List Routine), Routines.sz l < N → (∀ x ∈ l, P x) → ∀ (k : Nat) (whole : List Routine) (around : Int) (path : ByteArray), ∀ n ∈ capL k whole around path l, P n.r
 | 0, l, h, _, _, _, _, _, _, _ => by omega
 | N + 1, [], h, _, k, whole, around, path, n, hn => by simp [capL] at hn
 | N + 1, x :: l, h, hl, k, whole, around, path, n, hn => by
  have hz := Routine.sz_eq x
  simp only [Routines.sz] at h
  simp only [capL, capR_eq] at hn
  rcases List.mem_append.1 hn with hn | hn
  ·rcases List.mem_cons.1 hn with rfl | hn
   ·exact hl x (by simp)
   ·exact capL_all hP N x.inner (by omega) (hP x (hl x (by simp))) _ _ _ _ n hn
  ·exact capL_all hP N l (by omega) (fun y hy => hl y (by simp [hy])) _ _ _ _ n hn
theorem capL_around : ∀ (N : Nat) (l : List Routine), Routines.sz l < N → ∀ (k : Nat) (whole : List Routine) (around : Int) (path : ByteArray), around < k → -1 ≤ around → ∀ (i : Nat) n, (capL k whole around path l)[i]? = some n → n.around < ((k + i : Nat) : Int) ∧ -1 ≤ n.around
 | 0, l, h, _, _, _, _, _, _, _, _, _ => by omega
 | N + 1, [], h, k, whole, around, path, _, _, i, n, hn => by simp [capL] at hn
 | N + 1, x :: l, h, k, whole, around, path, ha, hb, i, n, hn => by
  have hz := Routine.sz_eq x
  simp only [Routines.sz] at h
  simp only [capL] at hn
  rw [List.getElem?_append] at hn
  split at hn
  ·rw [capR_eq] at hn
   cases i with
   | zero =>
    simp only [List.getElem?_cons_zero, Option.some.injEq] at hn
    subst hn
    exact ⟨by simpa using ha, hb⟩
   | succ i =>
    simp only [List.getElem?_cons_succ] at hn
    have := capL_around N x.inner (by omega) (k + 1) _ k _ (by omega) (by omega) i n hn
    exact ⟨by omega, this.2⟩
  ·rename_i hlt
   have := capL_around N l (by omega) (k + rcnt x) _ around _ (by omega) hb _ n hn
   rw [capR_len] at this hlt
   exact ⟨by omega, this.2⟩
theorem lookN_mapIn (name n : ByteArray) (k : Nat) : ∀ m : List (ByteArray × Nat), lookN name (mapIn n k m) = if name = n then some k else lookN name m
 | [] => by
  simp only [mapIn, lookN, List.find?_cons]
  by_cases h : name = n <;> simp [h]
 | (x, u) :: r => by
  have ih := lookN_mapIn name n k r
  unfold lookN at ih ⊢
  simp only [mapIn]
  by_cases h1 : n = x
  ·subst h1
   by_cases h : name = n <;> simp [List.find?_cons, h]
  ·simp only [h1, if_false, List.find?_cons]
   by_cases h2 : name = x
   ·subst h2
    have : ¬ name = n := fun hh => h1 hh.symm
    simp [this]
   ·simp only [h2, decide_false]
    exact ih
theorem lookN_capMap (name : ByteArray) : ∀ (l : List Routine) (k : Nat) (m : List (ByteArray × Nat)) (v : Nat), lookN name (capMap k m l) = some v → lookN name m = some v ∨ (k ≤ v ∧ v < k + rcnts l)
 | [], k, m, v, h => .inl h
 | x :: l, k, m, v, h => by
  simp only [capMap] at h
  have hr : 1 ≤ rcnt x := by rw [rcnt_eq]; omega
  simp only [rcnts]
  rcases lookN_capMap name l _ _ v h with h | h
  ·rw [lookN_mapIn] at h
   split at h
   ·simp only [Option.some.injEq] at h
    exact .inr ⟨by omega, by omega⟩
   ·exact .inl h
  ·exact .inr ⟨by omega, by omega⟩
theorem capL_inner : ∀ (N : Nat) (l : List Routine), Routines.sz l < N → ∀ (k : Nat) (whole : List Routine) (around : Int) (path : ByteArray), ∀ n ∈ capL k whole around path l, ∀ name v, lookN name n.inner = some v → v < k + rcnts l
 | 0, l, h, _, _, _, _, _, _ => by omega
 | N + 1, [], h, k, whole, around, path, n, hn => by simp [capL] at hn
 | N + 1, x :: l, h, k, whole, around, path, n, hn => by
  intro name v hv
  have hz := Routine.sz_eq x
  simp only [Routines.sz] at h
  simp only [capL, capR_eq] at hn
  simp only [rcnts, rcnt_eq]
  rcases List.mem_append.1 hn with hn | hn
  ·rcases List.mem_cons.1 hn with rfl | hn
   ·rcases lookN_capMap name x.inner (k + 1) [] v hv with h' | h'
    ·simp [lookN] at h'
    ·omega
   ·have := capL_inner N x.inner (by omega) _ _ _ _ n hn name v hv
    omega
  ·have := capL_inner N l (by omega) _ _ _ _ n hn name v hv
   rw [rcnt_eq] at this
   omega
theorem nameAt_in {ns : List CN} {name : ByteArray} : ∀ {f : Nat} {i : Int} {x : Nat × Nat}, nameAt ns name f i = some x → ∃ n, ns[x.1]? = some n ∧ x.2 < (locs n.r).length
 | 0, i, x, h => by simp [nameAt] at h
 | f + 1, i, x, h => by
  simp only [nameAt] at h
  split at h
  ·cases h
  ·cases hn : ns[i.toNat]? with
   | none => rw [hn] at h; cases h
   | some n =>
    rw [hn] at h
    simp only at h
    cases hk : (locs n.r).findIdx? (fun p => decide (p.name = name)) with
    | none => rw [hk] at h; exact nameAt_in h
    | some k =>
     rw [hk] at h
     simp only [Option.some.injEq] at h
     subst h
     refine ⟨n, hn, ?_⟩
     have := (List.findIdx?_eq_some_iff_findIdx_eq.1 hk).1
     exact this
theorem routAt_in {ns : List CN} {top : List (ByteArray × Nat)} {name : ByteArray} {b : Nat} (ht : ∀ v, lookN name top = some v → v < b) (hn : ∀ n ∈ ns, ∀ v, lookN name n.inner = some v → v < b) : ∀ {f : Nat} {i : Int} {v : Nat}, routAt ns top name f i = some v → v < b
 | 0, i, v, h => ht v h
 | f + 1, i, v, h => by
  simp only [routAt] at h
  split at h
  ·exact ht v h
  ·cases hn' : ns[i.toNat]? with
   | none => rw [hn'] at h; cases h
   | some n =>
    rw [hn'] at h
    simp only at h
    cases hk : lookN name n.inner with
    | none => rw [hk] at h; exact routAt_in ht hn h
    | some k =>
     rw [hk] at h
     simp only [Option.some.injEq] at h
     subst h
     exact hn n (List.mem_of_getElem? hn') _ hk
theorem hasAt_in {ns : List CN} {j : Nat} : ∀ {l : List ByteArray} {hs : Pairs} {x : Nat × Nat}, x ∈ hasAt ns j l hs → x ∈ hs ∨ ∃ name ∈ l, nameAt ns name (j + 1) j = some x ∧ x.1 ≠ j
 | [], hs, x, h => .inl h
 | name :: l, hs, x, h => by
  rcases hasAt_in (l := l) (hs := useAt ns j hs name) h with h | ⟨m, hm, h⟩
  ·unfold useAt at h
   cases hn : nameAt ns name (j + 1) j with
   | none => rw [hn] at h; exact .inl h
   | some y =>
    rw [hn] at h
    simp only at h
    split at h
    ·exact .inl h
    ·rename_i hne
     rcases hadd_mem.1 h with h | rfl
     ·exact .inl h
     ·exact .inr ⟨name, by simp, hn, hne⟩
  ·exact .inr ⟨m, by simp [hm], h⟩
def Gra.of (gb mt : Nat) (bs : List NB) (p : List Routine) : Gra := ⟨gb, mt, bs, capL 0 p (-1) noBytes p, capMap 0 [] p⟩
theorem wR_in {x y : Routine} (h : y ∈ x.inner) : wR y ≤ wR x := by
 have := wR_eq x
 have : wR y ≤ wRs x.inner := wRs_mem h
 omega
theorem gra_ok2 {gb mt : Nat} {bs : List NB} {p : List Routine} (hb : bs.length = rcnts p) (nd : (gb :: mt :: ids bs).Nodup) (hw : wRs p ≤ 274877906944) : (Gra.of gb mt bs p).ok2 := by
 have hall : ∀ n ∈ capL 0 p (-1) noBytes p, wR n.r ≤ 274877906944 := capL_all (P := fun x => wR x ≤ 274877906944) (fun x hx y hy => Nat.le_trans (wR_in hy) hx) _ p (Nat.lt_succ_self _) (fun x hx => Nat.le_trans (wRs_mem hx) hw) 0 p (-1) noBytes
 have hr := rcnts_le _ p (Nat.le_refl _)
 refine ⟨⟨?_, nd, ?_, ?_, ?_⟩, ?_, ?_⟩
 ·show bs.length = (capL 0 p (-1) noBytes p).length
  rw [capL_len, hb]
 ·intro i n hn
  have := capL_around _ p (Nat.lt_succ_self _) 0 p (-1) noBytes (by omega) (by omega) i n hn
  simpa using this
 ·show (capL 0 p (-1) noBytes p).length ≤ _
  rw [capL_len]; omega
 ·intro n hn
  have := hall n hn
  have := wR_eq n.r
  simp only [locs, List.length_append, List.length_map]
  omega
 ·intro i k hk
  unfold Gra.cs0 at hk
  cases hn : (Gra.of gb mt bs p).ns[i]? with
  | none => rw [hn] at hk; simp at hk
  | some n =>
   rw [hn] at hk
   obtain ⟨name, _, hr'⟩ := List.mem_filterMap.1 hk
   show k < (capL 0 p (-1) noBytes p).length
   rw [capL_len]
   refine routAt_in (fun v hv => ?_) (fun m hm v hv => ?_) hr'
   ·rcases lookN_capMap name p 0 [] v hv with h | h
    ·simp [lookN] at h
    ·omega
   ·have := capL_inner _ p (Nat.lt_succ_self _) 0 p (-1) noBytes m hm name v hv
    omega
 ·intro i
  unfold Gra.cs0
  cases hn : (Gra.of gb mt bs p).ns[i]? with
  | none => simp
  | some n =>
   have h1 := hall n (List.mem_of_getElem? hn)
   have h2 := wR_eq n.r
   have h3 := callSs_len _ n.r.body (Nat.le_refl _)
   have h4 := callAt_len (Gra.of gb mt bs p).ns (Gra.of gb mt bs p).top i (callSs n.r.body)
   simp only
   omega
theorem gra_fair (G : Gra) : Fair G G.hs0 := by
 refine ⟨fun i x h => .use h, fun i x h => h, fun i x h => ?_⟩
 unfold Gra.hs0 at h
 cases hn : G.ns[i]? with
 | none => rw [hn] at h; simp at h
 | some n =>
  rw [hn] at h
  rcases hasAt_in h with h | ⟨name, _, h, _⟩
  ·simp at h
  ·obtain ⟨m, hm, hk⟩ := nameAt_in h
   unfold Gra.pairs
   have hlt : x.1 < G.ns.length := by
    rcases Nat.lt_or_ge x.1 G.ns.length with h | h
    ·exact h
    ·rw [List.getElem?_eq_none h] at hm; cases hm
   refine List.mem_flatMap.2 ⟨x.1, List.mem_range.2 hlt, ?_⟩
   rw [hm]
   exact List.mem_map.2 ⟨x.2, List.mem_range.2 hk, rfl⟩
theorem nwRs_le : ∀ (N : Nat) (l : List Routine), Routines.sz l < N → nwRs l ≤ wRs l
 | 0, l, h => by omega
 | N + 1, [], h => by simp [nwRs]
 | N + 1, x :: l, h => by
  have hz := Routine.sz_eq x
  simp only [Routines.sz] at h
  have h1 := nwRs_le N x.inner (by omega)
  have h2 := nwRs_le N l (by omega)
  simp only [nwRs, wRs, nwR_eq, wR_eq]
  omega
theorem prg_bounds {p : Prg} (hw : wP p ≤ 1048576) : wRs p.routines ≤ 274877906944 ∧ nwRs p.routines ≤ 274877906944 := by
 have := nwRs_le _ p.routines (Nat.lt_succ_self _)
 unfold wP at hw
 exact ⟨by omega, by omega⟩
end Pg
namespace Pg
open Go Go.Proofs.Tryz
theorem NodesAt.get {h : AHeap} : ∀ {bs : List NB} {ns : List CN}, NodesAt h bs ns → ∀ {i : Nat} {b : NB} {n : CN}, bs[i]? = some b → ns[i]? = some n → NodeAt h b n
 | [], [], _, i, b, n, hb, _ => by simp at hb
 | c :: bs, m :: ns, ⟨k1, k⟩, 0, b, n, hb, hn => by
  simp only [List.getElem?_cons_zero, Option.some.injEq] at hb hn
  subst hb hn; exact k1
 | c :: bs, m :: ns, ⟨k1, k⟩, i + 1, b, n, hb, hn => by
  simp only [List.getElem?_cons_succ] at hb hn
  exact k.get hb hn
 | [], _ :: _, k, _, _, _, _, _ => k.elim
 | _ :: _, [], k, _, _, _, _, _ => k.elim
structure Half (G : Gra) (k : Nat) (h : AHeap) : Prop where
 stat : Stat G h
 done : ∀ (i : Nat) b n, i < k → G.bs[i]? = some b → G.ns[i]? = some n → h b.p = some (oNode n.path n.around n.list n.r (.sl ((locs n.r).map eParam) false) (.map (some b.mi)) (.sl ((G.cs0 i).map iRow) false) (.map (some b.mh))) ∧ h b.mh = some (.mp ((G.hs0 i).map ePr))
 rest : ∀ (i : Nat) b n, k ≤ i → G.bs[i]? = some b → G.ns[i]? = some n → h b.p = some (nodeO n (.sl [] true) b) ∧ h b.mh = some (.mp [])
theorem weak_calls {path : ByteArray} {around : Int} {list : List Routine} {r : Routine} {v v' locals inner has : AV} (h : AVle v v') : ObjLe (oNode path around list r locals inner v has) (oNode path around list r locals inner v' has) := by
 refine ⟨rfl, rfl, rfl, ?_⟩
 iterate 14 refine AVles.cons (.refl _) ?_
 exact AVles.cons h (.refl _)
theorem hh_weak {b : NB} (hne : b.p ≠ b.mh) {n : CN} {H g : AHeap} {v v' : AV} {hs : Pairs} (le : (hh b n H v hs).le g) (a : AVle v v') : HeapLe g (hh b n H v' hs) := by
 unfold hh at le ⊢
 rw [upd_comm _ _ _ hne] at le ⊢
 exact weak_cell le (weak_calls a)
theorem hh_other {b : NB} {n : CN} {H : AHeap} {v : AV} {hs : Pairs} {x : Nat} (h1 : x ≠ b.p) (h2 : x ≠ b.mh) : hh b n H v hs x = H x := by
 unfold hh
 rw [upd_ne _ _ _ h2, upd_ne _ _ _ h1]
theorem Half.step {G : Gra} (ok : G.ok) {k : Nat} {h : AHeap} (s : Half G k h) {b : NB} {n : CN} (hb : G.bs[k]? = some b) (hn : G.ns[k]? = some n) : Half G (k + 1) (hh b n h (.sl ((G.cs0 k).map iRow) false) (G.hs0 k)) := by
 have nd := ok.ids_nd
 have oth : ∀ (i : Nat) b', i ≠ k → G.bs[i]? = some b' → (hh b n h (.sl ((G.cs0 k).map iRow) false) (G.hs0 k)) b'.p = h b'.p ∧ (hh b n h (.sl ((G.cs0 k).map iRow) false) (G.hs0 k)) b'.mh = h b'.mh := by
  intro i b' hik hb'
  have : ∀ x ∈ b'.ids, x ≠ b.p ∧ x ≠ b.mh := fun x hx => ⟨fun hh => hik (ids_apart nd hb' hb hx (by simp [NB.ids, hh])), fun hh => hik (ids_apart nd hb' hb hx (by simp [NB.ids, hh]))⟩
  have e1 := this b'.p (by simp [NB.ids])
  have e2 := this b'.mh (by simp [NB.ids])
  exact ⟨hh_other e1.1 e1.2, hh_other e2.1 e2.2⟩
 refine ⟨s.stat.hh ok hb hn _ _, fun i b' n' hi hb' hn' => ?_, fun i b' n' hi hb' hn' => ?_⟩
 ·by_cases hik : i = k
  ·subst hik
   rw [hb] at hb'; rw [hn] at hn'; cases hb'; cases hn'
   exact ⟨hh_p (ids_one nd hb).2.1 _ _ _ _, hh_mh _ _ _ _ _⟩
  ·obtain ⟨e1, e2⟩ := oth i b' hik hb'
   rw [e1, e2]
   exact s.done i b' n' (by omega) hb' hn'
 ·obtain ⟨e1, e2⟩ := oth i b' (by omega) hb'
  rw [e1, e2]
  exact s.rest i b' n' (by omega) hb' hn'
theorem Half.full {G : Gra} (ok : G.ok) {h : AHeap} (s : Half G G.ns.length h) : Full G G.hs0 h := by
 have lt : ∀ {i : Nat} {n : CN}, G.ns[i]? = some n → i < G.ns.length := fun {i n} hn => by
  rcases Nat.lt_or_ge i G.ns.length with h | h
  ·exact h
  ·rw [List.getElem?_eq_none h] at hn; cases hn
 refine ⟨s.stat.g, s.stat.top, fun i b n hb hn => (s.done i b n (lt hn) hb hn).1, s.stat.inner, fun i b hb => ?_⟩
 obtain ⟨n, hn⟩ : ∃ n, G.ns[i]? = some n := ⟨_, List.getElem?_eq_getElem (by
  rw [← ok.len]
  rcases Nat.lt_or_ge i G.bs.length with h | h
  ·exact h
  ·rw [List.getElem?_eq_none h] at hb; cases hb)⟩
 exact (s.done i b n (lt hn) hb hn).2
structure Done (p : List Routine) (G : Gra) (hf : Nat → Pairs) (h0 h : AHeap) : Prop where
 isOf : G = Gra.of G.gb G.mt G.bs p
 ok : G.ok2
 full : Full G hf h
 fair : Fair G hf
 shut : ∀ i < G.ns.length, Shut G hf i (G.cs0 i)
 le : h0.le h
theorem of_good [GI] (h : AHeap) (p : Prg) (ho : p.ok) (hw : wRs p.routines ≤ 274877906944) (hnw : nwRs p.routines ≤ 274877906944) (hc : (check p).2 = 0) :
  ACalls prog 86 [.agg (ePrg p)] h (fun v g => ∃ G hf, v = .ptr (some ⟨G.gb, 0, none⟩) ∧ Done p.routines G hf h g) := by
 refine F86.calls (by simp) ?_
 delta F86.c0
 simp -implicitDefEqProofs only [go_sem,seval]
 refine tcE (Check_spec h p ho) ?_
 simp -implicitDefEqProofs only [go_sem,seval, hc]
 refine afreshT_intro fun gb hgb => ?_
 simp -implicitDefEqProofs only [go_sem,seval]
 have G0 : GL 161 1 (h.upd gb (gBlk (.sl [] true) (.map none))) (h.upd gb (gBlk (.sl [] true) (.map none))) (.sl [] true) [] := .nil _
 refine callT_of (add_spec _ p.routines (Nat.lt_succ_self _) ho.routines ho.eachRoutine h _ gb (.sl [] true) [] (-1) noBytes G0 (by simpa using hw) (by have : noBytes.size = 0 := rfl; omega)) (fun w g1 hw1 => ?_)
 obtain ⟨v1, B1, bs, m, rfl, G1, le1, NA, hm, nd, fr⟩ := hw1
 simp only [List.length_nil] at NA hm
 simp only [List.nil_append] at G1
 have hgb1 : g1 gb = some (gBlk v1 (.map none)) := G1.at (upd_same _ _ _)
 simp -implicitDefEqProofs only [go_sem,seval, hgb1]
 have hgg : (g1.upd gb (gBlk v1 (.map (some m)))) gb = some (gBlk v1 (.map (some m))) := upd_same _ _ _
 have G2 := G1.upd (upd_same _ _ _) (gBlk v1 (.map (some m)))
 rw [upd_upd] at G2
 have nd' : (gb :: m :: ids bs).Nodup := List.nodup_cons.2 ⟨fun hh => (fr gb hh).2 rfl, nd⟩
 have ok : (Gra.of gb m bs p.routines).ok2 := gra_ok2 (by rw [NA.length, capL_len]) nd' hw
 have hgn : gb ∉ ids bs := fun hh => (fr gb (by simp [hh])).2 rfl
 have hmg : m ≠ gb := (fr m (by simp)).2
 have H0 : Half (Gra.of gb m bs p.routines) 0 (B1.upd gb (gBlk (.sl (bs.map pRow) false) (.map (some m)))) := by
  have NB := NA.upd hgn (gBlk (.sl (bs.map pRow) false) (.map (some m)))
  refine ⟨⟨upd_same _ _ _, ?_, fun i b n hb hn => ⟨_, (NB.get hb hn).1⟩, fun i b n hb hn => (NB.get hb hn).2.1⟩, fun i b n hi => by omega, fun i b n _ hb hn => ⟨(NB.get hb hn).1, (NB.get hb hn).2.2⟩⟩
  show (B1.upd gb _) m = _
  rw [upd_ne _ _ _ hmg]; exact hm
 have le2 : h.le (B1.upd gb (gBlk (.sl (bs.map pRow) false) (.map (some m)))) := le_upd_of hgb le1 _
 have hwk : HeapLe (g1.upd gb (gBlk v1 (.map (some m)))) (B1.upd gb (gBlk (.sl (bs.map pRow) false) (.map (some m)))) := weak_cell G2.le ⟨rfl, rfl, rfl, .cons G1.avle (.refl _)⟩
 have hbl : bs.length = (Gra.of gb m bs p.routines).ns.length := ok.len
 simp -implicitDefEqProofs only [go_sem,seval, hgg, G1.len]
 refine lT_list bs (fun pre post e g => Half (Gra.of gb m bs p.routines) pre.length g ∧ GKeeps (Gra.of gb m bs p.routines) (B1.upd gb (gBlk (.sl (bs.map pRow) false) (.map (some m)))) g ∧ e = [(5, .ptr (some ⟨gb, 0, none⟩)), (27, .sl (bs.map pRow) false), (28, .int .i64 bs.length), (29, .int .i64 pre.length)]) (WeakE.of ?_ hwk) ⟨H0, GKeeps.refl _ _, rfl⟩ ?_ ?_
 ·simp -implicitDefEqProofs only [go_sem,seval]
  exact G1.avle
 ·rintro pre b post e g hp ⟨H, kp, rfl⟩
  have hbi : (Gra.of gb m bs p.routines).bs[pre.length]? = some b := (at_pre hp).1
  have hil := (at_pre hp).2
  obtain ⟨n, hn⟩ : ∃ n, (Gra.of gb m bs p.routines).ns[pre.length]? = some n := ⟨_, List.getElem?_eq_getElem (by omega)⟩
  obtain ⟨hr1, hr2⟩ := H.rest _ b n (Nat.le_refl _) hbi hn
  have hrow : (bs.map pRow)[pre.length]? = some (pRow b) := map_at hp
  have hr1' : g b.p = some (oNode n.path n.around n.list n.r (.sl ((locs n.r).map eParam) false) (.map (some b.mi)) (.sl [] true) (.map (some b.mh))) := hr1
  simp -implicitDefEqProofs only [go_sem,seval, lt_at hp, aia_sl (size := 1) hrow rfl, hr1']
  have hnm := List.mem_of_getElem? hn
  have hro : n.r.ok := capL_all (P := Routine.ok) (fun x hx y hy => ((Routine.ok_iff x).1 hx).2.2.2.2.2.2.1 y hy) _ p.routines (Nat.lt_succ_self _) ho.eachRoutine 0 p.routines (-1) noBytes n hnm
  have hro' := (Routine.ok_iff n.r).1 hro
  have hrw : wR n.r ≤ 274877906944 := capL_all (P := fun x => wR x ≤ 274877906944) (fun x hx y hy => Nat.le_trans (wR_in hy) hx) _ p.routines (Nat.lt_succ_self _) (fun x hx => Nat.le_trans (wRs_mem hx) hw) 0 p.routines (-1) noBytes n hnm
  have hwr := wR_eq n.r
  have hself : hh b n g (.sl [] true) [] = g := by
   unfold hh
   rw [upd_self hr1']
   exact upd_self hr2
  have hst := stmts_spec13 ok.ok1 H.stat hbi hn _ n.r.body (Nat.lt_succ_self _) hro'.2.2.2.2.2.2.2.1 hro'.2.2.2.2.2.2.2.2.1 false g (.sl [] true) [] [] (by rw [hself]; exact .nil _) (by simp; omega)
  refine callT_of hst (fun v g2 hg2 => ?_)
  obtain ⟨rfl, v2, G3⟩ := hg2
  have hcs : (Gra.of gb m bs p.routines).cs0 pre.length = callAt (Gra.of gb m bs p.routines).ns (Gra.of gb m bs p.routines).top pre.length (callSs n.r.body) := by unfold Gra.cs0; rw [hn]
  have hhs : (Gra.of gb m bs p.routines).hs0 pre.length = hasAt (Gra.of gb m bs p.routines).ns pre.length (useSs n.r.body) [] := by unfold Gra.hs0; rw [hn]
  rw [List.nil_append, ← hcs, ← hhs] at G3
  simp -implicitDefEqProofs only [go_sem,seval]
  have hne := (ids_one ok.ok1.ids_nd hbi).2.1
  refine ⟨_, _, WeakE.of ?_ (hh_weak hne G3.le G3.avle), ?_, ?_, rfl⟩
  ·simp -implicitDefEqProofs only [go_sem,seval, step_at (l := bs) (by have := ok.ok1.room; unfold few; omega) hp]
  ·simpa using H.step ok.ok1 hbi hn
  ·unfold hh
   exact (kp.upd (ids_mem hbi (by simp [NB.ids])) _).upd (ids_mem hbi (by simp [NB.ids])) _
 ·rintro e g ⟨H, kp, rfl⟩
  simp -implicitDefEqProofs only [go_sem,seval, lt_end]
  refine lessQ.same ?_
  rw [hbl] at H
  simp -implicitDefEqProofs only [go_sem,seval]
  refine callT_of (close_spec ok (H.full ok.ok1) (gra_fair _)) (fun v g2 hg2 => ?_)
  obtain ⟨rfl, hf, F, fa, kp2, sh⟩ := hg2
  simp -implicitDefEqProofs only [go_sem,seval]
  refine .same ⟨Gra.of gb m bs p.routines, hf, rfl, ⟨rfl, ok, F, fa, sh, ?_⟩⟩
  intro x o e
  have hx : x ∉ ids bs := fun hh => by
   have := (fr x (by simp [hh])).1
   rw [this] at e; cases e
  exact (kp.trans kp2) x o (le2 x o e) hx
def upL (f : Nat → Nat → Bool) (i : Nat) : Nat → List Param → List Param
 | _, [] => []
 | k, p :: r => (if f i k then [p] else []) ++ upL f i (k + 1) r
def upN (f : Nat → Nat → Bool) : Nat → List CN → List Param
 | _, [] => []
 | i, n :: r => upL f i 0 (locs n.r) ++ upN f (i + 1) r
theorem upL_snoc (f : Nat → Nat → Bool) (i : Nat) (x : Param) : ∀ (l : List Param) (k : Nat), upL f i k (l ++ [x]) = upL f i k l ++ (if f i (k + l.length) then [x] else [])
 | [], k => by simp [upL]
 | y :: l, k => by
  simp only [List.cons_append, upL, List.length_cons]
  rw [upL_snoc f i x l (k + 1), List.append_assoc, show k + 1 + l.length = k + (l.length + 1) by omega]
theorem upN_snoc (f : Nat → Nat → Bool) (x : CN) : ∀ (l : List CN) (i : Nat), upN f i (l ++ [x]) = upN f i l ++ upL f (i + l.length) 0 (locs x.r)
 | [], i => by simp [upN]
 | y :: l, i => by
  simp only [List.cons_append, upN, List.length_cons]
  rw [upN_snoc f x l (i + 1), List.append_assoc, show i + 1 + l.length = i + (l.length + 1) by omega]
theorem upL_len (f : Nat → Nat → Bool) (i : Nat) : ∀ (l : List Param) (k : Nat), (upL f i k l).length ≤ l.length
 | [], k => by simp [upL]
 | y :: l, k => by
  have := upL_len f i l (k + 1)
  simp only [upL, List.length_append, List.length_cons]
  split <;> simp <;> omega
def nLocs (l : List CN) : Nat := (l.map fun n => (locs n.r).length).sum
theorem upN_len (f : Nat → Nat → Bool) : ∀ (l : List CN) (i : Nat), (upN f i l).length ≤ nLocs l
 | [], i => by simp [upN, nLocs]
 | y :: l, i => by
  have := upN_len f l (i + 1)
  have := upL_len f i (locs y.r) 0
  simp only [upN, List.length_append, nLocs, List.map_cons, List.sum_cons] at *
  omega
theorem nLocs_le : ∀ (N : Nat) (l : List Routine), Routines.sz l < N → ∀ (k : Nat) (whole : List Routine) (around : Int) (path : ByteArray), nLocs (capL k whole around path l) ≤ wRs l
 | 0, l, h, _, _, _, _ => by omega
 | N + 1, [], h, k, whole, around, path => by simp [capL, nLocs]
 | N + 1, x :: l, h, k, whole, around, path => by
  have hz := Routine.sz_eq x
  simp only [Routines.sz] at h
  have h1 := nLocs_le N x.inner (by omega) (k + 1) x.inner k (path ++ x.name ++ dollar)
  have h2 := nLocs_le N l (by omega) (k + rcnt x) whole around path
  have hw := wR_eq x
  simp only [nLocs] at h1 h2 ⊢
  simp only [capL, capR_eq, wRs, List.map_append, List.map_cons, List.sum_append, List.sum_cons]
  simp only [locs, List.length_append, List.length_map] at h1 h2 ⊢
  omega
abbrev uRow (l : List Param) : List AV := [.sl (l.map eParam) false]
theorem Ups_walk [GI] (h : AHeap) (p : Prg) (ho : p.ok) (hw : wRs p.routines ≤ 274877906944) (hnw : nwRs p.routines ≤ 274877906944) (hc : (check p).2 = 0) :
  ACalls prog 57 [.agg (ePrg p)] h (fun v g => ∃ G hf h', Done p.routines G hf h h' ∧ v = .sl (((List.range G.ns.length).map fun j => upN (fun i k => decide ((i, k) ∈ hf j)) 0 G.ns).map uRow) false ∧ g = h) := by
 refine F57.calls (by simp) ?_
 delta F57.c0
 simp -implicitDefEqProofs only [go_sem,seval, ePrg_len]
 refine callT_of (of_good h p ho hw hnw hc) (fun v g hg => ?_)
 obtain ⟨G, hf, rfl, D⟩ := hg
 simp -implicitDefEqProofs only [go_sem,seval]
 have ok := D.ok
 have nd := ok.ok1.ids_nd
 have hlen := ok.ok1.len
 have hroom := ok.ok1.room
 have hsg := D.full.g
 have hnl : nLocs G.ns ≤ 274877906944 := by
  rw [D.isOf]
  exact Nat.le_trans (nLocs_le _ p.routines (Nat.lt_succ_self _) 0 p.routines (-1) noBytes) hw
 have hnn : G.ns.length ≤ 274877906944 := by
  rw [D.isOf]
  show (capL 0 p.routines (-1) noBytes p.routines).length ≤ _
  rw [capL_len]
  exact Nat.le_trans (rcnts_le _ _ (Nat.le_refl _)) hw
 have hfb : few G.bs := by unfold few; omega
 generalize hR : (fun j => upN (fun i k => decide ((i, k) ∈ hf j)) 0 G.ns) = R
 simp -implicitDefEqProofs only [go_sem,seval, hsg]
 refine lT_list G.bs (fun pre post e k => ∃ ov, GL 41 1 g k ov (((List.range pre.length).map R).map uRow) ∧ e = [(3, .ptr (some ⟨G.gb, 0, none⟩)), (4, ov), (19, .sl (G.bs.map pRow) false), (20, .int .i64 G.bs.length), (21, .int .i64 pre.length)]) (WeakE.env ?_) ⟨.sl [] true, .nil g, rfl⟩ ?_ ?_
 ·simp -implicitDefEqProofs only [go_sem,seval]
 ·rintro pre b post e k hp ⟨ov, O, rfl⟩
  have hbi := (at_pre hp).1
  have hil := (at_pre hp).2
  have Fk := D.full.of_le O.le
  have hgk := Fk.g
  have hrow : (G.bs.map pRow)[pre.length]? = some (pRow b) := map_at hp
  obtain ⟨n, hn⟩ : ∃ n, G.ns[pre.length]? = some n := ⟨_, List.getElem?_eq_getElem (by omega)⟩
  simp -implicitDefEqProofs only [go_sem,seval, lt_at hp, aia_sl (size := 1) hrow rfl, hgk]
  refine lT_list G.bs (fun preB postB e kB => ∃ lv, GL 105 5 k kB lv ((upN (fun i k => decide ((i, k) ∈ hf pre.length)) 0 (G.ns.take preB.length)).map eParam) ∧ e = [(3, .ptr (some ⟨G.gb, 0, none⟩)), (4, ov), (6, .ptr (some ⟨b.p, 0, none⟩)), (7, lv), (19, .sl (G.bs.map pRow) false), (20, .int .i64 G.bs.length), (21, .int .i64 pre.length), (28, .sl (G.bs.map pRow) false), (29, .int .i64 G.bs.length), (30, .int .i64 preB.length)]) (WeakE.env ?_) ⟨.sl [] true, by simp [upN]; exact .nil k, rfl⟩ ?_ ?_
  ·simp -implicitDefEqProofs only [go_sem,seval]
  ·rintro preB c postB e kB hpB ⟨lv, E, rfl⟩
   have hci := (at_pre hpB).1
   have hcl := (at_pre hpB).2
   obtain ⟨m, hm⟩ : ∃ m, G.ns[preB.length]? = some m := ⟨_, List.getElem?_eq_getElem (by omega)⟩
   have hcn := (Fk.of_le E.le).node _ c m hci hm
   have hrowB : (G.bs.map pRow)[preB.length]? = some (pRow c) := map_at hpB
   have hlm := ok.ok1.locs m (List.mem_of_getElem? hm)
   have htake : G.ns.take (preB.length + 1) = G.ns.take preB.length ++ [m] := by
    rw [List.take_add_one, hm]; rfl
   have htl : (G.ns.take preB.length).length = preB.length := by rw [List.length_take]; omega
   simp -implicitDefEqProofs only [go_sem,seval, lt_at hpB, aia_sl (size := 1) hrowB rfl, hcn]
   refine lT_list (locs m.r) (fun preC postC e kC => ∃ lv, GL 105 5 k kC lv ((upN (fun i k => decide ((i, k) ∈ hf pre.length)) 0 (G.ns.take preB.length) ++ upL (fun i k => decide ((i, k) ∈ hf pre.length)) preB.length 0 preC).map eParam) ∧ e = [(3, .ptr (some ⟨G.gb, 0, none⟩)), (4, ov), (6, .ptr (some ⟨b.p, 0, none⟩)), (7, lv), (8, .int .i64 preB.length), (19, .sl (G.bs.map pRow) false), (20, .int .i64 G.bs.length), (21, .int .i64 pre.length), (28, .sl (G.bs.map pRow) false), (29, .int .i64 G.bs.length), (30, .int .i64 preB.length), (38, .sl ((locs m.r).map eParam) false), (39, .int .i64 (locs m.r).length), (40, .int .i64 preC.length)]) (WeakE.env ?_) ⟨lv, by simp [upL]; exact E, rfl⟩ ?_ ?_
   ·simp -implicitDefEqProofs only [go_sem,seval]
   ·rintro preC x postC e kC hpC ⟨lv, E, rfl⟩
    have hpl := (at_pre hpC).2
    have FC := (Fk.of_le E.le)
    have hbn := FC.node _ b n hbi hn
    have hbh := FC.has _ b hbi
    have hal : amapOf kC (.map (some b.mh)) = some ((hf pre.length).map ePr) := by unfold amapOf; simp only [hbh]
    have haf : ∀ hs : Pairs, afind [3, 1, 1] (.agg [.int .i64 (preB.length : Int), .int .i64 (preC.length : Int)]) (hs.map ePr) = some (if (preB.length, preC.length) ∈ hs then some (.bool true) else none) := afind_pair (preB.length, preC.length)
    have hkf : keyFits [3, 1, 1] (.agg [.int .i64 (preB.length : Int), .int .i64 (preC.length : Int)]) = true := rfl
    have hcu := upN_len (fun i k => decide ((i, k) ∈ hf pre.length)) (G.ns.take preB.length) 0
    have hcl := upL_len (fun i k => decide ((i, k) ∈ hf pre.length)) preB.length preC 0
    have hnt : nLocs (G.ns.take preB.length) + (locs m.r).length ≤ nLocs G.ns := by
     have e : nLocs (G.ns.take (preB.length + 1)) ≤ nLocs G.ns := by
      have := congrArg nLocs (List.take_append_drop (preB.length + 1) G.ns)
      simp only [nLocs, List.map_append, List.sum_append] at this ⊢
      omega
     rw [htake] at e
     simpa [nLocs] using e
    by_cases hx : (preB.length, preC.length) ∈ hf pre.length
    ·simp -implicitDefEqProofs only [go_sem,seval, lt_at hpC, aia_sl (map_at hpC) (eParam_len x), eParam_len, param_take, hbn, alookup, hkf, hal, haf, hx, splice_same]
     refine E.append1 (xs := eParam x) (bytes := 56) rfl (by unfold roomFor; simp; omega) (fun v' g' E' => ?_)
     simp -implicitDefEqProofs only [go_sem,seval]
     refine ⟨_, _, WeakE.env ?_, v', ?_, rfl⟩
     ·simp -implicitDefEqProofs only [go_sem,seval, step_at (l := locs m.r) (by unfold few; omega) hpC]
     ·rw [upL_snoc]
      simpa [hx] using E'
    ·simp -implicitDefEqProofs only [go_sem,seval, lt_at hpC, aia_sl (map_at hpC) (eParam_len x), eParam_len, param_take, hbn, alookup, hkf, hal, haf, hx]
     refine ⟨_, _, WeakE.env ?_, lv, ?_, rfl⟩
     ·simp -implicitDefEqProofs only [go_sem,seval, step_at (l := locs m.r) (by unfold few; omega) hpC]
     ·rw [upL_snoc]
      simpa [hx] using E
   ·rintro e kC ⟨lv, E, rfl⟩
    simp -implicitDefEqProofs only [go_sem,seval, lt_end]
    refine lessQ.same ?_
    simp -implicitDefEqProofs only [go_sem,seval]
    refine ⟨_, _, WeakE.env ?_, lv, ?_, rfl⟩
    ·simp -implicitDefEqProofs only [go_sem,seval, step_at hfb hpB]
    ·rw [show (preB ++ [c]).length = preB.length + 1 by simp, htake, upN_snoc, htl, Nat.zero_add]
     exact E
  ·rintro e kB ⟨lv, E, rfl⟩
   simp -implicitDefEqProofs only [go_sem,seval, lt_end]
   rw [List.take_of_length_le (by omega)] at E
   refine lessQ.to (e' := [(3, .ptr (some ⟨G.gb, 0, none⟩)), (4, ov), (7, .sl ((R pre.length).map eParam) false), (19, .sl (G.bs.map pRow) false), (20, .int .i64 G.bs.length), (21, .int .i64 pre.length)]) (g := k) (WeakE.of ?_ (.of_le E.le)) ?_
   ·simp -implicitDefEqProofs only [go_sem,seval]
    subst hR
    exact E.avle
   simp -implicitDefEqProofs only [go_sem,seval]
   refine O.append1 (xs := uRow (R pre.length)) (bytes := 24) rfl (by unfold roomFor; simp; omega) (fun v' g' O' => ?_)
   simp -implicitDefEqProofs only [go_sem,seval]
   refine ⟨_, _, WeakE.env ?_, v', ?_, rfl⟩
   ·simp -implicitDefEqProofs only [go_sem,seval, step_at hfb hp]
   ·rw [show (pre ++ [b]).length = pre.length + 1 by simp, List.range_succ]
    simpa using O'
 ·rintro e k ⟨ov, O, rfl⟩
  simp -implicitDefEqProofs only [go_sem,seval, lt_end]
  refine lessQ.same ?_
  simp -implicitDefEqProofs only [go_sem,seval]
  refine EndW.less O.avle (AHeap.le_trans D.le O.le) ⟨G, hf, g, D, ?_, rfl⟩
  rw [hlen, ← hR]
theorem Caps.to {G G' : Gra} (h1 : G.hs0 = G'.hs0) (h2 : G.cs0 = G'.cs0) {i : Nat} {x : Nat × Nat} (c : Caps G i x) : Caps G' i x := by
 induction c with
 | use h => exact .use (h1 ▸ h)
 | call hk _ hx ih => exact .call (h2 ▸ hk) ih hx
abbrev gra (p : List Routine) : Gra := Gra.of 0 0 [] p
theorem caps_gra {gb mt : Nat} {bs : List NB} {p : List Routine} {i : Nat} {x : Nat × Nat} : Caps (Gra.of gb mt bs p) i x ↔ Caps (gra p) i x := ⟨fun c => Caps.to (G := Gra.of gb mt bs p) (G' := gra p) rfl rfl c, fun c => Caps.to (G := gra p) (G' := Gra.of gb mt bs p) rfl rfl c⟩
open Classical in
noncomputable def cUps (p : List Routine) : List (List Param) := (List.range (gra p).ns.length).map fun j => upN (fun i k => decide (Caps (gra p) j (i, k))) 0 (gra p).ns
theorem Ups_good [GI] (h : AHeap) (p : Prg) (ho : p.ok) (hw : wRs p.routines ≤ 274877906944) (hnw : nwRs p.routines ≤ 274877906944) (hc : (check p).2 = 0) :
  ACalls prog 57 [.agg (ePrg p)] h (fun v g => v = .sl ((cUps p.routines).map uRow) false ∧ g = h) := by
 refine (Ups_walk h p ho hw hnw hc).mono ?_
 rintro v g ⟨G, hf, h', D, rfl, rfl⟩
 refine ⟨?_, rfl⟩
 have hns : G.ns = (gra p.routines).ns := by rw [D.isOf]; rfl
 have key : ∀ j ∈ List.range G.ns.length, (fun i k => decide ((i, k) ∈ hf j)) = (fun i k => @decide (Caps (gra p.routines) j (i, k)) (Classical.propDecidable _)) := by
  intro j hj
  funext i k
  have := D.fair.caps D.ok.calls D.shut (i := j) (x := (i, k)) (List.mem_range.1 hj)
  rw [D.isOf] at this
  rw [caps_gra] at this
  exact decide_eq_decide.2 this
 unfold cUps
 rw [← hns]
 congr 2
 refine List.map_congr_left fun j hj => ?_
 rw [key j hj]
theorem Paths_good [GI] (h : AHeap) (p : Prg) (ho : p.ok) (hw : wRs p.routines ≤ 274877906944) (hnw : nwRs p.routines ≤ 274877906944) (hc : (check p).2 = 0) :
  ACalls prog 56 [.agg (ePrg p)] h (fun v g => v = .sl ((gra p.routines).ns.map fun n => [.str n.path]) false ∧ g = h) := by
 refine F56.calls (by simp) ?_
 delta F56.c0
 simp -implicitDefEqProofs only [go_sem,seval, ePrg_len]
 refine callT_of (of_good h p ho hw hnw hc) (fun v g hg => ?_)
 obtain ⟨G, hf, rfl, D⟩ := hg
 simp -implicitDefEqProofs only [go_sem,seval]
 have ok := D.ok
 have hlen := ok.ok1.len
 have hsg := D.full.g
 have hns : G.ns = (gra p.routines).ns := by rw [D.isOf]; rfl
 have hnn : G.ns.length ≤ 274877906944 := by
  rw [D.isOf]
  show (capL 0 p.routines (-1) noBytes p.routines).length ≤ _
  rw [capL_len]
  exact Nat.le_trans (rcnts_le _ _ (Nat.le_refl _)) hw
 have hfb : few G.bs := by unfold few; omega
 simp -implicitDefEqProofs only [go_sem,seval, hsg]
 refine lT_list G.bs (fun pre post e k => ∃ ov, GL 9 1 g k ov ((G.ns.take pre.length).map fun n => [.str n.path]) ∧ e = [(3, .ptr (some ⟨G.gb, 0, none⟩)), (4, ov), (14, .sl (G.bs.map pRow) false), (15, .int .i64 G.bs.length), (16, .int .i64 pre.length)]) (WeakE.env ?_) ⟨.sl [] true, by simp; exact .nil g, rfl⟩ ?_ ?_
 ·simp -implicitDefEqProofs only [go_sem,seval]
 ·rintro pre b post e k hp ⟨ov, O, rfl⟩
  have hbi := (at_pre hp).1
  have hil := (at_pre hp).2
  obtain ⟨n, hn⟩ : ∃ n, G.ns[pre.length]? = some n := ⟨_, List.getElem?_eq_getElem (by omega)⟩
  have hbn := (D.full.of_le O.le).node _ b n hbi hn
  have hrow : (G.bs.map pRow)[pre.length]? = some (pRow b) := map_at hp
  have htake : G.ns.take (pre.length + 1) = G.ns.take pre.length ++ [n] := by
   rw [List.take_add_one, hn]; rfl
  simp -implicitDefEqProofs only [go_sem,seval, lt_at hp, aia_sl (size := 1) hrow rfl, hbn]
  refine O.append1 (xs := [.str n.path]) (bytes := 16) rfl (by unfold roomFor; simp; omega) (fun v' g' O' => ?_)
  simp -implicitDefEqProofs only [go_sem,seval]
  refine ⟨_, _, WeakE.env ?_, v', ?_, rfl⟩
  ·simp -implicitDefEqProofs only [go_sem,seval, step_at hfb hp]
  ·rw [show (pre ++ [b]).length = pre.length + 1 by simp, htake]
   simpa using O'
 ·rintro e k ⟨ov, O, rfl⟩
  simp -implicitDefEqProofs only [go_sem,seval, lt_end]
  refine lessQ.same ?_
  simp -implicitDefEqProofs only [go_sem,seval]
  rw [List.take_of_length_le (by omega), hns] at O
  exact EndW.less O.avle (AHeap.le_trans D.le O.le) ⟨rfl, rfl⟩
end Pg
