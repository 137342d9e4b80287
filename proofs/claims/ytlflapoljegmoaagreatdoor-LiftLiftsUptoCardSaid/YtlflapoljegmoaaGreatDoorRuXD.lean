import Derived.Test.YtlflapoljegmoaaGreatDoorTreeSD
import Derived.Test.YtlflapoljegmoaaGreatDoorCodeGJD
import Derived.Test.YtlflapoljegmoaaGreatDoorUpsLawJD
import Derived.Test.YtlflapoljegmoaaGreatDoorCodeBJD
import Derived.Test.YtlflapoljegmoaaGreatDoorRightCJD
set_option linter.all false
set_option maxHeartbeats 4000000
set_option maxRecDepth 4000
namespace Pg
open Go Go.Proofs.Tryz
open Classical in
theorem Within_spec [GI] (h : AHeap) (ns : List CN) (hn : ns.length ≤ 1048576) (har : ∀ (i : Nat) n, ns[i]? = some n → n.around < (i : Int) ∧ -1 ≤ n.around) (a o : Nat) (ha : a < ns.length) :
  ACalls prog 98 [.sl (ns.map eNd) false, .int .i64 a, .int .i64 o] h (fun v g => v = .bool (decide (Up ns a o)) ∧ g = h) := by
 obtain ⟨na, hna⟩ : ∃ n, ns[a]? = some n := ⟨_, List.getElem?_eq_getElem ha⟩
 have hrow : (ns.map eNd)[a]? = some (eNd na) := by simp [hna]
 have n1 : (eNd na)[1]? = some (.int .i64 na.around) := rfl
 have hb := har a na hna
 refine F98.calls (by simp) ?_
 delta F98.c0
 simp -implicitDefEqProofs only [go_sem,seval, aia_sl hrow (eNd_len na), n1]
 refine lT_inv2 (fun m e g => ∃ i : Int, m = (i + 1).toNat ∧ -1 ≤ i ∧ i < ns.length ∧ (Up ns a o ↔ i = (o : Int) ∨ ∃ b : Nat, i = (b : Int) ∧ Up ns b o) ∧ e = [(0, .sl (ns.map eNd) false), (2, .int .i64 o), (7, .int .i64 i)] ∧ h = g) (na.around + 1).toNat (WeakE.env ?_) ⟨na.around, rfl, by omega, by omega, up_iff hna, rfl, rfl⟩ ?_
 ·simp -implicitDefEqProofs only [go_sem,seval]
 ·rintro m e g ⟨i, rfl, h1, h2, h3, rfl, rfl⟩
  by_cases hi : i < 0
  ·have hi' : (i ≥ 0) = False := by simp; omega
   have hup : ¬ Up ns a o := fun u => by rcases h3.1 u with h | ⟨b, h, _⟩ <;> omega
   simp -implicitDefEqProofs only [go_sem,seval, hi']
   refine lessQ.same ?_
   simp -implicitDefEqProofs only [go_sem,seval]
   exact .same ⟨by simp [hup], rfl⟩
  ·obtain ⟨b, rfl⟩ := Int.eq_ofNat_of_zero_le (by omega : 0 ≤ i)
   have hi' : ((b : Int) ≥ 0) = True := by simp
   by_cases he : b = o
   ·subst he
    have hup : Up ns a b := h3.2 (.inl rfl)
    simp -implicitDefEqProofs only [go_sem,seval, hi']
    refine lessQ.same ?_
    simp -implicitDefEqProofs only [go_sem,seval]
    exact .same ⟨by simp [hup], rfl⟩
   ·have he' : ((b : Int) = (o : Int)) = False := by simp; omega
    obtain ⟨nb, hnb⟩ : ∃ n, ns[b]? = some n := ⟨_, List.getElem?_eq_getElem (by omega)⟩
    have hrowb : (ns.map eNd)[b]? = some (eNd nb) := by simp [hnb]
    have b1 : (eNd nb)[1]? = some (.int .i64 nb.around) := rfl
    have hbb := har b nb hnb
    simp -implicitDefEqProofs only [go_sem,seval, hi', he', aia_sl hrowb (eNd_len nb), b1]
    refine lessI.to (nb.around + 1).toNat _ _ (by omega) (WeakE.env ?_) ⟨nb.around, rfl, by omega, by omega, ?_, rfl, rfl⟩
    ·simp -implicitDefEqProofs only [go_sem,seval]
    ·rw [h3, ← up_iff hnb]
     constructor
     ·rintro (h | ⟨c, hc, u⟩)
      ·omega
      ·have : c = b := by omega
       subst this; exact u
     ·exact fun u => .inr ⟨b, rfl, u⟩
open Classical in
theorem named_spec [GI] (name : ByteArray) : ∀ (N : Nat) (x : Expr), x.sz < N → x.ok → ∀ h : AHeap, ACalls prog 131 [.agg (eExpr x), .str name] h (fun v g => v = .bool (decide (name ∈ useE x)) ∧ g = h) := by
 intro N
 induction N with
 | zero => intro x h; omega
 | succ N ih =>
  intro x hN hok h
  have hz := Expr.sz_eq x
  obtain ⟨o1, o2⟩ := (Expr.ok_iff x).1 hok
  have hU := useE_eq x
  refine F131.calls (by simp) ?_
  delta F131.c0
  have hcase : (x.op ≥ 4 ∧ x.op ≤ 6 ∧ x.name = name) ∨ ¬ x.op ≥ 4 ∨ (x.op ≥ 4 ∧ ¬ x.op ≤ 6) ∨ (x.op ≥ 4 ∧ x.op ≤ 6 ∧ ¬ x.name = name) := by
   by_cases a : x.op ≥ 4 <;> by_cases b : x.op ≤ 6 <;> by_cases c : x.name = name <;> simp only [a, b, c, true_and, and_true, false_and, and_false, not_true, not_false_iff, or_true, true_or]
  have hmem : ¬ (x.op ≥ 4 ∧ x.op ≤ 6 ∧ x.name = name) → (name ∈ useE x ↔ name ∈ useEs x.l) := fun hc => by
   rw [hU]
   split
   ·rename_i ho
    have : ¬ name = x.name := fun hh => hc ⟨by omega, by omega, hh.symm⟩
    simp [this]
   ·simp
  rcases hcase with ⟨a, b, c⟩ | a | ⟨a, b⟩ | ⟨a, b, c⟩
  ·simp -implicitDefEqProofs only [go_sem,seval, expr_0, expr_2, a, b, c]
   refine .same ⟨?_, rfl⟩
   have : name ∈ useE x := by rw [hU, if_pos (by omega)]; simp [c]
   simp [this]
  all_goals first | simp -implicitDefEqProofs only [go_sem,seval, expr_0, expr_2, a, b, c] | simp -implicitDefEqProofs only [go_sem,seval, expr_0, expr_2, a, b] | simp -implicitDefEqProofs only [go_sem,seval, expr_0, expr_2, a]
  all_goals have hmem := hmem (fun hh => by first | exact c hh.2.2 | exact b hh.2.1 | exact a hh.1)
  all_goals (
   refine lT_list x.l (fun pre post e g => (name ∈ useE x ↔ name ∈ useEs post) ∧ h = g ∧ e = [(1, .str name), (2, .ip (eExpr x) 0), (5, .int .i64 pre.length)]) (WeakE.env ?_) ⟨hmem, rfl, rfl⟩ ?_ ?_
   ·simp -implicitDefEqProofs only [go_sem,seval]
   ·rintro pre y post e g hp ⟨hk, rfl, rfl⟩
    have hy := Exprs.sz_mem (mem_at hp)
    simp -implicitDefEqProofs only [go_sem,seval, expr_4, lt_at hp, aia_sl (map_at hp) (eExpr_len y), eExpr_len, expr_take]
    refine tcE (ih y (by omega) (o2 y (mem_at hp)) _) ?_
    by_cases hm : name ∈ useE y
    ·simp -implicitDefEqProofs only [go_sem,seval, hm]
     refine lessQ.same ?_
     simp -implicitDefEqProofs only [go_sem,seval]
     refine .same ⟨?_, rfl⟩
     have : name ∈ useE x := hk.2 (by simp [useEs, hm])
     simp [this]
    ·simp -implicitDefEqProofs only [go_sem,seval, hm]
     refine ⟨_, _, WeakE.env ?_, ?_, rfl, rfl⟩
     ·simp -implicitDefEqProofs only [go_sem,seval, step_at o1 hp]
     ·rw [hk]; simp [useEs, hm]
   ·rintro e g ⟨hk, rfl, rfl⟩
    simp -implicitDefEqProofs only [go_sem,seval, expr_4, lt_end]
    refine lessQ.same ?_
    simp -implicitDefEqProofs only [go_sem,seval]
    refine .same ⟨?_, rfl⟩
    have : ¬ name ∈ useE x := fun hh => by simpa [useEs] using hk.1 hh
    simp [this])
open Classical in
theorem Uses_spec [GI] (name : ByteArray) : ∀ (N : Nat) (l : List Stmt), Stmts.sz l < N → few l → (∀ x ∈ l, x.ok) → ∀ (h : AHeap), ACalls prog 99 [.sl (l.map eStmt) false, .str name] h (fun v g => v = .bool (decide (name ∈ useSs l)) ∧ g = h) := by
 intro N
 induction N with
 | zero => intro l h; omega
 | succ N ih =>
  intro l hN hl hok h
  refine F99.calls (by simp) ?_
  delta F99.c0
  simp -implicitDefEqProofs only [go_sem,seval]
  refine lT_list l (fun pre post e g => (name ∈ useSs l ↔ name ∈ useSs post) ∧ h = g ∧ e = [(0, .sl (l.map eStmt) false), (1, .str name), (5, .int .i64 pre.length)]) (WeakE.env ?_) ⟨Iff.rfl, rfl, rfl⟩ ?_ ?_
  ·simp -implicitDefEqProofs only [go_sem,seval]
  ·rintro pre x post e g hp ⟨hk, rfl, rfl⟩
   have hx := mem_at hp
   have hxz := Stmts.sz_mem hx
   have hz := Stmt.sz_eq x
   obtain ⟨_, _, okp, fe, oke, fb, okb, fs, oks, _⟩ := (Stmt.ok_iff x).1 (hok x hx)
   have hUx := useS_eq x
   have hrow := map_at (e := eStmt) hp
   have hcase : (x.op = 6 ∧ x.name = name) ∨ ¬ x.op = 6 ∨ (x.op = 6 ∧ ¬ x.name = name) := by
    by_cases a : x.op = 6 <;> by_cases b : x.name = name <;> simp only [a, b, true_and, and_true, false_and, and_false, not_true, not_false_iff, or_true, true_or]
   have yes : name ∈ useS x → name ∈ useSs l := fun hm => hk.2 (by simp [useSs, hm])
   have hfor : ¬ (x.op = 6 ∧ x.name = name) → (name ∈ useS x ↔ name ∈ useE x.p ∨ name ∈ useSs x.body ∨ name ∈ useSs x.els ∨ name ∈ useEs x.e) := fun hc => by
    rw [hUx]
    have h0 : ¬ name ∈ (if x.op = 6 then [x.name] else []) := by
     split
     ·rename_i h6
      intro hh
      simp only [List.mem_cons, List.not_mem_nil, or_false] at hh
      exact hc ⟨h6, hh.symm⟩
     ·simp
    simp only [List.mem_append, h0, false_or]
    constructor
    ·rintro (((h | h) | h) | h)
     ·exact .inl h
     ·exact .inr (.inr (.inr h))
     ·exact .inr (.inl h)
     ·exact .inr (.inr (.inl h))
    ·rintro (h | h | h | h)
     ·exact .inl (.inl (.inl h))
     ·exact .inl (.inr h)
     ·exact .inr h
     ·exact .inl (.inl (.inr h))
   rcases hcase with ⟨a, b⟩ | a | ⟨a, b⟩
   ·simp -implicitDefEqProofs only [go_sem,seval, lt_at hp, aia_sl hrow (eStmt_len x), stmt_2, stmt_3, a, b]
    refine lessQ.same ?_
    simp -implicitDefEqProofs only [go_sem,seval]
    refine .same ⟨?_, rfl⟩
    have : name ∈ useSs l := yes (by rw [hUx, if_pos a]; simp [b])
    simp [this]
   all_goals first | simp -implicitDefEqProofs only [go_sem,seval, lt_at hp, aia_sl hrow (eStmt_len x), stmt_2, stmt_3, a, b, eStmt_len, eExpr_len, stmt_p] | simp -implicitDefEqProofs only [go_sem,seval, lt_at hp, aia_sl hrow (eStmt_len x), stmt_2, stmt_3, a, eStmt_len, eExpr_len, stmt_p]
   all_goals have hfor := hfor (fun hh => by first | exact b hh.2 | exact a hh.1)
   all_goals (
    refine tcE (named_spec name _ x.p (Nat.lt_succ_self _) okp _) ?_
    by_cases m1 : name ∈ useE x.p
    ·simp -implicitDefEqProofs only [go_sem,seval, m1]
     refine lessQ.same ?_
     simp -implicitDefEqProofs only [go_sem,seval]
     refine .same ⟨?_, rfl⟩
     have : name ∈ useSs l := yes (hfor.2 (.inl m1))
     simp [this]
    simp -implicitDefEqProofs only [go_sem,seval, m1, aia_sl hrow (eStmt_len x), stmt_12]
    refine tcE (ih x.body (by omega) fb okb _) ?_
    by_cases m2 : name ∈ useSs x.body
    ·simp -implicitDefEqProofs only [go_sem,seval, m2]
     refine lessQ.same ?_
     simp -implicitDefEqProofs only [go_sem,seval]
     refine .same ⟨?_, rfl⟩
     have : name ∈ useSs l := yes (hfor.2 (.inr (.inl m2)))
     simp [this]
    simp -implicitDefEqProofs only [go_sem,seval, m2, aia_sl hrow (eStmt_len x), stmt_13]
    refine tcE (ih x.els (by omega) fs oks _) ?_
    by_cases m3 : name ∈ useSs x.els
    ·simp -implicitDefEqProofs only [go_sem,seval, m3]
     refine lessQ.same ?_
     simp -implicitDefEqProofs only [go_sem,seval]
     refine .same ⟨?_, rfl⟩
     have : name ∈ useSs l := yes (hfor.2 (.inr (.inr (.inl m3))))
     simp [this]
    simp -implicitDefEqProofs only [go_sem,seval, m3]
    refine lT_list x.e (fun pre2 post2 e g => (name ∈ useEs x.e ↔ name ∈ useEs post2) ∧ h = g ∧ e = [(0, .sl (l.map eStmt) false), (1, .str name), (5, .int .i64 pre.length), (6, .int .i64 pre2.length)]) (WeakE.env ?_) ⟨Iff.rfl, rfl, rfl⟩ ?_ ?_
    ·simp -implicitDefEqProofs only [go_sem,seval]
    ·rintro pre2 y post2 e g hp2 ⟨hk2, rfl, rfl⟩
     have hrow2 := map_at (e := eExpr) hp2
     simp -implicitDefEqProofs only [go_sem,seval, aia_sl hrow (eStmt_len x), stmt_9, lt_at hp2, aia_sl hrow2 (eExpr_len y), eExpr_len, expr_take]
     refine tcE (named_spec name _ y (Nat.lt_succ_self _) (oke y (mem_at hp2)) _) ?_
     by_cases m4 : name ∈ useE y
     ·simp -implicitDefEqProofs only [go_sem,seval, m4]
      refine lessQ.same ?_
      simp -implicitDefEqProofs only [go_sem,seval]
      refine lessQ.same ?_
      simp -implicitDefEqProofs only [go_sem,seval]
      refine .same ⟨?_, rfl⟩
      have : name ∈ useSs l := yes (hfor.2 (.inr (.inr (.inr (hk2.2 (by simp [useEs, m4]))))))
      simp [this]
     ·simp -implicitDefEqProofs only [go_sem,seval, m4]
      refine ⟨_, _, WeakE.env ?_, ?_, rfl, rfl⟩
      ·simp -implicitDefEqProofs only [go_sem,seval, step_at fe hp2]
      ·rw [hk2]; simp [useEs, m4]
    ·rintro e g ⟨hk2, rfl, rfl⟩
     simp -implicitDefEqProofs only [go_sem,seval, aia_sl hrow (eStmt_len x), stmt_9, lt_end]
     refine lessQ.same ?_
     simp -implicitDefEqProofs only [go_sem,seval]
     refine ⟨_, _, WeakE.env ?_, ?_, rfl, rfl⟩
     ·simp -implicitDefEqProofs only [go_sem,seval, step_at hl hp]
     ·rw [hk]
      have : ¬ name ∈ useS x := fun hh => by
       rcases hfor.1 hh with h | h | h | h
       ·exact m1 h
       ·exact m2 h
       ·exact m3 h
       ·simpa [useEs] using hk2.1 h
      simp [useSs, this])
  ·rintro e g ⟨hk, rfl, rfl⟩
   simp -implicitDefEqProofs only [go_sem,seval, lt_end]
   refine lessQ.same ?_
   simp -implicitDefEqProofs only [go_sem,seval]
   refine .same ⟨?_, rfl⟩
   have : ¬ name ∈ useSs l := fun hh => by simpa [useSs] using hk.1 hh
   simp [this]
end Pg
namespace Pg
open Go Go.Proofs.Tryz
structure RefOk (p : List Routine) (L0 : List ByteArray) : Prop extends known : Known p L0 where
 len : (nodesOf p).length ≤ 1048576
 ok : ∀ n ∈ nodesOf p, n.r.ok ∧ wR n.r ≤ 274877906944
abbrev bcs (bs : List Bool) : List AV := bs.map fun b => .bool b
theorem bcs_set (bs : List Bool) (i : Nat) (b : Bool) (hi : i < bs.length) : splice (bcs bs) i [.bool b] = bcs (bs.set i b) := by
 rw [splice_one (by simpa using hi)]; simp [bcs, List.map_set]
theorem getD_set {bs : List Bool} {i j : Nat} {b : Bool} (hi : i < bs.length) : (bs.set i b)[j]? = if i = j then some b else bs[j]? := by
 rw [List.getElem?_set]; split <;> simp_all
open Classical in
theorem captures_spec [GI] {p : List Routine} {L0 : List ByteArray} (s : RefOk p L0) (h : AHeap) {o k : Nat} {m : CN} {x : Param} (hm : (nodesOf p)[o]? = some m) (hx : (locs m.r)[k]? = some x) :
  ACalls prog 62 [.sl ((nodesOf p).map eNd) false, .int .i64 o, .str x.name] h (fun v g => (∃ bs : List Bool, v = .sl (bs.map fun b => [.bool b]) false ∧ bs.length = (nodesOf p).length ∧ ∀ (j : Nat) b, bs[j]? = some b → (b = true ↔ Caps (gra p) j (o, k))) ∧ g = h) := by
 have hlen := s.len
 have har := s.around
 have hfN : few (nodesOf p) := by unfold few; omega
 have ho : o < (nodesOf p).length := (List.getElem?_eq_some_iff.1 hm).1
 have hus := fun {j : Nat} {n : CN} (hn : (nodesOf p)[j]? = some n) => use_iff s.sense hn hm hx
 refine F62.calls (by simp) ?_
 delta F62.c0
 simp -implicitDefEqProofs only [go_sem,seval]
 refine mkslT_intro (by omega) (by omega) (fun ob hob => ?_)
 have hrep : List.replicate (nodesOf p).length (AV.bool false) = bcs (List.replicate (nodesOf p).length false) := by simp [bcs]
 rw [hrep]
 simp -implicitDefEqProofs only [go_sem,seval]
 refine lT_list (nodesOf p) (fun pre post e g => ∃ bs : List Bool, bs.length = (nodesOf p).length ∧ (∀ j : Nat, bs[j]? = some true ↔ j < pre.length ∧ (o, k) ∈ (gra p).hs0 j) ∧ e = [(0, .sl ((nodesOf p).map eNd) false), (1, .int .i64 o), (2, .str x.name), (7, .os ob (nodesOf p).length (nodesOf p).length), (8, .int .i64 pre.length)] ∧ g = h.upd ob (.blk (bcs bs) (nodesOf p).length 4)) (WeakE.env ?_) ⟨_, by simp, fun j => ?_, rfl, rfl⟩ ?_ ?_
 ·simp -implicitDefEqProofs only [go_sem,seval]
 ·rw [List.getElem?_replicate]
  split <;> simp
 ·rintro pre n post e g hp ⟨bs, hbl, hb, rfl, rfl⟩
  have hn := (at_pre hp).1
  have hnl := (at_pre hp).2
  have hrow := map_at (e := eNd) hp
  have n9 : (eNd n)[9]? = some (.sl (n.r.body.map eStmt) false) := rfl
  obtain ⟨hok, hwn⟩ := s.ok n (mem_at hp)
  obtain ⟨_, _, _, _, _, _, _, fb, okb, _⟩ := (Routine.ok_iff n.r).1 hok
  have hst : (pre.length + 1 ≤ bs.length) = True := by simp; omega
  have fin : ∀ b : Bool, (b = true ↔ (o, k) ∈ (gra p).hs0 pre.length) → (bs.set pre.length b).length = (nodesOf p).length ∧ ∀ j : Nat, (bs.set pre.length b)[j]? = some true ↔ j < (pre ++ [n]).length ∧ (o, k) ∈ (gra p).hs0 j := fun b hbb => by
   refine ⟨by simpa using hbl, fun j => ?_⟩
   rw [getD_set (by omega)]
   simp only [List.length_append, List.length_cons, List.length_nil]
   split
   ·rename_i hj
    subst hj
    simp only [Option.some.injEq, hbb]
    constructor
    ·exact fun h => ⟨by omega, h⟩
    ·exact fun h => h.2
   ·rw [hb]
    constructor
    ·exact fun h => ⟨by omega, h.2⟩
    ·exact fun h => ⟨by omega, h.2⟩
  simp -implicitDefEqProofs only [go_sem,seval, lt_at hp]
  refine tcE (Within_spec _ (nodesOf p) hlen har pre.length o hnl) ?_
  by_cases hu : Up (nodesOf p) pre.length o
  ·simp -implicitDefEqProofs only [go_sem,seval, hu, aia_sl hrow (eNd_len n), n9]
   refine tcE (Uses_spec x.name _ n.r.body (Nat.lt_succ_self _) fb okb _) ?_
   simp -implicitDefEqProofs only [go_sem,seval, aia_os1 hnl, hst, bcs_set bs pre.length _ (by omega), upd_upd]
   obtain ⟨f1, f2⟩ := fin (decide (x.name ∈ useSs n.r.body)) (by rw [hus hn]; simp [hu])
   refine ⟨_, _, WeakE.env ?_, _, f1, f2, rfl, rfl⟩
   simp -implicitDefEqProofs only [go_sem,seval, step_at hfN hp]
  ·simp -implicitDefEqProofs only [go_sem,seval, hu, aia_os1 hnl, hst, bcs_set bs pre.length _ (by omega), upd_upd]
   obtain ⟨f1, f2⟩ := fin false (by rw [hus hn]; simp [hu])
   refine ⟨_, _, WeakE.env ?_, _, f1, f2, rfl, rfl⟩
   simp -implicitDefEqProofs only [go_sem,seval, step_at hfN hp]
 ·rintro e g ⟨bs, hbl, hb, rfl, rfl⟩
  simp -implicitDefEqProofs only [go_sem,seval, lt_end]
  refine lessQ.same ?_
  simp -implicitDefEqProofs only [go_sem,seval]
  have hs0 : Sound p o k bs := ⟨hbl, fun j hj => .use ((hb j).1 hj).2⟩
  have hi0 : ∀ j, (o, k) ∈ (gra p).hs0 j → bs[j]? = some true := fun j hj => by
   refine (hb j).2 ⟨?_, hj⟩
   have u := caps_up (p := p) (.use hj)
   cases u with
   | base h _ => exact (List.getElem?_eq_some_iff.1 h).1
   | step h _ _ => exact (List.getElem?_eq_some_iff.1 h).1
  clear hb hbl
  refine lT_list (nodesOf p) (fun pre post e g => ∃ bs : List Bool, Sound p o k bs ∧ (∀ j, (o, k) ∈ (gra p).hs0 j → bs[j]? = some true) ∧ (All p o k bs ∨ pre.length ≤ trues bs) ∧ e = [(0, .sl ((nodesOf p).map eNd) false), (1, .int .i64 o), (7, .os ob (nodesOf p).length (nodesOf p).length), (9, .int .i64 pre.length)] ∧ g = h.upd ob (.blk (bcs bs) (nodesOf p).length 4)) (WeakE.env ?_) ⟨bs, hs0, hi0, .inr (Nat.zero_le _), rfl, rfl⟩ ?_ ?_
  ·simp -implicitDefEqProofs only [go_sem,seval]
  ·rintro pre n0 post e g hp ⟨bs, hs, hi, ha, rfl, rfl⟩
   simp -implicitDefEqProofs only [go_sem,seval, lt_at hp]
   refine lT_list (nodesOf p) (fun pre2 post2 e g => ∃ cur : List Bool, Sound p o k cur ∧ Sub bs cur ∧ (∀ i v : Nat, i < pre2.length → Up (nodesOf p) i o → Goes p i v → bs[v]? = some true → cur[i]? = some true) ∧ e = [(0, .sl ((nodesOf p).map eNd) false), (1, .int .i64 o), (7, .os ob (nodesOf p).length (nodesOf p).length), (9, .int .i64 pre.length), (10, .int .i64 pre2.length)] ∧ g = h.upd ob (.blk (bcs cur) (nodesOf p).length 4)) (WeakE.env ?_) ⟨bs, hs, .refl _, fun i v hi => absurd hi (Nat.not_lt_zero _), rfl, rfl⟩ ?_ ?_
   ·simp -implicitDefEqProofs only [go_sem,seval]
   ·rintro pre2 n post2 e g hp2 ⟨cur, hc, hsub, hdone, rfl, rfl⟩
    have hn := (at_pre hp2).1
    have hnl := (at_pre hp2).2
    have hrow := map_at (e := eNd) hp2
    have n9 : (eNd n)[9]? = some (.sl (n.r.body.map eStmt) false) := rfl
    obtain ⟨hok, hwn⟩ := s.ok n (mem_at hp2)
    obtain ⟨_, _, _, _, _, _, _, fb, okb, _⟩ := (Routine.ok_iff n.r).1 hok
    have hcl := hc.len
    obtain ⟨ci, hci⟩ : ∃ b, cur[pre2.length]? = some b := ⟨_, List.getElem?_eq_getElem (by omega)⟩
    have hcc : (bcs cur)[pre2.length]? = some (.bool ci) := by simp [bcs, hci]
    have more : ∀ cur' : List Bool, Sound p o k cur' → Sub cur cur' → (∀ v : Nat, Up (nodesOf p) pre2.length o → Goes p pre2.length v → bs[v]? = some true → cur'[pre2.length]? = some true) → Sound p o k cur' ∧ Sub bs cur' ∧ (∀ i v : Nat, i < (pre2 ++ [n]).length → Up (nodesOf p) i o → Goes p i v → bs[v]? = some true → cur'[i]? = some true) := fun cur' h1 h2 h3 => by
     refine ⟨h1, hsub.trans h2, fun i v hi hu hg hv => ?_⟩
     by_cases hii : i = pre2.length
     ·subst hii; exact h3 v hu hg hv
     ·refine h2.2 i (hdone i v ?_ hu hg hv)
      simp only [List.length_append, List.length_cons, List.length_nil] at hi
      omega
    cases ci with
    | true =>
     simp -implicitDefEqProofs only [go_sem,seval, lt_at hp2, aia_os1 hnl, hcc]
     obtain ⟨m1, m2, m3⟩ := more cur hc (.refl _) (fun _ _ _ _ => hci)
     refine ⟨_, _, WeakE.env ?_, cur, m1, m2, m3, rfl, rfl⟩
     simp -implicitDefEqProofs only [go_sem,seval, step_at hfN hp2]
    | false =>
     simp -implicitDefEqProofs only [go_sem,seval, lt_at hp2, aia_os1 hnl, hcc]
     refine tcE (Within_spec _ (nodesOf p) hlen har pre2.length o hnl) ?_
     by_cases hu : Up (nodesOf p) pre2.length o
     ·simp -implicitDefEqProofs only [go_sem,seval, hu, aia_sl hrow (eNd_len n), n9]
      have hwR := wR_eq n.r
      have hcl2 := callSs_len _ n.r.body (Nat.le_refl _)
      refine tcE (Calls_spec _ n.r.body (Nat.lt_succ_self _) fb okb (by omega) false _) ?_
      have hfc : few (callSs n.r.body) := by unfold few; omega
      have hcalls := s.calls pre2.length n hn
      have hgo : ∀ v : Nat, Goes p pre2.length v → ∃ name ∈ callSs n.r.body, calleeAt (nodesOf p) name (pre2.length + 2) pre2.length = (v : Int) := fun v ⟨n', e', name, h1, h2⟩ => by
       rw [hn] at e'; cases e'
       exact ⟨name, h1, h2⟩
      have hgo' : ∀ (v : Nat), ∀ name ∈ callSs n.r.body, calleeAt (nodesOf p) name (pre2.length + 2) pre2.length = (v : Int) → Goes p pre2.length v := fun v name h1 h2 => ⟨n, hn, name, h1, h2⟩
      generalize callSs n.r.body = CC at hcalls hfc hgo hgo'
      simp -implicitDefEqProofs only [go_sem,seval]
      refine lT_list CC (fun preC postC e g => ∃ cur' : List Bool, Sound p o k cur' ∧ Sub cur cur' ∧ (∀ v : Nat, ∀ name ∈ preC, calleeAt (nodesOf p) name (pre2.length + 2) pre2.length = (v : Int) → bs[v]? = some true → cur'[pre2.length]? = some true) ∧ e = [(0, .sl ((nodesOf p).map eNd) false), (1, .int .i64 o), (7, .os ob (nodesOf p).length (nodesOf p).length), (9, .int .i64 pre.length), (10, .int .i64 pre2.length), (11, .sl (txt CC) false), (12, .int .i64 preC.length)] ∧ g = h.upd ob (.blk (bcs cur') (nodesOf p).length 4)) (WeakE.env ?_) ⟨cur, hc, .refl _, fun _ _ hh => by simp at hh, rfl, rfl⟩ ?_ ?_
      ·simp -implicitDefEqProofs only [go_sem,seval]
      ·rintro preC c postC e g hpC ⟨cur', hc', hsub', hd', rfl, rfl⟩
       have hcrow : (txt CC)[preC.length]? = some [.str c] := map_at hpC
       obtain ⟨v, _, hv, hcv⟩ := hcalls c (mem_at hpC)
       have hcl' := hc'.len
       obtain ⟨cv, hcvv⟩ : ∃ b, cur'[v]? = some b := ⟨_, List.getElem?_eq_getElem (by omega)⟩
       have hccv : (bcs cur')[v]? = some (.bool cv) := by simp [bcs, hcvv]
       have e1 : ((v : Int) ≥ 0) = True := by simp
       have hst : (pre2.length + 1 ≤ cur'.length) = True := by simp; omega
       simp -implicitDefEqProofs only [go_sem,seval, lt_at hpC, aia_sl (size := 1) hcrow rfl]
       refine tcE (Callee_spec _ (nodesOf p) hlen har pre2.length (by omega) (by omega) c) ?_
       rw [show ((pre2.length : Int) + 2).toNat = pre2.length + 2 by omega, hcv]
       cases cv with
       | true =>
        simp -implicitDefEqProofs only [go_sem,seval, e1, aia_os1 hv, hccv, aia_os1 hnl, hst, bcs_set cur' pre2.length _ (by omega), upd_upd]
        refine ⟨_, _, WeakE.env ?_, cur'.set pre2.length true, hc'.turn s.known hu (hgo' v c (mem_at hpC) hcv) hcvv, hsub'.trans (.set _ _), fun v' name' _ _ _ => ?_, rfl, rfl⟩
        ·simp -implicitDefEqProofs only [go_sem,seval, step_at hfc hpC]
        ·rw [getD_set (by omega), if_pos rfl]
       | false =>
        simp -implicitDefEqProofs only [go_sem,seval, e1, aia_os1 hv, hccv]
        refine ⟨_, _, WeakE.env ?_, cur', hc', hsub', fun v' name' hn' hcv' hbv => ?_, rfl, rfl⟩
        ·simp -implicitDefEqProofs only [go_sem,seval, step_at hfc hpC]
        ·rcases List.mem_append.1 hn' with hn' | hn'
         ·exact hd' v' name' hn' hcv' hbv
         ·simp only [List.mem_cons, List.not_mem_nil, or_false] at hn'
          subst hn'
          have : v' = v := by omega
          subst this
          have := hsub'.2 v' (hsub.2 v' hbv)
          rw [hcvv] at this; cases this
      ·rintro e g ⟨cur', hc', hsub', hd', rfl, rfl⟩
       simp -implicitDefEqProofs only [go_sem,seval, lt_end]
       refine lessQ.same ?_
       simp -implicitDefEqProofs only [go_sem,seval]
       obtain ⟨m1, m2, m3⟩ := more cur' hc' hsub' (fun v _ hg hbv => by
        obtain ⟨name, h1, h2⟩ := hgo v hg
        exact hd' v name h1 h2 hbv)
       refine ⟨_, _, WeakE.env ?_, cur', m1, m2, m3, rfl, rfl⟩
       simp -implicitDefEqProofs only [go_sem,seval, step_at hfN hp2]
     ·simp -implicitDefEqProofs only [go_sem,seval, hu]
      obtain ⟨m1, m2, m3⟩ := more cur hc (.refl _) (fun _ hu' _ _ => absurd hu' hu)
      refine ⟨_, _, WeakE.env ?_, cur, m1, m2, m3, rfl, rfl⟩
      simp -implicitDefEqProofs only [go_sem,seval, step_at hfN hp2]
   ·rintro e g ⟨cur, hc, hsub, hdone, rfl, rfl⟩
    simp -implicitDefEqProofs only [go_sem,seval, lt_end]
    refine lessQ.same ?_
    simp -implicitDefEqProofs only [go_sem,seval]
    refine ⟨_, _, WeakE.env ?_, cur, hc, fun j hj => hsub.2 j (hi j hj), ?_, rfl, rfl⟩
    ·simp -implicitDefEqProofs only [go_sem,seval, step_at hfN hp]
    ·rw [List.length_append, List.length_cons, List.length_nil]
     refine all_step s.known hs hi hsub (fun i v hu hg hv => hdone i v ?_ hu hg hv) ha
     cases hu with
     | base h _ => exact (List.getElem?_eq_some_iff.1 h).1
     | step h _ _ => exact (List.getElem?_eq_some_iff.1 h).1
  ·rintro e g ⟨bs, hs, hi, ha, rfl, rfl⟩
   simp -implicitDefEqProofs only [go_sem,seval, lt_end]
   refine lessQ.same ?_
   simp -implicitDefEqProofs only [go_sem,seval]
   have hl := hs.len
   refine EndW.own (by simp [hl]) (upd_same _ _ _) (size := 1) (es := bs.map fun b => [AV.bool b]) ?_ (fun e he => ?_) (by simp [hl]) ⟨⟨bs, rfl, hl, ?_⟩, ?_⟩
   ·rw [List.take_of_length_le (by simp [bcs])]
    have := flat_one (bcs bs)
    simpa [bcs, List.map_map, Function.comp_def] using this
   ·obtain ⟨b, _, rfl⟩ := List.mem_map.1 he
    rfl
   ·refine all_end hs ha (fun j c => ?_)
    have u := caps_up c
    cases u with
    | base h _ => exact (List.getElem?_eq_some_iff.1 h).1
    | step h _ _ => exact (List.getElem?_eq_some_iff.1 h).1
   ·exact del_upd _ _ _ hob
end Pg
namespace Pg
open Go Go.Proofs.Tryz
inductive GLs (ty : TypeId) (size : Nat) : AHeap → AHeap → List AV → List (List (List AV)) → Prop
 | nil (h : AHeap) : GLs ty size h h [] []
 | cons {h0 h1 h : AHeap} {v : AV} {rows : List (List AV)} {vs : List AV} {rss : List (List (List AV))} (g : GL ty size h0 h1 v rows) (r : GLs ty size h1 h vs rss) : GLs ty size h0 h (v :: vs) (rows :: rss)
theorem GLs.nils {ty : TypeId} {size : Nat} (h : AHeap) : ∀ n, GLs ty size h h (List.replicate n (.sl [] true)) (List.replicate n [])
 | 0 => .nil h
 | n + 1 => .cons (.nil h) (GLs.nils h n)
theorem GLs.push {ty : TypeId} {size : Nat} {h1 h : AHeap} {vs : List AV} {rss : List (List (List AV))} (r : GLs ty size h1 h vs rss) : ∀ {h0 : AHeap} {v : AV} {rows : List (List AV)}, GL ty size h0 h1 v rows → ∃ k, GLs ty size h0 k vs rss ∧ GL ty size k h v rows := by
 induction r with
 | nil h => exact fun g => ⟨_, .nil _, g⟩
 | cons g' r ih =>
  intro h0 v rows g
  obtain ⟨k1, a, b⟩ := g.swap g'
  obtain ⟨k, c, d⟩ := ih b
  exact ⟨k, .cons a c, d⟩
theorem GLs.pull {ty : TypeId} {size : Nat} {h0 k : AHeap} {vs : List AV} {rss : List (List (List AV))} (r : GLs ty size h0 k vs rss) : ∀ {h : AHeap} {v : AV} {rows : List (List AV)}, GL ty size k h v rows → ∃ h1, GL ty size h0 h1 v rows ∧ GLs ty size h1 h vs rss := by
 induction r with
 | nil h => exact fun g => ⟨_, g, .nil _⟩
 | cons g' r ih =>
  intro h v rows g
  obtain ⟨h1, a, b⟩ := ih g
  obtain ⟨k', c, d⟩ := g'.swap a
  exact ⟨k', c, .cons d b⟩
theorem GLs.at {ty : TypeId} {size : Nat} {h0 h : AHeap} {vs : List AV} {rss : List (List (List AV))} (r : GLs ty size h0 h vs rss) : ∀ {j : Nat} {v : AV} {rows : List (List AV)}, vs[j]? = some v → rss[j]? = some rows → ∃ k, GL ty size k h v rows ∧ ∀ v' h' rows', GL ty size k h' v' rows' → GLs ty size h0 h' (vs.set j v') (rss.set j rows') := by
 induction r with
 | nil h => intro j v rows h1; simp at h1
 | cons g r ih =>
  intro j v rows h1 h2
  cases j with
  | zero =>
   simp only [List.getElem?_cons_zero, Option.some.injEq] at h1 h2
   subst h1 h2
   obtain ⟨k, a, b⟩ := r.push g
   refine ⟨k, b, fun v' h' rows' g' => ?_⟩
   obtain ⟨h1, c, d⟩ := a.pull g'
   exact .cons c d
  | succ j =>
   obtain ⟨k, a, b⟩ := ih (by simpa using h1) (by simpa using h2)
   exact ⟨k, a, fun v' h' rows' g' => .cons g (b v' h' rows' g')⟩
theorem GLs.upd {ty : TypeId} {size : Nat} {h0 h : AHeap} {vs : List AV} {rss : List (List (List AV))} (r : GLs ty size h0 h vs rss) : ∀ {p : Nat} {x : AObj}, h0 p = some x → ∀ o, GLs ty size (h0.upd p o) (h.upd p o) vs rss := by
 induction r with
 | nil h => exact fun _ _ => .nil _
 | cons g r ih => exact fun hp o => .cons (g.upd hp o) (ih (g.at hp) o)
theorem GLs.le {ty : TypeId} {size : Nat} {h0 h : AHeap} {vs : List AV} {rss : List (List (List AV))} (r : GLs ty size h0 h vs rss) : h0.le h := by
 induction r with
 | nil h => exact AHeap.le_refl _
 | cons g r ih => exact AHeap.le_trans g.le ih
theorem GLs.avles {ty : TypeId} {size : Nat} {h0 h : AHeap} {vs : List AV} {rss : List (List (List AV))} (r : GLs ty size h0 h vs rss) : AVles vs (rss.map fun rows => .sl rows false) := by
 induction r with
 | nil h => exact .nil
 | cons g r ih => exact .cons g.avle ih
theorem GLs.lens {ty : TypeId} {size : Nat} {h0 h : AHeap} {vs : List AV} {rss : List (List (List AV))} (r : GLs ty size h0 h vs rss) : vs.length = rss.length := by
 induction r with
 | nil h => rfl
 | cons g r ih => simp [ih]
open Classical in
noncomputable def capF (p : List Routine) (j : Nat) : Nat → Nat → Bool := fun i k => decide (Caps (gra p) j (i, k))
theorem cUps_eq (p : List Routine) : cUps p = (List.range (nodesOf p).length).map fun j => upN (capF p j) 0 (nodesOf p) := rfl
theorem nLocs_at {l pre post : List CN} {n : CN} (h : l = pre ++ n :: post) : nLocs l = nLocs pre + (locs n.r).length + nLocs post := by
 subst h; simp [nLocs]; omega
theorem RefUps_spec [GI] {p : Prg} (ho : p.ok) {L0 : List ByteArray} (s : RefOk p.routines L0) (b1 : wRs p.routines ≤ 274877906944) (b2 : nwRs p.routines ≤ 274877906944) (h : AHeap) :
  ACalls prog 35 [.agg (ePrg p)] h (fun v g => v = .sl ((cUps p.routines).map uRow) false ∧ g = h) := by
 have hlen := s.len
 have hfN : few (nodesOf p.routines) := by unfold few; omega
 have hnl : nLocs (nodesOf p.routines) ≤ 274877906944 := Nat.le_trans (nLocs_le _ p.routines (Nat.lt_succ_self _) 0 p.routines (-1) noBytes) b1
 refine F35.calls (by simp) ?_
 delta F35.c0
 simp -implicitDefEqProofs only [go_sem,seval, prg_6]
 refine callT_of (Nodes_spec _ p.routines (Nat.lt_succ_self _) ho.routines ho.eachRoutine h h (.sl [] true) [] (-1) noBytes (.nil h) (by simpa using b1) (by have : noBytes.size = 0 := rfl; omega)) (fun w g1 G1 => ?_)
 simp only [List.nil_append, List.length_nil] at G1
 change GL _ _ _ _ _ ((nodesOf p.routines).map eNd) at G1
 have hlen1 := G1.len
 rw [List.length_map] at hlen1
 rw [cUps_eq]
 simp -implicitDefEqProofs only [go_sem,seval, hlen1]
 refine mkslT_intro (by omega) (by omega) (fun ob hob => ?_)
 have hob0 : h ob = none := by
  cases hh : h ob with
  | none => rfl
  | some x => rw [G1.at hh] at hob; cases hob
 simp -implicitDefEqProofs only [go_sem,seval]
 refine lT_list (nodesOf p.routines) (fun pre post e g => ∃ (vs : List AV) (rss : List (List Param)), vs.length = (nodesOf p.routines).length ∧ GLs 105 5 (h.upd ob (.blk vs (nodesOf p.routines).length 41)) g vs (rss.map fun R => R.map eParam) ∧ (∀ (j : Nat) R, rss[j]? = some R → R = upN (capF p.routines j) 0 pre) ∧ e = [(3, .sl ((nodesOf p.routines).map eNd) false), (4, .os ob (nodesOf p.routines).length (nodesOf p.routines).length), (5, .int .i64 pre.length)]) (WeakE.of ?_ (.of_le (le_upd_upd G1.le ob _))) ⟨_, List.replicate (nodesOf p.routines).length [], List.length_replicate .., by rw [List.map_replicate]; exact GLs.nils _ _, fun j R hR => ?_, rfl⟩ ?_ ?_
 ·simp -implicitDefEqProofs only [go_sem,seval]
  exact G1.avle
 ·rw [List.getElem?_replicate] at hR
  split at hR
  ·cases hR; rfl
  ·cases hR
 ·rintro pre n post e g hp ⟨vs, rss, hvl, G, hR, rfl⟩
  have hn := (at_pre hp).1
  have hpl := (at_pre hp).2
  have hrow := map_at (e := eNd) hp
  have n11 : (eNd n)[11]? = some (.sl ((locs n.r).map eParam) false) := rfl
  have hnn := nLocs_at hp
  have hfl : few (locs n.r) := by unfold few; omega
  simp -implicitDefEqProofs only [go_sem,seval, lt_at hp]
  refine lT_list (locs n.r) (fun pre2 post2 e g => ∃ (vs : List AV) (rss : List (List Param)), vs.length = (nodesOf p.routines).length ∧ GLs 105 5 (h.upd ob (.blk vs (nodesOf p.routines).length 41)) g vs (rss.map fun R => R.map eParam) ∧ (∀ (j : Nat) R, rss[j]? = some R → R = upN (capF p.routines j) 0 pre ++ upL (capF p.routines j) pre.length 0 pre2) ∧ e = [(3, .sl ((nodesOf p.routines).map eNd) false), (4, .os ob (nodesOf p.routines).length (nodesOf p.routines).length), (5, .int .i64 pre.length), (6, .int .i64 pre2.length)]) (WeakE.env ?_) ⟨vs, rss, hvl, G, fun j R h => by rw [hR j R h]; simp [upL], rfl⟩ ?_ ?_
  ·simp -implicitDefEqProofs only [go_sem,seval]
  ·rintro pre2 x post2 e g hp2 ⟨vs, rss, hvl, G, hR, rfl⟩
   have hx := (at_pre hp2).1
   have hpl2 := (at_pre hp2).2
   have hrow2 := map_at (e := eParam) hp2
   simp -implicitDefEqProofs only [go_sem,seval, aia_sl hrow (eNd_len n), n11, lt_at hp2, aia_sl hrow2 (eParam_len x), param_0]
   refine callT_of (captures_spec s _ hn hx) (fun v2 g2 ⟨⟨bs, hv, hbl, hbs⟩, hg⟩ => ?_)
   subst v2 g2
   simp -implicitDefEqProofs only [go_sem,seval]
   refine lT_list (nodesOf p.routines) (fun pre3 post3 e g => ∃ (vs : List AV) (rss : List (List Param)), vs.length = (nodesOf p.routines).length ∧ GLs 105 5 (h.upd ob (.blk vs (nodesOf p.routines).length 41)) g vs (rss.map fun R => R.map eParam) ∧ (∀ (j : Nat) R, rss[j]? = some R → R = upN (capF p.routines j) 0 pre ++ upL (capF p.routines j) pre.length 0 (if j < pre3.length then pre2 ++ [x] else pre2)) ∧ e = [(3, .sl ((nodesOf p.routines).map eNd) false), (4, .os ob (nodesOf p.routines).length (nodesOf p.routines).length), (5, .int .i64 pre.length), (6, .int .i64 pre2.length), (7, .sl (bs.map fun b => [.bool b]) false), (8, .int .i64 pre3.length)]) (WeakE.env ?_) ⟨vs, rss, hvl, G, fun j R h => by simpa using hR j R h, rfl⟩ ?_ ?_
   ·simp -implicitDefEqProofs only [go_sem,seval]
   ·rintro pre3 nj post3 e g hp3 ⟨vs, rss, hvl, G, hR, rfl⟩
    have hjl := (at_pre hp3).2
    obtain ⟨b, hb⟩ : ∃ b, bs[pre3.length]? = some b := ⟨_, List.getElem?_eq_getElem (by omega)⟩
    have hbrow : (bs.map fun b => [AV.bool b])[pre3.length]? = some [.bool b] := by simp [hb]
    have hcap := hbs _ _ hb
    have hcapF : capF p.routines pre3.length pre.length pre2.length = b := by
     unfold capF
     cases b with
     | true => simp only [decide_eq_true_eq]; exact hcap.1 rfl
     | false => simp only [decide_eq_false_iff_not]; exact fun c => by have := hcap.2 c; cases this
    have next : ∀ j : Nat, j ≠ pre3.length → (if j < (pre3 ++ [nj]).length then pre2 ++ [x] else pre2) = (if j < pre3.length then pre2 ++ [x] else pre2) := fun j hj => by
     have : (j < (pre3 ++ [nj]).length) = (j < pre3.length) := by simp; omega
     simp only [this]
    have hlens := G.lens
    rw [List.length_map] at hlens
    cases b with
    | false =>
     simp -implicitDefEqProofs only [go_sem,seval, lt_at hp3, aia_sl (size := 1) hbrow rfl]
     refine ⟨_, _, WeakE.env ?_, vs, rss, hvl, G, fun j R h => ?_, rfl⟩
     ·simp -implicitDefEqProofs only [go_sem,seval, step_at hfN hp3]
     ·by_cases hj : j = pre3.length
      ·subst hj
       rw [hR _ R h, if_neg (Nat.lt_irrefl _), if_pos (by simp), upL_snoc]
       simp [hcapF]
      ·rw [hR j R h, next j hj]
    | true =>
     obtain ⟨v, hv⟩ : ∃ v, vs[pre3.length]? = some v := ⟨_, List.getElem?_eq_getElem (by omega)⟩
     obtain ⟨R, hRR⟩ : ∃ R, rss[pre3.length]? = some R := ⟨_, List.getElem?_eq_getElem (by omega)⟩
     obtain ⟨k0, Gk, back⟩ := G.at hv (rows := R.map eParam) (by simp [hRR])
     have hgo : g ob = some (.blk vs (nodesOf p.routines).length 41) := G.le _ _ (upd_same _ _ _)
     have hRl : R.length ≤ 274877906944 := by
      rw [hR _ R hRR, if_neg (Nat.lt_irrefl _), List.length_append]
      have h1 := upN_len (capF p.routines pre3.length) pre 0
      have h2 := upL_len (capF p.routines pre3.length) pre.length pre2 0
      omega
     have hst : (pre3.length + 1 ≤ vs.length) = True := by simp; omega
     simp -implicitDefEqProofs only [go_sem,seval, lt_at hp3, aia_sl (size := 1) hbrow rfl, aia_os1 hjl, hgo, hv, aia_sl hrow (eNd_len n), n11, aia_sl hrow2 (eParam_len x), eParam_len, param_take, splice_same]
     refine Gk.append1 (xs := eParam x) (bytes := 56) rfl (by unfold roomFor; simp; omega) (fun v' g' G' => ?_)
     have G2 := back v' g' _ G'
     have hgo' : g' ob = some (.blk vs (nodesOf p.routines).length 41) := G2.le _ _ (upd_same _ _ _)
     have G3 := G2.upd (upd_same _ _ _) (.blk (vs.set pre3.length v') (nodesOf p.routines).length 41)
     rw [upd_upd] at G3
     simp -implicitDefEqProofs only [go_sem,seval, aia_os1 hjl, hgo', G'.cells, hst, splice_one (show pre3.length < vs.length by omega)]
     refine ⟨.inl hv, .inr (by decide), _, _, WeakE.env ?_, vs.set pre3.length v', rss.set pre3.length (R ++ [x]), by simpa using hvl, by simpa [List.map_set] using G3, fun j R' h => ?_, rfl⟩
     ·simp -implicitDefEqProofs only [go_sem,seval, step_at hfN hp3]
     ·rw [List.getElem?_set] at h
      by_cases hj : j = pre3.length
      ·subst hj
       rw [if_pos rfl, if_pos (by omega)] at h
       simp only [Option.some.injEq] at h
       subst h
       rw [hR _ R hRR, if_neg (Nat.lt_irrefl _), if_pos (by simp), upL_snoc]
       simp [hcapF]
      ·rw [if_neg (by omega)] at h
       rw [hR j R' h, next j hj]
   ·rintro e g ⟨vs, rss, hvl, G, hR, rfl⟩
    have hlens := G.lens
    rw [List.length_map] at hlens
    simp -implicitDefEqProofs only [go_sem,seval, lt_end]
    refine lessQ.same ?_
    simp -implicitDefEqProofs only [go_sem,seval]
    refine ⟨_, _, WeakE.env ?_, vs, rss, hvl, G, fun j R h => ?_, rfl⟩
    ·simp -implicitDefEqProofs only [go_sem,seval, step_at hfl hp2]
    ·have hj := (List.getElem?_eq_some_iff.1 h).1
     rw [hR j R h, if_pos (by omega)]
  ·rintro e g ⟨vs, rss, hvl, G, hR, rfl⟩
   simp -implicitDefEqProofs only [go_sem,seval, aia_sl hrow (eNd_len n), n11, lt_end]
   refine lessQ.same ?_
   simp -implicitDefEqProofs only [go_sem,seval]
   refine ⟨_, _, WeakE.env ?_, vs, rss, hvl, G, fun j R h => ?_, rfl⟩
   ·simp -implicitDefEqProofs only [go_sem,seval, step_at hfN hp]
   ·rw [hR j R h, upN_snoc, Nat.zero_add]
 ·rintro e g ⟨vs, rss, hvl, G, hR, rfl⟩
  have hlens := G.lens
  rw [List.length_map] at hlens
  simp -implicitDefEqProofs only [go_sem,seval, lt_end]
  refine lessQ.same ?_
  simp -implicitDefEqProofs only [go_sem,seval]
  have hrss : rss = (List.range (nodesOf p.routines).length).map fun j => upN (capF p.routines j) 0 (nodesOf p.routines) := by
   refine List.ext_getElem? fun j => ?_
   cases h : rss[j]? with
   | none =>
    have := List.getElem?_eq_none_iff.1 h
    rw [List.getElem?_eq_none (by simp; omega)]
   | some R =>
    have := (List.getElem?_eq_some_iff.1 h).1
    rw [hR j R h, List.getElem?_map, List.getElem?_range (by omega)]
    rfl
  rw [← hrss]
  have hl : (nodesOf p.routines).length = (rss.map uRow).length := by rw [List.length_map]; omega
  refine EndW.heap (g' := h.upd ob (.blk (rss.map fun R => .sl (R.map eParam) false) (nodesOf p.routines).length 41)) ?_ ?_
  ·intro b o' hb
   by_cases hbo : b = ob
   ·subst hbo
    rw [upd_same] at hb; cases hb
    refine ⟨_, G.le _ _ (upd_same _ _ _), rfl, rfl, by simp; omega, ?_⟩
    have := G.avles
    simpa [List.map_map, Function.comp_def] using this
   ·rw [upd_ne _ _ _ hbo] at hb
    exact ⟨o', G.le _ _ (by rw [upd_ne _ _ _ hbo]; exact hb), .refl _⟩
  ·refine EndW.own hl (upd_same _ _ _) (size := 1) (es := rss.map uRow) ?_ (fun e he => by obtain ⟨R, _, rfl⟩ := List.mem_map.1 he; rfl) (by omega) ⟨rfl, del_upd _ _ _ hob0⟩
   rw [List.take_of_length_le (by simp)]
   have := flat_one (rss.map fun R => AV.sl (R.map eParam) false)
   simpa [List.map_map, Function.comp_def] using this
theorem refOk {p : Prg} (ho : p.ok) (hw : wP p ≤ 1048576) (b1 : wRs p.routines ≤ 274877906944) (hc : (check p).2 = 0) (ht : tPrg p = true) : RefOk p.routines (p.vars.map (·.name)) := by
 obtain ⟨h1, _, h3⟩ := right_nodes ht hc
 refine ⟨⟨⟨fun i n hn => ?_, h3⟩, h1⟩, ?_, ?_⟩
 ·have := capL_around _ p.routines (Nat.lt_succ_self _) 0 p.routines (-1) noBytes (by omega) (by omega) i n hn
  simpa using this
 ·show (capL 0 p.routines (-1) noBytes p.routines).length ≤ _
  rw [capL_len]
  have := rcnts_le _ p.routines (Nat.le_refl _)
  unfold wP at hw; omega
 ·exact capL_all (P := fun x => x.ok ∧ wR x ≤ 274877906944) (fun x hx y hy => ⟨((Routine.ok_iff x).1 hx.1).2.2.2.2.2.2.1 y hy, Nat.le_trans (wR_in hy) hx.2⟩) _ p.routines (Nat.lt_succ_self _) (fun x hx => ⟨ho.eachRoutine x hx, Nat.le_trans (wRs_mem hx) b1⟩) 0 p.routines (-1) noBytes
end Pg
