import Derived.Test.YtlflapoljegmoaaGreatDoorTreeSE
import Derived.Test.YtlflapoljegmoaaGreatDoorCodeQE
import Derived.Test.YtlflapoljegmoaaGreatDoorLib2E
import Derived.Test.YtlflapoljegmoaaGreatDoorHpE
import Derived.Test.YtlflapoljegmoaaGreatDoorK4E
import Derived.Test.YtlflapoljegmoaaGreatDoorWeighJE
import Derived.Test.YtlflapoljegmoaaGreatDoorLift1JE
namespace Pg
open Go Go.Proofs.Tryz
set_option linter.all false
set_option maxHeartbeats 4000000
set_option maxRecDepth 4000
theorem each_Expr [GI] {h : AHeap} (l : List Expr) (hl : few l) (hn : l.length ≤ 1048576) (f : FuncId) (first cap : List AV) (hc : callable prog f = true)
  (hf : ∀ x ∈ l, ∀ g : AHeap, ACalls prog f (first ++ [.agg (eExpr x)] ++ cap) g (fun v k => v = .agg (eExpr x) ∧ k = g)) :
  ACalls prog 130 [.sl (l.map eExpr) false, .func (.func f) first cap] h (fun v g => v = .sl (l.map eExpr) false ∧ g = h) := by
 refine F130.calls (by simp) ?_
 delta F130.c0
 simp -implicitDefEqProofs only [go_sem,seval]
 refine lT_list l (fun pre post e g => ∃ v, GL 76 5 h g v (pre.map eExpr) ∧ e = [(1, .func (.func f) first cap), (5, v), (8, .sl (l.map eExpr) false), (9, .int .i64 l.length), (10, .int .i64 pre.length)]) (WeakE.env ?_) ⟨.sl [] true, .nil h, rfl⟩ ?_ ?_
 ·simp -implicitDefEqProofs only [go_sem,seval]
 ·rintro pre x post e g hp ⟨v, G, rfl⟩
  have hpl := (at_pre hp).2
  simp -implicitDefEqProofs only [go_sem,seval, lt_at hp, aia_sl (map_at hp) (eExpr_len x), eExpr_len, expr_take]
  refine ⟨hc, callT_of (hf x (mem_at hp) _) (fun v2 g2 ⟨hv, hg⟩ => ?_)⟩
  subst v2 g2
  simp -implicitDefEqProofs only [go_sem,seval, splice_same, eExpr_len]
  refine G.append1 (xs := eExpr x) (bytes := 72) (eExpr_len x) (by unfold roomFor; simp; omega) (fun v' g' G' => ?_)
  simp -implicitDefEqProofs only [go_sem,seval]
  refine ⟨_, _, WeakE.env ?_, v', ?_, rfl⟩
  ·simp -implicitDefEqProofs only [go_sem,seval, step_at hl hp]
  ·simpa using G'
 ·rintro e g ⟨v, G, rfl⟩
  simp -implicitDefEqProofs only [go_sem,seval, lt_end]
  refine lessQ.same ?_
  simp -implicitDefEqProofs only [go_sem,seval]
  exact G.endW ⟨rfl, rfl⟩
theorem each_Stmt [GI] {h : AHeap} (l : List Stmt) (hl : few l) (hn : l.length ≤ 1048576) (f : FuncId) (first cap : List AV) (hc : callable prog f = true)
  (hf : ∀ x ∈ l, ∀ g : AHeap, ACalls prog f (first ++ [.agg (eStmt x)] ++ cap) g (fun v k => v = .agg (eStmt x) ∧ k = g)) :
  ACalls prog 95 [.sl (l.map eStmt) false, .func (.func f) first cap] h (fun v g => v = .sl (l.map eStmt) false ∧ g = h) := by
 refine F95.calls (by simp) ?_
 delta F95.c0
 simp -implicitDefEqProofs only [go_sem,seval]
 refine lT_list l (fun pre post e g => ∃ v, GL 78 16 h g v (pre.map eStmt) ∧ e = [(1, .func (.func f) first cap), (5, v), (8, .sl (l.map eStmt) false), (9, .int .i64 l.length), (10, .int .i64 pre.length)]) (WeakE.env ?_) ⟨.sl [] true, .nil h, rfl⟩ ?_ ?_
 ·simp -implicitDefEqProofs only [go_sem,seval]
 ·rintro pre x post e g hp ⟨v, G, rfl⟩
  have hpl := (at_pre hp).2
  simp -implicitDefEqProofs only [go_sem,seval, lt_at hp, aia_sl (map_at hp) (eStmt_len x), eStmt_len, stmt_take]
  refine ⟨hc, callT_of (hf x (mem_at hp) _) (fun v2 g2 ⟨hv, hg⟩ => ?_)⟩
  subst v2 g2
  simp -implicitDefEqProofs only [go_sem,seval, splice_same, eStmt_len]
  refine G.append1 (xs := eStmt x) (bytes := 272) (eStmt_len x) (by unfold roomFor; simp; omega) (fun v' g' G' => ?_)
  simp -implicitDefEqProofs only [go_sem,seval]
  refine ⟨_, _, WeakE.env ?_, v', ?_, rfl⟩
  ·simp -implicitDefEqProofs only [go_sem,seval, step_at hl hp]
  ·simpa using G'
 ·rintro e g ⟨v, G, rfl⟩
  simp -implicitDefEqProofs only [go_sem,seval, lt_end]
  refine lessQ.same ?_
  simp -implicitDefEqProofs only [go_sem,seval]
  exact G.endW ⟨rfl, rfl⟩
theorem each_Field [GI] {h : AHeap} (l : List Fld) (hl : few l) (hn : l.length ≤ 1048576) (f : FuncId) (first cap : List AV) (hc : callable prog f = true)
  (hf : ∀ x ∈ l, ∀ g : AHeap, ACalls prog f (first ++ [.agg (eFld x)] ++ cap) g (fun v k => v = .agg (eFld x) ∧ k = g)) :
  ACalls prog 124 [.sl (l.map eFld) false, .func (.func f) first cap] h (fun v g => v = .sl (l.map eFld) false ∧ g = h) := by
 refine F124.calls (by simp) ?_
 delta F124.c0
 simp -implicitDefEqProofs only [go_sem,seval]
 refine lT_list l (fun pre post e g => ∃ v, GL 58 4 h g v (pre.map eFld) ∧ e = [(1, .func (.func f) first cap), (5, v), (8, .sl (l.map eFld) false), (9, .int .i64 l.length), (10, .int .i64 pre.length)]) (WeakE.env ?_) ⟨.sl [] true, .nil h, rfl⟩ ?_ ?_
 ·simp -implicitDefEqProofs only [go_sem,seval]
 ·rintro pre x post e g hp ⟨v, G, rfl⟩
  have hpl := (at_pre hp).2
  simp -implicitDefEqProofs only [go_sem,seval, lt_at hp, aia_sl (map_at hp) (eFld_len x), eFld_len, fld_take]
  refine ⟨hc, callT_of (hf x (mem_at hp) _) (fun v2 g2 ⟨hv, hg⟩ => ?_)⟩
  subst v2 g2
  simp -implicitDefEqProofs only [go_sem,seval, splice_same, eFld_len]
  refine G.append1 (xs := eFld x) (bytes := 72) (eFld_len x) (by unfold roomFor; simp; omega) (fun v' g' G' => ?_)
  simp -implicitDefEqProofs only [go_sem,seval]
  refine ⟨_, _, WeakE.env ?_, v', ?_, rfl⟩
  ·simp -implicitDefEqProofs only [go_sem,seval, step_at hl hp]
  ·simpa using G'
 ·rintro e g ⟨v, G, rfl⟩
  simp -implicitDefEqProofs only [go_sem,seval, lt_end]
  refine lessQ.same ?_
  simp -implicitDefEqProofs only [go_sem,seval]
  exact G.endW ⟨rfl, rfl⟩
theorem each_Param [GI] {h : AHeap} (l : List Param) (hl : few l) (hn : l.length ≤ 1048576) (f : FuncId) (first cap : List AV) (hc : callable prog f = true)
  (hf : ∀ x ∈ l, ∀ g : AHeap, ACalls prog f (first ++ [.agg (eParam x)] ++ cap) g (fun v k => v = .agg (eParam x) ∧ k = g)) :
  ACalls prog 127 [.sl (l.map eParam) false, .func (.func f) first cap] h (fun v g => GL 105 5 h g v (l.map eParam)) := by
 refine F127.calls (by simp) ?_
 delta F127.c0
 simp -implicitDefEqProofs only [go_sem,seval]
 refine lT_list l (fun pre post e g => ∃ v, GL 105 5 h g v (pre.map eParam) ∧ e = [(1, .func (.func f) first cap), (5, v), (8, .sl (l.map eParam) false), (9, .int .i64 l.length), (10, .int .i64 pre.length)]) (WeakE.env ?_) ⟨.sl [] true, .nil h, rfl⟩ ?_ ?_
 ·simp -implicitDefEqProofs only [go_sem,seval]
 ·rintro pre x post e g hp ⟨v, G, rfl⟩
  have hpl := (at_pre hp).2
  simp -implicitDefEqProofs only [go_sem,seval, lt_at hp, aia_sl (map_at hp) (eParam_len x), eParam_len, param_take]
  refine ⟨hc, callT_of (hf x (mem_at hp) _) (fun v2 g2 ⟨hv, hg⟩ => ?_)⟩
  subst v2 g2
  simp -implicitDefEqProofs only [go_sem,seval, splice_same, eParam_len]
  refine G.append1 (xs := eParam x) (bytes := 56) (eParam_len x) (by unfold roomFor; simp; omega) (fun v' g' G' => ?_)
  simp -implicitDefEqProofs only [go_sem,seval]
  refine ⟨_, _, WeakE.env ?_, v', ?_, rfl⟩
  ·simp -implicitDefEqProofs only [go_sem,seval, step_at hl hp]
  ·simpa using G'
 ·rintro e g ⟨v, G, rfl⟩
  simp -implicitDefEqProofs only [go_sem,seval, lt_end]
  refine lessQ.same ?_
  simp -implicitDefEqProofs only [go_sem,seval]
  exact .same G
theorem each_Var [GI] {h : AHeap} (l : List Var) (hl : few l) (hn : l.length ≤ 1048576) (f : FuncId) (first cap : List AV) (hc : callable prog f = true)
  (hf : ∀ x ∈ l, ∀ g : AHeap, ACalls prog f (first ++ [.agg (eVar x)] ++ cap) g (fun v k => v = .agg (eVar x) ∧ k = g)) :
  ACalls prog 91 [.sl (l.map eVar) false, .func (.func f) first cap] h (fun v g => v = .sl (l.map eVar) false ∧ g = h) := by
 refine F91.calls (by simp) ?_
 delta F91.c0
 simp -implicitDefEqProofs only [go_sem,seval]
 refine lT_list l (fun pre post e g => ∃ v, GL 82 6 h g v (pre.map eVar) ∧ e = [(1, .func (.func f) first cap), (5, v), (8, .sl (l.map eVar) false), (9, .int .i64 l.length), (10, .int .i64 pre.length)]) (WeakE.env ?_) ⟨.sl [] true, .nil h, rfl⟩ ?_ ?_
 ·simp -implicitDefEqProofs only [go_sem,seval]
 ·rintro pre x post e g hp ⟨v, G, rfl⟩
  have hpl := (at_pre hp).2
  simp -implicitDefEqProofs only [go_sem,seval, lt_at hp, aia_sl (map_at hp) (eVar_len x), eVar_len, var_take]
  refine ⟨hc, callT_of (hf x (mem_at hp) _) (fun v2 g2 ⟨hv, hg⟩ => ?_)⟩
  subst v2 g2
  simp -implicitDefEqProofs only [go_sem,seval, splice_same, eVar_len]
  refine G.append1 (xs := eVar x) (bytes := 96) (eVar_len x) (by unfold roomFor; simp; omega) (fun v' g' G' => ?_)
  simp -implicitDefEqProofs only [go_sem,seval]
  refine ⟨_, _, WeakE.env ?_, v', ?_, rfl⟩
  ·simp -implicitDefEqProofs only [go_sem,seval, step_at hl hp]
  ·simpa using G'
 ·rintro e g ⟨v, G, rfl⟩
  simp -implicitDefEqProofs only [go_sem,seval, lt_end]
  refine lessQ.same ?_
  simp -implicitDefEqProofs only [go_sem,seval]
  exact G.endW ⟨rfl, rfl⟩
theorem each_Rec [GI] {h : AHeap} (l : List Rec) (hl : few l) (hn : l.length ≤ 1048576) (f : FuncId) (first cap : List AV) (hc : callable prog f = true)
  (hf : ∀ x ∈ l, ∀ g : AHeap, ACalls prog f (first ++ [.agg (eRec x)] ++ cap) g (fun v k => v = .agg (eRec x) ∧ k = g)) :
  ACalls prog 89 [.sl (l.map eRec) false, .func (.func f) first cap] h (fun v g => v = .sl (l.map eRec) false ∧ g = h) := by
 refine F89.calls (by simp) ?_
 delta F89.c0
 simp -implicitDefEqProofs only [go_sem,seval]
 refine lT_list l (fun pre post e g => ∃ v, GL 55 5 h g v (pre.map eRec) ∧ e = [(1, .func (.func f) first cap), (5, v), (8, .sl (l.map eRec) false), (9, .int .i64 l.length), (10, .int .i64 pre.length)]) (WeakE.env ?_) ⟨.sl [] true, .nil h, rfl⟩ ?_ ?_
 ·simp -implicitDefEqProofs only [go_sem,seval]
 ·rintro pre x post e g hp ⟨v, G, rfl⟩
  have hpl := (at_pre hp).2
  simp -implicitDefEqProofs only [go_sem,seval, lt_at hp, aia_sl (map_at hp) (eRec_len x), eRec_len, rec_take]
  refine ⟨hc, callT_of (hf x (mem_at hp) _) (fun v2 g2 ⟨hv, hg⟩ => ?_)⟩
  subst v2 g2
  simp -implicitDefEqProofs only [go_sem,seval, splice_same, eRec_len]
  refine G.append1 (xs := eRec x) (bytes := 112) (eRec_len x) (by unfold roomFor; simp; omega) (fun v' g' G' => ?_)
  simp -implicitDefEqProofs only [go_sem,seval]
  refine ⟨_, _, WeakE.env ?_, v', ?_, rfl⟩
  ·simp -implicitDefEqProofs only [go_sem,seval, step_at hl hp]
  ·simpa using G'
 ·rintro e g ⟨v, G, rfl⟩
  simp -implicitDefEqProofs only [go_sem,seval, lt_end]
  refine lessQ.same ?_
  simp -implicitDefEqProofs only [go_sem,seval]
  exact G.endW ⟨rfl, rfl⟩
end Pg

namespace Pg
open Go
set_option linter.all false
theorem aia_os1 {b n c i : Nat} {k : IntKind} (h : i < n) : aia 1 (.os b n c) (.int k i) = some (.ptr (some ⟨b, i, none⟩)) := by
 simp only [aia]; rw [if_pos ⟨by omega, by exact_mod_cast h⟩]; simp
theorem splice_one {cs : List AV} {i : Nat} (h : i < cs.length) (v : AV) : splice cs i [v] = cs.set i v := by
 rw [List.set_eq_take_append_cons_drop, if_pos h]; simp [splice]
theorem EndW.own [GI] {K : AV → AHeap → Prop} {b n cap total size : Nat} {ty : TypeId} {es : List (List AV)} {cs : List AV} {h : AHeap} (hn : n = es.length) (hb : h b = some (.blk cs total ty)) (hcs : es.flatten = cs.take (es.length * size)) (hs : ∀ e ∈ es, e.length = size) (hc : es.length ≤ cap) (k : K (.sl es false) (h.del b)) : EndW K (.os b n cap) h := by
 subst hn
 refine ⟨_, _, ?_, k⟩
 intro I w us r s
 obtain ⟨J, n, s', hv⟩ := freeze_sat s hb hcs hs
 obtain ⟨u, us', rfl, r1, r2⟩ := r.uncons
 have := r2.of_nil; subst this
 have := r1.inv_os; subst this
 exact ⟨J, n, .cons (hv cap hc) (.nil J), s'⟩
theorem WeakE.own [GI] {e : Env} {b n cap total size : Nat} {ty : TypeId} {es : List (List AV)} {cs : List AV} {h : AHeap} (s : Nat) (hv : e.get s = .os b n cap) (hb : h b = some (.blk cs total ty)) (hcs : es.flatten = cs.take (es.length * size)) (hs : ∀ e ∈ es, e.length = size) (hn : n = es.length) (hc : es.length ≤ cap) : WeakE e h [(s, .sl es false)] (h.del b) := by
 subst hn
 intro I w N tmps es sat
 obtain ⟨J, n, s', hr⟩ := freeze_sat sat hb hcs hs
 have h1 := es.at_ s
 rw [hv] at h1
 have h2 := h1.inv_os
 refine ⟨J, n, ⟨es.size, fun t => ?_⟩, s'⟩
 simp only [Env.get]
 split
 ·rename_i ht
  subst ht
  rw [h2]; exact hr cap hc
 ·exact .any _
theorem EndW.heap [GI] {K : AV → AHeap → Prop} {v : AV} {g g' : AHeap} (le : HeapLe g g') (k : EndW K v g') : EndW K v g := by
 obtain ⟨v', g'', wk, k⟩ := k
 exact ⟨v', g'', WeakV.trans (fun I w us r s => ⟨I, le.new w I, r, le.sat s⟩) wk, k⟩
theorem flat_one : ∀ (cs : List AV), (cs.map fun x => [x]).flatten = cs
 | [] => rfl
 | x :: r => by simp [flat_one r]
end Pg

namespace Pg
open Go Go.Proofs.Tryz
set_option linter.all false
set_option maxHeartbeats 4000000
set_option maxRecDepth 4000
theorem updSelf {h : AHeap} {b : Nat} {o : AObj} (e : h b = some o) : h.upd b o = h := by
 funext c
 simp only [AHeap.upd]
 split
 ·rename_i hc; subst hc; exact e.symm
 ·rfl
theorem eT_cells (l : List ByteArray) : (eTexts l).cells? = some [eTexts l] := rfl
theorem CloneT [GI] (h : AHeap) (l : List ByteArray) (hl : l.length ≤ 1048576) : ACalls prog 88 [eTexts l] h (fun v g => v = eTexts l ∧ g = h) := Clone_spec h l hl false
abbrev fvR : AV := .func (.func 58) [] [.ip [.sl [] true] 0]
theorem rename1_spec [GI] (h : AHeap) (s : ByteArray) : ACalls prog 58 [.str s, .ip [.sl [] true] 0] h (fun v g => v = .str s ∧ g = h) := by
 refine F58.calls (by simp) ?_
 delta F58.c0
 simp only [go_sem,seval]
 refine lT_round ?_
 simp only [go_sem,seval]
 exact .same ⟨rfl, rfl⟩
theorem set_same {X : Type} {l : List X} {i : Nat} {x : X} (h : l[i]? = some x) : l.set i x = l := by
 refine List.ext_getElem? fun j => ?_
 rw [List.getElem?_set]
 split
 ·rename_i hj
  subst hj
  rw [if_pos (List.getElem?_eq_some_iff.1 h).1, h]
 ·rfl
theorem parts_spec [GI] (hm : Max0) (h : AHeap) (s : ByteArray) (hs : s.size ≤ 1048575) : ACalls prog 87 [.agg [fvR], .str s] h (fun v g => v = .str s ∧ g = h) := by
 refine F87.calls (by simp) ?_
 delta F87.c0
 by_cases h0 : s = (⟨#[]⟩ : ByteArray)
 ·simp only [go_sem,seval, h0]
  exact .same ⟨rfl, rfl⟩
 ·simp only [go_sem,seval, h0]
  refine callT_of (Split_spec hm _ s (by omega)) (fun v g ⟨b, hv, hb, hg⟩ => ?_)
  subst v g
  have hl := parts36_le s
  have hj := parts36_join s
  generalize parts36 s = P at hl hj
  have hfP : few P := by unfold few; omega
  simp only [go_sem,seval]
  refine lT_list P (fun pre post e g => e = [(2, .ip [fvR] 0), (5, .os b P.length P.length), (12, .os b P.length P.length), (13, .int .i64 P.length), (14, .int .i64 pre.length)] ∧ g = h.upd b (.blk (P.map .str) P.length 9)) (WeakE.env ?_) ⟨rfl, rfl⟩ ?_ ?_
  ·simp only [go_sem,seval]
  ·rintro pre x post e g hp ⟨rfl, rfl⟩
   have hpl := (at_pre hp).2
   have hx : (P.map AV.str)[pre.length]? = some (.str x) := map_at hp
   have hst : (pre.length + 1 ≤ P.length) = True := by simp; omega
   by_cases hx0 : x = (⟨#[]⟩ : ByteArray)
   ·subst hx0
    simp only [go_sem,seval, lt_at hp, aia_os1 hpl, hx]
    refine ⟨_, _, WeakE.env ?_, rfl, rfl⟩
    simp only [go_sem,seval, step_at hfP hp]
   ·simp only [go_sem,seval, lt_at hp, aia_os1 hpl, hx, hx0]
    refine ⟨by kernel_rfl, callT_of (rename1_spec _ x) (fun v g ⟨hv, hg⟩ => ?_)⟩
    subst v g
    simp only [go_sem,seval, aia_os1 hpl, hst, splice_one (cs := P.map AV.str) (by simpa using hpl), set_same hx, upd_upd]
    refine ⟨_, _, WeakE.env ?_, rfl, rfl⟩
    simp only [go_sem,seval, step_at hfP hp]
  ·rintro e g ⟨rfl, rfl⟩
   simp only [go_sem,seval, lt_end]
   refine lessQ.to (WeakE.own 5 rfl (upd_same _ _ _) (size := 1) (es := txt P) ?_ (fun e he => ?_) (by simp) (by simp)) ?_
   ·rw [List.take_of_length_le (by simp)]
    have := flat_one (P.map AV.str)
    simpa [List.map_map, Function.comp_def] using this
   ·obtain ⟨x, _, rfl⟩ := List.mem_map.1 he; rfl
   ·rw [del_upd _ _ _ hb]
    simp only [go_sem,seval]
    refine callT_of (sJoinS_spec h P false ⟨#[36]⟩ (by omega) ?_) (fun v g ⟨hv, hg⟩ => ?_)
    ·show (Go.Lib.join _ [36]).length ≤ _
     rw [hj]
     have : s.data.toList.length = s.size := Array.length_toList
     omega
    ·subst v g
     simp only [go_sem,seval]
     refine .same ⟨?_, rfl⟩
     congr 1
     apply ByteArray.ext
     show (Go.Lib.join _ [36]).toArray = _
     rw [hj]
theorem mTyp [GI] (hm : Max0) (t : Typ) (hs : t.name.size ≤ 1048575) (h : AHeap) : ACalls prog 126 [.agg [fvR], .agg (eTyp t)] h (fun v g => v = .agg (eTyp t) ∧ g = h) := by
 rw [show eTyp t = [.int .i64 t.kind, .int .i64 t.size, .str t.name] from rfl]
 refine F126.calls (by simp) ?_
 delta F126.c0
 simp only [go_sem,seval]
 refine afreshT_intro fun b3 hb3 => ?_
 simp only [go_sem,seval]
 refine afreshT_intro fun b4 hb4 => ?_
 obtain ⟨hne, hb4'⟩ := none_upd hb4
 have hG3 : ∀ Z, ((h.upd b3 (.blk [.int .i64 t.kind, .int .i64 t.size, .str t.name] 3 80)).upd b4 Z) b3 = some (.blk [.int .i64 t.kind, .int .i64 t.size, .str t.name] 3 80) := fun Z => by rw [upd_ne _ _ _ hne.symm, upd_same]
 have hG4 : ∀ Z, ((h.upd b3 (.blk [.int .i64 t.kind, .int .i64 t.size, .str t.name] 3 80)).upd b4 Z) b4 = some Z := fun Z => upd_same _ _ _
 have hle : ∀ Z, h.le ((h.upd b3 (.blk [.int .i64 t.kind, .int .i64 t.size, .str t.name] 3 80)).upd b4 Z) := fun Z => AHeap.le_trans (AHeap.le_upd hb3) (AHeap.le_upd hb4)
 generalize (h.upd b3 (.blk [.int .i64 t.kind, .int .i64 t.size, .str t.name] 3 80)) = H at hG3 hG4 hle
 simp only [go_sem,seval, hG3, updSelf (hG3 _), eTyp, eT_cells]
 refine tcE (parts_spec hm _ t.name hs) ?_
 simp only [go_sem,seval, hG3, hG4, updSelf (hG3 _), upd_upd, eTyp, eT_cells]
 exact .forget (hle _) ⟨rfl, rfl⟩
theorem mMarks [GI] (hm : Max0) (a b : List ByteArray) (ha : a.length ≤ 1048576) (hb : b.length ≤ 1048576) (h : AHeap) : ACalls prog 123 [.agg [fvR], .agg [eTexts a, eTexts b]] h (fun v g => v = .agg [eTexts a, eTexts b] ∧ g = h) := by
 refine F123.calls (by simp) ?_
 delta F123.c0
 simp only [go_sem,seval]
 refine afreshT_intro fun b4 hb4 => ?_
 simp only [go_sem,seval, upd_same, eT_cells]
 refine tcE (CloneT _ a ha) ?_
 simp only [go_sem,seval, upd_same, eT_cells]
 refine tcE (CloneT _ b hb) ?_
 simp only [go_sem,seval, upd_same, upd_upd, eT_cells]
 exact .forget (AHeap.le_upd hb4) ⟨rfl, rfl⟩
theorem mFld [GI] (hm : Max0) (x : Fld) (hw : lF x ≤ 1048575) (h : AHeap) : ACalls prog 125 [.agg (eFld x), .ip [fvR] 0] h (fun v g => v = .agg (eFld x) ∧ g = h) := by
 unfold lF at hw
 have q1 := tw_len x.before
 have q2 := tw_len x.trail
 rw [show eFld x = [eTexts x.before, eTexts x.trail, .str x.name, .int .i64 x.kind] from rfl]
 refine F125.calls (by simp) ?_
 delta F125.c0
 simp only [go_sem,seval]
 refine afreshT_intro fun b3 hb3 => ?_
 simp only [go_sem,seval]
 refine afreshT_intro fun b4 hb4 => ?_
 obtain ⟨hne, hb4'⟩ := none_upd hb4
 have hG3 : ∀ Z, ((h.upd b3 (.blk [eTexts x.before, eTexts x.trail, .str x.name, .int .i64 x.kind] 4 58)).upd b4 Z) b3 = some (.blk [eTexts x.before, eTexts x.trail, .str x.name, .int .i64 x.kind] 4 58) := fun Z => by rw [upd_ne _ _ _ hne.symm, upd_same]
 have hG4 : ∀ Z, ((h.upd b3 (.blk [eTexts x.before, eTexts x.trail, .str x.name, .int .i64 x.kind] 4 58)).upd b4 Z) b4 = some Z := fun Z => upd_same _ _ _
 have hle : ∀ Z, h.le ((h.upd b3 (.blk [eTexts x.before, eTexts x.trail, .str x.name, .int .i64 x.kind] 4 58)).upd b4 Z) := fun Z => AHeap.le_trans (AHeap.le_upd hb3) (AHeap.le_upd hb4)
 generalize (h.upd b3 (.blk [eTexts x.before, eTexts x.trail, .str x.name, .int .i64 x.kind] 4 58)) = H at hG3 hG4 hle
 simp only [go_sem,seval, hG3, updSelf (hG3 _), eTyp, eT_cells]
 refine tcE (mMarks hm x.before x.trail (by omega) (by omega) _) ?_
 simp only [go_sem,seval, hG3, updSelf (hG3 _), eTyp, eT_cells]
 refine tcE (parts_spec hm _ x.name (by omega)) ?_
 simp only [go_sem,seval, hG3, hG4, updSelf (hG3 _), upd_upd, eTyp, eT_cells]
 exact .forget (hle _) ⟨rfl, rfl⟩
theorem mParam [GI] (hm : Max0) (x : Param) (hw : lP x ≤ 1048575) (h : AHeap) : ACalls prog 128 [.agg (eParam x), .ip [fvR] 0] h (fun v g => v = .agg (eParam x) ∧ g = h) := by
 unfold lP at hw
 rw [show eParam x = [.str x.name, .int .i64 x.t.kind, .int .i64 x.t.size, .str x.t.name, .int .i64 x.mode] from rfl]
 refine F128.calls (by simp) ?_
 delta F128.c0
 simp only [go_sem,seval]
 refine afreshT_intro fun b3 hb3 => ?_
 simp only [go_sem,seval]
 refine afreshT_intro fun b4 hb4 => ?_
 obtain ⟨hne, hb4'⟩ := none_upd hb4
 have hG3 : ∀ Z, ((h.upd b3 (.blk [.str x.name, .int .i64 x.t.kind, .int .i64 x.t.size, .str x.t.name, .int .i64 x.mode] 5 105)).upd b4 Z) b3 = some (.blk [.str x.name, .int .i64 x.t.kind, .int .i64 x.t.size, .str x.t.name, .int .i64 x.mode] 5 105) := fun Z => by rw [upd_ne _ _ _ hne.symm, upd_same]
 have hG4 : ∀ Z, ((h.upd b3 (.blk [.str x.name, .int .i64 x.t.kind, .int .i64 x.t.size, .str x.t.name, .int .i64 x.mode] 5 105)).upd b4 Z) b4 = some Z := fun Z => upd_same _ _ _
 have hle : ∀ Z, h.le ((h.upd b3 (.blk [.str x.name, .int .i64 x.t.kind, .int .i64 x.t.size, .str x.t.name, .int .i64 x.mode] 5 105)).upd b4 Z) := fun Z => AHeap.le_trans (AHeap.le_upd hb3) (AHeap.le_upd hb4)
 generalize (h.upd b3 (.blk [.str x.name, .int .i64 x.t.kind, .int .i64 x.t.size, .str x.t.name, .int .i64 x.mode] 5 105)) = H at hG3 hG4 hle
 simp only [go_sem,seval, hG3, updSelf (hG3 _), eTyp, eT_cells]
 refine tcE (parts_spec hm _ x.name (by omega)) ?_
 simp only [go_sem,seval, hG3, updSelf (hG3 _), eTyp, eT_cells]
 refine tcE (mTyp hm x.t (by omega) _) ?_
 simp only [go_sem,seval, hG3, hG4, updSelf (hG3 _), upd_upd, eTyp, eT_cells]
 exact .forget (hle _) ⟨rfl, rfl⟩
theorem mVar [GI] (hm : Max0) (x : Var) (hw : lV x ≤ 1048575) (h : AHeap) : ACalls prog 92 [.agg [fvR], .agg (eVar x)] h (fun v g => v = .agg (eVar x) ∧ g = h) := by
 unfold lV at hw
 have q1 := tw_len x.before
 have q2 := tw_len x.trail
 rw [show eVar x = [eTexts x.before, eTexts x.trail, .str x.name, .int .i64 x.t.kind, .int .i64 x.t.size, .str x.t.name] from rfl]
 refine F92.calls (by simp) ?_
 delta F92.c0
 simp only [go_sem,seval]
 refine afreshT_intro fun b3 hb3 => ?_
 simp only [go_sem,seval]
 refine afreshT_intro fun b4 hb4 => ?_
 obtain ⟨hne, hb4'⟩ := none_upd hb4
 have hG3 : ∀ Z, ((h.upd b3 (.blk [eTexts x.before, eTexts x.trail, .str x.name, .int .i64 x.t.kind, .int .i64 x.t.size, .str x.t.name] 6 82)).upd b4 Z) b3 = some (.blk [eTexts x.before, eTexts x.trail, .str x.name, .int .i64 x.t.kind, .int .i64 x.t.size, .str x.t.name] 6 82) := fun Z => by rw [upd_ne _ _ _ hne.symm, upd_same]
 have hG4 : ∀ Z, ((h.upd b3 (.blk [eTexts x.before, eTexts x.trail, .str x.name, .int .i64 x.t.kind, .int .i64 x.t.size, .str x.t.name] 6 82)).upd b4 Z) b4 = some Z := fun Z => upd_same _ _ _
 have hle : ∀ Z, h.le ((h.upd b3 (.blk [eTexts x.before, eTexts x.trail, .str x.name, .int .i64 x.t.kind, .int .i64 x.t.size, .str x.t.name] 6 82)).upd b4 Z) := fun Z => AHeap.le_trans (AHeap.le_upd hb3) (AHeap.le_upd hb4)
 generalize (h.upd b3 (.blk [eTexts x.before, eTexts x.trail, .str x.name, .int .i64 x.t.kind, .int .i64 x.t.size, .str x.t.name] 6 82)) = H at hG3 hG4 hle
 simp only [go_sem,seval, hG3, updSelf (hG3 _), eTyp, eT_cells]
 refine tcE (mMarks hm x.before x.trail (by omega) (by omega) _) ?_
 simp only [go_sem,seval, hG3, updSelf (hG3 _), eTyp, eT_cells]
 refine tcE (parts_spec hm _ x.name (by omega)) ?_
 simp only [go_sem,seval, hG3, updSelf (hG3 _), eTyp, eT_cells]
 refine tcE (mTyp hm x.t (by omega) _) ?_
 simp only [go_sem,seval, hG3, hG4, updSelf (hG3 _), upd_upd, eTyp, eT_cells]
 exact .forget (hle _) ⟨rfl, rfl⟩
theorem mRec [GI] (hm : Max0) (x : Rec) (hx : x.ok) (hw : wRec x ≤ 1048576) (h : AHeap) : ACalls prog 90 [.agg [fvR], .agg (eRec x)] h (fun v g => v = .agg (eRec x) ∧ g = h) := by
 unfold wRec lRec at hw
 have q1 := tw_len x.before
 have q2 := tw_len x.trail
 have q3 := tw_len x.endd
 rw [show eRec x = [eTexts x.before, eTexts x.trail, .str x.name, .sl (x.fields.map eFld) false, eTexts x.endd] from rfl]
 refine F90.calls (by simp) ?_
 delta F90.c0
 simp only [go_sem,seval]
 refine afreshT_intro fun b3 hb3 => ?_
 simp only [go_sem,seval]
 refine afreshT_intro fun b4 hb4 => ?_
 obtain ⟨hne, hb4'⟩ := none_upd hb4
 have hG3 : ∀ Z, ((h.upd b3 (.blk [eTexts x.before, eTexts x.trail, .str x.name, .sl (x.fields.map eFld) false, eTexts x.endd] 5 55)).upd b4 Z) b3 = some (.blk [eTexts x.before, eTexts x.trail, .str x.name, .sl (x.fields.map eFld) false, eTexts x.endd] 5 55) := fun Z => by rw [upd_ne _ _ _ hne.symm, upd_same]
 have hG4 : ∀ Z, ((h.upd b3 (.blk [eTexts x.before, eTexts x.trail, .str x.name, .sl (x.fields.map eFld) false, eTexts x.endd] 5 55)).upd b4 Z) b4 = some Z := fun Z => upd_same _ _ _
 have hle : ∀ Z, h.le ((h.upd b3 (.blk [eTexts x.before, eTexts x.trail, .str x.name, .sl (x.fields.map eFld) false, eTexts x.endd] 5 55)).upd b4 Z) := fun Z => AHeap.le_trans (AHeap.le_upd hb3) (AHeap.le_upd hb4)
 generalize (h.upd b3 (.blk [eTexts x.before, eTexts x.trail, .str x.name, .sl (x.fields.map eFld) false, eTexts x.endd] 5 55)) = H at hG3 hG4 hle
 simp only [go_sem,seval, hG3, updSelf (hG3 _), eTyp, eT_cells]
 refine tcE (mMarks hm x.before x.trail (by omega) (by omega) _) ?_
 simp only [go_sem,seval, hG3, updSelf (hG3 _), eTyp, eT_cells]
 refine tcE (parts_spec hm _ x.name (by omega)) ?_
 simp only [go_sem,seval, hG3, updSelf (hG3 _), eTyp, eT_cells]
 refine tcE (each_Field x.fields hx.fields (by omega) 125 [] [.ip [fvR] 0] (by kernel_rfl) (fun y hy k => mFld hm y (Nat.le_trans (sum_mem (f := lF) hy) (by omega)) k)) ?_
 simp only [go_sem,seval, hG3, updSelf (hG3 _), eTyp, eT_cells]
 refine tcE (CloneT _ x.endd (by omega)) ?_
 simp only [go_sem,seval, hG3, hG4, updSelf (hG3 _), upd_upd, eTyp, eT_cells]
 exact .forget (hle _) ⟨rfl, rfl⟩
theorem mExpr [GI] (hm : Max0) : ∀ (n : Nat) (x : Expr), x.sz ≤ n → x.ok → wE x ≤ 1048576 → ∀ h : AHeap, ACalls prog 129 [.agg [fvR], .agg (eExpr x)] h (fun v g => v = .agg (eExpr x) ∧ g = h) := by
 intro n
 induction n with
 | zero => intro x hn; have := Expr.sz_eq x; omega
 | succ n ih =>
  intro x hn ho hw h
  have hz := Expr.sz_eq x
  obtain ⟨o1, o2⟩ := (Expr.ok_iff x).1 ho
  have hwe := wE_eq x
  have hll := turnE_room x.l
  rw [eExpr_eq x]
  refine F129.calls (by simp) ?_
  delta F129.c0
  simp only [go_sem,seval]
  refine afreshT_intro fun b3 hb3 => ?_
  simp only [go_sem,seval]
  refine afreshT_intro fun b4 hb4 => ?_
  obtain ⟨hne, hb4'⟩ := none_upd hb4
  have hG3 : ∀ Z, ((h.upd b3 (.blk [.int .i64 x.op, .int .i64 x.n, .str x.name, .str x.field, .sl (x.l.map eExpr) false] 5 76)).upd b4 Z) b3 = some (.blk [.int .i64 x.op, .int .i64 x.n, .str x.name, .str x.field, .sl (x.l.map eExpr) false] 5 76) := fun Z => by rw [upd_ne _ _ _ hne.symm, upd_same]
  have hG4 : ∀ Z, ((h.upd b3 (.blk [.int .i64 x.op, .int .i64 x.n, .str x.name, .str x.field, .sl (x.l.map eExpr) false] 5 76)).upd b4 Z) b4 = some Z := fun Z => upd_same _ _ _
  have hle : ∀ Z, h.le ((h.upd b3 (.blk [.int .i64 x.op, .int .i64 x.n, .str x.name, .str x.field, .sl (x.l.map eExpr) false] 5 76)).upd b4 Z) := fun Z => AHeap.le_trans (AHeap.le_upd hb3) (AHeap.le_upd hb4)
  generalize (h.upd b3 (.blk [.int .i64 x.op, .int .i64 x.n, .str x.name, .str x.field, .sl (x.l.map eExpr) false] 5 76)) = H at hG3 hG4 hle
  simp only [go_sem,seval, hG3, updSelf (hG3 _), eTyp, eT_cells]
  refine tcE (parts_spec hm _ x.name (by omega)) ?_
  simp only [go_sem,seval, hG3, updSelf (hG3 _), eTyp, eT_cells]
  refine tcE (parts_spec hm _ x.field (by omega)) ?_
  simp only [go_sem,seval, hG3, updSelf (hG3 _), eTyp, eT_cells]
  refine tcE (each_Expr x.l o1 (by omega) 129 [.agg [fvR]] [] (by kernel_rfl) (fun y hy k => ih y (by have := Exprs.sz_mem hy; omega) (o2 y hy) (by have := wEs_mem hy; omega) k)) ?_
  simp only [go_sem,seval, hG3, hG4, updSelf (hG3 _), upd_upd, eTyp, eT_cells]
  exact .forget (hle _) ⟨rfl, rfl⟩
theorem mStmt [GI] (hm : Max0) : ∀ (n : Nat) (x : Stmt), x.sz ≤ n → x.ok → wS x ≤ 1048576 → ∀ h : AHeap, ACalls prog 96 [.agg [fvR], .agg (eStmt x)] h (fun v g => v = .agg (eStmt x) ∧ g = h) := by
 intro n
 induction n with
 | zero => intro x hn; have := Stmt.sz_eq x; omega
 | succ n ih =>
  intro x hn ho hw h
  have hz := Stmt.sz_eq x
  obtain ⟨f1, f2, okp, fe, oke, fb, okb, fs, oks, f3, f4⟩ := (Stmt.ok_iff x).1 ho
  have hws := wS_eq x
  have q1 := tw_len x.before
  have q2 := tw_len x.trail
  have q3 := tw_len x.end1
  have q4 := tw_len x.end2
  have r1 := turnE_room x.e
  have r2 := wSs_len x.body
  have r3 := wSs_len x.els
  have hp := fun k => mExpr hm _ x.p (Nat.le_refl _) okp (by omega) k
  simp only [eExpr_eq x.p] at hp
  rw [eStmt_eq x]
  refine F96.calls (by simp) ?_
  delta F96.c0
  simp only [go_sem,seval]
  refine afreshT_intro fun b3 hb3 => ?_
  simp only [go_sem,seval]
  refine afreshT_intro fun b4 hb4 => ?_
  obtain ⟨hne, hb4'⟩ := none_upd hb4
  have hG3 : ∀ Z, ((h.upd b3 (.blk [eTexts x.before, eTexts x.trail, .int .i64 x.op, .str x.name, .int .i64 x.p.op, .int .i64 x.p.n, .str x.p.name, .str x.p.field, .sl (x.p.l.map eExpr) false, .sl (x.e.map eExpr) false, .bool x.down, .bool x.more, .sl (x.body.map eStmt) false, .sl (x.els.map eStmt) false, eTexts x.end1, eTexts x.end2] 16 78)).upd b4 Z) b3 = some (.blk [eTexts x.before, eTexts x.trail, .int .i64 x.op, .str x.name, .int .i64 x.p.op, .int .i64 x.p.n, .str x.p.name, .str x.p.field, .sl (x.p.l.map eExpr) false, .sl (x.e.map eExpr) false, .bool x.down, .bool x.more, .sl (x.body.map eStmt) false, .sl (x.els.map eStmt) false, eTexts x.end1, eTexts x.end2] 16 78) := fun Z => by rw [upd_ne _ _ _ hne.symm, upd_same]
  have hG4 : ∀ Z, ((h.upd b3 (.blk [eTexts x.before, eTexts x.trail, .int .i64 x.op, .str x.name, .int .i64 x.p.op, .int .i64 x.p.n, .str x.p.name, .str x.p.field, .sl (x.p.l.map eExpr) false, .sl (x.e.map eExpr) false, .bool x.down, .bool x.more, .sl (x.body.map eStmt) false, .sl (x.els.map eStmt) false, eTexts x.end1, eTexts x.end2] 16 78)).upd b4 Z) b4 = some Z := fun Z => upd_same _ _ _
  have hle : ∀ Z, h.le ((h.upd b3 (.blk [eTexts x.before, eTexts x.trail, .int .i64 x.op, .str x.name, .int .i64 x.p.op, .int .i64 x.p.n, .str x.p.name, .str x.p.field, .sl (x.p.l.map eExpr) false, .sl (x.e.map eExpr) false, .bool x.down, .bool x.more, .sl (x.body.map eStmt) false, .sl (x.els.map eStmt) false, eTexts x.end1, eTexts x.end2] 16 78)).upd b4 Z) := fun Z => AHeap.le_trans (AHeap.le_upd hb3) (AHeap.le_upd hb4)
  generalize (h.upd b3 (.blk [eTexts x.before, eTexts x.trail, .int .i64 x.op, .str x.name, .int .i64 x.p.op, .int .i64 x.p.n, .str x.p.name, .str x.p.field, .sl (x.p.l.map eExpr) false, .sl (x.e.map eExpr) false, .bool x.down, .bool x.more, .sl (x.body.map eStmt) false, .sl (x.els.map eStmt) false, eTexts x.end1, eTexts x.end2] 16 78)) = H at hG3 hG4 hle
  simp only [go_sem,seval, hG3, updSelf (hG3 _), eTyp, eT_cells]
  refine tcE (mMarks hm x.before x.trail (by omega) (by omega) _) ?_
  simp only [go_sem,seval, hG3, updSelf (hG3 _), eTyp, eT_cells]
  refine tcE (parts_spec hm _ x.name (by omega)) ?_
  simp only [go_sem,seval, hG3, updSelf (hG3 _), eTyp, eT_cells]
  refine tcE (hp _) ?_
  simp only [go_sem,seval, hG3, updSelf (hG3 _), eTyp, eT_cells]
  refine tcE (each_Expr x.e fe (by omega) 129 [.agg [fvR]] [] (by kernel_rfl) (fun y hy k => mExpr hm _ y (Nat.le_refl _) (oke y hy) (by have := wEs_mem hy; omega) k)) ?_
  simp only [go_sem,seval, hG3, updSelf (hG3 _), eTyp, eT_cells]
  refine tcE (each_Stmt x.body fb (by omega) 96 [.agg [fvR]] [] (by kernel_rfl) (fun y hy k => ih y (by have := Stmts.sz_mem hy; omega) (okb y hy) (by have := wSs_mem hy; omega) k)) ?_
  simp only [go_sem,seval, hG3, updSelf (hG3 _), eTyp, eT_cells]
  refine tcE (each_Stmt x.els fs (by omega) 96 [.agg [fvR]] [] (by kernel_rfl) (fun y hy k => ih y (by have := Stmts.sz_mem hy; omega) (oks y hy) (by have := wSs_mem hy; omega) k)) ?_
  simp only [go_sem,seval, hG3, updSelf (hG3 _), eTyp, eT_cells]
  refine tcE (CloneT _ x.end1 (by omega)) ?_
  simp only [go_sem,seval, hG3, updSelf (hG3 _), eTyp, eT_cells]
  refine tcE (CloneT _ x.end2 (by omega)) ?_
  simp only [go_sem,seval, hG3, hG4, updSelf (hG3 _), upd_upd, eTyp, eT_cells]
  exact .forget (hle _) ⟨rfl, rfl⟩
end Pg

namespace Pg
open Go Go.Proofs.Tryz
set_option linter.all false
set_option maxHeartbeats 4000000
set_option maxRecDepth 4000
theorem upd_nest {h : AHeap} {a b : Nat} (ne : a ≠ b) {x z y u w : AObj} : ((((h.upd a x).upd b z).upd a y).upd a u).upd b w = (h.upd a u).upd b w := by
 funext c
 simp only [AHeap.upd]
 by_cases h1 : c = b
 ·simp [h1]
 ·by_cases h2 : c = a <;> simp [h1, h2]
theorem upd_nest3 {h : AHeap} {a b : Nat} (ne : a ≠ b) {x z u w : AObj} : (((h.upd a x).upd b z).upd a u).upd b w = (h.upd a u).upd b w := by
 funext c
 simp only [AHeap.upd]
 by_cases h1 : c = b
 ·simp [h1]
 ·by_cases h2 : c = a <;> simp [h1, h2]
theorem KRs.snoc {x : Routine} {irows : List (List AV)} {pv : AV} {ps : List AV} (k : KRs x.inner irows ps) {l : List Routine} {rows : List (List AV)} {qs : List AV} (a : KRs l rows qs) : KRs (l ++ [x]) (rows ++ [kRow x pv (.sl irows false)]) (qs ++ (pv :: ps)) := by
 induction a with
 | nil => simpa using KRs.cons (pv := pv) k .nil
 | cons b _ _ ih => simpa [List.append_assoc] using KRs.cons b ih
theorem each_Routine [GI] {h : AHeap} (l : List Routine) (hl : few l) (hn : l.length ≤ 1048576) (f : FuncId) (first cap : List AV) (hc : callable prog f = true)
  (hf : ∀ x ∈ l, ∀ g : AHeap, ACalls prog f (first ++ [.agg (eRoutine x)] ++ cap) g (fun v k => ∃ pv irows ps, v = .agg (kRow x pv (.sl irows false)) ∧ KRs x.inner irows ps ∧ TL g k (pv :: ps) (preR x))) :
  ACalls prog 93 [.sl (l.map eRoutine) false, .func (.func f) first cap] h (fun v k => ∃ rows ps, v = .sl rows false ∧ KRs l rows ps ∧ TL h k ps (preL l)) := by
 refine F93.calls (by simp) ?_
 delta F93.c0
 simp only [go_sem,seval]
 refine lT_list l (fun pre post e g => ∃ v m rows ps, GL 43 9 h m v rows ∧ TL m g ps (preL pre) ∧ KRs pre rows ps ∧ e = [(1, .func (.func f) first cap), (5, v), (8, .sl (l.map eRoutine) false), (9, .int .i64 l.length), (10, .int .i64 pre.length)]) (WeakE.env ?_) ⟨.sl [] true, h, [], [], .nil h, .nil h, .nil, rfl⟩ ?_ ?_
 ·simp only [go_sem,seval]
 ·rintro pre x post e g hp ⟨v, m, rows, ps, G, TT, KR, rfl⟩
  have hpl := (at_pre hp).2
  simp only [go_sem,seval, lt_at hp, aia_sl (map_at hp) (eRoutine_len x), eRoutine_len, routine_take]
  refine ⟨hc, callT_of (hf x (mem_at hp) _) (fun v2 g2 hg => ?_)⟩
  obtain ⟨pv, irows, ps2, rfl, KI, T2⟩ := hg
  have T3 := TT.append T2
  obtain ⟨n, T4, G4⟩ := TL.swap G T3
  have sp : splice (List.replicate 0 AV.any) 0 (kRow x pv (.sl irows false)) = kRow x pv (.sl irows false) := rfl
  simp only [go_sem,seval, splice_same, kRow_len]
  refine G4.append1 (xs := kRow x pv (.sl irows false)) (bytes := 192) rfl (by unfold roomFor; simp [KR.len]; omega) (fun v' g' G' => ?_)
  obtain ⟨m2, G5, T5⟩ := TL.swap' T4 G'
  simp only [go_sem,seval]
  refine ⟨_, _, WeakE.env ?_, v', m2, rows ++ [kRow x pv (.sl irows false)], ps ++ (pv :: ps2), G5, by rw [preL_snoc]; exact T5, KI.snoc KR, rfl⟩
  ·simp only [go_sem,seval, step_at hl hp]
 ·rintro e g ⟨v, m, rows, ps, G, TT, KR, rfl⟩
  simp only [go_sem,seval, lt_end]
  refine lessQ.same ?_
  simp only [go_sem,seval]
  obtain ⟨n, T4, G4⟩ := TL.swap G TT
  exact EndW.less G4.avle G4.le ⟨rows, ps, rfl, KR, T4⟩
theorem mRoutine [GI] (hm : Max0) : ∀ (n : Nat) (x : Routine), x.sz ≤ n → x.ok → wR x ≤ 1048576 → ∀ h : AHeap, ACalls prog 94 [.agg [fvR], .agg (eRoutine x)] h (fun v k => ∃ pv irows ps, v = .agg (kRow x pv (.sl irows false)) ∧ KRs x.inner irows ps ∧ TL h k (pv :: ps) (preR x)) := by
 intro n
 induction n with
 | zero => intro x hn; have := Routine.sz_eq x; omega
 | succ n ih =>
  intro x hn ho hw h
  have hz := Routine.sz_eq x
  obtain ⟨f1, f2, f3, f4, ov, f5, oi, f6, ob, f7⟩ := (Routine.ok_iff x).1 ho
  have hwr := wR_eq x
  have q1 := tw_len x.before
  have q2 := tw_len x.trail
  have q3 := tw_len x.endd
  have r2 := wSs_len x.body
  have r3 := wRs_len x.inner
  rw [eRoutine_k x]
  refine F94.calls (by simp) ?_
  delta F94.c0
  simp only [go_sem,seval]
  refine afreshT_intro fun b3 hb3 => ?_
  simp only [go_sem,seval]
  refine afreshT_intro fun b4 hb4 => ?_
  obtain ⟨hne, hb4'⟩ := none_upd hb4
  have hG3 : ∀ Z, ((h.upd b3 (.blk (kRow x (.sl (x.params.map eParam) false) (.sl (x.inner.map eRoutine) false)) 9 43)).upd b4 Z) b3 = some (.blk (kRow x (.sl (x.params.map eParam) false) (.sl (x.inner.map eRoutine) false)) 9 43) := fun Z => by rw [upd_ne _ _ _ hne.symm, upd_same]
  simp only [go_sem,seval, hG3, updSelf (hG3 _), eTyp, eT_cells]
  refine tcE (mMarks hm x.before x.trail (by omega) (by omega) _) ?_
  simp only [go_sem,seval, hG3, updSelf (hG3 _), eTyp, eT_cells]
  refine tcE (parts_spec hm _ x.name (by omega)) ?_
  simp only [go_sem,seval, hG3, updSelf (hG3 _), eTyp, eT_cells]
  refine callT_of (each_Param x.params f3 (by omega) 128 [] [.ip [fvR] 0] (by kernel_rfl) (fun y hy k => mParam hm y (Nat.le_trans (sum_mem (f := lP) hy) (by omega)) k)) (fun pv k1 G1 => ?_)
  have c1 := G1.at (hG3 _)
  simp only [go_sem,seval, c1, G1.cells]
  have G2 := G1.upd (hG3 _) (.blk (kRow x (pv) (.sl (x.inner.map eRoutine) false)) 9 43)
  have c2 : (k1.upd b3 (.blk (kRow x (pv) (.sl (x.inner.map eRoutine) false)) 9 43)) b3 = some (.blk (kRow x (pv) (.sl (x.inner.map eRoutine) false)) 9 43) := upd_same _ _ _
  generalize k1.upd b3 (.blk (kRow x (pv) (.sl (x.inner.map eRoutine) false)) 9 43) = k2 at G2 c2
  refine tcE (each_Var x.vars f4 (by omega) 92 [.agg [fvR]] [] (by kernel_rfl) (fun y hy k => mVar hm y (Nat.le_trans (sum_mem (f := lV) hy) (by omega)) k)) ?_
  simp only [go_sem,seval, c2, updSelf c2]
  refine callT_of (each_Routine x.inner f5 (by omega) 94 [.agg [fvR]] [] (by kernel_rfl) (fun y hy k => ih y (by have := Routines.sz_mem hy; omega) (oi y hy) (by have := wRs_mem hy; omega) k)) (fun v k3 hk => ?_)
  obtain ⟨irows, ps, rfl, KI, T3⟩ := hk
  have c3 := T3.le _ _ c2
  simp only [go_sem,seval, c3]
  have T4 := TL.cons (G2.upd (upd_same _ _ _) (.blk (kRow x (pv) (.sl irows false)) 9 43)) (T3.upd c2 (.blk (kRow x (pv) (.sl irows false)) 9 43))
  have c4 : (k3.upd b3 (.blk (kRow x (pv) (.sl irows false)) 9 43)) b3 = some (.blk (kRow x (pv) (.sl irows false)) 9 43) := upd_same _ _ _
  generalize k3.upd b3 (.blk (kRow x (pv) (.sl irows false)) 9 43) = k4 at T4 c4
  refine tcE (each_Stmt x.body f6 (by omega) 96 [.agg [fvR]] [] (by kernel_rfl) (fun y hy k => mStmt hm _ y (Nat.le_refl _) (ob y hy) (by have := wSs_mem hy; omega) k)) ?_
  simp only [go_sem,seval, c4, updSelf c4]
  refine tcE (CloneT _ x.endd (by omega)) ?_
  have c5 := T4.le b4 _ (by rw [upd_ne _ _ _ hne, upd_ne _ _ _ hne, upd_same])
  simp only [go_sem,seval, c4, c5, updSelf c4, upd_same, kRow_len, kRow_take, eT_cells]
  have T5 := T4.upd (p := b4) (by rw [upd_ne _ _ _ hne, upd_ne _ _ _ hne, upd_same]) (.blk (kRow x (pv) (.sl irows false)) 9 43)
  rw [upd_nest hne.symm] at T5
  obtain ⟨n1, T6, j1, j2⟩ := TL.drop (by rw [upd_ne _ _ _ hne]; exact hb4') T5
  obtain ⟨n2, T7, j3, j4⟩ := TL.drop hb3 T6
  rw [j1]
  subst j3
  refine .forget (AHeap.le_trans (AHeap.le_upd j4) (AHeap.le_upd j2)) ⟨pv, irows, ps, rfl, KI, ?_⟩
  rw [preR_eq]; exact T7
abbrev kPrg (p : Prg) (rows : List (List AV)) : List AV := [.str p.name, eTexts p.before, eTexts p.mid, eTexts p.after, .sl (p.recs.map eRec) false, .sl (p.vars.map eVar) false, .sl rows false, .sl (p.body.map eStmt) false, eTexts p.endd]
theorem mProgram [GI] (hm : Max0) (p : Prg) (ho : p.ok) (hw : wP p ≤ 1048576) (h : AHeap) : ACalls prog 59 [.agg [fvR], .agg (ePrg p)] h (fun v k => ∃ rows ps, v = .agg (kPrg p rows) ∧ KRs p.routines rows ps ∧ TL h k ps (preL p.routines)) := by
 have q1 := tw_len p.before
 have q2 := tw_len p.mid
 have q3 := tw_len p.after
 have q4 := tw_len p.endd
 have r2 := wSs_len p.body
 have r3 := wRs_len p.routines
 have r4 : p.recs.length ≤ wRecs p.recs := by
  unfold wRecs
  generalize p.recs = l
  induction l with
  | nil => simp
  | cons x r ih =>
   have e : 2 + x.fields.length ≤ wRec x := by unfold wRec; omega
   simp only [List.length_cons, List.map_cons, List.sum_cons]; omega
 have r5 : ∀ y ∈ p.recs, wRec y ≤ wRecs p.recs := fun y hy => sum_mem (f := wRec) hy
 unfold wP at hw
 rw [show ePrg p = kPrg p (p.routines.map eRoutine) from ePrg_eq p]
 refine F59.calls (by simp) ?_
 delta F59.c0
 simp only [go_sem,seval]
 refine afreshT_intro fun b3 hb3 => ?_
 simp only [go_sem,seval]
 refine afreshT_intro fun b4 hb4 => ?_
 obtain ⟨hne, hb4'⟩ := none_upd hb4
 have hG3 : ∀ Z, ((h.upd b3 (.blk (kPrg p (p.routines.map eRoutine)) 9 28)).upd b4 Z) b3 = some (.blk (kPrg p (p.routines.map eRoutine)) 9 28) := fun Z => by rw [upd_ne _ _ _ hne.symm, upd_same]
 simp only [go_sem,seval, hG3, updSelf (hG3 _), eT_cells]
 refine tcE (parts_spec hm _ p.name (by omega)) ?_
 simp only [go_sem,seval, hG3, updSelf (hG3 _), eT_cells]
 refine tcE (CloneT _ p.before (by omega)) ?_
 simp only [go_sem,seval, hG3, updSelf (hG3 _), eT_cells]
 refine tcE (CloneT _ p.mid (by omega)) ?_
 simp only [go_sem,seval, hG3, updSelf (hG3 _), eT_cells]
 refine tcE (CloneT _ p.after (by omega)) ?_
 simp only [go_sem,seval, hG3, updSelf (hG3 _), eT_cells]
 refine tcE (CloneT _ p.endd (by omega)) ?_
 simp only [go_sem,seval, hG3, updSelf (hG3 _), eT_cells]
 refine tcE (each_Rec p.recs ho.recs (by omega) 90 [.agg [fvR]] [] (by kernel_rfl) (fun y hy k => mRec hm y (ho.eachRec y hy) (by have := r5 y hy; omega) k)) ?_
 simp only [go_sem,seval, hG3, updSelf (hG3 _), eT_cells]
 refine tcE (each_Var p.vars ho.vars (by omega) 92 [.agg [fvR]] [] (by kernel_rfl) (fun y hy k => mVar hm y (Nat.le_trans (sum_mem (f := lV) hy) (by omega)) k)) ?_
 simp only [go_sem,seval, hG3, updSelf (hG3 _), eT_cells]
 refine callT_of (each_Routine p.routines ho.routines (by omega) 94 [.agg [fvR]] [] (by kernel_rfl) (fun y hy k => mRoutine hm _ y (Nat.le_refl _) (ho.eachRoutine y hy) (by have := wRs_mem hy; omega) k)) (fun v k1 hk => ?_)
 obtain ⟨rows, ps, rfl, KI, T3⟩ := hk
 have c3 := T3.le _ _ (hG3 _)
 simp only [go_sem,seval, c3]
 have T4 := T3.upd (hG3 _) (.blk (kPrg p rows) 9 28)
 have c4 : (k1.upd b3 (.blk (kPrg p rows) 9 28)) b3 = some (.blk (kPrg p rows) 9 28) := upd_same _ _ _
 generalize k1.upd b3 (.blk (kPrg p rows) 9 28) = k4 at T4 c4
 refine tcE (each_Stmt p.body ho.body (by omega) 96 [.agg [fvR]] [] (by kernel_rfl) (fun y hy k => mStmt hm _ y (Nat.le_refl _) (ho.eachStmt y hy) (by have := wSs_mem hy; omega) k)) ?_
 have c5 := T4.le b4 _ (by rw [upd_ne _ _ _ hne, upd_same])
 simp only [go_sem,seval, c4, c5, updSelf c4, upd_same, eT_cells]
 have T5 := T4.upd (p := b4) (by rw [upd_ne _ _ _ hne, upd_same]) (.blk (kPrg p rows) 9 28)
 rw [upd_nest3 hne.symm] at T5
 obtain ⟨n1, T6, j1, j2⟩ := TL.drop (by rw [upd_ne _ _ _ hne]; exact hb4') T5
 obtain ⟨n2, T7, j3, j4⟩ := TL.drop hb3 T6
 rw [j1]
 subst j3
 exact .forget (AHeap.le_trans (AHeap.le_upd j4) (AHeap.le_upd j2)) ⟨rows, ps, rfl, KI, T7⟩
theorem tRename_spec [GI] (hm : Max0) (p : Prg) (ho : p.ok) (hw : wP p ≤ 1048576) (h : AHeap) : ACalls prog 28 [.agg (ePrg p), .sl [] true] h (fun v k => ∃ rows ps, v = .agg (kPrg p rows) ∧ KRs p.routines rows ps ∧ TL h k ps (preL p.routines)) := by
 refine F28.calls (by simp) ?_
 delta F28.c0
 simp only [go_sem,seval]
 refine afreshT_intro fun b4 hb4 => ?_
 simp only [go_sem,seval, ePrg_len, prg_take]
 refine callT_of (mProgram hm p ho hw _) (fun v k1 hk => ?_)
 obtain ⟨rows, ps, rfl, KI, T3⟩ := hk
 have c3 := T3.le _ _ (upd_same _ _ _)
 simp only [go_sem,seval, c3]
 have T4 := T3.upd (upd_same _ _ _) (.blk (kPrg p rows) 9 28)
 rw [upd_upd] at T4
 obtain ⟨n2, T7, j3, j4⟩ := TL.drop hb4 T4
 rw [j3]
 exact .forget (AHeap.le_upd j4) ⟨rows, ps, rfl, KI, T7⟩
end Pg
