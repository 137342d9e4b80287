import Derived.Test.YtdfbkddelhbgmaaGreatDoorTreeSS2
import Derived.Test.YtdfbkddelhbgmaaGreatDoorWordsS2
import Derived.Test.YtdfbkddelhbgmaaGreatDoorNoteS2
import Derived.Test.YtdfbkddelhbgmaaGreatDoorCkXS2
import Derived.Test.YtdfbkddelhbgmaaGreatDoorCountS2
namespace Pg.Tc
open Go Go.Proofs.Tryz
set_option linter.all false
set_option maxHeartbeats 4000000
set_option maxRecDepth 4000
abbrev tcA : AV := .agg [.int .i64 0]
theorem few_string_spec [GI] (h : AHeap) (rows : List (List AV)) (f : Bool) (hr : rows.length ≤ 512) : ACalls prog 103 [.sl rows f] h (fun v g => v = .bool true ∧ g = h) := by
 have hr' : ((rows.length : Int) ≤ 512) = True := by simp; omega
 refine F103.calls (by simp) ?_
 delta F103.c0
 simp only [go_sem,seval, hr']
 exact .same ⟨rfl, rfl⟩
theorem few_Rec_spec [GI] (h : AHeap) (rows : List (List AV)) (f : Bool) (hr : rows.length ≤ 512) : ACalls prog 65 [.sl rows f] h (fun v g => v = .bool true ∧ g = h) := by
 have hr' : ((rows.length : Int) ≤ 512) = True := by simp; omega
 refine F65.calls (by simp) ?_
 delta F65.c0
 simp only [go_sem,seval, hr']
 exact .same ⟨rfl, rfl⟩
theorem few_Field_spec [GI] (h : AHeap) (rows : List (List AV)) (f : Bool) (hr : rows.length ≤ 512) : ACalls prog 106 [.sl rows f] h (fun v g => v = .bool true ∧ g = h) := by
 have hr' : ((rows.length : Int) ≤ 512) = True := by simp; omega
 refine F106.calls (by simp) ?_
 delta F106.c0
 simp only [go_sem,seval, hr']
 exact .same ⟨rfl, rfl⟩
theorem few_Var_spec [GI] (h : AHeap) (rows : List (List AV)) (f : Bool) (hr : rows.length ≤ 512) : ACalls prog 110 [.sl rows f] h (fun v g => v = .bool true ∧ g = h) := by
 have hr' : ((rows.length : Int) ≤ 512) = True := by simp; omega
 refine F110.calls (by simp) ?_
 delta F110.c0
 simp only [go_sem,seval, hr']
 exact .same ⟨rfl, rfl⟩
theorem few_Routine_spec [GI] (h : AHeap) (rows : List (List AV)) (f : Bool) (hr : rows.length ≤ 512) : ACalls prog 114 [.sl rows f] h (fun v g => v = .bool true ∧ g = h) := by
 have hr' : ((rows.length : Int) ≤ 512) = True := by simp; omega
 refine F114.calls (by simp) ?_
 delta F114.c0
 simp only [go_sem,seval, hr']
 exact .same ⟨rfl, rfl⟩
theorem few_Stmt_spec [GI] (h : AHeap) (rows : List (List AV)) (f : Bool) (hr : rows.length ≤ 512) : ACalls prog 119 [.sl rows f] h (fun v g => v = .bool true ∧ g = h) := by
 have hr' : ((rows.length : Int) ≤ 512) = True := by simp; omega
 refine F119.calls (by simp) ?_
 delta F119.c0
 simp only [go_sem,seval, hr']
 exact .same ⟨rfl, rfl⟩
theorem few_Param_spec [GI] (h : AHeap) (rows : List (List AV)) (f : Bool) (hr : rows.length ≤ 512) : ACalls prog 159 [.sl rows f] h (fun v g => v = .bool true ∧ g = h) := by
 have hr' : ((rows.length : Int) ≤ 512) = True := by simp; omega
 refine F159.calls (by simp) ?_
 delta F159.c0
 simp only [go_sem,seval, hr']
 exact .same ⟨rfl, rfl⟩
theorem few_Expr_spec [GI] (h : AHeap) (rows : List (List AV)) (f : Bool) (hr : rows.length ≤ 512) : ACalls prog 184 [.sl rows f] h (fun v g => v = .bool true ∧ g = h) := by
 have hr' : ((rows.length : Int) ≤ 512) = True := by simp; omega
 refine F184.calls (by simp) ?_
 delta F184.c0
 simp only [go_sem,seval, hr']
 exact .same ⟨rfl, rfl⟩
theorem tkind_spec [GI] (h : AHeap) (k : Int) (h1 : 1 ≤ k) (h2 : k ≤ 3) : ACalls prog 109 [.int .i64 k] h (fun v g => v = .bool true ∧ g = h) := by
 refine F109.calls (by simp) ?_
 delta F109.c0
 simp only [go_sem,seval, h1, h2, ge_iff_le]
 exact .same ⟨rfl, rfl⟩
theorem ttyp_spec [GI] (hm : Spc0) (h : AHeap) (t : Typ) (ht : tTyp t = true) : ACalls prog 113 [tcA, .agg (eTyp t)] h (fun v g => v = .bool true ∧ g = h) := by
 obtain ⟨k, n, name⟩ := t
 unfold tTyp at ht
 refine F113.calls (by simp) ?_
 delta F113.c0
 unfold eTyp
 by_cases hk : k = 4
 ·subst hk
  simp only [if_true, Bool.and_eq_true, decide_eq_true_eq] at ht
  obtain ⟨rfl, ht⟩ := ht
  simp only [go_sem,seval]
  refine tcE (tcname_spec hm h name ht) ?_
  simp only [go_sem,seval]
  exact .same ⟨rfl, rfl⟩
 ·simp only [hk, if_false, Bool.and_eq_true, decide_eq_true_eq] at ht
  obtain ⟨⟨⟨⟨h1, h2⟩, h3⟩, h4⟩, rfl⟩ := ht
  simp only [go_sem,seval, hk]
  refine tcE (tkind_spec h k h1 h2) ?_
  simp only [go_sem,seval, h3, h4, ge_iff_le]
  exact .same ⟨rfl, rfl⟩
theorem tnotes_spec [GI] (h : AHeap) (slots : List (List ByteArray)) (f : Bool) (hf : slots.length ≤ 8) (hn : ∀ l ∈ slots, tNotes l = true) : ACalls prog 64 [.sl (slots.map fun l => [eTexts l]) f] h (fun v g => v = .bool true ∧ g = h) := by
 have hw : Pg.few slots := by unfold Pg.few; omega
 refine F64.calls (by simp) ?_
 delta F64.c0
 simp only [eTexts]
 simp only [go_sem,seval, List.length_map]
 refine lT_list slots (fun pre post e g => g = h ∧ e = [(9, .sl (slots.map fun l => [.sl (l.map fun s => [.str s]) false]) f), (10, .int .i64 slots.length), (11, .int .i64 pre.length)]) (WeakE.env ?_) ⟨rfl, rfl⟩ ?_ ?_
 ·simp only [go_sem,seval]
 ·rintro pre l post e g hl ⟨rfl, rfl⟩
  have ht := hn l (mem_at hl)
  simp only [tNotes, Bool.and_eq_true, decide_eq_true_eq, List.all_eq_true] at ht
  have hwl : Pg.few l := by unfold Pg.few; omega
  have ha : aia 1 (.sl (slots.map fun l => [.sl (l.map fun s => [.str s]) false]) f) (.int .i64 pre.length) = some (.ip [.sl (l.map fun s => [.str s]) false] 0) := aia_sl (map_at hl) rfl
  simp only [go_sem,seval, lt_at hl, ha]
  refine tcE (few_string_spec _ (l.map fun s => [.str s]) _ (by rw [List.length_map]; exact ht.2)) ?_
  simp only [go_sem,seval, List.length_map]
  refine lT_list l (fun pr ps e k => k = g ∧ e = [(9, .sl (slots.map fun l => [.sl (l.map fun s => [.str s]) false]) f), (10, .int .i64 slots.length), (11, .int .i64 pre.length), (18, .sl (l.map fun s => [.str s]) false), (19, .int .i64 l.length), (20, .int .i64 pr.length)]) (WeakE.env ?_) ⟨rfl, rfl⟩ ?_ ?_
  ·simp only [go_sem,seval]
  ·rintro pr s ps e k hl2 ⟨rfl, rfl⟩
   have ha2 : aia 1 (.sl (l.map fun s => [.str s]) false) (.int .i64 pr.length) = some (.ip [.str s] 0) := aia_sl (map_at hl2) rfl
   simp only [go_sem,seval, lt_at hl2, ha2]
   refine callT_of (nPrint_spec _ s (ht.1 s (mem_at hl2))) fun v g ⟨⟨t, hv⟩, hg⟩ => ?_
   subst hv hg
   simp only [go_sem,seval]
   refine ⟨_, _, WeakE.env ?_, rfl, rfl⟩
   ·simp only [go_sem,seval, step_at hwl hl2]
  ·rintro e k ⟨rfl, rfl⟩
   simp only [go_sem,seval, lt_end]
   refine lessQ.same ?_
   simp only [go_sem,seval]
   refine ⟨_, _, WeakE.env ?_, rfl, rfl⟩
   ·simp only [go_sem,seval, step_at hw hl]
 ·rintro e g ⟨rfl, rfl⟩
  simp only [go_sem,seval, lt_end]
  refine lessQ.same ?_
  simp only [go_sem,seval]
  exact .same ⟨rfl, rfl⟩
end Pg.Tc

namespace Pg.Tc
open Go Go.Proofs.Tryz
set_option linter.all false
set_option maxHeartbeats 4000000
set_option maxRecDepth 4000
mutual
def xdep : Expr → Nat
 | ⟨_, _, _, _, l⟩ => xdeps l + 1
def xdeps : List Expr → Nat
 | [] => 0
 | x :: r => max (xdep x) (xdeps r)
end
theorem xdeps_append : ∀ (l r : List Expr), xdeps (l ++ r) = max (xdeps l) (xdeps r)
 | [], r => by simp [xdeps]
 | x :: l, r => by simp only [List.cons_append, xdeps, xdeps_append l r]; omega
theorem xdep_pos (x : Expr) : 1 ≤ xdep x := by cases x; simp [xdep]
theorem xdep_le {l : List Expr} {x : Expr} (h : x ∈ l) : xdep x ≤ xdeps l := by
 obtain ⟨a, b, rfl⟩ := List.append_of_mem h
 rw [xdeps_append]; simp only [xdeps]; omega
theorem forms_in : ∀ (m : Nat) (l : List Expr), forms m l = true → ∀ x ∈ l, form m x = true ∧ x.op ≠ 25
 | _, [], _, x, h => by cases h
 | m, y :: r, h, x, hx => by
  simp only [forms, Bool.and_eq_true, Bool.not_eq_true', decide_eq_false_iff_not] at h
  rcases List.mem_cons.1 hx with rfl | hx
  ·exact ⟨h.1.2, h.1.1⟩
  ·exact forms_in m r h.2 x hx
mutual
theorem dp_eq : ∀ (m n : Nat) (x : Expr), form (m + 1) x = true → m ≤ n → deep n x = xdep x
 | m, n, ⟨op, k, name, field, l⟩, h, hn => by
  simp only [form, Bool.and_eq_true] at h
  simp only [deep, xdep, dps_eq m n l h.2 hn]
theorem dps_eq : ∀ (m n : Nat) (l : List Expr), forms m l = true → m ≤ n → deeps n l = xdeps l
 | m, 0, [], h, hn => rfl
 | m, n + 1, [], h, hn => rfl
 | m, n, x :: r, h, hn => by
  simp only [forms, Bool.and_eq_true, Bool.not_eq_true', decide_eq_false_iff_not] at h
  cases m with
  | zero => simp [form] at h
  | succ m =>
   cases n with
   | zero => omega
   | succ n =>
    simp only [deeps, xdeps]
    rw [if_neg h.1.1, dp_eq m n x h.1.2 (by omega), dps_eq (m + 1) (n + 1) r h.2 hn]
end
theorem expr_dep {x : Expr} (h : tExpr x = true) : form 48 x = true ∧ xdep x ≤ 48 := by
 simp only [tExpr, Bool.and_eq_true, decide_eq_true_eq] at h
 rw [dp_eq 47 99 x h.1 (by omega)] at h
 exact h
theorem tdeepest_spec [GI] (h : AHeap) (l : List Expr) (f : Bool) (hl : l.length ≤ 512) (hd : xdeps l < 48) (hx : ∀ x ∈ l, ACalls prog 164 [tcA, .agg (eExpr x)] h (fun v g => v = .int .i64 (xdep x) ∧ g = h)) : ACalls prog 186 [tcA, .sl (l.map eExpr) f] h (fun v g => v = .int .i64 ((xdeps l + 1 : Nat) : Int) ∧ g = h) := by
 have hw : Pg.few l := by unfold Pg.few; omega
 refine F186.calls (by simp) ?_
 delta F186.c0
 simp only [go_sem,seval, List.length_map]
 refine lT_list l (fun pre post e g => g = h ∧ e = [(2, .ip [.int .i64 0] 0), (5, .int .i64 (xdeps pre)), (9, .sl (l.map eExpr) f), (10, .int .i64 l.length), (11, .int .i64 pre.length)]) (WeakE.env ?_) ⟨rfl, rfl⟩ ?_ ?_
 ·simp only [go_sem,seval, xdeps]
 ·rintro pre x post e g hp ⟨rfl, rfl⟩
  have hx1 := xdep_pos x
  have h0 : ((xdep x : Int) = 0) = False := by simp; omega
  have hmx : xdeps (pre ++ [x]) = max (xdeps pre) (xdep x) := by rw [xdeps_append]; simp [xdeps]
  have hmm : (if (xdep x : Int) > xdeps pre then (xdep x : Int) else xdeps pre) = ((max (xdeps pre) (xdep x) : Nat) : Int) := by split <;> omega
  simp only [go_sem,seval, lt_at hp, aia_sl (map_at hp) (eExpr_len x)]
  refine tcE (hx x (mem_at hp)) ?_
  simp only [go_sem,seval, h0]
  refine ⟨_, _, WeakE.env ?_, rfl, rfl⟩
  ·simp only [go_sem,seval, step_at hw hp, hmx, hmm]
 ·rintro e g ⟨rfl, rfl⟩
  have h48 : ((xdeps l : Int) ≥ 48) = False := by simp; omega
  have hw1 : IntKind.i64.wrap ((xdeps l : Int) + 1) = ((xdeps l + 1 : Nat) : Int) := by rw [wrap64 (by omega) (by omega)]; omega
  simp only [go_sem,seval, lt_end]
  refine lessQ.same ?_
  simp only [go_sem,seval, h48, hw1]
  exact .same ⟨rfl, rfl⟩
theorem tcroutine_spec [GI] (hm : Spc0) (h : AHeap) (s : ByteArray) (hs : tName s = true) : ACalls prog 117 [tcA, .str s] h (fun v g => v = .bool true ∧ g = h) := by
 refine F117.calls (by simp) ?_
 delta F117.c0
 simp only [go_sem,seval]
 refine afreshT_intro fun p hp => ?_
 simp only [go_sem,seval]
 refine tcE (tcname_spec hm _ s hs) ?_
 simp only [go_sem,seval, upd_same, upd_upd]
 exact .forget (AHeap.le_upd hp) ⟨rfl, rfl⟩
theorem aslice_all {es : List (List AV)} {f : Bool} : aslice false 5 (.sl es f) none (some (.int .i64 (es.length : Int))) = some (.sl es f) := by
 simp only [aslice, abound]
 rw [if_pos (Int.natCast_nonneg _)]
 simp
theorem tcall_spec [GI] (hm : Spc0) (h : AHeap) (op k : Int) (name field : ByteArray) (l : List Expr) (hl : l.length ≤ 512) (hd : xdeps l < 48) (hn : tName name = true) (h25 : ∀ x ∈ l, x.op ≠ 25)
  (hx : ∀ x ∈ l, ACalls prog 164 [tcA, .agg (eExpr x)] h (fun v g => v = .int .i64 (xdep x) ∧ g = h)) : ACalls prog 185 [tcA, .agg (eExpr ⟨op, k, name, field, l⟩)] h (fun v g => v = .int .i64 ((xdeps l + 1 : Nat) : Int) ∧ g = h) := by
 refine F185.calls (by simp) ?_
 delta F185.c0
 simp only [eExpr, eExprs_map]
 simp only [go_sem,seval]
 refine tcE (tcroutine_spec hm h name hn) ?_
 simp only [go_sem,seval, List.length_map]
 have hsl : aslice false 5 (.sl (l.map eExpr) false) none (some (.int .i64 (l.length : Int))) = some (.sl (l.map eExpr) false) := by
  have := aslice_all (es := l.map eExpr) (f := false)
  rwa [List.length_map] at this
 refine lT_inv2 (fun n e g => g = h ∧ e = [(2, .ip [.int .i64 0] 0), (3, .ip [.int .i64 op, .int .i64 k, .str name, .str field, .sl (l.map eExpr) false] 0), (5, .int .i64 l.length)]) 0 (WeakE.env ?_) ⟨rfl, rfl⟩ ?_
 ·simp only [go_sem,seval]
 ·rintro n e g ⟨rfl, rfl⟩
  rcases List.eq_nil_or_concat l with rfl | ⟨pre, x, rfl⟩
  ·simp only [go_sem,seval]
   refine lessQ.same ?_
   have hsl0 : aslice false 5 (.sl [] false) none (some (.int .i64 0)) = some (.sl [] false) := by rfl
   simp only [go_sem,seval, hsl0]
   refine tcE (tdeepest_spec g [] false hl hd hx) ?_
   simp only [go_sem,seval]
   exact .same ⟨rfl, rfl⟩
  ·rw [List.concat_eq_append] at *
   have hpos : (((pre ++ [x]).length : Int) > 0) = True := by simp
   have hw : IntKind.i64.wrap (((pre ++ [x]).length : Int) - 1) = (pre.length : Int) := by rw [List.length_append] at hl ⊢; rw [wrap64 (by simp) (by simp at hl ⊢; omega)]; simp
   have ha : aia 5 (.sl ((pre ++ [x]).map eExpr) false) (.int .i64 (pre.length : Int)) = some (.ip (eExpr x) 0) := aia_sl (map_at (l := pre ++ [x]) (pre := pre) (post := []) rfl) (eExpr_len x)
   have ho : ((x.op : Int) = 25) = False := by simpa using h25 x (by simp)
   obtain ⟨o', k', n', f', l'⟩ := x
   simp only [eExpr] at ha
   simp only [go_sem,seval, hpos, hw, ha, ho]
   refine lessQ.same ?_
   simp only [go_sem,seval, hsl]
   refine tcE (tdeepest_spec g _ false hl hd hx) ?_
   simp only [go_sem,seval]
   exact .same ⟨rfl, rfl⟩
theorem tName_ne {s : ByteArray} (h : tName s = true) : (s = (⟨#[]⟩ : ByteArray)) = False := by
 rw [eq_iff_iff, iff_false]
 rintro rfl
 revert h
 decide
theorem texpr_spec [GI] (hm : Spc0) (h : AHeap) : ∀ (m : Nat) (x : Expr), form m x = true → xdep x ≤ 48 → ACalls prog 164 [tcA, .agg (eExpr x)] h (fun v g => v = .int .i64 (xdep x) ∧ g = h)
 | 0, x, hf, hd => by simp [form] at hf
 | m + 1, ⟨op, k, name, field, l⟩, hf, hd => by
  simp only [form, Bool.and_eq_true, decide_eq_true_eq] at hf
  obtain ⟨⟨⟨⟨hl, h1⟩, h24⟩, hp⟩, hf⟩ := hf
  simp only [xdep] at hd ⊢
  have hmem := forms_in m l hf
  have hx : ∀ x ∈ l, ACalls prog 164 [tcA, .agg (eExpr x)] h (fun v g => v = .int .i64 (xdep x) ∧ g = h) := fun x hx => texpr_spec hm h m x (hmem x hx).1 (by have := xdep_le hx; omega)
  have hdeep := tdeepest_spec h l false hl (by omega) hx
  simp only [partsOk, Bool.and_eq_true] at hp
  obtain ⟨⟨⟨p1, p2⟩, p3⟩, p4⟩ := hp
  refine F164.calls (by simp) ?_
  delta F164.c0
  simp only [eExpr, eExprs_map]
  rcases (by omega : op = 1 ∨ op = 2 ∨ op = 3 ∨ op = 4 ∨ op = 5 ∨ op = 6 ∨ op = 7 ∨ op = 8 ∨ op = 9 ∨ 10 ≤ op) with rfl | rfl | rfl | rfl | rfl | rfl | rfl | rfl | rfl | h10
  ·simp at p1 p2 p3 p4
   subst p2 p3 p4
   simp only [List.map_nil] at hdeep
   by_cases hk : k = 0
   ·subst hk
    simp only [go_sem,seval]
    refine tcE (few_Expr_spec h [] false (by simp)) ?_
    simp only [go_sem,seval]
    refine tcE (hdeep) ?_
    simp only [go_sem,seval]
    exact .same ⟨rfl, rfl⟩
   ·simp only [go_sem,seval, hk]
    refine tcE (few_Expr_spec h [] false (by simp)) ?_
    simp only [go_sem,seval, p1, ge_iff_le]
    refine tcE (hdeep) ?_
    simp only [go_sem,seval]
    exact .same ⟨rfl, rfl⟩
  ·simp at p1 p2 p3 p4
   subst p2 p3 p4
   simp only [List.map_nil] at hdeep
   by_cases hk : k = 0
   ·subst hk
    simp only [go_sem,seval]
    refine tcE (few_Expr_spec h [] false (by simp)) ?_
    simp only [go_sem,seval]
    refine tcE (hdeep) ?_
    simp only [go_sem,seval]
    exact .same ⟨rfl, rfl⟩
   ·have hk1 : k = 1 := by omega
    subst hk1
    simp only [go_sem,seval]
    refine tcE (few_Expr_spec h [] false (by simp)) ?_
    simp only [go_sem,seval]
    refine tcE (hdeep) ?_
    simp only [go_sem,seval]
    exact .same ⟨rfl, rfl⟩
  ·simp at p1 p2 p3 p4
   subst p2 p3 p4
   simp only [List.map_nil] at hdeep
   by_cases hk : k = 0
   ·subst hk
    simp only [go_sem,seval]
    refine tcE (few_Expr_spec h [] false (by simp)) ?_
    simp only [go_sem,seval]
    refine tcE (hdeep) ?_
    simp only [go_sem,seval]
    exact .same ⟨rfl, rfl⟩
   ·simp only [go_sem,seval, hk]
    refine tcE (few_Expr_spec h [] false (by simp)) ?_
    simp only [go_sem,seval, p1.1, p1.2, ge_iff_le]
    refine tcE (hdeep) ?_
    simp only [go_sem,seval]
    exact .same ⟨rfl, rfl⟩
  ·simp at p1 p2 p3 p4
   subst p1 p3 p4
   simp only [List.map_nil] at hdeep
   have hne := tName_ne p2
   simp only [go_sem,seval, hne]
   refine tcE (few_Expr_spec h [] false (by simp)) ?_
   simp only [go_sem,seval]
   refine tcE (tcname_spec hm h name p2) ?_
   simp only [go_sem,seval]
   refine tcE (hdeep) ?_
   simp only [go_sem,seval]
   exact .same ⟨rfl, rfl⟩
  ·simp at p1 p2 p3 p4
   subst p1 p3
   have hlen : ((l.length : Int) = 1) = True := by simpa using p4
   have hne := tName_ne p2
   simp only [go_sem,seval, hne]
   refine tcE (few_Expr_spec h (l.map eExpr) false (by simpa using hl)) ?_
   simp only [go_sem,seval]
   refine tcE (tcname_spec hm h name p2) ?_
   simp only [go_sem,seval, List.length_map, hlen]
   refine tcE (hdeep) ?_
   simp only [go_sem,seval]
   exact .same ⟨rfl, rfl⟩
  ·simp at p1 p2 p3 p4
   subst p1 p4
   simp only [List.map_nil] at hdeep
   have hne := tName_ne p2
   have hnf := tName_ne p3
   simp only [go_sem,seval, hne, hnf]
   refine tcE (few_Expr_spec h [] false (by simp)) ?_
   simp only [go_sem,seval]
   refine tcE (tcname_spec hm h name p2) ?_
   simp only [go_sem,seval]
   refine tcE (tcname_spec hm h field p3) ?_
   simp only [go_sem,seval]
   refine tcE (hdeep) ?_
   simp only [go_sem,seval]
   exact .same ⟨rfl, rfl⟩
  ·simp at p1 p2 p3
   subst p1 p3
   have hne := tName_ne p2
   have hcall := tcall_spec hm h 7 0 name noBytes l hl (by omega) p2 (fun x hx => (hmem x hx).2) hx
   simp only [eExpr, eExprs_map] at hcall
   simp only [go_sem,seval, hne]
   refine tcE (few_Expr_spec h (l.map eExpr) false (by simpa using hl)) ?_
   simp only [go_sem,seval]
   refine tcE (hcall) ?_
   simp only [go_sem,seval]
   exact .same ⟨rfl, rfl⟩
  ·simp at p1 p2 p3 p4
   subst p1 p2 p3
   have hlen : ((l.length : Int) = 1) = True := by simpa using p4
   simp only [go_sem,seval]
   refine tcE (few_Expr_spec h (l.map eExpr) false (by simpa using hl)) ?_
   simp only [go_sem,seval, List.length_map, hlen]
   refine tcE (hdeep) ?_
   simp only [go_sem,seval]
   exact .same ⟨rfl, rfl⟩
  ·simp at p1 p2 p3 p4
   subst p1 p2 p3
   have hlen : ((l.length : Int) = 1) = True := by simpa using p4
   simp only [go_sem,seval]
   refine tcE (few_Expr_spec h (l.map eExpr) false (by simpa using hl)) ?_
   simp only [go_sem,seval, List.length_map, hlen]
   refine tcE (hdeep) ?_
   simp only [go_sem,seval]
   exact .same ⟨rfl, rfl⟩
  ·have e1 : (op = 1) = False := by simp; omega
   have e2 : (op = 2) = False := by simp; omega
   have e3 : (op = 3) = False := by simp; omega
   have e4 : (op = 4) = False := by simp; omega
   have e5 : (op = 5) = False := by simp; omega
   have e6 : (op = 6) = False := by simp; omega
   have e7 : (op = 7) = False := by simp; omega
   have e8 : (op = 8) = False := by simp; omega
   have e9 : (op = 9) = False := by simp; omega
   have e10 : (op ≤ 7) = False := by simp; omega
   have e11 : (op ≤ 3) = False := by simp; omega
   have e12 : (op ≥ 4) = True := by simp; omega
   have e13 : (op ≥ 1) = True := by simp; omega
   have e14 : (op ≥ 10) = True := by simp; omega
   have e15 : (op ≤ 24) = True := by simp; omega
   have e16 : (4 ≤ op ∧ op ≤ 7) = False := by simp; omega
   simp [e1, e2, e3, e5, e6, e7, e8, e9, e16, h10, ByteArray.ext_iff] at p1 p2 p3 p4
   have hn : name = noBytes := ByteArray.ext p2
   have hfd : field = noBytes := ByteArray.ext p3
   subst p1 hn hfd
   have hlen : ((l.length : Int) = 2) = True := by simp; omega
   simp only [go_sem,seval, e10, e11, e12, e13]
   refine tcE (few_Expr_spec h (l.map eExpr) false (by simpa using hl)) ?_
   simp only [go_sem,seval, e1, e2, e3, e4, e5, e6, e7, e8, e9, e14, e15, List.length_map, hlen]
   refine tcE (hdeep) ?_
   simp only [go_sem,seval]
   exact .same ⟨rfl, rfl⟩
end Pg.Tc

namespace Pg.Tc
open Go Go.Proofs.Tryz
set_option linter.all false
set_option maxHeartbeats 4000000
set_option maxRecDepth 4000
theorem texpr_ok [GI] (hm : Spc0) (h : AHeap) (x : Expr) (hx : tExpr x = true) : ACalls prog 164 [tcA, .agg (eExpr x)] h (fun v g => v = .int .i64 (xdep x) ∧ g = h) :=
 texpr_spec hm h 48 x (expr_dep hx).1 (expr_dep hx).2
theorem tplace_spec [GI] (hm : Spc0) (h : AHeap) (x : Expr) (hx : tPlace x = true) : ACalls prog 162 [tcA, .agg (eExpr x)] h (fun v g => v = .bool true ∧ g = h) := by
 simp only [tPlace, Bool.and_eq_true, decide_eq_true_eq] at hx
 obtain ⟨⟨h4, h6⟩, hx⟩ := hx
 have he := texpr_ok hm h x hx
 have hpos : ((xdep x : Int) > 0) = True := by have := xdep_pos x; simp; omega
 obtain ⟨op, k, name, field, l⟩ := x
 simp only at h4 h6
 refine F162.calls (by simp) ?_
 delta F162.c0
 simp only [eExpr] at he ⊢
 rcases (by omega : op = 4 ∨ op = 5 ∨ op = 6) with rfl | rfl | rfl
 all_goals
  simp only [go_sem,seval]
  refine tcE (he) ?_
  simp only [go_sem,seval, hpos]
  exact .same ⟨rfl, rfl⟩
theorem EqualFunc0_spec [GI] (h : AHeap) (f : AV) : ACalls prog 200 [.sl [] false, .sl [] true, f] h (fun v g => v = .bool true ∧ g = h) := by
 refine F200.calls (by simp) ?_
 delta F200.c0
 simp only [go_sem,seval]
 refine lT_inv2 (fun n e g => g = h ∧ e = [(16, .int .i64 0), (17, .int .i64 0)]) 0 (WeakE.env ?_) ⟨rfl, rfl⟩ ?_
 ·simp only [go_sem,seval]
 ·rintro n e g ⟨rfl, rfl⟩
  simp only [go_sem,seval]
  refine lessQ.same ?_
  simp only [go_sem,seval]
  exact .same ⟨rfl, rfl⟩
theorem tnone_spec [GI] (h : AHeap) (x : Expr) (hx : tNone x = true) : ACalls prog 163 [.agg (eExpr x)] h (fun v g => v = .bool true ∧ g = h) := by
 obtain ⟨op, k, name, field, l⟩ := x
 simp only [tNone, Bool.and_eq_true, decide_eq_true_eq] at hx
 obtain ⟨⟨⟨⟨rfl, rfl⟩, rfl⟩, rfl⟩, hl⟩ := hx
 have : l = [] := List.eq_nil_of_length_eq_zero hl
 subst this
 have hs : ACalls prog 183 [.agg [.int .i64 0, .int .i64 0, .str noBytes, .str noBytes, .sl [] false], .agg [.int .i64 0, .int .i64 0, .str noBytes, .str noBytes, .sl [] true]] h (fun v g => v = .bool true ∧ g = h) := by
  refine F183.calls (by simp) ?_
  delta F183.c0
  simp only [go_sem,seval]
  refine tcE (EqualFunc0_spec h _) ?_
  simp only [go_sem,seval]
  exact .same ⟨rfl, rfl⟩
 refine F163.calls (by simp) ?_
 delta F163.c0
 simp only [eExpr, eExprs]
 simp only [go_sem,seval]
 refine tcE (hs) ?_
 simp only [go_sem,seval]
 exact .same ⟨rfl, rfl⟩
def shapeA (op : Int) : List AV :=
 if op = 1 then [.bool true, .bool false, .bool false, .int .i64 1, .int .i64 1] else
 if op = 2 ∨ op = 8 then [.bool false, .bool false, .bool false, .int .i64 1, .int .i64 1] else
 if op = 3 ∨ op = 4 ∨ op = 5 then [.bool false, .bool false, .bool true, .int .i64 1, .int .i64 1] else
 if op = 6 then [.bool false, .bool true, .bool true, .int .i64 2, .int .i64 2] else
 if op = 7 then [.bool true, .bool false, .bool false, .int .i64 0, .int .i64 0] else
 [.bool false, .bool false, .bool false, .int .i64 0, .int .i64 1]
theorem tshape_spec [GI] (h : AHeap) (op : Int) (h1 : 1 ≤ op) (h9 : op ≤ 9) : ACalls prog 161 [.int .i64 op] h (fun v g => v = .tuple [.agg (shapeA op), .bool true] ∧ g = h) := by
 refine F161.calls (by simp) ?_
 delta F161.c0
 rcases (by omega : op = 1 ∨ op = 2 ∨ op = 3 ∨ op = 4 ∨ op = 5 ∨ op = 6 ∨ op = 7 ∨ op = 8 ∨ op = 9) with rfl | rfl | rfl | rfl | rfl | rfl | rfl | rfl | rfl
 all_goals
  simp only [go_sem,seval]
  refine afreshT_intro fun p hp => ?_
  simp only [go_sem,seval, upd_same, upd_upd]
  exact .forget (AHeap.le_upd hp) ⟨by simp [shapeA], rfl⟩
theorem tstmt_step [GI] (hm : Spc0) (h : AHeap) (x : Stmt) (d : Int) (hd : d ≤ 48) (hd0 : 0 ≤ d) (h1 : tStmt1 x = true) (hb : ACalls prog 71 [tcA, .sl (x.body.map eStmt) false, .int .i64 (d + 1)] h (fun v g => v = .bool true ∧ g = h))
  (he : ACalls prog 71 [tcA, .sl (x.els.map eStmt) false, .int .i64 (d + 1)] h (fun v g => v = .bool true ∧ g = h)) : ACalls prog 122 [tcA, .agg (eStmt x), .int .i64 d] h (fun v g => v = .bool true ∧ g = h) := by
 simp only [tStmt1, Bool.and_eq_true] at h1
 obtain ⟨⟨⟨⟨⟨⟨s1, s2⟩, s3⟩, s4⟩, s5⟩, s6⟩, s7⟩ := h1
 obtain ⟨before, trail, op, name, p, e, down, more, body, els, end1, end2⟩ := x
 simp only [sMarks, tMarks, Bool.and_eq_true, decide_eq_true_eq] at s1
 obtain ⟨⟨⟨⟨⟨n1, n2⟩, n3⟩, n4⟩, o1⟩, o9⟩ := s1
 simp only [sCount, Bool.and_eq_true, decide_eq_true_eq] at s2
 simp only [List.all_eq_true] at s3
 have hw : IntKind.i64.wrap (d + 1) = d + 1 := wrap64 (by omega) (by omega)
 have hd48 : (d > 48) = False := by simp; omega
 have hsh := tshape_spec h op o1 o9
 have hnotes : ACalls prog 64 [.sl [[eTexts before], [eTexts trail], [eTexts end1], [eTexts end2]] true] h (fun v g => v = .bool true ∧ g = h) := tnotes_spec h [before, trail, end1, end2] true (by simp) (by simp [n1, n2, n3, n4])
 have hwe : Pg.few e := by
  have := s2.2
  unfold Pg.few
  split at this
  ·omega
  ·split at this <;> omega
 have hplace : tPlace p = true → ACalls prog 162 [tcA, .agg [.int .i64 p.op, .int .i64 p.n, .str p.name, .str p.field, .sl (p.l.map eExpr) false]] h (fun v g => v = .bool true ∧ g = h) := fun hp => by
  have := tplace_spec hm h p hp; rwa [eExpr_eq] at this
 have hnone : tNone p = true → ACalls prog 163 [.agg [.int .i64 p.op, .int .i64 p.n, .str p.name, .str p.field, .sl (p.l.map eExpr) false]] h (fun v g => v = .bool true ∧ g = h) := fun hp => by
  have := tnone_spec h p hp; rwa [eExpr_eq] at this
 refine F122.calls (by simp) ?_
 delta F122.c0
 rw [eStmt_eq]
 simp only at hb he ⊢
 rcases (by omega : op = 1 ∨ op = 2 ∨ op = 3 ∨ op = 4 ∨ op = 5 ∨ op = 6 ∨ op = 7 ∨ op = 8 ∨ op = 9) with rfl | rfl | rfl | rfl | rfl | rfl | rfl | rfl | rfl
 ·have hp : tPlace p = true := by simpa [sPlace] using s4
  have hn : name = noBytes ∧ down = false := by simpa [sName] using s5
  obtain ⟨rfl, rfl⟩ := hn
  have hmo : more = false ∧ els = [] ∧ end2 = [] := by cases more <;> first | (simp [sMore] at s6; done) | simpa [sMore] using s6
  obtain ⟨rfl, rfl, rfl⟩ := hmo
  have hbo : body = [] ∧ end1 = [] := by simpa [sBody] using s7
  obtain ⟨rfl, rfl⟩ := hbo
  simp only [Int.reduceEq, if_true, if_false] at s2
  have hlt : ((e.length : Int) < 1) = False := by simp only [eq_iff_iff, iff_false]; omega
  have hgt : ((e.length : Int) > 1) = False := by simp only [eq_iff_iff, iff_false]; omega
  simp only [eTexts] at hnotes ⊢
  simp only [go_sem,seval]
  refine tcE (hsh) ?_
  simp only [go_sem,seval, shapeA, hd48]
  refine tcE (hnotes) ?_
  simp only [go_sem,seval]
  refine tcE (hplace hp) ?_
  simp only [go_sem,seval, List.length_map, hlt, hgt]
  refine lT_list e (fun pre post v g => g = h ∧ v = [(2, .int .i64 d), (3, .ip [.int .i64 0] 0), (4, .ip [eTexts before, eTexts trail, .int .i64 1, .str noBytes, .int .i64 p.op, .int .i64 p.n, .str p.name, .str p.field, .sl (p.l.map eExpr) false, .sl (e.map eExpr) false, .bool false, .bool false, .sl ([].map eStmt) false, .sl ([].map eStmt) false, eTexts [], eTexts []] 0), (145, .sl (e.map eExpr) false), (146, .int .i64 e.length), (147, .int .i64 pre.length)]) (WeakE.env ?_) ⟨rfl, rfl⟩ ?_ ?_
  ·simp only [go_sem,seval, eTexts]
  ·rintro pre y post v g hy ⟨rfl, rfl⟩
   have hyx := s3 y (mem_at hy)
   simp only [sExpr, Bool.and_eq_true] at hyx
   have hex := texpr_ok hm g y hyx.1
   rw [eExpr_eq] at hex
   have h0 : ((xdep y : Int) = 0) = False := by have := xdep_pos y; simp only [eq_iff_iff, iff_false]; omega
   have ha : aia 5 (.sl (e.map eExpr) false) (.int .i64 pre.length) = some (.ip [.int .i64 y.op, .int .i64 y.n, .str y.name, .str y.field, .sl (y.l.map eExpr) false] 0) := by rw [← eExpr_eq]; exact aia_sl (map_at hy) (eExpr_len y)
   simp only [go_sem,seval, lt_at hy, ha]
   refine tcE (hex) ?_
   simp only [go_sem,seval, h0]
   refine ⟨_, _, WeakE.env ?_, rfl, rfl⟩
   ·simp only [go_sem,seval, step_at hwe hy, eTexts]
  ·rintro v g ⟨rfl, rfl⟩
   simp only [go_sem,seval, lt_end]
   refine lessQ.same ?_
   simp only [go_sem,seval, hw]
   refine tcE (hb) ?_
   simp only [go_sem,seval, hw]
   refine tcE (he) ?_
   simp only [go_sem,seval]
   exact .same ⟨rfl, rfl⟩
 ·have hp : tNone p = true := by simpa [sPlace] using s4
  have hn : name = noBytes ∧ down = false := by simpa [sName] using s5
  obtain ⟨rfl, rfl⟩ := hn
  have hmo : more = false ∧ els = [] ∧ end2 = [] := by cases more <;> first | (simp [sMore] at s6; done) | simpa [sMore] using s6
  obtain ⟨rfl, rfl, rfl⟩ := hmo
  have hbo : body = [] ∧ end1 = [] := by simpa [sBody] using s7
  obtain ⟨rfl, rfl⟩ := hbo
  simp only [Int.reduceEq, if_true, if_false] at s2
  have hlt : ((e.length : Int) < 1) = False := by simp only [eq_iff_iff, iff_false]; omega
  have hgt : ((e.length : Int) > 1) = False := by simp only [eq_iff_iff, iff_false]; omega
  simp only [eTexts] at hnotes ⊢
  simp only [go_sem,seval]
  refine tcE (hsh) ?_
  simp only [go_sem,seval, shapeA, hd48]
  refine tcE (hnotes) ?_
  simp only [go_sem,seval]
  refine tcE (hnone hp) ?_
  simp only [go_sem,seval, List.length_map, hlt, hgt]
  refine lT_list e (fun pre post v g => g = h ∧ v = [(2, .int .i64 d), (3, .ip [.int .i64 0] 0), (4, .ip [eTexts before, eTexts trail, .int .i64 2, .str noBytes, .int .i64 p.op, .int .i64 p.n, .str p.name, .str p.field, .sl (p.l.map eExpr) false, .sl (e.map eExpr) false, .bool false, .bool false, .sl ([].map eStmt) false, .sl ([].map eStmt) false, eTexts [], eTexts []] 0), (145, .sl (e.map eExpr) false), (146, .int .i64 e.length), (147, .int .i64 pre.length)]) (WeakE.env ?_) ⟨rfl, rfl⟩ ?_ ?_
  ·simp only [go_sem,seval, eTexts]
  ·rintro pre y post v g hy ⟨rfl, rfl⟩
   have hyx := s3 y (mem_at hy)
   simp only [sExpr, Bool.and_eq_true] at hyx
   have hex := texpr_ok hm g y hyx.1
   rw [eExpr_eq] at hex
   have h0 : ((xdep y : Int) = 0) = False := by have := xdep_pos y; simp only [eq_iff_iff, iff_false]; omega
   have ha : aia 5 (.sl (e.map eExpr) false) (.int .i64 pre.length) = some (.ip [.int .i64 y.op, .int .i64 y.n, .str y.name, .str y.field, .sl (y.l.map eExpr) false] 0) := by rw [← eExpr_eq]; exact aia_sl (map_at hy) (eExpr_len y)
   simp only [go_sem,seval, lt_at hy, ha]
   refine tcE (hex) ?_
   have h7 : (y.op = 7) = True := by simpa using hyx.2
   simp only [go_sem,seval, h0, h7]
   refine ⟨_, _, WeakE.env ?_, rfl, rfl⟩
   ·simp only [go_sem,seval, step_at hwe hy, eTexts]
  ·rintro v g ⟨rfl, rfl⟩
   simp only [go_sem,seval, lt_end]
   refine lessQ.same ?_
   simp only [go_sem,seval, hw]
   refine tcE (hb) ?_
   simp only [go_sem,seval, hw]
   refine tcE (he) ?_
   simp only [go_sem,seval]
   exact .same ⟨rfl, rfl⟩
 ·have hp : tNone p = true := by simpa [sPlace] using s4
  have hn : name = noBytes ∧ down = false := by simpa [sName] using s5
  obtain ⟨rfl, rfl⟩ := hn
  simp only [Int.reduceEq, if_true, if_false] at s2
  have hlt : ((e.length : Int) < 1) = False := by simp only [eq_iff_iff, iff_false]; omega
  have hgt : ((e.length : Int) > 1) = False := by simp only [eq_iff_iff, iff_false]; omega
  cases more with
  | true =>
   simp only [eTexts] at hnotes ⊢
   simp only [go_sem,seval]
   refine tcE (hsh) ?_
   simp only [go_sem,seval, shapeA, hd48]
   refine tcE (hnotes) ?_
   simp only [go_sem,seval]
   refine tcE (hnone hp) ?_
   simp only [go_sem,seval, List.length_map, hlt, hgt]
   refine lT_list e (fun pre post v g => g = h ∧ v = [(2, .int .i64 d), (3, .ip [.int .i64 0] 0), (4, .ip [eTexts before, eTexts trail, .int .i64 3, .str noBytes, .int .i64 p.op, .int .i64 p.n, .str p.name, .str p.field, .sl (p.l.map eExpr) false, .sl (e.map eExpr) false, .bool false, .bool true, .sl (body.map eStmt) false, .sl (els.map eStmt) false, eTexts end1, eTexts end2] 0), (145, .sl (e.map eExpr) false), (146, .int .i64 e.length), (147, .int .i64 pre.length)]) (WeakE.env ?_) ⟨rfl, rfl⟩ ?_ ?_
   ·simp only [go_sem,seval, eTexts]
   ·rintro pre y post v g hy ⟨rfl, rfl⟩
    have hyx := s3 y (mem_at hy)
    simp only [sExpr, Bool.and_eq_true] at hyx
    have hex := texpr_ok hm g y hyx.1
    rw [eExpr_eq] at hex
    have h0 : ((xdep y : Int) = 0) = False := by have := xdep_pos y; simp only [eq_iff_iff, iff_false]; omega
    have ha : aia 5 (.sl (e.map eExpr) false) (.int .i64 pre.length) = some (.ip [.int .i64 y.op, .int .i64 y.n, .str y.name, .str y.field, .sl (y.l.map eExpr) false] 0) := by rw [← eExpr_eq]; exact aia_sl (map_at hy) (eExpr_len y)
    simp only [go_sem,seval, lt_at hy, ha]
    refine tcE (hex) ?_
    simp only [go_sem,seval, h0]
    refine ⟨_, _, WeakE.env ?_, rfl, rfl⟩
    ·simp only [go_sem,seval, step_at hwe hy, eTexts]
   ·rintro v g ⟨rfl, rfl⟩
    simp only [go_sem,seval, lt_end]
    refine lessQ.same ?_
    simp only [go_sem,seval, hw]
    refine tcE (hb) ?_
    simp only [go_sem,seval, hw]
    refine tcE (he) ?_
    simp only [go_sem,seval]
    exact .same ⟨rfl, rfl⟩
  | false =>
   have hmo : els = [] ∧ end2 = [] := by simpa [sMore] using s6
   obtain ⟨rfl, rfl⟩ := hmo
   simp only [eTexts] at hnotes ⊢
   simp only [go_sem,seval]
   refine tcE (hsh) ?_
   simp only [go_sem,seval, shapeA, hd48]
   refine tcE (hnotes) ?_
   simp only [go_sem,seval]
   refine tcE (hnone hp) ?_
   simp only [go_sem,seval, List.length_map, hlt, hgt]
   refine lT_list e (fun pre post v g => g = h ∧ v = [(2, .int .i64 d), (3, .ip [.int .i64 0] 0), (4, .ip [eTexts before, eTexts trail, .int .i64 3, .str noBytes, .int .i64 p.op, .int .i64 p.n, .str p.name, .str p.field, .sl (p.l.map eExpr) false, .sl (e.map eExpr) false, .bool false, .bool false, .sl (body.map eStmt) false, .sl ([].map eStmt) false, eTexts end1, eTexts []] 0), (145, .sl (e.map eExpr) false), (146, .int .i64 e.length), (147, .int .i64 pre.length)]) (WeakE.env ?_) ⟨rfl, rfl⟩ ?_ ?_
   ·simp only [go_sem,seval, eTexts]
   ·rintro pre y post v g hy ⟨rfl, rfl⟩
    have hyx := s3 y (mem_at hy)
    simp only [sExpr, Bool.and_eq_true] at hyx
    have hex := texpr_ok hm g y hyx.1
    rw [eExpr_eq] at hex
    have h0 : ((xdep y : Int) = 0) = False := by have := xdep_pos y; simp only [eq_iff_iff, iff_false]; omega
    have ha : aia 5 (.sl (e.map eExpr) false) (.int .i64 pre.length) = some (.ip [.int .i64 y.op, .int .i64 y.n, .str y.name, .str y.field, .sl (y.l.map eExpr) false] 0) := by rw [← eExpr_eq]; exact aia_sl (map_at hy) (eExpr_len y)
    simp only [go_sem,seval, lt_at hy, ha]
    refine tcE (hex) ?_
    simp only [go_sem,seval, h0]
    refine ⟨_, _, WeakE.env ?_, rfl, rfl⟩
    ·simp only [go_sem,seval, step_at hwe hy, eTexts]
   ·rintro v g ⟨rfl, rfl⟩
    simp only [go_sem,seval, lt_end]
    refine lessQ.same ?_
    simp only [go_sem,seval, hw]
    refine tcE (hb) ?_
    simp only [go_sem,seval, hw]
    refine tcE (he) ?_
    simp only [go_sem,seval]
    exact .same ⟨rfl, rfl⟩
 ·have hp : tNone p = true := by simpa [sPlace] using s4
  have hn : name = noBytes ∧ down = false := by simpa [sName] using s5
  obtain ⟨rfl, rfl⟩ := hn
  have hmo : more = false ∧ els = [] ∧ end2 = [] := by cases more <;> first | (simp [sMore] at s6; done) | simpa [sMore] using s6
  obtain ⟨rfl, rfl, rfl⟩ := hmo
  simp only [Int.reduceEq, if_true, if_false] at s2
  have hlt : ((e.length : Int) < 1) = False := by simp only [eq_iff_iff, iff_false]; omega
  have hgt : ((e.length : Int) > 1) = False := by simp only [eq_iff_iff, iff_false]; omega
  simp only [eTexts] at hnotes ⊢
  simp only [go_sem,seval]
  refine tcE (hsh) ?_
  simp only [go_sem,seval, shapeA, hd48]
  refine tcE (hnotes) ?_
  simp only [go_sem,seval]
  refine tcE (hnone hp) ?_
  simp only [go_sem,seval, List.length_map, hlt, hgt]
  refine lT_list e (fun pre post v g => g = h ∧ v = [(2, .int .i64 d), (3, .ip [.int .i64 0] 0), (4, .ip [eTexts before, eTexts trail, .int .i64 4, .str noBytes, .int .i64 p.op, .int .i64 p.n, .str p.name, .str p.field, .sl (p.l.map eExpr) false, .sl (e.map eExpr) false, .bool false, .bool false, .sl (body.map eStmt) false, .sl ([].map eStmt) false, eTexts end1, eTexts []] 0), (145, .sl (e.map eExpr) false), (146, .int .i64 e.length), (147, .int .i64 pre.length)]) (WeakE.env ?_) ⟨rfl, rfl⟩ ?_ ?_
  ·simp only [go_sem,seval, eTexts]
  ·rintro pre y post v g hy ⟨rfl, rfl⟩
   have hyx := s3 y (mem_at hy)
   simp only [sExpr, Bool.and_eq_true] at hyx
   have hex := texpr_ok hm g y hyx.1
   rw [eExpr_eq] at hex
   have h0 : ((xdep y : Int) = 0) = False := by have := xdep_pos y; simp only [eq_iff_iff, iff_false]; omega
   have ha : aia 5 (.sl (e.map eExpr) false) (.int .i64 pre.length) = some (.ip [.int .i64 y.op, .int .i64 y.n, .str y.name, .str y.field, .sl (y.l.map eExpr) false] 0) := by rw [← eExpr_eq]; exact aia_sl (map_at hy) (eExpr_len y)
   simp only [go_sem,seval, lt_at hy, ha]
   refine tcE (hex) ?_
   simp only [go_sem,seval, h0]
   refine ⟨_, _, WeakE.env ?_, rfl, rfl⟩
   ·simp only [go_sem,seval, step_at hwe hy, eTexts]
  ·rintro v g ⟨rfl, rfl⟩
   simp only [go_sem,seval, lt_end]
   refine lessQ.same ?_
   simp only [go_sem,seval, hw]
   refine tcE (hb) ?_
   simp only [go_sem,seval, hw]
   refine tcE (he) ?_
   simp only [go_sem,seval]
   exact .same ⟨rfl, rfl⟩
 ·have hp : tNone p = true := by simpa [sPlace] using s4
  have hn : name = noBytes ∧ down = false := by simpa [sName] using s5
  obtain ⟨rfl, rfl⟩ := hn
  have hmo : more = false ∧ els = [] ∧ end2 = [] := by cases more <;> first | (simp [sMore] at s6; done) | simpa [sMore] using s6
  obtain ⟨rfl, rfl, rfl⟩ := hmo
  simp only [Int.reduceEq, if_true, if_false] at s2
  have hlt : ((e.length : Int) < 1) = False := by simp only [eq_iff_iff, iff_false]; omega
  have hgt : ((e.length : Int) > 1) = False := by simp only [eq_iff_iff, iff_false]; omega
  simp only [eTexts] at hnotes ⊢
  simp only [go_sem,seval]
  refine tcE (hsh) ?_
  simp only [go_sem,seval, shapeA, hd48]
  refine tcE (hnotes) ?_
  simp only [go_sem,seval]
  refine tcE (hnone hp) ?_
  simp only [go_sem,seval, List.length_map, hlt, hgt]
  refine lT_list e (fun pre post v g => g = h ∧ v = [(2, .int .i64 d), (3, .ip [.int .i64 0] 0), (4, .ip [eTexts before, eTexts trail, .int .i64 5, .str noBytes, .int .i64 p.op, .int .i64 p.n, .str p.name, .str p.field, .sl (p.l.map eExpr) false, .sl (e.map eExpr) false, .bool false, .bool false, .sl (body.map eStmt) false, .sl ([].map eStmt) false, eTexts end1, eTexts []] 0), (145, .sl (e.map eExpr) false), (146, .int .i64 e.length), (147, .int .i64 pre.length)]) (WeakE.env ?_) ⟨rfl, rfl⟩ ?_ ?_
  ·simp only [go_sem,seval, eTexts]
  ·rintro pre y post v g hy ⟨rfl, rfl⟩
   have hyx := s3 y (mem_at hy)
   simp only [sExpr, Bool.and_eq_true] at hyx
   have hex := texpr_ok hm g y hyx.1
   rw [eExpr_eq] at hex
   have h0 : ((xdep y : Int) = 0) = False := by have := xdep_pos y; simp only [eq_iff_iff, iff_false]; omega
   have ha : aia 5 (.sl (e.map eExpr) false) (.int .i64 pre.length) = some (.ip [.int .i64 y.op, .int .i64 y.n, .str y.name, .str y.field, .sl (y.l.map eExpr) false] 0) := by rw [← eExpr_eq]; exact aia_sl (map_at hy) (eExpr_len y)
   simp only [go_sem,seval, lt_at hy, ha]
   refine tcE (hex) ?_
   simp only [go_sem,seval, h0]
   refine ⟨_, _, WeakE.env ?_, rfl, rfl⟩
   ·simp only [go_sem,seval, step_at hwe hy, eTexts]
  ·rintro v g ⟨rfl, rfl⟩
   simp only [go_sem,seval, lt_end]
   refine lessQ.same ?_
   simp only [go_sem,seval, hw]
   refine tcE (hb) ?_
   simp only [go_sem,seval, hw]
   refine tcE (he) ?_
   simp only [go_sem,seval]
   exact .same ⟨rfl, rfl⟩
 ·have hp : tNone p = true := by simpa [sPlace] using s4
  have hn : tName name = true := by simpa [sName] using s5
  have hmo : more = false ∧ els = [] ∧ end2 = [] := by cases more <;> first | (simp [sMore] at s6; done) | simpa [sMore] using s6
  obtain ⟨rfl, rfl, rfl⟩ := hmo
  simp only [Int.reduceEq, if_true, if_false] at s2
  have hlt : ((e.length : Int) < 2) = False := by simp only [eq_iff_iff, iff_false]; omega
  have hgt : ((e.length : Int) > 2) = False := by simp only [eq_iff_iff, iff_false]; omega
  cases down with
  | true =>
   simp only [eTexts] at hnotes ⊢
   simp only [go_sem,seval]
   refine tcE (hsh) ?_
   simp only [go_sem,seval, shapeA, hd48]
   refine tcE (hnotes) ?_
   simp only [go_sem,seval]
   refine tcE (hnone hp) ?_
   simp only [go_sem,seval]
   refine tcE (tcname_spec hm h name hn) ?_
   simp only [go_sem,seval, List.length_map, hlt, hgt]
   refine lT_list e (fun pre post v g => g = h ∧ v = [(2, .int .i64 d), (3, .ip [.int .i64 0] 0), (4, .ip [eTexts before, eTexts trail, .int .i64 6, .str name, .int .i64 p.op, .int .i64 p.n, .str p.name, .str p.field, .sl (p.l.map eExpr) false, .sl (e.map eExpr) false, .bool true, .bool false, .sl (body.map eStmt) false, .sl ([].map eStmt) false, eTexts end1, eTexts []] 0), (145, .sl (e.map eExpr) false), (146, .int .i64 e.length), (147, .int .i64 pre.length)]) (WeakE.env ?_) ⟨rfl, rfl⟩ ?_ ?_
   ·simp only [go_sem,seval, eTexts]
   ·rintro pre y post v g hy ⟨rfl, rfl⟩
    have hyx := s3 y (mem_at hy)
    simp only [sExpr, Bool.and_eq_true] at hyx
    have hex := texpr_ok hm g y hyx.1
    rw [eExpr_eq] at hex
    have h0 : ((xdep y : Int) = 0) = False := by have := xdep_pos y; simp only [eq_iff_iff, iff_false]; omega
    have ha : aia 5 (.sl (e.map eExpr) false) (.int .i64 pre.length) = some (.ip [.int .i64 y.op, .int .i64 y.n, .str y.name, .str y.field, .sl (y.l.map eExpr) false] 0) := by rw [← eExpr_eq]; exact aia_sl (map_at hy) (eExpr_len y)
    simp only [go_sem,seval, lt_at hy, ha]
    refine tcE (hex) ?_
    simp only [go_sem,seval, h0]
    refine ⟨_, _, WeakE.env ?_, rfl, rfl⟩
    ·simp only [go_sem,seval, step_at hwe hy, eTexts]
   ·rintro v g ⟨rfl, rfl⟩
    simp only [go_sem,seval, lt_end]
    refine lessQ.same ?_
    simp only [go_sem,seval, hw]
    refine tcE (hb) ?_
    simp only [go_sem,seval, hw]
    refine tcE (he) ?_
    simp only [go_sem,seval]
    exact .same ⟨rfl, rfl⟩
  | false =>
   simp only [eTexts] at hnotes ⊢
   simp only [go_sem,seval]
   refine tcE (hsh) ?_
   simp only [go_sem,seval, shapeA, hd48]
   refine tcE (hnotes) ?_
   simp only [go_sem,seval]
   refine tcE (hnone hp) ?_
   simp only [go_sem,seval]
   refine tcE (tcname_spec hm h name hn) ?_
   simp only [go_sem,seval, List.length_map, hlt, hgt]
   refine lT_list e (fun pre post v g => g = h ∧ v = [(2, .int .i64 d), (3, .ip [.int .i64 0] 0), (4, .ip [eTexts before, eTexts trail, .int .i64 6, .str name, .int .i64 p.op, .int .i64 p.n, .str p.name, .str p.field, .sl (p.l.map eExpr) false, .sl (e.map eExpr) false, .bool false, .bool false, .sl (body.map eStmt) false, .sl ([].map eStmt) false, eTexts end1, eTexts []] 0), (145, .sl (e.map eExpr) false), (146, .int .i64 e.length), (147, .int .i64 pre.length)]) (WeakE.env ?_) ⟨rfl, rfl⟩ ?_ ?_
   ·simp only [go_sem,seval, eTexts]
   ·rintro pre y post v g hy ⟨rfl, rfl⟩
    have hyx := s3 y (mem_at hy)
    simp only [sExpr, Bool.and_eq_true] at hyx
    have hex := texpr_ok hm g y hyx.1
    rw [eExpr_eq] at hex
    have h0 : ((xdep y : Int) = 0) = False := by have := xdep_pos y; simp only [eq_iff_iff, iff_false]; omega
    have ha : aia 5 (.sl (e.map eExpr) false) (.int .i64 pre.length) = some (.ip [.int .i64 y.op, .int .i64 y.n, .str y.name, .str y.field, .sl (y.l.map eExpr) false] 0) := by rw [← eExpr_eq]; exact aia_sl (map_at hy) (eExpr_len y)
    simp only [go_sem,seval, lt_at hy, ha]
    refine tcE (hex) ?_
    simp only [go_sem,seval, h0]
    refine ⟨_, _, WeakE.env ?_, rfl, rfl⟩
    ·simp only [go_sem,seval, step_at hwe hy, eTexts]
   ·rintro v g ⟨rfl, rfl⟩
    simp only [go_sem,seval, lt_end]
    refine lessQ.same ?_
    simp only [go_sem,seval, hw]
    refine tcE (hb) ?_
    simp only [go_sem,seval, hw]
    refine tcE (he) ?_
    simp only [go_sem,seval]
    exact .same ⟨rfl, rfl⟩
 ·have hp : tPlace p = true := by simpa [sPlace] using s4
  have hn : name = noBytes ∧ down = false := by simpa [sName] using s5
  obtain ⟨rfl, rfl⟩ := hn
  have hmo : more = false ∧ els = [] ∧ end2 = [] := by cases more <;> first | (simp [sMore] at s6; done) | simpa [sMore] using s6
  obtain ⟨rfl, rfl, rfl⟩ := hmo
  have hbo : body = [] ∧ end1 = [] := by simpa [sBody] using s7
  obtain ⟨rfl, rfl⟩ := hbo
  simp only [Int.reduceEq, if_true, if_false] at s2
  have hlt : ((e.length : Int) < 0) = False := by simp only [eq_iff_iff, iff_false]; omega
  have hgt : ((e.length : Int) > 0) = False := by simp only [eq_iff_iff, iff_false]; omega
  simp only [eTexts] at hnotes ⊢
  simp only [go_sem,seval]
  refine tcE (hsh) ?_
  simp only [go_sem,seval, shapeA, hd48]
  refine tcE (hnotes) ?_
  simp only [go_sem,seval]
  refine tcE (hplace hp) ?_
  simp only [go_sem,seval, List.length_map, hlt, hgt]
  refine lT_list e (fun pre post v g => g = h ∧ v = [(2, .int .i64 d), (3, .ip [.int .i64 0] 0), (4, .ip [eTexts before, eTexts trail, .int .i64 7, .str noBytes, .int .i64 p.op, .int .i64 p.n, .str p.name, .str p.field, .sl (p.l.map eExpr) false, .sl (e.map eExpr) false, .bool false, .bool false, .sl ([].map eStmt) false, .sl ([].map eStmt) false, eTexts [], eTexts []] 0), (145, .sl (e.map eExpr) false), (146, .int .i64 e.length), (147, .int .i64 pre.length)]) (WeakE.env ?_) ⟨rfl, rfl⟩ ?_ ?_
  ·simp only [go_sem,seval, eTexts]
  ·rintro pre y post v g hy ⟨rfl, rfl⟩
   have hyx := s3 y (mem_at hy)
   simp only [sExpr, Bool.and_eq_true] at hyx
   have hex := texpr_ok hm g y hyx.1
   rw [eExpr_eq] at hex
   have h0 : ((xdep y : Int) = 0) = False := by have := xdep_pos y; simp only [eq_iff_iff, iff_false]; omega
   have ha : aia 5 (.sl (e.map eExpr) false) (.int .i64 pre.length) = some (.ip [.int .i64 y.op, .int .i64 y.n, .str y.name, .str y.field, .sl (y.l.map eExpr) false] 0) := by rw [← eExpr_eq]; exact aia_sl (map_at hy) (eExpr_len y)
   simp only [go_sem,seval, lt_at hy, ha]
   refine tcE (hex) ?_
   simp only [go_sem,seval, h0]
   refine ⟨_, _, WeakE.env ?_, rfl, rfl⟩
   ·simp only [go_sem,seval, step_at hwe hy, eTexts]
  ·rintro v g ⟨rfl, rfl⟩
   simp only [go_sem,seval, lt_end]
   refine lessQ.same ?_
   simp only [go_sem,seval, hw]
   refine tcE (hb) ?_
   simp only [go_sem,seval, hw]
   refine tcE (he) ?_
   simp only [go_sem,seval]
   exact .same ⟨rfl, rfl⟩
 ·have hp : tNone p = true := by simpa [sPlace] using s4
  have hn : name = noBytes ∧ down = false := by simpa [sName] using s5
  obtain ⟨rfl, rfl⟩ := hn
  have hmo : more = false ∧ els = [] ∧ end2 = [] := by cases more <;> first | (simp [sMore] at s6; done) | simpa [sMore] using s6
  obtain ⟨rfl, rfl, rfl⟩ := hmo
  have hbo : body = [] ∧ end1 = [] := by simpa [sBody] using s7
  obtain ⟨rfl, rfl⟩ := hbo
  simp only [Int.reduceEq, if_true, if_false] at s2
  have hlt : ((e.length : Int) < 1) = False := by simp only [eq_iff_iff, iff_false]; omega
  have hgt : ((e.length : Int) > 1) = False := by simp only [eq_iff_iff, iff_false]; omega
  simp only [eTexts] at hnotes ⊢
  simp only [go_sem,seval]
  refine tcE (hsh) ?_
  simp only [go_sem,seval, shapeA, hd48]
  refine tcE (hnotes) ?_
  simp only [go_sem,seval]
  refine tcE (hnone hp) ?_
  simp only [go_sem,seval, List.length_map, hlt, hgt]
  refine lT_list e (fun pre post v g => g = h ∧ v = [(2, .int .i64 d), (3, .ip [.int .i64 0] 0), (4, .ip [eTexts before, eTexts trail, .int .i64 8, .str noBytes, .int .i64 p.op, .int .i64 p.n, .str p.name, .str p.field, .sl (p.l.map eExpr) false, .sl (e.map eExpr) false, .bool false, .bool false, .sl ([].map eStmt) false, .sl ([].map eStmt) false, eTexts [], eTexts []] 0), (145, .sl (e.map eExpr) false), (146, .int .i64 e.length), (147, .int .i64 pre.length)]) (WeakE.env ?_) ⟨rfl, rfl⟩ ?_ ?_
  ·simp only [go_sem,seval, eTexts]
  ·rintro pre y post v g hy ⟨rfl, rfl⟩
   have hyx := s3 y (mem_at hy)
   simp only [sExpr, Bool.and_eq_true] at hyx
   have hex := texpr_ok hm g y hyx.1
   rw [eExpr_eq] at hex
   have h0 : ((xdep y : Int) = 0) = False := by have := xdep_pos y; simp only [eq_iff_iff, iff_false]; omega
   have ha : aia 5 (.sl (e.map eExpr) false) (.int .i64 pre.length) = some (.ip [.int .i64 y.op, .int .i64 y.n, .str y.name, .str y.field, .sl (y.l.map eExpr) false] 0) := by rw [← eExpr_eq]; exact aia_sl (map_at hy) (eExpr_len y)
   simp only [go_sem,seval, lt_at hy, ha]
   refine tcE (hex) ?_
   simp only [go_sem,seval, h0]
   refine ⟨_, _, WeakE.env ?_, rfl, rfl⟩
   ·simp only [go_sem,seval, step_at hwe hy, eTexts]
  ·rintro v g ⟨rfl, rfl⟩
   simp only [go_sem,seval, lt_end]
   refine lessQ.same ?_
   simp only [go_sem,seval, hw]
   refine tcE (hb) ?_
   simp only [go_sem,seval, hw]
   refine tcE (he) ?_
   simp only [go_sem,seval]
   exact .same ⟨rfl, rfl⟩
 ·have hp : tNone p = true := by simpa [sPlace] using s4
  have hn : name = noBytes ∧ down = false := by simpa [sName] using s5
  obtain ⟨rfl, rfl⟩ := hn
  have hmo : more = false ∧ els = [] ∧ end2 = [] := by cases more <;> first | (simp [sMore] at s6; done) | simpa [sMore] using s6
  obtain ⟨rfl, rfl, rfl⟩ := hmo
  have hbo : body = [] ∧ end1 = [] := by simpa [sBody] using s7
  obtain ⟨rfl, rfl⟩ := hbo
  simp only [Int.reduceEq, if_true, if_false] at s2
  have hlt : ((e.length : Int) < 0) = False := by simp only [eq_iff_iff, iff_false]; omega
  have hgt : ((e.length : Int) > 1) = False := by simp only [eq_iff_iff, iff_false]; omega
  simp only [eTexts] at hnotes ⊢
  simp only [go_sem,seval]
  refine tcE (hsh) ?_
  simp only [go_sem,seval, shapeA, hd48]
  refine tcE (hnotes) ?_
  simp only [go_sem,seval]
  refine tcE (hnone hp) ?_
  simp only [go_sem,seval, List.length_map, hlt, hgt]
  refine lT_list e (fun pre post v g => g = h ∧ v = [(2, .int .i64 d), (3, .ip [.int .i64 0] 0), (4, .ip [eTexts before, eTexts trail, .int .i64 9, .str noBytes, .int .i64 p.op, .int .i64 p.n, .str p.name, .str p.field, .sl (p.l.map eExpr) false, .sl (e.map eExpr) false, .bool false, .bool false, .sl ([].map eStmt) false, .sl ([].map eStmt) false, eTexts [], eTexts []] 0), (145, .sl (e.map eExpr) false), (146, .int .i64 e.length), (147, .int .i64 pre.length)]) (WeakE.env ?_) ⟨rfl, rfl⟩ ?_ ?_
  ·simp only [go_sem,seval, eTexts]
  ·rintro pre y post v g hy ⟨rfl, rfl⟩
   have hyx := s3 y (mem_at hy)
   simp only [sExpr, Bool.and_eq_true] at hyx
   have hex := texpr_ok hm g y hyx.1
   rw [eExpr_eq] at hex
   have h0 : ((xdep y : Int) = 0) = False := by have := xdep_pos y; simp only [eq_iff_iff, iff_false]; omega
   have ha : aia 5 (.sl (e.map eExpr) false) (.int .i64 pre.length) = some (.ip [.int .i64 y.op, .int .i64 y.n, .str y.name, .str y.field, .sl (y.l.map eExpr) false] 0) := by rw [← eExpr_eq]; exact aia_sl (map_at hy) (eExpr_len y)
   simp only [go_sem,seval, lt_at hy, ha]
   refine tcE (hex) ?_
   simp only [go_sem,seval, h0]
   refine ⟨_, _, WeakE.env ?_, rfl, rfl⟩
   ·simp only [go_sem,seval, step_at hwe hy, eTexts]
  ·rintro v g ⟨rfl, rfl⟩
   simp only [go_sem,seval, lt_end]
   refine lessQ.same ?_
   simp only [go_sem,seval, hw]
   refine tcE (hb) ?_
   simp only [go_sem,seval, hw]
   refine tcE (he) ?_
   simp only [go_sem,seval]
   exact .same ⟨rfl, rfl⟩
end Pg.Tc

namespace Pg.Tc
open Go Go.Proofs.Tryz
set_option linter.all false
set_option maxHeartbeats 4000000
set_option maxRecDepth 4000
theorem IndexFuncV_spec [GI] {h : AHeap} {full : Bool} (l : List Var) (hw : Pg.few l) (fid : Nat) (first captured : List AV) (p : Var → Bool) (hc : callable prog fid = true)
  (hf : ∀ x ∈ l, ACalls prog fid (first ++ [.agg (eVar x)] ++ captured) h (fun v g => v = .bool (p x) ∧ g = h)) :
  ACalls prog 157 [.sl (l.map eVar) full, .func (.func fid) first captured] h (fun v g => v = .int .i64 (match l.findIdx? p with | some i => i | none => -1) ∧ g = h) := by
 refine F157.calls (by simp) ?_
 delta F157.c0
 simp only [go_sem,seval, List.length_map]
 refine lT_list l (fun pre post e g => (∀ x ∈ pre, p x = false) ∧ g = h ∧ e = [(0, .sl (l.map eVar) full), (1, .func (.func fid) first captured), (7, .int .i64 l.length), (8, .int .i64 pre.length)]) (WeakE.env ?_) ⟨by simp, rfl, rfl⟩ ?_ ?_
 ·simp only [go_sem,seval]
 ·rintro pre x post e g hl ⟨hp, rfl, rfl⟩
  simp only [go_sem,seval, lt_at hl, aia_sl (map_at hl) (eVar_len x)]
  refine ⟨hc, callT_of (hf x (mem_at hl)) (fun v k ⟨hv, hk⟩ => ?_)⟩
  subst hv hk
  cases hpx : p x with
  | true =>
   simp only [go_sem,seval]
   refine lessQ.same ?_
   simp only [go_sem,seval]
   refine .same ⟨?_, rfl⟩
   have : l.findIdx? p = some pre.length := by
    subst hl
    rw [List.findIdx?_append, List.findIdx?_eq_none_iff.2 (by simpa using hp)]
    simp [List.findIdx?_cons, hpx]
   rw [this]
  | false =>
   simp only [go_sem,seval]
   refine ⟨_, _, WeakE.env ?_, ?_, rfl, rfl⟩
   ·simp only [go_sem,seval, step_at hw hl]
   ·intro y hy
    rcases List.mem_append.1 hy with hy | hy
    ·exact hp y hy
    ·simp at hy; subst hy; exact hpx
 ·rintro e g ⟨hp, rfl, rfl⟩
  simp only [go_sem,seval, lt_end]
  refine lessQ.same ?_
  simp only [go_sem,seval]
  refine .same ⟨?_, rfl⟩
  rw [List.findIdx?_eq_none_iff.2 (by simpa using hp)]
theorem ContainsFuncV_spec [GI] {h : AHeap} {full : Bool} (l : List Var) (hw : Pg.few l) (fid : Nat) (first captured : List AV) (p : Var → Bool) (hc : callable prog fid = true)
  (hf : ∀ x ∈ l, ACalls prog fid (first ++ [.agg (eVar x)] ++ captured) h (fun v g => v = .bool (p x) ∧ g = h)) :
  ACalls prog 111 [.sl (l.map eVar) full, .func (.func fid) first captured] h (fun v g => v = .bool (l.any p) ∧ g = h) := by
 refine F111.calls (by simp) ?_
 delta F111.c0
 simp only [go_sem,seval]
 refine callT_of (IndexFuncV_spec l hw fid first captured p hc hf) (fun v k ⟨hv, hk⟩ => ?_)
 generalize hn : (match l.findIdx? p with | some i => (i : Int) | none => -1) = n at hv
 subst hv hk
 simp only [go_sem,seval]
 refine .same ⟨?_, rfl⟩
 congr 1
 subst hn
 cases hi : l.findIdx? p with
 | none =>
  have := List.findIdx?_eq_none_iff.1 hi
  simp only [ge_iff_le]
  rw [List.any_eq_false.2 (by simpa using this)]; rfl
 | some i =>
  obtain ⟨h1, h2, _⟩ := List.findIdx?_eq_some_iff_getElem.1 hi
  rw [List.any_eq_true.2 ⟨l[i], List.getElem_mem h1, h2⟩]
  simp
theorem IndexFuncF_spec [GI] {h : AHeap} {full : Bool} (l : List Fld) (hw : Pg.few l) (fid : Nat) (first captured : List AV) (p : Fld → Bool) (hc : callable prog fid = true)
  (hf : ∀ x ∈ l, ACalls prog fid (first ++ [.agg (eFld x)] ++ captured) h (fun v g => v = .bool (p x) ∧ g = h)) :
  ACalls prog 156 [.sl (l.map eFld) full, .func (.func fid) first captured] h (fun v g => v = .int .i64 (match l.findIdx? p with | some i => i | none => -1) ∧ g = h) := by
 refine F156.calls (by simp) ?_
 delta F156.c0
 simp only [go_sem,seval, List.length_map]
 refine lT_list l (fun pre post e g => (∀ x ∈ pre, p x = false) ∧ g = h ∧ e = [(0, .sl (l.map eFld) full), (1, .func (.func fid) first captured), (7, .int .i64 l.length), (8, .int .i64 pre.length)]) (WeakE.env ?_) ⟨by simp, rfl, rfl⟩ ?_ ?_
 ·simp only [go_sem,seval]
 ·rintro pre x post e g hl ⟨hp, rfl, rfl⟩
  simp only [go_sem,seval, lt_at hl, aia_sl (map_at hl) (eFld_len x)]
  refine ⟨hc, callT_of (hf x (mem_at hl)) (fun v k ⟨hv, hk⟩ => ?_)⟩
  subst hv hk
  cases hpx : p x with
  | true =>
   simp only [go_sem,seval]
   refine lessQ.same ?_
   simp only [go_sem,seval]
   refine .same ⟨?_, rfl⟩
   have : l.findIdx? p = some pre.length := by
    subst hl
    rw [List.findIdx?_append, List.findIdx?_eq_none_iff.2 (by simpa using hp)]
    simp [List.findIdx?_cons, hpx]
   rw [this]
  | false =>
   simp only [go_sem,seval]
   refine ⟨_, _, WeakE.env ?_, ?_, rfl, rfl⟩
   ·simp only [go_sem,seval, step_at hw hl]
   ·intro y hy
    rcases List.mem_append.1 hy with hy | hy
    ·exact hp y hy
    ·simp at hy; subst hy; exact hpx
 ·rintro e g ⟨hp, rfl, rfl⟩
  simp only [go_sem,seval, lt_end]
  refine lessQ.same ?_
  simp only [go_sem,seval]
  refine .same ⟨?_, rfl⟩
  rw [List.findIdx?_eq_none_iff.2 (by simpa using hp)]
theorem ContainsFuncF_spec [GI] {h : AHeap} {full : Bool} (l : List Fld) (hw : Pg.few l) (fid : Nat) (first captured : List AV) (p : Fld → Bool) (hc : callable prog fid = true)
  (hf : ∀ x ∈ l, ACalls prog fid (first ++ [.agg (eFld x)] ++ captured) h (fun v g => v = .bool (p x) ∧ g = h)) :
  ACalls prog 107 [.sl (l.map eFld) full, .func (.func fid) first captured] h (fun v g => v = .bool (l.any p) ∧ g = h) := by
 refine F107.calls (by simp) ?_
 delta F107.c0
 simp only [go_sem,seval]
 refine callT_of (IndexFuncF_spec l hw fid first captured p hc hf) (fun v k ⟨hv, hk⟩ => ?_)
 generalize hn : (match l.findIdx? p with | some i => (i : Int) | none => -1) = n at hv
 subst hv hk
 simp only [go_sem,seval]
 refine .same ⟨?_, rfl⟩
 congr 1
 subst hn
 cases hi : l.findIdx? p with
 | none =>
  have := List.findIdx?_eq_none_iff.1 hi
  simp only [ge_iff_le]
  rw [List.any_eq_false.2 (by simpa using this)]; rfl
 | some i =>
  obtain ⟨h1, h2, _⟩ := List.findIdx?_eq_some_iff_getElem.1 hi
  rw [List.any_eq_true.2 ⟨l[i], List.getElem_mem h1, h2⟩]
  simp
theorem IndexFuncC_spec [GI] {h : AHeap} {full : Bool} (l : List Rec) (hw : Pg.few l) (fid : Nat) (first captured : List AV) (p : Rec → Bool) (hc : callable prog fid = true)
  (hf : ∀ x ∈ l, ACalls prog fid (first ++ [.agg (eRec x)] ++ captured) h (fun v g => v = .bool (p x) ∧ g = h)) :
  ACalls prog 105 [.sl (l.map eRec) full, .func (.func fid) first captured] h (fun v g => v = .int .i64 (match l.findIdx? p with | some i => i | none => -1) ∧ g = h) := by
 refine F105.calls (by simp) ?_
 delta F105.c0
 simp only [go_sem,seval, List.length_map]
 refine lT_list l (fun pre post e g => (∀ x ∈ pre, p x = false) ∧ g = h ∧ e = [(0, .sl (l.map eRec) full), (1, .func (.func fid) first captured), (7, .int .i64 l.length), (8, .int .i64 pre.length)]) (WeakE.env ?_) ⟨by simp, rfl, rfl⟩ ?_ ?_
 ·simp only [go_sem,seval]
 ·rintro pre x post e g hl ⟨hp, rfl, rfl⟩
  simp only [go_sem,seval, lt_at hl, aia_sl (map_at hl) (eRec_len x)]
  refine ⟨hc, callT_of (hf x (mem_at hl)) (fun v k ⟨hv, hk⟩ => ?_)⟩
  subst hv hk
  cases hpx : p x with
  | true =>
   simp only [go_sem,seval]
   refine lessQ.same ?_
   simp only [go_sem,seval]
   refine .same ⟨?_, rfl⟩
   have : l.findIdx? p = some pre.length := by
    subst hl
    rw [List.findIdx?_append, List.findIdx?_eq_none_iff.2 (by simpa using hp)]
    simp [List.findIdx?_cons, hpx]
   rw [this]
  | false =>
   simp only [go_sem,seval]
   refine ⟨_, _, WeakE.env ?_, ?_, rfl, rfl⟩
   ·simp only [go_sem,seval, step_at hw hl]
   ·intro y hy
    rcases List.mem_append.1 hy with hy | hy
    ·exact hp y hy
    ·simp at hy; subst hy; exact hpx
 ·rintro e g ⟨hp, rfl, rfl⟩
  simp only [go_sem,seval, lt_end]
  refine lessQ.same ?_
  simp only [go_sem,seval]
  refine .same ⟨?_, rfl⟩
  rw [List.findIdx?_eq_none_iff.2 (by simpa using hp)]
theorem ContainsFuncC_spec [GI] {h : AHeap} {full : Bool} (l : List Rec) (hw : Pg.few l) (fid : Nat) (first captured : List AV) (p : Rec → Bool) (hc : callable prog fid = true)
  (hf : ∀ x ∈ l, ACalls prog fid (first ++ [.agg (eRec x)] ++ captured) h (fun v g => v = .bool (p x) ∧ g = h)) :
  ACalls prog 66 [.sl (l.map eRec) full, .func (.func fid) first captured] h (fun v g => v = .bool (l.any p) ∧ g = h) := by
 refine F66.calls (by simp) ?_
 delta F66.c0
 simp only [go_sem,seval]
 refine callT_of (IndexFuncC_spec l hw fid first captured p hc hf) (fun v k ⟨hv, hk⟩ => ?_)
 generalize hn : (match l.findIdx? p with | some i => (i : Int) | none => -1) = n at hv
 subst hv hk
 simp only [go_sem,seval]
 refine .same ⟨?_, rfl⟩
 congr 1
 subst hn
 cases hi : l.findIdx? p with
 | none =>
  have := List.findIdx?_eq_none_iff.1 hi
  simp only [ge_iff_le]
  rw [List.any_eq_false.2 (by simpa using this)]; rfl
 | some i =>
  obtain ⟨h1, h2, _⟩ := List.findIdx?_eq_some_iff_getElem.1 hi
  rw [List.any_eq_true.2 ⟨l[i], List.getElem_mem h1, h2⟩]
  simp
theorem tstmts_of [GI] (h : AHeap) (l : List Stmt) (f : Bool) (hl : l.length ≤ 512) (d : Int) (hx : ∀ x ∈ l, ACalls prog 122 [tcA, .agg (eStmt x), .int .i64 d] h (fun v g => v = .bool true ∧ g = h)) :
  ACalls prog 71 [tcA, .sl (l.map eStmt) f, .int .i64 d] h (fun v g => v = .bool true ∧ g = h) := by
 have hw : Pg.few l := by unfold Pg.few; omega
 have hc : ∀ x ∈ l, ACalls prog 121 ([] ++ [.agg (eStmt x)] ++ [.ip [.int .i64 0] 0, .ip [.int .i64 d] 0]) h (fun v g => v = .bool false ∧ g = h) := by
  intro x hxl
  have h1 := hx x hxl
  rw [eStmt_eq] at h1
  simp only [List.nil_append, List.singleton_append]
  refine F121.calls (by simp) ?_
  delta F121.c0
  rw [eStmt_eq]
  simp only [go_sem,seval]
  refine tcE (h1) ?_
  simp only [go_sem,seval]
  exact .same ⟨rfl, rfl⟩
 refine F71.calls (by simp) ?_
 delta F71.c0
 simp only [go_sem,seval]
 refine tcE (few_Stmt_spec h (l.map eStmt) f (by simpa using hl)) ?_
 simp only [go_sem,seval]
 refine callT_of (ContainsFuncS_spec l hw 121 [] [.ip [.int .i64 0] 0, .ip [.int .i64 d] 0] (fun _ => false) (by kernel_rfl) hc) fun v g ⟨hv, hg⟩ => ?_
 have hany : l.any (fun _ => false) = false := by simp
 rw [hany] at hv
 subst hv hg
 simp only [go_sem,seval]
 exact .same ⟨rfl, rfl⟩
mutual
theorem tstmt_spec [GI] (hm : Spc0) (h : AHeap) : ∀ (x : Stmt) (d : Int), tStmt x d = true → 0 ≤ d → ACalls prog 122 [tcA, .agg (eStmt x), .int .i64 d] h (fun v g => v = .bool true ∧ g = h)
 | ⟨before, trail, op, name, p, e, down, more, body, els, end1, end2⟩, d, hs, h0 => by
  simp only [tStmt, Bool.and_eq_true, decide_eq_true_eq] at hs
  obtain ⟨⟨⟨hd, h1⟩, hb, hbl⟩, he, hel⟩ := hs
  exact tstmt_step hm h _ d hd h0 h1 (tstmts_of h body false hbl (d + 1) (tstmts_all hm h body (d + 1) hb (by omega))) (tstmts_of h els false hel (d + 1) (tstmts_all hm h els (d + 1) he (by omega)))
theorem tstmts_all [GI] (hm : Spc0) (h : AHeap) : ∀ (l : List Stmt) (d : Int), tStmts l d = true → 0 ≤ d → ∀ x ∈ l, ACalls prog 122 [tcA, .agg (eStmt x), .int .i64 d] h (fun v g => v = .bool true ∧ g = h)
 | [], d, hs, h0, x, hx => by cases hx
 | y :: r, d, hs, h0, x, hx => by
  simp only [tStmts, Bool.and_eq_true] at hs
  rcases List.mem_cons.1 hx with e | hx
  ·rw [e]; exact tstmt_spec hm h y d hs.1 h0
  ·exact tstmts_all hm h r d hs.2 h0 x hx
end
theorem tstmts_spec [GI] (hm : Spc0) (h : AHeap) (l : List Stmt) (d : Int) (hs : tStmts l d = true) (h0 : 0 ≤ d) (hl : l.length ≤ 512) : ACalls prog 71 [tcA, .sl (l.map eStmt) false, .int .i64 d] h (fun v g => v = .bool true ∧ g = h) :=
 tstmts_of h l false hl d (tstmts_all hm h l d hs h0)
theorem tvars_spec [GI] (hm : Spc0) (h : AHeap) (l : List Var) (hv : tVars l = true) : ACalls prog 69 [tcA, .sl (l.map eVar) false] h (fun v g => v = .bool true ∧ g = h) := by
 simp only [tVars, Bool.and_eq_true, List.all_eq_true, decide_eq_true_eq] at hv
 have hw : Pg.few l := by unfold Pg.few; omega
 have hc : ∀ x ∈ l, ACalls prog 112 ([] ++ [.agg (eVar x)] ++ [.ip [.int .i64 0] 0]) h (fun v g => v = .bool false ∧ g = h) := by
  intro x hxl
  have hx := hv.1 x hxl
  simp only [tVar, tMarks, Bool.and_eq_true] at hx
  obtain ⟨⟨⟨n1, n2⟩, hn⟩, ht⟩ := hx
  have hnotes : ACalls prog 64 [.sl [[eTexts x.before], [eTexts x.trail]] true] h (fun v g => v = .bool true ∧ g = h) := tnotes_spec h [x.before, x.trail] true (by simp) (by simp [n1, n2])
  have htyp := ttyp_spec hm h x.t ht
  simp only [List.nil_append, List.singleton_append]
  refine F112.calls (by simp) ?_
  delta F112.c0
  simp only [eVar, eTexts, eTyp] at hnotes htyp ⊢
  simp only [go_sem,seval]
  refine tcE (hnotes) ?_
  simp only [go_sem,seval]
  refine tcE (tcname_spec hm h x.name hn) ?_
  simp only [go_sem,seval]
  refine tcE (htyp) ?_
  simp only [go_sem,seval]
  exact .same ⟨rfl, rfl⟩
 refine F69.calls (by simp) ?_
 delta F69.c0
 simp only [go_sem,seval]
 refine tcE (few_Var_spec h (l.map eVar) false (by simpa using hv.2)) ?_
 simp only [go_sem,seval]
 refine callT_of (ContainsFuncV_spec l hw 112 [] [.ip [.int .i64 0] 0] (fun _ => false) (by kernel_rfl) hc) fun v g ⟨hv, hg⟩ => ?_
 have hany : l.any (fun _ => false) = false := by simp
 rw [hany] at hv
 subst hv hg
 simp only [go_sem,seval]
 exact .same ⟨rfl, rfl⟩
theorem trec_spec [GI] (hm : Spc0) (h : AHeap) (x : Rec) (hr : tRec x = true) : ACalls prog 68 [tcA, .agg (eRec x)] h (fun v g => v = .bool true ∧ g = h) := by
 simp only [tRec, tMarks, Bool.and_eq_true, List.all_eq_true, decide_eq_true_eq, Bool.not_eq_true', decide_eq_false_iff_not] at hr
 obtain ⟨⟨⟨⟨⟨⟨n1, n2⟩, n3⟩, hn⟩, h0⟩, hl⟩, hf⟩ := hr
 have hw : Pg.few x.fields := by unfold Pg.few; omega
 have hc : ∀ y ∈ x.fields, ACalls prog 108 ([] ++ [.agg (eFld y)] ++ [.ip [.int .i64 0] 0]) h (fun v g => v = .bool false ∧ g = h) := by
  intro y hy
  have hx := hf y hy
  simp only [tFld, tMarks, Bool.and_eq_true, decide_eq_true_eq] at hx
  obtain ⟨⟨⟨⟨n1, n2⟩, hn⟩, hk1⟩, hk3⟩ := hx
  have hnotes : ACalls prog 64 [.sl [[eTexts y.before], [eTexts y.trail]] true] h (fun v g => v = .bool true ∧ g = h) := tnotes_spec h [y.before, y.trail] true (by simp) (by simp [n1, n2])
  simp only [List.nil_append, List.singleton_append]
  refine F108.calls (by simp) ?_
  delta F108.c0
  simp only [eFld, eTexts] at hnotes ⊢
  simp only [go_sem,seval]
  refine tcE (hnotes) ?_
  simp only [go_sem,seval]
  refine tcE (tcname_spec hm h y.name hn) ?_
  simp only [go_sem,seval]
  refine tcE (tkind_spec h y.kind hk1 hk3) ?_
  simp only [go_sem,seval]
  exact .same ⟨rfl, rfl⟩
 have hnotes : ACalls prog 64 [.sl [[eTexts x.before], [eTexts x.trail], [eTexts x.endd]] true] h (fun v g => v = .bool true ∧ g = h) := tnotes_spec h [x.before, x.trail, x.endd] true (by simp) (by simp [n1, n2, n3])
 have hpos : ((x.fields.length : Int) > 0) = True := by simp only [eq_iff_iff, iff_true]; omega
 refine F68.calls (by simp) ?_
 delta F68.c0
 simp only [eRec, eTexts] at hnotes ⊢
 simp only [go_sem,seval]
 refine tcE (hnotes) ?_
 simp only [go_sem,seval]
 refine tcE (tcname_spec hm h x.name hn) ?_
 simp only [go_sem,seval]
 refine tcE (few_Field_spec h (x.fields.map eFld) false (by simpa using hl)) ?_
 simp only [go_sem,seval, List.length_map, hpos]
 refine callT_of (ContainsFuncF_spec x.fields hw 108 [] [.ip [.int .i64 0] 0] (fun _ => false) (by kernel_rfl) hc) fun v g ⟨hv, hg⟩ => ?_
 have hany : x.fields.any (fun _ => false) = false := by simp
 rw [hany] at hv
 subst hv hg
 simp only [go_sem,seval]
 exact .same ⟨rfl, rfl⟩
theorem tparams_spec [GI] (hm : Spc0) (h : AHeap) (l : List Param) (hp : tParams l = true) : ACalls prog 118 [tcA, .sl (l.map eParam) false] h (fun v g => v = .bool true ∧ g = h) := by
 simp only [tParams, Bool.and_eq_true, List.all_eq_true, decide_eq_true_eq] at hp
 have hw : Pg.few l := by unfold Pg.few; omega
 refine F118.calls (by simp) ?_
 delta F118.c0
 simp only [go_sem,seval, List.length_map]
 refine lT_list l (fun pre post v g => g = h ∧ v = [(1, .sl (l.map eParam) false), (2, .ip [.int .i64 0] 0), (5, .bool false), (8, .sl (l.map eParam) false), (9, .int .i64 l.length), (10, .int .i64 pre.length)]) (WeakE.env ?_) ⟨rfl, rfl⟩ ?_ ?_
 ·simp only [go_sem,seval]
 ·rintro pre y post v g hy ⟨rfl, rfl⟩
  have hx := hp.1 y (mem_at hy)
  simp only [tParam, Bool.and_eq_true, Bool.not_eq_true', decide_eq_true_eq, Bool.and_eq_false_iff, Bool.or_eq_false_iff, decide_eq_false_iff_not] at hx
  obtain ⟨⟨⟨⟨hn, ht⟩, hm0⟩, hm1⟩, hby⟩ := hx
  have htyp := ttyp_spec hm g y.t ht
  simp only [eTyp] at htyp
  have e1 : (y.mode < 0) = False := by simp only [eq_iff_iff, iff_false]; omega
  have e2 : (y.mode > 2) = False := by simp only [eq_iff_iff, iff_false]; omega
  have e3 : (y.mode = 2) = False := by simp only [eq_iff_iff, iff_false]; omega
  have ha : aia 5 (.sl (l.map eParam) false) (.int .i64 pre.length) = some (.ip [.str y.name, .int .i64 y.t.kind, .int .i64 y.t.size, .str y.t.name, .int .i64 y.mode] 0) := aia_sl (map_at hy) (eParam_len y)
  simp only [go_sem,seval, lt_at hy, ha]
  refine tcE (tcname_spec hm g y.name hn) ?_
  simp only [go_sem,seval]
  refine tcE (htyp) ?_
  simp only [go_sem,seval, e1, e2]
  by_cases h0 : y.mode = 0
  ·have hs0 : (y.t.size > 0) = False := by simp only [eq_iff_iff, iff_false]; simp [h0] at hby; omega
   have hk4 : (y.t.kind = 4) = False := by simp only [eq_iff_iff, iff_false]; simp [h0] at hby; omega
   simp only [go_sem,seval, h0, hs0, hk4, e3]
   refine ⟨_, _, WeakE.env ?_, rfl, rfl⟩
   ·simp only [go_sem,seval, step_at hw hy]
  ·simp only [go_sem,seval, h0, e3]
   refine ⟨_, _, WeakE.env ?_, rfl, rfl⟩
   ·simp only [go_sem,seval, step_at hw hy]
 ·rintro v g ⟨rfl, rfl⟩
  simp only [go_sem,seval, lt_end]
  refine lessQ.same ?_
  simp only [go_sem,seval]
  refine tcE (few_Param_spec g (l.map eParam) false (by simpa using hp.2)) ?_
  simp only [go_sem,seval]
  exact .same ⟨rfl, rfl⟩
end Pg.Tc

namespace Pg.Tc
open Go Go.Proofs.Tryz
set_option linter.all false
set_option maxHeartbeats 4000000
set_option maxRecDepth 4000
abbrev eSeen (r : Routine) : AV × AV := (.str r.name, .bool true)
theorem seen_find (n : ByteArray) : ∀ l : List Routine, (∀ r ∈ l, r.name ≠ n) → afind [2] (.str n) (l.map eSeen) = some none
 | [], _ => rfl
 | r :: l, h => by
  have h1 : ¬ n = r.name := fun e => h r (by simp) e.symm
  simp only [List.map_cons, afind, keyEq, cellEq, h1, decide_false]
  exact seen_find n l (fun r hr => h r (by simp [hr]))
theorem seen_set (n : ByteArray) : ∀ l : List Routine, (∀ r ∈ l, r.name ≠ n) → aset [2] (.str n) (.bool true) (l.map eSeen) = some (l.map eSeen ++ [(.str n, .bool true)])
 | [], _ => rfl
 | r :: l, h => by
  have h1 : ¬ n = r.name := fun e => h r (by simp) e.symm
  simp only [List.map_cons, aset, keyEq, cellEq, h1, decide_false]
  rw [seen_set n l (fun r hr => h r (by simp [hr]))]
  rfl
theorem troutines_at : ∀ (pre : List Routine) (x : Routine) (post : List Routine) (ahead : List ByteArray) (d : Int), tRoutines ahead (pre ++ x :: post) d = true → tRoutine (ahead ++ pre.map (·.name)) x d = true
 | [], x, post, ahead, d, h => by
  simp only [List.nil_append, tRoutines, Bool.and_eq_true] at h
  simpa using h.1
 | y :: pre, x, post, ahead, d, h => by
  simp only [List.cons_append, tRoutines, Bool.and_eq_true] at h
  have := troutines_at pre x post _ d h.2
  simpa using this
theorem troutines_apart {l pre post : List Routine} {x : Routine} {d : Int} (h : tRoutines [] l d = true) (hl : l = pre ++ x :: post) : ∀ r ∈ pre, r.name ≠ x.name := by
 subst hl
 have := troutines_at pre x post [] d h
 obtain ⟨before, trail, name, result, params, vars, inner, body, endd⟩ := x
 simp only [tRoutine, List.nil_append, Bool.and_eq_true, Bool.not_eq_true'] at this
 have ha : among name (pre.map (·.name)) = false := by obtain ⟨⟨⟨⟨⟨_, h⟩, _⟩, _⟩, _⟩, _⟩ := this; exact h
 intro r hr e
 have : among name (pre.map (·.name)) = true := List.any_eq_true.2 ⟨r.name, List.mem_map_of_mem hr, by simpa using e⟩
 rw [ha] at this; cases this
theorem tapart_spec [GI] (h : AHeap) (l : List Routine) (hw : Pg.few l) (hd : ∀ pre x post, l = pre ++ x :: post → ∀ r ∈ pre, r.name ≠ x.name) : ACalls prog 115 [.sl (l.map eRoutine) false] h (fun v g => v = .bool true ∧ g = h) := by
 refine F115.calls (by simp) ?_
 delta F115.c0
 simp only [go_sem,seval]
 refine afreshT_intro fun m hm0 => ?_
 simp only [go_sem,seval, List.length_map]
 refine lT_list l (fun pre post v g => g = h.upd m (.mp (pre.map eSeen)) ∧ v = [(3, .map (some m)), (7, .sl (l.map eRoutine) false), (8, .int .i64 l.length), (9, .int .i64 pre.length)]) (WeakE.env ?_) ⟨rfl, rfl⟩ ?_ ?_
 ·simp only [go_sem,seval]
 ·rintro pre y post v g hy ⟨rfl, rfl⟩
  have hfr := hd pre y post hy
  have hf := seen_find y.name pre hfr
  have hs := seen_set y.name pre hfr
  have ha : aia 9 (.sl (l.map eRoutine) false) (.int .i64 pre.length) = some (.ip [eTexts y.before, eTexts y.trail, .str y.name, .int .i64 y.result, .sl (y.params.map eParam) false, .sl (y.vars.map eVar) false, .sl (y.inner.map eRoutine) false, .sl (y.body.map eStmt) false, eTexts y.endd] 0) := by rw [← eRoutine_eq]; exact aia_sl (map_at hy) (eRoutine_len y)
  simp only [go_sem,seval, lt_at hy, ha, alookup, amapOf, keyFits, upd_same, hf]
  refine mapupT_of (upd_same _ _ _) hs rfl ?_
  simp only [go_sem,seval]
  refine ⟨_, _, WeakE.env ?_, ?_, rfl⟩
  ·simp only [go_sem,seval, step_at hw hy]
  ·rw [upd_upd, List.map_append]; rfl
 ·rintro v g ⟨rfl, rfl⟩
  simp only [go_sem,seval, lt_end]
  refine lessQ.same ?_
  simp only [go_sem,seval]
  exact .forget (AHeap.le_upd hm0) ⟨rfl, rfl⟩
theorem troutine_step [GI] (hm : Spc0) (h : AHeap) (ahead : List ByteArray) (x : Routine) (d : Int) (hd0 : 0 ≤ d) (hr : tRoutine ahead x d = true) (hi : ACalls prog 70 [tcA, .sl (x.inner.map eRoutine) false, .int .i64 (d + 1)] h (fun v g => v = .bool true ∧ g = h)) :
  ACalls prog 116 ([] ++ [.agg (eRoutine x)] ++ [.ip [.int .i64 d] 0, .ip [.int .i64 0] 0]) h (fun v g => v = .bool false ∧ g = h) := by
 obtain ⟨before, trail, name, result, params, vars, inner, body, endd⟩ := x
 simp only [tRoutine, tMarks, Bool.and_eq_true, decide_eq_true_eq] at hr
 obtain ⟨⟨⟨⟨⟨⟨⟨⟨⟨⟨hd, n1, n2⟩, n3⟩, hn⟩, r0⟩, r3⟩, _⟩, hp⟩, hv⟩, hin, hil⟩, hb, hbl⟩ := hr
 have hw : IntKind.i64.wrap (d + 1) = d + 1 := wrap64 (by omega) (by omega)
 have hd48 : (d > 48) = False := by simp only [eq_iff_iff, iff_false]; omega
 have hnotes : ACalls prog 64 [.sl [[eTexts before], [eTexts trail], [eTexts endd]] true] h (fun v g => v = .bool true ∧ g = h) := tnotes_spec h [before, trail, endd] true (by simp) (by simp [n1, n2, n3])
 simp only [List.nil_append, List.singleton_append]
 refine F116.calls (by simp) ?_
 delta F116.c0
 rw [eRoutine_eq]
 simp only [eTexts] at hnotes hi ⊢
 simp only [go_sem,seval, hd48]
 refine tcE (hnotes) ?_
 simp only [go_sem,seval]
 refine tcE (tcroutine_spec hm h name hn) ?_
 by_cases hr0 : result = 0
 ·subst hr0
  simp only [go_sem,seval]
  refine tcE (tparams_spec hm h params hp) ?_
  simp only [go_sem,seval]
  refine tcE (tvars_spec hm h vars hv) ?_
  simp only [go_sem,seval, hw]
  refine tcE (hi) ?_
  simp only [go_sem,seval]
  refine tcE (tstmts_spec hm h body 1 hb (by omega) hbl) ?_
  simp only [go_sem,seval]
  exact .same ⟨rfl, rfl⟩
 ·simp only [go_sem,seval, hr0]
  refine tcE (tkind_spec h result (by omega) r3) ?_
  simp only [go_sem,seval]
  refine tcE (tparams_spec hm h params hp) ?_
  simp only [go_sem,seval]
  refine tcE (tvars_spec hm h vars hv) ?_
  simp only [go_sem,seval, hw]
  refine tcE (hi) ?_
  simp only [go_sem,seval]
  refine tcE (tstmts_spec hm h body 1 hb (by omega) hbl) ?_
  simp only [go_sem,seval]
  exact .same ⟨rfl, rfl⟩
theorem troutines_of [GI] (h : AHeap) (l : List Routine) (hl : l.length ≤ 512) (d : Int) (hd : ∀ pre x post, l = pre ++ x :: post → ∀ r ∈ pre, r.name ≠ x.name)
  (hx : ∀ x ∈ l, ACalls prog 116 ([] ++ [.agg (eRoutine x)] ++ [.ip [.int .i64 d] 0, .ip [.int .i64 0] 0]) h (fun v g => v = .bool false ∧ g = h)) :
  ACalls prog 70 [tcA, .sl (l.map eRoutine) false, .int .i64 d] h (fun v g => v = .bool true ∧ g = h) := by
 have hw : Pg.few l := by unfold Pg.few; omega
 refine F70.calls (by simp) ?_
 delta F70.c0
 simp only [go_sem,seval]
 refine tcE (few_Routine_spec h (l.map eRoutine) false (by simpa using hl)) ?_
 simp only [go_sem,seval]
 refine tcE (tapart_spec h l hw hd) ?_
 simp only [go_sem,seval]
 refine callT_of (ContainsFuncR_spec l hw 116 [] [.ip [.int .i64 d] 0, .ip [.int .i64 0] 0] (fun _ => false) (by kernel_rfl) hx) fun v g ⟨hv, hg⟩ => ?_
 have hany : l.any (fun _ => false) = false := by simp
 rw [hany] at hv
 subst hv hg
 simp only [go_sem,seval]
 exact .same ⟨rfl, rfl⟩
mutual
theorem troutine_spec [GI] (hm : Spc0) (h : AHeap) : ∀ (x : Routine) (ahead : List ByteArray) (d : Int), tRoutine ahead x d = true → 0 ≤ d → ACalls prog 116 ([] ++ [.agg (eRoutine x)] ++ [.ip [.int .i64 d] 0, .ip [.int .i64 0] 0]) h (fun v g => v = .bool false ∧ g = h)
 | ⟨before, trail, name, result, params, vars, inner, body, endd⟩, ahead, d, hr, h0 => by
  have hr' := hr
  simp only [tRoutine, Bool.and_eq_true, decide_eq_true_eq] at hr'
  obtain ⟨⟨_, hin, hil⟩, _⟩ := hr'
  exact troutine_step hm h ahead _ d h0 hr (troutines_of h inner hil (d + 1) (fun pre x post hl => troutines_apart hin hl) (troutines_all hm h inner [] (d + 1) hin (by omega)))
theorem troutines_all [GI] (hm : Spc0) (h : AHeap) : ∀ (l : List Routine) (ahead : List ByteArray) (d : Int), tRoutines ahead l d = true → 0 ≤ d → ∀ x ∈ l, ACalls prog 116 ([] ++ [.agg (eRoutine x)] ++ [.ip [.int .i64 d] 0, .ip [.int .i64 0] 0]) h (fun v g => v = .bool false ∧ g = h)
 | [], ahead, d, hr, h0, x, hx => by cases hx
 | y :: r, ahead, d, hr, h0, x, hx => by
  simp only [tRoutines, Bool.and_eq_true] at hr
  rcases List.mem_cons.1 hx with e | hx
  ·rw [e]; exact troutine_spec hm h y ahead d hr.1 h0
  ·exact troutines_all hm h r _ d hr.2 h0 x hx
end
theorem tCheck_spec [GI] (hm : Spc0) (h : AHeap) (p : Prg) (hp : tPrg p = true) : ACalls prog 26 [.int .i64 0, .agg (ePrg p)] h (fun v g => v = .int .i64 0 ∧ g = h) := by
 simp only [tPrg, Bool.and_eq_true, List.all_eq_true, decide_eq_true_eq] at hp
 obtain ⟨⟨⟨⟨⟨⟨⟨⟨⟨hn, n1⟩, n2⟩, n3⟩, n4⟩, hrl⟩, hr⟩, hv⟩, ht, htl⟩, hb, hbl⟩ := hp
 have hw : Pg.few p.recs := by unfold Pg.few; omega
 have hc : ∀ x ∈ p.recs, ACalls prog 67 ([] ++ [.agg (eRec x)] ++ [.ip [.int .i64 0] 0]) h (fun v g => v = .bool false ∧ g = h) := by
  intro x hx
  have h1 := trec_spec hm h x (hr x hx)
  simp only [List.nil_append, List.singleton_append]
  refine F67.calls (by simp) ?_
  delta F67.c0
  simp only [eRec, eTexts] at h1 ⊢
  simp only [go_sem,seval]
  refine tcE (h1) ?_
  simp only [go_sem,seval]
  exact .same ⟨rfl, rfl⟩
 have hnotes : ACalls prog 64 [.sl [[eTexts p.before], [eTexts p.mid], [eTexts p.after], [eTexts p.endd]] true] h (fun v g => v = .bool true ∧ g = h) := tnotes_spec h [p.before, p.mid, p.after, p.endd] true (by simp) (by simp [n1, n2, n3, n4])
 have hts := troutines_of h p.routines htl 1 (fun pre x post hl => troutines_apart ht hl) (troutines_all hm h p.routines [] 1 ht (by omega))
 refine F26.calls (by simp) ?_
 delta F26.c0
 rw [ePrg_eq]
 simp only [eTexts] at hnotes ⊢
 simp only [go_sem,seval]
 refine tcE (tcname_spec hm h p.name hn) ?_
 simp only [go_sem,seval]
 refine tcE (hnotes) ?_
 simp only [go_sem,seval]
 refine tcE (few_Rec_spec h (p.recs.map eRec) false (by simpa using hrl)) ?_
 simp only [go_sem,seval]
 refine callT_of (ContainsFuncC_spec p.recs hw 67 [] [.ip [.int .i64 0] 0] (fun _ => false) (by kernel_rfl) hc) fun v g ⟨hv', hg⟩ => ?_
 have hany : p.recs.any (fun _ => false) = false := by simp
 rw [hany] at hv'
 subst hv' hg
 simp only [go_sem,seval]
 refine tcE (tvars_spec hm _ p.vars hv) ?_
 simp only [go_sem,seval]
 refine tcE (hts) ?_
 simp only [go_sem,seval]
 refine tcE (tstmts_spec hm _ p.body 1 hb (by omega) hbl) ?_
 simp only [go_sem,seval]
 exact .same ⟨rfl, rfl⟩
end Pg.Tc
