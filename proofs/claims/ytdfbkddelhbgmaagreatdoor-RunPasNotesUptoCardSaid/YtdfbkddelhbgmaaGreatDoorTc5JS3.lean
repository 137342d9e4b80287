import Derived.Test.YtdfbkddelhbgmaaGreatDoorTreeSS3
import Derived.Test.YtdfbkddelhbgmaaGreatDoorWordsS3
import Derived.Test.YtdfbkddelhbgmaaGreatDoorNoteJS3
import Derived.Test.YtdfbkddelhbgmaaGreatDoorCkXS3
import Derived.Test.YtdfbkddelhbgmaaGreatDoorCountS3
namespace Pg.Tc
open Go Go.Proofs.Tryz
set_option linter.all false
set_option maxHeartbeats 4000000
set_option maxRecDepth 4000
abbrev tcA : AV := .agg [.int .i64 0]
theorem KK [GI] (h : AHeap) (rows : List (List AV)) (f : Bool) (hr : rows.length ≤ 512) : aD prog 103 [.sl rows f] h (fun v g => v = .bool true ∧ g = h) := by
 have hr' : ((rows.length : Int) ≤ 512) = True := by simp; omega
 refine TX.calls (by simp) ?_
 delta TX.c0
 simp only [go_sem,seval, hr']
 exact .same ⟨rfl, rfl⟩
theorem QU [GI] (h : AHeap) (rows : List (List AV)) (f : Bool) (hr : rows.length ≤ 512) : aD prog 65 [.sl rows f] h (fun v g => v = .bool true ∧ g = h) := by
 have hr' : ((rows.length : Int) ≤ 512) = True := by simp; omega
 refine F65.calls (by simp) ?_
 delta F65.c0
 simp only [go_sem,seval, hr']
 exact .same ⟨rfl, rfl⟩
theorem MB [GI] (h : AHeap) (rows : List (List AV)) (f : Bool) (hr : rows.length ≤ 512) : aD prog 106 [.sl rows f] h (fun v g => v = .bool true ∧ g = h) := by
 have hr' : ((rows.length : Int) ≤ 512) = True := by simp; omega
 refine TU.calls (by simp) ?_
 delta TU.c0
 simp only [go_sem,seval, hr']
 exact .same ⟨rfl, rfl⟩
theorem QT [GI] (h : AHeap) (rows : List (List AV)) (f : Bool) (hr : rows.length ≤ 512) : aD prog 110 [.sl rows f] h (fun v g => v = .bool true ∧ g = h) := by
 have hr' : ((rows.length : Int) ≤ 512) = True := by simp; omega
 refine TP.calls (by simp) ?_
 delta TP.c0
 simp only [go_sem,seval, hr']
 exact .same ⟨rfl, rfl⟩
theorem IJ [GI] (h : AHeap) (rows : List (List AV)) (f : Bool) (hr : rows.length ≤ 512) : aD prog 114 [.sl rows f] h (fun v g => v = .bool true ∧ g = h) := by
 have hr' : ((rows.length : Int) ≤ 512) = True := by simp; omega
 refine TL.calls (by simp) ?_
 delta TL.c0
 simp only [go_sem,seval, hr']
 exact .same ⟨rfl, rfl⟩
theorem OP [GI] (h : AHeap) (rows : List (List AV)) (f : Bool) (hr : rows.length ≤ 512) : aD prog 119 [.sl rows f] h (fun v g => v = .bool true ∧ g = h) := by
 have hr' : ((rows.length : Int) ≤ 512) = True := by simp; omega
 refine TH.calls (by simp) ?_
 delta TH.c0
 simp only [go_sem,seval, hr']
 exact .same ⟨rfl, rfl⟩
theorem MA [GI] (h : AHeap) (rows : List (List AV)) (f : Bool) (hr : rows.length ≤ 512) : aD prog 159 [.sl rows f] h (fun v g => v = .bool true ∧ g = h) := by
 have hr' : ((rows.length : Int) ≤ 512) = True := by simp; omega
 refine SL.calls (by simp) ?_
 delta SL.c0
 simp only [go_sem,seval, hr']
 exact .same ⟨rfl, rfl⟩
theorem eM [GI] (h : AHeap) (rows : List (List AV)) (f : Bool) (hr : rows.length ≤ 512) : aD prog 184 [.sl rows f] h (fun v g => v = .bool true ∧ g = h) := by
 have hr' : ((rows.length : Int) ≤ 512) = True := by simp; omega
 refine R4.calls (by simp) ?_
 delta R4.c0
 simp only [go_sem,seval, hr']
 exact .same ⟨rfl, rfl⟩
theorem AR [GI] (h : AHeap) (k : Int) (h1 : 1 ≤ k) (h2 : k ≤ 3) : aD prog 109 [.int .i64 k] h (fun v g => v = .bool true ∧ g = h) := by
 refine TQ.calls (by simp) ?_
 delta TQ.c0
 simp only [go_sem,seval, h1, h2, ge_iff_le]
 exact .same ⟨rfl, rfl⟩
theorem ML [GI] (hm : Spc0) (h : AHeap) (t : Typ) (ht : mH t = true) : aD prog 113 [tcA, .agg (bV t)] h (fun v g => v = .bool true ∧ g = h) := by
 obtain ⟨k, n, name⟩ := t
 unfold mH at ht
 refine TM.calls (by simp) ?_
 delta TM.c0
 unfold bV
 by_cases hk : k = 4
 ·subst hk
  simp only [if_true, Bool.and_eq_true, decide_eq_true_eq] at ht
  obtain ⟨rfl, ht⟩ := ht
  simp only [go_sem,seval]
  refine tcE (fL hm h name ht) ?_
  simp only [go_sem,seval]
  exact .same ⟨rfl, rfl⟩
 ·simp only [hk, if_false, Bool.and_eq_true, decide_eq_true_eq] at ht
  obtain ⟨⟨⟨⟨h1, h2⟩, h3⟩, h4⟩, rfl⟩ := ht
  simp only [go_sem,seval, hk]
  refine tcE (AR h k h1 h2) ?_
  simp only [go_sem,seval, h3, h4, ge_iff_le]
  exact .same ⟨rfl, rfl⟩
theorem oT [GI] (h : AHeap) (slots : List (List ByteArray)) (f : Bool) (hf : slots.length ≤ 8) (hn : ∀ l ∈ slots, eU l = true) : aD prog 64 [.sl (slots.map fun l => [aE l]) f] h (fun v g => v = .bool true ∧ g = h) := by
 have hw : Pg.few slots := by unfold Pg.few; omega
 refine F64.calls (by simp) ?_
 delta F64.c0
 simp only [aE]
 simp only [go_sem,seval, List.length_map]
 refine aX slots (fun pre post e g => g = h ∧ e = [(9, .sl (slots.map fun l => [.sl (l.map fun s => [.str s]) false]) f), (10, .int .i64 slots.length), (11, .int .i64 pre.length)]) (aF.env ?_) ⟨rfl, rfl⟩ ?_ ?_
 ·simp only [go_sem,seval]
 ·rintro pre l post e g hl ⟨rfl, rfl⟩
  have ht := hn l (bJ hl)
  simp only [eU, Bool.and_eq_true, decide_eq_true_eq, List.all_eq_true] at ht
  have hwl : Pg.few l := by unfold Pg.few; omega
  have ha : aia 1 (.sl (slots.map fun l => [.sl (l.map fun s => [.str s]) false]) f) (.int .i64 pre.length) = some (.ip [.sl (l.map fun s => [.str s]) false] 0) := aI (aK hl) rfl
  simp only [go_sem,seval, bI hl, ha]
  refine tcE (KK _ (l.map fun s => [.str s]) _ (by rw [List.length_map]; exact ht.2)) ?_
  simp only [go_sem,seval, List.length_map]
  refine aX l (fun pr ps e k => k = g ∧ e = [(9, .sl (slots.map fun l => [.sl (l.map fun s => [.str s]) false]) f), (10, .int .i64 slots.length), (11, .int .i64 pre.length), (18, .sl (l.map fun s => [.str s]) false), (19, .int .i64 l.length), (20, .int .i64 pr.length)]) (aF.env ?_) ⟨rfl, rfl⟩ ?_ ?_
  ·simp only [go_sem,seval]
  ·rintro pr s ps e k hl2 ⟨rfl, rfl⟩
   have ha2 : aia 1 (.sl (l.map fun s => [.str s]) false) (.int .i64 pr.length) = some (.ip [.str s] 0) := aI (aK hl2) rfl
   simp only [go_sem,seval, bI hl2, ha2]
   refine aW (UP _ s (ht.1 s (bJ hl2))) fun v g ⟨⟨t, hv⟩, hg⟩ => ?_
   subst hv hg
   simp only [go_sem,seval]
   refine ⟨_, _, aF.env ?_, rfl, rfl⟩
   ·simp only [go_sem,seval, aQ hwl hl2]
  ·rintro e k ⟨rfl, rfl⟩
   simp only [go_sem,seval, bE]
   refine aM.same ?_
   simp only [go_sem,seval]
   refine ⟨_, _, aF.env ?_, rfl, rfl⟩
   ·simp only [go_sem,seval, aQ hw hl]
 ·rintro e g ⟨rfl, rfl⟩
  simp only [go_sem,seval, bE]
  refine aM.same ?_
  simp only [go_sem,seval]
  exact .same ⟨rfl, rfl⟩
end Pg.Tc

namespace Pg.Tc
open Go Go.Proofs.Tryz
set_option linter.all false
set_option maxHeartbeats 4000000
set_option maxRecDepth 4000
mutual
def iA : Expr → Nat
 | ⟨_, _, _, _, l⟩ => gS l + 1
def gS : List Expr → Nat
 | [] => 0
 | x :: r => max (iA x) (gS r)
end
theorem wL : ∀ (l r : List Expr), gS (l ++ r) = max (gS l) (gS r)
 | [], r => by simp [gS]
 | x :: l, r => by simp only [List.cons_append, gS, wL l r]; omega
theorem jV (x : Expr) : 1 ≤ iA x := by cases x; simp [iA]
theorem aDH {l : List Expr} {x : Expr} (h : x ∈ l) : iA x ≤ gS l := by
 obtain ⟨a, b, rfl⟩ := List.append_of_mem h
 rw [wL]; simp only [gS]; omega
theorem QQ : ∀ (m : Nat) (l : List Expr), gV m l = true → ∀ x ∈ l, form m x = true ∧ x.op ≠ 25
 | _, [], _, x, h => by cases h
 | m, y :: r, h, x, hx => by
  simp only [gV, Bool.and_eq_true, Bool.not_eq_true', decide_eq_false_iff_not] at h
  rcases List.mem_cons.1 hx with rfl | hx
  ·exact ⟨h.1.2, h.1.1⟩
  ·exact QQ m r h.2 x hx
mutual
theorem aDF : ∀ (m n : Nat) (x : Expr), form (m + 1) x = true → m ≤ n → deep n x = iA x
 | m, n, ⟨op, k, name, field, l⟩, h, hn => by
  simp only [form, Bool.and_eq_true] at h
  simp only [deep, iA, aBz m n l h.2 hn]
theorem aBz : ∀ (m n : Nat) (l : List Expr), gV m l = true → m ≤ n → kO n l = gS l
 | m, 0, [], h, hn => rfl
 | m, n + 1, [], h, hn => rfl
 | m, n, x :: r, h, hn => by
  simp only [gV, Bool.and_eq_true, Bool.not_eq_true', decide_eq_false_iff_not] at h
  cases m with
  | zero => simp [form] at h
  | succ m =>
   cases n with
   | zero => omega
   | succ n =>
    simp only [kO, gS]
    rw [if_neg h.1.1, aDF m n x h.1.2 (by omega), aBz (m + 1) (n + 1) r h.2 hn]
end
theorem QW {x : Expr} (h : nK x = true) : form 48 x = true ∧ iA x ≤ 48 := by
 simp only [nK, Bool.and_eq_true, decide_eq_true_eq] at h
 rw [aDF 47 99 x h.1 (by omega)] at h
 exact h
theorem u6 [GI] (h : AHeap) (l : List Expr) (f : Bool) (hl : l.length ≤ 512) (hd : gS l < 48) (hx : ∀ x ∈ l, aD prog 164 [tcA, .agg (aO x)] h (fun v g => v = .int .i64 (iA x) ∧ g = h)) : aD prog 186 [tcA, .sl (l.map aO) f] h (fun v g => v = .int .i64 ((gS l + 1 : Nat) : Int) ∧ g = h) := by
 have hw : Pg.few l := by unfold Pg.few; omega
 refine R0.calls (by simp) ?_
 delta R0.c0
 simp only [go_sem,seval, List.length_map]
 refine aX l (fun pre post e g => g = h ∧ e = [(2, .ip [.int .i64 0] 0), (5, .int .i64 (gS pre)), (9, .sl (l.map aO) f), (10, .int .i64 l.length), (11, .int .i64 pre.length)]) (aF.env ?_) ⟨rfl, rfl⟩ ?_ ?_
 ·simp only [go_sem,seval, gS]
 ·rintro pre x post e g hp ⟨rfl, rfl⟩
  have hx1 := jV x
  have h0 : ((iA x : Int) = 0) = False := by simp; omega
  have hmx : gS (pre ++ [x]) = max (gS pre) (iA x) := by rw [wL]; simp [gS]
  have hmm : (if (iA x : Int) > gS pre then (iA x : Int) else gS pre) = ((max (gS pre) (iA x) : Nat) : Int) := by split <;> omega
  simp only [go_sem,seval, bI hp, aI (aK hp) (aR x)]
  refine tcE (hx x (bJ hp)) ?_
  simp only [go_sem,seval, h0]
  refine ⟨_, _, aF.env ?_, rfl, rfl⟩
  ·simp only [go_sem,seval, aQ hw hp, hmx, hmm]
 ·rintro e g ⟨rfl, rfl⟩
  have h48 : ((gS l : Int) ≥ 48) = False := by simp; omega
  have hw1 : IntKind.i64.wrap ((gS l : Int) + 1) = ((gS l + 1 : Nat) : Int) := by rw [wrap64 (by omega) (by omega)]; omega
  simp only [go_sem,seval, bE]
  refine aM.same ?_
  simp only [go_sem,seval, h48, hw1]
  exact .same ⟨rfl, rfl⟩
theorem zO [GI] (hm : Spc0) (h : AHeap) (s : ByteArray) (hs : dK s = true) : aD prog 117 [tcA, .str s] h (fun v g => v = .bool true ∧ g = h) := by
 refine ZZ.calls (by simp) ?_
 delta ZZ.c0
 simp only [go_sem,seval]
 refine aS fun p hp => ?_
 simp only [go_sem,seval]
 refine tcE (fL hm _ s hs) ?_
 simp only [go_sem,seval, aA, aB]
 exact .forget (AHeap.b8 hp) ⟨rfl, rfl⟩
theorem ZH {es : List (List AV)} {f : Bool} : eP false 5 (.sl es f) none (some (.int .i64 (es.length : Int))) = some (.sl es f) := by
 simp only [eP, gG]
 rw [if_pos (Int.natCast_nonneg _)]
 simp
theorem XF [GI] (hm : Spc0) (h : AHeap) (op k : Int) (name field : ByteArray) (l : List Expr) (hl : l.length ≤ 512) (hd : gS l < 48) (hn : dK name = true) (h25 : ∀ x ∈ l, x.op ≠ 25)
  (hx : ∀ x ∈ l, aD prog 164 [tcA, .agg (aO x)] h (fun v g => v = .int .i64 (iA x) ∧ g = h)) : aD prog 185 [tcA, .agg (aO ⟨op, k, name, field, l⟩)] h (fun v g => v = .int .i64 ((gS l + 1 : Nat) : Int) ∧ g = h) := by
 refine R3.calls (by simp) ?_
 delta R3.c0
 simp only [aO, qH]
 simp only [go_sem,seval]
 refine tcE (zO hm h name hn) ?_
 simp only [go_sem,seval, List.length_map]
 have hsl : eP false 5 (.sl (l.map aO) false) none (some (.int .i64 (l.length : Int))) = some (.sl (l.map aO) false) := by
  have := ZH (es := l.map aO) (f := false)
  rwa [List.length_map] at this
 refine qE (fun n e g => g = h ∧ e = [(2, .ip [.int .i64 0] 0), (3, .ip [.int .i64 op, .int .i64 k, .str name, .str field, .sl (l.map aO) false] 0), (5, .int .i64 l.length)]) 0 (aF.env ?_) ⟨rfl, rfl⟩ ?_
 ·simp only [go_sem,seval]
 ·rintro n e g ⟨rfl, rfl⟩
  rcases List.eq_nil_or_concat l with rfl | ⟨pre, x, rfl⟩
  ·simp only [go_sem,seval]
   refine aM.same ?_
   have hsl0 : eP false 5 (.sl [] false) none (some (.int .i64 0)) = some (.sl [] false) := by rfl
   simp only [go_sem,seval, hsl0]
   refine tcE (u6 g [] false hl hd hx) ?_
   simp only [go_sem,seval]
   exact .same ⟨rfl, rfl⟩
  ·rw [List.concat_eq_append] at *
   have hpos : (((pre ++ [x]).length : Int) > 0) = True := by simp
   have hw : IntKind.i64.wrap (((pre ++ [x]).length : Int) - 1) = (pre.length : Int) := by rw [List.length_append] at hl ⊢; rw [wrap64 (by simp) (by simp at hl ⊢; omega)]; simp
   have ha : aia 5 (.sl ((pre ++ [x]).map aO) false) (.int .i64 (pre.length : Int)) = some (.ip (aO x) 0) := aI (aK (l := pre ++ [x]) (pre := pre) (post := []) rfl) (aR x)
   have ho : ((x.op : Int) = 25) = False := by simpa using h25 x (by simp)
   obtain ⟨o', k', n', f', l'⟩ := x
   simp only [aO] at ha
   simp only [go_sem,seval, hpos, hw, ha, ho]
   refine aM.same ?_
   simp only [go_sem,seval, hsl]
   refine tcE (u6 g _ false hl hd hx) ?_
   simp only [go_sem,seval]
   exact .same ⟨rfl, rfl⟩
theorem wY {s : ByteArray} (h : dK s = true) : (s = (⟨#[]⟩ : ByteArray)) = False := by
 rw [eq_iff_iff, iff_false]
 rintro rfl
 revert h
 decide
theorem I5 [GI] (hm : Spc0) (h : AHeap) : ∀ (m : Nat) (x : Expr), form m x = true → iA x ≤ 48 → aD prog 164 [tcA, .agg (aO x)] h (fun v g => v = .int .i64 (iA x) ∧ g = h)
 | 0, x, hf, hd => by simp [form] at hf
 | m + 1, ⟨op, k, name, field, l⟩, hf, hd => by
  simp only [form, Bool.and_eq_true, decide_eq_true_eq] at hf
  obtain ⟨⟨⟨⟨hl, h1⟩, h24⟩, hp⟩, hf⟩ := hf
  simp only [iA] at hd ⊢
  have hmem := QQ m l hf
  have hx : ∀ x ∈ l, aD prog 164 [tcA, .agg (aO x)] h (fun v g => v = .int .i64 (iA x) ∧ g = h) := fun x hx => I5 hm h m x (hmem x hx).1 (by have := aDH hx; omega)
  have hdeep := u6 h l false hl (by omega) hx
  simp only [eV, Bool.and_eq_true] at hp
  obtain ⟨⟨⟨p1, p2⟩, p3⟩, p4⟩ := hp
  refine SG.calls (by simp) ?_
  delta SG.c0
  simp only [aO, qH]
  rcases (by omega : op = 1 ∨ op = 2 ∨ op = 3 ∨ op = 4 ∨ op = 5 ∨ op = 6 ∨ op = 7 ∨ op = 8 ∨ op = 9 ∨ 10 ≤ op) with rfl | rfl | rfl | rfl | rfl | rfl | rfl | rfl | rfl | h10
  ·simp at p1 p2 p3 p4
   subst p2 p3 p4
   simp only [List.map_nil] at hdeep
   by_cases hk : k = 0
   ·subst hk
    simp only [go_sem,seval]
    refine tcE (eM h [] false (by simp)) ?_
    simp only [go_sem,seval]
    refine tcE (hdeep) ?_
    simp only [go_sem,seval]
    exact .same ⟨rfl, rfl⟩
   ·simp only [go_sem,seval, hk]
    refine tcE (eM h [] false (by simp)) ?_
    simp only [go_sem,seval, p1, ge_iff_le]
    refine tcE (hdeep) ?_
    simp only [go_sem,seval]
    exact .same ⟨rfl, rfl⟩
  ·simp at p1 p2 p3 p4
   subst p2 p3 p4
   simp only [List.map_nil] at hdeep
   by_cases hk : k = 0
   ·subst hk
    simp only [go_sem,seval]
    refine tcE (eM h [] false (by simp)) ?_
    simp only [go_sem,seval]
    refine tcE (hdeep) ?_
    simp only [go_sem,seval]
    exact .same ⟨rfl, rfl⟩
   ·have hk1 : k = 1 := by omega
    subst hk1
    simp only [go_sem,seval]
    refine tcE (eM h [] false (by simp)) ?_
    simp only [go_sem,seval]
    refine tcE (hdeep) ?_
    simp only [go_sem,seval]
    exact .same ⟨rfl, rfl⟩
  ·simp at p1 p2 p3 p4
   subst p2 p3 p4
   simp only [List.map_nil] at hdeep
   by_cases hk : k = 0
   ·subst hk
    simp only [go_sem,seval]
    refine tcE (eM h [] false (by simp)) ?_
    simp only [go_sem,seval]
    refine tcE (hdeep) ?_
    simp only [go_sem,seval]
    exact .same ⟨rfl, rfl⟩
   ·simp only [go_sem,seval, hk]
    refine tcE (eM h [] false (by simp)) ?_
    simp only [go_sem,seval, p1.1, p1.2, ge_iff_le]
    refine tcE (hdeep) ?_
    simp only [go_sem,seval]
    exact .same ⟨rfl, rfl⟩
  ·simp at p1 p2 p3 p4
   subst p1 p3 p4
   simp only [List.map_nil] at hdeep
   have hne := wY p2
   simp only [go_sem,seval, hne]
   refine tcE (eM h [] false (by simp)) ?_
   simp only [go_sem,seval]
   refine tcE (fL hm h name p2) ?_
   simp only [go_sem,seval]
   refine tcE (hdeep) ?_
   simp only [go_sem,seval]
   exact .same ⟨rfl, rfl⟩
  ·simp at p1 p2 p3 p4
   subst p1 p3
   have hlen : ((l.length : Int) = 1) = True := by simpa using p4
   have hne := wY p2
   simp only [go_sem,seval, hne]
   refine tcE (eM h (l.map aO) false (by simpa using hl)) ?_
   simp only [go_sem,seval]
   refine tcE (fL hm h name p2) ?_
   simp only [go_sem,seval, List.length_map, hlen]
   refine tcE (hdeep) ?_
   simp only [go_sem,seval]
   exact .same ⟨rfl, rfl⟩
  ·simp at p1 p2 p3 p4
   subst p1 p4
   simp only [List.map_nil] at hdeep
   have hne := wY p2
   have hnf := wY p3
   simp only [go_sem,seval, hne, hnf]
   refine tcE (eM h [] false (by simp)) ?_
   simp only [go_sem,seval]
   refine tcE (fL hm h name p2) ?_
   simp only [go_sem,seval]
   refine tcE (fL hm h field p3) ?_
   simp only [go_sem,seval]
   refine tcE (hdeep) ?_
   simp only [go_sem,seval]
   exact .same ⟨rfl, rfl⟩
  ·simp at p1 p2 p3
   subst p1 p3
   have hne := wY p2
   have hcall := XF hm h 7 0 name noBytes l hl (by omega) p2 (fun x hx => (hmem x hx).2) hx
   simp only [aO, qH] at hcall
   simp only [go_sem,seval, hne]
   refine tcE (eM h (l.map aO) false (by simpa using hl)) ?_
   simp only [go_sem,seval]
   refine tcE (hcall) ?_
   simp only [go_sem,seval]
   exact .same ⟨rfl, rfl⟩
  ·simp at p1 p2 p3 p4
   subst p1 p2 p3
   have hlen : ((l.length : Int) = 1) = True := by simpa using p4
   simp only [go_sem,seval]
   refine tcE (eM h (l.map aO) false (by simpa using hl)) ?_
   simp only [go_sem,seval, List.length_map, hlen]
   refine tcE (hdeep) ?_
   simp only [go_sem,seval]
   exact .same ⟨rfl, rfl⟩
  ·simp at p1 p2 p3 p4
   subst p1 p2 p3
   have hlen : ((l.length : Int) = 1) = True := by simpa using p4
   simp only [go_sem,seval]
   refine tcE (eM h (l.map aO) false (by simpa using hl)) ?_
   simp only [go_sem,seval, List.length_map, hlen]
   refine tcE (hdeep) ?_
   simp only [go_sem,seval]
   exact .same ⟨rfl, rfl⟩
  ·have e1 : (op = 1) = False := by simp; omega
   have e2 : (op = 2) = False := by simp; omega
   have e3 : (op = 3) = False := by simp; omega
   have e4 : (op = 4) = False := by simp; omega
   have e5 : (op = 5) = False := by simp; omega
   have e6 : (op = 6) = False := by simp; omega
   have e7 : (op = 7) = False := by simp; omega
   have e8 : (op = 8) = False := by simp; omega
   have e9 : (op = 9) = False := by simp; omega
   have e10 : (op ≤ 7) = False := by simp; omega
   have e11 : (op ≤ 3) = False := by simp; omega
   have e12 : (op ≥ 4) = True := by simp; omega
   have e13 : (op ≥ 1) = True := by simp; omega
   have e14 : (op ≥ 10) = True := by simp; omega
   have e15 : (op ≤ 24) = True := by simp; omega
   have e16 : (4 ≤ op ∧ op ≤ 7) = False := by simp; omega
   simp [e1, e2, e3, e5, e6, e7, e8, e9, e16, h10, ByteArray.ext_iff] at p1 p2 p3 p4
   have hn : name = noBytes := ByteArray.ext p2
   have hfd : field = noBytes := ByteArray.ext p3
   subst p1 hn hfd
   have hlen : ((l.length : Int) = 2) = True := by simp; omega
   simp only [go_sem,seval, e10, e11, e12, e13]
   refine tcE (eM h (l.map aO) false (by simpa using hl)) ?_
   simp only [go_sem,seval, e1, e2, e3, e4, e5, e6, e7, e8, e9, e14, e15, List.length_map, hlen]
   refine tcE (hdeep) ?_
   simp only [go_sem,seval]
   exact .same ⟨rfl, rfl⟩
end Pg.Tc

namespace Pg.Tc
open Go Go.Proofs.Tryz
set_option linter.all false
set_option maxHeartbeats 4000000
set_option maxRecDepth 4000
theorem kR [GI] (hm : Spc0) (h : AHeap) (x : Expr) (hx : nK x = true) : aD prog 164 [tcA, .agg (aO x)] h (fun v g => v = .int .i64 (iA x) ∧ g = h) :=
 I5 hm h 48 x (QW hx).1 (QW hx).2
theorem T8 [GI] (hm : Spc0) (h : AHeap) (x : Expr) (hx : j6 x = true) : aD prog 162 [tcA, .agg (aO x)] h (fun v g => v = .bool true ∧ g = h) := by
 simp only [j6, Bool.and_eq_true, decide_eq_true_eq] at hx
 obtain ⟨⟨h4, h6⟩, hx⟩ := hx
 have he := kR hm h x hx
 have hpos : ((iA x : Int) > 0) = True := by have := jV x; simp; omega
 obtain ⟨op, k, name, field, l⟩ := x
 simp only at h4 h6
 refine SI.calls (by simp) ?_
 delta SI.c0
 simp only [aO] at he ⊢
 rcases (by omega : op = 4 ∨ op = 5 ∨ op = 6) with rfl | rfl | rfl
 all_goals
  simp only [go_sem,seval]
  refine tcE (he) ?_
  simp only [go_sem,seval, hpos]
  exact .same ⟨rfl, rfl⟩
theorem LC [GI] (h : AHeap) (f : AV) : aD prog 200 [.sl [] false, .sl [] true, f] h (fun v g => v = .bool true ∧ g = h) := by
 refine RV.calls (by simp) ?_
 delta RV.c0
 simp only [go_sem,seval]
 refine qE (fun n e g => g = h ∧ e = [(16, .int .i64 0), (17, .int .i64 0)]) 0 (aF.env ?_) ⟨rfl, rfl⟩ ?_
 ·simp only [go_sem,seval]
 ·rintro n e g ⟨rfl, rfl⟩
  simp only [go_sem,seval]
  refine aM.same ?_
  simp only [go_sem,seval]
  exact .same ⟨rfl, rfl⟩
theorem XE [GI] (h : AHeap) (x : Expr) (hx : kN x = true) : aD prog 163 [.agg (aO x)] h (fun v g => v = .bool true ∧ g = h) := by
 obtain ⟨op, k, name, field, l⟩ := x
 simp only [kN, Bool.and_eq_true, decide_eq_true_eq] at hx
 obtain ⟨⟨⟨⟨rfl, rfl⟩, rfl⟩, rfl⟩, hl⟩ := hx
 have : l = [] := List.eq_nil_of_length_eq_zero hl
 subst this
 have hs : aD prog 183 [.agg [.int .i64 0, .int .i64 0, .str noBytes, .str noBytes, .sl [] false], .agg [.int .i64 0, .int .i64 0, .str noBytes, .str noBytes, .sl [] true]] h (fun v g => v = .bool true ∧ g = h) := by
  refine R5.calls (by simp) ?_
  delta R5.c0
  simp only [go_sem,seval]
  refine tcE (LC h _) ?_
  simp only [go_sem,seval]
  exact .same ⟨rfl, rfl⟩
 refine SH.calls (by simp) ?_
 delta SH.c0
 simp only [aO, xS]
 simp only [go_sem,seval]
 refine tcE (hs) ?_
 simp only [go_sem,seval]
 exact .same ⟨rfl, rfl⟩
def nT (op : Int) : List AV :=
 if op = 1 then [.bool true, .bool false, .bool false, .int .i64 1, .int .i64 1] else
 if op = 2 ∨ op = 8 then [.bool false, .bool false, .bool false, .int .i64 1, .int .i64 1] else
 if op = 3 ∨ op = 4 ∨ op = 5 then [.bool false, .bool false, .bool true, .int .i64 1, .int .i64 1] else
 if op = 6 then [.bool false, .bool true, .bool true, .int .i64 2, .int .i64 2] else
 if op = 7 then [.bool true, .bool false, .bool false, .int .i64 0, .int .i64 0] else
 [.bool false, .bool false, .bool false, .int .i64 0, .int .i64 1]
theorem T7 [GI] (h : AHeap) (op : Int) (h1 : 1 ≤ op) (h9 : op ≤ 9) : aD prog 161 [.int .i64 op] h (fun v g => v = .tuple [.agg (nT op), .bool true] ∧ g = h) := by
 refine SJ.calls (by simp) ?_
 delta SJ.c0
 rcases (by omega : op = 1 ∨ op = 2 ∨ op = 3 ∨ op = 4 ∨ op = 5 ∨ op = 6 ∨ op = 7 ∨ op = 8 ∨ op = 9) with rfl | rfl | rfl | rfl | rfl | rfl | rfl | rfl | rfl
 all_goals
  simp only [go_sem,seval]
  refine aS fun p hp => ?_
  simp only [go_sem,seval, aA, aB]
  exact .forget (AHeap.b8 hp) ⟨by simp [nT], rfl⟩
theorem XC [GI] (hm : Spc0) (h : AHeap) (x : Stmt) (d : Int) (hd : d ≤ 48) (hd0 : 0 ≤ d) (h1 : fB x = true) (hb : aD prog 71 [tcA, .sl (x.body.map bA) false, .int .i64 (d + 1)] h (fun v g => v = .bool true ∧ g = h))
  (he : aD prog 71 [tcA, .sl (x.els.map bA) false, .int .i64 (d + 1)] h (fun v g => v = .bool true ∧ g = h)) : aD prog 122 [tcA, .agg (bA x), .int .i64 d] h (fun v g => v = .bool true ∧ g = h) := by
 simp only [fB, Bool.and_eq_true] at h1
 obtain ⟨⟨⟨⟨⟨⟨s1, s2⟩, s3⟩, s4⟩, s5⟩, s6⟩, s7⟩ := h1
 obtain ⟨before, aP, op, name, p, e, down, more, body, els, cO, cT⟩ := x
 simp only [wZ, iH, Bool.and_eq_true, decide_eq_true_eq] at s1
 obtain ⟨⟨⟨⟨⟨n1, n2⟩, n3⟩, n4⟩, o1⟩, o9⟩ := s1
 simp only [lW, Bool.and_eq_true, decide_eq_true_eq] at s2
 simp only [List.all_eq_true] at s3
 have hw : IntKind.i64.wrap (d + 1) = d + 1 := wrap64 (by omega) (by omega)
 have hd48 : (d > 48) = False := by simp; omega
 have hsh := T7 h op o1 o9
 have hnotes : aD prog 64 [.sl [[aE before], [aE aP], [aE cO], [aE cT]] true] h (fun v g => v = .bool true ∧ g = h) := oT h [before, aP, cO, cT] true (by simp) (by simp [n1, n2, n3, n4])
 have hwe : Pg.few e := by
  have := s2.2
  unfold Pg.few
  split at this
  ·omega
  ·split at this <;> omega
 have hplace : j6 p = true → aD prog 162 [tcA, .agg [.int .i64 p.op, .int .i64 p.n, .str p.name, .str p.field, .sl (p.l.map aO) false]] h (fun v g => v = .bool true ∧ g = h) := fun hp => by
  have := T8 hm h p hp; rwa [cF] at this
 have hnone : kN p = true → aD prog 163 [.agg [.int .i64 p.op, .int .i64 p.n, .str p.name, .str p.field, .sl (p.l.map aO) false]] h (fun v g => v = .bool true ∧ g = h) := fun hp => by
  have := XE h p hp; rwa [cF] at this
 refine TE.calls (by simp) ?_
 delta TE.c0
 rw [dO]
 simp only at hb he ⊢
 rcases (by omega : op = 1 ∨ op = 2 ∨ op = 3 ∨ op = 4 ∨ op = 5 ∨ op = 6 ∨ op = 7 ∨ op = 8 ∨ op = 9) with rfl | rfl | rfl | rfl | rfl | rfl | rfl | rfl | rfl
 ·have hp : j6 p = true := by simpa [iR] using s4
  have hn : name = noBytes ∧ down = false := by simpa [nL] using s5
  obtain ⟨rfl, rfl⟩ := hn
  have hmo : more = false ∧ els = [] ∧ cT = [] := by cases more <;> first | (simp [jN] at s6; done) | simpa [jN] using s6
  obtain ⟨rfl, rfl, rfl⟩ := hmo
  have hbo : body = [] ∧ cO = [] := by simpa [tV] using s7
  obtain ⟨rfl, rfl⟩ := hbo
  simp only [Int.reduceEq, if_true, if_false] at s2
  have hlt : ((e.length : Int) < 1) = False := by simp only [eq_iff_iff, iff_false]; omega
  have hgt : ((e.length : Int) > 1) = False := by simp only [eq_iff_iff, iff_false]; omega
  simp only [aE] at hnotes ⊢
  simp only [go_sem,seval]
  refine tcE (hsh) ?_
  simp only [go_sem,seval, nT, hd48]
  refine tcE (hnotes) ?_
  simp only [go_sem,seval]
  refine tcE (hplace hp) ?_
  simp only [go_sem,seval, List.length_map, hlt, hgt]
  refine aX e (fun pre post v g => g = h ∧ v = [(2, .int .i64 d), (3, .ip [.int .i64 0] 0), (4, .ip [aE before, aE aP, .int .i64 1, .str noBytes, .int .i64 p.op, .int .i64 p.n, .str p.name, .str p.field, .sl (p.l.map aO) false, .sl (e.map aO) false, .bool false, .bool false, .sl ([].map bA) false, .sl ([].map bA) false, aE [], aE []] 0), (145, .sl (e.map aO) false), (146, .int .i64 e.length), (147, .int .i64 pre.length)]) (aF.env ?_) ⟨rfl, rfl⟩ ?_ ?_
  ·simp only [go_sem,seval, aE]
  ·rintro pre y post v g hy ⟨rfl, rfl⟩
   have hyx := s3 y (bJ hy)
   simp only [fV, Bool.and_eq_true] at hyx
   have hex := kR hm g y hyx.1
   rw [cF] at hex
   have h0 : ((iA y : Int) = 0) = False := by have := jV y; simp only [eq_iff_iff, iff_false]; omega
   have ha : aia 5 (.sl (e.map aO) false) (.int .i64 pre.length) = some (.ip [.int .i64 y.op, .int .i64 y.n, .str y.name, .str y.field, .sl (y.l.map aO) false] 0) := by rw [← cF]; exact aI (aK hy) (aR y)
   simp only [go_sem,seval, bI hy, ha]
   refine tcE (hex) ?_
   simp only [go_sem,seval, h0]
   refine ⟨_, _, aF.env ?_, rfl, rfl⟩
   ·simp only [go_sem,seval, aQ hwe hy, aE]
  ·rintro v g ⟨rfl, rfl⟩
   simp only [go_sem,seval, bE]
   refine aM.same ?_
   simp only [go_sem,seval, hw]
   refine tcE (hb) ?_
   simp only [go_sem,seval, hw]
   refine tcE (he) ?_
   simp only [go_sem,seval]
   exact .same ⟨rfl, rfl⟩
 ·have hp : kN p = true := by simpa [iR] using s4
  have hn : name = noBytes ∧ down = false := by simpa [nL] using s5
  obtain ⟨rfl, rfl⟩ := hn
  have hmo : more = false ∧ els = [] ∧ cT = [] := by cases more <;> first | (simp [jN] at s6; done) | simpa [jN] using s6
  obtain ⟨rfl, rfl, rfl⟩ := hmo
  have hbo : body = [] ∧ cO = [] := by simpa [tV] using s7
  obtain ⟨rfl, rfl⟩ := hbo
  simp only [Int.reduceEq, if_true, if_false] at s2
  have hlt : ((e.length : Int) < 1) = False := by simp only [eq_iff_iff, iff_false]; omega
  have hgt : ((e.length : Int) > 1) = False := by simp only [eq_iff_iff, iff_false]; omega
  simp only [aE] at hnotes ⊢
  simp only [go_sem,seval]
  refine tcE (hsh) ?_
  simp only [go_sem,seval, nT, hd48]
  refine tcE (hnotes) ?_
  simp only [go_sem,seval]
  refine tcE (hnone hp) ?_
  simp only [go_sem,seval, List.length_map, hlt, hgt]
  refine aX e (fun pre post v g => g = h ∧ v = [(2, .int .i64 d), (3, .ip [.int .i64 0] 0), (4, .ip [aE before, aE aP, .int .i64 2, .str noBytes, .int .i64 p.op, .int .i64 p.n, .str p.name, .str p.field, .sl (p.l.map aO) false, .sl (e.map aO) false, .bool false, .bool false, .sl ([].map bA) false, .sl ([].map bA) false, aE [], aE []] 0), (145, .sl (e.map aO) false), (146, .int .i64 e.length), (147, .int .i64 pre.length)]) (aF.env ?_) ⟨rfl, rfl⟩ ?_ ?_
  ·simp only [go_sem,seval, aE]
  ·rintro pre y post v g hy ⟨rfl, rfl⟩
   have hyx := s3 y (bJ hy)
   simp only [fV, Bool.and_eq_true] at hyx
   have hex := kR hm g y hyx.1
   rw [cF] at hex
   have h0 : ((iA y : Int) = 0) = False := by have := jV y; simp only [eq_iff_iff, iff_false]; omega
   have ha : aia 5 (.sl (e.map aO) false) (.int .i64 pre.length) = some (.ip [.int .i64 y.op, .int .i64 y.n, .str y.name, .str y.field, .sl (y.l.map aO) false] 0) := by rw [← cF]; exact aI (aK hy) (aR y)
   simp only [go_sem,seval, bI hy, ha]
   refine tcE (hex) ?_
   have h7 : (y.op = 7) = True := by simpa using hyx.2
   simp only [go_sem,seval, h0, h7]
   refine ⟨_, _, aF.env ?_, rfl, rfl⟩
   ·simp only [go_sem,seval, aQ hwe hy, aE]
  ·rintro v g ⟨rfl, rfl⟩
   simp only [go_sem,seval, bE]
   refine aM.same ?_
   simp only [go_sem,seval, hw]
   refine tcE (hb) ?_
   simp only [go_sem,seval, hw]
   refine tcE (he) ?_
   simp only [go_sem,seval]
   exact .same ⟨rfl, rfl⟩
 ·have hp : kN p = true := by simpa [iR] using s4
  have hn : name = noBytes ∧ down = false := by simpa [nL] using s5
  obtain ⟨rfl, rfl⟩ := hn
  simp only [Int.reduceEq, if_true, if_false] at s2
  have hlt : ((e.length : Int) < 1) = False := by simp only [eq_iff_iff, iff_false]; omega
  have hgt : ((e.length : Int) > 1) = False := by simp only [eq_iff_iff, iff_false]; omega
  cases more with
  | true =>
   simp only [aE] at hnotes ⊢
   simp only [go_sem,seval]
   refine tcE (hsh) ?_
   simp only [go_sem,seval, nT, hd48]
   refine tcE (hnotes) ?_
   simp only [go_sem,seval]
   refine tcE (hnone hp) ?_
   simp only [go_sem,seval, List.length_map, hlt, hgt]
   refine aX e (fun pre post v g => g = h ∧ v = [(2, .int .i64 d), (3, .ip [.int .i64 0] 0), (4, .ip [aE before, aE aP, .int .i64 3, .str noBytes, .int .i64 p.op, .int .i64 p.n, .str p.name, .str p.field, .sl (p.l.map aO) false, .sl (e.map aO) false, .bool false, .bool true, .sl (body.map bA) false, .sl (els.map bA) false, aE cO, aE cT] 0), (145, .sl (e.map aO) false), (146, .int .i64 e.length), (147, .int .i64 pre.length)]) (aF.env ?_) ⟨rfl, rfl⟩ ?_ ?_
   ·simp only [go_sem,seval, aE]
   ·rintro pre y post v g hy ⟨rfl, rfl⟩
    have hyx := s3 y (bJ hy)
    simp only [fV, Bool.and_eq_true] at hyx
    have hex := kR hm g y hyx.1
    rw [cF] at hex
    have h0 : ((iA y : Int) = 0) = False := by have := jV y; simp only [eq_iff_iff, iff_false]; omega
    have ha : aia 5 (.sl (e.map aO) false) (.int .i64 pre.length) = some (.ip [.int .i64 y.op, .int .i64 y.n, .str y.name, .str y.field, .sl (y.l.map aO) false] 0) := by rw [← cF]; exact aI (aK hy) (aR y)
    simp only [go_sem,seval, bI hy, ha]
    refine tcE (hex) ?_
    simp only [go_sem,seval, h0]
    refine ⟨_, _, aF.env ?_, rfl, rfl⟩
    ·simp only [go_sem,seval, aQ hwe hy, aE]
   ·rintro v g ⟨rfl, rfl⟩
    simp only [go_sem,seval, bE]
    refine aM.same ?_
    simp only [go_sem,seval, hw]
    refine tcE (hb) ?_
    simp only [go_sem,seval, hw]
    refine tcE (he) ?_
    simp only [go_sem,seval]
    exact .same ⟨rfl, rfl⟩
  | false =>
   have hmo : els = [] ∧ cT = [] := by simpa [jN] using s6
   obtain ⟨rfl, rfl⟩ := hmo
   simp only [aE] at hnotes ⊢
   simp only [go_sem,seval]
   refine tcE (hsh) ?_
   simp only [go_sem,seval, nT, hd48]
   refine tcE (hnotes) ?_
   simp only [go_sem,seval]
   refine tcE (hnone hp) ?_
   simp only [go_sem,seval, List.length_map, hlt, hgt]
   refine aX e (fun pre post v g => g = h ∧ v = [(2, .int .i64 d), (3, .ip [.int .i64 0] 0), (4, .ip [aE before, aE aP, .int .i64 3, .str noBytes, .int .i64 p.op, .int .i64 p.n, .str p.name, .str p.field, .sl (p.l.map aO) false, .sl (e.map aO) false, .bool false, .bool false, .sl (body.map bA) false, .sl ([].map bA) false, aE cO, aE []] 0), (145, .sl (e.map aO) false), (146, .int .i64 e.length), (147, .int .i64 pre.length)]) (aF.env ?_) ⟨rfl, rfl⟩ ?_ ?_
   ·simp only [go_sem,seval, aE]
   ·rintro pre y post v g hy ⟨rfl, rfl⟩
    have hyx := s3 y (bJ hy)
    simp only [fV, Bool.and_eq_true] at hyx
    have hex := kR hm g y hyx.1
    rw [cF] at hex
    have h0 : ((iA y : Int) = 0) = False := by have := jV y; simp only [eq_iff_iff, iff_false]; omega
    have ha : aia 5 (.sl (e.map aO) false) (.int .i64 pre.length) = some (.ip [.int .i64 y.op, .int .i64 y.n, .str y.name, .str y.field, .sl (y.l.map aO) false] 0) := by rw [← cF]; exact aI (aK hy) (aR y)
    simp only [go_sem,seval, bI hy, ha]
    refine tcE (hex) ?_
    simp only [go_sem,seval, h0]
    refine ⟨_, _, aF.env ?_, rfl, rfl⟩
    ·simp only [go_sem,seval, aQ hwe hy, aE]
   ·rintro v g ⟨rfl, rfl⟩
    simp only [go_sem,seval, bE]
    refine aM.same ?_
    simp only [go_sem,seval, hw]
    refine tcE (hb) ?_
    simp only [go_sem,seval, hw]
    refine tcE (he) ?_
    simp only [go_sem,seval]
    exact .same ⟨rfl, rfl⟩
 ·have hp : kN p = true := by simpa [iR] using s4
  have hn : name = noBytes ∧ down = false := by simpa [nL] using s5
  obtain ⟨rfl, rfl⟩ := hn
  have hmo : more = false ∧ els = [] ∧ cT = [] := by cases more <;> first | (simp [jN] at s6; done) | simpa [jN] using s6
  obtain ⟨rfl, rfl, rfl⟩ := hmo
  simp only [Int.reduceEq, if_true, if_false] at s2
  have hlt : ((e.length : Int) < 1) = False := by simp only [eq_iff_iff, iff_false]; omega
  have hgt : ((e.length : Int) > 1) = False := by simp only [eq_iff_iff, iff_false]; omega
  simp only [aE] at hnotes ⊢
  simp only [go_sem,seval]
  refine tcE (hsh) ?_
  simp only [go_sem,seval, nT, hd48]
  refine tcE (hnotes) ?_
  simp only [go_sem,seval]
  refine tcE (hnone hp) ?_
  simp only [go_sem,seval, List.length_map, hlt, hgt]
  refine aX e (fun pre post v g => g = h ∧ v = [(2, .int .i64 d), (3, .ip [.int .i64 0] 0), (4, .ip [aE before, aE aP, .int .i64 4, .str noBytes, .int .i64 p.op, .int .i64 p.n, .str p.name, .str p.field, .sl (p.l.map aO) false, .sl (e.map aO) false, .bool false, .bool false, .sl (body.map bA) false, .sl ([].map bA) false, aE cO, aE []] 0), (145, .sl (e.map aO) false), (146, .int .i64 e.length), (147, .int .i64 pre.length)]) (aF.env ?_) ⟨rfl, rfl⟩ ?_ ?_
  ·simp only [go_sem,seval, aE]
  ·rintro pre y post v g hy ⟨rfl, rfl⟩
   have hyx := s3 y (bJ hy)
   simp only [fV, Bool.and_eq_true] at hyx
   have hex := kR hm g y hyx.1
   rw [cF] at hex
   have h0 : ((iA y : Int) = 0) = False := by have := jV y; simp only [eq_iff_iff, iff_false]; omega
   have ha : aia 5 (.sl (e.map aO) false) (.int .i64 pre.length) = some (.ip [.int .i64 y.op, .int .i64 y.n, .str y.name, .str y.field, .sl (y.l.map aO) false] 0) := by rw [← cF]; exact aI (aK hy) (aR y)
   simp only [go_sem,seval, bI hy, ha]
   refine tcE (hex) ?_
   simp only [go_sem,seval, h0]
   refine ⟨_, _, aF.env ?_, rfl, rfl⟩
   ·simp only [go_sem,seval, aQ hwe hy, aE]
  ·rintro v g ⟨rfl, rfl⟩
   simp only [go_sem,seval, bE]
   refine aM.same ?_
   simp only [go_sem,seval, hw]
   refine tcE (hb) ?_
   simp only [go_sem,seval, hw]
   refine tcE (he) ?_
   simp only [go_sem,seval]
   exact .same ⟨rfl, rfl⟩
 ·have hp : kN p = true := by simpa [iR] using s4
  have hn : name = noBytes ∧ down = false := by simpa [nL] using s5
  obtain ⟨rfl, rfl⟩ := hn
  have hmo : more = false ∧ els = [] ∧ cT = [] := by cases more <;> first | (simp [jN] at s6; done) | simpa [jN] using s6
  obtain ⟨rfl, rfl, rfl⟩ := hmo
  simp only [Int.reduceEq, if_true, if_false] at s2
  have hlt : ((e.length : Int) < 1) = False := by simp only [eq_iff_iff, iff_false]; omega
  have hgt : ((e.length : Int) > 1) = False := by simp only [eq_iff_iff, iff_false]; omega
  simp only [aE] at hnotes ⊢
  simp only [go_sem,seval]
  refine tcE (hsh) ?_
  simp only [go_sem,seval, nT, hd48]
  refine tcE (hnotes) ?_
  simp only [go_sem,seval]
  refine tcE (hnone hp) ?_
  simp only [go_sem,seval, List.length_map, hlt, hgt]
  refine aX e (fun pre post v g => g = h ∧ v = [(2, .int .i64 d), (3, .ip [.int .i64 0] 0), (4, .ip [aE before, aE aP, .int .i64 5, .str noBytes, .int .i64 p.op, .int .i64 p.n, .str p.name, .str p.field, .sl (p.l.map aO) false, .sl (e.map aO) false, .bool false, .bool false, .sl (body.map bA) false, .sl ([].map bA) false, aE cO, aE []] 0), (145, .sl (e.map aO) false), (146, .int .i64 e.length), (147, .int .i64 pre.length)]) (aF.env ?_) ⟨rfl, rfl⟩ ?_ ?_
  ·simp only [go_sem,seval, aE]
  ·rintro pre y post v g hy ⟨rfl, rfl⟩
   have hyx := s3 y (bJ hy)
   simp only [fV, Bool.and_eq_true] at hyx
   have hex := kR hm g y hyx.1
   rw [cF] at hex
   have h0 : ((iA y : Int) = 0) = False := by have := jV y; simp only [eq_iff_iff, iff_false]; omega
   have ha : aia 5 (.sl (e.map aO) false) (.int .i64 pre.length) = some (.ip [.int .i64 y.op, .int .i64 y.n, .str y.name, .str y.field, .sl (y.l.map aO) false] 0) := by rw [← cF]; exact aI (aK hy) (aR y)
   simp only [go_sem,seval, bI hy, ha]
   refine tcE (hex) ?_
   simp only [go_sem,seval, h0]
   refine ⟨_, _, aF.env ?_, rfl, rfl⟩
   ·simp only [go_sem,seval, aQ hwe hy, aE]
  ·rintro v g ⟨rfl, rfl⟩
   simp only [go_sem,seval, bE]
   refine aM.same ?_
   simp only [go_sem,seval, hw]
   refine tcE (hb) ?_
   simp only [go_sem,seval, hw]
   refine tcE (he) ?_
   simp only [go_sem,seval]
   exact .same ⟨rfl, rfl⟩
 ·have hp : kN p = true := by simpa [iR] using s4
  have hn : dK name = true := by simpa [nL] using s5
  have hmo : more = false ∧ els = [] ∧ cT = [] := by cases more <;> first | (simp [jN] at s6; done) | simpa [jN] using s6
  obtain ⟨rfl, rfl, rfl⟩ := hmo
  simp only [Int.reduceEq, if_true, if_false] at s2
  have hlt : ((e.length : Int) < 2) = False := by simp only [eq_iff_iff, iff_false]; omega
  have hgt : ((e.length : Int) > 2) = False := by simp only [eq_iff_iff, iff_false]; omega
  cases down with
  | true =>
   simp only [aE] at hnotes ⊢
   simp only [go_sem,seval]
   refine tcE (hsh) ?_
   simp only [go_sem,seval, nT, hd48]
   refine tcE (hnotes) ?_
   simp only [go_sem,seval]
   refine tcE (hnone hp) ?_
   simp only [go_sem,seval]
   refine tcE (fL hm h name hn) ?_
   simp only [go_sem,seval, List.length_map, hlt, hgt]
   refine aX e (fun pre post v g => g = h ∧ v = [(2, .int .i64 d), (3, .ip [.int .i64 0] 0), (4, .ip [aE before, aE aP, .int .i64 6, .str name, .int .i64 p.op, .int .i64 p.n, .str p.name, .str p.field, .sl (p.l.map aO) false, .sl (e.map aO) false, .bool true, .bool false, .sl (body.map bA) false, .sl ([].map bA) false, aE cO, aE []] 0), (145, .sl (e.map aO) false), (146, .int .i64 e.length), (147, .int .i64 pre.length)]) (aF.env ?_) ⟨rfl, rfl⟩ ?_ ?_
   ·simp only [go_sem,seval, aE]
   ·rintro pre y post v g hy ⟨rfl, rfl⟩
    have hyx := s3 y (bJ hy)
    simp only [fV, Bool.and_eq_true] at hyx
    have hex := kR hm g y hyx.1
    rw [cF] at hex
    have h0 : ((iA y : Int) = 0) = False := by have := jV y; simp only [eq_iff_iff, iff_false]; omega
    have ha : aia 5 (.sl (e.map aO) false) (.int .i64 pre.length) = some (.ip [.int .i64 y.op, .int .i64 y.n, .str y.name, .str y.field, .sl (y.l.map aO) false] 0) := by rw [← cF]; exact aI (aK hy) (aR y)
    simp only [go_sem,seval, bI hy, ha]
    refine tcE (hex) ?_
    simp only [go_sem,seval, h0]
    refine ⟨_, _, aF.env ?_, rfl, rfl⟩
    ·simp only [go_sem,seval, aQ hwe hy, aE]
   ·rintro v g ⟨rfl, rfl⟩
    simp only [go_sem,seval, bE]
    refine aM.same ?_
    simp only [go_sem,seval, hw]
    refine tcE (hb) ?_
    simp only [go_sem,seval, hw]
    refine tcE (he) ?_
    simp only [go_sem,seval]
    exact .same ⟨rfl, rfl⟩
  | false =>
   simp only [aE] at hnotes ⊢
   simp only [go_sem,seval]
   refine tcE (hsh) ?_
   simp only [go_sem,seval, nT, hd48]
   refine tcE (hnotes) ?_
   simp only [go_sem,seval]
   refine tcE (hnone hp) ?_
   simp only [go_sem,seval]
   refine tcE (fL hm h name hn) ?_
   simp only [go_sem,seval, List.length_map, hlt, hgt]
   refine aX e (fun pre post v g => g = h ∧ v = [(2, .int .i64 d), (3, .ip [.int .i64 0] 0), (4, .ip [aE before, aE aP, .int .i64 6, .str name, .int .i64 p.op, .int .i64 p.n, .str p.name, .str p.field, .sl (p.l.map aO) false, .sl (e.map aO) false, .bool false, .bool false, .sl (body.map bA) false, .sl ([].map bA) false, aE cO, aE []] 0), (145, .sl (e.map aO) false), (146, .int .i64 e.length), (147, .int .i64 pre.length)]) (aF.env ?_) ⟨rfl, rfl⟩ ?_ ?_
   ·simp only [go_sem,seval, aE]
   ·rintro pre y post v g hy ⟨rfl, rfl⟩
    have hyx := s3 y (bJ hy)
    simp only [fV, Bool.and_eq_true] at hyx
    have hex := kR hm g y hyx.1
    rw [cF] at hex
    have h0 : ((iA y : Int) = 0) = False := by have := jV y; simp only [eq_iff_iff, iff_false]; omega
    have ha : aia 5 (.sl (e.map aO) false) (.int .i64 pre.length) = some (.ip [.int .i64 y.op, .int .i64 y.n, .str y.name, .str y.field, .sl (y.l.map aO) false] 0) := by rw [← cF]; exact aI (aK hy) (aR y)
    simp only [go_sem,seval, bI hy, ha]
    refine tcE (hex) ?_
    simp only [go_sem,seval, h0]
    refine ⟨_, _, aF.env ?_, rfl, rfl⟩
    ·simp only [go_sem,seval, aQ hwe hy, aE]
   ·rintro v g ⟨rfl, rfl⟩
    simp only [go_sem,seval, bE]
    refine aM.same ?_
    simp only [go_sem,seval, hw]
    refine tcE (hb) ?_
    simp only [go_sem,seval, hw]
    refine tcE (he) ?_
    simp only [go_sem,seval]
    exact .same ⟨rfl, rfl⟩
 ·have hp : j6 p = true := by simpa [iR] using s4
  have hn : name = noBytes ∧ down = false := by simpa [nL] using s5
  obtain ⟨rfl, rfl⟩ := hn
  have hmo : more = false ∧ els = [] ∧ cT = [] := by cases more <;> first | (simp [jN] at s6; done) | simpa [jN] using s6
  obtain ⟨rfl, rfl, rfl⟩ := hmo
  have hbo : body = [] ∧ cO = [] := by simpa [tV] using s7
  obtain ⟨rfl, rfl⟩ := hbo
  simp only [Int.reduceEq, if_true, if_false] at s2
  have hlt : ((e.length : Int) < 0) = False := by simp only [eq_iff_iff, iff_false]; omega
  have hgt : ((e.length : Int) > 0) = False := by simp only [eq_iff_iff, iff_false]; omega
  simp only [aE] at hnotes ⊢
  simp only [go_sem,seval]
  refine tcE (hsh) ?_
  simp only [go_sem,seval, nT, hd48]
  refine tcE (hnotes) ?_
  simp only [go_sem,seval]
  refine tcE (hplace hp) ?_
  simp only [go_sem,seval, List.length_map, hlt, hgt]
  refine aX e (fun pre post v g => g = h ∧ v = [(2, .int .i64 d), (3, .ip [.int .i64 0] 0), (4, .ip [aE before, aE aP, .int .i64 7, .str noBytes, .int .i64 p.op, .int .i64 p.n, .str p.name, .str p.field, .sl (p.l.map aO) false, .sl (e.map aO) false, .bool false, .bool false, .sl ([].map bA) false, .sl ([].map bA) false, aE [], aE []] 0), (145, .sl (e.map aO) false), (146, .int .i64 e.length), (147, .int .i64 pre.length)]) (aF.env ?_) ⟨rfl, rfl⟩ ?_ ?_
  ·simp only [go_sem,seval, aE]
  ·rintro pre y post v g hy ⟨rfl, rfl⟩
   have hyx := s3 y (bJ hy)
   simp only [fV, Bool.and_eq_true] at hyx
   have hex := kR hm g y hyx.1
   rw [cF] at hex
   have h0 : ((iA y : Int) = 0) = False := by have := jV y; simp only [eq_iff_iff, iff_false]; omega
   have ha : aia 5 (.sl (e.map aO) false) (.int .i64 pre.length) = some (.ip [.int .i64 y.op, .int .i64 y.n, .str y.name, .str y.field, .sl (y.l.map aO) false] 0) := by rw [← cF]; exact aI (aK hy) (aR y)
   simp only [go_sem,seval, bI hy, ha]
   refine tcE (hex) ?_
   simp only [go_sem,seval, h0]
   refine ⟨_, _, aF.env ?_, rfl, rfl⟩
   ·simp only [go_sem,seval, aQ hwe hy, aE]
  ·rintro v g ⟨rfl, rfl⟩
   simp only [go_sem,seval, bE]
   refine aM.same ?_
   simp only [go_sem,seval, hw]
   refine tcE (hb) ?_
   simp only [go_sem,seval, hw]
   refine tcE (he) ?_
   simp only [go_sem,seval]
   exact .same ⟨rfl, rfl⟩
 ·have hp : kN p = true := by simpa [iR] using s4
  have hn : name = noBytes ∧ down = false := by simpa [nL] using s5
  obtain ⟨rfl, rfl⟩ := hn
  have hmo : more = false ∧ els = [] ∧ cT = [] := by cases more <;> first | (simp [jN] at s6; done) | simpa [jN] using s6
  obtain ⟨rfl, rfl, rfl⟩ := hmo
  have hbo : body = [] ∧ cO = [] := by simpa [tV] using s7
  obtain ⟨rfl, rfl⟩ := hbo
  simp only [Int.reduceEq, if_true, if_false] at s2
  have hlt : ((e.length : Int) < 1) = False := by simp only [eq_iff_iff, iff_false]; omega
  have hgt : ((e.length : Int) > 1) = False := by simp only [eq_iff_iff, iff_false]; omega
  simp only [aE] at hnotes ⊢
  simp only [go_sem,seval]
  refine tcE (hsh) ?_
  simp only [go_sem,seval, nT, hd48]
  refine tcE (hnotes) ?_
  simp only [go_sem,seval]
  refine tcE (hnone hp) ?_
  simp only [go_sem,seval, List.length_map, hlt, hgt]
  refine aX e (fun pre post v g => g = h ∧ v = [(2, .int .i64 d), (3, .ip [.int .i64 0] 0), (4, .ip [aE before, aE aP, .int .i64 8, .str noBytes, .int .i64 p.op, .int .i64 p.n, .str p.name, .str p.field, .sl (p.l.map aO) false, .sl (e.map aO) false, .bool false, .bool false, .sl ([].map bA) false, .sl ([].map bA) false, aE [], aE []] 0), (145, .sl (e.map aO) false), (146, .int .i64 e.length), (147, .int .i64 pre.length)]) (aF.env ?_) ⟨rfl, rfl⟩ ?_ ?_
  ·simp only [go_sem,seval, aE]
  ·rintro pre y post v g hy ⟨rfl, rfl⟩
   have hyx := s3 y (bJ hy)
   simp only [fV, Bool.and_eq_true] at hyx
   have hex := kR hm g y hyx.1
   rw [cF] at hex
   have h0 : ((iA y : Int) = 0) = False := by have := jV y; simp only [eq_iff_iff, iff_false]; omega
   have ha : aia 5 (.sl (e.map aO) false) (.int .i64 pre.length) = some (.ip [.int .i64 y.op, .int .i64 y.n, .str y.name, .str y.field, .sl (y.l.map aO) false] 0) := by rw [← cF]; exact aI (aK hy) (aR y)
   simp only [go_sem,seval, bI hy, ha]
   refine tcE (hex) ?_
   simp only [go_sem,seval, h0]
   refine ⟨_, _, aF.env ?_, rfl, rfl⟩
   ·simp only [go_sem,seval, aQ hwe hy, aE]
  ·rintro v g ⟨rfl, rfl⟩
   simp only [go_sem,seval, bE]
   refine aM.same ?_
   simp only [go_sem,seval, hw]
   refine tcE (hb) ?_
   simp only [go_sem,seval, hw]
   refine tcE (he) ?_
   simp only [go_sem,seval]
   exact .same ⟨rfl, rfl⟩
 ·have hp : kN p = true := by simpa [iR] using s4
  have hn : name = noBytes ∧ down = false := by simpa [nL] using s5
  obtain ⟨rfl, rfl⟩ := hn
  have hmo : more = false ∧ els = [] ∧ cT = [] := by cases more <;> first | (simp [jN] at s6; done) | simpa [jN] using s6
  obtain ⟨rfl, rfl, rfl⟩ := hmo
  have hbo : body = [] ∧ cO = [] := by simpa [tV] using s7
  obtain ⟨rfl, rfl⟩ := hbo
  simp only [Int.reduceEq, if_true, if_false] at s2
  have hlt : ((e.length : Int) < 0) = False := by simp only [eq_iff_iff, iff_false]; omega
  have hgt : ((e.length : Int) > 1) = False := by simp only [eq_iff_iff, iff_false]; omega
  simp only [aE] at hnotes ⊢
  simp only [go_sem,seval]
  refine tcE (hsh) ?_
  simp only [go_sem,seval, nT, hd48]
  refine tcE (hnotes) ?_
  simp only [go_sem,seval]
  refine tcE (hnone hp) ?_
  simp only [go_sem,seval, List.length_map, hlt, hgt]
  refine aX e (fun pre post v g => g = h ∧ v = [(2, .int .i64 d), (3, .ip [.int .i64 0] 0), (4, .ip [aE before, aE aP, .int .i64 9, .str noBytes, .int .i64 p.op, .int .i64 p.n, .str p.name, .str p.field, .sl (p.l.map aO) false, .sl (e.map aO) false, .bool false, .bool false, .sl ([].map bA) false, .sl ([].map bA) false, aE [], aE []] 0), (145, .sl (e.map aO) false), (146, .int .i64 e.length), (147, .int .i64 pre.length)]) (aF.env ?_) ⟨rfl, rfl⟩ ?_ ?_
  ·simp only [go_sem,seval, aE]
  ·rintro pre y post v g hy ⟨rfl, rfl⟩
   have hyx := s3 y (bJ hy)
   simp only [fV, Bool.and_eq_true] at hyx
   have hex := kR hm g y hyx.1
   rw [cF] at hex
   have h0 : ((iA y : Int) = 0) = False := by have := jV y; simp only [eq_iff_iff, iff_false]; omega
   have ha : aia 5 (.sl (e.map aO) false) (.int .i64 pre.length) = some (.ip [.int .i64 y.op, .int .i64 y.n, .str y.name, .str y.field, .sl (y.l.map aO) false] 0) := by rw [← cF]; exact aI (aK hy) (aR y)
   simp only [go_sem,seval, bI hy, ha]
   refine tcE (hex) ?_
   simp only [go_sem,seval, h0]
   refine ⟨_, _, aF.env ?_, rfl, rfl⟩
   ·simp only [go_sem,seval, aQ hwe hy, aE]
  ·rintro v g ⟨rfl, rfl⟩
   simp only [go_sem,seval, bE]
   refine aM.same ?_
   simp only [go_sem,seval, hw]
   refine tcE (hb) ?_
   simp only [go_sem,seval, hw]
   refine tcE (he) ?_
   simp only [go_sem,seval]
   exact .same ⟨rfl, rfl⟩
end Pg.Tc

namespace Pg.Tc
open Go Go.Proofs.Tryz
set_option linter.all false
set_option maxHeartbeats 4000000
set_option maxRecDepth 4000
theorem K6 [GI] {h : AHeap} {full : Bool} (l : List Var) (hw : Pg.few l) (fid : Nat) (first captured : List AV) (p : Var → Bool) (hc : eD prog fid = true)
  (hf : ∀ x ∈ l, aD prog fid (first ++ [.agg (dF x)] ++ captured) h (fun v g => v = .bool (p x) ∧ g = h)) :
  aD prog 157 [.sl (l.map dF) full, .func (.func fid) first captured] h (fun v g => v = .int .i64 (match l.findIdx? p with | some i => i | none => -1) ∧ g = h) := by
 refine SM.calls (by simp) ?_
 delta SM.c0
 simp only [go_sem,seval, List.length_map]
 refine aX l (fun pre post e g => (∀ x ∈ pre, p x = false) ∧ g = h ∧ e = [(0, .sl (l.map dF) full), (1, .func (.func fid) first captured), (7, .int .i64 l.length), (8, .int .i64 pre.length)]) (aF.env ?_) ⟨by simp, rfl, rfl⟩ ?_ ?_
 ·simp only [go_sem,seval]
 ·rintro pre x post e g hl ⟨hp, rfl, rfl⟩
  simp only [go_sem,seval, bI hl, aI (aK hl) (eO x)]
  refine ⟨hc, aW (hf x (bJ hl)) (fun v k ⟨hv, hk⟩ => ?_)⟩
  subst hv hk
  cases hpx : p x with
  | true =>
   simp only [go_sem,seval]
   refine aM.same ?_
   simp only [go_sem,seval]
   refine .same ⟨?_, rfl⟩
   have : l.findIdx? p = some pre.length := by
    subst hl
    rw [List.findIdx?_append, List.findIdx?_eq_none_iff.2 (by simpa using hp)]
    simp [List.findIdx?_cons, hpx]
   rw [this]
  | false =>
   simp only [go_sem,seval]
   refine ⟨_, _, aF.env ?_, ?_, rfl, rfl⟩
   ·simp only [go_sem,seval, aQ hw hl]
   ·intro y hy
    rcases List.mem_append.1 hy with hy | hy
    ·exact hp y hy
    ·simp at hy; subst hy; exact hpx
 ·rintro e g ⟨hp, rfl, rfl⟩
  simp only [go_sem,seval, bE]
  refine aM.same ?_
  simp only [go_sem,seval]
  refine .same ⟨?_, rfl⟩
  rw [List.findIdx?_eq_none_iff.2 (by simpa using hp)]
theorem E1 [GI] {h : AHeap} {full : Bool} (l : List Var) (hw : Pg.few l) (fid : Nat) (first captured : List AV) (p : Var → Bool) (hc : eD prog fid = true)
  (hf : ∀ x ∈ l, aD prog fid (first ++ [.agg (dF x)] ++ captured) h (fun v g => v = .bool (p x) ∧ g = h)) :
  aD prog 111 [.sl (l.map dF) full, .func (.func fid) first captured] h (fun v g => v = .bool (l.any p) ∧ g = h) := by
 refine TO.calls (by simp) ?_
 delta TO.c0
 simp only [go_sem,seval]
 refine aW (K6 l hw fid first captured p hc hf) (fun v k ⟨hv, hk⟩ => ?_)
 generalize hn : (match l.findIdx? p with | some i => (i : Int) | none => -1) = n at hv
 subst hv hk
 simp only [go_sem,seval]
 refine .same ⟨?_, rfl⟩
 congr 1
 subst hn
 cases hi : l.findIdx? p with
 | none =>
  have := List.findIdx?_eq_none_iff.1 hi
  simp only [ge_iff_le]
  rw [List.any_eq_false.2 (by simpa using this)]; rfl
 | some i =>
  obtain ⟨h1, h2, _⟩ := List.findIdx?_eq_some_iff_getElem.1 hi
  rw [List.any_eq_true.2 ⟨l[i], List.getElem_mem h1, h2⟩]
  simp
theorem K9 [GI] {h : AHeap} {full : Bool} (l : List Fld) (hw : Pg.few l) (fid : Nat) (first captured : List AV) (p : Fld → Bool) (hc : eD prog fid = true)
  (hf : ∀ x ∈ l, aD prog fid (first ++ [.agg (eFld x)] ++ captured) h (fun v g => v = .bool (p x) ∧ g = h)) :
  aD prog 156 [.sl (l.map eFld) full, .func (.func fid) first captured] h (fun v g => v = .int .i64 (match l.findIdx? p with | some i => i | none => -1) ∧ g = h) := by
 refine SN.calls (by simp) ?_
 delta SN.c0
 simp only [go_sem,seval, List.length_map]
 refine aX l (fun pre post e g => (∀ x ∈ pre, p x = false) ∧ g = h ∧ e = [(0, .sl (l.map eFld) full), (1, .func (.func fid) first captured), (7, .int .i64 l.length), (8, .int .i64 pre.length)]) (aF.env ?_) ⟨by simp, rfl, rfl⟩ ?_ ?_
 ·simp only [go_sem,seval]
 ·rintro pre x post e g hl ⟨hp, rfl, rfl⟩
  simp only [go_sem,seval, bI hl, aI (aK hl) (eC x)]
  refine ⟨hc, aW (hf x (bJ hl)) (fun v k ⟨hv, hk⟩ => ?_)⟩
  subst hv hk
  cases hpx : p x with
  | true =>
   simp only [go_sem,seval]
   refine aM.same ?_
   simp only [go_sem,seval]
   refine .same ⟨?_, rfl⟩
   have : l.findIdx? p = some pre.length := by
    subst hl
    rw [List.findIdx?_append, List.findIdx?_eq_none_iff.2 (by simpa using hp)]
    simp [List.findIdx?_cons, hpx]
   rw [this]
  | false =>
   simp only [go_sem,seval]
   refine ⟨_, _, aF.env ?_, ?_, rfl, rfl⟩
   ·simp only [go_sem,seval, aQ hw hl]
   ·intro y hy
    rcases List.mem_append.1 hy with hy | hy
    ·exact hp y hy
    ·simp at hy; subst hy; exact hpx
 ·rintro e g ⟨hp, rfl, rfl⟩
  simp only [go_sem,seval, bE]
  refine aM.same ?_
  simp only [go_sem,seval]
  refine .same ⟨?_, rfl⟩
  rw [List.findIdx?_eq_none_iff.2 (by simpa using hp)]
theorem E2 [GI] {h : AHeap} {full : Bool} (l : List Fld) (hw : Pg.few l) (fid : Nat) (first captured : List AV) (p : Fld → Bool) (hc : eD prog fid = true)
  (hf : ∀ x ∈ l, aD prog fid (first ++ [.agg (eFld x)] ++ captured) h (fun v g => v = .bool (p x) ∧ g = h)) :
  aD prog 107 [.sl (l.map eFld) full, .func (.func fid) first captured] h (fun v g => v = .bool (l.any p) ∧ g = h) := by
 refine TT.calls (by simp) ?_
 delta TT.c0
 simp only [go_sem,seval]
 refine aW (K9 l hw fid first captured p hc hf) (fun v k ⟨hv, hk⟩ => ?_)
 generalize hn : (match l.findIdx? p with | some i => (i : Int) | none => -1) = n at hv
 subst hv hk
 simp only [go_sem,seval]
 refine .same ⟨?_, rfl⟩
 congr 1
 subst hn
 cases hi : l.findIdx? p with
 | none =>
  have := List.findIdx?_eq_none_iff.1 hi
  simp only [ge_iff_le]
  rw [List.any_eq_false.2 (by simpa using this)]; rfl
 | some i =>
  obtain ⟨h1, h2, _⟩ := List.findIdx?_eq_some_iff_getElem.1 hi
  rw [List.any_eq_true.2 ⟨l[i], List.getElem_mem h1, h2⟩]
  simp
theorem LA [GI] {h : AHeap} {full : Bool} (l : List Rec) (hw : Pg.few l) (fid : Nat) (first captured : List AV) (p : Rec → Bool) (hc : eD prog fid = true)
  (hf : ∀ x ∈ l, aD prog fid (first ++ [.agg (eB x)] ++ captured) h (fun v g => v = .bool (p x) ∧ g = h)) :
  aD prog 105 [.sl (l.map eB) full, .func (.func fid) first captured] h (fun v g => v = .int .i64 (match l.findIdx? p with | some i => i | none => -1) ∧ g = h) := by
 refine TV.calls (by simp) ?_
 delta TV.c0
 simp only [go_sem,seval, List.length_map]
 refine aX l (fun pre post e g => (∀ x ∈ pre, p x = false) ∧ g = h ∧ e = [(0, .sl (l.map eB) full), (1, .func (.func fid) first captured), (7, .int .i64 l.length), (8, .int .i64 pre.length)]) (aF.env ?_) ⟨by simp, rfl, rfl⟩ ?_ ?_
 ·simp only [go_sem,seval]
 ·rintro pre x post e g hl ⟨hp, rfl, rfl⟩
  simp only [go_sem,seval, bI hl, aI (aK hl) (dG x)]
  refine ⟨hc, aW (hf x (bJ hl)) (fun v k ⟨hv, hk⟩ => ?_)⟩
  subst hv hk
  cases hpx : p x with
  | true =>
   simp only [go_sem,seval]
   refine aM.same ?_
   simp only [go_sem,seval]
   refine .same ⟨?_, rfl⟩
   have : l.findIdx? p = some pre.length := by
    subst hl
    rw [List.findIdx?_append, List.findIdx?_eq_none_iff.2 (by simpa using hp)]
    simp [List.findIdx?_cons, hpx]
   rw [this]
  | false =>
   simp only [go_sem,seval]
   refine ⟨_, _, aF.env ?_, ?_, rfl, rfl⟩
   ·simp only [go_sem,seval, aQ hw hl]
   ·intro y hy
    rcases List.mem_append.1 hy with hy | hy
    ·exact hp y hy
    ·simp at hy; subst hy; exact hpx
 ·rintro e g ⟨hp, rfl, rfl⟩
  simp only [go_sem,seval, bE]
  refine aM.same ?_
  simp only [go_sem,seval]
  refine .same ⟨?_, rfl⟩
  rw [List.findIdx?_eq_none_iff.2 (by simpa using hp)]
theorem E4 [GI] {h : AHeap} {full : Bool} (l : List Rec) (hw : Pg.few l) (fid : Nat) (first captured : List AV) (p : Rec → Bool) (hc : eD prog fid = true)
  (hf : ∀ x ∈ l, aD prog fid (first ++ [.agg (eB x)] ++ captured) h (fun v g => v = .bool (p x) ∧ g = h)) :
  aD prog 66 [.sl (l.map eB) full, .func (.func fid) first captured] h (fun v g => v = .bool (l.any p) ∧ g = h) := by
 refine F66.calls (by simp) ?_
 delta F66.c0
 simp only [go_sem,seval]
 refine aW (LA l hw fid first captured p hc hf) (fun v k ⟨hv, hk⟩ => ?_)
 generalize hn : (match l.findIdx? p with | some i => (i : Int) | none => -1) = n at hv
 subst hv hk
 simp only [go_sem,seval]
 refine .same ⟨?_, rfl⟩
 congr 1
 subst hn
 cases hi : l.findIdx? p with
 | none =>
  have := List.findIdx?_eq_none_iff.1 hi
  simp only [ge_iff_le]
  rw [List.any_eq_false.2 (by simpa using this)]; rfl
 | some i =>
  obtain ⟨h1, h2, _⟩ := List.findIdx?_eq_some_iff_getElem.1 hi
  rw [List.any_eq_true.2 ⟨l[i], List.getElem_mem h1, h2⟩]
  simp
theorem C6 [GI] (h : AHeap) (l : List Stmt) (f : Bool) (hl : l.length ≤ 512) (d : Int) (hx : ∀ x ∈ l, aD prog 122 [tcA, .agg (bA x), .int .i64 d] h (fun v g => v = .bool true ∧ g = h)) :
  aD prog 71 [tcA, .sl (l.map bA) f, .int .i64 d] h (fun v g => v = .bool true ∧ g = h) := by
 have hw : Pg.few l := by unfold Pg.few; omega
 have hc : ∀ x ∈ l, aD prog 121 ([] ++ [.agg (bA x)] ++ [.ip [.int .i64 0] 0, .ip [.int .i64 d] 0]) h (fun v g => v = .bool false ∧ g = h) := by
  intro x hxl
  have h1 := hx x hxl
  rw [dO] at h1
  simp only [List.nil_append, List.singleton_append]
  refine TF.calls (by simp) ?_
  delta TF.c0
  rw [dO]
  simp only [go_sem,seval]
  refine tcE (h1) ?_
  simp only [go_sem,seval]
  exact .same ⟨rfl, rfl⟩
 refine F71.calls (by simp) ?_
 delta F71.c0
 simp only [go_sem,seval]
 refine tcE (OP h (l.map bA) f (by simpa using hl)) ?_
 simp only [go_sem,seval]
 refine aW (pX l hw 121 [] [.ip [.int .i64 0] 0, .ip [.int .i64 d] 0] (fun _ => false) (by kernel_rfl) hc) fun v g ⟨hv, hg⟩ => ?_
 have hany : l.any (fun _ => false) = false := by simp
 rw [hany] at hv
 subst hv hg
 simp only [go_sem,seval]
 exact .same ⟨rfl, rfl⟩
mutual
theorem XD [GI] (hm : Spc0) (h : AHeap) : ∀ (x : Stmt) (d : Int), nJ x d = true → 0 ≤ d → aD prog 122 [tcA, .agg (bA x), .int .i64 d] h (fun v g => v = .bool true ∧ g = h)
 | ⟨before, aP, op, name, p, e, down, more, body, els, cO, cT⟩, d, hs, h0 => by
  simp only [nJ, Bool.and_eq_true, decide_eq_true_eq] at hs
  obtain ⟨⟨⟨hd, h1⟩, hb, hbl⟩, he, hel⟩ := hs
  exact XC hm h _ d hd h0 h1 (C6 h body false hbl (d + 1) (vM hm h body (d + 1) hb (by omega))) (C6 h els false hel (d + 1) (vM hm h els (d + 1) he (by omega)))
theorem vM [GI] (hm : Spc0) (h : AHeap) : ∀ (l : List Stmt) (d : Int), dA l d = true → 0 ≤ d → ∀ x ∈ l, aD prog 122 [tcA, .agg (bA x), .int .i64 d] h (fun v g => v = .bool true ∧ g = h)
 | [], d, hs, h0, x, hx => by cases hx
 | y :: r, d, hs, h0, x, hx => by
  simp only [dA, Bool.and_eq_true] at hs
  rcases List.mem_cons.1 hx with e | hx
  ·rw [e]; exact XD hm h y d hs.1 h0
  ·exact vM hm h r d hs.2 h0 x hx
end
theorem oS [GI] (hm : Spc0) (h : AHeap) (l : List Stmt) (d : Int) (hs : dA l d = true) (h0 : 0 ≤ d) (hl : l.length ≤ 512) : aD prog 71 [tcA, .sl (l.map bA) false, .int .i64 d] h (fun v g => v = .bool true ∧ g = h) :=
 C6 h l false hl d (vM hm h l d hs h0)
theorem AO [GI] (hm : Spc0) (h : AHeap) (l : List Var) (hv : jM l = true) : aD prog 69 [tcA, .sl (l.map dF) false] h (fun v g => v = .bool true ∧ g = h) := by
 simp only [jM, Bool.and_eq_true, List.all_eq_true, decide_eq_true_eq] at hv
 have hw : Pg.few l := by unfold Pg.few; omega
 have hc : ∀ x ∈ l, aD prog 112 ([] ++ [.agg (dF x)] ++ [.ip [.int .i64 0] 0]) h (fun v g => v = .bool false ∧ g = h) := by
  intro x hxl
  have hx := hv.1 x hxl
  simp only [tG, iH, Bool.and_eq_true] at hx
  obtain ⟨⟨⟨n1, n2⟩, hn⟩, ht⟩ := hx
  have hnotes : aD prog 64 [.sl [[aE x.before], [aE x.aP]] true] h (fun v g => v = .bool true ∧ g = h) := oT h [x.before, x.aP] true (by simp) (by simp [n1, n2])
  have htyp := ML hm h x.t ht
  simp only [List.nil_append, List.singleton_append]
  refine TN.calls (by simp) ?_
  delta TN.c0
  simp only [dF, aE, bV] at hnotes htyp ⊢
  simp only [go_sem,seval]
  refine tcE (hnotes) ?_
  simp only [go_sem,seval]
  refine tcE (fL hm h x.name hn) ?_
  simp only [go_sem,seval]
  refine tcE (htyp) ?_
  simp only [go_sem,seval]
  exact .same ⟨rfl, rfl⟩
 refine F69.calls (by simp) ?_
 delta F69.c0
 simp only [go_sem,seval]
 refine tcE (QT h (l.map dF) false (by simpa using hv.2)) ?_
 simp only [go_sem,seval]
 refine aW (E1 l hw 112 [] [.ip [.int .i64 0] 0] (fun _ => false) (by kernel_rfl) hc) fun v g ⟨hv, hg⟩ => ?_
 have hany : l.any (fun _ => false) = false := by simp
 rw [hany] at hv
 subst hv hg
 simp only [go_sem,seval]
 exact .same ⟨rfl, rfl⟩
theorem Z8 [GI] (hm : Spc0) (h : AHeap) (x : Rec) (hr : jX x = true) : aD prog 68 [tcA, .agg (eB x)] h (fun v g => v = .bool true ∧ g = h) := by
 simp only [jX, iH, Bool.and_eq_true, List.all_eq_true, decide_eq_true_eq, Bool.not_eq_true', decide_eq_false_iff_not] at hr
 obtain ⟨⟨⟨⟨⟨⟨n1, n2⟩, n3⟩, hn⟩, h0⟩, hl⟩, hf⟩ := hr
 have hw : Pg.few x.fields := by unfold Pg.few; omega
 have hc : ∀ y ∈ x.fields, aD prog 108 ([] ++ [.agg (eFld y)] ++ [.ip [.int .i64 0] 0]) h (fun v g => v = .bool false ∧ g = h) := by
  intro y hy
  have hx := hf y hy
  simp only [qK, iH, Bool.and_eq_true, decide_eq_true_eq] at hx
  obtain ⟨⟨⟨⟨n1, n2⟩, hn⟩, hk1⟩, hk3⟩ := hx
  have hnotes : aD prog 64 [.sl [[aE y.before], [aE y.aP]] true] h (fun v g => v = .bool true ∧ g = h) := oT h [y.before, y.aP] true (by simp) (by simp [n1, n2])
  simp only [List.nil_append, List.singleton_append]
  refine TS.calls (by simp) ?_
  delta TS.c0
  simp only [eFld, aE] at hnotes ⊢
  simp only [go_sem,seval]
  refine tcE (hnotes) ?_
  simp only [go_sem,seval]
  refine tcE (fL hm h y.name hn) ?_
  simp only [go_sem,seval]
  refine tcE (AR h y.kind hk1 hk3) ?_
  simp only [go_sem,seval]
  exact .same ⟨rfl, rfl⟩
 have hnotes : aD prog 64 [.sl [[aE x.before], [aE x.aP], [aE x.bT]] true] h (fun v g => v = .bool true ∧ g = h) := oT h [x.before, x.aP, x.bT] true (by simp) (by simp [n1, n2, n3])
 have hpos : ((x.fields.length : Int) > 0) = True := by simp only [eq_iff_iff, iff_true]; omega
 refine F68.calls (by simp) ?_
 delta F68.c0
 simp only [eB, aE] at hnotes ⊢
 simp only [go_sem,seval]
 refine tcE (hnotes) ?_
 simp only [go_sem,seval]
 refine tcE (fL hm h x.name hn) ?_
 simp only [go_sem,seval]
 refine tcE (MB h (x.fields.map eFld) false (by simpa using hl)) ?_
 simp only [go_sem,seval, List.length_map, hpos]
 refine aW (E2 x.fields hw 108 [] [.ip [.int .i64 0] 0] (fun _ => false) (by kernel_rfl) hc) fun v g ⟨hv, hg⟩ => ?_
 have hany : x.fields.any (fun _ => false) = false := by simp
 rw [hany] at hv
 subst hv hg
 simp only [go_sem,seval]
 exact .same ⟨rfl, rfl⟩
theorem C8 [GI] (hm : Spc0) (h : AHeap) (l : List Param) (hp : eJ l = true) : aD prog 118 [tcA, .sl (l.map c7) false] h (fun v g => v = .bool true ∧ g = h) := by
 simp only [eJ, Bool.and_eq_true, List.all_eq_true, decide_eq_true_eq] at hp
 have hw : Pg.few l := by unfold Pg.few; omega
 refine TI.calls (by simp) ?_
 delta TI.c0
 simp only [go_sem,seval, List.length_map]
 refine aX l (fun pre post v g => g = h ∧ v = [(1, .sl (l.map c7) false), (2, .ip [.int .i64 0] 0), (5, .bool false), (8, .sl (l.map c7) false), (9, .int .i64 l.length), (10, .int .i64 pre.length)]) (aF.env ?_) ⟨rfl, rfl⟩ ?_ ?_
 ·simp only [go_sem,seval]
 ·rintro pre y post v g hy ⟨rfl, rfl⟩
  have hx := hp.1 y (bJ hy)
  simp only [dZ, Bool.and_eq_true, Bool.not_eq_true', decide_eq_true_eq, Bool.and_eq_false_iff, Bool.or_eq_false_iff, decide_eq_false_iff_not] at hx
  obtain ⟨⟨⟨⟨hn, ht⟩, hm0⟩, hm1⟩, hby⟩ := hx
  have htyp := ML hm g y.t ht
  simp only [bV] at htyp
  have e1 : (y.mode < 0) = False := by simp only [eq_iff_iff, iff_false]; omega
  have e2 : (y.mode > 2) = False := by simp only [eq_iff_iff, iff_false]; omega
  have e3 : (y.mode = 2) = False := by simp only [eq_iff_iff, iff_false]; omega
  have ha : aia 5 (.sl (l.map c7) false) (.int .i64 pre.length) = some (.ip [.str y.name, .int .i64 y.t.kind, .int .i64 y.t.size, .str y.t.name, .int .i64 y.mode] 0) := aI (aK hy) (bP y)
  simp only [go_sem,seval, bI hy, ha]
  refine tcE (fL hm g y.name hn) ?_
  simp only [go_sem,seval]
  refine tcE (htyp) ?_
  simp only [go_sem,seval, e1, e2]
  by_cases h0 : y.mode = 0
  ·have hs0 : (y.t.size > 0) = False := by simp only [eq_iff_iff, iff_false]; simp [h0] at hby; omega
   have hk4 : (y.t.kind = 4) = False := by simp only [eq_iff_iff, iff_false]; simp [h0] at hby; omega
   simp only [go_sem,seval, h0, hs0, hk4, e3]
   refine ⟨_, _, aF.env ?_, rfl, rfl⟩
   ·simp only [go_sem,seval, aQ hw hy]
  ·simp only [go_sem,seval, h0, e3]
   refine ⟨_, _, aF.env ?_, rfl, rfl⟩
   ·simp only [go_sem,seval, aQ hw hy]
 ·rintro v g ⟨rfl, rfl⟩
  simp only [go_sem,seval, bE]
  refine aM.same ?_
  simp only [go_sem,seval]
  refine tcE (MA g (l.map c7) false (by simpa using hp.2)) ?_
  simp only [go_sem,seval]
  exact .same ⟨rfl, rfl⟩
end Pg.Tc

namespace Pg.Tc
open Go Go.Proofs.Tryz
set_option linter.all false
set_option maxHeartbeats 4000000
set_option maxRecDepth 4000
abbrev OV (r : Routine) : AV × AV := (.str r.name, .bool true)
theorem M3 (n : ByteArray) : ∀ l : List Routine, (∀ r ∈ l, r.name ≠ n) → s9 [2] (.str n) (l.map OV) = some none
 | [], _ => rfl
 | r :: l, h => by
  have h1 : ¬ n = r.name := fun e => h r (by simp) e.symm
  simp only [List.map_cons, s9, oI, l9, h1, decide_false]
  exact M3 n l (fun r hr => h r (by simp [hr]))
theorem PK (n : ByteArray) : ∀ l : List Routine, (∀ r ∈ l, r.name ≠ n) → tR [2] (.str n) (.bool true) (l.map OV) = some (l.map OV ++ [(.str n, .bool true)])
 | [], _ => rfl
 | r :: l, h => by
  have h1 : ¬ n = r.name := fun e => h r (by simp) e.symm
  simp only [List.map_cons, tR, oI, l9, h1, decide_false]
  rw [PK n l (fun r hr => h r (by simp [hr]))]
  rfl
theorem C7 : ∀ (pre : List Routine) (x : Routine) (post : List Routine) (ahead : List ByteArray) (d : Int), bN ahead (pre ++ x :: post) d = true → gC (ahead ++ pre.map (·.name)) x d = true
 | [], x, post, ahead, d, h => by
  simp only [List.nil_append, bN, Bool.and_eq_true] at h
  simpa using h.1
 | y :: pre, x, post, ahead, d, h => by
  simp only [List.cons_append, bN, Bool.and_eq_true] at h
  have := C7 pre x post _ d h.2
  simpa using this
theorem x7 {l pre post : List Routine} {x : Routine} {d : Int} (h : bN [] l d = true) (hl : l = pre ++ x :: post) : ∀ r ∈ pre, r.name ≠ x.name := by
 subst hl
 have := C7 pre x post [] d h
 obtain ⟨before, aP, name, result, params, vars, inner, body, bT⟩ := x
 simp only [gC, List.nil_append, Bool.and_eq_true, Bool.not_eq_true'] at this
 have ha : fY name (pre.map (·.name)) = false := by obtain ⟨⟨⟨⟨⟨_, h⟩, _⟩, _⟩, _⟩, _⟩ := this; exact h
 intro r hr e
 have : fY name (pre.map (·.name)) = true := List.any_eq_true.2 ⟨r.name, List.mem_map_of_mem hr, by simpa using e⟩
 rw [ha] at this; cases this
theorem T9 [GI] (h : AHeap) (l : List Routine) (hw : Pg.few l) (hd : ∀ pre x post, l = pre ++ x :: post → ∀ r ∈ pre, r.name ≠ x.name) : aD prog 115 [.sl (l.map aU) false] h (fun v g => v = .bool true ∧ g = h) := by
 refine TK.calls (by simp) ?_
 delta TK.c0
 simp only [go_sem,seval]
 refine aS fun m hm0 => ?_
 simp only [go_sem,seval, List.length_map]
 refine aX l (fun pre post v g => g = h.upd m (.mp (pre.map OV)) ∧ v = [(3, .map (some m)), (7, .sl (l.map aU) false), (8, .int .i64 l.length), (9, .int .i64 pre.length)]) (aF.env ?_) ⟨rfl, rfl⟩ ?_ ?_
 ·simp only [go_sem,seval]
 ·rintro pre y post v g hy ⟨rfl, rfl⟩
  have hfr := hd pre y post hy
  have hf := M3 y.name pre hfr
  have hs := PK y.name pre hfr
  have ha : aia 9 (.sl (l.map aU) false) (.int .i64 pre.length) = some (.ip [aE y.before, aE y.aP, .str y.name, .int .i64 y.result, .sl (y.params.map c7) false, .sl (y.vars.map dF) false, .sl (y.inner.map aU) false, .sl (y.body.map bA) false, aE y.bT] 0) := by rw [← dX]; exact aI (aK hy) (bL y)
  simp only [go_sem,seval, bI hy, ha, tS, pU, mM, aA, hf]
  refine rS (aA _ _ _) hs rfl ?_
  simp only [go_sem,seval]
  refine ⟨_, _, aF.env ?_, ?_, rfl⟩
  ·simp only [go_sem,seval, aQ hw hy]
  ·rw [aB, List.map_append]; rfl
 ·rintro v g ⟨rfl, rfl⟩
  simp only [go_sem,seval, bE]
  refine aM.same ?_
  simp only [go_sem,seval]
  exact .forget (AHeap.b8 hm0) ⟨rfl, rfl⟩
theorem OF [GI] (hm : Spc0) (h : AHeap) (ahead : List ByteArray) (x : Routine) (d : Int) (hd0 : 0 ≤ d) (hr : gC ahead x d = true) (hi : aD prog 70 [tcA, .sl (x.inner.map aU) false, .int .i64 (d + 1)] h (fun v g => v = .bool true ∧ g = h)) :
  aD prog 116 ([] ++ [.agg (aU x)] ++ [.ip [.int .i64 d] 0, .ip [.int .i64 0] 0]) h (fun v g => v = .bool false ∧ g = h) := by
 obtain ⟨before, aP, name, result, params, vars, inner, body, bT⟩ := x
 simp only [gC, iH, Bool.and_eq_true, decide_eq_true_eq] at hr
 obtain ⟨⟨⟨⟨⟨⟨⟨⟨⟨⟨hd, n1, n2⟩, n3⟩, hn⟩, r0⟩, r3⟩, _⟩, hp⟩, hv⟩, hin, hil⟩, hb, hbl⟩ := hr
 have hw : IntKind.i64.wrap (d + 1) = d + 1 := wrap64 (by omega) (by omega)
 have hd48 : (d > 48) = False := by simp only [eq_iff_iff, iff_false]; omega
 have hnotes : aD prog 64 [.sl [[aE before], [aE aP], [aE bT]] true] h (fun v g => v = .bool true ∧ g = h) := oT h [before, aP, bT] true (by simp) (by simp [n1, n2, n3])
 simp only [List.nil_append, List.singleton_append]
 refine TJ.calls (by simp) ?_
 delta TJ.c0
 rw [dX]
 simp only [aE] at hnotes hi ⊢
 simp only [go_sem,seval, hd48]
 refine tcE (hnotes) ?_
 simp only [go_sem,seval]
 refine tcE (zO hm h name hn) ?_
 by_cases hr0 : result = 0
 ·subst hr0
  simp only [go_sem,seval]
  refine tcE (C8 hm h params hp) ?_
  simp only [go_sem,seval]
  refine tcE (AO hm h vars hv) ?_
  simp only [go_sem,seval, hw]
  refine tcE (hi) ?_
  simp only [go_sem,seval]
  refine tcE (oS hm h body 1 hb (by omega) hbl) ?_
  simp only [go_sem,seval]
  exact .same ⟨rfl, rfl⟩
 ·simp only [go_sem,seval, hr0]
  refine tcE (AR h result (by omega) r3) ?_
  simp only [go_sem,seval]
  refine tcE (C8 hm h params hp) ?_
  simp only [go_sem,seval]
  refine tcE (AO hm h vars hv) ?_
  simp only [go_sem,seval, hw]
  refine tcE (hi) ?_
  simp only [go_sem,seval]
  refine tcE (oS hm h body 1 hb (by omega) hbl) ?_
  simp only [go_sem,seval]
  exact .same ⟨rfl, rfl⟩
theorem pI [GI] (h : AHeap) (l : List Routine) (hl : l.length ≤ 512) (d : Int) (hd : ∀ pre x post, l = pre ++ x :: post → ∀ r ∈ pre, r.name ≠ x.name)
  (hx : ∀ x ∈ l, aD prog 116 ([] ++ [.agg (aU x)] ++ [.ip [.int .i64 d] 0, .ip [.int .i64 0] 0]) h (fun v g => v = .bool false ∧ g = h)) :
  aD prog 70 [tcA, .sl (l.map aU) false, .int .i64 d] h (fun v g => v = .bool true ∧ g = h) := by
 have hw : Pg.few l := by unfold Pg.few; omega
 refine F70.calls (by simp) ?_
 delta F70.c0
 simp only [go_sem,seval]
 refine tcE (IJ h (l.map aU) false (by simpa using hl)) ?_
 simp only [go_sem,seval]
 refine tcE (T9 h l hw hd) ?_
 simp only [go_sem,seval]
 refine aW (uY l hw 116 [] [.ip [.int .i64 d] 0, .ip [.int .i64 0] 0] (fun _ => false) (by kernel_rfl) hx) fun v g ⟨hv, hg⟩ => ?_
 have hany : l.any (fun _ => false) = false := by simp
 rw [hany] at hv
 subst hv hg
 simp only [go_sem,seval]
 exact .same ⟨rfl, rfl⟩
mutual
theorem OG [GI] (hm : Spc0) (h : AHeap) : ∀ (x : Routine) (ahead : List ByteArray) (d : Int), gC ahead x d = true → 0 ≤ d → aD prog 116 ([] ++ [.agg (aU x)] ++ [.ip [.int .i64 d] 0, .ip [.int .i64 0] 0]) h (fun v g => v = .bool false ∧ g = h)
 | ⟨before, aP, name, result, params, vars, inner, body, bT⟩, ahead, d, hr, h0 => by
  have hr' := hr
  simp only [gC, Bool.and_eq_true, decide_eq_true_eq] at hr'
  obtain ⟨⟨_, hin, hil⟩, _⟩ := hr'
  exact OF hm h ahead _ d h0 hr (pI h inner hil (d + 1) (fun pre x post hl => x7 hin hl) (u0 hm h inner [] (d + 1) hin (by omega)))
theorem u0 [GI] (hm : Spc0) (h : AHeap) : ∀ (l : List Routine) (ahead : List ByteArray) (d : Int), bN ahead l d = true → 0 ≤ d → ∀ x ∈ l, aD prog 116 ([] ++ [.agg (aU x)] ++ [.ip [.int .i64 d] 0, .ip [.int .i64 0] 0]) h (fun v g => v = .bool false ∧ g = h)
 | [], ahead, d, hr, h0, x, hx => by cases hx
 | y :: r, ahead, d, hr, h0, x, hx => by
  simp only [bN, Bool.and_eq_true] at hr
  rcases List.mem_cons.1 hx with e | hx
  ·rw [e]; exact OG hm h y ahead d hr.1 h0
  ·exact u0 hm h r _ d hr.2 h0 x hx
end
theorem GC [GI] (hm : Spc0) (h : AHeap) (p : Prg) (hp : eI p = true) : aD prog 26 [.int .i64 0, .agg (fJ p)] h (fun v g => v = .int .i64 0 ∧ g = h) := by
 simp only [eI, Bool.and_eq_true, List.all_eq_true, decide_eq_true_eq] at hp
 obtain ⟨⟨⟨⟨⟨⟨⟨⟨⟨hn, n1⟩, n2⟩, n3⟩, n4⟩, hrl⟩, hr⟩, hv⟩, ht, htl⟩, hb, hbl⟩ := hp
 have hw : Pg.few p.recs := by unfold Pg.few; omega
 have hc : ∀ x ∈ p.recs, aD prog 67 ([] ++ [.agg (eB x)] ++ [.ip [.int .i64 0] 0]) h (fun v g => v = .bool false ∧ g = h) := by
  intro x hx
  have h1 := Z8 hm h x (hr x hx)
  simp only [List.nil_append, List.singleton_append]
  refine F67.calls (by simp) ?_
  delta F67.c0
  simp only [eB, aE] at h1 ⊢
  simp only [go_sem,seval]
  refine tcE (h1) ?_
  simp only [go_sem,seval]
  exact .same ⟨rfl, rfl⟩
 have hnotes : aD prog 64 [.sl [[aE p.before], [aE p.mid], [aE p.after], [aE p.bT]] true] h (fun v g => v = .bool true ∧ g = h) := oT h [p.before, p.mid, p.after, p.bT] true (by simp) (by simp [n1, n2, n3, n4])
 have hts := pI h p.aH htl 1 (fun pre x post hl => x7 ht hl) (u0 hm h p.aH [] 1 ht (by omega))
 refine F26.calls (by simp) ?_
 delta F26.c0
 rw [gY]
 simp only [aE] at hnotes ⊢
 simp only [go_sem,seval]
 refine tcE (fL hm h p.name hn) ?_
 simp only [go_sem,seval]
 refine tcE (hnotes) ?_
 simp only [go_sem,seval]
 refine tcE (QU h (p.recs.map eB) false (by simpa using hrl)) ?_
 simp only [go_sem,seval]
 refine aW (E4 p.recs hw 67 [] [.ip [.int .i64 0] 0] (fun _ => false) (by kernel_rfl) hc) fun v g ⟨hv', hg⟩ => ?_
 have hany : p.recs.any (fun _ => false) = false := by simp
 rw [hany] at hv'
 subst hv' hg
 simp only [go_sem,seval]
 refine tcE (AO hm _ p.vars hv) ?_
 simp only [go_sem,seval]
 refine tcE (hts) ?_
 simp only [go_sem,seval]
 refine tcE (oS hm _ p.body 1 hb (by omega) hbl) ?_
 simp only [go_sem,seval]
 exact .same ⟨rfl, rfl⟩
end Pg.Tc
