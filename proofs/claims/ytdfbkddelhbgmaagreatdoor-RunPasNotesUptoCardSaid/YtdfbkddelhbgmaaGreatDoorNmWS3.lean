import Derived.Test.YtdfbkddelhbgmaaGreatDoorTreeSS3
import Derived.Test.YtdfbkddelhbgmaaGreatDoorCodeBS3
import Derived.Test.YtdfbkddelhbgmaaGreatDoorTreeSpecS3
import Derived.Test.YtdfbkddelhbgmaaGreatDoorFitS3
set_option linter.all false
set_option maxHeartbeats 4000000
set_option maxRecDepth 4000
namespace Pg
open Go Go.Proofs.Tryz
theorem ED {s : ByteArray} (hs : short s) : few (bytes s) := by
 unfold short at hs; unfold few bytes
 rw [Array.length_toList]; exact hs
theorem jK (s : ByteArray) : (bytes s).length = s.size := by unfold bytes; rw [Array.length_toList]; rfl
theorem sE {s : ByteArray} {pre post : List UInt8} {c : UInt8} (h : bytes s = pre ++ c :: post) : MC (.str s) (.int .i64 (pre.length : Int)) = some (.int .u8 (c.toNat : Int)) := by
 have h1 : (bytes s)[pre.length]? = some c := by rw [h]; simp
 have h2 : s[pre.length]? = some c := by
  have hb : pre.length < s.size := by rw [← jK, h]; simp
  rw [getElem?_pos s pre.length hb]
  unfold bytes at h1
  rw [Array.getElem?_toList, getElem?_pos s.data pre.length hb] at h1
  exact h1
 simp [MC, h2]
theorem PF {s : ByteArray} {pre post : List UInt8} {c : UInt8} (h : bytes s = pre ++ c :: post) : ((pre.length : Int) < (s.size : Int)) = True := by
 rw [← jK, h]; simp; omega
theorem LS (s : ByteArray) : (((bytes s).length : Int) < (s.size : Int)) = False := by rw [jK]; simp
theorem VD [GI] (h : AHeap) (c : Nat) (f : Bool) : aD prog 89 [.int .u8 (c : Int), .bool f] h (fun v g => v = .bool (letter c f) ∧ g = h) := by
 refine F89.calls (by simp) ?_
 delta F89.c0
 cases f
 all_goals
  simp only [go_sem,seval]
  repeat' (refine cP (fun hg => ?_) (fun hg => ?_) <;> simp only [go_sem,seval, hg, Bool.not_true, Bool.not_false])
  all_goals
   refine .same ⟨?_, rfl⟩
   congr 1
   try simp only [Bool.not_true, Bool.not_false, decide_eq_true_eq, decide_eq_false_iff_not] at *
   try rw [Bool.eq_iff_iff]
   try simp [letter]
   try omega
theorem YB [GI] (h : AHeap) (c : Nat) : aD prog 91 [.int .u8 (c : Int)] h (fun v g => v = .bool (nF c) ∧ g = h) := by
 refine F91.calls (by simp) ?_
 delta F91.c0
 simp only [go_sem,seval]
 repeat' (refine cP (fun hg => ?_) (fun hg => ?_) <;> simp only [go_sem,seval, hg, Bool.not_true, Bool.not_false])
 all_goals
  refine .same ⟨?_, rfl⟩
  congr 1
  try simp only [Bool.not_true, Bool.not_false, decide_eq_true_eq, decide_eq_false_iff_not] at *
  try rw [Bool.eq_iff_iff]
  try simp [nF]
  try omega
theorem ON [GI] (h : AHeap) (s : ByteArray) (hs : short s) : aD prog 48 [.str s] h (fun v g => v = .int .i64 (jY s) ∧ g = h) := by
 refine F48.calls (by simp) ?_
 delta F48.c0
 by_cases he : s = noBytes
 ·subst he
  simp only [go_sem,seval]
  exact .same ⟨rfl, rfl⟩
 ·have he' : (s = (⟨#[]⟩ : ByteArray)) = False := by simpa using he
  simp only [go_sem,seval, he']
  refine aX (bytes s) (fun pre post e g => (gK true (bytes s) = gK (decide (pre.length = 0)) post ∧ g = h) ∧ e = [(0, .str s), (3, .int .i64 pre.length)]) (aF.env ?_) ⟨⟨rfl, rfl⟩, rfl⟩ ?_ ?_
  ·simp only [go_sem,seval]
  ·rintro pre c post e g hp ⟨⟨hl, rfl⟩, rfl⟩
   have hz : (decide ((pre.length : Int) = 0)) = decide (pre.length = 0) := by congr 1; simp
   simp only [go_sem,seval, PF hp, sE hp, hz]
   refine tcE (VD g c.toNat (decide (pre.length = 0))) ?_
   simp only [go_sem,seval]
   cases hc : letter c.toNat (decide (pre.length = 0)) with
   | true =>
    simp only [go_sem,seval]
    refine ⟨_, _, aF.env ?_, ⟨?_, rfl⟩, rfl⟩
    ·simp only [go_sem,seval, aQ (ED hs) hp]
    ·have hz2 : decide ((pre ++ [c]).length = 0) = false := by simp
     rw [hl, hz2]; simp only [gK, hc, Bool.true_and]
   | false =>
    simp only [go_sem,seval]
    refine aM.same ?_
    simp only [go_sem,seval]
    refine .same ⟨?_, rfl⟩
    have hf : gK true (bytes s) = false := by rw [hl]; simp only [gK, hc, Bool.false_and]
    simp [jY, he, hf]
  ·rintro e g ⟨⟨hl, rfl⟩, rfl⟩
   simp only [go_sem,seval, LS]
   refine aM.same ?_
   simp only [go_sem,seval]
   have hl' : gK true (bytes s) = true := by rw [hl]; rfl
   by_cases hb : 32 < s.size
   ·have hb' : ((s.size : Int) > 32) = True := by simp; omega
    simp only [go_sem,seval, hb']
    exact .same ⟨by simp [jY, he, hl', hb], rfl⟩
   ·have hb' : ((s.size : Int) > 32) = False := by simp; omega
    simp only [go_sem,seval, hb']
    exact .same ⟨by simp [jY, he, hl', hb], rfl⟩
theorem XM [GI] (h : AHeap) (s : ByteArray) (hs : short s) : aD prog 50 [.str s] h (fun v g => (∃ n : Int, v = .int .i64 n ∧ decide (n = 0) = vP s) ∧ g = h) := by
 refine F50.calls (by simp) ?_
 delta F50.c0
 simp only [go_sem,seval]
 by_cases hb : s.size ≤ 1024
 ·have hb' : ((s.size : Int) > 1024) = False := by simp; omega
  simp only [go_sem,seval, hb']
  refine aX (bytes s) (fun pre post e g => ((bytes s).all (fun c => nF c.toNat) = post.all (fun c => nF c.toNat) ∧ g = h) ∧ e = [(0, .str s), (3, .int .i64 pre.length)]) (aF.env ?_) ⟨⟨rfl, rfl⟩, rfl⟩ ?_ ?_
  ·simp only [go_sem,seval]
  ·rintro pre c post e g hp ⟨⟨hl, rfl⟩, rfl⟩
   simp only [go_sem,seval, PF hp, sE hp]
   refine tcE (YB g c.toNat) ?_
   simp only [go_sem,seval]
   cases hc : nF c.toNat with
   | true =>
    simp only [go_sem,seval]
    refine ⟨_, _, aF.env ?_, ⟨?_, rfl⟩, rfl⟩
    ·simp only [go_sem,seval, aQ (ED hs) hp]
    ·rw [hl]; simp [hc]
   | false =>
    simp only [go_sem,seval]
    refine aM.same ?_
    simp only [go_sem,seval]
    refine .same ⟨⟨8, rfl, ?_⟩, rfl⟩
    simp [vP, hl, hc]
  ·rintro e g ⟨⟨hl, rfl⟩, rfl⟩
   simp only [go_sem,seval, LS]
   refine aM.same ?_
   simp only [go_sem,seval]
   refine .same ⟨⟨0, rfl, ?_⟩, rfl⟩
   simp only [vP, hl, hb]
   rfl
 ·have hb' : ((s.size : Int) > 1024) = True := by simp; omega
  simp only [go_sem,seval, hb']
  refine .same ⟨⟨3, rfl, ?_⟩, rfl⟩
  simp [vP, hb]
theorem O8 {l pre post : List ByteArray} {x : ByteArray} (h : l = pre ++ x :: post) : (l.map fun s => [AV.str s])[pre.length]? = some [.str x] := by subst h; simp
theorem LD [GI] (h : AHeap) (l : List ByteArray) (hl : few l) (full : Bool) (s : ByteArray) : aD prog 42 [.sl (l.map fun s => [.str s]) full, .str s] h (fun v g => v = .bool (fY s l) ∧ g = h) := by
 refine F42.calls (by simp) ?_
 delta F42.c0
 simp only [go_sem,seval]
 refine aX l (fun pre post e g => (fY s l = fY s post ∧ g = h) ∧ e = [(0, .sl (l.map fun s => [.str s]) full), (1, .str s), (5, .int .i64 pre.length)]) (aF.env ?_) ⟨⟨rfl, rfl⟩, rfl⟩ ?_ ?_
 ·simp only [go_sem,seval]
 ·rintro pre x post e g hp ⟨⟨hn, rfl⟩, rfl⟩
  simp only [go_sem,seval, bI hp, aI (O8 hp) (show _ = 1 from rfl)]
  by_cases hx : x = s
  ·subst hx
   simp only [go_sem,seval]
   refine aM.same ?_
   simp only [go_sem,seval]
   exact .same ⟨by rw [hn]; simp [fY], rfl⟩
  ·simp only [go_sem,seval, hx]
   refine ⟨_, _, aF.env ?_, ⟨?_, rfl⟩, rfl⟩
   ·simp only [go_sem,seval, aQ hl hp]
   ·rw [hn]; simp [fY, hx]
 ·rintro e g ⟨⟨hn, rfl⟩, rfl⟩
  simp only [go_sem,seval, bE]
  refine aM.same ?_
  simp only [go_sem,seval]
  exact .same ⟨by rw [hn]; simp [fY], rfl⟩
theorem aC8 [GI] (h : AHeap) : aD prog 90 [.int .i64 0] h (fun v g => v = .sl (words0.map fun s => [.str s]) true ∧ g = h) := by
 refine F90.calls (by simp) ?_
 delta F90.c0
 simp only [go_sem,seval]
 exact .same ⟨rfl, rfl⟩
theorem aEI [GI] (h : AHeap) (s : ByteArray) : aD prog 49 [.int .i64 0, .str s] h (fun v g => v = .bool (fY s words0) ∧ g = h) := by
 refine F49.calls (by simp) ?_
 delta F49.c0
 simp only [go_sem,seval]
 refine tcE (aC8 h) ?_
 simp only [go_sem,seval]
 refine tcE (LD h words0 (by unfold few; decide) true s) ?_
 simp only [go_sem,seval]
 exact .same ⟨rfl, rfl⟩
theorem jL [GI] (h : AHeap) (s : ByteArray) (hs : short s) : aD prog 19 [.int .i64 0, .str s] h (fun v g => v = .bool (dK s) ∧ g = h) := by
 refine F19.calls (by simp) ?_
 delta F19.c0
 simp only [go_sem,seval]
 refine tcE (ON h s hs) ?_
 simp only [go_sem,seval]
 by_cases hc : jY s = 0
 ·simp only [go_sem,seval, hc]
  refine tcE (aEI h s) ?_
  simp only [go_sem,seval]
  exact .same ⟨by simp [dK, hc], rfl⟩
 ·simp only [go_sem,seval, hc]
  exact .same ⟨by simp [dK, hc], rfl⟩
theorem j0 [GI] (h : AHeap) (l : List ByteArray) (hl : few l) (hs : eA l) : aD prog 20 [aE l] h (fun v g => v = .bool (eU l) ∧ g = h) := by
 unfold aE
 refine F20.calls (by simp) ?_
 delta F20.c0
 simp only [go_sem,seval]
 refine aX l (fun pre post e g => (l.all vP = post.all vP ∧ g = h) ∧ e = [(0, .sl (l.map fun s => [.str s]) false), (3, .int .i64 pre.length)]) (aF.env ?_) ⟨⟨rfl, rfl⟩, rfl⟩ ?_ ?_
 ·simp only [go_sem,seval]
 ·rintro pre x post e g hp ⟨⟨hn, rfl⟩, rfl⟩
  simp only [go_sem,seval, bI hp, aI (O8 hp) (show _ = 1 from rfl)]
  refine aW (XM g x (hs x (bJ hp))) (fun v k ⟨⟨n, hv, ht⟩, hk⟩ => ?_)
  subst hv hk
  by_cases hz : n = 0
  ·simp only [go_sem,seval, hz]
   refine ⟨_, _, aF.env ?_, ⟨?_, rfl⟩, rfl⟩
   ·simp only [go_sem,seval, aQ hl hp]
   ·rw [hn]; simp [← ht, hz]
  ·simp only [go_sem,seval, hz]
   refine aM.same ?_
   simp only [go_sem,seval]
   exact .same ⟨by simp [eU, hn, ← ht, hz], rfl⟩
 ·rintro e g ⟨⟨hn, rfl⟩, rfl⟩
  simp only [go_sem,seval, bE]
  refine aM.same ?_
  simp only [go_sem,seval]
  refine .same ⟨?_, rfl⟩
  simp only [eU, hn, List.all_nil, Bool.true_and]
  congr 2
  simp; omega
theorem sK [GI] (h : AHeap) (a b : List ByteArray) (ha : few a) (hb : few b) (sa : eA a) (sb : eA b) : aD prog 21 [.agg [aE a, aE b]] h (fun v g => v = .bool (iH a b) ∧ g = h) := by
 refine F21.calls (by simp) ?_
 delta F21.c0
 simp only [go_sem,seval]
 refine tcE (j0 h a ha sa) ?_
 simp only [go_sem,seval]
 cases hx : eU a with
 | true =>
  simp only [go_sem,seval]
  refine tcE (j0 h b hb sb) ?_
  simp only [go_sem,seval]
  exact .same ⟨by simp [iH, hx], rfl⟩
 | false =>
  simp only [go_sem,seval]
  exact .same ⟨by simp [iH, hx], rfl⟩
theorem OC [GI] (h : AHeap) (t : Typ) (ht : short t.name) : aD prog 51 [.int .i64 0, .agg (bV t)] h (fun v g => v = .bool (mH t) ∧ g = h) := by
 refine F51.calls (by simp) ?_
 delta F51.c0
 simp only [go_sem,seval]
 by_cases hk : t.kind = 4
 ·simp only [go_sem,seval, hk]
  by_cases hz : t.size = 0
  ·simp only [go_sem,seval, hz]
   refine tcE (jL h t.name ht) ?_
   simp only [go_sem,seval]
   exact .same ⟨by simp [mH, hk, hz], rfl⟩
  ·simp only [go_sem,seval, hz]
   exact .same ⟨by simp [mH, hk, hz], rfl⟩
 ·simp only [go_sem,seval, hk]
  repeat' (refine cP (fun hg => ?_) (fun hg => ?_) <;> simp only [go_sem,seval, hg, Bool.not_true, Bool.not_false])
  all_goals
   refine .same ⟨?_, rfl⟩
   congr 1
   try simp only [Bool.not_true, Bool.not_false, decide_eq_true_eq, decide_eq_false_iff_not] at *
   try rw [Bool.eq_iff_iff]
   try simp [mH, hk, noBytes, *]
   try omega
end Pg
namespace Pg
open Go Go.Proofs.Tryz
theorem wI (n : Nat) (x : Expr) : deep n x = kO n x.l + 1 := by obtain ⟨op, k, name, field, l⟩ := x; rw [deep]
theorem BX (l : List Expr) : kO 0 l = 0 := by rw [kO]
theorem N0 (n : Nat) : kO n [] = 0 := by cases n <;> rw [kO]
theorem BY (n : Nat) (x : Expr) (r : List Expr) : kO (n + 1) (x :: r) = max (if x.op = 25 then 0 else deep n x) (kO (n + 1) r) := by rw [kO]
theorem WX : ∀ (n : Nat) (x : Expr), deep n x ≤ n + 1
 | 0, x => by rw [wI, BX]; omega
 | n + 1, x => by
  rw [wI]
  have : ∀ l : List Expr, kO (n + 1) l ≤ n + 1 := by
   intro l
   induction l with
   | nil => rw [N0]; omega
   | cons y r ih =>
    rw [BY]
    have := WX n y
    split <;> omega
  have := this x.l
  omega
theorem aCS (n : Nat) (l : List Expr) : kO n l ≤ n := by
 have := WX n ⟨0, 0, noBytes, noBytes, l⟩
 rw [wI] at this
 simp only at this
 omega
theorem OE [GI] : ∀ (n : Nat) (x : Expr), n ≤ 99 → x.ok → ∀ h : AHeap, aD prog 138 [.agg (aO x), .int .i64 (n : Int)] h (fun v g => v = .int .i64 (deep n x : Int) ∧ g = h)
 | 0, x, hn, ho, h => by
  refine IW.calls (by simp) ?_
  delta IW.c0
  simp only [go_sem,seval]
  refine gR ?_
  simp only [go_sem,seval]
  by_cases hl : (0 : Int) < x.l.length
  ·simp only [go_sem,seval, hl, Int.ofNat_zero]
   refine .same ⟨?_, rfl⟩
   rw [wI, BX]; rfl
  ·simp only [go_sem,seval, hl]
   refine .same ⟨?_, rfl⟩
   rw [wI, BX]; rfl
 | n + 1, x, hn, ho, h => by
  obtain ⟨hl, he⟩ := (Expr.cN x).1 ho
  have hpos : (((n + 1 : Nat) : Int) > 0) = True := by simp
  refine IW.calls (by simp) ?_
  delta IW.c0
  simp only [go_sem,seval]
  refine aX x.l (fun pre post e g => (∃ d : Nat, (kO (n + 1) x.l = max d (kO (n + 1) post) ∧ e = [(1, .int .i64 ((n + 1 : Nat) : Int)), (2, .ip (aO x) 0), (5, .int .i64 (d : Int)), (6, .int .i64 pre.length)])) ∧ g = h) (aF.env ?_) ⟨⟨0, by simp, rfl⟩, rfl⟩ ?_ ?_
  ·simp only [go_sem,seval]
  ·rintro pre y post e g hp ⟨⟨d, hd, rfl⟩, rfl⟩
   simp only [go_sem,seval, bI hp, hpos, aI (aK hp) (aR y)]
   by_cases h25 : y.op = 25
   ·simp only [go_sem,seval, h25]
    refine ⟨_, _, aF.env ?_, ⟨d, ?_, rfl⟩, rfl⟩
    ·simp only [go_sem,seval, aQ hl hp]
    ·rw [hd, BY, if_pos h25]; omega
   ·have hw : IntKind.i64.wrap (((n + 1 : Nat) : Int) - 1) = (n : Int) := by rw [wrap64 (by omega) (by omega)]; omega
    simp only [go_sem,seval, h25, aI (aK hp) (aR y), hw]
    refine tcE (OE n y (by omega) (he y (bJ hp)) g) ?_
    simp only [go_sem,seval]
    refine ⟨_, _, aF.env ?_, ⟨max d (deep n y), ?_, rfl⟩, rfl⟩
    ·simp only [go_sem,seval, aQ hl hp]
     exact dE.int (by split <;> omega)
    ·rw [hd, BY, if_neg h25]; omega
  ·rintro e g ⟨⟨d, hd, rfl⟩, rfl⟩
   simp only [go_sem,seval, bE]
   refine aM.same ?_
   simp only [go_sem,seval]
   have hb := aCS (n + 1) x.l
   rw [N0] at hd
   have hd' : kO (n + 1) x.l = d := by omega
   refine .same ⟨?_, rfl⟩
   rw [wI, hd', wrap64 (by omega) (by omega)]
   simp
theorem aBq [GI] (n : Nat) (hn : n ≤ 47) (x : Expr) (hl : few x.l) (ih : ∀ y ∈ x.l, ∀ h, aD prog 137 [.int .i64 0, .agg (aO y), .int .i64 (n : Int)] h (fun v g => v = .bool (form n y) ∧ g = h))
  (h : AHeap) (K : AV → AHeap → Prop) (e : Env) (want : Int) (b1 b2 b3 : Bool) (h0 : e.get 0 = .int .i64 0) (h2 : e.get 2 = .int .i64 ((n + 1 : Nat) : Int)) (h4 : e.get 4 = .ip (aO x) 0) (h7 : e.get 7 = .int .i64 want) (h8 : e.get 8 = .bool b1) (h9 : e.get 9 = .bool b2) (h10 : e.get 10 = .bool b3)
  (k : K (.bool (b1 && b2 && b3 && decide ((x.l.length : Int) = want) && gV n x.l)) h) : wT .go prog 178 aY.c62 (fun x e h t => xV t [.tmp 6] (eE K) x e h) e h := by
 delta aY.c62
 have hw : IntKind.i64.wrap (((n + 1 : Nat) : Int) - 1) = (n : Int) := by rw [wrap64 (by omega) (by omega)]; omega
 cases b1 <;> cases b2 <;> cases b3
 all_goals try
  simp only [go_sem,seval, h8, h9, h10, h4, h7]
  exact .same k
 simp only [go_sem,seval, h8, h9, h10, h4, h7]
 by_cases hz : (x.l.length : Int) = want
 ·simp only [go_sem,seval, hz, h4]
  refine aX x.l (fun pre post e g => (gV n x.l = gV n post ∧ g = h) ∧ e = [(0, .int .i64 0), (2, .int .i64 ((n + 1 : Nat) : Int)), (4, .ip (aO x) 0), (11, .bool false), (12, .int .i64 pre.length)]) (aF.env ?_) ⟨⟨rfl, rfl⟩, rfl⟩ ?_ ?_
  ·simp only [go_sem,seval, h0, h2, h4]
  ·rintro pre y post e g hp ⟨⟨hs, rfl⟩, rfl⟩
   simp only [go_sem,seval, bI hp, aI (aK hp) (aR y)]
   by_cases h25 : y.op = 25
   ·simp only [go_sem,seval, h25]
    refine aM.same ?_
    simp only [go_sem,seval]
    have hf : gV n x.l = false := by rw [hs]; simp [gV, h25]
    rw [hf] at k
    exact .same (by simpa using k)
   ·simp only [go_sem,seval, h25, hw]
    refine tcE (ih y (bJ hp) g) ?_
    cases hy : form n y with
    | true =>
     simp only [go_sem,seval]
     refine ⟨_, _, aF.env ?_, ⟨?_, rfl⟩, rfl⟩
     ·simp only [go_sem,seval, aQ hl hp]
     ·rw [hs]; simp [gV, h25, hy]
    | false =>
     simp only [go_sem,seval]
     refine aM.same ?_
     simp only [go_sem,seval]
     have hf : gV n x.l = false := by rw [hs]; simp [gV, hy]
     rw [hf] at k
     exact .same (by simpa using k)
  ·rintro e g ⟨⟨hs, rfl⟩, rfl⟩
   simp only [go_sem,seval, bE]
   refine aM.same ?_
   simp only [go_sem,seval]
   have hf : gV n x.l = true := by rw [hs]; simp [gV]
   rw [hf] at k
   exact .same (by simpa [hz] using k)
 ·simp only [go_sem,seval, hz]
  exact .same (by simpa [hz] using k)
theorem qF (n : Nat) (x : Expr) : form (n + 1) x = (decide (x.l.length ≤ 512) && decide (1 ≤ x.op) && decide (x.op ≤ 24) && eV x && gV n x.l) := by obtain ⟨op, k, name, field, l⟩ := x; rw [form]
theorem xX [GI] (h : AHeap) (s : ByteArray) (hs : short s) : aD prog 52 [.int .i64 0, .str s] h (fun v g => v = .bool (dK s) ∧ g = h) := by
 refine F52.calls (by simp) ?_
 delta F52.c0
 simp only [go_sem,seval]
 refine tcE (jL h s hs) ?_
 simp only [go_sem,seval]
 exact .same ⟨rfl, rfl⟩
theorem aBr [GI] : ∀ (n : Nat) (x : Expr), n ≤ 48 → x.ok → x.fit → ∀ h : AHeap, aD prog 137 [.int .i64 0, .agg (aO x), .int .i64 (n : Int)] h (fun v g => v = .bool (form n x) ∧ g = h) := by
 intro n
 induction n with
 | zero =>
  intro x hn ho hf h
  have hz0 : (((0 : Nat) : Int) = 0) = True := by simp
  refine aY.calls (by simp) ?_
  delta aY.c0
  simp only [go_sem,seval, hz0]
  exact .same ⟨by rw [form], rfl⟩
 | succ n ihn =>
  intro x hn ho hf h
  obtain ⟨hl, he⟩ := (Expr.cN x).1 ho
  have hft := (Expr.fD x).1 hf
  have ih : ∀ y ∈ x.l, ∀ h, aD prog 137 [.int .i64 0, .agg (aO y), .int .i64 (n : Int)] h (fun v g => v = .bool (form n y) ∧ g = h) := fun y hy h => ihn y (by omega) (he y hy) (hft.2.2.2.2 y hy) h
  have hz : (((n + 1 : Nat) : Int) = 0) = False := by simp; omega
  by_cases h512 : x.l.length ≤ 512
  ·have h512' : ((x.l.length : Int) > 512) = False := by simp; omega
   have tail : ∀ (e : Env) (want : Int) (b1 b2 b3 : Bool), e.get 0 = .int .i64 0 → e.get 2 = .int .i64 ((n + 1 : Nat) : Int) → e.get 4 = .ip (aO x) 0 → e.get 7 = .int .i64 want → e.get 8 = .bool b1 → e.get 9 = .bool b2 → e.get 10 = .bool b3 → 1 ≤ x.op → x.op ≤ 24 →
     (b1 && b2 && b3 && decide ((x.l.length : Int) = want)) = eV x → wT .go prog 178 aY.c62 (fun y e' h' t => xV t [.tmp 6] (eE (fun v g => v = .bool (form (n + 1) x) ∧ g = h)) y e' h') e h := by
    intro e want b1 b2 b3 h0 h2 h4 h7 h8 h9 h10 o1 o2 hp
    refine aBq n (by omega) x hl ih h _ e want b1 b2 b3 h0 h2 h4 h7 h8 h9 h10 ⟨?_, rfl⟩
    rw [hp, qF]
    simp [h512, o1, o2]
   by_cases o1 : x.op = 1
   ·
    refine aY.calls (by simp) ?_
    delta aY.c0 aY.c5
    simp only [go_sem,seval, hz, h512', o1]
    refine tail _ 0 (decide (x.n ≥ 0)) (decide (x.name = (⟨#[]⟩ : ByteArray))) (decide (x.field = (⟨#[]⟩ : ByteArray))) rfl rfl rfl rfl rfl rfl rfl (by omega) (by omega) ?_
    simp [eV, o1, noBytes]
   by_cases o2 : x.op = 2
   ·
    refine aY.calls (by simp) ?_
    delta aY.c0 aY.c5
    simp only [go_sem,seval, hz, h512', o2]
    delta aY.c12
    simp only [go_sem,seval, o2]
    refine cP (fun hg => ?_) (fun hg => ?_) <;> simp only [go_sem,seval, hg, Bool.not_true, Bool.not_false]
    ·
     refine tail _ 0 (decide (x.n = 1)) (decide (x.name = (⟨#[]⟩ : ByteArray))) (decide (x.field = (⟨#[]⟩ : ByteArray))) rfl rfl rfl rfl rfl rfl rfl (by omega) (by omega) ?_
     simp at hg
     simp [hg, eV, o2, noBytes]
    ·
     refine tail _ 0 true (decide (x.name = (⟨#[]⟩ : ByteArray))) (decide (x.field = (⟨#[]⟩ : ByteArray))) rfl rfl rfl rfl rfl rfl rfl (by omega) (by omega) ?_
     simp at hg
     simp [hg, eV, o2, noBytes]
   by_cases o3 : x.op = 3
   ·
    refine aY.calls (by simp) ?_
    delta aY.c0 aY.c5
    simp only [go_sem,seval, hz, h512', o3]
    delta aY.c12
    simp only [go_sem,seval, o3]
    delta aY.c14
    simp only [go_sem,seval, o3]
    refine cP (fun hg => ?_) (fun hg => ?_) <;> simp only [go_sem,seval, hg, Bool.not_true, Bool.not_false]
    ·
     refine tail _ 0 (decide (x.n ≤ 255)) (decide (x.name = (⟨#[]⟩ : ByteArray))) (decide (x.field = (⟨#[]⟩ : ByteArray))) rfl rfl rfl rfl rfl rfl rfl (by omega) (by omega) ?_
     simp at hg
     simp [hg, eV, o3, noBytes]
    ·
     refine tail _ 0 false (decide (x.name = (⟨#[]⟩ : ByteArray))) (decide (x.field = (⟨#[]⟩ : ByteArray))) rfl rfl rfl rfl rfl rfl rfl (by omega) (by omega) ?_
     simp at hg
     simp [hg, eV, o3, noBytes]
     intro hh; omega
   by_cases o4 : x.op = 4
   ·
    refine aY.calls (by simp) ?_
    delta aY.c0 aY.c5
    simp only [go_sem,seval, hz, h512', o4]
    delta aY.c12
    simp only [go_sem,seval, o4]
    delta aY.c14
    simp only [go_sem,seval, o4]
    delta aY.c16
    simp only [go_sem,seval, o4]
    refine tcE (jL h x.name hft.2.2.1) ?_
    simp only [go_sem,seval]
    refine tail _ 0 (decide (x.n = 0)) (dK x.name) (decide (x.field = (⟨#[]⟩ : ByteArray))) rfl rfl rfl rfl rfl rfl rfl (by omega) (by omega) ?_
    simp [eV, o4, noBytes]
   by_cases o5 : x.op = 5
   ·
    refine aY.calls (by simp) ?_
    delta aY.c0 aY.c5
    simp only [go_sem,seval, hz, h512', o5]
    delta aY.c12
    simp only [go_sem,seval, o5]
    delta aY.c14
    simp only [go_sem,seval, o5]
    delta aY.c16
    simp only [go_sem,seval, o5]
    delta aY.c18
    simp only [go_sem,seval, o5]
    refine tcE (jL h x.name hft.2.2.1) ?_
    simp only [go_sem,seval]
    refine tail _ 1 (decide (x.n = 0)) (dK x.name) (decide (x.field = (⟨#[]⟩ : ByteArray))) rfl rfl rfl rfl rfl rfl rfl (by omega) (by omega) ?_
    simp [eV, o5, noBytes]
   by_cases o6 : x.op = 6
   ·
    refine aY.calls (by simp) ?_
    delta aY.c0 aY.c5
    simp only [go_sem,seval, hz, h512', o6]
    delta aY.c12
    simp only [go_sem,seval, o6]
    delta aY.c14
    simp only [go_sem,seval, o6]
    delta aY.c16
    simp only [go_sem,seval, o6]
    delta aY.c18
    simp only [go_sem,seval, o6]
    delta aY.c21
    simp only [go_sem,seval, o6]
    refine tcE (jL h x.name hft.2.2.1) ?_
    simp only [go_sem,seval]
    refine tcE (jL h x.field hft.2.2.2.1) ?_
    simp only [go_sem,seval]
    refine tail _ 0 (decide (x.n = 0)) (dK x.name) (dK x.field) rfl rfl rfl rfl rfl rfl rfl (by omega) (by omega) ?_
    simp [eV, o6, noBytes]
   by_cases o7 : x.op = 7
   ·
    refine aY.calls (by simp) ?_
    delta aY.c0 aY.c5
    simp only [go_sem,seval, hz, h512', o7]
    delta aY.c12
    simp only [go_sem,seval, o7]
    delta aY.c14
    simp only [go_sem,seval, o7]
    delta aY.c16
    simp only [go_sem,seval, o7]
    delta aY.c18
    simp only [go_sem,seval, o7]
    delta aY.c21
    simp only [go_sem,seval, o7]
    delta aY.c24
    simp only [go_sem,seval, o7]
    refine tcE (xX h x.name hft.2.2.1) ?_
    simp only [go_sem,seval]
    refine tail _ x.l.length (decide (x.n = 0)) (dK x.name) (decide (x.field = (⟨#[]⟩ : ByteArray))) rfl rfl rfl rfl rfl rfl rfl (by omega) (by omega) ?_
    simp [eV, o7, noBytes]
   by_cases o8 : x.op = 8
   ·
    refine aY.calls (by simp) ?_
    delta aY.c0 aY.c5
    simp only [go_sem,seval, hz, h512', o8]
    delta aY.c12
    simp only [go_sem,seval, o8]
    delta aY.c14
    simp only [go_sem,seval, o8]
    delta aY.c16
    simp only [go_sem,seval, o8]
    delta aY.c18
    simp only [go_sem,seval, o8]
    delta aY.c21
    simp only [go_sem,seval, o8]
    delta aY.c24
    simp only [go_sem,seval, o8]
    delta aY.c27
    simp only [go_sem,seval, o8]
    refine tail _ 1 (decide (x.n = 0)) (decide (x.name = (⟨#[]⟩ : ByteArray))) (decide (x.field = (⟨#[]⟩ : ByteArray))) rfl rfl rfl rfl rfl rfl rfl (by omega) (by omega) ?_
    simp [eV, o8, noBytes]
   by_cases o9 : x.op = 9
   ·
    refine aY.calls (by simp) ?_
    delta aY.c0 aY.c5
    simp only [go_sem,seval, hz, h512', o9]
    delta aY.c12
    simp only [go_sem,seval, o9]
    delta aY.c14
    simp only [go_sem,seval, o9]
    delta aY.c16
    simp only [go_sem,seval, o9]
    delta aY.c18
    simp only [go_sem,seval, o9]
    delta aY.c21
    simp only [go_sem,seval, o9]
    delta aY.c24
    simp only [go_sem,seval, o9]
    delta aY.c27
    simp only [go_sem,seval, o9]
    refine tail _ 1 (decide (x.n = 0)) (decide (x.name = (⟨#[]⟩ : ByteArray))) (decide (x.field = (⟨#[]⟩ : ByteArray))) rfl rfl rfl rfl rfl rfl rfl (by omega) (by omega) ?_
    simp [eV, o9, noBytes]
   by_cases p : 10 ≤ x.op ∧ x.op ≤ 24
   ·
    refine aY.calls (by simp) ?_
    delta aY.c0 aY.c5 aY.c12 aY.c14 aY.c16 aY.c18 aY.c21 aY.c24 aY.c27
    simp only [go_sem,seval, hz, h512', o1, o2, o3, o4, o5, o6, o7, o8, o9]
    have q : x.op = 10 ∨ x.op = 11 ∨ x.op = 12 ∨ x.op = 13 ∨ x.op = 14 ∨ x.op = 15 ∨ x.op = 16 ∨ x.op = 17 ∨ x.op = 18 ∨ x.op = 19 ∨ x.op = 20 ∨ x.op = 21 ∨ x.op = 22 ∨ x.op = 23 ∨ x.op = 24 := by omega
    delta aY.c31 aY.c34 aY.c36 aY.c38 aY.c40 aY.c42 aY.c44 aY.c46 aY.c48 aY.c50 aY.c52 aY.c54 aY.c56 aY.c58
    rcases q with q | q | q | q | q | q | q | q | q | q | q | q | q | q | q
    all_goals
     simp only [go_sem,seval, q]
     refine tail _ 2 (decide (x.n = 0)) (decide (x.name = (⟨#[]⟩ : ByteArray))) (decide (x.field = (⟨#[]⟩ : ByteArray))) rfl rfl rfl rfl rfl rfl rfl (by omega) (by omega) ?_
     simp [eV, q, noBytes]
   have o10 : ¬ x.op = 10 := by omega
   have o11 : ¬ x.op = 11 := by omega
   have o12 : ¬ x.op = 12 := by omega
   have o13 : ¬ x.op = 13 := by omega
   have o14 : ¬ x.op = 14 := by omega
   have o15 : ¬ x.op = 15 := by omega
   have o16 : ¬ x.op = 16 := by omega
   have o17 : ¬ x.op = 17 := by omega
   have o18 : ¬ x.op = 18 := by omega
   have o19 : ¬ x.op = 19 := by omega
   have o20 : ¬ x.op = 20 := by omega
   have o21 : ¬ x.op = 21 := by omega
   have o22 : ¬ x.op = 22 := by omega
   have o23 : ¬ x.op = 23 := by omega
   have o24 : ¬ x.op = 24 := by omega
   refine aY.calls (by simp) ?_
   delta aY.c0 aY.c5
   simp only [go_sem,seval, hz, h512', o1, o2, o3, o4, o5, o6, o7, o8, o9, o10, o11, o12, o13, o14, o15, o16, o17, o18, o19, o20, o21, o22, o23, o24]
   delta aY.c12
   simp only [go_sem,seval, o1, o2, o3, o4, o5, o6, o7, o8, o9, o10, o11, o12, o13, o14, o15, o16, o17, o18, o19, o20, o21, o22, o23, o24]
   delta aY.c14
   simp only [go_sem,seval, o1, o2, o3, o4, o5, o6, o7, o8, o9, o10, o11, o12, o13, o14, o15, o16, o17, o18, o19, o20, o21, o22, o23, o24]
   delta aY.c16
   simp only [go_sem,seval, o1, o2, o3, o4, o5, o6, o7, o8, o9, o10, o11, o12, o13, o14, o15, o16, o17, o18, o19, o20, o21, o22, o23, o24]
   delta aY.c18
   simp only [go_sem,seval, o1, o2, o3, o4, o5, o6, o7, o8, o9, o10, o11, o12, o13, o14, o15, o16, o17, o18, o19, o20, o21, o22, o23, o24]
   delta aY.c21
   simp only [go_sem,seval, o1, o2, o3, o4, o5, o6, o7, o8, o9, o10, o11, o12, o13, o14, o15, o16, o17, o18, o19, o20, o21, o22, o23, o24]
   delta aY.c24
   simp only [go_sem,seval, o1, o2, o3, o4, o5, o6, o7, o8, o9, o10, o11, o12, o13, o14, o15, o16, o17, o18, o19, o20, o21, o22, o23, o24]
   delta aY.c27
   simp only [go_sem,seval, o1, o2, o3, o4, o5, o6, o7, o8, o9, o10, o11, o12, o13, o14, o15, o16, o17, o18, o19, o20, o21, o22, o23, o24]
   delta aY.c31
   simp only [go_sem,seval, o1, o2, o3, o4, o5, o6, o7, o8, o9, o10, o11, o12, o13, o14, o15, o16, o17, o18, o19, o20, o21, o22, o23, o24]
   delta aY.c34
   simp only [go_sem,seval, o1, o2, o3, o4, o5, o6, o7, o8, o9, o10, o11, o12, o13, o14, o15, o16, o17, o18, o19, o20, o21, o22, o23, o24]
   delta aY.c36
   simp only [go_sem,seval, o1, o2, o3, o4, o5, o6, o7, o8, o9, o10, o11, o12, o13, o14, o15, o16, o17, o18, o19, o20, o21, o22, o23, o24]
   delta aY.c38
   simp only [go_sem,seval, o1, o2, o3, o4, o5, o6, o7, o8, o9, o10, o11, o12, o13, o14, o15, o16, o17, o18, o19, o20, o21, o22, o23, o24]
   delta aY.c40
   simp only [go_sem,seval, o1, o2, o3, o4, o5, o6, o7, o8, o9, o10, o11, o12, o13, o14, o15, o16, o17, o18, o19, o20, o21, o22, o23, o24]
   delta aY.c42
   simp only [go_sem,seval, o1, o2, o3, o4, o5, o6, o7, o8, o9, o10, o11, o12, o13, o14, o15, o16, o17, o18, o19, o20, o21, o22, o23, o24]
   delta aY.c44
   simp only [go_sem,seval, o1, o2, o3, o4, o5, o6, o7, o8, o9, o10, o11, o12, o13, o14, o15, o16, o17, o18, o19, o20, o21, o22, o23, o24]
   delta aY.c46
   simp only [go_sem,seval, o1, o2, o3, o4, o5, o6, o7, o8, o9, o10, o11, o12, o13, o14, o15, o16, o17, o18, o19, o20, o21, o22, o23, o24]
   delta aY.c48
   simp only [go_sem,seval, o1, o2, o3, o4, o5, o6, o7, o8, o9, o10, o11, o12, o13, o14, o15, o16, o17, o18, o19, o20, o21, o22, o23, o24]
   delta aY.c50
   simp only [go_sem,seval, o1, o2, o3, o4, o5, o6, o7, o8, o9, o10, o11, o12, o13, o14, o15, o16, o17, o18, o19, o20, o21, o22, o23, o24]
   delta aY.c52
   simp only [go_sem,seval, o1, o2, o3, o4, o5, o6, o7, o8, o9, o10, o11, o12, o13, o14, o15, o16, o17, o18, o19, o20, o21, o22, o23, o24]
   delta aY.c54
   simp only [go_sem,seval, o1, o2, o3, o4, o5, o6, o7, o8, o9, o10, o11, o12, o13, o14, o15, o16, o17, o18, o19, o20, o21, o22, o23, o24]
   delta aY.c56
   simp only [go_sem,seval, o1, o2, o3, o4, o5, o6, o7, o8, o9, o10, o11, o12, o13, o14, o15, o16, o17, o18, o19, o20, o21, o22, o23, o24]
   delta aY.c58
   simp only [go_sem,seval, o1, o2, o3, o4, o5, o6, o7, o8, o9, o10, o11, o12, o13, o14, o15, o16, o17, o18, o19, o20, o21, o22, o23, o24]
   refine .same ⟨?_, rfl⟩
   have : ¬ (1 ≤ x.op ∧ x.op ≤ 24) := by omega
   by_cases p1 : 1 ≤ x.op <;> by_cases p2 : x.op ≤ 24 <;> simp [qF, p1, p2]
   exact (this ⟨p1, p2⟩).elim
  ·have h512' : ((x.l.length : Int) > 512) = True := by simp; omega
   refine aY.calls (by simp) ?_
   delta aY.c0
   simp only [go_sem,seval, hz, h512']
   exact .same ⟨by simp [qF, h512], rfl⟩
theorem OD [GI] (x : Expr) (ho : x.ok) (hf : x.fit) (h : AHeap) : aD prog 92 [.int .i64 0, .agg (aO x)] h (fun v g => v = .bool (nK x) ∧ g = h) := by
 refine F92.calls (by simp) ?_
 delta F92.c0
 simp only [go_sem,seval]
 refine tcE (aBr 48 x (by omega) ho hf h) ?_
 cases hx : form 48 x with
 | false =>
  simp only [go_sem,seval]
  exact .same ⟨by simp [nK, hx], rfl⟩
 | true =>
  simp only [go_sem,seval]
  refine tcE (OE 99 x (by omega) ho h) ?_
  simp only [go_sem,seval]
  refine .same ⟨?_, rfl⟩
  simp only [nK, hx, Bool.true_and]
  congr 2
  simp; omega
theorem YO [GI] (x : Expr) (ho : x.ok) (hf : x.fit) (h : AHeap) : aD prog 93 [.int .i64 0, .agg (aO x)] h (fun v g => v = .bool (j6 x) ∧ g = h) := by
 refine F93.calls (by simp) ?_
 delta F93.c0
 by_cases h1 : 4 ≤ x.op
 ·have h1' : (x.op ≥ 4) = True := by simp [h1]
  by_cases h2 : x.op ≤ 6
  ·simp only [go_sem,seval, h1', h2]
   refine tcE (OD x ho hf h) ?_
   simp only [go_sem,seval]
   exact .same ⟨by simp [j6, h1, h2], rfl⟩
  ·simp only [go_sem,seval, h1', h2]
   exact .same ⟨by simp [j6, h2], rfl⟩
 ·have h1' : (x.op ≥ 4) = False := by simpa using h1
  simp only [go_sem,seval, h1']
  exact .same ⟨by simp [j6, h1], rfl⟩
theorem aBb [GI] (x : Expr) (h : AHeap) : aD prog 94 [.agg (aO x)] h (fun v g => v = .bool (kN x) ∧ g = h) := by
 refine F94.calls (by simp) ?_
 delta F94.c0
 simp only [go_sem,seval]
 repeat' (refine cP (fun hg => ?_) (fun hg => ?_) <;> simp only [go_sem,seval, hg, Bool.not_true, Bool.not_false])
 all_goals
  refine .same ⟨?_, rfl⟩
  congr 1
  try simp only [Bool.not_true, Bool.not_false, decide_eq_true_eq, decide_eq_false_iff_not] at *
  try rw [Bool.eq_iff_iff]
  try simp [kN, noBytes, *]
  try omega
end Pg
