import Derived.Test.YtdfbkddelhbgmaaGreatDoorTreeSS2
import Derived.Test.YtdfbkddelhbgmaaGreatDoorCodeBS2
import Derived.Test.YtdfbkddelhbgmaaGreatDoorTreeSpecS2
import Derived.Test.YtdfbkddelhbgmaaGreatDoorFitS2
set_option linter.all false
set_option maxHeartbeats 4000000
set_option maxRecDepth 4000
namespace Pg
open Go Go.Proofs.Tryz
theorem few_bytes {s : ByteArray} (hs : short s) : few (bytes s) := by
 unfold short at hs; unfold few bytes
 rw [Array.length_toList]; exact hs
theorem bytes_len (s : ByteArray) : (bytes s).length = s.size := by unfold bytes; rw [Array.length_toList]; rfl
theorem six_at {s : ByteArray} {pre post : List UInt8} {c : UInt8} (h : bytes s = pre ++ c :: post) : asix (.str s) (.int .i64 (pre.length : Int)) = some (.int .u8 (c.toNat : Int)) := by
 have h1 : (bytes s)[pre.length]? = some c := by rw [h]; simp
 have h2 : s[pre.length]? = some c := by
  have hb : pre.length < s.size := by rw [← bytes_len, h]; simp
  rw [getElem?_pos s pre.length hb]
  unfold bytes at h1
  rw [Array.getElem?_toList, getElem?_pos s.data pre.length hb] at h1
  exact h1
 simp [asix, h2]
theorem six_lt {s : ByteArray} {pre post : List UInt8} {c : UInt8} (h : bytes s = pre ++ c :: post) : ((pre.length : Int) < (s.size : Int)) = True := by
 rw [← bytes_len, h]; simp; omega
theorem six_end (s : ByteArray) : (((bytes s).length : Int) < (s.size : Int)) = False := by rw [bytes_len]; simp
theorem Letter_spec [GI] (h : AHeap) (c : Nat) (f : Bool) : ACalls prog 89 [.int .u8 (c : Int), .bool f] h (fun v g => v = .bool (letter c f) ∧ g = h) := by
 refine F89.calls (by simp) ?_
 delta F89.c0
 cases f
 all_goals
  simp only [go_sem,seval]
  repeat' (refine agateT_split (fun hg => ?_) (fun hg => ?_) <;> simp only [go_sem,seval, hg, Bool.not_true, Bool.not_false])
  all_goals
   refine .same ⟨?_, rfl⟩
   congr 1
   try simp only [Bool.not_true, Bool.not_false, decide_eq_true_eq, decide_eq_false_iff_not] at *
   try rw [Bool.eq_iff_iff]
   try simp [letter]
   try omega
theorem right_spec [GI] (h : AHeap) (c : Nat) : ACalls prog 91 [.int .u8 (c : Int)] h (fun v g => v = .bool (noteByte c) ∧ g = h) := by
 refine F91.calls (by simp) ?_
 delta F91.c0
 simp only [go_sem,seval]
 repeat' (refine agateT_split (fun hg => ?_) (fun hg => ?_) <;> simp only [go_sem,seval, hg, Bool.not_true, Bool.not_false])
 all_goals
  refine .same ⟨?_, rfl⟩
  congr 1
  try simp only [Bool.not_true, Bool.not_false, decide_eq_true_eq, decide_eq_false_iff_not] at *
  try rw [Bool.eq_iff_iff]
  try simp [noteByte]
  try omega
theorem nameCode_spec [GI] (h : AHeap) (s : ByteArray) (hs : short s) : ACalls prog 48 [.str s] h (fun v g => v = .int .i64 (nameCode s) ∧ g = h) := by
 refine F48.calls (by simp) ?_
 delta F48.c0
 by_cases he : s = noBytes
 ·subst he
  simp only [go_sem,seval]
  exact .same ⟨rfl, rfl⟩
 ·have he' : (s = (⟨#[]⟩ : ByteArray)) = False := by simpa using he
  simp only [go_sem,seval, he']
  refine lT_list (bytes s) (fun pre post e g => (letters true (bytes s) = letters (decide (pre.length = 0)) post ∧ g = h) ∧ e = [(0, .str s), (3, .int .i64 pre.length)]) (WeakE.env ?_) ⟨⟨rfl, rfl⟩, rfl⟩ ?_ ?_
  ·simp only [go_sem,seval]
  ·rintro pre c post e g hp ⟨⟨hl, rfl⟩, rfl⟩
   have hz : (decide ((pre.length : Int) = 0)) = decide (pre.length = 0) := by congr 1; simp
   simp only [go_sem,seval, six_lt hp, six_at hp, hz]
   refine tcE (Letter_spec g c.toNat (decide (pre.length = 0))) ?_
   simp only [go_sem,seval]
   cases hc : letter c.toNat (decide (pre.length = 0)) with
   | true =>
    simp only [go_sem,seval]
    refine ⟨_, _, WeakE.env ?_, ⟨?_, rfl⟩, rfl⟩
    ·simp only [go_sem,seval, step_at (few_bytes hs) hp]
    ·have hz2 : decide ((pre ++ [c]).length = 0) = false := by simp
     rw [hl, hz2]; simp only [letters, hc, Bool.true_and]
   | false =>
    simp only [go_sem,seval]
    refine lessQ.same ?_
    simp only [go_sem,seval]
    refine .same ⟨?_, rfl⟩
    have hf : letters true (bytes s) = false := by rw [hl]; simp only [letters, hc, Bool.false_and]
    simp [nameCode, he, hf]
  ·rintro e g ⟨⟨hl, rfl⟩, rfl⟩
   simp only [go_sem,seval, six_end]
   refine lessQ.same ?_
   simp only [go_sem,seval]
   have hl' : letters true (bytes s) = true := by rw [hl]; rfl
   by_cases hb : 32 < s.size
   ·have hb' : ((s.size : Int) > 32) = True := by simp; omega
    simp only [go_sem,seval, hb']
    exact .same ⟨by simp [nameCode, he, hl', hb], rfl⟩
   ·have hb' : ((s.size : Int) > 32) = False := by simp; omega
    simp only [go_sem,seval, hb']
    exact .same ⟨by simp [nameCode, he, hl', hb], rfl⟩
theorem tNote_spec [GI] (h : AHeap) (s : ByteArray) (hs : short s) : ACalls prog 50 [.str s] h (fun v g => (∃ n : Int, v = .int .i64 n ∧ decide (n = 0) = tNote s) ∧ g = h) := by
 refine F50.calls (by simp) ?_
 delta F50.c0
 simp only [go_sem,seval]
 by_cases hb : s.size ≤ 1024
 ·have hb' : ((s.size : Int) > 1024) = False := by simp; omega
  simp only [go_sem,seval, hb']
  refine lT_list (bytes s) (fun pre post e g => ((bytes s).all (fun c => noteByte c.toNat) = post.all (fun c => noteByte c.toNat) ∧ g = h) ∧ e = [(0, .str s), (3, .int .i64 pre.length)]) (WeakE.env ?_) ⟨⟨rfl, rfl⟩, rfl⟩ ?_ ?_
  ·simp only [go_sem,seval]
  ·rintro pre c post e g hp ⟨⟨hl, rfl⟩, rfl⟩
   simp only [go_sem,seval, six_lt hp, six_at hp]
   refine tcE (right_spec g c.toNat) ?_
   simp only [go_sem,seval]
   cases hc : noteByte c.toNat with
   | true =>
    simp only [go_sem,seval]
    refine ⟨_, _, WeakE.env ?_, ⟨?_, rfl⟩, rfl⟩
    ·simp only [go_sem,seval, step_at (few_bytes hs) hp]
    ·rw [hl]; simp [hc]
   | false =>
    simp only [go_sem,seval]
    refine lessQ.same ?_
    simp only [go_sem,seval]
    refine .same ⟨⟨8, rfl, ?_⟩, rfl⟩
    simp [tNote, hl, hc]
  ·rintro e g ⟨⟨hl, rfl⟩, rfl⟩
   simp only [go_sem,seval, six_end]
   refine lessQ.same ?_
   simp only [go_sem,seval]
   refine .same ⟨⟨0, rfl, ?_⟩, rfl⟩
   simp only [tNote, hl, hb]
   rfl
 ·have hb' : ((s.size : Int) > 1024) = True := by simp; omega
  simp only [go_sem,seval, hb']
  refine .same ⟨⟨3, rfl, ?_⟩, rfl⟩
  simp [tNote, hb]
theorem texts_at {l pre post : List ByteArray} {x : ByteArray} (h : l = pre ++ x :: post) : (l.map fun s => [AV.str s])[pre.length]? = some [.str x] := by subst h; simp
theorem Among_spec [GI] (h : AHeap) (l : List ByteArray) (hl : few l) (full : Bool) (s : ByteArray) : ACalls prog 42 [.sl (l.map fun s => [.str s]) full, .str s] h (fun v g => v = .bool (among s l) ∧ g = h) := by
 refine F42.calls (by simp) ?_
 delta F42.c0
 simp only [go_sem,seval]
 refine lT_list l (fun pre post e g => (among s l = among s post ∧ g = h) ∧ e = [(0, .sl (l.map fun s => [.str s]) full), (1, .str s), (5, .int .i64 pre.length)]) (WeakE.env ?_) ⟨⟨rfl, rfl⟩, rfl⟩ ?_ ?_
 ·simp only [go_sem,seval]
 ·rintro pre x post e g hp ⟨⟨hn, rfl⟩, rfl⟩
  simp only [go_sem,seval, lt_at hp, aia_sl (texts_at hp) (show _ = 1 from rfl)]
  by_cases hx : x = s
  ·subst hx
   simp only [go_sem,seval]
   refine lessQ.same ?_
   simp only [go_sem,seval]
   exact .same ⟨by rw [hn]; simp [among], rfl⟩
  ·simp only [go_sem,seval, hx]
   refine ⟨_, _, WeakE.env ?_, ⟨?_, rfl⟩, rfl⟩
   ·simp only [go_sem,seval, step_at hl hp]
   ·rw [hn]; simp [among, hx]
 ·rintro e g ⟨⟨hn, rfl⟩, rfl⟩
  simp only [go_sem,seval, lt_end]
  refine lessQ.same ?_
  simp only [go_sem,seval]
  exact .same ⟨by rw [hn]; simp [among], rfl⟩
theorem All_spec [GI] (h : AHeap) : ACalls prog 90 [.int .i64 0] h (fun v g => v = .sl (words0.map fun s => [.str s]) true ∧ g = h) := by
 refine F90.calls (by simp) ?_
 delta F90.c0
 simp only [go_sem,seval]
 exact .same ⟨rfl, rfl⟩
theorem Is_spec [GI] (h : AHeap) (s : ByteArray) : ACalls prog 49 [.int .i64 0, .str s] h (fun v g => v = .bool (among s words0) ∧ g = h) := by
 refine F49.calls (by simp) ?_
 delta F49.c0
 simp only [go_sem,seval]
 refine tcE (All_spec h) ?_
 simp only [go_sem,seval]
 refine tcE (Among_spec h words0 (by unfold few; decide) true s) ?_
 simp only [go_sem,seval]
 exact .same ⟨rfl, rfl⟩
theorem Name_spec [GI] (h : AHeap) (s : ByteArray) (hs : short s) : ACalls prog 19 [.int .i64 0, .str s] h (fun v g => v = .bool (tName s) ∧ g = h) := by
 refine F19.calls (by simp) ?_
 delta F19.c0
 simp only [go_sem,seval]
 refine tcE (nameCode_spec h s hs) ?_
 simp only [go_sem,seval]
 by_cases hc : nameCode s = 0
 ·simp only [go_sem,seval, hc]
  refine tcE (Is_spec h s) ?_
  simp only [go_sem,seval]
  exact .same ⟨by simp [tName, hc], rfl⟩
 ·simp only [go_sem,seval, hc]
  exact .same ⟨by simp [tName, hc], rfl⟩
theorem notes_spec [GI] (h : AHeap) (l : List ByteArray) (hl : few l) (hs : shorts l) : ACalls prog 20 [eTexts l] h (fun v g => v = .bool (tNotes l) ∧ g = h) := by
 unfold eTexts
 refine F20.calls (by simp) ?_
 delta F20.c0
 simp only [go_sem,seval]
 refine lT_list l (fun pre post e g => (l.all tNote = post.all tNote ∧ g = h) ∧ e = [(0, .sl (l.map fun s => [.str s]) false), (3, .int .i64 pre.length)]) (WeakE.env ?_) ⟨⟨rfl, rfl⟩, rfl⟩ ?_ ?_
 ·simp only [go_sem,seval]
 ·rintro pre x post e g hp ⟨⟨hn, rfl⟩, rfl⟩
  simp only [go_sem,seval, lt_at hp, aia_sl (texts_at hp) (show _ = 1 from rfl)]
  refine callT_of (tNote_spec g x (hs x (mem_at hp))) (fun v k ⟨⟨n, hv, ht⟩, hk⟩ => ?_)
  subst hv hk
  by_cases hz : n = 0
  ·simp only [go_sem,seval, hz]
   refine ⟨_, _, WeakE.env ?_, ⟨?_, rfl⟩, rfl⟩
   ·simp only [go_sem,seval, step_at hl hp]
   ·rw [hn]; simp [← ht, hz]
  ·simp only [go_sem,seval, hz]
   refine lessQ.same ?_
   simp only [go_sem,seval]
   exact .same ⟨by simp [tNotes, hn, ← ht, hz], rfl⟩
 ·rintro e g ⟨⟨hn, rfl⟩, rfl⟩
  simp only [go_sem,seval, lt_end]
  refine lessQ.same ?_
  simp only [go_sem,seval]
  refine .same ⟨?_, rfl⟩
  simp only [tNotes, hn, List.all_nil, Bool.true_and]
  congr 2
  simp; omega
theorem marks_spec [GI] (h : AHeap) (a b : List ByteArray) (ha : few a) (hb : few b) (sa : shorts a) (sb : shorts b) : ACalls prog 21 [.agg [eTexts a, eTexts b]] h (fun v g => v = .bool (tMarks a b) ∧ g = h) := by
 refine F21.calls (by simp) ?_
 delta F21.c0
 simp only [go_sem,seval]
 refine tcE (notes_spec h a ha sa) ?_
 simp only [go_sem,seval]
 cases hx : tNotes a with
 | true =>
  simp only [go_sem,seval]
  refine tcE (notes_spec h b hb sb) ?_
  simp only [go_sem,seval]
  exact .same ⟨by simp [tMarks, hx], rfl⟩
 | false =>
  simp only [go_sem,seval]
  exact .same ⟨by simp [tMarks, hx], rfl⟩
theorem Type_spec [GI] (h : AHeap) (t : Typ) (ht : short t.name) : ACalls prog 51 [.int .i64 0, .agg (eTyp t)] h (fun v g => v = .bool (tTyp t) ∧ g = h) := by
 refine F51.calls (by simp) ?_
 delta F51.c0
 simp only [go_sem,seval]
 by_cases hk : t.kind = 4
 ·simp only [go_sem,seval, hk]
  by_cases hz : t.size = 0
  ·simp only [go_sem,seval, hz]
   refine tcE (Name_spec h t.name ht) ?_
   simp only [go_sem,seval]
   exact .same ⟨by simp [tTyp, hk, hz], rfl⟩
  ·simp only [go_sem,seval, hz]
   exact .same ⟨by simp [tTyp, hk, hz], rfl⟩
 ·simp only [go_sem,seval, hk]
  repeat' (refine agateT_split (fun hg => ?_) (fun hg => ?_) <;> simp only [go_sem,seval, hg, Bool.not_true, Bool.not_false])
  all_goals
   refine .same ⟨?_, rfl⟩
   congr 1
   try simp only [Bool.not_true, Bool.not_false, decide_eq_true_eq, decide_eq_false_iff_not] at *
   try rw [Bool.eq_iff_iff]
   try simp [tTyp, hk, noBytes, *]
   try omega
end Pg
namespace Pg
open Go Go.Proofs.Tryz
theorem deep_eq (n : Nat) (x : Expr) : deep n x = deeps n x.l + 1 := by obtain ⟨op, k, name, field, l⟩ := x; rw [deep]
theorem deeps_zero (l : List Expr) : deeps 0 l = 0 := by rw [deeps]
theorem deeps_nil (n : Nat) : deeps n [] = 0 := by cases n <;> rw [deeps]
theorem deeps_cons (n : Nat) (x : Expr) (r : List Expr) : deeps (n + 1) (x :: r) = max (if x.op = 25 then 0 else deep n x) (deeps (n + 1) r) := by rw [deeps]
theorem deep_le : ∀ (n : Nat) (x : Expr), deep n x ≤ n + 1
 | 0, x => by rw [deep_eq, deeps_zero]; omega
 | n + 1, x => by
  rw [deep_eq]
  have : ∀ l : List Expr, deeps (n + 1) l ≤ n + 1 := by
   intro l
   induction l with
   | nil => rw [deeps_nil]; omega
   | cons y r ih =>
    rw [deeps_cons]
    have := deep_le n y
    split <;> omega
  have := this x.l
  omega
theorem deeps_le (n : Nat) (l : List Expr) : deeps n l ≤ n := by
 have := deep_le n ⟨0, 0, noBytes, noBytes, l⟩
 rw [deep_eq] at this
 simp only at this
 omega
theorem Deep_spec [GI] : ∀ (n : Nat) (x : Expr), n ≤ 99 → x.ok → ∀ h : AHeap, ACalls prog 138 [.agg (eExpr x), .int .i64 (n : Int)] h (fun v g => v = .int .i64 (deep n x : Int) ∧ g = h)
 | 0, x, hn, ho, h => by
  refine F138.calls (by simp) ?_
  delta F138.c0
  simp only [go_sem,seval]
  refine lT_round ?_
  simp only [go_sem,seval]
  by_cases hl : (0 : Int) < x.l.length
  ·simp only [go_sem,seval, hl, Int.ofNat_zero]
   refine .same ⟨?_, rfl⟩
   rw [deep_eq, deeps_zero]; rfl
  ·simp only [go_sem,seval, hl]
   refine .same ⟨?_, rfl⟩
   rw [deep_eq, deeps_zero]; rfl
 | n + 1, x, hn, ho, h => by
  obtain ⟨hl, he⟩ := (Expr.ok_iff x).1 ho
  have hpos : (((n + 1 : Nat) : Int) > 0) = True := by simp
  refine F138.calls (by simp) ?_
  delta F138.c0
  simp only [go_sem,seval]
  refine lT_list x.l (fun pre post e g => (∃ d : Nat, (deeps (n + 1) x.l = max d (deeps (n + 1) post) ∧ e = [(1, .int .i64 ((n + 1 : Nat) : Int)), (2, .ip (eExpr x) 0), (5, .int .i64 (d : Int)), (6, .int .i64 pre.length)])) ∧ g = h) (WeakE.env ?_) ⟨⟨0, by simp, rfl⟩, rfl⟩ ?_ ?_
  ·simp only [go_sem,seval]
  ·rintro pre y post e g hp ⟨⟨d, hd, rfl⟩, rfl⟩
   simp only [go_sem,seval, lt_at hp, hpos, aia_sl (map_at hp) (eExpr_len y)]
   by_cases h25 : y.op = 25
   ·simp only [go_sem,seval, h25]
    refine ⟨_, _, WeakE.env ?_, ⟨d, ?_, rfl⟩, rfl⟩
    ·simp only [go_sem,seval, step_at hl hp]
    ·rw [hd, deeps_cons, if_pos h25]; omega
   ·have hw : IntKind.i64.wrap (((n + 1 : Nat) : Int) - 1) = (n : Int) := by rw [wrap64 (by omega) (by omega)]; omega
    simp only [go_sem,seval, h25, aia_sl (map_at hp) (eExpr_len y), hw]
    refine tcE (Deep_spec n y (by omega) (he y (mem_at hp)) g) ?_
    simp only [go_sem,seval]
    refine ⟨_, _, WeakE.env ?_, ⟨max d (deep n y), ?_, rfl⟩, rfl⟩
    ·simp only [go_sem,seval, step_at hl hp]
     exact AVle.int (by split <;> omega)
    ·rw [hd, deeps_cons, if_neg h25]; omega
  ·rintro e g ⟨⟨d, hd, rfl⟩, rfl⟩
   simp only [go_sem,seval, lt_end]
   refine lessQ.same ?_
   simp only [go_sem,seval]
   have hb := deeps_le (n + 1) x.l
   rw [deeps_nil] at hd
   have hd' : deeps (n + 1) x.l = d := by omega
   refine .same ⟨?_, rfl⟩
   rw [deep_eq, hd', wrap64 (by omega) (by omega)]
   simp
theorem form_tail [GI] (n : Nat) (hn : n ≤ 47) (x : Expr) (hl : few x.l) (ih : ∀ y ∈ x.l, ∀ h, ACalls prog 137 [.int .i64 0, .agg (eExpr y), .int .i64 (n : Int)] h (fun v g => v = .bool (form n y) ∧ g = h))
  (h : AHeap) (K : AV → AHeap → Prop) (e : Env) (want : Int) (b1 b2 b3 : Bool) (h0 : e.get 0 = .int .i64 0) (h2 : e.get 2 = .int .i64 ((n + 1 : Nat) : Int)) (h4 : e.get 4 = .ip (eExpr x) 0) (h7 : e.get 7 = .int .i64 want) (h8 : e.get 8 = .bool b1) (h9 : e.get 9 = .bool b2) (h10 : e.get 10 = .bool b3)
  (k : K (.bool (b1 && b2 && b3 && decide ((x.l.length : Int) = want) && forms n x.l)) h) : wT .go prog 178 F137.c62 (fun x e h t => atEndT t [.tmp 6] (EndW K) x e h) e h := by
 delta F137.c62
 have hw : IntKind.i64.wrap (((n + 1 : Nat) : Int) - 1) = (n : Int) := by rw [wrap64 (by omega) (by omega)]; omega
 cases b1 <;> cases b2 <;> cases b3
 all_goals try
  simp only [go_sem,seval, h8, h9, h10, h4, h7]
  exact .same k
 simp only [go_sem,seval, h8, h9, h10, h4, h7]
 by_cases hz : (x.l.length : Int) = want
 ·simp only [go_sem,seval, hz, h4]
  refine lT_list x.l (fun pre post e g => (forms n x.l = forms n post ∧ g = h) ∧ e = [(0, .int .i64 0), (2, .int .i64 ((n + 1 : Nat) : Int)), (4, .ip (eExpr x) 0), (11, .bool false), (12, .int .i64 pre.length)]) (WeakE.env ?_) ⟨⟨rfl, rfl⟩, rfl⟩ ?_ ?_
  ·simp only [go_sem,seval, h0, h2, h4]
  ·rintro pre y post e g hp ⟨⟨hs, rfl⟩, rfl⟩
   simp only [go_sem,seval, lt_at hp, aia_sl (map_at hp) (eExpr_len y)]
   by_cases h25 : y.op = 25
   ·simp only [go_sem,seval, h25]
    refine lessQ.same ?_
    simp only [go_sem,seval]
    have hf : forms n x.l = false := by rw [hs]; simp [forms, h25]
    rw [hf] at k
    exact .same (by simpa using k)
   ·simp only [go_sem,seval, h25, hw]
    refine tcE (ih y (mem_at hp) g) ?_
    cases hy : form n y with
    | true =>
     simp only [go_sem,seval]
     refine ⟨_, _, WeakE.env ?_, ⟨?_, rfl⟩, rfl⟩
     ·simp only [go_sem,seval, step_at hl hp]
     ·rw [hs]; simp [forms, h25, hy]
    | false =>
     simp only [go_sem,seval]
     refine lessQ.same ?_
     simp only [go_sem,seval]
     have hf : forms n x.l = false := by rw [hs]; simp [forms, hy]
     rw [hf] at k
     exact .same (by simpa using k)
  ·rintro e g ⟨⟨hs, rfl⟩, rfl⟩
   simp only [go_sem,seval, lt_end]
   refine lessQ.same ?_
   simp only [go_sem,seval]
   have hf : forms n x.l = true := by rw [hs]; simp [forms]
   rw [hf] at k
   exact .same (by simpa [hz] using k)
 ·simp only [go_sem,seval, hz]
  exact .same (by simpa [hz] using k)
theorem form_eq (n : Nat) (x : Expr) : form (n + 1) x = (decide (x.l.length ≤ 512) && decide (1 ≤ x.op) && decide (x.op ≤ 24) && partsOk x && forms n x.l) := by obtain ⟨op, k, name, field, l⟩ := x; rw [form]
theorem RoutineName_spec [GI] (h : AHeap) (s : ByteArray) (hs : short s) : ACalls prog 52 [.int .i64 0, .str s] h (fun v g => v = .bool (tName s) ∧ g = h) := by
 refine F52.calls (by simp) ?_
 delta F52.c0
 simp only [go_sem,seval]
 refine tcE (Name_spec h s hs) ?_
 simp only [go_sem,seval]
 exact .same ⟨rfl, rfl⟩
theorem form_spec [GI] : ∀ (n : Nat) (x : Expr), n ≤ 48 → x.ok → x.fit → ∀ h : AHeap, ACalls prog 137 [.int .i64 0, .agg (eExpr x), .int .i64 (n : Int)] h (fun v g => v = .bool (form n x) ∧ g = h) := by
 intro n
 induction n with
 | zero =>
  intro x hn ho hf h
  have hz0 : (((0 : Nat) : Int) = 0) = True := by simp
  refine F137.calls (by simp) ?_
  delta F137.c0
  simp only [go_sem,seval, hz0]
  exact .same ⟨by rw [form], rfl⟩
 | succ n ihn =>
  intro x hn ho hf h
  obtain ⟨hl, he⟩ := (Expr.ok_iff x).1 ho
  have hft := (Expr.fit_iff x).1 hf
  have ih : ∀ y ∈ x.l, ∀ h, ACalls prog 137 [.int .i64 0, .agg (eExpr y), .int .i64 (n : Int)] h (fun v g => v = .bool (form n y) ∧ g = h) := fun y hy h => ihn y (by omega) (he y hy) (hft.2.2.2.2 y hy) h
  have hz : (((n + 1 : Nat) : Int) = 0) = False := by simp; omega
  by_cases h512 : x.l.length ≤ 512
  ·have h512' : ((x.l.length : Int) > 512) = False := by simp; omega
   have tail : ∀ (e : Env) (want : Int) (b1 b2 b3 : Bool), e.get 0 = .int .i64 0 → e.get 2 = .int .i64 ((n + 1 : Nat) : Int) → e.get 4 = .ip (eExpr x) 0 → e.get 7 = .int .i64 want → e.get 8 = .bool b1 → e.get 9 = .bool b2 → e.get 10 = .bool b3 → 1 ≤ x.op → x.op ≤ 24 →
     (b1 && b2 && b3 && decide ((x.l.length : Int) = want)) = partsOk x → wT .go prog 178 F137.c62 (fun y e' h' t => atEndT t [.tmp 6] (EndW (fun v g => v = .bool (form (n + 1) x) ∧ g = h)) y e' h') e h := by
    intro e want b1 b2 b3 h0 h2 h4 h7 h8 h9 h10 o1 o2 hp
    refine form_tail n (by omega) x hl ih h _ e want b1 b2 b3 h0 h2 h4 h7 h8 h9 h10 ⟨?_, rfl⟩
    rw [hp, form_eq]
    simp [h512, o1, o2]
   by_cases o1 : x.op = 1
   ·
    refine F137.calls (by simp) ?_
    delta F137.c0 F137.c5
    simp only [go_sem,seval, hz, h512', o1]
    refine tail _ 0 (decide (x.n ≥ 0)) (decide (x.name = (⟨#[]⟩ : ByteArray))) (decide (x.field = (⟨#[]⟩ : ByteArray))) rfl rfl rfl rfl rfl rfl rfl (by omega) (by omega) ?_
    simp [partsOk, o1, noBytes]
   by_cases o2 : x.op = 2
   ·
    refine F137.calls (by simp) ?_
    delta F137.c0 F137.c5
    simp only [go_sem,seval, hz, h512', o2]
    delta F137.c12
    simp only [go_sem,seval, o2]
    refine agateT_split (fun hg => ?_) (fun hg => ?_) <;> simp only [go_sem,seval, hg, Bool.not_true, Bool.not_false]
    ·
     refine tail _ 0 (decide (x.n = 1)) (decide (x.name = (⟨#[]⟩ : ByteArray))) (decide (x.field = (⟨#[]⟩ : ByteArray))) rfl rfl rfl rfl rfl rfl rfl (by omega) (by omega) ?_
     simp at hg
     simp [hg, partsOk, o2, noBytes]
    ·
     refine tail _ 0 true (decide (x.name = (⟨#[]⟩ : ByteArray))) (decide (x.field = (⟨#[]⟩ : ByteArray))) rfl rfl rfl rfl rfl rfl rfl (by omega) (by omega) ?_
     simp at hg
     simp [hg, partsOk, o2, noBytes]
   by_cases o3 : x.op = 3
   ·
    refine F137.calls (by simp) ?_
    delta F137.c0 F137.c5
    simp only [go_sem,seval, hz, h512', o3]
    delta F137.c12
    simp only [go_sem,seval, o3]
    delta F137.c14
    simp only [go_sem,seval, o3]
    refine agateT_split (fun hg => ?_) (fun hg => ?_) <;> simp only [go_sem,seval, hg, Bool.not_true, Bool.not_false]
    ·
     refine tail _ 0 (decide (x.n ≤ 255)) (decide (x.name = (⟨#[]⟩ : ByteArray))) (decide (x.field = (⟨#[]⟩ : ByteArray))) rfl rfl rfl rfl rfl rfl rfl (by omega) (by omega) ?_
     simp at hg
     simp [hg, partsOk, o3, noBytes]
    ·
     refine tail _ 0 false (decide (x.name = (⟨#[]⟩ : ByteArray))) (decide (x.field = (⟨#[]⟩ : ByteArray))) rfl rfl rfl rfl rfl rfl rfl (by omega) (by omega) ?_
     simp at hg
     simp [hg, partsOk, o3, noBytes]
     intro hh; omega
   by_cases o4 : x.op = 4
   ·
    refine F137.calls (by simp) ?_
    delta F137.c0 F137.c5
    simp only [go_sem,seval, hz, h512', o4]
    delta F137.c12
    simp only [go_sem,seval, o4]
    delta F137.c14
    simp only [go_sem,seval, o4]
    delta F137.c16
    simp only [go_sem,seval, o4]
    refine tcE (Name_spec h x.name hft.2.2.1) ?_
    simp only [go_sem,seval]
    refine tail _ 0 (decide (x.n = 0)) (tName x.name) (decide (x.field = (⟨#[]⟩ : ByteArray))) rfl rfl rfl rfl rfl rfl rfl (by omega) (by omega) ?_
    simp [partsOk, o4, noBytes]
   by_cases o5 : x.op = 5
   ·
    refine F137.calls (by simp) ?_
    delta F137.c0 F137.c5
    simp only [go_sem,seval, hz, h512', o5]
    delta F137.c12
    simp only [go_sem,seval, o5]
    delta F137.c14
    simp only [go_sem,seval, o5]
    delta F137.c16
    simp only [go_sem,seval, o5]
    delta F137.c18
    simp only [go_sem,seval, o5]
    refine tcE (Name_spec h x.name hft.2.2.1) ?_
    simp only [go_sem,seval]
    refine tail _ 1 (decide (x.n = 0)) (tName x.name) (decide (x.field = (⟨#[]⟩ : ByteArray))) rfl rfl rfl rfl rfl rfl rfl (by omega) (by omega) ?_
    simp [partsOk, o5, noBytes]
   by_cases o6 : x.op = 6
   ·
    refine F137.calls (by simp) ?_
    delta F137.c0 F137.c5
    simp only [go_sem,seval, hz, h512', o6]
    delta F137.c12
    simp only [go_sem,seval, o6]
    delta F137.c14
    simp only [go_sem,seval, o6]
    delta F137.c16
    simp only [go_sem,seval, o6]
    delta F137.c18
    simp only [go_sem,seval, o6]
    delta F137.c21
    simp only [go_sem,seval, o6]
    refine tcE (Name_spec h x.name hft.2.2.1) ?_
    simp only [go_sem,seval]
    refine tcE (Name_spec h x.field hft.2.2.2.1) ?_
    simp only [go_sem,seval]
    refine tail _ 0 (decide (x.n = 0)) (tName x.name) (tName x.field) rfl rfl rfl rfl rfl rfl rfl (by omega) (by omega) ?_
    simp [partsOk, o6, noBytes]
   by_cases o7 : x.op = 7
   ·
    refine F137.calls (by simp) ?_
    delta F137.c0 F137.c5
    simp only [go_sem,seval, hz, h512', o7]
    delta F137.c12
    simp only [go_sem,seval, o7]
    delta F137.c14
    simp only [go_sem,seval, o7]
    delta F137.c16
    simp only [go_sem,seval, o7]
    delta F137.c18
    simp only [go_sem,seval, o7]
    delta F137.c21
    simp only [go_sem,seval, o7]
    delta F137.c24
    simp only [go_sem,seval, o7]
    refine tcE (RoutineName_spec h x.name hft.2.2.1) ?_
    simp only [go_sem,seval]
    refine tail _ x.l.length (decide (x.n = 0)) (tName x.name) (decide (x.field = (⟨#[]⟩ : ByteArray))) rfl rfl rfl rfl rfl rfl rfl (by omega) (by omega) ?_
    simp [partsOk, o7, noBytes]
   by_cases o8 : x.op = 8
   ·
    refine F137.calls (by simp) ?_
    delta F137.c0 F137.c5
    simp only [go_sem,seval, hz, h512', o8]
    delta F137.c12
    simp only [go_sem,seval, o8]
    delta F137.c14
    simp only [go_sem,seval, o8]
    delta F137.c16
    simp only [go_sem,seval, o8]
    delta F137.c18
    simp only [go_sem,seval, o8]
    delta F137.c21
    simp only [go_sem,seval, o8]
    delta F137.c24
    simp only [go_sem,seval, o8]
    delta F137.c27
    simp only [go_sem,seval, o8]
    refine tail _ 1 (decide (x.n = 0)) (decide (x.name = (⟨#[]⟩ : ByteArray))) (decide (x.field = (⟨#[]⟩ : ByteArray))) rfl rfl rfl rfl rfl rfl rfl (by omega) (by omega) ?_
    simp [partsOk, o8, noBytes]
   by_cases o9 : x.op = 9
   ·
    refine F137.calls (by simp) ?_
    delta F137.c0 F137.c5
    simp only [go_sem,seval, hz, h512', o9]
    delta F137.c12
    simp only [go_sem,seval, o9]
    delta F137.c14
    simp only [go_sem,seval, o9]
    delta F137.c16
    simp only [go_sem,seval, o9]
    delta F137.c18
    simp only [go_sem,seval, o9]
    delta F137.c21
    simp only [go_sem,seval, o9]
    delta F137.c24
    simp only [go_sem,seval, o9]
    delta F137.c27
    simp only [go_sem,seval, o9]
    refine tail _ 1 (decide (x.n = 0)) (decide (x.name = (⟨#[]⟩ : ByteArray))) (decide (x.field = (⟨#[]⟩ : ByteArray))) rfl rfl rfl rfl rfl rfl rfl (by omega) (by omega) ?_
    simp [partsOk, o9, noBytes]
   by_cases p : 10 ≤ x.op ∧ x.op ≤ 24
   ·
    refine F137.calls (by simp) ?_
    delta F137.c0 F137.c5 F137.c12 F137.c14 F137.c16 F137.c18 F137.c21 F137.c24 F137.c27
    simp only [go_sem,seval, hz, h512', o1, o2, o3, o4, o5, o6, o7, o8, o9]
    have q : x.op = 10 ∨ x.op = 11 ∨ x.op = 12 ∨ x.op = 13 ∨ x.op = 14 ∨ x.op = 15 ∨ x.op = 16 ∨ x.op = 17 ∨ x.op = 18 ∨ x.op = 19 ∨ x.op = 20 ∨ x.op = 21 ∨ x.op = 22 ∨ x.op = 23 ∨ x.op = 24 := by omega
    delta F137.c31 F137.c34 F137.c36 F137.c38 F137.c40 F137.c42 F137.c44 F137.c46 F137.c48 F137.c50 F137.c52 F137.c54 F137.c56 F137.c58
    rcases q with q | q | q | q | q | q | q | q | q | q | q | q | q | q | q
    all_goals
     simp only [go_sem,seval, q]
     refine tail _ 2 (decide (x.n = 0)) (decide (x.name = (⟨#[]⟩ : ByteArray))) (decide (x.field = (⟨#[]⟩ : ByteArray))) rfl rfl rfl rfl rfl rfl rfl (by omega) (by omega) ?_
     simp [partsOk, q, noBytes]
   have o10 : ¬ x.op = 10 := by omega
   have o11 : ¬ x.op = 11 := by omega
   have o12 : ¬ x.op = 12 := by omega
   have o13 : ¬ x.op = 13 := by omega
   have o14 : ¬ x.op = 14 := by omega
   have o15 : ¬ x.op = 15 := by omega
   have o16 : ¬ x.op = 16 := by omega
   have o17 : ¬ x.op = 17 := by omega
   have o18 : ¬ x.op = 18 := by omega
   have o19 : ¬ x.op = 19 := by omega
   have o20 : ¬ x.op = 20 := by omega
   have o21 : ¬ x.op = 21 := by omega
   have o22 : ¬ x.op = 22 := by omega
   have o23 : ¬ x.op = 23 := by omega
   have o24 : ¬ x.op = 24 := by omega
   refine F137.calls (by simp) ?_
   delta F137.c0 F137.c5
   simp only [go_sem,seval, hz, h512', o1, o2, o3, o4, o5, o6, o7, o8, o9, o10, o11, o12, o13, o14, o15, o16, o17, o18, o19, o20, o21, o22, o23, o24]
   delta F137.c12
   simp only [go_sem,seval, o1, o2, o3, o4, o5, o6, o7, o8, o9, o10, o11, o12, o13, o14, o15, o16, o17, o18, o19, o20, o21, o22, o23, o24]
   delta F137.c14
   simp only [go_sem,seval, o1, o2, o3, o4, o5, o6, o7, o8, o9, o10, o11, o12, o13, o14, o15, o16, o17, o18, o19, o20, o21, o22, o23, o24]
   delta F137.c16
   simp only [go_sem,seval, o1, o2, o3, o4, o5, o6, o7, o8, o9, o10, o11, o12, o13, o14, o15, o16, o17, o18, o19, o20, o21, o22, o23, o24]
   delta F137.c18
   simp only [go_sem,seval, o1, o2, o3, o4, o5, o6, o7, o8, o9, o10, o11, o12, o13, o14, o15, o16, o17, o18, o19, o20, o21, o22, o23, o24]
   delta F137.c21
   simp only [go_sem,seval, o1, o2, o3, o4, o5, o6, o7, o8, o9, o10, o11, o12, o13, o14, o15, o16, o17, o18, o19, o20, o21, o22, o23, o24]
   delta F137.c24
   simp only [go_sem,seval, o1, o2, o3, o4, o5, o6, o7, o8, o9, o10, o11, o12, o13, o14, o15, o16, o17, o18, o19, o20, o21, o22, o23, o24]
   delta F137.c27
   simp only [go_sem,seval, o1, o2, o3, o4, o5, o6, o7, o8, o9, o10, o11, o12, o13, o14, o15, o16, o17, o18, o19, o20, o21, o22, o23, o24]
   delta F137.c31
   simp only [go_sem,seval, o1, o2, o3, o4, o5, o6, o7, o8, o9, o10, o11, o12, o13, o14, o15, o16, o17, o18, o19, o20, o21, o22, o23, o24]
   delta F137.c34
   simp only [go_sem,seval, o1, o2, o3, o4, o5, o6, o7, o8, o9, o10, o11, o12, o13, o14, o15, o16, o17, o18, o19, o20, o21, o22, o23, o24]
   delta F137.c36
   simp only [go_sem,seval, o1, o2, o3, o4, o5, o6, o7, o8, o9, o10, o11, o12, o13, o14, o15, o16, o17, o18, o19, o20, o21, o22, o23, o24]
   delta F137.c38
   simp only [go_sem,seval, o1, o2, o3, o4, o5, o6, o7, o8, o9, o10, o11, o12, o13, o14, o15, o16, o17, o18, o19, o20, o21, o22, o23, o24]
   delta F137.c40
   simp only [go_sem,seval, o1, o2, o3, o4, o5, o6, o7, o8, o9, o10, o11, o12, o13, o14, o15, o16, o17, o18, o19, o20, o21, o22, o23, o24]
   delta F137.c42
   simp only [go_sem,seval, o1, o2, o3, o4, o5, o6, o7, o8, o9, o10, o11, o12, o13, o14, o15, o16, o17, o18, o19, o20, o21, o22, o23, o24]
   delta F137.c44
   simp only [go_sem,seval, o1, o2, o3, o4, o5, o6, o7, o8, o9, o10, o11, o12, o13, o14, o15, o16, o17, o18, o19, o20, o21, o22, o23, o24]
   delta F137.c46
   simp only [go_sem,seval, o1, o2, o3, o4, o5, o6, o7, o8, o9, o10, o11, o12, o13, o14, o15, o16, o17, o18, o19, o20, o21, o22, o23, o24]
   delta F137.c48
   simp only [go_sem,seval, o1, o2, o3, o4, o5, o6, o7, o8, o9, o10, o11, o12, o13, o14, o15, o16, o17, o18, o19, o20, o21, o22, o23, o24]
   delta F137.c50
   simp only [go_sem,seval, o1, o2, o3, o4, o5, o6, o7, o8, o9, o10, o11, o12, o13, o14, o15, o16, o17, o18, o19, o20, o21, o22, o23, o24]
   delta F137.c52
   simp only [go_sem,seval, o1, o2, o3, o4, o5, o6, o7, o8, o9, o10, o11, o12, o13, o14, o15, o16, o17, o18, o19, o20, o21, o22, o23, o24]
   delta F137.c54
   simp only [go_sem,seval, o1, o2, o3, o4, o5, o6, o7, o8, o9, o10, o11, o12, o13, o14, o15, o16, o17, o18, o19, o20, o21, o22, o23, o24]
   delta F137.c56
   simp only [go_sem,seval, o1, o2, o3, o4, o5, o6, o7, o8, o9, o10, o11, o12, o13, o14, o15, o16, o17, o18, o19, o20, o21, o22, o23, o24]
   delta F137.c58
   simp only [go_sem,seval, o1, o2, o3, o4, o5, o6, o7, o8, o9, o10, o11, o12, o13, o14, o15, o16, o17, o18, o19, o20, o21, o22, o23, o24]
   refine .same ⟨?_, rfl⟩
   have : ¬ (1 ≤ x.op ∧ x.op ≤ 24) := by omega
   by_cases p1 : 1 ≤ x.op <;> by_cases p2 : x.op ≤ 24 <;> simp [form_eq, p1, p2]
   exact (this ⟨p1, p2⟩).elim
  ·have h512' : ((x.l.length : Int) > 512) = True := by simp; omega
   refine F137.calls (by simp) ?_
   delta F137.c0
   simp only [go_sem,seval, hz, h512']
   exact .same ⟨by simp [form_eq, h512], rfl⟩
theorem Expr_spec [GI] (x : Expr) (ho : x.ok) (hf : x.fit) (h : AHeap) : ACalls prog 92 [.int .i64 0, .agg (eExpr x)] h (fun v g => v = .bool (tExpr x) ∧ g = h) := by
 refine F92.calls (by simp) ?_
 delta F92.c0
 simp only [go_sem,seval]
 refine tcE (form_spec 48 x (by omega) ho hf h) ?_
 cases hx : form 48 x with
 | false =>
  simp only [go_sem,seval]
  exact .same ⟨by simp [tExpr, hx], rfl⟩
 | true =>
  simp only [go_sem,seval]
  refine tcE (Deep_spec 99 x (by omega) ho h) ?_
  simp only [go_sem,seval]
  refine .same ⟨?_, rfl⟩
  simp only [tExpr, hx, Bool.true_and]
  congr 2
  simp; omega
theorem place_spec [GI] (x : Expr) (ho : x.ok) (hf : x.fit) (h : AHeap) : ACalls prog 93 [.int .i64 0, .agg (eExpr x)] h (fun v g => v = .bool (tPlace x) ∧ g = h) := by
 refine F93.calls (by simp) ?_
 delta F93.c0
 by_cases h1 : 4 ≤ x.op
 ·have h1' : (x.op ≥ 4) = True := by simp [h1]
  by_cases h2 : x.op ≤ 6
  ·simp only [go_sem,seval, h1', h2]
   refine tcE (Expr_spec x ho hf h) ?_
   simp only [go_sem,seval]
   exact .same ⟨by simp [tPlace, h1, h2], rfl⟩
  ·simp only [go_sem,seval, h1', h2]
   exact .same ⟨by simp [tPlace, h2], rfl⟩
 ·have h1' : (x.op ≥ 4) = False := by simpa using h1
  simp only [go_sem,seval, h1']
  exact .same ⟨by simp [tPlace, h1], rfl⟩
theorem none_spec [GI] (x : Expr) (h : AHeap) : ACalls prog 94 [.agg (eExpr x)] h (fun v g => v = .bool (tNone x) ∧ g = h) := by
 refine F94.calls (by simp) ?_
 delta F94.c0
 simp only [go_sem,seval]
 repeat' (refine agateT_split (fun hg => ?_) (fun hg => ?_) <;> simp only [go_sem,seval, hg, Bool.not_true, Bool.not_false])
 all_goals
  refine .same ⟨?_, rfl⟩
  congr 1
  try simp only [Bool.not_true, Bool.not_false, decide_eq_true_eq, decide_eq_false_iff_not] at *
  try rw [Bool.eq_iff_iff]
  try simp [tNone, noBytes, *]
  try omega
end Pg
