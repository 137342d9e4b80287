import Derived.Test.YtlflapoljegmoaaGreatDoorTreeSD
import Derived.Test.YtlflapoljegmoaaGreatDoorCodeBJD
import Derived.Test.YtlflapoljegmoaaGreatDoorTreeSpecD
import Derived.Test.YtlflapoljegmoaaGreatDoorWeighJD
set_option linter.all false
set_option maxHeartbeats 4000000
set_option maxRecDepth 4000
namespace Pg
open Go Go.Proofs.Tryz
theorem few_bytes {s : ByteArray} (hs : short s) : few (bytes s) := by
 unfold short at hs; unfold few bytes
 rw [Array.length_toList]; exact hs
theorem bytes_len (s : ByteArray) : (bytes s).length = s.size := by unfold bytes; rw [Array.length_toList]; rfl
theorem six_at {s : ByteArray} {pre post : List UInt8} {c : UInt8} (h : bytes s = pre ++ c :: post) : asix (.str s) (.int .i64 (pre.length : Int)) = some (.int .u8 (c.toNat : Int)) := by
 have h1 : (bytes s)[pre.length]? = some c := by rw [h]; simp
 have h2 : s[pre.length]? = some c := by
  have hb : pre.length < s.size := by rw [← bytes_len, h]; simp
  rw [getElem?_pos s pre.length hb]
  unfold bytes at h1
  rw [Array.getElem?_toList, getElem?_pos s.data pre.length hb] at h1
  exact h1
 simp [asix, h2]
theorem six_lt {s : ByteArray} {pre post : List UInt8} {c : UInt8} (h : bytes s = pre ++ c :: post) : ((pre.length : Int) < (s.size : Int)) = True := by
 rw [← bytes_len, h]; simp; omega
theorem six_end (s : ByteArray) : (((bytes s).length : Int) < (s.size : Int)) = False := by rw [bytes_len]; simp
theorem Letter_spec [GI] (h : AHeap) (c : Nat) (f : Bool) : ACalls prog 72 [.int .u8 (c : Int), .bool f] h (fun v g => v = .bool (letter c f) ∧ g = h) := by
 refine F72.calls (by simp) ?_
 delta F72.c0
 cases f
 all_goals
  simp only [go_sem,seval]
  repeat' (refine agateT_split (fun hg => ?_) (fun hg => ?_) <;> simp only [go_sem,seval, hg, Bool.not_true, Bool.not_false])
  all_goals
   refine .same ⟨?_, rfl⟩
   congr 1
   try simp only [Bool.not_true, Bool.not_false, decide_eq_true_eq, decide_eq_false_iff_not] at *
   try rw [Bool.eq_iff_iff]
   try simp [letter]
   try omega
theorem right_spec [GI] (h : AHeap) (c : Nat) : ACalls prog 74 [.int .u8 (c : Int)] h (fun v g => v = .bool (noteByte c) ∧ g = h) := by
 refine F74.calls (by simp) ?_
 delta F74.c0
 simp only [go_sem,seval]
 repeat' (refine agateT_split (fun hg => ?_) (fun hg => ?_) <;> simp only [go_sem,seval, hg, Bool.not_true, Bool.not_false])
 all_goals
  refine .same ⟨?_, rfl⟩
  congr 1
  try simp only [Bool.not_true, Bool.not_false, decide_eq_true_eq, decide_eq_false_iff_not] at *
  try rw [Bool.eq_iff_iff]
  try simp [noteByte]
  try omega
theorem nameCode_spec [GI] (h : AHeap) (s : ByteArray) (hs : short s) : ACalls prog 48 [.str s] h (fun v g => v = .int .i64 (nameCode s) ∧ g = h) := by
 refine F48.calls (by simp) ?_
 delta F48.c0
 by_cases he : s = noBytes
 ·subst he
  simp only [go_sem,seval]
  exact .same ⟨rfl, rfl⟩
 ·have he' : (s = (⟨#[]⟩ : ByteArray)) = False := by simpa using he
  simp only [go_sem,seval, he']
  refine lT_list (bytes s) (fun pre post e g => (letters true (bytes s) = letters (decide (pre.length = 0)) post ∧ g = h) ∧ e = [(0, .str s), (3, .int .i64 pre.length)]) (WeakE.env ?_) ⟨⟨rfl, rfl⟩, rfl⟩ ?_ ?_
  ·simp only [go_sem,seval]
  ·rintro pre c post e g hp ⟨⟨hl, rfl⟩, rfl⟩
   have hz : (decide ((pre.length : Int) = 0)) = decide (pre.length = 0) := by congr 1; simp
   simp only [go_sem,seval, six_lt hp, six_at hp, hz]
   refine tcE (Letter_spec g c.toNat (decide (pre.length = 0))) ?_
   simp only [go_sem,seval]
   cases hc : letter c.toNat (decide (pre.length = 0)) with
   | true =>
    simp only [go_sem,seval]
    refine ⟨_, _, WeakE.env ?_, ⟨?_, rfl⟩, rfl⟩
    ·simp only [go_sem,seval, step_at (few_bytes hs) hp]
    ·have hz2 : decide ((pre ++ [c]).length = 0) = false := by simp
     rw [hl, hz2]; simp only [letters, hc, Bool.true_and]
   | false =>
    simp only [go_sem,seval]
    refine lessQ.same ?_
    simp only [go_sem,seval]
    refine .same ⟨?_, rfl⟩
    have hf : letters true (bytes s) = false := by rw [hl]; simp only [letters, hc, Bool.false_and]
    simp [nameCode, he, hf]
  ·rintro e g ⟨⟨hl, rfl⟩, rfl⟩
   simp only [go_sem,seval, six_end]
   refine lessQ.same ?_
   simp only [go_sem,seval]
   have hl' : letters true (bytes s) = true := by rw [hl]; rfl
   by_cases hb : 32 < s.size
   ·have hb' : ((s.size : Int) > 32) = True := by simp; omega
    simp only [go_sem,seval, hb']
    exact .same ⟨by simp [nameCode, he, hl', hb], rfl⟩
   ·have hb' : ((s.size : Int) > 32) = False := by simp; omega
    simp only [go_sem,seval, hb']
    exact .same ⟨by simp [nameCode, he, hl', hb], rfl⟩
theorem tNote_spec [GI] (h : AHeap) (s : ByteArray) (hs : short s) : ACalls prog 50 [.str s] h (fun v g => (∃ n : Int, v = .int .i64 n ∧ decide (n = 0) = tNote s) ∧ g = h) := by
 refine F50.calls (by simp) ?_
 delta F50.c0
 simp only [go_sem,seval]
 by_cases hb : s.size ≤ 1024
 ·have hb' : ((s.size : Int) > 1024) = False := by simp; omega
  simp only [go_sem,seval, hb']
  refine lT_list (bytes s) (fun pre post e g => ((bytes s).all (fun c => noteByte c.toNat) = post.all (fun c => noteByte c.toNat) ∧ g = h) ∧ e = [(0, .str s), (3, .int .i64 pre.length)]) (WeakE.env ?_) ⟨⟨rfl, rfl⟩, rfl⟩ ?_ ?_
  ·simp only [go_sem,seval]
  ·rintro pre c post e g hp ⟨⟨hl, rfl⟩, rfl⟩
   simp only [go_sem,seval, six_lt hp, six_at hp]
   refine tcE (right_spec g c.toNat) ?_
   simp only [go_sem,seval]
   cases hc : noteByte c.toNat with
   | true =>
    simp only [go_sem,seval]
    refine ⟨_, _, WeakE.env ?_, ⟨?_, rfl⟩, rfl⟩
    ·simp only [go_sem,seval, step_at (few_bytes hs) hp]
    ·rw [hl]; simp [hc]
   | false =>
    simp only [go_sem,seval]
    refine lessQ.same ?_
    simp only [go_sem,seval]
    refine .same ⟨⟨8, rfl, ?_⟩, rfl⟩
    simp [tNote, hl, hc]
  ·rintro e g ⟨⟨hl, rfl⟩, rfl⟩
   simp only [go_sem,seval, six_end]
   refine lessQ.same ?_
   simp only [go_sem,seval]
   refine .same ⟨⟨0, rfl, ?_⟩, rfl⟩
   simp only [tNote, hl, hb]
   rfl
 ·have hb' : ((s.size : Int) > 1024) = True := by simp; omega
  simp only [go_sem,seval, hb']
  refine .same ⟨⟨3, rfl, ?_⟩, rfl⟩
  simp [tNote, hb]
theorem texts_at {l pre post : List ByteArray} {x : ByteArray} (h : l = pre ++ x :: post) : (l.map fun s => [AV.str s])[pre.length]? = some [.str x] := by subst h; simp
theorem Among_spec [GI] (h : AHeap) (l : List ByteArray) (hl : few l) (full : Bool) (s : ByteArray) : ACalls prog 17 [.sl (l.map fun s => [.str s]) full, .str s] h (fun v g => v = .bool (among s l) ∧ g = h) := by
 refine F17.calls (by simp) ?_
 delta F17.c0
 simp only [go_sem,seval]
 refine lT_list l (fun pre post e g => (among s l = among s post ∧ g = h) ∧ e = [(0, .sl (l.map fun s => [.str s]) full), (1, .str s), (5, .int .i64 pre.length)]) (WeakE.env ?_) ⟨⟨rfl, rfl⟩, rfl⟩ ?_ ?_
 ·simp only [go_sem,seval]
 ·rintro pre x post e g hp ⟨⟨hn, rfl⟩, rfl⟩
  simp only [go_sem,seval, lt_at hp, aia_sl (texts_at hp) (show _ = 1 from rfl)]
  by_cases hx : x = s
  ·subst hx
   simp only [go_sem,seval]
   refine lessQ.same ?_
   simp only [go_sem,seval]
   exact .same ⟨by rw [hn]; simp [among], rfl⟩
  ·simp only [go_sem,seval, hx]
   refine ⟨_, _, WeakE.env ?_, ⟨?_, rfl⟩, rfl⟩
   ·simp only [go_sem,seval, step_at hl hp]
   ·rw [hn]; simp [among, hx]
 ·rintro e g ⟨⟨hn, rfl⟩, rfl⟩
  simp only [go_sem,seval, lt_end]
  refine lessQ.same ?_
  simp only [go_sem,seval]
  exact .same ⟨by rw [hn]; simp [among], rfl⟩
theorem All_spec [GI] (h : AHeap) : ACalls prog 73 [.int .i64 0] h (fun v g => v = .sl (words0.map fun s => [.str s]) true ∧ g = h) := by
 refine F73.calls (by simp) ?_
 delta F73.c0
 simp only [go_sem,seval]
 exact .same ⟨rfl, rfl⟩
theorem Is_spec [GI] (h : AHeap) (s : ByteArray) : ACalls prog 49 [.int .i64 0, .str s] h (fun v g => v = .bool (among s words0) ∧ g = h) := by
 refine F49.calls (by simp) ?_
 delta F49.c0
 simp only [go_sem,seval]
 refine tcE (All_spec h) ?_
 simp only [go_sem,seval]
 refine tcE (Among_spec h words0 (by unfold few; decide) true s) ?_
 simp only [go_sem,seval]
 exact .same ⟨rfl, rfl⟩
theorem Name_spec [GI] (h : AHeap) (s : ByteArray) (hs : short s) : ACalls prog 21 [.int .i64 0, .str s] h (fun v g => v = .bool (tName s) ∧ g = h) := by
 refine F21.calls (by simp) ?_
 delta F21.c0
 simp only [go_sem,seval]
 refine tcE (nameCode_spec h s hs) ?_
 simp only [go_sem,seval]
 by_cases hc : nameCode s = 0
 ·simp only [go_sem,seval, hc]
  refine tcE (Is_spec h s) ?_
  simp only [go_sem,seval]
  exact .same ⟨by simp [tName, hc], rfl⟩
 ·simp only [go_sem,seval, hc]
  exact .same ⟨by simp [tName, hc], rfl⟩
theorem notes_spec [GI] (h : AHeap) (l : List ByteArray) (hl : few l) (hs : shorts l) : ACalls prog 22 [eTexts l] h (fun v g => v = .bool (tNotes l) ∧ g = h) := by
 unfold eTexts
 refine F22.calls (by simp) ?_
 delta F22.c0
 simp only [go_sem,seval]
 refine lT_list l (fun pre post e g => (l.all tNote = post.all tNote ∧ g = h) ∧ e = [(0, .sl (l.map fun s => [.str s]) false), (3, .int .i64 pre.length)]) (WeakE.env ?_) ⟨⟨rfl, rfl⟩, rfl⟩ ?_ ?_
 ·simp only [go_sem,seval]
 ·rintro pre x post e g hp ⟨⟨hn, rfl⟩, rfl⟩
  simp only [go_sem,seval, lt_at hp, aia_sl (texts_at hp) (show _ = 1 from rfl)]
  refine callT_of (tNote_spec g x (hs x (mem_at hp))) (fun v k ⟨⟨n, hv, ht⟩, hk⟩ => ?_)
  subst hv hk
  by_cases hz : n = 0
  ·simp only [go_sem,seval, hz]
   refine ⟨_, _, WeakE.env ?_, ⟨?_, rfl⟩, rfl⟩
   ·simp only [go_sem,seval, step_at hl hp]
   ·rw [hn]; simp [← ht, hz]
  ·simp only [go_sem,seval, hz]
   refine lessQ.same ?_
   simp only [go_sem,seval]
   exact .same ⟨by simp [tNotes, hn, ← ht, hz], rfl⟩
 ·rintro e g ⟨⟨hn, rfl⟩, rfl⟩
  simp only [go_sem,seval, lt_end]
  refine lessQ.same ?_
  simp only [go_sem,seval]
  refine .same ⟨?_, rfl⟩
  simp only [tNotes, hn, List.all_nil, Bool.true_and]
  congr 2
  simp; omega
theorem marks_spec [GI] (h : AHeap) (a b : List ByteArray) (ha : few a) (hb : few b) (sa : shorts a) (sb : shorts b) : ACalls prog 23 [.agg [eTexts a, eTexts b]] h (fun v g => v = .bool (tMarks a b) ∧ g = h) := by
 refine F23.calls (by simp) ?_
 delta F23.c0
 simp only [go_sem,seval]
 refine tcE (notes_spec h a ha sa) ?_
 simp only [go_sem,seval]
 cases hx : tNotes a with
 | true =>
  simp only [go_sem,seval]
  refine tcE (notes_spec h b hb sb) ?_
  simp only [go_sem,seval]
  exact .same ⟨by simp [tMarks, hx], rfl⟩
 | false =>
  simp only [go_sem,seval]
  exact .same ⟨by simp [tMarks, hx], rfl⟩
theorem Type_spec [GI] (h : AHeap) (t : Typ) (ht : short t.name) : ACalls prog 51 [.int .i64 0, .agg (eTyp t)] h (fun v g => v = .bool (tTyp t) ∧ g = h) := by
 refine F51.calls (by simp) ?_
 delta F51.c0
 simp only [go_sem,seval]
 by_cases hk : t.kind = 4
 ·simp only [go_sem,seval, hk]
  by_cases hz : t.size = 0
  ·simp only [go_sem,seval, hz]
   refine tcE (Name_spec h t.name ht) ?_
   simp only [go_sem,seval]
   exact .same ⟨by simp [tTyp, hk, hz], rfl⟩
  ·simp only [go_sem,seval, hz]
   exact .same ⟨by simp [tTyp, hk, hz], rfl⟩
 ·simp only [go_sem,seval, hk]
  repeat' (refine agateT_split (fun hg => ?_) (fun hg => ?_) <;> simp only [go_sem,seval, hg, Bool.not_true, Bool.not_false])
  all_goals
   refine .same ⟨?_, rfl⟩
   congr 1
   try simp only [Bool.not_true, Bool.not_false, decide_eq_true_eq, decide_eq_false_iff_not] at *
   try rw [Bool.eq_iff_iff]
   try simp [tTyp, hk, noBytes, *]
   try omega
end Pg
namespace Pg
open Go Go.Proofs.Tryz
theorem deep_eq (n : Nat) (x : Expr) : deep n x = deeps n x.l + 1 := by obtain ⟨op, k, name, field, l⟩ := x; rw [deep]
theorem deeps_zero (l : List Expr) : deeps 0 l = 0 := by rw [deeps]
theorem deeps_nil (n : Nat) : deeps n [] = 0 := by cases n <;> rw [deeps]
theorem deeps_cons (n : Nat) (x : Expr) (r : List Expr) : deeps (n + 1) (x :: r) = max (if x.op = 25 then 0 else deep n x) (deeps (n + 1) r) := by rw [deeps]
theorem deep_le : ∀ (n : Nat) (x : Expr), deep n x ≤ n + 1
 | 0, x => by rw [deep_eq, deeps_zero]; omega
 | n + 1, x => by
  rw [deep_eq]
  have : ∀ l : List Expr, deeps (n + 1) l ≤ n + 1 := by
   intro l
   induction l with
   | nil => rw [deeps_nil]; omega
   | cons y r ih =>
    rw [deeps_cons]
    have := deep_le n y
    split <;> omega
  have := this x.l
  omega
theorem deeps_le (n : Nat) (l : List Expr) : deeps n l ≤ n := by
 have := deep_le n ⟨0, 0, noBytes, noBytes, l⟩
 rw [deep_eq] at this
 simp only at this
 omega
theorem Deep_spec [GI] : ∀ (n : Nat) (x : Expr), n ≤ 99 → x.ok → ∀ h : AHeap, ACalls prog 111 [.agg (eExpr x), .int .i64 (n : Int)] h (fun v g => v = .int .i64 (deep n x : Int) ∧ g = h)
 | 0, x, hn, ho, h => by
  refine F111.calls (by simp) ?_
  delta F111.c0
  simp only [go_sem,seval]
  refine lT_round ?_
  simp only [go_sem,seval]
  by_cases hl : (0 : Int) < x.l.length
  ·simp only [go_sem,seval, hl, Int.ofNat_zero]
   refine .same ⟨?_, rfl⟩
   rw [deep_eq, deeps_zero]; rfl
  ·simp only [go_sem,seval, hl]
   refine .same ⟨?_, rfl⟩
   rw [deep_eq, deeps_zero]; rfl
 | n + 1, x, hn, ho, h => by
  obtain ⟨hl, he⟩ := (Expr.ok_iff x).1 ho
  have hpos : (((n + 1 : Nat) : Int) > 0) = True := by simp
  refine F111.calls (by simp) ?_
  delta F111.c0
  simp only [go_sem,seval]
  refine lT_list x.l (fun pre post e g => (∃ d : Nat, (deeps (n + 1) x.l = max d (deeps (n + 1) post) ∧ e = [(1, .int .i64 ((n + 1 : Nat) : Int)), (2, .ip (eExpr x) 0), (5, .int .i64 (d : Int)), (6, .int .i64 pre.length)])) ∧ g = h) (WeakE.env ?_) ⟨⟨0, by simp, rfl⟩, rfl⟩ ?_ ?_
  ·simp only [go_sem,seval]
  ·rintro pre y post e g hp ⟨⟨d, hd, rfl⟩, rfl⟩
   simp only [go_sem,seval, lt_at hp, hpos, aia_sl (map_at hp) (eExpr_len y)]
   by_cases h25 : y.op = 25
   ·simp only [go_sem,seval, h25]
    refine ⟨_, _, WeakE.env ?_, ⟨d, ?_, rfl⟩, rfl⟩
    ·simp only [go_sem,seval, step_at hl hp]
    ·rw [hd, deeps_cons, if_pos h25]; omega
   ·have hw : IntKind.i64.wrap (((n + 1 : Nat) : Int) - 1) = (n : Int) := by rw [wrap64 (by omega) (by omega)]; omega
    simp only [go_sem,seval, h25, aia_sl (map_at hp) (eExpr_len y), hw]
    refine tcE (Deep_spec n y (by omega) (he y (mem_at hp)) g) ?_
    simp only [go_sem,seval]
    refine ⟨_, _, WeakE.env ?_, ⟨max d (deep n y), ?_, rfl⟩, rfl⟩
    ·simp only [go_sem,seval, step_at hl hp]
     exact AVle.int (by split <;> omega)
    ·rw [hd, deeps_cons, if_neg h25]; omega
  ·rintro e g ⟨⟨d, hd, rfl⟩, rfl⟩
   simp only [go_sem,seval, lt_end]
   refine lessQ.same ?_
   simp only [go_sem,seval]
   have hb := deeps_le (n + 1) x.l
   rw [deeps_nil] at hd
   have hd' : deeps (n + 1) x.l = d := by omega
   refine .same ⟨?_, rfl⟩
   rw [deep_eq, hd', wrap64 (by omega) (by omega)]
   simp
theorem form_tail [GI] (n : Nat) (hn : n ≤ 47) (x : Expr) (hl : few x.l) (ih : ∀ y ∈ x.l, ∀ h, ACalls prog 110 [.int .i64 0, .agg (eExpr y), .int .i64 (n : Int)] h (fun v g => v = .bool (form n y) ∧ g = h))
  (h : AHeap) (K : AV → AHeap → Prop) (e : Env) (want : Int) (b1 b2 b3 : Bool) (h0 : e.get 0 = .int .i64 0) (h2 : e.get 2 = .int .i64 ((n + 1 : Nat) : Int)) (h4 : e.get 4 = .ip (eExpr x) 0) (h7 : e.get 7 = .int .i64 want) (h8 : e.get 8 = .bool b1) (h9 : e.get 9 = .bool b2) (h10 : e.get 10 = .bool b3)
  (k : K (.bool (b1 && b2 && b3 && decide ((x.l.length : Int) = want) && forms n x.l)) h) : wT .go prog 178 F110.c62 (fun x e h t => atEndT t [.tmp 6] (EndW K) x e h) e h := by
 delta F110.c62
 have hw : IntKind.i64.wrap (((n + 1 : Nat) : Int) - 1) = (n : Int) := by rw [wrap64 (by omega) (by omega)]; omega
 cases b1 <;> cases b2 <;> cases b3
 all_goals try
  simp only [go_sem,seval, h8, h9, h10, h4, h7]
  exact .same k
 simp only [go_sem,seval, h8, h9, h10, h4, h7]
 by_cases hz : (x.l.length : Int) = want
 ·simp only [go_sem,seval, hz, h4]
  refine lT_list x.l (fun pre post e g => (forms n x.l = forms n post ∧ g = h) ∧ e = [(0, .int .i64 0), (2, .int .i64 ((n + 1 : Nat) : Int)), (4, .ip (eExpr x) 0), (11, .bool false), (12, .int .i64 pre.length)]) (WeakE.env ?_) ⟨⟨rfl, rfl⟩, rfl⟩ ?_ ?_
  ·simp only [go_sem,seval, h0, h2, h4]
  ·rintro pre y post e g hp ⟨⟨hs, rfl⟩, rfl⟩
   simp only [go_sem,seval, lt_at hp, aia_sl (map_at hp) (eExpr_len y)]
   by_cases h25 : y.op = 25
   ·simp only [go_sem,seval, h25]
    refine lessQ.same ?_
    simp only [go_sem,seval]
    have hf : forms n x.l = false := by rw [hs]; simp [forms, h25]
    rw [hf] at k
    exact .same (by simpa using k)
   ·simp only [go_sem,seval, h25, hw]
    refine tcE (ih y (mem_at hp) g) ?_
    cases hy : form n y with
    | true =>
     simp only [go_sem,seval]
     refine ⟨_, _, WeakE.env ?_, ⟨?_, rfl⟩, rfl⟩
     ·simp only [go_sem,seval, step_at hl hp]
     ·rw [hs]; simp [forms, h25, hy]
    | false =>
     simp only [go_sem,seval]
     refine lessQ.same ?_
     simp only [go_sem,seval]
     have hf : forms n x.l = false := by rw [hs]; simp [forms, hy]
     rw [hf] at k
     exact .same (by simpa using k)
  ·rintro e g ⟨⟨hs, rfl⟩, rfl⟩
   simp only [go_sem,seval, lt_end]
   refine lessQ.same ?_
   simp only [go_sem,seval]
   have hf : forms n x.l = true := by rw [hs]; simp [forms]
   rw [hf] at k
   exact .same (by simpa [hz] using k)
 ·simp only [go_sem,seval, hz]
  exact .same (by simpa [hz] using k)
theorem form_eq (n : Nat) (x : Expr) : form (n + 1) x = (decide (x.l.length ≤ 512) && decide (1 ≤ x.op) && decide (x.op ≤ 24) && partsOk x && forms n x.l) := by obtain ⟨op, k, name, field, l⟩ := x; rw [form]
theorem RoutineName_spec [GI] (h : AHeap) (s : ByteArray) (hs : short s) : ACalls prog 52 [.int .i64 0, .str s] h (fun v g => v = .bool (tName s) ∧ g = h) := by
 refine F52.calls (by simp) ?_
 delta F52.c0
 simp only [go_sem,seval]
 refine tcE (Name_spec h s hs) ?_
 simp only [go_sem,seval]
 exact .same ⟨rfl, rfl⟩
theorem form_spec [GI] : ∀ (n : Nat) (x : Expr), n ≤ 48 → x.ok → x.fit → ∀ h : AHeap, ACalls prog 110 [.int .i64 0, .agg (eExpr x), .int .i64 (n : Int)] h (fun v g => v = .bool (form n x) ∧ g = h) := by
 intro n
 induction n with
 | zero =>
  intro x hn ho hf h
  have hz0 : (((0 : Nat) : Int) = 0) = True := by simp
  refine F110.calls (by simp) ?_
  delta F110.c0
  simp only [go_sem,seval, hz0]
  exact .same ⟨by rw [form], rfl⟩
 | succ n ihn =>
  intro x hn ho hf h
  obtain ⟨hl, he⟩ := (Expr.ok_iff x).1 ho
  have hft := (Expr.fit_iff x).1 hf
  have ih : ∀ y ∈ x.l, ∀ h, ACalls prog 110 [.int .i64 0, .agg (eExpr y), .int .i64 (n : Int)] h (fun v g => v = .bool (form n y) ∧ g = h) := fun y hy h => ihn y (by omega) (he y hy) (hft.2.2.2.2 y hy) h
  have hz : (((n + 1 : Nat) : Int) = 0) = False := by simp; omega
  by_cases h512 : x.l.length ≤ 512
  ·have h512' : ((x.l.length : Int) > 512) = False := by simp; omega
   have tail : ∀ (e : Env) (want : Int) (b1 b2 b3 : Bool), e.get 0 = .int .i64 0 → e.get 2 = .int .i64 ((n + 1 : Nat) : Int) → e.get 4 = .ip (eExpr x) 0 → e.get 7 = .int .i64 want → e.get 8 = .bool b1 → e.get 9 = .bool b2 → e.get 10 = .bool b3 → 1 ≤ x.op → x.op ≤ 24 →
     (b1 && b2 && b3 && decide ((x.l.length : Int) = want)) = partsOk x → wT .go prog 178 F110.c62 (fun y e' h' t => atEndT t [.tmp 6] (EndW (fun v g => v = .bool (form (n + 1) x) ∧ g = h)) y e' h') e h := by
    intro e want b1 b2 b3 h0 h2 h4 h7 h8 h9 h10 o1 o2 hp
    refine form_tail n (by omega) x hl ih h _ e want b1 b2 b3 h0 h2 h4 h7 h8 h9 h10 ⟨?_, rfl⟩
    rw [hp, form_eq]
    simp [h512, o1, o2]
   by_cases o1 : x.op = 1
   ·
    refine F110.calls (by simp) ?_
    delta F110.c0 F110.c5
    simp only [go_sem,seval, hz, h512', o1]
    refine tail _ 0 (decide (x.n ≥ 0)) (decide (x.name = (⟨#[]⟩ : ByteArray))) (decide (x.field = (⟨#[]⟩ : ByteArray))) rfl rfl rfl rfl rfl rfl rfl (by omega) (by omega) ?_
    simp [partsOk, o1, noBytes]
   by_cases o2 : x.op = 2
   ·
    refine F110.calls (by simp) ?_
    delta F110.c0 F110.c5
    simp only [go_sem,seval, hz, h512', o2]
    delta F110.c12
    simp only [go_sem,seval, o2]
    refine agateT_split (fun hg => ?_) (fun hg => ?_) <;> simp only [go_sem,seval, hg, Bool.not_true, Bool.not_false]
    ·
     refine tail _ 0 (decide (x.n = 1)) (decide (x.name = (⟨#[]⟩ : ByteArray))) (decide (x.field = (⟨#[]⟩ : ByteArray))) rfl rfl rfl rfl rfl rfl rfl (by omega) (by omega) ?_
     simp at hg
     simp [hg, partsOk, o2, noBytes]
    ·
     refine tail _ 0 true (decide (x.name = (⟨#[]⟩ : ByteArray))) (decide (x.field = (⟨#[]⟩ : ByteArray))) rfl rfl rfl rfl rfl rfl rfl (by omega) (by omega) ?_
     simp at hg
     simp [hg, partsOk, o2, noBytes]
   by_cases o3 : x.op = 3
   ·
    refine F110.calls (by simp) ?_
    delta F110.c0 F110.c5
    simp only [go_sem,seval, hz, h512', o3]
    delta F110.c12
    simp only [go_sem,seval, o3]
    delta F110.c14
    simp only [go_sem,seval, o3]
    refine agateT_split (fun hg => ?_) (fun hg => ?_) <;> simp only [go_sem,seval, hg, Bool.not_true, Bool.not_false]
    ·
     refine tail _ 0 (decide (x.n ≤ 255)) (decide (x.name = (⟨#[]⟩ : ByteArray))) (decide (x.field = (⟨#[]⟩ : ByteArray))) rfl rfl rfl rfl rfl rfl rfl (by omega) (by omega) ?_
     simp at hg
     simp [hg, partsOk, o3, noBytes]
    ·
     refine tail _ 0 false (decide (x.name = (⟨#[]⟩ : ByteArray))) (decide (x.field = (⟨#[]⟩ : ByteArray))) rfl rfl rfl rfl rfl rfl rfl (by omega) (by omega) ?_
     simp at hg
     simp [hg, partsOk, o3, noBytes]
     intro hh; omega
   by_cases o4 : x.op = 4
   ·
    refine F110.calls (by simp) ?_
    delta F110.c0 F110.c5
    simp only [go_sem,seval, hz, h512', o4]
    delta F110.c12
    simp only [go_sem,seval, o4]
    delta F110.c14
    simp only [go_sem,seval, o4]
    delta F110.c16
    simp only [go_sem,seval, o4]
    refine tcE (Name_spec h x.name hft.2.2.1) ?_
    simp only [go_sem,seval]
    refine tail _ 0 (decide (x.n = 0)) (tName x.name) (decide (x.field = (⟨#[]⟩ : ByteArray))) rfl rfl rfl rfl rfl rfl rfl (by omega) (by omega) ?_
    simp [partsOk, o4, noBytes]
   by_cases o5 : x.op = 5
   ·
    refine F110.calls (by simp) ?_
    delta F110.c0 F110.c5
    simp only [go_sem,seval, hz, h512', o5]
    delta F110.c12
    simp only [go_sem,seval, o5]
    delta F110.c14
    simp only [go_sem,seval, o5]
    delta F110.c16
    simp only [go_sem,seval, o5]
    delta F110.c18
    simp only [go_sem,seval, o5]
    refine tcE (Name_spec h x.name hft.2.2.1) ?_
    simp only [go_sem,seval]
    refine tail _ 1 (decide (x.n = 0)) (tName x.name) (decide (x.field = (⟨#[]⟩ : ByteArray))) rfl rfl rfl rfl rfl rfl rfl (by omega) (by omega) ?_
    simp [partsOk, o5, noBytes]
   by_cases o6 : x.op = 6
   ·
    refine F110.calls (by simp) ?_
    delta F110.c0 F110.c5
    simp only [go_sem,seval, hz, h512', o6]
    delta F110.c12
    simp only [go_sem,seval, o6]
    delta F110.c14
    simp only [go_sem,seval, o6]
    delta F110.c16
    simp only [go_sem,seval, o6]
    delta F110.c18
    simp only [go_sem,seval, o6]
    delta F110.c21
    simp only [go_sem,seval, o6]
    refine tcE (Name_spec h x.name hft.2.2.1) ?_
    simp only [go_sem,seval]
    refine tcE (Name_spec h x.field hft.2.2.2.1) ?_
    simp only [go_sem,seval]
    refine tail _ 0 (decide (x.n = 0)) (tName x.name) (tName x.field) rfl rfl rfl rfl rfl rfl rfl (by omega) (by omega) ?_
    simp [partsOk, o6, noBytes]
   by_cases o7 : x.op = 7
   ·
    refine F110.calls (by simp) ?_
    delta F110.c0 F110.c5
    simp only [go_sem,seval, hz, h512', o7]
    delta F110.c12
    simp only [go_sem,seval, o7]
    delta F110.c14
    simp only [go_sem,seval, o7]
    delta F110.c16
    simp only [go_sem,seval, o7]
    delta F110.c18
    simp only [go_sem,seval, o7]
    delta F110.c21
    simp only [go_sem,seval, o7]
    delta F110.c24
    simp only [go_sem,seval, o7]
    refine tcE (RoutineName_spec h x.name hft.2.2.1) ?_
    simp only [go_sem,seval]
    refine tail _ x.l.length (decide (x.n = 0)) (tName x.name) (decide (x.field = (⟨#[]⟩ : ByteArray))) rfl rfl rfl rfl rfl rfl rfl (by omega) (by omega) ?_
    simp [partsOk, o7, noBytes]
   by_cases o8 : x.op = 8
   ·
    refine F110.calls (by simp) ?_
    delta F110.c0 F110.c5
    simp only [go_sem,seval, hz, h512', o8]
    delta F110.c12
    simp only [go_sem,seval, o8]
    delta F110.c14
    simp only [go_sem,seval, o8]
    delta F110.c16
    simp only [go_sem,seval, o8]
    delta F110.c18
    simp only [go_sem,seval, o8]
    delta F110.c21
    simp only [go_sem,seval, o8]
    delta F110.c24
    simp only [go_sem,seval, o8]
    delta F110.c27
    simp only [go_sem,seval, o8]
    refine tail _ 1 (decide (x.n = 0)) (decide (x.name = (⟨#[]⟩ : ByteArray))) (decide (x.field = (⟨#[]⟩ : ByteArray))) rfl rfl rfl rfl rfl rfl rfl (by omega) (by omega) ?_
    simp [partsOk, o8, noBytes]
   by_cases o9 : x.op = 9
   ·
    refine F110.calls (by simp) ?_
    delta F110.c0 F110.c5
    simp only [go_sem,seval, hz, h512', o9]
    delta F110.c12
    simp only [go_sem,seval, o9]
    delta F110.c14
    simp only [go_sem,seval, o9]
    delta F110.c16
    simp only [go_sem,seval, o9]
    delta F110.c18
    simp only [go_sem,seval, o9]
    delta F110.c21
    simp only [go_sem,seval, o9]
    delta F110.c24
    simp only [go_sem,seval, o9]
    delta F110.c27
    simp only [go_sem,seval, o9]
    refine tail _ 1 (decide (x.n = 0)) (decide (x.name = (⟨#[]⟩ : ByteArray))) (decide (x.field = (⟨#[]⟩ : ByteArray))) rfl rfl rfl rfl rfl rfl rfl (by omega) (by omega) ?_
    simp [partsOk, o9, noBytes]
   by_cases p : 10 ≤ x.op ∧ x.op ≤ 24
   ·
    refine F110.calls (by simp) ?_
    delta F110.c0 F110.c5 F110.c12 F110.c14 F110.c16 F110.c18 F110.c21 F110.c24 F110.c27
    simp only [go_sem,seval, hz, h512', o1, o2, o3, o4, o5, o6, o7, o8, o9]
    have q : x.op = 10 ∨ x.op = 11 ∨ x.op = 12 ∨ x.op = 13 ∨ x.op = 14 ∨ x.op = 15 ∨ x.op = 16 ∨ x.op = 17 ∨ x.op = 18 ∨ x.op = 19 ∨ x.op = 20 ∨ x.op = 21 ∨ x.op = 22 ∨ x.op = 23 ∨ x.op = 24 := by omega
    delta F110.c31 F110.c34 F110.c36 F110.c38 F110.c40 F110.c42 F110.c44 F110.c46 F110.c48 F110.c50 F110.c52 F110.c54 F110.c56 F110.c58
    rcases q with q | q | q | q | q | q | q | q | q | q | q | q | q | q | q
    all_goals
     simp only [go_sem,seval, q]
     refine tail _ 2 (decide (x.n = 0)) (decide (x.name = (⟨#[]⟩ : ByteArray))) (decide (x.field = (⟨#[]⟩ : ByteArray))) rfl rfl rfl rfl rfl rfl rfl (by omega) (by omega) ?_
     simp [partsOk, q, noBytes]
   have o10 : ¬ x.op = 10 := by omega
   have o11 : ¬ x.op = 11 := by omega
   have o12 : ¬ x.op = 12 := by omega
   have o13 : ¬ x.op = 13 := by omega
   have o14 : ¬ x.op = 14 := by omega
   have o15 : ¬ x.op = 15 := by omega
   have o16 : ¬ x.op = 16 := by omega
   have o17 : ¬ x.op = 17 := by omega
   have o18 : ¬ x.op = 18 := by omega
   have o19 : ¬ x.op = 19 := by omega
   have o20 : ¬ x.op = 20 := by omega
   have o21 : ¬ x.op = 21 := by omega
   have o22 : ¬ x.op = 22 := by omega
   have o23 : ¬ x.op = 23 := by omega
   have o24 : ¬ x.op = 24 := by omega
   refine F110.calls (by simp) ?_
   delta F110.c0 F110.c5
   simp only [go_sem,seval, hz, h512', o1, o2, o3, o4, o5, o6, o7, o8, o9, o10, o11, o12, o13, o14, o15, o16, o17, o18, o19, o20, o21, o22, o23, o24]
   delta F110.c12
   simp only [go_sem,seval, o1, o2, o3, o4, o5, o6, o7, o8, o9, o10, o11, o12, o13, o14, o15, o16, o17, o18, o19, o20, o21, o22, o23, o24]
   delta F110.c14
   simp only [go_sem,seval, o1, o2, o3, o4, o5, o6, o7, o8, o9, o10, o11, o12, o13, o14, o15, o16, o17, o18, o19, o20, o21, o22, o23, o24]
   delta F110.c16
   simp only [go_sem,seval, o1, o2, o3, o4, o5, o6, o7, o8, o9, o10, o11, o12, o13, o14, o15, o16, o17, o18, o19, o20, o21, o22, o23, o24]
   delta F110.c18
   simp only [go_sem,seval, o1, o2, o3, o4, o5, o6, o7, o8, o9, o10, o11, o12, o13, o14, o15, o16, o17, o18, o19, o20, o21, o22, o23, o24]
   delta F110.c21
   simp only [go_sem,seval, o1, o2, o3, o4, o5, o6, o7, o8, o9, o10, o11, o12, o13, o14, o15, o16, o17, o18, o19, o20, o21, o22, o23, o24]
   delta F110.c24
   simp only [go_sem,seval, o1, o2, o3, o4, o5, o6, o7, o8, o9, o10, o11, o12, o13, o14, o15, o16, o17, o18, o19, o20, o21, o22, o23, o24]
   delta F110.c27
   simp only [go_sem,seval, o1, o2, o3, o4, o5, o6, o7, o8, o9, o10, o11, o12, o13, o14, o15, o16, o17, o18, o19, o20, o21, o22, o23, o24]
   delta F110.c31
   simp only [go_sem,seval, o1, o2, o3, o4, o5, o6, o7, o8, o9, o10, o11, o12, o13, o14, o15, o16, o17, o18, o19, o20, o21, o22, o23, o24]
   delta F110.c34
   simp only [go_sem,seval, o1, o2, o3, o4, o5, o6, o7, o8, o9, o10, o11, o12, o13, o14, o15, o16, o17, o18, o19, o20, o21, o22, o23, o24]
   delta F110.c36
   simp only [go_sem,seval, o1, o2, o3, o4, o5, o6, o7, o8, o9, o10, o11, o12, o13, o14, o15, o16, o17, o18, o19, o20, o21, o22, o23, o24]
   delta F110.c38
   simp only [go_sem,seval, o1, o2, o3, o4, o5, o6, o7, o8, o9, o10, o11, o12, o13, o14, o15, o16, o17, o18, o19, o20, o21, o22, o23, o24]
   delta F110.c40
   simp only [go_sem,seval, o1, o2, o3, o4, o5, o6, o7, o8, o9, o10, o11, o12, o13, o14, o15, o16, o17, o18, o19, o20, o21, o22, o23, o24]
   delta F110.c42
   simp only [go_sem,seval, o1, o2, o3, o4, o5, o6, o7, o8, o9, o10, o11, o12, o13, o14, o15, o16, o17, o18, o19, o20, o21, o22, o23, o24]
   delta F110.c44
   simp only [go_sem,seval, o1, o2, o3, o4, o5, o6, o7, o8, o9, o10, o11, o12, o13, o14, o15, o16, o17, o18, o19, o20, o21, o22, o23, o24]
   delta F110.c46
   simp only [go_sem,seval, o1, o2, o3, o4, o5, o6, o7, o8, o9, o10, o11, o12, o13, o14, o15, o16, o17, o18, o19, o20, o21, o22, o23, o24]
   delta F110.c48
   simp only [go_sem,seval, o1, o2, o3, o4, o5, o6, o7, o8, o9, o10, o11, o12, o13, o14, o15, o16, o17, o18, o19, o20, o21, o22, o23, o24]
   delta F110.c50
   simp only [go_sem,seval, o1, o2, o3, o4, o5, o6, o7, o8, o9, o10, o11, o12, o13, o14, o15, o16, o17, o18, o19, o20, o21, o22, o23, o24]
   delta F110.c52
   simp only [go_sem,seval, o1, o2, o3, o4, o5, o6, o7, o8, o9, o10, o11, o12, o13, o14, o15, o16, o17, o18, o19, o20, o21, o22, o23, o24]
   delta F110.c54
   simp only [go_sem,seval, o1, o2, o3, o4, o5, o6, o7, o8, o9, o10, o11, o12, o13, o14, o15, o16, o17, o18, o19, o20, o21, o22, o23, o24]
   delta F110.c56
   simp only [go_sem,seval, o1, o2, o3, o4, o5, o6, o7, o8, o9, o10, o11, o12, o13, o14, o15, o16, o17, o18, o19, o20, o21, o22, o23, o24]
   delta F110.c58
   simp only [go_sem,seval, o1, o2, o3, o4, o5, o6, o7, o8, o9, o10, o11, o12, o13, o14, o15, o16, o17, o18, o19, o20, o21, o22, o23, o24]
   refine .same ⟨?_, rfl⟩
   have : ¬ (1 ≤ x.op ∧ x.op ≤ 24) := by omega
   by_cases p1 : 1 ≤ x.op <;> by_cases p2 : x.op ≤ 24 <;> simp [form_eq, p1, p2]
   exact (this ⟨p1, p2⟩).elim
  ·have h512' : ((x.l.length : Int) > 512) = True := by simp; omega
   refine F110.calls (by simp) ?_
   delta F110.c0
   simp only [go_sem,seval, hz, h512']
   exact .same ⟨by simp [form_eq, h512], rfl⟩
theorem Expr_spec [GI] (x : Expr) (ho : x.ok) (hf : x.fit) (h : AHeap) : ACalls prog 75 [.int .i64 0, .agg (eExpr x)] h (fun v g => v = .bool (tExpr x) ∧ g = h) := by
 refine F75.calls (by simp) ?_
 delta F75.c0
 simp only [go_sem,seval]
 refine tcE (form_spec 48 x (by omega) ho hf h) ?_
 cases hx : form 48 x with
 | false =>
  simp only [go_sem,seval]
  exact .same ⟨by simp [tExpr, hx], rfl⟩
 | true =>
  simp only [go_sem,seval]
  refine tcE (Deep_spec 99 x (by omega) ho h) ?_
  simp only [go_sem,seval]
  refine .same ⟨?_, rfl⟩
  simp only [tExpr, hx, Bool.true_and]
  congr 2
  simp; omega
theorem place_spec [GI] (x : Expr) (ho : x.ok) (hf : x.fit) (h : AHeap) : ACalls prog 76 [.int .i64 0, .agg (eExpr x)] h (fun v g => v = .bool (tPlace x) ∧ g = h) := by
 refine F76.calls (by simp) ?_
 delta F76.c0
 by_cases h1 : 4 ≤ x.op
 ·have h1' : (x.op ≥ 4) = True := by simp [h1]
  by_cases h2 : x.op ≤ 6
  ·simp only [go_sem,seval, h1', h2]
   refine tcE (Expr_spec x ho hf h) ?_
   simp only [go_sem,seval]
   exact .same ⟨by simp [tPlace, h1, h2], rfl⟩
  ·simp only [go_sem,seval, h1', h2]
   exact .same ⟨by simp [tPlace, h2], rfl⟩
 ·have h1' : (x.op ≥ 4) = False := by simpa using h1
  simp only [go_sem,seval, h1']
  exact .same ⟨by simp [tPlace, h1], rfl⟩
theorem none_spec [GI] (x : Expr) (h : AHeap) : ACalls prog 77 [.agg (eExpr x)] h (fun v g => v = .bool (tNone x) ∧ g = h) := by
 refine F77.calls (by simp) ?_
 delta F77.c0
 simp only [go_sem,seval]
 repeat' (refine agateT_split (fun hg => ?_) (fun hg => ?_) <;> simp only [go_sem,seval, hg, Bool.not_true, Bool.not_false])
 all_goals
  refine .same ⟨?_, rfl⟩
  congr 1
  try simp only [Bool.not_true, Bool.not_false, decide_eq_true_eq, decide_eq_false_iff_not] at *
  try rw [Bool.eq_iff_iff]
  try simp [tNone, noBytes, *]
  try omega
end Pg

set_option linter.all false
set_option maxHeartbeats 4000000
set_option maxRecDepth 4000
namespace Pg
open Go Go.Proofs.Tryz
theorem var_m (x : Var) : List.take 2 (eVar x) = [eTexts x.before, eTexts x.trail] := rfl
theorem fld_m (x : Fld) : List.take 2 (eFld x) = [eTexts x.before, eTexts x.trail] := rfl
theorem rec_m (x : Rec) : List.take 2 (eRec x) = [eTexts x.before, eTexts x.trail] := rfl
theorem routine_m (x : Routine) : List.take 2 (eRoutine x) = [eTexts x.before, eTexts x.trail] := by rw [eRoutine_eq]; rfl
theorem stmt_m (x : Stmt) : List.take 2 (eStmt x) = [eTexts x.before, eTexts x.trail] := by rw [eStmt_eq]; rfl
theorem nil_or_snoc {α : Type} (l : List α) : l = [] ∨ ∃ L b, l = L ++ [b] := by
 rcases List.eq_nil_or_concat l with h | ⟨L, b, h⟩
 ·exact .inl h
 ·exact .inr ⟨L, b, by simpa using h⟩
theorem le512 {α : Type} (l : List α) : decide ((l.length : Int) ≤ 512) = decide (l.length ≤ 512) := by congr 1; simp; omega
theorem vars_spec [GI] (h : AHeap) (l : List Var) (hl : few l) (ho : ∀ v ∈ l, v.ok) (hf : ∀ v ∈ l, v.fit) : ACalls prog 24 [.int .i64 0, .sl (l.map eVar) false] h (fun v g => v = .bool (tVars l) ∧ g = h) := by
  refine F24.calls (by simp) ?_
  delta F24.c0
  simp only [go_sem,seval]
  refine lT_list l (fun pre post e g => (l.all tVar = post.all tVar ∧ g = h) ∧ e = [(0, .int .i64 0), (1, .sl (l.map eVar) false), (5, .int .i64 pre.length)]) (WeakE.env ?_) ⟨⟨rfl, rfl⟩, rfl⟩ ?_ ?_
  · simp only [go_sem,seval]
  · rintro pre x post e g hp ⟨⟨hn, rfl⟩, rfl⟩
    have hx := ho x (mem_at hp)
    have fx := hf x (mem_at hp)
    simp only [go_sem,seval, lt_at hp, aia_sl (map_at hp) (eVar_len x), var_m]
    refine tcE (marks_spec g x.before x.trail hx.before hx.trail fx.1 fx.2.1) ?_
    cases c1 : tMarks x.before x.trail
    all_goals simp only [go_sem,seval, aia_sl (map_at hp) (eVar_len x), var_t]
    ·
     refine lessQ.same ?_
     simp only [go_sem,seval]
     exact .same ⟨by rw [tVars, hn]; simp [tVar, c1], rfl⟩
    ·
     refine tcE (Name_spec g x.name fx.2.2.1) ?_
     cases c2 : tName x.name
     all_goals simp only [go_sem,seval, aia_sl (map_at hp) (eVar_len x), var_t]
     ·
      refine lessQ.same ?_
      simp only [go_sem,seval]
      exact .same ⟨by rw [tVars, hn]; simp [tVar, c1, c2], rfl⟩
     ·
      refine tcE (Type_spec g x.t fx.2.2.2.2.2) ?_
      cases c3 : tTyp x.t
      all_goals simp only [go_sem,seval, aia_sl (map_at hp) (eVar_len x), var_t]
      ·
       refine lessQ.same ?_
       simp only [go_sem,seval]
       exact .same ⟨by rw [tVars, hn]; simp [tVar, c1, c2, c3], rfl⟩
      ·
       refine ⟨_, _, WeakE.env ?_, ⟨?_, rfl⟩, rfl⟩
       · simp only [go_sem,seval, step_at hl hp]
       · rw [hn]; simp [tVar, c1, c2, c3]
  · rintro e g ⟨⟨hn, rfl⟩, rfl⟩
    simp only [go_sem,seval, lt_end]
    refine lessQ.same ?_
    simp only [go_sem,seval]
    exact .same ⟨by rw [tVars, hn, le512]; simp, rfl⟩
theorem params_spec [GI] (h : AHeap) (l : List Param) (hl : few l) (hf : ∀ v ∈ l, v.fit) : ACalls prog 53 [.int .i64 0, .sl (l.map eParam) false] h (fun v g => v = .bool (tParams l) ∧ g = h) := by
  refine F53.calls (by simp) ?_
  delta F53.c0
  simp only [go_sem,seval]
  refine lT_list l (fun pre post e g => (l.all tParam = post.all tParam ∧ (∀ y ∈ pre, tParam y = true) ∧ g = h) ∧ e = [(0, .int .i64 0), (1, .sl (l.map eParam) false), (5, .int .i64 pre.length)]) (WeakE.env ?_) ⟨⟨rfl, by simp, rfl⟩, rfl⟩ ?_ ?_
  · simp only [go_sem,seval]
  · rintro pre x post e g hp ⟨⟨hn, hpre, rfl⟩, rfl⟩
    have fx := hf x (mem_at hp)
    simp only [go_sem,seval, lt_at hp, aia_sl (map_at hp) (eParam_len x)]
    refine tcE (Name_spec g x.name fx.1) ?_
    cases c1 : tName x.name
    all_goals simp only [go_sem,seval, aia_sl (map_at hp) (eParam_len x), param_t]
    ·
     refine lessQ.same ?_
     simp only [go_sem,seval]
     exact .same ⟨by rw [tParams, hn]; simp [tParam, c1], rfl⟩
    ·
     refine tcE (Type_spec g x.t fx.2.1.2.2) ?_
     cases c2 : tTyp x.t
     all_goals simp only [go_sem,seval, aia_sl (map_at hp) (eParam_len x), param_t]
     ·
      refine lessQ.same ?_
      simp only [go_sem,seval]
      exact .same ⟨by rw [tParams, hn]; simp [tParam, c1, c2], rfl⟩
     ·
      by_cases c3 : 0 ≤ x.mode
      ·
       simp only [go_sem,seval, show (x.mode < 0) = False by first | (simp; done) | (simp; omega), aia_sl (map_at hp) (eParam_len x), param_t]
       by_cases c4 : x.mode ≤ 1
       ·
        simp only [go_sem,seval, show (x.mode > 2) = False by first | (simp; done) | (simp; omega), show (x.mode = 2) = False by first | (simp; done) | (simp; omega), aia_sl (map_at hp) (eParam_len x), param_t]
        by_cases m0 : x.mode = 0
        ·
          by_cases s0 : x.t.size = 0
          ·
            by_cases k4 : x.t.kind = 4
            ·
              simp only [go_sem,seval, m0, s0, k4, aia_sl (map_at hp) (eParam_len x), param_t]
              refine lessQ.same ?_
              simp only [go_sem,seval]
              exact .same ⟨by rw [tParams, hn]; simp [tParam, c1, c2, c3, c4, m0, s0, k4], rfl⟩
            ·
              simp only [go_sem,seval, m0, s0, k4, aia_sl (map_at hp) (eParam_len x), param_t]
              rcases nil_or_snoc pre with rfl | ⟨pre', y, rfl⟩
              ·
                simp only [go_sem,seval, show ((([] : List Param).length : Int) > 0) = False by simp, aia_sl (map_at hp) (eParam_len x), param_t]
                refine ⟨_, _, WeakE.env ?_, ⟨?_, ?_, rfl⟩, rfl⟩
                · simp only [go_sem,seval, step_at hl hp]
                · rw [hn]; simp [tParam, c1, c2, c3, c4, m0, s0, k4]
                · simp [tParam, c1, c2, c3, c4, m0, s0, k4]
              ·
                have hp2 : l = pre' ++ y :: (x :: post) := by rw [hp]; simp
                have hy : (y.mode = 2) = False := by
                  have := hpre y (by simp)
                  simp [tParam] at this
                  simp; omega
                have hw : IntKind.i64.wrap (((pre' ++ [y]).length : Int) - 1) = (pre'.length : Int) := by
                  unfold few at hl
                  rw [hp] at hl; simp at hl
                  rw [wrap64 (by first | (simp; done) | (simp; omega)) (by first | (simp; done) | (simp; omega))]; simp
                simp only [go_sem,seval, show (((pre' ++ [y]).length : Int) > 0) = True by first | (simp; done) | (simp; omega), hw, aia_sl (map_at hp2) (eParam_len y), hy, aia_sl (map_at hp) (eParam_len x), param_t]
                refine ⟨_, _, WeakE.env ?_, ⟨?_, ?_, rfl⟩, rfl⟩
                · simp only [go_sem,seval, step_at hl hp]
                · rw [hn]; simp [tParam, c1, c2, c3, c4, m0, s0, k4]
                · intro z hz
                  rcases List.mem_append.1 hz with hz | hz
                  · exact hpre z hz
                  · simp at hz; subst hz; simp [tParam, c1, c2, c3, c4, m0, s0, k4]
          ·
            simp only [go_sem,seval, m0, s0, aia_sl (map_at hp) (eParam_len x), param_t]
            refine lessQ.same ?_
            simp only [go_sem,seval]
            exact .same ⟨by rw [tParams, hn]; simp [tParam, c1, c2, c3, c4, m0, s0], rfl⟩
        ·
          simp only [go_sem,seval, m0, aia_sl (map_at hp) (eParam_len x), param_t]
          rcases nil_or_snoc pre with rfl | ⟨pre', y, rfl⟩
          ·
            simp only [go_sem,seval, show ((([] : List Param).length : Int) > 0) = False by simp, aia_sl (map_at hp) (eParam_len x), param_t, show (x.mode = 2) = False by first | (simp; done) | (simp; omega)]
            refine ⟨_, _, WeakE.env ?_, ⟨?_, ?_, rfl⟩, rfl⟩
            · simp only [go_sem,seval, step_at hl hp]
            · rw [hn]; simp [tParam, c1, c2, c3, c4, m0]
            · simp [tParam, c1, c2, c3, c4, m0]
          ·
            have hp2 : l = pre' ++ y :: (x :: post) := by rw [hp]; simp
            have hy : (y.mode = 2) = False := by
              have := hpre y (by simp)
              simp [tParam] at this
              simp; omega
            have hw : IntKind.i64.wrap (((pre' ++ [y]).length : Int) - 1) = (pre'.length : Int) := by
              unfold few at hl
              rw [hp] at hl; simp at hl
              rw [wrap64 (by first | (simp; done) | (simp; omega)) (by first | (simp; done) | (simp; omega))]; simp
            simp only [go_sem,seval, show (((pre' ++ [y]).length : Int) > 0) = True by first | (simp; done) | (simp; omega), hw, aia_sl (map_at hp2) (eParam_len y), hy, aia_sl (map_at hp) (eParam_len x), param_t, show (x.mode = 2) = False by first | (simp; done) | (simp; omega)]
            refine ⟨_, _, WeakE.env ?_, ⟨?_, ?_, rfl⟩, rfl⟩
            · simp only [go_sem,seval, step_at hl hp]
            · rw [hn]; simp [tParam, c1, c2, c3, c4, m0]
            · intro z hz
              rcases List.mem_append.1 hz with hz | hz
              · exact hpre z hz
              · simp at hz; subst hz; simp [tParam, c1, c2, c3, c4, m0]
       ·
        skip
        by_cases m2 : x.mode = 2
        · simp only [go_sem,seval, m2, aia_sl (map_at hp) (eParam_len x), param_t]
          refine lessQ.same ?_
          simp only [go_sem,seval]
          exact .same ⟨by rw [tParams, hn]; simp [tParam, c1, c2, c3, c4], rfl⟩
        · simp only [go_sem,seval, show (x.mode > 2) = True by first | (simp; done) | (simp; omega), aia_sl (map_at hp) (eParam_len x), param_t]
          refine lessQ.same ?_
          simp only [go_sem,seval]
          exact .same ⟨by rw [tParams, hn]; simp [tParam, c1, c2, c3, c4], rfl⟩
      ·
       simp only [go_sem,seval, show (x.mode < 0) = True by first | (simp; done) | (simp; omega), aia_sl (map_at hp) (eParam_len x), param_t]
       refine lessQ.same ?_
       simp only [go_sem,seval]
       exact .same ⟨by rw [tParams, hn]; simp [tParam, c1, c2, c3], rfl⟩
  · rintro e g ⟨⟨hn, hpre, rfl⟩, rfl⟩
    simp only [go_sem,seval, lt_end]
    refine lessQ.same ?_
    simp only [go_sem,seval]
    exact .same ⟨by rw [tParams, hn, le512]; simp, rfl⟩
end Pg
namespace Pg
open Go Go.Proofs.Tryz
structure StIn (e : Env) (x : Stmt) (d : Int) : Prop where
 h0 : e.get 0 = .int .i64 0
 h2 : e.get 2 = .int .i64 d
 h4 : e.get 4 = .ip (eStmt x) 0
def StGo [GI] (c : RCode) (x : Stmt) (d : Int) (h : AHeap) (K : AV → AHeap → Prop) : Prop := ∀ e, StIn e x d → wT .go prog 179 c (fun y e' h' t => atEndT t [.tmp 6] (EndW K) y e' h') e h
theorem alen_texts (h : AHeap) (l : List ByteArray) : alen h 1 (eTexts l) = some (.int .i64 l.length) := by simp [alen, eTexts]
section
variable {x : Stmt} {d : Int} {h : AHeap} {K : AV → AHeap → Prop}
theorem st_53 [GI] (hf : sBody x = false → K (.bool false) h) (hs : sBody x = true → StGo F54.c57 x d h K) : StGo F54.c53 x d h K := by
 intro e ⟨h0, h2, h4⟩
 delta F54.c53
 simp only [sBody] at hf hs
 simp only [go_sem,seval, h0, h2, h4, alen_texts]
 repeat' (refine agateT_split (fun hg => ?_) (fun hg => ?_) <;> simp only [go_sem,seval, hg, Bool.not_true, Bool.not_false, h0, h2, h4, alen_texts])
 all_goals
  first
  | refine hs ?_ _ ⟨by simp only [go_sem,seval, h0], by simp only [go_sem,seval, h2], by simp only [go_sem,seval, h4]⟩
  | refine .same (hf ?_)
  clear hs hf h0 h2 h4
  generalize x.body.length = nb at *
  generalize x.end1.length = ne at *
  try simp only [Bool.not_true, Bool.not_false, decide_eq_true_eq, decide_eq_false_iff_not] at *
  simp
  try omega
theorem st_49 [GI] (hf : sMore x = false → K (.bool false) h) (hs : sMore x = true → StGo F54.c53 x d h K) : StGo F54.c49 x d h K := by
 intro e ⟨h0, h2, h4⟩
 delta F54.c49
 simp only [sMore] at hf hs
 simp only [go_sem,seval, h0, h2, h4, alen_texts]
 cases hm : x.more
 all_goals
  rw [hm] at hf hs
  simp only [go_sem,seval, h0, h2, h4, hm, alen_texts]
  repeat' (refine agateT_split (fun hg => ?_) (fun hg => ?_) <;> simp only [go_sem,seval, hg, Bool.not_true, Bool.not_false, h0, h2, h4, hm, alen_texts])
 all_goals
  first
  | refine hs ?_ _ ⟨by simp only [go_sem,seval, h0], by simp only [go_sem,seval, h2], by simp only [go_sem,seval, h4]⟩
  | refine .same (hf ?_)
  clear hs hf h0 h2 h4
  generalize x.els.length = nb at *
  generalize x.end2.length = ne at *
  try simp only [Bool.not_true, Bool.not_false, decide_eq_true_eq, decide_eq_false_iff_not] at *
  simp
  try omega
theorem st_40 [GI] (fn : short x.name) (hf : sName x = false → K (.bool false) h) (hs : sName x = true → StGo F54.c49 x d h K) : StGo F54.c40 x d h K := by
 intro e ⟨h0, h2, h4⟩
 delta F54.c40
 by_cases h6 : x.op = 6
 ·simp only [sName, h6, if_true] at hf hs
  simp only [go_sem,seval, h0, h2, h4, h6]
  refine tcE (Name_spec h x.name fn) ?_
  cases hn : tName x.name
  ·simp only [go_sem,seval, h0, h2, h4]
   exact .same (hf hn)
  ·simp only [go_sem,seval, h0, h2, h4]
   exact hs hn _ ⟨by simp only [go_sem,seval, h0], by simp only [go_sem,seval, h2], by simp only [go_sem,seval, h4]⟩
 ·simp only [sName, h6, if_false, noBytes] at hf hs
  simp only [go_sem,seval, h0, h2, h4, h6]
  by_cases hn : x.name = (⟨#[]⟩ : ByteArray)
  ·cases hd : x.down
   ·simp only [go_sem,seval, h0, h2, h4, hn, hd]
    exact hs (by simp [hn, hd]) _ ⟨by simp only [go_sem,seval, h0], by simp only [go_sem,seval, h2], by simp only [go_sem,seval, h4]⟩
   ·simp only [go_sem,seval, h0, h2, h4, hn, hd]
    exact .same (hf (by simp [hn, hd]))
  ·simp only [go_sem,seval, h0, h2, h4, hn]
   exact .same (hf (by simp [hn]))
theorem st_31 [GI] (ho : x.p.ok) (fp : x.p.fit) (hf : sPlace x = false → K (.bool false) h) (hs : sPlace x = true → StGo F54.c40 x d h K) : StGo F54.c31 x d h K := by
 intro e ⟨h0, h2, h4⟩
 delta F54.c31
 by_cases h17 : x.op = 1 ∨ x.op = 7
 ·simp only [sPlace, h17, if_true] at hf hs
  rcases h17 with h17 | h17
  all_goals
   simp only [go_sem,seval, h0, h2, h4, h17, stmt_p]
   refine tcE (place_spec x.p ho fp h) ?_
   cases hn : tPlace x.p
   ·simp only [go_sem,seval, h0, h2, h4]
    exact .same (hf hn)
   ·simp only [go_sem,seval, h0, h2, h4]
    exact hs hn _ ⟨by simp only [go_sem,seval, h0], by simp only [go_sem,seval, h2], by simp only [go_sem,seval, h4]⟩
 ·simp only [sPlace, h17, if_false] at hf hs
  rw [not_or] at h17
  simp only [go_sem,seval, h0, h2, h4, h17.1, h17.2, stmt_p]
  refine tcE (none_spec x.p h) ?_
  cases hn : tNone x.p
  ·simp only [go_sem,seval, h0, h2, h4]
   exact .same (hf hn)
  ·simp only [go_sem,seval, h0, h2, h4]
   exact hs hn _ ⟨by simp only [go_sem,seval, h0], by simp only [go_sem,seval, h2], by simp only [go_sem,seval, h4]⟩
theorem st_19 [GI] (hl : few x.e) (he : ∀ y ∈ x.e, y.ok) (fe : ∀ y ∈ x.e, y.fit) (hf : x.e.all (sExpr x) = false → K (.bool false) h) (hs : x.e.all (sExpr x) = true → StGo F54.c31 x d h K) : StGo F54.c19 x d h K := by
 intro e ⟨h0, h2, h4⟩
 delta F54.c19
 simp only [go_sem,seval, h0, h2, h4]
 refine lT_list x.e (fun pre post e g => (x.e.all (sExpr x) = post.all (sExpr x) ∧ g = h) ∧ e = [(0, .int .i64 0), (2, .int .i64 d), (4, .ip (eStmt x) 0), (9, .int .i64 pre.length)]) (WeakE.env ?_) ⟨⟨rfl, rfl⟩, rfl⟩ ?_ ?_
 ·simp only [go_sem,seval, h0, h2, h4]
 ·rintro pre y post e g hp ⟨⟨hn, rfl⟩, rfl⟩
  simp only [go_sem,seval, lt_at hp, aia_sl (map_at hp) (eExpr_len y)]
  refine tcE (Expr_spec y (he y (mem_at hp)) (fe y (mem_at hp)) g) ?_
  have fail : sExpr x y = false → x.e.all (sExpr x) = false := fun hh => by rw [hn]; simp [hh]
  have good : sExpr x y = true → x.e.all (sExpr x) = post.all (sExpr x) := fun hh => by rw [hn]; simp [hh]
  cases hy : tExpr y
  ·simp only [go_sem,seval]
   refine lessQ.same ?_
   simp only [go_sem,seval]
   exact .same (hf (fail (by simp [sExpr, hy])))
  ·by_cases o2 : x.op = 2
   ·by_cases o7 : y.op = 7
    ·simp only [go_sem,seval, o2, o7, aia_sl (map_at hp) (eExpr_len y)]
     refine ⟨_, _, WeakE.env ?_, ⟨good (by simp [sExpr, hy, o2, o7]), rfl⟩, rfl⟩
     simp only [go_sem,seval, step_at hl hp]
    ·simp only [go_sem,seval, o2, o7, aia_sl (map_at hp) (eExpr_len y)]
     refine lessQ.same ?_
     simp only [go_sem,seval]
     exact .same (hf (fail (by simp [sExpr, hy, o2, o7])))
   ·simp only [go_sem,seval, o2]
    refine ⟨_, _, WeakE.env ?_, ⟨good (by simp [sExpr, hy, o2]), rfl⟩, rfl⟩
    simp only [go_sem,seval, step_at hl hp]
 ·rintro e g ⟨⟨hn, rfl⟩, rfl⟩
  simp only [go_sem,seval, lt_end]
  refine lessQ.same ?_
  simp only [go_sem,seval]
  exact hs (by rw [hn]; rfl) _ ⟨by simp only [go_sem,seval], by simp only [go_sem,seval], by simp only [go_sem,seval]⟩
theorem st_15' [GI] (want most : Int) (e : Env) (i : StIn e x d) (h7 : e.get 7 = .int .i64 want) (h8 : e.get 8 = .int .i64 most) (hs : (decide (want ≤ x.e.length) && decide ((x.e.length : Int) ≤ most)) = true → StGo F54.c19 x d h K) (hf : (decide (want ≤ x.e.length) && decide ((x.e.length : Int) ≤ most)) = false → K (.bool false) h) :
  wT .go prog 179 F54.c15 (fun y e' h' t => atEndT t [.tmp 6] (EndW K) y e' h') e h := by
 obtain ⟨h0, h2, h4⟩ := i
 delta F54.c15
 by_cases a : (x.e.length : Int) < want
 ·simp only [go_sem,seval, h0, h2, h4, h7, h8, a]
  exact .same (hf (by simp; omega))
 ·by_cases b : (x.e.length : Int) > most
  ·simp only [go_sem,seval, h0, h2, h4, h7, h8, a, b]
   exact .same (hf (by simp; omega))
  ·simp only [go_sem,seval, h0, h2, h4, h7, h8, a, b]
   exact hs (by simp; omega) _ ⟨by simp only [go_sem,seval, h0], by simp only [go_sem,seval, h2], by simp only [go_sem,seval, h4]⟩
theorem st_5 [GI] (hf : sCount x = false → K (.bool false) h) (hs : sCount x = true → StGo F54.c19 x d h K) : StGo F54.c5 x d h K := by
 intro e ⟨h0, h2, h4⟩
 delta F54.c5
 by_cases h6 : x.op = 6
 ·have ec : sCount x = (decide ((2 : Int) ≤ x.e.length) && decide ((x.e.length : Int) ≤ 2)) := by
   simp only [sCount, h6, if_true]; rw [Bool.eq_iff_iff]; simp <;> omega
  simp only [go_sem,seval, h0, h2, h4, h6]
  exact st_15' 2 2 _ ⟨by simp only [go_sem,seval, h0], by simp only [go_sem,seval, h2], by simp only [go_sem,seval, h4]⟩ (by simp only [go_sem,seval]) (by simp only [go_sem,seval]) (fun hh => hs (ec.trans hh)) (fun hh => hf (ec.trans hh))
 by_cases h7 : x.op = 7
 ·have ec : sCount x = (decide ((0 : Int) ≤ x.e.length) && decide ((x.e.length : Int) ≤ 0)) := by
   simp only [sCount, h7]; rw [Bool.eq_iff_iff]; simp <;> omega
  simp only [go_sem,seval, h0, h2, h4, h7]
  exact st_15' 0 0 _ ⟨by simp only [go_sem,seval, h0], by simp only [go_sem,seval, h2], by simp only [go_sem,seval, h4]⟩ (by simp only [go_sem,seval]) (by simp only [go_sem,seval]) (fun hh => hs (ec.trans hh)) (fun hh => hf (ec.trans hh))
 by_cases h9 : x.op = 9
 ·have ec : sCount x = (decide ((0 : Int) ≤ x.e.length) && decide ((x.e.length : Int) ≤ 1)) := by
   simp only [sCount, h9]; rw [Bool.eq_iff_iff]; simp <;> omega
  simp only [go_sem,seval, h0, h2, h4, h9]
  exact st_15' 0 1 _ ⟨by simp only [go_sem,seval, h0], by simp only [go_sem,seval, h2], by simp only [go_sem,seval, h4]⟩ (by simp only [go_sem,seval]) (by simp only [go_sem,seval]) (fun hh => hs (ec.trans hh)) (fun hh => hf (ec.trans hh))
 ·have ec : sCount x = (decide ((1 : Int) ≤ x.e.length) && decide ((x.e.length : Int) ≤ 1)) := by
   simp only [sCount, h6, h7, h9, if_false]; rw [Bool.eq_iff_iff]; simp <;> omega
  simp only [go_sem,seval, h0, h2, h4, h6, h7, h9]
  exact st_15' 1 1 _ ⟨by simp only [go_sem,seval, h0], by simp only [go_sem,seval, h2], by simp only [go_sem,seval, h4]⟩ (by simp only [go_sem,seval]) (by simp only [go_sem,seval]) (fun hh => hs (ec.trans hh)) (fun hh => hf (ec.trans hh))
theorem st_1 [GI] (ho : x.ok) (fx : x.fit) (h48 : d ≤ 48) (hf : sMarks x = false → K (.bool false) h) (hs : sMarks x = true → StGo F54.c5 x d h K) : StGo F54.c1 x d h K := by
 intro e ⟨h0, h2, h4⟩
 have hok := (Stmt.ok_iff x).1 ho
 have hft := (Stmt.fit_iff x).1 fx
 have hd : (d > 48) = False := by simp; omega
 delta F54.c1
 simp only [go_sem,seval, h0, h2, h4, hd, stmt_m]
 refine tcE (marks_spec h x.before x.trail hok.1 hok.2.1 hft.1 hft.2.1) ?_
 simp only [sMarks] at hf hs
 cases c1 : tMarks x.before x.trail
 ·simp only [go_sem,seval, h0, h2, h4]
  exact .same (hf (by simp [c1]))
 simp only [go_sem,seval, h0, h2, h4]
 refine tcE (notes_spec h x.end1 hok.2.2.2.2.2.2.2.2.2.1 hft.2.2.2.2.2.2.2.2.1) ?_
 cases c2 : tNotes x.end1
 ·simp only [go_sem,seval, h0, h2, h4]
  exact .same (hf (by simp [c2]))
 simp only [go_sem,seval, h0, h2, h4]
 refine tcE (notes_spec h x.end2 hok.2.2.2.2.2.2.2.2.2.2 hft.2.2.2.2.2.2.2.2.2) ?_
 cases c3 : tNotes x.end2
 ·simp only [go_sem,seval, h0, h2, h4]
  exact .same (hf (by simp [c3]))
 by_cases o1 : x.op < 1
 ·simp only [go_sem,seval, h0, h2, h4, o1]
  exact .same (hf (by simp; intros; omega))
 ·by_cases o9 : x.op > 9
  ·simp only [go_sem,seval, h0, h2, h4, o1, o9]
   exact .same (hf (by simp; intros; omega))
  ·simp only [go_sem,seval, h0, h2, h4, o1, o9]
   exact hs (by simp [c1, c2, c3]; omega) _ ⟨by simp only [go_sem,seval, h0], by simp only [go_sem,seval, h2], by simp only [go_sem,seval, h4]⟩
end
end Pg
namespace Pg
open Go Go.Proofs.Tryz
theorem tStmt_eq (x : Stmt) (d : Int) : tStmt x d = (decide (d ≤ 48) && tStmt1 x && (tStmts x.body (d + 1) && decide (x.body.length ≤ 512)) && (tStmts x.els (d + 1) && decide (x.els.length ≤ 512))) := by
 obtain ⟨before, trail, op, name, p, e, down, more, body, els, end1, end2⟩ := x; rw [tStmt]
def StmtsC [GI] (l : List Stmt) : Prop := ∀ (d : Int) (h : AHeap), 0 ≤ d → d ≤ 49 → ACalls prog 26 [.int .i64 0, .sl (l.map eStmt) false, .int .i64 d] h (fun v g => v = .bool (tStmts l d && decide (l.length ≤ 512)) ∧ g = h)
theorem tstmt_of [GI] (x : Stmt) (ho : x.ok) (fx : x.fit) (ihb : StmtsC x.body) (ihe : StmtsC x.els) (d : Int) (h : AHeap) (hd0 : 0 ≤ d) (hd : d ≤ 49) :
  ACalls prog 54 [.int .i64 0, .agg (eStmt x), .int .i64 d] h (fun v g => v = .bool (tStmt x d) ∧ g = h) := by
 have hok := (Stmt.ok_iff x).1 ho
 have hft := (Stmt.fit_iff x).1 fx
 by_cases h48 : d ≤ 48
 ·
  refine F54.calls (by simp) ?_
  delta F54.c0
  simp only [go_sem,seval]
  have fail : ∀ {K : Prop}, tStmt1 x = false → (AV.bool false = .bool (tStmt x d) ∧ h = h) := by
   intro _ hh
   refine ⟨?_, rfl⟩
   rw [tStmt_eq, hh]; simp
  refine st_1 (x := x) (d := d) (h := h) (K := fun v g => v = .bool (tStmt x d) ∧ g = h) ho fx h48 (fun h1 => fail (K := True) (by simp [tStmt1, h1])) (fun h1 => ?_) _ ⟨by simp only [go_sem,seval], by simp only [go_sem,seval], by simp only [go_sem,seval]⟩
  refine st_5 (fun h2 => fail (K := True) (by simp [tStmt1, h2])) (fun h2 => ?_)
  refine st_19 hok.2.2.2.1 hok.2.2.2.2.1 hft.2.2.2.2.2.1 (fun h3 => fail (K := True) (by simp only [tStmt1, h3]; simp)) (fun h3 => ?_)
  refine st_31 hok.2.2.1 hft.2.2.2.2.1 (fun h4 => fail (K := True) (by simp [tStmt1, h4])) (fun h4 => ?_)
  refine st_40 hft.2.2.2.1 (fun h5 => fail (K := True) (by simp [tStmt1, h5])) (fun h5 => ?_)
  refine st_49 (fun h6 => fail (K := True) (by simp [tStmt1, h6])) (fun h6 => ?_)
  refine st_53 (fun h7 => fail (K := True) (by simp [tStmt1, h7])) (fun h7 => ?_)
  have hall : tStmt1 x = true := by simp only [tStmt1, h1, h2, h3, h4, h5, h6, h7, Bool.and_self]
  have hw : IntKind.i64.wrap (d + 1) = d + 1 := wrap64 (by omega) (by omega)
  intro e ⟨g0, g2, g4⟩
  delta F54.c57
  simp only [go_sem,seval, g0, g2, g4, hw]
  refine tcE (ihb (d + 1) h (by omega) (by omega)) ?_
  cases hb : (tStmts x.body (d + 1) && decide (x.body.length ≤ 512))
  ·simp only [go_sem,seval, g0, g2, g4]
   refine .same ⟨?_, rfl⟩
   rw [tStmt_eq, hall, hb]; simp
  ·simp only [go_sem,seval, g0, g2, g4, hw]
   refine tcE (ihe (d + 1) h (by omega) (by omega)) ?_
   simp only [go_sem,seval]
   refine .same ⟨?_, rfl⟩
   rw [tStmt_eq, hall, hb]; simp [h48]
 ·have hd' : (d > 48) = True := by simp; omega
  refine F54.calls (by simp) ?_
  delta F54.c0 F54.c1
  simp only [go_sem,seval, hd']
  exact .same ⟨by rw [tStmt_eq]; simp [h48], rfl⟩
theorem tstmts_spec [GI] : ∀ (n : Nat) (l : List Stmt), Stmts.sz l ≤ n → few l → (∀ x ∈ l, x.ok) → (∀ x ∈ l, x.fit) → StmtsC l := by
 intro n
 induction n with
 | zero =>
  intro l hn hw ho hf
  cases l with
  | cons x r => simp [Stmts.sz] at hn
  | nil =>
   intro d h hd0 hd
   refine F26.calls (by simp) ?_
   delta F26.c0
   simp only [go_sem,seval]
   refine lT_round ?_
   simp only [go_sem,seval]
   exact .same ⟨by simp [tStmts], rfl⟩
 | succ n ih =>
  intro l hn hw ho hf d h hd0 hd
  refine F26.calls (by simp) ?_
  delta F26.c0
  simp only [go_sem,seval]
  refine lT_list l (fun pre post e g => (tStmts l d = tStmts post d ∧ g = h) ∧ e = [(0, .int .i64 0), (1, .sl (l.map eStmt) false), (2, .int .i64 d), (7, .int .i64 pre.length)]) (WeakE.env ?_) ⟨⟨rfl, rfl⟩, rfl⟩ ?_ ?_
  ·simp only [go_sem,seval]
  ·rintro pre x post e g hp ⟨⟨hs, rfl⟩, rfl⟩
   have hx := mem_at hp
   have hz := Stmts.sz_mem hx
   have hsz := Stmt.sz_eq x
   have hok := (Stmt.ok_iff x).1 (ho x hx)
   have hft := (Stmt.fit_iff x).1 (hf x hx)
   have ihb : StmtsC x.body := ih x.body (by omega) hok.2.2.2.2.2.1 hok.2.2.2.2.2.2.1 hft.2.2.2.2.2.2.1
   have ihe : StmtsC x.els := ih x.els (by omega) hok.2.2.2.2.2.2.2.1 hok.2.2.2.2.2.2.2.2.1 hft.2.2.2.2.2.2.2.1
   simp only [go_sem,seval, lt_at hp, aia_sl (map_at hp) (eStmt_len x)]
   refine tcE (tstmt_of x (ho x hx) (hf x hx) ihb ihe d g hd0 hd) ?_
   cases ht : tStmt x d
   ·simp only [go_sem,seval]
    refine lessQ.same ?_
    simp only [go_sem,seval]
    exact .same ⟨by rw [hs]; simp [tStmts, ht], rfl⟩
   ·simp only [go_sem,seval]
    refine ⟨_, _, WeakE.env ?_, ⟨?_, rfl⟩, rfl⟩
    ·simp only [go_sem,seval, step_at hw hp]
    ·rw [hs]; simp [tStmts, ht]
  ·rintro e g ⟨⟨hs, rfl⟩, rfl⟩
   simp only [go_sem,seval, lt_end]
   refine lessQ.same ?_
   simp only [go_sem,seval]
   refine .same ⟨?_, rfl⟩
   rw [hs, le512]; simp [tStmts]
end Pg
namespace Pg
open Go Go.Proofs.Tryz
theorem tRoutine_eq (ahead : List ByteArray) (x : Routine) (d : Int) : tRoutine ahead x d = (decide (d ≤ 48) && tMarks x.before x.trail && tNotes x.endd && tName x.name && decide (0 ≤ x.result) && decide (x.result ≤ 3) && !among x.name ahead && tParams x.params && tVars x.vars && (tRoutines [] x.inner (d + 1) && decide (x.inner.length ≤ 512)) && (tStmts x.body 1 && decide (x.body.length ≤ 512))) := by
 obtain ⟨before, trail, name, result, params, vars, inner, body, endd⟩ := x; rw [tRoutine]
def TRoutinesC [GI] (l : List Routine) : Prop := ∀ (d : Int) (h : AHeap), 0 ≤ d → d ≤ 49 → ACalls prog 25 [.int .i64 0, .sl (l.map eRoutine) false, .int .i64 d] h (fun v g => v = .bool (tRoutines [] l d && decide (l.length ≤ 512)) ∧ g = h)
theorem troutines_of [GI] (l : List Routine) (ih : ∀ x ∈ l, TRoutinesC x.inner) (hw : few l) (ho : ∀ x ∈ l, x.ok) (hf : ∀ x ∈ l, x.fit) : TRoutinesC l := by
  intro d h hd0 hd
  refine F25.calls (by simp) ?_
  delta F25.c0
  simp only [go_sem,seval]
  refine lT_list l (fun pre post e g => (tRoutines [] l d = tRoutines (pre.map (·.name)) post d ∧ g = h) ∧ e = [(0, .int .i64 0), (1, .sl (l.map eRoutine) false), (2, .int .i64 d), (7, .int .i64 pre.length)]) (WeakE.env ?_) ⟨⟨rfl, rfl⟩, rfl⟩ ?_ ?_
  · simp only [go_sem,seval]
  · rintro pre x post e g hp ⟨⟨hs, rfl⟩, rfl⟩
    have hx := mem_at hp
    have hok := (Routine.ok_iff x).1 (ho x hx)
    have hft := (Routine.fit_iff x).1 (hf x hx)
    by_cases h48 : d ≤ 48
    ·
      have hd' : (d > 48) = False := by simp; omega
      have hwr : IntKind.i64.wrap (d + 1) = d + 1 := wrap64 (by omega) (by omega)
      simp only [go_sem,seval, lt_at hp, aia_sl (map_at hp) (eRoutine_len x), hd', routine_m]
      refine tcE (marks_spec g x.before x.trail hok.1 hok.2.1 hft.1 hft.2.1) ?_
      cases c1 : tMarks x.before x.trail
      all_goals simp only [go_sem,seval, aia_sl (map_at hp) (eRoutine_len x), routine_m]
      ·
       refine lessQ.same ?_
       simp only [go_sem,seval]
       exact .same ⟨by rw [hs]; simp [tRoutines, tRoutine_eq, c1], rfl⟩
      ·
       refine tcE (notes_spec g x.endd hok.2.2.2.2.2.2.2.2.2 hft.2.2.2.2.2.2.2.2) ?_
       cases c2 : tNotes x.endd
       all_goals simp only [go_sem,seval, aia_sl (map_at hp) (eRoutine_len x), routine_m]
       ·
        refine lessQ.same ?_
        simp only [go_sem,seval]
        exact .same ⟨by rw [hs]; simp [tRoutines, tRoutine_eq, c1, c2], rfl⟩
       ·
        refine tcE (RoutineName_spec g x.name hft.2.2.1) ?_
        cases c3 : tName x.name
        all_goals simp only [go_sem,seval, aia_sl (map_at hp) (eRoutine_len x), routine_m]
        ·
         refine lessQ.same ?_
         simp only [go_sem,seval]
         exact .same ⟨by rw [hs]; simp [tRoutines, tRoutine_eq, c1, c2, c3], rfl⟩
        ·
         by_cases c4 : 0 ≤ x.result
         ·
          simp only [go_sem,seval, show (x.result < 0) = False by first | (simp; done) | (simp; omega), aia_sl (map_at hp) (eRoutine_len x), routine_m]
          by_cases c5 : x.result ≤ 3
          ·
           simp only [go_sem,seval, show (x.result > 3) = False by first | (simp; done) | (simp; omega), aia_sl (map_at hp) (eRoutine_len x), routine_m]
           have hple : few pre := by
             unfold few at hw ⊢
             rw [hp] at hw; simp at hw; omega
           refine lT_list pre (fun pre' post' e k => ((∀ z ∈ pre', ¬ z.name = x.name) ∧ k = g) ∧ e = [(0, .int .i64 0), (1, .sl (l.map eRoutine) false), (2, .int .i64 d), (7, .int .i64 pre.length), (8, .ip (eRoutine x) 0), (9, .int .i64 pre'.length)]) (WeakE.env ?_) ⟨⟨by simp, rfl⟩, rfl⟩ ?_ ?_
           · simp only [go_sem,seval]
           · rintro pre' y post' e k hp' ⟨⟨hn, rfl⟩, rfl⟩
             have hp2 : l = pre' ++ y :: (post' ++ x :: post) := by rw [hp, hp']; simp
             simp only [go_sem,seval, lt_at hp', aia_sl (map_at hp2) (eRoutine_len y)]
             by_cases hy : y.name = x.name
             ·
               simp only [go_sem,seval, hy]
               refine lessQ.same ?_
               simp only [go_sem,seval]
               have ham : among x.name (pre.map (·.name)) = true := by
                 simp only [among, List.any_eq_true]
                 exact ⟨y.name, List.mem_map.2 ⟨y, mem_at hp', rfl⟩, by simp [hy]⟩
               refine lessQ.same ?_
               simp only [go_sem,seval]
               exact .same ⟨by rw [hs]; simp [tRoutines, tRoutine_eq, ham], rfl⟩
             ·
               simp only [go_sem,seval, hy]
               refine ⟨_, _, WeakE.env ?_, ⟨?_, rfl⟩, rfl⟩
               · simp only [go_sem,seval, step_at hple hp']
               · intro z hz
                 rcases List.mem_append.1 hz with hz | hz
                 · exact hn z hz
                 · simp at hz; subst hz; exact hy
           · rintro e k ⟨⟨hn, rfl⟩, rfl⟩
             have ham : among x.name (pre.map (·.name)) = false := by
               simp only [among, List.any_eq_false, List.mem_map]
               rintro n ⟨z, hz, rfl⟩
               simp [hn z hz]
             simp only [go_sem,seval, lt_end]
             refine lessQ.same ?_
             simp only [go_sem,seval]
             refine tcE (params_spec k x.params hok.2.2.1 hft.2.2.2.2.1) ?_
             cases d1 : tParams x.params
             all_goals simp only [go_sem,seval, hwr]
             ·
              refine lessQ.same ?_
              simp only [go_sem,seval]
              exact .same ⟨by rw [hs]; simp [tRoutines, tRoutine_eq, c1, c2, c3, c4, c5, d1], rfl⟩
             ·
              refine tcE (vars_spec k x.vars hok.2.2.2.1 hok.2.2.2.2.1 hft.2.2.2.2.2.1) ?_
              cases d2 : tVars x.vars
              all_goals simp only [go_sem,seval, hwr]
              ·
               refine lessQ.same ?_
               simp only [go_sem,seval]
               exact .same ⟨by rw [hs]; simp [tRoutines, tRoutine_eq, c1, c2, c3, c4, c5, d1, d2], rfl⟩
              ·
               refine tcE (ih x hx (d + 1) k (by omega) (by omega)) ?_
               cases d3 : (tRoutines [] x.inner (d + 1) && decide (x.inner.length ≤ 512))
               all_goals simp only [go_sem,seval, hwr]
               ·
                refine lessQ.same ?_
                simp only [go_sem,seval]
                exact .same ⟨by rw [hs]; simp [tRoutines, tRoutine_eq, c1, c2, c3, c4, c5, d1, d2, d3], rfl⟩
               ·
                refine tcE (tstmts_spec _ x.body (Nat.le_refl _) hok.2.2.2.2.2.2.2.1 hok.2.2.2.2.2.2.2.2.1 hft.2.2.2.2.2.2.2.1 1 k (by omega) (by omega)) ?_
                cases d4 : (tStmts x.body 1 && decide (x.body.length ≤ 512))
                all_goals simp only [go_sem,seval, hwr]
                ·
                 refine lessQ.same ?_
                 simp only [go_sem,seval]
                 exact .same ⟨by rw [hs]; simp [tRoutines, tRoutine_eq, c1, c2, c3, c4, c5, d1, d2, d3, d4], rfl⟩
                ·
                 refine ⟨_, _, WeakE.env ?_, ⟨?_, rfl⟩, rfl⟩
                 · simp only [go_sem,seval, step_at hw hp]
                 · rw [hs]; simp [tRoutines, tRoutine_eq, h48, ham, c1, c2, c3, c4, c5, d1, d2, d3, d4]
          ·
           simp only [go_sem,seval, show (x.result > 3) = True by first | (simp; done) | (simp; omega), aia_sl (map_at hp) (eRoutine_len x), routine_m]
           refine lessQ.same ?_
           simp only [go_sem,seval]
           exact .same ⟨by rw [hs]; simp [tRoutines, tRoutine_eq, c1, c2, c3, c4, c5], rfl⟩
         ·
          simp only [go_sem,seval, show (x.result < 0) = True by first | (simp; done) | (simp; omega), aia_sl (map_at hp) (eRoutine_len x), routine_m]
          refine lessQ.same ?_
          simp only [go_sem,seval]
          exact .same ⟨by rw [hs]; simp [tRoutines, tRoutine_eq, c1, c2, c3, c4], rfl⟩
    ·
      have hd' : (d > 48) = True := by simp; omega
      simp only [go_sem,seval, lt_at hp, aia_sl (map_at hp) (eRoutine_len x), hd']
      refine lessQ.same ?_
      simp only [go_sem,seval]
      exact .same ⟨by rw [hs]; simp [tRoutines, tRoutine_eq, h48], rfl⟩
  · rintro e g ⟨⟨hs, rfl⟩, rfl⟩
    simp only [go_sem,seval, lt_end]
    refine lessQ.same ?_
    simp only [go_sem,seval]
    refine .same ⟨?_, rfl⟩
    rw [hs, le512]; simp [tRoutines]
theorem troutines_spec [GI] : ∀ (n : Nat) (l : List Routine), Routines.sz l ≤ n → few l → (∀ x ∈ l, x.ok) → (∀ x ∈ l, x.fit) → TRoutinesC l := by
 intro n
 induction n with
 | zero =>
  intro l hn hw ho hf
  refine troutines_of l (fun x hx => ?_) hw ho hf
  have := Routines.sz_mem hx
  omega
 | succ n ih =>
  intro l hn hw ho hf
  refine troutines_of l (fun x hx => ?_) hw ho hf
  have hz1 := Routines.sz_mem hx
  have hz2 := Routine.sz_eq x
  have hok := (Routine.ok_iff x).1 (ho x hx)
  have hft := (Routine.fit_iff x).1 (hf x hx)
  exact @ih x.inner (by omega) hok.2.2.2.2.2.1 hok.2.2.2.2.2.2.1 hft.2.2.2.2.2.2.1
end Pg
namespace Pg
open Go Go.Proofs.Tryz
theorem tPrg_spec [GI] (p : Prg) (ho : p.ok) (hf : p.fit) (h : AHeap) : ACalls prog 8 [.int .i64 0, .agg (ePrg p)] h (fun v g => v = .bool (tPrg p) ∧ g = h) := by
  refine F8.calls (by simp) ?_
  delta F8.c0
  simp only [go_sem,seval]
  refine tcE (Name_spec h p.name hf.1) ?_
  cases a1 : tName p.name
  all_goals simp only [go_sem,seval, Bool.not_true]
  ·
   exact .same ⟨by simp [tPrg, a1], rfl⟩
  ·
   refine tcE (notes_spec h p.before ho.before hf.2.1) ?_
   cases a2 : tNotes p.before
   all_goals simp only [go_sem,seval, Bool.not_true]
   ·
    exact .same ⟨by simp [tPrg, a1, a2], rfl⟩
   ·
    refine tcE (notes_spec h p.mid ho.mid hf.2.2.1) ?_
    cases a3 : tNotes p.mid
    all_goals simp only [go_sem,seval, Bool.not_true]
    ·
     exact .same ⟨by simp [tPrg, a1, a2, a3], rfl⟩
    ·
     refine tcE (notes_spec h p.after ho.after hf.2.2.2.1) ?_
     cases a4 : tNotes p.after
     all_goals simp only [go_sem,seval, Bool.not_true]
     ·
      exact .same ⟨by simp [tPrg, a1, a2, a3, a4], rfl⟩
     ·
      refine tcE (notes_spec h p.endd ho.endd hf.2.2.2.2.2.2.2.2) ?_
      cases a5 : tNotes p.endd
      all_goals simp only [go_sem,seval, Bool.not_true]
      ·
       exact .same ⟨by simp [tPrg, a1, a2, a3, a4, a5], rfl⟩
      ·
       by_cases a6 : p.recs.length ≤ 512
       ·
        simp only [go_sem,seval, show ((p.recs.length : Int) > 512) = False by first | (simp; done) | (simp; omega), Bool.not_true]
        refine lT_list p.recs (fun pre post e g => (p.recs.all tRec = post.all tRec ∧ g = h) ∧ e = [(0, .int .i64 0), (3, .ip (ePrg p) 0), (5, .int .i64 pre.length)]) (WeakE.env ?_) ⟨⟨rfl, rfl⟩, rfl⟩ ?_ ?_
        · simp only [go_sem,seval]
        · rintro pre x post e g hp ⟨⟨hs, rfl⟩, rfl⟩
          have hx := ho.eachRec x (mem_at hp)
          have fx := hf.2.2.2.2.1 x (mem_at hp)
          simp only [go_sem,seval, lt_at hp, aia_sl (map_at hp) (eRec_len x), rec_m]
          refine tcE (marks_spec g x.before x.trail hx.before hx.trail fx.1 fx.2.1) ?_
          cases r1 : tMarks x.before x.trail
          all_goals simp only [go_sem,seval, aia_sl (map_at hp) (eRec_len x), rec_m]
          ·
           refine lessQ.same ?_
           simp only [go_sem,seval]
           have hr : p.recs.all tRec = false := by rw [hs]; simp [tRec, r1]
           exact .same ⟨by simp [tPrg, hr], rfl⟩
          ·
           refine tcE (notes_spec g x.endd hx.endd fx.2.2.2.2) ?_
           cases r2 : tNotes x.endd
           all_goals simp only [go_sem,seval, aia_sl (map_at hp) (eRec_len x), rec_m]
           ·
            refine lessQ.same ?_
            simp only [go_sem,seval]
            have hr : p.recs.all tRec = false := by rw [hs]; simp [tRec, r1, r2]
            exact .same ⟨by simp [tPrg, hr], rfl⟩
           ·
            refine tcE (Name_spec g x.name fx.2.2.1) ?_
            cases r3 : tName x.name
            all_goals simp only [go_sem,seval, aia_sl (map_at hp) (eRec_len x), rec_m]
            ·
             refine lessQ.same ?_
             simp only [go_sem,seval]
             have hr : p.recs.all tRec = false := by rw [hs]; simp [tRec, r1, r2, r3]
             exact .same ⟨by simp [tPrg, hr], rfl⟩
            ·
             by_cases r4 : ¬ x.fields.length = 0
             ·
              simp only [go_sem,seval, show ((x.fields.length : Int) = 0) = False by simpa using r4, aia_sl (map_at hp) (eRec_len x), rec_m]
              by_cases r5 : x.fields.length ≤ 512
              ·
               simp only [go_sem,seval, show ((x.fields.length : Int) > 512) = False by first | (simp; done) | (simp; omega), aia_sl (map_at hp) (eRec_len x), rec_m]
               refine lT_list x.fields (fun pre' post' e k => (x.fields.all tFld = post'.all tFld ∧ k = g) ∧ e = [(0, .int .i64 0), (3, .ip (ePrg p) 0), (5, .int .i64 pre.length), (6, .ip (eRec x) 0), (7, .int .i64 pre'.length)]) (WeakE.env ?_) ⟨⟨rfl, rfl⟩, rfl⟩ ?_ ?_
               · simp only [go_sem,seval]
               · rintro pre' y post' e k hp' ⟨⟨hn, rfl⟩, rfl⟩
                 have hy := hx.each y (mem_at hp')
                 have fy := fx.2.2.2.1 y (mem_at hp')
                 simp only [go_sem,seval, lt_at hp', aia_sl (map_at hp') (eFld_len y), fld_m]
                 refine tcE (marks_spec k y.before y.trail hy.before hy.trail fy.1 fy.2.1) ?_
                 cases f1 : tMarks y.before y.trail
                 all_goals simp only [go_sem,seval, aia_sl (map_at hp') (eFld_len y), fld_m]
                 ·
                  refine lessQ.same ?_
                  simp only [go_sem,seval]
                  refine lessQ.same ?_
                  simp only [go_sem,seval]
                  have hfl : x.fields.all tFld = false := by rw [hn]; simp [tFld, f1]
                  have hr : p.recs.all tRec = false := by rw [hs]; simp only [List.all_cons, tRec, hfl, Bool.and_false, Bool.false_and]
                  exact .same ⟨by simp only [tPrg, hr, Bool.and_false, Bool.false_and], rfl⟩
                 ·
                  refine tcE (Name_spec k y.name fy.2.2.1) ?_
                  cases f2 : tName y.name
                  all_goals simp only [go_sem,seval, aia_sl (map_at hp') (eFld_len y), fld_m]
                  ·
                   refine lessQ.same ?_
                   simp only [go_sem,seval]
                   refine lessQ.same ?_
                   simp only [go_sem,seval]
                   have hfl : x.fields.all tFld = false := by rw [hn]; simp [tFld, f1, f2]
                   have hr : p.recs.all tRec = false := by rw [hs]; simp only [List.all_cons, tRec, hfl, Bool.and_false, Bool.false_and]
                   exact .same ⟨by simp only [tPrg, hr, Bool.and_false, Bool.false_and], rfl⟩
                  ·
                   by_cases f3 : 1 ≤ y.kind
                   ·
                    simp only [go_sem,seval, show (y.kind < 1) = False by first | (simp; done) | (simp; omega), aia_sl (map_at hp') (eFld_len y), fld_m]
                    by_cases f4 : y.kind ≤ 3
                    ·
                     simp only [go_sem,seval, show (y.kind > 3) = False by first | (simp; done) | (simp; omega), aia_sl (map_at hp') (eFld_len y), fld_m]
                     refine ⟨_, _, WeakE.env ?_, ⟨?_, rfl⟩, rfl⟩
                     · simp only [go_sem,seval, step_at hx.fields hp']
                     · rw [hn]; simp [tFld, f1, f2, f3, f4]
                    ·
                     simp only [go_sem,seval, show (y.kind > 3) = True by first | (simp; done) | (simp; omega), aia_sl (map_at hp') (eFld_len y), fld_m]
                     refine lessQ.same ?_
                     simp only [go_sem,seval]
                     refine lessQ.same ?_
                     simp only [go_sem,seval]
                     have hfl : x.fields.all tFld = false := by rw [hn]; simp [tFld, f1, f2, f3, f4]
                     have hr : p.recs.all tRec = false := by rw [hs]; simp only [List.all_cons, tRec, hfl, Bool.and_false, Bool.false_and]
                     exact .same ⟨by simp only [tPrg, hr, Bool.and_false, Bool.false_and], rfl⟩
                   ·
                    simp only [go_sem,seval, show (y.kind < 1) = True by first | (simp; done) | (simp; omega), aia_sl (map_at hp') (eFld_len y), fld_m]
                    refine lessQ.same ?_
                    simp only [go_sem,seval]
                    refine lessQ.same ?_
                    simp only [go_sem,seval]
                    have hfl : x.fields.all tFld = false := by rw [hn]; simp [tFld, f1, f2, f3]
                    have hr : p.recs.all tRec = false := by rw [hs]; simp only [List.all_cons, tRec, hfl, Bool.and_false, Bool.false_and]
                    exact .same ⟨by simp only [tPrg, hr, Bool.and_false, Bool.false_and], rfl⟩
               · rintro e k ⟨⟨hn, rfl⟩, rfl⟩
                 simp only [go_sem,seval, lt_end]
                 refine lessQ.same ?_
                 simp only [go_sem,seval]
                 have hfl : x.fields.all tFld = true := by rw [hn]; rfl
                 refine ⟨_, _, WeakE.env ?_, ⟨?_, rfl⟩, rfl⟩
                 · simp only [go_sem,seval, step_at ho.recs hp]
                 · rw [hs]; simp [tRec, hfl, r1, r2, r3, r4, r5]
              ·
               simp only [go_sem,seval, show ((x.fields.length : Int) > 512) = True by first | (simp; done) | (simp; omega), aia_sl (map_at hp) (eRec_len x), rec_m]
               refine lessQ.same ?_
               simp only [go_sem,seval]
               have hr : p.recs.all tRec = false := by rw [hs]; simp [tRec, r1, r2, r3, r4, r5]
               exact .same ⟨by simp [tPrg, hr], rfl⟩
             ·
              simp only [go_sem,seval, show ((x.fields.length : Int) = 0) = True by simpa using r4, aia_sl (map_at hp) (eRec_len x), rec_m]
              refine lessQ.same ?_
              simp only [go_sem,seval]
              have hr : p.recs.all tRec = false := by rw [hs]; simp [tRec, r1, r2, r3, show x.fields.length = 0 by omega]
              exact .same ⟨by simp [tPrg, hr], rfl⟩
        · rintro e g ⟨⟨hs, rfl⟩, rfl⟩
          simp only [go_sem,seval, lt_end]
          refine lessQ.same ?_
          simp only [go_sem,seval]
          have hr : p.recs.all tRec = true := by rw [hs]; rfl
          refine tcE (vars_spec g p.vars ho.vars ho.eachVar hf.2.2.2.2.2.1) ?_
          cases e1 : tVars p.vars
          all_goals simp only [go_sem,seval, Bool.not_true]
          ·
           exact .same ⟨by simp [tPrg, hr, a1, a2, a3, a4, a5, a6, e1], rfl⟩
          ·
           refine tcE (troutines_spec _ p.routines (Nat.le_refl _) ho.routines ho.eachRoutine hf.2.2.2.2.2.2.1 1 g (by omega) (by omega)) ?_
           cases e2 : (tRoutines [] p.routines 1 && decide (p.routines.length ≤ 512))
           all_goals simp only [go_sem,seval, Bool.not_true]
           ·
            exact .same ⟨by simp [tPrg, hr, a1, a2, a3, a4, a5, a6, e1, e2], rfl⟩
           ·
            refine tcE (tstmts_spec _ p.body (Nat.le_refl _) ho.body ho.eachStmt hf.2.2.2.2.2.2.2.1 1 g (by omega) (by omega)) ?_
            cases e3 : (tStmts p.body 1 && decide (p.body.length ≤ 512))
            all_goals simp only [go_sem,seval, Bool.not_true]
            ·
             exact .same ⟨by simp [tPrg, hr, a1, a2, a3, a4, a5, a6, e1, e2, e3], rfl⟩
            ·
             exact .same ⟨by simp [tPrg, hr, a1, a2, a3, a4, a5, a6, e1, e2, e3], rfl⟩
       ·
        simp only [go_sem,seval, show ((p.recs.length : Int) > 512) = True by first | (simp; done) | (simp; omega), Bool.not_true]
        exact .same ⟨by simp [tPrg, a1, a2, a3, a4, a5, a6], rfl⟩
end Pg
