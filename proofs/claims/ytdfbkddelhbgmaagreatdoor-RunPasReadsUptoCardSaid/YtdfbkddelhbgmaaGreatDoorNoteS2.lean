import Derived.Test.YtdfbkddelhbgmaaGreatDoorTreeSS2
import Derived.Test.YtdfbkddelhbgmaaGreatDoorBld3S2
import Derived.Test.YtdfbkddelhbgmaaGreatDoorTreeSpecS2
import Derived.Test.YtdfbkddelhbgmaaGreatDoorNmWS2
namespace Pg
open Go Go.Proofs.Tryz
set_option linter.all false
set_option maxHeartbeats 4000000
set_option maxRecDepth 4000
theorem BB.upd {h0 h : AHeap} {p : Nat} {l : List UInt8} (b : BB h0 p l h) {i : Nat} (hi : h i = none ∨ ∃ o, h0 i = some o) (o : AObj) : BB (h0.upd i o) p l (h.upd i o) := by
 obtain ⟨hp0, q, cap, b, hq0, out⟩ := b
 have hip : p ≠ i := by
  rintro rfl
  rcases hi with hi | ⟨o, hi⟩
  ·rw [b.hp] at hi; cases hi
  ·rw [hp0] at hi; cases hi
 have hiq : q ≠ i := by
  rintro rfl
  rcases hi with hi | ⟨o, hi⟩
  ·rw [b.hq] at hi; cases hi
  ·rw [hq0] at hi; cases hi
 refine ⟨by rw [upd_ne _ _ _ hip]; exact hp0, q, cap, ⟨by rw [upd_ne _ _ _ hip]; exact b.hp, by rw [upd_ne _ _ _ hiq]; exact b.hq, b.ne, b.le⟩, by rw [upd_ne _ _ _ hiq]; exact hq0, fun c h1 h2 => ?_⟩
 by_cases hc : c = i
 ·subst hc; rw [upd_same, upd_same]
 ·rw [upd_ne _ _ _ hc, upd_ne _ _ _ hc]; exact out c h1 h2
theorem BB.at {h0 h : AHeap} {p : Nat} {l : List UInt8} (b : BB h0 p l h) {i : Nat} {o : AObj} (hi : h0 i = some o) : h i = some o := by
 obtain ⟨hp0, q, cap, b, hq0, out⟩ := b
 rw [out i (fun e => by subst e; rw [hp0] at hi; cases hi) (fun e => by subst e; rw [hq0] at hi; cases hi)]
 exact hi
theorem BString_spec [GI] (h h0 h1 : AHeap) (p : Nat) (l : List UInt8) (hl : l ≠ []) (b : BB h1 p l h) (hroom : l.length < 1073741824) (le : h0.le h1) : ACalls prog 155 [.ptr (some ⟨p, 0, none⟩)] h (fun v g => v = .str ⟨l.toArray⟩ ∧ g = h0) := by
 have b' := b
 obtain ⟨hp0, q, cap, b, hq0, out⟩ := b
 refine String_spec h h0 p q cap l hl b (by omega) fun c o e => ⟨?_, b'.at (le c o e)⟩
 rintro rfl
 rw [le c o e] at hq0; cases hq0
theorem aslice_pre {s : ByteArray} {b : Nat} (h2 : b ≤ s.size) : aslice true 0 (.str s) none (some (.int .i64 (b : Int))) = some (.str (s.extract 0 b)) := by
 simp only [aslice, abound]
 rw [if_pos (Int.natCast_nonneg b)]
 simp only [Int.toNat_natCast]
 rw [if_pos ⟨Nat.zero_le _, h2⟩]
theorem aslice_suf {s : ByteArray} {a : Nat} (h2 : a ≤ s.size) : aslice true 0 (.str s) (some (.int .i64 (a : Int))) none = some (.str (s.extract a s.size)) := by
 simp only [aslice, abound]
 rw [if_pos (Int.natCast_nonneg a)]
 simp only [Int.toNat_natCast]
 rw [if_pos ⟨h2, Nat.le_refl _⟩]
theorem HasPrefix0_spec [GI] (h : AHeap) (s t : ByteArray) : ACalls prog 181 [.str s, .str t] h (fun v g => (∃ b, v = .bool b) ∧ g = h) := by
 refine F181.calls (by simp) ?_
 delta F181.c0
 simp only [go_sem,seval]
 by_cases hs : (t.size : Int) ≤ s.size
 ·simp only [go_sem,seval, hs, ge_iff_le, aslice_pre (by omega : t.size ≤ s.size)]
  exact .same ⟨⟨_, rfl⟩, rfl⟩
 ·simp only [go_sem,seval, hs, ge_iff_le]
  exact .same ⟨⟨_, rfl⟩, rfl⟩
theorem HasPrefix_spec [GI] (h : AHeap) (s t : ByteArray) : ACalls prog 153 [.str s, .str t] h (fun v g => (∃ b, v = .bool b) ∧ g = h) := by
 refine F153.calls (by simp) ?_
 delta F153.c0
 simp only [go_sem,seval]
 refine callT_of (HasPrefix0_spec h s t) fun v g ⟨⟨b, hv⟩, hg⟩ => ?_
 subst hv hg
 simp only [go_sem,seval]
 exact .same ⟨⟨_, rfl⟩, rfl⟩
theorem nright_spec [GI] (h : AHeap) (c : Nat) : ACalls prog 152 [.int .u8 (c : Int)] h (fun v g => v = .bool (noteByte c) ∧ g = h) := by
 refine F152.calls (by simp) ?_
 delta F152.c0
 simp only [go_sem,seval]
 repeat' (refine agateT_split (fun hg => ?_) (fun hg => ?_) <;> simp only [go_sem,seval, hg, Bool.not_true, Bool.not_false])
 all_goals
  refine .same ⟨?_, rfl⟩
  congr 1
  try simp only [Bool.not_true, Bool.not_false, decide_eq_true_eq, decide_eq_false_iff_not] at *
  try rw [Bool.eq_iff_iff]
  try simp [noteByte]
  try omega
theorem nof_spec [GI] (h : AHeap) : ACalls prog 150 [.int .i64 0] h (fun v g => v = .tuple [.agg [.str ⟨#[123]⟩, .str ⟨#[125]⟩, .str ⟨#[92, 125]⟩], .bool true] ∧ g = h) := by
 refine F150.calls (by simp) ?_
 delta F150.c0
 simp only [go_sem,seval]
 refine afreshT_intro fun p hp => ?_
 simp only [go_sem,seval, upd_same, upd_upd]
 exact .forget (AHeap.le_upd hp) ⟨rfl, rfl⟩
theorem get_at {s : ByteArray} {pre post : List UInt8} {c : UInt8} (h : bytes s = pre ++ c :: post) : s.get! pre.length = c := by
 have h1 : (bytes s)[pre.length]? = some c := by rw [h]; simp
 have hb : pre.length < s.size := by rw [← bytes_len, h]; simp
 unfold bytes at h1
 rw [Array.getElem?_toList] at h1
 show s.data[pre.length]! = c
 simp [getElem!_def, h1]
theorem le_none_upd' {h g : AHeap} {p : Nat} (hp : h p = none) (le : h.le g) (o : AObj) : h.le (g.upd p o) := by
 intro b x e
 by_cases hb : b = p
 ·subst hb; rw [hp] at e; cases e
 ·rw [upd_ne _ _ _ hb]; exact le b x e
theorem nPrint_spec [GI] (h : AHeap) (s : ByteArray) (hs : tNote s = true) : ACalls prog 104 [.int .i64 0, .str s] h (fun v g => (∃ t, v = .tuple [.str t, .int .i64 0]) ∧ g = h) := by
 simp only [tNote, Bool.and_eq_true, decide_eq_true_eq, List.all_eq_true] at hs
 have hsz : ((s.size : Int) > 1024) = False := by simp; omega
 refine F104.calls (by simp) ?_
 delta F104.c0
 simp only [go_sem,seval]
 refine tcE (nof_spec h) ?_
 simp only [go_sem,seval, hsz]
 refine afreshT_intro fun p hp => ?_
 simp only [go_sem,seval]
 refine callT_of (WriteString_fresh h p hp ⟨#[123]⟩ (by decide) (by decide)) fun v g ⟨hv, b0⟩ => ?_
 subst hv
 simp only [go_sem,seval]
 show ∀ it, g it = none → _
 intro it hit
 have h_it : h it = none := by
  cases e : h it with
  | none => rfl
  | some o => have := b0.at e; rw [hit] at this; cases this
 refine lT_list (bytes s) (fun pre post e k => (∃ l', l' ≠ [] ∧ l'.length ≤ 2 * pre.length + 1 ∧ BB (h.upd it (.sit s pre.length)) p l' k) ∧ e = [(1, .str s), (6, .ip [.str ⟨#[123]⟩, .str ⟨#[125]⟩, .str ⟨#[92, 125]⟩] 0), (8, .ptr (some ⟨p, 0, none⟩)), (26, .ptr (some ⟨it, 0, none⟩))]) (WeakE.env ?_) ⟨⟨[123], by simp, by simp, b0.upd (.inl hit) _⟩, rfl⟩ ?_ ?_
 ·simp only [go_sem,seval]
 ·rintro pre c post e k hl ⟨⟨l', hl0, hl1, bb⟩, rfl⟩
  have hpre : pre.length < s.size := by rw [← bytes_len, hl]; simp
  have hc : noteByte c.toNat = true := hs.2 c (by rw [hl]; simp)
  have hll : (pre ++ [c]).length = pre.length + 1 := by simp
  have hget : s.get! pre.length = c := get_at hl
  have hc128 : c.toNat < 128 := by simp only [noteByte, Bool.or_eq_true, Bool.and_eq_true, decide_eq_true_eq] at hc; omega
  simp only [go_sem,seval, bb.at (upd_same _ _ _)]
  unfold anxts
  simp only [bb.at (upd_same _ _ _)]
  rw [if_pos hpre]
  intro wd hwd
  rw [hget] at hwd
  have := hwd hc128; subst this
  have bb1 := bb.upd (i := it) (.inr ⟨_, upd_same _ _ _⟩) (.sit s (pre.length + 1))
  rw [upd_upd] at bb1
  simp only [go_sem,seval, six_at hl]
  refine tcE (nright_spec _ c.toNat) ?_
  simp only [go_sem,seval, hc, six_at hl]
  by_cases h92 : (c.toNat : Int) = 92
  ·simp only [go_sem,seval, h92]
   refine callT_of (WriteByte_spec _ _ p _ 92 bb1 (by omega)) fun v k1 ⟨hv, bb1'⟩ => ?_
   subst hv
   simp only [go_sem,seval, six_at hl]
   refine callT_of (WriteByte_spec _ _ p _ c bb1' (by simp; omega)) fun v k2 ⟨hv, bb2⟩ => ?_
   subst hv
   simp only [go_sem,seval]
   refine ⟨_, _, WeakE.env ?_, ⟨_, ?_, ?_, by rw [hll]; exact bb2⟩, rfl⟩
   ·simp only [go_sem,seval]
   ·simp
   ·simp; omega
  ·simp only [go_sem,seval, h92, aslice_suf (Nat.le_of_lt hpre)]
   refine callT_of (HasPrefix_spec _ _ _) fun v k0 ⟨⟨b, hv⟩, hk⟩ => ?_
   subst hv hk
   cases b with
   | true =>
    simp only [go_sem,seval]
    refine callT_of (WriteByte_spec _ _ p _ 92 bb1 (by omega)) fun v k1 ⟨hv, bb1'⟩ => ?_
    subst hv
    simp only [go_sem,seval, six_at hl]
    refine callT_of (WriteByte_spec _ _ p _ c bb1' (by simp; omega)) fun v k2 ⟨hv, bb2⟩ => ?_
    subst hv
    simp only [go_sem,seval]
    refine ⟨_, _, WeakE.env ?_, ⟨_, ?_, ?_, by rw [hll]; exact bb2⟩, rfl⟩
    ·simp only [go_sem,seval]
    ·simp
    ·simp; omega
   | false =>
    simp only [go_sem,seval]
    simp only [go_sem,seval, six_at hl]
    refine callT_of (WriteByte_spec _ _ p _ c bb1 (by omega)) fun v k2 ⟨hv, bb2⟩ => ?_
    subst hv
    simp only [go_sem,seval]
    refine ⟨_, _, WeakE.env ?_, ⟨_, ?_, ?_, by rw [hll]; exact bb2⟩, rfl⟩
    ·simp only [go_sem,seval]
    ·simp
    ·simp; omega
 ·rintro e k ⟨⟨l', hl0, hl1, bb⟩, rfl⟩
  rw [bytes_len] at hl1 bb
  simp only [go_sem,seval, bb.at (upd_same _ _ _)]
  unfold anxts
  simp only [bb.at (upd_same _ _ _)]
  rw [if_neg (Nat.lt_irrefl _)]
  simp only [go_sem,seval]
  refine lessQ.same ?_
  simp only [go_sem,seval]
  refine callT_of (WriteString_spec _ _ p _ ⟨#[125]⟩ bb (by have : (⟨#[125]⟩ : ByteArray).size = 1 := rfl; omega)) fun v k1 ⟨hv, bb1⟩ => ?_
  subst hv
  simp only [go_sem,seval]
  refine callT_of (BString_spec _ h _ p _ (by simp) bb1 (by simp; omega) (le_none_upd' h_it (AHeap.le_refl h) _)) fun v k2 ⟨hv, hk⟩ => ?_
  subst hv hk
  simp only [go_sem,seval]
  exact .same ⟨⟨_, rfl⟩, rfl⟩
