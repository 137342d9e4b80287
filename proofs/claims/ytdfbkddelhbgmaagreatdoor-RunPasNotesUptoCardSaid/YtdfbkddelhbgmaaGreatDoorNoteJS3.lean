import Derived.Test.YtdfbkddelhbgmaaGreatDoorTreeSS3
import Derived.Test.YtdfbkddelhbgmaaGreatDoorBld2JS3
import Derived.Test.YtdfbkddelhbgmaaGreatDoorCodeAS3
import Derived.Test.YtdfbkddelhbgmaaGreatDoorTreeSpecS3
import Derived.Test.YtdfbkddelhbgmaaGreatDoorNmWS3
namespace Pg
open Go Go.Proofs.Tryz
set_option linter.all false
set_option maxHeartbeats 4000000
set_option maxRecDepth 4000
abbrev B4 (l : List UInt8) : List AV := l.map fun b => .int .u8 b.toNat
structure BB (h0 : AHeap) (p : Nat) (l : List UInt8) (h : AHeap) : Prop where
 p0 : h0 p = none
 ex : ∃ q cap, Bld p q cap l h ∧ h0 q = none ∧ ∀ c, c ≠ p → c ≠ q → h c = h0 c
theorem Bld.append {p q cap : Nat} {l : List UInt8} {h : AHeap} (b : Bld p q cap l h) {m : Nat} {xs : List AV} (new : List UInt8) (hm : new.length = m) (hx : B4 new = xs) (room : l.length + m < 1099511627776) {K : AV → AHeap → Tok → Prop}
  (k : ∀ q' cap', h.del q q' = none → (l ++ new).length ≤ cap' → K (.os q' (l ++ new).length cap') ((h.del q).upd q' (.blk (B4 (l ++ new)) cap' 5)) .go) : jZ .go h 5 1 1 (.os q l.length cap) m xs K := by
 subst hm hx
 unfold jZ gZ
 simp only [b.hq]
 refine ⟨trivial, by omega, b.le, by simp, NC (by omega), ?_⟩
 intro q' cap' h1 h2
 have := k q' cap' h1 (by simpa using h2)
 have e1 : (B4 l).take (l.length * 1) = B4 l := List.take_of_length_le (by simp)
 rw [e1]
 simpa using this
theorem Bld.next {h0 h : AHeap} {p q cap q' cap' : Nat} {l l' : List UInt8} (b : Bld p q cap l h) (hp0 : h0 p = none) (hq0 : h0 q = none) (out : ∀ c, c ≠ p → c ≠ q → h c = h0 c) (hq' : h.del q q' = none) (hc : l'.length ≤ cap') : BB h0 p l' ((((h.del q).upd q' (.blk (B4 l') cap' 5)).upd p (.blk [.ptr (some ⟨p, 0, none⟩), .os q' l'.length cap'] 2 238))) := by
 have hpq' : p ≠ q' := by
  rintro rfl
  rw [show h.del q p = h p from by simp [AHeap.del, b.ne], b.hp] at hq'; cases hq'
 have hq'0 : h0 q' = none := by
  by_cases e : q' = q
  ·subst e; exact hq0
  ·rw [← out q' hpq'.symm e]; simpa [AHeap.del, e] using hq'
 refine ⟨hp0, q', cap', ⟨aA _ _ _, by rw [aC _ _ _ hpq'.symm]; exact aA _ _ _, hpq', hc⟩, hq'0, ?_⟩
 intro c h1 h2
 rw [aC _ _ _ h1, aC _ _ _ h2]
 by_cases e : c = q
 ·subst e; rw [oM, hq0]
 ·simp only [AHeap.del, e, if_false]; exact out c h1 e
theorem n6 [GI] (h0 h : AHeap) (p : Nat) (l : List UInt8) (c : UInt8) (b : BB h0 p l h) (room : l.length < 1073741824) : aD prog 154 [.ptr (some ⟨p, 0, none⟩), .int .u8 c.toNat] h (fun v g => v = .nilIface ∧ BB h0 p (l ++ [c]) g) := by
 obtain ⟨hp0, q, cap, b, hq0, out⟩ := b
 refine SO.calls (by simp) ?_
 delta SO.c0
 simp only [go_sem,seval]
 refine tcE (AE h p _ b.hp) ?_
 simp only [go_sem,seval, b.hp]
 refine b.append [c] rfl rfl (by simp; omega) fun q' cap' h1 h2 => ?_
 have hpq' : p ≠ q' := by
  rintro rfl
  rw [show h.del q p = h p from by simp [AHeap.del, b.ne], b.hp] at h1; cases h1
 have hpp : ((h.del q).upd q' (.blk (B4 (l ++ [c])) cap' 5)) p = some (.blk [.ptr (some ⟨p, 0, none⟩), .os q l.length cap] 2 238) := by
  rw [aC _ _ _ hpq']; simp [AHeap.del, b.ne, b.hp]
 simp only [go_sem,seval, hpp]
 exact .same ⟨rfl, b.next hp0 hq0 out h1 h2⟩
theorem IS [GI] (h0 h : AHeap) (p : Nat) (l : List UInt8) (c : ByteArray) (b : BB h0 p l h) (room : l.length + c.size < 1073741824) : aD prog 151 [.ptr (some ⟨p, 0, none⟩), .str c] h (fun v g => v = .tuple [.int .i64 c.size, .nilIface] ∧ BB h0 p (l ++ c.data.toList) g) := by
 obtain ⟨hp0, q, cap, b, hq0, out⟩ := b
 refine IU.calls (by simp) ?_
 delta IU.c0
 simp only [go_sem,seval]
 refine tcE (AE h p _ b.hp) ?_
 simp only [go_sem,seval, b.hp]
 refine b.append c.data.toList (by simp) rfl (by omega) fun q' cap' h1 h2 => ?_
 have hpq' : p ≠ q' := by
  rintro rfl
  rw [show h.del q p = h p from by simp [AHeap.del, b.ne], b.hp] at h1; cases h1
 have hpp : ((h.del q).upd q' (.blk (B4 (l ++ c.data.toList)) cap' 5)) p = some (.blk [.ptr (some ⟨p, 0, none⟩), .os q l.length cap] 2 238) := by
  rw [aC _ _ _ hpq']; simp [AHeap.del, b.ne, b.hp]
 simp only [go_sem,seval, hpp]
 exact .same ⟨rfl, b.next hp0 hq0 out h1 h2⟩
theorem FZ [GI] (h0 : AHeap) (p : Nat) (hp0 : h0 p = none) (c : ByteArray) (hc : c.size ≠ 0) (room : c.size < 1073741824) : aD prog 151 [.ptr (some ⟨p, 0, none⟩), .str c] (h0.upd p (.blk [.ptr none, .sl [] true] 2 238)) (fun v g => v = .tuple [.int .i64 c.size, .nilIface] ∧ BB h0 p c.data.toList g) := by
 refine IU.calls (by simp) ?_
 delta IU.c0
 simp only [go_sem,seval]
 refine tcE (KR _ p _ (aA _ _ _)) ?_
 rw [aB]
 simp only [go_sem,seval, aA]
 unfold jZ gZ
 refine ⟨fun e => absurd e hc, fun _ => ⟨rfl, NC (by simp; omega), by simp, .inl fun q cap h1 h2 => ?_⟩⟩
 have hpq : p ≠ q := by
  rintro rfl
  rw [aA] at h1; cases h1
 have hq0 : h0 q = none := by rwa [aC _ _ _ hpq.symm] at h1
 simp only [List.length_nil, Nat.zero_add] at h2 ⊢
 simp only [go_sem,seval, aC _ _ _ hpq, aA]
 refine .same ⟨rfl, hp0, q, cap, ⟨by rw [aA]; simp, by rw [aC _ _ _ hpq.symm, aA]; simp [aDP], hpq, by simpa using h2⟩, hq0, fun x h3 h4 => by rw [aC _ _ _ h3, aC _ _ _ h4, aC _ _ _ h3]⟩

end Pg
namespace Pg
open Go Go.Proofs.Tryz
set_option linter.all false
set_option maxHeartbeats 4000000
set_option maxRecDepth 4000
theorem BB.upd {h0 h : AHeap} {p : Nat} {l : List UInt8} (b : BB h0 p l h) {i : Nat} (hi : h i = none ∨ ∃ o, h0 i = some o) (o : AObj) : BB (h0.upd i o) p l (h.upd i o) := by
 obtain ⟨hp0, q, cap, b, hq0, out⟩ := b
 have hip : p ≠ i := by
  rintro rfl
  rcases hi with hi | ⟨o, hi⟩
  ·rw [b.hp] at hi; cases hi
  ·rw [hp0] at hi; cases hi
 have hiq : q ≠ i := by
  rintro rfl
  rcases hi with hi | ⟨o, hi⟩
  ·rw [b.hq] at hi; cases hi
  ·rw [hq0] at hi; cases hi
 refine ⟨by rw [aC _ _ _ hip]; exact hp0, q, cap, ⟨by rw [aC _ _ _ hip]; exact b.hp, by rw [aC _ _ _ hiq]; exact b.hq, b.ne, b.le⟩, by rw [aC _ _ _ hiq]; exact hq0, fun c h1 h2 => ?_⟩
 by_cases hc : c = i
 ·subst hc; rw [aA, aA]
 ·rw [aC _ _ _ hc, aC _ _ _ hc]; exact out c h1 h2
theorem BB.at {h0 h : AHeap} {p : Nat} {l : List UInt8} (b : BB h0 p l h) {i : Nat} {o : AObj} (hi : h0 i = some o) : h i = some o := by
 obtain ⟨hp0, q, cap, b, hq0, out⟩ := b
 rw [out i (fun e => by subst e; rw [hp0] at hi; cases hi) (fun e => by subst e; rw [hq0] at hi; cases hi)]
 exact hi
theorem T4 [GI] (h h0 h1 : AHeap) (p : Nat) (l : List UInt8) (hl : l ≠ []) (b : BB h1 p l h) (hroom : l.length < 1073741824) (le : h0.le h1) : aD prog 155 [.ptr (some ⟨p, 0, none⟩)] h (fun v g => v = .str ⟨l.toArray⟩ ∧ g = h0) := by
 have b' := b
 obtain ⟨hp0, q, cap, b, hq0, out⟩ := b
 refine VA h h0 p q cap l hl b (by omega) fun c o e => ⟨?_, b'.at (le c o e)⟩
 rintro rfl
 rw [le c o e] at hq0; cases hq0
theorem ZG {s : ByteArray} {b : Nat} (h2 : b ≤ s.size) : eP true 0 (.str s) none (some (.int .i64 (b : Int))) = some (.str (s.extract 0 b)) := by
 simp only [eP, gG]
 rw [if_pos (Int.natCast_nonneg b)]
 simp only [Int.toNat_natCast]
 rw [if_pos ⟨Nat.zero_le _, h2⟩]
theorem ZF {s : ByteArray} {a : Nat} (h2 : a ≤ s.size) : eP true 0 (.str s) (some (.int .i64 (a : Int))) none = some (.str (s.extract a s.size)) := by
 simp only [eP, gG]
 rw [if_pos (Int.natCast_nonneg a)]
 simp only [Int.toNat_natCast]
 rw [if_pos ⟨h2, Nat.le_refl _⟩]
theorem LB [GI] (h : AHeap) (s t : ByteArray) : aD prog 181 [.str s, .str t] h (fun v g => (∃ b, v = .bool b) ∧ g = h) := by
 refine R6.calls (by simp) ?_
 delta R6.c0
 simp only [go_sem,seval]
 by_cases hs : (t.size : Int) ≤ s.size
 ·simp only [go_sem,seval, hs, ge_iff_le, ZG (by omega : t.size ≤ s.size)]
  exact .same ⟨⟨_, rfl⟩, rfl⟩
 ·simp only [go_sem,seval, hs, ge_iff_le]
  exact .same ⟨⟨_, rfl⟩, rfl⟩
theorem MF [GI] (h : AHeap) (s t : ByteArray) : aD prog 153 [.str s, .str t] h (fun v g => (∃ b, v = .bool b) ∧ g = h) := by
 refine SP.calls (by simp) ?_
 delta SP.c0
 simp only [go_sem,seval]
 refine aW (LB h s t) fun v g ⟨⟨b, hv⟩, hg⟩ => ?_
 subst hv hg
 simp only [go_sem,seval]
 exact .same ⟨⟨_, rfl⟩, rfl⟩
theorem UN [GI] (h : AHeap) (c : Nat) : aD prog 152 [.int .u8 (c : Int)] h (fun v g => v = .bool (nF c) ∧ g = h) := by
 refine SS.calls (by simp) ?_
 delta SS.c0
 simp only [go_sem,seval]
 repeat' (refine cP (fun hg => ?_) (fun hg => ?_) <;> simp only [go_sem,seval, hg, Bool.not_true, Bool.not_false])
 all_goals
  refine .same ⟨?_, rfl⟩
  congr 1
  try simp only [Bool.not_true, Bool.not_false, decide_eq_true_eq, decide_eq_false_iff_not] at *
  try rw [Bool.eq_iff_iff]
  try simp [nF]
  try omega
theorem aCA [GI] (h : AHeap) : aD prog 150 [.int .i64 0] h (fun v g => v = .tuple [.agg [.str ⟨#[123]⟩, .str ⟨#[125]⟩, .str ⟨#[92, 125]⟩], .bool true] ∧ g = h) := by
 refine ZX.calls (by simp) ?_
 delta ZX.c0
 simp only [go_sem,seval]
 refine aS fun p hp => ?_
 simp only [go_sem,seval, aA, aB]
 exact .forget (AHeap.b8 hp) ⟨rfl, rfl⟩
theorem get_at {s : ByteArray} {pre post : List UInt8} {c : UInt8} (h : bytes s = pre ++ c :: post) : s.get! pre.length = c := by
 have h1 : (bytes s)[pre.length]? = some c := by rw [h]; simp
 have hb : pre.length < s.size := by rw [← jK, h]; simp
 unfold bytes at h1
 rw [Array.getElem?_toList] at h1
 show s.data[pre.length]! = c
 simp [getElem!_def, h1]
theorem QH {h g : AHeap} {p : Nat} (hp : h p = none) (le : h.le g) (o : AObj) : h.le (g.upd p o) := by
 intro b x e
 by_cases hb : b = p
 ·subst hb; rw [hp] at e; cases e
 ·rw [aC _ _ _ hb]; exact le b x e
theorem UP [GI] (h : AHeap) (s : ByteArray) (hs : vP s = true) : aD prog 104 [.int .i64 0, .str s] h (fun v g => (∃ t, v = .tuple [.str t, .int .i64 0]) ∧ g = h) := by
 simp only [vP, Bool.and_eq_true, decide_eq_true_eq, List.all_eq_true] at hs
 have hsz : ((s.size : Int) > 1024) = False := by simp; omega
 refine TW.calls (by simp) ?_
 delta TW.c0
 simp only [go_sem,seval]
 refine tcE (aCA h) ?_
 simp only [go_sem,seval, hsz]
 refine aS fun p hp => ?_
 simp only [go_sem,seval]
 refine aW (FZ h p hp ⟨#[123]⟩ (by decide) (by decide)) fun v g ⟨hv, b0⟩ => ?_
 subst hv
 simp only [go_sem,seval]
 show ∀ it, g it = none → _
 intro it hit
 have h_it : h it = none := by
  cases e : h it with
  | none => rfl
  | some o => have := b0.at e; rw [hit] at this; cases this
 refine aX (bytes s) (fun pre post e k => (∃ l', l' ≠ [] ∧ l'.length ≤ 2 * pre.length + 1 ∧ BB (h.upd it (.sit s pre.length)) p l' k) ∧ e = [(1, .str s), (6, .ip [.str ⟨#[123]⟩, .str ⟨#[125]⟩, .str ⟨#[92, 125]⟩] 0), (8, .ptr (some ⟨p, 0, none⟩)), (26, .ptr (some ⟨it, 0, none⟩))]) (aF.env ?_) ⟨⟨[123], by simp, by simp, b0.upd (.inl hit) _⟩, rfl⟩ ?_ ?_
 ·simp only [go_sem,seval]
 ·rintro pre c post e k hl ⟨⟨l', hl0, hl1, bb⟩, rfl⟩
  have hpre : pre.length < s.size := by rw [← jK, hl]; simp
  have hc : nF c.toNat = true := hs.2 c (by rw [hl]; simp)
  have hll : (pre ++ [c]).length = pre.length + 1 := by simp
  have hget : s.get! pre.length = c := get_at hl
  have hc128 : c.toNat < 128 := by simp only [nF, Bool.or_eq_true, Bool.and_eq_true, decide_eq_true_eq] at hc; omega
  simp only [go_sem,seval, bb.at (aA _ _ _)]
  unfold CB
  simp only [bb.at (aA _ _ _)]
  rw [if_pos hpre]
  intro wd hwd
  rw [hget] at hwd
  have := hwd hc128; subst this
  have bb1 := bb.upd (i := it) (.inr ⟨_, aA _ _ _⟩) (.sit s (pre.length + 1))
  rw [aB] at bb1
  simp only [go_sem,seval, sE hl]
  refine tcE (UN _ c.toNat) ?_
  simp only [go_sem,seval, hc, sE hl]
  by_cases h92 : (c.toNat : Int) = 92
  ·simp only [go_sem,seval, h92]
   refine aW (n6 _ _ p _ 92 bb1 (by omega)) fun v k1 ⟨hv, bb1'⟩ => ?_
   subst hv
   simp only [go_sem,seval, sE hl]
   refine aW (n6 _ _ p _ c bb1' (by simp; omega)) fun v k2 ⟨hv, bb2⟩ => ?_
   subst hv
   simp only [go_sem,seval]
   refine ⟨_, _, aF.env ?_, ⟨_, ?_, ?_, by rw [hll]; exact bb2⟩, rfl⟩
   ·simp only [go_sem,seval]
   ·simp
   ·simp; omega
  ·simp only [go_sem,seval, h92, ZF (Nat.le_of_lt hpre)]
   refine aW (MF _ _ _) fun v k0 ⟨⟨b, hv⟩, hk⟩ => ?_
   subst hv hk
   cases b with
   | true =>
    simp only [go_sem,seval]
    refine aW (n6 _ _ p _ 92 bb1 (by omega)) fun v k1 ⟨hv, bb1'⟩ => ?_
    subst hv
    simp only [go_sem,seval, sE hl]
    refine aW (n6 _ _ p _ c bb1' (by simp; omega)) fun v k2 ⟨hv, bb2⟩ => ?_
    subst hv
    simp only [go_sem,seval]
    refine ⟨_, _, aF.env ?_, ⟨_, ?_, ?_, by rw [hll]; exact bb2⟩, rfl⟩
    ·simp only [go_sem,seval]
    ·simp
    ·simp; omega
   | false =>
    simp only [go_sem,seval]
    simp only [go_sem,seval, sE hl]
    refine aW (n6 _ _ p _ c bb1 (by omega)) fun v k2 ⟨hv, bb2⟩ => ?_
    subst hv
    simp only [go_sem,seval]
    refine ⟨_, _, aF.env ?_, ⟨_, ?_, ?_, by rw [hll]; exact bb2⟩, rfl⟩
    ·simp only [go_sem,seval]
    ·simp
    ·simp; omega
 ·rintro e k ⟨⟨l', hl0, hl1, bb⟩, rfl⟩
  rw [jK] at hl1 bb
  simp only [go_sem,seval, bb.at (aA _ _ _)]
  unfold CB
  simp only [bb.at (aA _ _ _)]
  rw [if_neg (Nat.lt_irrefl _)]
  simp only [go_sem,seval]
  refine aM.same ?_
  simp only [go_sem,seval]
  refine aW (IS _ _ p _ ⟨#[125]⟩ bb (by have : (⟨#[125]⟩ : ByteArray).size = 1 := rfl; omega)) fun v k1 ⟨hv, bb1⟩ => ?_
  subst hv
  simp only [go_sem,seval]
  refine aW (T4 _ h _ p _ (by simp) bb1 (by simp; omega) (QH h_it (AHeap.le_refl h) _)) fun v k2 ⟨hv, hk⟩ => ?_
  subst hv hk
  simp only [go_sem,seval]
  exact .same ⟨⟨_, rfl⟩, rfl⟩
