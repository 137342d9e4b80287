import Derived.Test.YtdfbkddelhbgmaaGreatDoorTreeSS2
import Derived.Test.YtdfbkddelhbgmaaGreatDoorBld2JS2
import Derived.Test.YtdfbkddelhbgmaaGreatDoorCodeAS2
namespace Pg
open Go Go.Proofs.Tryz
set_option linter.all false
set_option maxHeartbeats 4000000
set_option maxRecDepth 4000
abbrev byteA (l : List UInt8) : List AV := l.map fun b => .int .u8 b.toNat
structure BB (h0 : AHeap) (p : Nat) (l : List UInt8) (h : AHeap) : Prop where
 p0 : h0 p = none
 ex : ∃ q cap, Bld p q cap l h ∧ h0 q = none ∧ ∀ c, c ≠ p → c ≠ q → h c = h0 c
theorem Bld.append {p q cap : Nat} {l : List UInt8} {h : AHeap} (b : Bld p q cap l h) {m : Nat} {xs : List AV} (new : List UInt8) (hm : new.length = m) (hx : byteA new = xs) (room : l.length + m < 1099511627776) {K : AV → AHeap → Tok → Prop}
  (k : ∀ q' cap', h.del q q' = none → (l ++ new).length ≤ cap' → K (.os q' (l ++ new).length cap') ((h.del q).upd q' (.blk (byteA (l ++ new)) cap' 5)) .go) : appendT .go h 5 1 1 (.os q l.length cap) m xs K := by
 subst hm hx
 unfold appendT aappend
 simp only [b.hq]
 refine ⟨trivial, by omega, b.le, by simp, roomFor_1 (by omega), ?_⟩
 intro q' cap' h1 h2
 have := k q' cap' h1 (by simpa using h2)
 have e1 : (byteA l).take (l.length * 1) = byteA l := List.take_of_length_le (by simp)
 rw [e1]
 simpa using this
theorem Bld.next {h0 h : AHeap} {p q cap q' cap' : Nat} {l l' : List UInt8} (b : Bld p q cap l h) (hp0 : h0 p = none) (hq0 : h0 q = none) (out : ∀ c, c ≠ p → c ≠ q → h c = h0 c) (hq' : h.del q q' = none) (hc : l'.length ≤ cap') : BB h0 p l' ((((h.del q).upd q' (.blk (byteA l') cap' 5)).upd p (.blk [.ptr (some ⟨p, 0, none⟩), .os q' l'.length cap'] 2 238))) := by
 have hpq' : p ≠ q' := by
  rintro rfl
  rw [show h.del q p = h p from by simp [AHeap.del, b.ne], b.hp] at hq'; cases hq'
 have hq'0 : h0 q' = none := by
  by_cases e : q' = q
  ·subst e; exact hq0
  ·rw [← out q' hpq'.symm e]; simpa [AHeap.del, e] using hq'
 refine ⟨hp0, q', cap', ⟨upd_same _ _ _, by rw [upd_ne _ _ _ hpq'.symm]; exact upd_same _ _ _, hpq', hc⟩, hq'0, ?_⟩
 intro c h1 h2
 rw [upd_ne _ _ _ h1, upd_ne _ _ _ h2]
 by_cases e : c = q
 ·subst e; rw [del_same, hq0]
 ·simp only [AHeap.del, e, if_false]; exact out c h1 e
theorem WriteByte_spec [GI] (h0 h : AHeap) (p : Nat) (l : List UInt8) (c : UInt8) (b : BB h0 p l h) (room : l.length < 1073741824) : ACalls prog 154 [.ptr (some ⟨p, 0, none⟩), .int .u8 c.toNat] h (fun v g => v = .nilIface ∧ BB h0 p (l ++ [c]) g) := by
 obtain ⟨hp0, q, cap, b, hq0, out⟩ := b
 refine F154.calls (by simp) ?_
 delta F154.c0
 simp only [go_sem,seval]
 refine tcE (copyCheck_used h p _ b.hp) ?_
 simp only [go_sem,seval, b.hp]
 refine b.append [c] rfl rfl (by simp; omega) fun q' cap' h1 h2 => ?_
 have hpq' : p ≠ q' := by
  rintro rfl
  rw [show h.del q p = h p from by simp [AHeap.del, b.ne], b.hp] at h1; cases h1
 have hpp : ((h.del q).upd q' (.blk (byteA (l ++ [c])) cap' 5)) p = some (.blk [.ptr (some ⟨p, 0, none⟩), .os q l.length cap] 2 238) := by
  rw [upd_ne _ _ _ hpq']; simp [AHeap.del, b.ne, b.hp]
 simp only [go_sem,seval, hpp]
 exact .same ⟨rfl, b.next hp0 hq0 out h1 h2⟩
theorem WriteString_spec [GI] (h0 h : AHeap) (p : Nat) (l : List UInt8) (c : ByteArray) (b : BB h0 p l h) (room : l.length + c.size < 1073741824) : ACalls prog 151 [.ptr (some ⟨p, 0, none⟩), .str c] h (fun v g => v = .tuple [.int .i64 c.size, .nilIface] ∧ BB h0 p (l ++ c.data.toList) g) := by
 obtain ⟨hp0, q, cap, b, hq0, out⟩ := b
 refine F151.calls (by simp) ?_
 delta F151.c0
 simp only [go_sem,seval]
 refine tcE (copyCheck_used h p _ b.hp) ?_
 simp only [go_sem,seval, b.hp]
 refine b.append c.data.toList (by simp) rfl (by omega) fun q' cap' h1 h2 => ?_
 have hpq' : p ≠ q' := by
  rintro rfl
  rw [show h.del q p = h p from by simp [AHeap.del, b.ne], b.hp] at h1; cases h1
 have hpp : ((h.del q).upd q' (.blk (byteA (l ++ c.data.toList)) cap' 5)) p = some (.blk [.ptr (some ⟨p, 0, none⟩), .os q l.length cap] 2 238) := by
  rw [upd_ne _ _ _ hpq']; simp [AHeap.del, b.ne, b.hp]
 simp only [go_sem,seval, hpp]
 exact .same ⟨rfl, b.next hp0 hq0 out h1 h2⟩
theorem WriteString_fresh [GI] (h0 : AHeap) (p : Nat) (hp0 : h0 p = none) (c : ByteArray) (hc : c.size ≠ 0) (room : c.size < 1073741824) : ACalls prog 151 [.ptr (some ⟨p, 0, none⟩), .str c] (h0.upd p (.blk [.ptr none, .sl [] true] 2 238)) (fun v g => v = .tuple [.int .i64 c.size, .nilIface] ∧ BB h0 p c.data.toList g) := by
 refine F151.calls (by simp) ?_
 delta F151.c0
 simp only [go_sem,seval]
 refine tcE (copyCheck_fresh _ p _ (upd_same _ _ _)) ?_
 rw [upd_upd]
 simp only [go_sem,seval, upd_same]
 unfold appendT aappend
 refine ⟨fun e => absurd e hc, fun _ => ⟨rfl, roomFor_1 (by simp; omega), by simp, .inl fun q cap h1 h2 => ?_⟩⟩
 have hpq : p ≠ q := by
  rintro rfl
  rw [upd_same] at h1; cases h1
 have hq0 : h0 q = none := by rwa [upd_ne _ _ _ hpq.symm] at h1
 simp only [List.length_nil, Nat.zero_add] at h2 ⊢
 simp only [go_sem,seval, upd_ne _ _ _ hpq, upd_same]
 refine .same ⟨rfl, hp0, q, cap, ⟨by rw [upd_same]; simp, by rw [upd_ne _ _ _ hpq.symm, upd_same]; simp [strA_eq], hpq, by simpa using h2⟩, hq0, fun x h3 h4 => by rw [upd_ne _ _ _ h3, upd_ne _ _ _ h4, upd_ne _ _ _ h3]⟩
