import Derived.Test.YtdfbkddelhbgmaaGreatDoorTreeSS3
import Derived.Test.YtdfbkddelhbgmaaGreatDoorCodeCJS3
import Derived.Test.YtdfbkddelhbgmaaGreatDoorNnXJS3
import Derived.Test.YtdfbkddelhbgmaaGreatDoorHpS3
namespace Pg
open Go Go.Proofs.Tryz
set_option linter.all false
set_option maxHeartbeats 4000000
set_option maxRecDepth 4000
def rL : ByteArray := ⟨#[48, 49, 50, 51, 52, 53, 54, 55, 56, 57]⟩
def dig (n : Nat) : ByteArray := rL.extract n (n + 1)
def vF : Nat → Nat → ByteArray
 | 0, n => dig n
 | k + 1, n => if n < 10 then dig n else vF k (n / 10) ++ dig (n % 10)
theorem BW (n : Nat) : (dig n).size ≤ 1 := by
 unfold dig
 rw [ByteArray.size_extract]; omega
theorem yR : ∀ (k n : Nat), (vF k n).size ≤ k + 1
 | 0, n => by have := BW n; simp only [vF]; omega
 | k + 1, n => by
  simp only [vF]
  split
  ·have := BW n; omega
  ·have := yR k (n / 10)
   have := BW (n % 10)
   rw [ByteArray.size_append]; omega
theorem zM {n : Int} (h0 : 0 ≤ n) (h1 : n < 18446744073709551616) : IntKind.u64.wrap n = n := by
 simp only [IntKind.wrap, IntKind.signed, IntKind.bits]
 simp
 omega
theorem U2 {s : ByteArray} {k k' : IntKind} {a b : Nat} (h1 : a ≤ b) (h2 : b ≤ s.size) : eP true 0 (.str s) (some (.int k (a : Int))) (some (.int k' (b : Int))) = some (.str (s.extract a b)) := by
 simp only [eP, gG]
 rw [if_pos (Int.natCast_nonneg b), if_pos (Int.natCast_nonneg a)]
 simp only [Int.toNat_natCast]
 rw [if_pos ⟨h1, h2⟩]
theorem B8 {k k' : IntKind} {n : Nat} (hn : n < 10) : eP true 0 (.str rL) (some (.int k (n : Int))) (some (.int k' ((n : Int) + 1))) = some (.str (dig n)) := by
 have := U2 (s := rL) (k := k) (k' := k') (a := n) (b := n + 1) (by omega) (by show n + 1 ≤ 10; omega)
 rw [← Int.natCast_succ]
 exact this
theorem aBi [GI] : ∀ (k n : Nat), n < 10 ^ (k + 1) → k ≤ 18 → ∀ h : AHeap, aD prog 43 [.int .u64 (n : Int)] h (fun v g => v = .str (vF k n) ∧ g = h) := by
 intro k
 induction k with
 | zero =>
  intro n hn hk h
  have hn' : n < 10 := by simpa using hn
  refine F43.calls (by simp) ?_
  delta F43.c0
  have h1 : ((n : Int) < 10) = True := by simp; omega
  have h2 : IntKind.u64.wrap ((n : Int) + 1) = (n : Int) + 1 := zM (by omega) (by omega)
  have h3 := B8 (k := .u64) (k' := .u64) hn'
  unfold rL at h3
  simp -implicitDefEqProofs only [go_sem,seval, h1, h2, h3]
  exact .same ⟨rfl, rfl⟩
 | succ k ih =>
  intro n hn hk h
  refine F43.calls (by simp) ?_
  delta F43.c0
  by_cases hn' : n < 10
  ·have h1 : ((n : Int) < 10) = True := by simp; omega
   have h2 : IntKind.u64.wrap ((n : Int) + 1) = (n : Int) + 1 := zM (by omega) (by omega)
   have h3 := B8 (k := .u64) (k' := .u64) hn'
   unfold rL at h3
   simp -implicitDefEqProofs only [go_sem,seval, h1, h2, h3]
   exact .same ⟨by simp [vF, hn'], rfl⟩
  ·have hbig : (10 : Nat) ^ (k + 1) * 10 ≤ 10 ^ 20 := by rw [← Nat.pow_succ]; exact Nat.pow_le_pow_right (by omega) (by omega)
   have hlt : n < 18446744073709551616 ∨ True := .inr trivial
   have hpow : n < 10 ^ (k + 1) * 10 := by rw [← Nat.pow_succ]; exact hn
   have hq : n / 10 < 10 ^ (k + 1) := by omega
   have hkk : (10 : Nat) ^ (k + 1) ≤ 10 ^ 18 * 1 ∨ True := .inr trivial
   have h1 : ((n : Int) < 10) = False := by simp; omega
   have hp : (10 : Nat) ^ (k + 1) ≤ 10 ^ 18 := Nat.pow_le_pow_right (by omega) (by omega)
   have e1 : Int.tdiv (n : Int) 10 = ((n / 10 : Nat) : Int) := by rw [Int.tdiv_eq_ediv_of_nonneg (by omega)]; omega
   have e2 : Int.tmod (n : Int) 10 = ((n % 10 : Nat) : Int) := by rw [Int.tmod_eq_emod_of_nonneg (by omega)]; omega
   have h2 : IntKind.u64.wrap (((n / 10 : Nat) : Int)) = ((n / 10 : Nat) : Int) := zM (by omega) (by omega)
   have h4 : IntKind.u64.wrap (((n % 10 : Nat) : Int) + 1) = ((n % 10 : Nat) : Int) + 1 := zM (by omega) (by omega)
   have h3 := B8 (k := .u64) (k' := .u64) (show n % 10 < 10 by omega)
   have hs : ((((vF k (n / 10)).size + (dig (n % 10)).size : Nat) : Int) > IntKind.i64.max) = False := by
    have a := yR k (n / 10)
    have b := BW (n % 10)
    have m : IntKind.i64.max = 9223372036854775807 := by decide
    rw [m]; simp; omega
   unfold rL at h3
   simp -implicitDefEqProofs only [go_sem,seval, h1, e1, e2, h2, h4, h3]
   refine tcE (ih (n / 10) hq (by omega) h) ?_
   simp -implicitDefEqProofs only [go_sem,seval, hs, h3]
   exact .same ⟨by simp [vF, hn'], rfl⟩
theorem VG [GI] (h : AHeap) (k n : Nat) (hn : n < 10 ^ (k + 1)) (hk : k ≤ 17) : aD prog 16 [.int .i64 (n : Int)] h (fun v g => v = .str (vF k n) ∧ g = h) := by
 have hp : (10 : Nat) ^ (k + 1) ≤ 10 ^ 18 := Nat.pow_le_pow_right (by omega) (by omega)
 refine F16.calls (by simp) ?_
 delta F16.c0
 have h1 : ((n : Int) < 0) = False := by simp
 have h2 : IntKind.u64.wrap (n : Int) = n := zM (by omega) (by omega)
 simp -implicitDefEqProofs only [go_sem,seval, h1, h2]
 refine tcE (aBi k n hn (by omega) h) ?_
 simp -implicitDefEqProofs only [go_sem,seval]
 exact .same ⟨rfl, rfl⟩
structure vJ where
 old : ByteArray
 new : ByteArray
def iM (p : vJ) : List AV := [.str p.old, .str p.new]
theorem NZ (p : vJ) : (iM p).length = 2 := rfl
def vV (s : ByteArray) : List vJ → ByteArray
 | [] => s
 | p :: r => if p.old = s then p.new else vV s r
def bX (by_ : List vJ) (s : ByteArray) : ByteArray := if s = noBytes then s else vV s by_
theorem yG {t : ByteArray} (ht : small t) : (((( (⟨#[]⟩ : ByteArray)).size + t.size : Nat) : Int) > IntKind.i64.max) = False := by
 unfold small at ht
 have m : IntKind.i64.max = 9223372036854775807 := by decide
 have z : (⟨#[]⟩ : ByteArray).size = 0 := rfl
 rw [m, z]; simp; omega
theorem BD (t : ByteArray) : (⟨#[]⟩ : ByteArray) ++ t = t := by
 apply ByteArray.ext; simp
theorem hZ [GI] (h : AHeap) (s : ByteArray) (hs : small s) (hp : plain s) (l : List vJ) (hl : few l) (hn : ∀ p ∈ l, small p.new) (full : Bool) : aD prog 44 [.str s, .sl (l.map iM) full] h (fun v g => v = .str (bX l s) ∧ g = h) := by
 have hw1 : IntKind.i64.wrap 1 = 1 := by decide
 have hA : aia 1 (.sl [[.str s]] false) (.int .i64 0) = some (.ip [.str s] 0) := rfl
 refine F44.calls (by simp) ?_
 delta F44.c0
 simp -implicitDefEqProofs only [go_sem,seval]
 refine tcE (j5 h s hs) ?_
 rw [zE hp]
 simp -implicitDefEqProofs only [go_sem,seval]
 refine gR ?_
 simp -implicitDefEqProofs only [go_sem,seval, hA]
 by_cases h0 : s = noBytes
 ·subst h0
  refine gR ?_
  by_cases hl0 : (0 : Int) < l.length
  ·simp -implicitDefEqProofs only [go_sem,seval, hl0, hA, yG (t := noBytes) hs, BD]
   refine gR ?_
   simp -implicitDefEqProofs only [go_sem,seval, hw1]
   exact .same ⟨by simp [bX], rfl⟩
  ·simp -implicitDefEqProofs only [go_sem,seval, hl0, hA, yG (t := noBytes) hs, BD]
   refine gR ?_
   simp -implicitDefEqProofs only [go_sem,seval, hw1]
   exact .same ⟨by simp [bX], rfl⟩
 ·have h0' : (s = (⟨#[]⟩ : ByteArray)) = False := by simpa using h0
  refine aX l (fun pre post e g => vV s l = vV s post ∧ g = h ∧ e = [(0, .str s), (1, .sl (l.map iM) full), (5, .sl [[.str s]] false), (6, .str ⟨#[]⟩), (7, .int .i64 0), (8, .str s), (9, .int .i64 pre.length)]) (aF.env ?_) ⟨rfl, rfl, rfl⟩ ?_ ?_
  ·simp -implicitDefEqProofs only [go_sem,seval]
  ·rintro pre p post e g hpp ⟨hk, rfl, rfl⟩
   have hold : (iM p)[0]? = some (.str p.old) := rfl
   have hnew : (iM p)[1]? = some (.str p.new) := rfl
   by_cases he : p.old = s
   ·have hsm := hn p (bJ hpp)
    simp -implicitDefEqProofs only [go_sem,seval, bI hpp, hA, h0', aI (aK hpp) (NZ p), hold, hnew, he]
    refine aM.same ?_
    simp -implicitDefEqProofs only [go_sem,seval, yG hsm, BD]
    refine gR ?_
    simp -implicitDefEqProofs only [go_sem,seval, hw1]
    exact .same ⟨by rw [bX, if_neg h0, hk]; simp [vV, he], rfl⟩
   ·simp -implicitDefEqProofs only [go_sem,seval, bI hpp, hA, h0', aI (aK hpp) (NZ p), hold, he]
    refine ⟨_, _, aF.env ?_, ?_, rfl, rfl⟩
    ·simp -implicitDefEqProofs only [go_sem,seval, aQ hl hpp]
    ·rw [hk]; simp [vV, he]
  ·rintro e g ⟨hk, rfl, rfl⟩
   simp -implicitDefEqProofs only [go_sem,seval, bE]
   refine aM.same ?_
   simp -implicitDefEqProofs only [go_sem,seval, yG hs, BD]
   refine gR ?_
   simp -implicitDefEqProofs only [go_sem,seval, hw1]
   exact .same ⟨by rw [bX, if_neg h0, hk]; simp [vV], rfl⟩
def soft (s : ByteArray) : Prop := small s ∧ plain s
structure T3 (l : List vJ) : Prop where
 few : few l
 small : ∀ p ∈ l, small p.new
theorem CK [GI] {by_ : List vJ} (hb : T3 by_) (full : Bool) : ∀ (n : Nat) (x : Expr), x.sz ≤ n → x.ok → inE soft x → wE x ≤ 1099511627776 → ∀ h : AHeap, aD prog 88 [.agg (aO x), .sl (by_.map iM) full] h (fun v g => v = .agg (aO (rnE (bX by_) x)) ∧ g = h) := by
 intro n
 induction n with
 | zero => intro x hn; rw [Expr.cY] at hn; omega
 | succ n ih =>
  intro x hn ho hs hw h
  obtain ⟨s1, s2, s3⟩ := (pS soft x).1 hs
  obtain ⟨o1, o2⟩ := (Expr.cN x).1 ho
  have hz := Expr.cY x
  have hwe := OS x
  have hll := AP x.l
  refine F88.calls (by simp) ?_
  delta F88.c0
  simp -implicitDefEqProofs only [go_sem,seval]
  refine aS fun b4 hb4 => ?_
  simp -implicitDefEqProofs only [go_sem,seval]
  refine tcE (hZ _ x.name s1.1 s1.2 by_ hb.few hb.small full) ?_
  simp -implicitDefEqProofs only [go_sem,seval]
  refine tcE (hZ _ x.field s2.1 s2.2 by_ hb.few hb.small full) ?_
  simp -implicitDefEqProofs only [go_sem,seval]
  refine aS fun b5 hb5 => ?_
  obtain ⟨hne, hb5'⟩ := P8 hb5
  simp -implicitDefEqProofs only [go_sem,seval]
  rw [aB]
  generalize hB : (h.upd b4 _) = B
  have hB4 : B b4 = some (.blk [.int .i64 0, .int .i64 0, .str ⟨#[]⟩, .str ⟨#[]⟩, .sl [] true] 5 49) := by rw [← hB, aA]
  have hBle : h.le B := by rw [← hB]; exact AHeap.b8 hb4
  have hB5 : B b5 = none := by rw [← hB]; exact hb5
  refine aX x.l (fun pre post e g => ∃ v g0, GL 49 5 (B.upd b5 (.blk [.int .i64 x.op, .int .i64 x.n, .str (bX by_ x.name), .str (bX by_ x.field), v] 5 49)) g v ((pre.map (rnE (bX by_))).map aO) ∧ g0 = g ∧ e = [(1, .sl (by_.map iM) full), (2, .ip (aO x) 0), (4, .ptr (some ⟨b4, 0, none⟩)), (5, .ptr (some ⟨b5, 0, none⟩)), (6, .int .i64 pre.length)]) (aF.env ?_) ⟨.sl [] true, _, .nil _, rfl, rfl⟩ ?_ ?_
  ·simp -implicitDefEqProofs only [go_sem,seval]
  ·rintro pre y post e g hp ⟨v, g0, G, rfl, rfl⟩
   have hy := bJ hp
   have hyz := cI.dU hy
   have hyw := VJ hy
   have hpl := (gE hp).2
   have hg5 := G.at (aA B b5 _)
   simp -implicitDefEqProofs only [go_sem,seval, bI hp, hg5, aI (aK hp) (aR y)]
   refine tcE (ih y (by omega) (o2 y hy) (pR s3 y hy) (by omega) _) ?_
   simp -implicitDefEqProofs only [go_sem,seval, hg5, oU, bO]
   refine G.mS (xs := aO (rnE (bX by_) y)) (bytes := 72) (aR _) (by unfold roomFor; simp; omega) (fun v' g' G' => ?_)
   have hg5' := G'.at (aA B b5 _)
   simp -implicitDefEqProofs only [go_sem,seval, hg5', G'.cells]
   have G'' := G'.upd (aA B b5 _) (.blk [.int .i64 x.op, .int .i64 x.n, .str (bX by_ x.name), .str (bX by_ x.field), v'] 5 49)
   rw [aB] at G''
   refine ⟨.inr (by decide), _, _, aF.env ?_, v', _, ?_, rfl, rfl⟩
   ·simp -implicitDefEqProofs only [go_sem,seval, aQ o1 hp]
   ·simpa using G''
  ·rintro e g ⟨v, g0, G, rfl, rfl⟩
   have hg5 := G.at (aA B b5 _)
   have hg4 := G.at (show (B.upd b5 _) b4 = some _ by rw [aC _ _ _ hne.symm]; exact hB4)
   simp -implicitDefEqProofs only [go_sem,seval, bE]
   refine aM.same ?_
   simp -implicitDefEqProofs only [go_sem,seval, hg5, hg4]
   refine eE.less (dE.agg ?_) ?_ ⟨rfl, rfl⟩
   ·rw [cF, lC]
    simp only [iC]
    exact .cons (.refl _) (.cons (.refl _) (.cons (.refl _) (.cons (.refl _) (.cons G.B7 .nil))))
   ·refine yM hb4 (AHeap.le_trans (AHeap.le_trans hBle (AHeap.b8 hB5)) G.le) _
end Pg
