import Derived.Test.YtpebidcmkjjpnaaTreeS
import Derived.Test.YtpebidcmkjjpnaaCodeF
import Derived.Test.YtpebidcmkjjpnaaNnX
import Derived.Test.YtpebidcmkjjpnaaWeigh
namespace Pg
open Go
set_option linter.unusedSimpArgs false
set_option linter.unusedVariables false
set_option maxHeartbeats 4000000
set_option maxRecDepth 4000
/-! ### Digits -/
def tenDigits : ByteArray := ⟨#[48, 49, 50, 51, 52, 53, 54, 55, 56, 57]⟩
def dig (n : Nat) : ByteArray := tenDigits.extract n (n + 1)
def digs : Nat → Nat → ByteArray
  | 0, n => dig n
  | k + 1, n => if n < 10 then dig n else digs k (n / 10) ++ dig (n % 10)
theorem dig_size (n : Nat) : (dig n).size ≤ 1 := by
  unfold dig
  rw [ByteArray.size_extract]; omega
theorem digs_size : ∀ (k n : Nat), (digs k n).size ≤ k + 1
  | 0, n => by have := dig_size n; simp only [digs]; omega
  | k + 1, n => by
    simp only [digs]
    split
    · have := dig_size n; omega
    · have := digs_size k (n / 10)
      have := dig_size (n % 10)
      rw [ByteArray.size_append]; omega
theorem wrapu64 {n : Int} (h0 : 0 ≤ n) (h1 : n < 18446744073709551616) : IntKind.u64.wrap n = n := by
  simp only [IntKind.wrap, IntKind.signed, IntKind.bits]
  simp
  omega
theorem aslice_strk {s : ByteArray} {k k' : IntKind} {a b : Nat} (h1 : a ≤ b) (h2 : b ≤ s.size) : aslice true 0 (.str s) (some (.int k (a : Int))) (some (.int k' (b : Int))) = some (.str (s.extract a b)) := by
  simp only [aslice, abound]
  rw [if_pos (Int.natCast_nonneg b), if_pos (Int.natCast_nonneg a)]
  simp only [Int.toNat_natCast]
  rw [if_pos ⟨h1, h2⟩]
theorem aslice_dig {k k' : IntKind} {n : Nat} (hn : n < 10) : aslice true 0 (.str tenDigits) (some (.int k (n : Int))) (some (.int k' ((n : Int) + 1))) = some (.str (dig n)) := by
  have := aslice_strk (s := tenDigits) (k := k) (k' := k') (a := n) (b := n + 1) (by omega) (by show n + 1 ≤ 10; omega)
  rw [← Int.natCast_succ]
  exact this
theorem long_spec : ∀ (k n : Nat), n < 10 ^ (k + 1) → k ≤ 18 → ∀ h : AHeap, ACalls Go.Proofs.Try.prog 40 [.int .u64 (n : Int)] h (fun v g => v = .str (digs k n) ∧ g = h) := by
  intro k
  induction k with
  | zero =>
    intro n hn hk h
    have hn' : n < 10 := by simpa using hn
    refine F40.calls (by simp) ?_
    delta F40.c0 F40.c1 F40.c5 F40.r3 F40.c2 F40.c3 F40.c4 F40.r2 F40.r1 F40.r0
    have h1 : ((n : Int) < 10) = True := by simp; omega
    have h2 : IntKind.u64.wrap ((n : Int) + 1) = (n : Int) + 1 := wrapu64 (by omega) (by omega)
    have h3 := aslice_dig (k := .u64) (k' := .u64) hn'
    unfold tenDigits at h3
    simp -implicitDefEqProofs only [↓pgPre,go_sem,↓reduceIte,reduceCtorEq,seval, h1, h2, h3]
    exact .same ⟨rfl, rfl⟩
  | succ k ih =>
    intro n hn hk h
    refine F40.calls (by simp) ?_
    delta F40.c0 F40.c1 F40.c5 F40.r3 F40.c2 F40.c3 F40.c4 F40.r2 F40.r1 F40.r0
    by_cases hn' : n < 10
    · have h1 : ((n : Int) < 10) = True := by simp; omega
      have h2 : IntKind.u64.wrap ((n : Int) + 1) = (n : Int) + 1 := wrapu64 (by omega) (by omega)
      have h3 := aslice_dig (k := .u64) (k' := .u64) hn'
      unfold tenDigits at h3
      simp -implicitDefEqProofs only [↓pgPre,go_sem,↓reduceIte,reduceCtorEq,seval, h1, h2, h3]
      exact .same ⟨by simp [digs, hn'], rfl⟩
    · have hbig : (10 : Nat) ^ (k + 1) * 10 ≤ 10 ^ 20 := by rw [← Nat.pow_succ]; exact Nat.pow_le_pow_right (by omega) (by omega)
      have hlt : n < 18446744073709551616 ∨ True := .inr trivial
      have hpow : n < 10 ^ (k + 1) * 10 := by rw [← Nat.pow_succ]; exact hn
      have hq : n / 10 < 10 ^ (k + 1) := by omega
      have hkk : (10 : Nat) ^ (k + 1) ≤ 10 ^ 18 * 1 ∨ True := .inr trivial
      have h1 : ((n : Int) < 10) = False := by simp; omega
      have hp : (10 : Nat) ^ (k + 1) ≤ 10 ^ 18 := Nat.pow_le_pow_right (by omega) (by omega)
      have e1 : Int.tdiv (n : Int) 10 = ((n / 10 : Nat) : Int) := by rw [Int.tdiv_eq_ediv_of_nonneg (by omega)]; omega
      have e2 : Int.tmod (n : Int) 10 = ((n % 10 : Nat) : Int) := by rw [Int.tmod_eq_emod_of_nonneg (by omega)]; omega
      have h2 : IntKind.u64.wrap (((n / 10 : Nat) : Int)) = ((n / 10 : Nat) : Int) := wrapu64 (by omega) (by omega)
      have h4 : IntKind.u64.wrap (((n % 10 : Nat) : Int) + 1) = ((n % 10 : Nat) : Int) + 1 := wrapu64 (by omega) (by omega)
      have h3 := aslice_dig (k := .u64) (k' := .u64) (show n % 10 < 10 by omega)
      have hs : ((((digs k (n / 10)).size + (dig (n % 10)).size : Nat) : Int) > IntKind.i64.max) = False := by
        have a := digs_size k (n / 10)
        have b := dig_size (n % 10)
        have m : IntKind.i64.max = 9223372036854775807 := by decide
        rw [m]; simp; omega
      unfold tenDigits at h3
      simp -implicitDefEqProofs only [↓pgPre,go_sem,↓reduceIte,reduceCtorEq,seval, h1, e1, e2, h2, h4, h3]
      refine callT_of (ih (n / 10) hq (by omega) h) (fun v g ⟨hv, hg⟩ => ?_)
      subst v g
      simp -implicitDefEqProofs only [↓pgPre,go_sem,↓reduceIte,reduceCtorEq,seval, hs, h3]
      exact .same ⟨by simp [digs, hn'], rfl⟩
theorem Digits_spec (h : AHeap) (k n : Nat) (hn : n < 10 ^ (k + 1)) (hk : k ≤ 17) : ACalls Go.Proofs.Try.prog 14 [.int .i64 (n : Int)] h (fun v g => v = .str (digs k n) ∧ g = h) := by
  have hp : (10 : Nat) ^ (k + 1) ≤ 10 ^ 18 := Nat.pow_le_pow_right (by omega) (by omega)
  refine F14.calls (by simp) ?_
  delta F14.c0 F14.c1 F14.c5 F14.r3 F14.c2 F14.c3 F14.c4 F14.r2 F14.r1 F14.r0
  have h1 : ((n : Int) < 0) = False := by simp
  have h2 : IntKind.u64.wrap (n : Int) = n := wrapu64 (by omega) (by omega)
  simp -implicitDefEqProofs only [↓pgPre,go_sem,↓reduceIte,reduceCtorEq,seval, h1, h2]
  refine callT_of (long_spec k n hn (by omega) h) (fun v g ⟨hv, hg⟩ => ?_)
  subst v g
  simp -implicitDefEqProofs only [↓pgPre,go_sem,↓reduceIte,reduceCtorEq,seval]
  exact .same ⟨rfl, rfl⟩
/-! ### What a text becomes -/
structure Pair where
  old : ByteArray
  new : ByteArray
def ePair (p : Pair) : List AV := [.str p.old, .str p.new]
theorem ePair_len (p : Pair) : (ePair p).length = 2 := rfl
def lookB (s : ByteArray) : List Pair → ByteArray
  | [] => s
  | p :: r => if p.old = s then p.new else lookB s r
def turn (by_ : List Pair) (s : ByteArray) : ByteArray := if s = noBytes then s else lookB s by_
theorem lookB_small {s : ByteArray} (hs : small s) : ∀ {l : List Pair}, (∀ p ∈ l, small p.new) → small (lookB s l)
  | [], _ => hs
  | p :: r, h => by
    simp only [lookB]
    split
    · exact h p (by simp)
    · exact lookB_small hs fun q hq => h q (by simp [hq])
theorem plus_none {t : ByteArray} (ht : small t) : (((( (⟨#[]⟩ : ByteArray)).size + t.size : Nat) : Int) > IntKind.i64.max) = False := by
  unfold small at ht
  have m : IntKind.i64.max = 9223372036854775807 := by decide
  have z : (⟨#[]⟩ : ByteArray).size = 0 := rfl
  rw [m, z]; simp; omega
theorem none_add (t : ByteArray) : (⟨#[]⟩ : ByteArray) ++ t = t := by
  apply ByteArray.ext; simp
theorem Turned_spec (h : AHeap) (s : ByteArray) (hs : small s) (hp : plain s) (l : List Pair) (hl : few l) (hn : ∀ p ∈ l, small p.new) (full : Bool) : ACalls Go.Proofs.Try.prog 49 [.str s, .sl (l.map ePair) full] h (fun v g => v = .str (turn l s) ∧ g = h) := by
  have hw1 : IntKind.i64.wrap 1 = 1 := by decide
  have hA : aia 1 (.sl [[.str s]] false) (.int .i64 0) = some (.ip [.str s] 0) := rfl
  refine F49.calls (by simp) ?_
  delta F49.c0 F49.c1 F49.c2 F49.c3 F49.c28 F49.r15 F49.c4 F49.c5 F49.c6 F49.c7 F49.c10 F49.r14 F49.c11 F49.c12 F49.c13 F49.c25 F49.r13 F49.c26 F49.c27 F49.r12 F49.r11 F49.c14 F49.c15 F49.c16 F49.c17 F49.c20 F49.r10 F49.c21 F49.c22 F49.c23 F49.c24 F49.r9 F49.r8 F49.c18 F49.c19 F49.r7 F49.r6 F49.r5 F49.c8 F49.c9 F49.r4 F49.r3 F49.r2 F49.r1 F49.r0
  simp -implicitDefEqProofs only [↓pgPre,go_sem,↓reduceIte,reduceCtorEq,seval]
  refine callT_of (Parts_spec h s hs) (fun v g ⟨hv, hg⟩ => ?_)
  subst v g
  rw [parts_plain hp]
  simp -implicitDefEqProofs only [↓pgPre,go_sem,↓reduceIte,reduceCtorEq,seval]
  refine lT_round ?_
  simp -implicitDefEqProofs only [↓pgPre,go_sem,↓reduceIte,reduceCtorEq,seval, hA]
  by_cases h0 : s = noBytes
  · subst h0
    refine lT_round ?_
    by_cases hl0 : (0 : Int) < l.length
    · simp -implicitDefEqProofs only [↓pgPre,go_sem,↓reduceIte,reduceCtorEq,seval, hl0, hA, plus_none (t := noBytes) hs, none_add]
      refine lT_round ?_
      simp -implicitDefEqProofs only [↓pgPre,go_sem,↓reduceIte,reduceCtorEq,seval, hw1]
      exact .same ⟨by simp [turn], rfl⟩
    · simp -implicitDefEqProofs only [↓pgPre,go_sem,↓reduceIte,reduceCtorEq,seval, hl0, hA, plus_none (t := noBytes) hs, none_add]
      refine lT_round ?_
      simp -implicitDefEqProofs only [↓pgPre,go_sem,↓reduceIte,reduceCtorEq,seval, hw1]
      exact .same ⟨by simp [turn], rfl⟩
  · have h0' : (s = (⟨#[]⟩ : ByteArray)) = False := by simpa using h0
    refine lT_list l (fun pre post e g => lookB s l = lookB s post ∧ g = h ∧ e = [(0, .str s), (1, .sl (l.map ePair) full), (5, .sl [[.str s]] false), (6, .str ⟨#[]⟩), (7, .int .i64 0), (8, .str s), (9, .int .i64 pre.length)]) (WeakE.env ?_) ⟨rfl, rfl, rfl⟩ ?_ ?_
    · skip
      repeat' (first | exact EnvLe.nil _ | refine EnvLe.cons ?_ ?_)
      all_goals (simp -implicitDefEqProofs only [↓pgPre,go_sem,↓reduceIte,reduceCtorEq,seval]; try first | exact AVle.refl _ | exact AVle.sl _ _ | exact AVle.gs _ _ _ | assumption)
    · rintro pre p post e g hpp ⟨hk, rfl, rfl⟩
      have hold : (ePair p)[0]? = some (.str p.old) := rfl
      have hnew : (ePair p)[1]? = some (.str p.new) := rfl
      by_cases he : p.old = s
      · have hsm := hn p (mem_at hpp)
        simp -implicitDefEqProofs only [↓pgPre,go_sem,↓reduceIte,reduceCtorEq,seval, lt_at hpp, hA, h0', aia_sl (map_at hpp) (ePair_len p), hold, hnew, he]
        refine lessQ.same ?_
        simp -implicitDefEqProofs only [↓pgPre,go_sem,↓reduceIte,reduceCtorEq,seval, plus_none hsm, none_add]
        refine lT_round ?_
        simp -implicitDefEqProofs only [↓pgPre,go_sem,↓reduceIte,reduceCtorEq,seval, hw1]
        exact .same ⟨by rw [turn, if_neg h0, hk]; simp [lookB, he], rfl⟩
      · simp -implicitDefEqProofs only [↓pgPre,go_sem,↓reduceIte,reduceCtorEq,seval, lt_at hpp, hA, h0', aia_sl (map_at hpp) (ePair_len p), hold, he]
        refine ⟨_, _, WeakE.env ?_, ?_, rfl, rfl⟩
        · skip
          repeat' (first | exact EnvLe.nil _ | refine EnvLe.cons ?_ ?_)
          all_goals (simp -implicitDefEqProofs only [↓pgPre,go_sem,↓reduceIte,reduceCtorEq,seval, step_at hl hpp]; try first | exact AVle.refl _ | exact AVle.sl _ _ | exact AVle.gs _ _ _ | assumption)
        · rw [hk]; simp [lookB, he]
    · rintro e g ⟨hk, rfl, rfl⟩
      simp -implicitDefEqProofs only [↓pgPre,go_sem,↓reduceIte,reduceCtorEq,seval, lt_end]
      refine lessQ.same ?_
      simp -implicitDefEqProofs only [↓pgPre,go_sem,↓reduceIte,reduceCtorEq,seval, plus_none hs, none_add]
      refine lT_round ?_
      simp -implicitDefEqProofs only [↓pgPre,go_sem,↓reduceIte,reduceCtorEq,seval, hw1]
      exact .same ⟨by rw [turn, if_neg h0, hk]; simp [lookB], rfl⟩

/-! ### Lists that grow, over less -/
theorem GL.rebase {ty : TypeId} {size : Nat} {h0 k h : AHeap} {v : AV} {rows : List (List AV)} (g : GL ty size k h v rows) (le : h0.le k) : ∃ h', GL ty size h0 h' v rows ∧ h'.le h := by
  obtain ⟨g1, g2⟩ := g
  rcases g2 with ⟨rfl, rfl⟩ | ⟨b, cap, hb, hc, rfl, rfl⟩
  · exact ⟨h0, ⟨g1, .inl ⟨rfl, rfl⟩⟩, le⟩
  · have hn : h0 b = none := by
      cases hh : h0 b with
      | none => rfl
      | some x => rw [le b x hh] at hb; cases hb
    refine ⟨_, ⟨g1, .inr ⟨b, cap, hn, hc, rfl, rfl⟩⟩, ?_⟩
    intro c o e
    by_cases hcb : c = b
    · subst hcb; rw [upd_same] at e ⊢; exact e
    · rw [upd_ne _ _ _ hcb] at e ⊢; exact le c o e
theorem le_upd_of {h k : AHeap} {b : Nat} (hb : h b = none) (le : h.le k) (o : AObj) : h.le (k.upd b o) := by
  intro c x e
  have hc : c ≠ b := by intro hh; subst hh; rw [hb] at e; cases e
  rw [upd_ne _ _ _ hc]; exact le c x e
theorem none_upd {h : AHeap} {b c : Nat} {o : AObj} (hc : (h.upd b o) c = none) : c ≠ b ∧ h c = none := by
  have hne : c ≠ b := by intro hh; subst hh; rw [upd_same] at hc; cases hc
  exact ⟨hne, by rw [upd_ne _ _ _ hne] at hc; exact hc⟩
theorem splice_same {α : Type} {l m : List α} (h : l.length = m.length) : splice l 0 m = m := by
  unfold splice; rw [← h]; simp
/-- Names as they may be turned. -/
def soft (s : ByteArray) : Prop := small s ∧ plain s
/-- What names become. -/
structure ByOk (l : List Pair) : Prop where
  few : few l
  small : ∀ p ∈ l, small p.new
theorem turnE_room : ∀ (l : List Expr), l.length ≤ wEs l
  | [] => by simp [wEs]
  | x :: r => by
    have := turnE_room r
    have := wE_eq x
    simp only [wEs, List.length_cons]; omega
theorem wEs_mem {l : List Expr} {x : Expr} (h : x ∈ l) : wE x ≤ wEs l := by
  induction l with
  | nil => cases h
  | cons y r ih =>
    simp only [wEs]
    rcases List.mem_cons.1 h with rfl | h
    · omega
    · have := ih h; omega
theorem turnExpr_spec {by_ : List Pair} (hb : ByOk by_) (full : Bool) : ∀ (n : Nat) (x : Expr), x.sz ≤ n → x.ok → inE soft x → wE x ≤ 1099511627776 → ∀ h : AHeap, ACalls Go.Proofs.Try.prog 78 [.agg (eExpr x), .sl (by_.map ePair) full] h (fun v g => v = .agg (eExpr (rnE (turn by_) x)) ∧ g = h) := by
  intro n
  induction n with
  | zero => intro x hn; rw [Expr.sz_eq] at hn; omega
  | succ n ih =>
    intro x hn ho hs hw h
    obtain ⟨s1, s2, s3⟩ := (inE_eq soft x).1 hs
    obtain ⟨o1, o2⟩ := (Expr.ok_iff x).1 ho
    have hz := Expr.sz_eq x
    have hwe := wE_eq x
    have hll := turnE_room x.l
    refine F78.calls (by simp) ?_
    delta F78.c0 F78.c1 F78.c2 F78.c11 F78.r6 F78.c3 F78.c4 F78.c5 F78.c6 F78.c9 F78.r5 F78.c10 F78.r4 F78.c7 F78.c8 F78.r3 F78.r2 F78.r1 F78.r0
    simp -implicitDefEqProofs only [↓pgPre,go_sem,↓reduceIte,reduceCtorEq,seval]
    refine afreshT_intro fun b4 hb4 => ?_
    simp -implicitDefEqProofs only [↓pgPre,go_sem,↓reduceIte,reduceCtorEq,seval]
    refine callT_of (Turned_spec _ x.name s1.1 s1.2 by_ hb.few hb.small full) (fun v g ⟨hv, hg⟩ => ?_)
    subst v g
    simp -implicitDefEqProofs only [↓pgPre,go_sem,↓reduceIte,reduceCtorEq,seval]
    refine callT_of (Turned_spec _ x.field s2.1 s2.2 by_ hb.few hb.small full) (fun v g ⟨hv, hg⟩ => ?_)
    subst v g
    simp -implicitDefEqProofs only [↓pgPre,go_sem,↓reduceIte,reduceCtorEq,seval]
    refine afreshT_intro fun b5 hb5 => ?_
    obtain ⟨hne, hb5'⟩ := none_upd hb5
    simp -implicitDefEqProofs only [↓pgPre,go_sem,↓reduceIte,reduceCtorEq,seval]
    rw [upd_upd]
    generalize hB : (h.upd b4 _) = B
    have hB4 : B b4 = some (.blk [.int .i64 0, .int .i64 0, .str ⟨#[]⟩, .str ⟨#[]⟩, .sl [] true] 5 53) := by rw [← hB, upd_same]
    have hBle : h.le B := by rw [← hB]; exact AHeap.le_upd hb4
    have hB5 : B b5 = none := by rw [← hB]; exact hb5
    refine lT_list x.l (fun pre post e g => ∃ v g0, GL 53 5 (B.upd b5 (.blk [.int .i64 x.op, .int .i64 x.n, .str (turn by_ x.name), .str (turn by_ x.field), v] 5 53)) g v ((pre.map (rnE (turn by_))).map eExpr) ∧ g0 = g ∧ e = [(1, .sl (by_.map ePair) full), (2, .ip (eExpr x) 0), (4, .ptr (some ⟨b4, 0, none⟩)), (5, .ptr (some ⟨b5, 0, none⟩)), (6, .int .i64 pre.length)]) (WeakE.env ?_) ⟨.sl [] true, _, .nil _, rfl, rfl⟩ ?_ ?_
    · skip
      repeat' (first | exact EnvLe.nil _ | refine EnvLe.cons ?_ ?_)
      all_goals (simp -implicitDefEqProofs only [↓pgPre,go_sem,↓reduceIte,reduceCtorEq,seval]; try first | exact AVle.refl _ | exact AVle.sl _ _ | exact AVle.gs _ _ _ | assumption)
    · rintro pre y post e g hp ⟨v, g0, G, rfl, rfl⟩
      have hy := mem_at hp
      have hyz := Exprs.sz_mem hy
      have hyw := wEs_mem hy
      have hpl := (at_pre hp).2
      have hg5 := G.at (upd_same B b5 _)
      simp -implicitDefEqProofs only [↓pgPre,go_sem,↓reduceIte,reduceCtorEq,seval, lt_at hp, hg5, aia_sl (map_at hp) (eExpr_len y)]
      refine callT_of (ih y (by omega) (o2 y hy) (inEs_mem s3 y hy) (by omega) _) (fun v' g' ⟨hv, hg⟩ => ?_)
      subst v' g'
      simp -implicitDefEqProofs only [↓pgPre,go_sem,↓reduceIte,reduceCtorEq,seval, hg5, splice_same, expr_take]
      refine G.append1 (xs := eExpr (rnE (turn by_) y)) (bytes := 72) (eExpr_len _) (by unfold roomFor; simp; omega) (fun v' g' G' => ?_)
      have hg5' := G'.at (upd_same B b5 _)
      simp -implicitDefEqProofs only [↓pgPre,go_sem,↓reduceIte,reduceCtorEq,seval, hg5', G'.cells]
      have G'' := G'.upd (upd_same B b5 _) (.blk [.int .i64 x.op, .int .i64 x.n, .str (turn by_ x.name), .str (turn by_ x.field), v'] 5 53)
      rw [upd_upd] at G''
      refine ⟨.inr (by decide), _, _, WeakE.env ?_, v', _, ?_, rfl, rfl⟩
      · skip
        repeat' (first | exact EnvLe.nil _ | refine EnvLe.cons ?_ ?_)
        all_goals (simp -implicitDefEqProofs only [↓pgPre,go_sem,↓reduceIte,reduceCtorEq,seval, step_at o1 hp]; try first | exact AVle.refl _ | exact AVle.sl _ _ | exact AVle.gs _ _ _ | assumption)
      · simpa using G''
    · rintro e g ⟨v, g0, G, rfl, rfl⟩
      have hg5 := G.at (upd_same B b5 _)
      have hg4 := G.at (show (B.upd b5 _) b4 = some _ by rw [upd_ne _ _ _ hne.symm]; exact hB4)
      simp -implicitDefEqProofs only [↓pgPre,go_sem,↓reduceIte,reduceCtorEq,seval, lt_end]
      refine lessQ.same ?_
      simp -implicitDefEqProofs only [↓pgPre,go_sem,↓reduceIte,reduceCtorEq,seval, hg5, hg4]
      refine EndW.less (AVle.agg ?_) ?_ ⟨rfl, rfl⟩
      · rw [eExpr_eq, rnE_eq]
        simp only [rnEs_map]
        exact .cons (.refl _) (.cons (.refl _) (.cons (.refl _) (.cons (.refl _) (.cons G.avle .nil))))
      · refine le_upd_of hb4 (AHeap.le_trans (AHeap.le_trans hBle (AHeap.le_upd hB5)) G.le) _
end Pg
