/- Names are but names: the law's renaming, and what it leaves. -/
import Derived.Test.YtpebidcmkjjpnaaRw3
import Derived.Test.YtpebidcmkjjpnaaNnW
import Derived.Test.YtpebidcmkjjpnaaUps
namespace Pg
open Go
set_option linter.unusedSimpArgs false
set_option linter.unusedVariables false
set_option maxRecDepth 4000
def nn (i : Nat) : ByteArray := (⟨#[110]⟩ : ByteArray) ++ digs 2 i
def byFrom : Nat → List ByteArray → List Pair
  | _, [] => []
  | i, s :: r => ⟨s, nn i⟩ :: byFrom (i + 1) r
theorem byFrom_snoc : ∀ (i : Nat) (l : List ByteArray) (x : ByteArray), byFrom i (l ++ [x]) = byFrom i l ++ [⟨x, nn (i + l.length)⟩]
  | i, [], x => rfl
  | i, s :: r, x => by
    have e : i + 1 + r.length = i + (r.length + 1) := by omega
    simp only [List.cons_append, byFrom, byFrom_snoc (i + 1) r x, List.length_cons, e]
theorem byFrom_len : ∀ (i : Nat) (l : List ByteArray), (byFrom i l).length = l.length
  | i, [] => rfl
  | i, s :: r => by simp [byFrom, byFrom_len (i + 1) r]
theorem nn_size (i : Nat) : (nn i).size ≤ 4 ∧ 1 ≤ (nn i).size := by
  unfold nn
  have := digs_size 2 i
  rw [ByteArray.size_append]
  have : (⟨#[110]⟩ : ByteArray).size = 1 := rfl
  omega
theorem byFrom_small : ∀ (i : Nat) (l : List ByteArray), ∀ p ∈ byFrom i l, small p.new
  | i, [], p, h => by simp [byFrom] at h
  | i, s :: r, p, h => by
    simp only [byFrom, List.mem_cons] at h
    rcases h with rfl | h
    · have := (nn_size i).1; unfold small; simp only; omega
    · exact byFrom_small (i + 1) r p h
def unDigs (s : ByteArray) : Nat := (s.data.toList.drop 1).foldl (fun v b => 10 * v + (b.toNat - 48)) 0
theorem un_nn : ∀ i < 200, unDigs (nn i) = i := by decide +kernel
theorem nn_ne (i : Nat) : nn i ≠ noBytes := by
  intro h
  have := (nn_size i).2
  rw [h] at this
  exact absurd this (by decide)
theorem lookB_by : ∀ (l : List ByteArray) (i : Nat) (s : ByteArray), s ∈ l → ∃ k, k < l.length ∧ l[k]? = some s ∧ lookB s (byFrom i l) = nn (i + k)
  | x :: r, i, s, h => by
    simp only [byFrom, lookB]
    by_cases hx : x = s
    · exact ⟨0, by simp, by simp [hx], by simp [hx]⟩
    · have hr : s ∈ r := by
        rcases List.mem_cons.1 h with rfl | h
        · exact absurd rfl hx
        · exact h
      obtain ⟨k, k1, k2, k3⟩ := lookB_by r (i + 1) s hr
      refine ⟨k + 1, by simp; omega, by simpa using k2, ?_⟩
      rw [if_neg hx, k3]
      congr 1; omega
/-- The names of a program, and none. -/
def namesOf (p : Prg) (n : ByteArray) : Prop := n = noBytes ∨ n ∈ nmP p
theorem turn_by {p : Prg} {n : ByteArray} (h : namesOf p n) : (n = noBytes ∧ turn (byFrom 0 (names p)) n = noBytes) ∨ (n ≠ noBytes ∧ ∃ k, k < (names p).length ∧ (names p)[k]? = some n ∧ turn (byFrom 0 (names p)) n = nn k) := by
  unfold turn
  by_cases h0 : n = noBytes
  · exact .inl ⟨h0, by rw [if_pos h0]; exact h0⟩
  · refine .inr ⟨h0, ?_⟩
    rw [if_neg h0]
    have hm : n ∈ names p := (once_mem _ _ _).2 (.inr ⟨h.resolve_left h0, h0⟩)
    obtain ⟨k, k1, k2, k3⟩ := lookB_by (names p) 0 n hm
    exact ⟨k, k1, k2, by rw [k3, Nat.zero_add]⟩
theorem renBy {p : Prg} (hl : (names p).length ≤ 200) : Ren (turn (byFrom 0 (names p))) (namesOf p) := by
  refine ⟨?_, by unfold turn; rw [if_pos rfl], .inl rfl⟩
  intro a b ha hb he
  rcases turn_by ha with ⟨a1, a2⟩ | ⟨a1, i, i1, i2, i3⟩ <;> rcases turn_by hb with ⟨b1, b2⟩ | ⟨b1, j, j1, j2, j3⟩
  · rw [a1, b1]
  · rw [a2, j3] at he; exact absurd he.symm (nn_ne j)
  · rw [b2, i3] at he; exact absurd he (nn_ne i)
  · rw [i3, j3] at he
    have : i = j := by rw [← un_nn i (by omega), he, un_nn j (by omega)]
    subst this
    rw [i2] at j2; cases j2; rfl
theorem inE_mono {S T : ByteArray → Prop} (h : ∀ n, S n → T n) : ∀ (n : Nat) (x : Expr), x.sz ≤ n → inE S x → inE T x
  | 0, x, hn, k => by rw [Expr.sz_eq] at hn; omega
  | n + 1, x, hn, k => by
    obtain ⟨a, b, c⟩ := (inE_eq S x).1 k
    have hz := Expr.sz_eq x
    refine (inE_eq T x).2 ⟨h _ a, h _ b, inEs_of fun y hy => inE_mono h n y (by have := Exprs.sz_mem hy; omega) (inEs_mem c y hy)⟩
/-- Nothing goes round. -/
theorem item_small (p : Prg) (hw : wP p ≤ 1048576) : w64 (ckAll p).item = (ckAll p).item := by
  have hcnt := cntP_le p
  obtain ⟨u1, u2, _⟩ := ups_prg p (by simp) (by simp; omega)
  simp only at u1 u2
  exact w64_small (by omega) (by omega)
theorem names_law (p : Prg) (hpl : inP plain p) (hl : (names p).length ≤ 200) (hw : wP p ≤ 1048576) : check (rnP (turn (byFrom 0 (names p))) p) = check p := by
  have hin : inP (namesOf p) p := inP_told hpl fun m hm => .inr hm
  obtain ⟨s1, s2⟩ := rn_all (renBy hl) hin
  rw [Int.add_zero, item_small p hw] at s2
  simp only [check, s1, s2]
/-! ### Lists are as long as they were -/
section
variable {ρ : ByteArray → ByteArray}
theorem few_map {X Y : Type} {f : X → Y} {l : List X} (h : few l) : few (l.map f) := by unfold few at *; simpa using h
theorem rnE_ok : ∀ (n : Nat) (x : Expr), x.sz ≤ n → x.ok → (rnE ρ x).ok
  | 0, x, hn, k => by rw [Expr.sz_eq] at hn; omega
  | n + 1, x, hn, k => by
    obtain ⟨a, b⟩ := (Expr.ok_iff x).1 k
    have hz := Expr.sz_eq x
    rw [rnE_eq, Expr.ok_iff]
    simp only [rnEs_map]
    refine ⟨few_map a, fun y hy => ?_⟩
    obtain ⟨z, hz', rfl⟩ := List.mem_map.1 hy
    exact rnE_ok n z (by have := Exprs.sz_mem hz'; omega) (b z hz')
theorem rnS_ok : ∀ (n : Nat) (x : Stmt), x.sz ≤ n → x.ok → (rnS ρ x).ok
  | 0, x, hn, k => by rw [Stmt.sz_eq] at hn; omega
  | n + 1, x, hn, k => by
    obtain ⟨a1, a2, a3, a4, a5, a6, a7, a8, a9, a10, a11⟩ := (Stmt.ok_iff x).1 k
    have hz := Stmt.sz_eq x
    rw [rnS_eq, Stmt.ok_iff]
    simp only [rnEs_map, rnSs_map]
    refine ⟨a1, a2, rnE_ok _ _ (Nat.le_refl _) a3, few_map a4, ?_, few_map a6, ?_, few_map a8, ?_, a10, a11⟩
    · intro y hy
      obtain ⟨z, hz', rfl⟩ := List.mem_map.1 hy
      exact rnE_ok _ _ (Nat.le_refl _) (a5 z hz')
    · intro y hy
      obtain ⟨z, hz', rfl⟩ := List.mem_map.1 hy
      exact rnS_ok n z (by have := Stmts.sz_mem hz'; omega) (a7 z hz')
    · intro y hy
      obtain ⟨z, hz', rfl⟩ := List.mem_map.1 hy
      exact rnS_ok n z (by have := Stmts.sz_mem hz'; omega) (a9 z hz')
theorem rnR_ok : ∀ (n : Nat) (x : Routine), x.sz ≤ n → x.ok → (rnR ρ x).ok
  | 0, x, hn, k => by rw [Routine.sz_eq] at hn; omega
  | n + 1, x, hn, k => by
    obtain ⟨a1, a2, a3, a4, a5, a6, a7, a8, a9, a10⟩ := (Routine.ok_iff x).1 k
    have hz := Routine.sz_eq x
    rw [rnR_eq, Routine.ok_iff]
    simp only [rnRs_map, rnSs_map]
    refine ⟨a1, a2, few_map a3, few_map a4, ?_, few_map a6, ?_, few_map a8, ?_, a10⟩
    · intro y hy
      obtain ⟨z, hz', rfl⟩ := List.mem_map.1 hy
      exact ⟨(a5 z hz').before, (a5 z hz').trail⟩
    · intro y hy
      obtain ⟨z, hz', rfl⟩ := List.mem_map.1 hy
      exact rnR_ok n z (by have := Routines.sz_mem hz'; omega) (a7 z hz')
    · intro y hy
      obtain ⟨z, hz', rfl⟩ := List.mem_map.1 hy
      exact rnS_ok _ _ (Nat.le_refl _) (a9 z hz')
theorem rnP_ok {p : Prg} (ho : p.ok) : (rnP ρ p).ok := by
  unfold rnP
  refine ⟨ho.before, ho.mid, ho.after, few_map ho.recs, ?_, few_map ho.vars, ?_, ?_, ?_, ?_, ?_, ho.endd⟩
  · intro y hy
    obtain ⟨z, hz, rfl⟩ := List.mem_map.1 hy
    have := ho.eachRec z hz
    refine ⟨this.before, this.trail, few_map this.fields, ?_, this.endd⟩
    intro f hf
    obtain ⟨k, hk, rfl⟩ := List.mem_map.1 hf
    exact ⟨(this.each k hk).before, (this.each k hk).trail⟩
  · intro y hy
    obtain ⟨z, hz, rfl⟩ := List.mem_map.1 hy
    exact ⟨(ho.eachVar z hz).before, (ho.eachVar z hz).trail⟩
  · simp only [rnRs_map]; exact few_map ho.routines
  · intro y hy
    simp only [rnRs_map] at hy
    obtain ⟨z, hz, rfl⟩ := List.mem_map.1 hy
    exact rnR_ok _ _ (Nat.le_refl _) (ho.eachRoutine z hz)
  · simp only [rnSs_map]; exact few_map ho.body
  · intro y hy
    simp only [rnSs_map] at hy
    obtain ⟨z, hz, rfl⟩ := List.mem_map.1 hy
    exact rnS_ok _ _ (Nat.le_refl _) (ho.eachStmt z hz)
end
end Pg
