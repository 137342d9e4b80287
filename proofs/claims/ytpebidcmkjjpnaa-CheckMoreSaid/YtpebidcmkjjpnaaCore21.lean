/- The core, twenty-first part: an owned row is lent to a call that only reads it. -/
import Derived.Test.YtpebidcmkjjpnaaCore20
namespace Pg
open Go
set_option linter.unusedSimpArgs false
set_option linter.unusedVariables false

/-- A value that reads so reads otherwise where more never turns. -/
def AVto (I J : Imm) (a b : AV) : Prop := ∀ v, Rd I a v → Rd J b v
theorem AVto.refl {I J : Imm} (le : I.le J) (a : AV) : AVto I J a a := fun v r => r.mono le
theorem AVto.sl0 {I J : Imm} (le : I.le J) (es : List (List AV)) (f : Bool) : AVto I J (.sl es f) (.sl es false) := fun v r => r.sl_open.mono le
def AVtos (I J : Imm) (xs ys : List AV) : Prop := ∀ vs, Rds I xs vs → Rds J ys vs
theorem AVtos.nil (I J : Imm) : AVtos I J [] [] := fun vs r => by have := r.of_nil; subst this; exact .nil _
theorem AVtos.cons {I J : Imm} {a b : AV} {xs ys : List AV} (h : AVto I J a b) (r : AVtos I J xs ys) : AVtos I J (a :: xs) (b :: ys) := by
  intro vs hr
  obtain ⟨v, vs', rfl, h1, h2⟩ := hr.uncons
  exact .cons (h v h1) (r vs' h2)
theorem AVto.agg {I J : Imm} {xs ys : List AV} (h : AVtos I J xs ys) : AVto I J (.agg xs) (.agg ys) := by
  intro v r
  obtain ⟨vs, rfl, r1, r2⟩ := r.inv_agg
  exact .of_agg (h vs r1) r2
theorem AVto.one {I J : Imm} (le : I.le J) {xs ys : List AV} {f : Bool} (hl : xs.length = ys.length) (h : AVtos I J xs ys) : AVto I J (.sl [xs] f) (.sl [ys] false) := by
  intro v r
  obtain ⟨a, cap, rfl, h1, h2, h3, h4, h5⟩ := r.inv_sl
  rcases h5 with h5 | ⟨b, o, size, vss, rfl, R⟩
  · cases h5
  · refine Rd.of_rows (es := [ys]) (vss := vss) false h1 (fun h => by cases h) ⟨by rw [← R.len]; rfl, ?_, fun i vs j v e1 e2 => le _ _ _ (R.mem i vs j v e1 e2), R.one, ?_⟩
    · intro i e vs e1 e2
      cases i with
      | zero =>
        simp only [List.getElem?_cons_zero, Option.some.injEq] at e1; subst e1
        have := R.size_ 0 xs vs rfl e2
        exact ⟨by rw [← hl]; exact this.1, this.2⟩
      | succ i => simp at e1
    · intro i e vs j c v e1 e2 e3 e4
      cases i with
      | zero =>
        simp only [List.getElem?_cons_zero, Option.some.injEq] at e1; subst e1
        have hs := R.size_ 0 xs vs rfl e2
        exact (h vs ⟨by rw [hs.1, hs.2], fun j c v e3 e4 => R.rd 0 xs vs j c v rfl e2 e3 e4⟩).at_ j c v e3 e4
      | succ i => simp at e1
/-- A row of one element, owned, lent. -/
theorem AVto.os {I J : Imm} {b : Nat} {cs : List AV} {us : List Value} (hm : ∀ (j : Nat) (u : Value), us[j]? = some u → J b j = some u) (r : Rds J cs us) (h1 : Ones us) : AVto I J (.os b 1 1) (.sl [cs] false) := by
  intro v hv
  have := hv.inv_os; subst this
  refine Rd.of_rows (es := [cs]) (b := b) (o := 0) (size := cs.length) (vss := [us]) false (Nat.le_refl _) (fun h => by cases h) ⟨rfl, ?_, ?_, ?_, ?_⟩
  · intro i e vs e1 e2
    cases i with
    | zero => simp at e1 e2; subst e1 e2; exact ⟨rfl, r.len.symm⟩
    | succ i => simp at e1
  · intro i vs j v e1 e2
    cases i with
    | zero => simp at e1; subst e1; simpa using hm j v e2
    | succ i => simp at e1
  · intro i vs e1
    cases i with
    | zero => simp at e1; subst e1; exact h1
    | succ i => simp at e1
  · intro i e vs j c v e1 e2 e3 e4
    cases i with
    | zero => simp at e1 e2; subst e1 e2; exact r.at_ j c v e3 e4
    | succ i => simp at e1
theorem ACalls.lend {P : Program} {f : FuncId} {args args' : List AV} {b : Nat} {cs : List AV} {ty : TypeId} {K : AV → Prop}
    (c : ACalls P f args' eheap (fun v g => K v ∧ g = eheap)) (flat : ∀ v, K v → ∀ (I J : Imm) x, Rd J v x → Rd I v x)
    (conv : ∀ (I J : Imm) (us : List Value), I.le J → (∀ (j : Nat) (u : Value), us[j]? = some u → J b j = some u) → Rds J cs us → Ones us → AVtos I J args args') :
    ACalls P f args (eheap.upd b (.blk cs cs.length ty)) (fun v g => K v ∧ g = eheap.upd b (.blk cs cs.length ty)) := by
  intro I w vs r s
  obtain ⟨us, hb1, hb2, hb3, hb4, hb5⟩ := s.obj b _ (upd_same _ _ _)
  have ht : us.take cs.length = us := List.take_of_length_le (by omega)
  rw [ht] at hb4 hb5
  have hnb : ∀ o, I b o = none := by
    intro o
    cases h : I b o with
    | none => rfl
    | some v => have := s.dis b o v h; rw [upd_same] at this; exact this.elim
  have le : I.le (fun k o => if k = b then us[o]? else I k o) := by
    intro k o v e
    by_cases hk : k = b
    · subst hk; rw [hnb] at e; cases e
    · simp only [hk, if_false]; exact e
  have own : ∀ (j : Nat) (u : Value), us[j]? = some u → (fun k o => if k = b then us[o]? else I k o : Imm) b j = some u := by
    intro j u e; simp only [if_true]; exact e
  have hw : b < w.heap.size := by
    rcases Nat.lt_or_ge b w.heap.size with h | h
    · exact h
    · rw [Array.getElem?_eq_none h] at hb1; cases hb1
  have s1 : Sat w (fun k o => if k = b then us[o]? else I k o) eheap := by
    refine ⟨fun b o e => (by cases e), ?_, fun _ _ _ _ => trivial⟩
    intro k o v e
    by_cases hk : k = b
    · subst hk
      simp only [if_true] at e
      simp [World.cell?, hb1, e]
    · simp only [hk, if_false] at e
      exact s.imm k o v e
  refine (c _ w vs (conv I _ us le own (hb4.mono le) hb5 vs r) s1).mono ?_
  rintro e w' ⟨v, rfl, J, x, g, ⟨hk, rfl⟩, rd, s', ex, n⟩
  have same : ∀ k, k < w.heap.size → w'.heap[k]? = w.heap[k]? := fun k hk => ex.block k hk rfl
  refine ⟨v, rfl, I, x, _, ⟨hk, rfl⟩, flat x hk _ _ v rd, ⟨?_, ?_, s.dis⟩, ⟨ex.os, ex.tape, ex.output, ex.size, fun k hk _ => same k hk⟩, .refl w I _⟩
  · intro k o e
    by_cases hkb : k = b
    · subst hkb
      rw [upd_same] at e; cases e
      exact ⟨us, by rw [same k hw]; exact hb1, hb2, hb3, by rw [ht]; exact hb4, by rw [ht]; exact hb5⟩
    · rw [upd_ne _ _ _ hkb] at e; cases e
  · intro k o v e
    exact s'.imm k o v (n.imm k o v (le k o v e))
end Pg
namespace Pg
open Go
/-- What is owned lies in a heap of more. -/
theorem ACalls.lend' {P : Program} {f : FuncId} {args args' : List AV} {b : Nat} {cs : List AV} {n : Nat} {ty : TypeId} {K : AV → Prop} {h : AHeap} (hb : h b = none) (hn : n = cs.length)
    (c : ACalls P f args' eheap (fun v g => K v ∧ g = eheap)) (flat : ∀ v, K v → ∀ (I J : Imm) x, Rd J v x → Rd I v x)
    (conv : ∀ (I J : Imm) (us : List Value), I.le J → (∀ (j : Nat) (u : Value), us[j]? = some u → J b j = some u) → Rds J cs us → Ones us → AVtos I J args args') :
    ACalls P f args (h.upd b (.blk cs n ty)) (fun v g => K v ∧ g = h.upd b (.blk cs n ty)) := by
  subst hn
  have hj : (eheap.upd b (.blk cs cs.length ty)).join h = h.upd b (.blk cs cs.length ty) := by
    funext k
    by_cases hk : k = b
    · subst hk; simp [AHeap.join, upd_same]
    · simp [AHeap.join, upd_ne _ _ _ hk, eheap]
  have ap : (eheap.upd b (.blk cs cs.length ty)).apart h := by
    intro k o e
    by_cases hk : k = b
    · subst hk; exact hb
    · rw [upd_ne _ _ _ hk] at e; cases e
  have := (ACalls.lend c flat conv).frame ap
  rw [hj] at this
  refine this.mono ?_
  rintro v g ⟨h', rfl, _, hk, rfl⟩
  exact ⟨hk, hj⟩
end Pg
