import Derived.Test.YtlflapoljegmoaaGreatDoorCpXC
namespace Pg
open Go
set_option linter.unusedVariables false
set_option linter.unusedSimpArgs false
theorem capL_sub : ∀ (N : Nat) (l : List Routine), Routines.sz l < N → ∀ (k : Nat) (whole : List Routine) (around : Int) (path : ByteArray) (i : Nat) (n : CN), (capL k whole around path l)[i]? = some n →
  i + 1 + rcnts n.r.inner ≤ rcnts l ∧ n.inner = capMap (k + i + 1) [] n.r.inner ∧ ∀ t, t < rcnts n.r.inner → (capL k whole around path l)[i + 1 + t]? = (capL (k + i + 1) n.r.inner ((k + i : Nat) : Int) (n.path ++ dollar) n.r.inner)[t]?
 | 0, l, h, _, _, _, _, _, _, _ => by omega
 | N + 1, [], h, k, whole, around, path, i, n, hn => by simp [capL] at hn
 | N + 1, x :: l, h, k, whole, around, path, i, n, hn => by
  have hz := Routine.sz_eq x
  simp only [Routines.sz] at h
  have hrc := rcnt_eq x
  simp only [capL] at hn ⊢
  rw [List.getElem?_append] at hn
  have hlen := capR_len x k whole around path
  simp only [rcnts]
  split at hn
  ·rename_i hlt
   rw [hlen] at hlt
   have left : ∀ j, j < rcnt x → (capR k whole around path x ++ capL (k + rcnt x) whole around path l)[j]? = (capR k whole around path x)[j]? := fun j hj => by
    rw [List.getElem?_append, if_pos (by rw [hlen]; exact hj)]
   rw [capR_eq] at hn left ⊢
   cases i with
   | zero =>
    simp only [List.getElem?_cons_zero, Option.some.injEq] at hn
    subst hn
    simp only [Nat.zero_add, Nat.add_zero]
    refine ⟨by omega, trivial, fun t ht => ?_⟩
    rw [Nat.add_comm 1 t, left _ (by omega), List.getElem?_cons_succ]
   | succ i =>
    simp only [List.getElem?_cons_succ] at hn
    obtain ⟨h1, h2, h3⟩ := capL_sub N x.inner (by omega) (k + 1) _ k _ i n hn
    refine ⟨by omega, by rw [h2]; congr 1; omega, fun t ht => ?_⟩
    have e1 : k + (i + 1) + 1 = k + 1 + i + 1 := by omega
    have e2 : k + (i + 1) = k + 1 + i := by omega
    rw [left _ (by omega), show i + 1 + 1 + t = (i + 1 + t) + 1 by omega, List.getElem?_cons_succ, h3 t ht, e1, e2]
  ·rename_i hge
   rw [hlen] at hge hn
   obtain ⟨h1, h2, h3⟩ := capL_sub N l (by omega) (k + rcnt x) whole around path (i - rcnt x) n hn
   have e : k + rcnt x + (i - rcnt x) = k + i := by omega
   rw [e] at h2 h3
   refine ⟨by omega, h2, fun t ht => ?_⟩
   rw [List.getElem?_append, if_neg (by rw [hlen]; omega), hlen, ← h3 t ht]
   congr 1
   omega
theorem capMap_at (whole : List Routine) (around : Int) (path name : ByteArray) : ∀ (l : List Routine) (k : Nat) (m : List (ByteArray × Nat)) (v : Nat), lookN name (capMap k m l) = some v → lookN name m = some v ∨ (k ≤ v ∧ ∃ r ∈ l, r.name = name ∧ ∃ n, (capL k whole around path l)[v - k]? = some n ∧ n.r = r ∧ n.around = around ∧ n.path = path ++ name)
 | [], k, m, v, h => .inl h
 | x :: l, k, m, v, h => by
  simp only [capMap] at h
  have hr : 1 ≤ rcnt x := by rw [rcnt_eq]; omega
  have hlen := capR_len x k whole around path
  rcases capMap_at whole around path name l _ _ v h with h | ⟨h1, r, hr', hn, n, h2, h3, h4, h5⟩
  ·rw [lookN_mapIn] at h
   split at h
   ·rename_i hxn
    simp only [Option.some.injEq] at h
    subst h
    refine .inr ⟨Nat.le_refl _, x, by simp, hxn.symm, ⟨path ++ x.name, around, whole, x, capMap (k + 1) [] x.inner⟩, ?_, rfl, rfl, by rw [hxn]⟩
    simp only [capL, capR_eq, Nat.sub_self, List.cons_append, List.getElem?_cons_zero]
   ·exact .inl h
  ·refine .inr ⟨by omega, r, by simp [hr'], hn, n, ?_, h3, h4, h5⟩
   simp only [capL]
   rw [List.getElem?_append, if_neg (by rw [hlen]; omega), hlen, ← h2]
   congr 1
   omega
inductive Up (ns : List CN) : Nat → Nat → Prop
 | base {j i : Nat} {n : CN} (h : ns[j]? = some n) (ha : n.around = (i : Int)) : Up ns j i
 | step {j k i : Nat} {n : CN} (h : ns[j]? = some n) (ha : n.around = (k : Int)) (u : Up ns k i) : Up ns j i
theorem Up.trans {ns : List CN} {a b c : Nat} (u : Up ns a b) (v : Up ns b c) : Up ns a c := by
 induction u with
 | base h ha => exact .step h ha v
 | step h ha _ ih => exact .step h ha (ih v)
theorem nameAt_up {ns : List CN} {name : ByteArray} : ∀ {f : Nat} {i : Int} {x : Nat × Nat}, nameAt ns name f i = some x → ∃ a : Nat, i = (a : Int) ∧ (x.1 = a ∨ Up ns a x.1)
 | 0, i, x, h => by simp [nameAt] at h
 | f + 1, i, x, h => by
  simp only [nameAt] at h
  split at h
  ·cases h
  ·rename_i hi
   refine ⟨i.toNat, by omega, ?_⟩
   cases hn : ns[i.toNat]? with
   | none => rw [hn] at h; cases h
   | some n =>
    rw [hn] at h
    simp only at h
    cases hk : (locs n.r).findIdx? (fun p => decide (p.name = name)) with
    | some k =>
     rw [hk] at h
     simp only [Option.some.injEq] at h
     subst h
     exact .inl rfl
    | none =>
     rw [hk] at h
     obtain ⟨a, ha, h'⟩ := nameAt_up h
     refine .inr ?_
     rcases h' with h' | h'
     ·rw [h']; exact .base hn ha
     ·exact .step hn ha h'
abbrev nodesOf (p : List Routine) : List CN := capL 0 p (-1) noBytes p
theorem routAt_up {p : List Routine} {name : ByteArray} : ∀ {f : Nat} {i : Int} {v : Nat}, routAt (nodesOf p) (capMap 0 [] p) name f i = some v → ∃ m, (nodesOf p)[v]? = some m ∧ m.r.name = name ∧ (m.around = -1 ∨ ∃ a : Nat, 0 ≤ i ∧ m.around = (a : Int) ∧ ((a : Int) = i ∨ ∃ b : Nat, i = (b : Int) ∧ Up (nodesOf p) b a)) := by
 have top : ∀ {v : Nat}, lookN name (capMap 0 [] p) = some v → ∃ m, (nodesOf p)[v]? = some m ∧ m.r.name = name ∧ m.around = -1 := fun {v} h => by
  rcases capMap_at p (-1) noBytes name p 0 [] v h with h | ⟨_, r, _, hn, n, h2, h3, h4, _⟩
  ·simp [lookN] at h
  ·exact ⟨n, by simpa using h2, by rw [h3]; exact hn, h4⟩
 intro f
 induction f with
 | zero =>
  intro i v h
  obtain ⟨m, h1, h2, h3⟩ := top h
  exact ⟨m, h1, h2, .inl h3⟩
 | succ f ih =>
  intro i v h
  simp only [routAt] at h
  split at h
  ·obtain ⟨m, h1, h2, h3⟩ := top h
   exact ⟨m, h1, h2, .inl h3⟩
  ·rename_i hi
   cases hn : (nodesOf p)[i.toNat]? with
   | none => rw [hn] at h; cases h
   | some n =>
    rw [hn] at h
    simp only at h
    cases hk : lookN name n.inner with
    | some k =>
     rw [hk] at h
     simp only [Option.some.injEq] at h
     subst h
     obtain ⟨h1, h2, h3⟩ := capL_sub _ p (Nat.lt_succ_self _) 0 p (-1) noBytes i.toNat n hn
     rw [h2] at hk
     simp only [Nat.zero_add] at hk h3
     rcases capMap_at n.r.inner (i.toNat : Int) (n.path ++ dollar) name n.r.inner _ [] k hk with h | ⟨h4, r, hr, hrn, m, h5, h6, h7, _⟩
     ·simp [lookN] at h
     ·have hlt : k - (i.toNat + 1) < rcnts n.r.inner := by
       rw [← capL_len n.r.inner (i.toNat + 1) n.r.inner (i.toNat : Int) (n.path ++ dollar)]
       rcases Nat.lt_or_ge (k - (i.toNat + 1)) (capL (i.toNat + 1) n.r.inner (i.toNat : Int) (n.path ++ dollar) n.r.inner).length with h | h
       ·exact h
       ·rw [List.getElem?_eq_none h] at h5; cases h5
      have h8 := h3 _ hlt
      rw [h5, show i.toNat + 1 + (k - (i.toNat + 1)) = k by omega] at h8
      exact ⟨m, h8, by rw [h6]; exact hrn, .inr ⟨i.toNat, by omega, h7, .inl (by omega)⟩⟩
    | none =>
     rw [hk] at h
     obtain ⟨m, h1, h2, h3⟩ := ih h
     refine ⟨m, h1, h2, ?_⟩
     rcases h3 with h3 | ⟨a, ha0, ha, h3⟩
     ·exact .inl h3
     ·refine .inr ⟨a, by omega, ha, .inr ⟨i.toNat, by omega, ?_⟩⟩
      rcases h3 with h3 | ⟨b, hb, h3⟩
      ·exact .base hn h3.symm
      ·exact .step hn hb h3
theorem caps_up {p : List Routine} {j : Nat} {x : Nat × Nat} (c : Caps (gra p) j x) : Up (nodesOf p) j x.1 := by
 induction c with
 | @use j x h =>
  unfold Gra.hs0 at h
  cases hn : (gra p).ns[j]? with
  | none => rw [hn] at h; simp at h
  | some n =>
   rw [hn] at h
   rcases hasAt_in h with h | ⟨name, _, h, hne⟩
   ·simp at h
   ·obtain ⟨a, ha, h'⟩ := nameAt_up h
    have : a = j := by omega
    subst this
    rcases h' with h' | h'
    ·exact absurd h' hne
    ·exact h'
 | @call j k x hk hc hx ih =>
  unfold Gra.cs0 at hk
  cases hn : (gra p).ns[j]? with
  | none => rw [hn] at hk; simp at hk
  | some n =>
   rw [hn] at hk
   obtain ⟨name, _, hr⟩ := List.mem_filterMap.1 hk
   obtain ⟨m, h1, _, h2⟩ := routAt_up hr
   have split : ∃ i : Nat, m.around = (i : Int) ∧ (x.1 = i ∨ Up (nodesOf p) i x.1) := by
    cases ih with
    | base h ha => rw [h1] at h; cases h; exact ⟨_, ha, .inl rfl⟩
    | step h ha u => rw [h1] at h; cases h; exact ⟨_, ha, .inr u⟩
   obtain ⟨i, hi, hs⟩ := split
   rcases h2 with h2 | ⟨a, _, ha, h2⟩
   ·omega
   ·have : a = i := by omega
    subst this
    rcases h2 with h2 | ⟨b, hb, h2⟩
    ·have : a = j := by omega
     subst this
     rcases hs with hs | hs
     ·exact absurd hs hx
     ·exact hs
    ·have : b = j := by omega
     subst this
     rcases hs with hs | hs
     ·rw [hs]; exact h2
     ·exact h2.trans hs
end Pg
