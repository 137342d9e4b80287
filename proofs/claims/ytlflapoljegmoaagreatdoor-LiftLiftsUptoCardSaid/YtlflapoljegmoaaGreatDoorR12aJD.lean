import Derived.Test.YtlflapoljegmoaaGreatDoorCpXD
import Derived.Test.YtlflapoljegmoaaGreatDoorK4D
import Derived.Test.YtlflapoljegmoaaGreatDoorProg
import Derived.KernelRfl
import Derived.Test.YtlflapoljegmoaaGreatDoorCkWJD
import Derived.Test.YtlflapoljegmoaaGreatDoorTreeSD
import Derived.Test.YtlflapoljegmoaaGreatDoorHpD
import Derived.Test.YtlflapoljegmoaaGreatDoorWeighJD
namespace Pg
open Go
set_option linter.all false
theorem capL_sub : ∀ (N : Nat) (l : List Routine), Routines.sz l < N → ∀ (k : Nat) (whole : List Routine) (around : Int) (path : ByteArray) (i : Nat) (n : CN), (capL k whole around path l)[i]? = some n →
  i + 1 + rcnts n.r.inner ≤ rcnts l ∧ n.inner = capMap (k + i + 1) [] n.r.inner ∧ ∀ t, t < rcnts n.r.inner → (capL k whole around path l)[i + 1 + t]? = (capL (k + i + 1) n.r.inner ((k + i : Nat) : Int) (n.path ++ dollar) n.r.inner)[t]?
 | 0, l, h, _, _, _, _, _, _, _ => by omega
 | N + 1, [], h, k, whole, around, path, i, n, hn => by simp [capL] at hn
 | N + 1, x :: l, h, k, whole, around, path, i, n, hn => by
  have hz := Routine.sz_eq x
  simp only [Routines.sz] at h
  have hrc := rcnt_eq x
  simp only [capL] at hn ⊢
  rw [List.getElem?_append] at hn
  have hlen := capR_len x k whole around path
  simp only [rcnts]
  split at hn
  ·rename_i hlt
   rw [hlen] at hlt
   have left : ∀ j, j < rcnt x → (capR k whole around path x ++ capL (k + rcnt x) whole around path l)[j]? = (capR k whole around path x)[j]? := fun j hj => by
    rw [List.getElem?_append, if_pos (by rw [hlen]; exact hj)]
   rw [capR_eq] at hn left ⊢
   cases i with
   | zero =>
    simp only [List.getElem?_cons_zero, Option.some.injEq] at hn
    subst hn
    simp only [Nat.zero_add, Nat.add_zero]
    refine ⟨by omega, trivial, fun t ht => ?_⟩
    rw [Nat.add_comm 1 t, left _ (by omega), List.getElem?_cons_succ]
   | succ i =>
    simp only [List.getElem?_cons_succ] at hn
    obtain ⟨h1, h2, h3⟩ := capL_sub N x.inner (by omega) (k + 1) _ k _ i n hn
    refine ⟨by omega, by rw [h2]; congr 1; omega, fun t ht => ?_⟩
    have e1 : k + (i + 1) + 1 = k + 1 + i + 1 := by omega
    have e2 : k + (i + 1) = k + 1 + i := by omega
    rw [left _ (by omega), show i + 1 + 1 + t = (i + 1 + t) + 1 by omega, List.getElem?_cons_succ, h3 t ht, e1, e2]
  ·rename_i hge
   rw [hlen] at hge hn
   obtain ⟨h1, h2, h3⟩ := capL_sub N l (by omega) (k + rcnt x) whole around path (i - rcnt x) n hn
   have e : k + rcnt x + (i - rcnt x) = k + i := by omega
   rw [e] at h2 h3
   refine ⟨by omega, h2, fun t ht => ?_⟩
   rw [List.getElem?_append, if_neg (by rw [hlen]; omega), hlen, ← h3 t ht]
   congr 1
   omega
theorem capMap_at (whole : List Routine) (around : Int) (path name : ByteArray) : ∀ (l : List Routine) (k : Nat) (m : List (ByteArray × Nat)) (v : Nat), lookN name (capMap k m l) = some v → lookN name m = some v ∨ (k ≤ v ∧ ∃ r ∈ l, r.name = name ∧ ∃ n, (capL k whole around path l)[v - k]? = some n ∧ n.r = r ∧ n.around = around ∧ n.path = path ++ name)
 | [], k, m, v, h => .inl h
 | x :: l, k, m, v, h => by
  simp only [capMap] at h
  have hr : 1 ≤ rcnt x := by rw [rcnt_eq]; omega
  have hlen := capR_len x k whole around path
  rcases capMap_at whole around path name l _ _ v h with h | ⟨h1, r, hr', hn, n, h2, h3, h4, h5⟩
  ·rw [lookN_mapIn] at h
   split at h
   ·rename_i hxn
    simp only [Option.some.injEq] at h
    subst h
    refine .inr ⟨Nat.le_refl _, x, by simp, hxn.symm, ⟨path ++ x.name, around, whole, x, capMap (k + 1) [] x.inner⟩, ?_, rfl, rfl, by rw [hxn]⟩
    simp only [capL, capR_eq, Nat.sub_self, List.cons_append, List.getElem?_cons_zero]
   ·exact .inl h
  ·refine .inr ⟨by omega, r, by simp [hr'], hn, n, ?_, h3, h4, h5⟩
   simp only [capL]
   rw [List.getElem?_append, if_neg (by rw [hlen]; omega), hlen, ← h2]
   congr 1
   omega
inductive Up (ns : List CN) : Nat → Nat → Prop
 | base {j i : Nat} {n : CN} (h : ns[j]? = some n) (ha : n.around = (i : Int)) : Up ns j i
 | step {j k i : Nat} {n : CN} (h : ns[j]? = some n) (ha : n.around = (k : Int)) (u : Up ns k i) : Up ns j i
theorem Up.trans {ns : List CN} {a b c : Nat} (u : Up ns a b) (v : Up ns b c) : Up ns a c := by
 induction u with
 | base h ha => exact .step h ha v
 | step h ha _ ih => exact .step h ha (ih v)
theorem nameAt_up {ns : List CN} {name : ByteArray} : ∀ {f : Nat} {i : Int} {x : Nat × Nat}, nameAt ns name f i = some x → ∃ a : Nat, i = (a : Int) ∧ (x.1 = a ∨ Up ns a x.1)
 | 0, i, x, h => by simp [nameAt] at h
 | f + 1, i, x, h => by
  simp only [nameAt] at h
  split at h
  ·cases h
  ·rename_i hi
   refine ⟨i.toNat, by omega, ?_⟩
   cases hn : ns[i.toNat]? with
   | none => rw [hn] at h; cases h
   | some n =>
    rw [hn] at h
    simp only at h
    cases hk : (locs n.r).findIdx? (fun p => decide (p.name = name)) with
    | some k =>
     rw [hk] at h
     simp only [Option.some.injEq] at h
     subst h
     exact .inl rfl
    | none =>
     rw [hk] at h
     obtain ⟨a, ha, h'⟩ := nameAt_up h
     refine .inr ?_
     rcases h' with h' | h'
     ·rw [h']; exact .base hn ha
     ·exact .step hn ha h'
abbrev nodesOf (p : List Routine) : List CN := capL 0 p (-1) noBytes p
theorem routAt_up {p : List Routine} {name : ByteArray} : ∀ {f : Nat} {i : Int} {v : Nat}, routAt (nodesOf p) (capMap 0 [] p) name f i = some v → ∃ m, (nodesOf p)[v]? = some m ∧ m.r.name = name ∧ (m.around = -1 ∨ ∃ a : Nat, 0 ≤ i ∧ m.around = (a : Int) ∧ ((a : Int) = i ∨ ∃ b : Nat, i = (b : Int) ∧ Up (nodesOf p) b a)) := by
 have top : ∀ {v : Nat}, lookN name (capMap 0 [] p) = some v → ∃ m, (nodesOf p)[v]? = some m ∧ m.r.name = name ∧ m.around = -1 := fun {v} h => by
  rcases capMap_at p (-1) noBytes name p 0 [] v h with h | ⟨_, r, _, hn, n, h2, h3, h4, _⟩
  ·simp [lookN] at h
  ·exact ⟨n, by simpa using h2, by rw [h3]; exact hn, h4⟩
 intro f
 induction f with
 | zero =>
  intro i v h
  obtain ⟨m, h1, h2, h3⟩ := top h
  exact ⟨m, h1, h2, .inl h3⟩
 | succ f ih =>
  intro i v h
  simp only [routAt] at h
  split at h
  ·obtain ⟨m, h1, h2, h3⟩ := top h
   exact ⟨m, h1, h2, .inl h3⟩
  ·rename_i hi
   cases hn : (nodesOf p)[i.toNat]? with
   | none => rw [hn] at h; cases h
   | some n =>
    rw [hn] at h
    simp only at h
    cases hk : lookN name n.inner with
    | some k =>
     rw [hk] at h
     simp only [Option.some.injEq] at h
     subst h
     obtain ⟨h1, h2, h3⟩ := capL_sub _ p (Nat.lt_succ_self _) 0 p (-1) noBytes i.toNat n hn
     rw [h2] at hk
     simp only [Nat.zero_add] at hk h3
     rcases capMap_at n.r.inner (i.toNat : Int) (n.path ++ dollar) name n.r.inner _ [] k hk with h | ⟨h4, r, hr, hrn, m, h5, h6, h7, _⟩
     ·simp [lookN] at h
     ·have hlt : k - (i.toNat + 1) < rcnts n.r.inner := by
       rw [← capL_len n.r.inner (i.toNat + 1) n.r.inner (i.toNat : Int) (n.path ++ dollar)]
       rcases Nat.lt_or_ge (k - (i.toNat + 1)) (capL (i.toNat + 1) n.r.inner (i.toNat : Int) (n.path ++ dollar) n.r.inner).length with h | h
       ·exact h
       ·rw [List.getElem?_eq_none h] at h5; cases h5
      have h8 := h3 _ hlt
      rw [h5, show i.toNat + 1 + (k - (i.toNat + 1)) = k by omega] at h8
      exact ⟨m, h8, by rw [h6]; exact hrn, .inr ⟨i.toNat, by omega, h7, .inl (by omega)⟩⟩
    | none =>
     rw [hk] at h
     obtain ⟨m, h1, h2, h3⟩ := ih h
     refine ⟨m, h1, h2, ?_⟩
     rcases h3 with h3 | ⟨a, ha0, ha, h3⟩
     ·exact .inl h3
     ·refine .inr ⟨a, by omega, ha, .inr ⟨i.toNat, by omega, ?_⟩⟩
      rcases h3 with h3 | ⟨b, hb, h3⟩
      ·exact .base hn h3.symm
      ·exact .step hn hb h3
theorem caps_up {p : List Routine} {j : Nat} {x : Nat × Nat} (c : Caps (gra p) j x) : Up (nodesOf p) j x.1 := by
 induction c with
 | @use j x h =>
  unfold Gra.hs0 at h
  cases hn : (gra p).ns[j]? with
  | none => rw [hn] at h; simp at h
  | some n =>
   rw [hn] at h
   rcases hasAt_in h with h | ⟨name, _, h, hne⟩
   ·simp at h
   ·obtain ⟨a, ha, h'⟩ := nameAt_up h
    have : a = j := by omega
    subst this
    rcases h' with h' | h'
    ·exact absurd h' hne
    ·exact h'
 | @call j k x hk hc hx ih =>
  unfold Gra.cs0 at hk
  cases hn : (gra p).ns[j]? with
  | none => rw [hn] at hk; simp at hk
  | some n =>
   rw [hn] at hk
   obtain ⟨name, _, hr⟩ := List.mem_filterMap.1 hk
   obtain ⟨m, h1, _, h2⟩ := routAt_up hr
   have split : ∃ i : Nat, m.around = (i : Int) ∧ (x.1 = i ∨ Up (nodesOf p) i x.1) := by
    cases ih with
    | base h ha => rw [h1] at h; cases h; exact ⟨_, ha, .inl rfl⟩
    | step h ha u => rw [h1] at h; cases h; exact ⟨_, ha, .inr u⟩
   obtain ⟨i, hi, hs⟩ := split
   rcases h2 with h2 | ⟨a, _, ha, h2⟩
   ·omega
   ·have : a = i := by omega
    subst this
    rcases h2 with h2 | ⟨b, hb, h2⟩
    ·have : a = j := by omega
     subst this
     rcases hs with hs | hs
     ·exact absurd hs hx
     ·exact hs
    ·have : b = j := by omega
     subst this
     rcases hs with hs | hs
     ·rw [hs]; exact h2
     ·exact h2.trans hs
end Pg

namespace Pg
open Go Go.Proofs.Tryz
set_option maxRecDepth 100000
set_option maxHeartbeats 4000000
noncomputable def F102.c0 : CodeT prog 24 [] [] f102 := ⟨_, by with_unfolding_all (conv => lhs; reduce)⟩
theorem F102.calls [GI] : CallsT prog 102 24 F102.c0.1 [.cell 4 (some 19)] := acallsT _ _ _ func102 ntmps102 F102.c0.2 (by kernel_rfl)
noncomputable def F103.c0 : CodeT prog 13 [] [] f103 := ⟨_, by with_unfolding_all (conv => lhs; reduce)⟩
theorem F103.calls [GI] : CallsT prog 103 13 F103.c0.1 [] := acallsT _ _ _ func103 ntmps103 F103.c0.2 (by kernel_rfl)
noncomputable def F101.c0 : CodeT prog 15 [] [] f101 := ⟨_, by with_unfolding_all (conv => lhs; reduce)⟩
theorem F101.calls [GI] : CallsT prog 101 15 F101.c0.1 [.tmp 2] := acallsT _ _ _ func101 ntmps101 F101.c0.2 (by kernel_rfl)
noncomputable def F104.c0 : CodeT prog 13 [3] [] f104 := ⟨_, by with_unfolding_all (conv => lhs; reduce)⟩
theorem F104.calls [GI] : CallsT prog 104 13 F104.c0.1 [.tmp 4] := acallsT _ _ _ func104 ntmps104 F104.c0.2 (by kernel_rfl)
noncomputable def F105.c0 : CodeT prog 19 [5] [] f105 := ⟨_, by with_unfolding_all (conv => lhs; reduce)⟩
theorem F105.calls [GI] : CallsT prog 105 19 F105.c0.1 [] := acallsT _ _ _ func105 ntmps105 F105.c0.2 (by kernel_rfl)
noncomputable def F66.c0 : CodeT prog 79 [] [] f66 := ⟨_, by with_unfolding_all (conv => lhs; reduce)⟩
theorem F66.calls [GI] : CallsT prog 66 79 F66.c0.1 [.tmp 4] := acallsT _ _ _ func66 ntmps66 F66.c0.2 (by kernel_rfl)
noncomputable def F67.c0 : CodeT prog 73 [] [] f67 := ⟨_, by with_unfolding_all (conv => lhs; reduce)⟩
theorem F67.calls [GI] : CallsT prog 67 73 F67.c0.1 [.tmp 8] := acallsT _ _ _ func67 ntmps67 F67.c0.2 (by kernel_rfl)
noncomputable def F70.c0 : CodeT prog 25 [] [] f70 := ⟨_, by with_unfolding_all (conv => lhs; reduce)⟩
theorem F70.calls [GI] : CallsT prog 70 25 F70.c0.1 [.tmp 4] := acallsT _ _ _ func70 ntmps70 F70.c0.2 (by kernel_rfl)
noncomputable def F68.c0 : CodeT prog 113 [] [8] f68 := ⟨_, by with_unfolding_all (conv => lhs; reduce)⟩
theorem F68.calls [GI] : CallsT prog 68 113 F68.c0.1 [] := acallsT _ _ _ func68 ntmps68 F68.c0.2 (by kernel_rfl)
noncomputable def F109.c0 : CodeT prog 19 [] [7] f109 := ⟨_, by with_unfolding_all (conv => lhs; reduce)⟩
theorem F109.calls [GI] : CallsT prog 109 19 F109.c0.1 [.cell 6 (some 3)] := acallsT _ _ _ func109 ntmps109 F109.c0.2 (by kernel_rfl)
noncomputable def F107.c0 : CodeT prog 41 [6] [9] f107 := ⟨_, by with_unfolding_all (conv => lhs; reduce)⟩
theorem F107.calls [GI] : CallsT prog 107 41 F107.c0.1 [.tmp 8] := acallsT _ _ _ func107 ntmps107 F107.c0.2 (by kernel_rfl)
noncomputable def F108.c0 : CodeT prog 181 [6] [9,10,11] f108 := ⟨_, by with_unfolding_all (conv => lhs; reduce)⟩
theorem F108.calls [GI] : CallsT prog 108 181 F108.c0.1 [.cell 8 (some 3)] := acallsT _ _ _ func108 ntmps108 F108.c0.2 (by kernel_rfl)
def F133.c17 : RCode := .seq (.seq (.reg [qr 40 (.mv (.t 10)),qr 41 (.fa 4 (.t 6)),qr 42 (.load none (.t 41)),qr 43 (.len 1 (.t 42)),qr 44 (.bin .lss (.t 40) (.t 43)),qr 45 (.mv (.t 44)),qg 46 (.mv (.t 0)) 45 true,qg 47 (.nilc (.t 46)) 45 true,qg 48 (.fa 1 (.t 47)) 45 true,qg 49 (.load none (.t 48)) 45 true,qg 50 (.bin .eql (.t 49) (.c (.int .i64 0))) 45 true,qr 51 (.pick (.t 45) (.t 50) (.c (.bool false)))]) (.cond (.t 51) .skip (.exit 0))) (.seq (.block 1 (.seq (.reg [qr 54 (.fa 7 (.t 9)),qr 55 (.fa 4 (.t 54)),qr 56 (.load none (.t 55)),qr 57 (.mv (.t 10)),qr 58 (.ia 5 (.t 56) (.t 57)),qr 59 (.load (some 5) (.t 58)),qr 11 (.bx (some 5) (.t 59))]) (.seq (.seq (.reg [qr 60 (.fa 4 (.t 11)),qr 61 (.load none (.t 60)),qr 62 (.bin .eql (.t 61) (.c (.int .i64 0)))]) (.cond (.t 62) (.seq (.dreg [qr 63 (.mv (.t 0)),qr 64 (.mv (.t 1)),qr 65 (.fa 4 (.t 6)),qr 66 (.load none (.t 65)),qr 67 (.mv (.t 10)),qr 68 (.ia 5 (.t 66) (.t 67)),qr 69 (.load (some 5) (.t 68)),qr 70 (.fa 1 (.t 11)),qr 71 (.fa 0 (.t 70)),qr 72 (.load none (.t 71)),qe 73 (.call 107 [.t 63,.t 64,.t 69,.t 72])]) (.exit 1)) .skip)) (.seq (.seq (.reg [qr 74 (.fa 4 (.t 6)),qr 75 (.load none (.t 74)),qr 76 (.mv (.t 10)),qr 77 (.ia 5 (.t 75) (.t 76)),qr 78 (.fa 0 (.t 77)),qr 79 (.load none (.t 78)),qr 80 (.bin .lss (.t 79) (.c (.int .i64 4))),qr 81 (.mv (.t 80)),qg 82 (.fa 4 (.t 6)) 81 false,qg 83 (.load none (.t 82)) 81 false,qg 84 (.mv (.t 10)) 81 false,qg 85 (.ia 5 (.t 83) (.t 84)) 81 false,qg 86 (.fa 0 (.t 85)) 81 false,qg 87 (.load none (.t 86)) 81 false,qg 88 (.bin .gtr (.t 87) (.c (.int .i64 6))) 81 false,qr 89 (.pick (.t 81) (.c (.bool true)) (.t 88))]) (.cond (.t 89) (.reg [qr 90 (.mv (.t 0)),qe 91 (.call 103 [.t 90,(.c (.int .i64 14))])]) .skip)) (.seq (.dreg [qr 92 (.mv (.t 0)),qr 93 (.mv (.t 1)),qr 94 (.fa 4 (.t 6)),qr 95 (.load none (.t 94)),qr 96 (.mv (.t 10)),qr 97 (.ia 5 (.t 95) (.t 96)),qr 98 (.load (some 5) (.t 97)),qr 100 (.fa 1 (.t 11)),qr 101 (.load (some 3) (.t 100)),qe 99 (.call 108 [.t 92,.t 93,.t 98,(.c (.bool false))]),qr 102 (.seq true [1,1,2] (.t 99) (.t 101))]) (.cond (.t 102) (.reg [qr 103 (.mv (.t 0)),qe 104 (.call 103 [.t 103,(.c (.int .i64 14))])]) .skip)))))) (.reg [qr 52 (.mv (.t 10)),qr 53 (.bin .add (.t 52) (.c (.int .i64 1))),qr 10 (.mv (.t 53))]))
def F133.c0 : RCode := .seq (.reg [qr 6 (.bx none (.t 2)),qe 8 (.alloc 80 [.int .i64 0,.int .i64 0,.str ⟨#[]⟩])]) (.seq (.reg [qr 12 (.mv (.t 1)),qr 13 (.fa 2 (.t 6)),qr 14 (.load none (.t 13)),qe 15 (.call 102 [.t 12,.t 14]),qr 9 (.bx (some 19) (.t 15))]) (.seq (.seq (.reg [qr 16 (.fa 1 (.t 9)),qr 17 (.load none (.t 16)),qr 18 (.bin .neq (.t 17) (.c (.int .i64 2)))]) (.cond (.t 18) (.seq (.reg [qr 19 (.mv (.t 0)),qe 20 (.call 103 [.t 19,(.c (.int .i64 13))])]) (.seq (.reg [qr 21 (.build [.int .i64 0,.int .i64 0,.str ⟨#[]⟩] []),qu (.store 3 (.t 8) (.t 21))]) .ret)) .skip)) (.seq (.seq (.reg [qr 22 (.fa 7 (.t 9)),qr 23 (.fa 3 (.t 22)),qr 24 (.load none (.t 23)),qr 25 (.bin .gtr (.t 24) (.c (.int .i64 0))),qr 26 (.mv (.t 3)),qr 27 (.beq false (.t 25) (.t 26))]) (.cond (.t 27) (.reg [qr 28 (.mv (.t 0)),qe 29 (.call 103 [.t 28,(.c (.int .i64 14))])]) .skip)) (.seq (.seq (.reg [qr 30 (.fa 7 (.t 9)),qr 31 (.fa 4 (.t 30)),qr 32 (.load none (.t 31)),qr 33 (.len 1 (.t 32)),qr 34 (.fa 4 (.t 6)),qr 35 (.load none (.t 34)),qr 36 (.len 1 (.t 35)),qr 37 (.bin .neq (.t 33) (.t 36))]) (.cond (.t 37) (.reg [qr 38 (.mv (.t 0)),qe 39 (.call 103 [.t 38,(.c (.int .i64 15))])]) .skip)) (.seq (.seq (.reg [qr 10 (.mv (.c (.int .i64 0)))]) (.block 0 (.loop F133.c17))) (.seq (.reg [qr 105 (.fa 7 (.t 9)),qr 106 (.fa 3 (.t 105)),qr 107 (.load none (.t 106)),qr 108 (.build [.int .i64 0,.int .i64 0,.str ⟨#[]⟩] [(0,1,.t 107)]),qu (.store 3 (.t 8) (.t 108))]) .ret))))))
theorem F133.calls [GI] : CallsT prog 133 109 F133.c0 [.cell 8 (some 3)] := acallsT [6] [9,11] 109 func133 ntmps133 (by kernel_rfl) (by kernel_rfl)
noncomputable def F69.c0 : CodeT prog 148 [] [9,11] f69 := ⟨_, by with_unfolding_all (conv => lhs; reduce)⟩
theorem F69.calls [GI] : CallsT prog 69 148 F69.c0.1 [] := acallsT _ _ _ func69 ntmps69 F69.c0.2 (by kernel_rfl)
noncomputable def F42.c0 : CodeT prog 45 [1] [] f42 := ⟨_, by with_unfolding_all (conv => lhs; reduce)⟩
theorem F42.calls [GI] : CallsT prog 42 45 F42.c0.1 [.tmp 2,.tmp 3] := acallsT _ _ _ func42 ntmps42 F42.c0.2 (by kernel_rfl)
end Pg

namespace Pg
open Go
set_option linter.all false
structure Th where
 name : ByteArray
 kind : Int
 rcd : Rec
 r : Routine
 t : Typ
def noRec : Rec := ⟨[], [], noBytes, [], []⟩
def noRoutine : Routine := ⟨[], [], noBytes, 0, [], [], [], [], []⟩
def noTh : Th := ⟨noBytes, 0, noRec, noRoutine, noTyp⟩
def thRec (r : Rec) : Th := ⟨r.name, 1, r, noRoutine, noTyp⟩
def thVar (name : ByteArray) (t : Typ) : Th := ⟨name, 3, noRec, noRoutine, t⟩
def thRoutine (r : Routine) : Th := ⟨r.name, 2, noRec, r, noTyp⟩
def rFind (env : List Th) (name : ByteArray) : Th := (env.find? fun x => decide (x.name = name)).getD noTh
def rTyp (env : List Th) (s : CS) (t : Typ) : CS := if t.kind = 4 ∧ (rFind env t.name).kind ≠ 1 then s.fail 13 else s
def rNew (env : List Th) (s : CS) (name : ByteArray) : CS := if (rFind env name).kind ≠ 0 then s.fail 12 else s
def rRecs : List Th → CS → List Rec → List Th × CS
 | env, s, [] => (env, s)
 | env, s, r :: l =>
  if s.bad = 0 then
   let s2 := rNew env s.step r.name
   rRecs (env ++ [thRec r]) (if twice [] r.fields then s2.fail 12 else s2) l
  else (env, s)
def rVars : List Th → CS → List Var → List Routine → List Th × CS
 | env, s, [], _ => (env, s)
 | env, s, v :: r, behind =>
  if s.bad = 0 then
   let s1 := rNew env s.step v.name
   let s2 := if behind.any (fun x => decide (x.name = v.name)) then s1.fail 12 else s1
   rVars (env ++ [thVar v.name v.t]) (rTyp env s2 v.t) r behind
  else (env, s)
def rVis (env : List Th) (l : List Routine) : List Th := env ++ l.map thRoutine
def rParams : List Th → CS → List Param → List Th × CS
 | env, s, [] => (env, s)
 | env, s, v :: r => rParams (env ++ [thVar v.name v.t]) (rTyp env (rNew env s v.name) v.t) r
def rVariable (env : List Th) (s : CS) (name : ByteArray) : Typ × CS :=
 if (rFind env name).kind = 3 then ((rFind env name).t, s) else (noTyp, s.fail 13)
def rKind (kind : Int) (p : Typ × CS) : Int × CS :=
 (p.1.kind, if 0 < p.1.size ∨ p.1.kind < 1 ∨ 3 < p.1.kind ∨ (0 < kind ∧ p.1.kind ≠ kind) then p.2.fail 14 else p.2)
def rField (env : List Th) (s : CS) (t : Typ) (name : ByteArray) : Typ × CS :=
 if t.kind = 4 then match (rFind env t.name).rcd.fields.find? (fun f => decide (f.name = name)) with
  | some f => (kindTyp f.kind, s)
  | none => (noTyp, s.fail 13)
 else (noTyp, s.fail 14)
mutual
def rExpr (env : List Th) (s : CS) : Expr → Bool → Typ × CS
 | ⟨op, n, name, field, l⟩, stmt =>
  if s.bad = 0 then
   if op = 1 ∨ op = 2 ∨ op = 3 then (kindTyp op, s)
   else if op = 4 then rVariable env s name
   else if op = 5 then
    let p := rVariable env s name
    (kindTyp p.1.kind, rHead env (if p.1.size = 0 then p.2.fail 14 else p.2) l 1)
   else if op = 6 then
    let p := rVariable env s name
    rField env p.2 p.1 field
   else if op = 7 then
    let x := rFind env name
    if x.kind = 2 then
     let s1 := if decide (0 < x.r.result) = stmt then s.fail 14 else s
     let s2 := if x.r.params.length = l.length then s1 else s1.fail 15
     (kindTyp x.r.result, rArgs env s2 x.r.params l)
    else (noTyp, s.fail 13)
   else if op = 9 ∨ op = 13 ∨ op = 14 ∨ op = 17 ∨ op = 18 then (kindTyp 2, rPair env s l 2)
   else if 19 ≤ op ∧ op ≤ 24 then (kindTyp 2, rTwo env s (decide (20 < op)) l)
   else (kindTyp 1, rPair env s l 1)
  else (noTyp, s)
def rHead (env : List Th) (s : CS) : List Expr → Int → CS
 | [], _ => s
 | x :: _, k => (rKind k (rExpr env s x false)).2
def rPair (env : List Th) (s : CS) : List Expr → Int → CS
 | [], _ => s
 | x :: r, k => rPair env (rKind k (rExpr env s x false)).2 r k
def rTwo (env : List Th) (s : CS) (o : Bool) : List Expr → CS
 | [] => s
 | x :: r =>
  let p := rKind 0 (rExpr env s x false)
  rHead env (if o = true ∧ p.1 = 2 then p.2.fail 14 else p.2) r p.1
def rArgs (env : List Th) (s : CS) : List Param → List Expr → CS
 | p :: ps, x :: r =>
  if s.bad = 0 then
   if p.mode = 0 then rArgs env (rKind p.t.kind (rExpr env s x false)).2 ps r
   else
    let s1 := if x.op < 4 ∨ 6 < x.op then s.fail 14 else s
    let q := rExpr env s1 x false
    rArgs env (if q.1 = p.t then q.2 else q.2.fail 14) ps r
  else s
 | _, _ => s
end
theorem rExpr_eq (env : List Th) (s : CS) (x : Expr) (stmt : Bool) : rExpr env s x stmt =
  if s.bad = 0 then
   if x.op = 1 ∨ x.op = 2 ∨ x.op = 3 then (kindTyp x.op, s)
   else if x.op = 4 then rVariable env s x.name
   else if x.op = 5 then
    let p := rVariable env s x.name
    (kindTyp p.1.kind, rHead env (if p.1.size = 0 then p.2.fail 14 else p.2) x.l 1)
   else if x.op = 6 then
    let p := rVariable env s x.name
    rField env p.2 p.1 x.field
   else if x.op = 7 then
    let y := rFind env x.name
    if y.kind = 2 then
     let s1 := if decide (0 < y.r.result) = stmt then s.fail 14 else s
     let s2 := if y.r.params.length = x.l.length then s1 else s1.fail 15
     (kindTyp y.r.result, rArgs env s2 y.r.params x.l)
    else (noTyp, s.fail 13)
   else if x.op = 9 ∨ x.op = 13 ∨ x.op = 14 ∨ x.op = 17 ∨ x.op = 18 then (kindTyp 2, rPair env s x.l 2)
   else if 19 ≤ x.op ∧ x.op ≤ 24 then (kindTyp 2, rTwo env s (decide (20 < x.op)) x.l)
   else (kindTyp 1, rPair env s x.l 1)
  else (noTyp, s) := by
 obtain ⟨op, n, name, field, l⟩ := x; simp only [rExpr]
def rCall (env : List Th) (s : CS) : List Expr → CS
 | [] => s
 | x :: _ => (rExpr env s x true).2
def rStmt (env : List Th) (s : CS) (res : Int) (x : Stmt) : CS :=
 if x.op = 1 then
  let p := rKind 0 (rExpr env s x.p false)
  rHead env p.2 x.e p.1
 else if x.op = 2 then rCall env s x.e
 else if x.op = 3 ∨ x.op = 4 ∨ x.op = 5 then rHead env s x.e 2
 else if x.op = 6 then
  let p := rVariable env s x.name
  rHead env (rHead env (if p.1.kind ≠ 1 ∨ p.1.size ≠ 0 then p.2.fail 14 else p.2) x.e 1) x.e.tail 1
 else if x.op = 7 then
  let p := rKind 0 (rExpr env s x.p false)
  if p.1 = 2 then p.2.fail 14 else p.2
 else if x.op = 8 then rHead env s x.e 0
 else if x.op = 9 then rHead env (if decide (0 < res) = decide (0 < x.e.length) then s else s.fail 16) x.e res
 else s
mutual
def rDeep (env : List Th) (s : CS) (res : Int) : Stmt → CS
 | ⟨before, trail, op, name, p, e, down, more, body, els, end1, end2⟩ =>
  rStmts env (rStmts env (rStmt env s res ⟨before, trail, op, name, p, e, down, more, body, els, end1, end2⟩) res body) res els
def rStmts (env : List Th) (s : CS) (res : Int) : List Stmt → CS
 | [] => s
 | x :: r => if s.bad = 0 then rStmts env (rDeep env s.step res x) res r else s
end
theorem rDeep_eq (env : List Th) (s : CS) (res : Int) (x : Stmt) : rDeep env s res x = rStmts env (rStmts env (rStmt env s res x) res x.body) res x.els := by
 obtain ⟨before, trail, op, name, p, e, down, more, body, els, end1, end2⟩ := x; rfl
mutual
def rRoutine (env all : List Th) (s : CS) : Routine → CS
 | ⟨before, trail, name, result, params, vars, inner, body, endd⟩ =>
  let p := rParams all (rNew env s name) params
  let s1 := if 0 < result ∧ endL body = false then p.2.fail 16 else p.2
  let q := rVars p.1 s1 vars inner
  let s2 := rRoutines q.1 (rVis q.1 inner) q.2 inner
  rStmts (rVis q.1 inner) s2 result body
def rRoutines (env all : List Th) (s : CS) : List Routine → CS
 | [] => s
 | r :: l => if s.bad = 0 then rRoutines env all (rRoutine env all s.step r) l else s
end
theorem rRoutine_eq (env all : List Th) (s : CS) (x : Routine) : rRoutine env all s x =
  let p := rParams all (rNew env s x.name) x.params
  let s1 := if 0 < x.result ∧ endL x.body = false then p.2.fail 16 else p.2
  let q := rVars p.1 s1 x.vars x.inner
  let s2 := rRoutines q.1 (rVis q.1 x.inner) q.2 x.inner
  rStmts (rVis q.1 x.inner) s2 x.result x.body := by
 obtain ⟨before, trail, name, result, params, vars, inner, body, endd⟩ := x; rfl
def rAll (p : Prg) : CS :=
 let a := rRecs [] ⟨-1, 0⟩ p.recs
 let b := rVars a.1 a.2 p.vars p.routines
 let c := rRoutines b.1 (rVis b.1 p.routines) b.2 p.routines
 rStmts (rVis b.1 p.routines) c 0 p.body
def rCheck (p : Prg) : Int × Int := if (rAll p).bad = 0 then (0, 0) else ((rAll p).item, (rAll p).bad)
end Pg

namespace Pg
open Go Go.Proofs.Tryz
set_option linter.all false
set_option maxHeartbeats 4000000
set_option maxRecDepth 4000
def eTh (x : Th) : List AV := [.str x.name, .int .i64 x.kind, eTexts x.rcd.before, eTexts x.rcd.trail, .str x.rcd.name, .sl (x.rcd.fields.map eFld) false, eTexts x.rcd.endd, eTexts x.r.before, eTexts x.r.trail, .str x.r.name, .int .i64 x.r.result, .sl (x.r.params.map eParam) false, .sl (x.r.vars.map eVar) false, .sl (x.r.inner.map eRoutine) false, .sl (x.r.body.map eStmt) false, eTexts x.r.endd, .int .i64 x.t.kind, .int .i64 x.t.size, .str x.t.name]
theorem eTh_len (x : Th) : (eTh x).length = 19 := rfl
abbrev eEnv (l : List Th) : List (List AV) := l.map eTh
theorem eEnv_len (l : List Th) : ∀ e ∈ eEnv l, e.length = 19 := by
 intro e he; obtain ⟨s, _, rfl⟩ := List.mem_map.1 he; rfl
theorem eTh_take (x : Th) : List.take 19 (eTh x) = eTh x := rfl
abbrev zTh : List AV := [.str ⟨#[]⟩, .int .i64 0, .sl [] true, .sl [] true, .str ⟨#[]⟩, .sl [] true, .sl [] true, .sl [] true, .sl [] true, .str ⟨#[]⟩, .int .i64 0, .sl [] true, .sl [] true, .sl [] true, .sl [] true, .sl [] true, .int .i64 0, .int .i64 0, .str ⟨#[]⟩]
theorem zTh_le : AVle (.agg zTh) (.agg (eTh noTh)) := by
 refine AVle.agg ?_
 repeat' (first | exact AVles.nil | refine AVles.cons ?_ ?_)
 all_goals first | exact .refl _ | exact AVle.sl _ _
theorem find_spec12 [GI] (h : AHeap) (env : List Th) (hl : few env) (full : Bool) (name : ByteArray) : ACalls prog 102 [.sl (eEnv env) full, .str name] h (fun v g => v = .agg (eTh (rFind env name)) ∧ g = h) := by
 refine F102.calls (by simp) ?_
 delta F102.c0
 simp -implicitDefEqProofs only [go_sem,seval]
 refine afreshT_intro fun b hb => ?_
 simp -implicitDefEqProofs only [go_sem,seval]
 generalize hB : AHeap.upd h b _ = B
 have hBb : B b = some (.blk zTh 19 182) := by rw [← hB, upd_same]
 refine lT_list env (fun pre post e g => rFind env name = rFind post name ∧ g = B ∧ e = [(0, .sl (eEnv env) full), (1, .str name), (4, .ptr (some ⟨b, 0, none⟩)), (5, .int .i64 pre.length)]) (WeakE.env ?_) ⟨rfl, rfl, rfl⟩ ?_ ?_
 ·simp -implicitDefEqProofs only [go_sem,seval]
 ·rintro pre x post e g hp ⟨hk, rfl, rfl⟩
  have h0 : (eTh x)[0]? = some (.str x.name) := rfl
  by_cases he : x.name = name
  ·simp -implicitDefEqProofs only [go_sem,seval, lt_at hp, aia_sl (map_at hp) (eTh_len x), h0, he, eTh_len, eTh_take, hBb]
   refine lessQ.same ?_
   rw [splice_same (by rfl), ← hB, upd_upd]
   simp -implicitDefEqProofs only [go_sem,seval, eTh_len, eTh_take]
   refine .forget (AHeap.le_upd hb) ⟨?_, rfl⟩
   rw [hk]; simp [rFind, he]
  ·simp -implicitDefEqProofs only [go_sem,seval, lt_at hp, aia_sl (map_at hp) (eTh_len x), h0, he]
   refine ⟨_, _, WeakE.env ?_, ?_, rfl, rfl⟩
   ·simp -implicitDefEqProofs only [go_sem,seval, step_at hl hp]
   ·rw [hk]; simp [rFind, he]
 ·rintro e g ⟨hk, rfl, rfl⟩
  simp -implicitDefEqProofs only [go_sem,seval, lt_end]
  refine lessQ.same ?_
  simp -implicitDefEqProofs only [go_sem,seval, hBb]
  rw [← hB, upd_upd]
  refine EndW.less zTh_le (AHeap.le_upd hb) ⟨?_, rfl⟩
  rw [hk]; rfl
theorem with_spec [GI] (h : AHeap) (env : List Th) (hl : env.length ≤ 1000000) (full : Bool) (x : Th) : ACalls prog 104 [.sl (eEnv env) full, .agg (eTh x)] h (fun v g => v = .sl (eEnv (env ++ [x])) false ∧ g = h) := by
 refine F104.calls (by simp) ?_
 delta F104.c0
 simp -implicitDefEqProofs only [go_sem,seval]
 refine ⟨eEnv_len env, (GL.nil (ty := 182) (size := 19) h).append (new := eEnv env) (by simp) rfl (eEnv_len env) (by unfold roomFor; simp; omega) fun v g G => ?_⟩
 simp -implicitDefEqProofs only [go_sem,seval, eTh_take, eTh_len, splice_same]
 refine G.append1 (xs := eTh x) (bytes := 360) rfl (by unfold roomFor; simp; omega) fun v g G => ?_
 simp -implicitDefEqProofs only [go_sem,seval]
 exact G.endW ⟨by simp, rfl⟩
def lkBlk (s : CS) : AObj := .blk [.int .i64 s.item, .int .i64 s.bad] 2 127
theorem fail_spec12 [GI] {h : AHeap} {c : Nat} {s : CS} (hc : h c = some (lkBlk s)) (e : Int) : ACalls prog 103 [.ptr (some ⟨c, 0, none⟩), .int .i64 e] h (fun v g => v = .tuple [] ∧ g = h.upd c (lkBlk (s.fail e))) := by
 unfold lkBlk at hc
 refine F103.calls (by simp) ?_
 delta F103.c0
 simp -implicitDefEqProofs only [go_sem,seval, hc]
 by_cases hb : s.bad = 0
 ·simp -implicitDefEqProofs only [go_sem,seval, hb, hc]
  exact .same ⟨rfl, by simp [CS.fail, hb, lkBlk]⟩
 ·simp -implicitDefEqProofs only [go_sem,seval, hb]
  refine .same ⟨rfl, ?_⟩
  rw [upd_self (by rw [hc]; simp [CS.fail, hb, lkBlk])]
theorem next_spec12 [GI] {h : AHeap} {c : Nat} {s : CS} (hc : h c = some (lkBlk s)) : ACalls prog 101 [.ptr (some ⟨c, 0, none⟩)] h (fun v g => v = .bool (decide (s.bad = 0)) ∧ g = h.upd c (lkBlk (if s.bad = 0 then s.step else s))) := by
 unfold lkBlk at hc
 refine F101.calls (by simp) ?_
 delta F101.c0
 simp -implicitDefEqProofs only [go_sem,seval, hc]
 by_cases hb : s.bad = 0
 ·simp -implicitDefEqProofs only [go_sem,seval, hb, hc]
  exact .same ⟨rfl, by simp [CS.step, hb, lkBlk]⟩
 ·simp -implicitDefEqProofs only [go_sem,seval, hb]
  refine .same ⟨rfl, ?_⟩
  rw [upd_self (by rw [hc]; simp [hb, lkBlk])]
theorem typ_spec12 [GI] {h : AHeap} {c : Nat} {s : CS} (hc : h c = some (lkBlk s)) (env : List Th) (hl : few env) (full : Bool) (t : Typ) : ACalls prog 105 [.ptr (some ⟨c, 0, none⟩), .sl (eEnv env) full, .agg (eTyp t)] h (fun v g => v = .tuple [] ∧ g = h.upd c (lkBlk (rTyp env s t))) := by
 refine F105.calls (by simp) ?_
 delta F105.c0
 have e0 : (eTyp t)[0]? = some (.int .i64 t.kind) := rfl
 have e2 : (eTyp t)[2]? = some (.str t.name) := rfl
 have f1 : (eTh (rFind env t.name))[1]? = some (.int .i64 (rFind env t.name).kind) := rfl
 by_cases ht : t.kind = 4
 ·simp -implicitDefEqProofs only [go_sem,seval, e0, e2, ht]
  refine tcE (find_spec12 h env hl full t.name) ?_
  simp -implicitDefEqProofs only [go_sem,seval, f1]
  by_cases hk : (rFind env t.name).kind = 1
  ·simp -implicitDefEqProofs only [go_sem,seval, hk]
   refine .same ⟨rfl, ?_⟩
   rw [upd_self (by rw [hc]; simp [rTyp, hk])]
  ·simp -implicitDefEqProofs only [go_sem,seval, hk]
   refine tcE (fail_spec12 hc 13) ?_
   simp -implicitDefEqProofs only [go_sem,seval]
   exact .same ⟨rfl, by simp [rTyp, hk, ht]⟩
 ·simp -implicitDefEqProofs only [go_sem,seval, e0, ht]
  refine .same ⟨rfl, ?_⟩
  rw [upd_self (by rw [hc]; simp [rTyp, ht])]
theorem variable_spec12 [GI] {h : AHeap} {c : Nat} {s : CS} (hc : h c = some (lkBlk s)) (env : List Th) (hl : few env) (full : Bool) (name : ByteArray) : ACalls prog 109 [.ptr (some ⟨c, 0, none⟩), .sl (eEnv env) full, .str name] h (fun v g => v = .agg (eTyp (rVariable env s name).1) ∧ g = h.upd c (lkBlk (rVariable env s name).2)) := by
 refine F109.calls (by simp) ?_
 delta F109.c0
 simp -implicitDefEqProofs only [go_sem,seval]
 refine afreshT_intro fun b hb => ?_
 have hcb := none_ne hb hc
 simp -implicitDefEqProofs only [go_sem,seval]
 refine tcE (find_spec12 _ env hl full name) ?_
 have f1 : (eTh (rFind env name))[1]? = some (.int .i64 (rFind env name).kind) := rfl
 have f2 : ((eTh (rFind env name)).drop 16).take 3 = eTyp (rFind env name).t := rfl
 by_cases hk : (rFind env name).kind = 3
 ·simp -implicitDefEqProofs only [go_sem,seval, f1, f2, hk, eTh_len, eTh_take, eTyp_len]
  rw [splice_same (by rfl), upd_upd]
  refine .forget (AHeap.le_upd hb) ⟨?_, ?_⟩
  ·simp [rVariable, hk]; rfl
  ·rw [upd_self (by rw [hc]; simp [rVariable, hk])]
 ·simp -implicitDefEqProofs only [go_sem,seval, f1, hk, eTh_len, eTh_take]
  refine tcE (fail_spec12 (s := s) (by rw [upd_ne _ _ _ hcb]; exact hc) 13) ?_
  simp -implicitDefEqProofs only [go_sem,seval, upd_ne _ _ _ hcb.symm]
  refine .forget (le_side hb hc _ _) ⟨?_, ?_⟩
  ·simp [rVariable, hk]; rfl
  ·simp [rVariable, hk]
end Pg
