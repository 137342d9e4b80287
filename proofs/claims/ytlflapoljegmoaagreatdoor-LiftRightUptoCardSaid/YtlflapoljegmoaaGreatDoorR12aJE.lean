import Derived.Test.YtlflapoljegmoaaGreatDoorCpXE
import Derived.Test.YtlflapoljegmoaaGreatDoorK4E
import Derived.Test.YtlflapoljegmoaaGreatDoorProg
import Derived.KernelRfl
import Derived.Test.YtlflapoljegmoaaGreatDoorCkWJE
import Derived.Test.YtlflapoljegmoaaGreatDoorTreeSE
import Derived.Test.YtlflapoljegmoaaGreatDoorHpE
import Derived.Test.YtlflapoljegmoaaGreatDoorWeighJE
namespace Pg
open Go
set_option linter.all false
theorem capL_sub : ∀ (N : Nat) (l : List Routine), Routines.sz l < N → ∀ (k : Nat) (whole : List Routine) (around : Int) (path : ByteArray) (i : Nat) (n : CN), (capL k whole around path l)[i]? = some n →
  i + 1 + rcnts n.r.inner ≤ rcnts l ∧ n.inner = capMap (k + i + 1) [] n.r.inner ∧ ∀ t, t < rcnts n.r.inner → (capL k whole around path l)[i + 1 + t]? = (capL (k + i + 1) n.r.inner ((k + i : Nat) : Int) (n.path ++ dollar) n.r.inner)[t]?
 | 0, l, h, _, _, _, _, _, _, _ => by omega
 | N + 1, [], h, k, whole, around, path, i, n, hn => by simp [capL] at hn
 | N + 1, x :: l, h, k, whole, around, path, i, n, hn => by
  have hz := Routine.sz_eq x
  simp only [Routines.sz] at h
  have hrc := rcnt_eq x
  simp only [capL] at hn ⊢
  rw [List.getElem?_append] at hn
  have hlen := capR_len x k whole around path
  simp only [rcnts]
  split at hn
  ·rename_i hlt
   rw [hlen] at hlt
   have left : ∀ j, j < rcnt x → (capR k whole around path x ++ capL (k + rcnt x) whole around path l)[j]? = (capR k whole around path x)[j]? := fun j hj => by
    rw [List.getElem?_append, if_pos (by rw [hlen]; exact hj)]
   rw [capR_eq] at hn left ⊢
   cases i with
   | zero =>
    simp only [List.getElem?_cons_zero, Option.some.injEq] at hn
    subst hn
    simp only [Nat.zero_add, Nat.add_zero]
    refine ⟨by omega, trivial, fun t ht => ?_⟩
    rw [Nat.add_comm 1 t, left _ (by omega), List.getElem?_cons_succ]
   | succ i =>
    simp only [List.getElem?_cons_succ] at hn
    obtain ⟨h1, h2, h3⟩ := capL_sub N x.inner (by omega) (k + 1) _ k _ i n hn
    refine ⟨by omega, by rw [h2]; congr 1; omega, fun t ht => ?_⟩
    have e1 : k + (i + 1) + 1 = k + 1 + i + 1 := by omega
    have e2 : k + (i + 1) = k + 1 + i := by omega
    rw [left _ (by omega), show i + 1 + 1 + t = (i + 1 + t) + 1 by omega, List.getElem?_cons_succ, h3 t ht, e1, e2]
  ·rename_i hge
   rw [hlen] at hge hn
   obtain ⟨h1, h2, h3⟩ := capL_sub N l (by omega) (k + rcnt x) whole around path (i - rcnt x) n hn
   have e : k + rcnt x + (i - rcnt x) = k + i := by omega
   rw [e] at h2 h3
   refine ⟨by omega, h2, fun t ht => ?_⟩
   rw [List.getElem?_append, if_neg (by rw [hlen]; omega), hlen, ← h3 t ht]
   congr 1
   omega
theorem capMap_at (whole : List Routine) (around : Int) (path name : ByteArray) : ∀ (l : List Routine) (k : Nat) (m : List (ByteArray × Nat)) (v : Nat), lookN name (capMap k m l) = some v → lookN name m = some v ∨ (k ≤ v ∧ ∃ r ∈ l, r.name = name ∧ ∃ n, (capL k whole around path l)[v - k]? = some n ∧ n.r = r ∧ n.around = around ∧ n.path = path ++ name)
 | [], k, m, v, h => .inl h
 | x :: l, k, m, v, h => by
  simp only [capMap] at h
  have hr : 1 ≤ rcnt x := by rw [rcnt_eq]; omega
  have hlen := capR_len x k whole around path
  rcases capMap_at whole around path name l _ _ v h with h | ⟨h1, r, hr', hn, n, h2, h3, h4, h5⟩
  ·rw [lookN_mapIn] at h
   split at h
   ·rename_i hxn
    simp only [Option.some.injEq] at h
    subst h
    refine .inr ⟨Nat.le_refl _, x, by simp, hxn.symm, ⟨path ++ x.name, around, whole, x, capMap (k + 1) [] x.inner⟩, ?_, rfl, rfl, by rw [hxn]⟩
    simp only [capL, capR_eq, Nat.sub_self, List.cons_append, List.getElem?_cons_zero]
   ·exact .inl h
  ·refine .inr ⟨by omega, r, by simp [hr'], hn, n, ?_, h3, h4, h5⟩
   simp only [capL]
   rw [List.getElem?_append, if_neg (by rw [hlen]; omega), hlen, ← h2]
   congr 1
   omega
inductive Up (ns : List CN) : Nat → Nat → Prop
 | base {j i : Nat} {n : CN} (h : ns[j]? = some n) (ha : n.around = (i : Int)) : Up ns j i
 | step {j k i : Nat} {n : CN} (h : ns[j]? = some n) (ha : n.around = (k : Int)) (u : Up ns k i) : Up ns j i
theorem Up.trans {ns : List CN} {a b c : Nat} (u : Up ns a b) (v : Up ns b c) : Up ns a c := by
 induction u with
 | base h ha => exact .step h ha v
 | step h ha _ ih => exact .step h ha (ih v)
theorem nameAt_up {ns : List CN} {name : ByteArray} : ∀ {f : Nat} {i : Int} {x : Nat × Nat}, nameAt ns name f i = some x → ∃ a : Nat, i = (a : Int) ∧ (x.1 = a ∨ Up ns a x.1)
 | 0, i, x, h => by simp [nameAt] at h
 | f + 1, i, x, h => by
  simp only [nameAt] at h
  split at h
  ·cases h
  ·rename_i hi
   refine ⟨i.toNat, by omega, ?_⟩
   cases hn : ns[i.toNat]? with
   | none => rw [hn] at h; cases h
   | some n =>
    rw [hn] at h
    simp only at h
    cases hk : (locs n.r).findIdx? (fun p => decide (p.name = name)) with
    | some k =>
     rw [hk] at h
     simp only [Option.some.injEq] at h
     subst h
     exact .inl rfl
    | none =>
     rw [hk] at h
     obtain ⟨a, ha, h'⟩ := nameAt_up h
     refine .inr ?_
     rcases h' with h' | h'
     ·rw [h']; exact .base hn ha
     ·exact .step hn ha h'
abbrev nodesOf (p : List Routine) : List CN := capL 0 p (-1) noBytes p
theorem routAt_up {p : List Routine} {name : ByteArray} : ∀ {f : Nat} {i : Int} {v : Nat}, routAt (nodesOf p) (capMap 0 [] p) name f i = some v → ∃ m, (nodesOf p)[v]? = some m ∧ m.r.name = name ∧ (m.around = -1 ∨ ∃ a : Nat, 0 ≤ i ∧ m.around = (a : Int) ∧ ((a : Int) = i ∨ ∃ b : Nat, i = (b : Int) ∧ Up (nodesOf p) b a)) := by
 have top : ∀ {v : Nat}, lookN name (capMap 0 [] p) = some v → ∃ m, (nodesOf p)[v]? = some m ∧ m.r.name = name ∧ m.around = -1 := fun {v} h => by
  rcases capMap_at p (-1) noBytes name p 0 [] v h with h | ⟨_, r, _, hn, n, h2, h3, h4, _⟩
  ·simp [lookN] at h
  ·exact ⟨n, by simpa using h2, by rw [h3]; exact hn, h4⟩
 intro f
 induction f with
 | zero =>
  intro i v h
  obtain ⟨m, h1, h2, h3⟩ := top h
  exact ⟨m, h1, h2, .inl h3⟩
 | succ f ih =>
  intro i v h
  simp only [routAt] at h
  split at h
  ·obtain ⟨m, h1, h2, h3⟩ := top h
   exact ⟨m, h1, h2, .inl h3⟩
  ·rename_i hi
   cases hn : (nodesOf p)[i.toNat]? with
   | none => rw [hn] at h; cases h
   | some n =>
    rw [hn] at h
    simp only at h
    cases hk : lookN name n.inner with
    | some k =>
     rw [hk] at h
     simp only [Option.some.injEq] at h
     subst h
     obtain ⟨h1, h2, h3⟩ := capL_sub _ p (Nat.lt_succ_self _) 0 p (-1) noBytes i.toNat n hn
     rw [h2] at hk
     simp only [Nat.zero_add] at hk h3
     rcases capMap_at n.r.inner (i.toNat : Int) (n.path ++ dollar) name n.r.inner _ [] k hk with h | ⟨h4, r, hr, hrn, m, h5, h6, h7, _⟩
     ·simp [lookN] at h
     ·have hlt : k - (i.toNat + 1) < rcnts n.r.inner := by
       rw [← capL_len n.r.inner (i.toNat + 1) n.r.inner (i.toNat : Int) (n.path ++ dollar)]
       rcases Nat.lt_or_ge (k - (i.toNat + 1)) (capL (i.toNat + 1) n.r.inner (i.toNat : Int) (n.path ++ dollar) n.r.inner).length with h | h
       ·exact h
       ·rw [List.getElem?_eq_none h] at h5; cases h5
      have h8 := h3 _ hlt
      rw [h5, show i.toNat + 1 + (k - (i.toNat + 1)) = k by omega] at h8
      exact ⟨m, h8, by rw [h6]; exact hrn, .inr ⟨i.toNat, by omega, h7, .inl (by omega)⟩⟩
    | none =>
     rw [hk] at h
     obtain ⟨m, h1, h2, h3⟩ := ih h
     refine ⟨m, h1, h2, ?_⟩
     rcases h3 with h3 | ⟨a, ha0, ha, h3⟩
     ·exact .inl h3
     ·refine .inr ⟨a, by omega, ha, .inr ⟨i.toNat, by omega, ?_⟩⟩
      rcases h3 with h3 | ⟨b, hb, h3⟩
      ·exact .base hn h3.symm
      ·exact .step hn hb h3
theorem caps_up {p : List Routine} {j : Nat} {x : Nat × Nat} (c : Caps (gra p) j x) : Up (nodesOf p) j x.1 := by
 induction c with
 | @use j x h =>
  unfold Gra.hs0 at h
  cases hn : (gra p).ns[j]? with
  | none => rw [hn] at h; simp at h
  | some n =>
   rw [hn] at h
   rcases hasAt_in h with h | ⟨name, _, h, hne⟩
   ·simp at h
   ·obtain ⟨a, ha, h'⟩ := nameAt_up h
    have : a = j := by omega
    subst this
    rcases h' with h' | h'
    ·exact absurd h' hne
    ·exact h'
 | @call j k x hk hc hx ih =>
  unfold Gra.cs0 at hk
  cases hn : (gra p).ns[j]? with
  | none => rw [hn] at hk; simp at hk
  | some n =>
   rw [hn] at hk
   obtain ⟨name, _, hr⟩ := List.mem_filterMap.1 hk
   obtain ⟨m, h1, _, h2⟩ := routAt_up hr
   have split : ∃ i : Nat, m.around = (i : Int) ∧ (x.1 = i ∨ Up (nodesOf p) i x.1) := by
    cases ih with
    | base h ha => rw [h1] at h; cases h; exact ⟨_, ha, .inl rfl⟩
    | step h ha u => rw [h1] at h; cases h; exact ⟨_, ha, .inr u⟩
   obtain ⟨i, hi, hs⟩ := split
   rcases h2 with h2 | ⟨a, _, ha, h2⟩
   ·omega
   ·have : a = i := by omega
    subst this
    rcases h2 with h2 | ⟨b, hb, h2⟩
    ·have : a = j := by omega
     subst this
     rcases hs with hs | hs
     ·exact absurd hs hx
     ·exact hs
    ·have : b = j := by omega
     subst this
     rcases hs with hs | hs
     ·rw [hs]; exact h2
     ·exact h2.trans hs
end Pg

namespace Pg
open Go Go.Proofs.Tryz
set_option maxRecDepth 100000
set_option maxHeartbeats 4000000
noncomputable def F102.c0 : CodeT prog 24 [] [] f102 := ⟨_, by with_unfolding_all (conv => lhs; reduce)⟩
theorem F102.calls [GI] : CallsT prog 102 24 F102.c0.1 [.cell 4 (some 19)] := acallsT _ _ _ func102 ntmps102 F102.c0.2 (by kernel_rfl)
noncomputable def F103.c0 : CodeT prog 13 [] [] f103 := ⟨_, by with_unfolding_all (conv => lhs; reduce)⟩
theorem F103.calls [GI] : CallsT prog 103 13 F103.c0.1 [] := acallsT _ _ _ func103 ntmps103 F103.c0.2 (by kernel_rfl)
noncomputable def F101.c0 : CodeT prog 15 [] [] f101 := ⟨_, by with_unfolding_all (conv => lhs; reduce)⟩
theorem F101.calls [GI] : CallsT prog 101 15 F101.c0.1 [.tmp 2] := acallsT _ _ _ func101 ntmps101 F101.c0.2 (by kernel_rfl)
noncomputable def F104.c0 : CodeT prog 13 [3] [] f104 := ⟨_, by with_unfolding_all (conv => lhs; reduce)⟩
theorem F104.calls [GI] : CallsT prog 104 13 F104.c0.1 [.tmp 4] := acallsT _ _ _ func104 ntmps104 F104.c0.2 (by kernel_rfl)
noncomputable def F105.c0 : CodeT prog 19 [5] [] f105 := ⟨_, by with_unfolding_all (conv => lhs; reduce)⟩
theorem F105.calls [GI] : CallsT prog 105 19 F105.c0.1 [] := acallsT _ _ _ func105 ntmps105 F105.c0.2 (by kernel_rfl)
noncomputable def F66.c0 : CodeT prog 79 [] [] f66 := ⟨_, by with_unfolding_all (conv => lhs; reduce)⟩
theorem F66.calls [GI] : CallsT prog 66 79 F66.c0.1 [.tmp 4] := acallsT _ _ _ func66 ntmps66 F66.c0.2 (by kernel_rfl)
noncomputable def F67.c0 : CodeT prog 73 [] [] f67 := ⟨_, by with_unfolding_all (conv => lhs; reduce)⟩
theorem F67.calls [GI] : CallsT prog 67 73 F67.c0.1 [.tmp 8] := acallsT _ _ _ func67 ntmps67 F67.c0.2 (by kernel_rfl)
noncomputable def F70.c0 : CodeT prog 25 [] [] f70 := ⟨_, by with_unfolding_all (conv => lhs; reduce)⟩
theorem F70.calls [GI] : CallsT prog 70 25 F70.c0.1 [.tmp 4] := acallsT _ _ _ func70 ntmps70 F70.c0.2 (by kernel_rfl)
noncomputable def F68.c0 : CodeT prog 113 [] [8] f68 := ⟨_, by with_unfolding_all (conv => lhs; reduce)⟩
theorem F68.calls [GI] : CallsT prog 68 113 F68.c0.1 [] := acallsT _ _ _ func68 ntmps68 F68.c0.2 (by kernel_rfl)
noncomputable def F109.c0 : CodeT prog 19 [] [7] f109 := ⟨_, by with_unfolding_all (conv => lhs; reduce)⟩
theorem F109.calls [GI] : CallsT prog 109 19 F109.c0.1 [.cell 6 (some 3)] := acallsT _ _ _ func109 ntmps109 F109.c0.2 (by kernel_rfl)
noncomputable def F107.c0 : CodeT prog 41 [6] [9] f107 := ⟨_, by with_unfolding_all (conv => lhs; reduce)⟩
theorem F107.calls [GI] : CallsT prog 107 41 F107.c0.1 [.tmp 8] := acallsT _ _ _ func107 ntmps107 F107.c0.2 (by kernel_rfl)
noncomputable def F108.c0 : CodeT prog 181 [6] [9,10,11] f108 := ⟨_, by with_unfolding_all (conv => lhs; reduce)⟩
theorem F108.calls [GI] : CallsT prog 108 181 F108.c0.1 [.cell 8 (some 3)] := acallsT _ _ _ func108 ntmps108 F108.c0.2 (by kernel_rfl)
def F133.c17 : RCode := .seq (.seq (.reg [qr 40 (.mv (.t 10)),qr 41 (.fa 4 (.t 6)),qr 42 (.load none (.t 41)),qr 43 (.len 1 (.t 42)),qr 44 (.bin .lss (.t 40) (.t 43)),qr 45 (.mv (.t 44)),qg 46 (.mv (.t 0)) 45 true,qg 47 (.nilc (.t 46)) 45 true,qg 48 (.fa 1 (.t 47)) 45 true,qg 49 (.load none (.t 48)) 45 true,qg 50 (.bin .eql (.t 49) (.c (.int .i64 0))) 45 true,qr 51 (.pick (.t 45) (.t 50) (.c (.bool false)))]) (.cond (.t 51) .skip (.exit 0))) (.seq (.block 1 (.seq (.reg [qr 54 (.fa 7 (.t 9)),qr 55 (.fa 4 (.t 54)),qr 56 (.load none (.t 55)),qr 57 (.mv (.t 10)),qr 58 (.ia 5 (.t 56) (.t 57)),qr 59 (.load (some 5) (.t 58)),qr 11 (.bx (some 5) (.t 59))]) (.seq (.seq (.reg [qr 60 (.fa 4 (.t 11)),qr 61 (.load none (.t 60)),qr 62 (.bin .eql (.t 61) (.c (.int .i64 0)))]) (.cond (.t 62) (.seq (.dreg [qr 63 (.mv (.t 0)),qr 64 (.mv (.t 1)),qr 65 (.fa 4 (.t 6)),qr 66 (.load none (.t 65)),qr 67 (.mv (.t 10)),qr 68 (.ia 5 (.t 66) (.t 67)),qr 69 (.load (some 5) (.t 68)),qr 70 (.fa 1 (.t 11)),qr 71 (.fa 0 (.t 70)),qr 72 (.load none (.t 71)),qe 73 (.call 107 [.t 63,.t 64,.t 69,.t 72])]) (.exit 1)) .skip)) (.seq (.seq (.reg [qr 74 (.fa 4 (.t 6)),qr 75 (.load none (.t 74)),qr 76 (.mv (.t 10)),qr 77 (.ia 5 (.t 75) (.t 76)),qr 78 (.fa 0 (.t 77)),qr 79 (.load none (.t 78)),qr 80 (.bin .lss (.t 79) (.c (.int .i64 4))),qr 81 (.mv (.t 80)),qg 82 (.fa 4 (.t 6)) 81 false,qg 83 (.load none (.t 82)) 81 false,qg 84 (.mv (.t 10)) 81 false,qg 85 (.ia 5 (.t 83) (.t 84)) 81 false,qg 86 (.fa 0 (.t 85)) 81 false,qg 87 (.load none (.t 86)) 81 false,qg 88 (.bin .gtr (.t 87) (.c (.int .i64 6))) 81 false,qr 89 (.pick (.t 81) (.c (.bool true)) (.t 88))]) (.cond (.t 89) (.reg [qr 90 (.mv (.t 0)),qe 91 (.call 103 [.t 90,(.c (.int .i64 14))])]) .skip)) (.seq (.dreg [qr 92 (.mv (.t 0)),qr 93 (.mv (.t 1)),qr 94 (.fa 4 (.t 6)),qr 95 (.load none (.t 94)),qr 96 (.mv (.t 10)),qr 97 (.ia 5 (.t 95) (.t 96)),qr 98 (.load (some 5) (.t 97)),qr 100 (.fa 1 (.t 11)),qr 101 (.load (some 3) (.t 100)),qe 99 (.call 108 [.t 92,.t 93,.t 98,(.c (.bool false))]),qr 102 (.seq true [1,1,2] (.t 99) (.t 101))]) (.cond (.t 102) (.reg [qr 103 (.mv (.t 0)),qe 104 (.call 103 [.t 103,(.c (.int .i64 14))])]) .skip)))))) (.reg [qr 52 (.mv (.t 10)),qr 53 (.bin .add (.t 52) (.c (.int .i64 1))),qr 10 (.mv (.t 53))]))
def F133.c0 : RCode := .seq (.reg [qr 6 (.bx none (.t 2)),qe 8 (.alloc 80 [.int .i64 0,.int .i64 0,.str ⟨#[]⟩])]) (.seq (.reg [qr 12 (.mv (.t 1)),qr 13 (.fa 2 (.t 6)),qr 14 (.load none (.t 13)),qe 15 (.call 102 [.t 12,.t 14]),qr 9 (.bx (some 19) (.t 15))]) (.seq (.seq (.reg [qr 16 (.fa 1 (.t 9)),qr 17 (.load none (.t 16)),qr 18 (.bin .neq (.t 17) (.c (.int .i64 2)))]) (.cond (.t 18) (.seq (.reg [qr 19 (.mv (.t 0)),qe 20 (.call 103 [.t 19,(.c (.int .i64 13))])]) (.seq (.reg [qr 21 (.build [.int .i64 0,.int .i64 0,.str ⟨#[]⟩] []),qu (.store 3 (.t 8) (.t 21))]) .ret)) .skip)) (.seq (.seq (.reg [qr 22 (.fa 7 (.t 9)),qr 23 (.fa 3 (.t 22)),qr 24 (.load none (.t 23)),qr 25 (.bin .gtr (.t 24) (.c (.int .i64 0))),qr 26 (.mv (.t 3)),qr 27 (.beq false (.t 25) (.t 26))]) (.cond (.t 27) (.reg [qr 28 (.mv (.t 0)),qe 29 (.call 103 [.t 28,(.c (.int .i64 14))])]) .skip)) (.seq (.seq (.reg [qr 30 (.fa 7 (.t 9)),qr 31 (.fa 4 (.t 30)),qr 32 (.load none (.t 31)),qr 33 (.len 1 (.t 32)),qr 34 (.fa 4 (.t 6)),qr 35 (.load none (.t 34)),qr 36 (.len 1 (.t 35)),qr 37 (.bin .neq (.t 33) (.t 36))]) (.cond (.t 37) (.reg [qr 38 (.mv (.t 0)),qe 39 (.call 103 [.t 38,(.c (.int .i64 15))])]) .skip)) (.seq (.seq (.reg [qr 10 (.mv (.c (.int .i64 0)))]) (.block 0 (.loop F133.c17))) (.seq (.reg [qr 105 (.fa 7 (.t 9)),qr 106 (.fa 3 (.t 105)),qr 107 (.load none (.t 106)),qr 108 (.build [.int .i64 0,.int .i64 0,.str ⟨#[]⟩] [(0,1,.t 107)]),qu (.store 3 (.t 8) (.t 108))]) .ret))))))
theorem F133.calls [GI] : CallsT prog 133 109 F133.c0 [.cell 8 (some 3)] := acallsT [6] [9,11] 109 func133 ntmps133 (by kernel_rfl) (by kernel_rfl)
noncomputable def F69.c0 : CodeT prog 148 [] [9,11] f69 := ⟨_, by with_unfolding_all (conv => lhs; reduce)⟩
theorem F69.calls [GI] : CallsT prog 69 148 F69.c0.1 [] := acallsT _ _ _ func69 ntmps69 F69.c0.2 (by kernel_rfl)
noncomputable def F42.c0 : CodeT prog 45 [1] [] f42 := ⟨_, by with_unfolding_all (conv => lhs; reduce)⟩
theorem F42.calls [GI] : CallsT prog 42 45 F42.c0.1 [.tmp 2,.tmp 3] := acallsT _ _ _ func42 ntmps42 F42.c0.2 (by kernel_rfl)
end Pg

namespace Pg
open Go
set_option linter.all false
structure Th where
 name : ByteArray
 kind : Int
 rcd : Rec
 r : Routine
 t : Typ
def noRec : Rec := ⟨[], [], noBytes, [], []⟩
def noRoutine : Routine := ⟨[], [], noBytes, 0, [], [], [], [], []⟩
def noTh : Th := ⟨noBytes, 0, noRec, noRoutine, noTyp⟩
def thVar (name : ByteArray) (t : Typ) : Th := ⟨name, 3, noRec, noRoutine, t⟩
def thRoutine (r : Routine) : Th := ⟨r.name, 2, noRec, r, noTyp⟩
def rFind (env : List Th) (name : ByteArray) : Th := (env.find? fun x => decide (x.name = name)).getD noTh
def rNew (env : List Th) (s : CS) (name : ByteArray) : CS := if (rFind env name).kind ≠ 0 then s.fail 12 else s
def rVis (env : List Th) (l : List Routine) : List Th := env ++ l.map thRoutine
end Pg

namespace Pg
open Go
set_option linter.all false
set_option maxHeartbeats 4000000
set_option maxRecDepth 4000
end Pg
