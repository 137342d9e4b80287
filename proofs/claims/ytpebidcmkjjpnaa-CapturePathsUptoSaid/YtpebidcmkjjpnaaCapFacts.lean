/- Facts about what package capture computes. -/
import Derived.Test.YtpebidcmkjjpnaaCap4
namespace Pg
open Go
set_option linter.unusedVariables false
set_option linter.unusedSimpArgs false
theorem capL_all {P : Routine → Prop} (hP : ∀ x, P x → ∀ y ∈ x.inner, P y) : ∀ (N : Nat) (l : List Routine), Routines.sz l < N → (∀ x ∈ l, P x) → ∀ (k : Nat) (whole : List Routine) (around : Int) (path : ByteArray), ∀ n ∈ capL k whole around path l, P n.r
  | 0, l, h, _, _, _, _, _, _, _ => by omega
  | N + 1, [], h, _, k, whole, around, path, n, hn => by simp [capL] at hn
  | N + 1, x :: l, h, hl, k, whole, around, path, n, hn => by
    have hz := Routine.sz_eq x
    simp only [Routines.sz] at h
    simp only [capL, capR_eq] at hn
    rcases List.mem_append.1 hn with hn | hn
    · rcases List.mem_cons.1 hn with rfl | hn
      · exact hl x (by simp)
      · exact capL_all hP N x.inner (by omega) (hP x (hl x (by simp))) _ _ _ _ n hn
    · exact capL_all hP N l (by omega) (fun y hy => hl y (by simp [hy])) _ _ _ _ n hn
theorem capL_around : ∀ (N : Nat) (l : List Routine), Routines.sz l < N → ∀ (k : Nat) (whole : List Routine) (around : Int) (path : ByteArray), around < k → -1 ≤ around → ∀ (i : Nat) n, (capL k whole around path l)[i]? = some n → n.around < ((k + i : Nat) : Int) ∧ -1 ≤ n.around
  | 0, l, h, _, _, _, _, _, _, _, _, _ => by omega
  | N + 1, [], h, k, whole, around, path, _, _, i, n, hn => by simp [capL] at hn
  | N + 1, x :: l, h, k, whole, around, path, ha, hb, i, n, hn => by
    have hz := Routine.sz_eq x
    simp only [Routines.sz] at h
    simp only [capL] at hn
    rw [List.getElem?_append] at hn
    split at hn
    · rw [capR_eq] at hn
      cases i with
      | zero =>
        simp only [List.getElem?_cons_zero, Option.some.injEq] at hn
        subst hn
        exact ⟨by simpa using ha, hb⟩
      | succ i =>
        simp only [List.getElem?_cons_succ] at hn
        have := capL_around N x.inner (by omega) (k + 1) _ k _ (by omega) (by omega) i n hn
        exact ⟨by omega, this.2⟩
    · rename_i hlt
      have := capL_around N l (by omega) (k + rcnt x) _ around _ (by omega) hb _ n hn
      rw [capR_len] at this hlt
      exact ⟨by omega, this.2⟩
theorem lookN_mapIn (name n : ByteArray) (k : Nat) : ∀ m : List (ByteArray × Nat), lookN name (mapIn n k m) = if name = n then some k else lookN name m
  | [] => by
    simp only [mapIn, lookN, List.find?_cons]
    by_cases h : name = n <;> simp [h]
  | (x, u) :: r => by
    have ih := lookN_mapIn name n k r
    unfold lookN at ih ⊢
    simp only [mapIn]
    by_cases h1 : n = x
    · subst h1
      by_cases h : name = n <;> simp [List.find?_cons, h]
    · simp only [h1, if_false, List.find?_cons]
      by_cases h2 : name = x
      · subst h2
        have : ¬ name = n := fun hh => h1 hh.symm
        simp [this]
      · simp only [h2, decide_false]
        exact ih
theorem lookN_capMap (name : ByteArray) : ∀ (l : List Routine) (k : Nat) (m : List (ByteArray × Nat)) (v : Nat), lookN name (capMap k m l) = some v → lookN name m = some v ∨ (k ≤ v ∧ v < k + rcnts l)
  | [], k, m, v, h => .inl h
  | x :: l, k, m, v, h => by
    simp only [capMap] at h
    have hr : 1 ≤ rcnt x := by rw [rcnt_eq]; omega
    simp only [rcnts]
    rcases lookN_capMap name l _ _ v h with h | h
    · rw [lookN_mapIn] at h
      split at h
      · simp only [Option.some.injEq] at h
        exact .inr ⟨by omega, by omega⟩
      · exact .inl h
    · exact .inr ⟨by omega, by omega⟩
theorem capL_inner : ∀ (N : Nat) (l : List Routine), Routines.sz l < N → ∀ (k : Nat) (whole : List Routine) (around : Int) (path : ByteArray), ∀ n ∈ capL k whole around path l, ∀ name v, lookN name n.inner = some v → v < k + rcnts l
  | 0, l, h, _, _, _, _, _, _ => by omega
  | N + 1, [], h, k, whole, around, path, n, hn => by simp [capL] at hn
  | N + 1, x :: l, h, k, whole, around, path, n, hn => by
    intro name v hv
    have hz := Routine.sz_eq x
    simp only [Routines.sz] at h
    simp only [capL, capR_eq] at hn
    simp only [rcnts, rcnt_eq]
    rcases List.mem_append.1 hn with hn | hn
    · rcases List.mem_cons.1 hn with rfl | hn
      · rcases lookN_capMap name x.inner (k + 1) [] v hv with h' | h'
        · simp [lookN] at h'
        · omega
      · have := capL_inner N x.inner (by omega) _ _ _ _ n hn name v hv
        omega
    · have := capL_inner N l (by omega) _ _ _ _ n hn name v hv
      rw [rcnt_eq] at this
      omega
theorem nameAt_in {ns : List CN} {name : ByteArray} : ∀ {f : Nat} {i : Int} {x : Nat × Nat}, nameAt ns name f i = some x → ∃ n, ns[x.1]? = some n ∧ x.2 < (locs n.r).length
  | 0, i, x, h => by simp [nameAt] at h
  | f + 1, i, x, h => by
    simp only [nameAt] at h
    split at h
    · cases h
    · cases hn : ns[i.toNat]? with
      | none => rw [hn] at h; cases h
      | some n =>
        rw [hn] at h
        simp only at h
        cases hk : (locs n.r).findIdx? (fun p => decide (p.name = name)) with
        | none => rw [hk] at h; exact nameAt_in h
        | some k =>
          rw [hk] at h
          simp only [Option.some.injEq] at h
          subst h
          refine ⟨n, hn, ?_⟩
          have := (List.findIdx?_eq_some_iff_findIdx_eq.1 hk).1
          exact this
theorem routAt_in {ns : List CN} {top : List (ByteArray × Nat)} {name : ByteArray} {b : Nat} (ht : ∀ v, lookN name top = some v → v < b) (hn : ∀ n ∈ ns, ∀ v, lookN name n.inner = some v → v < b) : ∀ {f : Nat} {i : Int} {v : Nat}, routAt ns top name f i = some v → v < b
  | 0, i, v, h => ht v h
  | f + 1, i, v, h => by
    simp only [routAt] at h
    split at h
    · exact ht v h
    · cases hn' : ns[i.toNat]? with
      | none => rw [hn'] at h; cases h
      | some n =>
        rw [hn'] at h
        simp only at h
        cases hk : lookN name n.inner with
        | none => rw [hk] at h; exact routAt_in ht hn h
        | some k =>
          rw [hk] at h
          simp only [Option.some.injEq] at h
          subst h
          exact hn n (List.mem_of_getElem? hn') _ hk
theorem hasAt_in {ns : List CN} {j : Nat} : ∀ {l : List ByteArray} {hs : Pairs} {x : Nat × Nat}, x ∈ hasAt ns j l hs → x ∈ hs ∨ ∃ name ∈ l, nameAt ns name (j + 1) j = some x ∧ x.1 ≠ j
  | [], hs, x, h => .inl h
  | name :: l, hs, x, h => by
    rcases hasAt_in (l := l) (hs := useAt ns j hs name) h with h | ⟨m, hm, h⟩
    · unfold useAt at h
      cases hn : nameAt ns name (j + 1) j with
      | none => rw [hn] at h; exact .inl h
      | some y =>
        rw [hn] at h
        simp only at h
        split at h
        · exact .inl h
        · rename_i hne
          rcases hadd_mem.1 h with h | rfl
          · exact .inl h
          · exact .inr ⟨name, by simp, hn, hne⟩
    · exact .inr ⟨m, by simp [hm], h⟩
theorem hasAt_of {ns : List CN} {j : Nat} {name : ByteArray} {x : Nat × Nat} (hn : nameAt ns name (j + 1) j = some x) (hx : x.1 ≠ j) : ∀ {l : List ByteArray} {hs : Pairs}, (name ∈ l ∨ x ∈ hs) → x ∈ hasAt ns j l hs
  | [], hs, h => by
    rcases h with h | h
    · simp at h
    · exact h
  | m :: l, hs, h => by
    refine hasAt_of hn hx (l := l) (hs := useAt ns j hs m) ?_
    rcases h with h | h
    · rcases List.mem_cons.1 h with rfl | h
      · refine .inr ?_
        unfold useAt
        rw [hn]
        simp [hx, hadd_mem]
      · exact .inl h
    · refine .inr ?_
      unfold useAt
      split
      · split
        · exact h
        · exact hadd_mem.2 (.inl h)
      · exact h
/-- The graph of a program. -/
def Gra.of (gb mt : Nat) (bs : List NB) (p : List Routine) : Gra := ⟨gb, mt, bs, capL 0 p (-1) noBytes p, capMap 0 [] p⟩
theorem wR_in {x y : Routine} (h : y ∈ x.inner) : wR y ≤ wR x := by
  have := wR_eq x
  have : wR y ≤ wRs x.inner := wRs_mem h
  omega
theorem gra_ok2 {gb mt : Nat} {bs : List NB} {p : List Routine} (hb : bs.length = rcnts p) (nd : (gb :: mt :: ids bs).Nodup) (hw : wRs p ≤ 274877906944) : (Gra.of gb mt bs p).ok2 := by
  have hall : ∀ n ∈ capL 0 p (-1) noBytes p, wR n.r ≤ 274877906944 := capL_all (P := fun x => wR x ≤ 274877906944) (fun x hx y hy => Nat.le_trans (wR_in hy) hx) _ p (Nat.lt_succ_self _) (fun x hx => Nat.le_trans (wRs_mem hx) hw) 0 p (-1) noBytes
  have hr := rcnts_le _ p (Nat.le_refl _)
  refine ⟨⟨?_, nd, ?_, ?_, ?_⟩, ?_, ?_⟩
  · show bs.length = (capL 0 p (-1) noBytes p).length
    rw [capL_len, hb]
  · intro i n hn
    have := capL_around _ p (Nat.lt_succ_self _) 0 p (-1) noBytes (by omega) (by omega) i n hn
    simpa using this
  · show (capL 0 p (-1) noBytes p).length ≤ _
    rw [capL_len]; omega
  · intro n hn
    have := hall n hn
    have := wR_eq n.r
    simp only [locs, List.length_append, List.length_map]
    omega
  · intro i k hk
    unfold Gra.cs0 at hk
    cases hn : (Gra.of gb mt bs p).ns[i]? with
    | none => rw [hn] at hk; simp at hk
    | some n =>
      rw [hn] at hk
      obtain ⟨name, _, hr'⟩ := List.mem_filterMap.1 hk
      show k < (capL 0 p (-1) noBytes p).length
      rw [capL_len]
      refine routAt_in (fun v hv => ?_) (fun m hm v hv => ?_) hr'
      · rcases lookN_capMap name p 0 [] v hv with h | h
        · simp [lookN] at h
        · omega
      · have := capL_inner _ p (Nat.lt_succ_self _) 0 p (-1) noBytes m hm name v hv
        omega
  · intro i
    unfold Gra.cs0
    cases hn : (Gra.of gb mt bs p).ns[i]? with
    | none => simp
    | some n =>
      have h1 := hall n (List.mem_of_getElem? hn)
      have h2 := wR_eq n.r
      have h3 := callSs_len _ n.r.body (Nat.le_refl _)
      have h4 := callAt_len (Gra.of gb mt bs p).ns (Gra.of gb mt bs p).top i (callSs n.r.body)
      simp only
      omega
theorem gra_fair (G : Gra) : Fair G G.hs0 := by
  refine ⟨fun i x h => .use h, fun i x h => h, fun i x h => ?_⟩
  unfold Gra.hs0 at h
  cases hn : G.ns[i]? with
  | none => rw [hn] at h; simp at h
  | some n =>
    rw [hn] at h
    rcases hasAt_in h with h | ⟨name, _, h, _⟩
    · simp at h
    · obtain ⟨m, hm, hk⟩ := nameAt_in h
      unfold Gra.pairs
      have hlt : x.1 < G.ns.length := by
        rcases Nat.lt_or_ge x.1 G.ns.length with h | h
        · exact h
        · rw [List.getElem?_eq_none h] at hm; cases hm
      refine List.mem_flatMap.2 ⟨x.1, List.mem_range.2 hlt, ?_⟩
      rw [hm]
      exact List.mem_map.2 ⟨x.2, List.mem_range.2 hk, rfl⟩
theorem nwRs_le : ∀ (N : Nat) (l : List Routine), Routines.sz l < N → nwRs l ≤ wRs l
  | 0, l, h => by omega
  | N + 1, [], h => by simp [nwRs]
  | N + 1, x :: l, h => by
    have hz := Routine.sz_eq x
    simp only [Routines.sz] at h
    have h1 := nwRs_le N x.inner (by omega)
    have h2 := nwRs_le N l (by omega)
    simp only [nwRs, wRs, nwR_eq, wR_eq]
    omega
theorem prg_bounds {p : Prg} (hw : wP p ≤ 1048576) : wRs p.routines ≤ 274877906944 ∧ nwRs p.routines ≤ 274877906944 := by
  have := nwRs_le _ p.routines (Nat.lt_succ_self _)
  unfold wP at hw
  exact ⟨by omega, by omega⟩
end Pg
