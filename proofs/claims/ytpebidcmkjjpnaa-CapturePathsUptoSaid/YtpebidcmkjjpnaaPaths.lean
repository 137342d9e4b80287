import Derived.Test.YtpebidcmkjjpnaaTreeS
import Derived.Test.YtpebidcmkjjpnaaCodeN
import Derived.Test.YtpebidcmkjjpnaaNodes
import Derived.Test.YtpebidcmkjjpnaaRightC
namespace Pg
open Go
set_option linter.unusedSimpArgs false
set_option linter.unusedVariables false
set_option maxHeartbeats 4000000
set_option maxRecDepth 4000
/-! ### Paths tell routines apart -/
theorem letters_plain : ∀ {l : List UInt8} {f : Bool}, letters f l = true → ∀ c ∈ l, c ≠ 36
  | [], _, _, c, hc => by simp at hc
  | x :: r, f, h, c, hc => by
    simp only [letters, Bool.and_eq_true] at h
    rcases List.mem_cons.1 hc with rfl | hc
    · rintro rfl
      have := h.1
      cases f <;> simp [letter] at this
    · exact letters_plain h.2 c hc
theorem name_plain {s : ByteArray} (h : tName s = true) : ∀ c ∈ bytes s, c ≠ 36 := by
  unfold tName nameCode at h
  simp only [Bool.and_eq_true, decide_eq_true_eq] at h
  have h1 := h.1
  split at h1
  · cases h1
  · split at h1
    · rename_i h2; exact letters_plain h2
    · cases h1
theorem name_split : ∀ {a b r s : List UInt8}, (∀ c ∈ a, c ≠ 36) → (∀ c ∈ b, c ≠ 36) → (r = [] ∨ ∃ t, r = 36 :: t) → (s = [] ∨ ∃ t, s = 36 :: t) → a ++ r = b ++ s → a = b
  | [], [], _, _, _, _, _, _, _ => rfl
  | [], y :: b, r, s, _, hb, hr, _, h => by
    rcases hr with rfl | ⟨t, rfl⟩
    · simp at h
    · simp only [List.nil_append, List.cons_append, List.cons.injEq] at h
      exact absurd h.1.symm (hb y (by simp))
  | x :: a, [], r, s, ha, _, _, hs, h => by
    rcases hs with rfl | ⟨t, rfl⟩
    · simp at h
    · simp only [List.nil_append, List.cons_append, List.cons.injEq] at h
      exact absurd h.1 (ha x (by simp))
  | x :: a, y :: b, r, s, ha, hb, hr, hs, h => by
    simp only [List.cons_append, List.cons.injEq] at h
    rw [h.1, name_split (fun c hc => ha c (by simp [hc])) (fun c hc => hb c (by simp [hc])) hr hs h.2]
theorem bytes_append (a b : ByteArray) : bytes (a ++ b) = bytes a ++ bytes b := by
  simp [bytes, ByteArray.data_append]
theorem bytes_inj {a b : ByteArray} (h : bytes a = bytes b) : a = b := by
  apply ByteArray.ext
  exact Array.ext' h
theorem path_form : ∀ (N : Nat) (l : List Routine), Routines.sz l < N → ∀ (k : Nat) (whole : List Routine) (around : Int) (path : ByteArray), ∀ n ∈ capL k whole around path l, ∃ r ∈ l, ∃ rest : List UInt8, (rest = [] ∨ ∃ t, rest = 36 :: t) ∧ bytes n.path = bytes path ++ (bytes r.name ++ rest)
  | 0, l, h, _, _, _, _, _, _ => by omega
  | N + 1, [], h, k, whole, around, path, n, hn => by simp [capL] at hn
  | N + 1, x :: l, h, k, whole, around, path, n, hn => by
    have hz := Routine.sz_eq x
    simp only [Routines.sz] at h
    simp only [capL, capR_eq] at hn
    rcases List.mem_append.1 hn with hn | hn
    · rcases List.mem_cons.1 hn with rfl | hn
      · exact ⟨x, by simp, [], .inl rfl, by simp [bytes_append]⟩
      · obtain ⟨r, _, rest, _, h2⟩ := path_form N x.inner (by omega) _ _ _ _ n hn
        refine ⟨x, by simp, 36 :: (bytes r.name ++ rest), .inr ⟨_, rfl⟩, ?_⟩
        rw [h2, bytes_append, bytes_append]
        show bytes path ++ bytes x.name ++ [36] ++ _ = _
        simp
    · obtain ⟨r, hr, rest, h1, h2⟩ := path_form N l (by omega) _ _ _ _ n hn
      exact ⟨r, by simp [hr], rest, h1, h2⟩
theorem paths_nodup : ∀ (N : Nat) (l : List Routine) (ahead : List ByteArray) (d : Int), Routines.sz l < N → tRoutines ahead l d = true → ∀ (k : Nat) (whole : List Routine) (around : Int) (path : ByteArray), ((capL k whole around path l).map (·.path)).Nodup
  | 0, l, _, _, h, _, _, _, _, _ => by omega
  | N + 1, [], _, _, h, _, k, whole, around, path => by simp [capL]
  | N + 1, x :: l, ahead, d, h, ht, k, whole, around, path => by
    have hz := Routine.sz_eq x
    simp only [Routines.sz] at h
    obtain ⟨nd, _⟩ := tRoutines_nodup ht
    simp only [List.map_cons, List.nodup_cons] at nd
    have plainAll : ∀ y ∈ x :: l, ∀ c ∈ bytes y.name, c ≠ 36 := fun y hy => by
      obtain ⟨a, ha⟩ := tRoutines_mem ht hy
      rw [tRoutine_eq] at ha
      simp only [Bool.and_eq_true] at ha
      exact name_plain ha.1.1.1.1.1.1.1.2
    simp only [tRoutines, Bool.and_eq_true] at ht
    have hx := tRoutine_ok ht.1
    have h1 := paths_nodup N x.inner [] (d + 1) (by omega) hx.inner (k + 1) x.inner k (path ++ x.name ++ dollar)
    have h2 := paths_nodup N l _ d (by omega) ht.2 (k + rcnt x) whole around path
    simp only [capL, List.map_append]
    refine List.nodup_append.2 ⟨?_, h2, ?_⟩
    · rw [capR_eq, List.map_cons]
      refine List.nodup_cons.2 ⟨fun hh => ?_, h1⟩
      obtain ⟨n, hn, he⟩ := List.mem_map.1 hh
      obtain ⟨r, _, rest, _, h4⟩ := path_form N x.inner (by omega) _ _ _ _ n hn
      have he := congrArg (fun s => (bytes s).length) he
      simp only [h4, bytes_append, List.length_append] at he
      have : (bytes dollar).length = 1 := rfl
      omega
    · intro a ha b hb hab
      subst hab
      obtain ⟨n, hn, he⟩ := List.mem_map.1 ha
      obtain ⟨m, hm, he'⟩ := List.mem_map.1 hb
      have hform : ∃ rest : List UInt8, (rest = [] ∨ ∃ t, rest = 36 :: t) ∧ bytes n.path = bytes path ++ (bytes x.name ++ rest) := by
        rw [capR_eq] at hn
        rcases List.mem_cons.1 hn with rfl | hn
        · exact ⟨[], .inl rfl, by simp [bytes_append]⟩
        · obtain ⟨r, _, rest, _, h4⟩ := path_form N x.inner (by omega) _ _ _ _ n hn
          refine ⟨36 :: (bytes r.name ++ rest), .inr ⟨_, rfl⟩, ?_⟩
          rw [h4, bytes_append, bytes_append]
          show bytes path ++ bytes x.name ++ [36] ++ _ = _
          simp
      obtain ⟨r1, hr1, e1⟩ := hform
      obtain ⟨y, hy, r2, hr2, e2⟩ := path_form N l (by omega) _ _ _ _ m hm
      rw [he] at e1
      rw [he', e1] at e2
      have e3 := name_split (plainAll x (by simp)) (plainAll y (by simp [hy])) hr1 hr2 (List.append_cancel_left e2)
      exact nd.1 (List.mem_map.2 ⟨y, hy, (bytes_inj e3).symm⟩)
theorem nodup_ne {ns a b c : List CN} {x y : CN} (nd : (ns.map (·.path)).Nodup) (h : ns = a ++ x :: (b ++ y :: c)) : x.path ≠ y.path := by
  subst h
  simp only [List.map_append, List.map_cons] at nd
  have h2 := (List.nodup_append.1 nd).2.1
  intro hh
  exact (List.nodup_cons.1 h2).1 (by rw [hh]; simp)
theorem CapturePaths_spec (h : AHeap) (p : Prg) (ho : p.ok) (hf : p.fit) (hw : wP p ≤ 1048576) : ACalls Go.Proofs.Try.prog 10 [.agg (ePrg p)] h (fun v g => v = .bool true ∧ g = h) := by
  have pb := prg_bounds hw
  refine F10.calls (by simp) ?_
  delta F10.c0
  simp -implicitDefEqProofs only [↓pgPre,go_sem,↓reduceIte,reduceCtorEq,seval, ePrg_len, prg_take]
  refine callT_of (rightC_spec h p ho hf) (fun v g ⟨hv, hg⟩ => ?_)
  subst v g
  cases hr : rightC p with
  | false =>
    simp -implicitDefEqProofs only [↓pgPre,go_sem,↓reduceIte,reduceCtorEq,seval, ePrg_len, prg_take]
    by_cases hc : (check p).2 = 0
    · refine callT_of (Paths_good h p ho pb.1 pb.2 hc) (fun v g ⟨hv, hg⟩ => ?_)
      subst v g
      simp -implicitDefEqProofs only [↓pgPre,go_sem,↓reduceIte,reduceCtorEq,seval]
      refine callT_of (awakeC_spec h) (fun v g ⟨hv, hg⟩ => ?_)
      subst v g
      simp -implicitDefEqProofs only [↓pgPre,go_sem,↓reduceIte,reduceCtorEq,seval]
      exact .same ⟨rfl, rfl⟩
    · refine callT_of (Paths_bad h p ho hc) (fun v g ⟨hv, hg⟩ => ?_)
      subst v g
      simp -implicitDefEqProofs only [↓pgPre,go_sem,↓reduceIte,reduceCtorEq,seval]
      refine callT_of (awakeC_spec h) (fun v g ⟨hv, hg⟩ => ?_)
      subst v g
      simp -implicitDefEqProofs only [↓pgPre,go_sem,↓reduceIte,reduceCtorEq,seval]
      exact .same ⟨rfl, rfl⟩
  | true =>
    obtain ⟨b1, b2, b3, b4⟩ := right_bounds hr hw
    simp -implicitDefEqProofs only [↓pgPre,go_sem,↓reduceIte,reduceCtorEq,seval, ePrg_len, prg_take]
    refine callT_of (Paths_good h p ho b1 b2 b3) (fun v g2 ⟨hv, hg⟩ => ?_)
    subst v g2
    simp -implicitDefEqProofs only [↓pgPre,go_sem,↓reduceIte,reduceCtorEq,seval, prg_6]
    refine callT_of (Nodes_spec _ p.routines (Nat.lt_succ_self _) ho.routines ho.eachRoutine h h (.sl [] true) [] (-1) noBytes (.nil h) (by simpa using b1) (by have : noBytes.size = 0 := rfl; omega)) (fun w g1 G1 => ?_)
    simp only [List.nil_append, List.length_nil] at G1
    have hns : (nodesOf p.routines).length ≤ 1048576 := by
      show (capL 0 p.routines (-1) noBytes p.routines).length ≤ _
      rw [capL_len]
      have := rcnts_le _ p.routines (Nat.le_refl _)
      unfold wP at hw; omega
    have hnd : ((nodesOf p.routines).map (·.path)).Nodup := paths_nodup _ p.routines [] 1 (Nat.lt_succ_self _) (tPrg_ok b4).routines 0 p.routines (-1) noBytes
    change GL _ _ _ _ _ ((nodesOf p.routines).map eNd) at G1
    have e : (gra p.routines).ns = nodesOf p.routines := rfl
    rw [e]
    generalize nodesOf p.routines = NN at hns hnd G1
    have hlen1 := G1.len
    rw [List.length_map] at hlen1
    have hfw : few NN := by unfold few; omega
    generalize hLL : (NN.map fun n => [AV.str n.path]) = LL
    have hLl : LL.length = NN.length := by rw [← hLL]; simp
    have heq : ((LL.length : Int) = (NN.length : Int)) = True := by simp [hLl]
    have hL : ∀ (i : Nat) n, NN[i]? = some n → LL[i]? = some [.str n.path] := fun i n hn => by rw [← hLL]; simp [hn]
    simp -implicitDefEqProofs only [↓pgPre,go_sem,↓reduceIte,reduceCtorEq,seval, hlen1, heq]
    refine lT_list NN (fun pre post e k => e = [(1, .ip (ePrg p) 0), (3, .sl LL false), (4, .sl (NN.map eNd) false), (5, .int .i64 pre.length)] ∧ h = k) (WeakE.of ?_ (.of_le G1.le)) ⟨rfl, rfl⟩ ?_ ?_
    · skip
      repeat' (first | exact EnvLe.nil _ | refine EnvLe.cons ?_ ?_)
      all_goals (simp -implicitDefEqProofs only [↓pgPre,go_sem,↓reduceIte,reduceCtorEq,seval]; try first | exact AVle.refl _ | exact AVle.sl _ _ | exact AVle.gs _ _ _ | assumption)
      exact G1.avle
    · rintro pre n post e k hp ⟨rfl, rfl⟩
      have hn := (at_pre hp).1
      have hNrow : (NN.map eNd)[pre.length]? = some (eNd n) := map_at hp
      have n0 : (eNd n)[0]? = some (.str n.path) := rfl
      have hlt : ((pre.length : Int) < (LL.length : Int)) = True := by rw [hLl]; have := (at_pre hp).2; simp; omega
      simp -implicitDefEqProofs only [↓pgPre,go_sem,↓reduceIte,reduceCtorEq,seval, hlt, aia_sl (size := 1) (hL _ n hn) rfl, aia_sl hNrow (eNd_len n), n0]
      refine lT_list pre (fun preB postB e k => e = [(1, .ip (ePrg p) 0), (3, .sl LL false), (4, .sl (NN.map eNd) false), (5, .int .i64 pre.length), (6, .int .i64 preB.length)] ∧ h = k) (WeakE.env ?_) ⟨rfl, rfl⟩ ?_ ?_
      · skip
        repeat' (first | exact EnvLe.nil _ | refine EnvLe.cons ?_ ?_)
        all_goals (simp -implicitDefEqProofs only [↓pgPre,go_sem,↓reduceIte,reduceCtorEq,seval]; try first | exact AVle.refl _ | exact AVle.sl _ _ | exact AVle.gs _ _ _ | assumption)
      · rintro preB x postB e k hpB ⟨rfl, rfl⟩
        have hpp : NN = preB ++ x :: (postB ++ n :: post) := by rw [hp, hpB]; simp
        have hx := (at_pre hpp).1
        have hne : (x.path = n.path) = False := by simpa using nodup_ne hnd hpp
        simp -implicitDefEqProofs only [↓pgPre,go_sem,↓reduceIte,reduceCtorEq,seval, lt_at hpB, aia_sl (size := 1) (hL _ x hx) rfl, aia_sl (size := 1) (hL _ n hn) rfl, hne]
        refine ⟨_, _, WeakE.env ?_, rfl, rfl⟩
        repeat' (first | exact EnvLe.nil _ | refine EnvLe.cons ?_ ?_)
        all_goals (simp -implicitDefEqProofs only [↓pgPre,go_sem,↓reduceIte,reduceCtorEq,seval, step_at (l := pre) (by have := (at_pre hp).2; unfold few; omega) hpB]; try first | exact AVle.refl _ | exact AVle.sl _ _ | exact AVle.gs _ _ _ | assumption)
      · rintro e k ⟨rfl, rfl⟩
        simp -implicitDefEqProofs only [↓pgPre,go_sem,↓reduceIte,reduceCtorEq,seval, lt_end]
        refine lessQ.same ?_
        simp -implicitDefEqProofs only [↓pgPre,go_sem,↓reduceIte,reduceCtorEq,seval]
        refine ⟨_, _, WeakE.env ?_, rfl, rfl⟩
        repeat' (first | exact EnvLe.nil _ | refine EnvLe.cons ?_ ?_)
        all_goals (simp -implicitDefEqProofs only [↓pgPre,go_sem,↓reduceIte,reduceCtorEq,seval, step_at hfw hp]; try first | exact AVle.refl _ | exact AVle.sl _ _ | exact AVle.gs _ _ _ | assumption)
    · rintro e k ⟨rfl, rfl⟩
      have hlt : ((NN.length : Int) < (LL.length : Int)) = False := by rw [hLl]; simp
      simp -implicitDefEqProofs only [↓pgPre,go_sem,↓reduceIte,reduceCtorEq,seval, hlt]
      refine lessQ.same ?_
      simp -implicitDefEqProofs only [↓pgPre,go_sem,↓reduceIte,reduceCtorEq,seval]
      refine callT_of (awakeC_spec _) (fun v g ⟨hv, hg⟩ => ?_)
      subst v g
      simp -implicitDefEqProofs only [↓pgPre,go_sem,↓reduceIte,reduceCtorEq,seval]
      exact .same ⟨rfl, rfl⟩
end Pg
