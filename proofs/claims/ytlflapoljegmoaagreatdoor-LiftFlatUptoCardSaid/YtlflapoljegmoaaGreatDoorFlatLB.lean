import Derived.Test.YtlflapoljegmoaaGreatDoorTreeSB
import Derived.Test.YtlflapoljegmoaaGreatDoorCodeUB
import Derived.Test.YtlflapoljegmoaaGreatDoorSmB
import Derived.Test.YtlflapoljegmoaaGreatDoorFlatUJB
import Derived.Test.YtlflapoljegmoaaGreatDoorRightCJB
namespace Pg
open Go
set_option linter.unusedSimpArgs false
set_option linter.unusedVariables false
set_option maxHeartbeats 4000000
set_option maxRecDepth 4000
theorem bytes_nil_add (s : ByteArray) : noBytes ++ s = s := by
 apply ByteArray.ext
 simp [noBytes]
def Still (f : ByteArray → Option (ByteArray × List Param)) : Prop := ∀ name path us, f name = some (path, us) → path = name ∧ us = []
mutual
theorem keepE {f : ByteArray → Option (ByteArray × List Param)} (hf : Still f) : ∀ x : Expr, liftE f x = x
 | ⟨op, n, name, field, l⟩ => by
  have hl := keepEs hf l
  simp only [liftE, hl]
  split
  ·split
   ·rename_i path us h
    obtain ⟨rfl, rfl⟩ := hf _ _ _ h
    simp
   ·rfl
  ·rfl
theorem keepEs {f : ByteArray → Option (ByteArray × List Param)} (hf : Still f) : ∀ l : List Expr, liftEs f l = l
 | [] => rfl
 | x :: r => by simp only [liftEs, keepE hf x, keepEs hf r]
end
mutual
theorem keepS {f : ByteArray → Option (ByteArray × List Param)} (hf : Still f) : ∀ x : Stmt, liftS f x = x
 | ⟨before, trail, op, name, p, e, down, more, body, els, end1, end2⟩ => by
  obtain ⟨o, n, m, fi, l⟩ := p
  simp only [liftS, keepEs hf, keepSs hf body, keepSs hf els]
theorem keepSs {f : ByteArray → Option (ByteArray × List Param)} (hf : Still f) : ∀ l : List Stmt, liftSs f l = l
 | [] => rfl
 | x :: r => by simp only [liftSs, keepS hf x, keepSs hf r]
end
theorem flat_caps : ∀ (l : List Routine) (k : Nat) (whole : List Routine), (∀ r ∈ l, r.inner = []) → (capL k whole (-1) noBytes l).map (·.r) = l ∧ ∀ n ∈ capL k whole (-1) noBytes l, n.path = n.r.name
 | [], k, whole, _ => by simp [capL]
 | x :: l, k, whole, h => by
  obtain ⟨h1, h2⟩ := flat_caps l (k + rcnt x) whole fun r hr => h r (by simp [hr])
  have hx := h x (by simp)
  simp only [capL, capR_eq, hx]
  refine ⟨by simp [h1], fun n hn => ?_⟩
  simp only [List.mem_append, List.mem_cons, List.not_mem_nil, or_false] at hn
  rcases hn with rfl | hn
  ·exact bytes_nil_add _
  ·exact h2 n hn
theorem callee_name {ns : List CN} {name : ByteArray} : ∀ (f : Nat) (a : Int), ¬ calleeAt ns name f a < 0 → ∃ n, ns[(calleeAt ns name f a).toNat]? = some n ∧ n.r.name = name
 | 0, a, h => by simp [calleeAt] at h
 | f + 1, a, h => by
  simp only [calleeAt] at h ⊢
  cases hi : ns.findIdx? (fun n => decide (n.around = a) && decide (n.r.name = name)) with
  | some i =>
   simp only [hi] at h ⊢
   obtain ⟨hl, hp, _⟩ := List.findIdx?_eq_some_iff_getElem.1 hi
   simp only [Bool.and_eq_true, decide_eq_true_eq] at hp
   exact ⟨ns[i], by simp [List.getElem?_eq_getElem hl], hp.2⟩
  | none =>
   simp only [hi] at h ⊢
   split at h
   ·simp at h
   ·rename_i ha
    rw [if_neg ha]
    split at h
    ·rename_i n hn
     exact callee_name f n.around h
    ·simp at h
theorem liftRs_flat {ns : List CN} {ups : List (List Param)} (hk : ∀ i, Still (liftF ns ups i)) : ∀ (l : List CN) (i : Nat), (∀ n ∈ l, n.path = n.r.name ∧ n.r.inner = []) → liftRs ns ups i (l.map fun n => (n, [])) = l.map (·.r)
 | [], i, _ => rfl
 | n :: l, i, h => by
  obtain ⟨h1, h2⟩ := h n (by simp)
  simp only [List.map_cons, liftRs, liftRs_flat hk l (i + 1) fun m hm => h m (by simp [hm]), liftR, h1, keepSs (hk _), List.append_nil]
  congr 1
  rw [← h2]
  obtain ⟨⟩ := n.r
  rfl
theorem flat_lift {p : Prg} (hi : ∀ r ∈ p.routines, r.inner = []) (hl : p.routines.length ≤ 512) (hp : ∀ r ∈ p.routines, r.params.length ≤ 512) : liftP p = (p, 0) := by
 obtain ⟨h1, h2⟩ := flat_caps p.routines 0 p.routines hi
 have h3 : (nodesOf p.routines).map (·.r) = p.routines := h1
 have hm : ∀ n ∈ nodesOf p.routines, n.r ∈ p.routines := fun n hn => by rw [← h3]; exact List.mem_map.2 ⟨n, hn, rfl⟩
 have hln : (nodesOf p.routines).length = p.routines.length := by rw [← h3, List.length_map]; simp [h3]
 have hu : cUps p.routines = (nodesOf p.routines).map fun _ => [] := by
  rw [flat_ups hi]
  refine List.ext_getElem? fun i => ?_
  rw [List.getElem?_map, List.getElem?_map]
  by_cases hx : i < p.routines.length
  ·rw [List.getElem?_eq_getElem hx, List.getElem?_eq_getElem (by omega)]; rfl
  ·rw [List.getElem?_eq_none (by omega), List.getElem?_eq_none (by omega)]; rfl
 have hz : (nodesOf p.routines).zip (cUps p.routines) = (nodesOf p.routines).map fun n => (n, []) := by
  rw [hu]
  generalize nodesOf p.routines = L
  induction L with
  | nil => rfl
  | cons n L ih => simp [ih]
 have hk : ∀ i, Still (liftF (nodesOf p.routines) (cUps p.routines) i) := fun i name path us hf => by
  unfold liftF at hf
  simp only at hf
  split at hf
  ·cases hf
  ·rename_i hn
   obtain ⟨n, e1, e2⟩ := callee_name _ _ hn
   rw [e1] at hf
   split at hf
   ·rename_i m vs em ev
    cases em
    simp only [Option.some.injEq, Prod.mk.injEq] at hf
    obtain ⟨rfl, rfl⟩ := hf
    refine ⟨by rw [h2 _ (List.mem_of_getElem? e1), e2], ?_⟩
    rw [hu, List.getElem?_map, Option.map_eq_some_iff] at ev
    obtain ⟨_, _, rfl⟩ := ev; rfl
   ·cases hf
 unfold liftP
 simp only
 rw [if_neg (by omega), if_neg, hz, liftRs_flat hk _ _ fun n hn => ⟨h2 n hn, hi _ (hm n hn)⟩, h3, keepSs (hk _)]
 rw [hz]
 simp only [List.any_map, List.any_eq_true, not_exists, not_and]
 intro n hn
 have := hp _ (hm n hn)
 simp [tooMany]; omega
theorem right_flat {p : Prg} (ht : tPrg p = true) : p.routines.length ≤ 512 ∧ ∀ r ∈ p.routines, r.params.length ≤ 512 := by
 unfold tPrg at ht
 simp only [Bool.and_eq_true, decide_eq_true_eq] at ht
 obtain ⟨⟨_, hr, hl⟩, _⟩ := ht
 refine ⟨hl, fun r hm => ?_⟩
 obtain ⟨a, h⟩ := tRoutines_mem hr hm
 rw [tRoutine_eq] at h
 simp only [Bool.and_eq_true, tParams, decide_eq_true_eq] at h
 grind
theorem LiftFlat_spec [GI] (hm : Max0) (h : AHeap) (p : Prg) (ho : p.ok) (hf : p.fit) (hw : wP p ≤ 1048576) : ACalls Go.Proofs.Tryz.prog 5 [.agg (ePrg p)] h (fun v g => v = .bool true ∧ g = h) := by
 refine F5.calls (by simp) ?_
 delta F5.c0
 simp only [↓pgPre,go_sem,seval, ePrg_len, prg_take]
 refine callT_of (tPrg_spec p ho hf h) (fun v g ⟨hv, hg⟩ => ?_)
 subst v g
 cases ht : tPrg p with
 | false =>
  simp only [↓pgPre,go_sem,seval]
  refine callT_of (awakeL_spec hm h) (fun v g ⟨hv, hg⟩ => ?_)
  subst v g
  simp only [↓pgPre,go_sem,seval]
  exact .same ⟨rfl, rfl⟩
 | true =>
  obtain ⟨r1, r2⟩ := right_flat ht
  simp only [↓pgPre,go_sem,seval, ePrg_len, prg_take]
  refine callT_of (Right_spec h p ho ht) (fun v g ⟨hv, hg⟩ => ?_)
  subst v g
  by_cases hc : (check p).2 = 0
  ·simp only [↓pgPre,go_sem,seval, hc]
   refine lT_list p.routines (fun pre post e g => (∀ r ∈ pre, r.inner = []) ∧ g = h ∧ e = [(1, .ip (ePrg p) 0), (3, .int .i64 pre.length)]) (WeakE.env ?_) ⟨by simp, rfl, rfl⟩ ?_ ?_
   ·skip
    repeat' (first | exact EnvLe.nil _ | refine EnvLe.cons ?_ ?_)
    all_goals (simp only [↓pgPre,go_sem,seval]; try first | exact AVle.refl _ | exact AVle.sl _ _ | exact AVle.gs _ _ _ | assumption)
   ·rintro pre x post e g hp ⟨hi, rfl, rfl⟩
    by_cases hx : x.inner = []
    ·have hl : (((x.inner.length : Nat) : Int) > 0) = False := by rw [hx]; simp
     simp only [↓pgPre,go_sem,seval, prg_6, lt_at hp, aia_sl (map_at hp) (eRoutine_len x), routine_6, hl]
     refine ⟨_, _, WeakE.env ?_, ?_, rfl, rfl⟩
     ·skip
      repeat' (first | exact EnvLe.nil _ | refine EnvLe.cons ?_ ?_)
      all_goals (simp only [↓pgPre,go_sem,seval, step_at ho.routines hp]; try first | exact AVle.refl _ | exact AVle.sl _ _ | exact AVle.gs _ _ _ | assumption)
     ·intro r hr
      rcases List.mem_append.1 hr with hr | hr
      ·exact hi r hr
      ·simp at hr; subst hr; exact hx
    ·have hl : (((x.inner.length : Nat) : Int) > 0) = True := by
      have := List.length_pos_iff.2 hx
      simp; omega
     simp only [↓pgPre,go_sem,seval, prg_6, lt_at hp, aia_sl (map_at hp) (eRoutine_len x), routine_6, hl]
     refine callT_of (awakeL_spec hm _) (fun v g ⟨hv, hg⟩ => ?_)
     subst v g
     simp only [↓pgPre,go_sem,seval]
     refine lessQ.same ?_
     simp only [↓pgPre,go_sem,seval]
     exact .same ⟨rfl, rfl⟩
   ·rintro e g ⟨hi, rfl, rfl⟩
    simp only [↓pgPre,go_sem,seval, prg_6, lt_end]
    refine lessQ.same ?_
    simp only [↓pgPre,go_sem,seval, ePrg_len, prg_take]
    refine callT_of (Lift_good hm g p ho hw hc) (fun v g2 ⟨hv, hg⟩ => ?_)
    subst v g2
    rw [flat_lift hi r1 r2]
    simp only [↓pgPre,go_sem,seval]
    refine callT_of (Same_spec p ho _) (fun v g ⟨hv, hg⟩ => ?_)
    subst v g
    simp only [↓pgPre,go_sem,seval]
    refine callT_of (awakeL_spec hm _) (fun v g ⟨hv, hg⟩ => ?_)
    subst v g
    simp only [↓pgPre,go_sem,seval]
    exact .same ⟨rfl, rfl⟩
  ·simp only [↓pgPre,go_sem,seval, hc]
   refine callT_of (awakeL_spec hm h) (fun v g ⟨hv, hg⟩ => ?_)
   subst v g
   simp only [↓pgPre,go_sem,seval]
   exact .same ⟨rfl, rfl⟩
end Pg
