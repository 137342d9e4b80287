import Derived.Test.YtlflapoljegmoaaGreatDoorTreeSE
import Derived.Test.YtlflapoljegmoaaGreatDoorCodeRJE
import Derived.Test.YtlflapoljegmoaaGreatDoorCodeIJE
import Derived.Test.YtlflapoljegmoaaGreatDoorAwakeLJE
namespace Pg
open Go Go.Proofs.Tryz
set_option linter.all false
set_option maxHeartbeats 4000000
set_option maxRecDepth 4000
theorem short_of {s : ByteArray} (h : small s) : short s := by unfold small at h; unfold short; omega
theorem liftE_fit {f : ByteArray → Option (ByteArray × List Param)} (hf : ∀ name path us, f name = some (path, us) → short path ∧ ∀ u ∈ us, short u.name) : ∀ (n : Nat) (x : Expr), x.sz < n → x.fit → (liftE f x).fit
 | 0, x, h, _ => absurd h (Nat.not_lt_zero _)
 | n + 1, x, h, hx => by
  rw [Expr.sz_eq] at h
  obtain ⟨a, b, c, d, e⟩ := (Expr.fit_iff x).1 hx
  have hl : ∀ y ∈ liftEs f x.l, y.fit := fun y hy => by
   rw [liftEs_map] at hy
   obtain ⟨z, hz, rfl⟩ := List.mem_map.1 hy
   have := Exprs.sz_mem hz
   exact liftE_fit hf n z (by omega) (e z hz)
  rw [liftE_eq]
  split
  ·split
   ·rename_i path us he
    obtain ⟨h1, h2⟩ := hf _ _ _ he
    refine (Expr.fit_iff _).2 ⟨a, b, h1, d, fun y hy => ?_⟩
    rcases List.mem_append.1 hy with hy | hy
    ·exact hl y hy
    ·obtain ⟨u, hu, rfl⟩ := List.mem_map.1 hy
     refine (Expr.fit_iff _).2 ⟨by unfold i64; simp [upE], by unfold i64; simp [upE], h2 u hu, show short noBytes by unfold short; decide, by simp [upE]⟩
   ·exact (Expr.fit_iff _).2 ⟨a, b, c, d, hl⟩
  ·exact (Expr.fit_iff _).2 ⟨a, b, c, d, hl⟩
theorem liftSs_fit {f : ByteArray → Option (ByteArray × List Param)} (hf : ∀ name path us, f name = some (path, us) → short path ∧ ∀ u ∈ us, short u.name) : ∀ (n : Nat) (l : List Stmt), Stmts.sz l < n → (∀ x ∈ l, x.fit) → ∀ y ∈ liftSs f l, y.fit
 | 0, l, h, _ => absurd h (Nat.not_lt_zero _)
 | n + 1, l, h, hl => fun y hy => by
  rw [liftSs_map] at hy
  obtain ⟨z, hz, rfl⟩ := List.mem_map.1 hy
  have hz' := Stmts.sz_mem hz
  rw [Stmt.sz_eq] at hz'
  obtain ⟨a1, a2, a3, a4, a5, a6, a7, a8, a9, a10⟩ := (Stmt.fit_iff z).1 (hl z hz)
  have es : ∀ l : List Expr, (∀ x ∈ l, x.fit) → ∀ y ∈ liftEs f l, y.fit := fun l hl y hy => by
   rw [liftEs_map] at hy
   obtain ⟨w, hw, rfl⟩ := List.mem_map.1 hy
   exact liftE_fit hf _ w (Nat.lt_succ_self _) (hl w hw)
  obtain ⟨p1, p2, p3, p4, p5⟩ := (Expr.fit_iff z.p).1 a5
  rw [liftS_eq]
  exact (Stmt.fit_iff _).2 ⟨a1, a2, a3, a4, (Expr.fit_iff _).2 ⟨p1, p2, p3, p4, es _ p5⟩, es _ a6, liftSs_fit hf n z.body (by omega) a7, liftSs_fit hf n z.els (by omega) a8, a9, a10⟩
theorem lift_fit {p : Prg} (ht : tPrg p = true) (hf : p.fit) (h : (liftP p).2 = 0) : (liftP p).1.fit := by
 obtain ⟨g1, g2, g3⟩ := liftP_good h
 obtain ⟨f1, f2, f3, f4, f5, f6, f7, f8, f9⟩ := hf
 have hall : ∀ n ∈ nodesOf p.routines, n.r.fit := capL_all (P := fun x => x.fit) (fun x hx y hy => ((Routine.fit_iff x).1 hx).2.2.2.2.2.2.1 y hy) _ p.routines (Nat.lt_succ_self _) f7 0 p.routines (-1) noBytes
 have hff : ∀ a name path us, liftF (nodesOf p.routines) (cUps p.routines) a name = some (path, us) → short path ∧ ∀ u ∈ us, short u.name := fun a name path us he => by
  obtain ⟨_, _, _, k4, _, k6⟩ := (liftF_lf ht h a).h _ _ _ he
  exact ⟨short_of k4, fun u hu => short_of (k6 u hu).2.1⟩
 have hup : ∀ us ∈ cUps p.routines, ∀ u ∈ us, u.fit := fun us hus u hu => by
  unfold cUps at hus
  obtain ⟨j, _, rfl⟩ := List.mem_map.1 hus
  obtain ⟨i, n, k, h1, h2, _⟩ := upN_mem hu
  obtain ⟨_, _, _, _, t1, t2, _⟩ := (Routine.fit_iff n.r).1 (hall n (List.mem_of_getElem? h1))
  have hm := List.mem_of_getElem? h2
  unfold locs at hm
  rcases List.mem_append.1 hm with hm | hm
  ·obtain ⟨v, hv, rfl⟩ := List.mem_map.1 hm
   obtain ⟨v1, v2, _⟩ := t1 v hv
   exact ⟨v1, v2, by unfold i64; simp⟩
  ·obtain ⟨v, hv, rfl⟩ := List.mem_map.1 hm
   obtain ⟨_, _, v1, v2⟩ := t2 v hv
   exact ⟨v1, v2, by unfold i64; simp⟩
 rw [g3]
 refine ⟨f1, f2, f3, f4, f5, f6, fun r hr => ?_, liftSs_fit (hff _) _ _ (Nat.lt_succ_self _) f8, f9⟩
 obtain ⟨j, q, hq, rfl⟩ := liftRs_mem hr
 have hm := List.mem_of_getElem? hq
 have hz := List.of_mem_zip (show (q.1, q.2) ∈ _ from hm)
 obtain ⟨t1, t2, t3, t4, t5, t6, t7, t8, t9⟩ := (Routine.fit_iff q.1.r).1 (hall q.1 hz.1)
 obtain ⟨_, b, b1, b2, b3, _⟩ := tree_paths ht q.1 hz.1
 refine (Routine.fit_iff _).2 ⟨t1, t2, ?_, t4, fun v hv => ?_, t6, by simp [liftR], liftSs_fit (hff _) _ _ (Nat.lt_succ_self _) t8, t9⟩
 ·simp only [liftR]; unfold short; omega
 ·rcases List.mem_append.1 hv with hv | hv
  ·exact t5 v hv
  ·exact hup _ hz.2 v hv
section
variable {S : ByteArray → Prop}
theorem part_in {s m : ByteArray} (h : S s ∧ plain s) (hm : m ∈ parts s) : S m := by rw [parts_plain h.2] at hm; simp only [List.mem_singleton] at hm; subst hm; exact h.1
theorem nmE_in : ∀ (n : Nat) (x : Expr), x.sz < n → inE (fun s => S s ∧ plain s) x → ∀ m ∈ nmE x, S m
 | 0, x, h, _ => absurd h (Nat.not_lt_zero _)
 | n + 1, x, h, hi => fun m hm => by
  obtain ⟨a, b, c⟩ := (inE_eq _ x).1 hi
  rw [Expr.sz_eq] at h
  rw [nmE_eq, List.mem_append, List.mem_append, nmEs_map] at hm
  rcases hm with (hm | hm) | hm
  ·exact part_in a hm
  ·exact part_in b hm
  ·obtain ⟨y, hy, hm⟩ := List.mem_flatMap.1 hm
   have := Exprs.sz_mem hy
   exact nmE_in n y (by omega) (inEs_mem c y hy) m hm
theorem nmSs_in : ∀ (n : Nat) (l : List Stmt), Stmts.sz l < n → inSs (fun s => S s ∧ plain s) l → ∀ m ∈ nmSs l, S m
 | 0, l, h, _ => absurd h (Nat.not_lt_zero _)
 | n + 1, l, h, hi => fun m hm => by
  rw [nmSs_map] at hm
  obtain ⟨y, hy, hm⟩ := List.mem_flatMap.1 hm
  have hz := Stmts.sz_mem hy
  rw [Stmt.sz_eq] at hz
  obtain ⟨a, b, c, d, e⟩ := (inS_eq _ y).1 (inSs_mem hi y hy)
  rw [nmS_eq] at hm
  simp only [List.mem_append] at hm
  rcases hm with (((hm | hm) | hm) | hm) | hm
  ·exact part_in a hm
  ·exact nmE_in _ _ (Nat.lt_succ_self _) b m hm
  ·rw [nmEs_map] at hm
   obtain ⟨z, hz, hm⟩ := List.mem_flatMap.1 hm
   exact nmE_in _ _ (Nat.lt_succ_self _) (inEs_mem c z hz) m hm
  ·exact nmSs_in n y.body (by omega) d m hm
  ·exact nmSs_in n y.els (by omega) e m hm
theorem nmVars_in {l : List Var} (h : ∀ v ∈ l, inVar (fun s => S s ∧ plain s) v) : ∀ m ∈ nmVars l, S m := fun m hm => by
 obtain ⟨v, hv, hm⟩ := List.mem_flatMap.1 hm
 rcases List.mem_append.1 hm with hm | hm
 ·exact part_in (h v hv).1 hm
 ·exact part_in (h v hv).2 hm
theorem nmRs_all : ∀ (n : Nat) (l : List Routine), Routines.sz l < n → inRs (fun s => S s ∧ plain s) l → ∀ m ∈ nmRs l, S m
 | 0, l, h, _ => absurd h (Nat.not_lt_zero _)
 | n + 1, l, h, hi => fun m hm => by
  rw [nmRs_map] at hm
  obtain ⟨y, hy, hm⟩ := List.mem_flatMap.1 hm
  have hz := Routines.sz_mem hy
  rw [Routine.sz_eq] at hz
  obtain ⟨a, b, c, d, e⟩ := (inR_eq _ y).1 (inRs_mem hi y hy)
  rw [nmR_eq] at hm
  simp only [List.mem_append] at hm
  rcases hm with (((hm | hm) | hm) | hm) | hm
  ·exact part_in a hm
  ·obtain ⟨v, hv, hm⟩ := List.mem_flatMap.1 hm
   rcases List.mem_append.1 hm with hm | hm
   ·exact part_in (b v hv).1 hm
   ·exact part_in (b v hv).2 hm
  ·exact nmVars_in c m hm
  ·exact nmRs_all n y.inner (by omega) d m hm
  ·exact nmSs_in _ _ (Nat.lt_succ_self _) e m hm
theorem nmP_in {p : Prg} (h : inP (fun s => S s ∧ plain s) p) : ∀ m ∈ nmP p, S m := fun m hm => by
 unfold nmP at hm
 simp only [List.mem_append] at hm
 rcases hm with (((hm | hm) | hm) | hm) | hm
 ·exact part_in h.name hm
 ·obtain ⟨r, hr, hm⟩ := List.mem_flatMap.1 hm
  rcases List.mem_append.1 hm with hm | hm
  ·exact part_in (h.recs r hr).1 hm
  ·obtain ⟨f, hf, hm⟩ := List.mem_flatMap.1 hm
   exact part_in ((h.recs r hr).2 f hf) hm
 ·exact nmVars_in h.vars m hm
 ·exact nmRs_all _ _ (Nat.lt_succ_self _) h.routines m hm
 ·exact nmSs_in _ _ (Nat.lt_succ_self _) h.body m hm
end
theorem Clean_spec [GI] (h : AHeap) (p : Prg) (ho : p.ok) (ht : tPrg p = true) (hw : wP p ≤ 1048576) : ACalls prog 14 [.agg (ePrg p)] h (fun v g => v = .bool ((names p).all D1.tName) ∧ g = h) := by
 have hnl := nmP_len (tPrg_plain ht)
 have hsm : inP small p := tPrg_in (fun _ h => (tName_tame h).1) (by unfold small; decide) ht
 have hfew : few (names p) := by
  have := once_len (nmP p) []
  unfold few names
  simp at this; omega
 refine F14.calls (by simp) ?_
 delta F14.c0
 simp only [go_sem,seval, ePrg_len, prg_take]
 refine tcE (Names_spec p ho hsm (by unfold roomy; omega) h) ?_
 simp only [go_sem,seval]
 refine lT_list (names p) (fun pre post e g => ((names p).all D1.tName = post.all D1.tName ∧ g = h) ∧ e = [(3, .sl (txt (names p)) false), (4, .int .i64 pre.length)]) (WeakE.env ?_) ⟨⟨rfl, rfl⟩, rfl⟩ ?_ ?_
 ·simp only [go_sem,seval]
 ·rintro pre x post e g hp ⟨⟨hn, rfl⟩, rfl⟩
  have hx : short x := by
   have := mem_at hp
   rcases (once_mem _ _ _).1 this with h | ⟨h1, _⟩
   ·simp at h
   ·exact short_of (nmP_in (S := small) (tPrg_in (fun _ h => tName_tame h) ⟨by unfold small; decide, plain_none⟩ ht) x h1)
  simp only [go_sem,seval, lt_at hp, aia_sl (size := 1) (txt_at hp) rfl]
  refine tcE (D1.Name_spec g x hx) ?_
  cases hc : D1.tName x
  ·simp only [go_sem,seval]
   refine lessQ.same ?_
   simp only [go_sem,seval]
   exact .same ⟨by rw [hn]; simp [hc], rfl⟩
  ·simp only [go_sem,seval]
   refine ⟨_, _, WeakE.env ?_, ⟨?_, rfl⟩, rfl⟩
   ·simp only [go_sem,seval, step_at hfew hp]
   ·rw [hn]; simp [hc]
 ·rintro e g ⟨⟨hn, rfl⟩, rfl⟩
  simp only [go_sem,seval, lt_end]
  refine lessQ.same ?_
  simp only [go_sem,seval]
  exact .same ⟨by rw [hn]; simp, rfl⟩
theorem LiftRight_spec [GI] (hm : Max0) (h : AHeap) (p : Prg) (ho : p.ok) (hf : p.fit) (hw : wP p ≤ 1048576) : ACalls prog 4 [.agg (ePrg p)] h (fun v g => v = .bool true ∧ g = h) := by
 refine F4.calls (by simp) ?_
 delta F4.c0
 simp only [go_sem,seval, ePrg_len, prg_take]
 refine tcE (tPrg_spec p ho hf h) ?_
 cases ht : tPrg p
 ·simp only [go_sem,seval]
  refine tcE (awakeL_spec hm h) ?_
  simp only [go_sem,seval]
  exact .same ⟨rfl, rfl⟩
 simp only [go_sem,seval, ePrg_len, prg_take]
 refine tcE (Clean_spec h p ho ht hw) ?_
 cases hcl : (names p).all D1.tName
 ·simp only [go_sem,seval]
  refine tcE (awakeL_spec hm h) ?_
  simp only [go_sem,seval]
  exact .same ⟨rfl, rfl⟩
 simp only [go_sem,seval, ePrg_len, prg_take]
 by_cases hc : (check p).2 = 0
 ·refine tcE (Lift_good hm h p ho hw hc) ?_
  by_cases h0 : (liftP p).2 = 0
  ·obtain ⟨n1, n2, n3, n4⟩ := lift_names ht hw h0
   simp only [go_sem,seval, h0, ne_eq, not_true_eq_false]
   refine tcE (D1.tPrg_spec (liftP p).1 (lift_ok ho hw h0) (lift_fit ht hf h0) n4 h) ?_
   rw [lift_right ht hcl hc h0]
   simp only [go_sem,seval]
   refine tcE (awakeL_spec hm h) ?_
   simp only [go_sem,seval]
   exact .same ⟨rfl, rfl⟩
  ·simp only [go_sem,seval, h0, ne_eq, not_false_eq_true]
   refine tcE (awakeL_spec hm h) ?_
   simp only [go_sem,seval]
   exact .same ⟨rfl, rfl⟩
 ·refine tcE (Lift_bad h p ho hc) ?_
  simp only [go_sem,seval, ne_eq]
  refine tcE (awakeL_spec hm h) ?_
  simp only [go_sem,seval]
  exact .same ⟨rfl, rfl⟩
end Pg
