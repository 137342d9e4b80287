import Derived.Test.YtdfbkddelhbgmaaGreatDoorTreeSS2
import Derived.Test.YtdfbkddelhbgmaaGreatDoorCkXS2
set_option linter.all false
set_option maxHeartbeats 4000000
set_option maxRecDepth 4000
namespace Pg
open Go Go.Proofs.Tryz
def Old (h g : AHeap) (c : Nat) : Prop := ∀ b, b ≠ c → h b ≠ none → g b = h b
theorem Old.refl (h : AHeap) (c : Nat) : Old h h c := fun _ _ _ => rfl
theorem Old.trans {h g k : AHeap} {c : Nat} (a : Old h g c) (b : Old g k c) : Old h k c := fun x h1 h2 => (b x h1 (by rw [a x h1 h2]; exact h2)).trans (a x h1 h2)
theorem Old.next (h : AHeap) (c : Nat) (o : AObj) : Old h (h.upd c o) c := fun b h1 _ => upd_ne _ _ _ h1
theorem Old.fresh {h : AHeap} {m : Nat} (hm : h m = none) (c : Nat) (o : AObj) : Old h (h.upd m o) c := fun b h1 h2 => upd_ne _ _ _ (by intro hh; subst hh; exact h2 hm)
theorem Chain.same {h g : AHeap} : ∀ {fs : List Scope} {sp : AV} {bs : List Nat}, (∀ b ∈ bs, g b = h b) → Chain h sp fs bs → Chain g sp fs bs
 | [], _, _, _, c => c
 | f :: fs, _, _, e, ⟨m, par, bs', h1, h2, h4, h5⟩ => by
  subst h1
  exact ⟨m, par, bs', rfl, h2, by rw [e m (by simp)]; exact h4, h5.same fun b hb => e b (by simp [hb])⟩
theorem CkIn.next' {h : AHeap} {c : Nat} {sp inp : AV} {s : CS} {fs : List Scope} {bs : List Nat} (k : CkIn h c sp inp s fs bs) (inp' : AV) (s' : CS) : CkIn (h.upd c (ckBlk sp s' inp')) c sp inp' s' fs bs := ⟨upd_same _ _ _, k.ch.upd _ k.hn, k.hn⟩
def RoutinesC [GI] (l : List Routine) : Prop := ∀ {h : AHeap} {c : Nat} {sp inp : AV} {s : CS} {fs : List Scope} {bs : List Nat} (k : CkIn h c sp inp s fs bs) (hd : bs.Nodup) (hg : Good fs) (hi : inp.cells? = some [inp]) (full : Bool),
 ACalls prog 61 [.ptr (some ⟨c, 0, none⟩), .sl (l.map eRoutine) full] h (fun v g => v = .tuple [] ∧ ∃ m', m' ∉ bs ∧ CkIn g c (.ip [sp, .map (some m')] 0) inp (ckRoutines fs (allOf [] l :: fs) s l) (allOf [] l :: fs) (m' :: bs) ∧ Old h g c)
theorem routine_of [GI] (x : Routine) (ho : x.ok) (ih : RoutinesC x.inner) {h : AHeap} {c m : Nat} {sp inp : AV} {s : CS} {f : Scope} {all : List Scope} {bs : List Nat} (k : CkIn h c sp inp s (f :: all) (m :: bs)) (hd : (m :: bs).Nodup) (hg : Good (f :: all)) (hf : f = []) (hi : inp.cells? = some [inp]) :
  ACalls prog 99 [.ptr (some ⟨c, 0, none⟩), .ip (eRoutine x) 0] h (fun v g => v = .tuple [] ∧ ∃ sp', g c = some (ckBlk sp' (ckRoutine all s x) inp) ∧ ∀ b, b ≠ c → b ≠ m → h b ≠ none → g b = h b) := by
 have hok := (Routine.ok_iff x).1 ho
 have hpar : few x.params := hok.2.2.1
 have hvars : few x.vars := hok.2.2.2.1
 have hinner : few x.inner := hok.2.2.2.2.2.1
 refine F99.calls (by simp) ?_
 delta F99.c0
 simp only [go_sem,seval]
 refine lT_list x.params (fun pre post e g => (∃ s' f', ckParams (f :: all) s x.params = ckParams (f' :: all) s' post ∧ CkIn g c sp inp s' (f' :: all) (m :: bs) ∧ Keeps h g c m) ∧ e = [(0, .ptr (some ⟨c, 0, none⟩)), (1, .ip (eRoutine x) 0), (10, .sl (x.params.map eParam) false), (11, .int .i64 x.params.length), (12, .int .i64 pre.length)]) (WeakE.env ?_) ⟨⟨s, f, rfl, k, .refl _ _ _⟩, rfl⟩ ?_ ?_
 ·simp only [go_sem,seval]
 ·rintro pre y post e g hp ⟨⟨s', f', hs, k', ke⟩, rfl⟩
  simp only [go_sem,seval, lt_at hp, aia_sl (map_at hp) (eParam_len y)]
  refine callT_of (lay_spec' k' hd y.name (.var y.t)) (fun v g1 ⟨hv, k3, ke3⟩ => ?_)
  subst hv
  simp only [go_sem,seval]
  refine tcE (typ_spec k3.hc k3.ch y.t) ?_
  simp only [go_sem,seval]
  obtain ⟨f2, hf2⟩ := lay_tail f' all s' y.name (.var y.t)
  refine ⟨_, _, WeakE.env ?_, ⟨ckTyp (ckLay (f' :: all) s' y.name (.var y.t)).1 (ckLay (f' :: all) s' y.name (.var y.t)).2 y.t, f2, ?_, ?_, (ke.trans ke3).trans (.next _ _ _ _)⟩, rfl⟩
  ·simp only [go_sem,seval, step_at hpar hp]
  ·rw [hs]; simp only [ckParams, hf2]
  ·have := k3.next (ckTyp (ckLay (f' :: all) s' y.name (.var y.t)).1 (ckLay (f' :: all) s' y.name (.var y.t)).2 y.t)
   rw [hf2] at this ⊢
   exact this
 ·rintro e g ⟨⟨s', f1, hs, k', ke⟩, rfl⟩
  have hg1 : Good (f1 :: all) := by
   have := Good.params (l := x.params) (s := s) hg
   rw [hs] at this
   simpa only [ckParams] using this
  simp only [go_sem,seval, lt_end]
  refine lessQ.same ?_
  simp only [go_sem,seval]
  by_cases hr : 0 < x.result
  ·have hr' : (x.result > 0) = True := by simpa using hr
   simp only [go_sem,seval, hr']
   refine tcE (Ends_spec _ x.body (Nat.le_refl _) hok.2.2.2.2.2.2.2.1 hok.2.2.2.2.2.2.2.2.1 false _) ?_
   cases he : endL x.body with
   | false =>
    simp only [go_sem,seval]
    refine tcE (fail_spec k'.hc 16) ?_
    have k1 := k'.next (s'.fail 16)
    simp only [go_sem,seval]
    refine callT_of (variables_spec k1 hd x.vars hvars x.inner hinner false false) (fun v g2 ⟨hv, k2, ke2⟩ => ?_)
    subst hv
    have hg2 : Good (ckVars (f1 :: all) (s'.fail 16) x.vars x.inner).1 := hg1.vars
    generalize e2 : ckVars (f1 :: all) (s'.fail 16) x.vars x.inner = q at k2 hg2
    simp only [go_sem,seval]
    refine callT_of (ih k2 hd hg2 hi false) (fun v g3 ⟨hv, m3, hm3, k3, ke3⟩ => ?_)
    subst hv
    generalize e3 : ckRoutines q.1 (allOf [] x.inner :: q.1) q.2 x.inner = s3 at k3
    have kc := k3.cell
    simp only [go_sem,seval, ↓kc]
    have k4 := k3.next' (.ip (eRoutine x) 0) s3
    refine tcE (stmts_spec _ x.body (Nat.le_refl _) hok.2.2.2.2.2.2.2.1 hok.2.2.2.2.2.2.2.2.1 (.inr ⟨x, rfl, rfl⟩) k4 (Good.fewIn (hg2.all hok.2.2.2.2.2.2.1)) false) ?_
    generalize e4 : ckStmts _ s3 x.result x.body = s4
    have k5 := (k3.next' (.ip (eRoutine x) 0) s4).cell
    simp only [go_sem,seval, ↓upd_upd, ↓k5, hi]
    have e5 : ckRoutine all s x = s4 := by
     subst hf
     simp only [ckParams] at hs
     rw [ckRoutine_eq]
     simp only [hs, hr, he, and_self, and_false, false_and, if_true, if_false, reduceCtorEq, e2, e3, e4]
    refine .same ⟨rfl, _, by rw [upd_same, e5]; rfl, ?_⟩
    intro b h1 h2 h3
    have e6 : g b = h b := ke b h1 h2
    rw [upd_ne _ _ _ h1]
    have e7 : g2 b = h b := (ke2 b h1 h2).trans ((upd_ne _ _ _ h1).trans e6)
    rw [ke3 b h1 (by rw [e7]; exact h3), e7]
   | true =>
    simp only [go_sem,seval]
    refine callT_of (variables_spec k' hd x.vars hvars x.inner hinner false false) (fun v g2 ⟨hv, k2, ke2⟩ => ?_)
    subst hv
    have hg2 : Good (ckVars (f1 :: all) s' x.vars x.inner).1 := hg1.vars
    generalize e2 : ckVars (f1 :: all) s' x.vars x.inner = q at k2 hg2
    simp only [go_sem,seval]
    refine callT_of (ih k2 hd hg2 hi false) (fun v g3 ⟨hv, m3, hm3, k3, ke3⟩ => ?_)
    subst hv
    generalize e3 : ckRoutines q.1 (allOf [] x.inner :: q.1) q.2 x.inner = s3 at k3
    have kc := k3.cell
    simp only [go_sem,seval, ↓kc]
    have k4 := k3.next' (.ip (eRoutine x) 0) s3
    refine tcE (stmts_spec _ x.body (Nat.le_refl _) hok.2.2.2.2.2.2.2.1 hok.2.2.2.2.2.2.2.2.1 (.inr ⟨x, rfl, rfl⟩) k4 (Good.fewIn (hg2.all hok.2.2.2.2.2.2.1)) false) ?_
    generalize e4 : ckStmts _ s3 x.result x.body = s4
    have k5 := (k3.next' (.ip (eRoutine x) 0) s4).cell
    simp only [go_sem,seval, ↓upd_upd, ↓k5, hi]
    have e5 : ckRoutine all s x = s4 := by
     subst hf
     simp only [ckParams] at hs
     rw [ckRoutine_eq]
     simp only [hs, hr, he, and_self, and_false, false_and, if_true, if_false, reduceCtorEq, e2, e3, e4]
    refine .same ⟨rfl, _, by rw [upd_same, e5]; rfl, ?_⟩
    intro b h1 h2 h3
    have e6 : g b = h b := ke b h1 h2
    rw [upd_ne _ _ _ h1]
    have e7 : g2 b = h b := (ke2 b h1 h2).trans e6
    rw [ke3 b h1 (by rw [e7]; exact h3), e7]
  ·have hr' : (x.result > 0) = False := by simpa using hr
   simp only [go_sem,seval, hr']
   refine callT_of (variables_spec k' hd x.vars hvars x.inner hinner false false) (fun v g2 ⟨hv, k2, ke2⟩ => ?_)
   subst hv
   have hg2 : Good (ckVars (f1 :: all) s' x.vars x.inner).1 := hg1.vars
   generalize e2 : ckVars (f1 :: all) s' x.vars x.inner = q at k2 hg2
   simp only [go_sem,seval]
   refine callT_of (ih k2 hd hg2 hi false) (fun v g3 ⟨hv, m3, hm3, k3, ke3⟩ => ?_)
   subst hv
   generalize e3 : ckRoutines q.1 (allOf [] x.inner :: q.1) q.2 x.inner = s3 at k3
   have kc := k3.cell
   simp only [go_sem,seval, ↓kc]
   have k4 := k3.next' (.ip (eRoutine x) 0) s3
   refine tcE (stmts_spec _ x.body (Nat.le_refl _) hok.2.2.2.2.2.2.2.1 hok.2.2.2.2.2.2.2.2.1 (.inr ⟨x, rfl, rfl⟩) k4 (Good.fewIn (hg2.all hok.2.2.2.2.2.2.1)) false) ?_
   generalize e4 : ckStmts _ s3 x.result x.body = s4
   have k5 := (k3.next' (.ip (eRoutine x) 0) s4).cell
   simp only [go_sem,seval, ↓upd_upd, ↓k5, hi]
   have e5 : ckRoutine all s x = s4 := by
    subst hf
    simp only [ckParams] at hs
    rw [ckRoutine_eq]
    simp only [hs, hr, hr, and_self, and_false, false_and, if_true, if_false, reduceCtorEq, e2, e3, e4]
   refine .same ⟨rfl, _, by rw [upd_same, e5]; rfl, ?_⟩
   intro b h1 h2 h3
   have e6 : g b = h b := ke b h1 h2
   rw [upd_ne _ _ _ h1]
   have e7 : g2 b = h b := (ke2 b h1 h2).trans e6
   rw [ke3 b h1 (by rw [e7]; exact h3), e7]
end Pg
namespace Pg
open Go Go.Proofs.Tryz
theorem allOf_append (x : Routine) : ∀ (l : List Routine) (f : Scope), allOf f (l ++ [x]) = setIn x.name (.routine x) (allOf f l)
 | [], f => rfl
 | y :: l, f => by simp only [List.cons_append, allOf]; exact allOf_append x l _
theorem Chain.up {h : AHeap} {sp : AV} {m : Nat} {f : Scope} {fs : List Scope} {bs : List Nat} (c : Chain h (.ip [sp, .map (some m)] 0) (f :: fs) (m :: bs)) : Chain h sp fs bs := by
 obtain ⟨m2, par, bs2, hb, hsp, hm2, hch⟩ := c
 obtain ⟨rfl, rfl⟩ := List.cons.inj hb
 simp only [AV.ip.injEq, List.cons.injEq, and_true] at hsp
 rw [hsp]; exact hch
theorem CkIn.deeper {h : AHeap} {c : Nat} {sp inp : AV} {s : CS} {fs : List Scope} {bs : List Nat} (k : CkIn h c sp inp s fs bs) {m : Nat} (hm : h m = none) (f : Scope) :
  CkIn ((h.upd m (.mp (f.map eEntry))).upd c (ckBlk (.ip [sp, .map (some m)] 0) s inp)) c (.ip [sp, .map (some m)] 0) inp s (f :: fs) (m :: bs) := by
 have hne := k.ne hm
 refine ⟨upd_same _ _ _, ⟨m, sp, bs, rfl, rfl, by rw [upd_ne _ _ _ hne.symm, upd_same], (k.ch.upd _ (k.ch.fresh hm)).upd _ k.hn⟩, ?_⟩
 simp only [List.mem_cons, not_or]; exact ⟨hne, k.hn⟩
theorem routines_of [GI] (l : List Routine) (ih : ∀ x ∈ l, RoutinesC x.inner) (hw : few l) (ho : ∀ x ∈ l, x.ok) : RoutinesC l := by
 intro h c sp inp s fs bs k hd hg hi full
 have hcl := k.cell
 refine F61.calls (by simp) ?_
 delta F61.c0
 simp only [go_sem,seval, hcl]
 refine callT_of (deeper_spec k.ch.cells) (fun v g ⟨m, hm, hv, hg'⟩ => ?_)
 subst hv hg'
 have hcm := k.ne hm
 simp only [go_sem,seval, hcl, upd_ne _ _ _ hcm]
 refine lT_list l (fun pre post e g => g = (h.upd m (.mp ((allOf [] pre).map eEntry))).upd c (ckBlk (.ip [sp, .map (some m)] 0) s inp) ∧ e = [(0, .ptr (some ⟨c, 0, none⟩)), (1, .sl (l.map eRoutine) full), (4, sp), (20, .int .i64 l.length), (21, .int .i64 pre.length)]) (WeakE.env ?_) ⟨rfl, rfl⟩ ?_ ?_
 ·simp only [go_sem,seval]
 ·rintro pre x post e g hp ⟨rfl, rfl⟩
  simp only [go_sem,seval, lt_at hp, aia_sl (map_at hp) (eRoutine_len x), ckBlk]
  refine mapupT_of (es := (allOf [] pre).map eEntry) (by rw [upd_ne _ _ _ hcm.symm, upd_same]) (aset_scope x.name (.routine x) _) rfl ?_
  simp only [go_sem,seval, upd_ne _ _ _ hcm]
  refine ⟨_, _, WeakE.env ?_, ?_, rfl⟩
  ·simp only [go_sem,seval, step_at hw hp]
  ·rw [upd_comm _ _ _ hcm, upd_upd, allOf_append]
 ·rintro e g ⟨rfl, rfl⟩
  simp only [go_sem,seval, lt_end, ckBlk]
  refine lessQ.same ?_
  simp only [go_sem,seval, ckBlk]
  have k0 := k.deeper hm (allOf [] l)
  have o0 : Old h ((h.upd m (.mp ((allOf [] l).map eEntry))).upd c (ckBlk (.ip [sp, .map (some m)] 0) s inp)) c := (Old.fresh hm c _).trans (.next _ _ _)
  unfold ckBlk at k0 o0
  generalize ((h.upd m (.mp ((allOf [] l).map eEntry))).upd c _) = g0 at k0 o0 ⊢
  have hdm : (m :: bs).Nodup := List.nodup_cons.2 ⟨k.ch.fresh hm, hd⟩
  refine lT_list l (fun pre post e g => (∃ s', ckRoutines fs (allOf [] l :: fs) s l = ckRoutines fs (allOf [] l :: fs) s' post ∧ CkIn g c (.ip [sp, .map (some m)] 0) inp s' (allOf [] l :: fs) (m :: bs) ∧ Old h g c) ∧ e = [(0, .ptr (some ⟨c, 0, none⟩)), (1, .sl (l.map eRoutine) full), (4, sp), (6, .ip [sp, .map (some m)] 0), (46, .int .i64 l.length), (47, .int .i64 pre.length)]) (WeakE.env ?_) ⟨⟨s, rfl, k0, o0⟩, rfl⟩ ?_ ?_
  ·simp only [go_sem,seval]
  ·rintro pre x post e g hp ⟨⟨s', hs, k', ol⟩, rfl⟩
   have hx := mem_at hp
   simp only [go_sem,seval, lt_at hp]
   refine tcE (next_spec k'.hc) ?_
   by_cases hz : s'.bad = 0
   ·simp only [go_sem,seval, hz, aia_sl (map_at hp) (eRoutine_len x)]
    have k1 := k'.next s'.step
    refine tcE (find_spec k1.ch.up x.name) ?_
    simp only [go_sem,seval, aia_sl (map_at hp) (eRoutine_len x)]
    cases hf : findIn fs x.name with
    | none =>
     simp only [go_sem,seval, aia_sl (map_at hp) (eRoutine_len x)]
     refine callT_of (deeper_spec k1.ch.cells) (fun v g1 ⟨md, hmd, hv, hg1⟩ => ?_)
     subst hv hg1
     have hcd := k1.ne hmd
     have kc := k1.cell
     simp only [go_sem,seval, ↓upd_upd, ↓kc, upd_ne _ _ _ hcd, aia_sl (map_at hp) (eRoutine_len x)]
     have k2 := k1.deeper hmd []
     refine callT_of (routine_of x (ho x hx) (ih x hx) k2 (List.nodup_cons.2 ⟨k1.ch.fresh hmd, hdm⟩) ((hg.all ho).cons (by simp)) rfl hi) (fun v g3 ⟨hv, sp', h3, h4⟩ => ?_)
     subst hv
     generalize e5 : ckRoutine (allOf [] l :: fs) _ x = s5 at h3
     unfold ckBlk at h3
     simp only [go_sem,seval, h3]
     have ho1 : Old g3 (g3.upd c (ckBlk (.ip [sp, .map (some m)] 0) s5 inp)) c := .next _ _ _
     have ko : ∀ b, b ≠ c → (g.upd c (ckBlk (.ip [sp, .map (some m)] 0) s'.step inp)) b ≠ none → g3 b = (g.upd c (ckBlk (.ip [sp, .map (some m)] 0) s'.step inp)) b := by
      intro b h1 h2
      have hbd : b ≠ md := by intro hh; subst hh; exact h2 hmd
      have e8 : (((g.upd c (ckBlk (.ip [sp, .map (some m)] 0) s'.step inp)).upd md (.mp (([] : Scope).map eEntry))).upd c (ckBlk (.ip [.ip [sp, .map (some m)] 0, .map (some md)] 0) s'.step inp)) b = (g.upd c (ckBlk (.ip [sp, .map (some m)] 0) s'.step inp)) b := by rw [upd_ne _ _ _ h1, upd_ne _ _ _ hbd]
      exact (h4 b h1 hbd (fun hh => h2 (e8.symm.trans hh))).trans e8
     refine ⟨_, _, WeakE.env ?_, ⟨s5, ?_, ⟨upd_same _ _ _, ?_, k1.hn⟩, ?_⟩, rfl⟩
     ·simp only [go_sem,seval, step_at hw hp]
     ·rw [hs, ← e5]; simp only [ckRoutines, hz, hf, if_true, if_false, Option.isSome_some, Option.isSome_none, Bool.false_eq_true]
     ·refine Chain.upd _ k1.hn (Chain.same (fun b hb => ko b (fun hh => k1.hn (hh ▸ hb)) (k1.ch.mem b hb)) k1.ch)
     ·have o2 : Old h (g.upd c (ckBlk (.ip [sp, .map (some m)] 0) s'.step inp)) c := ol.trans (.next _ _ _)
      exact (Old.trans o2 fun b h1 h2 => ko b h1 h2).trans ho1
    | some y =>
     simp only [go_sem,seval, eThing_len, aia_sl (map_at hp) (eRoutine_len x)]
     refine tcE (fail_spec k1.hc 12) ?_
     have k3 := k'.next (s'.step.fail 12)
     simp only [go_sem,seval, aia_sl (map_at hp) (eRoutine_len x), upd_upd]
     refine callT_of (deeper_spec k3.ch.cells) (fun v g1 ⟨md, hmd, hv, hg1⟩ => ?_)
     subst hv hg1
     have hcd := k3.ne hmd
     have kc := k3.cell
     simp only [go_sem,seval, ↓upd_upd, ↓kc, upd_ne _ _ _ hcd, aia_sl (map_at hp) (eRoutine_len x)]
     have k2 := k3.deeper hmd []
     refine callT_of (routine_of x (ho x hx) (ih x hx) k2 (List.nodup_cons.2 ⟨k3.ch.fresh hmd, hdm⟩) ((hg.all ho).cons (by simp)) rfl hi) (fun v g3 ⟨hv, sp', h3, h4⟩ => ?_)
     subst hv
     generalize e5 : ckRoutine (allOf [] l :: fs) _ x = s5 at h3
     unfold ckBlk at h3
     simp only [go_sem,seval, h3]
     have ho1 : Old g3 (g3.upd c (ckBlk (.ip [sp, .map (some m)] 0) s5 inp)) c := .next _ _ _
     have ko : ∀ b, b ≠ c → (g.upd c (ckBlk (.ip [sp, .map (some m)] 0) (s'.step.fail 12) inp)) b ≠ none → g3 b = (g.upd c (ckBlk (.ip [sp, .map (some m)] 0) (s'.step.fail 12) inp)) b := by
      intro b h1 h2
      have hbd : b ≠ md := by intro hh; subst hh; exact h2 hmd
      have e8 : (((g.upd c (ckBlk (.ip [sp, .map (some m)] 0) (s'.step.fail 12) inp)).upd md (.mp (([] : Scope).map eEntry))).upd c (ckBlk (.ip [.ip [sp, .map (some m)] 0, .map (some md)] 0) (s'.step.fail 12) inp)) b = (g.upd c (ckBlk (.ip [sp, .map (some m)] 0) (s'.step.fail 12) inp)) b := by rw [upd_ne _ _ _ h1, upd_ne _ _ _ hbd]
      exact (h4 b h1 hbd (fun hh => h2 (e8.symm.trans hh))).trans e8
     refine ⟨_, _, WeakE.env ?_, ⟨s5, ?_, ⟨upd_same _ _ _, ?_, k3.hn⟩, ?_⟩, rfl⟩
     ·simp only [go_sem,seval, step_at hw hp]
     ·rw [hs, ← e5]; simp only [ckRoutines, hz, hf, if_true, if_false, Option.isSome_some, Option.isSome_none, Bool.false_eq_true]
     ·refine Chain.upd _ k3.hn (Chain.same (fun b hb => ko b (fun hh => k3.hn (hh ▸ hb)) (k3.ch.mem b hb)) k3.ch)
     ·have o2 : Old h (g.upd c (ckBlk (.ip [sp, .map (some m)] 0) (s'.step.fail 12) inp)) c := ol.trans (.next _ _ _)
      exact (Old.trans o2 fun b h1 h2 => ko b h1 h2).trans ho1
   ·simp only [go_sem,seval, hz]
    refine lessQ.same ?_
    simp only [go_sem,seval]
    refine .same ⟨rfl, m, k.ch.fresh hm, ?_, ol.trans (.next _ _ _)⟩
    rw [hs]
    simp only [ckRoutines, hz, if_false]
    exact k'.next s'
  ·rintro e g ⟨⟨s', hs, k', ol⟩, rfl⟩
   simp only [go_sem,seval, lt_end]
   refine lessQ.same ?_
   simp only [go_sem,seval]
   refine .same ⟨rfl, m, k.ch.fresh hm, ?_, ol⟩
   rw [hs]; simpa only [ckRoutines] using k'
theorem routines_spec [GI] : ∀ (n : Nat) (l : List Routine), Routines.sz l ≤ n → few l → (∀ x ∈ l, x.ok) → RoutinesC l := by
 intro n
 induction n with
 | zero =>
  intro l hn hw ho
  refine routines_of l (fun x hx => ?_) hw ho
  have := Routines.sz_mem hx
  omega
 | succ n ih =>
  intro l hn hw ho
  refine routines_of l (fun x hx => ?_) hw ho
  have hz1 := Routines.sz_mem hx
  have hz2 := Routine.sz_eq x
  have hok := (Routine.ok_iff x).1 (ho x hx)
  exact @ih x.inner (by omega) hok.2.2.2.2.2.1 hok.2.2.2.2.2.2.1
end Pg
namespace Pg
open Go Go.Proofs.Tryz
theorem Check_spec [GI] (h : AHeap) (p : Prg) (ho : p.ok) : ACalls prog 25 [.agg (ePrg p)] h (fun v g => v = .tuple [.int .i64 (check p).1, .int .i64 (check p).2] ∧ g = h) := by
 refine F25.calls (by simp) ?_
 delta F25.c0
 simp only [go_sem,seval]
 refine callT_of (deeper_spec (sp := .ptr none) rfl) (fun v g ⟨m, hm, hv, hg'⟩ => ?_)
 subst hv hg'
 simp only [go_sem,seval]
 refine afreshT_intro fun c hc => ?_
 have hcm : c ≠ m := by intro hh; subst hh; rw [upd_same] at hc; cases hc
 have hcn : h c = none := by rw [upd_ne _ _ _ hcm] at hc; exact hc
 simp only [go_sem,seval]
 have k0 : CkIn ((h.upd m (.mp [])).upd c (ckBlk (.ip [.ptr none, .map (some m)] 0) ⟨-1, 0⟩ (.ptr none))) c (.ip [.ptr none, .map (some m)] 0) (.ptr none) ⟨-1, 0⟩ [[]] [m] :=
  ⟨upd_same _ _ _, ⟨m, .ptr none, [], rfl, rfl, by rw [upd_ne _ _ _ hcm.symm, upd_same]; rfl, rfl, rfl⟩, by simp [hcm]⟩
 have ke0 : Keeps h ((h.upd m (.mp [])).upd c (ckBlk (.ip [.ptr none, .map (some m)] 0) ⟨-1, 0⟩ (.ptr none))) c m := by
  intro b h1 h2
  rw [upd_ne _ _ _ h1, upd_ne _ _ _ h2]
 unfold ckBlk at k0 ke0
 simp only [go_sem,seval] at k0 ke0
 generalize ((h.upd m (.mp [])).upd c _) = g0 at k0 ke0 ⊢
 refine lT_list p.recs (fun pre post e g => (∃ s' f', ckRecs [[]] ⟨-1, 0⟩ p.recs = ckRecs [f'] s' post ∧ CkIn g c (.ip [.ptr none, .map (some m)] 0) (.ptr none) s' [f'] [m] ∧ Keeps h g c m ∧ Good [f']) ∧ e = [(1, .ip (ePrg p) 0), (5, .ptr (some ⟨c, 0, none⟩)), (13, .int .i64 p.recs.length), (14, .int .i64 pre.length)]) (WeakE.env ?_) ⟨⟨⟨-1, 0⟩, [], rfl, k0, ke0, fun f hf p hp => by simp at hf; subst hf; simp at hp⟩, rfl⟩ ?_ ?_
 ·simp only [go_sem,seval]
 ·rintro pre x post e g hp ⟨⟨s', f', hs, k', ke, gd⟩, rfl⟩
  simp only [go_sem,seval, lt_at hp, aia_sl (map_at hp) (eRec_len x)]
  refine tcE (next_spec k'.hc) ?_
  by_cases hz : s'.bad = 0
  ·simp only [go_sem,seval, hz, aia_sl (map_at hp) (eRec_len x)]
   have k1 := k'.next s'.step
   refine callT_of (lay_spec' k1 (by simp) x.name (.rcd x)) (fun v g1 ⟨hv, k2, ke2⟩ => ?_)
   subst hv
   obtain ⟨f2, hf2⟩ := lay_tail f' [] s'.step x.name (.rcd x)
   have hx := ho.eachRec x (mem_at hp)
   have gd2 : Good (ckLay [f'] s'.step x.name (.rcd x)).1 := gd.lay hx.fields
   rw [hf2] at gd2 k2
   simp only [go_sem,seval, aia_sl (map_at hp) (eRec_len x)]
   refine tcE (fields_spec _ x hx.fields) ?_
   cases ht : twice [] x.fields with
   | true =>
    simp only [go_sem,seval, ht]
    refine tcE (fail_spec k2.hc 12) ?_
    simp only [go_sem,seval]
    refine ⟨_, _, WeakE.env ?_, ⟨_, f2, ?_, k2.next _, (((ke.trans (.next _ _ _ _)).trans ke2)).trans (.next _ _ _ _), gd2⟩, rfl⟩
    ·simp only [go_sem,seval, step_at ho.recs hp]
    ·rw [hs]; simp only [ckRecs, hz, if_true, hf2, ht]
   | false =>
    simp only [go_sem,seval, ht]
    refine ⟨_, _, WeakE.env ?_, ⟨_, f2, ?_, k2, ((ke.trans (.next _ _ _ _)).trans ke2), gd2⟩, rfl⟩
    ·simp only [go_sem,seval, step_at ho.recs hp]
    ·rw [hs]; simp only [ckRecs, hz, if_true, hf2, ht, Bool.false_eq_true, if_false]
  ·simp only [go_sem,seval, hz]
   refine lessQ.same ?_
   simp only [go_sem,seval]
   have k1 := k'.next s'
   have hg1 : Good [f'] := gd
   refine callT_of (variables_spec k1 (by simp) p.vars ho.vars p.routines ho.routines false false) (fun v g2 ⟨hv, k2, ke2⟩ => ?_)
   subst hv
   have hg2 : Good (ckVars [f'] s' p.vars p.routines).1 := hg1.vars
   have eb : ckRecs [[]] ⟨-1, 0⟩ p.recs = ([f'], s') := by rw [hs]; simp only [ckRecs, hz, if_false]
   generalize e2 : ckVars [f'] s' p.vars p.routines = q at k2 hg2
   simp only [go_sem,seval]
   refine callT_of (routines_spec _ p.routines (Nat.le_refl _) ho.routines ho.eachRoutine k2 (by simp) hg2 rfl false) (fun v g3 ⟨hv, m3, hm3, k3, ke3⟩ => ?_)
   subst hv
   generalize e3 : ckRoutines q.1 (allOf [] p.routines :: q.1) q.2 p.routines = s3 at k3
   simp only [go_sem,seval]
   refine tcE (stmts_spec _ p.body (Nat.le_refl _) ho.body ho.eachStmt (.inl ⟨rfl, rfl⟩) k3 (Good.fewIn (hg2.all ho.eachRoutine)) false) ?_
   generalize e4 : ckStmts (allOf [] p.routines :: q.1) s3 0 p.body = s4
   have kc := (k3.next s4).cell
   have ea : ckAll p = s4 := by simp only [ckAll, eb, e2, e3, e4]
   have lz : h.le (g3.upd c (ckBlk (.ip [.ip [.ptr none, .map (some m)] 0, .map (some m3)] 0) s4 (.ptr none))) := by
    intro b o hb
    have hbc : b ≠ c := by intro hh; subst hh; rw [hcn] at hb; cases hb
    have hbm : b ≠ m := by intro hh; subst hh; rw [hm] at hb; cases hb
    have e7 : g2 b = h b := (ke2 b hbc hbm).trans ((upd_ne _ _ _ hbc).trans (ke b hbc hbm))
    rw [upd_ne _ _ _ hbc, ke3 b hbc (by rw [e7, hb]; simp), e7, hb]
   simp only [go_sem,seval, ↓kc]
   by_cases hb : s4.bad = 0
   ·simp only [go_sem,seval, hb]
    exact .forget lz ⟨by simp [check, ea, hb], rfl⟩
   ·simp only [go_sem,seval, hb, ↓kc]
    exact .forget lz ⟨by simp [check, ea, hb], rfl⟩
 ·rintro e g ⟨⟨s', f', hs, k', ke, gd⟩, rfl⟩
  simp only [go_sem,seval, lt_end]
  refine lessQ.same ?_
  simp only [go_sem,seval]
  have hg1 : Good [f'] := gd
  refine callT_of (variables_spec k' (by simp) p.vars ho.vars p.routines ho.routines false false) (fun v g2 ⟨hv, k2, ke2⟩ => ?_)
  subst hv
  have hg2 : Good (ckVars [f'] s' p.vars p.routines).1 := hg1.vars
  have eb : ckRecs [[]] ⟨-1, 0⟩ p.recs = ([f'], s') := by rw [hs]; simp only [ckRecs]
  generalize e2 : ckVars [f'] s' p.vars p.routines = q at k2 hg2
  simp only [go_sem,seval]
  refine callT_of (routines_spec _ p.routines (Nat.le_refl _) ho.routines ho.eachRoutine k2 (by simp) hg2 rfl false) (fun v g3 ⟨hv, m3, hm3, k3, ke3⟩ => ?_)
  subst hv
  generalize e3 : ckRoutines q.1 (allOf [] p.routines :: q.1) q.2 p.routines = s3 at k3
  simp only [go_sem,seval]
  refine tcE (stmts_spec _ p.body (Nat.le_refl _) ho.body ho.eachStmt (.inl ⟨rfl, rfl⟩) k3 (Good.fewIn (hg2.all ho.eachRoutine)) false) ?_
  generalize e4 : ckStmts (allOf [] p.routines :: q.1) s3 0 p.body = s4
  have kc := (k3.next s4).cell
  have ea : ckAll p = s4 := by simp only [ckAll, eb, e2, e3, e4]
  have lz : h.le (g3.upd c (ckBlk (.ip [.ip [.ptr none, .map (some m)] 0, .map (some m3)] 0) s4 (.ptr none))) := by
   intro b o hb
   have hbc : b ≠ c := by intro hh; subst hh; rw [hcn] at hb; cases hb
   have hbm : b ≠ m := by intro hh; subst hh; rw [hm] at hb; cases hb
   have e7 : g2 b = h b := (ke2 b hbc hbm).trans (ke b hbc hbm)
   rw [upd_ne _ _ _ hbc, ke3 b hbc (by rw [e7, hb]; simp), e7, hb]
  simp only [go_sem,seval, ↓kc]
  by_cases hb : s4.bad = 0
  ·simp only [go_sem,seval, hb]
   exact .forget lz ⟨by simp [check, ea, hb], rfl⟩
  ·simp only [go_sem,seval, hb, ↓kc]
   exact .forget lz ⟨by simp [check, ea, hb], rfl⟩
end Pg
