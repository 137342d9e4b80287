import Derived.Test.YtdfbkddelhbgmaaGreatDoorTreeSS3
import Derived.Test.YtdfbkddelhbgmaaGreatDoorCkXS3
import Derived.Test.YtdfbkddelhbgmaaGreatDoorK4S3
import Derived.Test.YtdfbkddelhbgmaaGreatDoorCodeR2JS3
set_option linter.all false
set_option maxHeartbeats 4000000
set_option maxRecDepth 4000
namespace Pg
open Go Go.Proofs.Tryz
def Old (h g : AHeap) (c : Nat) : Prop := ∀ b, b ≠ c → h b ≠ none → g b = h b
theorem Old.refl (h : AHeap) (c : Nat) : Old h h c := fun _ _ _ => rfl
theorem Old.trans {h g k : AHeap} {c : Nat} (a : Old h g c) (b : Old g k c) : Old h k c := fun x h1 h2 => (b x h1 (by rw [a x h1 h2]; exact h2)).trans (a x h1 h2)
theorem Old.next (h : AHeap) (c : Nat) (o : AObj) : Old h (h.upd c o) c := fun b h1 _ => aC _ _ _ h1
theorem Old.fresh {h : AHeap} {m : Nat} (hm : h m = none) (c : Nat) (o : AObj) : Old h (h.upd m o) c := fun b h1 h2 => aC _ _ _ (by intro hh; subst hh; exact h2 hm)
theorem eS.same {h g : AHeap} : ∀ {fs : List Scope} {sp : AV} {bs : List Nat}, (∀ b ∈ bs, g b = h b) → eS h sp fs bs → eS g sp fs bs
 | [], _, _, _, c => c
 | f :: fs, _, _, e, ⟨m, par, bs', h1, h2, h4, h5⟩ => by
  subst h1
  exact ⟨m, par, bs', rfl, h2, by rw [e m (by simp)]; exact h4, h5.same fun b hb => e b (by simp [hb])⟩
theorem eN.next' {h : AHeap} {c : Nat} {sp inp : AV} {s : CS} {fs : List Scope} {bs : List Nat} (k : eN h c sp inp s fs bs) (inp' : AV) (s' : CS) : eN (h.upd c (bW sp s' inp')) c sp inp' s' fs bs := ⟨aA _ _ _, k.ch.upd _ k.hn, k.hn⟩
def yZ [GI] (l : List Routine) : Prop := ∀ {h : AHeap} {c : Nat} {sp inp : AV} {s : CS} {fs : List Scope} {bs : List Nat} (k : eN h c sp inp s fs bs) (hd : bs.Nodup) (hg : Good fs) (hi : inp.cells? = some [inp]) (full : Bool),
 aD prog 61 [.ptr (some ⟨c, 0, none⟩), .sl (l.map aU) full] h (fun v g => v = .tuple [] ∧ ∃ m', m' ∉ bs ∧ eN g c (.ip [sp, .map (some m')] 0) inp (b7 fs (cK [] l :: fs) s l) (cK [] l :: fs) (m' :: bs) ∧ Old h g c)
theorem JR [GI] (x : Routine) (ho : x.ok) (ih : yZ x.inner) {h : AHeap} {c m : Nat} {sp inp : AV} {s : CS} {f : Scope} {all : List Scope} {bs : List Nat} (k : eN h c sp inp s (f :: all) (m :: bs)) (hd : (m :: bs).Nodup) (hg : Good (f :: all)) (hf : f = []) (hi : inp.cells? = some [inp]) :
  aD prog 99 [.ptr (some ⟨c, 0, none⟩), .ip (aU x) 0] h (fun v g => v = .tuple [] ∧ ∃ sp', g c = some (bW sp' (jI all s x) inp) ∧ ∀ b, b ≠ c → b ≠ m → h b ≠ none → g b = h b) := by
 have hok := (Routine.cN x).1 ho
 have hpar : few x.params := hok.2.2.1
 have hvars : few x.vars := hok.2.2.2.1
 have hinner : few x.inner := hok.2.2.2.2.2.1
 refine F99.calls (by simp) ?_
 delta F99.c0
 simp only [go_sem,seval]
 refine aX x.params (fun pre post e g => (∃ s' f', cA (f :: all) s x.params = cA (f' :: all) s' post ∧ eN g c sp inp s' (f' :: all) (m :: bs) ∧ nQ h g c m) ∧ e = [(0, .ptr (some ⟨c, 0, none⟩)), (1, .ip (aU x) 0), (10, .sl (x.params.map c7) false), (11, .int .i64 x.params.length), (12, .int .i64 pre.length)]) (aF.env ?_) ⟨⟨s, f, rfl, k, .refl _ _ _⟩, rfl⟩ ?_ ?_
 ·simp only [go_sem,seval]
 ·rintro pre y post e g hp ⟨⟨s', f', hs, k', ke⟩, rfl⟩
  simp only [go_sem,seval, bI hp, aI (aK hp) (bP y)]
  refine aW (yN k' hd y.name (.var y.t)) (fun v g1 ⟨hv, k3, ke3⟩ => ?_)
  subst hv
  simp only [go_sem,seval]
  refine tcE (HQ k3.hc k3.ch y.t) ?_
  simp only [go_sem,seval]
  obtain ⟨f2, hf2⟩ := H9 f' all s' y.name (.var y.t)
  refine ⟨_, _, aF.env ?_, ⟨iW (cR (f' :: all) s' y.name (.var y.t)).1 (cR (f' :: all) s' y.name (.var y.t)).2 y.t, f2, ?_, ?_, (ke.trans ke3).trans (.next _ _ _ _)⟩, rfl⟩
  ·simp only [go_sem,seval, aQ hpar hp]
  ·rw [hs]; simp only [cA, hf2]
  ·have := k3.next (iW (cR (f' :: all) s' y.name (.var y.t)).1 (cR (f' :: all) s' y.name (.var y.t)).2 y.t)
   rw [hf2] at this ⊢
   exact this
 ·rintro e g ⟨⟨s', f1, hs, k', ke⟩, rfl⟩
  have hg1 : Good (f1 :: all) := by
   have := Good.params (l := x.params) (s := s) hg
   rw [hs] at this
   simpa only [cA] using this
  simp only [go_sem,seval, bE]
  refine aM.same ?_
  simp only [go_sem,seval]
  by_cases hr : 0 < x.result
  ·have hr' : (x.result > 0) = True := by simpa using hr
   simp only [go_sem,seval, hr']
   refine tcE (aBO _ x.body (Nat.le_refl _) hok.2.2.2.2.2.2.2.1 hok.2.2.2.2.2.2.2.2.1 false _) ?_
   cases he : kW x.body with
   | false =>
    simp only [go_sem,seval]
    refine tcE (cL k'.hc 16) ?_
    have k1 := k'.next (s'.fail 16)
    simp only [go_sem,seval]
    refine aW (nR k1 hd x.vars hvars x.inner hinner false false) (fun v g2 ⟨hv, k2, ke2⟩ => ?_)
    subst hv
    have hg2 : Good (cH (f1 :: all) (s'.fail 16) x.vars x.inner).1 := hg1.vars
    generalize e2 : cH (f1 :: all) (s'.fail 16) x.vars x.inner = q at k2 hg2
    simp only [go_sem,seval]
    refine aW (ih k2 hd hg2 hi false) (fun v g3 ⟨hv, m3, hm3, k3, ke3⟩ => ?_)
    subst hv
    generalize e3 : b7 q.1 (cK [] x.inner :: q.1) q.2 x.inner = s3 at k3
    have kc := k3.cell
    simp only [go_sem,seval, ↓kc]
    have k4 := k3.next' (.ip (aU x) 0) s3
    refine tcE (sB _ x.body (Nat.le_refl _) hok.2.2.2.2.2.2.2.1 hok.2.2.2.2.2.2.2.2.1 (.inr ⟨x, rfl, rfl⟩) k4 (Good.KL (hg2.all hok.2.2.2.2.2.2.1)) false) ?_
    generalize e4 : cS _ s3 x.result x.body = s4
    have k5 := (k3.next' (.ip (aU x) 0) s4).cell
    simp only [go_sem,seval, ↓aB, ↓k5, hi]
    have e5 : jI all s x = s4 := by
     subst hf
     simp only [cA] at hs
     rw [iX]
     simp only [hs, hr, he, and_self, and_false, false_and, if_true, if_false, reduceCtorEq, e2, e3, e4]
    refine .same ⟨rfl, _, by rw [aA, e5]; rfl, ?_⟩
    intro b h1 h2 h3
    have e6 : g b = h b := ke b h1 h2
    rw [aC _ _ _ h1]
    have e7 : g2 b = h b := (ke2 b h1 h2).trans ((aC _ _ _ h1).trans e6)
    rw [ke3 b h1 (by rw [e7]; exact h3), e7]
   | true =>
    simp only [go_sem,seval]
    refine aW (nR k' hd x.vars hvars x.inner hinner false false) (fun v g2 ⟨hv, k2, ke2⟩ => ?_)
    subst hv
    have hg2 : Good (cH (f1 :: all) s' x.vars x.inner).1 := hg1.vars
    generalize e2 : cH (f1 :: all) s' x.vars x.inner = q at k2 hg2
    simp only [go_sem,seval]
    refine aW (ih k2 hd hg2 hi false) (fun v g3 ⟨hv, m3, hm3, k3, ke3⟩ => ?_)
    subst hv
    generalize e3 : b7 q.1 (cK [] x.inner :: q.1) q.2 x.inner = s3 at k3
    have kc := k3.cell
    simp only [go_sem,seval, ↓kc]
    have k4 := k3.next' (.ip (aU x) 0) s3
    refine tcE (sB _ x.body (Nat.le_refl _) hok.2.2.2.2.2.2.2.1 hok.2.2.2.2.2.2.2.2.1 (.inr ⟨x, rfl, rfl⟩) k4 (Good.KL (hg2.all hok.2.2.2.2.2.2.1)) false) ?_
    generalize e4 : cS _ s3 x.result x.body = s4
    have k5 := (k3.next' (.ip (aU x) 0) s4).cell
    simp only [go_sem,seval, ↓aB, ↓k5, hi]
    have e5 : jI all s x = s4 := by
     subst hf
     simp only [cA] at hs
     rw [iX]
     simp only [hs, hr, he, and_self, and_false, false_and, if_true, if_false, reduceCtorEq, e2, e3, e4]
    refine .same ⟨rfl, _, by rw [aA, e5]; rfl, ?_⟩
    intro b h1 h2 h3
    have e6 : g b = h b := ke b h1 h2
    rw [aC _ _ _ h1]
    have e7 : g2 b = h b := (ke2 b h1 h2).trans e6
    rw [ke3 b h1 (by rw [e7]; exact h3), e7]
  ·have hr' : (x.result > 0) = False := by simpa using hr
   simp only [go_sem,seval, hr']
   refine aW (nR k' hd x.vars hvars x.inner hinner false false) (fun v g2 ⟨hv, k2, ke2⟩ => ?_)
   subst hv
   have hg2 : Good (cH (f1 :: all) s' x.vars x.inner).1 := hg1.vars
   generalize e2 : cH (f1 :: all) s' x.vars x.inner = q at k2 hg2
   simp only [go_sem,seval]
   refine aW (ih k2 hd hg2 hi false) (fun v g3 ⟨hv, m3, hm3, k3, ke3⟩ => ?_)
   subst hv
   generalize e3 : b7 q.1 (cK [] x.inner :: q.1) q.2 x.inner = s3 at k3
   have kc := k3.cell
   simp only [go_sem,seval, ↓kc]
   have k4 := k3.next' (.ip (aU x) 0) s3
   refine tcE (sB _ x.body (Nat.le_refl _) hok.2.2.2.2.2.2.2.1 hok.2.2.2.2.2.2.2.2.1 (.inr ⟨x, rfl, rfl⟩) k4 (Good.KL (hg2.all hok.2.2.2.2.2.2.1)) false) ?_
   generalize e4 : cS _ s3 x.result x.body = s4
   have k5 := (k3.next' (.ip (aU x) 0) s4).cell
   simp only [go_sem,seval, ↓aB, ↓k5, hi]
   have e5 : jI all s x = s4 := by
    subst hf
    simp only [cA] at hs
    rw [iX]
    simp only [hs, hr, hr, and_self, and_false, false_and, if_true, if_false, reduceCtorEq, e2, e3, e4]
   refine .same ⟨rfl, _, by rw [aA, e5]; rfl, ?_⟩
   intro b h1 h2 h3
   have e6 : g b = h b := ke b h1 h2
   rw [aC _ _ _ h1]
   have e7 : g2 b = h b := (ke2 b h1 h2).trans e6
   rw [ke3 b h1 (by rw [e7]; exact h3), e7]
end Pg
namespace Pg
open Go Go.Proofs.Tryz
theorem EU (x : Routine) : ∀ (l : List Routine) (f : Scope), cK f (l ++ [x]) = q7 x.name (.bU x) (cK f l)
 | [], f => rfl
 | y :: l, f => by simp only [List.cons_append, cK]; exact EU x l _
theorem eS.up {h : AHeap} {sp : AV} {m : Nat} {f : Scope} {fs : List Scope} {bs : List Nat} (c : eS h (.ip [sp, .map (some m)] 0) (f :: fs) (m :: bs)) : eS h sp fs bs := by
 obtain ⟨m2, par, bs2, hb, hsp, hm2, hch⟩ := c
 obtain ⟨rfl, rfl⟩ := List.cons.inj hb
 simp only [AV.ip.injEq, List.cons.injEq, and_true] at hsp
 rw [hsp]; exact hch
theorem eN.sS {h : AHeap} {c : Nat} {sp inp : AV} {s : CS} {fs : List Scope} {bs : List Nat} (k : eN h c sp inp s fs bs) {m : Nat} (hm : h m = none) (f : Scope) :
  eN ((h.upd m (.mp (f.map kI))).upd c (bW (.ip [sp, .map (some m)] 0) s inp)) c (.ip [sp, .map (some m)] 0) inp s (f :: fs) (m :: bs) := by
 have hne := k.ne hm
 refine ⟨aA _ _ _, ⟨m, sp, bs, rfl, rfl, by rw [aC _ _ _ hne.symm, aA], (k.ch.upd _ (k.ch.fresh hm)).upd _ k.hn⟩, ?_⟩
 simp only [List.mem_cons, not_or]; exact ⟨hne, k.hn⟩
theorem GJ [GI] (l : List Routine) (ih : ∀ x ∈ l, yZ x.inner) (hw : few l) (ho : ∀ x ∈ l, x.ok) : yZ l := by
 intro h c sp inp s fs bs k hd hg hi full
 have hcl := k.cell
 refine F61.calls (by simp) ?_
 delta F61.c0
 simp only [go_sem,seval, hcl]
 refine aW (uC k.ch.cells) (fun v g ⟨m, hm, hv, hg'⟩ => ?_)
 subst hv hg'
 have hcm := k.ne hm
 simp only [go_sem,seval, hcl, aC _ _ _ hcm]
 refine aX l (fun pre post e g => g = (h.upd m (.mp ((cK [] pre).map kI))).upd c (bW (.ip [sp, .map (some m)] 0) s inp) ∧ e = [(0, .ptr (some ⟨c, 0, none⟩)), (1, .sl (l.map aU) full), (4, sp), (20, .int .i64 l.length), (21, .int .i64 pre.length)]) (aF.env ?_) ⟨rfl, rfl⟩ ?_ ?_
 ·simp only [go_sem,seval]
 ·rintro pre x post e g hp ⟨rfl, rfl⟩
  simp only [go_sem,seval, bI hp, aI (aK hp) (bL x), bW]
  refine rS (es := (cK [] pre).map kI) (by rw [aC _ _ _ hcm.symm, aA]) (B9 x.name (.bU x) _) rfl ?_
  simp only [go_sem,seval, aC _ _ _ hcm]
  refine ⟨_, _, aF.env ?_, ?_, rfl⟩
  ·simp only [go_sem,seval, aQ hw hp]
  ·rw [bH _ _ _ hcm, aB, EU]
 ·rintro e g ⟨rfl, rfl⟩
  simp only [go_sem,seval, bE, bW]
  refine aM.same ?_
  simp only [go_sem,seval, bW]
  have k0 := k.sS hm (cK [] l)
  have o0 : Old h ((h.upd m (.mp ((cK [] l).map kI))).upd c (bW (.ip [sp, .map (some m)] 0) s inp)) c := (Old.fresh hm c _).trans (.next _ _ _)
  unfold bW at k0 o0
  generalize ((h.upd m (.mp ((cK [] l).map kI))).upd c _) = g0 at k0 o0 ⊢
  have hdm : (m :: bs).Nodup := List.nodup_cons.2 ⟨k.ch.fresh hm, hd⟩
  refine aX l (fun pre post e g => (∃ s', b7 fs (cK [] l :: fs) s l = b7 fs (cK [] l :: fs) s' post ∧ eN g c (.ip [sp, .map (some m)] 0) inp s' (cK [] l :: fs) (m :: bs) ∧ Old h g c) ∧ e = [(0, .ptr (some ⟨c, 0, none⟩)), (1, .sl (l.map aU) full), (4, sp), (6, .ip [sp, .map (some m)] 0), (46, .int .i64 l.length), (47, .int .i64 pre.length)]) (aF.env ?_) ⟨⟨s, rfl, k0, o0⟩, rfl⟩ ?_ ?_
  ·simp only [go_sem,seval]
  ·rintro pre x post e g hp ⟨⟨s', hs, k', ol⟩, rfl⟩
   have hx := bJ hp
   simp only [go_sem,seval, bI hp]
   refine tcE (yK k'.hc) ?_
   by_cases hz : s'.bad = 0
   ·simp only [go_sem,seval, hz, aI (aK hp) (bL x)]
    have k1 := k'.next s'.step
    refine tcE (find_spec k1.ch.up x.name) ?_
    simp only [go_sem,seval, aI (aK hp) (bL x)]
    cases hf : bD fs x.name with
    | none =>
     simp only [go_sem,seval, aI (aK hp) (bL x)]
     refine aW (uC k1.ch.cells) (fun v g1 ⟨md, hmd, hv, hg1⟩ => ?_)
     subst hv hg1
     have hcd := k1.ne hmd
     have kc := k1.cell
     simp only [go_sem,seval, ↓aB, ↓kc, aC _ _ _ hcd, aI (aK hp) (bL x)]
     have k2 := k1.sS hmd []
     refine aW (JR x (ho x hx) (ih x hx) k2 (List.nodup_cons.2 ⟨k1.ch.fresh hmd, hdm⟩) ((hg.all ho).cons (by simp)) rfl hi) (fun v g3 ⟨hv, sp', h3, h4⟩ => ?_)
     subst hv
     generalize e5 : jI (cK [] l :: fs) _ x = s5 at h3
     unfold bW at h3
     simp only [go_sem,seval, h3]
     have ho1 : Old g3 (g3.upd c (bW (.ip [sp, .map (some m)] 0) s5 inp)) c := .next _ _ _
     have ko : ∀ b, b ≠ c → (g.upd c (bW (.ip [sp, .map (some m)] 0) s'.step inp)) b ≠ none → g3 b = (g.upd c (bW (.ip [sp, .map (some m)] 0) s'.step inp)) b := by
      intro b h1 h2
      have hbd : b ≠ md := by intro hh; subst hh; exact h2 hmd
      have e8 : (((g.upd c (bW (.ip [sp, .map (some m)] 0) s'.step inp)).upd md (.mp (([] : Scope).map kI))).upd c (bW (.ip [.ip [sp, .map (some m)] 0, .map (some md)] 0) s'.step inp)) b = (g.upd c (bW (.ip [sp, .map (some m)] 0) s'.step inp)) b := by rw [aC _ _ _ h1, aC _ _ _ hbd]
      exact (h4 b h1 hbd (fun hh => h2 (e8.symm.trans hh))).trans e8
     refine ⟨_, _, aF.env ?_, ⟨s5, ?_, ⟨aA _ _ _, ?_, k1.hn⟩, ?_⟩, rfl⟩
     ·simp only [go_sem,seval, aQ hw hp]
     ·rw [hs, ← e5]; simp only [b7, hz, hf, if_true, if_false, Option.isSome_some, Option.isSome_none, Bool.false_eq_true]
     ·refine eS.upd _ k1.hn (eS.same (fun b hb => ko b (fun hh => k1.hn (hh ▸ hb)) (k1.ch.mem b hb)) k1.ch)
     ·have o2 : Old h (g.upd c (bW (.ip [sp, .map (some m)] 0) s'.step inp)) c := ol.trans (.next _ _ _)
      exact (Old.trans o2 fun b h1 h2 => ko b h1 h2).trans ho1
    | some y =>
     simp only [go_sem,seval, mX, aI (aK hp) (bL x)]
     refine tcE (cL k1.hc 12) ?_
     have k3 := k'.next (s'.step.fail 12)
     simp only [go_sem,seval, aI (aK hp) (bL x), aB]
     refine aW (uC k3.ch.cells) (fun v g1 ⟨md, hmd, hv, hg1⟩ => ?_)
     subst hv hg1
     have hcd := k3.ne hmd
     have kc := k3.cell
     simp only [go_sem,seval, ↓aB, ↓kc, aC _ _ _ hcd, aI (aK hp) (bL x)]
     have k2 := k3.sS hmd []
     refine aW (JR x (ho x hx) (ih x hx) k2 (List.nodup_cons.2 ⟨k3.ch.fresh hmd, hdm⟩) ((hg.all ho).cons (by simp)) rfl hi) (fun v g3 ⟨hv, sp', h3, h4⟩ => ?_)
     subst hv
     generalize e5 : jI (cK [] l :: fs) _ x = s5 at h3
     unfold bW at h3
     simp only [go_sem,seval, h3]
     have ho1 : Old g3 (g3.upd c (bW (.ip [sp, .map (some m)] 0) s5 inp)) c := .next _ _ _
     have ko : ∀ b, b ≠ c → (g.upd c (bW (.ip [sp, .map (some m)] 0) (s'.step.fail 12) inp)) b ≠ none → g3 b = (g.upd c (bW (.ip [sp, .map (some m)] 0) (s'.step.fail 12) inp)) b := by
      intro b h1 h2
      have hbd : b ≠ md := by intro hh; subst hh; exact h2 hmd
      have e8 : (((g.upd c (bW (.ip [sp, .map (some m)] 0) (s'.step.fail 12) inp)).upd md (.mp (([] : Scope).map kI))).upd c (bW (.ip [.ip [sp, .map (some m)] 0, .map (some md)] 0) (s'.step.fail 12) inp)) b = (g.upd c (bW (.ip [sp, .map (some m)] 0) (s'.step.fail 12) inp)) b := by rw [aC _ _ _ h1, aC _ _ _ hbd]
      exact (h4 b h1 hbd (fun hh => h2 (e8.symm.trans hh))).trans e8
     refine ⟨_, _, aF.env ?_, ⟨s5, ?_, ⟨aA _ _ _, ?_, k3.hn⟩, ?_⟩, rfl⟩
     ·simp only [go_sem,seval, aQ hw hp]
     ·rw [hs, ← e5]; simp only [b7, hz, hf, if_true, if_false, Option.isSome_some, Option.isSome_none, Bool.false_eq_true]
     ·refine eS.upd _ k3.hn (eS.same (fun b hb => ko b (fun hh => k3.hn (hh ▸ hb)) (k3.ch.mem b hb)) k3.ch)
     ·have o2 : Old h (g.upd c (bW (.ip [sp, .map (some m)] 0) (s'.step.fail 12) inp)) c := ol.trans (.next _ _ _)
      exact (Old.trans o2 fun b h1 h2 => ko b h1 h2).trans ho1
   ·simp only [go_sem,seval, hz]
    refine aM.same ?_
    simp only [go_sem,seval]
    refine .same ⟨rfl, m, k.ch.fresh hm, ?_, ol.trans (.next _ _ _)⟩
    rw [hs]
    simp only [b7, hz, if_false]
    exact k'.next s'
  ·rintro e g ⟨⟨s', hs, k', ol⟩, rfl⟩
   simp only [go_sem,seval, bE]
   refine aM.same ?_
   simp only [go_sem,seval]
   refine .same ⟨rfl, m, k.ch.fresh hm, ?_, ol⟩
   rw [hs]; simpa only [b7] using k'
theorem CQ [GI] : ∀ (n : Nat) (l : List Routine), bB.sz l ≤ n → few l → (∀ x ∈ l, x.ok) → yZ l := by
 intro n
 induction n with
 | zero =>
  intro l hn hw ho
  refine GJ l (fun x hx => ?_) hw ho
  have := bB.dU hx
  omega
 | succ n ih =>
  intro l hn hw ho
  refine GJ l (fun x hx => ?_) hw ho
  have hz1 := bB.dU hx
  have hz2 := Routine.cY x
  have hok := (Routine.cN x).1 (ho x hx)
  exact @ih x.inner (by omega) hok.2.2.2.2.2.1 hok.2.2.2.2.2.2.1
end Pg
namespace Pg
open Go Go.Proofs.Tryz
theorem Z1 [GI] (h : AHeap) (p : Prg) (ho : p.ok) : aD prog 25 [.agg (fJ p)] h (fun v g => v = .tuple [.int .i64 (check p).1, .int .i64 (check p).2] ∧ g = h) := by
 refine F25.calls (by simp) ?_
 delta F25.c0
 simp only [go_sem,seval]
 refine aW (uC (sp := .ptr none) rfl) (fun v g ⟨m, hm, hv, hg'⟩ => ?_)
 subst hv hg'
 simp only [go_sem,seval]
 refine aS fun c hc => ?_
 have hcm : c ≠ m := by intro hh; subst hh; rw [aA] at hc; cases hc
 have hcn : h c = none := by rw [aC _ _ _ hcm] at hc; exact hc
 simp only [go_sem,seval]
 have k0 : eN ((h.upd m (.mp [])).upd c (bW (.ip [.ptr none, .map (some m)] 0) ⟨-1, 0⟩ (.ptr none))) c (.ip [.ptr none, .map (some m)] 0) (.ptr none) ⟨-1, 0⟩ [[]] [m] :=
  ⟨aA _ _ _, ⟨m, .ptr none, [], rfl, rfl, by rw [aC _ _ _ hcm.symm, aA]; rfl, rfl, rfl⟩, by simp [hcm]⟩
 have ke0 : nQ h ((h.upd m (.mp [])).upd c (bW (.ip [.ptr none, .map (some m)] 0) ⟨-1, 0⟩ (.ptr none))) c m := by
  intro b h1 h2
  rw [aC _ _ _ h1, aC _ _ _ h2]
 unfold bW at k0 ke0
 simp only [go_sem,seval] at k0 ke0
 generalize ((h.upd m (.mp [])).upd c _) = g0 at k0 ke0 ⊢
 refine aX p.recs (fun pre post e g => (∃ s' f', dY [[]] ⟨-1, 0⟩ p.recs = dY [f'] s' post ∧ eN g c (.ip [.ptr none, .map (some m)] 0) (.ptr none) s' [f'] [m] ∧ nQ h g c m ∧ Good [f']) ∧ e = [(1, .ip (fJ p) 0), (5, .ptr (some ⟨c, 0, none⟩)), (13, .int .i64 p.recs.length), (14, .int .i64 pre.length)]) (aF.env ?_) ⟨⟨⟨-1, 0⟩, [], rfl, k0, ke0, fun f hf p hp => by simp at hf; subst hf; simp at hp⟩, rfl⟩ ?_ ?_
 ·simp only [go_sem,seval]
 ·rintro pre x post e g hp ⟨⟨s', f', hs, k', ke, gd⟩, rfl⟩
  simp only [go_sem,seval, bI hp, aI (aK hp) (dG x)]
  refine tcE (yK k'.hc) ?_
  by_cases hz : s'.bad = 0
  ·simp only [go_sem,seval, hz, aI (aK hp) (dG x)]
   have k1 := k'.next s'.step
   refine aW (yN k1 (by simp) x.name (.rcd x)) (fun v g1 ⟨hv, k2, ke2⟩ => ?_)
   subst hv
   obtain ⟨f2, hf2⟩ := H9 f' [] s'.step x.name (.rcd x)
   have hx := ho.rV x (bJ hp)
   have gd2 : Good (cR [f'] s'.step x.name (.rcd x)).1 := gd.lay hx.fields
   rw [hf2] at gd2 k2
   simp only [go_sem,seval, aI (aK hp) (dG x)]
   refine tcE (UU _ x hx.fields) ?_
   cases ht : iP [] x.fields with
   | true =>
    simp only [go_sem,seval, ht]
    refine tcE (cL k2.hc 12) ?_
    simp only [go_sem,seval]
    refine ⟨_, _, aF.env ?_, ⟨_, f2, ?_, k2.next _, (((ke.trans (.next _ _ _ _)).trans ke2)).trans (.next _ _ _ _), gd2⟩, rfl⟩
    ·simp only [go_sem,seval, aQ ho.recs hp]
    ·rw [hs]; simp only [dY, hz, if_true, hf2, ht]
   | false =>
    simp only [go_sem,seval, ht]
    refine ⟨_, _, aF.env ?_, ⟨_, f2, ?_, k2, ((ke.trans (.next _ _ _ _)).trans ke2), gd2⟩, rfl⟩
    ·simp only [go_sem,seval, aQ ho.recs hp]
    ·rw [hs]; simp only [dY, hz, if_true, hf2, ht, Bool.false_eq_true, if_false]
  ·simp only [go_sem,seval, hz]
   refine aM.same ?_
   simp only [go_sem,seval]
   have k1 := k'.next s'
   have hg1 : Good [f'] := gd
   refine aW (nR k1 (by simp) p.vars ho.vars p.aH ho.aH false false) (fun v g2 ⟨hv, k2, ke2⟩ => ?_)
   subst hv
   have hg2 : Good (cH [f'] s' p.vars p.aH).1 := hg1.vars
   have eb : dY [[]] ⟨-1, 0⟩ p.recs = ([f'], s') := by rw [hs]; simp only [dY, hz, if_false]
   generalize e2 : cH [f'] s' p.vars p.aH = q at k2 hg2
   simp only [go_sem,seval]
   refine aW (CQ _ p.aH (Nat.le_refl _) ho.aH ho.iO k2 (by simp) hg2 rfl false) (fun v g3 ⟨hv, m3, hm3, k3, ke3⟩ => ?_)
   subst hv
   generalize e3 : b7 q.1 (cK [] p.aH :: q.1) q.2 p.aH = s3 at k3
   simp only [go_sem,seval]
   refine tcE (sB _ p.body (Nat.le_refl _) ho.body ho.rH (.inl ⟨rfl, rfl⟩) k3 (Good.KL (hg2.all ho.iO)) false) ?_
   generalize e4 : cS (cK [] p.aH :: q.1) s3 0 p.body = s4
   have kc := (k3.next s4).cell
   have ea : mY p = s4 := by simp only [mY, eb, e2, e3, e4]
   have lz : h.le (g3.upd c (bW (.ip [.ip [.ptr none, .map (some m)] 0, .map (some m3)] 0) s4 (.ptr none))) := by
    intro b o hb
    have hbc : b ≠ c := by intro hh; subst hh; rw [hcn] at hb; cases hb
    have hbm : b ≠ m := by intro hh; subst hh; rw [hm] at hb; cases hb
    have e7 : g2 b = h b := (ke2 b hbc hbm).trans ((aC _ _ _ hbc).trans (ke b hbc hbm))
    rw [aC _ _ _ hbc, ke3 b hbc (by rw [e7, hb]; simp), e7, hb]
   simp only [go_sem,seval, ↓kc]
   by_cases hb : s4.bad = 0
   ·simp only [go_sem,seval, hb]
    exact .forget lz ⟨by simp [check, ea, hb], rfl⟩
   ·simp only [go_sem,seval, hb, ↓kc]
    exact .forget lz ⟨by simp [check, ea, hb], rfl⟩
 ·rintro e g ⟨⟨s', f', hs, k', ke, gd⟩, rfl⟩
  simp only [go_sem,seval, bE]
  refine aM.same ?_
  simp only [go_sem,seval]
  have hg1 : Good [f'] := gd
  refine aW (nR k' (by simp) p.vars ho.vars p.aH ho.aH false false) (fun v g2 ⟨hv, k2, ke2⟩ => ?_)
  subst hv
  have hg2 : Good (cH [f'] s' p.vars p.aH).1 := hg1.vars
  have eb : dY [[]] ⟨-1, 0⟩ p.recs = ([f'], s') := by rw [hs]; simp only [dY]
  generalize e2 : cH [f'] s' p.vars p.aH = q at k2 hg2
  simp only [go_sem,seval]
  refine aW (CQ _ p.aH (Nat.le_refl _) ho.aH ho.iO k2 (by simp) hg2 rfl false) (fun v g3 ⟨hv, m3, hm3, k3, ke3⟩ => ?_)
  subst hv
  generalize e3 : b7 q.1 (cK [] p.aH :: q.1) q.2 p.aH = s3 at k3
  simp only [go_sem,seval]
  refine tcE (sB _ p.body (Nat.le_refl _) ho.body ho.rH (.inl ⟨rfl, rfl⟩) k3 (Good.KL (hg2.all ho.iO)) false) ?_
  generalize e4 : cS (cK [] p.aH :: q.1) s3 0 p.body = s4
  have kc := (k3.next s4).cell
  have ea : mY p = s4 := by simp only [mY, eb, e2, e3, e4]
  have lz : h.le (g3.upd c (bW (.ip [.ip [.ptr none, .map (some m)] 0, .map (some m3)] 0) s4 (.ptr none))) := by
   intro b o hb
   have hbc : b ≠ c := by intro hh; subst hh; rw [hcn] at hb; cases hb
   have hbm : b ≠ m := by intro hh; subst hh; rw [hm] at hb; cases hb
   have e7 : g2 b = h b := (ke2 b hbc hbm).trans (ke b hbc hbm)
   rw [aC _ _ _ hbc, ke3 b hbc (by rw [e7, hb]; simp), e7, hb]
  simp only [go_sem,seval, ↓kc]
  by_cases hb : s4.bad = 0
  ·simp only [go_sem,seval, hb]
   exact .forget lz ⟨by simp [check, ea, hb], rfl⟩
  ·simp only [go_sem,seval, hb, ↓kc]
   exact .forget lz ⟨by simp [check, ea, hb], rfl⟩
end Pg

namespace Pg
open Go
set_option linter.all false
theorem eE.own [GI] {K : AV → AHeap → Prop} {b n cap total size : Nat} {ty : TypeId} {es : List (List AV)} {cs : List AV} {h : AHeap} (hn : n = es.length) (hb : h b = some (.blk cs total ty)) (hcs : es.flatten = cs.take (es.length * size)) (hs : ∀ e ∈ es, e.length = size) (hc : es.length ≤ cap) (k : K (.sl es false) (h.del b)) : eE K (.os b n cap) h := by
 subst hn
 refine ⟨_, _, ?_, k⟩
 intro I w us r s
 obtain ⟨J, n, s', hv⟩ := BN s hb hcs hs
 obtain ⟨u, us', rfl, r1, r2⟩ := r.dN
 have := r2.of_nil; subst this
 have := r1.pQ; subst this
 exact ⟨J, n, .cons (hv cap hc) (.nil J), s'⟩
theorem aF.own [GI] {e : Env} {b n cap total size : Nat} {ty : TypeId} {es : List (List AV)} {cs : List AV} {h : AHeap} (s : Nat) (hv : e.get s = .os b n cap) (hb : h b = some (.blk cs total ty)) (hcs : es.flatten = cs.take (es.length * size)) (hs : ∀ e ∈ es, e.length = size) (hn : n = es.length) (hc : es.length ≤ cap) : aF e h [(s, .sl es false)] (h.del b) := by
 subst hn
 intro I w N tmps es sat
 obtain ⟨J, n, s', hr⟩ := BN sat hb hcs hs
 have h1 := es.at_ s
 rw [hv] at h1
 have h2 := h1.pQ
 refine ⟨J, n, ⟨es.size, fun t => ?_⟩, s'⟩
 simp only [Env.get]
 split
 ·rename_i ht
  subst ht
  rw [h2]; exact hr cap hc
 ·exact .any _
theorem eE.heap [GI] {K : AV → AHeap → Prop} {v : AV} {g g' : AHeap} (le : qV g g') (k : eE K v g') : eE K v g := by
 obtain ⟨v', g'', wk, k⟩ := k
 exact ⟨v', g'', nA.trans (fun I w us r s => ⟨I, le.new w I, r, le.sat s⟩) wk, k⟩
end Pg

namespace Pg
open Go Go.Proofs.Tryz
set_option linter.all false
set_option maxHeartbeats 4000000
set_option maxRecDepth 4000
theorem aAJ [GI] (h : AHeap) (n : Int) : aD prog 72 [.int .i64 n] h (fun v g => ∃ b, v = .ptr (some ⟨b, 0, none⟩) ∧ h b = none ∧ g = h.upd b (.blk [.int .i64 n, .sl [] true] 2 210)) := by
 refine F72.calls (by simp) ?_
 delta F72.c0
 simp only [go_sem,seval]
 refine aS fun b hb => ?_
 simp only [go_sem,seval]
 exact .same ⟨b, rfl, hb, rfl⟩
theorem aFn (n : Int) : (if (if 1048576 < n then 1048576 else n) > 0 then (if 1048576 < n then 1048576 else n) else 0) = max 0 (min n 1048576) := by
 split <;> split at * <;> omega
theorem aBh [GI] (h : AHeap) (p : Prg) (input : List Int) (f : Bool) (fuel : Int) : aD prog 27 [.sl (p.recs.map eB) false, .sl (input.map eInt) f, .int .i64 fuel] h (fun v g => ∃ M st l', v = .ptr (some ⟨M, 0, none⟩) ∧ g = h.join l' ∧ h.apart l' ∧ Mem l' M st (fX p fuel) (l8 input)) := by
 refine F27.calls (by simp) ?_
 delta F27.c0
 simp only [go_sem,seval]
 refine aW (aAJ h _) fun v g hg => ?_
 obtain ⟨st, rfl, hst, rfl⟩ := hg
 simp only [go_sem,seval, aFn]
 refine aS fun M hM => ?_
 simp only [go_sem,seval]
 have hne := iF hM
 have hMh := fT hM
 have hg : (h.upd st (.blk [.int .i64 1048576, .sl [] true] 2 210)).upd M (sM st p.recs (max 0 (min fuel 1048576)) (l8 input) (.sl [] true) f) = h.join ((eheap.upd st (.blk [.int .i64 1048576, .sl [] true] 2 210)).upd M (sM st p.recs (max 0 (min fuel 1048576)) (l8 input) (.sl [] true) f)) := by
  rw [← eL _ _ hMh, ← eL _ _ hst, YU]
 refine .same ⟨M, st, _, rfl, hg, ?_, .sl [] true, .sl [] true, f, aA _ _ _, ?_, .nil _ _ _, .nil _ _ _, .nil _, .nil _, .nil _, .nil _, (fun _ _ _ e => by cases e), hne.symm⟩
 ·exact dH (dH (U5 h) _ hst) _ hMh
 ·rw [aC _ _ _ hne, aA]
theorem eE.outcome [GI] {K : AV → AHeap → Prop} {a b : Int} {ov : AV} {s s0 l : AHeap} (le0 : s0.le s) (ap : s.apart l) {rows : List (List AV)} (o : OL l 2 1 ov rows) (k : K (.agg [.int .i64 a, .sl rows false, .int .i64 b]) s0) : eE K (.agg [.int .i64 a, ov, .int .i64 b]) (s.join l) := by
 rcases o with ⟨rfl, rfl⟩ | ⟨q, cap, cs, rfl, h2, h3, h4, h5, h6⟩
 ·exact eE.less (dE.agg (.cons (.refl _) (.cons (.sl _ _) (.cons (.refl _) .nil)))) (AHeap.le_trans le0 (AHeap.rT s l)) k
 ·refine ⟨_, _, ?_, k⟩
  intro I w us r sat
  have hq := (AHeap.eT ap) _ _ h2
  obtain ⟨J, n, s', hv⟩ := BN sat hq (es := rows) (size := 1) h5.symm h6
  have le : s0.le ((s.join l).del q) := by
   intro b' x e0
   have e := le0 _ _ e0
   by_cases hb : b' = q
   ·subst hb; rw [kX ap h2] at e; cases e
   ·rw [pT _ _ hb]; exact fP e
  refine ⟨J, n.forget le, ?_, s'.forget le⟩
  obtain ⟨u, us', rfl, r1, r2⟩ := r.dN
  have := r2.of_nil; subst this
  obtain ⟨vs, rfl, r3, r4⟩ := r1.mO
  obtain ⟨v1, vs1, rfl, q1, q2⟩ := r3.dN
  obtain ⟨v2, vs2, rfl, q3, q4⟩ := q2.dN
  obtain ⟨v3, vs3, rfl, q5, q6⟩ := q4.dN
  have := q6.of_nil; subst this
  have := q3.pQ; subst this
  exact .cons (.qP (.cons (q1.mono n.imm) (.cons (hv cap h3) (.cons (q5.mono n.imm) (.nil J)))) r4) (.nil J)
structure aBK (C : Nat) (p : Prg) : Prop where
 C1 : 1 ≤ C
 sc : vI C [p.aH]
 body : ∀ y ∈ p.body, tT [p.aH] y
 few : few p.body
 vars : Pg.few p.vars
 recs : Pg.few p.recs
 BO : ∀ r ∈ p.recs, Pg.few r.fields
abbrev IL (code : Int) (out : List Int) (steps : Int) : List AV := [.int .i64 code, .sl (out.map eInt) false, .int .i64 steps]
abbrev mA (C : Nat) (p : Prg) : Nat := 1048576 * C + aZ.wt p.body
theorem RK [GI] (h : AHeap) (p : Prg) (ho : p.ok) (ht : (check p).2 = 0 → aD prog 26 [.int .i64 0, .agg (fJ p)] h (fun v g => v = .int .i64 0 ∧ g = h)) {C : Nat} (hC : (check p).2 = 0 → aBK C p) (input : List Int) (hi : few input) (f : Bool) (fuel : Int) :
  aD prog 11 [.agg (fJ p), .sl (input.map eInt) f, .int .i64 fuel] h (fun v g => v = .agg (if (check p).2 = 0 then IL (kS (mA C p) p input fuel).code (kS (mA C p) p input fuel).out (kS (mA C p) p input fuel).steps else IL 1 [] 0) ∧ g = h) := by
 refine F11.calls (by simp) ?_
 delta F11.c0
 simp only [go_sem,seval]
 refine aS fun b hb => ?_
 simp only [go_sem,seval, oL, pN]
 refine tcE (Z1 _ p ho) ?_
 by_cases hc : (check p).2 = 0
 case neg =>
  simp only [go_sem,seval, hc, aA, aB]
  refine eE.less (dE.agg (.cons (.refl _) (.cons (.sl _ _) (.cons (.refl _) .nil)))) (AHeap.b8 hb) ⟨?_, rfl⟩
  simp [hc]
 have R := hC hc
 have htc := ht hc
 have htf : aD prog 26 [.int .i64 0, .agg (fJ p)] (h.upd b (.blk [.int .i64 0, .sl [] true, .int .i64 0] 3 34)) (fun v g => v = .int .i64 0 ∧ g = h.upd b (.blk [.int .i64 0, .sl [] true, .int .i64 0] 3 34)) := by
  refine (rB hb htc).mono ?_
  rintro v g ⟨g', _, rfl, rfl, rfl⟩
  exact ⟨rfl, rfl⟩
 simp only [go_sem,seval, hc, oL, pN]
 refine tcE (htf) ?_
 simp only [go_sem,seval, YN, YL]
 refine aW (aBh _ p input f fuel) fun v g hg => ?_
 obtain ⟨M, st, l1, rfl, rfl, a1, m1⟩ := hg
 simp only [go_sem,seval]
 refine aS fun nm hnm => ?_
 obtain ⟨hn1, hn2⟩ := join_none hnm
 rw [bZ]
 have hfn : ∀ (F : Frm), hJ (.ip [.ptr (some ⟨M, 0, none⟩)] 0) [(nm, F)] = .ip [.ip [.ptr (some ⟨M, 0, none⟩)] 0, .map (some nm), .sl (F.aH.map aU) false, .ptr none] 0 := fun _ => rfl
 have k0 : MOk (fX p fuel) (l8 input) := ⟨by simp only [fX]; omega, by simp [l8], by simp [l8], by simp only [l8, fX]; omega, by simp [l8], by simp [l8], by simp [l8], hi⟩
 simp only [go_sem,seval, YM]
 have fl := NW (nm := nm) (s := h.upd b (.blk [.int .i64 0, .sl [] true, .int .i64 0] 3 34)) (M := M) (st := st) (c := fX p fuel) R.recs p.vars R.vars false [] ⟨[], p.aH⟩ [] (l := l1) (x := l8 input) (gO a1 _ hn2) m1 k0
 rw [hfn] at fl
 have kV : Kept (fX p fuel) (l8 input) (gU (fX p fuel) p.vars [] (l8 input)).2 := (IC _).gU p.vars [] (l8 input)
 have hP : kS (mA C p) p input fuel = ((ops (fX p fuel) (mA C p)).run [⟨(gU (fX p fuel) p.vars [] (l8 input)).1, p.aH⟩] p.body (gU (fX p fuel) p.vars [] (l8 input)).2).2 := rfl
 generalize gU (fX p fuel) p.vars [] (l8 input) = V at hP fl kV
 obtain ⟨names, x1⟩ := V
 simp only at hP fl kV
 refine aW fl fun w g hg => ?_
 obtain ⟨rfl, l2, rfl, a2, m2⟩ := hg
 have k1 := kV.ok k0
 have H : jA (fX p fuel) C M st ((h.upd b (.blk [.int .i64 0, .sl [] true, .int .i64 0] 3 34)).upd nm (.mp (names.map eNm))) l2 [(nm, ⟨names, p.aH⟩)] x1 := ⟨a2, m2, k1, fun q hq => by simp at hq; subst hq; exact aA _ _ _, R.sc, R.recs, R.BO, R.C1⟩
 have hleft : left (fX p fuel) x1 ≤ 1048576 := by have := k1.fuel; have := k1.nS; unfold left; omega
 have hmul : left (fX p fuel) x1 * C ≤ 1048576 * C := Nat.mul_le_mul_right C hleft
 have lr := (aFi (c := fX p fuel) (C := C) (M := M) (st := st) (mA C p)).run (fl := false) H R.few R.body (by unfold mA; omega)
 change aD _ _ _ _ (To _ M st _ (.tuple [.int .i64 ((ops (fX p fuel) (mA C p)).run [⟨names, p.aH⟩] p.body x1).1.1, .bool ((ops (fX p fuel) (mA C p)).run [⟨names, p.aH⟩] p.body x1).1.2]) ((ops (fX p fuel) (mA C p)).run [⟨names, p.aH⟩] p.body x1).2) at lr
 rw [hP]
 generalize (ops (fX p fuel) (mA C p)).run [⟨names, p.aH⟩] p.body x1 = Q at lr ⊢
 obtain ⟨⟨n, bk⟩, y⟩ := Q
 simp only at lr ⊢
 simp only [go_sem,seval, hfn, YK]
 refine tcM lr fun l3 a3 m3 => ?_
 simp only [go_sem,seval]
 refine aW (RM a3 m3) fun v g hg => ?_
 obtain ⟨ov, rfl, oo, rfl⟩ := hg
 have hnb : nm ≠ b := by
  intro hh; subst hh
  rw [aA] at hn1; cases hn1
 have hbj : (((h.upd b (.blk [.int .i64 0, .sl [] true, .int .i64 0] 3 34)).upd nm (.mp (names.map eNm))).join l3) b = some (.blk [.int .i64 0, .sl [] true, .int .i64 0] 3 34) := fP (by rw [aC _ _ _ hnb.symm, aA])
 simp only [go_sem,seval, hbj, aA]
 rw [bZ, bH _ _ _ hnb, aB]
 have a4 : ((h.upd b (.blk [.int .i64 y.code, ov, .int .i64 y.steps] 3 34)).upd nm (.mp (names.map eNm))).apart l3 := by
  intro k o e
  by_cases h1 : k = nm
  ·subst h1; exact a3 k _ (aA _ _ _)
  ·rw [aC _ _ _ h1] at e
   by_cases h2 : k = b
   ·subst h2; exact a3 k (.blk [.int .i64 0, .sl [] true, .int .i64 0] 3 34) (by rw [aC _ _ _ h1, aA])
   ·rw [aC _ _ _ h2] at e
    exact a3 k o (by rw [aC _ _ _ h1, aC _ _ _ h2]; exact e)
 exact eE.outcome (AN hnb.symm hb (fT hn1) _ _) a4 oo ⟨by simp [hc], rfl⟩
end Pg
