import Derived.Test.YtdfbkddelhbgmaaGreatDoorTreeSS3
import Derived.Test.YtdfbkddelhbgmaaGreatDoorCkWS3
namespace Pg
open Go Go.Proofs.Tryz
set_option linter.all false
set_option maxHeartbeats 4000000
set_option maxRecDepth 4000
theorem O5 (a b : Typ) : dI [1, 1, 2] (bV a) (bV b) = some (decide (a = b)) := by
 obtain ⟨k, s, n⟩ := a
 obtain ⟨k', s', n'⟩ := b
 simp only [bV, dI, l9, if_true]
 congr 1
 by_cases h1 : k = k' <;> by_cases h2 : s = s' <;> by_cases h3 : n = n' <;> simp [h1, h2, h3]
section
variable {h : AHeap} {c : Nat} {sp inp : AV} {s : CS} {fs : List Scope} {bs : List Nat}
theorem N9 [GI] (x : Expr) (hl : few x.l) (he : ∀ y ∈ x.l, nC y false) (k : eN h c sp inp s fs bs) (fw : tD fs) (r : Routine) (hr : few r.params) (p6 : AV) {Q : Exit → Env → AHeap → Tok → Prop} {e : Env}
  (g0 : e.get 0 = .ptr (some ⟨c, 0, none⟩)) (g4 : e.get 4 = .ip (aO x) 0) (g6 : e.get 6 = p6) (g7 : e.get 7 = .ip (dM (.bU r)) 0) (g63 : e.get 63 = .sl (r.params.map c7) false) (g64 : e.get 64 = .int .i64 r.params.length) (g65 : e.get 65 = .int .i64 0)
  (hQ : Q (.exit 1) [(6, p6), (7, .ip (dM (.bU r)) 0)] (h.upd c (bW sp (dB fs s r.params x.l) inp)) .go) : lT .go prog 134 EZ.c19 Q e h := by
 delta EZ.c19
 refine aX r.params (fun pre post e g => (∃ s', dB fs s r.params x.l = dB fs s' post (x.l.drop pre.length) ∧ g = h.upd c (bW sp s' inp)) ∧ e = [(0, .ptr (some ⟨c, 0, none⟩)), (4, .ip (aO x) 0), (6, p6), (7, .ip (dM (.bU r)) 0), (63, .sl (r.params.map c7) false), (64, .int .i64 r.params.length), (65, .int .i64 pre.length)]) (aF.env ?_) ⟨⟨s, by simp, k.self.symm⟩, rfl⟩ ?_ ?_
 ·simp only [go_sem,seval, g0, g4, g6, g7, g63, g64, g65]
 ·rintro pre y post e g hp ⟨⟨s', hs, rfl⟩, rfl⟩
  have out : dB fs s' (y :: post) (x.l.drop pre.length) = s' → aM Q (.exit 1) [(6, p6), (7, .ip (dM (.bU r)) 0)] (h.upd c (bW sp s' inp)) := fun hh => by rw [hs, hh] at hQ; exact .same hQ
  have outE : ∀ e', y5 e' [(6, p6), (7, .ip (dM (.bU r)) 0)] → dB fs s' (y :: post) (x.l.drop pre.length) = s' → aM Q (.exit 1) e' (h.upd c (bW sp s' inp)) := fun e' le hh => by rw [hs, hh] at hQ; exact .to (.env le) hQ
  have k' := k.next s'
  have kc := k'.cell
  simp only [go_sem,seval, bI hp, aI (aK hp) (bP y), ↓kc]
  by_cases hb : s'.bad = 0
  ·by_cases hi : pre.length < x.l.length
   ·have hx : x.l.drop pre.length = x.l[pre.length] :: x.l.drop (pre.length + 1) := List.drop_eq_getElem_cons hi
    have hxm : (x.l.map aO)[pre.length]? = some (aO x.l[pre.length]) := by simp [hi]
    have hmem : x.l[pre.length] ∈ x.l := List.getElem_mem hi
    generalize x.l[pre.length] = z at hx hxm hmem
    simp only [go_sem,seval, hb, show ((pre.length : Int) ≥ x.l.length) = False by simp; omega, aI hxm (aR z)]
    by_cases hm : y.mode = 0
    ·simp only [go_sem,seval, hm, aI hxm (aR z)]
     refine tcE (rC z (he z hmem) k' fw [y.t.kind] (cX (by simp)) true) ?_
     simp only [go_sem,seval, aB]
     refine ⟨_, _, aF.env ?_, ⟨_, ?_, rfl⟩, rfl⟩
     ·simp only [go_sem,seval, aQ hr hp]
     ·rw [hs, hx]
      simp [dB, hb, hm]
    ·simp only [go_sem,seval, hm, aI hxm (aR z)]
     have mid : ∀ (s2 : CS) (e2 : Env), s2 = (if z.op = 4 ∨ z.op = 5 ∨ z.op = 6 then s' else s'.fail 14) → dB fs s' (y :: post) (z :: x.l.drop (pre.length + 1)) = dB fs (if (bY fs s2 z false).1 = y.t then (bY fs s2 z false).2 else (bY fs s2 z false).2.fail 14) post (x.l.drop (pre.length + 1)) := by
      rintro s2 e2 rfl
      simp only [dB, hb, hm, if_true, if_false]
     repeat' (refine cP (fun hg => ?_) (fun hg => ?_) <;> simp only [go_sem,seval, hg, Bool.not_true, Bool.not_false, aI hxm (aR z)])
     all_goals try
      refine tcE (cL k'.hc 14) ?_
      simp only [go_sem,seval, aB, aI hxm (aR z)]
     all_goals
      first
      | (refine aW (he z hmem (k.next (s'.fail 14)) fw) (fun v g ⟨hv, hg⟩ => ?_); subst v g)
      | (refine aW (he z hmem k' fw) (fun v g ⟨hv, hg⟩ => ?_); subst v g)
     all_goals
      simp only [go_sem,seval, aB, O5]
      repeat' (refine cP (fun hg => ?_) (fun hg => ?_) <;> simp only [go_sem,seval, hg, Bool.not_true, Bool.not_false])
     all_goals try
      refine tcE (cL (k.next _).hc 14) ?_
      simp only [go_sem,seval, aB]
     all_goals
      refine ⟨_, _, aF.env ?_, ⟨_, ?_, rfl⟩, rfl⟩
      ·simp only [go_sem,seval, aQ hr hp]
      ·rw [hs, hx, mid _ [] rfl]
       simp_all
   ·have hx : x.l.drop pre.length = [] := List.drop_eq_nil_of_le (by omega)
    simp only [go_sem,seval, hb, show ((pre.length : Int) ≥ x.l.length) = True by simp; omega]
    refine outE _ ?_ (by rw [hx]; simp [dB])
    simp only [go_sem,seval]
  ·simp only [go_sem,seval, hb]
   refine outE _ ?_ ?_
   ·simp only [go_sem,seval]
   ·cases hd : x.l.drop pre.length with
    | nil => simp [dB]
    | cons z zs => simp [dB, hb]
 ·rintro e g ⟨⟨s', hs, rfl⟩, rfl⟩
  simp only [go_sem,seval, bE]
  rw [hs] at hQ
  simp only [dB] at hQ
  refine aM.to (.env ?_) hQ
  simp only [go_sem,seval]
theorem aED [GI] (x : Expr) (hop : x.op = 7) (hb : s.bad = 0) (hl : few x.l) (he : ∀ y ∈ x.l, nC y false) (k : eN h c sp inp s fs bs) (fw : tD fs) (stmt : Bool) :
  iZ 176 [.ptr (some ⟨c, 0, none⟩), .agg (aO x), .bool stmt] h c sp inp (.agg (bV (bY fs s x stmt).1)) (bY fs s x stmt).2 := by
 unfold iZ
 have hcl := k.cell
 rw [fQ]
 simp only [hb, hop, if_true, Int.reduceEq, if_false]
 refine EZ.calls (by simp) ?_
 delta EZ.c0
 simp only [go_sem,seval]
 refine aS fun p hp => ?_
 have hne := k.ne hp
 have hne' := hne.symm
 have kp := k.fresh hp (.blk [.int .i64 0, .int .i64 0, .str ⟨#[]⟩] 3 51)
 simp only [go_sem,seval, hcl, aC _ _ _ hne]
 refine tcE (find_spec kp.ch x.name) ?_
 simp only [go_sem,seval, hcl, aC _ _ _ hne]
 refine aS fun q hq => ?_
 have hcq := kp.ne hq
 have hpq : p ≠ q := iF hq
 have fin : ∀ (t : Typ) (s' : CS) (r : Typ × CS), r = (t, s') → eE (fun v g => v = .agg (bV r.1) ∧ g = h.upd c (bW sp r.2 inp)) (.agg [.int .i64 t.kind, .int .i64 t.size, .str t.name]) ((h.upd p (.blk [.int .i64 t.kind, .int .i64 t.size, .str t.name] 3 51)).upd c (bW sp s' inp)) := by
  intro t s' r e
  rw [e]
  exact .forget (oH (r9 hp) _ _) ⟨rfl, rfl⟩
 cases hf : bD fs x.name with
 | none =>
  simp only [go_sem,seval, hcl, aC _ _ _ hcq, aC _ _ _ hne, aB, fE _ _ _ hq]
  refine tcE (cL kp.hc 13) ?_
  simp only [go_sem,seval, aC _ _ _ hne', bH _ _ _ hne, aB]
  exact fin noTyp _ _ rfl
 | some y =>
  cases y with
  | var t =>
   simp only [go_sem,seval, dM, hcl, aC _ _ _ hcq, aC _ _ _ hne, aB, fE _ _ _ hq]
   refine tcE (cL kp.hc 13) ?_
   simp only [go_sem,seval, aC _ _ _ hne', bH _ _ _ hne, aB]
   exact fin noTyp _ _ rfl
  | rcd r =>
   simp only [go_sem,seval, dM, hcl, aC _ _ _ hcq, aC _ _ _ hne, aB, fE _ _ _ hq]
   refine tcE (cL kp.hc 13) ?_
   simp only [go_sem,seval, aC _ _ _ hne', bH _ _ _ hne, aB]
   exact fin noTyp _ _ rfl
  | bU r =>
   simp only [go_sem,seval, dM, hcl, aC _ _ _ hcq, aC _ _ _ hne, aB, fE _ _ _ hq]
   by_cases hst : decide (0 < r.result) = stmt
   ·have hst' : decide (r.result > 0) = stmt := hst
    simp only [go_sem,seval, hst']
    refine tcE (cL kp.hc 14) ?_
    simp only [go_sem,seval, dM]
    refine N9 x hl he (kp.next (s.fail 14)) fw r (fw.bU _ _ hf) (.ptr (some ⟨p, 0, none⟩)) ?_ ?_ ?_ ?_ ?_ ?_ ?_ ?_
    iterate 7 (simp only [go_sem,seval, dM])
    simp only [go_sem,seval, dM, aC _ _ _ hne', bH _ _ _ hne, aB]
    exact fin (bC r.result) _ _ (by first | rfl | simp only [hst, if_true])
   ·have hst' : (decide (r.result > 0) = stmt) = False := by simpa using hst
    by_cases hlen : r.params.length = x.l.length
    ·simp only [go_sem,seval, hst', hlen, dM]
     refine N9 x hl he kp fw r (fw.bU _ _ hf) (.ptr (some ⟨p, 0, none⟩)) ?_ ?_ ?_ ?_ ?_ ?_ ?_ ?_
     iterate 7 (simp only [go_sem,seval, dM, hlen])
     simp only [go_sem,seval, dM, aC _ _ _ hne', bH _ _ _ hne, aB]
     exact fin (bC r.result) _ _ (by first | rfl | simp only [hst, hlen, if_true, if_false])
    ·simp only [go_sem,seval, hst', dM, show ((r.params.length : Int) = x.l.length) = False by simp; omega]
     refine tcE (cL kp.hc 15) ?_
     simp only [go_sem,seval, dM, aC _ _ _ hne', bH _ _ _ hne, aB]
     exact fin noTyp _ _ (by first | rfl | simp only [hst, hlen, if_false])
end
end Pg

namespace Pg
open Go
set_option linter.all false
set_option maxHeartbeats 4000000
set_option maxRecDepth 4000
theorem GG {α : Type} {a b c d e f : α} : bM [a, b, c] 0 [d, e, f] = [d, e, f] := by
 simp [bM]
theorem aEu [GI] (x : Expr) (hl : few x.l) (he : ∀ y ∈ x.l, nC y false) (stmt : Bool) : nC x stmt := by
  intro h c sp inp s fs bs k fw
  unfold iZ
  have hcl := k.cell
  refine SZ.calls (by simp) ?_
  delta SZ.c0
  simp only [go_sem,seval]
  refine aS fun p hp => ?_
  have hne := k.ne hp
  have hne' := hne.symm
  have kp := fun o => k.fresh (p := p) hp o
  have fin : ∀ (t : Typ) (s' : CS) (r : Typ × CS), r = (t, s') → eE (fun v g => v = .agg (bV r.1) ∧ g = h.upd c (bW sp r.2 inp)) (.agg [.int .i64 t.kind, .int .i64 t.size, .str t.name]) ((h.upd p (.blk [.int .i64 t.kind, .int .i64 t.size, .str t.name] 3 51)).upd c (bW sp s' inp)) := by
    intro t s' r e
    rw [e]
    exact .forget (oH (r9 hp) _ _) ⟨rfl, rfl⟩
  have fin0 : ∀ (t : Typ), bY fs s x stmt = (t, s) → eE (fun v g => v = .agg (bV (bY fs s x stmt).1) ∧ g = h.upd c (bW sp (bY fs s x stmt).2 inp)) (.agg [.int .i64 t.kind, .int .i64 t.size, .str t.name]) (h.upd p (.blk [.int .i64 t.kind, .int .i64 t.size, .str t.name] 3 51)) := by
    intro t e
    have := fin t s _ e
    rwa [dQ (h := h.upd p _) (b := c) (by rw [aC _ _ _ hne]; exact k.hc)] at this
  by_cases hb : s.bad = 0
  case neg =>
    simp only [go_sem,seval, hcl, aC _ _ _ hne, hb, aB]
    exact fin0 noTyp (by rw [fQ]; simp [hb])
  have scal : ∀ n : Int, n = 1 ∨ n = 2 ∨ n = 3 → x.op = n → bY fs s x stmt = (bC n, s) := by
    intro n hn hop
    rw [fQ]
    rcases hn with rfl | rfl | rfl <;> simp [hb, hop]
  have pairs : ∀ (n : Int) (s' : CS), bY fs s x stmt = (bC n, s') → eE (fun v g => v = .agg (bV (bY fs s x stmt).1) ∧ g = h.upd c (bW sp (bY fs s x stmt).2 inp)) (.agg [.int .i64 n, .int .i64 0, .str ⟨#[]⟩]) ((h.upd p (.blk [.int .i64 n, .int .i64 0, .str ⟨#[]⟩] 3 51)).upd c (bW sp s' inp)) :=
    fun n s' e => fin (bC n) s' _ e
  have bools : (x.op = 9 ∨ x.op = 13 ∨ x.op = 14 ∨ x.op = 17 ∨ x.op = 18) → bY fs s x stmt = (bC 2, cC fs s x.l 2) := by
    intro hop
    rw [fQ]
    rcases hop with hop | hop | hop | hop | hop <;> simp [hb, hop]
  by_cases h1 : x.op = 1
  · simp only [go_sem,seval, hcl, aC _ _ _ hne, hb, aB, h1]
    exact fin0 (bC 1) (scal 1 (by simp) h1)
  by_cases h2 : x.op = 2
  · simp only [go_sem,seval, hcl, aC _ _ _ hne, hb, aB, h2]
    exact fin0 (bC 2) (scal 2 (by simp) h2)
  by_cases h3 : x.op = 3
  · simp only [go_sem,seval, hcl, aC _ _ _ hne, hb, aB, h3]
    exact fin0 (bC 3) (scal 3 (by simp) h3)
  by_cases h4 : x.op = 4
  · simp only [go_sem,seval, hcl, aC _ _ _ hne, hb, aB, h4]
    refine tcE (qY (kp _) x.name) ?_
    simp only [go_sem,seval, aC _ _ _ hne', bH _ _ _ hne, aB, bV, GG]
    exact fin _ _ _ (by rw [fQ]; simp [hb, h4])
  by_cases h5 : x.op = 5
  · have e5 : bY fs s x stmt = (bC (bK fs s x.name).1.kind, cC fs (if (bK fs s x.name).1.size = 0 then (bK fs s x.name).2.fail 14 else (bK fs s x.name).2) x.l 1) := by
      rw [fQ]; simp [hb, h5]
    simp only [go_sem,seval, hcl, aC _ _ _ hne, hb, aB, h5]
    refine tcE (qY (kp _) x.name) ?_
    by_cases hz : (bK fs s x.name).1.size = 0
    · simp only [go_sem,seval, hz]
      refine tcE (cL ((kp _).next _).hc 14) ?_
      simp only [go_sem,seval, aB]
      refine tcE (oW x.l hl he ((kp _).next _) fw 1 false) ?_
      simp only [go_sem,seval, aC _ _ _ hne', bH _ _ _ hne, aB]
      exact pairs _ _ (by rw [e5]; simp [hz])
    · simp only [go_sem,seval, hz]
      refine tcE (oW x.l hl he ((kp _).next _) fw 1 false) ?_
      simp only [go_sem,seval, aC _ _ _ hne', bH _ _ _ hne, aB]
      exact pairs _ _ (by rw [e5]; simp [hz])
  by_cases h6 : x.op = 6
  · simp only [go_sem,seval, hcl, aC _ _ _ hne, hb, aB, h6]
    refine tcE (qY (kp _) x.name) ?_
    simp only [go_sem,seval]
    refine tcE (Y3 ((kp _).next _) _ x.field (fun r hr => fw.rcd _ _ hr)) ?_
    simp only [go_sem,seval, aC _ _ _ hne', bH _ _ _ hne, aB]
    exact pairs _ _ (by rw [fQ]; simp [hb, h6])
  by_cases h7 : x.op = 7
  · simp only [go_sem,seval, hcl, aC _ _ _ hne, hb, aB, h7]
    refine tcE (aED x h7 hb hl he (kp _) fw stmt) ?_
    simp only [go_sem,seval, aC _ _ _ hne', bH _ _ _ hne, aB, bV, GG]
    exact fin _ _ _ rfl
  by_cases hbo : x.op = 9 ∨ x.op = 13 ∨ x.op = 14 ∨ x.op = 17 ∨ x.op = 18
  · have e := bools hbo
    rcases hbo with hop | hop | hop | hop | hop
    all_goals
      simp only [go_sem,seval, hcl, aC _ _ _ hne, hb, aB, hop]
      refine tcE (oW x.l hl he (kp _) fw 2 false) ?_
      simp only [go_sem,seval, aC _ _ _ hne', bH _ _ _ hne, aB]
      exact pairs _ _ e
  have two : ∀ kinds : List Int, ∀ y z : Expr, x.l = [y, z] → j4 fs s kinds x.l = (c8 [(c8 kinds (bY fs s y false)).1] (bY fs (c8 kinds (bY fs s y false)).2 z false)).2 := by
    intro kinds y z e
    rw [e]; simp [j4, cC]
  have two0 : ∀ kinds : List Int, x.l.length ≠ 2 → j4 fs s kinds x.l = s := by
    intro kinds e
    cases hl' : x.l with
    | nil => rfl
    | cons y r => rw [hl'] at e; simp only [j4]; rw [if_neg (by simp at e; omega)]
  have cases2 : x.l.length = 2 → ∃ y z, x.l = [y, z] := by
    intro e
    match hl' : x.l, e with
    | [y, z], _ => exact ⟨y, z, rfl⟩
  by_cases heq : x.op = 19 ∨ x.op = 20
  · have e : bY fs s x stmt = (bC 2, j4 fs s [1, 2, 3] x.l) := by
      rw [fQ]; rcases heq with hop | hop <;> simp [hb, hop]
    by_cases hlen : x.l.length = 2
    · obtain ⟨y, z, hyz⟩ := cases2 hlen
      rw [two _ y z hyz] at e
      have hy : nC y false := fun k fw => he y (by simp [hyz]) k fw
      have hz : nC z false := fun k fw => he z (by simp [hyz]) k fw
      have a0 : ∀ f, aia 5 (.sl (x.l.map aO) f) (.int .i64 0) = some (.ip (aO y) 0) := fun f => aI (i := 0) (by rw [hyz]; rfl) (aR y)
      have a1 : ∀ f, aia 5 (.sl (x.l.map aO) f) (.int .i64 1) = some (.ip (aO z) 0) := fun f => aI (i := 1) (by rw [hyz]; rfl) (aR z)
      rcases heq with hop | hop
      all_goals
        simp only [go_sem,seval, hcl, aC _ _ _ hne, hb, aB, hop, a0, a1, show ((x.l.length : Int) = 2) = True by simp; omega]
        refine tcE (aBG y hy (kp _) fw) ?_
        simp only [go_sem,seval, aB]
        refine tcE (rC z hz ((kp _).next _) fw [_] (cX (by simp)) true) ?_
        simp only [go_sem,seval, aC _ _ _ hne', bH _ _ _ hne, aB]
        exact pairs _ _ e
    · rcases heq with hop | hop
      all_goals
        simp only [go_sem,seval, hcl, aC _ _ _ hne, hb, aB, hop, show ((x.l.length : Int) = 2) = False by simp; omega]
        exact fin0 (bC 2) (by rw [e, two0 _ hlen])
  by_cases hlt : x.op = 21 ∨ x.op = 22 ∨ x.op = 23 ∨ x.op = 24
  · have e : bY fs s x stmt = (bC 2, j4 fs s [1, 3] x.l) := by
      rw [fQ]; rcases hlt with hop | hop | hop | hop <;> simp [hb, hop]
    by_cases hlen : x.l.length = 2
    · obtain ⟨y, z, hyz⟩ := cases2 hlen
      rw [two _ y z hyz] at e
      have hy : nC y false := fun k fw => he y (by simp [hyz]) k fw
      have hz : nC z false := fun k fw => he z (by simp [hyz]) k fw
      have a0 : ∀ f, aia 5 (.sl (x.l.map aO) f) (.int .i64 0) = some (.ip (aO y) 0) := fun f => aI (i := 0) (by rw [hyz]; rfl) (aR y)
      have a1 : ∀ f, aia 5 (.sl (x.l.map aO) f) (.int .i64 1) = some (.ip (aO z) 0) := fun f => aI (i := 1) (by rw [hyz]; rfl) (aR z)
      rcases hlt with hop | hop | hop | hop
      all_goals
        simp only [go_sem,seval, hcl, aC _ _ _ hne, hb, aB, hop, a0, a1, show ((x.l.length : Int) = 2) = True by simp; omega]
        refine tcE (rC y hy (kp _) fw [1, 3] (cX (by simp)) true) ?_
        simp only [go_sem,seval, aB]
        refine tcE (rC z hz ((kp _).next _) fw [_] (cX (by simp)) true) ?_
        simp only [go_sem,seval, aC _ _ _ hne', bH _ _ _ hne, aB]
        exact pairs _ _ e
    · rcases hlt with hop | hop | hop | hop
      all_goals
        simp only [go_sem,seval, hcl, aC _ _ _ hne, hb, aB, hop, show ((x.l.length : Int) = 2) = False by simp; omega]
        exact fin0 (bC 2) (by rw [e, two0 _ hlen])
  have e : bY fs s x stmt = (bC 1, cC fs s x.l 1) := by
    rw [fQ, if_pos hb, if_neg h1, if_neg h2, if_neg h3, if_neg h4, if_neg h5, if_neg h6, if_neg h7, if_neg (by omega), if_neg (by omega), if_neg (by omega)]
  simp only [go_sem,seval, hcl, aC _ _ _ hne, hb, aB, h1, h2, h3, h4, h5, h6, h7]
  repeat' (refine cP (fun hg => ?_) (fun hg => ?_) <;> simp only [go_sem,seval, hg, Bool.not_true, Bool.not_false, aB])
  all_goals first
    | (exfalso
       simp only [decide_eq_true_eq, decide_eq_false_iff_not, Bool.not_true, Bool.not_false] at *
       omega)
    | skip
  all_goals
    refine tcE (oW x.l hl he (kp _) fw 1 false) ?_
    simp only [go_sem,seval, aC _ _ _ hne', bH _ _ _ hne, aB]
    exact pairs _ _ e
theorem aCP [GI] : ∀ (n : Nat) (x : Expr), x.sz ≤ n → x.ok → ∀ stmt, nC x stmt := by
 intro n
 induction n with
 | zero => intro x hn; rw [Expr.cY] at hn; omega
 | succ n ih =>
  intro x hn ho stmt
  rw [Expr.cY] at hn
  obtain ⟨h1, h2⟩ := (Expr.cN x).1 ho
  exact aEu x h1 (fun y hy => ih y (by have := cI.dU hy; omega) (h2 y hy) false) stmt
theorem EF [GI] (x : Expr) (ho : x.ok) (stmt : Bool) : nC x stmt := aCP _ x (Nat.le_refl _) ho stmt
end Pg
