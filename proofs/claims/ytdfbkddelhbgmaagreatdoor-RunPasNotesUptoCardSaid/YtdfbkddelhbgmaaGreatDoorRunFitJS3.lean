import Derived.Test.YtdfbkddelhbgmaaGreatDoorR12XJS3
import Derived.Test.YtdfbkddelhbgmaaGreatDoorRun10JS3
namespace Pg
open Go
set_option linter.all false
def jW (name : ByteArray) : Option Thing → Th
 | none => noTh
 | some (.var t) => kM name t
 | some (.rcd r) => ⟨name, 1, r, yJ, noTyp⟩
 | some (.bU r) => ⟨name, 2, BE, r, noTyp⟩
def Agr (fs : List Scope) (env : List Th) : Prop := ∀ name, dT env name = jW name (bD fs name)
structure Wfd (fs : List Scope) : Prop where
 var : ∀ name t, bD fs name = some (.var t) → mH t = true
 bU : ∀ name r, bD fs name = some (.bU r) → (∀ p ∈ r.params, dZ p = true) ∧ 0 ≤ r.result ∧ r.result ≤ 3
def SQ {α : Type} (p q : α × CS) : Prop := p.2 = q.2 ∧ (q.2.bad = 0 → p.1 = q.1)
theorem SQ.refl {α : Type} (p : α × CS) : SQ p p := ⟨rfl, fun _ => rfl⟩
theorem fN (s : CS) (e : Int) (h : s.bad ≠ 0) : s.fail e = s := by simp [CS.fail, h]
theorem dR (s : CS) {e : Int} (he : e ≠ 0) : (s.fail e).bad ≠ 0 := FL s he
theorem xM {p q : Typ × CS} (h : SQ p q) {k : Int} (h1 : 1 ≤ k) (h3 : k ≤ 3) : SQ (c8 [k] p) (cW k q) := by
 obtain ⟨e, f⟩ := h
 obtain ⟨t, s⟩ := p
 obtain ⟨u, s'⟩ := q
 simp only at e
 subst e
 by_cases hb : s.bad = 0
 ·have := f hb
  simp only at this
  subst this
  have hc : (0 < t.size ∨ ¬ t.kind ∈ [k]) ↔ (0 < t.size ∨ t.kind < 1 ∨ 3 < t.kind ∨ (0 < k ∧ t.kind ≠ k)) := by
   simp only [List.mem_cons, List.not_mem_nil, or_false]; omega
  unfold c8 cW SQ
  simp only [hc]
  exact ⟨by first | trivial | rfl, fun _ => trivial⟩
 ·unfold c8 cW SQ
  simp only [fN s 14 hb, ite_self]
  exact ⟨trivial, fun h => absurd h hb⟩
theorem IB {p q : Typ × CS} (h : SQ p q) : SQ (c8 [1, 2, 3] p) (cW 0 q) := by
 obtain ⟨e, f⟩ := h
 obtain ⟨t, s⟩ := p
 obtain ⟨u, s'⟩ := q
 simp only at e
 subst e
 by_cases hb : s.bad = 0
 ·have := f hb
  simp only at this
  subst this
  have hc : (0 < t.size ∨ ¬ t.kind ∈ [1, 2, 3]) ↔ (0 < t.size ∨ t.kind < 1 ∨ 3 < t.kind ∨ ((0 : Int) < 0 ∧ t.kind ≠ 0)) := by
   simp only [List.mem_cons, List.not_mem_nil, or_false]; omega
  unfold c8 cW SQ
  simp only [hc]
  exact ⟨by first | trivial | rfl, fun _ => trivial⟩
 ·unfold c8 cW SQ
  simp only [fN s 14 hb, ite_self]
  exact ⟨trivial, fun h => absurd h hb⟩
theorem QJ {p q : Typ × CS} (h : SQ p q) : SQ (c8 [1, 3] p) ((cW 0 q).1, if (cW 0 q).1 = 2 then (cW 0 q).2.fail 14 else (cW 0 q).2) := by
 obtain ⟨e, f⟩ := h
 obtain ⟨t, s⟩ := p
 obtain ⟨u, s'⟩ := q
 simp only at e
 subst e
 by_cases hb : s.bad = 0
 ·have := f hb
  simp only at this
  subst this
  unfold c8 cW SQ
  simp only [List.mem_cons, List.not_mem_nil, or_false]
  by_cases h2 : t.kind = 2
  ·simp only [h2, if_true]
   have c1 : (0 < t.size ∨ ¬ ((2 : Int) = 1 ∨ (2 : Int) = 3)) := .inr (by omega)
   rw [if_pos c1]
   by_cases hs : 0 < t.size
   ·rw [if_pos (.inl hs), fN _ _ (dR s (by decide))]
    exact ⟨by first | trivial | rfl, fun _ => by first | trivial | rfl⟩
   ·rw [if_neg (by omega)]
    exact ⟨by first | trivial | rfl, fun _ => by first | trivial | rfl⟩
  ·rw [if_neg h2]
   have hc : (0 < t.size ∨ ¬ (t.kind = 1 ∨ t.kind = 3)) ↔ (0 < t.size ∨ t.kind < 1 ∨ 3 < t.kind ∨ ((0 : Int) < 0 ∧ t.kind ≠ 0)) := by omega
   simp only [hc]
   exact ⟨by first | trivial | rfl, fun _ => trivial⟩
 ·unfold c8 cW SQ
  simp only [fN s 14 hb, ite_self]
  exact ⟨trivial, fun h => absurd h hb⟩
theorem NO {kinds : List Int} (hk : ∀ k ∈ kinds, 1 ≤ k ∧ k ≤ 3) {p : Typ × CS} (h : (c8 kinds p).2.bad = 0) : 1 ≤ (c8 kinds p).1 ∧ (c8 kinds p).1 ≤ 3 := by
 unfold c8 at h ⊢
 simp only at h ⊢
 split at h
 ·exact absurd h (dR _ (by decide))
 ·rename_i hc
  refine hk _ ?_
  rcases Decidable.em (p.1.kind ∈ kinds) with h' | h'
  ·exact h'
  ·exact absurd (.inr h') hc
theorem zJ {kinds : List Int} {p : Typ × CS} (h : p.2.bad ≠ 0) : (c8 kinds p).2 = p.2 := by
 unfold c8; simp only [fN _ _ h, ite_self]
theorem vR {k : Int} {p : Typ × CS} (h : p.2.bad ≠ 0) : (cW k p).2 = p.2 := by
 unfold cW; simp only [fN _ _ h, ite_self]
theorem uE (fs : List Scope) {s : CS} (h : s.bad ≠ 0) (x : Expr) (b : Bool) : bY fs s x b = (noTyp, s) := by
 rw [fQ, if_neg h]
theorem vS (env : List Th) {s : CS} (h : s.bad ≠ 0) (x : Expr) (b : Bool) : cQ env s x b = (noTyp, s) := by
 rw [xG, if_neg h]
theorem HE (fs : List Scope) {s : CS} (h : s.bad ≠ 0) : ∀ (l : List Expr) (k : Int), cC fs s l k = s
 | [], k => by simp [cC]
 | x :: l, k => by
  simp only [cC, uE fs h]
  rw [zJ (by exact h)]
  exact HE fs h l k
theorem YH (env : List Th) {s : CS} (h : s.bad ≠ 0) : ∀ (l : List Expr) (k : Int), eZ env s l k = s
 | [], k => by simp [eZ]
 | x :: l, k => by
  simp only [eZ, vS env h]
  rw [vR (by exact h)]
section
variable {fs : List Scope} {env : List Th}
theorem uZ (a : Agr fs env) (s : CS) (name : ByteArray) : SQ (bK fs s name) (cZ env s name) := by
 have h := a name
 unfold bK cZ
 rw [h]
 cases hf : bD fs name with
 | none => simp [jW, noTh, SQ]
 | some y =>
  cases y with
  | var t => simp [jW, kM, SQ]
  | rcd r => simp [jW, SQ]
  | bU r => simp [jW, SQ]
theorem Y4 (a : Agr fs env) {p q : Typ × CS} (h : SQ p q) (name : ByteArray) : SQ (bC (dV fs p.2 p.1 name).1, (dV fs p.2 p.1 name).2) (qO env q.2 q.1 name) := by
 obtain ⟨e, f⟩ := h
 obtain ⟨t, s⟩ := p
 obtain ⟨u, s'⟩ := q
 simp only at e
 subst e
 have keepc : s.bad ≠ 0 → (dV fs s t name).2 = s := fun hb => by
  unfold dV
  split
  ·split
   ·split
    ·rfl
    ·exact fN _ _ hb
   ·exact fN _ _ hb
  ·exact fN _ _ hb
 have keepr : s.bad ≠ 0 → (qO env s u name).2 = s := fun hb => by
  unfold qO
  split
  ·split
   ·rfl
   ·exact fN _ _ hb
  ·exact fN _ _ hb
 by_cases hb : s.bad = 0
 ·have := f hb
  simp only at this
  subst this
  unfold dV qO
  by_cases hk : t.kind = 4
  ·simp only [hk, if_true]
   have h := a t.name
   rw [h]
   cases hf : bD fs t.name with
   | none => exact ⟨rfl, fun hh => absurd hh (dR _ (by decide))⟩
   | some y =>
    cases y with
    | var t' => exact ⟨rfl, fun hh => absurd hh (dR _ (by decide))⟩
    | bU r => exact ⟨rfl, fun hh => absurd hh (dR _ (by decide))⟩
    | rcd r =>
     simp only [jW]
     cases hg : r.fields.find? (fun f => decide (f.name = name)) with
     | none => exact ⟨rfl, fun hh => absurd hh (dR _ (by decide))⟩
     | some g => exact ⟨rfl, fun _ => rfl⟩
  ·simp only [hk, if_false]
   exact ⟨rfl, fun hh => absurd hh (dR _ (by decide))⟩
 ·refine ⟨?_, fun hh => absurd hh ?_⟩
  ·exact (keepc hb).trans (keepr hb).symm
  ·show ¬ (qO env s u name).2.bad = 0
   rw [keepr hb]; exact hb
end
theorem IH {n : Nat} {x : Expr} (h : form (n + 1) x = true) : ∀ y ∈ x.l, form n y = true := by
 rw [qF] at h
 simp only [Bool.and_eq_true] at h
 exact fun y hy => EB h.2 hy
theorem aB4 {t : Typ} (h : mH t = true) : t = bC 1 ↔ ¬ (t.kind ≠ 1 ∨ t.size ≠ 0) := by
 obtain ⟨k, s, n⟩ := t
 unfold mH at h
 unfold bC
 simp only [Typ.mk.injEq]
 constructor
 ·rintro ⟨rfl, rfl, _⟩; simp
 ·intro hh
  have h1 : k = 1 := by omega
  have h2 : s = 0 := by omega
  subst h1 h2
  simp only [Int.reduceEq, if_false, Bool.and_eq_true, decide_eq_true_eq] at h
  exact ⟨rfl, rfl, h.2⟩
theorem DY {fs : List Scope} {env : List Th} {k : Int} (h1 : 1 ≤ k) (h3 : k ≤ 3) : ∀ (l : List Expr), (∀ y ∈ l, ∀ s, SQ (bY fs s y false) (cQ env s y false)) → ∀ s, cC fs s l k = nM env s l k
 | [], _, s => by simp [cC, nM]
 | x :: l, h, s => by
  simp only [cC, nM]
  rw [(xM (h x (by simp) s) h1 h3).1]
  exact DY h1 h3 l (fun y hy => h y (by simp [hy])) _
theorem N8 {fs : List Scope} {env : List Th} : ∀ (ps : List Param) (l : List Expr), (∀ y ∈ l, ∀ s, SQ (bY fs s y false) (cQ env s y false)) → (∀ p ∈ ps, dZ p = true) → ∀ s, dB fs s ps l = jP env s ps l
 | [], [], _, _, s => by simp [dB, jP]
 | [], _ :: _, _, _, s => by simp [dB, jP]
 | _ :: _, [], _, _, s => by simp [dB, jP]
 | p :: ps, x :: l, h, hp, s => by
  simp only [dB, jP]
  have ih := N8 ps l (fun y hy => h y (by simp [hy])) (fun y hy => hp y (by simp [hy]))
  have hpp := hp p (by simp)
  split
  ·rename_i hb
   split
   ·rename_i hm
    unfold dZ mH at hpp
    simp only [hm, Bool.and_eq_true, Bool.not_eq_true', decide_eq_true_eq] at hpp
    have hk : 1 ≤ p.t.kind ∧ p.t.kind ≤ 3 := by
     obtain ⟨⟨⟨⟨_, ht⟩, _⟩, _⟩, hc⟩ := hpp
     split at ht
     ·rename_i h4; simp [h4] at hc
     ·simp only [Bool.and_eq_true, decide_eq_true_eq] at ht
      exact ⟨ht.1.1.1.1, ht.1.1.1.2⟩
    rw [(xM (h x (by simp) s) hk.1 hk.2).1]
    exact ih _
   ·have hop : (x.op = 4 ∨ x.op = 5 ∨ x.op = 6) ↔ ¬ (x.op < 4 ∨ 6 < x.op) := by omega
    have e1 : (if x.op = 4 ∨ x.op = 5 ∨ x.op = 6 then s else s.fail 14) = (if x.op < 4 ∨ 6 < x.op then s.fail 14 else s) := by
     by_cases hh : x.op < 4 ∨ 6 < x.op
     ·rw [if_pos hh, if_neg (by omega)]
     ·rw [if_neg hh, if_pos (by omega)]
    rw [e1]
    generalize (if x.op < 4 ∨ 6 < x.op then s.fail 14 else s) = s1
    obtain ⟨g1, g2⟩ := h x (by simp) s1
    rw [g1]
    by_cases hb2 : (cQ env s1 x false).2.bad = 0
    ·rw [g2 hb2]; exact ih _
    ·simp only [fN _ _ hb2, ite_self]
     exact ih _
  ·rfl
theorem EG {fs : List Scope} {env : List Th} (a : Agr fs env) (w : Wfd fs) : ∀ (n : Nat) (x : Expr), form n x = true → ∀ (b : Bool) (s : CS), SQ (bY fs s x b) (cQ env s x b) := by
 intro n
 induction n with
 | zero => intro x h; simp [form] at h
 | succ n ih =>
  intro x hx b s
  have hsub := fun y hy => ih y (IH hx y hy) false
  have hx' := hx
  rw [qF] at hx'
  simp only [Bool.and_eq_true, decide_eq_true_eq] at hx'
  obtain ⟨⟨⟨⟨h1, h2⟩, h3⟩, h4⟩, h5⟩ := hx'
  have hlen := yH h4
  rw [fQ, xG]
  by_cases hb : s.bad = 0
  ·rw [if_pos hb, if_pos hb]
   by_cases g1 : x.op = 1 ∨ x.op = 2 ∨ x.op = 3
   ·rw [if_pos g1]
    rcases g1 with g | g | g <;> simp [g, SQ]
   rw [if_neg g1, if_neg (by omega), if_neg (by omega), if_neg (by omega)]
   by_cases g4 : x.op = 4
   ·rw [if_pos g4, if_pos g4]
    exact uZ a s x.name
   rw [if_neg g4, if_neg g4]
   by_cases g5 : x.op = 5
   ·rw [if_pos g5, if_pos g5]
    have hl1 : x.l.length = 1 := by simp [g5] at hlen; omega
    obtain ⟨y, hy⟩ := List.length_eq_one_iff.1 hl1
    obtain ⟨e1, e2⟩ := uZ a s x.name
    have hp : ∀ s', cC fs s' x.l 1 = eZ env s' x.l 1 := fun s' => by
     rw [hy]
     simp only [cC, eZ]
     exact (xM (hsub y (by rw [hy]; simp) s') (by decide) (by decide)).1
    simp only [hp]
    by_cases hb2 : (cZ env s x.name).2.bad = 0
    ·rw [e1, e2 hb2]; exact SQ.refl _
    ·rw [e1]
     simp only [fN _ _ hb2, ite_self]
     rw [YH env hb2]
     exact ⟨rfl, fun hh => absurd hh hb2⟩
   rw [if_neg g5, if_neg g5]
   by_cases g6 : x.op = 6
   ·rw [if_pos g6, if_pos g6]
    exact Y4 a (uZ a s x.name) x.field
   rw [if_neg g6, if_neg g6]
   by_cases g7 : x.op = 7
   ·rw [if_pos g7, if_pos g7]
    have h := a x.name
    cases hf : bD fs x.name with
    | none =>
     rw [hf] at h
     simp [h, jW, noTh, SQ]
    | some z =>
     rw [hf] at h
     cases z with
     | var t => simp [h, jW, kM, SQ]
     | rcd r => simp [h, jW, SQ]
     | bU r =>
      have hw := (w.bU _ _ hf).1
      simp only [h, jW, if_true]
      have ha := N8 r.params x.l hsub hw
      by_cases hst : decide (0 < r.result) = b
      ·rw [if_pos hst, if_pos hst]
       have hbb := dR s (e := 14) (by decide)
       rw [show (if r.params.length = x.l.length then s.fail 14 else (s.fail 14).fail 15) = s.fail 14 by rw [fN _ _ hbb, ite_self]]
       exact ⟨ha _, fun _ => rfl⟩
      ·rw [if_neg hst, if_neg hst]
       by_cases hl : r.params.length = x.l.length
       ·rw [if_pos hl, if_pos hl]
        exact ⟨ha _, fun _ => rfl⟩
       ·rw [if_neg hl, if_neg hl]
        have hbb := dR s (e := 15) (by decide)
        rw [NI env hbb]
        exact ⟨rfl, fun hh => absurd hh hbb⟩
   rw [if_neg g7, if_neg g7]
   by_cases g9 : x.op = 9 ∨ x.op = 13 ∨ x.op = 14 ∨ x.op = 17 ∨ x.op = 18
   ·rw [if_pos g9, if_pos (by omega)]
    exact ⟨DY (by decide) (by decide) x.l hsub s, fun _ => rfl⟩
   rw [if_neg g9, if_neg (by omega)]
   by_cases g19 : 19 ≤ x.op ∧ x.op ≤ 24
   ·rw [if_pos g19]
    have hl2 : x.l.length = 2 := by
     rw [if_neg g7, if_neg (by omega), if_pos (by omega)] at hlen; omega
    obtain ⟨y, z, hyz⟩ : ∃ y z, x.l = [y, z] := by
     match hm : x.l, hl2 with
     | [y, z], _ => exact ⟨y, z, rfl⟩
    have hy := hsub y (by rw [hyz]; simp)
    have hz := hsub z (by rw [hyz]; simp)
    have fin : ∀ (kinds : List Int) (o : Bool), (∀ k ∈ kinds, 1 ≤ k ∧ k ≤ 3) → SQ (c8 kinds (bY fs s y false)) ((cW 0 (cQ env s y false)).1, if o = true ∧ (cW 0 (cQ env s y false)).1 = 2 then (cW 0 (cQ env s y false)).2.fail 14 else (cW 0 (cQ env s y false)).2) → j4 fs s kinds x.l = L0 env s o x.l := by
     intro kinds o hk hh
     rw [hyz]
     simp only [j4, L0, eZ, cC, List.length_cons, List.length_nil, if_true]
     obtain ⟨e1, e2⟩ := hh
     simp only at e1 e2
     generalize hq : (if o = true ∧ (cW 0 (cQ env s y false)).1 = 2 then (cW 0 (cQ env s y false)).2.fail 14 else (cW 0 (cQ env s y false)).2) = q at e1 e2
     rw [e1]
     by_cases hb2 : q.bad = 0
     ·have hg := NO hk (by rw [e1]; exact hb2)
      rw [e2 hb2] at hg ⊢
      exact (xM (hz q) hg.1 hg.2).1
     ·rw [uE fs hb2, vS env hb2, zJ (by exact hb2), vR (by exact hb2)]
    by_cases g20 : x.op = 19 ∨ x.op = 20
    ·rw [if_pos g20]
     refine ⟨fin [1, 2, 3] _ (by simp) ?_, fun _ => rfl⟩
     rw [if_neg (by simp; omega)]
     exact IB (hy s)
    ·rw [if_neg g20, if_pos (by omega)]
     refine ⟨fin [1, 3] _ (by simp) ?_, fun _ => rfl⟩
     have : decide (20 < x.op) = true := by simp; omega
     simp only [this, true_and]
     exact QJ (hy s)
   rw [if_neg g19, if_neg (by omega), if_neg (by omega)]
   exact ⟨DY (by decide) (by decide) x.l hsub s, fun _ => rfl⟩
  ·rw [if_neg hb, if_neg hb]
   exact SQ.refl _
structure ZQ (x : Stmt) : Prop where
 op1 : 1 ≤ x.op
 op9 : x.op ≤ 9
 lo : (if x.op = 6 then 2 else if x.op = 7 then 0 else if x.op = 9 then 0 else 1) ≤ x.e.length
 hi : x.e.length ≤ if x.op = 6 then 2 else if x.op = 7 then 0 else 1
 e : ∀ y ∈ x.e, form 48 y = true
 p : x.op = 1 ∨ x.op = 7 → form 48 x.p = true
theorem y6 {x : Stmt} (h : fB x = true) : ZQ x := by
 unfold fB wZ lW iR at h
 simp only [Bool.and_eq_true, decide_eq_true_eq, List.all_eq_true] at h
 obtain ⟨⟨⟨⟨⟨⟨⟨⟨_, h1⟩, h2⟩, h3, h4⟩, h5⟩, h6⟩, _⟩, _⟩, _⟩ := h
 refine ⟨h1, h2, h3, h4, fun y hy => ?_, fun hh => ?_⟩
 ·have := h5 y hy
  unfold fV at this
  simp only [Bool.and_eq_true] at this
  exact vQ this.1
 ·rw [if_pos hh] at h6
  unfold j6 at h6
  simp only [Bool.and_eq_true] at h6
  exact vQ h6.2
theorem UW {fs : List Scope} {env : List Th} (a : Agr fs env) (w : Wfd fs) {x : Stmt} (hx : ZQ x) {res : Int} (r0 : 0 ≤ res) (r3 : res ≤ 3) (s : CS) : eX fs s res x = iL env s res x := by
 have he := fun y hy => EG a w 48 y (hx.e y hy)
 have lo := hx.lo
 have hi := hx.hi
 have h1 := hx.op1
 have h9 := hx.op9
 have one : x.op ≠ 6 → x.op ≠ 7 → x.op ≠ 9 → ∃ a, x.e = [a] := fun h6 h7 h9 => by
  rw [if_neg h6, if_neg h7, if_neg h9] at lo
  rw [if_neg h6, if_neg h7] at hi
  exact List.length_eq_one_iff.1 (by omega)
 have head : ∀ (y : Expr), y ∈ x.e → ∀ (k : Int), 1 ≤ k → k ≤ 3 → ∀ s', (c8 [k] (bY fs s' y false)).2 = (cW k (cQ env s' y false)).2 := fun y hy k k1 k3 s' => (xM (he y hy false s') k1 k3).1
 unfold eX iL
 by_cases g1 : x.op = 1
 ·rw [if_pos g1, if_pos g1]
  obtain ⟨y, hy⟩ := one (by omega) (by omega) (by omega)
  obtain ⟨e1, e2⟩ := IB (EG a w 48 x.p (hx.p (.inl g1)) false s)
  simp only [hy, cC, eZ]
  generalize cW 0 (cQ env s x.p false) = q at e1 e2 ⊢
  rw [e1]
  by_cases hb : q.2.bad = 0
  ·have hg := NO (kinds := [1, 2, 3]) (by simp) (by rw [e1]; exact hb)
   rw [e2 hb] at hg ⊢
   exact head y (by simp [hy]) _ hg.1 hg.2 _
  ·rw [uE fs hb, vS env hb, zJ (p := (noTyp, q.2)) hb, vR (p := (noTyp, q.2)) hb]
 rw [if_neg g1, if_neg g1]
 by_cases g2 : x.op = 2
 ·rw [if_pos g2, if_pos g2]
  obtain ⟨y, hy⟩ := one (by omega) (by omega) (by omega)
  simp only [hy, nZ, YJ]
  exact (he y (by simp [hy]) true s).1
 rw [if_neg g2, if_neg g2]
 by_cases g3 : x.op = 3 ∨ x.op = 4 ∨ x.op = 5
 ·rw [if_pos g3, if_pos g3]
  obtain ⟨y, hy⟩ := one (by omega) (by omega) (by omega)
  simp only [hy, cC, eZ]
  exact head y (by simp [hy]) 2 (by decide) (by decide) s
 rw [if_neg g3, if_neg g3]
 by_cases g6 : x.op = 6
 ·rw [if_pos g6, if_pos g6]
  rw [if_pos g6] at lo hi
  obtain ⟨y, z, hyz⟩ : ∃ y z, x.e = [y, z] := by
   have hl2 : x.e.length = 2 := by omega
   match hm : x.e, hl2 with
   | [y, z], _ => exact ⟨y, z, rfl⟩
  have hh : (if (bK fs s x.name).1 = bC 1 then (bK fs s x.name).2 else (bK fs s x.name).2.fail 14) = (if (cZ env s x.name).1.kind ≠ 1 ∨ (cZ env s x.name).1.size ≠ 0 then (cZ env s x.name).2.fail 14 else (cZ env s x.name).2) := by
   have h := a x.name
   unfold bK cZ
   rw [h]
   have nk : (noTyp = bC 1) = False := by simp [noTyp, bC]
   have bad : ∀ e : Int, (s.fail 13).fail e = s.fail 13 := fun e => fN _ _ (dR s (by decide))
   cases hf : bD fs x.name with
   | none => simp [jW, noTh, bad]
   | some u =>
    cases u with
    | rcd r => simp [jW, bad]
    | bU r => simp [jW, bad]
    | var t =>
     have ht := aB4 (w.var _ _ hf)
     simp only [jW, kM, if_true]
     by_cases hc : t = bC 1
     ·rw [if_pos hc, if_neg (ht.1 hc)]
     ·rw [if_neg hc, if_pos (Decidable.byContradiction fun hh => hc (ht.2 hh))]
  simp only [hyz, cC, eZ, List.tail_cons]
  rw [hh, head y (by simp [hyz]) 1 (by decide) (by decide), head z (by simp [hyz]) 1 (by decide) (by decide)]
 rw [if_neg g6, if_neg g6]
 by_cases g7 : x.op = 7
 ·rw [if_pos g7, if_pos g7]
  exact (QJ (EG a w 48 x.p (hx.p (.inr g7)) false s)).1
 rw [if_neg g7, if_neg g7]
 by_cases g8 : x.op = 8
 ·rw [if_pos g8, if_pos g8]
  obtain ⟨y, hy⟩ := one (by omega) (by omega) (by omega)
  simp only [hy, n5, B1, eZ]
  exact (IB (he y (by simp [hy]) false s)).1
 rw [if_neg g8, if_neg g8]
 have g9 : x.op = 9 := by omega
 rw [if_pos g9, if_pos g9]
 have hee : x.e = [] ∨ ∃ a, x.e = [a] := by
  have hh : x.e.length ≤ 1 := by rw [if_neg (by omega), if_neg (by omega)] at hi; exact hi
  match hm : x.e, hh with
  | [], _ => exact .inl rfl
  | [a], _ => exact .inr ⟨a, rfl⟩
 unfold iG
 rcases hee with hy | ⟨y, hy⟩
 ·simp only [hy, cC, eZ, ite_self]
 ·simp only [hy, cC, eZ]
  by_cases hr : 0 < res
  ·rw [if_pos hr]
   simp only [hr, List.length_cons, List.length_nil, decide_true]
   exact head y (by simp [hy]) res (by omega) r3 _
  ·rw [if_neg hr]
   have hbb := dR s (e := 16) (by decide)
   simp only [hr, List.length_cons, List.length_nil, decide_false, Nat.zero_add, Nat.lt_add_one, decide_true, Bool.false_eq_true, if_false]
   rw [vS env hbb, vR (by exact hbb)]
theorem sD {fs : List Scope} {env : List Th} (a : Agr fs env) (w : Wfd fs) {res : Int} (r0 : 0 ≤ res) (r3 : res ≤ 3) : ∀ (n : Nat) (l : List Stmt) (d : Int), aZ.sz l ≤ n → dA l d = true → ∀ s, cS fs s res l = iI env s res l
 | n, [], d, _, _, s => by simp [cS, iI]
 | 0, x :: l, d, hn, _, s => by simp [aZ.sz] at hn
 | n + 1, x :: l, d, hn, ht, s => by
  have hz := Stmt.cY x
  simp only [aZ.sz] at hn
  simp only [dA, Bool.and_eq_true] at ht
  have ht1 := ht.1
  rw [oA] at ht1
  simp only [Bool.and_eq_true, decide_eq_true_eq] at ht1
  obtain ⟨⟨⟨hd, hso⟩, htb, hlb⟩, hte, hle⟩ := ht1
  simp only [cS, iI]
  rw [uV, iT, UW a w (y6 hso) r0 r3, sD a w r0 r3 n x.body (d + 1) (by omega) htb, sD a w r0 r3 n x.els (d + 1) (by omega) hte, sD a w r0 r3 n l d (by omega) ht.2]
theorem JX (env : List Th) (x : Th) (name : ByteArray) (hx : x.kind ≠ 0) (ho : ∀ y ∈ env, y.kind ≠ 0) : dT (env ++ [x]) name = if (dT env name).kind ≠ 0 then dT env name else if x.name = name then x else noTh := by
 unfold dT
 rw [List.find?_append]
 cases h : env.find? (fun x => decide (x.name = name)) with
 | some y =>
  have := ho y (List.mem_of_find?_eq_some h)
  simp [this]
 | none =>
  simp only [Option.none_or, Option.getD_none]
  by_cases hn : x.name = name <;> simp [hn, noTh]
theorem P4 (env : List Th) (l : List Th) (name : ByteArray) (ho : ∀ y ∈ env, y.kind ≠ 0) : dT (env ++ l) name = if (dT env name).kind ≠ 0 then dT env name else dT l name := by
 unfold dT
 rw [List.find?_append]
 cases h : env.find? (fun x => decide (x.name = name)) with
 | some y =>
  have := ho y (List.mem_of_find?_eq_some h)
  simp [this]
 | none => simp [noTh]
theorem pJ (name : ByteArray) (x : Option Thing) : (jW name x).kind ≠ 0 ↔ x.isSome = true := by
 cases x with
 | none => simp [jW, noTh]
 | some y => cases y <;> simp [jW, kM]
structure mJ (fs : List Scope) (env : List Th) : Prop where
 agr : Agr fs env
 wfd : Wfd fs
 kinds : ∀ y ∈ env, y.kind ≠ 0
 ne : fs ≠ []
theorem mJ.new {fs : List Scope} {env : List Th} (b : mJ fs env) (s : CS) (name : ByteArray) : eF env s name = if (bD fs name).isSome then s.fail 12 else s := by
 unfold eF
 rw [b.agr name]
 by_cases h : (bD fs name).isSome = true
 ·rw [if_pos ((pJ _ _).2 h), if_pos h]
 ·rw [if_neg (fun hh => h ((pJ _ _).1 hh)), if_neg h]
theorem mJ.lay {fs : List Scope} {env : List Th} (b : mJ fs env) (s : CS) (name : ByteArray) (x : Thing) (y : Th) (hy : y = jW name (some x)) (hn : y.name = name)
  (hv : ∀ t, x = .var t → mH t = true) (hr : ∀ r, x = .bU r → (∀ p ∈ r.params, dZ p = true) ∧ 0 ≤ r.result ∧ r.result ≤ 3) :
  (cR fs s name x).2 = eF env s name ∧ mJ (cR fs s name x).1 (env ++ [y]) := by
 have hk : y.kind ≠ 0 := by rw [hy]; exact (pJ name (some x)).2 rfl
 have hk' : ∀ z ∈ env ++ [y], z.kind ≠ 0 := fun z hz => by
  rcases List.mem_append.1 hz with hz | hz
  ·exact b.kinds z hz
  ·simp only [List.mem_cons, List.not_mem_nil, or_false] at hz; subst hz; exact hk
 rw [b.new]
 unfold cR
 cases hf : bD fs name with
 | some z =>
  simp only [Option.isSome_some, if_true]
  refine ⟨trivial, fun n => ?_, b.wfd, hk', b.ne⟩
  rw [JX env y n hk b.kinds, b.agr n]
  by_cases h : (jW n (bD fs n)).kind ≠ 0
  ·rw [if_pos h]
  ·rw [if_neg h]
   have h2 : ¬ y.name = n := by
    rw [hn]; rintro rfl
    apply h; rw [hf]; exact (pJ _ _).2 rfl
   rw [if_neg h2]
   have : bD fs n = none := by
    cases h3 : bD fs n with
    | none => rfl
    | some w => exact absurd ((pJ n (some w)).2 rfl) (by rw [← h3]; exact h)
   rw [this]; rfl
 | none =>
  simp only [Option.isSome_none, Bool.false_eq_true, if_false]
  refine ⟨trivial, fun n => ?_, ⟨fun n t h => ?_, fun n r h => ?_⟩, hk', ?_⟩
  ·rw [JX env y n hk b.kinds, b.agr n, kU name x b.ne]
   by_cases h : n = name
   ·subst h
    rw [if_pos rfl, hf, if_neg (by simp [jW, noTh]), if_pos hn, hy]
   ·rw [if_neg h]
    by_cases h2 : (jW n (bD fs n)).kind ≠ 0
    ·rw [if_pos h2]
    ·rw [if_neg h2, if_neg (by rw [hn]; exact fun hh => h hh.symm)]
     have : bD fs n = none := by
      cases h3 : bD fs n with
      | none => rfl
      | some w => exact absurd ((pJ n (some w)).2 rfl) (by rw [← h3]; exact h2)
     rw [this]; rfl
  ·rw [kU name x b.ne] at h
   split at h
   ·simp only [Option.some.injEq] at h; exact hv t h
   ·exact b.wfd.var n t h
  ·rw [kU name x b.ne] at h
   split at h
   ·simp only [Option.some.injEq] at h; exact hr r h
   ·exact b.wfd.bU n r h
  ·have := b.ne
   cases fs with
   | nil => exact absurd rfl this
   | cons f fs => simp [j8]
theorem mJ.typ {fs : List Scope} {env : List Th} (b : mJ fs env) (s : CS) (name : ByteArray) (t t' : Typ) : iW (cR fs s name (.var t)).1 (eF env s name) t' = tL env (eF env s name) t' := by
 rw [b.new]
 unfold iW tL cR
 by_cases h4 : t'.kind = 4
 ·rw [if_pos h4]
  simp only [h4, true_and]
  rw [b.agr t'.name]
  cases hf : bD fs name with
  | some z =>
   simp only [Option.isSome_some, if_true]
   cases hg : bD fs t'.name with
   | none => simp [jW, noTh]
   | some u => cases u <;> simp [jW, kM]
  | none =>
   simp only [Option.isSome_none, Bool.false_eq_true, if_false]
   rw [kU name (.var t) b.ne]
   by_cases h : t'.name = name
   ·rw [if_pos h, h, hf]
    simp [jW, noTh]
   ·rw [if_neg h]
    cases hg : bD fs t'.name with
    | none => simp [jW, noTh]
    | some u => cases u <;> simp [jW, kM]
 ·simp only [h4, false_and, if_false]
theorem C4 (behind : List Routine) : ∀ (l : List Var) {fs : List Scope} {env : List Th}, mJ fs env → (∀ v ∈ l, tG v = true) → ∀ s, (cH fs s l behind).2 = (fW env s l behind).2 ∧ mJ (cH fs s l behind).1 (fW env s l behind).1
 | [], fs, env, b, _, s => ⟨rfl, b⟩
 | v :: r, fs, env, b, hv, s => by
  simp only [cH, fW]
  split
  ·have hvt : mH v.t = true := by
    have := hv v (by simp)
    unfold tG at this
    simp only [Bool.and_eq_true] at this
    exact this.2
   generalize hs1 : (if (behind.any fun x => decide (x.name = v.name)) = true then s.step.fail 12 else s.step) = s1
   have hs2 : (if (behind.any fun x => decide (x.name = v.name)) = true then (eF env s.step v.name).fail 12 else eF env s.step v.name) = eF env s1 v.name := by
    rw [← hs1]
    unfold eF
    by_cases h1 : (behind.any fun x => decide (x.name = v.name)) = true
    ·rw [if_pos h1, if_pos h1]
     split
     ·rfl
     ·rfl
    ·rw [if_neg h1, if_neg h1]
   obtain ⟨e, b'⟩ := b.lay s1 v.name (.var v.t) (kM v.name v.t) rfl rfl (fun t ht => by cases ht; exact hvt) (fun r hr => by cases hr)
   rw [hs2, e, b.typ]
   exact C4 behind r b' (fun x hx => hv x (by simp [hx])) _
  ·exact ⟨rfl, b⟩
theorem GO : ∀ (l : List Param) {fs : List Scope} {env : List Th}, mJ fs env → (∀ v ∈ l, dZ v = true) → ∀ s, (cA fs s l).2 = (iJ env s l).2 ∧ mJ (cA fs s l).1 (iJ env s l).1
 | [], fs, env, b, _, s => ⟨rfl, b⟩
 | v :: r, fs, env, b, hv, s => by
  simp only [cA, iJ]
  have hvt : mH v.t = true := by
   have := hv v (by simp)
   unfold dZ at this
   simp only [Bool.and_eq_true] at this
   exact this.1.1.1.2
  obtain ⟨e, b'⟩ := b.lay s v.name (.var v.t) (kM v.name v.t) rfl rfl (fun t ht => by cases ht; exact hvt) (fun r hr => by cases hr)
  rw [e, b.typ]
  exact GO r b' (fun x hx => hv x (by simp [hx])) _
theorem NG : ∀ (l : List Rec) {fs : List Scope} {env : List Th}, mJ fs env → ∀ s, (dY fs s l).2 = (gT env s l).2 ∧ mJ (dY fs s l).1 (gT env s l).1
 | [], fs, env, b, s => ⟨rfl, b⟩
 | v :: r, fs, env, b, s => by
  simp only [dY, gT]
  split
  ·obtain ⟨e, b'⟩ := b.lay s.step v.name (.rcd v) (vN v) rfl rfl (fun t ht => by cases ht) (fun r hr => by cases hr)
   rw [e]
   exact NG r b' _
  ·exact ⟨rfl, b⟩
theorem EO (fs : List Scope) {s : CS} (h : s.bad ≠ 0) (t : Typ) : iW fs s t = s := by
 unfold iW
 split
 ·split
  ·rfl
  ·exact fN _ _ h
 ·rfl
theorem aBB (fs : List Scope) {s : CS} (h : s.bad ≠ 0) (name : ByteArray) (x : Thing) : (cR fs s name x).2 = s := by
 unfold cR
 split
 ·exact fN _ _ h
 ·rfl
theorem xT {s : CS} (h : s.bad ≠ 0) : ∀ (l : List Param) (fs : List Scope), (cA fs s l).2 = s
 | [], fs => rfl
 | v :: l, fs => by
  simp only [cA]
  rw [aBB fs h, EO _ h]
  exact xT h l _
theorem vZ {s : CS} (h : s.bad ≠ 0) (behind : List Routine) (l : List Var) (fs : List Scope) : cH fs s l behind = (fs, s) := by
 cases l with
 | nil => rfl
 | cons v l => simp [cH, h]
theorem oY {s : CS} (h : s.bad ≠ 0) (fs : List Scope) (res : Int) (l : List Stmt) : cS fs s res l = s := by
 cases l with
 | nil => rfl
 | cons v l => simp [cS, h]
theorem lS {s : CS} (h : s.bad ≠ 0) (a b : List Scope) (l : List Routine) : b7 a b s l = s := by
 cases l with
 | nil => rfl
 | cons v l => simp [b7, h]
theorem OQ {s : CS} (h : s.bad ≠ 0) (all : List Scope) (r : Routine) : jI all s r = s := by
 rw [iX]
 simp only [xT h, fN _ _ h, ite_self, vZ h, lS h, oY h]
theorem aCv (env : List Th) {s : CS} (h : s.bad ≠ 0) (t : Typ) : tL env s t = s := by
 unfold tL
 split
 ·exact fN _ _ h
 ·rfl
theorem aCw (env : List Th) {s : CS} (h : s.bad ≠ 0) (name : ByteArray) : eF env s name = s := by
 unfold eF
 split
 ·exact fN _ _ h
 ·rfl
theorem GN {s : CS} (h : s.bad ≠ 0) : ∀ (l : List Param) (env : List Th), (iJ env s l).2 = s
 | [], env => rfl
 | v :: l, env => by
  simp only [iJ]
  rw [aCw env h, aCv env h]
  exact GN h l _
theorem aA3 {s : CS} (h : s.bad ≠ 0) (behind : List Routine) (l : List Var) (env : List Th) : fW env s l behind = (env, s) := by
 cases l with
 | nil => rfl
 | cons v l => simp [fW, h]
def Eqv (a b : CS) : Prop := a = b ∨ (a.bad ≠ 0 ∧ b.bad ≠ 0)
theorem sA {d : Int} : ∀ {l : List Routine} {ahead : List ByteArray}, bN ahead l d = true → (l.map (·.name)).Nodup ∧ ∀ r ∈ l, r.name ∉ ahead
 | [], ahead, _ => by simp
 | x :: l, ahead, h => by
  simp only [bN, Bool.and_eq_true] at h
  obtain ⟨i1, i2⟩ := sA h.2
  have hx := h.1
  rw [dP] at hx
  simp only [Bool.and_eq_true, Bool.not_eq_true'] at hx
  have hna : x.name ∉ ahead := fun hh => by
   have h2 := hx.1.1.1.1.2
   unfold fY at h2
   rw [List.any_eq_false] at h2
   exact h2 _ hh (by simp)
  refine ⟨List.nodup_cons.2 ⟨fun hh => ?_, i1⟩, fun r hr => ?_⟩
  ·obtain ⟨y, hy, hyx⟩ := List.mem_map.1 hh
   exact i2 y hy (by rw [hyx]; simp)
  ·rcases List.mem_cons.1 hr with rfl | hr
   ·exact hna
   ·exact fun hh => i2 r hr (by simp [hh])
theorem KA (m : ByteArray) : ∀ (l : List Routine) (f : Scope), (l.map (·.name)).Nodup → look (cK f l) m = match l.find? (fun r => decide (r.name = m)) with | some r => some (.bU r) | none => look f m
 | [], f, _ => rfl
 | r :: l, f, nd => by
  simp only [List.map_cons, List.nodup_cons] at nd
  simp only [cK]
  rw [KA m l _ nd.2, List.find?_cons]
  by_cases h : r.name = m
  ·simp only [h, decide_true]
   have : l.find? (fun r => decide (r.name = m)) = none := by
    rw [List.find?_eq_none]
    intro y hy hh
    simp only [decide_eq_true_eq] at hh
    exact nd.1 (List.mem_map.2 ⟨y, hy, by rw [hh, h]⟩)
   rw [this, lK]
   simp
  ·simp only [h, decide_false]
   cases hl : l.find? (fun r => decide (r.name = m)) with
   | some y => rfl
   | none =>
    simp only
    rw [lK, if_neg (fun hh => h hh.symm)]
theorem zY (m : ByteArray) : ∀ (l : List Routine), dT (l.map lN) m = match l.find? (fun r => decide (r.name = m)) with | some r => lN r | none => noTh
 | [] => rfl
 | r :: l => by
  have ih := zY m l
  unfold dT at ih ⊢
  simp only [List.map_cons, List.find?_cons]
  by_cases h : r.name = m
  ·have : (lN r).name = m := h
   simp [h, this]
  ·have : ¬ (lN r).name = m := h
   simp only [h, this, decide_false]
   exact ih
theorem mJ.LJ {fs : List Scope} {env : List Th} (b : mJ fs env) {l : List Routine} {d : Int} {ahead : List ByteArray} (ht : bN ahead l d = true) (hn : ∀ r ∈ l, bD fs r.name = none) : mJ (cK [] l :: fs) (hG env l) := by
 have nd := (sA ht).1
 have hf : ∀ m, bD (cK [] l :: fs) m = match l.find? (fun r => decide (r.name = m)) with | some r => some (.bU r) | none => bD fs m := fun m => by
  simp only [bD]
  rw [KA m l [] nd]
  cases l.find? (fun r => decide (r.name = m)) <;> rfl
 refine ⟨fun m => ?_, ⟨fun m t h => ?_, fun m r h => ?_⟩, fun y hy => ?_, by simp⟩
 ·rw [hf]
  unfold hG
  rw [P4 env _ m b.kinds, zY, b.agr m]
  cases hl : l.find? (fun r => decide (r.name = m)) with
  | some r =>
   have hr := List.mem_of_find?_eq_some hl
   have hrm := List.find?_some hl
   simp only [decide_eq_true_eq] at hrm
   have := hn r hr
   rw [hrm] at this
   rw [this, if_neg (by simp [jW, noTh])]
   subst hrm
   rfl
  | none =>
   simp only
   split
   ·rfl
   ·rename_i hk
    have : bD fs m = none := by
     cases h3 : bD fs m with
     | none => rfl
     | some w => exact absurd ((pJ m (some w)).2 rfl) (by rw [← h3]; exact hk)
    rw [this]; rfl
 ·rw [hf] at h
  cases hl : l.find? (fun r => decide (r.name = m)) with
  | some r => rw [hl] at h; simp at h
  | none => rw [hl] at h; exact b.wfd.var m t h
 ·rw [hf] at h
  cases hl : l.find? (fun r => decide (r.name = m)) with
  | none => rw [hl] at h; exact b.wfd.bU m r h
  | some r' =>
   rw [hl] at h
   simp only [Option.some.injEq, Thing.bU.injEq] at h
   subst h
   obtain ⟨a, ha⟩ := qZ ht (List.mem_of_find?_eq_some hl)
   rw [dP] at ha
   unfold eJ at ha
   simp only [Bool.and_eq_true, decide_eq_true_eq, List.all_eq_true] at ha
   exact ⟨ha.1.1.1.2.1, ha.1.1.1.1.1.1.2, ha.1.1.1.1.1.2⟩
 ·rcases List.mem_append.1 hy with hy | hy
  ·exact b.kinds y hy
  ·obtain ⟨x, _, rfl⟩ := List.mem_map.1 hy; simp [lN]
theorem BZ {fs : List Scope} (all : List Scope) : ∀ (l : List Routine) (s : CS), (∃ r ∈ l, bD fs r.name ≠ none) → (b7 fs all s l).bad ≠ 0
 | [], s, ⟨r, hr, _⟩ => by simp at hr
 | x :: l, s, ⟨r, hr, hc⟩ => by
  by_cases hb : s.bad = 0
  ·simp only [b7, hb, if_true]
   by_cases hx : (bD fs x.name).isSome = true
   ·rw [if_pos hx]
    have hbb := dR s.step (e := 12) (by decide)
    rw [OQ hbb, lS hbb]
    exact hbb
   ·refine BZ all l _ ⟨r, ?_, hc⟩
    rcases List.mem_cons.1 hr with rfl | hr
    ·exact absurd (Option.isSome_iff_ne_none.2 hc) hx
    ·exact hr
  ·rw [lS hb]; exact hb
theorem FP {fs : List Scope} {env : List Th} (b : mJ fs env) (all : List Th) : ∀ (l : List Routine) (s : CS), (∃ r ∈ l, bD fs r.name ≠ none) → (eR env all s l).bad ≠ 0
 | [], s, ⟨r, hr, _⟩ => by simp at hr
 | x :: l, s, ⟨r, hr, hc⟩ => by
  by_cases hb : s.bad = 0
  ·simp only [eR, hb, if_true]
   by_cases hx : (bD fs x.name).isSome = true
   ·have hbb := dR s.step (e := 12) (by decide)
    have hr' : xF env all s.step x = s.step.fail 12 := by
     rw [zC, b.new, if_pos hx]
     simp only [GN hbb, fN _ _ hbb, ite_self, aA3 hbb, mL _ _ hbb, qC _ hbb]
    rw [hr', mL _ _ hbb]
    exact hbb
   ·refine FP b all l _ ⟨r, ?_, hc⟩
    rcases List.mem_cons.1 hr with rfl | hr
    ·exact absurd (Option.isSome_iff_ne_none.2 hc) hx
    ·exact hr
  ·rw [mL _ _ hb]; exact hb
theorem mJ.sS {fs : List Scope} {env : List Th} (b : mJ fs env) : mJ ([] :: fs) env := by
 have e : ∀ m, bD ([] :: fs) m = bD fs m := fun m => rfl
 exact ⟨fun m => b.agr m, ⟨fun m t h => b.wfd.var m t h, fun m r h => b.wfd.bU m r h⟩, b.kinds, by simp⟩
theorem CR : ∀ (n : Nat) (l : List Routine) (d : Int) (ahead : List ByteArray), bB.sz l < n → bN ahead l d = true → ∀ {fs : List Scope} {env : List Th}, mJ fs env → ∀ s, Eqv (b7 fs (cK [] l :: fs) s l) (eR env (hG env l) s l)
 | 0, l, d, ahead, hn, _, _, _, _, _ => by omega
 | n + 1, l, d, ahead, hn, ht, fs, env, b, s => by
  by_cases hc : ∃ r ∈ l, bD fs r.name ≠ none
  ·exact .inr ⟨BZ _ l s hc, FP b _ l s hc⟩
  ·have hc' : ∀ r ∈ l, bD fs r.name = none := fun r hr => Decidable.byContradiction fun hh => hc ⟨r, hr, hh⟩
   have bv := b.LJ ht hc'
   have one : ∀ r ∈ l, ∀ s, Eqv (jI (cK [] l :: fs) s r) (xF env (hG env l) s r) := by
    intro r hr s
    have hz := Routine.cY r
    have hrz := bB.dU hr
    obtain ⟨a, hrt⟩ := qZ ht hr
    have hro := y7 hrt
    rw [dP] at hrt
    unfold eJ jM at hrt
    simp only [Bool.and_eq_true, decide_eq_true_eq, List.all_eq_true] at hrt
    obtain ⟨⟨⟨⟨⟨⟨⟨⟨⟨⟨_, _⟩, _⟩, _⟩, hr0⟩, hr3⟩, _⟩, hp, _⟩, hv, _⟩, _⟩, _⟩ := hrt
    have hnew : eF env s r.name = s := by rw [b.new, hc' r hr]; rfl
    rw [iX, zC, hnew]
    obtain ⟨p1, p2⟩ := GO r.params bv.sS hp s
    simp only [p1]
    generalize (if 0 < r.result ∧ kW r.body = false then (iJ (hG env l) s r.params).2.fail 16 else (iJ (hG env l) s r.params).2) = s1
    obtain ⟨q1, q2⟩ := C4 r.inner r.vars p2 hv s1
    rw [q1]
    generalize (fW (iJ (hG env l) s r.params).1 s1 r.vars r.inner).2 = s2
    generalize (fW (iJ (hG env l) s r.params).1 s1 r.vars r.inner).1 = env2 at q2
    generalize (cH (cA ([] :: cK [] l :: fs) s r.params).1 s1 r.vars r.inner).1 = fs2 at q2
    have ih := CR n r.inner (d + 1) [] (by omega) hro.inner q2 s2
    by_cases hi : ∃ y ∈ r.inner, bD fs2 y.name ≠ none
    ·have h1 := BZ (cK [] r.inner :: fs2) r.inner s2 hi
     have h2 := FP q2 (hG env2 r.inner) r.inner s2 hi
     rw [oY h1, qC _ h2]
     exact .inr ⟨h1, h2⟩
    ·have hi' : ∀ y ∈ r.inner, bD fs2 y.name = none := fun y hy => Decidable.byContradiction fun hh => hi ⟨y, hy, hh⟩
     have b3 := q2.LJ hro.inner hi'
     rcases ih with ih | ⟨h1, h2⟩
     ·rw [ih]
      exact .inl (sD b3.agr b3.wfd hr0 hr3 _ r.body 1 (Nat.le_refl _) hro.body _)
     ·rw [oY h1, qC _ h2]
      exact .inr ⟨h1, h2⟩
   have all : ∀ (l' : List Routine), (∀ r ∈ l', r ∈ l) → ∀ s s', Eqv s s' → Eqv (b7 fs (cK [] l :: fs) s l') (eR env (hG env l) s' l') := by
    intro l'
    induction l' with
    | nil => intro _ s s' h; exact h
    | cons r l' ih' =>
     intro hl s s' h
     rcases h with rfl | ⟨h1, h2⟩
     ·by_cases hb : s.bad = 0
      ·simp only [b7, eR, hb, if_true]
       rw [hc' r (hl r (by simp))]
       exact ih' (fun x hx => hl x (by simp [hx])) _ _ (one r (hl r (by simp)) _)
      ·rw [lS hb, mL _ _ hb]; exact .inl rfl
     ·rw [lS h1, mL _ _ h2]; exact .inr ⟨h1, h2⟩
   exact all l (fun r hr => hr) s s (.inl rfl)
theorem aC2 {p : Prg} (ht : eI p = true) : Eqv (mY p) (zD p) := by
 have po := LO ht
 have hv : ∀ v ∈ p.vars, tG v = true := by
  unfold eI jM at ht
  simp only [Bool.and_eq_true, decide_eq_true_eq, List.all_eq_true] at ht
  exact ht.1.1.2.1
 have b0 : mJ [[]] [] := ⟨fun _ => rfl, ⟨fun _ _ h => by simp [bD, look] at h, fun _ _ h => by simp [bD, look] at h⟩, by simp, by simp⟩
 unfold mY zD
 obtain ⟨a1, a2⟩ := NG p.recs b0 ⟨-1, 0⟩
 simp only [a1]
 obtain ⟨q1, q2⟩ := C4 p.aH p.vars a2 hv (gT [] ⟨-1, 0⟩ p.recs).2
 simp only [q1]
 generalize (fW (gT [] ⟨-1, 0⟩ p.recs).1 (gT [] ⟨-1, 0⟩ p.recs).2 p.vars p.aH).2 = s2
 generalize (fW (gT [] ⟨-1, 0⟩ p.recs).1 (gT [] ⟨-1, 0⟩ p.recs).2 p.vars p.aH).1 = env2 at q2
 generalize (cH (dY [[]] ⟨-1, 0⟩ p.recs).1 (gT [] ⟨-1, 0⟩ p.recs).2 p.vars p.aH).1 = fs2 at q2
 have ih := CR _ p.aH 1 [] (Nat.lt_succ_self _) po.aH q2 s2
 by_cases hi : ∃ y ∈ p.aH, bD fs2 y.name ≠ none
 ·have h1 := BZ (cK [] p.aH :: fs2) p.aH s2 hi
  have h2 := FP q2 (hG env2 p.aH) p.aH s2 hi
  rw [oY h1, qC _ h2]
  exact .inr ⟨h1, h2⟩
 ·have hi' : ∀ y ∈ p.aH, bD fs2 y.name = none := fun y hy => Decidable.byContradiction fun hh => hi ⟨y, hy, hh⟩
  have b3 := q2.LJ po.aH hi'
  rcases ih with ih | ⟨h1, h2⟩
  ·rw [ih]
   exact .inl (sD b3.agr b3.wfd (by decide) (by decide) _ p.body 1 (Nat.le_refl _) po.body _)
  ·rw [oY h1, qC _ h2]
   exact .inr ⟨h1, h2⟩
theorem YC {p : Prg} (ht : eI p = true) : (check p).2 = 0 ↔ (xH p).2 = 0 := by
 unfold check xH
 rcases aC2 ht with h | ⟨h1, h2⟩
 ·rw [h]
 ·rw [if_neg h1, if_neg h2]
  exact ⟨fun h => absurd h h1, fun h => absurd h h2⟩
end Pg

namespace Pg.Rf
open Go
set_option linter.all false
theorem oZ {kinds : List Int} {p : Typ × CS} (h : (c8 kinds p).2.bad = 0) : p.2.bad = 0 := by
 unfold c8 at h
 simp only at h
 split at h
 ·exact absurd h (dR _ (by decide))
 ·exact h
theorem zI {fs : List Scope} {s : CS} {l : List Expr} {k : Int} (h : (cC fs s l k).bad = 0) : s.bad = 0 :=
 Decidable.byContradiction fun hb => by rw [HE fs hb] at h; exact hb h
theorem uF {fs : List Scope} {s : CS} {ps : List Param} {l : List Expr} (h : (dB fs s ps l).bad = 0) : s.bad = 0 := by
 refine Decidable.byContradiction fun hb => ?_
 cases ps with
 | nil => cases l <;> simp [dB] at h <;> exact hb h
 | cons p ps => cases l with
  | nil => simp [dB] at h; exact hb h
  | cons x l => simp [dB, hb] at h
theorem UX {fs : List Scope} {s : CS} {x : Expr} {b : Bool} (h : (bY fs s x b).2.bad = 0) : s.bad = 0 :=
 Decidable.byContradiction fun hb => by rw [uE fs hb] at h; exact hb h
theorem nY {fs : List Scope} {res : Int} {l : List Stmt} {s : CS} (h : (cS fs s res l).bad = 0) : s.bad = 0 :=
 Decidable.byContradiction fun hb => by rw [oY hb] at h; exact hb h
theorem B0 {fs : List Scope} {s : CS} {name : ByteArray} {x : Thing} (h : (cR fs s name x).2.bad = 0) : bD fs name = none ∧ s.bad = 0 ∧ (cR fs s name x).1 = j8 name x fs := by
 unfold cR at h ⊢
 cases hf : bD fs name with
 | some y => rw [hf] at h; exact absurd h (dR _ (by decide))
 | none => rw [hf] at h; exact ⟨rfl, h, rfl⟩
theorem pH {a b : List Scope} {s : CS} {l : List Routine} (h : (b7 a b s l).bad = 0) : s.bad = 0 :=
 Decidable.byContradiction fun hb => by rw [lS hb] at h; exact hb h
theorem HD {fs : List Scope} {s : CS} {l : List Var} {b : List Routine} (h : (cH fs s l b).2.bad = 0) : s.bad = 0 :=
 Decidable.byContradiction fun hb => by rw [vZ hb] at h; exact hb h
theorem GU {m : ByteArray} : ∀ (l : List Routine) (f : Scope), look f m ≠ none → look (cK f l) m ≠ none
 | [], f, h => h
 | r :: l, f, h => by
  simp only [cK]
  refine GU l _ ?_
  rw [lK]
  split
  ·simp
  ·exact h
mutual
def mZ : Expr → List (ByteArray × Nat)
 | ⟨op, n, name, field, l⟩ => (if op = 7 then [(name, l.length)] else []) ++ fK l
def fK : List Expr → List (ByteArray × Nat)
 | [] => []
 | x :: r => mZ x ++ fK r
end
theorem IP (x : Expr) : mZ x = (if x.op = 7 then [(x.name, x.l.length)] else []) ++ fK x.l := by
 obtain ⟨op, n, name, field, l⟩ := x; rfl
mutual
def ZE : Stmt → List (ByteArray × Nat)
 | ⟨before, aP, op, name, p, e, down, more, body, els, cO, cT⟩ => mZ p ++ fK e ++ qT body ++ qT els
def qT : List Stmt → List (ByteArray × Nat)
 | [] => []
 | x :: r => ZE x ++ qT r
end
theorem Q6 (x : Stmt) : ZE x = mZ x.p ++ fK x.e ++ qT x.body ++ qT x.els := by
 obtain ⟨before, aP, op, name, p, e, down, more, body, els, cO, cT⟩ := x; rfl
def Seen (fs : List Scope) (q : ByteArray × Nat) : Prop := ∃ r, bD fs q.1 = some (.bU r) ∧ r.params.length = q.2
theorem rO {fs : List Scope} {k : Int} : ∀ {l : List Expr} {s : CS}, (∀ y ∈ l, ∀ s, (bY fs s y false).2.bad = 0 → ∀ name ∈ mZ y, Seen fs name) → (cC fs s l k).bad = 0 → ∀ name ∈ fK l, Seen fs name
 | [], s, _, _, name, hn => by simp [fK] at hn
 | x :: l, s, h, hb, name, hn => by
  simp only [cC] at hb
  simp only [fK, List.mem_append] at hn
  rcases hn with hn | hn
  ·exact h x (by simp) s (oZ (zI hb)) name hn
  ·exact rO (fun y hy => h y (by simp [hy])) hb name hn
theorem ET {fs : List Scope} : ∀ {ps : List Param} {l : List Expr} {s : CS}, ps.length = l.length → (∀ y ∈ l, ∀ s, (bY fs s y false).2.bad = 0 → ∀ name ∈ mZ y, Seen fs name) → (dB fs s ps l).bad = 0 → ∀ name ∈ fK l, Seen fs name
 | ps, [], s, _, _, _, name, hn => by simp [fK] at hn
 | [], x :: l, s, hl, _, _, _, _ => by simp at hl
 | p :: ps, x :: l, s, hl, h, hb, name, hn => by
  have hs := uF hb
  simp only [dB, hs, if_true] at hb
  simp only [fK, List.mem_append] at hn
  have hl' : ps.length = l.length := by simpa using hl
  have h' := fun y hy => h y (List.mem_cons_of_mem x hy)
  split at hb
  ·rcases hn with hn | hn
   ·exact h x (by simp) s (oZ (uF hb)) name hn
   ·exact ET hl' h' hb name hn
  ·generalize (if x.op = 4 ∨ x.op = 5 ∨ x.op = 6 then s else s.fail 14) = s1 at hb
   rcases hn with hn | hn
   ·have h2 := uF hb
    split at h2
    ·exact h x (by simp) _ h2 name hn
    ·exact absurd h2 (dR _ (by decide))
   ·exact ET hl' h' hb name hn
theorem KS {fs : List Scope} {kinds : List Int} {l : List Expr} {s : CS} (hl : l.length = 2) (h : ∀ y ∈ l, ∀ s, (bY fs s y false).2.bad = 0 → ∀ name ∈ mZ y, Seen fs name) (hb : (j4 fs s kinds l).bad = 0) : ∀ name ∈ fK l, Seen fs name := by
 obtain ⟨y, z, rfl⟩ : ∃ y z, l = [y, z] := by
  match l, hl with
  | [y, z], _ => exact ⟨y, z, rfl⟩
 simp only [j4, List.length_cons, List.length_nil, if_true] at hb
 intro name hn
 simp only [fK, List.append_nil, List.mem_append] at hn
 rcases hn with hn | hn
 ·exact h y (by simp) s (oZ (zI hb)) name hn
 ·exact rO (l := [z]) (fun w hw => h w (by simp at hw; simp [hw])) hb name (by simpa [fK] using hn)
theorem NX {fs : List Scope} : ∀ (n : Nat) (x : Expr), form n x = true → ∀ (b : Bool) (s : CS), (bY fs s x b).2.bad = 0 → ∀ name ∈ mZ x, Seen fs name := by
 intro n
 induction n with
 | zero => intro x h; simp [form] at h
 | succ n ih =>
  intro x hx b s hb name hn
  have hsub : ∀ y ∈ x.l, ∀ s, (bY fs s y false).2.bad = 0 → ∀ name ∈ mZ y, Seen fs name := fun y hy s => ih y (IH hx y hy) false s
  rw [qF] at hx
  simp only [Bool.and_eq_true, decide_eq_true_eq] at hx
  obtain ⟨⟨⟨⟨h1, h2⟩, h3⟩, h4⟩, h5⟩ := hx
  have hlen := yH h4
  have hs := UX hb
  rw [fQ, if_pos hs] at hb
  rw [IP] at hn
  have nil : x.l.length = 0 → x.op ≠ 7 → False := fun h0 h7 => by
   have : x.l = [] := List.length_eq_zero_iff.1 h0
   rw [if_neg h7, this] at hn
   simp [fK] at hn
  by_cases g7 : x.op = 7
  ·rw [if_neg (by omega), if_neg (by omega), if_neg (by omega), if_neg (by omega), if_neg (by omega), if_neg (by omega), if_pos g7] at hb
   cases hf : bD fs x.name with
   | none => rw [hf] at hb; exact absurd hb (dR _ (by decide))
   | some z =>
    rw [hf] at hb
    cases z with
    | var t => exact absurd hb (dR _ (by decide))
    | rcd r => exact absurd hb (dR _ (by decide))
    | bU r =>
     simp only at hb
     split at hb
     ·exact absurd (uF hb) (dR _ (by decide))
     ·split at hb
      ·rename_i hl
       rw [if_pos g7] at hn
       rcases List.mem_append.1 hn with hn | hn
       ·simp only [List.mem_cons, List.not_mem_nil, or_false] at hn
        subst hn; exact ⟨r, hf, hl⟩
       ·exact ET hl hsub hb name hn
      ·exact absurd hb (dR _ (by decide))
  ·rw [if_neg g7, List.nil_append] at hn
   by_cases g1 : x.op = 1 ∨ x.op = 2 ∨ x.op = 3 ∨ x.op = 4 ∨ x.op = 6
   ·exact (nil (by
     rw [if_neg g7, if_neg (by omega), if_neg (by omega)] at hlen; omega) g7).elim
   rw [if_neg (by omega), if_neg (by omega), if_neg (by omega), if_neg (by omega)] at hb
   by_cases g5 : x.op = 5
   ·rw [if_pos g5] at hb
    exact rO hsub hb name hn
   rw [if_neg g5, if_neg (by omega), if_neg g7] at hb
   split at hb
   ·exact rO hsub hb name hn
   ·rename_i g9
    have two : 19 ≤ x.op → x.l.length = 2 := fun h => by
     rw [if_neg g7, if_neg (by omega), if_pos (by omega)] at hlen; omega
    split at hb
    ·exact KS (two (by omega)) hsub hb name hn
    ·split at hb
     ·exact KS (two (by omega)) hsub hb name hn
     ·exact rO hsub hb name hn
theorem aAt {fs : List Scope} {x : Stmt} (hx : ZQ x) (hp : ¬ (x.op = 1 ∨ x.op = 7) → mZ x.p = []) {res : Int} {s : CS} (hb : (eX fs s res x).bad = 0) : ∀ name ∈ mZ x.p ++ fK x.e, Seen fs name := by
 intro name hn
 have he : ∀ y ∈ x.e, ∀ b s, (bY fs s y b).2.bad = 0 → ∀ name ∈ mZ y, Seen fs name := fun y hy b s => NX 48 y (hx.e y hy) b s
 have hpe : (x.op = 1 ∨ x.op = 7) → ∀ s, (bY fs s x.p false).2.bad = 0 → ∀ name ∈ mZ x.p, Seen fs name := fun h s => NX 48 x.p (hx.p h) false s
 have lo := hx.lo
 have hi := hx.hi
 have h1 := hx.op1
 have h9 := hx.op9
 have pair : ∀ {k : Int} {s : CS}, (cC fs s x.e k).bad = 0 → ∀ name ∈ fK x.e, Seen fs name := fun h => rO (fun y hy => he y hy false) h
 have rest : ¬ (x.op = 1 ∨ x.op = 7) → name ∈ fK x.e := fun h => by
  rw [hp h, List.nil_append] at hn; exact hn
 unfold eX at hb
 by_cases g1 : x.op = 1
 ·rw [if_pos g1] at hb
  rcases List.mem_append.1 hn with hn | hn
  ·exact hpe (.inl g1) _ (oZ (zI hb)) name hn
  ·exact pair hb name hn
 rw [if_neg g1] at hb
 by_cases g2 : x.op = 2
 ·rw [if_pos g2] at hb
  have hn := rest (by omega)
  obtain ⟨y, hy⟩ : ∃ y, x.e = [y] := by
   rw [if_neg (by omega), if_neg (by omega), if_neg (by omega)] at lo
   rw [if_neg (by omega), if_neg (by omega)] at hi
   exact List.length_eq_one_iff.1 (by omega)
  rw [hy] at hb hn
  simp only [nZ] at hb
  exact he y (by simp [hy]) true s hb name (by simpa [fK] using hn)
 rw [if_neg g2] at hb
 by_cases g3 : x.op = 3 ∨ x.op = 4 ∨ x.op = 5
 ·rw [if_pos g3] at hb
  exact pair hb name (rest (by omega))
 rw [if_neg g3] at hb
 by_cases g6 : x.op = 6
 ·rw [if_pos g6] at hb
  exact pair hb name (rest (by omega))
 rw [if_neg g6] at hb
 by_cases g7 : x.op = 7
 ·rw [if_pos g7] at hb
  have hee : x.e = [] := by
   rw [if_neg g6, if_pos g7] at hi
   exact List.length_eq_zero_iff.1 (by omega)
  rw [hee] at hn
  simp only [fK, List.append_nil] at hn
  exact hpe (.inr g7) _ (oZ hb) name hn
 rw [if_neg g7] at hb
 by_cases g8 : x.op = 8
 ·rw [if_pos g8] at hb
  have hn := rest (by omega)
  obtain ⟨y, hy⟩ : ∃ y, x.e = [y] := by
   rw [if_neg (by omega), if_neg (by omega), if_neg (by omega)] at lo
   rw [if_neg (by omega), if_neg (by omega)] at hi
   exact List.length_eq_one_iff.1 (by omega)
  rw [hy] at hb hn
  simp only [n5, B1] at hb
  exact he y (by simp [hy]) false s (oZ hb) name (by simpa [fK] using hn)
 rw [if_neg g8, if_pos (by omega : x.op = 9)] at hb
 have hn := rest (by omega)
 unfold iG at hb
 by_cases hr : 0 < res
 ·simp only [hr, if_true] at hb
  exact pair hb name hn
 ·simp only [hr, if_false, decide_false] at hb
  have hee : x.e = [] := by
   refine Decidable.byContradiction fun hh => ?_
   have := List.length_pos_iff.2 hh
   rw [if_neg (by simp [this])] at hb
   exact absurd hb (dR _ (by decide))
  rw [hee] at hn
  simp [fK] at hn
theorem UB {x : Expr} (h : kN x = true) : mZ x = [] := by
 unfold kN at h
 simp only [Bool.and_eq_true, decide_eq_true_eq] at h
 obtain ⟨⟨⟨⟨h1, _⟩, _⟩, _⟩, h2⟩ := h
 have hl : x.l = [] := List.length_eq_zero_iff.1 h2
 rw [IP, hl]
 simp [h1, fK]
theorem UA {x : Stmt} (h : fB x = true) (hp : ¬ (x.op = 1 ∨ x.op = 7)) : mZ x.p = [] := by
 unfold fB iR at h
 simp only [Bool.and_eq_true] at h
 have h6 := h.1.1.1.2
 rw [if_neg hp] at h6
 exact UB h6
theorem sC {fs : List Scope} {res : Int} : ∀ (n : Nat) (l : List Stmt) (d : Int), aZ.sz l ≤ n → dA l d = true → ∀ s, (cS fs s res l).bad = 0 → ∀ name ∈ qT l, Seen fs name
 | n, [], d, _, _, s, _, name, hn => by simp [qT] at hn
 | 0, x :: l, d, hz, _, s, _, _, _ => by simp [aZ.sz] at hz
 | n + 1, x :: l, d, hn, ht, s, hb, name, hc => by
  have hz := Stmt.cY x
  simp only [aZ.sz] at hn
  simp only [dA, Bool.and_eq_true] at ht
  have ht1 := ht.1
  rw [oA] at ht1
  simp only [Bool.and_eq_true, decide_eq_true_eq] at ht1
  obtain ⟨⟨⟨hd, hso⟩, htb, hlb⟩, hte, hle⟩ := ht1
  have hs := nY hb
  simp only [cS, hs, if_true] at hb
  have hb1 := nY hb
  rw [uV] at hb1
  have hb2 := nY hb1
  have hb3 := nY hb2
  simp only [qT, List.mem_append] at hc
  rcases hc with hc | hc
  ·rw [Q6] at hc
   simp only [List.mem_append] at hc
   rcases hc with (hc | hc) | hc
   ·exact aAt (y6 hso) (fun hp => UA hso hp) hb3 name (List.mem_append.2 hc)
   ·exact sC n x.body (d + 1) (by omega) htb _ hb2 name hc
   ·exact sC n x.els (d + 1) (by omega) hte _ hb1 name hc
  ·exact sC n l d (by omega) ht.2 _ hb name hc
theorem GV {m : ByteArray} {y : Thing} : ∀ (l : List Routine) (f : Scope), look (cK f l) m = some y → (∃ r ∈ l, r.name = m ∧ y = .bU r) ∨ look f m = some y
 | [], f, h => .inr h
 | r :: l, f, h => by
  simp only [cK] at h
  rcases GV l _ h with ⟨x, hx, h1⟩ | h
  ·exact .inl ⟨x, by simp [hx], h1⟩
  ·rw [lK] at h
   split at h
   ·rename_i he
    simp only [Option.some.injEq] at h
    exact .inl ⟨r, by simp, he.symm, h.symm⟩
   ·exact .inr h
theorem CV {m : ByteArray} : ∀ (l : List Routine) (f : Scope), m ∈ l.map (·.name) → look (cK f l) m ≠ none
 | r :: l, f, h => by
  simp only [cK]
  simp only [List.map_cons, List.mem_cons] at h
  by_cases he : m = r.name
  ·refine GU l _ ?_
   rw [lK, if_pos he]; simp
  ·exact CV l _ (h.resolve_left he)
theorem aBc {X : Type} {l : List X} (nd : l.Nodup) {i j : Nat} {a : X} (hi : l[i]? = some a) (hj : l[j]? = some a) : i = j := by
 obtain ⟨l1, e1⟩ := List.getElem?_eq_some_iff.1 hi
 obtain ⟨l2, e2⟩ := List.getElem?_eq_some_iff.1 hj
 have hp := List.pairwise_iff_getElem.1 nd
 rcases Nat.lt_trichotomy i j with h | h | h
 ·exact absurd (e1.trans e2.symm) (hp i j l1 l2 h)
 ·exact h
 ·exact absurd (e2.trans e1.symm) (hp j i l2 l1 h)
theorem aCy {l : List Routine} {d : Int} (ht : bN [] l d = true) {x y : Routine} (hx : x ∈ l) (hy : y ∈ l) (h : x.name = y.name) : x = y := by
 have nd := (sA ht).1
 obtain ⟨i, hi⟩ := List.getElem?_of_mem hx
 obtain ⟨j, hj⟩ := List.getElem?_of_mem hy
 have : i = j := aBc nd (a := x.name) (by simp [hi]) (by simp [hj, h])
 subst this
 rw [hi] at hj; cases hj; rfl
def Rs (sc : List (List Routine)) (fs : List Scope) : Prop := ∀ m r, bD fs m = some (.bU r) → ∃ q, sG m sc = some (r, q)
theorem Rs.lay {sc : List (List Routine)} {fs : List Scope} (o : Rs sc fs) (hne : fs ≠ []) (name : ByteArray) (x : Thing) (hx : ∀ r, x ≠ .bU r) : Rs sc (j8 name x fs) := fun m r h => by
 rw [kU name _ hne] at h
 split at h
 ·simp only [Option.some.injEq] at h
  exact absurd h (hx r)
 ·exact o m r h
theorem DO {fs : List Scope} (hne : fs ≠ []) (name : ByteArray) (x : Thing) : j8 name x fs ≠ [] := by
 cases fs with
 | nil => exact absurd rfl hne
 | cons f fs => simp [j8]
theorem Rs.sS {sc : List (List Routine)} {fs : List Scope} (o : Rs sc fs) : Rs sc ([] :: fs) := fun m r h => o m r (by simpa [bD, look] using h)
theorem Rs.params {sc : List (List Routine)} : ∀ (l : List Param) {fs : List Scope} {s : CS}, fs ≠ [] → Rs sc fs → (cA fs s l).2.bad = 0 → Rs sc (cA fs s l).1 ∧ (cA fs s l).1 ≠ []
 | [], fs, s, hne, o, h => ⟨by simpa [cA] using o, by simpa [cA] using hne⟩
 | v :: l, fs, s, hne, o, h => by
  simp only [cA] at h ⊢
  have h1 : (cR fs s v.name (.var v.t)).2.bad = 0 := by
   refine Decidable.byContradiction fun hb => ?_
   rw [EO _ hb, xT hb] at h
   exact hb h
  obtain ⟨_, _, e⟩ := B0 h1
  refine Rs.params l ?_ ?_ h
  ·rw [e]; exact DO hne _ _
  ·rw [e]; exact o.lay hne _ _ (fun r h => by cases h)
theorem Rs.vars {sc : List (List Routine)} (behind : List Routine) : ∀ (l : List Var) {fs : List Scope} {s : CS}, fs ≠ [] → Rs sc fs → (cH fs s l behind).2.bad = 0 → Rs sc (cH fs s l behind).1 ∧ (cH fs s l behind).1 ≠ []
 | [], fs, s, hne, o, h => ⟨by simpa [cH] using o, by simpa [cH] using hne⟩
 | v :: l, fs, s, hne, o, h => by
  have hs : s.bad = 0 := Decidable.byContradiction fun hb => by rw [vZ hb] at h; exact hb h
  simp only [cH, hs, if_true] at h ⊢
  generalize (if (behind.any fun x => decide (x.name = v.name)) = true then s.step.fail 12 else s.step) = s1 at h ⊢
  have h1 : (cR fs s1 v.name (.var v.t)).2.bad = 0 := by
   refine Decidable.byContradiction fun hb => ?_
   rw [EO _ hb, vZ hb] at h
   exact hb h
  obtain ⟨_, _, e⟩ := B0 h1
  refine Rs.vars behind l ?_ ?_ h
  ·rw [e]; exact DO hne _ _
  ·rw [e]; exact o.lay hne _ _ (fun r h => by cases h)
theorem aCs : ∀ (l : List Rec) (fs : List Scope) (s : CS), s.bad ≠ 0 → (dY fs s l).2 = s := fun l fs s hb => by
 cases l <;> simp [dY, hb]
theorem Rs.recs {sc : List (List Routine)} : ∀ (l : List Rec) {fs : List Scope} {s : CS}, fs ≠ [] → Rs sc fs → (dY fs s l).2.bad = 0 → Rs sc (dY fs s l).1 ∧ (dY fs s l).1 ≠ []
 | [], fs, s, hne, o, h => ⟨by simpa [dY] using o, by simpa [dY] using hne⟩
 | r :: l, fs, s, hne, o, h => by
  have hs : s.bad = 0 := Decidable.byContradiction fun hb => by simp [dY, hb] at h
  simp only [dY, hs, if_true] at h ⊢
  have h1 : (cR fs s.step r.name (.rcd r)).2.bad = 0 := by
   refine Decidable.byContradiction fun hb => ?_
   rw [aCs _ _ _ (by split; exact dR _ (by decide); exact hb)] at h
   split at h
   ·exact dR _ (by decide) h
   ·exact hb h
  obtain ⟨_, _, e⟩ := B0 h1
  refine Rs.recs l ?_ ?_ h
  ·rw [e]; exact DO hne _ _
  ·rw [e]; exact o.lay hne _ _ (fun r h => by cases h)
theorem Rs.push {l : List Routine} {d : Int} (ht : bN [] l d = true) {sc : List (List Routine)} {fs : List Scope} (o : Rs sc fs) : Rs (l :: sc) (cK [] l :: fs) := fun m r h => by
 simp only [bD] at h
 cases hl : look (cK [] l) m with
 | some y =>
  rw [hl] at h
  simp only [Option.some.injEq] at h
  subst h
  rcases GV _ _ hl with ⟨x, hx, h1, h2⟩ | h
  ·cases h2
   cases hf : l.find? (fun x => decide (x.name = m)) with
   | none => exact absurd h1 (by simpa using List.find?_eq_none.1 hf r hx)
   | some z =>
    have hz := List.find?_some hf
    simp only [decide_eq_true_eq] at hz
    have := aCy ht (List.mem_of_find?_eq_some hf) hx (by rw [hz, h1])
    subst this
    exact ⟨l :: sc, by simp only [sG, hf]⟩
  ·simp [look] at h
 | none =>
  rw [hl] at h
  obtain ⟨q, hq⟩ := o m r h
  have hf : l.find? (fun x => decide (x.name = m)) = none := List.find?_eq_none.2 fun z hz hzn => by
   simp only [decide_eq_true_eq] at hzn
   exact absurd hl (CV _ _ (List.mem_map.2 ⟨z, hz, hzn⟩))
  exact ⟨q, by simp only [sG, hf]; exact hq⟩
def ZW (sc : List (List Routine)) (q : ByteArray × Nat) : Prop := ∃ r rs, sG q.1 sc = some (r, rs) ∧ r.params.length = q.2
theorem Rs.fit {sc : List (List Routine)} {fs : List Scope} (o : Rs sc fs) {q : ByteArray × Nat} (h : Seen fs q) : ZW sc q := by
 obtain ⟨r, h1, h2⟩ := h
 obtain ⟨rs, h3⟩ := o _ _ h1
 exact ⟨r, rs, h3, h2⟩
theorem KW {l : List Expr} {y : Expr} (h : y ∈ l) : ∀ q ∈ mZ y, q ∈ fK l := by
 induction l with
 | nil => simp at h
 | cons x l ih =>
  intro q hq
  simp only [fK, List.mem_append]
  rcases List.mem_cons.1 h with rfl | h
  ·exact .inl hq
  ·exact .inr (ih h q hq)
theorem eok {sc : List (List Routine)} : ∀ (n : Nat) (x : Expr), form n x = true → (∀ q ∈ mZ x, ZW sc q) → EOk sc x := by
 intro n
 induction n with
 | zero => intro x h; simp [form] at h
 | succ n ih =>
  intro x hx hq
  have hsub := IH hx
  rw [qF] at hx
  simp only [Bool.and_eq_true, decide_eq_true_eq] at hx
  obtain ⟨⟨⟨⟨h1, h2⟩, h3⟩, h4⟩, h5⟩ := hx
  have hlen := yH h4
  rw [IP] at hq
  refine .mk x (by unfold few; omega) ⟨h2, h3⟩ (fun h => ?_) (fun h => ?_) (fun h => ?_) (fun y hy => ih y (hsub y hy) fun q hq' => hq q (List.mem_append.2 (.inr (KW hy q hq'))))
  ·rw [if_neg (by omega), if_pos h] at hlen; omega
  ·rw [if_neg (by omega), if_neg (by omega), if_pos h] at hlen; omega
  ·exact hq (x.name, x.l.length) (List.mem_append.2 (.inl (by simp [h])))
theorem sok {sc : List (List Routine)} : ∀ (n : Nat) (l : List Stmt) (d : Int), aZ.sz l ≤ n → dA l d = true → (∀ q ∈ qT l, ZW sc q) → ∀ y ∈ l, tT sc y
 | n, [], d, _, _, _, y, hy => by simp at hy
 | 0, x :: l, d, hz, _, _, _, _ => by simp [aZ.sz] at hz
 | n + 1, x :: l, d, hn, ht, hq, y, hy => by
  have hz := Stmt.cY x
  simp only [aZ.sz] at hn
  simp only [dA, Bool.and_eq_true] at ht
  have ht1 := ht.1
  rw [oA] at ht1
  simp only [Bool.and_eq_true, decide_eq_true_eq] at ht1
  obtain ⟨⟨⟨hd, hso⟩, htb, hlb⟩, hte, hle⟩ := ht1
  simp only [qT, List.mem_append] at hq
  rcases List.mem_cons.1 hy with rfl | hy
  ·have hf := y6 hso
   have lo := hf.lo; have hi := hf.hi
   have hq1 : ∀ q ∈ ZE y, ZW sc q := fun q h => hq q (.inl h)
   rw [Q6] at hq1
   simp only [List.mem_append] at hq1
   refine .mk y (by unfold few; split at hi <;> (try split at hi) <;> omega) (by unfold few; omega) (by unfold few; omega) (fun h => ?_) (fun h => ?_) (fun h => eok 48 _ (hf.p h) fun q h' => hq1 q (.inl (.inl (.inl h')))) (fun z hz => eok 48 z (hf.e z hz) fun q h' => hq1 q (.inl (.inl (.inr (KW hz q h')))))
    (sok n y.body (d + 1) (by omega) htb fun q h => hq1 q (.inl (.inr h))) (sok n y.els (d + 1) (by omega) hte fun q h => hq1 q (.inr h))
   ·rw [if_neg (by omega), if_neg (by omega), if_neg (by omega)] at lo; exact lo
   ·rw [if_pos h] at lo; exact lo
  ·exact sok n l d (by omega) ht.2 (fun q h => hq q (.inr h)) y hy
mutual
def wtR : Routine → Nat
 | ⟨before, aP, name, result, params, vars, inner, body, bT⟩ => aZ.wt body + mG inner
def mG : List Routine → Nat
 | [] => 1
 | x :: r => wtR x + mG r
end
theorem aEK (x : Routine) : wtR x = aZ.wt x.body + mG x.inner := by obtain ⟨before, aP, name, result, params, vars, inner, body, bT⟩ := x; rfl
theorem PL {C : Nat} : ∀ (N : Nat) (l : List Routine) (d : Int) (ahead : List ByteArray), bB.sz l < N → bN ahead l d = true → mG l ≤ C → ∀ {sc : List (List Routine)} {fs all : List Scope} {s : CS}, Rs sc all → (b7 fs all s l).bad = 0 → ∀ x ∈ l, RL C sc x
 | 0, l, d, _, h, _, _, _, _, _, _, _, _, _, _ => by omega
 | N + 1, [], d, _, _, _, _, sc, fs, all, s, _, _, x, hx => by simp at hx
 | N + 1, y :: l, d, ahead, hN, ht, hC, sc, fs, all, s, o, hb, x, hx => by
  have hz := Routine.cY y
  simp only [bB.sz] at hN
  simp only [bN, Bool.and_eq_true] at ht
  simp only [mG] at hC
  have hwy := aEK y
  have hs := pH hb
  simp only [b7, hs, if_true] at hb
  have hb1 := pH hb
  rcases List.mem_cons.1 hx with rfl | hx
  ·have hro := y7 ht.1
   have hpar : eJ x.params = true := by
    have h1 := ht.1
    rw [dP] at h1
    simp only [Bool.and_eq_true] at h1
    exact h1.1.1.1.2
   generalize (if (bD fs x.name).isSome = true then s.step.fail 12 else s.step) = s1 at hb1
   rw [iX] at hb1
   simp only at hb1
   have h4 := nY hb1
   have h3 := pH h4
   have h2 := HD h3
   have h1 : (cA ([] :: all) s1 x.params).2.bad = 0 := by
    split at h2
    ·exact absurd h2 (dR _ (by decide))
    ·exact h2
   obtain ⟨o1, n1⟩ := Rs.params x.params (by simp) o.sS h1
   obtain ⟨o2, _⟩ := Rs.vars x.inner x.vars n1 o1 h3
   have o3 := Rs.push hro.inner o2
   refine .mk sc x (sok _ x.body 1 (Nat.le_refl _) hro.body fun q hq => o3.fit (sC _ x.body 1 (Nat.le_refl _) hro.body _ hb1 q hq)) (by omega) hro.params (by have := hro.vars; unfold few; omega) (by have := hro.aBm; unfold few; omega) (by have := hro.KX; unfold few; omega) (fun p hp => ?_)
    (PL N x.inner (d + 1) [] (by omega) hro.inner (by omega) o3 h4)
   unfold eJ at hpar
   simp only [Bool.and_eq_true, List.all_eq_true] at hpar
   have := hpar.1 p hp
   unfold dZ at this
   simp only [Bool.and_eq_true, decide_eq_true_eq] at this
   omega
  ·exact PL N l d _ (by omega) ht.2 (by omega) o hb x hx
theorem WK {p : Prg} (ht : eI p = true) (hp : p.ok) (hc : (check p).2 = 0) : aBK (1 + mG p.aH) p := by
 have po := LO ht
 have hb : (mY p).bad = 0 := by
  unfold check at hc
  split at hc
  ·assumption
  ·exact hc
 unfold mY at hb
 simp only at hb
 have h3 := nY hb
 have h2 := pH h3
 have h1 := HD h2
 have o00 : Rs [] [([] : Scope)] := fun m r h => by simp [bD, look] at h
 obtain ⟨o0, e1⟩ := Rs.recs (sc := []) p.recs (by simp) o00 h1
 obtain ⟨o1, _⟩ := Rs.vars p.aH p.vars e1 o0 h2
 have o2 := Rs.push po.aH o1
 exact ⟨by omega, ⟨by have := po.bU; unfold few; omega, PL _ p.aH 1 [] (Nat.lt_succ_self _) po.aH (by omega) o2 h3, trivial⟩, sok _ p.body 1 (Nat.le_refl _) po.body fun q hq => o2.fit (sC _ p.body 1 (Nat.le_refl _) po.body _ hb q hq), by have := po.KX; unfold few; omega, by have := po.vars; unfold few; omega, hp.recs, fun r hr => (hp.rV r hr).fields⟩
end Pg.Rf
