import Derived.Test.YtdfbkddelhbgmaaGreatDoorCore14S3
set_option linter.all false
namespace Pg
open Go
variable {DD : List Deferred}
theorem aFy [GI] {P : Program} {a : ROper} {X Y : List ROper} {K : Slots → AHeap → Prop} (H1 : ∀ (H : Held) (ρ : Slots) (h : AHeap), tC H → D P X H K ρ h → D P Y H K ρ h) {H : Held} {ρ : Slots} {h : AHeap} (m : tC H) (k : D P (a :: X) H K ρ h) : D P (a :: Y) H K ρ h := by
 simp only [D] at k ⊢
 cases hq : gF ρ a with
 | none => simp [hq] at k
 | some qq =>
  simp only [hq] at k ⊢
  cases qq with
  | rd q =>
   simp only at k ⊢
   cases hr : bS (Slots.val ρ) h q with
   | none => simp [hr, dJ] at k
   | some av => simp only [hr, dJ] at k ⊢; exact H1 _ _ _ (yP (pZ m)) k
  | ef q =>
   simp only at k ⊢
   refine n9 ?_ k
   rintro v g ⟨k1, k2⟩
   exact ⟨k1, H1 _ _ _ (pZ m) k2⟩
theorem move [GI] {P : Program} {K : Slots → AHeap → Prop} {i : ROper} {B : List ROper} : ∀ (A : List ROper) {H : Held} {ρ : Slots} {h : AHeap}, tC H → (∀ a ∈ A, allowed a i = true) → D P (A ++ i :: B) H K ρ h → D P (i :: (A ++ B)) H K ρ h
 | [], _, _, _, _, _, k => k
 | a :: A, H, ρ, h, m, al, k =>
  swap m (al a (by simp)) (aFy (fun H' ρ' h' m' k' => move A m' (fun x hx => al x (by simp [hx])) k') m k)
structure hF (I : Imm) (N : Nat) (ρ : Slots) (tmps : Array Value) : Prop where
 size : tmps.size = N
 at_ : ∀ t, Rd I (ρ t) (tmps.getD t undef)
theorem hF.mono {I J : Imm} (h : I.le J) {N : Nat} {ρ : Slots} {tmps : Array Value} (s : hF I N ρ tmps) : hF J N ρ tmps := ⟨s.size, fun t => (s.at_ t).mono h⟩
theorem hF.val {I : Imm} {N : Nat} {ρ : Slots} {a : Act} (s : hF I N ρ a.tmps) : qU I (Slots.val ρ) a := by
 intro x r h
 cases x with
 | tmp t => simp only [bF, Option.some.injEq] at h; subst h; exact s.at_ t
 | const v =>
  simp only [bF, Option.map_eq_some_iff] at h
  obtain ⟨a', h1, rfl⟩ := h
  exact aA7 I h1
 | global g => simp only [bF, Option.some.injEq] at h; subst h; exact .ptr _
 | func f =>
  simp only [bF, Option.some.injEq] at h; subst h
  exact .func (.func f) [] [] [] [] rfl rfl (fun _ _ _ h => by simp at h) (fun _ _ _ h => by simp at h)
theorem hF.put {I : Imm} {N : Nat} {ρ : Slots} {a : Act} (s : hF I N ρ a.tmps) {d : Option Nat} {av : AV} {v : Value} (hd : ∀ t, d = some t → t < N) (h : Rd I av v) : hF I N (ρ.put d av) (a.put d v).tmps := by
 cases d with
 | none => exact s
 | some t =>
  have ht : t < a.tmps.size := by rw [s.size]; exact hd t rfl
  refine ⟨by simp [Act.put, s.size], ?_⟩
  intro u
  simp only [Slots.put, Act.put]
  by_cases hu : u = t
  ·subst hu
   simp only [if_true, Array.getD_eq_getD_getElem?, Array.getElem?_setIfInBounds, ht, Option.getD_some]
   exact h
  ·simp only [hu, if_false]
   have := s.at_ u
   simp only [Array.getD_eq_getD_getElem?] at this ⊢
   rw [Array.getElem?_setIfInBounds_ne (Ne.symm hu)]
   exact this
theorem hF.aFh {I : Imm} {N : Nat} {e : Env} {tmps : Array Value} (s : dC I N e tmps) : hF I N e.get tmps := ⟨s.size, s.at_⟩
theorem hF.env {I : Imm} {N : Nat} {e : Env} {ρ : Slots} {tmps : Array Value} (he : e.get = ρ) (s : hF I N ρ tmps) : dC I N e tmps := ⟨s.size, fun t => by rw [he]; exact s.at_ t⟩
theorem OZ {I : Imm} {N : Nat} {ρ : Slots} {tmps : Array Value} (s : hF I N ρ tmps) {ops : Array Oper} {j slot : Nat} {b : Bool} (hj : (ops[j]?).bind (·.dst) = some slot) (hb : ρ slot = .bool b) : yielded ops tmps j = some b := by
 have h1 := s.at_ slot
 rw [hb] at h1
 have h2 := h1.nG
 have h3 : tmps[slot]? = some (.bool b) := by
  simp only [Array.getD_eq_getD_getElem?] at h2
  cases hx : tmps[slot]? with
  | none => rw [hx] at h2; simp [undef] at h2
  | some v => rw [hx] at h2; simp at h2; rw [h2]
 simp only [yielded, hj, Option.bind_some, h3]
theorem C3 {I : Imm} {N : Nat} {ρ : Slots} {tmps : Array Value} (s : hF I N ρ tmps) {ops : Array Oper} {j slot : Nat} (hj : (ops[j]?).bind (·.dst) = some slot) (hb : ρ slot = .tuple []) : yielded ops tmps j = none := by
 have h1 := s.at_ slot
 rw [hb] at h1
 obtain ⟨vs, h2, r⟩ := h1.uR
 have := r.of_nil
 subst this
 simp only [Array.getD_eq_getD_getElem?] at h2
 cases hx : tmps[slot]? with
 | none => simp only [yielded, hj, Option.bind_some, hx]
 | some v => rw [hx] at h2; simp at h2; subst h2; simp only [yielded, hj, Option.bind_some, hx]
theorem aFx [GI] {P : Program} {N : Nat} {B : List Nat} {ops : Array Oper} {Q : Exit → Act → World → Prop} {i : Nat} {o : Oper} {x : ROper} {L : List ROper} {H : Held} {K : Slots → AHeap → Prop} {ρ : Slots} {h : AHeap} {I : Imm} {w : World} {a : Act} (m : tC H)
  (ho : ops[i]? = some o) (hx : lI P N B ops o = some x) (s : hF I N ρ a.tmps) (t : Sat w I h) (hd : a.defers = DD) (k : D P (x :: L) H K ρ h) (next : Act → World → Prop)
  (H1 : ∀ H' ρ' h' J a' w', tC H' → D P L H' K ρ' h' → hF J N ρ' a'.tmps → Sat w' J h' → Ext h w w' → New w I J h h' → a'.defers = DD → next a' w') : wpOp P ops Q i next a w := by
 unfold lI at hx
 split at hx
 ·rename_i hbound
  have hdst : ∀ t, o.dst = some t → t < N := by
   intro t ht; rw [ht] at hbound; simpa using hbound
  have run : ∀ r, tJ P B o = some r → (match (some r : Option ROp) with
    | some (.rd q) => dJ (bS (Slots.val ρ) h q) fun av => D P L (held q x.dst ρ av (cG x H)) K (ρ.put o.dst av) h
    | some (.ef q) => eY P (Slots.val ρ) h (fun av g => (q.oR = true ∨ CF x H g) ∧ D P L (cG x H) K (ρ.put o.dst av) g) q
    | none => False) → o.wp P a w next Q := by
   intro r hr hk
   have hs := aAG hr
   cases r with
   | rd q =>
    simp only at hk
    cases hav : bS (Slots.val ρ) h q with
    | none => simp [hav, dJ] at hk
    | some av =>
     simp only [hav, dJ] at hk
     obtain ⟨v, J, w', q1, q2, q3, q4, q5⟩ := hs I w h a _ av s.val t hav
     unfold Oper.wp
     rw [q1, Oper.upon_value]
     exact H1 _ _ _ J _ w' (yP (pZ m)) hk ((s.mono q5.imm).put hdst q2) q3 q4 q5 (by rw [Pg.put_defers, hd])
   | ef q =>
    simp only at hk
    refine hs I w h a _ _ s.val t hk next Q ?_
    rintro v J w' av g ⟨_, k2⟩ rd s' ex n
    exact H1 _ _ _ J _ w' (pZ m) k2 ((s.mono n.imm).put hdst rd) s' ex n (by rw [Pg.put_defers, hd])
  split at hx
  ·rename_i r hrop hg
   simp only [Option.some.injEq] at hx; subst hx
   simp only [D, gF] at k
   unfold wpOp
   simp only [ho]
   have hw : Region.wanted o (yielded ops a.tmps) = true := by simp [Region.wanted, hg]
   rw [if_pos hw]
   exact .inl (run r hrop k)
  ·rename_i r j want hrop hg
   split at hx
   ·rename_i slot hslot
    simp only [Option.some.injEq] at hx; subst hx
    simp only [D, gF] at k
    unfold wpOp
    simp only [ho]
    cases hb : ρ slot with
    | bool b =>
     simp only [hb] at k
     have hy := OZ s hslot hb
     by_cases hbw : b = want
     ·rw [if_pos hbw] at k
      have hw : Region.wanted o (yielded ops a.tmps) = true := by simp [Region.wanted, hg, hy, hbw]
      rw [if_pos hw]
      exact .inl (run r hrop k)
     ·rw [if_neg hbw] at k
      have hw : ¬ Region.wanted o (yielded ops a.tmps) = true := by simp [Region.wanted, hg, hy, hbw]
      rw [if_neg hw]
      simp only [skipOp, bS, Slots.val, dJ] at k
      exact H1 _ _ _ I _ w (yP (pZ m)) k (s.put hdst (xE I)) t (.refl h w) (.refl w I h) (by rw [Pg.put_defers, hd])
    | tuple vs =>
     cases vs with
     | cons _ _ => simp [hb] at k
     | nil =>
      simp only [hb] at k
      have hy := C3 s hslot hb
      have hw : ¬ Region.wanted o (yielded ops a.tmps) = true := by simp [Region.wanted, hg, hy]
      rw [if_neg hw]
      simp only [skipOp, bS, Slots.val, dJ] at k
      exact H1 _ _ _ I _ w (yP (pZ m)) k (s.put hdst (xE I)) t (.refl h w) (.refl w I h) (by rw [Pg.put_defers, hd])
    | _ => simp [hb] at k
   ·cases hx
  ·cases hx
 ·cases hx
def eW (ops : Array Oper) (i : Nat) : List Nat := match ops[i]? with | some o => (o.after.toList.filter (Region.binds .any)).map (·.on) | none => []
def B6 (B : Array Nat) (i k : Nat) : Bool := (B.getD i 0).testBit k
theorem NV (acc : Array Nat) (k : Nat) : ∀ (es : List Edge) (s : Nat), (es.foldl (fun s e => if Region.binds .any e then s ||| 2 ^ e.on ||| acc.getD e.on 0 else s) s).testBit k = true →
  s.testBit k = true ∨ ∃ e ∈ es, Region.binds .any e = true ∧ (e.on = k ∨ (acc.getD e.on 0).testBit k = true)
 | [], s, h => .inl h
 | e :: es, s, h => by
  simp only [List.foldl_cons] at h
  rcases NV acc k es _ h with h | ⟨e', h1, h2⟩
  ·split at h
   ·rename_i hb
    simp only [Nat.testBit_or, Bool.or_eq_true] at h
    rcases h with (h | h) | h
    ·exact .inl h
    ·exact .inr ⟨e, by simp, hb, .inl (by simpa [Nat.testBit_two_pow] using h)⟩
    ·exact .inr ⟨e, by simp, hb, .inr h⟩
   ·exact .inl h
  ·exact .inr ⟨e', by simp [h1], h2⟩
theorem NU {j : Nat} (acc : Array Nat) (x i : Nat) (h : (acc.getD i 0).testBit j = true) : (acc.push x).getD i 0 = acc.getD i 0 := by
 have hi : i < acc.size := by
  rcases Nat.lt_or_ge i acc.size with h' | h'
  ·exact h'
  ·rw [Array.getD_eq_getD_getElem?, Array.getElem?_eq_none h'] at h; simp at h
 rw [Array.getD_eq_getD_getElem?, Array.getD_eq_getD_getElem?, Array.getElem?_push, if_neg (by omega)]
theorem U0 (ops : Array Oper) {i k : Nat} (h : B6 (Region.before ops) i k = true) : ∃ d ∈ eW ops i, d = k ∨ B6 (Region.before ops) d k = true := by
 have key : ∀ (l : List Oper) (done : List Oper) (acc : Array Nat), acc.size = done.length →
   (∀ i k, (acc.getD i 0).testBit k = true → ∃ o, done[i]? = some o ∧ ∃ e ∈ o.after.toList, Region.binds .any e = true ∧ (e.on = k ∨ (acc.getD e.on 0).testBit k = true)) →
   ∀ i k, ((l.foldl (fun acc o => acc.push (o.after.foldl (fun s e => if Region.binds .any e then s ||| 2 ^ e.on ||| acc.getD e.on 0 else s) 0)) acc).getD i 0).testBit k = true →
    ∃ o, (done ++ l)[i]? = some o ∧ ∃ e ∈ o.after.toList, Region.binds .any e = true ∧ (e.on = k ∨ ((l.foldl (fun acc o => acc.push (o.after.foldl (fun s e => if Region.binds .any e then s ||| 2 ^ e.on ||| acc.getD e.on 0 else s) 0)) acc).getD e.on 0).testBit k = true) := by
  intro l
  induction l with
  | nil =>
   intro done acc hs hinv i k hk
   simp only [List.foldl_nil, List.append_nil] at hk ⊢
   exact hinv i k hk
  | cons o l ih =>
   intro done acc hs hinv i k hk
   simp only [List.foldl_cons] at hk ⊢
   have := ih (done ++ [o]) _ (by simp [hs]) ?_ i k hk
   ·simpa using this
   ·intro i k hik
    rw [Array.getD_eq_getD_getElem?, Array.getElem?_push] at hik
    split at hik
    ·rename_i hi
     simp only [Option.getD_some] at hik
     rw [← Array.foldl_toList] at hik
     rcases NV acc k o.after.toList 0 hik with h0 | ⟨e, h1, h2, h3⟩
     ·simp at h0
     ·refine ⟨o, ?_, e, h1, h2, ?_⟩
      ·rw [hi, hs]; simp
      ·rcases h3 with h3 | h3
       ·exact .inl h3
       ·exact .inr (by rw [NU acc _ _ h3]; exact h3)
    ·rename_i hi
     rw [← Array.getD_eq_getD_getElem?] at hik
     obtain ⟨o', ho', e, h1, h2, h3⟩ := hinv i k hik
     refine ⟨o', ?_, e, h1, h2, ?_⟩
     ·rw [List.getElem?_append, if_pos]
      ·exact ho'
      ·rcases Nat.lt_or_ge i done.length with h' | h'
       ·exact h'
       ·rw [List.getElem?_eq_none h'] at ho'; cases ho'
     ·rcases h3 with h3 | h3
      ·exact .inl h3
      ·exact .inr (by rw [NU acc _ _ h3]; exact h3)
 unfold B6 Region.before at h
 rw [← Array.foldl_toList] at h
 obtain ⟨o, ho, e, h1, h2, h3⟩ := key ops.toList [] #[] rfl (by intro i k hh; simp at hh) i k h
 simp only [List.nil_append, Array.getElem?_toList] at ho
 refine ⟨e.on, ?_, ?_⟩
 ·simp only [eW, ho]
  exact List.mem_map.2 ⟨e, List.mem_filter.2 ⟨h1, h2⟩, rfl⟩
 ·rcases h3 with h3 | h3
  ·exact .inl h3
  ·refine .inr ?_
   unfold B6 Region.before
   rw [← Array.foldl_toList]
   exact h3
def Rel (ops : Array Oper) (B : Array Nat) (a b : Nat × ROper) : Bool := (a.1 != b.1) && !(eW ops a.1).contains b.1 && (B6 B b.1 a.1 || allowed a.2 b.2)
def zZ (R : Nat × ROper → Nat × ROper → Bool) : List (Nat × ROper) → Bool
 | [] => true
 | a :: r => r.all (R a) && zZ R r
theorem rF {R : Nat × ROper → Nat × ROper → Bool} : ∀ {l : List (Nat × ROper)}, zZ R l = true → l.Pairwise fun a b => R a b = true
 | [], _ => .nil
 | a :: r, h => by
  simp only [zZ, Bool.and_eq_true, List.all_eq_true] at h
  exact .cons h.1 (rF h.2)
inductive rJ (ops : Array Oper) : Nat → Array Bool → List Nat → Prop
 | zero (listed : Array Bool) : rJ ops 0 listed []
 | stop {n : Nat} {listed : Array Bool} (h : Region.ready .any ops listed = []) : rJ ops (n + 1) listed []
 | cons {n : Nat} {listed : Array Bool} {i : Nat} {l : List Nat} (h : i ∈ Region.ready .any ops listed) (r : rJ ops n (listed.setIfInBounds i true) l) : rJ ops (n + 1) listed (i :: l)
theorem aFl (ops : Array Oper) : ∀ (fuel t : Nat) (listed : Array Bool), rJ ops fuel listed (Region.linearise.go .any ops fuel t listed []) := by
 intro fuel
 induction fuel with
 | zero => intro t listed; simp only [Region.linearise.go]; exact .zero _
 | succ fuel ih =>
  intro t listed
  simp only [Region.linearise.go]
  change rJ ops (fuel + 1) listed (match (Region.ready .any ops listed)[t % (Region.ready .any ops listed).length]? with
   | some i => Region.linearise.go .any ops fuel (t / (Region.ready .any ops listed).length) (listed.setIfInBounds i true) [i]
   | none => [].reverse)
  cases hi : (Region.ready .any ops listed)[t % (Region.ready .any ops listed).length]? with
  | none =>
   refine .stop ?_
   cases hr : Region.ready .any ops listed with
   | nil => rfl
   | cons x xs =>
    rw [hr] at hi
    have hlt : t % (x :: xs).length < (x :: xs).length := Nat.mod_lt _ (by simp)
    simp at hi
    simp at hlt
    omega
  | some i =>
   simp only []
   rw [linearise_go_acc, List.reverse_singleton, List.singleton_append]
   exact .cons (List.mem_of_getElem? hi) (ih _ _)
theorem zW {ops : Array Oper} {listed : Array Bool} {i : Nat} (h : i ∈ Region.ready .any ops listed) : listed.getD i true = false := by
 unfold Region.ready at h
 have := (List.mem_filter.1 h).2
 simp only [Bool.and_eq_true, Bool.not_eq_true'] at this
 exact this.1
theorem rJ.aBZ {ops : Array Oper} {n : Nat} {listed : Array Bool} {l : List Nat} (x : rJ ops n listed l) : ∀ j ∈ l, listed.getD j true = false := by
 induction x with
 | zero => intro j h; cases h
 | stop => intro j h; cases h
 | @cons n listed i l h r ih =>
  intro j hj
  rcases List.mem_cons.1 hj with rfl | hj
  ·exact zW h
  ·have := ih j hj
   rw [Array.getD_eq_getD_getElem?, Array.getElem?_setIfInBounds] at this
   rw [Array.getD_eq_getD_getElem?]
   split at this
   ·split at this <;> simp at this
   ·exact this
theorem rJ.aCM {ops : Array Oper} {n : Nat} {listed : Array Bool} {i : Nat} {l : List Nat} (h : i ∈ Region.ready .any ops listed) (r : rJ ops n (listed.setIfInBounds i true) l) : i ∉ l := fun hi => by
 have h1 := r.aBZ i hi
 rw [Array.getD_eq_getD_getElem?, Array.getElem?_setIfInBounds, if_pos rfl] at h1
 split at h1
 ·simp at h1
 ·simp at h1
theorem aCO {ops : Array Oper} : ∀ (fuel : Nat) (L : List Nat) (listed : Array Bool) (l : List Nat), L.length = fuel → rJ ops fuel listed l → listed.size = ops.size →
  (∀ i ∈ L, i < ops.size ∧ ∀ d ∈ eW ops i, d < ops.size ∧ d ≠ i) → (∀ j, j < ops.size → (listed.getD j true = false ↔ j ∈ L)) →
  L.Pairwise (fun a b => a ≠ b ∧ (eW ops a).contains b = false) → ∀ i ∈ L, i ∈ l := by
 intro fuel
 induction fuel with
 | zero => intro L listed l hlen _ _ _ _ _ i hi; rw [List.eq_nil_of_length_eq_zero hlen] at hi; cases hi
 | succ fuel ih =>
  intro L listed l hlen hx hsz hL hlist hpw j hj
  cases hx with
  | stop hready =>
   exfalso
   obtain ⟨p, L', rfl⟩ : ∃ p L', L = p :: L' := by
    cases L with
    | nil => simp at hlen
    | cons p L' => exact ⟨p, L', rfl⟩
   obtain ⟨hp1, hdir⟩ := hL p (by simp)
   have hmem : p ∈ Region.ready .any ops listed := by
    unfold Region.ready
    refine List.mem_filter.2 ⟨List.mem_range.2 hp1, ?_⟩
    have h1 : listed.getD p true = false := (hlist p hp1).2 (by simp)
    have ho : ops[p]? = some ops[p] := Array.getElem?_eq_getElem hp1
    simp only [h1, Bool.not_false, Bool.true_and, ho, Option.map_some, Option.getD_some]
    rw [Array.all_eq_true']
    intro e he
    cases hb : Region.binds .any e with
    | false => rfl
    | true =>
     simp only [Bool.not_true, Bool.false_or]
     have hd1 : e.on ∈ eW ops p := by
      simp only [eW, ho]
      exact List.mem_map.2 ⟨e, List.mem_filter.2 ⟨by simpa using he, hb⟩, rfl⟩
     have hd2 := hdir _ hd1
     have hnin : e.on ∉ p :: L' := by
      intro hin
      rcases List.mem_cons.1 hin with h | h
      ·exact hd2.2 h
      ·have h3 := ((List.pairwise_cons.1 hpw).1 _ h).2
       have h4 : (eW ops p).contains e.on = true := by simpa using hd1
       rw [h4] at h3; cases h3
     have h5 := hlist e.on hd2.1
     have h6 : listed.getD e.on true = true := by
      cases hh : listed.getD e.on true with
      | true => rfl
      | false => exact absurd (h5.1 hh) hnin
     rw [Array.getD_eq_getD_getElem?, Array.getElem?_eq_getElem (by omega)] at h6 ⊢
     simpa using h6
   rw [hready] at hmem; cases hmem
  | @cons _ _ i l hi hr =>
   have hilt : i < ops.size := by unfold Region.ready at hi; exact List.mem_range.1 (List.mem_filter.1 hi).1
   have hin : i ∈ L := (hlist i hilt).1 (zW hi)
   obtain ⟨A, B, rfl⟩ := List.append_of_mem hin
   rw [List.pairwise_append] at hpw
   obtain ⟨pwA, pwB, pwAB⟩ := hpw
   have hni : ∀ q ∈ A ++ B, q ≠ i := by
    intro q hq
    rcases List.mem_append.1 hq with hq | hq
    ·exact (pwAB q hq i (by simp)).1
    ·exact Ne.symm ((List.pairwise_cons.1 pwB).1 q hq).1
   by_cases hji : j = i
   ·simp [hji]
   ·refine List.mem_cons_of_mem _ (ih (A ++ B) _ l (by simp at hlen ⊢; omega) hr (by simp [hsz]) ?_ ?_ ?_ j ?_)
    ·intro q hq
     refine hL q ?_
     rcases List.mem_append.1 hq with hq | hq <;> simp [hq]
    ·intro k hk
     have hmem : k ∈ A ++ B ↔ (k ∈ A ++ i :: B ∧ k ≠ i) := by
      constructor
      ·intro h; exact ⟨by rcases List.mem_append.1 h with h | h <;> simp [h], hni k h⟩
      ·rintro ⟨h, hne⟩
       rcases List.mem_append.1 h with h | h
       ·simp [h]
       ·rcases List.mem_cons.1 h with h | h
        ·exact absurd h hne
        ·simp [h]
     rw [hmem, ← hlist k hk]
     rw [Array.getD_eq_getD_getElem?, Array.getD_eq_getD_getElem?, Array.getElem?_setIfInBounds]
     by_cases hik : i = k
     ·subst hik
      simp [hsz, hilt]
     ·simp [hik, Ne.symm hik]
    ·rw [List.pairwise_append]
     exact ⟨pwA, (List.pairwise_cons.1 pwB).2, fun q hq r hr => pwAB q hq r (by simp [hr])⟩
    ·rcases List.mem_append.1 hj with h | h
     ·simp [h]
     ·rcases List.mem_cons.1 h with h | h
      ·exact absurd h hji
      ·simp [h]
theorem VP {a b : Nat} : ∀ {l : List Nat}, a ∈ l → b ∈ l → a ≠ b → [a, b].Sublist l ∨ [b, a].Sublist l
 | x :: l, ha, hb, ne => by
  rcases List.mem_cons.1 ha with e1 | h1
  ·subst e1
   rcases List.mem_cons.1 hb with e2 | h2
   ·exact absurd e2.symm ne
   ·exact .inl (.cons_cons _ (List.singleton_sublist.2 h2))
  ·rcases List.mem_cons.1 hb with e2 | h2
   ·subst e2; exact .inr (.cons_cons _ (List.singleton_sublist.2 h1))
   ·exact (VP h1 h2 ne).imp (.cons _) (.cons _)
def EY (ops : Array Oper) (l : List Nat) (a b : Nat × ROper) : Prop := Rel ops (Region.before ops) a b = true ∨ (a.1 ≠ b.1 ∧ (eW ops a.1).contains b.1 = false ∧ [a.1, b.1].Sublist l)
theorem EY.ne {ops : Array Oper} {l : List Nat} {a b : Nat × ROper} (h : EY ops l a b) : a.1 ≠ b.1 ∧ (eW ops a.1).contains b.1 = false := by
 rcases h with h | h
 ·simp only [Rel, Bool.and_eq_true, Bool.not_eq_true', bne_iff_ne] at h
  exact h.1
 ·exact ⟨h.1, h.2.1⟩
theorem EY.tail {ops : Array Oper} {i : Nat} {l : List Nat} {a b : Nat × ROper} (h : EY ops (i :: l) a b) (hi : a.1 ≠ i) : EY ops l a b := by
 rcases h with h | ⟨h1, h2, h3⟩
 ·exact .inl h
 ·refine .inr ⟨h1, h2, ?_⟩
  cases h3 with
  | cons _ h => exact h
  | cons_cons _ h => exact absurd rfl hi
theorem aCR [GI] {P : Program} {N : Nat} {B : List Nat} {ops : Array Oper} {K : Slots → AHeap → Prop} {Q : Exit → Act → World → Prop} : ∀ (fuel : Nat) (L : List (Nat × ROper)) (listed : Array Bool) (l : List Nat), L.length = fuel → rJ ops fuel listed l → listed.size = ops.size →
  (∀ p ∈ L, p.1 < ops.size ∧ ∃ o, ops[p.1]? = some o ∧ lI P N B ops o = some p.2 ∧ ∀ d ∈ eW ops p.1, d < ops.size ∧ d ≠ p.1) →
  (∀ j, j < ops.size → (listed.getD j true = false ↔ j ∈ L.map (·.1))) → L.Pairwise (fun a b => EY ops l a b) →
  (∀ j, j < ops.size → j ∉ L.map (·.1) → ∀ k, k < ops.size → B6 (Region.before ops) j k = true → k ∉ L.map (·.1)) →
  ∀ (H : Held) (ρ : Slots) (h : AHeap) (I : Imm) (w : World) (a : Act), tC H → D P (L.map (·.2)) H K ρ h → hF I N ρ a.tmps → Sat w I h → a.defers = DD →
   (∀ J ρ' g a' w', K ρ' g → hF J N ρ' a'.tmps → Sat w' J g → Ext h w w' → New w I J h g → a'.defers = DD → Q .normal a' w') → wpOps P ops Q l a w := by
 intro fuel
 induction fuel with
 | zero =>
  intro L listed l hlen hx hsz hL hlist hpw hcl H ρ h I w a m k s t hd fin
  have hnil : L = [] := List.eq_nil_of_length_eq_zero hlen
  subst hnil
  cases hx
  exact fin I ρ h a w k s t (.refl h w) (.refl w I h) hd
 | succ fuel ih =>
  intro L listed l hlen hx hsz hL hlist hpw hcl H ρ h I w a m k s t hd fin
  have listedOf : ∀ j, j < ops.size → j ∉ L.map (·.1) → listed.getD j false = true := by
   intro j hj hn
   have h1 := hlist j hj
   have h2 : listed.getD j true = true := by
    cases hh : listed.getD j true with
    | true => rfl
    | false => exact absurd (h1.1 hh) hn
   rw [Array.getD_eq_getD_getElem?, Array.getElem?_eq_getElem (by omega)] at h2 ⊢
   simpa using h2
  have notIn : ∀ j, listed.getD j false = true → j < ops.size ∧ j ∉ L.map (·.1) := by
   intro j hj
   have hlt : j < listed.size := by
    rcases Nat.lt_or_ge j listed.size with h' | h'
    ·exact h'
    ·rw [Array.getD_eq_getD_getElem?, Array.getElem?_eq_none h'] at hj; simp at hj
   refine ⟨by omega, fun hin => ?_⟩
   have h1 := (hlist j (by omega)).2 hin
   rw [Array.getD_eq_getD_getElem?, Array.getElem?_eq_getElem hlt] at h1 hj
   simp at h1 hj
   rw [h1] at hj; cases hj
  cases hx with
  | stop hready =>
   exfalso
   obtain ⟨p, L', rfl⟩ : ∃ p L', L = p :: L' := by
    cases L with
    | nil => simp at hlen
    | cons p L' => exact ⟨p, L', rfl⟩
   obtain ⟨hp1, o, ho, hro, hdir⟩ := hL p (by simp)
   have hmem : p.1 ∈ Region.ready .any ops listed := by
    unfold Region.ready
    refine List.mem_filter.2 ⟨List.mem_range.2 hp1, ?_⟩
    have h1 : listed.getD p.1 true = false := (hlist p.1 hp1).2 (by simp)
    simp only [h1, Bool.not_false, Bool.true_and, ho, Option.map_some, Option.getD_some]
    rw [Array.all_eq_true']
    intro e he
    cases hb : Region.binds .any e with
    | false => rfl
    | true =>
     simp only [Bool.not_true, Bool.false_or]
     have hd1 : e.on ∈ eW ops p.1 := by
      simp only [eW, ho]
      exact List.mem_map.2 ⟨e, List.mem_filter.2 ⟨by simpa using he, hb⟩, rfl⟩
     refine listedOf e.on (hdir _ hd1).1 ?_
     intro hin
     obtain ⟨b, hb1, hb2⟩ := List.mem_map.1 hin
     rcases List.mem_cons.1 hb1 with rfl | hb1
     ·-- an operation behind itself
      exact (hdir _ hd1).2 hb2.symm
     ·have h2 := (List.pairwise_cons.1 hpw).1 b hb1
      have h3 := h2.ne.2
      rw [hb2] at h3
      have h4 : (eW ops p.1).contains e.on = true := by simpa using hd1
      rw [h4] at h3; cases h3
   rw [hready] at hmem; cases hmem
  | @cons _ _ i l hi hr =>
   have hnl := rJ.aCM hi hr
   rw [wpOps_cons]
   unfold Region.ready at hi
   obtain ⟨hi1, hi2⟩ := List.mem_filter.1 hi
   have hilt : i < ops.size := List.mem_range.1 hi1
   simp only [Bool.and_eq_true, Bool.not_eq_true'] at hi2
   have hin : i ∈ L.map (·.1) := (hlist i hilt).1 hi2.1
   obtain ⟨p, hp, hpi⟩ := List.mem_map.1 hin
   obtain ⟨A, B, hAB⟩ := List.append_of_mem hp
   subst hAB
   obtain ⟨i', x⟩ := p
   simp only at hpi
   subst hpi
   obtain ⟨_, o, ho, hro, hdir⟩ := hL (i', x) hp
   have hedges : ∀ d ∈ eW ops i', listed.getD d false = true := by
    intro d hdd
    simp only [eW, ho] at hdd
    obtain ⟨e, he, rfl⟩ := List.mem_map.1 hdd
    obtain ⟨he1, he2⟩ := List.mem_filter.1 he
    have h3 := hi2.2
    simp only [ho, Option.map_some, Option.getD_some] at h3
    rw [Array.all_eq_true'] at h3
    have h4 := h3 e (by simpa using he1)
    simpa [he2] using h4
   have hbits : ∀ k, k < ops.size → B6 (Region.before ops) i' k = true → k ∉ (A ++ (i', x) :: B).map (·.1) := by
    intro k hk hb
    obtain ⟨d, hd1, hd2⟩ := U0 ops hb
    obtain ⟨h1, h2⟩ := notIn d (hedges d hd1)
    rcases hd2 with rfl | hd2
    ·exact h2
    ·exact hcl d h1 h2 k hk hd2
   rw [List.pairwise_append] at hpw
   obtain ⟨pwA, pwB, pwAB⟩ := hpw
   have hal : ∀ a ∈ A.map (·.2), allowed a x = true := by
    intro a ha
    obtain ⟨q, hq, rfl⟩ := List.mem_map.1 ha
    have hr2 := pwAB q hq (i', x) (by simp)
    rcases hr2 with hr2 | ⟨hr2, _, hr3⟩
    ·simp only [Rel, Bool.and_eq_true, Bool.or_eq_true] at hr2
     rcases hr2.2 with hb | hb
     ·exact absurd (List.mem_map.2 ⟨q, by simp [hq], rfl⟩) (hbits q.1 (hL q (by simp [hq])).1 hb)
     ·exact hb
    ·exfalso
     cases hr3 with
     | cons _ h => exact hnl (h.subset (by simp))
     | cons_cons _ h => exact hr2 rfl
   simp only [List.map_append, List.map_cons] at k
   have k2 := move (A.map (·.2)) m hal k
   rw [← List.map_append] at k2
   refine aFx m ho hro s t hd k2 _ ?_
   intro H' ρ' h' J a' w' m' k' s' t' ex n d'
   have hni : ∀ q ∈ A ++ B, q.1 ≠ i' := by
    intro q hq
    rcases List.mem_append.1 hq with hq | hq
    ·exact (pwAB q hq (i', x) (by simp)).ne.1
    ·exact Ne.symm ((List.pairwise_cons.1 pwB).1 q hq).ne.1
   have hmem : ∀ j, j ∈ (A ++ B).map (·.1) ↔ (j ∈ (A ++ (i', x) :: B).map (·.1) ∧ j ≠ i') := by
    intro j
    simp only [List.mem_map, List.mem_append, List.mem_cons]
    constructor
    ·rintro ⟨q, hq, rfl⟩
     exact ⟨⟨q, by rcases hq with hq | hq <;> simp [hq], rfl⟩, hni q (List.mem_append.2 hq)⟩
    ·rintro ⟨⟨q, hq, rfl⟩, hne⟩
     rcases hq with hq | rfl | hq
     ·exact ⟨q, .inl hq, rfl⟩
     ·exact absurd rfl hne
     ·exact ⟨q, .inr hq, rfl⟩
   refine ih (A ++ B) (listed.setIfInBounds i' true) l (by simp at hlen ⊢; omega) hr (by simp [hsz]) ?_ ?_ ?_ ?_ H' ρ' h' J w' a' m' k' s' t' d' ?_
   ·intro q hq
    refine hL q ?_
    rcases List.mem_append.1 hq with hq | hq <;> simp [hq]
   ·intro j hj
    rw [hmem j, ← hlist j hj]
    rw [Array.getD_eq_getD_getElem?, Array.getD_eq_getD_getElem?, Array.getElem?_setIfInBounds]
    by_cases hij : i' = j
    ·subst hij
     simp [hsz, hilt]
    ·simp [hij, Ne.symm hij]
   ·rw [List.pairwise_append]
    refine ⟨pwA.imp_of_mem fun {x y} hx hy h => h.tail (hni x (by simp [hx])), (List.pairwise_cons.1 pwB).2.imp_of_mem fun {x y} hx hy h => h.tail (hni x (by simp [hx])), fun q hq r hr => (pwAB q hq r (by simp [hr])).tail (hni q (by simp [hq]))⟩
   ·intro j hj hjn kk hkk hb hkin
    have hk2 := (hmem kk).1 hkin
    by_cases hji : j = i'
    ·subst hji; exact hbits kk hkk hb hk2.1
    ·have : j ∉ (A ++ (i', x) :: B).map (·.1) := fun hh => hjn ((hmem j).2 ⟨hh, hji⟩)
     exact hcl j hj this kk hkk hb hk2.1
   ·intro J2 ρ2 g2 a2 w2 kk s2 t2 ex2 n2 d2
    exact fin J2 ρ2 g2 a2 w2 kk s2 t2 (ex.trans n ex2) (n.trans ex n2) d2
end Pg
