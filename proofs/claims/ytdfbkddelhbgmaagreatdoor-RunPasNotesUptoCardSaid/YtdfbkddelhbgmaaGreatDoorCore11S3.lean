import Derived.Test.YtdfbkddelhbgmaaGreatDoorCore15S3
import Derived.Scope
set_option linter.all false
namespace Pg
open Go
variable {DD : List Deferred}
def ME [GI] (DD : List Deferred) (N : Nat) (I : Imm) (w : World) (h : AHeap) (Q : Exit → Env → AHeap → Prop) : Exit → Act → World → Prop :=
 fun x a' w' => ∃ J e' g, Q x e' g ∧ dC J N e' a'.tmps ∧ Sat w' J g ∧ Ext h w w' ∧ New w I J h g ∧ a'.defers = DD
theorem T5 {I : Imm} {N : Nat} {e : Env} {tmps : Array Value} (s : dC I N e tmps) {ops : Array Oper} {j slot : Nat} {b : Bool} (hj : (ops[j]?).bind (·.dst) = some slot) (hb : e.get slot = .bool b) : yielded ops tmps j = some b := by
 have h1 := s.at_ slot
 rw [hb] at h1
 have h2 := h1.nG
 have h3 : tmps[slot]? = some (.bool b) := by
  simp only [Array.getD_eq_getD_getElem?] at h2
  cases hx : tmps[slot]? with
  | none => rw [hx] at h2; simp [undef] at h2
  | some v => rw [hx] at h2; simp at h2; rw [h2]
 simp only [yielded, hj, Option.bind_some, h3]
theorem FV {I : Imm} {N : Nat} {e : Env} {tmps : Array Value} (s : dC I N e tmps) {ops : Array Oper} {j slot : Nat} (hj : (ops[j]?).bind (·.dst) = some slot) (hb : e.get slot = .tuple []) : yielded ops tmps j = none := by
 have h1 := s.at_ slot
 rw [hb] at h1
 obtain ⟨vs, h2, r⟩ := h1.uR
 have := r.of_nil
 subst this
 simp only [Array.getD_eq_getD_getElem?] at h2
 cases hx : tmps[slot]? with
 | none => simp only [yielded, hj, Option.bind_some, hx]
 | some v => rw [hx] at h2; simp at h2; subst h2; simp only [yielded, hj, Option.bind_some, hx]
theorem tM [GI] {P : Program} {N : Nat} {B : List Nat} {ops : Array Oper} {Q : Exit → Act → World → Prop} {i : Nat} {l : List Nat} {o : Oper} {x : ROper} (ho : ops[i]? = some o) (hx : lI P N B ops o = some x) {K : Env → AHeap → Prop} (I : Imm) (w : World) (a : Act) (e : Env) (h : AHeap)
  (s : dC I N e a.tmps) (t : Sat w I h) (hd : a.defers = DD) (k : iN P [x] K e h)
  (H : ∀ J e' g a' w', K e' g → dC J N e' a'.tmps → Sat w' J g → Ext h w w' → New w I J h g → a'.defers = DD → wpOps P ops Q l a' w') : wpOps P ops Q (i :: l) a w := by
 unfold lI at hx
 split at hx
 ·rename_i hbound
  have hdst : ∀ t, o.dst = some t → t < N := by
   intro t ht; rw [ht] at hbound; simpa using hbound
  have run : ∀ (r : ROp), tJ P B o = some r → aop P (fun av g => K (e.put o.dst av) g) e h r → o.wp P a w (wpOps P ops Q l) Q := by
   intro r hr hk
   have hs := aAG hr
   have next : ∀ v J w' av g, K (e.put o.dst av) g → Rd J av v → Sat w' J g → Ext h w w' → New w I J h g → wpOps P ops Q l (a.put o.dst v) w' := by
    intro v J w' av g hk rd s' ex n
    exact H J _ g _ w' hk ((s.mono n.imm).put hdst rd) s' ex n (by rw [put_defers, hd])
   cases r with
   | rd r =>
    simp only [aop] at hk
    cases hav : bS (ev e) h r with
    | none => simp [hav, dJ] at hk
    | some av =>
     simp only [hav, dJ] at hk
     obtain ⟨v, J, w', q1, q2, q3, q4, q5⟩ := hs I w h a (ev e) av s.val t hav
     unfold Oper.wp
     rw [q1, Oper.upon_value]
     exact next v J w' av h hk q2 q3 q4 q5
   | ef r =>
    simp only [aop] at hk
    exact hs I w h a (ev e) _ s.val t hk _ Q next
  split at hx
  ·rename_i r hrop hg
   simp only [Option.some.injEq] at hx; subst hx
   simp only [iN] at k
   simp only [wpOps, ho]
   have hw : Region.wanted o (yielded ops a.tmps) = true := by simp [Region.wanted, hg]
   rw [if_pos hw]
   exact .inl (run r hrop k)
  ·rename_i r j want hrop hg
   split at hx
   ·rename_i slot hslot
    simp only [Option.some.injEq] at hx; subst hx
    simp only [iN] at k
    unfold uW at k
    split at k
    ·rename_i b hb
     have hy := T5 s hslot hb
     simp only [wpOps, ho]
     split at k
     ·rename_i hbw
      have hw : Region.wanted o (yielded ops a.tmps) = true := by simp [Region.wanted, hg, hy, hbw]
      rw [if_pos hw]
      exact .inl (run r hrop k)
     ·rename_i hbw
      have hw : ¬ Region.wanted o (yielded ops a.tmps) = true := by simp [Region.wanted, hg, hy, hbw]
      rw [if_neg hw]
      exact H I _ h _ w k (s.put hdst (xE I)) t (.refl h w) (.refl w I h) (by rw [put_defers, hd])
    ·rename_i hb
     have hy := FV s hslot hb
     simp only [wpOps, ho]
     have hw : ¬ Region.wanted o (yielded ops a.tmps) = true := by simp [Region.wanted, hg, hy]
     rw [if_neg hw]
     exact H I _ h _ w k (s.put hdst (xE I)) t (.refl h w) (.refl w I h) (by rw [put_defers, hd])
    ·exact k.elim
   ·cases hx
  ·cases hx
 ·cases hx
theorem yX [GI] {P : Program} (x : ROper) (l : List ROper) (K : Env → AHeap → Prop) (e : Env) (h : AHeap) : iN P (x :: l) K e h = iN P [x] (fun e h => iN P l K e h) e h := by
 obtain ⟨d, op, g⟩ := x
 cases g with
 | none => rfl
 | some p => rfl
theorem L8 [GI] {w : World} {I : Imm} {h : AHeap} (s : Sat w I h) {b total : Nat} {ty : TypeId} {cs : List AV} (hb : h b = some (.blk cs total ty)) : ∃ J, New w I J h (h.del b) ∧ Sat w J (h.del b) ∧ Rd J (.ip cs 0) (.pointer (some ⟨b, 0, none⟩)) := by
 obtain ⟨vs, g1, g2, g3, g4, g5⟩ := s.obj _ _ hb
 let J : Imm := fun c o => if c = b then (vs.take cs.length)[o]? else I c o
 have hIJ : I.le J := by
  intro c o v hv
  have := s.dis c o v hv
  simp only [J]
  rw [if_neg]
  ·exact hv
  ·intro hh; subst hh; rw [hb] at this; exact this
 have hcell : ∀ (o : Nat) (v : Value), (vs.take cs.length)[o]? = some v → w.cell? ⟨b, o, none⟩ = some v := by
  intro o v hv
  rw [List.getElem?_take] at hv
  split at hv
  ·simp only [World.cell?, g1]; simpa using hv
  ·cases hv
 have hdel : (h.del b).le h := fun c o e => by
  by_cases hc : c = b
  ·subst hc; rw [oM] at e; cases e
  ·rwa [pT _ _ hc] at e
 refine ⟨J, ⟨hIJ, ?_, ?_⟩, ⟨Imm.le_trans s.pD hIJ, ?_, ?_, ?_⟩, ?_⟩
 ·intro c o hc
  exact .inl (by rw [hdel c o hc]; simp)
 ·intro c o v hc
  simp only [J] at hc
  split at hc
  ·rename_i hcb; subst hcb; exact .inr (.inl (by rw [hb]; simp))
  ·exact .inl hc
 ·intro c o hc
  exact (s.obj c o (hdel c o hc)).mono hIJ rfl
 ·intro c o v hc
  simp only [J] at hc
  split at hc
  ·rename_i hcb; subst hcb; exact hcell o v hc
  ·exact s.imm c o v hc
 ·intro c o v hc
  simp only [J] at hc
  split at hc
  ·rename_i hcb; subst hcb; rw [oM]; trivial
  ·rename_i hcb
   rw [pT _ _ hcb]; exact s.dis c o v hc
 ·have := Rd.J0 (I := J) (b := b) (o := 0) 0 (fun j u hu => by simp only [J, if_true, Nat.zero_add]; exact hu) (g4.mono hIJ) g5
  simpa using this
def YW (d : Nat) : Operand → Bool
 | .tmp t => t == d
 | _ => false
def KG (P : Program) (N : Nat) (F : List Nat) (ops : Array Oper) (i j : Nat) : Option (Oper × Oper × ROper × ROper × ROper) :=
 match ops[i]?, ops[j]? with
 | some o1, some o2 => match o1.op, o1.dst, o1.guard, o2.op, o2.dst, o2.guard with
  | .alloc ty, some d, none, .store ty2 (.tmp d2) v, none, none =>
   match P2 P ty, P.info? ty2, bF v with
   | some (.alloc ty3 zs), some i2, some rv =>
    if F.contains d = true ∧ d = d2 ∧ YW d v = false ∧ d < N ∧ zs.length = i2.size ∧ ty3 = ty then some (o1, o2, ⟨some d, .ef (.alloc ty zs), none⟩, ⟨none, .ef (.store i2.size (.t d) rv), none⟩, ⟨some d, .rd (.bx (some i2.size) rv), none⟩) else none
   | _, _, _ => none
  | _, _, _, _, _, _ => none
 | _, _ => none
def QO (P : Program) (N : Nat) (B F : List Nat) (ops : Array Oper) (i m j : Nat) : Option (Oper × Option Nat × RRead × (Oper × Oper × ROper × ROper × ROper)) :=
 match KG P N F ops i j, ops[m]? with
 | some y, some o => match lI P N B ops o, y.2.2.2.2.dst with
  | some ⟨dm, .rd r, none⟩, some d => if dm ≠ some d ∧ d ∉ slotsOf r.pC then some (o, dm, r, y) else none
  | _, _ => none
 | _, _ => none
def nV (P : Program) (N : Nat) (B F : List Nat) (ops : Array Oper) : Nat → List Nat → Option (List ROper)
  | 0, _ => none
  | _, [] => some []
  | n + 1, i :: l =>
    match (match l with | j :: _ => KG P N F ops i j | [] => none) with
    | some y => (nV P N B F ops n l.tail).map (y.2.2.2.2 :: ·)
    | none => match (match l with | m :: j :: _ => QO P N B F ops i m j | _ => none) with
     | some y => (nV P N B F ops n l.tail.tail).map (⟨y.2.1, .rd y.2.2.1, none⟩ :: y.2.2.2.2.2.2.2 :: ·)
     | none => match ops[i]? with
      | some o => match lI P N B ops o, nV P N B F ops n l with | some x, some l => some (x :: l) | _, _ => none
      | none => none
theorem YZ [GI] {P : Program} {N : Nat} {F : List Nat} {ops : Array Oper} {Q : Exit → Act → World → Prop} {i j : Nat} {l : List Nat} {y : Oper × Oper × ROper × ROper × ROper} (hy : KG P N F ops i j = some y) {K : Env → AHeap → Prop} (I : Imm) (w : World) (a : Act) (e : Env) (h : AHeap)
  (s : dC I N e a.tmps) (t : Sat w I h) (hd : a.defers = DD) (k : iN P [y.2.2.2.2] K e h)
  (H : ∀ J e' g a' w', K e' g → dC J N e' a'.tmps → Sat w' J g → Ext h w w' → New w I J h g → a'.defers = DD → wpOps P ops Q l a' w') : wpOps P ops Q (i :: j :: l) a w := by
 unfold KG at hy
 split at hy
 ·rename_i o1 o2 ho1 ho2
  split at hy
  ·rename_i ty d ty2 d2 v e1 e2 e3 e4 e5 e6
   split at hy
   ·rename_i ty3 zs i2 rv q1 q2 q3
    split at hy
    ·rename_i hc
     obtain ⟨c1, rfl, c3, c4, c5, rfl⟩ := hc
     simp only [Option.some.injEq] at hy; subst hy
     simp only [iN, aop, bS] at k
     have hx1 : lI P N [] ops o1 = some ⟨some d, .ef (.alloc ty3 zs), none⟩ := by
      unfold lI
      rw [if_pos (by rw [e2]; simpa using c4)]
      have : tJ P [] o1 = some (.ef (.alloc ty3 zs)) := by
       unfold tJ; rw [e1]; simp only [rop, q1, Option.map_some]
      rw [this, e3, e2]
     have hx2 : lI P N [] ops o2 = some ⟨none, .ef (.store i2.size (.t d) rv), none⟩ := by
      unfold lI
      rw [if_pos (by rw [e5]; rfl)]
      have : tJ P [] o2 = some (.ef (.store i2.size (.t d) rv)) := by
       have hd' : bF (.tmp d) = some (.t d) := rfl
       unfold tJ; rw [e4]; simp only [rop, hd', q3, q2]
      rw [this, e6, e5]
     cases hcl : (ev e rv).cells? with
     | none => simp [abx, hcl, dJ] at k
     | some ds =>
      simp only [abx, hcl] at k
      split at k
      case isFalse => exact k.elim
      rename_i hlen
      simp only [dJ] at k
      have hrv : ∀ av, ev (e.put (some d) av) rv = ev e rv := by
       intro av
       cases v with
       | tmp tt =>
        simp only [bF, Option.some.injEq] at q3; subst q3
        simp only [YW, beq_eq_false_iff_ne] at c3
        simp only [ev, Env.put, Env.get]
        rw [if_neg (fun hh => c3 hh.symm)]
       | const c => simp only [bF, Option.map_eq_some_iff] at q3; obtain ⟨x, _, rfl⟩ := q3; rfl
       | global g => simp only [bF, Option.some.injEq] at q3; subst q3; rfl
       | func f => simp only [bF, Option.some.injEq] at q3; subst q3; rfl
      refine tM (K := fun e1 g1 => ∃ b, h b = none ∧ e1 = e.put (some d) (.ptr (some ⟨b, 0, none⟩)) ∧ g1 = h.upd b (.blk zs zs.length ty3)) ho1 hx1 I w a e h s t hd ?_ ?_
      ·simp only [iN, aop, eY, iY]
       exact fun b hb => ⟨b, hb, rfl, rfl⟩
      ·rintro J1 _ _ a1 w1 ⟨b, hb, rfl, rfl⟩ s1 t1 x1 n1 d1
       refine tM (K := fun e2 g2 => e2 = e.put (some d) (.ptr (some ⟨b, 0, none⟩)) ∧ g2 = h.upd b (.blk ds ds.length ty3)) ho2 hx2 J1 w1 a1 _ _ s1 t1 d1 ?_ ?_
       ·simp only [iN, aop, eY, hrv]
        have hg : ev (e.put (some d) (.ptr (some ⟨b, 0, none⟩))) (.t d) = .ptr (some ⟨b, 0, none⟩) := by simp [ev, Env.put, Env.get]
        rw [hg]
        simp only [mB, hcl, aA]
        rw [if_pos ⟨hlen, by omega⟩]
        simp only [sH, Env.put]
        refine ⟨trivial, ?_⟩
        have hsp : bM zs 0 ds = ds := by simp [bM]; omega
        rw [hsp, aB, c5, hlen]
       ·rintro J2 _ _ a2 w2 ⟨rfl, rfl⟩ s2 t2 x2 n2 d2
        obtain ⟨J3, n3, t3, r3⟩ := L8 t2 (aA h b (.blk ds ds.length ty3))
        rw [fE _ _ _ hb] at n3 t3
        refine H J3 _ h a2 w2 k ?_ t3 ((x1.trans n1 x2).trans (n1.trans x1 n2) (.refl _ _)) ((n1.trans x1 n2).trans (x1.trans n1 x2) n3) d2
        refine ⟨s2.size, fun u => ?_⟩
        have hu := s2.at_ u
        simp only [Env.put, Env.get] at hu ⊢
        split
        ·rename_i hh; rw [if_pos hh] at hu
         rw [hu.gL]; exact r3
        ·rename_i hh; rw [if_neg hh] at hu; exact hu.mono n3.imm
    ·cases hy
   ·cases hy
  ·cases hy
 ·cases hy
theorem XA {e : Env} {d : Nat} {u : AV} {xs : List aV} (h : d ∉ slotsOf xs) : ∀ x ∈ xs, Slots.val (Slots.put e.get (some d) u) x = Slots.val e.get x := by
 intro x hx
 cases x with
 | c v => rfl
 | t n =>
  simp only [Slots.val, Slots.put]
  rw [if_neg]
  intro hh; subst hh
  exact h (List.mem_flatMap.2 ⟨.t n, hx, by simp [aV.slots]⟩)
theorem UT [GI] {P : Program} {N : Nat} {B F : List Nat} {ops : Array Oper} {Q : Exit → Act → World → Prop} {i m j : Nat} {l : List Nat} {y3 : Oper × Option Nat × RRead × (Oper × Oper × ROper × ROper × ROper)} (hy3 : QO P N B F ops i m j = some y3) {K : Env → AHeap → Prop} (I : Imm) (w : World) (a : Act) (e : Env) (h : AHeap)
  (s : dC I N e a.tmps) (t : Sat w I h) (hd : a.defers = DD) (k : iN P [⟨y3.2.1, .rd y3.2.2.1, none⟩, y3.2.2.2.2.2.2.2] K e h)
  (H : ∀ J e' g a' w', K e' g → dC J N e' a'.tmps → Sat w' J g → Ext h w w' → New w I J h g → a'.defers = DD → wpOps P ops Q l a' w') : wpOps P ops Q (i :: m :: j :: l) a w := by
 unfold QO at hy3
 split at hy3
 case h_2 => cases hy3
 rename_i y om hy hom
 split at hy3
 case h_2 => cases hy3
 rename_i dm r d0 hro hyd
 split at hy3
 case isFalse => cases hy3
 rename_i hcond
 obtain ⟨hdm, hsl⟩ := hcond
 simp only [Option.some.injEq] at hy3; subst hy3
 unfold KG at hy
 split at hy
 ·rename_i o1 o2 ho1 ho2
  split at hy
  ·rename_i ty d ty2 d2 v e1 e2 e3 e4 e5 e6
   split at hy
   ·rename_i ty3 zs i2 rv q1 q2 q3
    split at hy
    ·rename_i hc
     obtain ⟨c1, rfl, c3, c4, c5, rfl⟩ := hc
     simp only [Option.some.injEq] at hy; subst hy
     simp only [Option.some.injEq] at hyd; subst hyd
     simp only [iN, aop] at k
     cases hrd : bS (ev e) h r with
     | none => simp [hrd, dJ] at k
     | some av =>
     rw [hrd, UM] at k
     simp only [bS] at k
     have hx1 : lI P N [] ops o1 = some ⟨some d, .ef (.alloc ty3 zs), none⟩ := by
      unfold lI
      rw [if_pos (by rw [e2]; simpa using c4)]
      have : tJ P [] o1 = some (.ef (.alloc ty3 zs)) := by
       unfold tJ; rw [e1]; simp only [rop, q1, Option.map_some]
      rw [this, e3, e2]
     have hx2 : lI P N [] ops o2 = some ⟨none, .ef (.store i2.size (.t d) rv), none⟩ := by
      unfold lI
      rw [if_pos (by rw [e5]; rfl)]
      have : tJ P [] o2 = some (.ef (.store i2.size (.t d) rv)) := by
       have hd' : bF (.tmp d) = some (.t d) := rfl
       unfold tJ; rw [e4]; simp only [rop, hd', q3, q2]
      rw [this, e6, e5]
     cases hcl : (ev (e.put dm av) rv).cells? with
     | none => simp [abx, hcl, dJ] at k
     | some ds =>
      simp only [abx, hcl] at k
      split at k
      case isFalse => exact k.elim
      rename_i hlen
      simp only [dJ] at k
      have hrv : ∀ u, ev ((e.put (some d) u).put dm av) rv = ev (e.put dm av) rv := by
       intro u
       cases v with
       | tmp tt =>
        simp only [bF, Option.some.injEq] at q3; subst q3
        simp only [YW, beq_eq_false_iff_ne] at c3
        simp only [ev]
        cases dm with
        | none => simp only [Env.put, Env.get]; rw [if_neg (fun hh => c3 hh.symm)]
        | some dm =>
         simp only [Env.put, Env.get]
         by_cases hdt : dm = tt
         ·rw [if_pos hdt, if_pos hdt]
         ·rw [if_neg hdt, if_neg hdt, if_neg (fun hh => c3 hh.symm)]
       | const c => simp only [bF, Option.map_eq_some_iff] at q3; obtain ⟨x, _, rfl⟩ := q3; rfl
       | global g => simp only [bF, Option.some.injEq] at q3; subst q3; rfl
       | func f => simp only [bF, Option.some.injEq] at q3; subst q3; rfl
      refine tM (K := fun e1 g1 => ∃ b, h b = none ∧ e1 = e.put (some d) (.ptr (some ⟨b, 0, none⟩)) ∧ g1 = h.upd b (.blk zs zs.length ty3)) ho1 hx1 I w a e h s t hd ?_ ?_
      ·simp only [iN, aop, eY, iY]
       exact fun b hb => ⟨b, hb, rfl, rfl⟩
      ·rintro J1 _ _ a1 w1 ⟨b, hb, rfl, rfl⟩ s1 t1 x1 n1 d1
       refine tM (K := fun e2 g2 => e2 = (e.put (some d) (.ptr (some ⟨b, 0, none⟩))).put dm av ∧ g2 = h.upd b (.blk zs zs.length ty3)) hom hro J1 w1 a1 _ _ s1 t1 d1 ?_ ?_
       ·simp only [iN, aop]
        have hcg : bS (ev (e.put (some d) (.ptr (some ⟨b, 0, none⟩)))) (h.upd b (.blk zs zs.length ty3)) r = some av := by
         refine CA (AHeap.b8 hb) ?_
         rw [← hrd]
         refine nH (fun x hx => ?_) h
         rw [KN, KN, z7]
         exact XA hsl x hx
        rw [hcg]; simp only [dJ]; exact ⟨trivial, trivial⟩
       rintro Jm _ _ am wm ⟨rfl, rfl⟩ sm tm xm nm dm'
       refine tM (K := fun e2 g2 => e2 = (e.put (some d) (.ptr (some ⟨b, 0, none⟩))).put dm av ∧ g2 = h.upd b (.blk ds ds.length ty3)) ho2 hx2 Jm wm am _ _ sm tm dm' ?_ ?_
       ·simp only [iN, aop, eY, hrv]
        have hg : ev ((e.put (some d) (.ptr (some ⟨b, 0, none⟩))).put dm av) (.t d) = .ptr (some ⟨b, 0, none⟩) := by
         cases dm with
         | none => simp [ev, Env.put, Env.get]
         | some dm =>
          have : dm ≠ d := fun hh => hdm (by rw [hh])
          simp [ev, Env.put, Env.get, this]
        rw [hg]
        simp only [mB, hcl, aA]
        rw [if_pos ⟨hlen, by omega⟩]
        simp only [sH]
        refine ⟨rfl, ?_⟩
        have hsp : bM zs 0 ds = ds := by simp [bM]; omega
        rw [hsp, aB, c5, hlen]
       ·rintro J2 _ _ a2 w2 ⟨rfl, rfl⟩ s2 t2 x2 n2 d2
        obtain ⟨J3, n3, t3, r3⟩ := L8 t2 (aA h b (.blk ds ds.length ty3))
        rw [fE _ _ _ hb] at n3 t3
        refine H J3 _ h a2 w2 k ?_ t3 (((x1.trans n1 xm).trans (n1.trans x1 nm) x2).trans ((n1.trans x1 nm).trans (x1.trans n1 xm) n2) (.refl _ _)) (((n1.trans x1 nm).trans (x1.trans n1 xm) n2).trans ((x1.trans n1 xm).trans (n1.trans x1 nm) x2) n3) d2
        refine ⟨s2.size, fun u => ?_⟩
        have hu := s2.at_ u
        cases dm with
        | none =>
         simp only [Env.put, Env.get] at hu ⊢
         split
         ·rename_i hh; rw [if_pos hh] at hu
          rw [hu.gL]; exact r3
         ·rename_i hh; rw [if_neg hh] at hu; exact hu.mono n3.imm
        | some dm =>
         have hne : dm ≠ d := fun hh => hdm (by rw [hh])
         simp only [Env.put, Env.get] at hu ⊢
         by_cases hh : d = u
         ·rw [if_pos hh]
          rw [if_neg (fun h2 => hne (h2.trans hh.symm)), if_pos hh] at hu
          rw [hu.gL]; exact r3
         ·rw [if_neg hh]
          rw [if_neg hh] at hu
          exact hu.mono n3.imm
    ·cases hy
   ·cases hy
  ·cases hy
 ·cases hy
theorem P6 {o : Option AV} {K K' : AV → Prop} (m : ∀ v, K v → K' v) (k : dJ o K) : dJ o K' := by cases o with | none => exact k | some v => exact m v k
theorem vL [GI] {P : Program} {N : Nat} {B F : List Nat} {ops : Array Oper} {K : Env → AHeap → Prop} {Q : Exit → Act → World → Prop} : ∀ (n : Nat) (l : List Nat) (rs : List ROper), nV P N B F ops n l = some rs →
  ∀ (I : Imm) (w : World) (a : Act) (e : Env) (h : AHeap), dC I N e a.tmps → Sat w I h → a.defers = DD → iN P rs K e h →
   (∀ J e' g a' w', K e' g → dC J N e' a'.tmps → Sat w' J g → Ext h w w' → New w I J h g → a'.defers = DD → Q .normal a' w') → wpOps P ops Q l a w
 | 0, l, rs, hr, I, w, a, e, h, s, t, hd, k, H => by cases l <;> simp [nV] at hr
 | n + 1, [], rs, hr, I, w, a, e, h, s, t, hd, k, H => by
  simp only [nV, Option.some.injEq] at hr; subst hr
  exact H I e h a w k s t (.refl h w) (.refl w I h) hd
 | n + 1, i :: l, rs, hr, I, w, a, e, h, s, t, hd, k, H => by
  simp only [nV] at hr
  split at hr
  ·rename_i y hy
   cases l with
   | nil => cases hy
   | cons j l =>
    simp only [Option.map_eq_some_iff, List.tail_cons] at hr hy
    obtain ⟨rs', hrs, rfl⟩ := hr
    rw [yX] at k
    refine YZ hy I w a e h s t hd k ?_
    intro J e' g a' w' k' s' t' x' n' d'
    refine vL n l rs' hrs J w' a' e' g s' t' d' k' ?_
    intro J2 e2 g2 a2 w2 k2 s2 t2 ex2 n2 d2
    exact H J2 e2 g2 a2 w2 k2 s2 t2 (x'.trans n' ex2) (n'.trans x' n2) d2
  ·split at hr
   ·rename_i y3 hy3
    match l, hy3, hr with
    | m :: j :: l, hy3, hr =>
     simp only [Option.map_eq_some_iff, List.tail_cons] at hr
     obtain ⟨rs', hrs, rfl⟩ := hr
     have k2 : iN P [⟨y3.2.1, .rd y3.2.2.1, none⟩, y3.2.2.2.2.2.2.2] (fun e h => iN P rs' K e h) e h := by
      simp only [iN, aop] at k ⊢
      refine P6 (fun v q => ?_) k
      rw [yX] at q; exact q
     refine UT hy3 I w a e h s t hd k2 ?_
     intro J e' g a' w' k' s' t' x' n' d'
     refine vL n l rs' hrs J w' a' e' g s' t' d' k' ?_
     intro J2 e2 g2 a2 w2 k2 s2 t2 ex2 n2 d2
     exact H J2 e2 g2 a2 w2 k2 s2 t2 (x'.trans n' ex2) (n'.trans x' n2) d2
    | [], hy3, hr => cases hy3
    | [_], hy3, hr => cases hy3
   ·cases ho : ops[i]? with
   | none => simp [ho] at hr
   | some o =>
    simp only [ho] at hr
    split at hr
    ·rename_i x l' hx hl
     simp only [Option.some.injEq] at hr; subst hr
     rw [yX] at k
     refine tM ho hx I w a e h s t hd k ?_
     intro J e' g a' w' k' s' t' x' n' d'
     refine vL n l l' hl J w' a' e' g s' t' d' k' ?_
     intro J2 e2 g2 a2 w2 k2 s2 t2 ex2 n2 d2
     exact H J2 e2 g2 a2 w2 k2 s2 t2 (x'.trans n' ex2) (n'.trans x' n2) d2
    ·cases hr
def aEk (P : Program) (B : List Nat) (ops : Array Oper) (left : List Nat) : Option Nat :=
 let ready := left.filter fun i => (eW ops i).all fun d => !left.contains d
 let kind : Nat → Nat := fun i => match ops[i]? with
  | some o => match o.op with
   | .alloc _ | .makeMap _ _ => 2
   | .box _ _ => if (match o.dst with | some d => B.contains d | none => false) then 0 else 2
   | .buildSlice _ _ _ => if (match o.dst with | some d => B.contains d | none => false) then 2 else 0
   | .store _ _ _ | .mapUpdate _ _ _ _ | .insert _ _ _ _ | .makeSlice _ _ _ | .defer _ => 1
   | .call { callee := .builtin b, .. } => if b == .append || b == .copy || b == .delete then 1 else 0
   | .call _ => 1
   | _ => 0
  | none => 0
 match ready.find? (kind · == 0) with
 | some i => some i
 | none => match ready.find? (kind · == 1) with
  | some i => some i
  | none => ready.head?
def pickOrder (P : Program) (B : List Nat) (ops : Array Oper) : Nat → List Nat → List Nat
 | 0, _ => []
 | n + 1, left => match aEk P B ops left with
  | some i => i :: pickOrder P B ops n (left.filter (· != i))
  | none => []
def rM (P : Program) (N : Nat) (B : List Nat) (ops : Array Oper) : List Nat → Option (List (Nat × ROper))
 | [] => some []
 | i :: r => match ops[i]? with
  | some o => match lI P N B ops o, rM P N B ops r with | some x, some l => some ((i, x) :: l) | _, _ => none
  | none => none
def aBy (ops : Array Oper) (L : List (Nat × ROper)) : Bool :=
 (L.length == ops.size) && (L.all fun p => decide (p.1 < ops.size) && (eW ops p.1).all fun d => decide (d < ops.size) && d != p.1) && ((List.range ops.size).all fun j => (L.map (·.1)).contains j) && zZ (Rel ops (Region.before ops)) L
def YE (P : Program) (N : Nat) (B : List Nat) (ops : Array Oper) : Option (List ROper) :=
 if P.follows .mixedOrders then
  match rM P N B ops (pickOrder P B ops ops.size (List.range ops.size)) with
  | some L => if aBy ops L then some (L.map (·.2)) else none
  | none => none
 else none
def FO (ops : Array Oper) (p q : Nat) (L : List (Nat × ROper)) : Bool :=
 (L.length == ops.size) && (L.all fun p => decide (p.1 < ops.size) && (eW ops p.1).all fun d => decide (d < ops.size) && d != p.1) && ((List.range ops.size).all fun j => (L.map (·.1)).contains j) && zZ (fun a b => Rel ops (Region.before ops) a b || (a.1 == p && b.1 == q && a.1 != b.1 && !(eW ops a.1).contains b.1)) L
def PZ (P : Program) (N : Nat) (B : List Nat) (ops : Array Oper) : Option (List ROper × List ROper) :=
 if P.follows .mixedOrders then
  match rM P N B ops (pickOrder P B ops ops.size (List.range ops.size)) with
  | some L => match L.reverse with
   | y :: x :: r => if x.1 != y.1 && FO ops x.1 y.1 (r.reverse ++ [x, y]) && FO ops y.1 x.1 (r.reverse ++ [y, x]) then some ((r.reverse ++ [x, y]).map (·.2), (r.reverse ++ [y, x]).map (·.2)) else none
   | _ => none
  | none => none
 else none
theorem tI {P : Program} {N : Nat} {B : List Nat} {ops : Array Oper} : ∀ {l : List Nat} {L : List (Nat × ROper)}, rM P N B ops l = some L → ∀ p ∈ L, ∃ o, ops[p.1]? = some o ∧ lI P N B ops o = some p.2
 | [], L, h => by simp only [rM, Option.some.injEq] at h; subst h; simp
 | i :: r, L, h => by
  simp only [rM] at h
  split at h
  ·rename_i o ho
   split at h
   ·rename_i x l hx hl
    simp only [Option.some.injEq] at h; subst h
    intro p hp
    rcases List.mem_cons.1 hp with rfl | hp
    ·exact ⟨o, ho, hx⟩
    ·exact tI hl p hp
   ·cases h
  ·cases h
def dop [GI] (P : Program) (o : ROper) (H : Held) (K : AV → AHeap → Held → Prop) (e : Env) (h : AHeap) : ROp → Prop
 | .rd q => dJ (bS (ev e) h q) fun av => K av h (if q.still = true then cG o H else (o.dst.toList, fun g => bS (ev e) g q = some av) :: cG o H)
 | .ef q => eY P (ev e) h (fun av g => (q.oR = true ∨ CF o H g) ∧ K av g (cG o H)) q
def sR [GI] (P : Program) : List ROper → Held → (Env → AHeap → Prop) → Env → AHeap → Prop
 | [], _, K, e, h => K e h
 | ⟨dst, op, none⟩ :: r, H, K, e, h => dop P ⟨dst, op, none⟩ H (fun av g H' => sR P r H' K (e.put dst av) g) e h op
 | ⟨dst, op, some (s, want)⟩ :: r, H, K, e, h => uW (e.get s) want (fun _ => dop P ⟨dst, op, some (s, want)⟩ H (fun av g H' => sR P r H' K (e.put dst av) g) e h op) (fun _ => sR P r (cG ⟨dst, op, some (s, want)⟩ H) K (e.put dst (.tuple [])) h)
theorem uX [GI] {P : Program} : ∀ (L : List ROper) (H : Held) (K : Env → AHeap → Prop) (e : Env) (h : AHeap), sR P L H K e h → D P L H (fun ρ h => ∃ e', e'.get = ρ ∧ K e' h) e.get h
 | [], H, K, e, h, k => ⟨e, rfl, k⟩
 | ⟨dst, op, g⟩ :: r, H, K, e, h, k => by
  have run : dop P ⟨dst, op, g⟩ H (fun av g H' => sR P r H' K (e.put dst av) g) e h op → (match (some op : Option ROp) with
    | some (.rd q) => dJ (bS (Slots.val e.get) h q) fun av => D P r (held q dst e.get av (cG ⟨dst, op, g⟩ H)) (fun ρ h => ∃ e', e'.get = ρ ∧ K e' h) (Slots.put e.get dst av) h
    | some (.ef q) => eY P (Slots.val e.get) h (fun av g' => (q.oR = true ∨ CF ⟨dst, op, g⟩ H g') ∧ D P r (cG ⟨dst, op, g⟩ H) (fun ρ h => ∃ e', e'.get = ρ ∧ K e' h) (Slots.put e.get dst av) g') q
    | none => False) := by
   intro k
   cases op with
   | rd q =>
    simp only [dop] at k ⊢
    rw [KN] at k
    cases hr : bS (Slots.val e.get) h q with
    | none => simp [hr, dJ] at k
    | some av =>
     simp only [hr, dJ] at k ⊢
     have := uX r _ K _ h k
     rw [z7] at this
     exact this
   | ef q =>
    simp only [dop] at k ⊢
    rw [KN] at k
    refine n9 ?_ k
    rintro v g ⟨k1, k2⟩
    have := uX r _ K _ g k2
    rw [z7] at this
    exact ⟨k1, this⟩
  cases g with
  | none =>
   simp only [sR] at k
   simp only [D, gF]
   exact run k
  | some p =>
   obtain ⟨s, want⟩ := p
   simp only [sR, uW] at k
   simp only [D, gF]
   split at k
   ·rename_i b hb
    simp only [hb]
    split at k
    ·rename_i hbw; rw [if_pos hbw]; exact run k
    ·rename_i hbw
     rw [if_neg hbw]
     simp only [skipOp, bS, Slots.val, dJ]
     have := uX r _ K _ h k
     rw [z7] at this
     exact this
   ·rename_i hb
    simp only [hb]
    simp only [skipOp, bS, Slots.val, dJ]
    have := uX r _ K _ h k
    rw [z7] at this
    exact this
   ·exact k.elim
inductive RCode where
 | skip
 | reg (ops : List ROper)
 | nX (ops : List ROper)
 | BV (a b : List ROper)
 | frz (c : RCode) (ds : List Nat)
 | seq (a b : RCode)
 | cond (c : aV) (a b : RCode)
 | block (id : Nat) (c : RCode)
 | loop (c : RCode)
 | exit (id : Nat)
 | ret
 | scope (c : RCode)
 | bad
 deriving Inhabited
def xQ (F : List Nat) (ops : Array Oper) : List Nat := ops.toList.filterMap fun o => match o.op, o.dst, o.guard with
 | .alloc _, some d, none => if F.contains d then some d else none
 | _, _, _ => none
def z8 : List Nat → RCode → RCode
 | [], c => c
 | d :: ds, c => .frz c (d :: ds)
def yI : List Nat → (Env → AHeap → Prop) → Env → AHeap → Prop
 | [], K, e, h => K e h
 | d :: ds, K, e, h => match e.get d with
  | .ptr (some ⟨b, 0, none⟩) => match h b with
   | some (.blk cs _ _) => yI ds K (e.put (some d) (.ip cs 0)) (h.del b)
   | _ => False
  | _ => False
def rdr (P : Program) (N : Nat) (B : List Nat) (ops : Array Oper) : Option RCode := match YE P N B ops with
 | some r => some (.nX r)
 | none => match PZ P N B ops with
  | some (a, b) => some (.BV a b)
  | none => none
def fF (P : Program) (N : Nat) (B F : List Nat) : Code → Option RCode
 | .skip => some .skip
 | .label _ => some .skip
 | .region _ ops d => some ((if d then (rdr P N B ops).map (z8 (xQ F ops)) else (nV P N B F ops (ops.size + 1) (List.range ops.size)).map .reg).getD .bad)
 | .seq a b => match fF P N B F a, fF P N B F b with | some x, some y => some (.seq x y) | _, _ => none
 | .cond c a b => match bF c, fF P N B F a, fF P N B F b with | some z, some x, some y => some (.cond z x y) | _, _, _ => some .bad
 | .block id c => (fF P N B F c).map (.block id)
 | .loop c => (fF P N B F c).map .loop
 | .exit id => some (.exit id)
 | .ret => some .ret
 | .scope c => (fF P N B F c).map .scope
 | _ => some .bad
def lw (P : Program) (c : Code) (Q : Exit → Act → World → Prop) (a : Act) (w : World) : Prop :=
 ∀ (b : Frame) (k : List Item) (cs : List Frame), ∃ e a' w', Q e a' w' ∧ Arrives P (lone (b.at a (.code c :: .inLoop c :: k)) cs w) b k cs e a' w'
theorem aBT {P : Program} {c : Code} {Q : Exit → Act → World → Prop} {a : Act} {w : World} (h : lw P c Q a w) : (Code.loop c).wp P Q a w :=
 fun b k cs => let ⟨e, a', w', q, r⟩ := h b k cs; ⟨e, a', w', q, .of_steps (.one step_loop) r⟩
theorem NM {P : Program} {c : Code} {Q : Exit → Act → World → Prop} {a : Act} {w : World} (h : c.wp P (Exit.then (lw P c Q) Q) a w) : lw P c Q a w := by
 intro b k cs
 obtain ⟨e, a₁, w₁, hq, harr⟩ := h b (.inLoop c :: k) cs
 cases e with
 | normal =>
  obtain ⟨e₂, a₂, w₂, hq₂, harr₂⟩ := hq b k cs
  exact ⟨e₂, a₂, w₂, hq₂, .of_steps (Steps.trans harr (.one step_inLoop)) harr₂⟩
 | exit id => exact ⟨_, a₁, w₁, hq, .pass (x := .inLoop c) rfl (fun _ _ => .inl (by simp)) harr⟩
 | goto l => exact ⟨_, a₁, w₁, hq, .pass (x := .inLoop c) rfl (fun _ _ => .inl (by simp)) harr⟩
 | ret => exact ⟨_, a₁, w₁, hq, .pass (x := .inLoop c) rfl (fun _ _ => .inl (by simp)) harr⟩
 | panic ch => exact ⟨_, a₁, w₁, hq, .pass (x := .inLoop c) rfl (fun _ _ => .inl (by simp)) harr⟩
 | outgrown => exact ⟨_, a₁, w₁, hq, .pass (x := .inLoop c) rfl (fun _ _ => .inl (by simp)) harr⟩
def T [GI] (P : Program) (N : Nat) (c : RCode) (Q : Exit → Env → AHeap → Prop) (e : Env) (h : AHeap) : Prop :=
 ∀ (DD : List Deferred) B F code, fF P N B F code = some c → ∀ (I : Imm) (w : World) (a : Act), dC I N e a.tmps → Sat w I h → a.defers = DD → code.wp P (ME DD N I w h Q) a w
def L [GI] (P : Program) (N : Nat) (c : RCode) (Q : Exit → Env → AHeap → Prop) (e : Env) (h : AHeap) : Prop :=
 ∀ (DD : List Deferred) B F code, fF P N B F code = some c → ∀ (I : Imm) (w : World) (a : Act), dC I N e a.tmps → Sat w I h → a.defers = DD → lw P code (ME DD N I w h Q) a w
def pO (K : Env → AHeap → Prop) (Q : Exit → Env → AHeap → Prop) : Exit → Env → AHeap → Prop
 | .normal, e, h => K e h
 | x, e, h => Q x e h
def JY (id : Nat) (Q : Exit → Env → AHeap → Prop) : Exit → Env → AHeap → Prop
 | .exit i, e, h => if i = id then Q .normal e h else Q (.exit i) e h
 | x, e, h => Q x e h
def noGoto (Q : Exit → Env → AHeap → Prop) : Exit → Env → AHeap → Prop
 | .goto _, _, _ => False
 | x, e, h => Q x e h
theorem vT [GI] {N : Nat} {I J : Imm} {w w' : World} {h g : AHeap} {Q : Exit → Env → AHeap → Prop} (ex : Ext h w w') (n : New w I J h g) {x : Exit} {a : Act} {w2 : World} (p : ME DD N J w' g Q x a w2) : ME DD N I w h Q x a w2 := by
 obtain ⟨K, e, f, q, s, t, ex2, n2, d⟩ := p
 exact ⟨K, e, f, q, s, t, ex.trans n ex2, n.trans ex n2, d⟩
def W [GI] (P : Program) (N : Nat) : RCode → (Exit → Env → AHeap → Prop) → Env → AHeap → Prop
 | .skip, Q, e, h => Q .normal e h
 | .reg ops, Q, e, h => iN P ops (Q .normal) e h
 | .nX ops, Q, e, h => sR P ops [] (Q .normal) e h
 | .BV a b, Q, e, h => sR P a [] (Q .normal) e h ∧ sR P b [] (Q .normal) e h
 | .frz c ds, Q, e, h => W P N c (pO (yI ds (Q .normal)) Q) e h
 | .seq a b, Q, e, h => W P N a (pO (W P N b Q) Q) e h
 | .cond c a b, Q, e, h => OX (ev e c) true (fun _ => W P N a Q e h) (fun _ => W P N b Q e h)
 | .block id c, Q, e, h => W P N c (JY id Q) e h
 | .loop c, Q, e, h => L P N c Q e h
 | .exit id, Q, e, h => Q (.exit id) e h
 | .ret, Q, e, h => Q .ret e h
 | .scope c, Q, e, h => W P N c (noGoto Q) e h
 | .bad, _, _, _ => False
theorem mP {x : Option RCode} {c : RCode} (h : some (x.getD .bad) = some c) (hb : c ≠ .bad) : x = some c := by
 cases x with
 | none => exact absurd (Option.some.inj h).symm hb
 | some y => simpa using h
theorem pL {P : Program} {N : Nat} {B F : List Nat} {os : Array Oper} {d : Bool} {c : RCode} (h : (if d = true then (rdr P N B os).map (z8 (xQ F os)) else (nV P N B F os (os.size + 1) (List.range os.size)).map .reg) = some c) :
  (d = false ∧ ∃ rs, nV P N B F os (os.size + 1) (List.range os.size) = some rs ∧ c = .reg rs) ∨ (d = true ∧ ∃ c', rdr P N B os = some c' ∧ ((∃ rs, YE P N B os = some rs ∧ c' = .nX rs) ∨ (∃ a b, PZ P N B os = some (a, b) ∧ c' = .BV a b)) ∧ (c = c' ∨ ∃ ds, c = .frz c' ds)) := by
 cases d with
 | false =>
  simp only [Bool.false_eq_true, if_false, Option.map_eq_some_iff] at h
  obtain ⟨rs, hrs, he⟩ := h
  exact .inl ⟨rfl, rs, hrs, he.symm⟩
 | true =>
  simp only [if_true, Option.map_eq_some_iff] at h
  obtain ⟨rs, hrs, he⟩ := h
  refine .inr ⟨rfl, rs, hrs, ?_, ?_⟩
  ·unfold rdr at hrs
   split at hrs
   ·rename_i r hr; simp only [Option.some.injEq] at hrs; exact .inl ⟨r, hr, hrs.symm⟩
   ·split at hrs
    ·rename_i a b hr; simp only [Option.some.injEq] at hrs; exact .inr ⟨a, b, hr, hrs.symm⟩
    ·cases hrs
  ·unfold z8 at he
   split at he
   ·exact .inl he.symm
   ·exact .inr ⟨_, he.symm⟩
def RCode.aFQ : RCode → Bool
 | .reg _ | .nX _ | .BV _ _ | .frz _ _ => true
 | _ => false
theorem j9 {P : Program} {N : Nat} {B F : List Nat} {os : Array Oper} {d : Bool} {c : RCode} (h : (if d = true then (rdr P N B os).map (z8 (xQ F os)) else (nV P N B F os (os.size + 1) (List.range os.size)).map .reg) = some c) : c.aFQ = true := by
 rcases pL h with ⟨_, rs, _, rfl⟩ | ⟨_, c', _, ⟨rs, _, rfl⟩ | ⟨a, b, _, rfl⟩, rfl | ⟨ds, rfl⟩⟩ <;> rfl
theorem aA2 {P : Program} {N : Nat} {B : List Nat} {id : Nat} {os : Array Oper} {c : RCode} (h : rdr P N B os = some c) : fF P N B [] (.region id os true) = some c := by
 have : xQ [] os = [] := by
  unfold xQ
  refine List.filterMap_eq_nil_iff.2 fun o _ => ?_
  split <;> simp
 simp [fF, h, this, z8]
theorem EM {ops : Array Oper} {p q : Nat} {L : List (Nat × ROper)} (h : FO ops p q L = true) : L.length = ops.size ∧ (∀ p ∈ L, p.1 < ops.size ∧ ∀ d ∈ eW ops p.1, d < ops.size ∧ d ≠ p.1) ∧ (∀ j, j < ops.size → j ∈ L.map (·.1)) ∧
  (∀ l, [p, q].Sublist l → L.Pairwise (fun a b => EY ops l a b)) ∧ L.Pairwise (fun a b => a.1 ≠ b.1 ∧ (eW ops a.1).contains b.1 = false) := by
 simp only [FO, Bool.and_eq_true, beq_iff_eq, List.all_eq_true, decide_eq_true_eq, bne_iff_ne] at h
 obtain ⟨⟨⟨o1, o2⟩, o3⟩, o4⟩ := h
 have o5 := rF o4
 refine ⟨o1, fun p hp => ⟨(o2 p hp).1, fun d hd => (o2 p hp).2 d hd⟩, fun j hj => by simpa using o3 j (List.mem_range.2 hj), fun l hl => o5.imp fun {a b} h => ?_, o5.imp fun {a b} h => ?_⟩
 ·rcases Bool.or_eq_true _ _ ▸ h with h | h
  ·exact .inl h
  ·simp only [Bool.and_eq_true, beq_iff_eq, bne_iff_ne, Bool.not_eq_true'] at h
   obtain ⟨⟨⟨rfl, rfl⟩, h1⟩, h2⟩ := h
   exact .inr ⟨h1, h2, hl⟩
 ·rcases Bool.or_eq_true _ _ ▸ h with h | h
  ·simp only [Rel, Bool.and_eq_true, bne_iff_ne, Bool.not_eq_true'] at h
   exact h.1
  ·simp only [Bool.and_eq_true, beq_iff_eq, bne_iff_ne, Bool.not_eq_true'] at h
   exact ⟨h.1.2, h.2⟩
theorem EL [GI] {P : Program} {N : Nat} {B : List Nat} {ops : Array Oper} {Q : Exit → Env → AHeap → Prop} {L : List (Nat × ROper)} {l : List Nat} (o1 : L.length = ops.size) (o2 : ∀ p ∈ L, p.1 < ops.size ∧ ∀ d ∈ eW ops p.1, d < ops.size ∧ d ≠ p.1) (o3 : ∀ j, j < ops.size → j ∈ L.map (·.1)) (o4 : L.Pairwise (fun a b => EY ops l a b))
  (hspec : ∀ p ∈ L, ∃ o, ops[p.1]? = some o ∧ lI P N B ops o = some p.2) (hx : rJ ops ops.size (Array.replicate ops.size false) l) {e : Env} {h : AHeap} {I : Imm} {w : World} {a : Act} (s : dC I N e a.tmps) (t : Sat w I h) (hd : a.defers = DD) (k : sR P (L.map (·.2)) [] (Q .normal) e h) : wpOps P ops (ME DD N I w h Q) l a w.drew := by
 refine aCR (B := B) ops.size L _ l o1 hx (by simp) (fun p hp => ?_) (fun j hj => ?_) o4 (fun j hj hn => ?_) [] e.get h I w.drew a (fun p hp => by cases hp) (uX _ _ _ _ _ k) (.aFh s) (HS t) hd ?_
 ·obtain ⟨o, q1, q2⟩ := hspec p hp
  exact ⟨(o2 p hp).1, o, q1, q2, (o2 p hp).2⟩
 ·have := o3 j hj
  rw [Array.getD_eq_getD_getElem?, Array.getElem?_replicate]
  simp [hj]
  simpa using this
 ·exact absurd (o3 j hj) hn
 ·rintro J ρ' g a' w' ⟨e', he', kk⟩ s' t' ex n d'
  exact ⟨J, e', g, kk, s'.env he', t', (QV w h).trans (.refl w I h) ex, (New.refl w I h).trans (QV w h) n, d'⟩
theorem CH {P : Program} {ops : Array Oper} {Q : Exit → Act → World → Prop} {id : Nat} {a : Act} {w : World} (hm : P.follows .mixedOrders = true)
  (h : ∀ l, rJ ops ops.size (Array.replicate ops.size false) l → wpOps P ops Q l a w.drew) : (Code.region id ops true).wp P Q a w :=
 wp_region_draw fun t => by
  simp only [Region.schedule, hm, Bool.true_or, if_true]
  exact h _ (aFl ops ops.size t _)
theorem QP [GI] {N : Nat} {Q : Env → AHeap → Prop} {I : Imm} {w : World} {h : AHeap} {tmps : Array Value} : ∀ (ds : List Nat) (J : Imm) (e : Env) (g : AHeap), yI ds Q e g → New w I J h g → Ext h w w → dC J N e tmps → Sat w J g → ∃ J' e' g', Q e' g' ∧ New w I J' h g' ∧ dC J' N e' tmps ∧ Sat w J' g'
 | [], J, e, g, k, n, x, s, t => ⟨J, e, g, k, n, s, t⟩
 | d :: ds, J, e, g, k, n, x, s, t => by
  simp only [yI] at k
  split at k
  ·rename_i b hb
   split at k
   ·rename_i cs total ty hg
    obtain ⟨J', n', t', r'⟩ := L8 t hg
    refine QP ds J' _ _ k (n.trans x n') x ⟨s.size, fun u => ?_⟩ t'
    simp only [Env.put, Env.get]
    split
    ·rename_i hh; subst hh
     have := s.at_ d
     rw [hb] at this
     rw [this.gL]; exact r'
    ·exact (s.at_ u).mono n'.imm
   ·exact k.elim
  ·exact k.elim
theorem AJ [GI] {P : Program} {N : Nat} : ∀ (c : RCode) (Q : Exit → Env → AHeap → Prop) (e : Env) (h : AHeap), W P N c Q e h → T P N c Q e h := by
 intro c
 induction c with
 | bad => intro Q e h k; exact k.elim
 | skip =>
  intro Q e h k DD B F code hc I w a s t hd
  have : (code = .skip ∨ ∃ l, code = .label l) := by
   cases code <;> simp only [fF] at hc <;> try (first | (cases hc; done) | exact .inl rfl | exact .inr ⟨_, rfl⟩)
   case region id ops d => exact absurd (j9 (mP hc (by simp))) Bool.false_ne_true
   case seq x y => split at hc <;> cases hc
   case cond z x y => split at hc <;> cases hc
   case block => simp at hc
   case loop => simp at hc
   case scope => simp at hc
  rcases this with rfl | ⟨l, rfl⟩
  ·exact wp_skip ⟨I, e, h, k, s, t, .refl h w, .refl w I h, hd⟩
  ·exact wp_label ⟨I, e, h, k, s, t, .refl h w, .refl w I h, hd⟩
 | reg ops =>
  intro Q e h k DD B F code hc I w a s t hd
  cases code <;> simp only [fF] at hc <;> try (cases hc; done)
  case region id os d =>
   replace hc := mP hc (by simp)
   rcases pL hc with ⟨rfl, rs, hrs, he⟩ | ⟨_, c', _, ⟨rs, _, rfl⟩ | ⟨x, y, _, rfl⟩, he | ⟨ds, he⟩⟩
   ·cases he
    refine wp_region (vL _ _ _ hrs I w a e h s t hd k ?_)
    intro J e' g a' w' k' s' t' ex n d'
    exact ⟨J, e', g, k', s', t', ex, n, d'⟩
   all_goals cases he
  case seq x y => split at hc <;> cases hc
  case cond z x y => split at hc <;> cases hc
  case block => simp at hc
  case loop => simp at hc
  case scope => simp at hc
 | frz c ds ih =>
  intro Q e h k DD B F code hc I w a s t hd
  cases code <;> simp only [fF] at hc <;> try (cases hc; done)
  case region id os d =>
   replace hc := mP hc (by simp)
   rcases pL hc with ⟨_, rs, _, he⟩ | ⟨rfl, c', hrs, hk, he | ⟨ds', he⟩⟩
   ·cases he
   ·rcases hk with ⟨rs, _, rfl⟩ | ⟨x, y, _, rfl⟩ <;> cases he
   ·cases he
    refine wp_mono (ih _ e h k _ B [] _ (aA2 hrs) I w a s t hd) ?_
    intro ex a' w' hpost
    obtain ⟨J, e', g, kk, s', t', ext, n, d'⟩ := hpost
    cases ex with
    | normal =>
     obtain ⟨J2, e2, g2, q2, n2, s2, t2⟩ := QP (w := w') (h := g) ds J e' g kk (.refl w' J g) (.refl g w') s' t'
     exact ⟨J2, e2, g2, q2, s2, t2, ext, n.trans ext n2, d'⟩
    | exit i => exact ⟨J, e', g, kk, s', t', ext, n, d'⟩
    | goto l => exact ⟨J, e', g, kk, s', t', ext, n, d'⟩
    | ret => exact ⟨J, e', g, kk, s', t', ext, n, d'⟩
    | panic ch => exact ⟨J, e', g, kk, s', t', ext, n, d'⟩
    | outgrown => exact ⟨J, e', g, kk, s', t', ext, n, d'⟩
  case seq x y => split at hc <;> cases hc
  case cond z x y => split at hc <;> cases hc
  case block => simp at hc
  case loop => simp at hc
  case scope => simp at hc
 | nX ops =>
  intro Q e h k DD B F code hc I w a s t hd
  cases code <;> simp only [fF] at hc <;> try (cases hc; done)
  case region id os d =>
   replace hc := mP hc (by simp)
   rcases pL hc with ⟨_, rs, _, he⟩ | ⟨rfl, c', _, ⟨rs, hrs, rfl⟩ | ⟨x, y, _, rfl⟩, he | ⟨ds, he⟩⟩ <;> try (cases he; done)
   cases he
   unfold YE at hrs
   split at hrs
   ·rename_i hmix
    split at hrs
    ·rename_i L hL
     split at hrs
     ·rename_i hok
      simp only [Option.some.injEq] at hrs; subst hrs
      simp only [aBy, Bool.and_eq_true, beq_iff_eq, List.all_eq_true, decide_eq_true_eq, bne_iff_ne] at hok
      obtain ⟨⟨⟨o1, o2⟩, o3⟩, o4⟩ := hok
      refine CH hmix fun l hx => ?_
      exact EL o1 (fun p hp => ⟨(o2 p hp).1, fun d hd => (o2 p hp).2 d hd⟩) (fun j hj => by simpa using o3 j (List.mem_range.2 hj)) ((rF o4).imp fun h => .inl h) (tI hL) hx s t hd k
     ·cases hrs
    ·cases hrs
   ·cases hrs
  case seq x y => split at hc <;> cases hc
  case cond z x y => split at hc <;> cases hc
  case block => simp at hc
  case loop => simp at hc
  case scope => simp at hc
 | BV x y =>
  intro Q e h k DD B F code hc I w a s t hd
  cases code <;> simp only [fF] at hc <;> try (cases hc; done)
  case region id os d =>
   replace hc := mP hc (by simp)
   rcases pL hc with ⟨_, rs, _, he⟩ | ⟨rfl, c', _, ⟨rs, _, rfl⟩ | ⟨x', y', hrs, rfl⟩, he | ⟨ds, he⟩⟩ <;> try (cases he; done)
   cases he
   unfold PZ at hrs
   split at hrs
   case isFalse => cases hrs
   rename_i hmix
   split at hrs
   case h_2 => cases hrs
   rename_i L hL
   split at hrs
   case h_2 => cases hrs
   rename_i q p r hr
   split at hrs
   case isFalse => cases hrs
   rename_i hok
   simp only [Bool.and_eq_true, bne_iff_ne, Option.some.injEq, Prod.mk.injEq] at hok hrs
   obtain ⟨rfl, rfl⟩ := hrs
   obtain ⟨⟨hne, hok1⟩, hok2⟩ := hok
   have hLr : L = r.reverse ++ [p, q] := by
    have := congrArg List.reverse hr
    simpa using this
   subst hLr
   have hspec := tI hL
   obtain ⟨a1, a2, a3, a4, a5⟩ := EM hok1
   obtain ⟨b1, b2, b3, b4, b5⟩ := EM hok2
   refine CH hmix fun l hx => ?_
   have hfull := aCO os.size ((r.reverse ++ [p, q]).map (·.1)) _ l (by rw [List.length_map]; exact a1) hx (by simp) (fun i hi => by obtain ⟨z, hz, rfl⟩ := List.mem_map.1 hi; exact a2 z hz) (fun j hj => by
    have := a3 j hj
    rw [Array.getD_eq_getD_getElem?, Array.getElem?_replicate]
    simp [hj]
    simpa using this) (List.pairwise_map.2 a5)
   rcases VP (hfull p.1 (by simp)) (hfull q.1 (by simp)) hne with hs | hs
   ·exact EL a1 a2 a3 (a4 l hs) hspec hx s t hd k.1
   ·exact EL b1 b2 b3 (b4 l hs) (fun z hz => hspec z (by simp only [List.mem_append, List.mem_cons] at hz ⊢; rcases hz with h | h | h | h <;> simp [h])) hx s t hd k.2
  case seq x y => split at hc <;> cases hc
  case cond z x y => split at hc <;> cases hc
  case block => simp at hc
  case loop => simp at hc
  case scope => simp at hc
 | seq x y ihx ihy =>
  intro Q e h k DD B F code hc I w a s t hd
  cases code <;> simp only [fF] at hc <;> try (cases hc; done)
  case region id os d => exact absurd (j9 (mP hc (by simp))) Bool.false_ne_true
  case seq cx cy =>
   split at hc
   ·rename_i p q hp hq
    cases hc
    refine wp_seq (wp_mono (ihx _ e h k _ B F cx hp I w a s t hd) ?_)
    intro ex a' w' hpost
    obtain ⟨J, e', g, kk, s', t', ext, n, d'⟩ := hpost
    cases ex with
    | normal => exact wp_mono (ihy Q e' g kk _ B F cy hq J w' a' s' t' d') fun ex2 a2 w2 p2 => vT ext n p2
    | exit i => exact ⟨J, e', g, kk, s', t', ext, n, d'⟩
    | goto l => exact ⟨J, e', g, kk, s', t', ext, n, d'⟩
    | ret => exact ⟨J, e', g, kk, s', t', ext, n, d'⟩
    | panic ch => exact ⟨J, e', g, kk, s', t', ext, n, d'⟩
    | outgrown => exact ⟨J, e', g, kk, s', t', ext, n, d'⟩
   ·cases hc
  case cond z x y => split at hc <;> cases hc
  case block => simp at hc
  case loop => simp at hc
  case scope => simp at hc
 | cond z x y ihx ihy =>
  intro Q e h k DD B F code hc I w a s t hd
  cases code <;> simp only [fF] at hc <;> try (cases hc; done)
  case region id os d => exact absurd (j9 (mP hc (by simp))) Bool.false_ne_true
  case seq x y => split at hc <;> cases hc
  case cond cz cx cy =>
   split at hc
   ·rename_i p q r hp hq hr
    cases hc
    have hz := bR s.val hp
    simp only [W] at k
    unfold OX at k
    split at k
    ·rename_i b hb
     rw [hb] at hz
     have hv := hz.nG
     cases b with
     | true => exact wp_cond_true hv (ihx Q e h k _ B F cx hq I w a s t hd)
     | false => exact wp_cond_false hv (ihy Q e h k _ B F cy hr I w a s t hd)
    ·exact k.elim
   ·cases hc
  case block => simp at hc
  case loop => simp at hc
  case scope => simp at hc
 | block id c ih =>
  intro Q e h k DD B F code hc I w a s t hd
  cases code <;> simp only [fF] at hc <;> try (cases hc; done)
  case region id os d => exact absurd (j9 (mP hc (by simp))) Bool.false_ne_true
  case seq x y => split at hc <;> cases hc
  case cond z x y => split at hc <;> cases hc
  case block id' cc =>
   simp only [Option.map_eq_some_iff] at hc
   obtain ⟨p, hp, he⟩ := hc
   cases he
   refine wp_block (wp_mono (ih _ e h k _ B F cc hp I w a s t hd) ?_)
   intro ex a' w' hpost
   obtain ⟨J, e', g, kk, s', t', ext, n, d'⟩ := hpost
   cases ex with
   | normal => exact ⟨J, e', g, kk, s', t', ext, n, d'⟩
   | exit i =>
    simp only [JY] at kk
    simp only [Exit.inBlock]
    split
    ·rename_i hi; rw [if_pos hi] at kk; exact ⟨J, e', g, kk, s', t', ext, n, d'⟩
    ·rename_i hi; rw [if_neg hi] at kk; exact ⟨J, e', g, kk, s', t', ext, n, d'⟩
   | goto l => exact ⟨J, e', g, kk, s', t', ext, n, d'⟩
   | ret => exact ⟨J, e', g, kk, s', t', ext, n, d'⟩
   | panic ch => exact ⟨J, e', g, kk, s', t', ext, n, d'⟩
   | outgrown => exact ⟨J, e', g, kk, s', t', ext, n, d'⟩
  case loop => simp at hc
  case scope => simp at hc
 | loop c ih =>
  intro Q e h k DD B F code hc I w a s t hd
  cases code <;> simp only [fF] at hc <;> try (cases hc; done)
  case region id os d => exact absurd (j9 (mP hc (by simp))) Bool.false_ne_true
  case seq x y => split at hc <;> cases hc
  case cond z x y => split at hc <;> cases hc
  case block => simp at hc
  case scope => simp at hc
  case loop cc =>
   simp only [Option.map_eq_some_iff] at hc
   obtain ⟨p, hp, he⟩ := hc
   cases he
   exact aBT (k _ B F cc hp I w a s t hd)
 | exit id =>
  intro Q e h k DD B F code hc I w a s t hd
  cases code <;> simp only [fF] at hc <;> try (cases hc; done)
  case region id os d => exact absurd (j9 (mP hc (by simp))) Bool.false_ne_true
  case seq x y => split at hc <;> cases hc
  case cond z x y => split at hc <;> cases hc
  case block => simp at hc
  case loop => simp at hc
  case scope => simp at hc
  case exit i => cases hc; exact wp_exit ⟨I, e, h, k, s, t, .refl h w, .refl w I h, hd⟩
 | ret =>
  intro Q e h k DD B F code hc I w a s t hd
  cases code <;> simp only [fF] at hc <;> try (cases hc; done)
  case region id os d => exact absurd (j9 (mP hc (by simp))) Bool.false_ne_true
  case seq x y => split at hc <;> cases hc
  case cond z x y => split at hc <;> cases hc
  case block => simp at hc
  case loop => simp at hc
  case scope => simp at hc
  case ret => exact wp_ret ⟨I, e, h, k, s, t, .refl h w, .refl w I h, hd⟩
 | scope c ih =>
  intro Q e h k DD B F code hc I w a s t hd
  cases code <;> simp only [fF] at hc <;> try (cases hc; done)
  case region id os d => exact absurd (j9 (mP hc (by simp))) Bool.false_ne_true
  case seq x y => split at hc <;> cases hc
  case cond z x y => split at hc <;> cases hc
  case block => simp at hc
  case loop => simp at hc
  case scope cc =>
   simp only [Option.map_eq_some_iff] at hc
   obtain ⟨p, hp, he⟩ := hc
   cases he
   refine wp_scope_straight (wp_mono (ih _ e h k _ B F cc hp I w a s t hd) ?_)
   intro ex a' w' hpost
   obtain ⟨J, e', g, kk, s', t', ext, n, d'⟩ := hpost
   cases ex with
   | goto l => exact kk.elim
   | normal => exact ⟨J, e', g, kk, s', t', ext, n, d'⟩
   | exit i => exact ⟨J, e', g, kk, s', t', ext, n, d'⟩
   | ret => exact ⟨J, e', g, kk, s', t', ext, n, d'⟩
   | panic ch => exact ⟨J, e', g, kk, s', t', ext, n, d'⟩
   | outgrown => exact ⟨J, e', g, kk, s', t', ext, n, d'⟩
theorem aEH [GI] {P : Program} {N : Nat} {c : RCode} {Q : Exit → Env → AHeap → Prop} {e : Env} {h : AHeap} (k : W P N c (pO (L P N c Q) Q) e h) : L P N c Q e h := by
 intro DD B F code hc I w a s t hd
 refine NM (wp_mono (AJ _ _ _ _ k _ B F code hc I w a s t hd) ?_)
 intro ex a' w' hpost
 obtain ⟨J, e', g, kk, s', t', ext, n, d'⟩ := hpost
 cases ex with
 | normal =>
  intro b kk2 cs
  obtain ⟨e2, a2, w2, p2, r2⟩ := kk _ B F code hc J w' a' s' t' d' b kk2 cs
  exact ⟨e2, a2, w2, vT ext n p2, r2⟩
 | exit i => exact ⟨J, e', g, kk, s', t', ext, n, d'⟩
 | goto l => exact ⟨J, e', g, kk, s', t', ext, n, d'⟩
 | ret => exact ⟨J, e', g, kk, s', t', ext, n, d'⟩
 | panic ch => exact ⟨J, e', g, kk, s', t', ext, n, d'⟩
 | outgrown => exact ⟨J, e', g, kk, s', t', ext, n, d'⟩
end Pg
