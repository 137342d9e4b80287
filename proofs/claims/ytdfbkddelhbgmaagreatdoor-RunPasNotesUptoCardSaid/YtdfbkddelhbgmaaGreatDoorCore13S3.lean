import Derived.Test.YtdfbkddelhbgmaaGreatDoorCoreAS3
import Derived.Orders
set_option linter.all false
namespace Pg
open Go
theorem ZK {h g : AHeap} (le : h.le g) {n : Option Nat} {x v : AV} (k : gW h n x = some v) : gW g n x = some v := by
 cases x with
 | ptr p =>
  match p, k with
  | none, k => simp [gW] at k
  | some ⟨b, o, some z⟩, k => simp [gW] at k
  | some ⟨b, o, none⟩, k =>
   simp only [gW] at k ⊢
   cases hb : h b with
   | none => simp [hb] at k
   | some ob => rw [hb] at k; rw [le b ob hb]; exact k
 | ip cells off => simpa [gW] using k
 | _ => simp [gW] at k
theorem aBI {h g : AHeap} (le : h.le g) {n : Nat} {x v : AV} (k : sZ h n x = some v) : sZ g n x = some v := by
 unfold sZ at k ⊢
 split at k <;> try exact k
 rename_i r
 cases hb : h r with
 | none => simp [hb] at k
 | some ob => rw [hb] at k; rw [le r ob hb]; exact k
theorem U7 {h g : AHeap} (le : h.le g) {x : AV} {v : List (AV × AV)} (k : pU h x = some v) : pU g x = some v := by
 unfold pU at k ⊢
 split at k <;> try exact k
 rename_i r
 cases hb : h r with
 | none => simp [hb] at k
 | some ob => rw [hb] at k; rw [le r ob hb]; exact k
theorem U8 {h g : AHeap} (le : h.le g) {x v : AV} (k : AI h x = some v) : AI g x = some v := by
 unfold AI at k ⊢
 split at k
 ·rename_i b
  cases hb : h b with
  | none => simp [hb] at k
  | some ob =>
   rw [hb] at k
   rw [le b ob hb]
   try simp only at k ⊢
   split at k
   ·rename_i m x1 since seen last
    cases hm : h m with
    | none => simp [hm] at k
    | some om => rw [hm] at k; rw [le m om hm]; exact k
   ·cases k
 ·cases k
theorem CA {h g : AHeap} (le : h.le g) {va : aV → AV} {r : RRead} {v : AV} (k : bS va h r = some v) : bS va g r = some v := by
 cases r <;> simp only [bS] at k ⊢ <;> try exact k
 case load n x => exact ZK le k
 case lookup ks zero ok m kk =>
  unfold tS at k ⊢
  split at k
  case isFalse => cases k
  rename_i hfit
  rw [if_pos hfit]
  cases hm : pU h (va m) with
  | none => simp [hm] at k
  | some es => rw [hm] at k; rw [U7 le hm]; exact k
 case len n x => exact aBI le k
 case entry x => exact U8 le k
def RRead.still : RRead → Bool
 | .load _ _ | .lookup _ _ _ _ _ | .entry _ => false
 | .len n _ => n != 2
 | _ => true
theorem U3 {r : RRead} (hs : r.still = true) (va : aV → AV) (h g : AHeap) : bS va h r = bS va g r := by
 cases r <;> simp only [bS, RRead.still] at hs ⊢ <;> try (cases hs; done)
 case len n x =>
  unfold sZ
  split <;> first | rfl | (simp at hs)
def aV.slots : aV → List Nat
 | .t n => [n]
 | .c _ => []
def slotsOf (xs : List aV) : List Nat := xs.flatMap aV.slots
def RRead.pC : RRead → List aV
 | .mv x | .load _ x | .vA x | .un _ x | .conv _ x | .Q0 x | .mkI _ x | .fa _ x | .ext x _ | .len _ x | .bx _ x | .fld _ _ x | .entry x => [x]
 | .pick c a b => [c, a, b]
 | .build _ ps | .bsl _ _ _ ps => ps.map (·.2.2)
 | .bin _ x y | .peq _ x y | .beq _ x y | .seq _ _ x y | .ia _ x y | .six x y | .mx x y | .mn x y => [x, y]
 | .mkF _ f c => f ++ c
 | .slice _ _ x lo hi => x :: (lo.toList ++ hi.toList)
 | .lookup _ _ _ m k => [m, k]
def REff.pC : REff → List aV
 | .store _ x v => [x, v]
 | .box _ x => [x]
 | .alloc _ _ | .q9 => []
 | .vG _ _ _ _ ps => ps.map (·.2.2)
 | .append _ _ _ s x => [s, x]
 | .r6 _ _ _ s n => [s, n]
 | .D4 _ _ _ l c => [l, c]
 | .BJ _ m k v => [m, k, v]
 | .call _ args => args
 | .yU f args => f :: args
 | .inv _ x args => x :: args
 | .rng x | .nxt x | .DT x | .D1 x => [x]
def ROp.pC : ROp → List aV
 | .rd r => r.pC
 | .ef r => r.pC
abbrev Slots := Nat → AV
def Slots.val (ρ : Slots) : aV → AV
 | .t n => ρ n
 | .c v => v
def Slots.put (ρ : Slots) (d : Option Nat) (v : AV) : Slots := match d with | some t => fun s => if s = t then v else ρ s | none => ρ
theorem KN (e : Env) : ev e = Slots.val e.get := by funext x; cases x <;> rfl
theorem z7 (e : Env) (d : Option Nat) (v : AV) : (e.put d v).get = Slots.put e.get d v := by
 funext s
 cases d with
 | none => rfl
 | some t =>
  simp only [Env.put, Env.get, Slots.put]
  by_cases h : t = s
  ·subst h; simp
  ·rw [if_neg h, if_neg (fun hh => h hh.symm)]
theorem oQ {va vb : aV → AV} : ∀ {ps : List (Nat × Nat × aV)}, (∀ x ∈ ps.map (·.2.2), va x = vb x) → fO va ps = fO vb ps
 | [], _ => rfl
 | (o, s, x) :: r, h => by
  simp only [fO]
  rw [h x (by simp), oQ (ps := r) (fun y hy => h y (by simp at hy ⊢; exact .inr hy))]
theorem sL {va vb : aV → AV} {xs : List aV} (h : ∀ x ∈ xs, va x = vb x) : xs.map va = xs.map vb := List.map_congr_left h
theorem NL {va vb : aV → AV} {x : Option aV} (h : ∀ y ∈ x.toList, va y = vb y) : x.map va = x.map vb := by
 cases x with
 | none => rfl
 | some y => simp [h y (by simp)]
theorem nH {va vb : aV → AV} {r : RRead} (h : ∀ x ∈ r.pC, va x = vb x) (g : AHeap) : bS va g r = bS vb g r := by
 cases r <;> simp only [bS, RRead.pC, List.mem_cons, List.not_mem_nil, or_false, forall_eq_or_imp, forall_eq] at h ⊢
 case mv x => rw [h]
 case pick c a b => rw [h.1, h.2.1, h.2.2]
 case build z ps => rw [oQ h]
 case bsl s l z ps => rw [oQ h]
 case load n x => rw [h]
 case vA x => rw [h]
 case bin op x y => rw [h.1, h.2]
 case peq neg x y => rw [h.1, h.2]
 case beq neg x y => rw [h.1, h.2]
 case seq neg ks x y => rw [h.1, h.2]
 case un op x => rw [h]
 case conv k x => rw [h]
 case Q0 x => rw [h]
 case mkI t x => rw [h]
 case mkF fn f c => rw [sL (fun x hx => h x (by simp [hx])), sL (xs := c) (fun x hx => h x (by simp [hx]))]
 case slice st sz x lo hi => rw [h.1, NL (fun y hy => h.2 y (by simp at hy ⊢; exact .inl hy)), NL (x := hi) (fun y hy => h.2 y (by simp at hy ⊢; exact .inr hy))]
 case fa k x => rw [h]
 case ia s x y => rw [h.1, h.2]
 case six x y => rw [h.1, h.2]
 case lookup ks z ok m k => rw [h.1, h.2]
 case ext x i => rw [h]
 case bx n x => rw [h]
 case fld off n x => rw [h]
 case len n x => rw [h]
 case mx x y => rw [h.1, h.2]
 case mn x y => rw [h.1, h.2]
 case entry x => rw [h]
theorem K3 [GI] {P : Program} {va vb : aV → AV} {r : REff} (h : ∀ x ∈ r.pC, va x = vb x) (g : AHeap) (K : AV → AHeap → Prop) : eY P va g K r = eY P vb g K r := by
 cases r <;> simp only [eY, REff.pC, List.mem_cons, List.not_mem_nil, or_false, forall_eq_or_imp, forall_eq] at h ⊢
 case store s x v => rw [h.1, h.2]
 case box t x => rw [h]
 case vG t s l z ps => rw [oQ h]
 case append t s b x y => rw [h.1, h.2]
 case r6 t b z x y => rw [h.1, h.2]
 case D4 t b z x y => rw [h.1, h.2]
 case BJ ks m k v => rw [h.1, h.2.1, h.2.2]
 case call f args => rw [sL h]
 case yU f args => rw [h.1, sL h.2]
 case inv name x args => rw [h.1, sL h.2]
 case rng x => rw [h]
 case nxt x => rw [h]
 case DT x => rw [h]
 case D1 x => rw [h]
theorem aA6 {o : Option AHeap} {K K' : AHeap → Prop} (m : ∀ g, K g → K' g) (h : sH o K) : sH o K' := by cases o with | none => exact h | some g => exact m g h
theorem EW {h : AHeap} {ty : TypeId} {size bytes m : Nat} {s : AV} {xs : List AV} {K K' : AV → AHeap → Prop} (mm : ∀ v g, K v g → K' v g) (k : gZ h ty size bytes s m xs K) : gZ h ty size bytes s m xs K' := by
 cases s <;> simp only [gZ] at k ⊢
 case sl es full => exact ⟨fun e => mm _ _ (k.1 e), fun e => ⟨(k.2 e).1, (k.2 e).2.1, (k.2 e).2.2.1, (k.2 e).2.2.2.imp (fun q b cap hb hc => mm _ _ (q b cap hb hc)) (fun q b cap hb hc => mm _ _ (q b cap hb hc))⟩⟩
 case gs es b cap =>
  split at k
  ·exact ⟨k.1, k.2.1, k.2.2.1, k.2.2.2.1, k.2.2.2.2.1, k.2.2.2.2.2.1, fun b' cap' hb hc => mm _ _ (k.2.2.2.2.2.2 b' cap' hb hc)⟩
  ·exact k
 case os b n cap =>
  split at k
  ·exact ⟨k.1, k.2.1, k.2.2.1, k.2.2.2.1, k.2.2.2.2.1, fun b' cap' hb hc => mm _ _ (k.2.2.2.2.2 b' cap' hb hc)⟩
  ·exact k
theorem n9 [GI] {P : Program} {va : aV → AV} {h : AHeap} {r : REff} {K K' : AV → AHeap → Prop} (m : ∀ v g, K v g → K' v g) (k : eY P va h K r) : eY P va h K' r := by
 cases r <;> simp only [eY] at k ⊢
 case store s x v => exact aA6 (m _) k
 case box t x =>
  cases hc : (va x).cells? with
  | none => simp [hc, gJ] at k
  | some ds => simp only [hc, gJ] at k ⊢; exact fun b hb => m _ _ (k b hb)
 case alloc t z => exact fun b hb => m _ _ (k b hb)
 case q9 => exact fun b hb => m _ _ (k b hb)
 case vG t s l z ps =>
  cases hc : mE z (fO va ps) with
  | none => simp [hc, gJ] at k
  | some ds => simp only [hc, gJ] at k ⊢; exact fun b hb => m _ _ (k b hb)
 case append t s b x y =>
  cases hc : lG h s (va y) with
  | none => simp [hc, rP] at k
  | some p => obtain ⟨n, l⟩ := p; simp only [hc, rP] at k ⊢; exact ⟨k.1, EW m k.2⟩
 case r6 t b z x y =>
  split at k
  ·exact ⟨k.1, k.2.1, k.2.2.1, EW m k.2.2.2⟩
  ·exact k
 case D4 t b z x y =>
  split at k
  ·exact ⟨k.1, k.2.1, k.2.2.1, k.2.2.2.1, fun c hc => m _ _ (k.2.2.2.2 c hc)⟩
  ·exact k
 case BJ ks mm kk v =>
  split at k
  ·split at k
   ·split at k
    ·exact ⟨k.1, m _ _ k.2⟩
    ·exact k
   ·exact k
  ·exact k
 case call f args => exact k.mono m
 case yU f args =>
  split at k
  ·exact ⟨k.1, k.2.mono m⟩
  ·exact k
 case inv name x args =>
  split at k
  ·split at k
   ·exact ⟨k.1, k.2.mono m⟩
   ·exact k
  ·exact k
 case rng x =>
  unfold RB at k ⊢
  split at k
  ·exact fun b hb => m _ _ (k b hb)
  ·split at k
   ·exact fun bs c h1 h2 h3 b hb => m _ _ (k bs c h1 h2 h3 b hb)
   ·exact k
  ·exact k
 case nxt x =>
  unfold RF at k ⊢
  split at k
  ·split at k
   ·exact m _ _ k
   ·split at k
    ·exact ⟨k.1, k.2.1, fun i e s h1 h2 h3 => m _ _ (k.2.2.1 i e s h1 h2 h3), fun h => m _ _ (k.2.2.2 h)⟩
    ·exact k
   ·exact k
  ·exact k
 case DT x =>
  unfold KZ at k ⊢
  split at k
  ·exact fun b hb => m _ _ (k b hb)
  ·exact k
 case D1 x =>
  unfold CB at k ⊢
  split at k
  ·split at k
   ·split at k
    ·rename_i hp; rw [if_pos hp]; exact fun wd hw => m _ _ (k wd hw)
    ·rename_i hp; rw [if_neg hp]; exact m _ _ k
   ·exact k
  ·exact k
def AHeap.single (b : Nat) (o : AObj) : AHeap := fun c => if c = b then some o else none
theorem GX {h : AHeap} {b : Nat} {o : AObj} (hb : h b = none) : h.join (AHeap.single b o) = h.upd b o := by
 funext c
 simp only [AHeap.join, AHeap.single, AHeap.upd]
 by_cases hc : c = b
 ·subst hc; simp [hb]
 ·rw [if_neg hc, if_neg hc]; cases h c <;> rfl
theorem bH (h : AHeap) {b c : Nat} (o p : AObj) (n : b ≠ c) : (h.upd b o).upd c p = (h.upd c p).upd b o := by
 funext d
 simp only [AHeap.upd]
 by_cases h1 : d = c
 ·subst h1; simp [Ne.symm n]
 ·simp [h1]
theorem EN (h : AHeap) {b c : Nat} (o : AObj) (n : b ≠ c) : (h.upd b o).del c = (h.del c).upd b o := by
 funext d
 simp only [AHeap.upd, AHeap.del]
 by_cases h1 : d = c
 ·subst h1; simp [Ne.symm n]
 ·simp [h1]
theorem rD {h : AHeap} {b c : Nat} {o : AObj} (hc : (h.upd b o) c = none) : c ≠ b ∧ h c = none := by
 by_cases hb : c = b
 ·subst hb; rw [aA] at hc; cases hc
 ·exact ⟨hb, by rwa [aC _ _ _ hb] at hc⟩
theorem mC {h : AHeap} {b : Nat} {o : AObj} (hb : h b = none) {x : AObj} {v : Nat → AV} {K : AV → AHeap → Prop} (k : ∀ c, h c = none → K (v c) (h.upd c x)) :
  ∀ c, (h.upd b o) c = none → ∃ g, g b = none ∧ (h.upd b o).upd c x = g.upd b o ∧ K (v c) g := by
 intro c hc
 obtain ⟨n, hc'⟩ := rD hc
 exact ⟨h.upd c x, by rw [aC _ _ _ (Ne.symm n)]; exact hb, bH h o x (Ne.symm n), k c hc'⟩
theorem CZ {h : AHeap} {b : Nat} {o : AObj} (hb : h b = none) {ty : TypeId} {size bytes m : Nat} {s : AV} {xs : List AV} {K : AV → AHeap → Prop} (k : gZ h ty size bytes s m xs K) :
  gZ (h.upd b o) ty size bytes s m xs (fun v g' => ∃ g, g b = none ∧ g' = g.upd b o ∧ K v g) := by
 cases s <;> simp only [gZ] at k ⊢
 case sl es full =>
  refine ⟨fun e => ⟨h, hb, rfl, k.1 e⟩, fun e => ⟨(k.2 e).1, (k.2 e).2.1, (k.2 e).2.2.1, (k.2 e).2.2.2.imp (fun q c cap hc hcap => ?_) (fun q c cap hc hcap => ?_)⟩⟩
  ·obtain ⟨n, hc'⟩ := rD hc
   exact ⟨_, by rw [aC _ _ _ (Ne.symm n)]; exact hb, bH h o _ (Ne.symm n), q c cap hc' hcap⟩
  ·obtain ⟨n, hc'⟩ := rD hc
   exact ⟨_, by rw [aC _ _ _ (Ne.symm n)]; exact hb, bH h o _ (Ne.symm n), q c cap hc' hcap⟩
 case gs es b0 cap =>
  cases hb0 : h b0 with
  | none => simp [hb0] at k
  | some ob =>
   have hne : b0 ≠ b := by intro hh; subst hh; rw [hb] at hb0; cases hb0
   rw [aC _ _ _ hne, hb0]
   rw [hb0] at k
   cases ob with
   | mp _ => exact k
   | mpc _ _ _ => exact k
   | it _ _ _ _ => exact k
   | sit _ _ => exact k
   | blk _ _ _ => exact k
   | tail q total ty' =>
    simp only at k ⊢
    refine ⟨k.1, k.2.1, k.2.2.1, k.2.2.2.1, k.2.2.2.2.1, k.2.2.2.2.2.1, fun b' cap' hb' hc => ?_⟩
    rw [EN h o (Ne.symm hne)] at hb' ⊢
    obtain ⟨n, hc'⟩ := rD hb'
    refine ⟨_, ?_, bH _ o _ (Ne.symm n), k.2.2.2.2.2.2 b' cap' hc' hc⟩
    rw [aC _ _ _ (Ne.symm n), pT _ _ (Ne.symm hne)]; exact hb
 case os b0 n0 cap =>
  cases hb0 : h b0 with
  | none => simp [hb0] at k
  | some ob =>
   have hne : b0 ≠ b := by intro hh; subst hh; rw [hb] at hb0; cases hb0
   rw [aC _ _ _ hne, hb0]
   rw [hb0] at k
   cases ob with
   | mp _ => exact k
   | mpc _ _ _ => exact k
   | it _ _ _ _ => exact k
   | sit _ _ => exact k
   | tail _ _ _ => exact k
   | blk cs total ty' =>
    simp only at k ⊢
    refine ⟨k.1, k.2.1, k.2.2.1, k.2.2.2.1, k.2.2.2.2.1, fun b' cap' hb' hc => ?_⟩
    rw [EN h o (Ne.symm hne)] at hb' ⊢
    obtain ⟨n, hc'⟩ := rD hb'
    refine ⟨_, ?_, bH _ o _ (Ne.symm n), k.2.2.2.2.2 b' cap' hc' hc⟩
    rw [aC _ _ _ (Ne.symm n), pT _ _ (Ne.symm hne)]; exact hb
theorem rB [GI] {P : Program} {f : FuncId} {args : List AV} {h : AHeap} {b : Nat} {o : AObj} (hb : h b = none) {K : AV → AHeap → Prop} (k : aD P f args h K) : aD P f args (h.upd b o) (fun v g' => ∃ g, g b = none ∧ g' = g.upd b o ∧ K v g) := by
 have ha : h.apart (AHeap.single b o) := by
  intro c x hc
  simp only [AHeap.single]
  rw [if_neg]
  intro hh; subst hh; rw [hb] at hc; cases hc
 have := k.frame ha
 rw [GX hb] at this
 refine this.mono ?_
 rintro r g' ⟨g, rfl, hap, hk⟩
 have hg : g b = none := by
  cases hgb : g b with
  | none => rfl
  | some x => have := hap b x hgb; simp [AHeap.single] at this
 exact ⟨g, hg, GX hg, hk⟩
theorem Q8 {h g : AHeap} {b : Nat} {o : AObj} (hb : h b = none) {s : Nat} {p v : AV} (hst : mB h s p v = some g) : g b = none ∧ mB (h.upd b o) s p v = some (g.upd b o) := by
 cases hc : v.cells? with
 | none => cases p <;> (try rename_i q; cases q) <;> simp [mB, hc] at hst
 | some ds =>
  cases p with
  | ptr q =>
   match q, hst with
   | none, hst => simp [mB, hc] at hst
   | some ⟨c, o', some z⟩, hst => simp [mB, hc] at hst
   | some ⟨c, o', none⟩, hst =>
    simp only [mB, hc] at hst ⊢
    cases hcc : h c with
    | none => simp [hcc] at hst
    | some ob =>
     have hne : c ≠ b := by intro hh; subst hh; rw [hb] at hcc; cases hcc
     rw [hcc] at hst
     rw [aC _ _ _ hne, hcc]
     cases ob with
     | mp _ => cases hst
     | mpc _ _ _ => cases hst
     | it _ _ _ _ => cases hst
     | sit _ _ => cases hst
     | tail _ _ _ => cases hst
     | blk cs total ty =>
      simp only at hst ⊢
      split at hst
      ·rename_i hcond
       simp only [Option.some.injEq] at hst; subst hst
       rw [if_pos hcond]
       exact ⟨by rw [aC _ _ _ (Ne.symm hne)]; exact hb, by rw [bH h o _ (Ne.symm hne)]⟩
      ·cases hst
  | _ => simp [mB, hc] at hst
theorem ZM [GI] {P : Program} {va : aV → AV} {h : AHeap} {b : Nat} {o : AObj} (hb : h b = none) {r : REff} {K : AV → AHeap → Prop} (k : eY P va h K r) :
  eY P va (h.upd b o) (fun v g' => ∃ g, g b = none ∧ g' = g.upd b o ∧ K v g) r := by
 cases r <;> simp only [eY] at k ⊢
 case store s x v =>
  cases hst : mB h s (va x) (va v) with
  | none => simp [hst, sH] at k
  | some g =>
   simp only [hst, sH] at k
   have hst' := Q8 (o := o) hb hst
   rw [hst'.2]
   exact ⟨g, hst'.1, rfl, k⟩
 case box t x =>
  cases hc : (va x).cells? with
  | none => simp [hc, gJ] at k
  | some ds => simp only [hc, gJ] at k ⊢; exact mC hb (v := fun b => .ptr (some ⟨b, 0, none⟩)) k
 case alloc t z => exact mC hb (v := fun b => .ptr (some ⟨b, 0, none⟩)) k
 case q9 => exact mC hb (v := fun b => .map (some b)) k
 case vG t s l z ps =>
  cases hc : mE z (fO va ps) with
  | none => simp [hc, gJ] at k
  | some ds => simp only [hc, gJ] at k ⊢; exact mC hb (v := fun b => .os b l l) k
 case append t s by' x y =>
  cases hc : lG h s (va y) with
  | none => simp [hc, rP] at k
  | some p =>
   obtain ⟨n, l⟩ := p
   have hc' : lG (h.upd b o) s (va y) = some (n, l) := by
    generalize va y = q at hc ⊢
    cases q <;> simp only [lG] at hc ⊢ <;> try exact hc
    rename_i b0 n0 c0
    cases hb0 : h b0 with
    | none => simp [hb0] at hc
    | some ob =>
     have hne : b0 ≠ b := by intro hh; subst hh; rw [hb] at hb0; cases hb0
     rw [aC _ _ _ hne, hb0]; rw [hb0] at hc; exact hc
   simp only [hc, hc', rP] at k ⊢
   exact ⟨k.1, CZ hb k.2⟩
 case r6 t by' z x y =>
  split at k
  ·exact ⟨k.1, k.2.1, k.2.2.1, CZ hb k.2.2.2⟩
  ·exact k.elim
 case D4 t by' z x y =>
  split at k
  ·exact ⟨k.1, k.2.1, k.2.2.1, k.2.2.2.1, mC hb (v := fun b => .os b _ _) k.2.2.2.2⟩
  ·exact k.elim
 case BJ ks mm kk v =>
  split at k
  ·rename_i r hr
   cases hrr : h r with
   | none => simp [hrr] at k
   | some ob =>
    have hne : r ≠ b := by intro hh; subst hh; rw [hb] at hrr; cases hrr
    rw [aC _ _ _ hne, hrr]
    rw [hrr] at k
    cases ob with
    | blk _ _ _ => exact k
    | tail _ _ _ => exact k
    | mpc _ _ _ => exact k
    | it _ _ _ _ => exact k
    | sit _ _ => exact k
    | mp es =>
     simp only at k ⊢
     split at k
     ·exact ⟨k.1, _, by rw [aC _ _ _ (Ne.symm hne)]; exact hb, bH h o _ (Ne.symm hne), k.2⟩
     ·exact k
  ·exact k
 case call f args => exact rB hb k
 case yU f args =>
  split at k
  ·exact ⟨k.1, rB hb k.2⟩
  ·exact k.elim
 case inv name x args =>
  split at k
  ·split at k
   ·exact ⟨k.1, rB hb k.2⟩
   ·exact k.elim
  ·exact k.elim
 case rng x =>
  generalize va x = p at k ⊢
  unfold RB at k ⊢
  split at k
  ·exact mC hb (v := fun b => .ptr (some ⟨b, 0, none⟩)) k
  ·rename_i m
   cases hm : h m with
   | none => simp [hm] at k
   | some ob =>
    have hne : m ≠ b := by intro hh; subst hh; rw [hb] at hm; cases hm
    rw [aC _ _ _ hne, hm]
    rw [hm] at k
    cases ob with
    | blk _ _ _ => exact k
    | tail _ _ _ => exact k
    | mpc _ _ _ => exact k
    | it _ _ _ _ => exact k
    | sit _ _ => exact k
    | mp es =>
     simp only at k ⊢
     intro bs c h1 h2 h3 d hd
     obtain ⟨n, hd'⟩ := rD hd
     refine ⟨_, ?_, ?_, k bs c h1 h2 h3 d hd'⟩
     ·rw [aC _ _ _ (Ne.symm n), aC _ _ _ (Ne.symm hne)]; exact hb
     ·rw [bH h o _ (Ne.symm hne), bH _ o _ (Ne.symm n)]
  ·exact k.elim
 case nxt x =>
  generalize va x = p at k ⊢
  unfold RF at k ⊢
  split at k
  ·rename_i c
   cases hc : h c with
   | none => simp [hc] at k
   | some ob =>
    have hne : c ≠ b := by intro hh; subst hh; rw [hb] at hc; cases hc
    rw [aC _ _ _ hne, hc]
    rw [hc] at k
    cases ob with
    | blk _ _ _ => exact k
    | tail _ _ _ => exact k
    | mpc _ _ _ => exact k
    | mp _ => exact k
    | sit _ _ => exact k
    | it m since seen last =>
     cases m with
     | none => exact ⟨h, hb, rfl, k⟩
     | some m =>
      simp only at k ⊢
      cases hm : h m with
      | none => simp [hm] at k
      | some om =>
       have hnm : m ≠ b := by intro hh; subst hh; rw [hb] at hm; cases hm
       rw [aC _ _ _ hnm, hm]
       rw [hm] at k
       cases om with
       | blk _ _ _ => exact k
       | tail _ _ _ => exact k
       | mp _ => exact k
       | it _ _ _ _ => exact k
       | sit _ _ => exact k
       | mpc es bs cl =>
        simp only at k ⊢
        exact ⟨k.1, k.2.1, fun i e s h1 h2 h3 => ⟨_, by rw [aC _ _ _ (Ne.symm hne)]; exact hb, bH h o _ (Ne.symm hne), k.2.2.1 i e s h1 h2 h3⟩, fun hh => ⟨h, hb, rfl, k.2.2.2 hh⟩⟩
  ·exact k.elim
 case DT x =>
  generalize va x = p at k ⊢
  unfold KZ at k ⊢
  split at k
  ·exact mC hb (v := fun b => .ptr (some ⟨b, 0, none⟩)) k
  ·exact k.elim
 case D1 x =>
  generalize va x = p at k ⊢
  unfold CB at k ⊢
  split at k
  ·rename_i c
   cases hc : h c with
   | none => simp [hc] at k
   | some ob =>
    have hne : c ≠ b := by intro hh; subst hh; rw [hb] at hc; cases hc
    rw [aC _ _ _ hne, hc]
    rw [hc] at k
    cases ob with
    | blk _ _ _ => exact k
    | tail _ _ _ => exact k
    | mpc _ _ _ => exact k
    | mp _ => exact k
    | it _ _ _ _ => exact k
    | sit s pos =>
     simp only at k ⊢
     split at k
     ·rename_i hp
      rw [if_pos hp]
      exact fun wd hw => ⟨_, by rw [aC _ _ _ (Ne.symm hne)]; exact hb, bH h o _ (Ne.symm hne), k wd hw⟩
     ·rename_i hp
      rw [if_neg hp]
      exact ⟨h, hb, rfl, k⟩
  ·exact k.elim
end Pg
