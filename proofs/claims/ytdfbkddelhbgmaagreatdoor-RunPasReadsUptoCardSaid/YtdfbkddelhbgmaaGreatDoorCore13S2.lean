import Derived.Test.YtdfbkddelhbgmaaGreatDoorCoreAS2
import Derived.Orders
set_option linter.all false
namespace Pg
open Go
theorem aload_mono {h g : AHeap} (le : h.le g) {n : Option Nat} {x v : AV} (k : aload h n x = some v) : aload g n x = some v := by
 cases x with
 | ptr p =>
  match p, k with
  | none, k => simp [aload] at k
  | some ⟨b, o, some z⟩, k => simp [aload] at k
  | some ⟨b, o, none⟩, k =>
   simp only [aload] at k ⊢
   cases hb : h b with
   | none => simp [hb] at k
   | some ob => rw [hb] at k; rw [le b ob hb]; exact k
 | ip cells off => simpa [aload] using k
 | _ => simp [aload] at k
theorem alen_mono {h g : AHeap} (le : h.le g) {n : Nat} {x v : AV} (k : alen h n x = some v) : alen g n x = some v := by
 unfold alen at k ⊢
 split at k <;> try exact k
 rename_i r
 cases hb : h r with
 | none => simp [hb] at k
 | some ob => rw [hb] at k; rw [le r ob hb]; exact k
theorem amapOf_mono {h g : AHeap} (le : h.le g) {x : AV} {v : List (AV × AV)} (k : amapOf h x = some v) : amapOf g x = some v := by
 unfold amapOf at k ⊢
 split at k <;> try exact k
 rename_i r
 cases hb : h r with
 | none => simp [hb] at k
 | some ob => rw [hb] at k; rw [le r ob hb]; exact k
theorem aentry_mono {h g : AHeap} (le : h.le g) {x v : AV} (k : aentry h x = some v) : aentry g x = some v := by
 unfold aentry at k ⊢
 split at k
 ·rename_i b
  cases hb : h b with
  | none => simp [hb] at k
  | some ob =>
   rw [hb] at k
   rw [le b ob hb]
   try simp only at k ⊢
   split at k
   ·rename_i m x1 since seen last
    cases hm : h m with
    | none => simp [hm] at k
    | some om => rw [hm] at k; rw [le m om hm]; exact k
   ·cases k
 ·cases k
theorem aread_mono {h g : AHeap} (le : h.le g) {va : ROpd → AV} {r : RRead} {v : AV} (k : aread va h r = some v) : aread va g r = some v := by
 cases r <;> simp only [aread] at k ⊢ <;> try exact k
 case load n x => exact aload_mono le k
 case lookup ks zero ok m kk =>
  unfold alookup at k ⊢
  split at k
  case isFalse => cases k
  rename_i hfit
  rw [if_pos hfit]
  cases hm : amapOf h (va m) with
  | none => simp [hm] at k
  | some es => rw [hm] at k; rw [amapOf_mono le hm]; exact k
 case len n x => exact alen_mono le k
 case entry x => exact aentry_mono le k
def RRead.still : RRead → Bool
 | .load _ _ | .lookup _ _ _ _ _ | .entry _ => false
 | .len n _ => n != 2
 | _ => true
theorem aread_still {r : RRead} (hs : r.still = true) (va : ROpd → AV) (h g : AHeap) : aread va h r = aread va g r := by
 cases r <;> simp only [aread, RRead.still] at hs ⊢ <;> try (cases hs; done)
 case len n x =>
  unfold alen
  split <;> first | rfl | (simp at hs)
def ROpd.slots : ROpd → List Nat
 | .t n => [n]
 | .c _ => []
def slotsOf (xs : List ROpd) : List Nat := xs.flatMap ROpd.slots
def RRead.opds : RRead → List ROpd
 | .mv x | .load _ x | .nilc x | .un _ x | .conv _ x | .cstr x | .mkI _ x | .fa _ x | .ext x _ | .len _ x | .bx _ x | .fld _ _ x | .entry x => [x]
 | .pick c a b => [c, a, b]
 | .build _ ps | .bsl _ _ _ ps => ps.map (·.2.2)
 | .bin _ x y | .peq _ x y | .beq _ x y | .seq _ _ x y | .ia _ x y | .six x y | .mx x y | .mn x y => [x, y]
 | .mkF _ f c => f ++ c
 | .slice _ _ x lo hi => x :: (lo.toList ++ hi.toList)
 | .lookup _ _ _ m k => [m, k]
def REff.opds : REff → List ROpd
 | .store _ x v => [x, v]
 | .box _ x => [x]
 | .alloc _ _ | .mkmap => []
 | .bsle _ _ _ _ ps => ps.map (·.2.2)
 | .append _ _ _ s x => [s, x]
 | .appendz _ _ _ s n => [s, n]
 | .mksl _ _ _ l c => [l, c]
 | .mapup _ m k v => [m, k, v]
 | .call _ args => args
 | .callv f args => f :: args
 | .inv _ x args => x :: args
 | .rng x | .nxt x | .rngs x | .nxts x => [x]
def ROp.opds : ROp → List ROpd
 | .rd r => r.opds
 | .ef r => r.opds
abbrev Slots := Nat → AV
def Slots.val (ρ : Slots) : ROpd → AV
 | .t n => ρ n
 | .c v => v
def Slots.put (ρ : Slots) (d : Option Nat) (v : AV) : Slots := match d with | some t => fun s => if s = t then v else ρ s | none => ρ
theorem ev_val (e : Env) : ev e = Slots.val e.get := by funext x; cases x <;> rfl
theorem get_put (e : Env) (d : Option Nat) (v : AV) : (e.put d v).get = Slots.put e.get d v := by
 funext s
 cases d with
 | none => rfl
 | some t =>
  simp only [Env.put, Env.get, Slots.put]
  by_cases h : t = s
  ·subst h; simp
  ·rw [if_neg h, if_neg (fun hh => h hh.symm)]
theorem evParts_congr {va vb : ROpd → AV} : ∀ {ps : List (Nat × Nat × ROpd)}, (∀ x ∈ ps.map (·.2.2), va x = vb x) → evParts va ps = evParts vb ps
 | [], _ => rfl
 | (o, s, x) :: r, h => by
  simp only [evParts]
  rw [h x (by simp), evParts_congr (ps := r) (fun y hy => h y (by simp at hy ⊢; exact .inr hy))]
theorem map_congr' {va vb : ROpd → AV} {xs : List ROpd} (h : ∀ x ∈ xs, va x = vb x) : xs.map va = xs.map vb := List.map_congr_left h
theorem opt_congr {va vb : ROpd → AV} {x : Option ROpd} (h : ∀ y ∈ x.toList, va y = vb y) : x.map va = x.map vb := by
 cases x with
 | none => rfl
 | some y => simp [h y (by simp)]
theorem aread_congr {va vb : ROpd → AV} {r : RRead} (h : ∀ x ∈ r.opds, va x = vb x) (g : AHeap) : aread va g r = aread vb g r := by
 cases r <;> simp only [aread, RRead.opds, List.mem_cons, List.not_mem_nil, or_false, forall_eq_or_imp, forall_eq] at h ⊢
 case mv x => rw [h]
 case pick c a b => rw [h.1, h.2.1, h.2.2]
 case build z ps => rw [evParts_congr h]
 case bsl s l z ps => rw [evParts_congr h]
 case load n x => rw [h]
 case nilc x => rw [h]
 case bin op x y => rw [h.1, h.2]
 case peq neg x y => rw [h.1, h.2]
 case beq neg x y => rw [h.1, h.2]
 case seq neg ks x y => rw [h.1, h.2]
 case un op x => rw [h]
 case conv k x => rw [h]
 case cstr x => rw [h]
 case mkI t x => rw [h]
 case mkF fn f c => rw [map_congr' (fun x hx => h x (by simp [hx])), map_congr' (xs := c) (fun x hx => h x (by simp [hx]))]
 case slice st sz x lo hi => rw [h.1, opt_congr (fun y hy => h.2 y (by simp at hy ⊢; exact .inl hy)), opt_congr (x := hi) (fun y hy => h.2 y (by simp at hy ⊢; exact .inr hy))]
 case fa k x => rw [h]
 case ia s x y => rw [h.1, h.2]
 case six x y => rw [h.1, h.2]
 case lookup ks z ok m k => rw [h.1, h.2]
 case ext x i => rw [h]
 case bx n x => rw [h]
 case fld off n x => rw [h]
 case len n x => rw [h]
 case mx x y => rw [h.1, h.2]
 case mn x y => rw [h.1, h.2]
 case entry x => rw [h]
theorem aeff_congr [GI] {P : Program} {va vb : ROpd → AV} {r : REff} (h : ∀ x ∈ r.opds, va x = vb x) (g : AHeap) (K : AV → AHeap → Prop) : aeff P va g K r = aeff P vb g K r := by
 cases r <;> simp only [aeff, REff.opds, List.mem_cons, List.not_mem_nil, or_false, forall_eq_or_imp, forall_eq] at h ⊢
 case store s x v => rw [h.1, h.2]
 case box t x => rw [h]
 case bsle t s l z ps => rw [evParts_congr h]
 case append t s b x y => rw [h.1, h.2]
 case appendz t b z x y => rw [h.1, h.2]
 case mksl t b z x y => rw [h.1, h.2]
 case mapup ks m k v => rw [h.1, h.2.1, h.2.2]
 case call f args => rw [map_congr' h]
 case callv f args => rw [h.1, map_congr' h.2]
 case inv name x args => rw [h.1, map_congr' h.2]
 case rng x => rw [h]
 case nxt x => rw [h]
 case rngs x => rw [h]
 case nxts x => rw [h]
theorem okOr_mono {o : Option AHeap} {K K' : AHeap → Prop} (m : ∀ g, K g → K' g) (h : okOr o K) : okOr o K' := by cases o with | none => exact h | some g => exact m g h
theorem aappend_mono {h : AHeap} {ty : TypeId} {size bytes m : Nat} {s : AV} {xs : List AV} {K K' : AV → AHeap → Prop} (mm : ∀ v g, K v g → K' v g) (k : aappend h ty size bytes s m xs K) : aappend h ty size bytes s m xs K' := by
 cases s <;> simp only [aappend] at k ⊢
 case sl es full => exact ⟨fun e => mm _ _ (k.1 e), fun e => ⟨(k.2 e).1, (k.2 e).2.1, (k.2 e).2.2.1, (k.2 e).2.2.2.imp (fun q b cap hb hc => mm _ _ (q b cap hb hc)) (fun q b cap hb hc => mm _ _ (q b cap hb hc))⟩⟩
 case gs es b cap =>
  split at k
  ·exact ⟨k.1, k.2.1, k.2.2.1, k.2.2.2.1, k.2.2.2.2.1, k.2.2.2.2.2.1, fun b' cap' hb hc => mm _ _ (k.2.2.2.2.2.2 b' cap' hb hc)⟩
  ·exact k
 case os b n cap =>
  split at k
  ·exact ⟨k.1, k.2.1, k.2.2.1, k.2.2.2.1, k.2.2.2.2.1, fun b' cap' hb hc => mm _ _ (k.2.2.2.2.2 b' cap' hb hc)⟩
  ·exact k
theorem aeff_mono [GI] {P : Program} {va : ROpd → AV} {h : AHeap} {r : REff} {K K' : AV → AHeap → Prop} (m : ∀ v g, K v g → K' v g) (k : aeff P va h K r) : aeff P va h K' r := by
 cases r <;> simp only [aeff] at k ⊢
 case store s x v => exact okOr_mono (m _) k
 case box t x =>
  cases hc : (va x).cells? with
  | none => simp [hc, okCells] at k
  | some ds => simp only [hc, okCells] at k ⊢; exact fun b hb => m _ _ (k b hb)
 case alloc t z => exact fun b hb => m _ _ (k b hb)
 case mkmap => exact fun b hb => m _ _ (k b hb)
 case bsle t s l z ps =>
  cases hc : afill z (evParts va ps) with
  | none => simp [hc, okCells] at k
  | some ds => simp only [hc, okCells] at k ⊢; exact fun b hb => m _ _ (k b hb)
 case append t s b x y =>
  cases hc : aelems h s (va y) with
  | none => simp [hc, okElems] at k
  | some p => obtain ⟨n, l⟩ := p; simp only [hc, okElems] at k ⊢; exact ⟨k.1, aappend_mono m k.2⟩
 case appendz t b z x y =>
  split at k
  ·exact ⟨k.1, k.2.1, k.2.2.1, aappend_mono m k.2.2.2⟩
  ·exact k
 case mksl t b z x y =>
  split at k
  ·exact ⟨k.1, k.2.1, k.2.2.1, k.2.2.2.1, fun c hc => m _ _ (k.2.2.2.2 c hc)⟩
  ·exact k
 case mapup ks mm kk v =>
  split at k
  ·split at k
   ·split at k
    ·exact ⟨k.1, m _ _ k.2⟩
    ·exact k
   ·exact k
  ·exact k
 case call f args => exact k.mono m
 case callv f args =>
  split at k
  ·exact ⟨k.1, k.2.mono m⟩
  ·exact k
 case inv name x args =>
  split at k
  ·split at k
   ·exact ⟨k.1, k.2.mono m⟩
   ·exact k
  ·exact k
 case rng x =>
  unfold arng at k ⊢
  split at k
  ·exact fun b hb => m _ _ (k b hb)
  ·split at k
   ·exact fun bs c h1 h2 h3 b hb => m _ _ (k bs c h1 h2 h3 b hb)
   ·exact k
  ·exact k
 case nxt x =>
  unfold anxt at k ⊢
  split at k
  ·split at k
   ·exact m _ _ k
   ·split at k
    ·exact ⟨k.1, k.2.1, fun i e s h1 h2 h3 => m _ _ (k.2.2.1 i e s h1 h2 h3), fun h => m _ _ (k.2.2.2 h)⟩
    ·exact k
   ·exact k
  ·exact k
 case rngs x =>
  unfold arngs at k ⊢
  split at k
  ·exact fun b hb => m _ _ (k b hb)
  ·exact k
 case nxts x =>
  unfold anxts at k ⊢
  split at k
  ·split at k
   ·split at k
    ·rename_i hp; rw [if_pos hp]; exact fun wd hw => m _ _ (k wd hw)
    ·rename_i hp; rw [if_neg hp]; exact m _ _ k
   ·exact k
  ·exact k
def AHeap.single (b : Nat) (o : AObj) : AHeap := fun c => if c = b then some o else none
theorem join_single {h : AHeap} {b : Nat} {o : AObj} (hb : h b = none) : h.join (AHeap.single b o) = h.upd b o := by
 funext c
 simp only [AHeap.join, AHeap.single, AHeap.upd]
 by_cases hc : c = b
 ·subst hc; simp [hb]
 ·rw [if_neg hc, if_neg hc]; cases h c <;> rfl
theorem upd_comm (h : AHeap) {b c : Nat} (o p : AObj) (n : b ≠ c) : (h.upd b o).upd c p = (h.upd c p).upd b o := by
 funext d
 simp only [AHeap.upd]
 by_cases h1 : d = c
 ·subst h1; simp [Ne.symm n]
 ·simp [h1]
theorem del_upd_comm (h : AHeap) {b c : Nat} (o : AObj) (n : b ≠ c) : (h.upd b o).del c = (h.del c).upd b o := by
 funext d
 simp only [AHeap.upd, AHeap.del]
 by_cases h1 : d = c
 ·subst h1; simp [Ne.symm n]
 ·simp [h1]
theorem upd_none {h : AHeap} {b c : Nat} {o : AObj} (hc : (h.upd b o) c = none) : c ≠ b ∧ h c = none := by
 by_cases hb : c = b
 ·subst hb; rw [upd_same] at hc; cases hc
 ·exact ⟨hb, by rwa [upd_ne _ _ _ hb] at hc⟩
theorem afresh_frame {h : AHeap} {b : Nat} {o : AObj} (hb : h b = none) {x : AObj} {v : Nat → AV} {K : AV → AHeap → Prop} (k : ∀ c, h c = none → K (v c) (h.upd c x)) :
  ∀ c, (h.upd b o) c = none → ∃ g, g b = none ∧ (h.upd b o).upd c x = g.upd b o ∧ K (v c) g := by
 intro c hc
 obtain ⟨n, hc'⟩ := upd_none hc
 exact ⟨h.upd c x, by rw [upd_ne _ _ _ (Ne.symm n)]; exact hb, upd_comm h o x (Ne.symm n), k c hc'⟩
theorem aappend_frame {h : AHeap} {b : Nat} {o : AObj} (hb : h b = none) {ty : TypeId} {size bytes m : Nat} {s : AV} {xs : List AV} {K : AV → AHeap → Prop} (k : aappend h ty size bytes s m xs K) :
  aappend (h.upd b o) ty size bytes s m xs (fun v g' => ∃ g, g b = none ∧ g' = g.upd b o ∧ K v g) := by
 cases s <;> simp only [aappend] at k ⊢
 case sl es full =>
  refine ⟨fun e => ⟨h, hb, rfl, k.1 e⟩, fun e => ⟨(k.2 e).1, (k.2 e).2.1, (k.2 e).2.2.1, (k.2 e).2.2.2.imp (fun q c cap hc hcap => ?_) (fun q c cap hc hcap => ?_)⟩⟩
  ·obtain ⟨n, hc'⟩ := upd_none hc
   exact ⟨_, by rw [upd_ne _ _ _ (Ne.symm n)]; exact hb, upd_comm h o _ (Ne.symm n), q c cap hc' hcap⟩
  ·obtain ⟨n, hc'⟩ := upd_none hc
   exact ⟨_, by rw [upd_ne _ _ _ (Ne.symm n)]; exact hb, upd_comm h o _ (Ne.symm n), q c cap hc' hcap⟩
 case gs es b0 cap =>
  cases hb0 : h b0 with
  | none => simp [hb0] at k
  | some ob =>
   have hne : b0 ≠ b := by intro hh; subst hh; rw [hb] at hb0; cases hb0
   rw [upd_ne _ _ _ hne, hb0]
   rw [hb0] at k
   cases ob with
   | mp _ => exact k
   | mpc _ _ _ => exact k
   | it _ _ _ _ => exact k
   | sit _ _ => exact k
   | blk _ _ _ => exact k
   | tail q total ty' =>
    simp only at k ⊢
    refine ⟨k.1, k.2.1, k.2.2.1, k.2.2.2.1, k.2.2.2.2.1, k.2.2.2.2.2.1, fun b' cap' hb' hc => ?_⟩
    rw [del_upd_comm h o (Ne.symm hne)] at hb' ⊢
    obtain ⟨n, hc'⟩ := upd_none hb'
    refine ⟨_, ?_, upd_comm _ o _ (Ne.symm n), k.2.2.2.2.2.2 b' cap' hc' hc⟩
    rw [upd_ne _ _ _ (Ne.symm n), del_ne _ _ (Ne.symm hne)]; exact hb
 case os b0 n0 cap =>
  cases hb0 : h b0 with
  | none => simp [hb0] at k
  | some ob =>
   have hne : b0 ≠ b := by intro hh; subst hh; rw [hb] at hb0; cases hb0
   rw [upd_ne _ _ _ hne, hb0]
   rw [hb0] at k
   cases ob with
   | mp _ => exact k
   | mpc _ _ _ => exact k
   | it _ _ _ _ => exact k
   | sit _ _ => exact k
   | tail _ _ _ => exact k
   | blk cs total ty' =>
    simp only at k ⊢
    refine ⟨k.1, k.2.1, k.2.2.1, k.2.2.2.1, k.2.2.2.2.1, fun b' cap' hb' hc => ?_⟩
    rw [del_upd_comm h o (Ne.symm hne)] at hb' ⊢
    obtain ⟨n, hc'⟩ := upd_none hb'
    refine ⟨_, ?_, upd_comm _ o _ (Ne.symm n), k.2.2.2.2.2 b' cap' hc' hc⟩
    rw [upd_ne _ _ _ (Ne.symm n), del_ne _ _ (Ne.symm hne)]; exact hb
theorem acalls_frame1 [GI] {P : Program} {f : FuncId} {args : List AV} {h : AHeap} {b : Nat} {o : AObj} (hb : h b = none) {K : AV → AHeap → Prop} (k : ACalls P f args h K) : ACalls P f args (h.upd b o) (fun v g' => ∃ g, g b = none ∧ g' = g.upd b o ∧ K v g) := by
 have ha : h.apart (AHeap.single b o) := by
  intro c x hc
  simp only [AHeap.single]
  rw [if_neg]
  intro hh; subst hh; rw [hb] at hc; cases hc
 have := k.frame ha
 rw [join_single hb] at this
 refine this.mono ?_
 rintro r g' ⟨g, rfl, hap, hk⟩
 have hg : g b = none := by
  cases hgb : g b with
  | none => rfl
  | some x => have := hap b x hgb; simp [AHeap.single] at this
 exact ⟨g, hg, join_single hg, hk⟩
theorem astore_frame {h g : AHeap} {b : Nat} {o : AObj} (hb : h b = none) {s : Nat} {p v : AV} (hst : astore h s p v = some g) : g b = none ∧ astore (h.upd b o) s p v = some (g.upd b o) := by
 cases hc : v.cells? with
 | none => cases p <;> (try rename_i q; cases q) <;> simp [astore, hc] at hst
 | some ds =>
  cases p with
  | ptr q =>
   match q, hst with
   | none, hst => simp [astore, hc] at hst
   | some ⟨c, o', some z⟩, hst => simp [astore, hc] at hst
   | some ⟨c, o', none⟩, hst =>
    simp only [astore, hc] at hst ⊢
    cases hcc : h c with
    | none => simp [hcc] at hst
    | some ob =>
     have hne : c ≠ b := by intro hh; subst hh; rw [hb] at hcc; cases hcc
     rw [hcc] at hst
     rw [upd_ne _ _ _ hne, hcc]
     cases ob with
     | mp _ => cases hst
     | mpc _ _ _ => cases hst
     | it _ _ _ _ => cases hst
     | sit _ _ => cases hst
     | tail _ _ _ => cases hst
     | blk cs total ty =>
      simp only at hst ⊢
      split at hst
      ·rename_i hcond
       simp only [Option.some.injEq] at hst; subst hst
       rw [if_pos hcond]
       exact ⟨by rw [upd_ne _ _ _ (Ne.symm hne)]; exact hb, by rw [upd_comm h o _ (Ne.symm hne)]⟩
      ·cases hst
  | _ => simp [astore, hc] at hst
theorem aeff_frame [GI] {P : Program} {va : ROpd → AV} {h : AHeap} {b : Nat} {o : AObj} (hb : h b = none) {r : REff} {K : AV → AHeap → Prop} (k : aeff P va h K r) :
  aeff P va (h.upd b o) (fun v g' => ∃ g, g b = none ∧ g' = g.upd b o ∧ K v g) r := by
 cases r <;> simp only [aeff] at k ⊢
 case store s x v =>
  cases hst : astore h s (va x) (va v) with
  | none => simp [hst, okOr] at k
  | some g =>
   simp only [hst, okOr] at k
   have hst' := astore_frame (o := o) hb hst
   rw [hst'.2]
   exact ⟨g, hst'.1, rfl, k⟩
 case box t x =>
  cases hc : (va x).cells? with
  | none => simp [hc, okCells] at k
  | some ds => simp only [hc, okCells] at k ⊢; exact afresh_frame hb (v := fun b => .ptr (some ⟨b, 0, none⟩)) k
 case alloc t z => exact afresh_frame hb (v := fun b => .ptr (some ⟨b, 0, none⟩)) k
 case mkmap => exact afresh_frame hb (v := fun b => .map (some b)) k
 case bsle t s l z ps =>
  cases hc : afill z (evParts va ps) with
  | none => simp [hc, okCells] at k
  | some ds => simp only [hc, okCells] at k ⊢; exact afresh_frame hb (v := fun b => .os b l l) k
 case append t s by' x y =>
  cases hc : aelems h s (va y) with
  | none => simp [hc, okElems] at k
  | some p =>
   obtain ⟨n, l⟩ := p
   have hc' : aelems (h.upd b o) s (va y) = some (n, l) := by
    generalize va y = q at hc ⊢
    cases q <;> simp only [aelems] at hc ⊢ <;> try exact hc
    rename_i b0 n0 c0
    cases hb0 : h b0 with
    | none => simp [hb0] at hc
    | some ob =>
     have hne : b0 ≠ b := by intro hh; subst hh; rw [hb] at hb0; cases hb0
     rw [upd_ne _ _ _ hne, hb0]; rw [hb0] at hc; exact hc
   simp only [hc, hc', okElems] at k ⊢
   exact ⟨k.1, aappend_frame hb k.2⟩
 case appendz t by' z x y =>
  split at k
  ·exact ⟨k.1, k.2.1, k.2.2.1, aappend_frame hb k.2.2.2⟩
  ·exact k.elim
 case mksl t by' z x y =>
  split at k
  ·exact ⟨k.1, k.2.1, k.2.2.1, k.2.2.2.1, afresh_frame hb (v := fun b => .os b _ _) k.2.2.2.2⟩
  ·exact k.elim
 case mapup ks mm kk v =>
  split at k
  ·rename_i r hr
   cases hrr : h r with
   | none => simp [hrr] at k
   | some ob =>
    have hne : r ≠ b := by intro hh; subst hh; rw [hb] at hrr; cases hrr
    rw [upd_ne _ _ _ hne, hrr]
    rw [hrr] at k
    cases ob with
    | blk _ _ _ => exact k
    | tail _ _ _ => exact k
    | mpc _ _ _ => exact k
    | it _ _ _ _ => exact k
    | sit _ _ => exact k
    | mp es =>
     simp only at k ⊢
     split at k
     ·exact ⟨k.1, _, by rw [upd_ne _ _ _ (Ne.symm hne)]; exact hb, upd_comm h o _ (Ne.symm hne), k.2⟩
     ·exact k
  ·exact k
 case call f args => exact acalls_frame1 hb k
 case callv f args =>
  split at k
  ·exact ⟨k.1, acalls_frame1 hb k.2⟩
  ·exact k.elim
 case inv name x args =>
  split at k
  ·split at k
   ·exact ⟨k.1, acalls_frame1 hb k.2⟩
   ·exact k.elim
  ·exact k.elim
 case rng x =>
  generalize va x = p at k ⊢
  unfold arng at k ⊢
  split at k
  ·exact afresh_frame hb (v := fun b => .ptr (some ⟨b, 0, none⟩)) k
  ·rename_i m
   cases hm : h m with
   | none => simp [hm] at k
   | some ob =>
    have hne : m ≠ b := by intro hh; subst hh; rw [hb] at hm; cases hm
    rw [upd_ne _ _ _ hne, hm]
    rw [hm] at k
    cases ob with
    | blk _ _ _ => exact k
    | tail _ _ _ => exact k
    | mpc _ _ _ => exact k
    | it _ _ _ _ => exact k
    | sit _ _ => exact k
    | mp es =>
     simp only at k ⊢
     intro bs c h1 h2 h3 d hd
     obtain ⟨n, hd'⟩ := upd_none hd
     refine ⟨_, ?_, ?_, k bs c h1 h2 h3 d hd'⟩
     ·rw [upd_ne _ _ _ (Ne.symm n), upd_ne _ _ _ (Ne.symm hne)]; exact hb
     ·rw [upd_comm h o _ (Ne.symm hne), upd_comm _ o _ (Ne.symm n)]
  ·exact k.elim
 case nxt x =>
  generalize va x = p at k ⊢
  unfold anxt at k ⊢
  split at k
  ·rename_i c
   cases hc : h c with
   | none => simp [hc] at k
   | some ob =>
    have hne : c ≠ b := by intro hh; subst hh; rw [hb] at hc; cases hc
    rw [upd_ne _ _ _ hne, hc]
    rw [hc] at k
    cases ob with
    | blk _ _ _ => exact k
    | tail _ _ _ => exact k
    | mpc _ _ _ => exact k
    | mp _ => exact k
    | sit _ _ => exact k
    | it m since seen last =>
     cases m with
     | none => exact ⟨h, hb, rfl, k⟩
     | some m =>
      simp only at k ⊢
      cases hm : h m with
      | none => simp [hm] at k
      | some om =>
       have hnm : m ≠ b := by intro hh; subst hh; rw [hb] at hm; cases hm
       rw [upd_ne _ _ _ hnm, hm]
       rw [hm] at k
       cases om with
       | blk _ _ _ => exact k
       | tail _ _ _ => exact k
       | mp _ => exact k
       | it _ _ _ _ => exact k
       | sit _ _ => exact k
       | mpc es bs cl =>
        simp only at k ⊢
        exact ⟨k.1, k.2.1, fun i e s h1 h2 h3 => ⟨_, by rw [upd_ne _ _ _ (Ne.symm hne)]; exact hb, upd_comm h o _ (Ne.symm hne), k.2.2.1 i e s h1 h2 h3⟩, fun hh => ⟨h, hb, rfl, k.2.2.2 hh⟩⟩
  ·exact k.elim
 case rngs x =>
  generalize va x = p at k ⊢
  unfold arngs at k ⊢
  split at k
  ·exact afresh_frame hb (v := fun b => .ptr (some ⟨b, 0, none⟩)) k
  ·exact k.elim
 case nxts x =>
  generalize va x = p at k ⊢
  unfold anxts at k ⊢
  split at k
  ·rename_i c
   cases hc : h c with
   | none => simp [hc] at k
   | some ob =>
    have hne : c ≠ b := by intro hh; subst hh; rw [hb] at hc; cases hc
    rw [upd_ne _ _ _ hne, hc]
    rw [hc] at k
    cases ob with
    | blk _ _ _ => exact k
    | tail _ _ _ => exact k
    | mpc _ _ _ => exact k
    | mp _ => exact k
    | it _ _ _ _ => exact k
    | sit s pos =>
     simp only at k ⊢
     split at k
     ·rename_i hp
      rw [if_pos hp]
      exact fun wd hw => ⟨_, by rw [upd_ne _ _ _ (Ne.symm hne)]; exact hb, upd_comm h o _ (Ne.symm hne), k wd hw⟩
     ·rename_i hp
      rw [if_neg hp]
      exact ⟨h, hb, rfl, k⟩
  ·exact k.elim
end Pg
