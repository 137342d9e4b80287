import Derived.Test.YtdfbkddelhbgmaaGreatDoorCore13S3
set_option linter.all false
namespace Pg
open Go
def REff.oR : REff → Bool
 | .box _ _ | .alloc _ _ | .q9 | .vG _ _ _ _ _ => true
 | _ => false
def uI (va : aV → AV) : REff → Option ((Nat → AV) × AObj)
 | .box ty x => (va x).cells?.map fun ds => (fun b => .ptr (some ⟨b, 0, none⟩), .blk ds ds.length ty)
 | .alloc ty zero => some (fun b => .ptr (some ⟨b, 0, none⟩), .blk zero zero.length ty)
 | .q9 => some (fun b => .map (some b), .mp [])
 | .vG ty _ len zero parts => (mE zero (fO va parts)).map fun cs => (fun b => .os b len len, .blk cs cs.length ty)
 | _ => none
theorem EV [GI] {P : Program} {va : aV → AV} {h : AHeap} {q : REff} (hq : q.oR = true) {K : AV → AHeap → Prop} : eY P va h K q ↔ ∃ o, uI va q = some o ∧ ∀ b, h b = none → K (o.1 b) (h.upd b o.2) := by
 cases q <;> simp only [REff.oR, reduceCtorEq, Bool.false_eq_true] at hq
 case box ty x =>
  simp only [eY, uI]
  cases hc : (va x).cells? with
  | none => simp [gJ]
  | some ds => simp [gJ, iY]
 case alloc ty z => simp [eY, uI, iY]
 case q9 => simp [eY, uI, iY]
 case vG t s l z ps =>
  simp only [eY, uI]
  cases hc : mE z (fO va ps) with
  | none => simp [gJ]
  | some ds => simp [gJ, iY]
theorem U1 {va vb : aV → AV} {q : REff} (h : ∀ x ∈ q.pC, va x = vb x) : uI va q = uI vb q := by
 cases q <;> simp only [uI, REff.pC, List.mem_cons, List.not_mem_nil, or_false, forall_eq] at h ⊢
 case box t x => rw [h]
 case vG t s l z ps => rw [oQ h]
def skipOp : ROp := .rd (.mv (.c (.tuple [])))
def gF (ρ : Slots) (o : ROper) : Option ROp :=
 match o.guard with
 | none => some o.op
 | some (s, w) => match ρ s with
  | .bool b => if b = w then some o.op else some skipOp
  | .tuple [] => some skipOp
  | _ => none
def ROper.looks (o : ROper) : List Nat := slotsOf o.op.pC ++ (match o.guard with | some (s, _) => [s] | none => [])
abbrev Held := List (List Nat × (AHeap → Prop))
def mD (o : ROper) (T : List Nat) : Bool := o.looks.any fun s => T.contains s
def iQ (o : ROper) (T : List Nat) : List Nat := if mD o T = true then o.dst.toList ++ T else T
def kindOf (o : ROper) : Nat := match o.op with | .rd _ => 0 | .ef q => if q.oR then 1 else 2
def uB (o : ROper) (T : List Nat) : Bool := kindOf o == 2 && mD o T
def uQ (o : ROper) (T : List Nat) (p : AHeap → Prop) : AHeap → Prop := fun g => uB o T = true ∨ p g
def cG (o : ROper) (H : Held) : Held := H.map fun e => (iQ o e.1, uQ o e.1 e.2)
theorem aBk {o : ROper} {T : List Nat} {p : AHeap → Prop} {g : AHeap} (h : p g) : uQ o T p g := .inr h
theorem D7 {o : ROper} {T : List Nat} {p : AHeap → Prop} (h : uB o T = false) : uQ o T p = p := by funext g; simp [uQ, h]
theorem YS {o : ROper} (h : kindOf o = 0) (T : List Nat) : uB o T = false := by unfold uB; rw [h]; rfl
theorem GW {o : ROper} {T : List Nat} (h : mD o T = false) : uB o T = false := by unfold uB; rw [h, Bool.and_false]
def held (q : RRead) (d : Option Nat) (ρ : Slots) (av : AV) (H : Held) : Held := if q.still = true then H else (d.toList, fun g => bS (Slots.val ρ) g q = some av) :: H
def CF (o : ROper) (H : Held) (g : AHeap) : Prop := ∀ e ∈ H, e.2 g ∨ mD o e.1 = true
def tC (H : Held) : Prop := ∀ e ∈ H, ∀ g g', AHeap.le g g' → e.2 g → e.2 g'
theorem yP {q : RRead} {d : Option Nat} {ρ : Slots} {av : AV} {H : Held} (m : tC H) : tC (held q d ρ av H) := by
 intro p hp
 unfold held at hp
 split at hp
 ·exact m p hp
 ·rcases List.mem_cons.1 hp with rfl | hp
  ·intro g g' le k; exact CA le k
  ·exact m p hp
theorem pZ {o : ROper} {H : Held} (m : tC H) : tC (cG o H) := by
 intro p hp
 obtain ⟨e, he, rfl⟩ := List.mem_map.1 hp
 intro g g' le k
 exact k.imp id (m e he g g' le)
theorem kG (o : ROper) (T : List Nat) : mD o T = true ↔ ∃ s ∈ o.looks, s ∈ T := by
 unfold mD; rw [List.any_eq_true]; simp
theorem yQ {o : ROper} {S T : List Nat} (h : ∀ s, s ∈ S → s ∈ T) (k : mD o S = true) : mD o T = true := by
 rw [kG] at k ⊢
 obtain ⟨s, h1, h2⟩ := k
 exact ⟨s, h1, h s h2⟩
theorem vO (o : ROper) (T : List Nat) : ∀ s, s ∈ T → s ∈ iQ o T := by
 intro s hs; unfold iQ; split
 ·exact List.mem_append.2 (.inr hs)
 ·exact hs
theorem lH (o : ROper) (T : List Nat) (s : Nat) : s ∈ iQ o T ↔ s ∈ T ∨ (mD o T = true ∧ o.dst = some s) := by
 unfold iQ; split
 ·rename_i h
  rw [List.mem_append, Option.mem_toList]
  constructor
  ·rintro (h1 | h1)
   ·exact .inr ⟨h, h1⟩
   ·exact .inl h1
  ·rintro (h1 | ⟨_, h1⟩)
   ·exact .inr h1
   ·exact .inl h1
 ·rename_i h
  constructor
  ·exact .inl
  ·rintro (h1 | ⟨h1, _⟩)
   ·exact h1
   ·exact absurd h1 h
def zL (H2 H1 : Held) : Prop := ∀ e2 ∈ H2, ∃ e1 ∈ H1, (∀ g, e1.2 g → e2.2 g) ∧ ∀ s, s ∈ e1.1 → s ∈ e2.1
theorem zL.cG {H2 H1 : Held} (s : zL H2 H1) (o : ROper) : zL (cG o H2) (cG o H1) := by
 intro x hx
 obtain ⟨e2, h2, rfl⟩ := List.mem_map.1 hx
 obtain ⟨e1, h1, q1, q2⟩ := s e2 h2
 refine ⟨_, List.mem_map.2 ⟨e1, h1, rfl⟩, fun g k => k.imp (fun hk => ?_) (q1 g), fun n hn => ?_⟩
 ·unfold uB at hk ⊢
  rw [Bool.and_eq_true] at hk ⊢
  exact ⟨hk.1, yQ q2 hk.2⟩
 simp only [lH] at hn ⊢
 rcases hn with hn | ⟨hn, hd⟩
 ·exact .inl (q2 n hn)
 ·exact .inr ⟨yQ q2 hn, hd⟩
theorem zL.held {H2 H1 : Held} (s : zL H2 H1) (q : RRead) (d : Option Nat) (ρ : Slots) (av : AV) : zL (held q d ρ av H2) (held q d ρ av H1) := by
 intro x hx
 unfold Pg.held at hx ⊢
 split at hx
 ·rename_i hs; rw [if_pos hs]; exact s x hx
 ·rename_i hs; rw [if_neg hs]
  rcases List.mem_cons.1 hx with rfl | hx
  ·exact ⟨_, List.mem_cons_self, fun _ h => h, fun _ h => h⟩
  ·obtain ⟨e1, h1, q1⟩ := s x hx
   exact ⟨e1, List.mem_cons_of_mem _ h1, q1⟩
theorem zL.all {H2 H1 : Held} (s : zL H2 H1) {o : ROper} {g : AHeap} (k : CF o H1 g) : CF o H2 g := by
 intro e2 h2
 obtain ⟨e1, h1, q1, q2⟩ := s e2 h2
 rcases k e1 h1 with h | h
 ·exact .inl (q1 _ h)
 ·exact .inr (yQ q2 h)
def D [GI] (P : Program) : List ROper → Held → (Slots → AHeap → Prop) → Slots → AHeap → Prop
 | [], _, K, ρ, h => K ρ h
 | o :: r, H, K, ρ, h => match gF ρ o with
  | some (.rd q) => dJ (bS (Slots.val ρ) h q) fun av => D P r (held q o.dst ρ av (cG o H)) K (ρ.put o.dst av) h
  | some (.ef q) => eY P (Slots.val ρ) h (fun av g => (q.oR = true ∨ CF o H g) ∧ D P r (cG o H) K (ρ.put o.dst av) g) q
  | none => False
theorem FU [GI] {P : Program} : ∀ (L : List ROper) {H1 H2 : Held} {K : Slots → AHeap → Prop} {ρ : Slots} {h : AHeap}, zL H2 H1 → D P L H1 K ρ h → D P L H2 K ρ h
 | [], _, _, _, _, _, _, k => k
 | o :: r, H1, H2, K, ρ, h, s, k => by
  simp only [D] at k ⊢
  cases hq : gF ρ o with
  | none => simp [hq] at k
  | some qq =>
  simp only [hq] at k ⊢
  cases qq with
  | rd q =>
   simp only at k ⊢
   cases hr : bS (Slots.val ρ) h q with
   | none => simp [hr, dJ] at k
   | some av =>
    simp only [hr, dJ] at k ⊢
    exact FU r ((s.cG o).held q o.dst ρ av) k
  | ef q =>
   simp only at k ⊢
   refine n9 ?_ k
   rintro v g ⟨k1, k2⟩
   exact ⟨k1.imp id s.all, FU r (s.cG o) k2⟩
def RD (a i : ROper) : Bool :=
 (match a.dst with | some d => !(i.looks).contains d && i.dst != some d | none => true) && (match i.dst with | some d => !(a.looks).contains d | none => true)
def FJ (i : ROper) : Bool := i.guard.isNone && (match i.op with | .ef (.alloc _ _) | .ef .q9 => true | _ => false)
def allowed (a i : ROper) : Bool := RD a i && (kindOf a == 0 || FJ i)
theorem xL {i : ROper} (h : FJ i = true) (ρ : Slots) : ∃ q, gF ρ i = some (.ef q) ∧ q.oR = true ∧ ∀ va, ∃ o, uI va q = some o := by
 unfold FJ at h
 simp only [Bool.and_eq_true, Option.isNone_iff_eq_none] at h
 obtain ⟨hg, ho⟩ := h
 split at ho
 ·rename_i ty z hop; exact ⟨.alloc ty z, by unfold gF; rw [hg, hop], rfl, fun va => ⟨_, rfl⟩⟩
 ·rename_i hop; exact ⟨.q9, by unfold gF; rw [hg, hop], rfl, fun va => ⟨_, rfl⟩⟩
 ·cases ho
theorem U6 {a i : ROper} (h : RD a i = true) : (∀ d, a.dst = some d → d ∉ i.looks) ∧ (∀ d, i.dst = some d → d ∉ a.looks) ∧ (∀ d, a.dst = some d → i.dst ≠ some d) := by
 refine ⟨fun d hd => ?_, fun d hd => ?_, fun d hd => ?_⟩ <;> simp [RD, hd] at h
 ·exact h.1.1
 ·exact h.2
 ·exact h.1.2
theorem NJ {ρ : Slots} {d : Option Nat} {v : AV} {s : Nat} (h : ∀ t, d = some t → t ≠ s) : Slots.put ρ d v s = ρ s := by
 cases d with
 | none => rfl
 | some t => simp only [Slots.put]; rw [if_neg (fun hh => h t rfl hh.symm)]
theorem XQ {ρ : Slots} {d1 d2 : Option Nat} (v u : AV) (h : ∀ d, d1 = some d → d2 ≠ some d) : Slots.put (Slots.put ρ d1 v) d2 u = Slots.put (Slots.put ρ d2 u) d1 v := by
 cases d1 with
 | none => rfl
 | some a =>
  cases d2 with
  | none => rfl
  | some b =>
   have hne : a ≠ b := fun hh => h a rfl (hh ▸ rfl)
   funext s
   simp only [Slots.put]
   by_cases h1 : s = b
   ·subst h1; simp [Ne.symm hne]
   ·by_cases h2 : s = a
    ·subst h2; simp [h1]
    ·simp [h1, h2]
theorem VK {ρ : Slots} {d : Option Nat} {v : AV} {xs : List aV} (h : ∀ t, d = some t → t ∉ slotsOf xs) : ∀ x ∈ xs, Slots.val (ρ.put d v) x = Slots.val ρ x := by
 intro x hx
 cases x with
 | c v => rfl
 | t n =>
  simp only [Slots.val]
  refine NJ fun t ht hh => ?_
  subst hh
  exact h t ht (List.mem_flatMap.2 ⟨.t t, hx, by simp [aV.slots]⟩)
theorem K4 {ρ : Slots} {d : Option Nat} {v : AV} {o : ROper} (h : ∀ t, d = some t → t ∉ o.looks) : gF (ρ.put d v) o = gF ρ o := by
 unfold gF
 cases hg : o.guard with
 | none => rfl
 | some p =>
  obtain ⟨s, w⟩ := p
  simp only
  rw [NJ (ρ := ρ) (v := v) fun t ht hh => ?_]
  subst hh
  exact h t ht (by simp [ROper.looks, hg])
theorem HM {ρ : Slots} {o : ROper} {q : ROp} (h : gF ρ o = some q) : q = o.op ∨ q = skipOp := by
 unfold gF at h
 split at h
 ·cases h; exact .inl rfl
 ·split at h
  ·split at h <;> cases h
   ·exact .inl rfl
   ·exact .inr rfl
  ·cases h; exact .inr rfl
  ·cases h
theorem DL {ρ : Slots} {o : ROper} {q : ROp} (h : gF ρ o = some q) {d : Nat} (hd : d ∉ o.looks) : d ∉ slotsOf q.pC := by
 rcases HM h with rfl | rfl
 ·exact fun hh => hd (by simp [ROper.looks, hh])
 ·simp [skipOp, ROp.pC, RRead.pC, slotsOf, aV.slots]
theorem NN {ρ : Slots} {a : ROper} {q : REff} (h : gF ρ a = some (.ef q)) : kindOf a ≠ 0 := by
 rcases HM h with e | e
 ·unfold kindOf; rw [← e]; simp only; split <;> simp
 ·cases e
theorem GZ {a i : ROper} (s1 : ∀ d, a.dst = some d → d ∉ i.looks) (T : List Nat) : mD i (iQ a T) = mD i T := by
 rw [Bool.eq_iff_iff, kG, kG]
 constructor
 ·rintro ⟨x, hx, hy⟩
  rw [lH] at hy
  rcases hy with hy | ⟨_, hy⟩
  ·exact ⟨x, hx, hy⟩
  ·exact absurd hx (s1 x hy)
 ·rintro ⟨x, hx, hy⟩; exact ⟨x, hx, vO a T x hy⟩
theorem XG {a i : ROper} (s1 : ∀ d, a.dst = some d → d ∉ i.looks) (s2 : ∀ d, i.dst = some d → d ∉ a.looks) (T : List Nat) (s : Nat) : s ∈ iQ i (iQ a T) ↔ s ∈ iQ a (iQ i T) := by
 have h1 : mD i (iQ a T) = true ↔ mD i T = true := by
  rw [kG, kG]
  constructor
  ·rintro ⟨x, hx, hy⟩
   rw [lH] at hy
   rcases hy with hy | ⟨_, hy⟩
   ·exact ⟨x, hx, hy⟩
   ·exact absurd hx (s1 x hy)
  ·rintro ⟨x, hx, hy⟩; exact ⟨x, hx, vO a T x hy⟩
 have h2 : mD a (iQ i T) = true ↔ mD a T = true := by
  rw [kG, kG]
  constructor
  ·rintro ⟨x, hx, hy⟩
   rw [lH] at hy
   rcases hy with hy | ⟨_, hy⟩
   ·exact ⟨x, hx, hy⟩
   ·exact absurd hx (s2 x hy)
  ·rintro ⟨x, hx, hy⟩; exact ⟨x, hx, vO i T x hy⟩
 rw [lH, lH, lH, lH, h1, h2]
 constructor
 ·rintro ((h | h) | h)
  ·exact .inl (.inl h)
  ·exact .inr h
  ·exact .inl (.inr h)
 ·rintro ((h | h) | h)
  ·exact .inl (.inl h)
  ·exact .inr h
  ·exact .inl (.inr h)
theorem AW {a i : ROper} (s1 : ∀ d, a.dst = some d → d ∉ i.looks) (s2 : ∀ d, i.dst = some d → d ∉ a.looks) (H : Held) : zL (cG a (cG i H)) (cG i (cG a H)) := by
 intro x hx
 obtain ⟨y, hy, rfl⟩ := List.mem_map.1 hx
 obtain ⟨e, he, rfl⟩ := List.mem_map.1 hy
 refine ⟨_, List.mem_map.2 ⟨_, List.mem_map.2 ⟨e, he, rfl⟩, rfl⟩, fun g k => ?_, fun s hs => (XG s1 s2 e.1 s).1 hs⟩
 simp only [uQ, uB, GZ s1, GZ s2] at k ⊢
 rcases k with k | k | k
 ·exact .inr (.inl k)
 ·exact .inl k
 ·exact .inr (.inr k)
theorem NK {a i : ROper} (s1 : ∀ d, a.dst = some d → d ∉ i.looks) : mD i a.dst.toList = false := by
 cases h : mD i a.dst.toList with
 | false => rfl
 | true =>
  rw [kG] at h
  obtain ⟨s, h1, h2⟩ := h
  rw [Option.mem_toList] at h2
  exact absurd h1 (s1 s h2)
theorem MM {a i : ROper} (s1 : ∀ d, a.dst = some d → d ∉ i.looks) : iQ i a.dst.toList = a.dst.toList := by
 unfold iQ
 rw [if_neg]
 rw [kG]
 rintro ⟨s, h1, h2⟩
 rw [Option.mem_toList] at h2
 exact s1 s h2 h1
theorem swap [GI] {P : Program} {a i : ROper} {R : List ROper} {H : Held} {K : Slots → AHeap → Prop} {ρ : Slots} {h : AHeap} (m : tC H) (al : allowed a i = true) (k : D P (a :: i :: R) H K ρ h) : D P (i :: a :: R) H K ρ h := by
 simp only [allowed, Bool.and_eq_true, Bool.or_eq_true, beq_iff_eq] at al
 obtain ⟨hap, hkind⟩ := al
 obtain ⟨s1, s2, s3⟩ := U6 hap
 have comm : ∀ v u, Slots.put (Slots.put ρ a.dst v) i.dst u = Slots.put (Slots.put ρ i.dst u) a.dst v := fun v u => XQ v u s3
 have ai : ∀ v, gF (ρ.put a.dst v) i = gF ρ i := fun v => K4 s1
 have aa : ∀ v, gF (ρ.put i.dst v) a = gF ρ a := fun v => K4 s2
 simp only [D, ai] at k
 simp only [D, aa]
 cases hqa : gF ρ a with
 | none => simp [hqa] at k
 | some qa =>
  have va : ∀ v, ∀ x ∈ qa.pC, Slots.val (ρ.put i.dst v) x = Slots.val ρ x := fun v => VK fun t ht => DL hqa (s2 t ht)
  cases hqi : gF ρ i with
  | none =>
   simp only [hqa, hqi] at k
   cases qa with
   | rd q =>
    simp only at k
    cases hr : bS (Slots.val ρ) h q with
    | none => simp [hr, dJ] at k
    | some av => simp [hr, dJ] at k
   | ef q =>
    exfalso
    rcases hkind with h1 | h1
    ·exact NN hqa h1
    ·obtain ⟨q2, h2, _⟩ := xL h1 ρ; rw [hqi] at h2; cases h2
  | some qi =>
   have vi : ∀ v, ∀ x ∈ qi.pC, Slots.val (ρ.put a.dst v) x = Slots.val ρ x := fun v => VK fun t ht => DL hqi (s1 t ht)
   simp only [hqa, hqi] at k ⊢
   -- the facts, in both orders
   have stepA : ∀ (q : RRead) (av u : AV) (x : List Nat × (AHeap → Prop)), (∀ v, ∀ y ∈ q.pC, Slots.val (ρ.put i.dst v) y = Slots.val ρ y) → x ∈ held q a.dst (ρ.put i.dst u) av (cG a (cG i H)) → ∃ e1 ∈ cG i (held q a.dst ρ av (cG a H)), (∀ g, e1.2 g → x.2 g) ∧ ∀ s, s ∈ e1.1 → s ∈ x.1 := by
    intro q av u x hv hx
    have c1 : (fun g => bS (Slots.val (ρ.put i.dst u)) g q = some av) = (fun g => bS (Slots.val ρ) g q = some av) := by funext g; rw [nH (hv u)]
    unfold held at hx ⊢
    rw [c1] at hx
    split at hx
    ·rename_i hs; rw [if_pos hs]; exact AW s1 s2 H x hx
    ·rename_i hs; rw [if_neg hs]
     rcases List.mem_cons.1 hx with rfl | hx
     ·exact ⟨_, List.mem_map.2 ⟨_, List.mem_cons_self, rfl⟩, fun g k => by rw [D7 (GW (NK s1))] at k; exact k, fun s hs => by simp only [MM s1] at hs; exact hs⟩
     ·obtain ⟨e1, h1, q1⟩ := AW s1 s2 H x hx
      obtain ⟨e0, h0, rfl⟩ := List.mem_map.1 h1
      exact ⟨_, List.mem_map.2 ⟨e0, List.mem_cons_of_mem _ h0, rfl⟩, q1⟩
   cases qa with
   | rd q =>
    simp only at k ⊢
    cases hr : bS (Slots.val ρ) h q with
    | none => simp [hr, dJ] at k
    | some av =>
     simp only [hr, dJ] at k
     cases qi with
     | rd q2 =>
      simp only at k ⊢
      rw [nH (vi av)] at k
      cases hr2 : bS (Slots.val ρ) h q2 with
      | none => simp [hr2] at k
      | some iv =>
       simp only [hr2] at k
       simp only [dJ]
       rw [nH (va iv), hr]
       simp only
       rw [← comm]
       refine FU R ?_ k
       have c2 : (fun g => bS (Slots.val (ρ.put a.dst av)) g q2 = some iv) = (fun g => bS (Slots.val ρ) g q2 = some iv) := by funext g; rw [nH (vi av)]
       -- what the second read adds stands ahead in one order, behind in the other
       have key : ∀ x, x ∈ held q a.dst (ρ.put i.dst iv) av (cG a (held q2 i.dst ρ iv (cG i H))) → ∃ e1 ∈ held q2 i.dst (ρ.put a.dst av) iv (cG i (held q a.dst ρ av (cG a H))), (∀ g, e1.2 g → x.2 g) ∧ ∀ s, s ∈ e1.1 → s ∈ x.1 := by
        intro x hx
        have new : ∀ y, (q2.still = true → False) → y = (i.dst.toList, fun g => bS (Slots.val ρ) g q2 = some iv) → y ∈ held q2 i.dst (ρ.put a.dst av) iv (cG i (held q a.dst ρ av (cG a H))) := by
         rintro y hs rfl
         unfold held
         rw [if_neg hs, c2]
         exact List.mem_cons_self
        have old : ∀ e1, e1 ∈ cG i (held q a.dst ρ av (cG a H)) → e1 ∈ held q2 i.dst (ρ.put a.dst av) iv (cG i (held q a.dst ρ av (cG a H))) := by
         intro e1 h1
         generalize cG i (held q a.dst ρ av (cG a H)) = Z at h1 ⊢
         unfold held; split
         ·exact h1
         ·exact List.mem_cons_of_mem _ h1
        by_cases hs2 : q2.still = true
        ·have e0 : held q2 i.dst ρ iv (cG i H) = cG i H := by unfold held; rw [if_pos hs2]
         rw [e0] at hx
         obtain ⟨e1, h1, q1⟩ := stepA q av iv x va hx
         exact ⟨e1, old e1 h1, q1⟩
        ·have e0 : held q2 i.dst ρ iv (cG i H) = (i.dst.toList, fun g => bS (Slots.val ρ) g q2 = some iv) :: cG i H := by unfold held; rw [if_neg hs2]
         rw [e0] at hx
         have : x = (i.dst.toList, fun g => bS (Slots.val ρ) g q2 = some iv) ∨ x ∈ held q a.dst (ρ.put i.dst iv) av (cG a (cG i H)) := by
          unfold held at hx ⊢
          have e3 : cG a ((i.dst.toList, fun g => bS (Slots.val ρ) g q2 = some iv) :: cG i H) = (i.dst.toList, fun g => bS (Slots.val ρ) g q2 = some iv) :: cG a (cG i H) := by
           unfold cG; simp only [List.map_cons, MM s2, D7 (GW (NK s2))]
          rw [e3] at hx
          split at hx
          ·rename_i hs; rw [if_pos hs]; exact List.mem_cons.1 hx
          ·rename_i hs; rw [if_neg hs]
           rcases List.mem_cons.1 hx with h | h
           ·exact .inr (by rw [h]; exact List.mem_cons_self)
           ·rcases List.mem_cons.1 h with h | h
            ·exact .inl h
            ·exact .inr (List.mem_cons_of_mem _ h)
         rcases this with hx | hx
         ·exact ⟨x, new x (fun h => hs2 h) hx, fun _ h => h, fun _ h => h⟩
         ·obtain ⟨e1, h1, q1⟩ := stepA q av iv x va hx
          exact ⟨e1, old e1 h1, q1⟩
       exact key
     | ef q2 =>
      simp only at k ⊢
      rw [K3 (vi av)] at k
      by_cases hal : q2.oR = true
      ·rw [EV hal] at k ⊢
       obtain ⟨o, ho, hk⟩ := k
       refine ⟨o, ho, fun b hb => ?_⟩
       obtain ⟨k1, k2⟩ := hk b hb
       refine ⟨.inl hal, ?_⟩
       rw [nH (va _), CA (AHeap.b8 hb) hr]
       simp only [dJ]
       rw [← comm]
       exact FU R (fun x hx => stepA q av _ x va hx) k2
      ·refine n9 ?_ k
       rintro iv g ⟨k1, k2⟩
       have k1 : CF i (held q a.dst ρ av (cG a H)) g := by
        rcases k1 with k1 | k1
        ·exact absurd k1 hal
        ·exact k1
       have hka : kindOf a = 0 := by
        rcases hkind with h1 | h1
        ·exact h1
        ·obtain ⟨q3, h2, h3, _⟩ := xL h1 ρ
         rw [hqi] at h2; cases h2; exact absurd h3 hal
       have k0 : CF i H g := by
        intro e he
        have hmem : (iQ a e.1, e.2) ∈ held q a.dst ρ av (cG a H) := by
         have e0 : (iQ a e.1, uQ a e.1 e.2) ∈ held q a.dst ρ av (cG a H) := by
          unfold held; split
          ·exact List.mem_map.2 ⟨e, he, rfl⟩
          ·exact List.mem_cons_of_mem _ (List.mem_map.2 ⟨e, he, rfl⟩)
         rwa [D7 (YS hka _)] at e0
        rcases k1 _ hmem with h | h
        ·exact .inl h
        ·refine .inr ?_
         rw [kG] at h ⊢
         obtain ⟨x, hx, hy⟩ := h
         simp only [lH] at hy
         rcases hy with hy | ⟨_, hy⟩
         ·exact ⟨x, hx, hy⟩
         ·exact absurd hx (s1 x hy)
       refine ⟨.inr k0, ?_⟩
       have hrg : bS (Slots.val ρ) g q = some av := by
        by_cases hs : q.still = true
        ·rw [← U3 hs _ h g]; exact hr
        ·rcases k1 (a.dst.toList, fun g => bS (Slots.val ρ) g q = some av) (by unfold held; rw [if_neg hs]; exact List.mem_cons_self) with h1 | h1
         ·exact h1
         ·exfalso
          rw [kG] at h1
          obtain ⟨x, hx, hy⟩ := h1
          simp only [Option.mem_toList] at hy
          exact s1 x hy hx
       rw [nH (va _), hrg]
       simp only [dJ]
       rw [← comm]
       exact FU R (fun x hx => stepA q av _ x va hx) k2
   | ef q =>
    have hmov : FJ i = true := by
     rcases hkind with h1 | h1
     ·exact absurd h1 (NN hqa)
     ·exact h1
    obtain ⟨q2, h2, hal, hview⟩ := xL hmov ρ
    rw [hqi] at h2
    cases h2
    simp only at k ⊢
    have k' : eY P (Slots.val ρ) h (fun av g => (q.oR = true ∨ CF a H g) ∧ ∃ o, uI (Slots.val ρ) q2 = some o ∧ ∀ b, g b = none → D P R (cG i (cG a H)) K ((ρ.put a.dst av).put i.dst (o.1 b)) (g.upd b o.2)) q := by
     refine n9 ?_ k
     rintro av g ⟨k1, k2⟩
     rw [EV hal, U1 (vi av)] at k2
     obtain ⟨o, ho, hk⟩ := k2
     exact ⟨k1, o, ho, fun b hb => (hk b hb).2⟩
    rw [EV hal]
    obtain ⟨o, hv⟩ := hview (Slots.val ρ)
    refine ⟨o, hv, fun b hb => ⟨.inl hal, ?_⟩⟩
    rw [K3 (va _)]
    refine n9 ?_ (ZM (o := o.2) hb k')
    rintro av g' ⟨g, hg, rfl, k1, o', ho', hk⟩
    rw [hv] at ho'; cases ho'
    refine ⟨k1.imp id fun h1 p hp => ?_, ?_⟩
    ·obtain ⟨e, he, rfl⟩ := List.mem_map.1 hp
     rcases h1 e he with h2 | h2
     ·exact .inl (aBk (m e he g _ (AHeap.b8 hg) h2))
     ·exact .inr (yQ (vO i e.1) h2)
    ·rw [← comm]
     exact FU R (AW s1 s2 H) (hk b hg)
end Pg
