import Derived.Test.YtdfbkddelhbgmaaGreatDoorCore13S2
set_option linter.all false
namespace Pg
open Go
def REff.allocs : REff → Bool
 | .box _ _ | .alloc _ _ | .mkmap | .bsle _ _ _ _ _ => true
 | _ => false
def aview (va : ROpd → AV) : REff → Option ((Nat → AV) × AObj)
 | .box ty x => (va x).cells?.map fun ds => (fun b => .ptr (some ⟨b, 0, none⟩), .blk ds ds.length ty)
 | .alloc ty zero => some (fun b => .ptr (some ⟨b, 0, none⟩), .blk zero zero.length ty)
 | .mkmap => some (fun b => .map (some b), .mp [])
 | .bsle ty _ len zero parts => (afill zero (evParts va parts)).map fun cs => (fun b => .os b len len, .blk cs cs.length ty)
 | _ => none
theorem aeff_view [GI] {P : Program} {va : ROpd → AV} {h : AHeap} {q : REff} (hq : q.allocs = true) {K : AV → AHeap → Prop} : aeff P va h K q ↔ ∃ o, aview va q = some o ∧ ∀ b, h b = none → K (o.1 b) (h.upd b o.2) := by
 cases q <;> simp only [REff.allocs, reduceCtorEq, Bool.false_eq_true] at hq
 case box ty x =>
  simp only [aeff, aview]
  cases hc : (va x).cells? with
  | none => simp [okCells]
  | some ds => simp [okCells, afresh]
 case alloc ty z => simp [aeff, aview, afresh]
 case mkmap => simp [aeff, aview, afresh]
 case bsle t s l z ps =>
  simp only [aeff, aview]
  cases hc : afill z (evParts va ps) with
  | none => simp [okCells]
  | some ds => simp [okCells, afresh]
theorem aview_congr {va vb : ROpd → AV} {q : REff} (h : ∀ x ∈ q.opds, va x = vb x) : aview va q = aview vb q := by
 cases q <;> simp only [aview, REff.opds, List.mem_cons, List.not_mem_nil, or_false, forall_eq] at h ⊢
 case box t x => rw [h]
 case bsle t s l z ps => rw [evParts_congr h]
def skipOp : ROp := .rd (.mv (.c (.tuple [])))
def actual (ρ : Slots) (o : ROper) : Option ROp :=
 match o.guard with
 | none => some o.op
 | some (s, w) => match ρ s with
  | .bool b => if b = w then some o.op else some skipOp
  | .tuple [] => some skipOp
  | _ => none
def ROper.looks (o : ROper) : List Nat := slotsOf o.op.opds ++ (match o.guard with | some (s, _) => [s] | none => [])
abbrev Held := List (List Nat × (AHeap → Prop))
def hangs (o : ROper) (T : List Nat) : Bool := o.looks.any fun s => T.contains s
def taintS (o : ROper) (T : List Nat) : List Nat := if hangs o T = true then o.dst.toList ++ T else T
def kindOf (o : ROper) : Nat := match o.op with | .rd _ => 0 | .ef q => if q.allocs then 1 else 2
def kills (o : ROper) (T : List Nat) : Bool := kindOf o == 2 && hangs o T
def killed (o : ROper) (T : List Nat) (p : AHeap → Prop) : AHeap → Prop := fun g => kills o T = true ∨ p g
def taint (o : ROper) (H : Held) : Held := H.map fun e => (taintS o e.1, killed o e.1 e.2)
theorem killed_of {o : ROper} {T : List Nat} {p : AHeap → Prop} {g : AHeap} (h : p g) : killed o T p g := .inr h
theorem killed_no {o : ROper} {T : List Nat} {p : AHeap → Prop} (h : kills o T = false) : killed o T p = p := by funext g; simp [killed, h]
theorem kills_read {o : ROper} (h : kindOf o = 0) (T : List Nat) : kills o T = false := by unfold kills; rw [h]; rfl
theorem kills_hangs {o : ROper} {T : List Nat} (h : hangs o T = false) : kills o T = false := by unfold kills; rw [h, Bool.and_false]
def held (q : RRead) (d : Option Nat) (ρ : Slots) (av : AV) (H : Held) : Held := if q.still = true then H else (d.toList, fun g => aread (Slots.val ρ) g q = some av) :: H
def AllH (o : ROper) (H : Held) (g : AHeap) : Prop := ∀ e ∈ H, e.2 g ∨ hangs o e.1 = true
def MonoH (H : Held) : Prop := ∀ e ∈ H, ∀ g g', AHeap.le g g' → e.2 g → e.2 g'
theorem held_mono {q : RRead} {d : Option Nat} {ρ : Slots} {av : AV} {H : Held} (m : MonoH H) : MonoH (held q d ρ av H) := by
 intro p hp
 unfold held at hp
 split at hp
 ·exact m p hp
 ·rcases List.mem_cons.1 hp with rfl | hp
  ·intro g g' le k; exact aread_mono le k
  ·exact m p hp
theorem taint_mono {o : ROper} {H : Held} (m : MonoH H) : MonoH (taint o H) := by
 intro p hp
 obtain ⟨e, he, rfl⟩ := List.mem_map.1 hp
 intro g g' le k
 exact k.imp id (m e he g g' le)
theorem hangs_iff (o : ROper) (T : List Nat) : hangs o T = true ↔ ∃ s ∈ o.looks, s ∈ T := by
 unfold hangs; rw [List.any_eq_true]; simp
theorem hangs_sub {o : ROper} {S T : List Nat} (h : ∀ s, s ∈ S → s ∈ T) (k : hangs o S = true) : hangs o T = true := by
 rw [hangs_iff] at k ⊢
 obtain ⟨s, h1, h2⟩ := k
 exact ⟨s, h1, h s h2⟩
theorem taintS_sub (o : ROper) (T : List Nat) : ∀ s, s ∈ T → s ∈ taintS o T := by
 intro s hs; unfold taintS; split
 ·exact List.mem_append.2 (.inr hs)
 ·exact hs
theorem taintS_mem (o : ROper) (T : List Nat) (s : Nat) : s ∈ taintS o T ↔ s ∈ T ∨ (hangs o T = true ∧ o.dst = some s) := by
 unfold taintS; split
 ·rename_i h
  rw [List.mem_append, Option.mem_toList]
  constructor
  ·rintro (h1 | h1)
   ·exact .inr ⟨h, h1⟩
   ·exact .inl h1
  ·rintro (h1 | ⟨_, h1⟩)
   ·exact .inr h1
   ·exact .inl h1
 ·rename_i h
  constructor
  ·exact .inl
  ·rintro (h1 | ⟨h1, _⟩)
   ·exact h1
   ·exact absurd h1 h
def SubH (H2 H1 : Held) : Prop := ∀ e2 ∈ H2, ∃ e1 ∈ H1, (∀ g, e1.2 g → e2.2 g) ∧ ∀ s, s ∈ e1.1 → s ∈ e2.1
theorem SubH.taint {H2 H1 : Held} (s : SubH H2 H1) (o : ROper) : SubH (taint o H2) (taint o H1) := by
 intro x hx
 obtain ⟨e2, h2, rfl⟩ := List.mem_map.1 hx
 obtain ⟨e1, h1, q1, q2⟩ := s e2 h2
 refine ⟨_, List.mem_map.2 ⟨e1, h1, rfl⟩, fun g k => k.imp (fun hk => ?_) (q1 g), fun n hn => ?_⟩
 ·unfold kills at hk ⊢
  rw [Bool.and_eq_true] at hk ⊢
  exact ⟨hk.1, hangs_sub q2 hk.2⟩
 simp only [taintS_mem] at hn ⊢
 rcases hn with hn | ⟨hn, hd⟩
 ·exact .inl (q2 n hn)
 ·exact .inr ⟨hangs_sub q2 hn, hd⟩
theorem SubH.held {H2 H1 : Held} (s : SubH H2 H1) (q : RRead) (d : Option Nat) (ρ : Slots) (av : AV) : SubH (held q d ρ av H2) (held q d ρ av H1) := by
 intro x hx
 unfold Pg.held at hx ⊢
 split at hx
 ·rename_i hs; rw [if_pos hs]; exact s x hx
 ·rename_i hs; rw [if_neg hs]
  rcases List.mem_cons.1 hx with rfl | hx
  ·exact ⟨_, List.mem_cons_self, fun _ h => h, fun _ h => h⟩
  ·obtain ⟨e1, h1, q1⟩ := s x hx
   exact ⟨e1, List.mem_cons_of_mem _ h1, q1⟩
theorem SubH.all {H2 H1 : Held} (s : SubH H2 H1) {o : ROper} {g : AHeap} (k : AllH o H1 g) : AllH o H2 g := by
 intro e2 h2
 obtain ⟨e1, h1, q1, q2⟩ := s e2 h2
 rcases k e1 h1 with h | h
 ·exact .inl (q1 _ h)
 ·exact .inr (hangs_sub q2 h)
def D [GI] (P : Program) : List ROper → Held → (Slots → AHeap → Prop) → Slots → AHeap → Prop
 | [], _, K, ρ, h => K ρ h
 | o :: r, H, K, ρ, h => match actual ρ o with
  | some (.rd q) => okRead (aread (Slots.val ρ) h q) fun av => D P r (held q o.dst ρ av (taint o H)) K (ρ.put o.dst av) h
  | some (.ef q) => aeff P (Slots.val ρ) h (fun av g => (q.allocs = true ∨ AllH o H g) ∧ D P r (taint o H) K (ρ.put o.dst av) g) q
  | none => False
theorem D_sub [GI] {P : Program} : ∀ (L : List ROper) {H1 H2 : Held} {K : Slots → AHeap → Prop} {ρ : Slots} {h : AHeap}, SubH H2 H1 → D P L H1 K ρ h → D P L H2 K ρ h
 | [], _, _, _, _, _, _, k => k
 | o :: r, H1, H2, K, ρ, h, s, k => by
  simp only [D] at k ⊢
  cases hq : actual ρ o with
  | none => simp [hq] at k
  | some qq =>
  simp only [hq] at k ⊢
  cases qq with
  | rd q =>
   simp only at k ⊢
   cases hr : aread (Slots.val ρ) h q with
   | none => simp [hr, okRead] at k
   | some av =>
    simp only [hr, okRead] at k ⊢
    exact D_sub r ((s.taint o).held q o.dst ρ av) k
  | ef q =>
   simp only at k ⊢
   refine aeff_mono ?_ k
   rintro v g ⟨k1, k2⟩
   exact ⟨k1.imp id s.all, D_sub r (s.taint o) k2⟩
def apartO (a i : ROper) : Bool :=
 (match a.dst with | some d => !(i.looks).contains d && i.dst != some d | none => true) && (match i.dst with | some d => !(a.looks).contains d | none => true)
def movable (i : ROper) : Bool := i.guard.isNone && (match i.op with | .ef (.alloc _ _) | .ef .mkmap => true | _ => false)
def allowed (a i : ROper) : Bool := apartO a i && (kindOf a == 0 || movable i)
theorem movable_spec {i : ROper} (h : movable i = true) (ρ : Slots) : ∃ q, actual ρ i = some (.ef q) ∧ q.allocs = true ∧ ∀ va, ∃ o, aview va q = some o := by
 unfold movable at h
 simp only [Bool.and_eq_true, Option.isNone_iff_eq_none] at h
 obtain ⟨hg, ho⟩ := h
 split at ho
 ·rename_i ty z hop; exact ⟨.alloc ty z, by unfold actual; rw [hg, hop], rfl, fun va => ⟨_, rfl⟩⟩
 ·rename_i hop; exact ⟨.mkmap, by unfold actual; rw [hg, hop], rfl, fun va => ⟨_, rfl⟩⟩
 ·cases ho
theorem apartO_spec {a i : ROper} (h : apartO a i = true) : (∀ d, a.dst = some d → d ∉ i.looks) ∧ (∀ d, i.dst = some d → d ∉ a.looks) ∧ (∀ d, a.dst = some d → i.dst ≠ some d) := by
 refine ⟨fun d hd => ?_, fun d hd => ?_, fun d hd => ?_⟩ <;> simp [apartO, hd] at h
 ·exact h.1.1
 ·exact h.2
 ·exact h.1.2
theorem put_other {ρ : Slots} {d : Option Nat} {v : AV} {s : Nat} (h : ∀ t, d = some t → t ≠ s) : Slots.put ρ d v s = ρ s := by
 cases d with
 | none => rfl
 | some t => simp only [Slots.put]; rw [if_neg (fun hh => h t rfl hh.symm)]
theorem slots_comm {ρ : Slots} {d1 d2 : Option Nat} (v u : AV) (h : ∀ d, d1 = some d → d2 ≠ some d) : Slots.put (Slots.put ρ d1 v) d2 u = Slots.put (Slots.put ρ d2 u) d1 v := by
 cases d1 with
 | none => rfl
 | some a =>
  cases d2 with
  | none => rfl
  | some b =>
   have hne : a ≠ b := fun hh => h a rfl (hh ▸ rfl)
   funext s
   simp only [Slots.put]
   by_cases h1 : s = b
   ·subst h1; simp [Ne.symm hne]
   ·by_cases h2 : s = a
    ·subst h2; simp [h1]
    ·simp [h1, h2]
theorem val_put {ρ : Slots} {d : Option Nat} {v : AV} {xs : List ROpd} (h : ∀ t, d = some t → t ∉ slotsOf xs) : ∀ x ∈ xs, Slots.val (ρ.put d v) x = Slots.val ρ x := by
 intro x hx
 cases x with
 | c v => rfl
 | t n =>
  simp only [Slots.val]
  refine put_other fun t ht hh => ?_
  subst hh
  exact h t ht (List.mem_flatMap.2 ⟨.t t, hx, by simp [ROpd.slots]⟩)
theorem actual_put {ρ : Slots} {d : Option Nat} {v : AV} {o : ROper} (h : ∀ t, d = some t → t ∉ o.looks) : actual (ρ.put d v) o = actual ρ o := by
 unfold actual
 cases hg : o.guard with
 | none => rfl
 | some p =>
  obtain ⟨s, w⟩ := p
  simp only
  rw [put_other (ρ := ρ) (v := v) fun t ht hh => ?_]
  subst hh
  exact h t ht (by simp [ROper.looks, hg])
theorem actual_opds {ρ : Slots} {o : ROper} {q : ROp} (h : actual ρ o = some q) : q = o.op ∨ q = skipOp := by
 unfold actual at h
 split at h
 ·cases h; exact .inl rfl
 ·split at h
  ·split at h <;> cases h
   ·exact .inl rfl
   ·exact .inr rfl
  ·cases h; exact .inr rfl
  ·cases h
theorem slots_actual {ρ : Slots} {o : ROper} {q : ROp} (h : actual ρ o = some q) {d : Nat} (hd : d ∉ o.looks) : d ∉ slotsOf q.opds := by
 rcases actual_opds h with rfl | rfl
 ·exact fun hh => hd (by simp [ROper.looks, hh])
 ·simp [skipOp, ROp.opds, RRead.opds, slotsOf, ROpd.slots]
theorem kind_zero {ρ : Slots} {a : ROper} {q : REff} (h : actual ρ a = some (.ef q)) : kindOf a ≠ 0 := by
 rcases actual_opds h with e | e
 ·unfold kindOf; rw [← e]; simp only; split <;> simp
 ·cases e
theorem hangs_apart {a i : ROper} (s1 : ∀ d, a.dst = some d → d ∉ i.looks) (T : List Nat) : hangs i (taintS a T) = hangs i T := by
 rw [Bool.eq_iff_iff, hangs_iff, hangs_iff]
 constructor
 ·rintro ⟨x, hx, hy⟩
  rw [taintS_mem] at hy
  rcases hy with hy | ⟨_, hy⟩
  ·exact ⟨x, hx, hy⟩
  ·exact absurd hx (s1 x hy)
 ·rintro ⟨x, hx, hy⟩; exact ⟨x, hx, taintS_sub a T x hy⟩
theorem taint_swap {a i : ROper} (s1 : ∀ d, a.dst = some d → d ∉ i.looks) (s2 : ∀ d, i.dst = some d → d ∉ a.looks) (T : List Nat) (s : Nat) : s ∈ taintS i (taintS a T) ↔ s ∈ taintS a (taintS i T) := by
 have h1 : hangs i (taintS a T) = true ↔ hangs i T = true := by
  rw [hangs_iff, hangs_iff]
  constructor
  ·rintro ⟨x, hx, hy⟩
   rw [taintS_mem] at hy
   rcases hy with hy | ⟨_, hy⟩
   ·exact ⟨x, hx, hy⟩
   ·exact absurd hx (s1 x hy)
  ·rintro ⟨x, hx, hy⟩; exact ⟨x, hx, taintS_sub a T x hy⟩
 have h2 : hangs a (taintS i T) = true ↔ hangs a T = true := by
  rw [hangs_iff, hangs_iff]
  constructor
  ·rintro ⟨x, hx, hy⟩
   rw [taintS_mem] at hy
   rcases hy with hy | ⟨_, hy⟩
   ·exact ⟨x, hx, hy⟩
   ·exact absurd hx (s2 x hy)
  ·rintro ⟨x, hx, hy⟩; exact ⟨x, hx, taintS_sub i T x hy⟩
 rw [taintS_mem, taintS_mem, taintS_mem, taintS_mem, h1, h2]
 constructor
 ·rintro ((h | h) | h)
  ·exact .inl (.inl h)
  ·exact .inr h
  ·exact .inl (.inr h)
 ·rintro ((h | h) | h)
  ·exact .inl (.inl h)
  ·exact .inr h
  ·exact .inl (.inr h)
theorem taint_comm {a i : ROper} (s1 : ∀ d, a.dst = some d → d ∉ i.looks) (s2 : ∀ d, i.dst = some d → d ∉ a.looks) (H : Held) : SubH (taint a (taint i H)) (taint i (taint a H)) := by
 intro x hx
 obtain ⟨y, hy, rfl⟩ := List.mem_map.1 hx
 obtain ⟨e, he, rfl⟩ := List.mem_map.1 hy
 refine ⟨_, List.mem_map.2 ⟨_, List.mem_map.2 ⟨e, he, rfl⟩, rfl⟩, fun g k => ?_, fun s hs => (taint_swap s1 s2 e.1 s).1 hs⟩
 simp only [killed, kills, hangs_apart s1, hangs_apart s2] at k ⊢
 rcases k with k | k | k
 ·exact .inr (.inl k)
 ·exact .inl k
 ·exact .inr (.inr k)
theorem own_hangs {a i : ROper} (s1 : ∀ d, a.dst = some d → d ∉ i.looks) : hangs i a.dst.toList = false := by
 cases h : hangs i a.dst.toList with
 | false => rfl
 | true =>
  rw [hangs_iff] at h
  obtain ⟨s, h1, h2⟩ := h
  rw [Option.mem_toList] at h2
  exact absurd h1 (s1 s h2)
theorem taint_own {a i : ROper} (s1 : ∀ d, a.dst = some d → d ∉ i.looks) : taintS i a.dst.toList = a.dst.toList := by
 unfold taintS
 rw [if_neg]
 rw [hangs_iff]
 rintro ⟨s, h1, h2⟩
 rw [Option.mem_toList] at h2
 exact s1 s h2 h1
theorem swap [GI] {P : Program} {a i : ROper} {R : List ROper} {H : Held} {K : Slots → AHeap → Prop} {ρ : Slots} {h : AHeap} (m : MonoH H) (al : allowed a i = true) (k : D P (a :: i :: R) H K ρ h) : D P (i :: a :: R) H K ρ h := by
 simp only [allowed, Bool.and_eq_true, Bool.or_eq_true, beq_iff_eq] at al
 obtain ⟨hap, hkind⟩ := al
 obtain ⟨s1, s2, s3⟩ := apartO_spec hap
 have comm : ∀ v u, Slots.put (Slots.put ρ a.dst v) i.dst u = Slots.put (Slots.put ρ i.dst u) a.dst v := fun v u => slots_comm v u s3
 have ai : ∀ v, actual (ρ.put a.dst v) i = actual ρ i := fun v => actual_put s1
 have aa : ∀ v, actual (ρ.put i.dst v) a = actual ρ a := fun v => actual_put s2
 simp only [D, ai] at k
 simp only [D, aa]
 cases hqa : actual ρ a with
 | none => simp [hqa] at k
 | some qa =>
  have va : ∀ v, ∀ x ∈ qa.opds, Slots.val (ρ.put i.dst v) x = Slots.val ρ x := fun v => val_put fun t ht => slots_actual hqa (s2 t ht)
  cases hqi : actual ρ i with
  | none =>
   simp only [hqa, hqi] at k
   cases qa with
   | rd q =>
    simp only at k
    cases hr : aread (Slots.val ρ) h q with
    | none => simp [hr, okRead] at k
    | some av => simp [hr, okRead] at k
   | ef q =>
    exfalso
    rcases hkind with h1 | h1
    ·exact kind_zero hqa h1
    ·obtain ⟨q2, h2, _⟩ := movable_spec h1 ρ; rw [hqi] at h2; cases h2
  | some qi =>
   have vi : ∀ v, ∀ x ∈ qi.opds, Slots.val (ρ.put a.dst v) x = Slots.val ρ x := fun v => val_put fun t ht => slots_actual hqi (s1 t ht)
   simp only [hqa, hqi] at k ⊢
   -- the facts, in both orders
   have stepA : ∀ (q : RRead) (av u : AV) (x : List Nat × (AHeap → Prop)), (∀ v, ∀ y ∈ q.opds, Slots.val (ρ.put i.dst v) y = Slots.val ρ y) → x ∈ held q a.dst (ρ.put i.dst u) av (taint a (taint i H)) → ∃ e1 ∈ taint i (held q a.dst ρ av (taint a H)), (∀ g, e1.2 g → x.2 g) ∧ ∀ s, s ∈ e1.1 → s ∈ x.1 := by
    intro q av u x hv hx
    have c1 : (fun g => aread (Slots.val (ρ.put i.dst u)) g q = some av) = (fun g => aread (Slots.val ρ) g q = some av) := by funext g; rw [aread_congr (hv u)]
    unfold held at hx ⊢
    rw [c1] at hx
    split at hx
    ·rename_i hs; rw [if_pos hs]; exact taint_comm s1 s2 H x hx
    ·rename_i hs; rw [if_neg hs]
     rcases List.mem_cons.1 hx with rfl | hx
     ·exact ⟨_, List.mem_map.2 ⟨_, List.mem_cons_self, rfl⟩, fun g k => by rw [killed_no (kills_hangs (own_hangs s1))] at k; exact k, fun s hs => by simp only [taint_own s1] at hs; exact hs⟩
     ·obtain ⟨e1, h1, q1⟩ := taint_comm s1 s2 H x hx
      obtain ⟨e0, h0, rfl⟩ := List.mem_map.1 h1
      exact ⟨_, List.mem_map.2 ⟨e0, List.mem_cons_of_mem _ h0, rfl⟩, q1⟩
   cases qa with
   | rd q =>
    simp only at k ⊢
    cases hr : aread (Slots.val ρ) h q with
    | none => simp [hr, okRead] at k
    | some av =>
     simp only [hr, okRead] at k
     cases qi with
     | rd q2 =>
      simp only at k ⊢
      rw [aread_congr (vi av)] at k
      cases hr2 : aread (Slots.val ρ) h q2 with
      | none => simp [hr2] at k
      | some iv =>
       simp only [hr2] at k
       simp only [okRead]
       rw [aread_congr (va iv), hr]
       simp only
       rw [← comm]
       refine D_sub R ?_ k
       have c2 : (fun g => aread (Slots.val (ρ.put a.dst av)) g q2 = some iv) = (fun g => aread (Slots.val ρ) g q2 = some iv) := by funext g; rw [aread_congr (vi av)]
       -- what the second read adds stands ahead in one order, behind in the other
       have key : ∀ x, x ∈ held q a.dst (ρ.put i.dst iv) av (taint a (held q2 i.dst ρ iv (taint i H))) → ∃ e1 ∈ held q2 i.dst (ρ.put a.dst av) iv (taint i (held q a.dst ρ av (taint a H))), (∀ g, e1.2 g → x.2 g) ∧ ∀ s, s ∈ e1.1 → s ∈ x.1 := by
        intro x hx
        have new : ∀ y, (q2.still = true → False) → y = (i.dst.toList, fun g => aread (Slots.val ρ) g q2 = some iv) → y ∈ held q2 i.dst (ρ.put a.dst av) iv (taint i (held q a.dst ρ av (taint a H))) := by
         rintro y hs rfl
         unfold held
         rw [if_neg hs, c2]
         exact List.mem_cons_self
        have old : ∀ e1, e1 ∈ taint i (held q a.dst ρ av (taint a H)) → e1 ∈ held q2 i.dst (ρ.put a.dst av) iv (taint i (held q a.dst ρ av (taint a H))) := by
         intro e1 h1
         generalize taint i (held q a.dst ρ av (taint a H)) = Z at h1 ⊢
         unfold held; split
         ·exact h1
         ·exact List.mem_cons_of_mem _ h1
        by_cases hs2 : q2.still = true
        ·have e0 : held q2 i.dst ρ iv (taint i H) = taint i H := by unfold held; rw [if_pos hs2]
         rw [e0] at hx
         obtain ⟨e1, h1, q1⟩ := stepA q av iv x va hx
         exact ⟨e1, old e1 h1, q1⟩
        ·have e0 : held q2 i.dst ρ iv (taint i H) = (i.dst.toList, fun g => aread (Slots.val ρ) g q2 = some iv) :: taint i H := by unfold held; rw [if_neg hs2]
         rw [e0] at hx
         have : x = (i.dst.toList, fun g => aread (Slots.val ρ) g q2 = some iv) ∨ x ∈ held q a.dst (ρ.put i.dst iv) av (taint a (taint i H)) := by
          unfold held at hx ⊢
          have e3 : taint a ((i.dst.toList, fun g => aread (Slots.val ρ) g q2 = some iv) :: taint i H) = (i.dst.toList, fun g => aread (Slots.val ρ) g q2 = some iv) :: taint a (taint i H) := by
           unfold taint; simp only [List.map_cons, taint_own s2, killed_no (kills_hangs (own_hangs s2))]
          rw [e3] at hx
          split at hx
          ·rename_i hs; rw [if_pos hs]; exact List.mem_cons.1 hx
          ·rename_i hs; rw [if_neg hs]
           rcases List.mem_cons.1 hx with h | h
           ·exact .inr (by rw [h]; exact List.mem_cons_self)
           ·rcases List.mem_cons.1 h with h | h
            ·exact .inl h
            ·exact .inr (List.mem_cons_of_mem _ h)
         rcases this with hx | hx
         ·exact ⟨x, new x (fun h => hs2 h) hx, fun _ h => h, fun _ h => h⟩
         ·obtain ⟨e1, h1, q1⟩ := stepA q av iv x va hx
          exact ⟨e1, old e1 h1, q1⟩
       exact key
     | ef q2 =>
      simp only at k ⊢
      rw [aeff_congr (vi av)] at k
      by_cases hal : q2.allocs = true
      ·rw [aeff_view hal] at k ⊢
       obtain ⟨o, ho, hk⟩ := k
       refine ⟨o, ho, fun b hb => ?_⟩
       obtain ⟨k1, k2⟩ := hk b hb
       refine ⟨.inl hal, ?_⟩
       rw [aread_congr (va _), aread_mono (AHeap.le_upd hb) hr]
       simp only [okRead]
       rw [← comm]
       exact D_sub R (fun x hx => stepA q av _ x va hx) k2
      ·refine aeff_mono ?_ k
       rintro iv g ⟨k1, k2⟩
       have k1 : AllH i (held q a.dst ρ av (taint a H)) g := by
        rcases k1 with k1 | k1
        ·exact absurd k1 hal
        ·exact k1
       have hka : kindOf a = 0 := by
        rcases hkind with h1 | h1
        ·exact h1
        ·obtain ⟨q3, h2, h3, _⟩ := movable_spec h1 ρ
         rw [hqi] at h2; cases h2; exact absurd h3 hal
       have k0 : AllH i H g := by
        intro e he
        have hmem : (taintS a e.1, e.2) ∈ held q a.dst ρ av (taint a H) := by
         have e0 : (taintS a e.1, killed a e.1 e.2) ∈ held q a.dst ρ av (taint a H) := by
          unfold held; split
          ·exact List.mem_map.2 ⟨e, he, rfl⟩
          ·exact List.mem_cons_of_mem _ (List.mem_map.2 ⟨e, he, rfl⟩)
         rwa [killed_no (kills_read hka _)] at e0
        rcases k1 _ hmem with h | h
        ·exact .inl h
        ·refine .inr ?_
         rw [hangs_iff] at h ⊢
         obtain ⟨x, hx, hy⟩ := h
         simp only [taintS_mem] at hy
         rcases hy with hy | ⟨_, hy⟩
         ·exact ⟨x, hx, hy⟩
         ·exact absurd hx (s1 x hy)
       refine ⟨.inr k0, ?_⟩
       have hrg : aread (Slots.val ρ) g q = some av := by
        by_cases hs : q.still = true
        ·rw [← aread_still hs _ h g]; exact hr
        ·rcases k1 (a.dst.toList, fun g => aread (Slots.val ρ) g q = some av) (by unfold held; rw [if_neg hs]; exact List.mem_cons_self) with h1 | h1
         ·exact h1
         ·exfalso
          rw [hangs_iff] at h1
          obtain ⟨x, hx, hy⟩ := h1
          simp only [Option.mem_toList] at hy
          exact s1 x hy hx
       rw [aread_congr (va _), hrg]
       simp only [okRead]
       rw [← comm]
       exact D_sub R (fun x hx => stepA q av _ x va hx) k2
   | ef q =>
    have hmov : movable i = true := by
     rcases hkind with h1 | h1
     ·exact absurd h1 (kind_zero hqa)
     ·exact h1
    obtain ⟨q2, h2, hal, hview⟩ := movable_spec hmov ρ
    rw [hqi] at h2
    cases h2
    simp only at k ⊢
    have k' : aeff P (Slots.val ρ) h (fun av g => (q.allocs = true ∨ AllH a H g) ∧ ∃ o, aview (Slots.val ρ) q2 = some o ∧ ∀ b, g b = none → D P R (taint i (taint a H)) K ((ρ.put a.dst av).put i.dst (o.1 b)) (g.upd b o.2)) q := by
     refine aeff_mono ?_ k
     rintro av g ⟨k1, k2⟩
     rw [aeff_view hal, aview_congr (vi av)] at k2
     obtain ⟨o, ho, hk⟩ := k2
     exact ⟨k1, o, ho, fun b hb => (hk b hb).2⟩
    rw [aeff_view hal]
    obtain ⟨o, hv⟩ := hview (Slots.val ρ)
    refine ⟨o, hv, fun b hb => ⟨.inl hal, ?_⟩⟩
    rw [aeff_congr (va _)]
    refine aeff_mono ?_ (aeff_frame (o := o.2) hb k')
    rintro av g' ⟨g, hg, rfl, k1, o', ho', hk⟩
    rw [hv] at ho'; cases ho'
    refine ⟨k1.imp id fun h1 p hp => ?_, ?_⟩
    ·obtain ⟨e, he, rfl⟩ := List.mem_map.1 hp
     rcases h1 e he with h2 | h2
     ·exact .inl (killed_of (m e he g _ (AHeap.le_upd hg) h2))
     ·exact .inr (hangs_sub (taintS_sub i e.1) h2)
    ·rw [← comm]
     exact D_sub R (taint_comm s1 s2 H) (hk b hg)
end Pg
