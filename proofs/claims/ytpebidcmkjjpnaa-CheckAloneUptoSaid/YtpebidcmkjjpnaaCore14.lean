import Derived.Test.YtpebidcmkjjpnaaCore13
set_option linter.unusedSimpArgs false
set_option linter.unusedVariables false
/- The core, fourteenth part: regions whose order is drawn: the exchange of neighbours, and the theorem. -/
namespace Pg
open Go

def REff.allocs : REff → Bool
  | .box _ _ | .alloc _ _ | .mkmap | .bsle _ _ _ _ _ => true
  | _ => false
/-- What an allocation lays. -/
def aview (va : ROpd → AV) : REff → Option ((Nat → AV) × AObj)
  | .box ty x => (va x).cells?.map fun ds => (fun b => .ptr (some ⟨b, 0, none⟩), .blk ds ds.length ty)
  | .alloc ty zero => some (fun b => .ptr (some ⟨b, 0, none⟩), .blk zero zero.length ty)
  | .mkmap => some (fun b => .map (some b), .mp [])
  | .bsle ty _ len zero parts => (afill zero (evParts va parts)).map fun cs => (fun b => .os b len len, .blk cs cs.length ty)
  | _ => none
theorem aeff_view {P : Program} {va : ROpd → AV} {h : AHeap} {q : REff} (hq : q.allocs = true) {K : AV → AHeap → Prop} : aeff P va h K q ↔ ∃ o, aview va q = some o ∧ ∀ b, h b = none → K (o.1 b) (h.upd b o.2) := by
  cases q <;> simp only [REff.allocs, reduceCtorEq, Bool.false_eq_true] at hq
  case box ty x =>
    simp only [aeff, aview]
    cases hc : (va x).cells? with
    | none => simp [okCells]
    | some ds => simp [okCells, afresh]
  case alloc ty z => simp [aeff, aview, afresh]
  case mkmap => simp [aeff, aview, afresh]
  case bsle t s l z ps =>
    simp only [aeff, aview]
    cases hc : afill z (evParts va ps) with
    | none => simp [okCells]
    | some ds => simp [okCells, afresh]
theorem aview_congr {va vb : ROpd → AV} {q : REff} (h : ∀ x ∈ q.opds, va x = vb x) : aview va q = aview vb q := by
  cases q <;> simp only [aview, REff.opds, List.mem_cons, List.not_mem_nil, or_false, forall_eq] at h ⊢
  case box t x => rw [h]
  case bsle t s l z ps => rw [evParts_congr h]

def skipOp : ROp := .rd (.mv (.c (.tuple [])))
/-- What an operation comes to: itself, or nothing at all. -/
def actual (ρ : Slots) (o : ROper) : Option ROp :=
  match o.guard with
  | none => some o.op
  | some (s, w) => match ρ s with
    | .bool b => if b = w then some o.op else some skipOp
    | .tuple [] => some skipOp
    | _ => none
def held (q : RRead) (ρ : Slots) (av : AV) (H : List (AHeap → Prop)) : List (AHeap → Prop) := if q.still = true then H else (fun g => aread (Slots.val ρ) g q = some av) :: H
def AllH (H : List (AHeap → Prop)) (g : AHeap) : Prop := ∀ p ∈ H, p g
def MonoH (H : List (AHeap → Prop)) : Prop := ∀ p ∈ H, ∀ g g', AHeap.le g g' → p g → p g'
theorem held_sub (q : RRead) (ρ : Slots) (av : AV) (H : List (AHeap → Prop)) : ∀ p ∈ H, p ∈ held q ρ av H := by
  intro p hp; unfold held; split
  · exact hp
  · exact List.mem_cons_of_mem _ hp
theorem held_mono {q : RRead} {ρ : Slots} {av : AV} {H : List (AHeap → Prop)} (m : MonoH H) : MonoH (held q ρ av H) := by
  intro p hp
  unfold held at hp
  split at hp
  · exact m p hp
  · rcases List.mem_cons.1 hp with rfl | hp
    · intro g g' le k; exact aread_mono le k
    · exact m p hp

def D (P : Program) : List ROper → List (AHeap → Prop) → (Slots → AHeap → Prop) → Slots → AHeap → Prop
  | [], _, K, ρ, h => K ρ h
  | o :: r, H, K, ρ, h => match actual ρ o with
    | some (.rd q) => okRead (aread (Slots.val ρ) h q) fun av => D P r (held q ρ av H) K (ρ.put o.dst av) h
    | some (.ef q) => aeff P (Slots.val ρ) h (fun av g => (q.allocs = true ∨ AllH H g) ∧ D P r H K (ρ.put o.dst av) g) q
    | none => False

theorem D_sub {P : Program} : ∀ (L : List ROper) {H1 H2 : List (AHeap → Prop)} {K : Slots → AHeap → Prop} {ρ : Slots} {h : AHeap}, (∀ p ∈ H2, p ∈ H1) → D P L H1 K ρ h → D P L H2 K ρ h
  | [], _, _, _, _, _, _, k => k
  | o :: r, H1, H2, K, ρ, h, s, k => by
    simp only [D] at k ⊢
    cases hq : actual ρ o with
    | none => simp [hq] at k
    | some qq =>
    simp only [hq] at k ⊢
    cases qq with
    | rd q =>
      simp only at k ⊢
      cases hr : aread (Slots.val ρ) h q with
      | none => simp [hr, okRead] at k
      | some av =>
        simp only [hr, okRead] at k ⊢
        refine D_sub r ?_ k
        intro p hp
        unfold held at hp ⊢
        split at hp
        · rename_i hs; rw [if_pos hs]; exact s p hp
        · rename_i hs; rw [if_neg hs]
          rcases List.mem_cons.1 hp with rfl | hp
          · exact List.mem_cons_self
          · exact List.mem_cons_of_mem _ (s p hp)
    | ef q =>
      simp only at k ⊢
      refine aeff_mono ?_ k
      rintro v g ⟨k1, k2⟩
      exact ⟨k1.imp id (fun a p hp => a p (s p hp)), D_sub r s k2⟩

/-- Slots that an operation looks at. -/
def ROper.looks (o : ROper) : List Nat := slotsOf o.op.opds ++ (match o.guard with | some (s, _) => [s] | none => [])
def kindOf (o : ROper) : Nat := match o.op with | .rd _ => 0 | .ef q => if q.allocs then 1 else 2
def apartO (a i : ROper) : Bool :=
  (match a.dst with | some d => !(i.looks).contains d && i.dst != some d | none => true) && (match i.dst with | some d => !(a.looks).contains d | none => true)
/-- An allocation that can't fail. -/
def movable (i : ROper) : Bool := i.guard.isNone && (match i.op with | .ef (.alloc _ _) | .ef .mkmap => true | _ => false)
/-- May the second be done ahead of the first? -/
def allowed (a i : ROper) : Bool := apartO a i && (kindOf a == 0 || movable i)
theorem movable_spec {i : ROper} (h : movable i = true) (ρ : Slots) : ∃ q, actual ρ i = some (.ef q) ∧ q.allocs = true ∧ ∀ va, ∃ o, aview va q = some o := by
  unfold movable at h
  simp only [Bool.and_eq_true, Option.isNone_iff_eq_none] at h
  obtain ⟨hg, ho⟩ := h
  split at ho
  · rename_i ty z hop; exact ⟨.alloc ty z, by unfold actual; rw [hg, hop], rfl, fun va => ⟨_, rfl⟩⟩
  · rename_i hop; exact ⟨.mkmap, by unfold actual; rw [hg, hop], rfl, fun va => ⟨_, rfl⟩⟩
  · cases ho
theorem apartO_spec {a i : ROper} (h : apartO a i = true) : (∀ d, a.dst = some d → d ∉ i.looks) ∧ (∀ d, i.dst = some d → d ∉ a.looks) ∧ (∀ d, a.dst = some d → i.dst ≠ some d) := by
  refine ⟨fun d hd => ?_, fun d hd => ?_, fun d hd => ?_⟩ <;> simp [apartO, hd] at h
  · exact h.1.1
  · exact h.2
  · exact h.1.2
theorem put_other {ρ : Slots} {d : Option Nat} {v : AV} {s : Nat} (h : ∀ t, d = some t → t ≠ s) : Slots.put ρ d v s = ρ s := by
  cases d with
  | none => rfl
  | some t => simp only [Slots.put]; rw [if_neg (fun hh => h t rfl hh.symm)]
theorem slots_comm {ρ : Slots} {d1 d2 : Option Nat} (v u : AV) (h : ∀ d, d1 = some d → d2 ≠ some d) : Slots.put (Slots.put ρ d1 v) d2 u = Slots.put (Slots.put ρ d2 u) d1 v := by
  cases d1 with
  | none => rfl
  | some a =>
    cases d2 with
    | none => rfl
    | some b =>
      have hne : a ≠ b := fun hh => h a rfl (hh ▸ rfl)
      funext s
      simp only [Slots.put]
      by_cases h1 : s = b
      · subst h1; simp [Ne.symm hne]
      · by_cases h2 : s = a
        · subst h2; simp [h1]
        · simp [h1, h2]
theorem val_put {ρ : Slots} {d : Option Nat} {v : AV} {xs : List ROpd} (h : ∀ t, d = some t → t ∉ slotsOf xs) : ∀ x ∈ xs, Slots.val (ρ.put d v) x = Slots.val ρ x := by
  intro x hx
  cases x with
  | c v => rfl
  | t n =>
    simp only [Slots.val]
    refine put_other fun t ht hh => ?_
    subst hh
    exact h t ht (List.mem_flatMap.2 ⟨.t t, hx, by simp [ROpd.slots]⟩)
theorem actual_put {ρ : Slots} {d : Option Nat} {v : AV} {o : ROper} (h : ∀ t, d = some t → t ∉ o.looks) : actual (ρ.put d v) o = actual ρ o := by
  unfold actual
  cases hg : o.guard with
  | none => rfl
  | some p =>
    obtain ⟨s, w⟩ := p
    simp only
    rw [put_other (ρ := ρ) (v := v) fun t ht hh => ?_]
    subst hh
    exact h t ht (by simp [ROper.looks, hg])
theorem actual_opds {ρ : Slots} {o : ROper} {q : ROp} (h : actual ρ o = some q) : q = o.op ∨ q = skipOp := by
  unfold actual at h
  split at h
  · cases h; exact .inl rfl
  · split at h
    · split at h <;> cases h
      · exact .inl rfl
      · exact .inr rfl
    · cases h; exact .inr rfl
    · cases h
theorem slots_actual {ρ : Slots} {o : ROper} {q : ROp} (h : actual ρ o = some q) {d : Nat} (hd : d ∉ o.looks) : d ∉ slotsOf q.opds := by
  rcases actual_opds h with rfl | rfl
  · exact fun hh => hd (by simp [ROper.looks, hh])
  · simp [skipOp, ROp.opds, RRead.opds, slotsOf, ROpd.slots]

theorem kind_zero {ρ : Slots} {a : ROper} {q : REff} (h : actual ρ a = some (.ef q)) : kindOf a ≠ 0 := by
  rcases actual_opds h with e | e
  · unfold kindOf; rw [← e]; simp only; split <;> simp
  · cases e

theorem swap {P : Program} {a i : ROper} {R : List ROper} {H : List (AHeap → Prop)} {K : Slots → AHeap → Prop} {ρ : Slots} {h : AHeap} (m : MonoH H) (al : allowed a i = true) (k : D P (a :: i :: R) H K ρ h) : D P (i :: a :: R) H K ρ h := by
  simp only [allowed, Bool.and_eq_true, Bool.or_eq_true, beq_iff_eq] at al
  obtain ⟨hap, hkind⟩ := al
  obtain ⟨s1, s2, s3⟩ := apartO_spec hap
  have comm : ∀ v u, Slots.put (Slots.put ρ a.dst v) i.dst u = Slots.put (Slots.put ρ i.dst u) a.dst v := fun v u => slots_comm v u s3
  have ai : ∀ v, actual (ρ.put a.dst v) i = actual ρ i := fun v => actual_put s1
  have aa : ∀ v, actual (ρ.put i.dst v) a = actual ρ a := fun v => actual_put s2
  simp only [D, ai] at k
  simp only [D, aa]
  cases hqa : actual ρ a with
  | none => simp [hqa] at k
  | some qa =>
    have va : ∀ v, ∀ x ∈ qa.opds, Slots.val (ρ.put i.dst v) x = Slots.val ρ x := fun v => val_put fun t ht => slots_actual hqa (s2 t ht)
    cases hqi : actual ρ i with
    | none =>
      simp only [hqa, hqi] at k
      cases qa with
      | rd q =>
        simp only at k
        cases hr : aread (Slots.val ρ) h q with
        | none => simp [hr, okRead] at k
        | some av => simp [hr, okRead] at k
      | ef q =>
        exfalso
        rcases hkind with h1 | h1
        · exact kind_zero hqa h1
        · obtain ⟨q2, h2, _⟩ := movable_spec h1 ρ; rw [hqi] at h2; cases h2
    | some qi =>
      have vi : ∀ v, ∀ x ∈ qi.opds, Slots.val (ρ.put a.dst v) x = Slots.val ρ x := fun v => val_put fun t ht => slots_actual hqi (s1 t ht)
      simp only [hqa, hqi] at k ⊢
      cases qa with
      | rd q =>
        simp only at k ⊢
        cases hr : aread (Slots.val ρ) h q with
        | none => simp [hr, okRead] at k
        | some av =>
          simp only [hr, okRead] at k
          cases qi with
          | rd q2 =>
            simp only at k ⊢
            rw [aread_congr (vi av)] at k
            cases hr2 : aread (Slots.val ρ) h q2 with
            | none => simp [hr2] at k
            | some iv =>
              simp only [hr2] at k
              simp only [okRead]
              rw [aread_congr (va iv), hr]
              simp only
              rw [← comm]
              refine D_sub R ?_ k
              intro p hp
              have c1 : (fun g => aread (Slots.val (ρ.put i.dst iv)) g q = some av) = (fun g => aread (Slots.val ρ) g q = some av) := by funext g; rw [aread_congr (va iv)]
              have c2 : (fun g => aread (Slots.val (ρ.put a.dst av)) g q2 = some iv) = (fun g => aread (Slots.val ρ) g q2 = some iv) := by funext g; rw [aread_congr (vi av)]
              unfold held at hp ⊢
              rw [c1] at hp
              rw [c2]
              split at hp <;> split at hp <;> simp_all
              rcases hp with hp | hp | hp <;> simp [hp]
          | ef q2 =>
            simp only at k ⊢
            rw [aeff_congr (vi av)] at k
            by_cases hal : q2.allocs = true
            · rw [aeff_view hal] at k ⊢
              obtain ⟨o, ho, hk⟩ := k
              refine ⟨o, ho, fun b hb => ?_⟩
              obtain ⟨k1, k2⟩ := hk b hb
              refine ⟨.inl hal, ?_⟩
              rw [aread_congr (va _), aread_mono (AHeap.le_upd hb) hr]
              simp only [okRead]
              rw [← comm]
              refine D_sub R ?_ k2
              intro p hp
              have c1 : (fun g => aread (Slots.val (ρ.put i.dst (o.1 b))) g q = some av) = (fun g => aread (Slots.val ρ) g q = some av) := by funext g; rw [aread_congr (va _)]
              unfold held at hp ⊢
              rw [c1] at hp
              exact hp
            · refine aeff_mono ?_ k
              rintro iv g ⟨k1, k2⟩
              have k1 : AllH (held q ρ av H) g := by
                rcases k1 with k1 | k1
                · exact absurd k1 hal
                · exact k1
              refine ⟨.inr fun p hp => k1 p (held_sub q ρ av H p hp), ?_⟩
              have hrg : aread (Slots.val ρ) g q = some av := by
                by_cases hs : q.still = true
                · rw [← aread_still hs _ h g]; exact hr
                · exact k1 (fun g => aread (Slots.val ρ) g q = some av) (by unfold held; rw [if_neg hs]; exact List.mem_cons_self)
              rw [aread_congr (va _), hrg]
              simp only [okRead]
              rw [← comm]
              refine D_sub R ?_ k2
              intro p hp
              have c1 : (fun g => aread (Slots.val (ρ.put i.dst iv)) g q = some av) = (fun g => aread (Slots.val ρ) g q = some av) := by funext g; rw [aread_congr (va _)]
              unfold held at hp ⊢
              rw [c1] at hp
              exact hp
      | ef q =>
        have hmov : movable i = true := by
          rcases hkind with h1 | h1
          · exact absurd h1 (kind_zero hqa)
          · exact h1
        obtain ⟨q2, h2, hal, hview⟩ := movable_spec hmov ρ
        rw [hqi] at h2
        cases h2
        simp only at k ⊢
        have k' : aeff P (Slots.val ρ) h (fun av g => (q.allocs = true ∨ AllH H g) ∧ ∃ o, aview (Slots.val ρ) q2 = some o ∧ ∀ b, g b = none → D P R H K ((ρ.put a.dst av).put i.dst (o.1 b)) (g.upd b o.2)) q := by
          refine aeff_mono ?_ k
          rintro av g ⟨k1, k2⟩
          rw [aeff_view hal, aview_congr (vi av)] at k2
          obtain ⟨o, ho, hk⟩ := k2
          exact ⟨k1, o, ho, fun b hb => (hk b hb).2⟩
        rw [aeff_view hal]
        obtain ⟨o, hv⟩ := hview (Slots.val ρ)
        refine ⟨o, hv, fun b hb => ⟨.inl hal, ?_⟩⟩
        rw [aeff_congr (va _)]
        refine aeff_mono ?_ (aeff_frame (o := o.2) hb k')
        rintro av g' ⟨g, hg, rfl, k1, o', ho', hk⟩
        rw [hv] at ho'; cases ho'
        refine ⟨k1.imp id fun h1 p hp => m p hp g _ (AHeap.le_upd hg) (h1 p hp), ?_⟩
        rw [← comm]
        exact hk b hg

end Pg
