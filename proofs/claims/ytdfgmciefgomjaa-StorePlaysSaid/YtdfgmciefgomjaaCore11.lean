/- The core, eleventh part: regions in the text's order, code, calls. -/
import Derived.Test.YtdfgmciefgomjaaCore15
import Derived.Scope
namespace Pg
open Go
set_option linter.unusedSimpArgs false
set_option linter.unusedVariables false

/-- What stands behind a piece of code. -/
def Post (N : Nat) (I : Imm) (w : World) (h : AHeap) (Q : Exit → Env → AHeap → Prop) : Exit → Act → World → Prop :=
  fun x a' w' => ∃ J e' g, Q x e' g ∧ EnvSat J N e' a'.tmps ∧ Sat w' J g ∧ Ext h w w' ∧ New w I J h g ∧ a'.defers = []

theorem yielded_get {I : Imm} {N : Nat} {e : Env} {tmps : Array Value} (s : EnvSat I N e tmps) {ops : Array Oper} {j slot : Nat} {b : Bool} (hj : (ops[j]?).bind (·.dst) = some slot) (hb : e.get slot = .bool b) : yielded ops tmps j = some b := by
  have h1 := s.at_ slot
  rw [hb] at h1
  have h2 := h1.inv_bool
  have h3 : tmps[slot]? = some (.bool b) := by
    simp only [Array.getD_eq_getD_getElem?] at h2
    cases hx : tmps[slot]? with
    | none => rw [hx] at h2; simp [undef] at h2
    | some v => rw [hx] at h2; simp at h2; rw [h2]
  simp only [yielded, hj, Option.bind_some, h3]

theorem yielded_get_undef {I : Imm} {N : Nat} {e : Env} {tmps : Array Value} (s : EnvSat I N e tmps) {ops : Array Oper} {j slot : Nat} (hj : (ops[j]?).bind (·.dst) = some slot) (hb : e.get slot = .tuple []) : yielded ops tmps j = none := by
  have h1 := s.at_ slot
  rw [hb] at h1
  obtain ⟨vs, h2, r⟩ := h1.inv_tuple
  have := r.of_nil
  subst this
  simp only [Array.getD_eq_getD_getElem?] at h2
  cases hx : tmps[slot]? with
  | none => simp only [yielded, hj, Option.bind_some, hx]
  | some v => rw [hx] at h2; simp at h2; subst h2; simp only [yielded, hj, Option.bind_some, hx]

theorem wpOps_sim {P : Program} {N : Nat} {ops : Array Oper} {K : Env → AHeap → Prop} {Q : Exit → Act → World → Prop} : ∀ (l : List Nat) (rs : List ROper), ropersAt P N ops l = some rs →
    ∀ (I : Imm) (w : World) (a : Act) (e : Env) (h : AHeap), EnvSat I N e a.tmps → Sat w I h → a.defers = [] → aops P rs K e h →
      (∀ J e' g a' w', K e' g → EnvSat J N e' a'.tmps → Sat w' J g → Ext h w w' → New w I J h g → a'.defers = [] → Q .normal a' w') → wpOps P ops Q l a w
  | [], rs, hr, I, w, a, e, h, s, t, hd, k, H => by
    simp only [ropersAt, Option.some.injEq] at hr; subst hr
    exact H I e h a w k s t (.refl h w) (.refl w I h) hd
  | i :: l, rs, hr, I, w, a, e, h, s, t, hd, k, H => by
    simp only [ropersAt] at hr
    cases ho : ops[i]? with
    | none => simp [ho] at hr
    | some o =>
      simp only [ho] at hr
      split at hr
      · rename_i x l' hx hl
        simp only [Option.some.injEq] at hr; subst hr
        unfold roper at hx
        split at hx
        · rename_i hbound
          have hdst : ∀ t, o.dst = some t → t < N := by
            intro t ht; rw [ht] at hbound; simpa using hbound
          have run : ∀ (r : ROp) (a0 : Act), a0 = a → rop P o.op = some r → aop P (fun av g => aops P l' K (e.put o.dst av) g) e h r → o.wp P a w (wpOps P ops Q l) Q := by
            intro r a0 ha0 hr hk
            have hs := simOp hr
            have next : ∀ v J w' av g, aops P l' K (e.put o.dst av) g → Rd J av v → Sat w' J g → Ext h w w' → New w I J h g → wpOps P ops Q l (a.put o.dst v) w' := by
              intro v J w' av g hk rd s' ex n
              refine wpOps_sim l l' hl J w' (a.put o.dst v) (e.put o.dst av) g ((s.mono n.imm).put hdst rd) s' (by rw [put_defers, hd]) hk ?_
              intro J2 e2 g2 a2 w2 k2 s2 t2 ex2 n2 d2
              exact H J2 e2 g2 a2 w2 k2 s2 t2 (ex.trans n ex2) (n.trans ex n2) d2
            cases r with
            | rd r =>
              simp only [aop] at hk
              cases hav : aread (ev e) h r with
              | none => simp [hav, okRead] at hk
              | some av =>
                simp only [hav, okRead] at hk
                obtain ⟨v, J, w', q1, q2, q3, q4, q5⟩ := hs I w h a (ev e) av s.val t hav
                unfold Oper.wp
                rw [q1, Oper.upon_value]
                exact next v J w' av h hk q2 q3 q4 q5
            | ef r =>
              simp only [aop] at hk
              exact hs I w h a (ev e) _ s.val t hk _ Q next
          split at hx
          · rename_i r hrop hg
            simp only [Option.some.injEq] at hx; subst hx
            simp only [aops] at k
            simp only [wpOps, ho]
            have hw : Region.wanted o (yielded ops a.tmps) = true := by simp [Region.wanted, hg]
            rw [if_pos hw]
            exact .inl (run r a rfl hrop k)
          · rename_i r j want hrop hg
            split at hx
            · rename_i slot hslot
              simp only [Option.some.injEq] at hx; subst hx
              simp only [aops] at k
              unfold aguard at k
              split at k
              · rename_i b hb
                have hy := yielded_get s hslot hb
                simp only [wpOps, ho]
                split at k
                · rename_i hbw
                  have hw : Region.wanted o (yielded ops a.tmps) = true := by simp [Region.wanted, hg, hy, hbw]
                  rw [if_pos hw]
                  exact .inl (run r a rfl hrop k)
                · rename_i hbw
                  have hw : ¬ Region.wanted o (yielded ops a.tmps) = true := by simp [Region.wanted, hg, hy, hbw]
                  rw [if_neg hw]
                  refine wpOps_sim l l' hl I w (a.put o.dst undef) (e.put o.dst (.tuple [])) h (s.put hdst (rd_undef I)) t (by rw [put_defers, hd]) k ?_
                  exact H
              · rename_i hb
                have hy := yielded_get_undef s hslot hb
                simp only [wpOps, ho]
                have hw : ¬ Region.wanted o (yielded ops a.tmps) = true := by simp [Region.wanted, hg, hy]
                rw [if_neg hw]
                refine wpOps_sim l l' hl I w (a.put o.dst undef) (e.put o.dst (.tuple [])) h (s.put hdst (rd_undef I)) t (by rw [put_defers, hd]) k ?_
                exact H
              · exact k.elim
            · cases hx
          · cases hx
        · cases hx
      · cases hr

/-- An order in which reads stand as far ahead as may be, and allocations as far behind. -/
def pickOne (P : Program) (ops : Array Oper) (left : List Nat) : Option Nat :=
  let ready := left.filter fun i => (directs ops i).all fun d => !left.contains d
  let kind : Nat → Nat := fun i => match ops[i]? with
    | some o => match o.op with
      | .alloc _ | .makeMap _ _ | .box _ _ => 2
      | .store _ _ _ | .mapUpdate _ _ _ _ | .makeSlice _ _ _ | .defer _ => 1
      | .call { callee := .builtin b, .. } => if b == .append || b == .copy || b == .delete then 1 else 0
      | .call _ => 1
      | _ => 0
    | none => 0
  match ready.find? (kind · == 0) with
  | some i => some i
  | none => match ready.find? (kind · == 1) with
    | some i => some i
    | none => ready.head?
def pickOrder (P : Program) (ops : Array Oper) : Nat → List Nat → List Nat
  | 0, _ => []
  | n + 1, left => match pickOne P ops left with
    | some i => i :: pickOrder P ops n (left.filter (· != i))
    | none => []
def ropersIdx (P : Program) (N : Nat) (ops : Array Oper) : List Nat → Option (List (Nat × ROper))
  | [] => some []
  | i :: r => match ops[i]? with
    | some o => match roper P N ops o, ropersIdx P N ops r with | some x, some l => some ((i, x) :: l) | _, _ => none
    | none => none
def drawOk (ops : Array Oper) (L : List (Nat × ROper)) : Bool :=
  (L.length == ops.size) && (L.all fun p => decide (p.1 < ops.size) && (directs ops p.1).all fun d => decide (d < ops.size) && d != p.1) && ((List.range ops.size).all fun j => (L.map (·.1)).contains j) && pairsOk (Rel ops (Region.before ops)) L
def rdraw (P : Program) (N : Nat) (ops : Array Oper) : Option (List ROper) :=
  if P.follows .mixedOrders then
    match ropersIdx P N ops (pickOrder P ops ops.size (List.range ops.size)) with
    | some L => if drawOk ops L then some (L.map (·.2)) else none
    | none => none
  else none

theorem ropersIdx_spec {P : Program} {N : Nat} {ops : Array Oper} : ∀ {l : List Nat} {L : List (Nat × ROper)}, ropersIdx P N ops l = some L → ∀ p ∈ L, ∃ o, ops[p.1]? = some o ∧ roper P N ops o = some p.2
  | [], L, h => by simp only [ropersIdx, Option.some.injEq] at h; subst h; simp
  | i :: r, L, h => by
    simp only [ropersIdx] at h
    split at h
    · rename_i o ho
      split at h
      · rename_i x l hx hl
        simp only [Option.some.injEq] at h; subst h
        intro p hp
        rcases List.mem_cons.1 hp with rfl | hp
        · exact ⟨o, ho, hx⟩
        · exact ropersIdx_spec hl p hp
      · cases h
    · cases h

/-- The walk of a region whose order is drawn. -/
def dop (P : Program) (H : List (AHeap → Prop)) (K : AV → AHeap → List (AHeap → Prop) → Prop) (e : Env) (h : AHeap) : ROp → Prop
  | .rd q => okRead (aread (ev e) h q) fun av => K av h (if q.still = true then H else (fun g => aread (ev e) g q = some av) :: H)
  | .ef q => aeff P (ev e) h (fun av g => (q.allocs = true ∨ AllH H g) ∧ K av g H) q
def dops (P : Program) : List ROper → List (AHeap → Prop) → (Env → AHeap → Prop) → Env → AHeap → Prop
  | [], _, K, e, h => K e h
  | ⟨dst, op, none⟩ :: r, H, K, e, h => dop P H (fun av g H' => dops P r H' K (e.put dst av) g) e h op
  | ⟨dst, op, some (s, want)⟩ :: r, H, K, e, h => aguard (e.get s) want (fun _ => dop P H (fun av g H' => dops P r H' K (e.put dst av) g) e h op) (fun _ => dops P r H K (e.put dst (.tuple [])) h)

theorem D_of_dops {P : Program} : ∀ (L : List ROper) (H : List (AHeap → Prop)) (K : Env → AHeap → Prop) (e : Env) (h : AHeap), dops P L H K e h → D P L H (fun ρ h => ∃ e', e'.get = ρ ∧ K e' h) e.get h
  | [], H, K, e, h, k => ⟨e, rfl, k⟩
  | ⟨dst, op, g⟩ :: r, H, K, e, h, k => by
    have run : dop P H (fun av g H' => dops P r H' K (e.put dst av) g) e h op → (match (some op : Option ROp) with
        | some (.rd q) => okRead (aread (Slots.val e.get) h q) fun av => D P r (held q e.get av H) (fun ρ h => ∃ e', e'.get = ρ ∧ K e' h) (Slots.put e.get dst av) h
        | some (.ef q) => aeff P (Slots.val e.get) h (fun av g => (q.allocs = true ∨ AllH H g) ∧ D P r H (fun ρ h => ∃ e', e'.get = ρ ∧ K e' h) (Slots.put e.get dst av) g) q
        | none => False) := by
      intro k
      cases op with
      | rd q =>
        simp only [dop] at k ⊢
        rw [ev_val] at k
        cases hr : aread (Slots.val e.get) h q with
        | none => simp [hr, okRead] at k
        | some av =>
          simp only [hr, okRead] at k ⊢
          have := D_of_dops r _ K _ h k
          rw [get_put] at this
          exact this
      | ef q =>
        simp only [dop] at k ⊢
        rw [ev_val] at k
        refine aeff_mono ?_ k
        rintro v g ⟨k1, k2⟩
        have := D_of_dops r _ K _ g k2
        rw [get_put] at this
        exact ⟨k1, this⟩
    cases g with
    | none =>
      simp only [dops] at k
      simp only [D, actual]
      exact run k
    | some p =>
      obtain ⟨s, want⟩ := p
      simp only [dops, aguard] at k
      simp only [D, actual]
      split at k
      · rename_i b hb
        simp only [hb]
        split at k
        · rename_i hbw; rw [if_pos hbw]; exact run k
        · rename_i hbw
          rw [if_neg hbw]
          simp only [skipOp, aread, Slots.val, okRead]
          have := D_of_dops r _ K _ h k
          rw [get_put] at this
          exact this
      · rename_i hb
        simp only [hb]
        simp only [skipOp, aread, Slots.val, okRead]
        have := D_of_dops r _ K _ h k
        rw [get_put] at this
        exact this
      · exact k.elim

/-- Resolved code. -/
inductive RCode where
  | skip
  | reg (ops : List ROper)
  | dreg (ops : List ROper)
  | seq (a b : RCode)
  | cond (c : ROpd) (a b : RCode)
  | block (id : Nat) (c : RCode)
  | loop (c : RCode)
  | exit (id : Nat)
  | ret
  | scope (c : RCode)
  deriving Inhabited

def rcode (P : Program) (N : Nat) : Code → Option RCode
  | .skip => some .skip
  | .label _ => some .skip
  | .region _ ops d => if d then (rdraw P N ops).map .dreg else (ropersAt P N ops (List.range ops.size)).map .reg
  | .seq a b => match rcode P N a, rcode P N b with | some x, some y => some (.seq x y) | _, _ => none
  | .cond c a b => match ropd c, rcode P N a, rcode P N b with | some z, some x, some y => some (.cond z x y) | _, _, _ => none
  | .block id c => (rcode P N c).map (.block id)
  | .loop c => (rcode P N c).map .loop
  | .exit id => some (.exit id)
  | .ret => some .ret
  | .scope c => (rcode P N c).map .scope
  | _ => none

/-- The state at a loop's head, the body ahead. -/
def lw (P : Program) (c : Code) (Q : Exit → Act → World → Prop) (a : Act) (w : World) : Prop :=
  ∀ (b : Frame) (k : List Item) (cs : List Frame), ∃ e a' w', Q e a' w' ∧ Arrives P (lone (b.at a (.code c :: .inLoop c :: k)) cs w) b k cs e a' w'
theorem wp_of_lw {P : Program} {c : Code} {Q : Exit → Act → World → Prop} {a : Act} {w : World} (h : lw P c Q a w) : (Code.loop c).wp P Q a w :=
  fun b k cs => let ⟨e, a', w', q, r⟩ := h b k cs; ⟨e, a', w', q, .of_steps (.one step_loop) r⟩
theorem lw_unroll {P : Program} {c : Code} {Q : Exit → Act → World → Prop} {a : Act} {w : World} (h : c.wp P (Exit.then (lw P c Q) Q) a w) : lw P c Q a w := by
  intro b k cs
  obtain ⟨e, a₁, w₁, hq, harr⟩ := h b (.inLoop c :: k) cs
  cases e with
  | normal =>
    obtain ⟨e₂, a₂, w₂, hq₂, harr₂⟩ := hq b k cs
    exact ⟨e₂, a₂, w₂, hq₂, .of_steps (Steps.trans harr (.one step_inLoop)) harr₂⟩
  | exit id => exact ⟨_, a₁, w₁, hq, .pass (x := .inLoop c) rfl (fun _ _ => .inl (by simp)) harr⟩
  | goto l => exact ⟨_, a₁, w₁, hq, .pass (x := .inLoop c) rfl (fun _ _ => .inl (by simp)) harr⟩
  | ret => exact ⟨_, a₁, w₁, hq, .pass (x := .inLoop c) rfl (fun _ _ => .inl (by simp)) harr⟩
  | panic ch => exact ⟨_, a₁, w₁, hq, .pass (x := .inLoop c) rfl (fun _ _ => .inl (by simp)) harr⟩
  | outgrown => exact ⟨_, a₁, w₁, hq, .pass (x := .inLoop c) rfl (fun _ _ => .inl (by simp)) harr⟩

/-- A resolved piece of code from an abstract state. -/
def T (P : Program) (N : Nat) (c : RCode) (Q : Exit → Env → AHeap → Prop) (e : Env) (h : AHeap) : Prop :=
  ∀ code, rcode P N code = some c → ∀ (I : Imm) (w : World) (a : Act), EnvSat I N e a.tmps → Sat w I h → a.defers = [] → code.wp P (Post N I w h Q) a w
/-- Likewise of a loop's body, at the loop's head. -/
def L (P : Program) (N : Nat) (c : RCode) (Q : Exit → Env → AHeap → Prop) (e : Env) (h : AHeap) : Prop :=
  ∀ code, rcode P N code = some c → ∀ (I : Imm) (w : World) (a : Act), EnvSat I N e a.tmps → Sat w I h → a.defers = [] → lw P code (Post N I w h Q) a w

def onNormal (K : Env → AHeap → Prop) (Q : Exit → Env → AHeap → Prop) : Exit → Env → AHeap → Prop
  | .normal, e, h => K e h
  | x, e, h => Q x e h
theorem onNormal_normal (K : Env → AHeap → Prop) (Q : Exit → Env → AHeap → Prop) (e : Env) (h : AHeap) : onNormal K Q .normal e h = K e h := rfl
theorem onNormal_exit (K : Env → AHeap → Prop) (Q : Exit → Env → AHeap → Prop) (i : Nat) (e : Env) (h : AHeap) : onNormal K Q (.exit i) e h = Q (.exit i) e h := rfl
theorem onNormal_ret (K : Env → AHeap → Prop) (Q : Exit → Env → AHeap → Prop) (e : Env) (h : AHeap) : onNormal K Q .ret e h = Q .ret e h := rfl
def onExit (id : Nat) (Q : Exit → Env → AHeap → Prop) : Exit → Env → AHeap → Prop
  | .exit i, e, h => if i = id then Q .normal e h else Q (.exit i) e h
  | x, e, h => Q x e h
theorem onExit_normal (id : Nat) (Q : Exit → Env → AHeap → Prop) (e : Env) (h : AHeap) : onExit id Q .normal e h = Q .normal e h := rfl
theorem onExit_ret (id : Nat) (Q : Exit → Env → AHeap → Prop) (e : Env) (h : AHeap) : onExit id Q .ret e h = Q .ret e h := rfl
theorem onExit_exit (id i : Nat) (Q : Exit → Env → AHeap → Prop) (e : Env) (h : AHeap) : onExit id Q (.exit i) e h = if i = id then Q .normal e h else Q (.exit i) e h := rfl

/-- No jump leaves a scope. -/
def noGoto (Q : Exit → Env → AHeap → Prop) : Exit → Env → AHeap → Prop
  | .goto _, _, _ => False
  | x, e, h => Q x e h
theorem noGoto_normal (Q : Exit → Env → AHeap → Prop) (e : Env) (h : AHeap) : noGoto Q .normal e h = Q .normal e h := rfl
theorem noGoto_exit (Q : Exit → Env → AHeap → Prop) (i : Nat) (e : Env) (h : AHeap) : noGoto Q (.exit i) e h = Q (.exit i) e h := rfl
theorem noGoto_ret (Q : Exit → Env → AHeap → Prop) (e : Env) (h : AHeap) : noGoto Q .ret e h = Q .ret e h := rfl

theorem post_trans {N : Nat} {I J : Imm} {w w' : World} {h g : AHeap} {Q : Exit → Env → AHeap → Prop} (ex : Ext h w w') (n : New w I J h g) {x : Exit} {a : Act} {w2 : World} (p : Post N J w' g Q x a w2) : Post N I w h Q x a w2 := by
  obtain ⟨K, e, f, q, s, t, ex2, n2, d⟩ := p
  exact ⟨K, e, f, q, s, t, ex.trans n ex2, n.trans ex n2, d⟩

/-- The structural rule. -/
def W (P : Program) (N : Nat) : RCode → (Exit → Env → AHeap → Prop) → Env → AHeap → Prop
  | .skip, Q, e, h => Q .normal e h
  | .reg ops, Q, e, h => aops P ops (Q .normal) e h
  | .dreg ops, Q, e, h => dops P ops [] (Q .normal) e h
  | .seq a b, Q, e, h => W P N a (onNormal (W P N b Q) Q) e h
  | .cond c a b, Q, e, h => agate (ev e c) true (fun _ => W P N a Q e h) (fun _ => W P N b Q e h)
  | .block id c, Q, e, h => W P N c (onExit id Q) e h
  | .loop c, Q, e, h => L P N c Q e h
  | .exit id, Q, e, h => Q (.exit id) e h
  | .ret, Q, e, h => Q .ret e h
  | .scope c, Q, e, h => W P N c (noGoto Q) e h

theorem T_of_W {P : Program} {N : Nat} : ∀ (c : RCode) (Q : Exit → Env → AHeap → Prop) (e : Env) (h : AHeap), W P N c Q e h → T P N c Q e h := by
  intro c
  induction c with
  | skip =>
    intro Q e h k code hc I w a s t hd
    have : (code = .skip ∨ ∃ l, code = .label l) := by
      cases code <;> simp only [rcode] at hc <;> try (first | (cases hc; done) | exact .inl rfl | exact .inr ⟨_, rfl⟩)
      case region id ops d => cases d <;> simp at hc
      case seq x y => split at hc <;> cases hc
      case cond z x y => split at hc <;> cases hc
      case block => simp at hc
      case loop => simp at hc
      case scope => simp at hc
    rcases this with rfl | ⟨l, rfl⟩
    · exact wp_skip ⟨I, e, h, k, s, t, .refl h w, .refl w I h, hd⟩
    · exact wp_label ⟨I, e, h, k, s, t, .refl h w, .refl w I h, hd⟩
  | reg ops =>
    intro Q e h k code hc I w a s t hd
    cases code <;> simp only [rcode] at hc <;> try (cases hc; done)
    case region id os d =>
      cases d with
      | true => simp only [if_true, Option.map_eq_some_iff] at hc; obtain ⟨_, _, he⟩ := hc; cases he
      | false =>
        simp only [Bool.false_eq_true, if_false, Option.map_eq_some_iff] at hc
        obtain ⟨rs, hrs, he⟩ := hc
        cases he
        refine wp_region (wpOps_sim _ _ hrs I w a e h s t hd k ?_)
        intro J e' g a' w' k' s' t' ex n d'
        exact ⟨J, e', g, k', s', t', ex, n, d'⟩
    case seq x y => split at hc <;> cases hc
    case cond z x y => split at hc <;> cases hc
    case block => simp at hc
    case loop => simp at hc
    case scope => simp at hc
  | dreg ops =>
    intro Q e h k code hc I w a s t hd
    cases code <;> simp only [rcode] at hc <;> try (cases hc; done)
    case region id os d =>
      cases d with
      | false => simp only [Bool.false_eq_true, if_false, Option.map_eq_some_iff] at hc; obtain ⟨_, _, he⟩ := hc; cases he
      | true =>
        simp only [if_true, Option.map_eq_some_iff] at hc
        obtain ⟨rs, hrs, he⟩ := hc
        cases he
        unfold rdraw at hrs
        split at hrs
        · rename_i hmix
          split at hrs
          · rename_i L hL
            split at hrs
            · rename_i hok
              simp only [Option.some.injEq] at hrs; subst hrs
              simp only [drawOk, Bool.and_eq_true, beq_iff_eq, List.all_eq_true, decide_eq_true_eq, bne_iff_ne] at hok
              obtain ⟨⟨⟨o1, o2⟩, o3⟩, o4⟩ := hok
              refine wp_region_any hmix ?_
              have hspec := ropersIdx_spec hL
              refine draw_any os.size L _ o1 (by simp) (fun p hp => ?_) (fun j hj => ?_) (pairsOk_pairwise o4) (fun j hj hn => ?_) [] e.get h I w.drew a (fun p hp => by cases hp) (D_of_dops _ _ _ _ _ k) (.of_env s) (sat_drew t) hd ?_
              · obtain ⟨o, q1, q2⟩ := hspec p hp
                exact ⟨(o2 p hp).1, o, q1, q2, fun d hdd => (o2 p hp).2 d hdd⟩
              · have := o3 j (List.mem_range.2 hj)
                simp only [List.contains_iff_mem] at this
                rw [Array.getD_eq_getD_getElem?, Array.getElem?_replicate]
                simp [hj]
                simpa using this
              · have := o3 j (List.mem_range.2 hj)
                simp only [List.contains_iff_mem] at this
                exact absurd this hn
              · rintro J ρ' g a' w' ⟨e', he', kk⟩ s' t' ex n d'
                exact ⟨J, e', g, kk, s'.env he', t', (ext_drew w h).trans (.refl w I h) ex, (New.refl w I h).trans (ext_drew w h) n, d'⟩
            · cases hrs
          · cases hrs
        · cases hrs
    case seq x y => split at hc <;> cases hc
    case cond z x y => split at hc <;> cases hc
    case block => simp at hc
    case loop => simp at hc
    case scope => simp at hc
  | seq x y ihx ihy =>
    intro Q e h k code hc I w a s t hd
    cases code <;> simp only [rcode] at hc <;> try (cases hc; done)
    case region id os d => cases d <;> simp at hc
    case seq cx cy =>
      split at hc
      · rename_i p q hp hq
        cases hc
        refine wp_seq (wp_mono (ihx _ e h k cx hp I w a s t hd) ?_)
        intro ex a' w' hpost
        obtain ⟨J, e', g, kk, s', t', ext, n, d'⟩ := hpost
        cases ex with
        | normal => exact wp_mono (ihy Q e' g kk cy hq J w' a' s' t' d') fun ex2 a2 w2 p2 => post_trans ext n p2
        | exit i => exact ⟨J, e', g, kk, s', t', ext, n, d'⟩
        | goto l => exact ⟨J, e', g, kk, s', t', ext, n, d'⟩
        | ret => exact ⟨J, e', g, kk, s', t', ext, n, d'⟩
        | panic ch => exact ⟨J, e', g, kk, s', t', ext, n, d'⟩
        | outgrown => exact ⟨J, e', g, kk, s', t', ext, n, d'⟩
      · cases hc
    case cond z x y => split at hc <;> cases hc
    case block => simp at hc
    case loop => simp at hc
    case scope => simp at hc
  | cond z x y ihx ihy =>
    intro Q e h k code hc I w a s t hd
    cases code <;> simp only [rcode] at hc <;> try (cases hc; done)
    case region id os d => cases d <;> simp at hc
    case seq x y => split at hc <;> cases hc
    case cond cz cx cy =>
      split at hc
      · rename_i p q r hp hq hr
        cases hc
        have hz := ropd_rd s.val hp
        simp only [W] at k
        unfold agate at k
        split at k
        · rename_i b hb
          rw [hb] at hz
          have hv := hz.inv_bool
          cases b with
          | true => exact wp_cond_true hv (ihx Q e h k cx hq I w a s t hd)
          | false => exact wp_cond_false hv (ihy Q e h k cy hr I w a s t hd)
        · exact k.elim
      · cases hc
    case block => simp at hc
    case loop => simp at hc
    case scope => simp at hc
  | block id c ih =>
    intro Q e h k code hc I w a s t hd
    cases code <;> simp only [rcode] at hc <;> try (cases hc; done)
    case region id os d => cases d <;> simp at hc
    case seq x y => split at hc <;> cases hc
    case cond z x y => split at hc <;> cases hc
    case block id' cc =>
      simp only [Option.map_eq_some_iff] at hc
      obtain ⟨p, hp, he⟩ := hc
      cases he
      refine wp_block (wp_mono (ih _ e h k cc hp I w a s t hd) ?_)
      intro ex a' w' hpost
      obtain ⟨J, e', g, kk, s', t', ext, n, d'⟩ := hpost
      cases ex with
      | normal => exact ⟨J, e', g, kk, s', t', ext, n, d'⟩
      | exit i =>
        simp only [onExit] at kk
        simp only [Exit.inBlock]
        split
        · rename_i hi; rw [if_pos hi] at kk; exact ⟨J, e', g, kk, s', t', ext, n, d'⟩
        · rename_i hi; rw [if_neg hi] at kk; exact ⟨J, e', g, kk, s', t', ext, n, d'⟩
      | goto l => exact ⟨J, e', g, kk, s', t', ext, n, d'⟩
      | ret => exact ⟨J, e', g, kk, s', t', ext, n, d'⟩
      | panic ch => exact ⟨J, e', g, kk, s', t', ext, n, d'⟩
      | outgrown => exact ⟨J, e', g, kk, s', t', ext, n, d'⟩
    case loop => simp at hc
    case scope => simp at hc
  | loop c ih =>
    intro Q e h k code hc I w a s t hd
    cases code <;> simp only [rcode] at hc <;> try (cases hc; done)
    case region id os d => cases d <;> simp at hc
    case seq x y => split at hc <;> cases hc
    case cond z x y => split at hc <;> cases hc
    case block => simp at hc
    case scope => simp at hc
    case loop cc =>
      simp only [Option.map_eq_some_iff] at hc
      obtain ⟨p, hp, he⟩ := hc
      cases he
      exact wp_of_lw (k cc hp I w a s t hd)
  | exit id =>
    intro Q e h k code hc I w a s t hd
    cases code <;> simp only [rcode] at hc <;> try (cases hc; done)
    case region id os d => cases d <;> simp at hc
    case seq x y => split at hc <;> cases hc
    case cond z x y => split at hc <;> cases hc
    case block => simp at hc
    case loop => simp at hc
    case scope => simp at hc
    case exit i => cases hc; exact wp_exit ⟨I, e, h, k, s, t, .refl h w, .refl w I h, hd⟩
  | ret =>
    intro Q e h k code hc I w a s t hd
    cases code <;> simp only [rcode] at hc <;> try (cases hc; done)
    case region id os d => cases d <;> simp at hc
    case seq x y => split at hc <;> cases hc
    case cond z x y => split at hc <;> cases hc
    case block => simp at hc
    case loop => simp at hc
    case scope => simp at hc
    case ret => exact wp_ret ⟨I, e, h, k, s, t, .refl h w, .refl w I h, hd⟩
  | scope c ih =>
    intro Q e h k code hc I w a s t hd
    cases code <;> simp only [rcode] at hc <;> try (cases hc; done)
    case region id os d => cases d <;> simp at hc
    case seq x y => split at hc <;> cases hc
    case cond z x y => split at hc <;> cases hc
    case block => simp at hc
    case loop => simp at hc
    case scope cc =>
      simp only [Option.map_eq_some_iff] at hc
      obtain ⟨p, hp, he⟩ := hc
      cases he
      refine wp_scope_straight (wp_mono (ih _ e h k cc hp I w a s t hd) ?_)
      intro ex a' w' hpost
      obtain ⟨J, e', g, kk, s', t', ext, n, d'⟩ := hpost
      cases ex with
      | goto l => exact kk.elim
      | normal => exact ⟨J, e', g, kk, s', t', ext, n, d'⟩
      | exit i => exact ⟨J, e', g, kk, s', t', ext, n, d'⟩
      | ret => exact ⟨J, e', g, kk, s', t', ext, n, d'⟩
      | panic ch => exact ⟨J, e', g, kk, s', t', ext, n, d'⟩
      | outgrown => exact ⟨J, e', g, kk, s', t', ext, n, d'⟩

/-- One round of a loop; the loop again. -/
theorem L_round {P : Program} {N : Nat} {c : RCode} {Q : Exit → Env → AHeap → Prop} {e : Env} {h : AHeap} (k : W P N c (onNormal (L P N c Q) Q) e h) : L P N c Q e h := by
  intro code hc I w a s t hd
  refine lw_unroll (wp_mono (T_of_W _ _ _ _ k code hc I w a s t hd) ?_)
  intro ex a' w' hpost
  obtain ⟨J, e', g, kk, s', t', ext, n, d'⟩ := hpost
  cases ex with
  | normal =>
    intro b kk2 cs
    obtain ⟨e2, a2, w2, p2, r2⟩ := kk code hc J w' a' s' t' d' b kk2 cs
    exact ⟨e2, a2, w2, post_trans ext n p2, r2⟩
  | exit i => exact ⟨J, e', g, kk, s', t', ext, n, d'⟩
  | goto l => exact ⟨J, e', g, kk, s', t', ext, n, d'⟩
  | ret => exact ⟨J, e', g, kk, s', t', ext, n, d'⟩
  | panic ch => exact ⟨J, e', g, kk, s', t', ext, n, d'⟩
  | outgrown => exact ⟨J, e', g, kk, s', t', ext, n, d'⟩

end Pg
