/- The core, third part: how a reading operation is resolved, and that the machine does what 'aread' says. -/
import Derived.Test.YtpebidcmkjjpnaaCore2
import Derived.Laws.Tables
namespace Pg
open Go
set_option linter.unusedSimpArgs false
set_option linter.unusedVariables false

def SimRd (P : Program) (o : Oper) (r : RRead) : Prop :=
  ∀ (I : Imm) (w : World) (h : AHeap) (a : Act) (va : ROpd → AV) (av : AV), ValSat I va a → Sat w I h → aread va h r = some av →
    ∃ v J w', (execOp a.eval o).run P w = .ok (.value v) w' ∧ Rd J av v ∧ Sat w' J h ∧ Ext h w w' ∧ New w I J h h

theorem SimRd.pure {P : Program} {o : Oper} {r : RRead}
    (H : ∀ (I : Imm) (w : World) (h : AHeap) (a : Act) (va : ROpd → AV) (av : AV), ValSat I va a → Sat w I h → aread va h r = some av → ∃ v, (execOp a.eval o).run P w = .ok (.value v) w ∧ Rd I av v) : SimRd P o r :=
  fun I w h a va av s t k => let ⟨v, h1, h2⟩ := H I w h a va av s t k; ⟨v, I, w, h1, h2, t, .refl h w, .refl w I h⟩

theorem add_none (b o n : Nat) : (⟨b, o, none⟩ : Addr).add n = ⟨b, o + n, none⟩ := by unfold Addr.add; split <;> simp_all

theorem sim_mv {P : Program} {o : Oper} {x : Operand} {rx : ROpd} (ho : o.op = .move x ∨ o.op = .assign x) (hx : ropd x = some rx) : SimRd P o (.mv rx) := by
  refine .pure fun I w h a va av s t k => ?_
  simp only [aread, Option.some.injEq] at k; subst k
  exact ⟨a.eval x, by rcases ho with ho | ho <;> simp [execOp, ho], ropd_rd s hx⟩

theorem sim_pick {P : Program} {o : Oper} {c x y : Operand} {rc rx ry : ROpd} (ho : o.op = .pick c x y) (hc : ropd c = some rc) (hx : ropd x = some rx) (hy : ropd y = some ry) : SimRd P o (.pick rc rx ry) := by
  refine .pure fun I w h a va av s t k => ?_
  have h1 := ropd_rd s hc
  simp only [aread] at k
  split at k
  · rename_i b hb
    simp only [Option.some.injEq] at k; subst k
    rw [hb] at h1
    cases hv : a.eval c <;> rw [hv] at h1 <;> cases h1
    cases b
    · exact ⟨a.eval y, by simp [execOp, ho, hv, asBool], ropd_rd s hy⟩
    · exact ⟨a.eval x, by simp [execOp, ho, hv, asBool], ropd_rd s hx⟩
  · cases k

/-- The parts of a literal. -/
def rparts (place : Nat → Option (Nat × Nat)) : List (Nat × Operand) → Option (List (Nat × Nat × ROpd))
  | [] => some []
  | (i, x) :: r => match place i, ropd x, rparts place r with | some p, some y, some l => some ((p.1, p.2, y) :: l) | _, _, _ => none
theorem rparts_sim {I : Imm} {va : ROpd → AV} {a : Act} (s : ValSat I va a) (place : Nat → Option (Nat × Nat)) : ∀ {ps : List (Nat × Operand)} {rs : List (Nat × Nat × ROpd)}, rparts place ps = some rs →
    (ps.map fun (i, x) => (i, a.eval x)).length = (evParts va rs).length ∧
    ∀ (j i : Nat) (v : Value) (q : Nat × Nat × AV), (ps.map fun (i, x) => (i, a.eval x))[j]? = some (i, v) → (evParts va rs)[j]? = some q → place i = some (q.1, q.2.1) ∧ Rd I q.2.2 v
  | [], rs, h => by simp [rparts] at h; subst h; simp [evParts]
  | (i, x) :: r, rs, h => by
    simp only [rparts] at h
    split at h
    · rename_i p y l h1 h2 h3
      simp only [Option.some.injEq] at h; subst h
      obtain ⟨ih1, ih2⟩ := rparts_sim s place h3
      refine ⟨by simp only [List.map_cons, List.length_cons, evParts, ih1], ?_⟩
      intro j i' v q e1 e2
      cases j with
      | zero =>
        simp only [List.map_cons, List.getElem?_cons_zero, Option.some.injEq, Prod.mk.injEq] at e1
        simp only [evParts, List.getElem?_cons_zero, Option.some.injEq] at e2
        obtain ⟨rfl, rfl⟩ := e1
        subst e2
        exact ⟨h1, ropd_rd s h2⟩
      | succ j =>
        exact ih2 j i' v q (by simpa using e1) (by simpa [evParts] using e2)
    · cases h

def rbuild (P : Program) (t : TypeId) (parts : List (Nat × Operand)) : Option RRead :=
  match P.info? t, P.underlying t with
  | some it, some (.struct fields) =>
    match it.zero, fields.toList.mapM (fun f => (P.info? f.type).map fun i => (f.offset, i.size)) with
    | some z, some places => match ofVs z.cells.toList, rparts (places.toArray[·]?) parts with
      | some zs, some ps => some (.build zs ps)
      | _, _ => none
    | _, _ => none
  | _, _ => none

theorem sim_build {P : Program} {o : Oper} {t : TypeId} {parts : Array (Nat × Operand)} {r : RRead} (ho : o.op = .build t parts) (hr : rbuild P t parts.toList = some r) : SimRd P o r := by
  unfold rbuild at hr
  split at hr
  · rename_i it fields hit hu
    split at hr
    · rename_i z places hz hpl
      split at hr
      · rename_i zs ps hzs hps
        simp only [Option.some.injEq] at hr; subst hr
        refine .pure fun I w h a va av s t' k => ?_
        simp only [aread, Option.map_eq_some_iff] at k
        obtain ⟨out, hout, rfl⟩ := k
        obtain ⟨k1, k2⟩ := rparts_sim s _ hps
        obtain ⟨res, hres, hrd, hone⟩ := fill_sim (I := I) (places.toArray[·]?) _ _ z.cells zs out (ofVs_rds I hzs) (ofVs_ones hzs) k1 k2 hout
        have hb : P.built t (parts.map fun (i, x) => (i, a.eval x)).toList = some res := by
          unfold Program.built
          simp only [hit, hu, hz, hpl, Array.toList_map]
          exact hres
        refine ⟨.agg res, ?_, ?_⟩
        · simp only [execOp, ho, Sem.run_bind, run_build w t _ res hb, Result.andThen_ok, Sem.run_pure]
        · have := Rd.of_agg hrd hone
          simpa using this
      · cases hr
    · cases hr
  · cases hr

def rload (P : Program) (t : TypeId) (x : ROpd) : Option RRead :=
  match P.underlying t with
  | some (.struct _) | some (.array _ _) => (P.info? t).map fun i => .load (some i.size) x
  | some _ => some (.load none x)
  | none => none

def aggD : TypeDesc → Bool
  | .struct _ | .array _ _ => true
  | _ => false
theorem run_loadVar_agg {P : Program} {t : TypeId} {i : TypeInfo} {d : TypeDesc} (hu : P.underlying t = some d) (hd : aggD d = true) (hi : P.info? t = some i)
    (w : World) (b o : Nat) (vs : List Value) (hl : vs.length = i.size) (hc : ∀ j v, vs[j]? = some v → w.cell? ⟨b, o + j, none⟩ = some v) :
    (loadVar t ⟨b, o, none⟩).run P w = .ok (.agg vs.toArray) w := by
  have hload := run_loadCells_list (P := P) w ⟨b, o, none⟩ vs (fun j v hj => by rw [add_none]; exact hc j v hj)
  have hagg : (isAgg t).run P w = .ok true w := by
    simp only [isAgg, Sem.run_bind, run_underlying hu, Result.andThen_ok]
    cases d <;> simp_all [aggD]
  simp only [loadVar, Sem.run_bind, hagg, Result.andThen_ok, if_true, Go.sizeOf, typeInfo, run_program, hi, Sem.run_pure]
  rw [← hl, hload]
  rfl
theorem run_loadVar_one {P : Program} {t : TypeId} {d : TypeDesc} (hu : P.underlying t = some d) (hd : aggD d = false)
    (w : World) (b o : Nat) (v : Value) (hc : w.cell? ⟨b, o, none⟩ = some v) : (loadVar t ⟨b, o, none⟩).run P w = .ok v w := by
  have hagg : (isAgg t).run P w = .ok false w := by
    simp only [isAgg, Sem.run_bind, run_underlying hu, Result.andThen_ok]
    cases d <;> simp_all [aggD]
  simp only [loadVar, Sem.run_bind, hagg, Result.andThen_ok, Bool.false_eq_true, if_false, run_load, hc]

/-- What can be loaded. -/
theorem aload_cells {w : World} {I : Imm} {h : AHeap} (s : Sat w I h) {n : Option Nat} {x : AV} {v av} (r : Rd I x v) (k : aload h n x = some av) :
    ∃ b o, v = .pointer (some ⟨b, o, none⟩) ∧
      match n with
      | some m => ∃ vs : List Value, vs.length = m ∧ (∀ (j : Nat) (u : Value), vs[j]? = some u → w.cell? ⟨b, o + j, none⟩ = some u) ∧ Rd I av (.agg vs.toArray)
      | none => ∃ u, w.cell? ⟨b, o, none⟩ = some u ∧ Rd I av u := by
  cases x with
  | ip cells off =>
    obtain ⟨b, o, vs, rfl, hm, hr, hone⟩ := r.inv_ip
    refine ⟨b, o + off, rfl, ?_⟩
    cases n with
    | some m =>
      simp only [aload] at k ⊢
      split at k
      · rename_i hle
        simp only [Option.some.injEq] at k; subst k
        have hlen := hr.len
        refine ⟨(vs.drop off).take m, by simp; omega, ?_, ?_⟩
        · intro j u hj
          rw [List.getElem?_take] at hj
          split at hj
          · rw [List.getElem?_drop] at hj
            rw [Nat.add_assoc]
            exact s.imm _ _ _ (hm _ _ hj)
          · cases hj
        · exact .of_agg ((hr.drop off).take m) ((hone.drop off).take m)
      · cases k
    | none =>
      simp only [aload] at k ⊢
      obtain ⟨u, h1, h2⟩ := hr.get k
      exact ⟨u, s.imm _ _ _ (hm _ _ h1), h2⟩
  | ptr p =>
    have hv := r.inv_ptr
    subst hv
    match p, k with
    | none, k => simp [aload] at k
    | some ⟨b, o, some z⟩, k => simp [aload] at k
    | some ⟨b, o, none⟩, k =>
    refine ⟨b, o, rfl, ?_⟩
    simp only [aload] at k
    cases hb : h b with
    | none => simp [hb] at k
    | some ob =>
      cases ob with
      | mp es => simp [hb] at k
      | tail _ _ _ => simp [hb] at k
      | blk cs total ty =>
        simp only [hb] at k
        obtain ⟨vs, h1, h2, h3, h4, hone⟩ := s.obj _ _ hb
        have hcell : ∀ (j : Nat) (u : Value), (vs.take cs.length)[j]? = some u → w.cell? ⟨b, j, none⟩ = some u := by
          intro j u hj
          rw [List.getElem?_take] at hj
          split at hj
          · simp only [World.cell?, h1]; simpa using hj
          · cases hj
        cases n with
        | some m =>
          simp only at k ⊢
          split at k
          · rename_i hle
            simp only [Option.some.injEq] at k; subst k
            refine ⟨((vs.take cs.length).drop o).take m, by simp; omega, ?_, ?_⟩
            · intro j u hj
              rw [List.getElem?_take] at hj
              split at hj
              · rw [List.getElem?_drop] at hj
                exact hcell _ _ hj
              · cases hj
            · exact .of_agg ((h4.drop o).take m) ((hone.drop o).take m)
          · cases k
        | none =>
          simp only at k ⊢
          obtain ⟨u, h5, h6⟩ := h4.get k
          exact ⟨u, hcell _ _ h5, h6⟩
  | _ => simp [aload] at k

theorem sim_load {P : Program} {o : Oper} {t : TypeId} {x : Operand} {rx : ROpd} {r : RRead} (ho : o.op = .load t x) (hx : ropd x = some rx) (hr : rload P t rx = some r) : SimRd P o r := by
  have key : ∀ (n : Option Nat), r = .load n rx → (∀ (w : World) (b o' : Nat), (match n with
      | some m => ∀ vs : List Value, vs.length = m → (∀ (j : Nat) (u : Value), vs[j]? = some u → w.cell? ⟨b, o' + j, none⟩ = some u) → (loadVar t ⟨b, o', none⟩).run P w = .ok (.agg vs.toArray) w
      | none => ∀ u, w.cell? ⟨b, o', none⟩ = some u → (loadVar t ⟨b, o', none⟩).run P w = .ok u w)) → SimRd P o r := by
    intro n hn H
    subst hn
    refine .pure fun I w h a va av s t' k => ?_
    simp only [aread] at k
    obtain ⟨b, o', hv, hc⟩ := aload_cells t' (ropd_rd s hx) k
    have H' := H w b o'
    cases n with
    | some m =>
      simp only at hc H'
      obtain ⟨vs, h1, h2, h3⟩ := hc
      exact ⟨_, by simp [execOp, ho, Instr.loadAt, hv, Instr.sureAddr, H' vs h1 h2], h3⟩
    | none =>
      simp only at hc H'
      obtain ⟨u, h1, h2⟩ := hc
      exact ⟨_, by simp [execOp, ho, Instr.loadAt, hv, Instr.sureAddr, H' u h1], h2⟩
  unfold rload at hr
  split at hr
  · rename_i fs hu
    simp only [Option.map_eq_some_iff] at hr
    obtain ⟨i, hi, rfl⟩ := hr
    exact key _ rfl fun w b o' vs h1 h2 => run_loadVar_agg hu rfl hi w b o' vs h1 h2
  · rename_i n el hu
    simp only [Option.map_eq_some_iff] at hr
    obtain ⟨i, hi, rfl⟩ := hr
    exact key _ rfl fun w b o' vs h1 h2 => run_loadVar_agg hu rfl hi w b o' vs h1 h2
  · rename_i d hd1 hd2 hu
    simp only [Option.some.injEq] at hr
    subst hr
    exact key none rfl fun w b o' u h1 => run_loadVar_one hu (by cases d <;> simp_all [aggD]) w b o' u h1
  · cases hr

theorem sim_nilc {P : Program} {o : Oper} {x : Operand} {rx : ROpd} (ho : o.op = .nilCheck x) (hx : ropd x = some rx) : SimRd P o (.nilc rx) := by
  refine .pure fun I w h a va av s t k => ?_
  have h1 := ropd_rd s hx
  simp only [aread] at k
  generalize va rx = y at h1 k
  generalize hv : a.eval x = v at h1
  cases y with
  | ptr p =>
    have := h1.inv_ptr; subst this
    cases p with
    | none => simp [anilc] at k
    | some p => simp only [anilc, Option.some.injEq] at k; subst k; exact ⟨.pointer (some p), by simp [execOp, ho, hv], h1⟩
  | any => simp [anilc] at k
  | nilIface => simp [anilc] at k
  | nilFunc => simp [anilc] at k
  | func _ _ _ => simp [anilc] at k
  | bool b => simp only [anilc, Option.some.injEq] at k; subst k; have := h1.inv_bool; subst this; exact ⟨_, by simp [execOp, ho, hv], h1⟩
  | int _ _ => simp only [anilc, Option.some.injEq] at k; subst k; have := h1.inv_int; subst this; exact ⟨_, by simp [execOp, ho, hv], h1⟩
  | str _ => simp only [anilc, Option.some.injEq] at k; subst k; have := h1.inv_str; subst this; exact ⟨_, by simp [execOp, ho, hv], h1⟩
  | ip _ _ => simp only [anilc, Option.some.injEq] at k; subst k; obtain ⟨b, o', vs, rfl, _⟩ := h1.inv_ip; exact ⟨_, by simp [execOp, ho, hv], h1⟩
  | sl _ _ => simp only [anilc, Option.some.injEq] at k; subst k; obtain ⟨p, cap, rfl, _⟩ := h1.inv_sl; exact ⟨_, by simp [execOp, ho, hv], h1⟩
  | os _ _ _ => simp only [anilc, Option.some.injEq] at k; subst k; have := h1.inv_os; subst this; exact ⟨_, by simp [execOp, ho, hv], h1⟩
  | gs _ _ _ => simp only [anilc, Option.some.injEq] at k; subst k; obtain ⟨sz, vss, rfl, _⟩ := h1.inv_gs; exact ⟨_, by simp [execOp, ho, hv], h1⟩
  | map _ => simp only [anilc, Option.some.injEq] at k; subst k; have := h1.inv_map; subst this; exact ⟨_, by simp [execOp, ho, hv], h1⟩
  | iface _ _ => simp only [anilc, Option.some.injEq] at k; subst k; obtain ⟨u, rfl, _⟩ := h1.inv_iface; exact ⟨_, by simp [execOp, ho, hv], h1⟩
  | agg _ => simp only [anilc, Option.some.injEq] at k; subst k; obtain ⟨u, rfl, _⟩ := h1.inv_agg; exact ⟨_, by simp [execOp, ho, hv], h1⟩
  | tuple _ => simp only [anilc, Option.some.injEq] at k; subst k; obtain ⟨u, rfl, _⟩ := h1.inv_tuple; exact ⟨_, by simp [execOp, ho, hv], h1⟩

end Pg
