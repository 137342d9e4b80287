/- The core, ninth part: append and make, as effects. -/
import Derived.Test.YtdfgmciefgomjaaCore8
import Derived.IntWalk
namespace Pg
open Go
set_option linter.unusedSimpArgs false
set_option linter.unusedVariables false

theorem wrap_in (k : Int) (h0 : -9223372036854775808 ≤ k) (h1 : k ≤ 9223372036854775807) : IntKind.i64.wrap k = k := by
  exact IntWalk.i64_in k ⟨h0, h1⟩

theorem zeroCells_one (v : Value) (n : Nat) : Builtin.zeroCells #[v] n = (List.replicate n v).toArray := by
  apply Array.ext'
  simp only [Builtin.zeroCells, Array.toList_map]
  apply List.ext_getElem?
  intro j
  simp only [List.getElem?_map, List.getElem?_replicate, Array.toList_range, List.size_toArray, List.length_cons, List.length_nil, Nat.mul_one]
  by_cases hj : j < n
  · rw [List.getElem?_range (by omega)]
    have h0 : j % 1 = 0 := Nat.mod_one j
    have h1 : ∀ i, i = 0 → (#[v] : Array Value)[i]! = v := by rintro i rfl; rfl
    simp only [hj, if_true, Option.map_some, Nat.zero_add]
    rw [h1 _ h0]
  · rw [if_neg hj, List.getElem?_eq_none (by simp; omega)]
    rfl

section
variable {P : Program} {sty xty oty el : TypeId} {ie : TypeInfo} {z : Value} {kd : IntKind} {w : World} {base : Option Addr} {n cap : Nat} {k : Int} {old : List Value}

theorem run_appendz_fit (hu : P.underlying sty = some (.slice el)) (hx : P.underlying xty = some (.int kd)) (hie : P.info? el = some ie) (hz : ie.zero = some z) (hzs : z.cells = #[z]) (h1 : ie.size = 1)
    (hk : 0 ≤ k ∧ k ≤ 9223372036854775807) (hb : k * ie.bytes ≤ 2 ^ 48) (hfit : n + k.toNat ≤ cap) {w' : World}
    (hst : StoreAt P w n (List.replicate k.toNat z) w' base) :
    (Builtin.append_ #[sty, xty] oty #[.slice base n cap, .int .i64 k]).run P w = .ok (.slice base (n + k.toNat) cap) w' := by
  have hsz : (Go.sizeOf el).run P w = .ok 1 w := by simp [Go.sizeOf, typeInfo, hie, h1]
  have hti : ∀ w0 : World, (typeInfo el).run P w0 = .ok ie w0 := fun w0 => by simp [typeInfo, hie]
  have hzv : ∀ w0 : World, (zeroValue el).run P w0 = .ok z w0 := fun w0 => by simp [zeroValue, typeInfo, hie, hz]
  have hw : IntKind.i64.wrap k = k := wrap_in k (by omega) hk.2
  have ha : (asInt (.int .i64 k)).run P w = .ok k w := rfl
  have hnew : ((if k.toNat * 1 = 0 then pure #[] else do pure (Builtin.zeroCells (← zeroValue el).cells k.toNat)) : Sem (Array Value)).run P w = .ok (List.replicate k.toNat z).toArray w := by
    by_cases h0 : k.toNat = 0
    · rw [h0]; rfl
    · rw [if_neg (by omega)]
      simp only [Sem.run_bind, hzv, Result.andThen_ok, hzs, zeroCells_one, Sem.run_pure]
  cases base with
  | none =>
    simp only [StoreAt] at hst
    subst hst
    simp only [Builtin.append_, List.getElem?_toArray, List.getElem?_cons_zero, List.getElem?_cons_succ, Sem.run_bind, run_underlying hu, Result.andThen_ok, hsz]
    simp only [run_underlying hx, Sem.run_bind, Sem.run_pure, Result.andThen_ok, if_true, ha, hw]
    rw [if_neg (by omega)]
    simp only [Sem.run_bind, hti, Result.andThen_ok]
    rw [if_neg (by omega)]
    simp only [Sem.run_bind, Sem.run_pure, Result.andThen_ok, Bool.not_true, Bool.false_eq_true, if_false]
    rw [if_pos hfit]
    simp only [Sem.run_bind, hnew, Result.andThen_ok, Sem.run_pure]
  | some p =>
    simp only [StoreAt] at hst
    simp only [Builtin.append_, List.getElem?_toArray, List.getElem?_cons_zero, List.getElem?_cons_succ, Sem.run_bind, run_underlying hu, Result.andThen_ok, hsz]
    simp only [run_underlying hx, Sem.run_bind, Sem.run_pure, Result.andThen_ok, if_true, ha, hw]
    rw [if_neg (by omega)]
    simp only [Sem.run_bind, hti, Result.andThen_ok]
    rw [if_neg (by omega)]
    simp only [Sem.run_bind, Sem.run_pure, Result.andThen_ok, Bool.not_true, Bool.false_eq_true, if_false]
    rw [if_pos hfit]
    simp only [Sem.run_bind, hnew, Result.andThen_ok]
    rw [Nat.mul_one, hst]
    simp only [Result.andThen_ok, Sem.run_pure]

theorem run_appendz_grow (hu : P.underlying sty = some (.slice el)) (hx : P.underlying xty = some (.int kd)) (hie : P.info? el = some ie) (hz : ie.zero = some z) (hzs : z.cells = #[z]) (h1 : ie.size = 1) (hby : ie.bytes ≠ 0)
    (hk : 0 ≤ k ∧ k ≤ 9223372036854775807) (hb : k * ie.bytes ≤ 2 ^ 48) (hold : ∀ w0 : World, w0.heap = w.heap → (Builtin.firstCells 1 n (.slice base n cap)).run P w0 = .ok old.toArray w0)
    (hgrow : cap < n + k.toNat) (hroom : roomFor (n + k.toNat) ie.bytes) :
    ∃ c rest, n + k.toNat ≤ c ∧ rest.length = c - (n + k.toNat) ∧
      (Builtin.append_ #[sty, xty] oty #[.slice base n cap, .int .i64 k]).run P w = .ok (.slice (some ⟨w.heap.size, 0, none⟩) (n + k.toNat) c) (w.drew.alloc (.cells (old ++ List.replicate k.toNat z ++ rest).toArray el)) := by
  have hsz : (Go.sizeOf el).run P w = .ok 1 w := by simp [Go.sizeOf, typeInfo, hie, h1]
  have hti : ∀ w0 : World, (typeInfo el).run P w0 = .ok ie w0 := fun w0 => by simp [typeInfo, hie]
  have hzv : ∀ w0 : World, (zeroValue el).run P w0 = .ok z w0 := fun w0 => by simp [zeroValue, typeInfo, hie, hz]
  have hw : IntKind.i64.wrap k = k := wrap_in k (by omega) hk.2
  have ha : (asInt (.int .i64 k)).run P w = .ok k w := rfl
  have hpos : 1 ≤ ie.bytes := by omega
  have hfew : n + k.toNat < 2 ^ 63 := by
    unfold roomFor at hroom
    have : 2 * (n + k.toNat) + 1024 ≤ (2 * (n + k.toNat) + 1024) * ie.bytes := Nat.le_mul_of_pos_right _ hpos
    omega
  have hfew' : ((n + k.toNat : Nat) : Int) ≤ IntKind.i64.max := by
    have : IntKind.i64.max = 9223372036854775807 := by rfl
    rw [this]; omega
  have hcapb : ¬ Builtin.nextslicecap (n + k.toNat) cap * ie.bytes > 2 ^ 48 := by
    have h1 := nextslicecap_le (n + k.toNat) cap hgrow
    have h2 : Builtin.nextslicecap (n + k.toNat) cap * ie.bytes ≤ (2 * (n + k.toNat) + 1024) * ie.bytes := Nat.mul_le_mul_right _ h1
    unfold roomFor at hroom
    omega
  have hnew : ∀ w0 : World, ((if k.toNat * 1 = 0 then pure #[] else do pure (Builtin.zeroCells (← zeroValue el).cells k.toNat)) : Sem (Array Value)).run P w0 = .ok (List.replicate k.toNat z).toArray w0 := by
    intro w0
    by_cases h0 : k.toNat = 0
    · rw [h0]; rfl
    · rw [if_neg (by omega)]
      simp only [Sem.run_bind, hzv, Result.andThen_ok, hzs, zeroCells_one, Sem.run_pure]
  obtain ⟨c, hc, hcn⟩ := run_appendCap (P := P) w (n + k.toNat) cap el hfew
  refine ⟨c, List.replicate (c - (n + k.toNat)) z, hcn, by simp, ?_⟩
  have hfirst : ¬ (((n + k.toNat : Nat) : Int) > IntKind.i64.max ∧ (True ∨ ie.bytes = 0)) := by
    intro hh; omega
  simp only [Builtin.append_, List.getElem?_toArray, List.getElem?_cons_zero, List.getElem?_cons_succ, Sem.run_bind, run_underlying hu, Result.andThen_ok, hsz]
  simp only [run_underlying hx, Sem.run_bind, Sem.run_pure, Result.andThen_ok, if_true, ha, hw]
  rw [if_neg (by omega)]
  simp only [Sem.run_bind, hti, Result.andThen_ok]
  rw [if_neg (by omega)]
  simp only [Sem.run_bind, Sem.run_pure, Result.andThen_ok, Bool.not_true, Bool.false_eq_true, if_false]
  rw [if_neg (by omega)]
  simp only [Sem.run_bind, hti, Result.andThen_ok]
  rw [if_neg hfirst]
  simp only [Sem.run_bind, hti, Result.andThen_ok]
  rw [if_neg hcapb]
  simp only [Sem.run_bind, hc, hti, run_askRoom, Result.andThen_ok, hold w.drew rfl, hnew w.drew, hzv, hzs, zeroCells_one, newRow, run_newObj, Sem.run_pure]
  have hcells : (old.toArray ++ (List.replicate k.toNat z).toArray ++ (List.replicate (c - (n + k.toNat)) z).toArray) = (old ++ List.replicate k.toNat z ++ List.replicate (c - (n + k.toNat)) z).toArray := by apply Array.ext'; simp
  rw [hcells]
  rfl
end

/-- A new owned row with spare room. -/
theorem grown_sat {w : World} {I : Imm} {h : AHeap} (s : Sat w I h) (cs : List AV) (vs rest : List Value) (total : Nat) (ty : TypeId) (r : Rds I cs vs) (h1 : Ones vs) (hl : vs.length + rest.length = total) (g : AHeap) (hg : g.le h) :
    g w.heap.size = none ∧ Sat (w.drew.alloc (.cells (vs ++ rest).toArray ty)) I (g.upd w.heap.size (.blk cs total ty)) ∧ Ext h w (w.drew.alloc (.cells (vs ++ rest).toArray ty)) ∧ New w I I h (g.upd w.heap.size (.blk cs total ty)) := by
  have s' := sat_drew (s.forget hg)
  obtain ⟨g1, g2, g3, g4⟩ := alloc_sat s' (.cells (vs ++ rest).toArray ty) (.blk cs total ty) (by
    refine ⟨vs ++ rest, alloc_get _ _, by simp [hl], by rw [r.len]; omega, ?_, ?_⟩
    · rw [r.len]; simpa using r
    · rw [r.len]; simpa using h1)
  refine ⟨g1, g2, ⟨g3.os, g3.tape, g3.output, g3.size, ?_⟩, ⟨Imm.le_refl I, ?_, fun b o v hb => .inl hb⟩⟩
  · intro k hk hn
    refine g3.block k hk ?_
    cases hgk : g k with
    | none => rfl
    | some x => have := hg k x hgk; rw [hn] at this; cases this
  · intro b o hb
    rcases g4.heap b o hb with h2 | h2
    · cases hgk : g b with
      | none => exact absurd hgk h2
      | some x => exact .inl (by rw [hg b x hgk]; simp)
    · exact .inr h2

theorem del_le (h : AHeap) (b : Nat) : (h.del b).le h := fun c o e => by
  by_cases hc : c = b
  · subst hc; rw [del_same] at e; cases e
  · rwa [del_ne _ _ hc] at e

/-- The common part: what is appended stands as cells 'new'. -/
theorem append_sim {P : Program} {o : Oper} {a : Act} {ty : TypeId} {size bytes m : Nat} {w : World} {I : Imm} {h : AHeap} {K : AV → AHeap → Prop} {sv : AV} {svv : Value} {xs : List AV} {new : List Value} (t : Sat w I h) (hs : Rd I sv svv)
    (rn : Rds I xs new) (n1 : Ones new) (ln : new.length = m * size) (k : aappend h ty size bytes sv m xs K)
    (fit : ∀ (base : Option Addr) (n cap : Nat) (w' : World), svv = .slice base n cap → n + m ≤ cap → StoreAt P w (n * size) new w' base → (execOp a.eval o).run P w = .ok (.value (.slice base (n + m) cap)) w')
    (grow : ∀ (base : Option Addr) (n cap : Nat) (old : List Value), svv = .slice base n cap → cap < n + m → roomFor (n + m) bytes → (∀ w0 : World, w0.heap = w.heap → (Builtin.firstCells size n (.slice base n cap)).run P w0 = .ok old.toArray w0) →
      ∃ (c : Nat) (rest : List Value), n + m ≤ c ∧ rest.length = (c - (n + m)) * size ∧ (execOp a.eval o).run P w = .ok (.value (.slice (some ⟨w.heap.size, 0, none⟩) (n + m) c)) (w.drew.alloc (.cells (old ++ new ++ rest).toArray ty)))
    (next : Act → World → Prop) (Q : Exit → Act → World → Prop) (H : ∀ v J w' av g, K av g → Rd J av v → Sat w' J g → Ext h w w' → New w I J h g → next (a.put o.dst v) w') : o.wp P a w next Q := by
  have satw : ∀ w0 : World, w0.heap = w.heap → Sat w0 I h := by
    intro w0 he
    refine ⟨fun b o hb => (t.obj b o hb).mono (Imm.le_refl I) (by rw [he]), fun b o v hb => ?_, t.dis⟩
    have := t.imm b o v hb
    simp only [World.cell?, he] at this ⊢; exact this
  have mulc : ∀ n c : Nat, n + m ≤ c → n * size + m * size + (c - (n + m)) * size = c * size := by
    intro n c hc
    rw [← Nat.add_mul, ← Nat.add_mul]; congr 1; omega
  cases sv with
  | sl es full =>
    obtain ⟨base, cap, rfl, hc, hf, hsp, hn, hes⟩ := hs.inv_sl
    simp only [aappend] at k
    by_cases hm : m = 0
    · subst hm
      have hnil : new = [] := List.eq_nil_of_length_eq_zero (by omega)
      subst hnil
      unfold Oper.wp
      rw [fit base es.length cap w rfl (by omega) (by cases base <;> simp [StoreAt, storeCells])]
      rw [Oper.upon_value]
      exact H _ I _ _ _ (k.1 rfl) (by simpa using hs) t (.refl h w) (.refl w I h)
    · obtain ⟨hfull, hroom, hlen, hK⟩ := k.2 hm
      have hcap := hf hfull
      obtain ⟨ca, cc, us, e1, hold, e3, e4, e5⟩ := run_firstCells (P := P) t (size := size) (m := es.length) (xs := es.flatten) hs rfl hlen
      obtain ⟨c, rest, hcn, hrest, hrun⟩ := grow base es.length cap us rfl (by omega) hroom hold
      unfold Oper.wp
      rw [hrun, Oper.upon_value]
      obtain ⟨g1, g2, g3, g4⟩ := grown_sat t (es.flatten ++ xs) (us ++ new) rest (c * size) ty (e3.append rn) (e4.append n1) (by rw [List.length_append, e5, ln, hrest]; exact mulc _ _ hcn) h (AHeap.le_refl h)
      exact H _ I _ _ _ (hK _ _ g1 hcn) (.os _ _ _) g2 g3 g4
  | os b n cap =>
    have := hs.inv_os; subst this
    simp only [aappend] at k
    cases hb : h b with
    | none => simp [hb] at k
    | some ob =>
      cases ob with
      | mp _ => simp [hb] at k
      | blk cs total ty' =>
        simp only [hb] at k
        obtain ⟨rfl, htot, hnc, hle, hroom, hK⟩ := k
        obtain ⟨vs, g1, g2, g3, g4, g5⟩ := t.obj _ _ hb
        by_cases hfit : n + m ≤ cap
        · have hsum := mulc n cap hfit
          have hle2 : n * size + new.length ≤ vs.length := by rw [ln, g2, htot]; omega
          have hst := run_storeCells_at (P := P) b (n * size) ty' new 0 vs.toArray w g1 (by simpa using hle2) n1.mem
          have hsp : (splice vs (n * size) new).length = total := by rw [splice_length _ _ _ hle2, g2]
          have htk : (splice vs (n * size) new).take (cs.take (n * size) ++ xs).length = (vs.take cs.length).take (n * size) ++ new := by
            have l1 : (cs.take (n * size) ++ xs).length = n * size + new.length := by simp [rn.len]; omega
            rw [l1]
            unfold splice
            rw [List.take_append, List.take_append]
            simp only [List.length_take]
            rw [Nat.min_eq_left (show n * size ≤ vs.length by omega), List.take_take, Nat.min_eq_right (by omega), List.take_of_length_le (show new.length ≤ n * size + new.length - n * size by omega), List.take_take, Nat.min_eq_left hle]
            simp
          have hset := setRow_sat t hb g1 hsp (ds := cs.take (n * size) ++ xs) (by simp [rn.len]; rw [← g2]; omega)
            (by rw [htk]; exact (g4.take _).append rn) (by rw [htk]; exact (g5.take _).append n1)
          obtain ⟨k1, k2, k3⟩ := hset
          unfold Oper.wp
          rw [fit _ n cap (w.setRow b (splice vs (n * size) new).toArray) rfl hfit (by
            simp only [StoreAt, add_none, Nat.zero_add]
            rw [hst]
            simp [splice])]
          rw [Oper.upon_value]
          have hup : h.upd b (.blk (cs.take (n * size) ++ xs) total ty') = (h.del b).upd b (.blk (cs.take (n * size) ++ xs) (cap * size) ty') := by
            rw [← htot]; funext c; simp only [AHeap.upd, AHeap.del]; split <;> rfl
          rw [hup] at k1 k3
          exact H _ I _ _ _ (hK b cap (del_same h b) hfit) (.os _ _ _) k1 k2 k3
        · have hlen : ((vs.take cs.length).take (n * size)).length = n * size := by simp; omega
          obtain ⟨c, rest, hcn, hrest, hrun⟩ := grow _ n cap ((vs.take cs.length).take (n * size)) rfl (by omega) hroom (by
            intro w0 he
            have hload := run_loadCells_list (P := P) w0 ⟨b, 0, none⟩ ((vs.take cs.length).take (n * size)) (fun j v hj => by
              rw [add_none, Nat.zero_add]
              rw [List.getElem?_take] at hj
              split at hj
              · rw [List.getElem?_take] at hj
                split at hj
                · simp only [World.cell?, he, g1]; simpa using hj
                · cases hj
              · cases hj)
            rw [hlen] at hload
            simpa [Builtin.firstCells] using hload)
          unfold Oper.wp
          rw [hrun, Oper.upon_value]
          obtain ⟨q1, q2, q3, q4⟩ := grown_sat t (cs.take (n * size) ++ xs) ((vs.take cs.length).take (n * size) ++ new) rest (c * size) ty' ((g4.take _).append rn) ((g5.take _).append n1) (by rw [List.length_append, hlen, ln, hrest]; exact mulc _ _ hcn) (h.del b) (del_le h b)
          exact H _ I _ _ _ (hK _ _ q1 hcn) (.os _ _ _) q2 q3 q4
  | _ => simp [aappend] at k

end Pg
