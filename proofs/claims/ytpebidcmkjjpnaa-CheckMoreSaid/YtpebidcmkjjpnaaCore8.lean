/- The core, eighth part: append and make. -/
import Derived.Test.YtpebidcmkjjpnaaCore7
namespace Pg
open Go
set_option linter.unusedSimpArgs false
set_option linter.unusedVariables false

theorem flatten_get {α : Type} (size : Nat) : ∀ (xss : List (List α)), (∀ xs ∈ xss, xs.length = size) → ∀ (k : Nat) (v : α), xss.flatten[k]? = some v → ∃ i j xs, xss[i]? = some xs ∧ xs[j]? = some v ∧ k = i * size + j
  | [], _, k, v, h => by simp at h
  | xs :: r, hl, k, v, h => by
    simp only [List.flatten_cons] at h
    rw [List.getElem?_append] at h
    split at h
    · exact ⟨0, k, xs, by simp, h, by simp⟩
    · rename_i hk
      obtain ⟨i, j, ys, h1, h2, h3⟩ := flatten_get size r (fun ys hy => hl ys (by simp [hy])) _ v h
      have := hl xs (by simp)
      exact ⟨i + 1, j, ys, by simpa using h1, h2, by rw [Nat.add_mul]; omega⟩
theorem flatten_length {α : Type} (size : Nat) : ∀ (xss : List (List α)), (∀ xs ∈ xss, xs.length = size) → xss.flatten.length = xss.length * size
  | [], _ => by simp
  | xs :: r, hl => by
    simp only [List.flatten_cons, List.length_append, List.length_cons]
    rw [flatten_length size r (fun ys hy => hl ys (by simp [hy])), hl xs (by simp), Nat.add_mul]; omega
theorem rds_flatten {I : Imm} : ∀ (es : List (List AV)) (vss : List (List Value)), es.length = vss.length → (∀ (i : Nat) (e : List AV) (vs : List Value), es[i]? = some e → vss[i]? = some vs → Rds I e vs) → Rds I es.flatten vss.flatten
  | [], [], _, _ => by simpa using Rds.nil I
  | [], _ :: _, h, _ => by simp at h
  | _ :: _, [], h, _ => by simp at h
  | e :: es, vs :: vss, h, H => by
    simp only [List.flatten_cons]
    exact (H 0 e vs (by simp) (by simp)).append (rds_flatten es vss (by simpa using h) fun i e' vs' h1 h2 => H (i + 1) e' vs' (by simpa using h1) (by simpa using h2))
theorem ones_flatten : ∀ (vss : List (List Value)), (∀ (i : Nat) (vs : List Value), vss[i]? = some vs → Ones vs) → Ones vss.flatten
  | [], _ => by simpa using Ones.nil
  | vs :: vss, H => by
    simp only [List.flatten_cons]
    exact (H 0 vs (by simp)).append (ones_flatten vss fun i vs' h => H (i + 1) vs' (by simpa using h))

theorem cell_of_heap {w w0 : World} (he : w0.heap = w.heap) (a : Addr) : w0.cell? a = w.cell? a := by simp only [World.cell?, he]
/-- The first cells of a slice. -/
theorem run_firstCells {P : Program} {w : World} {I : Imm} {h : AHeap} (s : Sat w I h) {size m : Nat} {x : AV} {v : Value} {xs : List AV} (r : Rd I x v) (k : aelems h size x = some (m, xs)) (fit : elemsFit size x) :
    ∃ (a : Option Addr) (cap : Nat) (us : List Value), v = .slice a m cap ∧ (∀ w0 : World, w0.heap = w.heap → (Builtin.firstCells size m v).run P w0 = .ok us.toArray w0) ∧ Rds I xs us ∧ Ones us ∧ us.length = m * size := by
  have key : ∀ (es : List (List AV)) (full : Bool), Rd I (.sl es full) v → aelems h size (.sl es full) = some (m, xs) → elemsFit size (.sl es full) →
      ∃ (a : Option Addr) (cap : Nat) (us : List Value), v = .slice a m cap ∧ (∀ w0 : World, w0.heap = w.heap → (Builtin.firstCells size m v).run P w0 = .ok us.toArray w0) ∧ Rds I xs us ∧ Ones us ∧ us.length = m * size := by
    intro es full r k fit
    obtain ⟨a, cap, rfl, hc, hf, hsp, hn, hes⟩ := r.inv_sl
    simp only [aelems, Option.some.injEq, Prod.mk.injEq] at k
    obtain ⟨rfl, rfl⟩ := k
    rcases hes with rfl | ⟨b, o, size', vss, rfl, R⟩
    · refine ⟨a, cap, [], rfl, ?_, by simpa using Rds.nil I, .nil, by simp⟩
      intro w0 he
      cases a with
      | none => simp [Builtin.firstCells]
      | some a => simp [Builtin.firstCells, loadCells, loadCellsFrom]
    · by_cases hempty : es = []
      · subst hempty
        refine ⟨_, cap, [], rfl, fun w0 he => by simp [Builtin.firstCells, loadCells, loadCellsFrom], by simpa using Rds.nil I, .nil, by simp⟩
      · have hpos : 0 < es.length := List.length_pos_iff.2 hempty
        have hvl : 0 < vss.length := R.len ▸ hpos
        have hsz : size' = size := by
          have h1 := (R.size_ 0 es[0] vss[0] (List.getElem?_eq_getElem hpos) (List.getElem?_eq_getElem hvl)).1
          have h2 := fit es[0] (List.getElem_mem hpos)
          omega
        subst hsz
        have hall : ∀ vs ∈ vss, vs.length = size' := by
          intro vs hv
          obtain ⟨i, hi⟩ := List.getElem?_of_mem hv
          have hlt : i < vss.length := by
            rcases Nat.lt_or_ge i vss.length with h' | h'
            · exact h'
            · rw [List.getElem?_eq_none h'] at hi; cases hi
          have hlt' : i < es.length := by rw [R.len]; exact hlt
          exact (R.size_ i es[i] vs (List.getElem?_eq_getElem hlt') hi).2
        have hfl := flatten_length size' vss hall
        refine ⟨_, cap, vss.flatten, rfl, ?_, rds_flatten es vss R.len (fun i e vs h1 h2 => ⟨by have := R.size_ i e vs h1 h2; omega, fun j c v e1 e2 => R.rd i e vs j c v h1 h2 e1 e2⟩), ones_flatten vss R.one, by rw [hfl, R.len]⟩
        intro w0 he
        have hload := run_loadCells_list (P := P) w0 ⟨b, o, none⟩ vss.flatten (fun j v hj => by
          rw [cell_of_heap he]
          obtain ⟨i, jj, vs, h1, h2, rfl⟩ := flatten_get size' vss hall j v hj
          rw [add_none, ← Nat.add_assoc]
          exact s.imm _ _ _ (R.mem i vs jj v h1 h2))
        rw [hfl, ← R.len] at hload
        simpa [Builtin.firstCells] using hload
  cases x with
  | sl es full => exact key es full r k fit
  | gs es b cap => exact key es false r.gs_sl k fit
  | os b n cap =>
    have := r.inv_os; subst this
    simp only [aelems] at k
    cases hb : h b with
    | none => simp [hb] at k
    | some ob =>
      cases ob with
      | mp _ => simp [hb] at k
      | tail _ _ _ => simp [hb] at k
      | blk cs total ty =>
        simp only [hb] at k
        split at k
        · rename_i hle
          simp only [Option.some.injEq, Prod.mk.injEq] at k
          obtain ⟨rfl, rfl⟩ := k
          obtain ⟨vs, g1, g2, g3, g4, g5⟩ := s.obj _ _ hb
          have hlen : ((vs.take cs.length).take (n * size)).length = n * size := by simp; omega
          refine ⟨_, cap, (vs.take cs.length).take (n * size), rfl, ?_, g4.take _, g5.take _, hlen⟩
          intro w0 he
          have hload := run_loadCells_list (P := P) w0 ⟨b, 0, none⟩ ((vs.take cs.length).take (n * size)) (fun j v hj => by
            rw [cell_of_heap he, add_none, Nat.zero_add]
            rw [List.getElem?_take] at hj
            split at hj
            · rw [List.getElem?_take] at hj
              split at hj
              · simp only [World.cell?, g1]; simpa using hj
              · cases hj
            · cases hj)
          rw [hlen] at hload
          simpa [Builtin.firstCells] using hload
        · cases k
  | _ => simp [aelems] at k

/-- Likewise of rows that never turn. -/
theorem rows_first {P : Program} {w : World} {I : Imm} {h : AHeap} (s : Sat w I h) {b o size' size : Nat} {es : List (List AV)} {vss : List (List Value)} (R : Rows I b o size' es vss) (fit : ∀ e ∈ es, e.length = size) (cap : Nat) :
    (∀ w0 : World, w0.heap = w.heap → (Builtin.firstCells size es.length (.slice (some ⟨b, o, none⟩) es.length cap)).run P w0 = .ok vss.flatten.toArray w0) ∧ Rds I es.flatten vss.flatten ∧ Ones vss.flatten ∧ vss.flatten.length = es.length * size ∧
      ∀ (j : Nat) (v : Value), vss.flatten[j]? = some v → I b (o + j) = some v := by
  by_cases hempty : es = []
  · subst hempty
    have : vss = [] := List.eq_nil_of_length_eq_zero (by rw [← R.len]; rfl)
    subst this
    exact ⟨fun w0 he => by simp [Builtin.firstCells, loadCells, loadCellsFrom], by simpa using Rds.nil I, by simpa using Ones.nil, by simp, by simp⟩
  · have hpos : 0 < es.length := List.length_pos_iff.2 hempty
    have hvl : 0 < vss.length := R.len ▸ hpos
    have hsz : size' = size := by
      have h1 := (R.size_ 0 es[0] vss[0] (List.getElem?_eq_getElem hpos) (List.getElem?_eq_getElem hvl)).1
      have h2 := fit es[0] (List.getElem_mem hpos)
      omega
    subst hsz
    have hall : ∀ vs ∈ vss, vs.length = size' := by
      intro vs hv
      obtain ⟨i, hi⟩ := List.getElem?_of_mem hv
      have hlt : i < vss.length := by
        rcases Nat.lt_or_ge i vss.length with h' | h'
        · exact h'
        · rw [List.getElem?_eq_none h'] at hi; cases hi
      have hlt' : i < es.length := by rw [R.len]; exact hlt
      exact (R.size_ i es[i] vs (List.getElem?_eq_getElem hlt') hi).2
    have hfl := flatten_length size' vss hall
    have himm : ∀ (j : Nat) (v : Value), vss.flatten[j]? = some v → I b (o + j) = some v := by
      intro j v hj
      obtain ⟨i, jj, vs, h1, h2, rfl⟩ := flatten_get size' vss hall j v hj
      rw [← Nat.add_assoc]
      exact R.mem i vs jj v h1 h2
    refine ⟨?_, rds_flatten es vss R.len (fun i e vs h1 h2 => ⟨by have := R.size_ i e vs h1 h2; omega, fun j c v e1 e2 => R.rd i e vs j c v h1 h2 e1 e2⟩), ones_flatten vss R.one, by rw [hfl, R.len], himm⟩
    intro w0 he
    have hload := run_loadCells_list (P := P) w0 ⟨b, o, none⟩ vss.flatten (fun j v hj => by
      rw [cell_of_heap he, add_none]
      exact s.imm _ _ _ (himm j v hj))
    rw [hfl, ← R.len] at hload
    simpa [Builtin.firstCells] using hload

theorem growBy_le : ∀ (rounds c need : Nat), c ≤ need → Builtin.growBy need rounds c ≤ 2 * need + 192
  | 0, c, need, h => by simp only [Builtin.growBy]; omega
  | r + 1, c, need, h => by
    simp only [Builtin.growBy]
    split
    · omega
    · by_cases h2 : c + (c + 768) / 4 ≤ need
      · exact growBy_le r _ need h2
      · cases r with
        | zero => simp only [Builtin.growBy]; omega
        | succ r => simp only [Builtin.growBy]; rw [if_pos (by omega)]; omega
theorem nextslicecap_le (need cap : Nat) (h : cap < need) : Builtin.nextslicecap need cap ≤ 2 * need + 1024 := by
  unfold Builtin.nextslicecap
  split
  · omega
  · split
    · omega
    · have := growBy_le 4 cap need (by omega); omega

theorem zeroCells_size (z : Array Value) (n : Nat) : (Builtin.zeroCells z n).size = n * z.size := by simp [Builtin.zeroCells]

/-- A draw. -/
theorem run_appendCap {P : Program} (w : World) (need old : Nat) (t : TypeId) (h : need < 2 ^ 63) : ∃ c, (choose (.appendCap need old t)).run P w = .ok c w.drew ∧ need ≤ c := by
  refine ⟨(Question.appendCap need old t).cut (w.tape w.drawn (.appendCap need old t)), ?_, ?_⟩
  · rw [run_choose, if_neg (by simp [Question.forced])]; rfl
  · simp only [Question.cut]; omega

theorem sat_drew {w : World} {I : Imm} {h : AHeap} (s : Sat w I h) : Sat w.drew I h := ⟨fun b o hb => (s.obj b o hb).mono (Imm.le_refl I) rfl, fun b o v hb => s.imm b o v hb, s.dis⟩
theorem ext_drew (w : World) (h : AHeap) : Ext h w w.drew := ⟨rfl, rfl, rfl, Nat.le_refl _, fun _ _ _ => rfl⟩

theorem notInt : ∀ d : TypeDesc, (∀ k, d ≠ .int k) → (match d with | .int _ => true | _ => false) = false := by
  intro d h
  cases d <;> first | rfl | (exfalso; exact h _ rfl)

/-- Cells stored at a place of a slice's row, if it has one. -/
def StoreAt (P : Program) (w : World) (k : Nat) (new : List Value) (w' : World) : Option Addr → Prop
  | some p => (storeCells (p.add k) new).run P w = .ok () w'
  | none => w' = w

section
variable {P : Program} {sty xty oty el : TypeId} {ie : TypeInfo} {z : Value} {d : TypeDesc} {w : World} {base : Option Addr} {n cap m : Nat} {xv : Value} {old new : List Value}

theorem run_append_fit (hu : P.underlying sty = some (.slice el)) (hx : P.underlying xty = some d) (hd : ∀ k, d ≠ .int k) (hie : P.info? el = some ie)
    (hlen : (Builtin.lenOf xv).run P w = .ok m w) (hnew : (Builtin.firstCells ie.size m xv).run P w = .ok new.toArray w) (hfit : n + m ≤ cap) {w' : World}
    (hst : StoreAt P w (n * ie.size) new w' base) :
    (Builtin.append_ #[sty, xty] oty #[.slice base n cap, xv]).run P w = .ok (.slice base (n + m) cap) w' := by
  have hm := notInt d hd
  have hsz : (Go.sizeOf el).run P w = .ok ie.size w := by simp [Go.sizeOf, typeInfo, hie]
  cases base with
  | none =>
    simp only [StoreAt] at hst
    subst hst
    simp only [Builtin.append_, List.getElem?_toArray, List.getElem?_cons_zero, List.getElem?_cons_succ, Sem.run_bind, run_underlying hu, Result.andThen_ok, hsz]
    simp only [run_underlying hx, hm, Sem.run_bind, Sem.run_pure, Result.andThen_ok, Bool.false_eq_true, if_false, Bool.not_false, if_true, hlen]
    rw [if_pos hfit]
    simp only [Sem.run_bind, hnew, Result.andThen_ok, Sem.run_pure]
  | some p =>
    simp only [StoreAt] at hst
    simp only [Builtin.append_, List.getElem?_toArray, List.getElem?_cons_zero, List.getElem?_cons_succ, Sem.run_bind, run_underlying hu, Result.andThen_ok, hsz]
    simp only [run_underlying hx, hm, Sem.run_bind, Sem.run_pure, Result.andThen_ok, Bool.false_eq_true, if_false, Bool.not_false, if_true, hlen]
    rw [if_pos hfit]
    simp only [Sem.run_bind, hnew, Result.andThen_ok, Sem.run_pure, hst]

theorem run_append_grow (hu : P.underlying sty = some (.slice el)) (hx : P.underlying xty = some d) (hd : ∀ k, d ≠ .int k) (hie : P.info? el = some ie) (hz : ie.zero = some z) (hzs : z.cells.size = ie.size) (hby : ie.bytes ≠ 0)
    (hlen : (Builtin.lenOf xv).run P w = .ok m w) (hnew : ∀ w0 : World, w0.heap = w.heap → (Builtin.firstCells ie.size m xv).run P w0 = .ok new.toArray w0) (hold : ∀ w0 : World, w0.heap = w.heap → (Builtin.firstCells ie.size n (.slice base n cap)).run P w0 = .ok old.toArray w0)
    (hgrow : cap < n + m) (hroom : roomFor (n + m) ie.bytes) :
    ∃ c rest, n + m ≤ c ∧ rest.length = (c - (n + m)) * ie.size ∧
      (Builtin.append_ #[sty, xty] oty #[.slice base n cap, xv]).run P w = .ok (.slice (some ⟨w.heap.size, 0, none⟩) (n + m) c) (w.drew.alloc (.cells (old ++ new ++ rest).toArray el)) := by
  have hm := notInt d hd
  have hsz : (Go.sizeOf el).run P w = .ok ie.size w := by simp [Go.sizeOf, typeInfo, hie]
  have hti : ∀ w0 : World, (typeInfo el).run P w0 = .ok ie w0 := fun w0 => by simp [typeInfo, hie]
  have hzv : ∀ w0 : World, (zeroValue el).run P w0 = .ok z w0 := fun w0 => by simp [zeroValue, typeInfo, hie, hz]
  have hpos : 1 ≤ ie.bytes := by omega
  have hfew : n + m < 2 ^ 63 := by
    unfold roomFor at hroom
    have : 2 * (n + m) + 1024 ≤ (2 * (n + m) + 1024) * ie.bytes := Nat.le_mul_of_pos_right _ hpos
    omega
  have hcapb : ¬ Builtin.nextslicecap (n + m) cap * ie.bytes > 2 ^ 48 := by
    have h1 := nextslicecap_le (n + m) cap hgrow
    have h2 : Builtin.nextslicecap (n + m) cap * ie.bytes ≤ (2 * (n + m) + 1024) * ie.bytes := Nat.mul_le_mul_right _ h1
    unfold roomFor at hroom
    omega
  obtain ⟨c, hc, hcn⟩ := run_appendCap (P := P) w (n + m) cap el hfew
  refine ⟨c, (Builtin.zeroCells z.cells (c - (n + m))).toList, hcn, by rw [Array.length_toList, zeroCells_size, hzs], ?_⟩
  have hfirst : ¬ (((n + m : Nat) : Int) > IntKind.i64.max ∧ (False ∨ ie.bytes = 0)) := by
    intro hh; rcases hh.2 with hf | hf
    · exact hf
    · exact hby hf
  simp only [Builtin.append_, List.getElem?_toArray, List.getElem?_cons_zero, List.getElem?_cons_succ, Sem.run_bind, run_underlying hu, Result.andThen_ok, hsz]
  simp only [run_underlying hx, hm, Sem.run_bind, Sem.run_pure, Result.andThen_ok, Bool.false_eq_true, if_false, Bool.not_false, if_true, hlen]
  rw [if_neg (by omega)]
  simp only [Sem.run_bind, hti, Result.andThen_ok]
  rw [if_neg hfirst]
  simp only [Sem.run_bind, hti, Result.andThen_ok]
  rw [if_neg hcapb]
  simp only [Sem.run_bind, hc, hti, run_askRoom, Result.andThen_ok, hold w.drew rfl, hnew w.drew rfl, hzv, newRow, run_newObj, Sem.run_pure]
  have hcells : (old.toArray ++ new.toArray ++ Builtin.zeroCells z.cells (c - (n + m))) = (old ++ new ++ (Builtin.zeroCells z.cells (c - (n + m))).toList).toArray := by apply Array.ext'; simp
  rw [hcells]
  rfl
end

end Pg
