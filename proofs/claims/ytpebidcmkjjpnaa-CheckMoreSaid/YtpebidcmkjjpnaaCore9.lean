/- The core, ninth part: append and make, as effects. -/
import Derived.Test.YtpebidcmkjjpnaaCore8
import Derived.IntWalk
namespace Pg
open Go
set_option linter.unusedSimpArgs false
set_option linter.unusedVariables false

theorem wrap_in (k : Int) (h0 : -9223372036854775808 ≤ k) (h1 : k ≤ 9223372036854775807) : IntKind.i64.wrap k = k := by
  exact IntWalk.i64_in k ⟨h0, h1⟩

theorem zeroCells_one (v : Value) (n : Nat) : Builtin.zeroCells #[v] n = (List.replicate n v).toArray := by
  apply Array.ext'
  simp only [Builtin.zeroCells, Array.toList_map]
  apply List.ext_getElem?
  intro j
  simp only [List.getElem?_map, List.getElem?_replicate, Array.toList_range, List.size_toArray, List.length_cons, List.length_nil, Nat.mul_one]
  by_cases hj : j < n
  · rw [List.getElem?_range (by omega)]
    have h0 : j % 1 = 0 := Nat.mod_one j
    have h1 : ∀ i, i = 0 → (#[v] : Array Value)[i]! = v := by rintro i rfl; rfl
    simp only [hj, if_true, Option.map_some, Nat.zero_add]
    rw [h1 _ h0]
  · rw [if_neg hj, List.getElem?_eq_none (by simp; omega)]
    rfl

section
variable {P : Program} {sty xty oty el : TypeId} {ie : TypeInfo} {z : Value} {kd : IntKind} {w : World} {base : Option Addr} {n cap : Nat} {k : Int} {old : List Value}

theorem run_appendz_fit (hu : P.underlying sty = some (.slice el)) (hx : P.underlying xty = some (.int kd)) (hie : P.info? el = some ie) (hz : ie.zero = some z) (hzs : z.cells = #[z]) (h1 : ie.size = 1)
    (hk : 0 ≤ k ∧ k ≤ 9223372036854775807) (hb : k * ie.bytes ≤ 2 ^ 48) (hfit : n + k.toNat ≤ cap) {w' : World}
    (hst : StoreAt P w n (List.replicate k.toNat z) w' base) :
    (Builtin.append_ #[sty, xty] oty #[.slice base n cap, .int .i64 k]).run P w = .ok (.slice base (n + k.toNat) cap) w' := by
  have hsz : (Go.sizeOf el).run P w = .ok 1 w := by simp [Go.sizeOf, typeInfo, hie, h1]
  have hti : ∀ w0 : World, (typeInfo el).run P w0 = .ok ie w0 := fun w0 => by simp [typeInfo, hie]
  have hzv : ∀ w0 : World, (zeroValue el).run P w0 = .ok z w0 := fun w0 => by simp [zeroValue, typeInfo, hie, hz]
  have hw : IntKind.i64.wrap k = k := wrap_in k (by omega) hk.2
  have ha : (asInt (.int .i64 k)).run P w = .ok k w := rfl
  have hnew : ((if k.toNat * 1 = 0 then pure #[] else do pure (Builtin.zeroCells (← zeroValue el).cells k.toNat)) : Sem (Array Value)).run P w = .ok (List.replicate k.toNat z).toArray w := by
    by_cases h0 : k.toNat = 0
    · rw [h0]; rfl
    · rw [if_neg (by omega)]
      simp only [Sem.run_bind, hzv, Result.andThen_ok, hzs, zeroCells_one, Sem.run_pure]
  cases base with
  | none =>
    simp only [StoreAt] at hst
    subst hst
    simp only [Builtin.append_, List.getElem?_toArray, List.getElem?_cons_zero, List.getElem?_cons_succ, Sem.run_bind, run_underlying hu, Result.andThen_ok, hsz]
    simp only [run_underlying hx, Sem.run_bind, Sem.run_pure, Result.andThen_ok, if_true, ha, hw]
    rw [if_neg (by omega)]
    simp only [Sem.run_bind, hti, Result.andThen_ok]
    rw [if_neg (by omega)]
    simp only [Sem.run_bind, Sem.run_pure, Result.andThen_ok, Bool.not_true, Bool.false_eq_true, if_false]
    rw [if_pos hfit]
    simp only [Sem.run_bind, hnew, Result.andThen_ok, Sem.run_pure]
  | some p =>
    simp only [StoreAt] at hst
    simp only [Builtin.append_, List.getElem?_toArray, List.getElem?_cons_zero, List.getElem?_cons_succ, Sem.run_bind, run_underlying hu, Result.andThen_ok, hsz]
    simp only [run_underlying hx, Sem.run_bind, Sem.run_pure, Result.andThen_ok, if_true, ha, hw]
    rw [if_neg (by omega)]
    simp only [Sem.run_bind, hti, Result.andThen_ok]
    rw [if_neg (by omega)]
    simp only [Sem.run_bind, Sem.run_pure, Result.andThen_ok, Bool.not_true, Bool.false_eq_true, if_false]
    rw [if_pos hfit]
    simp only [Sem.run_bind, hnew, Result.andThen_ok]
    rw [Nat.mul_one, hst]
    simp only [Result.andThen_ok, Sem.run_pure]

theorem run_appendz_grow (hu : P.underlying sty = some (.slice el)) (hx : P.underlying xty = some (.int kd)) (hie : P.info? el = some ie) (hz : ie.zero = some z) (hzs : z.cells = #[z]) (h1 : ie.size = 1) (hby : ie.bytes ≠ 0)
    (hk : 0 ≤ k ∧ k ≤ 9223372036854775807) (hb : k * ie.bytes ≤ 2 ^ 48) (hold : ∀ w0 : World, w0.heap = w.heap → (Builtin.firstCells 1 n (.slice base n cap)).run P w0 = .ok old.toArray w0)
    (hgrow : cap < n + k.toNat) (hroom : roomFor (n + k.toNat) ie.bytes) :
    ∃ c rest, n + k.toNat ≤ c ∧ rest.length = c - (n + k.toNat) ∧
      (Builtin.append_ #[sty, xty] oty #[.slice base n cap, .int .i64 k]).run P w = .ok (.slice (some ⟨w.heap.size, 0, none⟩) (n + k.toNat) c) (w.drew.alloc (.cells (old ++ List.replicate k.toNat z ++ rest).toArray el)) := by
  have hsz : (Go.sizeOf el).run P w = .ok 1 w := by simp [Go.sizeOf, typeInfo, hie, h1]
  have hti : ∀ w0 : World, (typeInfo el).run P w0 = .ok ie w0 := fun w0 => by simp [typeInfo, hie]
  have hzv : ∀ w0 : World, (zeroValue el).run P w0 = .ok z w0 := fun w0 => by simp [zeroValue, typeInfo, hie, hz]
  have hw : IntKind.i64.wrap k = k := wrap_in k (by omega) hk.2
  have ha : (asInt (.int .i64 k)).run P w = .ok k w := rfl
  have hpos : 1 ≤ ie.bytes := by omega
  have hfew : n + k.toNat < 2 ^ 63 := by
    unfold roomFor at hroom
    have : 2 * (n + k.toNat) + 1024 ≤ (2 * (n + k.toNat) + 1024) * ie.bytes := Nat.le_mul_of_pos_right _ hpos
    omega
  have hfew' : ((n + k.toNat : Nat) : Int) ≤ IntKind.i64.max := by
    have : IntKind.i64.max = 9223372036854775807 := by rfl
    rw [this]; omega
  have hcapb : ¬ Builtin.nextslicecap (n + k.toNat) cap * ie.bytes > 2 ^ 48 := by
    have h1 := nextslicecap_le (n + k.toNat) cap hgrow
    have h2 : Builtin.nextslicecap (n + k.toNat) cap * ie.bytes ≤ (2 * (n + k.toNat) + 1024) * ie.bytes := Nat.mul_le_mul_right _ h1
    unfold roomFor at hroom
    omega
  have hnew : ∀ w0 : World, ((if k.toNat * 1 = 0 then pure #[] else do pure (Builtin.zeroCells (← zeroValue el).cells k.toNat)) : Sem (Array Value)).run P w0 = .ok (List.replicate k.toNat z).toArray w0 := by
    intro w0
    by_cases h0 : k.toNat = 0
    · rw [h0]; rfl
    · rw [if_neg (by omega)]
      simp only [Sem.run_bind, hzv, Result.andThen_ok, hzs, zeroCells_one, Sem.run_pure]
  obtain ⟨c, hc, hcn⟩ := run_appendCap (P := P) w (n + k.toNat) cap el hfew
  refine ⟨c, List.replicate (c - (n + k.toNat)) z, hcn, by simp, ?_⟩
  have hfirst : ¬ (((n + k.toNat : Nat) : Int) > IntKind.i64.max ∧ (True ∨ ie.bytes = 0)) := by
    intro hh; omega
  simp only [Builtin.append_, List.getElem?_toArray, List.getElem?_cons_zero, List.getElem?_cons_succ, Sem.run_bind, run_underlying hu, Result.andThen_ok, hsz]
  simp only [run_underlying hx, Sem.run_bind, Sem.run_pure, Result.andThen_ok, if_true, ha, hw]
  rw [if_neg (by omega)]
  simp only [Sem.run_bind, hti, Result.andThen_ok]
  rw [if_neg (by omega)]
  simp only [Sem.run_bind, Sem.run_pure, Result.andThen_ok, Bool.not_true, Bool.false_eq_true, if_false]
  rw [if_neg (by omega)]
  simp only [Sem.run_bind, hti, Result.andThen_ok]
  rw [if_neg hfirst]
  simp only [Sem.run_bind, hti, Result.andThen_ok]
  rw [if_neg hcapb]
  simp only [Sem.run_bind, hc, hti, run_askRoom, Result.andThen_ok, hold w.drew rfl, hnew w.drew, hzv, hzs, zeroCells_one, newRow, run_newObj, Sem.run_pure]
  have hcells : (old.toArray ++ (List.replicate k.toNat z).toArray ++ (List.replicate (c - (n + k.toNat)) z).toArray) = (old ++ List.replicate k.toNat z ++ List.replicate (c - (n + k.toNat)) z).toArray := by apply Array.ext'; simp
  rw [hcells]
  rfl
end

/-- A new owned row with spare room. -/
theorem grown_sat {w : World} {I : Imm} {h : AHeap} (s : Sat w I h) (cs : List AV) (vs rest : List Value) (total : Nat) (ty : TypeId) (r : Rds I cs vs) (h1 : Ones vs) (hl : vs.length + rest.length = total) (g : AHeap) (hg : g.le h) :
    g w.heap.size = none ∧ Sat (w.drew.alloc (.cells (vs ++ rest).toArray ty)) I (g.upd w.heap.size (.blk cs total ty)) ∧ Ext h w (w.drew.alloc (.cells (vs ++ rest).toArray ty)) ∧ New w I I h (g.upd w.heap.size (.blk cs total ty)) := by
  have s' := sat_drew (s.forget hg)
  obtain ⟨g1, g2, g3, g4⟩ := alloc_sat s' (.cells (vs ++ rest).toArray ty) (.blk cs total ty) (by
    refine ⟨vs ++ rest, alloc_get _ _, by simp [hl], by rw [r.len]; omega, ?_, ?_⟩
    · rw [r.len]; simpa using r
    · rw [r.len]; simpa using h1)
  refine ⟨g1, g2, ⟨g3.os, g3.tape, g3.output, g3.size, ?_⟩, ⟨Imm.le_refl I, ?_, fun b o v hb => .inl hb⟩⟩
  · intro k hk hn
    refine g3.block k hk ?_
    cases hgk : g k with
    | none => rfl
    | some x => have := hg k x hgk; rw [hn] at this; cases this
  · intro b o hb
    rcases g4.heap b o hb with h2 | h2
    · cases hgk : g b with
      | none => exact absurd hgk h2
      | some x => exact .inl (by rw [hg b x hgk]; simp)
    · exact .inr h2

theorem del_le (h : AHeap) (b : Nat) : (h.del b).le h := fun c o e => by
  by_cases hc : c = b
  · subst hc; rw [del_same] at e; cases e
  · rwa [del_ne _ _ hc] at e

theorem chunks_flatten {α : Type} {size : Nat} : ∀ {m : Nat} {xs : List α}, xs.length = m * size → (chunks size m xs).flatten = xs
  | 0, xs, h => by
    have : xs = [] := List.eq_nil_of_length_eq_zero (by omega)
    subst this; rfl
  | m + 1, xs, h => by
    simp only [chunks, List.flatten_cons]
    rw [chunks_flatten (xs := xs.drop size) (by rw [List.length_drop, h, Nat.add_mul]; omega), List.take_append_drop]
theorem chunks_size {α : Type} {size : Nat} : ∀ {m : Nat} {xs : List α}, xs.length = m * size → ∀ e ∈ chunks size m xs, e.length = size
  | 0, xs, h, e, he => by simp [chunks] at he
  | m + 1, xs, h, e, he => by
    simp only [chunks, List.mem_cons] at he
    have hm : (m + 1) * size = m * size + size := by rw [Nat.add_mul, Nat.one_mul]
    rcases he with rfl | he
    · rw [List.length_take, h]; omega
    · exact chunks_size (xs := xs.drop size) (by rw [List.length_drop, h]; omega) e he
/-- The first cells of a new row become immutable, the rest may be laid later. -/
def Imm.withCells (I : Imm) (b : Nat) (vs : List Value) : Imm := fun c o => if c = b then vs[o]? else I c o
theorem rows_flat {I : Imm} {b size : Nat} {es : List (List AV)} {vs : List Value} (r : Rds I es.flatten vs) (h1 : Ones vs) (hs : ∀ e ∈ es, e.length = size) (hm : ∀ (j : Nat) (v : Value), vs[j]? = some v → I b j = some v) : ∃ vss, Rows I b 0 size es vss := by
  have hfl := flatten_length (α := AV) size es hs
  refine ⟨chunks size es.length vs, ?_⟩
  have := rows_of_chunks (b := b) (len := es.length) r h1 hfl hm
  have hch : chunks size es.length es.flatten = es := by
    clear this hfl r
    induction es with
    | nil => rfl
    | cons e es ih =>
      have he := hs e (by simp)
      simp only [List.length_cons, chunks, List.flatten_cons]
      rw [List.take_left' he, List.drop_left' he, ih (fun x hx => hs x (by simp [hx]))]
  rw [hch] at this
  exact this
theorem grown_tail {w : World} {I : Imm} {h : AHeap} (s : Sat w I h) {es : List (List AV)} {size : Nat} {vs : List Value} (rest : List Value) (total : Nat) (ty : TypeId) (r : Rds I es.flatten vs) (h1 : Ones vs) (hs : ∀ e ∈ es, e.length = size) (hl : vs.length + rest.length = total) (g : AHeap) (hg : g.le h) :
    ∃ J, g w.heap.size = none ∧ Sat (w.drew.alloc (.cells (vs ++ rest).toArray ty)) J (g.upd w.heap.size (.tail (es.length * size) total ty)) ∧ Ext h w (w.drew.alloc (.cells (vs ++ rest).toArray ty)) ∧ New w I J h (g.upd w.heap.size (.tail (es.length * size) total ty)) ∧
      ∀ cap, es.length ≤ cap → Rd J (.gs es w.heap.size cap) (.slice (some ⟨w.heap.size, 0, none⟩) es.length cap) := by
  have hfl := flatten_length (α := AV) size es hs
  have hvl : vs.length = es.length * size := by rw [← r.len, hfl]
  have s' := sat_drew (s.forget hg)
  let w' := w.drew.alloc (.cells (vs ++ rest).toArray ty)
  let J := I.withCells w.heap.size vs
  have hIJ : I.le J := by
    intro b o v hb
    have := s.imm_lt hb
    simp only [J, Imm.withCells]; rw [if_neg (by omega)]; exact hb
  have hold : ∀ k, k < w.heap.size → w'.heap[k]? = w.heap[k]? := by
    intro k hk
    show (w.heap.push _)[k]? = _
    rw [Array.getElem?_push, if_neg (by omega)]
  have hget : w'.heap[w.heap.size]? = some (.cells (vs ++ rest).toArray ty (0, 0)) := alloc_get w.drew _
  have hgn : g w.heap.size = none := by
    cases hh : g w.heap.size with
    | none => rfl
    | some x => have := s.lt (hg _ _ hh); omega
  refine ⟨J, hgn, ⟨?_, ?_, ?_⟩, ⟨rfl, rfl, rfl, by show w.heap.size ≤ (w.heap.push _).size; simp, fun k hk _ => hold k hk⟩, ⟨hIJ, ?_, ?_⟩, ?_⟩
  · intro b o hb
    by_cases hbb : b = w.heap.size
    · subst hbb; rw [upd_same] at hb; cases hb
      exact ⟨vs ++ rest, hget, by simp [hl], by rw [← hvl]; omega⟩
    · rw [upd_ne _ _ _ hbb] at hb
      exact (s.obj b o (hg _ _ hb)).mono hIJ (hold b (s.lt (hg _ _ hb)))
  · intro b o v hb
    simp only [J, Imm.withCells] at hb
    split at hb
    · rename_i hbb; subst hbb
      have ho : o < vs.length := by
        rcases Nat.lt_or_ge o vs.length with h' | h'
        · exact h'
        · rw [List.getElem?_eq_none h'] at hb; cases hb
      show w'.cell? ⟨w.heap.size, o, none⟩ = some v
      simp only [World.cell?, hget]
      simp [List.getElem?_append_left ho, hb]
    · have hlt := s.imm_lt hb
      show w'.cell? ⟨b, o, none⟩ = some v
      have := s.imm b o v hb
      simp only [World.cell?] at this ⊢
      rw [hold b hlt]; exact this
  · intro b o v hb
    simp only [J, Imm.withCells] at hb
    split at hb
    · rename_i hbb; subst hbb
      rw [upd_same]
      show o < es.length * size
      rcases Nat.lt_or_ge o vs.length with h' | h'
      · omega
      · rw [List.getElem?_eq_none h'] at hb; cases hb
    · rename_i hbb
      rw [upd_ne _ _ _ hbb]
      exact (s.forget hg).dis b o v hb
  · intro b o hb
    by_cases hbb : b = w.heap.size
    · exact .inr (by omega)
    · rw [upd_ne _ _ _ hbb] at hb; exact .inl (by rw [hg _ _ hb]; simp)
  · intro b o v hb
    simp only [J, Imm.withCells] at hb
    split at hb
    · rename_i hbb; exact .inr (.inr (by omega))
    · exact .inl hb
  · intro cap hcap
    obtain ⟨vss, R⟩ := rows_flat (b := w.heap.size) (r.mono hIJ) h1 hs (fun j v hj => by simp only [J, Imm.withCells, if_true]; exact hj)
    exact Rd.of_gs hcap R

/-- Cells are laid behind the immutable ones of a row. -/
theorem tail_sat {w : World} {I : Imm} {h : AHeap} (s : Sat w I h) {b q total size : Nat} {ty : TypeId} {es es2 : List (List AV)} {vs us new : List Value} (hb : h b = some (.tail q total ty)) (g1 : w.heap[b]? = some (.cells vs.toArray ty (0, 0))) (g2 : vs.length = total) (hq : q = es.length * size)
    (r : Rds I es2.flatten (us ++ new)) (h1 : Ones (us ++ new)) (hs : ∀ e ∈ es2, e.length = size) (hI : ∀ (j : Nat) (v : Value), us[j]? = some v → I b j = some v) (hfit : es2.length * size ≤ total) (hle : es.length * size + new.length ≤ vs.length) (hu : us.length = es.length * size) :
    ∃ J, Sat (w.setRow b (splice vs (es.length * size) new).toArray) J (h.upd b (.tail (es2.length * size) total ty)) ∧ Ext h w (w.setRow b (splice vs (es.length * size) new).toArray) ∧ New w I J h (h.upd b (.tail (es2.length * size) total ty)) ∧
      ∀ cap, es2.length ≤ cap → Rd J (.gs es2 b cap) (.slice (some ⟨b, 0, none⟩) es2.length cap) := by
  subst hq
  have hsp : (splice vs (es.length * size) new).length = total := by rw [splice_length _ _ _ hle, g2]
  have hfl2 := flatten_length (α := AV) size es2 hs
  have hlen2 : us.length + new.length = es2.length * size := by rw [← hfl2, r.len, List.length_append]
  let J : Imm := fun c o => if c = b ∧ es.length * size ≤ o then (if o < es2.length * size then (splice vs (es.length * size) new)[o]? else none) else I c o
  have hIJ : I.le J := by
    intro c o v hv
    simp only [J]
    rw [if_neg]
    · exact hv
    · rintro ⟨rfl, ho⟩
      have := s.dis c o v hv; rw [hb] at this
      have : o < es.length * size := this
      omega
  have hnew : ∀ (j : Nat) (v : Value), (us ++ new)[j]? = some v → es.length * size ≤ j → J b j = some v := by
    intro j v hj hge
    have hjl : j < us.length + new.length := by
      rcases Nat.lt_or_ge j (us ++ new).length with h' | h'
      · simpa using h'
      · rw [List.getElem?_eq_none h'] at hj; cases hj
    simp only [J]
    rw [if_pos (by first | exact ⟨rfl, hge⟩ | exact ⟨trivial, hge⟩), if_pos (by omega)]
    unfold splice
    rw [List.getElem?_append_right (by simp; omega), List.getElem?_append_left (by simp; omega)]
    rw [List.getElem?_append_right (by omega)] at hj
    rw [List.length_take, Nat.min_eq_left (by omega), ← hj, hu]
  have hget := setRow_heap w b _ (splice vs (es.length * size) new).toArray _ _ g1
  refine ⟨J, ⟨?_, ?_, ?_⟩, ⟨rfl, rfl, rfl, by simp, fun k hk hn => setRow_other w b k _ (by intro hh; subst hh; rw [hb] at hn; cases hn)⟩, ⟨hIJ, ?_, ?_⟩, ?_⟩
  · intro c o hc
    by_cases hcb : c = b
    · subst hcb; rw [upd_same] at hc; cases hc
      exact ⟨_, hget, hsp, hfit⟩
    · rw [upd_ne _ _ _ hcb] at hc
      exact (s.obj c o hc).mono hIJ (setRow_other w b c _ hcb)
  · intro c o v hc
    simp only [J] at hc
    split at hc
    · rename_i hcond
      obtain ⟨rfl, ho⟩ := hcond
      split at hc
      · simp only [World.cell?, hget]; simpa using hc
      · cases hc
    · rename_i hcond
      by_cases hcb : c = b
      · subst hcb
        have ho : o < es.length * size := by
          rcases Nat.lt_or_ge o (es.length * size) with h' | h'
          · exact h'
          · exact absurd (by first | exact ⟨rfl, h'⟩ | exact ⟨trivial, h'⟩) hcond
        have h0 := s.imm c o v hc
        simp only [World.cell?, g1] at h0
        simp only [World.cell?, hget]
        simp only [Option.isSome_none, Bool.false_eq_true, if_false, List.getElem?_toArray] at h0 ⊢
        unfold splice
        rw [List.getElem?_append_left (by simp; omega), List.getElem?_take, if_pos ho]; exact h0
      · rw [cell_setRow_other w b _ ⟨c, o, none⟩ hcb]; exact s.imm c o v hc
  · intro c o v hc
    by_cases hcb : c = b
    · subst hcb
      rw [upd_same]
      show o < es2.length * size
      simp only [J] at hc
      split at hc
      · split at hc
        · assumption
        · cases hc
      · rename_i hcond
        have ho : o < es.length * size := by
          rcases Nat.lt_or_ge o (es.length * size) with h' | h'
          · exact h'
          · exact absurd (by first | exact ⟨rfl, h'⟩ | exact ⟨trivial, h'⟩) hcond
        omega
    · rw [upd_ne _ _ _ hcb]
      simp only [J] at hc
      rw [if_neg (fun hh => hcb hh.1)] at hc
      exact s.dis c o v hc
  · intro c o hc
    by_cases hcb : c = b
    · subst hcb; exact .inl (by rw [hb]; simp)
    · rw [upd_ne _ _ _ hcb] at hc; exact .inl (by rw [hc]; simp)
  · intro c o v hc
    simp only [J] at hc
    split at hc
    · rename_i hcond; rw [hcond.1]; exact .inr (.inl (by rw [hb]; simp))
    · exact .inl hc
  · intro cap' hcap
    obtain ⟨vss, R2⟩ := rows_flat (b := b) (size := size) (r.mono hIJ) h1 hs (fun j v hj => by
      rcases Nat.lt_or_ge j (es.length * size) with hjl | hjl
      · rw [List.getElem?_append_left (by omega)] at hj
        exact hIJ _ _ _ (hI j v hj)
      · exact hnew j v hj hjl)
    exact Rd.of_gs hcap R2

/-- The common part: what is appended stands as cells 'new'. -/
theorem append_sim {P : Program} {o : Oper} {a : Act} {ty : TypeId} {size bytes m : Nat} {w : World} {I : Imm} {h : AHeap} {K : AV → AHeap → Prop} {sv : AV} {svv : Value} {xs : List AV} {new : List Value} (t : Sat w I h) (hs : Rd I sv svv)
    (rn : Rds I xs new) (n1 : Ones new) (ln : new.length = m * size) (k : aappend h ty size bytes sv m xs K)
    (fit : ∀ (base : Option Addr) (n cap : Nat) (w' : World), svv = .slice base n cap → n + m ≤ cap → StoreAt P w (n * size) new w' base → (execOp a.eval o).run P w = .ok (.value (.slice base (n + m) cap)) w')
    (grow : ∀ (base : Option Addr) (n cap : Nat) (old : List Value), svv = .slice base n cap → cap < n + m → roomFor (n + m) bytes → (∀ w0 : World, w0.heap = w.heap → (Builtin.firstCells size n (.slice base n cap)).run P w0 = .ok old.toArray w0) →
      ∃ (c : Nat) (rest : List Value), n + m ≤ c ∧ rest.length = (c - (n + m)) * size ∧ (execOp a.eval o).run P w = .ok (.value (.slice (some ⟨w.heap.size, 0, none⟩) (n + m) c)) (w.drew.alloc (.cells (old ++ new ++ rest).toArray ty)))
    (next : Act → World → Prop) (Q : Exit → Act → World → Prop) (H : ∀ v J w' av g, K av g → Rd J av v → Sat w' J g → Ext h w w' → New w I J h g → next (a.put o.dst v) w') : o.wp P a w next Q := by
  have satw : ∀ w0 : World, w0.heap = w.heap → Sat w0 I h := by
    intro w0 he
    refine ⟨fun b o hb => (t.obj b o hb).mono (Imm.le_refl I) (by rw [he]), fun b o v hb => ?_, t.dis⟩
    have := t.imm b o v hb
    simp only [World.cell?, he] at this ⊢; exact this
  have mulc : ∀ n c : Nat, n + m ≤ c → n * size + m * size + (c - (n + m)) * size = c * size := by
    intro n c hc
    rw [← Nat.add_mul, ← Nat.add_mul]; congr 1; omega
  cases sv with
  | sl es full =>
    obtain ⟨base, cap, rfl, hc, hf, hsp, hn, hes⟩ := hs.inv_sl
    simp only [aappend] at k
    by_cases hm : m = 0
    · subst hm
      have hnil : new = [] := List.eq_nil_of_length_eq_zero (by omega)
      subst hnil
      unfold Oper.wp
      rw [fit base es.length cap w rfl (by omega) (by cases base <;> simp [StoreAt, storeCells])]
      rw [Oper.upon_value]
      exact H _ I _ _ _ (k.1 rfl) (by simpa using hs) t (.refl h w) (.refl w I h)
    · obtain ⟨hfull, hroom, hlen, hK⟩ := k.2 hm
      have hcap := hf hfull
      obtain ⟨ca, cc, us, e1, hold, e3, e4, e5⟩ := run_firstCells (P := P) t (size := size) (m := es.length) (xs := es.flatten) hs rfl hlen
      obtain ⟨c, rest, hcn, hrest, hrun⟩ := grow base es.length cap us rfl (by omega) hroom hold
      unfold Oper.wp
      rw [hrun, Oper.upon_value]
      rcases hK with hK | hK
      · obtain ⟨g1, g2, g3, g4⟩ := grown_sat t (es.flatten ++ xs) (us ++ new) rest (c * size) ty (e3.append rn) (e4.append n1) (by rw [List.length_append, e5, ln, hrest]; exact mulc _ _ hcn) h (AHeap.le_refl h)
        exact H _ I _ _ _ (hK _ _ g1 hcn) (.os _ _ _) g2 g3 g4
      · have hfl := flatten_length (α := AV) size es hlen
        obtain ⟨J, g1, g2, g3, g4, R⟩ := grown_tail t (es := es ++ chunks size m xs) (vs := us ++ new) rest (c * size) ty (by rw [List.flatten_append, chunks_flatten (by rw [rn.len, ln])]; exact e3.append rn) (e4.append n1)
          (by intro e he; rcases List.mem_append.1 he with he | he; exact hlen e he; exact chunks_size (by rw [rn.len, ln]) e he) (by rw [List.length_append, e5, ln, hrest]; exact mulc _ _ hcn) h (AHeap.le_refl h)
        have hl2 : (es ++ chunks size m xs).length = es.length + m := by rw [List.length_append, chunks_length]
        rw [hl2] at g2 g4 R
        exact H _ J _ _ _ (hK _ _ g1 hcn) (R c hcn) g2 g3 g4
  | gs es b cap =>
    obtain ⟨size', vss, rfl, hcap, R⟩ := hs.inv_gs
    simp only [aappend] at k
    cases hb : h b with
    | none => simp [hb] at k
    | some ob =>
      cases ob with
      | mp _ => simp [hb] at k
      | blk _ _ _ => simp [hb] at k
      | tail q total ty' =>
        simp only [hb] at k
        obtain ⟨rfl, htot, hq, hnc, hlen, hroom, hK⟩ := k
        obtain ⟨vs, g1, g2, g3⟩ := t.obj _ _ hb
        obtain ⟨hold, e3, e4, e5, hI⟩ := rows_first (P := P) t R hlen cap
        simp only [Nat.zero_add] at hI
        generalize vss.flatten = us at hold e3 e4 e5 hI
        have hl2 : (es ++ chunks size m xs).length = es.length + m := by rw [List.length_append, chunks_length]
        have hfit2 : ∀ e ∈ es ++ chunks size m xs, e.length = size := by intro e he; rcases List.mem_append.1 he with he | he; exact hlen e he; exact chunks_size (by rw [rn.len, ln]) e he
        have hrd : Rds I (es ++ chunks size m xs).flatten (us ++ new) := by rw [List.flatten_append, chunks_flatten (by rw [rn.len, ln])]; exact e3.append rn
        by_cases hfit : es.length + m ≤ cap
        · have hsum := mulc es.length cap hfit
          have hle2 : es.length * size + new.length ≤ vs.length := by rw [ln, g2, htot]; omega
          have hst := run_storeCells_at (P := P) b (es.length * size) ty' new 0 vs.toArray w g1 (by simpa using hle2) n1.mem
          obtain ⟨J, k1, k2, k3, R'⟩ := tail_sat t hb g1 g2 hq hrd (e4.append n1) hfit2 hI (by rw [hl2]; rw [← Nat.add_mul] at hsum; omega) hle2 e5
          rw [hl2] at k1 k3 R'
          unfold Oper.wp
          rw [fit _ es.length cap (w.setRow b (splice vs (es.length * size) new).toArray) rfl hfit (by
            simp only [StoreAt, add_none, Nat.zero_add]
            rw [hst]
            simp [splice])]
          rw [Oper.upon_value]
          have hup : h.upd b (.tail ((es.length + m) * size) total ty') = (h.del b).upd b (.tail ((es.length + m) * size) (cap * size) ty') := by
            rw [← htot]; funext c; simp only [AHeap.upd, AHeap.del]; split <;> rfl
          rw [hup] at k1 k3
          exact H _ J _ _ _ (hK b cap (del_same h b) hfit) (R' cap hfit) k1 k2 k3
        · obtain ⟨c, rest, hcn, hrest, hrun⟩ := grow _ es.length cap us rfl (by omega) hroom hold
          unfold Oper.wp
          rw [hrun, Oper.upon_value]
          obtain ⟨J, q1, q2, q3, q4, R'⟩ := grown_tail t (es := es ++ chunks size m xs) (vs := us ++ new) rest (c * size) ty' hrd (e4.append n1) hfit2 (by rw [List.length_append, e5, ln, hrest]; exact mulc _ _ hcn) (h.del b) (del_le h b)
          rw [hl2] at q2 q4 R'
          exact H _ J _ _ _ (hK _ _ q1 hcn) (R' c hcn) q2 q3 q4
  | os b n cap =>
    have := hs.inv_os; subst this
    simp only [aappend] at k
    cases hb : h b with
    | none => simp [hb] at k
    | some ob =>
      cases ob with
      | mp _ => simp [hb] at k
      | tail _ _ _ => simp [hb] at k
      | blk cs total ty' =>
        simp only [hb] at k
        obtain ⟨rfl, htot, hnc, hle, hroom, hK⟩ := k
        obtain ⟨vs, g1, g2, g3, g4, g5⟩ := t.obj _ _ hb
        by_cases hfit : n + m ≤ cap
        · have hsum := mulc n cap hfit
          have hle2 : n * size + new.length ≤ vs.length := by rw [ln, g2, htot]; omega
          have hst := run_storeCells_at (P := P) b (n * size) ty' new 0 vs.toArray w g1 (by simpa using hle2) n1.mem
          have hsp : (splice vs (n * size) new).length = total := by rw [splice_length _ _ _ hle2, g2]
          have htk : (splice vs (n * size) new).take (cs.take (n * size) ++ xs).length = (vs.take cs.length).take (n * size) ++ new := by
            have l1 : (cs.take (n * size) ++ xs).length = n * size + new.length := by simp [rn.len]; omega
            rw [l1]
            unfold splice
            rw [List.take_append, List.take_append]
            simp only [List.length_take]
            rw [Nat.min_eq_left (show n * size ≤ vs.length by omega), List.take_take, Nat.min_eq_right (by omega), List.take_of_length_le (show new.length ≤ n * size + new.length - n * size by omega), List.take_take, Nat.min_eq_left hle]
            simp
          have hset := setRow_sat t hb g1 hsp (ds := cs.take (n * size) ++ xs) (by simp [rn.len]; rw [← g2]; omega)
            (by rw [htk]; exact (g4.take _).append rn) (by rw [htk]; exact (g5.take _).append n1)
          obtain ⟨k1, k2, k3⟩ := hset
          unfold Oper.wp
          rw [fit _ n cap (w.setRow b (splice vs (n * size) new).toArray) rfl hfit (by
            simp only [StoreAt, add_none, Nat.zero_add]
            rw [hst]
            simp [splice])]
          rw [Oper.upon_value]
          have hup : h.upd b (.blk (cs.take (n * size) ++ xs) total ty') = (h.del b).upd b (.blk (cs.take (n * size) ++ xs) (cap * size) ty') := by
            rw [← htot]; funext c; simp only [AHeap.upd, AHeap.del]; split <;> rfl
          rw [hup] at k1 k3
          exact H _ I _ _ _ (hK b cap (del_same h b) hfit) (.os _ _ _) k1 k2 k3
        · have hlen : ((vs.take cs.length).take (n * size)).length = n * size := by simp; omega
          obtain ⟨c, rest, hcn, hrest, hrun⟩ := grow _ n cap ((vs.take cs.length).take (n * size)) rfl (by omega) hroom (by
            intro w0 he
            have hload := run_loadCells_list (P := P) w0 ⟨b, 0, none⟩ ((vs.take cs.length).take (n * size)) (fun j v hj => by
              rw [add_none, Nat.zero_add]
              rw [List.getElem?_take] at hj
              split at hj
              · rw [List.getElem?_take] at hj
                split at hj
                · simp only [World.cell?, he, g1]; simpa using hj
                · cases hj
              · cases hj)
            rw [hlen] at hload
            simpa [Builtin.firstCells] using hload)
          unfold Oper.wp
          rw [hrun, Oper.upon_value]
          obtain ⟨q1, q2, q3, q4⟩ := grown_sat t (cs.take (n * size) ++ xs) ((vs.take cs.length).take (n * size) ++ new) rest (c * size) ty' ((g4.take _).append rn) ((g5.take _).append n1) (by rw [List.length_append, hlen, ln, hrest]; exact mulc _ _ hcn) (h.del b) (del_le h b)
          exact H _ I _ _ _ (hK _ _ q1 hcn) (.os _ _ _) q2 q3 q4
  | _ => simp [aappend] at k

end Pg
