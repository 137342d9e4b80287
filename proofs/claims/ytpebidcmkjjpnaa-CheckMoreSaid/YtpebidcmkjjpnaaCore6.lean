/- The core, sixth part: slices of slices and strings, slice literals, map look-ups. -/
import Derived.Test.YtpebidcmkjjpnaaCore5
namespace Pg
open Go
set_option linter.unusedSimpArgs false
set_option linter.unusedVariables false

def OptRd (I : Imm) : Option AV → Option Value → Prop
  | some x, some v => Rd I x v
  | none, none => True
  | _, _ => False
def BoundRun (P : Program) (w : World) (d top : Nat) (code : BoundsCode) (n : Nat) : Option Value → Prop
  | some v => (Instr.sliceBound v top code).run P w = .ok n w
  | none => n = d
theorem run_bound {P : Program} {I : Imm} {w : World} {d : Nat} {x : Option AV} {v : Option Value} {n : Nat} (h : abound d x = some n) (r : OptRd I x v) (top : Nat) (code : BoundsCode) (hn : n ≤ top) :
    BoundRun P w d top code n v := by
  cases x with
  | none =>
    cases v with
    | none => simp only [abound, Option.some.injEq] at h; exact h.symm
    | some v => exact r.elim
  | some x =>
    cases v with
    | none => exact r.elim
    | some v =>
      simp only [OptRd, BoundRun] at r ⊢
      cases x with
      | int k i =>
        have := r.inv_int; subst this
        simp only [abound] at h
        split at h
        · rename_i hi
          simp only [Option.some.injEq] at h; subst h
          have : 0 ≤ i ∧ i ≤ (top : Int) := ⟨hi, by omega⟩
          simp [Instr.sliceBound, asIntOf, this]
        · cases h
      | _ => simp [abound] at h

def ropt : Option Operand → Option (Option ROpd)
  | none => some none
  | some x => (ropd x).map some
theorem ropt_rd {I : Imm} {va : ROpd → AV} {a : Act} (s : ValSat I va a) {x : Option Operand} {r : Option ROpd} (h : ropt x = some r) :
    OptRd I (r.map va) (x.map a.eval) := by
  cases x with
  | none => simp only [ropt, Option.some.injEq] at h; subst h; trivial
  | some x =>
    simp only [ropt, Option.map_eq_some_iff] at h
    obtain ⟨y, hy, rfl⟩ := h
    exact ropd_rd s hy

theorem sim_sliceS {P : Program} {o : Oper} {t : TypeId} {x : Operand} {lo hi : Option Operand} {rx : ROpd} {rlo rhi : Option ROpd} (size : Nat) (ho : o.op = .slice t x lo hi none) (hu : P.underlying t = some .string) (hx : ropd x = some rx) (hlo : ropt lo = some rlo) (hhi : ropt hi = some rhi) :
    SimRd P o (.slice true size rx rlo rhi) := by
  refine .pure fun I w h a va av s t' k => ?_
  have h1 := ropd_rd s hx
  have h2 := ropt_rd s hlo
  have h3 := ropt_rd s hhi
  simp only [aread] at k
  generalize va rx = p at h1 k
  generalize hvx : a.eval x = vx at h1
  cases p with
  | str z =>
    have := h1.inv_str; subst this
    simp only [aslice] at k
    split at k
    · rename_i hh ll hh1 hl1
      split at k
      · rename_i hc
        simp only [Option.some.injEq] at k; subst k
        refine ⟨.string (z.extract ll hh), ?_, .str _⟩
        have b1 := run_bound (P := P) (w := w) hh1 h3 z.size .sliceAlen hc.2
        have b2 := run_bound (P := P) (w := w) hl1 h2 hh .sliceB hc.1
        have hb : (Instr.sliceBounds false z.size z.size (lo.map a.eval) (hi.map a.eval) none).run P w = .ok (ll, hh, z.size) w := by
          cases hhi' : hi.map a.eval with
          | none =>
            rw [hhi'] at b1; simp only [BoundRun] at b1; subst b1
            cases hlo' : lo.map a.eval with
            | none => rw [hlo'] at b2; simp only [BoundRun] at b2; subst b2; simp [Instr.sliceBounds]
            | some u => rw [hlo'] at b2; simp only [BoundRun] at b2; simp [Instr.sliceBounds, b2]
          | some v =>
            rw [hhi'] at b1; simp only [BoundRun] at b1
            cases hlo' : lo.map a.eval with
            | none => rw [hlo'] at b2; simp only [BoundRun] at b2; subst b2; simp [Instr.sliceBounds, b1]
            | some u => rw [hlo'] at b2; simp only [BoundRun] at b2; simp [Instr.sliceBounds, b1, b2]
        simp [execOp, ho, hvx, Instr.sliceAt, Instr.slice, run_underlying hu, hb]
      · cases k
    · cases k
  | _ => simp [aslice] at k

theorem sim_sliceL {P : Program} {o : Oper} {t el : TypeId} {i : TypeInfo} {x : Operand} {lo hi : Option Operand} {rx : ROpd} {rlo rhi : Option ROpd} (ho : o.op = .slice t x lo hi none) (hu : P.underlying t = some (.slice el)) (hi' : P.info? el = some i) (hx : ropd x = some rx) (hlo : ropt lo = some rlo) (hhi : ropt hi = some rhi) :
    SimRd P o (.slice false i.size rx rlo rhi) := by
  refine .pure fun I w h a va av s t' k => ?_
  have h1 := ropd_rd s hx
  have h2 := ropt_rd s hlo
  have h3 := ropt_rd s hhi
  simp only [aread] at k
  generalize va rx = p at h1 k
  generalize hvx : a.eval x = vx at h1
  have hsz : (Go.sizeOf el).run P w = .ok i.size w := by simp [Go.sizeOf, typeInfo, hi']
  have run : ∀ (q : Option Addr) (n cap hh ll : Nat), vx = .slice q n cap → abound n (rhi.map va) = some hh → abound 0 (rlo.map va) = some ll → ll ≤ hh → hh ≤ n → n ≤ cap →
      (execOp a.eval o).run P w = .ok (.value (.slice (if cap = ll then q else q.map (·.add (ll * i.size))) (hh - ll) (cap - ll))) w := by
    rintro q n cap hh ll rfl hh1 hl1 c1 c2 c3
    have b1 := run_bound (P := P) (w := w) hh1 h3 cap .sliceAcap (by omega)
    have b2 := run_bound (P := P) (w := w) hl1 h2 hh .sliceB c1
    have hb : (Instr.sliceBounds true n cap (lo.map a.eval) (hi.map a.eval) none).run P w = .ok (ll, hh, cap) w := by
      cases hhi' : hi.map a.eval with
      | none =>
        rw [hhi'] at b1; simp only [BoundRun] at b1; subst b1
        cases hlo' : lo.map a.eval with
        | none => rw [hlo'] at b2; simp only [BoundRun] at b2; subst b2; simp [Instr.sliceBounds]
        | some u => rw [hlo'] at b2; simp only [BoundRun] at b2; simp [Instr.sliceBounds, b2]
      | some v =>
        rw [hhi'] at b1; simp only [BoundRun] at b1
        cases hlo' : lo.map a.eval with
        | none => rw [hlo'] at b2; simp only [BoundRun] at b2; subst b2; simp [Instr.sliceBounds, b1]
        | some u => rw [hlo'] at b2; simp only [BoundRun] at b2; simp [Instr.sliceBounds, b1, b2]
    simp [execOp, ho, hvx, Instr.sliceAt, Instr.slice, run_underlying hu, hb, hsz]
  have key : ∀ (es : List (List AV)) (full : Bool), Rd I (.sl es full) vx → aslice false i.size (.sl es full) (rlo.map va) (rhi.map va) = some av → ∃ v, (execOp a.eval o).run P w = .ok (.value v) w ∧ Rd I av v := by
    intro es full h1 k
    obtain ⟨q, cap, rfl, hc, hf, hsp, hn, hes⟩ := h1.inv_sl
    simp only [aslice] at k
    split at k
    · rename_i hh ll hh1 hl1
      split at k
      · rename_i hcond
        obtain ⟨c1, c2, c3⟩ := hcond
        simp only [Option.some.injEq] at k; subst k
        refine ⟨_, run q es.length cap hh ll rfl hh1 hl1 c1 c2 hc, ?_⟩
        have hlen : ((es.take hh).drop ll).length = hh - ll := by simp; omega
        have hfull : (full && hh == es.length) = true → cap - ll = hh - ll := by
          intro hb; simp only [Bool.and_eq_true, beq_iff_eq] at hb; rw [hf hb.1, hb.2]
        by_cases hempty : hh - ll = 0
        · have h0 : (es.take hh).drop ll = [] := List.eq_nil_of_length_eq_zero (by omega)
          rw [h0, hempty]
          refine .sl0 _ _ _ ?_ ?_ ?_
          · exact fun _ _ => trivial
          · intro hz
            split at hz
            · have := hn hz; omega
            · cases q with
              | none => have := hn rfl; omega
              | some z' => simp at hz
          · intro hb; have := hfull hb; omega
        · rcases hes with rfl | ⟨b, o', size, vss, rfl, R⟩
          · simp at c2; omega
          · have hcl : ¬ cap = ll := by omega
            rw [if_neg hcl]
            simp only [Option.map_some, add_none]
            have hlt : 0 < es.length := by omega
            have hsize : ll = 0 ∨ size = i.size := by
              rcases c3 with c3 | c3
              · exact .inl c3
              · right
                cases es with
                | nil => simp at hlt
                | cons e0 es =>
                  have hv : 0 < vss.length := by have := R.len; simp at this; omega
                  have := (R.size_ 0 e0 _ (by simp) (List.getElem?_eq_getElem hv)).1
                  simp at c3; omega
            have hmul : ll * i.size = ll * size := by
              rcases hsize with h | h
              · subst h; simp
              · rw [h]
            rw [hmul, ← hlen]
            refine Rd.of_rows _ (by rw [hlen]; omega) (fun hb => by rw [hlen]; exact hfull hb) (o := o' + ll * size) (size := size) (vss := (vss.take hh).drop ll) ⟨by simp [R.len], ?_, ?_, ?_, ?_⟩
            · intro j e' vs e1 e2
              rw [List.getElem?_drop, List.getElem?_take] at e1 e2
              split at e1
              · rename_i hj; rw [if_pos hj] at e2; exact R.size_ _ _ _ e1 e2
              · cases e1
            · intro j vs jj v e1 e2
              rw [List.getElem?_drop, List.getElem?_take] at e1
              split at e1
              · have := R.mem _ _ _ _ e1 e2
                rw [show o' + ll * size + j * size + jj = o' + (ll + j) * size + jj by rw [Nat.add_mul]; omega]
                exact this
              · cases e1
            · intro j vs e1
              rw [List.getElem?_drop, List.getElem?_take] at e1
              split at e1
              · exact R.one _ _ e1
              · cases e1
            · intro j e' vs jj c v e1 e2 e3 e4
              rw [List.getElem?_drop, List.getElem?_take] at e1 e2
              split at e1
              · rename_i hj; rw [if_pos hj] at e2; exact R.rd _ _ _ _ _ _ e1 e2 e3 e4
              · cases e1
      · cases k
    · cases k
  cases p with
  | sl es full => exact key es full h1 k
  | gs es b cap => exact key es false h1.gs_sl (by simpa [aslice] using k)
  | os b n cap =>
    have := h1.inv_os; subst this
    simp only [aslice] at k
    split at k
    · rename_i hh hh1 hl1
      split at k
      · rename_i hcond
        simp only [Option.some.injEq] at k; subst k
        refine ⟨_, run _ n cap hh 0 rfl hh1 hl1 (Nat.zero_le _) hcond.1 hcond.2, ?_⟩
        have : (if cap = 0 then (some ⟨b, 0, none⟩ : Option Addr) else (some ⟨b, 0, none⟩ : Option Addr).map (·.add (0 * i.size))) = some ⟨b, 0, none⟩ := by
          split <;> simp [Addr.add]
        rw [this]
        exact .os b hh cap
      · cases k
    · cases k
  | _ => simp [aslice] at k

theorem chunks_get {α : Type} (size : Nat) : ∀ (n : Nat) (l : List α) (i : Nat) (x : List α), (chunks size n l)[i]? = some x → i < n ∧ x = (l.drop (i * size)).take size
  | 0, l, i, x, h => by simp [chunks] at h
  | n + 1, l, 0, x, h => by simp [chunks] at h; subst h; simp
  | n + 1, l, i + 1, x, h => by
    simp only [chunks, List.getElem?_cons_succ] at h
    obtain ⟨h1, h2⟩ := chunks_get size n _ i x h
    refine ⟨by omega, ?_⟩
    rw [h2, List.drop_drop, Nat.add_mul, Nat.one_mul, Nat.add_comm size]
theorem chunks_length {α : Type} (size : Nat) : ∀ (n : Nat) (l : List α), (chunks size n l).length = n
  | 0, _ => rfl
  | n + 1, l => by simp [chunks, chunks_length size n]

/-- A new row of cells becomes immutable at once. -/
def Imm.withRow (I : Imm) (b : Nat) (vs : List Value) : Imm := fun c o => if c = b then vs[o]? else I c o
theorem withRow_sat {w : World} {I : Imm} {h : AHeap} (s : Sat w I h) (vs : List Value) (ty : TypeId) :
    let w' := w.alloc (.cells vs.toArray ty)
    Sat w' (I.withRow w.heap.size vs) h ∧ Ext h w w' ∧ New w I (I.withRow w.heap.size vs) h h ∧ I.le (I.withRow w.heap.size vs) := by
  intro w'
  have hle : I.le (I.withRow w.heap.size vs) := by
    intro b o v hb
    have := s.imm_lt hb
    simp only [Imm.withRow]; rw [if_neg (by omega)]; exact hb
  have hold : ∀ k, k < w.heap.size → w'.heap[k]? = w.heap[k]? := by
    intro k hk
    show (w.heap.push _)[k]? = _
    rw [Array.getElem?_push, if_neg (by omega)]
  refine ⟨⟨?_, ?_, ?_⟩, ⟨rfl, rfl, rfl, by simp [w'], fun k hk _ => hold k hk⟩, ⟨hle, fun b o e => .inl (by rw [e]; simp), ?_⟩, hle⟩
  · intro b o hb
    exact (s.obj b o hb).mono hle (hold b (s.lt hb))
  · intro b o v hb
    simp only [Imm.withRow] at hb
    split at hb
    · rename_i hbb; subst hbb
      show (w.alloc (.cells vs.toArray ty)).cell? ⟨w.heap.size, o, none⟩ = some v
      rw [World.cell?_alloc_new]; simpa using hb
    · have hlt := s.imm_lt hb
      show (w.alloc (.cells vs.toArray ty)).cell? ⟨b, o, none⟩ = some v
      rw [World.cell?_alloc_lt _ _ _ hlt]
      exact s.imm b o v hb
  · intro b o v hb
    simp only [Imm.withRow] at hb
    split at hb
    · rename_i hbb; subst hbb
      cases hh : h w.heap.size with
      | none => trivial
      | some x => have := s.lt hh; omega
    · exact s.dis b o v hb
  · intro b o v hb
    simp only [Imm.withRow] at hb
    split at hb
    · rename_i hbb; exact .inr (.inr (by omega))
    · exact .inl hb

theorem rows_of_chunks {I : Imm} {b size len : Nat} {cs : List AV} {vs : List Value} (r : Rds I cs vs) (hone : Ones vs) (hl : cs.length = len * size) (hm : ∀ (j : Nat) (v : Value), vs[j]? = some v → I b j = some v) : Rows I b 0 size (chunks size len cs) (chunks size len vs) := by
  have hl' : vs.length = len * size := by rw [← r.len]; exact hl
  have hrow : ∀ i, i < len → i * size + size ≤ len * size := by
    intro i hi
    calc i * size + size = (i + 1) * size := by rw [Nat.add_mul, Nat.one_mul]
      _ ≤ len * size := Nat.mul_le_mul_right _ hi
  refine ⟨by rw [chunks_length, chunks_length], ?_, ?_, ?_, ?_⟩
  · intro i e v e1 e2
    obtain ⟨h1, rfl⟩ := chunks_get size len cs i e e1
    obtain ⟨_, rfl⟩ := chunks_get size len vs i v e2
    have := hrow i h1
    simp only [List.length_take, List.length_drop, hl, hl']
    omega
  · intro i v j u e1 e2
    obtain ⟨h1, rfl⟩ := chunks_get size len vs i v e1
    rw [List.getElem?_take] at e2
    split at e2
    · rw [List.getElem?_drop] at e2
      rw [Nat.zero_add]
      exact hm _ _ e2
    · cases e2
  · intro i v e1
    obtain ⟨h1, rfl⟩ := chunks_get size len vs i v e1
    exact (hone.drop _).take _
  · intro i e v j c u e1 e2 e3 e4
    obtain ⟨h1, rfl⟩ := chunks_get size len cs i e e1
    obtain ⟨_, rfl⟩ := chunks_get size len vs i v e2
    exact ((r.drop _).take _).at_ j c u e3 e4

def bslZero (zs : Array Value) (n : Nat) : List Value := ((Array.range n).map (zs[· % zs.size]!)).toList

theorem bsl_run {P : Program} {I : Imm} {va : ROpd → AV} {a : Act} {w : World} {t el : TypeId} {ie : TypeInfo} {z : Value} {len : Nat} {parts : Array (Nat × Operand)} {zs cs : List AV} {ps : List (Nat × Nat × ROpd)} (s : ValSat I va a) (hu : P.underlying t = some (.slice el)) (hie : P.info? el = some ie) (hz : ie.zero = some z)
    (hsmall : ¬ len * ie.size > 2 ^ 24) (hzs : ofVs (bslZero (if len * ie.size = 0 then #[] else z.cells) (len * ie.size)) = some zs) (hps : rparts (fun i => some (i * ie.size, ie.size)) parts.toList = some ps) (hcs : afill zs (evParts va ps) = some cs) :
    ∃ res : Array Value, (Instr.buildSlice t len (parts.map fun (i, x) => (i, a.eval x))).run P w = .ok (.slice (some ⟨w.heap.size, 0, none⟩) len len) (w.alloc (.cells res el)) ∧ Rds I cs res.toList ∧ Ones res.toList ∧ cs.length = len * ie.size := by
  obtain ⟨k1, k2⟩ := rparts_sim s _ hps
  have hzr := ofVs_rds I hzs
  obtain ⟨res, hres, hrd, hone⟩ := fill_sim (I := I) (fun i => some (i * ie.size, ie.size)) _ _ ((Array.range (len * ie.size)).map ((if len * ie.size = 0 then #[] else z.cells)[· % (if len * ie.size = 0 then #[] else z.cells).size]!)) zs cs hzr (ofVs_ones hzs) k1 k2 hcs
  have hlen : cs.length = len * ie.size := by
    have afl : ∀ (qs : List (Nat × Nat × AV)) (c0 c1 : List AV), afill c0 qs = some c1 → c1.length = c0.length := by
      intro qs
      induction qs with
      | nil => intro c0 c1 h; simp only [afill, Option.some.injEq] at h; rw [h]
      | cons q qs ih =>
        intro c0 c1 h
        obtain ⟨o1, s1, v1⟩ := q
        simp only [afill] at h
        split at h
        · split at h
          · rename_i hc
            rw [ih _ _ h, splice_length]
            rw [hc.1]; exact hc.2
          · cases h
        · cases h
    rw [afl _ _ _ hcs, hzr.len]; simp [bslZero]
  have hrun : (Instr.buildSlice t len (parts.map fun (i, x) => (i, a.eval x))).run P w = .ok (.slice (some ⟨w.heap.size, 0, none⟩) len len) (w.alloc (.cells res el)) := by
    by_cases h0 : len * ie.size = 0
    · simp only [h0, if_true] at hres
      rw [← Array.toList_map] at hres
      simp [Instr.buildSlice, run_underlying hu, Go.sizeOf, typeInfo, zeroValue, hie, hz, h0, newRow]
      simp at hres
      rw [hres]
      rfl
    · simp only [h0, if_false] at hres
      rw [← Array.toList_map] at hres
      simp [Instr.buildSlice, run_underlying hu, Go.sizeOf, typeInfo, zeroValue, hie, hz, h0, hsmall, newRow]
      rw [Array.toList_map] at hres
      rw [hres]
      rfl

  exact ⟨res, hrun, hrd, hone, hlen⟩
theorem sim_bsl {P : Program} {o : Oper} {t el : TypeId} {ie : TypeInfo} {z : Value} {len : Nat} {parts : Array (Nat × Operand)} {zs : List AV} {ps : List (Nat × Nat × ROpd)} (ho : o.op = .buildSlice t len parts) (hu : P.underlying t = some (.slice el)) (hie : P.info? el = some ie) (hz : ie.zero = some z)
    (hsmall : ¬ len * ie.size > 2 ^ 24) (hzs : ofVs (bslZero (if len * ie.size = 0 then #[] else z.cells) (len * ie.size)) = some zs) (hps : rparts (fun i => some (i * ie.size, ie.size)) parts.toList = some ps) : SimRd P o (.bsl ie.size len zs ps) := by
  intro I w h a va av s t' k
  simp only [aread, Option.map_eq_some_iff] at k
  obtain ⟨cs, hcs, rfl⟩ := k
  obtain ⟨res, hrun, hrd, hone, hlen⟩ := bsl_run (P := P) (w := w) s hu hie hz hsmall hzs hps hcs
  obtain ⟨g1, g2, g3, g4⟩ := withRow_sat t' res.toList el
  refine ⟨.slice (some ⟨w.heap.size, 0, none⟩) len len, _, _, ?_, ?_, g1, g2, g3⟩
  · simp only [execOp, ho, Sem.run_bind, hrun, Result.andThen_ok, Sem.run_pure]
  · have hR := rows_of_chunks (I := I.withRow w.heap.size res.toList) (b := w.heap.size) (hrd.mono g4) hone hlen (fun j v hj => by simp only [Imm.withRow, if_true]; exact hj)
    have hl := chunks_length ie.size len cs
    have := Rd.of_rows (cap := len) true (by rw [hl]; omega) (fun _ => by rw [hl]) hR
    rw [hl] at this
    exact this

theorem sim_bx {P : Program} {o : Oper} {ty : TypeId} {x : Operand} {rx : ROpd} (ho : o.op = .box ty x) (hx : ropd x = some rx) : SimRd P o (.bx none rx) := by
  intro I w h a va av s t k
  have h1 := ropd_rd s hx
  simp only [aread, abx, Option.map_eq_some_iff] at k
  obtain ⟨ds, hc, rfl⟩ := k
  obtain ⟨vs, hv, r, r1⟩ := cells_rds h1 hc
  obtain ⟨g1, g2, g3, g4⟩ := withRow_sat t vs ty
  have hexec : (execOp a.eval o).run P w = .ok (.value (.pointer (some ⟨w.heap.size, 0, none⟩))) (w.alloc (.cells vs.toArray ty)) := by
    simp [execOp, ho, Instr.box, newVar, newRow, hv]
  refine ⟨_, _, _, hexec, ?_, g1, g2, g3⟩
  have := Rd.of_ip (I := I.withRow w.heap.size vs) (cells := ds) (b := w.heap.size) (o := 0) (vs := vs) 0 (fun j u hu => by simp only [Imm.withRow, if_true, Nat.zero_add]; exact hu) (r.mono g4) r1
  simpa using this

def rfield (P : Program) (t : TypeId) (f : Nat) (x : ROpd) : Option RRead :=
  match P.underlying t with
  | some (.struct fs) => match fs[f]? with
    | some fd => match P.underlying fd.type with
      | some (.struct _) | some (.array _ _) => (P.info? fd.type).map fun i => .fld fd.offset (some i.size) x
      | some _ => some (.fld fd.offset none x)
      | none => none
    | none => none
  | _ => none
theorem sim_fld {P : Program} {o : Oper} {t : TypeId} {f : Nat} {x : Operand} {rx : ROpd} {r : RRead} (ho : o.op = .field t x f) (hx : ropd x = some rx) (hr : rfield P t f rx = some r) : SimRd P o r := by
  have key : ∀ (fs : Array Field) (fd : Field) (n : Option Nat), P.underlying t = some (.struct fs) → fs[f]? = some fd → r = .fld fd.offset n rx →
      (∀ (w : World) (vs : List Value), match n with
        | some m => fd.offset + m ≤ vs.length → (part fd.type vs.toArray fd.offset).run P w = .ok (.agg ((vs.drop fd.offset).take m).toArray) w
        | none => ∀ u, vs[fd.offset]? = some u → (part fd.type vs.toArray fd.offset).run P w = .ok u w) → SimRd P o r := by
    intro fs fd n hu hf hn H
    subst hn
    refine .pure fun I w h a va av s t' k => ?_
    have h1 := ropd_rd s hx
    simp only [aread] at k
    generalize va rx = p at h1 k
    generalize hvx : a.eval x = vx at h1
    cases p with
    | agg cs =>
      obtain ⟨vs, rfl, rv, r1⟩ := h1.inv_agg
      have H' := H w vs
      cases n with
      | some m =>
        simp only [afld] at k H'
        split at k
        · rename_i hle
          simp only [Option.some.injEq] at k; subst k
          have := H' (by rw [← rv.len]; exact hle)
          exact ⟨_, by simp [execOp, ho, Instr.field, run_underlying hu, hf, hvx, asAgg, this], .of_agg ((rv.drop _).take _) ((r1.drop _).take _)⟩
        · cases k
      | none =>
        simp only [afld] at k H'
        obtain ⟨u, h3, h4⟩ := rv.get k
        have := H' u h3
        exact ⟨_, by simp [execOp, ho, Instr.field, run_underlying hu, hf, hvx, asAgg, this], h4⟩
    | _ => simp [afld] at k
  have aggRun : ∀ (fd : Field) (d : TypeDesc) (i : TypeInfo), P.underlying fd.type = some d → aggD d = true → P.info? fd.type = some i → ∀ (w : World) (vs : List Value), fd.offset + i.size ≤ vs.length →
      (part fd.type vs.toArray fd.offset).run P w = .ok (.agg ((vs.drop fd.offset).take i.size).toArray) w := by
    intro fd d i hu hd hi w vs hle
    have hagg : (isAgg fd.type).run P w = .ok true w := by
      simp only [isAgg, Sem.run_bind, run_underlying hu, Result.andThen_ok]
      cases d <;> simp_all [aggD]
    simp only [part, Sem.run_bind, hagg, Result.andThen_ok, if_true, Go.sizeOf, typeInfo, run_program, hi, Sem.run_pure]
    congr 2
    apply Array.ext'
    simp [List.take_drop]
  unfold rfield at hr
  split at hr
  · rename_i fs hu
    split at hr
    · rename_i fd hf
      split at hr
      · rename_i g hg
        simp only [Option.map_eq_some_iff] at hr
        obtain ⟨i, hi, rfl⟩ := hr
        exact key fs fd _ hu hf rfl fun w vs => aggRun fd _ i hg rfl hi w vs
      · rename_i n g hg
        simp only [Option.map_eq_some_iff] at hr
        obtain ⟨i, hi, rfl⟩ := hr
        exact key fs fd _ hu hf rfl fun w vs => aggRun fd _ i hg rfl hi w vs
      · rename_i d hd1 hd2 hu'
        simp only [Option.some.injEq] at hr
        subst hr
        refine key fs fd none hu hf rfl fun w vs u hv => ?_
        have hagg : (isAgg fd.type).run P w = .ok false w := by
          simp only [isAgg, Sem.run_bind, run_underlying hu', Result.andThen_ok]
          cases d <;> simp_all
        simp only [part, Sem.run_bind, hagg, Result.andThen_ok, Bool.false_eq_true, if_false, List.getElem?_toArray, hv, Sem.run_pure]
      · cases hr
    · cases hr
  · cases hr

end Pg
