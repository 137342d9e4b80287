/- The core, nineteenth part: rows from contracts. -/
import Derived.Test.YtpebidcmkjjpnaaCore18
namespace Pg
open Go Go.ChangeShapes Go.WideShapes Go.RowKit
set_option linter.unusedSimpArgs false
set_option linter.unusedVariables false

section
variable {H : Type} {enc : TypeId × Value → H} {P : Program} {W : World} {t : TypeId}

def flatTy (P : Program) (t : TypeId) : Bool := match P.underlying t with | some (.struct _) | some (.array _ _) => false | _ => true
theorem flat_cells {r : Reach} {b : Nat} {v : Value} (hf : flatTy P t = true) (h : Value.okWide P W r b t v) : v.cells = #[v] := by
  cases v with
  | agg cs =>
    unfold flatTy at hf
    unfold Value.okWide at h
    split at h
    · rename_i hu; rw [hu] at hf; cases hf
    · rename_i hu; rw [hu] at hf; cases hf
    · unfold Cell.okWide at h
      split at h <;> simp_all [Cell.ok]
  | _ => rfl
theorem arg_flat {r : Reach} {b : Nat} {v : Value} {d : DataW H} {p : List MemPlace} {X : Type} {a : X → AV} {ok : DataW H → X → Prop} (hf : flatTy P t = true) (hv : Value.okWide P W r b t v) (h : DataW.Trod enc P W 0 (fun _ => true) true t v d p) (hr : ∀ n, RdN enc P W n t (fun x => [a x]) ok) :
    ∃ x, ok d x ∧ Rd (memOf W) (a x) v := by
  obtain ⟨n, h⟩ := h
  rw [flat_cells hf hv] at h
  obtain ⟨x, x1, x2, _⟩ := hr n _ _ _ h
  exact ⟨x, x1, x2.at_ 0 _ _ (by simp) (by simp)⟩
theorem arg_agg {r : Reach} {b : Nat} {v : Value} {d : DataW H} {p : List MemPlace} {X : Type} {e : X → List AV} {ok : DataW H → X → Prop} {fs : Array Field} (ht : P.underlying t = some (.struct fs)) (hv : Value.okWide P W r b t v) (h : DataW.Trod enc P W 0 (fun _ => true) true t v d p) (hr : ∀ n, RdN enc P W n t e ok) :
    ∃ x, ok d x ∧ Rd (memOf W) (.agg (e x)) v := by
  obtain ⟨n, h⟩ := h
  unfold Value.okWide at hv
  rw [ht] at hv
  obtain ⟨cs, rfl, _, _⟩ := hv
  obtain ⟨x, x1, x2, x3⟩ := hr n _ _ _ h
  exact ⟨x, x1, .of_agg (vs := cs.toList) x2 x3⟩

theorem below_of_ext {W W' : World} (e : Ext eheap W W') : Below W.heap.size W W' := ⟨e.os, e.tape, e.output, e.size, fun k hk => e.block k hk rfl⟩

/-- All arguments read behind the call as they did. -/
theorem reread (hl : laidOutB P = true) {W' : World} (hb : Below W.heap.size W W') : ∀ {ts : List TypeId} {vs : List Value} {ds : List (DataW H)} {ps : List MemPlace}, ts.all (fun t => P.readableRec t && decide (t < P.types.size)) = true →
    DataW.TrodAll enc P W 0 (fun _ => true) true ts vs ds ps → (∀ x ∈ ps, x.block < W.heap.size) → DataW.TrodAll enc P W' 0 (fun b => decide (b < W.heap.size)) true ts vs ds ps
  | [], _, _, _, _, h, _ => by
    obtain ⟨rfl, rfl, rfl⟩ := trodAll_nil h
    exact rfl
  | t :: ts, _, _, _, hr, h, hlt => by
    obtain ⟨v, vs1, d, ds1, a, b, rfl, rfl, rfl, h1, h2⟩ := trodAll_cons h
    simp only [List.all_cons, Bool.and_eq_true, decide_eq_true_eq] at hr
    exact ⟨a, b, Below.trod hl hr.1.1 hr.1.2 h1 hb (fun x hx => hlt x (List.mem_append.2 (.inl hx))), reread hl hb (by simpa using hr.2) h2 (fun x hx => hlt x (List.mem_append.2 (.inr hx))), rfl⟩

/-- What stands behind a call that says true and turns nothing. -/
theorem law_post {fn : Func} {s : ChangeSpec} {fresh handsOn : Bool} {tb : TypeId} (hl : laidOutB P = true) (hres : fn.resultTypes = #[tb]) (hb : P.underlying tb = some .bool) (hps : fn.params.toList.all (fun t => P.readableRec t && decide (t < P.types.size)) = true) (hvars : s.vars = [])
    (hspec : ∀ ds : List (DataW H), ds.length = fn.params.size → s.fn H ds = { results := [.lit (.bool true)], args := ds })
    {args : Array Value} {ds gs : List (DataW H)} {before : List MemPlace} (hW : DataW.Whole enc P fn.params.toList s.vars false W args.toList ds gs before) {W' : World} (hB : Below W.heap.size W W') :
    s.post enc P fn false fresh handsOn false W args (.bool true) W' := by
  have hW' := hW
  obtain ⟨p, q, hA, hV, rfl, _, _⟩ := hW
  rw [hvars] at hV
  obtain ⟨rfl, rfl⟩ := trodVars_none hV
  have hlen : ∀ {ts : List TypeId} {vs : List Value} {ds : List (DataW H)} {ps : List MemPlace}, DataW.TrodAll enc P W 0 (fun _ => true) true ts vs ds ps → ds.length = ts.length := by
    intro ts
    induction ts with
    | nil => intro vs ds ps h; obtain ⟨_, rfl, _⟩ := trodAll_nil h; rfl
    | cons t ts ih => intro vs ds ps h; obtain ⟨v, vs1, d, ds1, a, b, rfl, rfl, rfl, h1, h2⟩ := trodAll_cons h; simp [ih h2]
  have hd := hlen hA
  have hsp := hspec ds (by simpa using hd)
  have hlt : ∀ x ∈ p, x.block < W.heap.size := fun x hx => hW'.lt x (by simpa using hx)
  refine ⟨ds, [], p ++ [], [], p, [], hW', ?_, ?_, ?_, hB.frame _, fun h => by cases h⟩
  · rw [List.append_nil, hsp, hres]
    exact trodAll_mk1 (shut_bool hb true)
  · rw [List.append_nil, hsp]
    exact reread hl hB hps hA hlt
  · rw [List.append_nil, hsp, hvars]
    rfl

theorem law_returns {C : Checked} {os : Os} {f : FuncId} {fn : Func} {s : ChangeSpec} {conds : List PathCond} {fresh handsOn : Bool} {tb : TypeId} {a : Assume}
    (own : ownKnob C.prog.godebug = none) (started : os.Started) (noInit : C.prog.inits.idxOf? f = none) (hfn : C.prog.funcs[f]? = some fn)
    (witness : ∃ (w : World) (tape : Tape) (i : Input), w.os = os ∧ (w.forCall tape i).Shaped C.prog ∧ i.vars = [] ∧ Input.okWide C.prog (w.forCall tape i) .any w.heap.size f i ∧
      s.pre6 enc C.prog fn conds false (w.forCall tape i).memory i.args ∧ a.holds C.prog (lone (Frame.enter C.prog f i.args .normal) [] (w.forCall tape i)))
    (hl : laidOutB C.prog = true) (hres : fn.resultTypes = #[tb]) (hb : C.prog.underlying tb = some .bool) (hps : fn.params.toList.all (fun t => C.prog.readableRec t && decide (t < C.prog.types.size)) = true) (hvars : s.vars = [])
    (hspec : ∀ ds : List (DataW H), ds.length = fn.params.size → s.fn H ds = { results := [.lit (.bool true)], args := ds })
    (contract : ∀ (W : World) (base : Nat) (args : Array Value) (ds : List (DataW H)) (p : List MemPlace), (∀ (j : Nat) t v, fn.params[j]? = some t → args[j]? = some v → Value.okWide C.prog W .any base t v) →
      DataW.TrodAll enc C.prog W 0 (fun _ => true) true fn.params.toList args.toList ds p →
      ∃ as K, Rds (memOf W) as args.toList ∧ ACalls C.prog f as eheap K ∧ ∀ v g, K v g → v = .bool true) :
    ReturnsInHanded a C os f .any (s.pre6 enc C.prog fn conds false) (s.post enc C.prog fn false fresh handsOn false) := by
  refine returnsInHanded_of_change own started noInit hfn witness ?_
  intro W base args ds gs before hval hW hc hh
  have hW' := hW
  obtain ⟨p, q, hA, hV, rfl, _, _⟩ := hW
  obtain ⟨as, K, r, c, k⟩ := contract W base args ds p hval hA
  have := c (memOf W) W args.toList r (sat_mem W)
  rw [Array.toArray_toList] at this
  refine this.mono ?_
  rintro e W' ⟨v, rfl, J, x, g, kk, rd, _, ex, _⟩
  have hx := k _ _ kk
  subst hx
  have := rd.inv_bool
  subst this
  exact ⟨_, rfl, law_post hl hres hb hps hvars hspec hW' (below_of_ext ex)⟩

theorem law_returns_cond {C : Checked} {os : Os} {f : FuncId} {fn : Func} {s : ChangeSpec} {k : (H : Type) → List (DataW H) → Bool} {F : Stop.Interp} {conds : List PathCond} {fresh handsOn : Bool} {tb : TypeId} {a : Assume}
    (own : ownKnob C.prog.godebug = none) (started : os.Started) (noInit : C.prog.inits.idxOf? f = none) (hfn : C.prog.funcs[f]? = some fn)
    (witness : ∃ (w : World) (tape : Tape) (i : Input), w.os = os ∧ (w.forCall tape i).Shaped C.prog ∧ i.vars = [] ∧ Input.okWide C.prog (w.forCall tape i) .any w.heap.size f i ∧
      ({ OpenSpec.ofChange s with cond := some k } : OpenSpec).pre6 enc C.prog fn conds false (w.forCall tape i).memory i.args ∧ a.holds C.prog (lone (Frame.enter C.prog f i.args .normal) [] (w.forCall tape i)))
    (hl : laidOutB C.prog = true) (hres : fn.resultTypes = #[tb]) (hb : C.prog.underlying tb = some .bool) (hps : fn.params.toList.all (fun t => C.prog.readableRec t && decide (t < C.prog.types.size)) = true) (hvars : s.vars = [])
    (hspec : ∀ ds : List (DataW H), ds.length = fn.params.size → s.fn H ds = { results := [.lit (.bool true)], args := ds })
    (contract : ∀ (W : World) (base : Nat) (args : Array Value) (ds : List (DataW H)) (p : List MemPlace), (∀ (j : Nat) t v, fn.params[j]? = some t → args[j]? = some v → Value.okWide C.prog W .any base t v) →
      DataW.TrodAll enc C.prog W 0 (fun _ => true) true fn.params.toList args.toList ds p → k H ds = true →
      ∃ as K, Rds (memOf W) as args.toList ∧ ACalls C.prog f as eheap K ∧ ∀ v g, K v g → v = .bool true) :
    ReturnsInHanded a C os f .any (({ OpenSpec.ofChange s with cond := some k } : OpenSpec).pre6 enc C.prog fn conds false) ((({ OpenSpec.ofChange s with cond := some k } : OpenSpec).at F).post enc C.prog fn false fresh handsOn false) := by
  refine returnsInHanded_of_cond (s := { OpenSpec.ofChange s with cond := some k }) (k := k) rfl own started noInit hfn witness ?_
  intro W base args ds gs before hval hW hc hk hh
  have hW' := hW
  obtain ⟨p, q, hA, hV, rfl, _, _⟩ := hW
  have hV' : DataW.TrodVars enc C.prog W (fun _ => true) [] gs q := by have := hV; rwa [show ({ OpenSpec.ofChange s with cond := some k } : OpenSpec).vars = [] from hvars] at this
  obtain ⟨rfl, rfl⟩ := trodVars_none hV'
  obtain ⟨as, K, r, c, kk0⟩ := contract W base args ds p hval hA (by simpa using hk)
  have := c (memOf W) W args.toList r (sat_mem W)
  rw [Array.toArray_toList] at this
  refine this.mono ?_
  rintro e W' ⟨v, rfl, J, x, g, kk, rd, _, ex, _⟩
  have hx := kk0 _ _ kk
  subst hx
  have := rd.inv_bool
  subst this
  exact ⟨_, rfl, law_post (s := s) hl hres hb hps hvars hspec hW' (below_of_ext ex)⟩
end
end Pg
