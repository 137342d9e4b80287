import Derived.Test.YtdfbkddelhbgmaaGreatDoorK4S3
import Derived.Deep.DeepHandedRow
import Derived.Lib.LaidTab
import Derived.Lib.Space
namespace Pg
open Go Go.ChangeShapes Go.WideShapes Go.RowKit
set_option linter.all false
theorem IA {H : Type} {enc : TypeId × Value → H} {C : Checked} {os : Os} {f : FuncId} {fn : Func} {s : ChangeSpec} {k : (H : Type) → List (DataW H) → Bool} {F : Stop.Interp} {conds : List PathCond} {fresh handsOn : Bool} {tb : TypeId} {a : Assume} {laid : List (String × DataW Unit)}
  (own : ownKnob C.prog.godebug = none) (started : os.Started) (noInit : C.prog.inits.idxOf? f = none) (hfn : C.prog.funcs[f]? = some fn)
  (witness : ∃ (w : World) (tape : Tape) (i : Input), w.os = os ∧ (w.forCall tape i).Shaped C.prog ∧ i.vars = [] ∧ Input.okWide C.prog (w.forCall tape i) .any w.heap.size f i ∧
   ({ OpenSpec.ofChange s with cond := some k } : OpenSpec).preRow enc C.prog fn conds false laid (w.forCall tape i).memory i.args ∧ a.holds C.prog (lone (Frame.enter C.prog f i.args .normal) [] (w.forCall tape i)))
  (hl : laidOutB C.prog = true) (hres : fn.resultTypes = #[tb]) (hb : C.prog.underlying tb = some .bool) (hps : fn.params.toList.all (fun t => C.prog.readableRec t && decide (t < C.prog.types.size)) = true) (hvars : s.vars = [])
  (hspec : ∀ ds : List (DataW H), ds.length = fn.params.size → s.fn H ds = { results := [.lit (.bool true)], args := ds })
  (contract : ∀ (W : World) (base : Nat) (args : Array Value) (ds : List (DataW H)) (p : List MemPlace), (∀ (j : Nat) t v, fn.params[j]? = some t → args[j]? = some v → Value.okWide C.prog W .any base t v) →
   DataW.TrodAll enc C.prog W 0 (fun _ => true) true fn.params.toList args.toList ds p → k H ds = true → laidMetH C.prog laid W → W.ShapedOpen C.prog →
   ∀ [GI], GI.imm = oG W → ∃ as K, Rds (oG W) as args.toList ∧ aD C.prog f as eheap K ∧ ∀ v g, K v g → v = .bool true) :
  ReturnsInHanded a C os f .any (({ OpenSpec.ofChange s with cond := some k } : OpenSpec).preRow enc C.prog fn conds false laid) ((({ OpenSpec.ofChange s with cond := some k } : OpenSpec).at F).post enc C.prog fn false fresh handsOn false) := by
 refine returnsInHanded_of_row (s := { OpenSpec.ofChange s with cond := some k }) own started noInit hfn witness ?_
 intro W base args ds gs before hval hW hc hk _ hL hsh hh
 have hW' := hW
 obtain ⟨p, q, hA, hV, rfl, _, _⟩ := hW
 have hV' : DataW.TrodVars enc C.prog W (fun _ => true) [] gs q := by have := hV; rwa [show ({ OpenSpec.ofChange s with cond := some k } : OpenSpec).vars = [] from hvars] at this
 obtain ⟨rfl, rfl⟩ := trodVars_none hV'
 letI : GI := ⟨oG W⟩
 obtain ⟨as, K, r, c, kk0⟩ := contract W base args ds p hval hA (by simpa using hk k rfl) hL hsh rfl
 have := c (oG W) W args.toList r (aD0 W (Imm.le_refl _))
 rw [Array.toArray_toList] at this
 refine this.mono ?_
 rintro e W' ⟨v, rfl, J, x, g, kk, rd, _, ex, _⟩
 have hx := kk0 _ _ kk
 subst hx
 have := rd.nG
 subst this
 exact ⟨_, rfl, aCH (s := s) hl hres hb hps hvars hspec hW' (Q7 ex)⟩
theorem QI {P : Program} {w : World} {name : String} {k : IntKind} {zs : List Int} {g : Nat} {t e : TypeId} {n : Nat} (hg : P.globalNamed name = some g) (hty : (P.globals[g]?).map (·.type) = some t) (ht : P.underlying t = some (.array n e)) (he : P.underlying e = some (.int k)) (hce : P.cellsOf e = 1) (hct : P.cellsOf t = n) :
  ∀ {l : List (String × DataW Unit)} {ps : List MemPlace}, DataW.LaidVars P w l ps → (name, Lib.tabData k zs) ∈ l → Lib.TabIs P w name k zs
 | [], _, _, hm => by cases hm
 | (n', d') :: r, ps, h, hm => by
  obtain ⟨g', t', cs, fuel, p, q, h1, h2, h3, h4, h5, _⟩ := h
  rcases List.mem_cons.1 hm with e' | e'
  ·cases e'
   obtain rfl := Option.some.inj (hg.symm.trans h1)
   obtain rfl := Option.some.inj (hty.symm.trans h2)
   unfold Lib.TabIs
   rw [h3, ← Lib.cells_of_tab ht he hce hct h4]
  ·exact QI hg hty ht he hce hct h5 e'
end Pg
