/- For every input of bulk at most 1048576 the law LiftRight returns true, and its arguments read behind the call as they read before. -/
import Derived.Test.YtlflapoljegmoaaGreatDoorLRightE
import Derived.Test.YtlflapoljegmoaaGreatDoorRowLE
import Derived.Test.YtlflapoljegmoaaGreatDoorRdE
import Derived.Test.YtlflapoljegmoaaGreatDoorCards
import Derived.Test.YtlflapoljegmoaaGreatDoorTie
import Derived.WalkKit
import Derived.ProofKit
import Derived.OpenShut
import Derived.Deep.DeepHandedRow
import Derived.Lib.LaidTab
namespace Go.Proofs.YtlflapoljegmoaaGreatDoor
open Go Go.ChangeShapes Go.WideShapes Go.ChangeAt Go.RowKit Pg
set_option linter.all false
set_option maxRecDepth 100000
theorem paramsLRight : Tryz.f4.params.toList = [28] := rfl
noncomputable def laidWorld1 (os : Os) : World :=
 { World.holding Tryz.prog os ⟨#[], #[], []⟩ with heap := (World.holding Tryz.prog os ⟨#[], #[], []⟩).heap.modify 1 fun
   | .cells _ t frozen => .cells ((Go.Pinned.utf8FirstZ.map fun n : Nat => Value.int .u8 (n : Int)).toArray) t frozen
   | o => o }
noncomputable def laidWorld (os : Os) : World :=
 { laidWorld1 os with heap := (laidWorld1 os).heap.modify 2 fun
   | .cells _ t frozen => .cells ((([128, 191, 160, 191, 128, 159, 144, 191, 128, 143] ++ List.replicate 22 0).map fun n : Nat => Value.int .u8 (n : Int)).toArray) t frozen
   | o => o }
def argsL : Array Value := #[.agg #[.string ⟨#[]⟩, .slice none 0 0, .slice none 0 0, .slice none 0 0, .slice none 0 0, .slice none 0 0, .slice none 0 0, .slice none 0 0, .slice none 0 0]]
theorem g1 : Tryz.prog.globalNamed "unicode/utf8.first" = some 1 := by kernel_rfl
theorem g2 : Tryz.prog.globalNamed "unicode/utf8.acceptRanges" = some 2 := by kernel_rfl
theorem laid_met (os : Os) : laidMet Tryz.prog Rows.liftRightUptoRow.laid ((laidWorld os).forCall (fun _ _ => 0) ⟨#[], argsL, []⟩).memory :=
 laidMet_of_run' 8 (by kernel_rfl) (by kernel_rfl)
theorem reads (os : Os) {H : Type} (enc : TypeId × Value → H) : ∃ places, DataW.whole enc Tryz.prog ((laidWorld os).forCall (fun _ _ => 0) ⟨#[], argsL, []⟩).memory Tryz.f4.params.toList Rows.liftRightSpec.vars false argsL.toList 8 = some ([.agg [.lit (.string []), .nil, .nil, .nil, .nil, .nil, .nil, .nil, .nil]], [], places) :=
 ⟨[], by kernel_rfl⟩
theorem liftRight_returns (os : Os) (started : os.Started) (H : Type) (enc : TypeId × Value → H) (F : Stop.Interp) :
  ReturnsInHanded {} Tryz.checked os 4 .any ((Rows.OpenSpec.upto Rows.liftRightSpec).preRow enc Tryz.prog Tryz.f4 Rows.liftRightUptoRow.domain false Rows.liftRightUptoRow.laid) (((Rows.OpenSpec.upto Rows.liftRightSpec).at F).post enc Tryz.prog Tryz.f4 false true false false) := by
 obtain ⟨places, hx⟩ := reads os enc
 refine law_returns_row (C := Tryz.checked) (s := Rows.liftRightSpec) (k := Rows.uptoSmall) (tb := 4) ownT started (by kernel_rfl) Tryz.func4
  (witness_row_at (enc := enc) (C := Tryz.checked) false (laidWorld os) argsL rfl (by kernel_rfl) (by kernel_rfl) (by kernel_rfl)
   (OpenSpec.preRow_of_cond 8 hx (by kernel_rfl) (fun k hk => by cases hk; kernel_rfl) (by kernel_rfl) (laid_met os)))
  laidT (by kernel_rfl) (by kernel_rfl) (by kernel_rfl) rfl ?_ ?_
 ·intro ds hl
  match ds, hl with
  | [a], _ => rfl
 ·intro W base args ds p hval0 hA0 hk hsh _ hg
  have hval : ∀ (j : Nat) t v, Tryz.f4.params[j]? = some t → args[j]? = some v → Value.okWide Tryz.prog W .any base t v := hval0
  have hA : DataW.TrodAll enc Tryz.prog W 0 (fun _ => true) true Tryz.f4.params.toList args.toList ds p := hA0
  rw [paramsLRight] at hA
  obtain ⟨v0, vs0, d0, ds0, p0, q0, h00, rfl, rfl, h0, r0⟩ := trodAll_cons hA
  obtain ⟨rfl, rfl, rfl⟩ := trodAll_nil r0
  have e0 : args[0]? = some v0 := by rw [← Array.getElem?_toList, h00]; rfl
  obtain ⟨c, hc, rc⟩ := arg_agg Tryz.underlying28 (hval 0 28 v0 (by kernel_rfl) e0) h0 (fun n => rdPrg)
  have hb := of_decide_eq_true hk
  simp only [Rows.uptoBulkAll] at hb
  have hm : Max0 := by
   obtain ⟨m, hm⟩ := Tryz.laysM146.s1_3 W hsh
   exact ⟨m, by rw [hg]; exact hm⟩
  rw [h00]
  exact ⟨_, _, .cons rc (.nil _), LiftRight_spec hm eheap c hc.1.1 hc.1.2 (by have := hc.2; omega), fun v g h => h.1⟩
theorem saidUpto : Rows.LiftRightUptoSaid :=
 OpenClaim.holds_of_cond 4 Tryz.f4 rfl rfl rfl rfl rfl rfl rfl ⟨rfl, rfl, rfl, rfl, rfl⟩ rfl rfl rfl rfl rfl (by kernel_rfl) Tryz.func4 (by kernel_rfl)
  (of_decide_eq_true (by kernel_rfl)) (by unfold Func.isWrapper; first | (rw [if_pos (by decide +kernel)]; kernel_rfl) | (rw [if_neg (by decide +kernel)]; exact ⟨rfl, rfl⟩))
  (fun os started H enc _ F => by rw [OpenClaim.pre_eq_preRow]; exact liftRight_returns os started H enc F)
theorem plain (f : FuncId) (fn : Func) (hf : Tryz.pinned.checked.prog.funcNamed "pantograph/pantographlaw14.LiftRight" = some f) (hfn : Tryz.pinned.checked.prog.funcs[f]? = some fn) :
  false = Tryz.pinned.checked.prog.looks [] ∧ ∀ (j : Nat) t, fn.params[j]? = some t → Tryz.pinned.checked.prog.wantsStandIn t = false := by
 obtain rfl : f = 4 := Option.some.inj ((show Tryz.prog.funcNamed "pantograph/pantographlaw14.LiftRight" = some 4 by kernel_rfl).symm.trans hf) |>.symm
 obtain rfl : fn = Tryz.f4 := (Option.some.inj (Tryz.func4.symm.trans hfn)).symm
 refine ⟨by kernel_rfl, fun j t ht => ?_⟩
 have h := Array.mem_of_getElem? ht
 rw [← Array.mem_toList_iff, paramsLRight] at h
 simp only [List.mem_cons, List.not_mem_nil, or_false] at h
 subst h
 exact (show Tryz.prog.wantsStandIn 28 = false by kernel_rfl)
theorem liftRight_card : Rows.LiftRightUptoCardSaid :=
 Claim7.holds_tied_plain_at .later [] _ _ _ _ saidUpto (fun _ h => by cases h) (by kernel_rfl) (fun _ h => by cases h) liftRightUpto_row_tie rfl ⟨rfl, rfl⟩ (by kernel_rfl) rfl plain (by kernel_rfl)
end Go.Proofs.YtlflapoljegmoaaGreatDoor
#print axioms Go.Proofs.YtlflapoljegmoaaGreatDoor.liftRight_card
