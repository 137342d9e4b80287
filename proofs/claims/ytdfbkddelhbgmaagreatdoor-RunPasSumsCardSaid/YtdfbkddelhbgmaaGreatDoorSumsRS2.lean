/- For every input the law RunPasSums returns true, and its arguments read behind the call as they read before. -/
import Derived.Test.YtdfbkddelhbgmaaGreatDoorLaw20dS2
import Derived.Test.YtdfbkddelhbgmaaGreatDoorRowMS2
import Derived.Test.YtdfbkddelhbgmaaGreatDoorRdS2
import Derived.Test.YtdfbkddelhbgmaaGreatDoorCards
import Derived.Test.YtdfbkddelhbgmaaGreatDoorTie
import Derived.WalkKit
import Derived.ProofKit
import Derived.OpenShut
import Derived.Deep.DeepWitnessRowRef
import Derived.Deep.DeepLaidRun
import Derived.Lib.SpaceR
namespace Go.Proofs.YtdfbkddelhbgmaaGreatDoor
open Go Go.ChangeShapes Go.WideShapes Go.ChangeAt Go.RowKit Pg
set_option linter.all false
set_option maxRecDepth 100000
set_option maxHeartbeats 4000000
noncomputable def laidWorld (os : Os) : World :=
 let N := (World.settled Tryz.prog os).heap.size
 let w0 := World.holding Tryz.prog os ⟨#[.cells (Lib.whiteT.map fun (z : Nat) => Value.int .u16 (z : Int)).toArray 302, .cells #[.slice (some ⟨N, 0, none⟩) 7 7, .slice none 0 0, .int .i64 2] 299], #[], []⟩
 let put (h : Array Obj) (g : Nat) (cs : Array Value) : Array Obj := h.modify g fun
  | .cells _ t frozen => .cells cs t frozen
  | o => o
 { w0 with heap := put (put (put (put w0.heap 0 (Lib.asciiSpaceTab.map fun z => Value.int .u8 z).toArray) 2 ((Go.Pinned.utf8FirstZ.map fun n : Nat => Value.int .u8 (n : Int)).toArray))
   3 ((([128, 191, 160, 191, 128, 159, 144, 191, 128, 143] ++ List.replicate 22 0).map fun n : Nat => Value.int .u8 (n : Int)).toArray)) 1 #[.pointer (some ⟨N + 1, 0, none⟩)] }
theorem gSpace : Tryz.prog.globalNamed "strings.asciiSpace" = some 0 := by kernel_rfl
theorem gSpaceT : (Tryz.prog.globals[0]?).map (·.type) = some 278 := by kernel_rfl
theorem cSpace : Tryz.prog.cellsOf 278 = 256 := by kernel_rfl
theorem cByte : Tryz.prog.cellsOf 5 = 1 := by kernel_rfl
theorem spaceData : (Rows.laid_strings_asciiSpace : DataW Unit) = Lib.tabData .u8 Lib.asciiSpaceTab := by kernel_rfl
theorem laid_spc {W : World} {l : List (String × DataW Unit)} (h : laidMet Tryz.prog l W) (hm : ("strings.asciiSpace", (Rows.laid_strings_asciiSpace : DataW Unit)) ∈ l) [GI] (hg : GI.imm = memOf W) : Spc0 := by
 obtain ⟨ps, h, _⟩ := h
 rw [spaceData] at hm
 have htab := laid_tab gSpace gSpaceT Tryz.underlying278 Tryz.underlying5 cByte cSpace h hm
 intro c hc
 rw [hg]
 show W.cell? ⟨0, c, none⟩ = _
 rw [htab.cell gSpace c (by rw [Lib.asciiSpaceTab_length]; exact hc), Lib.asciiSpaceTab_at c hc]
def argsL : Array Value := #[.int .i64 0, .int .i64 0]
theorem paramsL : Tryz.f6.params.toList = [2, 2] := rfl
theorem laid_met (os : Os) : laidMet Tryz.prog Rows.runPasSumsRow.laid ((laidWorld os).forCall (fun _ _ => 0) ⟨#[], argsL, []⟩).memory :=
 laidMet_of_run3 10 (by kernel_rfl) (by kernel_rfl) (by kernel_rfl)
theorem reads (os : Os) {H : Type} (enc : TypeId × Value → H) : ∃ places, DataW.whole enc Tryz.prog ((laidWorld os).forCall (fun _ _ => 0) ⟨#[], argsL, []⟩).memory Tryz.f6.params.toList Rows.runPasSumsSpec.vars false argsL.toList 8 = some ([.lit (.int .i64 0), .lit (.int .i64 0)], [], places) :=
 ⟨[], by kernel_rfl⟩
theorem runPasSums_returns (os : Os) (started : os.Started) (H : Type) (enc : TypeId × Value → H) (F : Stop.Interp) :
  ReturnsInHanded {} Tryz.checked os 6 .any ((OpenSpec.ofChange Rows.runPasSumsSpec).preRow enc Tryz.prog Tryz.f6 Rows.runPasSumsRow.domain false Rows.runPasSumsRow.laid) (((OpenSpec.ofChange Rows.runPasSumsSpec).at F).post enc Tryz.prog Tryz.f6 false true false false) := by
 obtain ⟨places, hx⟩ := reads os enc
 refine law_returns_all (C := Tryz.checked) (s := Rows.runPasSumsSpec) (tb := 4) ownT started (by kernel_rfl) Tryz.func6
  (witness_row_atRef (enc := enc) (C := Tryz.checked) false (laidWorld os) argsL rfl (by kernel_rfl) (by kernel_rfl) (by kernel_rfl)
   (OpenSpec.preRow_of_cond 8 hx (by kernel_rfl) (fun k hk => by cases hk) (by kernel_rfl) (laid_met os)))
  laidT (by kernel_rfl) (by kernel_rfl) (by kernel_rfl) rfl ?_ ?_
 ·intro ds hl
  match ds, hl with
  | [a, b], _ => rfl
 ·intro W base args ds p hval0 hA0 hL hsh _ hg
  have hval : ∀ (j : Nat) t v, Tryz.f6.params[j]? = some t → args[j]? = some v → Value.okWide Tryz.prog W .any base t v := hval0
  have hA : DataW.TrodAll enc Tryz.prog W 0 (fun _ => true) true Tryz.f6.params.toList args.toList ds p := hA0
  rw [paramsL] at hA
  obtain ⟨v0, vs0, d0, ds0, p0, q0, h00, rfl, rfl, h0, r0⟩ := trodAll_cons hA
  obtain ⟨v1, vs1, d1, ds1, p1, q1, rfl, rfl, rfl, h1, r1⟩ := trodAll_cons r0
  obtain ⟨rfl, rfl, rfl⟩ := trodAll_nil r1
  have e0 : args[0]? = some v0 := by rw [← Array.getElem?_toList, h00]; rfl
  have e1 : args[1]? = some v1 := by rw [← Array.getElem?_toList, h00]; rfl
  obtain ⟨c0, hc0, rc0⟩ := arg_flat (a := fun x : Int => AV.int .i64 x) (by kernel_rfl) (hval 0 2 v0 (by kernel_rfl) e0) h0 (fun n => RdN.int Tryz.underlying2)
  obtain ⟨c1, hc1, rc1⟩ := arg_flat (a := fun x : Int => AV.int .i64 x) (by kernel_rfl) (hval 1 2 v1 (by kernel_rfl) e1) h1 (fun n => RdN.int Tryz.underlying2)
  have hm : Spc0 := laid_spc hL (by simp [Rows.runPasSumsRow]) hg
  rw [h00]
  exact ⟨_, _, (.cons rc0 (.cons rc1 (.nil _))), Sums_spec hm eheap c0 (wf_i64 hc0.2) c1 (wf_i64 hc1.2), fun v g h => h.1⟩
theorem said : Rows.RunPasSumsSaid :=
 OpenClaim.holds_of_cond 6 Tryz.f6 rfl rfl rfl rfl rfl rfl rfl ⟨rfl, rfl, rfl, rfl, rfl⟩ rfl rfl rfl rfl rfl (by kernel_rfl) Tryz.func6 (by kernel_rfl)
  (of_decide_eq_true (by kernel_rfl)) (by unfold Func.isWrapper; first | (rw [if_pos (by decide +kernel)]; kernel_rfl) | (rw [if_neg (by decide +kernel)]; exact ⟨rfl, rfl⟩))
  (fun os started H enc _ F => by rw [OpenClaim.pre_eq_preRow]; exact runPasSums_returns os started H enc F)
theorem plain (f : FuncId) (fn : Func) (hf : Tryz.pinned.checked.prog.funcNamed "pantograph/pantographlaw20.RunPasSums" = some f) (hfn : Tryz.pinned.checked.prog.funcs[f]? = some fn) :
  false = Tryz.pinned.checked.prog.looks [] ∧ ∀ (j : Nat) t, fn.params[j]? = some t → Tryz.pinned.checked.prog.wantsStandIn t = false := by
 obtain rfl : f = 6 := Option.some.inj ((show Tryz.prog.funcNamed "pantograph/pantographlaw20.RunPasSums" = some 6 by kernel_rfl).symm.trans hf) |>.symm
 obtain rfl : fn = Tryz.f6 := (Option.some.inj (Tryz.func6.symm.trans hfn)).symm
 refine ⟨by kernel_rfl, fun j t ht => ?_⟩
 have h := Array.mem_of_getElem? ht
 rw [← Array.mem_toList_iff, paramsL] at h
 simp only [List.mem_cons, List.not_mem_nil, or_false] at h
 rcases h with rfl | rfl
 ·exact (show Tryz.prog.wantsStandIn 2 = false by kernel_rfl)
 ·exact (show Tryz.prog.wantsStandIn 2 = false by kernel_rfl)
theorem runPasSums_card : Rows.RunPasSumsCardSaid :=
 Claim7.holds_tied_plain_at .later [] _ _ _ _ said (fun _ h => by cases h) (by kernel_rfl) (fun _ h => by cases h) runPasSums_row_tie rfl ⟨rfl, rfl⟩ (by kernel_rfl) rfl plain (by kernel_rfl)
end Go.Proofs.YtdfbkddelhbgmaaGreatDoor
#print axioms Go.Proofs.YtdfbkddelhbgmaaGreatDoor.runPasSums_card
