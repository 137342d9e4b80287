/- For every input of bulk at most 1048576 the law RunPasReads returns true, and its arguments read behind the call as they read before. -/
import Derived.Test.YtdfbkddelhbgmaaGreatDoorLaw20cS2
import Derived.Test.YtdfbkddelhbgmaaGreatDoorRowMS2
import Derived.Test.YtdfbkddelhbgmaaGreatDoorRdS2
import Derived.Test.YtdfbkddelhbgmaaGreatDoorCards
import Derived.Test.YtdfbkddelhbgmaaGreatDoorTie
import Derived.WalkKit
import Derived.ProofKit
import Derived.OpenShut
import Derived.Deep.DeepWitnessRowRef
import Derived.Deep.DeepLaidRun
import Derived.Lib.SpaceR
namespace Go.Proofs.YtdfbkddelhbgmaaGreatDoor
open Go Go.ChangeShapes Go.WideShapes Go.ChangeAt Go.RowKit Pg
set_option linter.all false
set_option maxRecDepth 100000
set_option maxHeartbeats 4000000
noncomputable def laidWorld (os : Os) : World :=
 let N := (World.settled Tryz.prog os).heap.size
 let w0 := World.holding Tryz.prog os ⟨#[.cells (Lib.whiteT.map fun (z : Nat) => Value.int .u16 (z : Int)).toArray 302, .cells #[.slice (some ⟨N, 0, none⟩) 7 7, .slice none 0 0, .int .i64 2] 299], #[], []⟩
 let put (h : Array Obj) (g : Nat) (cs : Array Value) : Array Obj := h.modify g fun
  | .cells _ t frozen => .cells cs t frozen
  | o => o
 { w0 with heap := put (put (put (put w0.heap 0 (Lib.asciiSpaceTab.map fun z => Value.int .u8 z).toArray) 2 ((Go.Pinned.utf8FirstZ.map fun n : Nat => Value.int .u8 (n : Int)).toArray))
   3 ((([128, 191, 160, 191, 128, 159, 144, 191, 128, 143] ++ List.replicate 22 0).map fun n : Nat => Value.int .u8 (n : Int)).toArray)) 1 #[.pointer (some ⟨N + 1, 0, none⟩)] }
theorem gSpace : Tryz.prog.globalNamed "strings.asciiSpace" = some 0 := by kernel_rfl
theorem gSpaceT : (Tryz.prog.globals[0]?).map (·.type) = some 278 := by kernel_rfl
theorem cSpace : Tryz.prog.cellsOf 278 = 256 := by kernel_rfl
theorem cByte : Tryz.prog.cellsOf 5 = 1 := by kernel_rfl
theorem spaceData : (Rows.laid_strings_asciiSpace : DataW Unit) = Lib.tabData .u8 Lib.asciiSpaceTab := by kernel_rfl
theorem laid_spc {W : World} {l : List (String × DataW Unit)} (h : laidMet Tryz.prog l W) (hm : ("strings.asciiSpace", (Rows.laid_strings_asciiSpace : DataW Unit)) ∈ l) [GI] (hg : GI.imm = memOf W) : Spc0 := by
 obtain ⟨ps, h, _⟩ := h
 rw [spaceData] at hm
 have htab := laid_tab gSpace gSpaceT Tryz.underlying278 Tryz.underlying5 cByte cSpace h hm
 intro c hc
 rw [hg]
 show W.cell? ⟨0, c, none⟩ = _
 rw [htab.cell gSpace c (by rw [Lib.asciiSpaceTab_length]; exact hc), Lib.asciiSpaceTab_at c hc]
def argsL : Array Value := #[.agg #[.string ⟨#[]⟩, .slice none 0 0, .slice none 0 0, .slice none 0 0, .slice none 0 0, .slice none 0 0, .slice none 0 0, .slice none 0 0, .slice none 0 0], .slice none 0 0, .slice none 0 0, .int .i64 0]
theorem paramsL : Tryz.f7.params.toList = [28, 29, 29, 3] := rfl
theorem ones_sum : ∀ l : List Int, (l.map fun _ => 1).sum = l.length
 | [] => rfl
 | x :: l => by simp only [List.map_cons, List.sum_cons, ones_sum l, List.length_cons]; omega
theorem rdIntsW {H : Type} {enc : TypeId × Value → H} {W : World} (n : Nat) : RdN enc Tryz.prog W n 29 (eSl eInt) (fun d xs => few xs ∧ xs.length + 1 ≤ Rows.uptoBulk d) := by
 cases n with
 | zero => exact .zero
 | succ n => exact (RdN.slWF (ok := fun _ => True) (w := fun _ => 1) Tryz.underlying29 (cells_pos (k := 0) (by kernel_rfl)) ((RdN.int Tryz.underlying2).mono fun d x _ => ⟨x, ⟨trivial, bulk_pos d⟩, rfl⟩)).mono fun d x h => ⟨x, ⟨h.1.1, by have := h.2; rwa [ones_sum] at this⟩, rfl⟩
theorem laid_met (os : Os) : laidMet Tryz.prog Rows.runPasReadsUptoRow.laid ((laidWorld os).forCall (fun _ _ => 0) ⟨#[], argsL, []⟩).memory :=
 laidMet_of_run3 10 (by kernel_rfl) (by kernel_rfl) (by kernel_rfl)
theorem reads (os : Os) {H : Type} (enc : TypeId × Value → H) : ∃ places, DataW.whole enc Tryz.prog ((laidWorld os).forCall (fun _ _ => 0) ⟨#[], argsL, []⟩).memory Tryz.f7.params.toList Rows.runPasReadsSpec.vars false argsL.toList 8 = some ([.agg [.lit (.string []), .nil, .nil, .nil, .nil, .nil, .nil, .nil, .nil], .nil, .nil, .lit (.int .i64 0)], [], places) :=
 ⟨[], by kernel_rfl⟩
theorem runPasReads_returns (os : Os) (started : os.Started) (H : Type) (enc : TypeId × Value → H) (F : Stop.Interp) :
  ReturnsInHanded {} Tryz.checked os 7 .any ((Rows.OpenSpec.upto Rows.runPasReadsSpec).preRow enc Tryz.prog Tryz.f7 Rows.runPasReadsUptoRow.domain false Rows.runPasReadsUptoRow.laid) (((Rows.OpenSpec.upto Rows.runPasReadsSpec).at F).post enc Tryz.prog Tryz.f7 false true false false) := by
 obtain ⟨places, hx⟩ := reads os enc
 refine law_returns_laid (C := Tryz.checked) (s := Rows.runPasReadsSpec) (k := Rows.uptoSmall) (tb := 4) ownT started (by kernel_rfl) Tryz.func7
  (witness_row_atRef (enc := enc) (C := Tryz.checked) false (laidWorld os) argsL rfl (by kernel_rfl) (by kernel_rfl) (by kernel_rfl)
   (OpenSpec.preRow_of_cond 8 hx (by kernel_rfl) (fun k hk => by cases hk; kernel_rfl) (by kernel_rfl) (laid_met os)))
  laidT (by kernel_rfl) (by kernel_rfl) (by kernel_rfl) rfl ?_ ?_
 ·intro ds hl
  match ds, hl with
  | [a, b, c, d], _ => rfl
 ·intro W base args ds p hval0 hA0 hk hL hsh _ hg
  have hval : ∀ (j : Nat) t v, Tryz.f7.params[j]? = some t → args[j]? = some v → Value.okWide Tryz.prog W .any base t v := hval0
  have hA : DataW.TrodAll enc Tryz.prog W 0 (fun _ => true) true Tryz.f7.params.toList args.toList ds p := hA0
  rw [paramsL] at hA
  obtain ⟨v0, vs0, d0, ds0, p0, q0, h00, rfl, rfl, h0, r0⟩ := trodAll_cons hA
  obtain ⟨v1, vs1, d1, ds1, p1, q1, rfl, rfl, rfl, h1, r1⟩ := trodAll_cons r0
  obtain ⟨v2, vs2, d2, ds2, p2, q2, rfl, rfl, rfl, h2, r2⟩ := trodAll_cons r1
  obtain ⟨v3, vs3, d3, ds3, p3, q3, rfl, rfl, rfl, h3, r3⟩ := trodAll_cons r2
  obtain ⟨rfl, rfl, rfl⟩ := trodAll_nil r3
  have e0 : args[0]? = some v0 := by rw [← Array.getElem?_toList, h00]; rfl
  have e1 : args[1]? = some v1 := by rw [← Array.getElem?_toList, h00]; rfl
  have e2 : args[2]? = some v2 := by rw [← Array.getElem?_toList, h00]; rfl
  have e3 : args[3]? = some v3 := by rw [← Array.getElem?_toList, h00]; rfl
  obtain ⟨c0, hc0, rc0⟩ := arg_agg Tryz.underlying28 (hval 0 28 v0 (by kernel_rfl) e0) h0 (fun n => rdPrg)
  obtain ⟨c1, hc1, rc1⟩ := arg_flat (a := fun x : List Int => AV.sl (x.map eInt) false) (by kernel_rfl) (hval 1 29 v1 (by kernel_rfl) e1) h1 (fun n => rdIntsW n)
  obtain ⟨c2, hc2, rc2⟩ := arg_flat (a := fun x : List Int => AV.sl (x.map eInt) false) (by kernel_rfl) (hval 2 29 v2 (by kernel_rfl) e2) h2 (fun n => rdIntsW n)
  obtain ⟨c3, hc3, rc3⟩ := arg_flat (a := fun x : Int => AV.int .i64 x) (by kernel_rfl) (hval 3 3 v3 (by kernel_rfl) e3) h3 (fun n => RdN.int Tryz.underlying3)
  have hb := of_decide_eq_true hk
  simp only [Rows.uptoBulkAll] at hb
  have hm : Spc0 := laid_spc hL (by simp [Rows.runPasReadsUptoRow]) hg
  rw [h00]
  exact ⟨_, _, (.cons rc0 (.cons rc1 (.cons rc2 (.cons rc3 (.nil _))))), Reads_spec hm eheap c0 hc0.1.1 hc0.1.2 c1 (by have := hc1.2; omega) false c2 (by have := hc2.2; omega) false c3, fun v g h => h.1⟩
theorem saidUpto : Rows.RunPasReadsUptoSaid :=
 OpenClaim.holds_of_cond 7 Tryz.f7 rfl rfl rfl rfl rfl rfl rfl ⟨rfl, rfl, rfl, rfl, rfl⟩ rfl rfl rfl rfl rfl (by kernel_rfl) Tryz.func7 (by kernel_rfl)
  (of_decide_eq_true (by kernel_rfl)) (by unfold Func.isWrapper; first | (rw [if_pos (by decide +kernel)]; kernel_rfl) | (rw [if_neg (by decide +kernel)]; exact ⟨rfl, rfl⟩))
  (fun os started H enc _ F => by rw [OpenClaim.pre_eq_preRow]; exact runPasReads_returns os started H enc F)
theorem plain (f : FuncId) (fn : Func) (hf : Tryz.pinned.checked.prog.funcNamed "pantograph/pantographlaw20.RunPasReads" = some f) (hfn : Tryz.pinned.checked.prog.funcs[f]? = some fn) :
  false = Tryz.pinned.checked.prog.looks [] ∧ ∀ (j : Nat) t, fn.params[j]? = some t → Tryz.pinned.checked.prog.wantsStandIn t = false := by
 obtain rfl : f = 7 := Option.some.inj ((show Tryz.prog.funcNamed "pantograph/pantographlaw20.RunPasReads" = some 7 by kernel_rfl).symm.trans hf) |>.symm
 obtain rfl : fn = Tryz.f7 := (Option.some.inj (Tryz.func7.symm.trans hfn)).symm
 refine ⟨by kernel_rfl, fun j t ht => ?_⟩
 have h := Array.mem_of_getElem? ht
 rw [← Array.mem_toList_iff, paramsL] at h
 simp only [List.mem_cons, List.not_mem_nil, or_false] at h
 rcases h with rfl | rfl | rfl | rfl
 ·exact (show Tryz.prog.wantsStandIn 28 = false by kernel_rfl)
 ·exact (show Tryz.prog.wantsStandIn 29 = false by kernel_rfl)
 ·exact (show Tryz.prog.wantsStandIn 29 = false by kernel_rfl)
 ·exact (show Tryz.prog.wantsStandIn 3 = false by kernel_rfl)
theorem runPasReads_card : Rows.RunPasReadsUptoCardSaid :=
 Claim7.holds_tied_plain_at .later [] _ _ _ _ saidUpto (fun _ h => by cases h) (by kernel_rfl) (fun _ h => by cases h) runPasReadsUpto_row_tie rfl ⟨rfl, rfl⟩ (by kernel_rfl) rfl plain (by kernel_rfl)
end Go.Proofs.YtdfbkddelhbgmaaGreatDoor
#print axioms Go.Proofs.YtdfbkddelhbgmaaGreatDoor.runPasReads_card
