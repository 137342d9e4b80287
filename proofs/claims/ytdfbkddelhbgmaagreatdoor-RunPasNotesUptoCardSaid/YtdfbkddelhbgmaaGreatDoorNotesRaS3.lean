import Derived.Test.YtdfbkddelhbgmaaGreatDoorLaw20eJS3
import Derived.Test.YtdfbkddelhbgmaaGreatDoorRowMS3
import Derived.Test.YtdfbkddelhbgmaaGreatDoorRdS3
import Derived.Test.YtdfbkddelhbgmaaGreatDoorCards
import Derived.Test.YtdfbkddelhbgmaaGreatDoorTie
import Derived.WalkKit
import Derived.ProofKit
import Derived.OpenShut
import Derived.Deep.DeepWitnessRowRef
import Derived.Deep.DeepLaidRun
import Derived.Lib.SpaceR
namespace Go.Proofs.YtdfbkddelhbgmaaGreatDoor
open Go Go.ChangeShapes Go.WideShapes Go.ChangeAt Go.RowKit Pg
set_option linter.all false
set_option maxRecDepth 100000
set_option maxHeartbeats 4000000
noncomputable def D6 (os : Os) : World :=
 let N := (World.settled Tryz.prog os).heap.size
 let w0 := World.holding Tryz.prog os ⟨#[.cells (Lib.whiteT.map fun (z : Nat) => Value.int .u16 (z : Int)).toArray 302, .cells #[.slice (some ⟨N, 0, none⟩) 7 7, .slice none 0 0, .int .i64 2] 299], #[], []⟩
 let put (h : Array Obj) (g : Nat) (cs : Array Value) : Array Obj := h.modify g fun
  | .cells _ t frozen => .cells cs t frozen
  | o => o
 { w0 with heap := put (put (put (put w0.heap 0 (Lib.asciiSpaceTab.map fun z => Value.int .u8 z).toArray) 2 ((Go.Pinned.utf8FirstZ.map fun n : Nat => Value.int .u8 (n : Int)).toArray))
   3 ((([128, 191, 160, 191, 128, 159, 144, 191, 128, 143] ++ List.replicate 22 0).map fun n : Nat => Value.int .u8 (n : Int)).toArray)) 1 #[.pointer (some ⟨N + 1, 0, none⟩)] }
theorem aBp : Tryz.prog.globalNamed "strings.asciiSpace" = some 0 := by kernel_rfl
theorem aEs : (Tryz.prog.globals[0]?).map (·.type) = some 278 := by kernel_rfl
theorem aFp : Tryz.prog.cellsOf 278 = 256 := by kernel_rfl
theorem aFR : Tryz.prog.cellsOf 5 = 1 := by kernel_rfl
theorem aAB : (Rows.laid_strings_asciiSpace : DataW Unit) = Lib.tabData .u8 Lib.asciiSpaceTab := by kernel_rfl
theorem aCI {W : World} {l : List (String × DataW Unit)} (h : laidMet Tryz.prog l W) (hm : ("strings.asciiSpace", (Rows.laid_strings_asciiSpace : DataW Unit)) ∈ l) [GI] (hg : GI.imm = oG W) : Spc0 := by
 obtain ⟨ps, h, _⟩ := h
 rw [aAB] at hm
 have htab := QI aBp aEs Tryz.underlying278 Tryz.underlying5 aFR aFp h hm
 intro c hc
 rw [hg]
 show W.cell? ⟨0, c, none⟩ = _
 rw [htab.cell aBp c (by rw [Lib.asciiSpaceTab_length]; exact hc), Lib.asciiSpaceTab_at c hc]
def OW : Array Value := #[.agg #[.string ⟨#[]⟩, .slice none 0 0, .slice none 0 0, .slice none 0 0, .slice none 0 0, .slice none 0 0, .slice none 0 0, .slice none 0 0, .slice none 0 0], .slice none 0 0, .int .i64 0]
theorem WN : Tryz.f5.params.toList = [28, 29, 3] := rfl
theorem aE9 {H : Type} {enc : TypeId × Value → H} {W : World} (n : Nat) : RdN enc Tryz.prog W n 29 (eSl eInt) (fun _ xs => few xs) := by
 cases n with
 | zero => exact .zero
 | succ n => exact (RdN.slF (ok := fun _ => True) Tryz.underlying29 (jJ (k := 0) (by kernel_rfl)) ((RdN.int Tryz.underlying2).mono fun d x _ => ⟨x, trivial, rfl⟩)).mono fun d x h => ⟨x, h.1, rfl⟩
theorem aCJ (os : Os) : laidMet Tryz.prog Rows.runPasNotesUptoRow.laid ((D6 os).forCall (fun _ _ => 0) ⟨#[], OW, []⟩).memory :=
 laidMet_of_run3 10 (by kernel_rfl) (by kernel_rfl) (by kernel_rfl)
theorem reads (os : Os) {H : Type} (enc : TypeId × Value → H) : ∃ places, DataW.whole enc Tryz.prog ((D6 os).forCall (fun _ _ => 0) ⟨#[], OW, []⟩).memory Tryz.f5.params.toList Rows.runPasNotesSpec.vars false OW.toList 8 = some ([.agg [.lit (.string []), .nil, .nil, .nil, .nil, .nil, .nil, .nil, .nil], .nil, .lit (.int .i64 0)], [], places) :=
 ⟨[], by kernel_rfl⟩
theorem C2 (os : Os) (started : os.Started) (H : Type) (enc : TypeId × Value → H) (F : Stop.Interp) :
  ReturnsInHanded {} Tryz.checked os 5 .any ((Rows.OpenSpec.upto Rows.runPasNotesSpec).preRow enc Tryz.prog Tryz.f5 Rows.runPasNotesUptoRow.domain false Rows.runPasNotesUptoRow.laid) (((Rows.OpenSpec.upto Rows.runPasNotesSpec).at F).post enc Tryz.prog Tryz.f5 false true false false) := by
 obtain ⟨places, hx⟩ := reads os enc
 refine IA (C := Tryz.checked) (s := Rows.runPasNotesSpec) (k := Rows.uptoSmall) (tb := 4) aF2 started (by kernel_rfl) Tryz.func5
  (witness_row_atRef (enc := enc) (C := Tryz.checked) false (D6 os) OW rfl (by kernel_rfl) (by kernel_rfl) (by kernel_rfl)
   (OpenSpec.preRow_of_cond 8 hx (by kernel_rfl) (fun k hk => by cases hk; kernel_rfl) (by kernel_rfl) (aCJ os)))
  aFP (by kernel_rfl) (by kernel_rfl) (by kernel_rfl) rfl ?_ ?_
 ·intro ds hl
  match ds, hl with
  | [a, b, c], _ => rfl
 ·intro W base args ds p hval0 hA0 hk hL hsh _ hg
  have hval : ∀ (j : Nat) t v, Tryz.f5.params[j]? = some t → args[j]? = some v → Value.okWide Tryz.prog W .any base t v := hval0
  have hA : DataW.TrodAll enc Tryz.prog W 0 (fun _ => true) true Tryz.f5.params.toList args.toList ds p := hA0
  rw [WN] at hA
  obtain ⟨v0, vs0, d0, ds0, p0, q0, h00, rfl, rfl, h0, r0⟩ := trodAll_cons hA
  obtain ⟨v1, vs1, d1, ds1, p1, q1, rfl, rfl, rfl, h1, r1⟩ := trodAll_cons r0
  obtain ⟨v2, vs2, d2, ds2, p2, q2, rfl, rfl, rfl, h2, r2⟩ := trodAll_cons r1
  obtain ⟨rfl, rfl, rfl⟩ := trodAll_nil r2
  have e0 : args[0]? = some v0 := by rw [← Array.getElem?_toList, h00]; rfl
  have e1 : args[1]? = some v1 := by rw [← Array.getElem?_toList, h00]; rfl
  have e2 : args[2]? = some v2 := by rw [← Array.getElem?_toList, h00]; rfl
  obtain ⟨c0, hc0, rc0⟩ := aEG Tryz.underlying28 (hval 0 28 v0 (by kernel_rfl) e0) h0 (fun n => aFI)
  obtain ⟨c1, hc1, rc1⟩ := RC (a := fun x : List Int => AV.sl (x.map eInt) false) (by kernel_rfl) (hval 1 29 v1 (by kernel_rfl) e1) h1 (fun n => aE9 n)
  obtain ⟨c2, hc2, rc2⟩ := RC (a := fun x : Int => AV.int .i64 x) (by kernel_rfl) (hval 2 3 v2 (by kernel_rfl) e2) h2 (fun n => RdN.int Tryz.underlying3)
  have hb := of_decide_eq_true hk
  simp only [Rows.uptoBulkAll] at hb
  have hm : Spc0 := aCI hL (by simp [Rows.runPasNotesUptoRow]) hg
  rw [h00]
  exact ⟨_, _, (.cons rc0 (.cons rc1 (.cons rc2 (.nil _)))), ZU hm eheap c0 hc0.1.1 hc0.1.2 (by have := hc0.2; omega) c1 hc1 false c2, fun v g h => h.1⟩
end Go.Proofs.YtdfbkddelhbgmaaGreatDoor
