import Derived.Shelf.LaysM
import Derived.Shelf.Strings.Split
import Derived.Shelf.Strings.SplitShaped
import Derived.Ground.Names2Prog
import Derived.Shelf.Slices.Clone
import Derived.Test.YtlflapoljegmoaaGreatDoorProg
namespace Go.Proofs
open Go.Shelf
def Tryz.lays146_ren : Go.Shelf.Ren := ⟨fun | 146 => 121 | 221 => 145 | 268 => 155 | 138 => 156 | 143 => 157 | 195 => 162 | 197 => 163 | 218 => 164 | 219 => 165 | 260 => 169 | 217 => 170 | 225 => 171 | 224 => 172 | 267 => 173 | 266 => 174 | 314 => 175 | n => n, fun | 9 => 9 | 31 => 22 | 3 => 3 | 4 => 4 | 0 => 0 | 105 => 245 | 21 => 21 | 5 => 5 | 46 => 253 | 119 => 254 | 139 => 257 | 138 => 256 | 146 => 259 | 51 => 258 | n => n, fun | 1 => 0 | 3 => 1 | 4 => 2 | n => n⟩
theorem Tryz.lays146 : Go.Proofs.Lays.n146 Tryz.prog Tryz.lays146_ren := {
 mixed := by kernel_rfl
 f138 := Tryz.func156.trans (congrArg some (by kernel_rfl))
 f143 := Tryz.func157.trans (congrArg some (by kernel_rfl))
 f146 := Tryz.func121.trans (congrArg some (by kernel_rfl))
 f195 := Tryz.func162.trans (congrArg some (by kernel_rfl))
 f197 := Tryz.func163.trans (congrArg some (by kernel_rfl))
 f217 := Tryz.func170.trans (congrArg some (by kernel_rfl))
 f218 := Tryz.func164.trans (congrArg some (by kernel_rfl))
 f219 := Tryz.func165.trans (congrArg some (by kernel_rfl))
 f221 := Tryz.func145.trans (congrArg some (by kernel_rfl))
 f224 := Tryz.func172.trans (congrArg some (by kernel_rfl))
 f225 := Tryz.func171.trans (congrArg some (by kernel_rfl))
 f260 := Tryz.func169.trans (congrArg some (by kernel_rfl))
 f266 := Tryz.func174.trans (congrArg some (by kernel_rfl))
 f267 := Tryz.func173.trans (congrArg some (by kernel_rfl))
 f268 := Tryz.func155.trans (congrArg some (by kernel_rfl))
 f314 := Tryz.func175.trans (congrArg some (by kernel_rfl))
 t0 := Tryz.underlying0
 a0 := Tryz.isAgg0
 z0 := Tryz.sizeOf0
 v0 := Tryz.zeroValue0
 t3 := Tryz.underlying3
 a3 := Tryz.isAgg3
 z3 := Tryz.sizeOf3
 v3 := Tryz.zeroValue3
 t4 := Tryz.underlying4
 a4 := Tryz.isAgg4
 z4 := Tryz.sizeOf4
 v4 := Tryz.zeroValue4
 t5 := Tryz.underlying5
 a5 := Tryz.isAgg5
 z5 := Tryz.sizeOf5
 v5 := Tryz.zeroValue5
 t9 := Tryz.underlying9
 a9 := Tryz.isAgg9
 z9 := Tryz.sizeOf9
 v9 := Tryz.zeroValue9
 t21 := Tryz.underlying21
 a21 := Tryz.isAgg21
 z21 := Tryz.sizeOf21
 v21 := Tryz.zeroValue21
 t31 := Tryz.underlying22
 a31 := Tryz.isAgg22
 z31 := Tryz.sizeOf22
 v31 := Tryz.zeroValue22
 t46 := Tryz.underlying253
 a46 := Tryz.isAgg253
 z46 := Tryz.sizeOf253
 v46 := Tryz.zeroValue253
 t51 := Tryz.underlying258
 a51 := Tryz.isAgg258
 z51 := Tryz.sizeOf258
 v51 := Tryz.zeroValue258
 t105 := Tryz.underlying245
 a105 := Tryz.isAgg245
 z105 := Tryz.sizeOf245
 v105 := Tryz.zeroValue245
 t119 := Tryz.underlying254
 a119 := Tryz.isAgg254
 z119 := Tryz.sizeOf254
 t138 := Tryz.underlying256
 a138 := Tryz.isAgg256
 z138 := Tryz.sizeOf256
 v138 := Tryz.zeroValue256
 t139 := Tryz.underlying257
 a139 := Tryz.isAgg257
 z139 := Tryz.sizeOf257
 v139 := Tryz.zeroValue257
 t146 := Tryz.underlying259
 a146 := Tryz.isAgg259
 z146 := Tryz.sizeOf259
 v146 := Tryz.zeroValue259
 g1 := by kernel_rfl
 g3 := by kernel_rfl
 g4 := by kernel_rfl }
open Go.RowKit Go.Lib in
/-- strings.Split. (LAID: no walk: one application.) -/
theorem Tryz.strings_Split (s sep : ByteArray) (m : Int) (w : World) (hs : s.size < 4294967281) (hm : w.cell? ⟨0, 0, none⟩ = some (.int .i64 m)) (h1 : 1 ≤ sep.size) :
  Calls Tryz.prog 121 #[.string s, .string sep] w fun e w' =>
   e = .returned (.slice (some ⟨w.heap.size, 0, none⟩) (Lib.countB s sep + 1) (Lib.countB s sep + 1)) ∧ w' = w.alloc (.cells ((Lib.splitB sep 0 (Lib.countB s sep) s).map Value.string).toArray 9) := Any.strings_Split Tryz.lays146 (by kernel_rfl) s sep m w hs hm h1
def Tryz.laysM146_ren : Go.Shelf.Ren := ⟨fun | 146 => 121 | 221 => 145 | 268 => 155 | 138 => 156 | 143 => 157 | 195 => 162 | 197 => 163 | 218 => 164 | 219 => 165 | 260 => 169 | 217 => 170 | 225 => 171 | 224 => 172 | 267 => 173 | 266 => 174 | 314 => 175 | n => n, fun | 9 => 9 | 31 => 22 | 3 => 3 | 4 => 4 | 0 => 0 | 105 => 245 | 21 => 21 | 5 => 5 | 46 => 253 | 119 => 254 | 139 => 257 | 138 => 256 | 146 => 259 | 51 => 258 | n => n, fun | 1 => 0 | 3 => 1 | 4 => 2 | n => n⟩
theorem Tryz.laysM146 : Go.Proofs.LaysM.n146 Tryz.prog Tryz.laysM146_ren := {
 mixed := by kernel_rfl
 f138 := Tryz.func156.trans (congrArg some (by kernel_rfl))
 f143 := Tryz.func157.trans (congrArg some (by kernel_rfl))
 f146 := Tryz.func121.trans (congrArg some (by kernel_rfl))
 f195 := Tryz.func162.trans (congrArg some (by kernel_rfl))
 f197 := Tryz.func163.trans (congrArg some (by kernel_rfl))
 f217 := Tryz.func170.trans (congrArg some (by kernel_rfl))
 f218 := Tryz.func164.trans (congrArg some (by kernel_rfl))
 f219 := Tryz.func165.trans (congrArg some (by kernel_rfl))
 f221 := Tryz.func145.trans (congrArg some (by kernel_rfl))
 f224 := Tryz.func172.trans (congrArg some (by kernel_rfl))
 f225 := Tryz.func171.trans (congrArg some (by kernel_rfl))
 f260 := Tryz.func169.trans (congrArg some (by kernel_rfl))
 f266 := Tryz.func174.trans (congrArg some (by kernel_rfl))
 f267 := Tryz.func173.trans (congrArg some (by kernel_rfl))
 f268 := Tryz.func155.trans (congrArg some (by kernel_rfl))
 f314 := Tryz.func175.trans (congrArg some (by kernel_rfl))
 t0 := Tryz.underlying0
 a0 := Tryz.isAgg0
 z0 := Tryz.sizeOf0
 v0 := Tryz.zeroValue0
 t3 := Tryz.underlying3
 a3 := Tryz.isAgg3
 z3 := Tryz.sizeOf3
 v3 := Tryz.zeroValue3
 t4 := Tryz.underlying4
 a4 := Tryz.isAgg4
 z4 := Tryz.sizeOf4
 v4 := Tryz.zeroValue4
 t5 := Tryz.underlying5
 a5 := Tryz.isAgg5
 z5 := Tryz.sizeOf5
 v5 := Tryz.zeroValue5
 t9 := Tryz.underlying9
 a9 := Tryz.isAgg9
 z9 := Tryz.sizeOf9
 v9 := Tryz.zeroValue9
 t21 := Tryz.underlying21
 a21 := Tryz.isAgg21
 z21 := Tryz.sizeOf21
 v21 := Tryz.zeroValue21
 t31 := Tryz.underlying22
 a31 := Tryz.isAgg22
 z31 := Tryz.sizeOf22
 v31 := Tryz.zeroValue22
 t46 := Tryz.underlying253
 a46 := Tryz.isAgg253
 z46 := Tryz.sizeOf253
 v46 := Tryz.zeroValue253
 t51 := Tryz.underlying258
 a51 := Tryz.isAgg258
 z51 := Tryz.sizeOf258
 v51 := Tryz.zeroValue258
 t105 := Tryz.underlying245
 a105 := Tryz.isAgg245
 z105 := Tryz.sizeOf245
 v105 := Tryz.zeroValue245
 t119 := Tryz.underlying254
 a119 := Tryz.isAgg254
 z119 := Tryz.sizeOf254
 t138 := Tryz.underlying256
 a138 := Tryz.isAgg256
 z138 := Tryz.sizeOf256
 v138 := Tryz.zeroValue256
 t139 := Tryz.underlying257
 a139 := Tryz.isAgg257
 z139 := Tryz.sizeOf257
 v139 := Tryz.zeroValue257
 t146 := Tryz.underlying259
 a146 := Tryz.isAgg259
 z146 := Tryz.sizeOf259
 v146 := Tryz.zeroValue259
 g1 := by kernel_rfl
 g3 := by kernel_rfl
 g4 := by kernel_rfl
 i0 := by kernel_rfl
 i3 := by kernel_rfl
 i4 := by kernel_rfl
 i5 := by kernel_rfl
 i9 := by kernel_rfl
 i21 := by kernel_rfl
 i31 := by kernel_rfl
 i46 := by kernel_rfl
 i51 := by kernel_rfl
 i105 := by kernel_rfl
 i138 := by kernel_rfl
 i139 := by kernel_rfl
 i146 := by kernel_rfl
 m1 := by kernel_rfl
 s1_3 := fun w h => Go.Proofs.cell_of_shapedOpen_int (zero := #[.int .i64 0]) (t := 3) h (of_decide_eq_true (by kernel_rfl)) (by kernel_rfl) rfl (by kernel_rfl) (by kernel_rfl) Tryz.underlying3
 m3 := by kernel_rfl
 m4 := by kernel_rfl }
open Go.RowKit Go.Lib in
/-- strings.Split, sep not empty. (LAID: no walk: one application.) -/
def Tryz.laysNm216_ren : Go.Shelf.Ren := ⟨fun | 16 => 88 | n => n, fun | 24 => 22 | 9 => 9 | 4 => 4 | n => n, fun | n => n⟩
theorem Tryz.laysNm216 : Go.Proofs.Lays2.n16 Tryz.prog Tryz.laysNm216_ren := {
 mixed := by kernel_rfl
 f16 := Tryz.func88.trans (congrArg some (by kernel_rfl))
 t4 := Tryz.underlying4
 a4 := Tryz.isAgg4
 z4 := Tryz.sizeOf4
 v4 := Tryz.zeroValue4
 t9 := Tryz.underlying9
 a9 := Tryz.isAgg9
 z9 := Tryz.sizeOf9
 v9 := Tryz.zeroValue9
 t24 := Tryz.underlying22
 a24 := Tryz.isAgg22
 z24 := Tryz.sizeOf22
 v24 := Tryz.zeroValue22
 i9 := by kernel_rfl }
open Go.RowKit Go.Lib in
/-- slices.Clone at []string: "Clone returns a copy of the slice. The elements are copied using assignment, so this is a shallow clone. The result may have additional unused capacity. The result preserves the nilness of s.": OF A SLICE THAT IS NOT nil IT RETURNS A SLICE THAT IS NOT nil, OF THE SAME ELEMENTS, IN MEMORY OF THE CALL's OWN: in the how-to's words (6f): 'w'.ownsRow B e 1 v' n cells': v' begins at the head of a row among the blocks from B on (B: the heap's size at the call), not frozen, whose first cells are the elements · 'Below B w w'': below B all is as it was. The capacity is whatever the run-time gives. 'zs': what the cells behind the slice's address hold; 'zs.take n': its elements. (LAID: no walk: one application.) -/
theorem Tryz.slices_Clone_string (b off n c : Nat) (zs : List ByteArray) (w : World) (hz : n ≤ zs.length) (hbig : n * 16 ≤ 140737488355328) (hc : ∀ j, j < zs.length → w.cell? ⟨b, off + j, none⟩ = some (.string (zs.getD j ByteArray.empty))) :
  Calls Tryz.prog 88 #[.slice (some ⟨b, off, none⟩) n c] w fun e w' => ∃ v', e = .returned v' ∧ w'.ownsRow w.heap.size 9 1 v' n ((zs.take n).map (Value.string)) ∧ v' ≠ .slice none 0 0 ∧ Below w.heap.size w w' := Any.slices_Clone_string Tryz.laysNm216 b off n c zs w hz hbig hc
open Go.RowKit Go.Lib in
/-- The same at nil: nil comes back; the world is as it was. (LAID: no walk: one application.) -/
theorem Tryz.slices_Clone_string_nil (n c : Nat) (w : World) :
  Calls Tryz.prog 88 #[.slice none n c] w fun e w' => e = .returned (.slice none 0 0) ∧ w' = w := Any.slices_Clone_string_nil Tryz.laysNm216 n c w
open Go.RowKit Go.Lib in
/-- The same at a slice of length 0 that is not nil, WHATEVER ITS ADDRESS (no cell is asked for): a slice that is not nil and owns nothing comes back. (LAID: no walk: one application.) -/
theorem Tryz.slices_Clone_string_zero (a : Addr) (c : Nat) (w : World) :
  Calls Tryz.prog 88 #[.slice (some a) 0 c] w fun e w' => ∃ v', e = .returned v' ∧ w'.ownsRow w.heap.size 9 1 v' 0 [] ∧ v' ≠ .slice none 0 0 ∧ Below w.heap.size w w' := Any.slices_Clone_string_zero Tryz.laysNm216 a c w
end Go.Proofs
