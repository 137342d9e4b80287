import Derived.Test.YtdfbkddelhbgmaaGreatDoorLay3S3
import Derived.Test.YtdfbkddelhbgmaaGreatDoorCodeTS3
import Derived.Test.YtdfbkddelhbgmaaGreatDoorK4S3
namespace Go.Proofs
open Go.Shelf Go.RowKit
set_option maxHeartbeats 2000000
set_option maxRecDepth 100000
theorem aCV (b : Nat) (w : World) (h0 : w.cell? ⟨b, 0, none⟩ = some (.pointer none)) (hsh : w.shape? b = some (238, 2)) (hfz : w.frozen? ⟨b, 0, none⟩ = false) :
  Calls Tryz.prog 180 #[.pointer (some ⟨b, 0, none⟩)] w fun e w' => e = .returned (.tuple #[]) ∧ w' = w.setCell ⟨b, 0, none⟩ (.pointer (some ⟨b, 0, none⟩)) := by
 have hs2 : (Tryz.prog.info? 238).map (·.size) = some 2 := by kernel_rfl
 have hl : liesAt Tryz.prog Tryz.prog.depth 238 (2 / Tryz.prog.cellsOf 238) 0 238 1 = true := by kernel_rfl
 obtain ⟨j, hj, hjs⟩ := Option.map_eq_some_iff.1 hs2
 have t72 := Tryz.underlying238; have a72 := Tryz.isAgg238; have z72 := Tryz.sizeOf238; have v72 := Tryz.zeroValue238; have u72 := run_underlying Tryz.underlying238
 have t70 := Tryz.underlying235; have a70 := Tryz.isAgg235; have z70 := Tryz.sizeOf235; have v70 := Tryz.zeroValue235; have u70 := run_underlying Tryz.underlying235
 have t164 := Tryz.underlying281; have a164 := Tryz.isAgg281; have z164 := Tryz.sizeOf281; have v164 := Tryz.zeroValue281; have u164 := run_underlying Tryz.underlying281
 have t4 := Tryz.underlying4; have a4 := Tryz.isAgg4; have z4 := Tryz.sizeOf4; have v4 := Tryz.zeroValue4; have u4 := run_underlying Tryz.underlying4
 go_enter Tryz.func180, Tryz.ntmps180
 go_wp2
 rw [Lib.run_to_unsafe w ⟨b, 0, none⟩ Tryz.underlying235 Tryz.underlying281 hj (by rw [hjs]; decide) hsh (Nat.zero_lt_succ 1)]
 simp only [Result.andThen]
 rw [Oper.upon_value]
 go_wp2
 rw [run_callFunc_extern Tryz.func196 (by kernel_rfl) (by kernel_rfl) (by kernel_rfl) (e := Extern.AbiNoEscape.same) (by kernel_rfl)]
 rw [Lib.run_noEscape]
 simp only [Result.andThen]
 rw [Oper.upon_value]
 go_wp2
 rw [Lib.run_from_unsafe w ⟨b, 0, none⟩ Tryz.underlying281 Tryz.underlying235 hj hsh hl]
 simp only [Result.andThen]
 rw [Oper.upon_value]
 go_wp2
 go_end0
 exact ⟨rfl, rfl⟩
theorem aEC (b : Nat) (w : World) (h0 : w.cell? ⟨b, 0, none⟩ = some (.pointer (some ⟨b, 0, none⟩))) :
  Calls Tryz.prog 180 #[.pointer (some ⟨b, 0, none⟩)] w fun e w' => e = .returned (.tuple #[]) ∧ w' = w := by
 have hs2 : (Tryz.prog.info? 238).map (·.size) = some 2 := by kernel_rfl
 obtain ⟨j, hj, _⟩ := Option.map_eq_some_iff.1 hs2
 have t72 := Tryz.underlying238; have a72 := Tryz.isAgg238; have z72 := Tryz.sizeOf238; have v72 := Tryz.zeroValue238; have u72 := run_underlying Tryz.underlying238
 have t70 := Tryz.underlying235; have a70 := Tryz.isAgg235; have z70 := Tryz.sizeOf235; have v70 := Tryz.zeroValue235; have u70 := run_underlying Tryz.underlying235
 have t4 := Tryz.underlying4; have a4 := Tryz.isAgg4; have z4 := Tryz.sizeOf4; have v4 := Tryz.zeroValue4; have u4 := run_underlying Tryz.underlying4
 go_enter Tryz.func180, Tryz.ntmps180
 go_wp2
 rw [Lib.run_neq_ptr_same w _ Tryz.underlying235 hj]
 go_wp2
 go_end0
 exact ⟨rfl, rfl⟩
theorem aEE (b g cap : Nat) (p : Value) (l : List UInt8) (cur : Array Value) (w : World) (hbk : w.heap[b]? = some (.cells #[p, .slice (some ⟨g, 0, none⟩) l.length cap] 238 (0, 0)))
  (h0 : l ≠ []) (hg : w.heap[g]? = some (.cells cur 5 (0, 0))) (hnc : l.length ≤ cap) (hcm : l.length ≤ 9223372036854775807) (hcs : l.length ≤ cur.size)
  (hcell : ∀ j (x : UInt8), l[j]? = some x → w.cell? ⟨g, j, none⟩ = some (.int .u8 x.toNat)) :
  Calls Tryz.prog 155 #[.pointer (some ⟨b, 0, none⟩)] w fun e w' => e = .returned (.string ⟨l.toArray⟩) ∧ w' = w.drew.freeze ⟨g, 0, none⟩ l.length := by
 have hl0 : l.length ≠ 0 := by simpa using h0
 have c1 : w.drew.cell? ⟨b, 1, none⟩ = some (.slice (some ⟨g, 0, none⟩) l.length cap) := by
  have : w.drew.heap[b]? = some (.cells #[p, .slice (some ⟨g, 0, none⟩) l.length cap] 238 (0, 0)) := hbk
  rw [Lib.cell_of_heap this]; rfl
 have cB : Tryz.prog.cellsOf 5 = 1 := by kernel_rfl
 have hSD : (Builtin.unsafeSliceData_ #[236] 269 #[.slice (some ⟨g, 0, none⟩) l.length cap]).run Tryz.prog w.drew = .ok (.pointer (some ⟨g, 0, none⟩)) w.drew :=
  Lib.run_unsafeSliceData_row _ _ _ _ _ _ (by omega)
 have hUS : (Builtin.unsafeString_ #[269, 3] 9 #[.pointer (some ⟨g, 0, none⟩), .int .i64 l.length]).run Tryz.prog w.drew = .ok (.string ⟨l.toArray⟩) (w.drew.freeze ⟨g, 0, none⟩ l.length) := by
  refine Lib.run_unsafeString_row w.drew 269 3 9 5 Tryz.underlying269 cB g cur.size (by have hg' : w.drew.heap[g]? = some (.cells cur 5 (0, 0)) := hg; simp [World.shape?, hg']) l h0 hcs hcm ?_
  intro j x hx
  have := hcell j x hx
  by_cases hj : j = 0
  ·subst hj; simpa [Addr.add] using this
  ·simpa [Addr.add, hj] using this
 have mixed := Tryz.aEr.mixed
 have t72 := Tryz.underlying238; have a72 := Tryz.isAgg238; have z72 := Tryz.sizeOf238; have v72 := Tryz.zeroValue238; have u72 := run_underlying t72
 have t70 := Tryz.underlying235; have a70 := Tryz.isAgg235; have z70 := Tryz.sizeOf235; have v70 := Tryz.zeroValue235; have u70 := run_underlying t70
 have t37 := Tryz.underlying236; have a37 := Tryz.isAgg236; have z37 := Tryz.sizeOf236; have v37 := Tryz.zeroValue236; have u37 := run_underlying t37
 have t127 := Tryz.underlying269; have a127 := Tryz.isAgg269; have z127 := Tryz.sizeOf269; have v127 := Tryz.zeroValue269; have u127 := run_underlying t127
 have t3 := Tryz.underlying3; have a3 := Tryz.isAgg3; have z3 := Tryz.sizeOf3; have v3 := Tryz.zeroValue3; have u3 := run_underlying t3
 have t9 := Tryz.underlying9; have a9 := Tryz.isAgg9; have z9 := Tryz.sizeOf9; have v9 := Tryz.zeroValue9; have u9 := run_underlying t9
 have t5 := Tryz.underlying5; have a5 := Tryz.isAgg5; have z5 := Tryz.sizeOf5; have v5 := Tryz.zeroValue5; have u5 := run_underlying t5
 go_enter Tryz.func155, Tryz.ntmps155
 go_wp2
 go_region
 all_goals (go_wp2; go_ret; exact ⟨rfl, rfl⟩)
end Go.Proofs

namespace Pg
open Go Go.Proofs.Tryz
set_option linter.all false
set_option maxHeartbeats 4000000
set_option maxRecDepth 4000
structure Bld (p q cap : Nat) (l : List UInt8) (h : AHeap) : Prop where
 hp : h p = some (.blk [.ptr (some ⟨p, 0, none⟩), .os q l.length cap] 2 238)
 hq : h q = some (.blk (l.map fun b => .int .u8 b.toNat) cap 5)
 ne : p ≠ q
 le : l.length ≤ cap
theorem UI (w : World) (b : Nat) (vs : List Value) (ty : TypeId) (hw : w.heap[b]? = some (.cells vs.toArray ty (0, 0))) (v : Value) : w.setCell ⟨b, 0, none⟩ v = w.setRow b (vs.set 0 v).toArray := by
 have hlt : b < w.heap.size := (Array.getElem?_eq_some_iff.1 hw).1
 have hb : w.heap[b] = .cells vs.toArray ty (0, 0) := (Array.getElem?_eq_some_iff.1 hw).2
 unfold World.setCell World.setRow
 congr 1
 apply Array.ext (by simp)
 intro i h1 h2
 simp only [Array.size_modify] at h1
 rw [Array.getElem_modify, Array.getElem_modify]
 split
 ·rename_i hi; subst hi; rw [hb]; simp
 ·rfl
theorem KR [GI] (h : AHeap) (p : Nat) (buf : AV) (hp : h p = some (.blk [.ptr none, buf] 2 238)) : aD prog 180 [.ptr (some ⟨p, 0, none⟩)] h (fun v g => v = .tuple [] ∧ g = h.upd p (.blk [.ptr (some ⟨p, 0, none⟩), buf] 2 238)) := by
 intro I w vs r sat
 obtain ⟨v1, vs1, rfl, r1, r'⟩ := r.dN
 have := r'.of_nil; subst this
 have := r1.gL; subst this
 obtain ⟨us, g1, g2, g3, g4, g5⟩ := sat.obj _ _ hp
 have ht : us.take 2 = us := List.take_of_length_le (by omega)
 simp only [List.length_cons, List.length_nil, Nat.zero_add, ht] at g4 g5
 obtain ⟨u1, us1, rfl, q1, q'⟩ := g4.dN
 obtain ⟨u2, us2, rfl, q2, q''⟩ := q'.dN
 have := q''.of_nil; subst this
 have := q1.gL; subst this
 refine (Go.Proofs.aCV p w ?_ ?_ ?_).mono ?_
 ·simp [World.cell?, g1]
 ·simp [World.shape?, g1]
 ·simp [World.frozen?, g1]
 rintro e w' ⟨rfl, rfl⟩
 rw [UI w p _ _ g1]
 obtain ⟨k1, k2, k3⟩ := AX sat hp g1 (us := [.pointer (some ⟨p, 0, none⟩), u2]) rfl (ds := [.ptr (some ⟨p, 0, none⟩), buf]) (by simp) (.cons (.ptr _) (.cons q2 (.nil I))) (.cons rfl (.cons (g5 1 _ rfl) .nil))
 exact ⟨_, rfl, I, .tuple [], _, ⟨rfl, rfl⟩, .tuple [] [] rfl (by simp), k1, k2, k3⟩
theorem AE [GI] (h : AHeap) (p : Nat) (buf : AV) (hp : h p = some (.blk [.ptr (some ⟨p, 0, none⟩), buf] 2 238)) : aD prog 180 [.ptr (some ⟨p, 0, none⟩)] h (fun v g => v = .tuple [] ∧ g = h) := by
 intro I w vs r sat
 obtain ⟨v1, vs1, rfl, r1, r'⟩ := r.dN
 have := r'.of_nil; subst this
 have := r1.gL; subst this
 obtain ⟨us, g1, g2, g3, g4, g5⟩ := sat.obj _ _ hp
 have ht : us.take 2 = us := List.take_of_length_le (by omega)
 simp only [List.length_cons, List.length_nil, Nat.zero_add, ht] at g4 g5
 obtain ⟨u1, us1, rfl, q1, q'⟩ := g4.dN
 have := q1.gL; subst this
 refine (Go.Proofs.aEC p w ?_).mono ?_
 ·simp [World.cell?, g1]
 rintro e w' ⟨rfl, rfl⟩
 exact ⟨_, rfl, I, .tuple [], _, ⟨rfl, rfl⟩, .tuple [] [] rfl (by simp), sat, .refl h _, .refl _ I h⟩
theorem I1 {I : Imm} : ∀ (l : List UInt8) (vs : List Value), Rds I (l.map fun b => AV.int .u8 b.toNat) vs → vs = l.map fun b => Value.int .u8 b.toNat
 | [], vs, r => r.of_nil
 | x :: l, vs, r => by
  obtain ⟨v, vs', rfl, r1, r2⟩ := r.dN
  have := r1.gM; subst this
  rw [I1 l vs' r2]; rfl
theorem VA [GI] (h h0 : AHeap) (p q cap : Nat) (l : List UInt8) (hl : l ≠ []) (b : Bld p q cap l h) (hroom : l.length < 1099511627776) (le : ∀ c o, h0 c = some o → c ≠ q ∧ h c = some o) : aD prog 155 [.ptr (some ⟨p, 0, none⟩)] h (fun v g => v = .str ⟨l.toArray⟩ ∧ g = h0) := by
 intro I w vs r sat
 obtain ⟨v1, vs1, rfl, r1, r'⟩ := r.dN
 have := r'.of_nil; subst this
 have := r1.gL; subst this
 obtain ⟨us, g1, g2, g3, g4, g5⟩ := sat.obj _ _ b.hp
 have ht : us.take 2 = us := List.take_of_length_le (by omega)
 simp only [List.length_cons, List.length_nil, Nat.zero_add, ht] at g4 g5
 obtain ⟨u1, us1, rfl, q1, q'⟩ := g4.dN
 obtain ⟨u2, us2, rfl, q2, q''⟩ := q'.dN
 have := q''.of_nil; subst this
 have := q2.pQ; subst this
 obtain ⟨ws, f1, f2, f3, f4, f5⟩ := sat.obj _ _ b.hq
 have f6 := I1 _ _ f4
 rw [List.length_map] at f3 f6
 refine (Go.Proofs.aEE p q cap u1 l ws.toArray w g1 hl f1 b.le (by omega) (by have := b.le; simp; omega) ?_).mono ?_
 ·intro j x hx
  have hj : j < l.length := (List.getElem?_eq_some_iff.1 hx).1
  have : ws[j]? = some (.int .u8 x.toNat) := by
   rw [← List.getElem?_take_of_lt hj, f6]
   simp [hx]
  simp [World.cell?, f1, this]
 rintro e w' ⟨rfl, rfl⟩
 have same : ∀ k, k ≠ q → (w.drew.freeze ⟨q, 0, none⟩ l.length).heap[k]? = w.heap[k]? := by
  intro k hk
  unfold World.freeze
  split
  ·rfl
  ·show (w.heap.modify q _)[k]? = _
   rw [Array.getElem?_modify]
   simp [Ne.symm hk]
 have hsz : (w.drew.freeze ⟨q, 0, none⟩ l.length).heap.size = w.heap.size := by
  unfold World.freeze
  split
  ·rfl
  ·exact Array.size_modify ..
 have cell : ∀ a : Addr, a.block ≠ q → (w.drew.freeze ⟨q, 0, none⟩ l.length).cell? a = w.cell? a := by
  intro a ha
  simp only [World.cell?, same a.block ha]
 have hq0 : ∀ o, h0 q ≠ some o := fun o e => (le q o e).1 rfl
 refine ⟨_, rfl, I, .str ⟨l.toArray⟩, h0, ⟨rfl, rfl⟩, .str _, ⟨sat.pD, ?_, ?_, ?_⟩, ⟨?_, ?_, ?_, by rw [hsz]; exact Nat.le_refl _, ?_⟩, ⟨Imm.le_refl I, fun c o hc => .inl (by rw [(le c o hc).2]; simp), fun c o v hc => .inl hc⟩⟩
 ·intro c o hc
  exact (sat.obj c o (le c o hc).2).mono (Imm.le_refl I) (same c (le c o hc).1)
 ·intro c o v hc
  by_cases hcq : c = q
  ·subst hcq
   have := sat.dis c o v hc
   rw [b.hq] at this
   exact this.elim
  ·rw [cell _ hcq]; exact sat.imm c o v hc
 ·intro c o v hc
  have := sat.dis c o v hc
  cases h0c : h0 c with
  | none => trivial
  | some ob => rw [(le c ob h0c).2] at this; exact this
 ·unfold World.freeze; split <;> rfl
 ·unfold World.freeze; split <;> rfl
 ·unfold World.freeze; split <;> rfl
 ·intro k hk hn
  refine same k ?_
  rintro rfl
  rw [b.hq] at hn; cases hn
theorem aDP (s : ByteArray) : XO s = s.data.toList.map fun b => .int .u8 b.toNat := rfl
theorem NC {n : Nat} (h : n < 1099511627776) : roomFor n 1 := by
 unfold roomFor; omega
