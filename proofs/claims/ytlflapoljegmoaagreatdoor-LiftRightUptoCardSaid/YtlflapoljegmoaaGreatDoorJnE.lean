import Derived.Test.YtlflapoljegmoaaGreatDoorTreeSE
import Derived.Test.YtlflapoljegmoaaGreatDoorLayE
import Derived.Test.YtlflapoljegmoaaGreatDoorCodeGE
import Derived.Test.YtlflapoljegmoaaGreatDoorTreeE
namespace Pg
open Go Go.RowKit
set_option linter.all false
set_option maxHeartbeats 4000000
set_option maxRecDepth 4000
def joinS (sep : ByteArray) (l : List ByteArray) : ByteArray := ⟨(Go.Lib.join (l.map (·.data.toList)) sep.data.toList).toArray⟩
def joinB (l : List ByteArray) : ByteArray := ⟨(Go.Lib.join (l.map (·.data.toList)) []).toArray⟩
theorem ext_below {h : AHeap} {w w' : World} (b : Below w.heap.size w w') : Ext h w w' := ⟨b.os, b.tape, b.output, b.size, fun k hk _ => b.block k hk⟩
theorem sat_below [GI] {I : Imm} {h : AHeap} {w w' : World} (s : Sat w I h) (b : Below w.heap.size w w') : Sat w' I h := by
 refine ⟨s.glob, fun k o hk => (s.obj k o hk).mono (Imm.le_refl I) (b.block k (s.lt hk)), fun k o v hv => ?_, s.dis⟩
 have h1 := s.imm k o v hv
 have h2 := s.imm_lt hv
 simp only [World.cell?] at h1 ⊢
 rw [b.block k h2]; exact h1
theorem txt_cells {I : Imm} {bk o size : Nat} {x : ByteArray} {xs : List ByteArray} {vss : List (List Value)} (R : Rows I bk o size ((x :: xs).map fun s => [AV.str s]) vss) : ∀ (j : Nat) y, (x :: xs)[j]? = some y → I bk (o + j) = some (.string y) := by
 intro j y hj
 have he : ((x :: xs).map fun s => [AV.str s])[j]? = some [.str y] := by simp only [List.getElem?_map, hj, Option.map_some]
 have hlt : j < vss.length := by
  rw [← R.len]
  rcases Nat.lt_or_ge j ((x :: xs).map fun s => [AV.str s]).length with h | h
  ·exact h
  ·rw [List.getElem?_eq_none h] at he; cases he
 have hv : vss[j]? = some vss[j] := List.getElem?_eq_getElem hlt
 have hs := R.size_ j _ _ he hv
 have h0 : vss[0]? = some (vss[0]'(by omega)) := List.getElem?_eq_getElem (by omega)
 have hs0 := R.size_ 0 [.str x] _ (by simp) h0
 simp only [List.length_cons, List.length_nil] at hs hs0
 obtain ⟨u, hu⟩ : ∃ u, vss[j] = [u] := by
  cases hq : vss[j] with
  | nil => rw [hq] at hs; simp at hs; omega
  | cons u us =>
   cases us with
   | nil => exact ⟨u, rfl⟩
   | cons _ _ => rw [hq] at hs; simp at hs; omega
 have hrd := R.rd j _ _ 0 (.str y) u he hv rfl (by rw [hu]; rfl)
 have := hrd.inv_str; subst this
 have hm := R.mem j _ 0 (.string y) hv (by rw [hu]; rfl)
 have hsz : size = 1 := by omega
 rw [hsz, Nat.mul_one, Nat.add_zero] at hm
 exact hm
theorem sJoinS_spec [GI] (h : AHeap) (l : List ByteArray) (f : Bool) (sep : ByteArray) (hl : l.length ≤ 1048576) (hb : (Go.Lib.join (l.map (·.data.toList)) sep.data.toList).length ≤ 140737488355328) : ACalls Go.Proofs.Tryz.prog 122 [.sl (l.map fun s => [.str s]) f, .str sep] h (fun v g => v = .str (joinS sep l) ∧ g = h) := by
 intro I w vs r s
 obtain ⟨v1, vs1, rfl, r1, r'⟩ := r.uncons
 obtain ⟨v2, vs2, rfl, r2, r''⟩ := r'.uncons
 have := r''.of_nil; subst this
 have := r2.inv_str; subst this
 obtain ⟨a, cap, rfl, h1, h2, h3, h4, h5⟩ := r1.inv_sl
 have fin : ∀ (e : Ending) (w' : World), e = .returned (.string (joinS sep l)) ∧ Below w.heap.size w w' → ∃ v, e = .returned v ∧ ∃ J x g, (x = .str (joinS sep l) ∧ g = h) ∧ Rd J x v ∧ Sat w' J g ∧ Ext h w w' ∧ New w I J h g := by
  rintro e w' ⟨rfl, b⟩
  exact ⟨_, rfl, I, _, h, ⟨rfl, rfl⟩, .str _, sat_below s b, ext_below b, .refl w I h⟩
 cases l with
 | nil =>
  refine (Go.Proofs.Tryz.strings_Join_none a cap sep w).mono ?_
  rintro e w' ⟨rfl, rfl⟩
  exact fin _ _ ⟨rfl, .refl _ _⟩
 | cons x xs =>
  rcases h5 with h5 | ⟨b, o, size, vss, rfl, R⟩
  ·simp at h5
  ·have hcell := txt_cells R
   have hb0 := hcell 0 x rfl
   refine (Calls.mono (P := Go.Proofs.Tryz.prog) ?_ fin)
   have := Go.Proofs.Tryz.strings_Join b o cap (x :: xs) sep w (fun j y hj => s.imm _ _ _ (hcell j y hj)) (s.imm_lt hb0) (by omega) (by simpa using h1) hb
   rw [show ((x :: xs).map fun s => [AV.str s]).length = (x :: xs).length from by simp]
   exact this
theorem sJoin_spec [GI] (h : AHeap) (l : List ByteArray) (f : Bool) (hl : l.length ≤ 1048576) (hb : (Go.Lib.join (l.map (·.data.toList)) []).length ≤ 140737488355328) : ACalls Go.Proofs.Tryz.prog 122 [.sl (l.map fun s => [.str s]) f, .str ⟨#[]⟩] h (fun v g => v = .str (joinB l) ∧ g = h) :=
 sJoinS_spec h l f ⟨#[]⟩ hl hb
theorem Join_spec [GI] (h : AHeap) (l : List ByteArray) (f : Bool) (hl : l.length ≤ 1048576) (hb : (Go.Lib.join (l.map (·.data.toList)) []).length ≤ 140737488355328) : ACalls Go.Proofs.Tryz.prog 142 [.sl (l.map fun s => [.str s]) f] h (fun v g => v = .str (joinB l) ∧ g = h) := by
 refine F142.calls (by simp) ?_
 delta F142.c0
 simp only [go_sem,seval]
 refine tcE (sJoin_spec h l f hl hb) ?_
 simp only [go_sem,seval]
 exact .same ⟨rfl, rfl⟩
theorem joinB_two (a b : ByteArray) : joinB [a, b] = a ++ b := by
 apply ByteArray.ext
 simp [joinB, Go.Lib.join, List.intercalate]
theorem joinB_three (a b c : ByteArray) : joinB [a, b, c] = a ++ b ++ c := by
 apply ByteArray.ext
 simp [joinB, Go.Lib.join, List.intercalate]
end Pg
