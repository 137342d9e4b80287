import Derived.Test.YtlflapoljegmoaaGreatDoorLay2E
import Derived.Test.YtlflapoljegmoaaGreatDoorJnE
import Derived.Test.YtlflapoljegmoaaGreatDoorLiftSpecJE
import Derived.Lib.Split
import Derived.Lib.SplitLaws
import Derived.Lib.Join
namespace Pg
open Go Go.RowKit
set_option linter.all false
set_option maxHeartbeats 4000000
set_option maxRecDepth 4000
theorem idx_one (c : UInt8) : ∀ (l : List UInt8) (i : Nat), Go.Lib.index l [c] = (i : Int) → l = l.take i ++ c :: l.drop (i + 1)
 | [], i, h => by simp [Go.Lib.index] at h
 | b :: l, i, h => by
  by_cases hb : b = c
  ·subst hb
   have : Go.Lib.index (b :: l) [b] = 0 := by rw [Go.Lib.index]; simp [List.isPrefixOf]
   have hi : i = 0 := by omega
   subst hi
   simp
  ·have hp : ([c] : List UInt8).isPrefixOf (b :: l) = false := by simp [List.isPrefixOf, Ne.symm hb]
   have hix : Go.Lib.index (b :: l) [c] = if Go.Lib.index l [c] == -1 then -1 else Go.Lib.index l [c] + 1 := by rw [Go.Lib.index, hp]; simp
   rw [hix] at h
   split at h
   ·omega
   ·obtain ⟨j, rfl⟩ : ∃ j, i = j + 1 := by
     have := Go.Lib.index_ge l [c]
     rename_i hm
     have : ¬ Go.Lib.index l [c] = -1 := fun e => hm (by simp [e])
     exact ⟨i - 1, by omega⟩
    have := idx_one c l j (by omega)
    simp only [List.take_succ_cons, List.drop_succ_cons, List.cons_append]
    rw [← this]
theorem joinTail_cons (sep x : List UInt8) (r : List (List UInt8)) : Go.Lib.joinTail sep (x :: r) = sep ++ x ++ Go.Lib.joinTail sep r := by simp [Go.Lib.joinTail]
theorem splitK_ne (sep : List UInt8) : ∀ (k : Nat) (l : List UInt8), ∃ x r, Go.Lib.splitK sep 0 k l = x :: r
 | 0, l => ⟨l, [], rfl⟩
 | k + 1, l => by
  unfold Go.Lib.splitK
  split
  ·exact ⟨_, _, rfl⟩
  ·exact ⟨_, _, rfl⟩
theorem join_splitK (c : UInt8) : ∀ (k : Nat) (l : List UInt8), Go.Lib.join (Go.Lib.splitK [c] 0 k l) [c] = l
 | 0, l => Go.Lib.join_one l [c]
 | k + 1, l => by
  unfold Go.Lib.splitK
  split
  ·exact Go.Lib.join_one l [c]
  ·rename_i hm
   have h0 : ¬ Go.Lib.index l [c] = -1 := fun e => hm (by simp [e])
   have h1 := Go.Lib.index_ge l [c]
   have hi : Go.Lib.index l [c] = ((Go.Lib.index l [c]).toNat : Int) := by omega
   have hl := idx_one c l _ hi
   generalize (Go.Lib.index l [c]).toNat = i at hl
   have ih := join_splitK c k (l.drop (i + 1))
   obtain ⟨x, r, hx⟩ := splitK_ne [c] k (l.drop (i + 1))
   simp only [Nat.add_zero, List.length_cons, List.length_nil, Nat.zero_add]
   rw [Go.Lib.join_cons, hx, joinTail_cons]
   rw [hx, Go.Lib.join_cons] at ih
   rw [List.append_assoc, ih]
   exact hl.symm
def parts36 (s : ByteArray) : List ByteArray := Go.Lib.splitB ⟨#[36]⟩ 0 (Go.Lib.countB s ⟨#[36]⟩) s
theorem parts36_join (s : ByteArray) : Go.Lib.join ((parts36 s).map (·.data.toList)) [36] = s.data.toList := by
 unfold parts36
 rw [Go.Lib.splitB_data]
 exact join_splitK 36 _ _
theorem parts36_len (s : ByteArray) : (parts36 s).length = Go.Lib.countB s ⟨#[36]⟩ + 1 := Go.Lib.splitB_all _ (by decide) 0 _ s rfl
theorem parts36_le (s : ByteArray) : (parts36 s).length ≤ s.size + 1 := by
 rw [parts36_len]
 have := Go.Lib.countB_le ⟨#[36]⟩ (by decide) s.size s (Nat.le_refl _)
 omega
def Max0 [GI] : Prop := ∃ m : Int, GI.imm 0 0 = some (.int .i64 m)
theorem strs_rds (I : Imm) : ∀ l : List ByteArray, Rds I (l.map .str) (l.map .string) ∧ Ones (l.map Value.string)
 | [] => ⟨.nil I, .nil⟩
 | x :: l => ⟨.cons (.str x) (strs_rds I l).1, .cons rfl (strs_rds I l).2⟩
theorem Split_spec [GI] (hm : Max0) (h : AHeap) (s : ByteArray) (hs : s.size < 4294967281) : ACalls Go.Proofs.Tryz.prog 121 [.str s, .str ⟨#[36]⟩] h (fun v g => ∃ b, v = .os b (parts36 s).length (parts36 s).length ∧ h b = none ∧ g = h.upd b (.blk ((parts36 s).map .str) (parts36 s).length 9)) := by
 intro I w vs r sat
 obtain ⟨v1, vs1, rfl, r1, r'⟩ := r.uncons
 obtain ⟨v2, vs2, rfl, r2, r''⟩ := r'.uncons
 have := r''.of_nil; subst this
 have := r1.inv_str; subst this
 have := r2.inv_str; subst this
 obtain ⟨m, hm⟩ := hm
 have hw : w.cell? ⟨0, 0, none⟩ = some (.int .i64 m) := sat.imm _ _ _ (sat.glob _ _ _ hm)
 refine (Go.Proofs.Tryz.strings_Split s ⟨#[36]⟩ m w hs hw (by decide)).mono ?_
 rintro e w' ⟨rfl, rfl⟩
 obtain ⟨q1, q2⟩ := strs_rds I (parts36 s)
 obtain ⟨g1, g2, g3, g4⟩ := alloc_sat sat (.cells ((parts36 s).map Value.string).toArray 9) (.blk ((parts36 s).map .str) _ 9) (objSat_new 9 q1 q2)
 refine ⟨_, rfl, I, .os w.heap.size (parts36 s).length (parts36 s).length, _, ⟨w.heap.size, rfl, g1, rfl⟩, ?_, ?_, ?_, ?_⟩
 ·rw [parts36_len]; exact .os _ _ _
 ·rw [List.length_map] at g2; exact g2
 ·exact g3
 ·rw [List.length_map] at g4; exact g4
theorem Clone_spec [GI] (h : AHeap) (l : List ByteArray) (hl : l.length ≤ 1048576) (f : Bool) : ACalls Go.Proofs.Tryz.prog 88 [.sl (l.map fun s => [.str s]) f] h (fun v g => v = .sl (l.map fun s => [.str s]) false ∧ g = h) := by
 intro I w vs r sat
 obtain ⟨v1, vs1, rfl, r1, r'⟩ := r.uncons
 have := r'.of_nil; subst this
 obtain ⟨a, cap, rfl, h1, h2, h3, h4, h5⟩ := r1.inv_sl
 cases l with
 | nil =>
  have fin : ∀ (v' : Value) (w' : World), (v' = .slice none 0 0 ∨ ∃ g c, v' = .slice (some ⟨g, 0, none⟩) 0 c) → Below w.heap.size w w' → ∃ v, Ending.returned v' = .returned v ∧ ∃ J x g, (x = .sl ((([] : List ByteArray)).map fun s => [AV.str s]) false ∧ g = h) ∧ Rd J x v ∧ Sat w' J g ∧ Ext h w w' ∧ New w I J h g := by
   intro v' w' hv b
   refine ⟨_, rfl, I, _, h, ⟨rfl, rfl⟩, ?_, sat_below sat b, ext_below b, .refl w I h⟩
   rcases hv with rfl | ⟨g, c, rfl⟩
   ·exact .sl0 false none 0 (fun x h => by cases h) (fun _ => rfl) (fun h => by cases h)
   ·exact .sl0 false _ c (fun _ _ => trivial) (fun h => by cases h) (fun h => by cases h)
  cases a with
  | none =>
   refine (Go.Proofs.Tryz.slices_Clone_string_nil 0 cap w).mono ?_
   rintro e w' ⟨rfl, rfl⟩
   exact fin _ _ (.inl rfl) (.refl _ _)
  | some a =>
   refine (Go.Proofs.Tryz.slices_Clone_string_zero a cap w).mono ?_
   rintro e w' ⟨v', rfl, ho, _, b⟩
   rcases ho.2 with ⟨hv, _⟩ | ⟨g, c, cur, hv, _⟩
   ·exact fin _ _ (.inl hv) b
   ·exact fin _ _ (.inr ⟨g, c, hv⟩) b
 | cons x xs =>
  rcases h5 with h5 | ⟨b, o, size, vss, rfl, R⟩
  ·simp at h5
  ·have hcell := txt_cells R
   have hlen : ((x :: xs).map fun s => [AV.str s]).length = (x :: xs).length := by simp
   rw [hlen]
   refine (Go.Proofs.Tryz.slices_Clone_string b o (x :: xs).length cap (x :: xs) w (Nat.le_refl _) (by omega) (fun j hj => ?_)).mono ?_
   ·have hj' : (x :: xs)[j]? = some ((x :: xs).getD j ByteArray.empty) := by
     rw [List.getD_eq_getElem?_getD, List.getElem?_eq_getElem hj]; rfl
    exact sat.imm _ _ _ (hcell j _ hj')
   ·rintro e w' ⟨v', rfl, ho, hne, bl⟩
    obtain ⟨_, hv⟩ := ho
    rcases hv with ⟨hv, _⟩ | ⟨g, c, cur, rfl, hg, hcur, hc1, hc2, hc3, hc4⟩
    ·exact absurd hv hne
    ·have s1 := sat_below sat bl
     have hgn : h g = none := by
      cases hh : h g with
      | none => rfl
      | some y => have := sat.lt hh; omega
     have hIg : ∀ o, I g o = none := fun o => by
      cases hh : I g o with
      | none => rfl
      | some y => have := sat.imm_lt hh; omega
     have hle : I.le (I.withRow g ((x :: xs).map Value.string)) := fun k o v e => by
      simp only [Imm.withRow]
      by_cases hk : k = g
      ·subst hk; rw [hIg] at e; cases e
      ·rw [if_neg hk]; exact e
     have hrow : ∀ (j : Nat) v, ((x :: xs).map Value.string)[j]? = some v → w'.cell? ⟨g, j, none⟩ = some v := fun j v hj => by
      have e1 : ((x :: xs).take (x :: xs).length).map Value.string = (x :: xs).map Value.string := by rw [List.take_length]
      rw [← e1, ← hc4, List.getElem?_take] at hj
      split at hj
      ·simp only [World.cell?, hcur]
       simpa using hj
      ·cases hj
     have hR : Rd (I.withRow g ((x :: xs).map Value.string)) (.sl ((x :: xs).map fun s => [AV.str s]) false) (.slice (some ⟨g, 0, none⟩) ((x :: xs).map fun s => [AV.str s]).length c) := by
      refine Rd.of_rows (size := 1) (vss := (x :: xs).map fun s => [Value.string s]) false (by rw [hlen]; exact hc1) (fun h => by cases h) ⟨by simp, ?_, ?_, ?_, ?_⟩
      ·intro i e vs e1 e2
       simp only [List.getElem?_map, Option.map_eq_some_iff] at e1 e2
       obtain ⟨y, _, rfl⟩ := e1
       obtain ⟨z, _, rfl⟩ := e2
       exact ⟨rfl, rfl⟩
      ·intro i vs j v e1 e2
       simp only [List.getElem?_map, Option.map_eq_some_iff] at e1
       obtain ⟨y, hy, rfl⟩ := e1
       cases j with
       | zero =>
        simp only [List.getElem?_cons_zero, Option.some.injEq] at e2
        subst e2
        simp only [Imm.withRow, if_true, List.getElem?_map]
        rw [show 0 + i * 1 + 0 = i by omega, hy]; rfl
       | succ j => simp at e2
      ·intro i vs e1
       simp only [List.getElem?_map, Option.map_eq_some_iff] at e1
       obtain ⟨y, _, rfl⟩ := e1
       exact .cons rfl .nil
      ·intro i e vs j c v e1 e2 e3 e4
       simp only [List.getElem?_map, Option.map_eq_some_iff] at e1 e2
       obtain ⟨y, hy, rfl⟩ := e1
       obtain ⟨z, hz, rfl⟩ := e2
       rw [hy] at hz; cases hz
       cases j with
       | zero => simp at e3 e4; subst e3 e4; exact .str _
       | succ j => simp at e3
     refine ⟨_, rfl, I.withRow g ((x :: xs).map Value.string), _, h, ⟨rfl, rfl⟩, ?_, ⟨Imm.le_trans sat.glob hle, fun k o e => (s1.obj k o e).mono hle rfl, fun k o v e => ?_, fun k o v e => ?_⟩, ext_below bl, ⟨hle, fun k o e => .inl (by rw [e]; simp), fun k o v e => ?_⟩⟩
     ·rw [hlen] at hR; exact hR
     ·simp only [Imm.withRow] at e
      split at e
      ·rename_i hk; subst hk; exact hrow o v e
      ·exact s1.imm k o v e
     ·simp only [Imm.withRow] at e
      split at e
      ·rename_i hk; subst hk; rw [hgn]; trivial
      ·exact s1.dis k o v e
     ·simp only [Imm.withRow] at e
      split at e
      ·rename_i hk; subst hk; exact .inr (.inr hg)
      ·exact .inl e
end Pg
