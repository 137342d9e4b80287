import Derived.Test.YtdfbkddelhbgmaaGreatDoorTreeSS2
import Derived.Test.YtdfbkddelhbgmaaGreatDoorLay3S2
import Derived.Test.YtdfbkddelhbgmaaGreatDoorCodeTS2
import Derived.Test.YtdfbkddelhbgmaaGreatDoorNmWS2
namespace Pg
open Go Go.Proofs.Tryz
set_option linter.all false
set_option maxHeartbeats 4000000
set_option maxRecDepth 4000
def Spc0 [GI] : Prop := ∀ c : Nat, c < 256 → GI.imm 0 c = some (.int .u8 (if Go.Lib.isSp (UInt8.ofNat c) then 1 else 0))
def pasText : ByteArray := ⟨#[97, 110, 100, 32, 97, 114, 114, 97, 121, 32, 98, 101, 103, 105, 110, 32, 98, 111, 111, 108, 101, 97, 110, 32, 99, 104, 97, 114, 32, 100, 105, 118, 32, 100, 111, 32, 100, 111, 119, 110, 116, 111, 32, 101, 108, 115, 101, 32, 101, 110, 100, 32, 102, 97, 108, 115, 101, 32, 102, 111, 114, 32, 102, 111, 114, 119, 97, 114, 100, 32, 102, 117, 110, 99, 116, 105, 111, 110, 32, 105, 102, 32, 105, 110, 116, 101, 103, 101, 114, 32, 109, 111, 100, 32, 110, 111, 116, 32, 111, 102, 32, 111, 114, 32, 112, 114, 111, 99, 101, 100, 117, 114, 101, 32, 112, 114, 111, 103, 114, 97, 109, 32, 114, 101, 97, 100, 32, 114, 101, 99, 111, 114, 100, 32, 114, 101, 112, 101, 97, 116, 32, 114, 101, 116, 117, 114, 110, 32, 116, 104, 101, 110, 32, 116, 111, 32, 116, 114, 117, 101, 32, 116, 121, 112, 101, 32, 117, 110, 116, 105, 108, 32, 118, 97, 114, 32, 119, 104, 105, 108, 101, 32, 119, 114, 105, 116, 101]⟩
theorem fields_pas : (Go.Lib.fields pasText.data.toList).map (fun l => (⟨l.toArray⟩ : ByteArray)) = words0 := by decide +kernel
theorem pas_ascii : ∀ b ∈ pasText.data.toList, b.toNat < 128 := by decide +kernel
theorem word_rds (I : Imm) : ∀ l : List ByteArray, Rds I (l.map .str) (l.map .string) ∧ Ones (l.map Value.string)
 | [] => ⟨.nil I, .nil⟩
 | x :: l => ⟨.cons (.str x) (word_rds I l).1, .cons rfl (word_rds I l).2⟩
theorem Fields_spec [GI] (hm : Spc0) (h : AHeap) : ACalls prog 179 [.str pasText] h (fun v g => ∃ b, v = .os b words0.length words0.length ∧ h b = none ∧ g = h.upd b (.blk (words0.map .str) words0.length 9)) := by
 intro I w vs r sat
 obtain ⟨v1, vs1, rfl, r1, r'⟩ := r.uncons
 have := r'.of_nil; subst this
 have := r1.inv_str; subst this
 refine (Go.Proofs.Any.strings_Fields_core (ρ := laysM157_ren) { laysM157 with } (by kernel_rfl) pasText w (by decide +kernel) (fun j b hb => pas_ascii b (List.mem_of_getElem? hb)) (fun c hc => sat.imm _ _ _ (sat.glob _ _ _ (hm c hc)))).mono ?_
 rintro e w' ⟨rfl, rfl⟩
 have e0 : (Go.Lib.fields pasText.data.toList).map (fun l => Value.string ⟨l.toArray⟩) = words0.map Value.string := by rw [← fields_pas, List.map_map]; rfl
 have e1 : (Go.Lib.fields pasText.data.toList).length = words0.length := by rw [← fields_pas, List.length_map]
 rw [e0, e1]
 obtain ⟨q1, q2⟩ := word_rds I words0
 obtain ⟨g1, g2, g3, g4⟩ := alloc_sat sat (.cells (words0.map Value.string).toArray 9) (.blk (words0.map .str) _ 9) (objSat_new 9 q1 q2)
 refine ⟨_, rfl, I, .os w.heap.size words0.length words0.length, _, ⟨w.heap.size, rfl, g1, rfl⟩, .os _ _ _, ?_, ?_, ?_⟩
 ·rw [List.length_map] at g2; exact g2
 ·exact g3
 ·rw [List.length_map] at g4; exact g4
theorem wAll_spec [GI] (hm : Spc0) (h : AHeap) : ACalls prog 149 [.int .i64 0] h (fun v g => ∃ b, v = .os b words0.length words0.length ∧ h b = none ∧ g = h.upd b (.blk (words0.map .str) words0.length 9)) := by
 refine F149.calls (by simp) ?_
 delta F149.c0
 simp only [go_sem,seval]
 refine callT_of (Fields_spec hm h) fun v g ⟨b, hv, hb, hg⟩ => ?_
 subst hv hg
 simp only [go_sem,seval]
 exact .same ⟨b, rfl, hb, rfl⟩
theorem isNaN_spec [GI] (h : AHeap) (s : ByteArray) : ACalls prog 178 [.str s] h (fun v g => v = .bool false ∧ g = h) := by
 refine F178.calls (by simp) ?_
 delta F178.c0
 simp only [go_sem,seval]
 exact .same ⟨by simp, rfl⟩
theorem cisNaN_spec [GI] (h : AHeap) (s : ByteArray) : ACalls prog 193 [.str s] h (fun v g => v = .bool false ∧ g = h) := by
 refine F193.calls (by simp) ?_
 delta F193.c0
 simp only [go_sem,seval]
 exact .same ⟨by simp, rfl⟩
theorem Less_spec [GI] (h : AHeap) (s t : ByteArray) : ACalls prog 177 [.str s, .str t] h (fun v g => (∃ b, v = .bool b) ∧ g = h) := by
 refine F177.calls (by simp) ?_
 delta F177.c0
 simp only [go_sem,seval]
 refine tcE (cisNaN_spec h s) ?_
 simp only [go_sem,seval]
 exact .same ⟨⟨_, rfl⟩, rfl⟩
theorem half_conv {a : Nat} (h : a < 1048576) : IntKind.i64.wrap ((IntKind.u64.wrap (a : Int)).fdiv 2) = ((a / 2 : Nat) : Int) := by
 have e : IntKind.u64.wrap (a : Int) = a := by unfold IntKind.wrap; simp [IntKind.signed, IntKind.bits]; omega
 rw [e, show (a : Int).fdiv 2 = ((a / 2 : Nat) : Int) by simp [Int.fdiv_eq_ediv]]
 exact wrap64 (by omega) (by omega)
theorem Search_none [GI] (h : AHeap) (b : Nat) (l : List ByteArray) (s : ByteArray) (hb : h b = some (.blk (l.map .str) l.length 9)) (hl : l.length < 1024) (hs : s ∉ l) : ACalls prog 148 [.os b l.length l.length, .str s] h (fun v g => (∃ i, v = .tuple [.int .i64 i, .bool false]) ∧ g = h) := by
 refine F148.calls (by simp) ?_
 delta F148.c0
 simp only [go_sem,seval]
 refine lT_inv2 (fun n e k => k = h ∧ ∃ i j : Nat, n = j - i ∧ i ≤ j ∧ j ≤ l.length ∧ e = [(0, .os b l.length l.length), (1, .str s), (6, .int .i64 l.length), (7, .int .i64 i), (8, .int .i64 j)]) l.length (WeakE.env ?_) ⟨rfl, 0, l.length, rfl, by omega, by omega, rfl⟩ ?_
 ·simp only [go_sem,seval]
 ·rintro n e k ⟨rfl, i, j, rfl, hij, hj, rfl⟩
  by_cases hlt : (i : Int) < j
  ·have hw : IntKind.i64.wrap ((i : Int) + j) = ((i + j : Nat) : Int) := by rw [wrap64 (by omega) (by omega)]; omega
   have hh := half_conv (a := i + j) (by omega)
   generalize hmid : (i + j) / 2 = m at hh
   have hm : m < l.length := by omega
   have ha : aia 1 (.os b l.length l.length) (.int .i64 (m : Int)) = some (.ptr (some ⟨b, m * 1, none⟩)) := by simp [aia, hm]
   have hat : (l.map AV.str)[m * 1]? = some (.str l[m]) := by simp [hm]
   simp only [go_sem,seval, hlt, hw, hh, ha, hb, hat]
   refine callT_of (Less_spec _ _ _) fun v g ⟨⟨c, hv⟩, hg⟩ => ?_
   subst hv hg
   cases c with
   | true =>
    have hw1 : IntKind.i64.wrap ((m : Int) + 1) = ((m + 1 : Nat) : Int) := by rw [wrap64 (by omega) (by omega)]; omega
    simp only [go_sem,seval, hw1]
    refine ⟨_, _, _, ?_, WeakE.env ?_, rfl, m + 1, j, rfl, by omega, hj, rfl⟩
    ·omega
    ·simp only [go_sem,seval]
   | false =>
    simp only [go_sem,seval]
    refine ⟨_, _, _, ?_, WeakE.env ?_, rfl, i, m, rfl, by omega, by omega, rfl⟩
    ·omega
    ·simp only [go_sem,seval]
  ·simp only [go_sem,seval, hlt]
   refine lessQ.same ?_
   by_cases h2 : (i : Int) < l.length
   ·have hi : i < l.length := by omega
    have ha : aia 1 (.os b l.length l.length) (.int .i64 (i : Int)) = some (.ptr (some ⟨b, i * 1, none⟩)) := by simp [aia, hi]
    have hat : (l.map AV.str)[i * 1]? = some (.str l[i]) := by simp [hi]
    have hne : (l[i] = s) = False := by simp; rintro rfl; exact hs (List.getElem_mem hi)
    simp only [go_sem,seval, h2, ha, hb, hat, hne]
    refine tcE (isNaN_spec _ _) ?_
    simp only [go_sem,seval]
    exact .same ⟨⟨_, rfl⟩, rfl⟩
   ·simp only [go_sem,seval, h2]
    exact .same ⟨⟨_, rfl⟩, rfl⟩
theorem not_among {s : ByteArray} (h : among s words0 = false) : s ∉ words0 := by
 intro hm
 have : among s words0 = true := List.any_eq_true.2 ⟨s, hm, by simp⟩
 rw [h] at this; cases this
theorem wIs_spec [GI] (hm : Spc0) (h : AHeap) (s : ByteArray) (hs : among s words0 = false) : ACalls prog 102 [.int .i64 0, .str s] h (fun v g => v = .bool false ∧ g = h) := by
 refine F102.calls (by simp) ?_
 delta F102.c0
 simp only [go_sem,seval]
 refine callT_of (wAll_spec hm h) fun v g ⟨b, hv, hb, hg⟩ => ?_
 subst hv hg
 simp only [go_sem,seval]
 have hl : (words0.map AV.str).length = words0.length := List.length_map ..
 refine callT_of (Search_none _ b words0 s (upd_same _ _ _) (by decide +kernel) (not_among hs)) fun v g ⟨⟨i, hv⟩, hg⟩ => ?_
 subst hv hg
 simp only [go_sem,seval]
 exact .forget (AHeap.le_upd hb) ⟨rfl, rfl⟩
theorem wletter_spec [GI] (h : AHeap) (c : Nat) (f : Bool) : ACalls prog 147 [.int .u8 (c : Int), .bool f] h (fun v g => v = .bool (letter c f) ∧ g = h) := by
 refine F147.calls (by simp) ?_
 delta F147.c0
 cases f
 all_goals
  simp only [go_sem,seval]
  repeat' (refine agateT_split (fun hg => ?_) (fun hg => ?_) <;> simp only [go_sem,seval, hg, Bool.not_true, Bool.not_false])
  all_goals
   refine .same ⟨?_, rfl⟩
   congr 1
   try simp only [Bool.not_true, Bool.not_false, decide_eq_true_eq, decide_eq_false_iff_not] at *
   try rw [Bool.eq_iff_iff]
   try simp [letter]
   try omega
theorem nameCode_alt {s : ByteArray} (he : s ≠ noBytes) (hl : letters true (bytes s) = true) : nameCode s = if 32 < s.size then 3 else 0 := by simp [nameCode, he, hl]
theorem wCheck_spec [GI] (h : AHeap) (s : ByteArray) (hs : short s) : ACalls prog 101 [.str s] h (fun v g => v = .int .i64 (nameCode s) ∧ g = h) := by
 refine F101.calls (by simp) ?_
 delta F101.c0
 simp only [go_sem,seval]
 refine lT_list (bytes s) (fun pre post e g => (letters true (bytes s) = letters (decide (pre.length = 0)) post ∧ g = h) ∧ e = [(0, .str s), (5, .int .i64 s.size), (6, .int .i64 pre.length)]) (WeakE.env ?_) ⟨⟨rfl, rfl⟩, rfl⟩ ?_ ?_
 ·simp only [go_sem,seval]
 ·rintro pre c post e g hp ⟨⟨hl, rfl⟩, rfl⟩
  have hz : (decide ((pre.length : Int) = 0)) = decide (pre.length = 0) := by congr 1; simp
  simp only [go_sem,seval, six_lt hp, six_at hp, hz]
  refine tcE (wletter_spec g c.toNat (decide (pre.length = 0))) ?_
  simp only [go_sem,seval]
  cases hc : letter c.toNat (decide (pre.length = 0)) with
  | true =>
   simp only [go_sem,seval]
   refine ⟨_, _, WeakE.env ?_, ⟨?_, rfl⟩, rfl⟩
   ·simp only [go_sem,seval, step_at (few_bytes hs) hp]
   ·have hz2 : decide ((pre ++ [c]).length = 0) = false := by simp
    rw [hl, hz2]; simp only [letters, hc, Bool.true_and]
  | false =>
   simp only [go_sem,seval]
   refine lessQ.same ?_
   simp only [go_sem,seval]
   have hf : letters true (bytes s) = false := by rw [hl]; simp only [letters, hc, Bool.false_and]
   have he : s ≠ noBytes := by
    rintro rfl
    rw [show bytes noBytes = [] from rfl] at hp
    simp at hp
   exact .same ⟨by simp [nameCode, he, hf], rfl⟩
 ·rintro e g ⟨⟨hl, rfl⟩, rfl⟩
  simp only [go_sem,seval, six_end]
  refine lessQ.same ?_
  have hl' : letters true (bytes s) = true := by rw [hl]; rfl
  by_cases he : s = noBytes
  ·subst he
   simp only [go_sem,seval]
   exact .same ⟨rfl, rfl⟩
  ·have he' : (s = (⟨#[]⟩ : ByteArray)) = False := by simpa using he
   by_cases h32 : (s.size : Int) > 32
   ·have h32' : ((s.size : Int) > 32) = True := by simpa using h32
    simp only [go_sem,seval, he', h32']
    exact .same ⟨by rw [nameCode_alt he hl', if_pos (by omega)], rfl⟩
   ·have h32' : ((s.size : Int) > 32) = False := by simpa using h32
    simp only [go_sem,seval, he', h32']
    exact .same ⟨by rw [nameCode_alt he hl', if_neg (by omega)], rfl⟩
theorem tcname_spec [GI] (hm : Spc0) (h : AHeap) (s : ByteArray) (hs : tName s = true) : ACalls prog 63 [.agg [.int .i64 0], .str s] h (fun v g => v = .bool true ∧ g = h) := by
 simp only [tName, Bool.and_eq_true, decide_eq_true_eq, Bool.not_eq_true'] at hs
 have hsh : short s := by
  unfold short
  have : ¬ 32 < s.size := by
   intro h32
   have := hs.1
   unfold nameCode at this
   split at this
   ·cases this
   ·split at this
    ·exact absurd this (by decide)
    ·cases this
  have e : s.size = s.data.size := rfl
  omega
 refine F63.calls (by simp) ?_
 delta F63.c0
 simp only [go_sem,seval]
 refine tcE (wCheck_spec h s hsh) ?_
 simp only [go_sem,seval, hs.1]
 refine tcE (wIs_spec hm h s hs.2) ?_
 simp only [go_sem,seval]
 exact .same ⟨rfl, rfl⟩
