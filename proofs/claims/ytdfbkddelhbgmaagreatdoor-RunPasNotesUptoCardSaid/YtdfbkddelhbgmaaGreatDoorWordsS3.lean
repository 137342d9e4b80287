import Derived.Test.YtdfbkddelhbgmaaGreatDoorTreeSS3
import Derived.Test.YtdfbkddelhbgmaaGreatDoorLay3S3
import Derived.Test.YtdfbkddelhbgmaaGreatDoorCodeTS3
import Derived.Test.YtdfbkddelhbgmaaGreatDoorNmWS3
namespace Pg
open Go Go.Proofs.Tryz
set_option linter.all false
set_option maxHeartbeats 4000000
set_option maxRecDepth 4000
def Spc0 [GI] : Prop := ∀ c : Nat, c < 256 → GI.imm 0 c = some (.int .u8 (if Go.Lib.isSp (UInt8.ofNat c) then 1 else 0))
def wG : ByteArray := ⟨#[97, 110, 100, 32, 97, 114, 114, 97, 121, 32, 98, 101, 103, 105, 110, 32, 98, 111, 111, 108, 101, 97, 110, 32, 99, 104, 97, 114, 32, 100, 105, 118, 32, 100, 111, 32, 100, 111, 119, 110, 116, 111, 32, 101, 108, 115, 101, 32, 101, 110, 100, 32, 102, 97, 108, 115, 101, 32, 102, 111, 114, 32, 102, 111, 114, 119, 97, 114, 100, 32, 102, 117, 110, 99, 116, 105, 111, 110, 32, 105, 102, 32, 105, 110, 116, 101, 103, 101, 114, 32, 109, 111, 100, 32, 110, 111, 116, 32, 111, 102, 32, 111, 114, 32, 112, 114, 111, 99, 101, 100, 117, 114, 101, 32, 112, 114, 111, 103, 114, 97, 109, 32, 114, 101, 97, 100, 32, 114, 101, 99, 111, 114, 100, 32, 114, 101, 112, 101, 97, 116, 32, 114, 101, 116, 117, 114, 110, 32, 116, 104, 101, 110, 32, 116, 111, 32, 116, 114, 117, 101, 32, 116, 121, 112, 101, 32, 117, 110, 116, 105, 108, 32, 118, 97, 114, 32, 119, 104, 105, 108, 101, 32, 119, 114, 105, 116, 101]⟩
theorem KJ : (Go.Lib.fields wG.data.toList).map (fun l => (⟨l.toArray⟩ : ByteArray)) = words0 := by decide +kernel
theorem aA5 : ∀ b ∈ wG.data.toList, b.toNat < 128 := by decide +kernel
theorem HO (I : Imm) : ∀ l : List ByteArray, Rds I (l.map .str) (l.map .string) ∧ cV (l.map Value.string)
 | [] => ⟨.nil I, .nil⟩
 | x :: l => ⟨.cons (.str x) (HO I l).1, .cons rfl (HO I l).2⟩
theorem VF [GI] (hm : Spc0) (h : AHeap) : aD prog 179 [.str wG] h (fun v g => ∃ b, v = .os b words0.length words0.length ∧ h b = none ∧ g = h.upd b (.blk (words0.map .str) words0.length 9)) := by
 intro I w vs r sat
 obtain ⟨v1, vs1, rfl, r1, r'⟩ := r.dN
 have := r'.of_nil; subst this
 have := r1.mN; subst this
 refine (Go.Proofs.Any.strings_Fields_core (ρ := D5) { aCF with } (by kernel_rfl) wG w (by decide +kernel) (fun j b hb => aA5 b (List.mem_of_getElem? hb)) (fun c hc => sat.imm _ _ _ (sat.pD _ _ _ (hm c hc)))).mono ?_
 rintro e w' ⟨rfl, rfl⟩
 have e0 : (Go.Lib.fields wG.data.toList).map (fun l => Value.string ⟨l.toArray⟩) = words0.map Value.string := by rw [← KJ, List.map_map]; rfl
 have e1 : (Go.Lib.fields wG.data.toList).length = words0.length := by rw [← KJ, List.length_map]
 rw [e0, e1]
 obtain ⟨q1, q2⟩ := HO I words0
 obtain ⟨g1, g2, g3, g4⟩ := lQ sat (.cells (words0.map Value.string).toArray 9) (.blk (words0.map .str) _ 9) (sI 9 q1 q2)
 refine ⟨_, rfl, I, .os w.heap.size words0.length words0.length, _, ⟨w.heap.size, rfl, g1, rfl⟩, .os _ _ _, ?_, ?_, ?_⟩
 ·rw [List.length_map] at g2; exact g2
 ·exact g3
 ·rw [List.length_map] at g4; exact g4
theorem Z4 [GI] (hm : Spc0) (h : AHeap) : aD prog 149 [.int .i64 0] h (fun v g => ∃ b, v = .os b words0.length words0.length ∧ h b = none ∧ g = h.upd b (.blk (words0.map .str) words0.length 9)) := by
 refine ZY.calls (by simp) ?_
 delta ZY.c0
 simp only [go_sem,seval]
 refine aW (VF hm h) fun v g ⟨b, hv, hb, hg⟩ => ?_
 subst hv hg
 simp only [go_sem,seval]
 exact .same ⟨b, rfl, hb, rfl⟩
theorem YX [GI] (h : AHeap) (s : ByteArray) : aD prog 178 [.str s] h (fun v g => v = .bool false ∧ g = h) := by
 refine R7.calls (by simp) ?_
 delta R7.c0
 simp only [go_sem,seval]
 exact .same ⟨by simp, rfl⟩
theorem UY [GI] (h : AHeap) (s : ByteArray) : aD prog 193 [.str s] h (fun v g => v = .bool false ∧ g = h) := by
 refine RW.calls (by simp) ?_
 delta RW.c0
 simp only [go_sem,seval]
 exact .same ⟨by simp, rfl⟩
theorem aBM [GI] (h : AHeap) (s t : ByteArray) : aD prog 177 [.str s, .str t] h (fun v g => (∃ b, v = .bool b) ∧ g = h) := by
 refine R8.calls (by simp) ?_
 delta R8.c0
 simp only [go_sem,seval]
 refine tcE (UY h s) ?_
 simp only [go_sem,seval]
 exact .same ⟨⟨_, rfl⟩, rfl⟩
theorem aBn {a : Nat} (h : a < 1048576) : IntKind.i64.wrap ((IntKind.u64.wrap (a : Int)).fdiv 2) = ((a / 2 : Nat) : Int) := by
 have e : IntKind.u64.wrap (a : Int) = a := by unfold IntKind.wrap; simp [IntKind.signed, IntKind.bits]; omega
 rw [e, show (a : Int).fdiv 2 = ((a / 2 : Nat) : Int) by simp [Int.fdiv_eq_ediv]]
 exact wrap64 (by omega) (by omega)
theorem VB [GI] (h : AHeap) (b : Nat) (l : List ByteArray) (s : ByteArray) (hb : h b = some (.blk (l.map .str) l.length 9)) (hl : l.length < 1024) (hs : s ∉ l) : aD prog 148 [.os b l.length l.length, .str s] h (fun v g => (∃ i, v = .tuple [.int .i64 i, .bool false]) ∧ g = h) := by
 refine SU.calls (by simp) ?_
 delta SU.c0
 simp only [go_sem,seval]
 refine qE (fun n e k => k = h ∧ ∃ i j : Nat, n = j - i ∧ i ≤ j ∧ j ≤ l.length ∧ e = [(0, .os b l.length l.length), (1, .str s), (6, .int .i64 l.length), (7, .int .i64 i), (8, .int .i64 j)]) l.length (aF.env ?_) ⟨rfl, 0, l.length, rfl, by omega, by omega, rfl⟩ ?_
 ·simp only [go_sem,seval]
 ·rintro n e k ⟨rfl, i, j, rfl, hij, hj, rfl⟩
  by_cases hlt : (i : Int) < j
  ·have hw : IntKind.i64.wrap ((i : Int) + j) = ((i + j : Nat) : Int) := by rw [wrap64 (by omega) (by omega)]; omega
   have hh := aBn (a := i + j) (by omega)
   generalize hmid : (i + j) / 2 = m at hh
   have hm : m < l.length := by omega
   have ha : aia 1 (.os b l.length l.length) (.int .i64 (m : Int)) = some (.ptr (some ⟨b, m * 1, none⟩)) := by simp [aia, hm]
   have hat : (l.map AV.str)[m * 1]? = some (.str l[m]) := by simp [hm]
   simp only [go_sem,seval, hlt, hw, hh, ha, hb, hat]
   refine aW (aBM _ _ _) fun v g ⟨⟨c, hv⟩, hg⟩ => ?_
   subst hv hg
   cases c with
   | true =>
    have hw1 : IntKind.i64.wrap ((m : Int) + 1) = ((m + 1 : Nat) : Int) := by rw [wrap64 (by omega) (by omega)]; omega
    simp only [go_sem,seval, hw1]
    refine ⟨_, _, _, ?_, aF.env ?_, rfl, m + 1, j, rfl, by omega, hj, rfl⟩
    ·omega
    ·simp only [go_sem,seval]
   | false =>
    simp only [go_sem,seval]
    refine ⟨_, _, _, ?_, aF.env ?_, rfl, i, m, rfl, by omega, by omega, rfl⟩
    ·omega
    ·simp only [go_sem,seval]
  ·simp only [go_sem,seval, hlt]
   refine aM.same ?_
   by_cases h2 : (i : Int) < l.length
   ·have hi : i < l.length := by omega
    have ha : aia 1 (.os b l.length l.length) (.int .i64 (i : Int)) = some (.ptr (some ⟨b, i * 1, none⟩)) := by simp [aia, hi]
    have hat : (l.map AV.str)[i * 1]? = some (.str l[i]) := by simp [hi]
    have hne : (l[i] = s) = False := by simp; rintro rfl; exact hs (List.getElem_mem hi)
    simp only [go_sem,seval, h2, ha, hb, hat, hne]
    refine tcE (YX _ _) ?_
    simp only [go_sem,seval]
    exact .same ⟨⟨_, rfl⟩, rfl⟩
   ·simp only [go_sem,seval, h2]
    exact .same ⟨⟨_, rfl⟩, rfl⟩
theorem aA9 {s : ByteArray} (h : fY s words0 = false) : s ∉ words0 := by
 intro hm
 have : fY s words0 = true := List.any_eq_true.2 ⟨s, hm, by simp⟩
 rw [h] at this; cases this
theorem aBV [GI] (hm : Spc0) (h : AHeap) (s : ByteArray) (hs : fY s words0 = false) : aD prog 102 [.int .i64 0, .str s] h (fun v g => v = .bool false ∧ g = h) := by
 refine TY.calls (by simp) ?_
 delta TY.c0
 simp only [go_sem,seval]
 refine aW (Z4 hm h) fun v g ⟨b, hv, hb, hg⟩ => ?_
 subst hv hg
 simp only [go_sem,seval]
 have hl : (words0.map AV.str).length = words0.length := List.length_map ..
 refine aW (VB _ b words0 s (aA _ _ _) (by decide +kernel) (aA9 hs)) fun v g ⟨⟨i, hv⟩, hg⟩ => ?_
 subst hv hg
 simp only [go_sem,seval]
 exact .forget (AHeap.b8 hb) ⟨rfl, rfl⟩
theorem O0 [GI] (h : AHeap) (c : Nat) (f : Bool) : aD prog 147 [.int .u8 (c : Int), .bool f] h (fun v g => v = .bool (letter c f) ∧ g = h) := by
 refine SV.calls (by simp) ?_
 delta SV.c0
 cases f
 all_goals
  simp only [go_sem,seval]
  repeat' (refine cP (fun hg => ?_) (fun hg => ?_) <;> simp only [go_sem,seval, hg, Bool.not_true, Bool.not_false])
  all_goals
   refine .same ⟨?_, rfl⟩
   congr 1
   try simp only [Bool.not_true, Bool.not_false, decide_eq_true_eq, decide_eq_false_iff_not] at *
   try rw [Bool.eq_iff_iff]
   try simp [letter]
   try omega
theorem D3 {s : ByteArray} (he : s ≠ noBytes) (hl : gK true (bytes s) = true) : jY s = if 32 < s.size then 3 else 0 := by simp [jY, he, hl]
theorem T6 [GI] (h : AHeap) (s : ByteArray) (hs : short s) : aD prog 101 [.str s] h (fun v g => v = .int .i64 (jY s) ∧ g = h) := by
 refine TZ.calls (by simp) ?_
 delta TZ.c0
 simp only [go_sem,seval]
 refine aX (bytes s) (fun pre post e g => (gK true (bytes s) = gK (decide (pre.length = 0)) post ∧ g = h) ∧ e = [(0, .str s), (5, .int .i64 s.size), (6, .int .i64 pre.length)]) (aF.env ?_) ⟨⟨rfl, rfl⟩, rfl⟩ ?_ ?_
 ·simp only [go_sem,seval]
 ·rintro pre c post e g hp ⟨⟨hl, rfl⟩, rfl⟩
  have hz : (decide ((pre.length : Int) = 0)) = decide (pre.length = 0) := by congr 1; simp
  simp only [go_sem,seval, PF hp, sE hp, hz]
  refine tcE (O0 g c.toNat (decide (pre.length = 0))) ?_
  simp only [go_sem,seval]
  cases hc : letter c.toNat (decide (pre.length = 0)) with
  | true =>
   simp only [go_sem,seval]
   refine ⟨_, _, aF.env ?_, ⟨?_, rfl⟩, rfl⟩
   ·simp only [go_sem,seval, aQ (ED hs) hp]
   ·have hz2 : decide ((pre ++ [c]).length = 0) = false := by simp
    rw [hl, hz2]; simp only [gK, hc, Bool.true_and]
  | false =>
   simp only [go_sem,seval]
   refine aM.same ?_
   simp only [go_sem,seval]
   have hf : gK true (bytes s) = false := by rw [hl]; simp only [gK, hc, Bool.false_and]
   have he : s ≠ noBytes := by
    rintro rfl
    rw [show bytes noBytes = [] from rfl] at hp
    simp at hp
   exact .same ⟨by simp [jY, he, hf], rfl⟩
 ·rintro e g ⟨⟨hl, rfl⟩, rfl⟩
  simp only [go_sem,seval, LS]
  refine aM.same ?_
  have hl' : gK true (bytes s) = true := by rw [hl]; rfl
  by_cases he : s = noBytes
  ·subst he
   simp only [go_sem,seval]
   exact .same ⟨rfl, rfl⟩
  ·have he' : (s = (⟨#[]⟩ : ByteArray)) = False := by simpa using he
   by_cases h32 : (s.size : Int) > 32
   ·have h32' : ((s.size : Int) > 32) = True := by simpa using h32
    simp only [go_sem,seval, he', h32']
    exact .same ⟨by rw [D3 he hl', if_pos (by omega)], rfl⟩
   ·have h32' : ((s.size : Int) > 32) = False := by simpa using h32
    simp only [go_sem,seval, he', h32']
    exact .same ⟨by rw [D3 he hl', if_neg (by omega)], rfl⟩
theorem fL [GI] (hm : Spc0) (h : AHeap) (s : ByteArray) (hs : dK s = true) : aD prog 63 [.agg [.int .i64 0], .str s] h (fun v g => v = .bool true ∧ g = h) := by
 simp only [dK, Bool.and_eq_true, decide_eq_true_eq, Bool.not_eq_true'] at hs
 have hsh : short s := by
  unfold short
  have : ¬ 32 < s.size := by
   intro h32
   have := hs.1
   unfold jY at this
   split at this
   ·cases this
   ·split at this
    ·exact absurd this (by decide)
    ·cases this
  have e : s.size = s.data.size := rfl
  omega
 refine F63.calls (by simp) ?_
 delta F63.c0
 simp only [go_sem,seval]
 refine tcE (T6 h s hsh) ?_
 simp only [go_sem,seval, hs.1]
 refine tcE (aBV hm h s hs.2) ?_
 simp only [go_sem,seval]
 exact .same ⟨rfl, rfl⟩
