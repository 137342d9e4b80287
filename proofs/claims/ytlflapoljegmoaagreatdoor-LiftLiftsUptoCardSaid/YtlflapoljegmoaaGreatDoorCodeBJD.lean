import Derived.Test.YtlflapoljegmoaaGreatDoorK4D
import Derived.Test.YtlflapoljegmoaaGreatDoorProg
import Derived.KernelRfl
namespace Pg
open Go
set_option linter.all false
theorem aia_os1 {b n c i : Nat} {k : IntKind} (h : i < n) : aia 1 (.os b n c) (.int k i) = some (.ptr (some ⟨b, i, none⟩)) := by
 simp only [aia]; rw [if_pos ⟨by omega, by exact_mod_cast h⟩]; simp
theorem splice_one {cs : List AV} {i : Nat} (h : i < cs.length) (v : AV) : splice cs i [v] = cs.set i v := by
 rw [List.set_eq_take_append_cons_drop, if_pos h]; simp [splice]
theorem EndW.own [GI] {K : AV → AHeap → Prop} {b n cap total size : Nat} {ty : TypeId} {es : List (List AV)} {cs : List AV} {h : AHeap} (hn : n = es.length) (hb : h b = some (.blk cs total ty)) (hcs : es.flatten = cs.take (es.length * size)) (hs : ∀ e ∈ es, e.length = size) (hc : es.length ≤ cap) (k : K (.sl es false) (h.del b)) : EndW K (.os b n cap) h := by
 subst hn
 refine ⟨_, _, ?_, k⟩
 intro I w us r s
 obtain ⟨J, n, s', hv⟩ := freeze_sat s hb hcs hs
 obtain ⟨u, us', rfl, r1, r2⟩ := r.uncons
 have := r2.of_nil; subst this
 have := r1.inv_os; subst this
 exact ⟨J, n, .cons (hv cap hc) (.nil J), s'⟩
theorem WeakE.own [GI] {e : Env} {b n cap total size : Nat} {ty : TypeId} {es : List (List AV)} {cs : List AV} {h : AHeap} (s : Nat) (hv : e.get s = .os b n cap) (hb : h b = some (.blk cs total ty)) (hcs : es.flatten = cs.take (es.length * size)) (hs : ∀ e ∈ es, e.length = size) (hn : n = es.length) (hc : es.length ≤ cap) : WeakE e h [(s, .sl es false)] (h.del b) := by
 subst hn
 intro I w N tmps es sat
 obtain ⟨J, n, s', hr⟩ := freeze_sat sat hb hcs hs
 have h1 := es.at_ s
 rw [hv] at h1
 have h2 := h1.inv_os
 refine ⟨J, n, ⟨es.size, fun t => ?_⟩, s'⟩
 simp only [Env.get]
 split
 ·rename_i ht
  subst ht
  rw [h2]; exact hr cap hc
 ·exact .any _
theorem EndW.heap [GI] {K : AV → AHeap → Prop} {v : AV} {g g' : AHeap} (le : HeapLe g g') (k : EndW K v g') : EndW K v g := by
 obtain ⟨v', g'', wk, k⟩ := k
 exact ⟨v', g'', WeakV.trans (fun I w us r s => ⟨I, le.new w I, r, le.sat s⟩) wk, k⟩
theorem flat_one : ∀ (cs : List AV), (cs.map fun x => [x]).flatten = cs
 | [] => rfl
 | x :: r => by simp [flat_one r]
theorem mkslT_intro {h : AHeap} {ty : TypeId} {b n : Nat} {z : AV} {K : AV → AHeap → Tok → Prop} (h0 : b * n ≤ 2 ^ 48) (hn : n ≤ 2 ^ 62) (k : ∀ ob, h ob = none → K (.os ob n n) (h.upd ob (.blk (List.replicate n z) n ty)) .go) : mkslT .go h ty b z (.int .i64 (n : Int)) (.int .i64 (n : Int)) K := by
 show (n : Int) = n ∧ 0 ≤ (n : Int) ∧ (n : Int) ≤ 9223372036854775807 ∧ (b : Int) * n ≤ 2 ^ 48 ∧ afreshT .go h fun ob t => K (.os ob (n : Int).toNat (n : Int).toNat) (h.upd ob (.blk (List.replicate (n : Int).toNat z) (n : Int).toNat ty)) t
 rw [Int.toNat_natCast]
 exact ⟨rfl, by omega, by omega, by exact_mod_cast h0, k⟩
end Pg

namespace Pg
open Go Go.Proofs.Tryz
set_option maxRecDepth 100000
set_option maxHeartbeats 4000000
noncomputable def F15.c0 : CodeT prog 12 [1] [] f15 := ⟨_, by with_unfolding_all (conv => lhs; reduce)⟩
theorem F15.calls [GI] : CallsT prog 15 12 F15.c0.1 [.tmp 2] := acallsT _ _ _ func15 ntmps15 F15.c0.2 (by kernel_rfl)
end Pg

namespace Pg
open Go
set_option linter.all false
theorem AVle.rows {es es' : List (List AV)} {f : Bool} (hl : es.length = es'.length) (h : ∀ (i : Nat) e e', es[i]? = some e → es'[i]? = some e' → e.length = e'.length ∧ AVles e e') : AVle (.sl es f) (.sl es' false) := by
 intro I v r
 obtain ⟨a, cap, rfl, h1, h2, h3, h4, h5⟩ := r.inv_sl
 rcases h5 with h5 | ⟨b, o, size, vss, rfl, R⟩
 ·subst h5
  have : es' = [] := by simpa using hl.symm
  subst this
  exact r.sl_open
 ·have get : ∀ (i : Nat) e', es'[i]? = some e' → ∃ e, es[i]? = some e := fun i e' e1 => ⟨_, List.getElem?_eq_getElem (by
   rw [hl]
   rcases Nat.lt_or_ge i es'.length with h | h
   ·exact h
   ·rw [List.getElem?_eq_none h] at e1; cases e1)⟩
  rw [hl] at h1 ⊢
  refine Rd.of_rows (es := es') (vss := vss) false h1 (fun h => by cases h) ⟨by rw [← R.len]; exact hl.symm, ?_, fun i vs j v e1 e2 => R.mem i vs j v e1 e2, R.one, ?_⟩
  ·intro i e' vs e1 e2
   obtain ⟨e, he⟩ := get i e' e1
   have := R.size_ i e vs he e2
   exact ⟨by rw [← (h i e e' he e1).1]; exact this.1, this.2⟩
  ·intro i e' vs j c v e1 e2 e3 e4
   obtain ⟨e, he⟩ := get i e' e1
   have hs := R.size_ i e vs he e2
   exact ((h i e e' he e1).2 I vs ⟨by rw [hs.1, hs.2], fun j c v e3 e4 => R.rd i e vs j c v he e2 e3 e4⟩).at_ j c v e3 e4
theorem AVle.row1 {x y : List AV} {f : Bool} (hl : x.length = y.length) (h : AVles x y) : AVle (.sl [x] f) (.sl [y] false) := by
 refine AVle.rows rfl fun i e e' h1 h2 => ?_
 cases i with
 | zero => simp at h1 h2; subst h1 h2; exact ⟨hl, h⟩
 | succ i => simp at h1
end Pg

namespace Pg
open Go Go.Proofs.Tryz
set_option maxRecDepth 100000
set_option maxHeartbeats 4000000
noncomputable def F48.c0 : CodeT prog 22 [] [] f48 := ⟨_, by with_unfolding_all (conv => lhs; reduce)⟩
theorem F48.calls [GI] : CallsT prog 48 22 F48.c0.1 [.tmp 2] := acallsT _ _ _ func48 ntmps48 F48.c0.2 (by kernel_rfl)
noncomputable def F72.c0 : CodeT prog 25 [] [] f72 := ⟨_, by with_unfolding_all (conv => lhs; reduce)⟩
theorem F72.calls [GI] : CallsT prog 72 25 F72.c0.1 [.tmp 4] := acallsT _ _ _ func72 ntmps72 F72.c0.2 (by kernel_rfl)
noncomputable def F49.c0 : CodeT prog 9 [] [] f49 := ⟨_, by with_unfolding_all (conv => lhs; reduce)⟩
theorem F49.calls [GI] : CallsT prog 49 9 F49.c0.1 [.tmp 4] := acallsT _ _ _ func49 ntmps49 F49.c0.2 (by kernel_rfl)
noncomputable def F17.c0 : CodeT prog 18 [] [] f17 := ⟨_, by with_unfolding_all (conv => lhs; reduce)⟩
theorem F17.calls [GI] : CallsT prog 17 18 F17.c0.1 [.tmp 4] := acallsT _ _ _ func17 ntmps17 F17.c0.2 (by kernel_rfl)
def F73.c0 : RCode := .seq (.reg [qr 2 (.mv (.c (.sl [] true)))]) (.seq (.seq (.reg [qr 3 (.mv (.t 0))]) (.block 0 (.seq (.reg [qr 5 (.bin .eql (.t 3) (.c (.int .i64 0))),qr 4 (.mv (.t 5))]) (.cond (.t 4) (.seq (.reg [qr 6 (.bsl 1 34 [.str ⟨#[]⟩,.str ⟨#[]⟩,.str ⟨#[]⟩,.str ⟨#[]⟩,.str ⟨#[]⟩,.str ⟨#[]⟩,.str ⟨#[]⟩,.str ⟨#[]⟩,.str ⟨#[]⟩,.str ⟨#[]⟩,.str ⟨#[]⟩,.str ⟨#[]⟩,.str ⟨#[]⟩,.str ⟨#[]⟩,.str ⟨#[]⟩,.str ⟨#[]⟩,.str ⟨#[]⟩,.str ⟨#[]⟩,.str ⟨#[]⟩,.str ⟨#[]⟩,.str ⟨#[]⟩,.str ⟨#[]⟩,.str ⟨#[]⟩,.str ⟨#[]⟩,.str ⟨#[]⟩,.str ⟨#[]⟩,.str ⟨#[]⟩,.str ⟨#[]⟩,.str ⟨#[]⟩,.str ⟨#[]⟩,.str ⟨#[]⟩,.str ⟨#[]⟩,.str ⟨#[]⟩,.str ⟨#[]⟩] [(0,1,(.c (.str ⟨#[97,110,100]⟩))),(1,1,(.c (.str ⟨#[97,114,114,97,121]⟩))),(2,1,(.c (.str ⟨#[98,101,103,105,110]⟩))),(3,1,(.c (.str ⟨#[98,111,111,108,101,97,110]⟩))),(4,1,(.c (.str ⟨#[99,104,97,114]⟩))),(5,1,(.c (.str ⟨#[100,105,118]⟩))),(6,1,(.c (.str ⟨#[100,111]⟩))),(7,1,(.c (.str ⟨#[100,111,119,110,116,111]⟩))),(8,1,(.c (.str ⟨#[101,108,115,101]⟩))),(9,1,(.c (.str ⟨#[101,110,100]⟩))),(10,1,(.c (.str ⟨#[102,97,108,115,101]⟩))),(11,1,(.c (.str ⟨#[102,111,114]⟩))),(12,1,(.c (.str ⟨#[102,111,114,119,97,114,100]⟩))),(13,1,(.c (.str ⟨#[102,117,110,99,116,105,111,110]⟩))),(14,1,(.c (.str ⟨#[105,102]⟩))),(15,1,(.c (.str ⟨#[105,110,116,101,103,101,114]⟩))),(16,1,(.c (.str ⟨#[109,111,100]⟩))),(17,1,(.c (.str ⟨#[110,111,116]⟩))),(18,1,(.c (.str ⟨#[111,102]⟩))),(19,1,(.c (.str ⟨#[111,114]⟩))),(20,1,(.c (.str ⟨#[112,114,111,99,101,100,117,114,101]⟩))),(21,1,(.c (.str ⟨#[112,114,111,103,114,97,109]⟩))),(22,1,(.c (.str ⟨#[114,101,97,100]⟩))),(23,1,(.c (.str ⟨#[114,101,99,111,114,100]⟩))),(24,1,(.c (.str ⟨#[114,101,112,101,97,116]⟩))),(25,1,(.c (.str ⟨#[114,101,116,117,114,110]⟩))),(26,1,(.c (.str ⟨#[116,104,101,110]⟩))),(27,1,(.c (.str ⟨#[116,111]⟩))),(28,1,(.c (.str ⟨#[116,114,117,101]⟩))),(29,1,(.c (.str ⟨#[116,121,112,101]⟩))),(30,1,(.c (.str ⟨#[117,110,116,105,108]⟩))),(31,1,(.c (.str ⟨#[118,97,114]⟩))),(32,1,(.c (.str ⟨#[119,104,105,108,101]⟩))),(33,1,(.c (.str ⟨#[119,114,105,116,101]⟩)))]),qr 2 (.mv (.t 6))]) .ret) (.seq (.reg [qr 8 (.bin .eql (.t 3) (.c (.int .i64 1))),qr 7 (.mv (.t 8))]) (.cond (.t 7) (.seq (.reg [qr 9 (.bsl 1 21 [.str ⟨#[]⟩,.str ⟨#[]⟩,.str ⟨#[]⟩,.str ⟨#[]⟩,.str ⟨#[]⟩,.str ⟨#[]⟩,.str ⟨#[]⟩,.str ⟨#[]⟩,.str ⟨#[]⟩,.str ⟨#[]⟩,.str ⟨#[]⟩,.str ⟨#[]⟩,.str ⟨#[]⟩,.str ⟨#[]⟩,.str ⟨#[]⟩,.str ⟨#[]⟩,.str ⟨#[]⟩,.str ⟨#[]⟩,.str ⟨#[]⟩,.str ⟨#[]⟩,.str ⟨#[]⟩] [(0,1,(.c (.str ⟨#[98,111,111,108]⟩))),(1,1,(.c (.str ⟨#[99,104,97,114]⟩))),(2,1,(.c (.str ⟨#[100,111]⟩))),(3,1,(.c (.str ⟨#[100,111,119,110,116,111]⟩))),(4,1,(.c (.str ⟨#[101,108,115,101]⟩))),(5,1,(.c (.str ⟨#[102,97,108,115,101]⟩))),(6,1,(.c (.str ⟨#[102,111,114]⟩))),(7,1,(.c (.str ⟨#[103,101,116]⟩))),(8,1,(.c (.str ⟨#[105,102]⟩))),(9,1,(.c (.str ⟨#[105,110,116]⟩))),(10,1,(.c (.str ⟨#[109,97,105,110]⟩))),(11,1,(.c (.str ⟨#[112,114,111,103,114,97,109]⟩))),(12,1,(.c (.str ⟨#[112,117,116]⟩))),(13,1,(.c (.str ⟨#[114,101,116,117,114,110]⟩))),(14,1,(.c (.str ⟨#[115,116,114,117,99,116]⟩))),(15,1,(.c (.str ⟨#[116,111]⟩))),(16,1,(.c (.str ⟨#[116,114,117,101]⟩))),(17,1,(.c (.str ⟨#[117,110,116,105,108]⟩))),(18,1,(.c (.str ⟨#[117,112]⟩))),(19,1,(.c (.str ⟨#[118,111,105,100]⟩))),(20,1,(.c (.str ⟨#[119,104,105,108,101]⟩)))]),qr 2 (.mv (.t 9))]) .ret) .skip)))))) (.seq (.reg [qr 2 (.mv (.c (.sl [] true)))]) .ret))
theorem F73.calls [GI] : CallsT prog 73 10 F73.c0 [.tmp 2] := acallsT [] [] 10 func73 ntmps73 (by kernel_rfl) (by kernel_rfl)
noncomputable def F50.c0 : CodeT prog 18 [] [] f50 := ⟨_, by with_unfolding_all (conv => lhs; reduce)⟩
theorem F50.calls [GI] : CallsT prog 50 18 F50.c0.1 [.tmp 2] := acallsT _ _ _ func50 ntmps50 F50.c0.2 (by kernel_rfl)
noncomputable def F74.c0 : CodeT prog 17 [] [] f74 := ⟨_, by with_unfolding_all (conv => lhs; reduce)⟩
theorem F74.calls [GI] : CallsT prog 74 17 F74.c0.1 [.tmp 2] := acallsT _ _ _ func74 ntmps74 F74.c0.2 (by kernel_rfl)
noncomputable def F21.c0 : CodeT prog 14 [] [] f21 := ⟨_, by with_unfolding_all (conv => lhs; reduce)⟩
theorem F21.calls [GI] : CallsT prog 21 14 F21.c0.1 [.tmp 4] := acallsT _ _ _ func21 ntmps21 F21.c0.2 (by kernel_rfl)
noncomputable def F22.c0 : CodeT prog 19 [] [] f22 := ⟨_, by with_unfolding_all (conv => lhs; reduce)⟩
theorem F22.calls [GI] : CallsT prog 22 19 F22.c0.1 [.tmp 2] := acallsT _ _ _ func22 ntmps22 F22.c0.2 (by kernel_rfl)
noncomputable def F23.c0 : CodeT prog 11 [1] [] f23 := ⟨_, by with_unfolding_all (conv => lhs; reduce)⟩
theorem F23.calls [GI] : CallsT prog 23 11 F23.c0.1 [.tmp 2] := acallsT _ _ _ func23 ntmps23 F23.c0.2 (by kernel_rfl)
noncomputable def F51.c0 : CodeT prog 40 [3] [] f51 := ⟨_, by with_unfolding_all (conv => lhs; reduce)⟩
theorem F51.calls [GI] : CallsT prog 51 40 F51.c0.1 [.tmp 4] := acallsT _ _ _ func51 ntmps51 F51.c0.2 (by kernel_rfl)
noncomputable def F53.c0 : CodeT prog 84 [] [6] f53 := ⟨_, by with_unfolding_all (conv => lhs; reduce)⟩
theorem F53.calls [GI] : CallsT prog 53 84 F53.c0.1 [.tmp 4] := acallsT _ _ _ func53 ntmps53 F53.c0.2 (by kernel_rfl)
noncomputable def F24.c0 : CodeT prog 42 [] [] f24 := ⟨_, by with_unfolding_all (conv => lhs; reduce)⟩
theorem F24.calls [GI] : CallsT prog 24 42 F24.c0.1 [.tmp 4] := acallsT _ _ _ func24 ntmps24 F24.c0.2 (by kernel_rfl)
noncomputable def F25.c0 : CodeT prog 105 [] [8] f25 := ⟨_, by with_unfolding_all (conv => lhs; reduce)⟩
theorem F25.calls [GI] : CallsT prog 25 105 F25.c0.1 [.tmp 6] := acallsT _ _ _ func25 ntmps25 F25.c0.2 (by kernel_rfl)
noncomputable def F52.c0 : CodeT prog 25 [] [] f52 := ⟨_, by with_unfolding_all (conv => lhs; reduce)⟩
theorem F52.calls [GI] : CallsT prog 52 25 F52.c0.1 [.tmp 4] := acallsT _ _ _ func52 ntmps52 F52.c0.2 (by kernel_rfl)
noncomputable def F26.c0 : CodeT prog 25 [] [] f26 := ⟨_, by with_unfolding_all (conv => lhs; reduce)⟩
theorem F26.calls [GI] : CallsT prog 26 25 F26.c0.1 [.tmp 6] := acallsT _ _ _ func26 ntmps26 F26.c0.2 (by kernel_rfl)
def F54.c57 : RCode := .seq (.reg [qr 165 (.mv (.t 0)),qr 166 (.fa 12 (.t 4)),qr 167 (.load none (.t 166)),qr 168 (.mv (.t 2)),qr 169 (.bin .add (.t 168) (.c (.int .i64 1))),qe 170 (.call 26 [.t 165,.t 167,.t 169]),qr 171 (.mv (.t 170)),qg 172 (.mv (.t 0)) 171 true,qg 173 (.fa 13 (.t 4)) 171 true,qg 174 (.load none (.t 173)) 171 true,qg 175 (.mv (.t 2)) 171 true,qg 176 (.bin .add (.t 175) (.c (.int .i64 1))) 171 true,⟨some 177,.ef (.call 26 [.t 172,.t 174,.t 176]),some (171,true)⟩,qr 178 (.pick (.t 171) (.t 177) (.c (.bool false))),qr 6 (.mv (.t 178))]) .ret
def F54.c53 : RCode := .seq (.seq (.reg [qr 145 (.fa 2 (.t 4)),qr 146 (.load none (.t 145)),qr 147 (.bin .lss (.t 146) (.c (.int .i64 3))),qr 148 (.mv (.t 147)),qg 149 (.fa 2 (.t 4)) 148 false,qg 150 (.load none (.t 149)) 148 false,qg 151 (.bin .gtr (.t 150) (.c (.int .i64 6))) 148 false,qr 152 (.pick (.t 148) (.c (.bool true)) (.t 151)),qr 153 (.mv (.t 152)),qg 154 (.fa 12 (.t 4)) 153 true,qg 155 (.load none (.t 154)) 153 true,qg 156 (.len 1 (.t 155)) 153 true,qg 157 (.bin .gtr (.t 156) (.c (.int .i64 0))) 153 true,qg 158 (.mv (.t 157)) 153 true,qg 159 (.fa 14 (.t 4)) 158 false,qg 160 (.load none (.t 159)) 158 false,qg 161 (.len 1 (.t 160)) 158 false,qg 162 (.bin .gtr (.t 161) (.c (.int .i64 0))) 158 false,qg 163 (.pick (.t 158) (.c (.bool true)) (.t 162)) 153 true,qr 164 (.pick (.t 153) (.t 163) (.c (.bool false)))]) (.cond (.t 164) (.seq (.reg [qr 6 (.mv (.c (.bool false)))]) .ret) .skip)) F54.c57
def F54.c49 : RCode := .seq (.seq (.reg [qr 121 (.fa 11 (.t 4)),qr 122 (.load none (.t 121)),qr 123 (.mv (.t 122)),qg 124 (.fa 2 (.t 4)) 123 true,qg 125 (.load none (.t 124)) 123 true,qg 126 (.bin .neq (.t 125) (.c (.int .i64 3))) 123 true,qr 127 (.pick (.t 123) (.t 126) (.c (.bool false))),qr 128 (.mv (.t 127)),qg 129 (.fa 11 (.t 4)) 128 false,qg 130 (.load none (.t 129)) 128 false,qg 131 (.un .not (.t 130)) 128 false,qg 132 (.mv (.t 131)) 128 false,qg 133 (.fa 13 (.t 4)) 132 true,qg 134 (.load none (.t 133)) 132 true,qg 135 (.len 1 (.t 134)) 132 true,qg 136 (.bin .gtr (.t 135) (.c (.int .i64 0))) 132 true,qg 137 (.mv (.t 136)) 132 true,qg 138 (.fa 15 (.t 4)) 137 false,qg 139 (.load none (.t 138)) 137 false,qg 140 (.len 1 (.t 139)) 137 false,qg 141 (.bin .gtr (.t 140) (.c (.int .i64 0))) 137 false,qg 142 (.pick (.t 137) (.c (.bool true)) (.t 141)) 132 true,qg 143 (.pick (.t 132) (.t 142) (.c (.bool false))) 128 false,qr 144 (.pick (.t 128) (.c (.bool true)) (.t 143))]) (.cond (.t 144) (.seq (.reg [qr 6 (.mv (.c (.bool false)))]) .ret) .skip)) F54.c53
def F54.c40 : RCode := .seq (.seq (.reg [qr 106 (.fa 2 (.t 4)),qr 107 (.load none (.t 106)),qr 108 (.bin .eql (.t 107) (.c (.int .i64 6)))]) (.cond (.t 108) (.seq (.reg [qr 109 (.mv (.t 0)),qr 110 (.fa 3 (.t 4)),qr 111 (.load none (.t 110)),qe 112 (.call 21 [.t 109,.t 111]),qr 113 (.un .not (.t 112))]) (.cond (.t 113) (.seq (.reg [qr 6 (.mv (.c (.bool false)))]) .ret) .skip)) (.seq (.reg [qr 114 (.fa 3 (.t 4)),qr 115 (.load none (.t 114)),qr 116 (.bin .neq (.t 115) (.c (.str ⟨#[]⟩))),qr 117 (.mv (.t 116)),qg 118 (.fa 10 (.t 4)) 117 false,qg 119 (.load none (.t 118)) 117 false,qr 120 (.pick (.t 117) (.c (.bool true)) (.t 119))]) (.cond (.t 120) (.seq (.reg [qr 6 (.mv (.c (.bool false)))]) .ret) .skip)))) F54.c49
def F54.c31 : RCode := .seq (.seq (.reg [qr 89 (.fa 2 (.t 4)),qr 90 (.load none (.t 89)),qr 91 (.bin .eql (.t 90) (.c (.int .i64 1))),qr 92 (.mv (.t 91)),qg 93 (.fa 2 (.t 4)) 92 false,qg 94 (.load none (.t 93)) 92 false,qg 95 (.bin .eql (.t 94) (.c (.int .i64 7))) 92 false,qr 96 (.pick (.t 92) (.c (.bool true)) (.t 95))]) (.cond (.t 96) (.seq (.reg [qr 97 (.mv (.t 0)),qr 98 (.fa 4 (.t 4)),qr 99 (.load (some 5) (.t 98)),qe 100 (.call 76 [.t 97,.t 99]),qr 101 (.un .not (.t 100))]) (.cond (.t 101) (.seq (.reg [qr 6 (.mv (.c (.bool false)))]) .ret) .skip)) (.seq (.reg [qr 102 (.fa 4 (.t 4)),qr 103 (.load (some 5) (.t 102)),qe 104 (.call 77 [.t 103]),qr 105 (.un .not (.t 104))]) (.cond (.t 105) (.seq (.reg [qr 6 (.mv (.c (.bool false)))]) .ret) .skip)))) F54.c40
def F54.c19 : RCode := .seq (.seq (.reg [qr 9 (.mv (.c (.int .i64 0)))]) (.block 1 (.loop (.seq (.seq (.reg [qr 60 (.mv (.t 9)),qr 61 (.fa 9 (.t 4)),qr 62 (.load none (.t 61)),qr 63 (.len 1 (.t 62)),qr 64 (.bin .lss (.t 60) (.t 63))]) (.cond (.t 64) .skip (.exit 1))) (.seq (.block 2 (.seq (.reg [qr 67 (.mv (.t 0)),qr 68 (.fa 9 (.t 4)),qr 69 (.load none (.t 68)),qr 70 (.mv (.t 9)),qr 71 (.ia 5 (.t 69) (.t 70)),qr 72 (.load (some 5) (.t 71)),qe 73 (.call 75 [.t 67,.t 72]),qr 74 (.un .not (.t 73)),qr 75 (.mv (.t 74)),qg 76 (.fa 2 (.t 4)) 75 false,qg 77 (.load none (.t 76)) 75 false,qg 78 (.bin .eql (.t 77) (.c (.int .i64 2))) 75 false,qg 79 (.mv (.t 78)) 75 false,qg 80 (.fa 9 (.t 4)) 79 true,qg 81 (.load none (.t 80)) 79 true,qg 82 (.mv (.t 9)) 79 true,qg 83 (.ia 5 (.t 81) (.t 82)) 79 true,qg 84 (.fa 0 (.t 83)) 79 true,qg 85 (.load none (.t 84)) 79 true,qg 86 (.bin .neq (.t 85) (.c (.int .i64 7))) 79 true,qg 87 (.pick (.t 79) (.t 86) (.c (.bool false))) 75 false,qr 88 (.pick (.t 75) (.c (.bool true)) (.t 87))]) (.cond (.t 88) (.seq (.reg [qr 6 (.mv (.c (.bool false)))]) .ret) .skip))) (.reg [qr 65 (.mv (.t 9)),qr 66 (.bin .add (.t 65) (.c (.int .i64 1))),qr 9 (.mv (.t 66))])))))) F54.c31
def F54.c15 : RCode := .seq (.seq (.reg [qr 48 (.fa 9 (.t 4)),qr 49 (.load none (.t 48)),qr 50 (.len 1 (.t 49)),qr 51 (.mv (.t 7)),qr 52 (.bin .lss (.t 50) (.t 51)),qr 53 (.mv (.t 52)),qg 54 (.fa 9 (.t 4)) 53 false,qg 55 (.load none (.t 54)) 53 false,qg 56 (.len 1 (.t 55)) 53 false,qg 57 (.mv (.t 8)) 53 false,qg 58 (.bin .gtr (.t 56) (.t 57)) 53 false,qr 59 (.pick (.t 53) (.c (.bool true)) (.t 58))]) (.cond (.t 59) (.seq (.reg [qr 6 (.mv (.c (.bool false)))]) .ret) .skip)) F54.c19
def F54.c5 : RCode := .seq (.reg [qr 7 (.mv (.c (.int .i64 1))),qr 8 (.mv (.c (.int .i64 1)))]) (.seq (.seq (.reg [qr 40 (.fa 2 (.t 4)),qr 41 (.load none (.t 40))]) (.block 0 (.seq (.reg [qr 43 (.bin .eql (.t 41) (.c (.int .i64 6))),qr 42 (.mv (.t 43))]) (.cond (.t 42) (.reg [qr 7 (.mv (.c (.int .i64 2))),qr 8 (.mv (.c (.int .i64 2)))]) (.seq (.reg [qr 45 (.bin .eql (.t 41) (.c (.int .i64 7))),qr 44 (.mv (.t 45))]) (.cond (.t 44) (.reg [qr 7 (.mv (.c (.int .i64 0))),qr 8 (.mv (.c (.int .i64 0)))]) (.seq (.reg [qr 47 (.bin .eql (.t 41) (.c (.int .i64 9))),qr 46 (.mv (.t 47))]) (.cond (.t 46) (.reg [qr 7 (.mv (.c (.int .i64 0)))]) .skip)))))))) F54.c15)
def F54.c1 : RCode := .seq (.seq (.reg [qr 10 (.mv (.t 2)),qr 11 (.bin .gtr (.t 10) (.c (.int .i64 48))),qr 12 (.mv (.t 11)),qg 13 (.fa 0 (.t 4)) 12 false,qg 14 (.load (some 2) (.t 13)) 12 false,⟨some 15,.ef (.call 23 [.t 14]),some (12,false)⟩,qg 16 (.un .not (.t 15)) 12 false,qr 17 (.pick (.t 12) (.c (.bool true)) (.t 16)),qr 18 (.mv (.t 17)),qg 19 (.fa 14 (.t 4)) 18 false,qg 20 (.load none (.t 19)) 18 false,⟨some 21,.ef (.call 22 [.t 20]),some (18,false)⟩,qg 22 (.un .not (.t 21)) 18 false,qr 23 (.pick (.t 18) (.c (.bool true)) (.t 22)),qr 24 (.mv (.t 23)),qg 25 (.fa 15 (.t 4)) 24 false,qg 26 (.load none (.t 25)) 24 false,⟨some 27,.ef (.call 22 [.t 26]),some (24,false)⟩,qg 28 (.un .not (.t 27)) 24 false,qr 29 (.pick (.t 24) (.c (.bool true)) (.t 28)),qr 30 (.mv (.t 29)),qg 31 (.fa 2 (.t 4)) 30 false,qg 32 (.load none (.t 31)) 30 false,qg 33 (.bin .lss (.t 32) (.c (.int .i64 1))) 30 false,qr 34 (.pick (.t 30) (.c (.bool true)) (.t 33)),qr 35 (.mv (.t 34)),qg 36 (.fa 2 (.t 4)) 35 false,qg 37 (.load none (.t 36)) 35 false,qg 38 (.bin .gtr (.t 37) (.c (.int .i64 9))) 35 false,qr 39 (.pick (.t 35) (.c (.bool true)) (.t 38))]) (.cond (.t 39) (.seq (.reg [qr 6 (.mv (.c (.bool false)))]) .ret) .skip)) F54.c5
def F54.c0 : RCode := .seq (.reg [qr 4 (.bx none (.t 1)),qr 6 (.mv (.c (.bool false)))]) F54.c1
theorem F54.calls [GI] : CallsT prog 54 179 F54.c0 [.tmp 6] := acallsT [4] [] 179 func54 ntmps54 (by kernel_rfl) (by kernel_rfl)
noncomputable def F75.c0 : CodeT prog 19 [3] [] f75 := ⟨_, by with_unfolding_all (conv => lhs; reduce)⟩
theorem F75.calls [GI] : CallsT prog 75 19 F75.c0.1 [.tmp 4] := acallsT _ _ _ func75 ntmps75 F75.c0.2 (by kernel_rfl)
def F110.c58 : RCode := .seq (.reg [qr 106 (.bin .eql (.t 32) (.c (.int .i64 23))),qr 92 (.mv (.t 106))]) (.cond (.t 92) .skip (.reg [qr 107 (.bin .eql (.t 32) (.c (.int .i64 24))),qr 92 (.mv (.t 107))]))
def F110.c56 : RCode := .seq (.reg [qr 105 (.bin .eql (.t 32) (.c (.int .i64 22))),qr 92 (.mv (.t 105))]) (.cond (.t 92) .skip F110.c58)
def F110.c54 : RCode := .seq (.reg [qr 104 (.bin .eql (.t 32) (.c (.int .i64 21))),qr 92 (.mv (.t 104))]) (.cond (.t 92) .skip F110.c56)
def F110.c52 : RCode := .seq (.reg [qr 103 (.bin .eql (.t 32) (.c (.int .i64 20))),qr 92 (.mv (.t 103))]) (.cond (.t 92) .skip F110.c54)
def F110.c50 : RCode := .seq (.reg [qr 102 (.bin .eql (.t 32) (.c (.int .i64 19))),qr 92 (.mv (.t 102))]) (.cond (.t 92) .skip F110.c52)
def F110.c48 : RCode := .seq (.reg [qr 101 (.bin .eql (.t 32) (.c (.int .i64 18))),qr 92 (.mv (.t 101))]) (.cond (.t 92) .skip F110.c50)
def F110.c46 : RCode := .seq (.reg [qr 100 (.bin .eql (.t 32) (.c (.int .i64 17))),qr 92 (.mv (.t 100))]) (.cond (.t 92) .skip F110.c48)
def F110.c44 : RCode := .seq (.reg [qr 99 (.bin .eql (.t 32) (.c (.int .i64 16))),qr 92 (.mv (.t 99))]) (.cond (.t 92) .skip F110.c46)
def F110.c42 : RCode := .seq (.reg [qr 98 (.bin .eql (.t 32) (.c (.int .i64 15))),qr 92 (.mv (.t 98))]) (.cond (.t 92) .skip F110.c44)
def F110.c40 : RCode := .seq (.reg [qr 97 (.bin .eql (.t 32) (.c (.int .i64 14))),qr 92 (.mv (.t 97))]) (.cond (.t 92) .skip F110.c42)
def F110.c38 : RCode := .seq (.reg [qr 96 (.bin .eql (.t 32) (.c (.int .i64 13))),qr 92 (.mv (.t 96))]) (.cond (.t 92) .skip F110.c40)
def F110.c36 : RCode := .seq (.reg [qr 95 (.bin .eql (.t 32) (.c (.int .i64 12))),qr 92 (.mv (.t 95))]) (.cond (.t 92) .skip F110.c38)
def F110.c34 : RCode := .seq (.reg [qr 94 (.bin .eql (.t 32) (.c (.int .i64 11))),qr 92 (.mv (.t 94))]) (.cond (.t 92) .skip F110.c36)
def F110.c31 : RCode := .seq (.seq (.reg [qr 93 (.bin .eql (.t 32) (.c (.int .i64 10))),qr 92 (.mv (.t 93))]) (.cond (.t 92) .skip F110.c34)) (.cond (.t 92) (.reg [qr 7 (.mv (.c (.int .i64 2)))]) (.seq (.reg [qr 6 (.mv (.c (.bool false)))]) .ret))
def F110.c27 : RCode := .seq (.seq (.reg [qr 90 (.bin .eql (.t 32) (.c (.int .i64 8))),qr 89 (.mv (.t 90))]) (.cond (.t 89) .skip (.reg [qr 91 (.bin .eql (.t 32) (.c (.int .i64 9))),qr 89 (.mv (.t 91))]))) (.cond (.t 89) (.reg [qr 7 (.mv (.c (.int .i64 1)))]) F110.c31)
def F110.c24 : RCode := .seq (.reg [qr 81 (.bin .eql (.t 32) (.c (.int .i64 7))),qr 80 (.mv (.t 81))]) (.cond (.t 80) (.seq (.reg [qr 82 (.mv (.t 0)),qr 83 (.fa 2 (.t 4)),qr 84 (.load none (.t 83)),qe 85 (.call 52 [.t 82,.t 84]),qr 9 (.mv (.t 85))]) (.reg [qr 86 (.fa 4 (.t 4)),qr 87 (.load none (.t 86)),qr 88 (.len 1 (.t 87)),qr 7 (.mv (.t 88))])) F110.c27)
def F110.c21 : RCode := .seq (.reg [qr 71 (.bin .eql (.t 32) (.c (.int .i64 6))),qr 70 (.mv (.t 71))]) (.cond (.t 70) (.seq (.reg [qr 72 (.mv (.t 0)),qr 73 (.fa 2 (.t 4)),qr 74 (.load none (.t 73)),qe 75 (.call 21 [.t 72,.t 74]),qr 9 (.mv (.t 75))]) (.reg [qr 76 (.mv (.t 0)),qr 77 (.fa 3 (.t 4)),qr 78 (.load none (.t 77)),qe 79 (.call 21 [.t 76,.t 78]),qr 10 (.mv (.t 79))])) F110.c24)
def F110.c18 : RCode := .seq (.reg [qr 65 (.bin .eql (.t 32) (.c (.int .i64 5))),qr 64 (.mv (.t 65))]) (.cond (.t 64) (.seq (.reg [qr 66 (.mv (.t 0)),qr 67 (.fa 2 (.t 4)),qr 68 (.load none (.t 67)),qe 69 (.call 21 [.t 66,.t 68]),qr 9 (.mv (.t 69))]) (.reg [qr 7 (.mv (.c (.int .i64 1)))])) F110.c21)
def F110.c16 : RCode := .seq (.reg [qr 59 (.bin .eql (.t 32) (.c (.int .i64 4))),qr 58 (.mv (.t 59))]) (.cond (.t 58) (.reg [qr 60 (.mv (.t 0)),qr 61 (.fa 2 (.t 4)),qr 62 (.load none (.t 61)),qe 63 (.call 21 [.t 60,.t 62]),qr 9 (.mv (.t 63))]) F110.c18)
def F110.c14 : RCode := .seq (.reg [qr 49 (.bin .eql (.t 32) (.c (.int .i64 3))),qr 48 (.mv (.t 49))]) (.cond (.t 48) (.reg [qr 50 (.fa 1 (.t 4)),qr 51 (.load none (.t 50)),qr 52 (.bin .geq (.t 51) (.c (.int .i64 0))),qr 53 (.mv (.t 52)),qg 54 (.fa 1 (.t 4)) 53 true,qg 55 (.load none (.t 54)) 53 true,qg 56 (.bin .leq (.t 55) (.c (.int .i64 255))) 53 true,qr 57 (.pick (.t 53) (.t 56) (.c (.bool false))),qr 8 (.mv (.t 57))]) F110.c16)
def F110.c12 : RCode := .seq (.reg [qr 39 (.bin .eql (.t 32) (.c (.int .i64 2))),qr 38 (.mv (.t 39))]) (.cond (.t 38) (.reg [qr 40 (.fa 1 (.t 4)),qr 41 (.load none (.t 40)),qr 42 (.bin .eql (.t 41) (.c (.int .i64 0))),qr 43 (.mv (.t 42)),qg 44 (.fa 1 (.t 4)) 43 false,qg 45 (.load none (.t 44)) 43 false,qg 46 (.bin .eql (.t 45) (.c (.int .i64 1))) 43 false,qr 47 (.pick (.t 43) (.c (.bool true)) (.t 46)),qr 8 (.mv (.t 47))]) F110.c14)
def F110.c62 : RCode := .seq (.seq (.reg [qr 108 (.mv (.t 8)),qr 109 (.un .not (.t 108)),qr 110 (.mv (.t 109)),qg 111 (.mv (.t 9)) 110 false,qg 112 (.un .not (.t 111)) 110 false,qr 113 (.pick (.t 110) (.c (.bool true)) (.t 112)),qr 114 (.mv (.t 113)),qg 115 (.mv (.t 10)) 114 false,qg 116 (.un .not (.t 115)) 114 false,qr 117 (.pick (.t 114) (.c (.bool true)) (.t 116)),qr 118 (.mv (.t 117)),qg 119 (.fa 4 (.t 4)) 118 false,qg 120 (.load none (.t 119)) 118 false,qg 121 (.len 1 (.t 120)) 118 false,qg 122 (.mv (.t 7)) 118 false,qg 123 (.bin .neq (.t 121) (.t 122)) 118 false,qr 124 (.pick (.t 118) (.c (.bool true)) (.t 123))]) (.cond (.t 124) (.seq (.reg [qr 6 (.mv (.c (.bool false)))]) .ret) .skip)) (.seq (.reg [qr 11 (.mv (.c (.bool false)))]) (.seq (.seq (.reg [qr 12 (.mv (.c (.int .i64 0)))]) (.block 1 (.loop (.seq (.seq (.reg [qr 125 (.mv (.t 12)),qr 126 (.fa 4 (.t 4)),qr 127 (.load none (.t 126)),qr 128 (.len 1 (.t 127)),qr 129 (.bin .lss (.t 125) (.t 128))]) (.cond (.t 129) .skip (.exit 1))) (.seq (.block 2 (.seq (.reg [qr 132 (.fa 4 (.t 4)),qr 133 (.load none (.t 132)),qr 134 (.mv (.t 12)),qr 135 (.ia 5 (.t 133) (.t 134)),qr 136 (.load (some 5) (.t 135)),qr 13 (.bx (some 5) (.t 136))]) (.seq (.seq (.reg [qr 137 (.fa 0 (.t 13)),qr 138 (.load none (.t 137)),qr 139 (.bin .eql (.t 138) (.c (.int .i64 25)))]) (.cond (.t 139) (.seq (.reg [qr 11 (.mv (.c (.bool true)))]) (.seq (.seq (.reg [qr 140 (.mv (.t 0)),qr 141 (.bin .neq (.t 140) (.c (.int .i64 1))),qr 142 (.mv (.t 141)),qg 143 (.fa 0 (.t 4)) 142 false,qg 144 (.load none (.t 143)) 142 false,qg 145 (.bin .neq (.t 144) (.c (.int .i64 7))) 142 false,qr 146 (.pick (.t 142) (.c (.bool true)) (.t 145)),qr 147 (.mv (.t 146)),qg 148 (.fa 2 (.t 13)) 147 false,qg 149 (.load none (.t 148)) 147 false,⟨some 150,.ef (.call 21 [(.c (.int .i64 1)),.t 149]),some (147,false)⟩,qg 151 (.un .not (.t 150)) 147 false,qr 152 (.pick (.t 147) (.c (.bool true)) (.t 151)),qr 153 (.mv (.t 152)),qg 154 (.fa 1 (.t 13)) 153 false,qg 155 (.load none (.t 154)) 153 false,qg 156 (.bin .neq (.t 155) (.c (.int .i64 0))) 153 false,qr 157 (.pick (.t 153) (.c (.bool true)) (.t 156)),qr 158 (.mv (.t 157)),qg 159 (.fa 3 (.t 13)) 158 false,qg 160 (.load none (.t 159)) 158 false,qg 161 (.bin .neq (.t 160) (.c (.str ⟨#[]⟩))) 158 false,qr 162 (.pick (.t 158) (.c (.bool true)) (.t 161)),qr 163 (.mv (.t 162)),qg 164 (.fa 4 (.t 13)) 163 false,qg 165 (.load none (.t 164)) 163 false,qg 166 (.len 1 (.t 165)) 163 false,qg 167 (.bin .neq (.t 166) (.c (.int .i64 0))) 163 false,qr 168 (.pick (.t 163) (.c (.bool true)) (.t 167))]) (.cond (.t 168) (.seq (.reg [qr 6 (.mv (.c (.bool false)))]) .ret) .skip)) (.exit 2))) .skip)) (.seq (.reg [qr 169 (.mv (.t 11)),qr 170 (.mv (.t 169)),qg 171 (.mv (.t 0)) 170 false,qg 172 (.load (some 5) (.t 13)) 170 false,qg 173 (.mv (.t 2)) 170 false,qg 174 (.bin .sub (.t 173) (.c (.int .i64 1))) 170 false,⟨some 175,.ef (.call 110 [.t 171,.t 172,.t 174]),some (170,false)⟩,qg 176 (.un .not (.t 175)) 170 false,qr 177 (.pick (.t 170) (.c (.bool true)) (.t 176))]) (.cond (.t 177) (.seq (.reg [qr 6 (.mv (.c (.bool false)))]) .ret) .skip))))) (.reg [qr 130 (.mv (.t 12)),qr 131 (.bin .add (.t 130) (.c (.int .i64 1))),qr 12 (.mv (.t 131))])))))) (.seq (.reg [qr 6 (.mv (.c (.bool true)))]) .ret)))
def F110.c5 : RCode := .seq (.reg [qr 7 (.mv (.c (.int .i64 0)))]) (.seq (.dreg [qr 22 (.fa 1 (.t 4)),qr 23 (.load none (.t 22)),qr 24 (.bin .eql (.t 23) (.c (.int .i64 0))),qr 25 (.fa 2 (.t 4)),qr 26 (.load none (.t 25)),qr 27 (.bin .eql (.t 26) (.c (.str ⟨#[]⟩))),qr 28 (.fa 3 (.t 4)),qr 29 (.load none (.t 28)),qr 30 (.bin .eql (.t 29) (.c (.str ⟨#[]⟩))),qr 8 (.mv (.t 24)),qr 9 (.mv (.t 27)),qr 10 (.mv (.t 30))]) (.seq (.seq (.reg [qr 31 (.fa 0 (.t 4)),qr 32 (.load none (.t 31))]) (.block 0 (.seq (.reg [qr 34 (.bin .eql (.t 32) (.c (.int .i64 1))),qr 33 (.mv (.t 34))]) (.cond (.t 33) (.reg [qr 35 (.fa 1 (.t 4)),qr 36 (.load none (.t 35)),qr 37 (.bin .geq (.t 36) (.c (.int .i64 0))),qr 8 (.mv (.t 37))]) F110.c12)))) F110.c62))
def F110.c0 : RCode := .seq (.reg [qr 4 (.bx none (.t 1)),qr 6 (.mv (.c (.bool false)))]) (.seq (.seq (.reg [qr 14 (.mv (.t 2)),qr 15 (.bin .eql (.t 14) (.c (.int .i64 0))),qr 16 (.mv (.t 15)),qg 17 (.fa 4 (.t 4)) 16 false,qg 18 (.load none (.t 17)) 16 false,qg 19 (.len 1 (.t 18)) 16 false,qg 20 (.bin .gtr (.t 19) (.c (.int .i64 512))) 16 false,qr 21 (.pick (.t 16) (.c (.bool true)) (.t 20))]) (.cond (.t 21) (.seq (.reg [qr 6 (.mv (.c (.bool false)))]) .ret) .skip)) F110.c5)
theorem F110.calls [GI] : CallsT prog 110 178 F110.c0 [.tmp 6] := acallsT [4] [13] 178 func110 ntmps110 (by kernel_rfl) (by kernel_rfl)
noncomputable def F111.c0 : CodeT prog 37 [2] [] f111 := ⟨_, by with_unfolding_all (conv => lhs; reduce)⟩
theorem F111.calls [GI] : CallsT prog 111 37 F111.c0.1 [.tmp 4] := acallsT _ _ _ func111 ntmps111 F111.c0.2 (by kernel_rfl)
noncomputable def F76.c0 : CodeT prog 18 [3] [] f76 := ⟨_, by with_unfolding_all (conv => lhs; reduce)⟩
theorem F76.calls [GI] : CallsT prog 76 18 F76.c0.1 [.tmp 4] := acallsT _ _ _ func76 ntmps76 F76.c0.2 (by kernel_rfl)
noncomputable def F77.c0 : CodeT prog 27 [1] [] f77 := ⟨_, by with_unfolding_all (conv => lhs; reduce)⟩
theorem F77.calls [GI] : CallsT prog 77 27 F77.c0.1 [.tmp 2] := acallsT _ _ _ func77 ntmps77 F77.c0.2 (by kernel_rfl)
noncomputable def F8.c0 : CodeT prog 142 [3] [6,8] f8 := ⟨_, by with_unfolding_all (conv => lhs; reduce)⟩
theorem F8.calls [GI] : CallsT prog 8 142 F8.c0.1 [.tmp 4] := acallsT _ _ _ func8 ntmps8 F8.c0.2 (by kernel_rfl)
end Pg
