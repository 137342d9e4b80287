import Derived.Test.YtdfbkddelhbgmaaGreatDoorTreeSS3
import Derived.Test.YtdfbkddelhbgmaaGreatDoorCodeHS3
import Derived.Test.YtdfbkddelhbgmaaGreatDoorR12SpecS3
import Derived.Test.YtdfbkddelhbgmaaGreatDoorHpS3
import Derived.Test.YtdfbkddelhbgmaaGreatDoorCheckSpecJS3
namespace Pg
open Go Go.Proofs.Tryz
set_option linter.all false
set_option maxHeartbeats 4000000
set_option maxRecDepth 4000
def eTh (x : Th) : List AV := [.str x.name, .int .i64 x.kind, aE x.rcd.before, aE x.rcd.aP, .str x.rcd.name, .sl (x.rcd.fields.map eFld) false, aE x.rcd.bT, aE x.r.before, aE x.r.aP, .str x.r.name, .int .i64 x.r.result, .sl (x.r.params.map c7) false, .sl (x.r.vars.map dF) false, .sl (x.r.inner.map aU) false, .sl (x.r.body.map bA) false, aE x.r.bT, .int .i64 x.t.kind, .int .i64 x.t.size, .str x.t.name]
theorem jF (x : Th) : (eTh x).length = 19 := rfl
abbrev gN (l : List Th) : List (List AV) := l.map eTh
theorem QY (l : List Th) : ∀ e ∈ gN l, e.length = 19 := by
 intro e he; obtain ⟨s, _, rfl⟩ := List.mem_map.1 he; rfl
theorem oK (x : Th) : List.take 19 (eTh x) = eTh x := rfl
abbrev zTh : List AV := [.str ⟨#[]⟩, .int .i64 0, .sl [] true, .sl [] true, .str ⟨#[]⟩, .sl [] true, .sl [] true, .sl [] true, .sl [] true, .str ⟨#[]⟩, .int .i64 0, .sl [] true, .sl [] true, .sl [] true, .sl [] true, .sl [] true, .int .i64 0, .int .i64 0, .str ⟨#[]⟩]
theorem aEJ : dE (.agg zTh) (.agg (eTh noTh)) := by
 refine dE.agg ?_
 repeat' (first | exact fA.nil | refine fA.cons ?_ ?_)
 all_goals first | exact .refl _ | exact dE.sl _ _
theorem lO [GI] (h : AHeap) (env : List Th) (hl : few env) (full : Bool) (name : ByteArray) : aD prog 79 [.sl (gN env) full, .str name] h (fun v g => v = .agg (eTh (dT env name)) ∧ g = h) := by
 refine F79.calls (by simp) ?_
 delta F79.c0
 simp -implicitDefEqProofs only [go_sem,seval]
 refine aS fun b hb => ?_
 simp -implicitDefEqProofs only [go_sem,seval]
 generalize hB : AHeap.upd h b _ = B
 have hBb : B b = some (.blk zTh 19 164) := by rw [← hB, aA]
 refine aX env (fun pre post e g => dT env name = dT post name ∧ g = B ∧ e = [(0, .sl (gN env) full), (1, .str name), (4, .ptr (some ⟨b, 0, none⟩)), (5, .int .i64 pre.length)]) (aF.env ?_) ⟨rfl, rfl, rfl⟩ ?_ ?_
 ·simp -implicitDefEqProofs only [go_sem,seval]
 ·rintro pre x post e g hp ⟨hk, rfl, rfl⟩
  have h0 : (eTh x)[0]? = some (.str x.name) := rfl
  by_cases he : x.name = name
  ·simp -implicitDefEqProofs only [go_sem,seval, bI hp, aI (aK hp) (jF x), h0, he, jF, oK, hBb]
   refine aM.same ?_
   rw [oU (by rfl), ← hB, aB]
   simp -implicitDefEqProofs only [go_sem,seval, jF, oK]
   refine .forget (AHeap.b8 hb) ⟨?_, rfl⟩
   rw [hk]; simp [dT, he]
  ·simp -implicitDefEqProofs only [go_sem,seval, bI hp, aI (aK hp) (jF x), h0, he]
   refine ⟨_, _, aF.env ?_, ?_, rfl, rfl⟩
   ·simp -implicitDefEqProofs only [go_sem,seval, aQ hl hp]
   ·rw [hk]; simp [dT, he]
 ·rintro e g ⟨hk, rfl, rfl⟩
  simp -implicitDefEqProofs only [go_sem,seval, bE]
  refine aM.same ?_
  simp -implicitDefEqProofs only [go_sem,seval, hBb]
  rw [← hB, aB]
  refine eE.less aEJ (AHeap.b8 hb) ⟨?_, rfl⟩
  rw [hk]; rfl
theorem xZ [GI] (h : AHeap) (env : List Th) (hl : env.length ≤ 1000000) (full : Bool) (x : Th) : aD prog 81 [.sl (gN env) full, .agg (eTh x)] h (fun v g => v = .sl (gN (env ++ [x])) false ∧ g = h) := by
 refine F81.calls (by simp) ?_
 delta F81.c0
 simp -implicitDefEqProofs only [go_sem,seval]
 refine ⟨QY env, (GL.nil (ty := 164) (size := 19) h).append (new := gN env) (by simp) rfl (QY env) (by unfold roomFor; simp; omega) fun v g G => ?_⟩
 simp -implicitDefEqProofs only [go_sem,seval, oK, jF, oU]
 refine G.mS (xs := eTh x) (bytes := 360) rfl (by unfold roomFor; simp; omega) fun v g G => ?_
 simp -implicitDefEqProofs only [go_sem,seval]
 exact G.tQ ⟨by simp, rfl⟩
def c9 (s : CS) : AObj := .blk [.int .i64 s.item, .int .i64 s.bad] 2 92
theorem cJ [GI] {h : AHeap} {c : Nat} {s : CS} (hc : h c = some (c9 s)) (e : Int) : aD prog 80 [.ptr (some ⟨c, 0, none⟩), .int .i64 e] h (fun v g => v = .tuple [] ∧ g = h.upd c (c9 (s.fail e))) := by
 unfold c9 at hc
 refine F80.calls (by simp) ?_
 delta F80.c0
 simp -implicitDefEqProofs only [go_sem,seval, hc]
 by_cases hb : s.bad = 0
 ·simp -implicitDefEqProofs only [go_sem,seval, hb, hc]
  exact .same ⟨rfl, by simp [CS.fail, hb, c9]⟩
 ·simp -implicitDefEqProofs only [go_sem,seval, hb]
  refine .same ⟨rfl, ?_⟩
  rw [dQ (by rw [hc]; simp [CS.fail, hb, c9])]
theorem qQ [GI] {h : AHeap} {c : Nat} {s : CS} (hc : h c = some (c9 s)) : aD prog 78 [.ptr (some ⟨c, 0, none⟩)] h (fun v g => v = .bool (decide (s.bad = 0)) ∧ g = h.upd c (c9 (if s.bad = 0 then s.step else s))) := by
 unfold c9 at hc
 refine F78.calls (by simp) ?_
 delta F78.c0
 simp -implicitDefEqProofs only [go_sem,seval, hc]
 by_cases hb : s.bad = 0
 ·simp -implicitDefEqProofs only [go_sem,seval, hb, hc]
  exact .same ⟨rfl, by simp [CS.step, hb, c9]⟩
 ·simp -implicitDefEqProofs only [go_sem,seval, hb]
  refine .same ⟨rfl, ?_⟩
  rw [dQ (by rw [hc]; simp [hb, c9])]
theorem I3 [GI] {h : AHeap} {c : Nat} {s : CS} (hc : h c = some (c9 s)) (env : List Th) (hl : few env) (full : Bool) (t : Typ) : aD prog 82 [.ptr (some ⟨c, 0, none⟩), .sl (gN env) full, .agg (bV t)] h (fun v g => v = .tuple [] ∧ g = h.upd c (c9 (tL env s t))) := by
 refine F82.calls (by simp) ?_
 delta F82.c0
 have e0 : (bV t)[0]? = some (.int .i64 t.kind) := rfl
 have e2 : (bV t)[2]? = some (.str t.name) := rfl
 have f1 : (eTh (dT env t.name))[1]? = some (.int .i64 (dT env t.name).kind) := rfl
 by_cases ht : t.kind = 4
 ·simp -implicitDefEqProofs only [go_sem,seval, e0, e2, ht]
  refine tcE (lO h env hl full t.name) ?_
  simp -implicitDefEqProofs only [go_sem,seval, f1]
  by_cases hk : (dT env t.name).kind = 1
  ·simp -implicitDefEqProofs only [go_sem,seval, hk]
   refine .same ⟨rfl, ?_⟩
   rw [dQ (by rw [hc]; simp [tL, hk])]
  ·simp -implicitDefEqProofs only [go_sem,seval, hk]
   refine tcE (cJ hc 13) ?_
   simp -implicitDefEqProofs only [go_sem,seval]
   exact .same ⟨rfl, by simp [tL, hk, ht]⟩
 ·simp -implicitDefEqProofs only [go_sem,seval, e0, ht]
  refine .same ⟨rfl, ?_⟩
  rw [dQ (by rw [hc]; simp [tL, ht])]
theorem pF [GI] {h : AHeap} {c : Nat} {s : CS} (hc : h c = some (c9 s)) (env : List Th) (hl : few env) (full : Bool) (name : ByteArray) : aD prog 86 [.ptr (some ⟨c, 0, none⟩), .sl (gN env) full, .str name] h (fun v g => v = .agg (bV (cZ env s name).1) ∧ g = h.upd c (c9 (cZ env s name).2)) := by
 refine F86.calls (by simp) ?_
 delta F86.c0
 simp -implicitDefEqProofs only [go_sem,seval]
 refine aS fun b hb => ?_
 have hcb := FF hb hc
 simp -implicitDefEqProofs only [go_sem,seval]
 refine tcE (lO _ env hl full name) ?_
 have f1 : (eTh (dT env name))[1]? = some (.int .i64 (dT env name).kind) := rfl
 have f2 : ((eTh (dT env name)).drop 16).take 3 = bV (dT env name).t := rfl
 by_cases hk : (dT env name).kind = 3
 ·simp -implicitDefEqProofs only [go_sem,seval, f1, f2, hk, jF, oK, b9]
  rw [oU (by rfl), aB]
  refine .forget (AHeap.b8 hb) ⟨?_, ?_⟩
  ·simp [cZ, hk]; rfl
  ·rw [dQ (by rw [hc]; simp [cZ, hk])]
 ·simp -implicitDefEqProofs only [go_sem,seval, f1, hk, jF, oK]
  refine tcE (cJ (s := s) (by rw [aC _ _ _ hcb]; exact hc) 13) ?_
  simp -implicitDefEqProofs only [go_sem,seval, aC _ _ _ hcb.symm]
  refine .forget (aEq hb hc _ _) ⟨?_, ?_⟩
  ·simp [cZ, hk]; rfl
  ·simp [cZ, hk]
end Pg
