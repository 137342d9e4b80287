import Derived.Test.YtlflapoljegmoaaGreatDoorTreeSD
import Derived.Test.YtlflapoljegmoaaGreatDoorNnXJD
import Derived.Test.YtlflapoljegmoaaGreatDoorWeighJD
import Derived.Test.YtlflapoljegmoaaGreatDoorHpD
namespace Pg
open Go Go.Proofs.Tryz
set_option linter.all false
set_option maxHeartbeats 4000000
set_option maxRecDepth 4000
structure Pair where
 old : ByteArray
 new : ByteArray
def ePair (p : Pair) : List AV := [.str p.old, .str p.new]
theorem ePair_len (p : Pair) : (ePair p).length = 2 := rfl
def lookB (s : ByteArray) : List Pair → ByteArray
 | [] => s
 | p :: r => if p.old = s then p.new else lookB s r
def turn (by_ : List Pair) (s : ByteArray) : ByteArray := if s = noBytes then s else lookB s by_
theorem plus_none {t : ByteArray} (ht : small t) : (((( (⟨#[]⟩ : ByteArray)).size + t.size : Nat) : Int) > IntKind.i64.max) = False := by
 unfold small at ht
 have m : IntKind.i64.max = 9223372036854775807 := by decide
 have z : (⟨#[]⟩ : ByteArray).size = 0 := rfl
 rw [m, z]; simp; omega
theorem none_add (t : ByteArray) : (⟨#[]⟩ : ByteArray) ++ t = t := by
 apply ByteArray.ext; simp
theorem Turned_spec [GI] (h : AHeap) (s : ByteArray) (hs : small s) (hp : plain s) (l : List Pair) (hl : few l) (hn : ∀ p ∈ l, small p.new) (full : Bool) : ACalls prog 31 [.str s, .sl (l.map ePair) full] h (fun v g => v = .str (turn l s) ∧ g = h) := by
 have hw1 : IntKind.i64.wrap 1 = 1 := by decide
 have hA : aia 1 (.sl [[.str s]] false) (.int .i64 0) = some (.ip [.str s] 0) := rfl
 refine F31.calls (by simp) ?_
 delta F31.c0
 simp -implicitDefEqProofs only [go_sem,seval]
 refine tcE (Parts_spec h s hs) ?_
 rw [parts_plain hp]
 simp -implicitDefEqProofs only [go_sem,seval]
 refine lT_round ?_
 simp -implicitDefEqProofs only [go_sem,seval, hA]
 by_cases h0 : s = noBytes
 ·subst h0
  refine lT_round ?_
  by_cases hl0 : (0 : Int) < l.length
  ·simp -implicitDefEqProofs only [go_sem,seval, hl0, hA, plus_none (t := noBytes) hs, none_add]
   refine lT_round ?_
   simp -implicitDefEqProofs only [go_sem,seval, hw1]
   exact .same ⟨by simp [turn], rfl⟩
  ·simp -implicitDefEqProofs only [go_sem,seval, hl0, hA, plus_none (t := noBytes) hs, none_add]
   refine lT_round ?_
   simp -implicitDefEqProofs only [go_sem,seval, hw1]
   exact .same ⟨by simp [turn], rfl⟩
 ·have h0' : (s = (⟨#[]⟩ : ByteArray)) = False := by simpa using h0
  refine lT_list l (fun pre post e g => lookB s l = lookB s post ∧ g = h ∧ e = [(0, .str s), (1, .sl (l.map ePair) full), (5, .sl [[.str s]] false), (6, .str ⟨#[]⟩), (7, .int .i64 0), (8, .str s), (9, .int .i64 pre.length)]) (WeakE.env ?_) ⟨rfl, rfl, rfl⟩ ?_ ?_
  ·simp -implicitDefEqProofs only [go_sem,seval]
  ·rintro pre p post e g hpp ⟨hk, rfl, rfl⟩
   have hold : (ePair p)[0]? = some (.str p.old) := rfl
   have hnew : (ePair p)[1]? = some (.str p.new) := rfl
   by_cases he : p.old = s
   ·have hsm := hn p (mem_at hpp)
    simp -implicitDefEqProofs only [go_sem,seval, lt_at hpp, hA, h0', aia_sl (map_at hpp) (ePair_len p), hold, hnew, he]
    refine lessQ.same ?_
    simp -implicitDefEqProofs only [go_sem,seval, plus_none hsm, none_add]
    refine lT_round ?_
    simp -implicitDefEqProofs only [go_sem,seval, hw1]
    exact .same ⟨by rw [turn, if_neg h0, hk]; simp [lookB, he], rfl⟩
   ·simp -implicitDefEqProofs only [go_sem,seval, lt_at hpp, hA, h0', aia_sl (map_at hpp) (ePair_len p), hold, he]
    refine ⟨_, _, WeakE.env ?_, ?_, rfl, rfl⟩
    ·simp -implicitDefEqProofs only [go_sem,seval, step_at hl hpp]
    ·rw [hk]; simp [lookB, he]
  ·rintro e g ⟨hk, rfl, rfl⟩
   simp -implicitDefEqProofs only [go_sem,seval, lt_end]
   refine lessQ.same ?_
   simp -implicitDefEqProofs only [go_sem,seval, plus_none hs, none_add]
   refine lT_round ?_
   simp -implicitDefEqProofs only [go_sem,seval, hw1]
   exact .same ⟨by rw [turn, if_neg h0, hk]; simp [lookB], rfl⟩
def soft (s : ByteArray) : Prop := small s ∧ plain s
structure ByOk (l : List Pair) : Prop where
 few : few l
 small : ∀ p ∈ l, small p.new
theorem turnExpr_spec [GI] {by_ : List Pair} (hb : ByOk by_) (full : Bool) : ∀ (n : Nat) (x : Expr), x.sz ≤ n → x.ok → inE soft x → wE x ≤ 1099511627776 → ∀ h : AHeap, ACalls prog 61 [.agg (eExpr x), .sl (by_.map ePair) full] h (fun v g => v = .agg (eExpr (rnE (turn by_) x)) ∧ g = h) := by
 intro n
 induction n with
 | zero => intro x hn; rw [Expr.sz_eq] at hn; omega
 | succ n ih =>
  intro x hn ho hs hw h
  obtain ⟨s1, s2, s3⟩ := (inE_eq soft x).1 hs
  obtain ⟨o1, o2⟩ := (Expr.ok_iff x).1 ho
  have hz := Expr.sz_eq x
  have hwe := wE_eq x
  have hll := turnE_room x.l
  refine F61.calls (by simp) ?_
  delta F61.c0
  simp -implicitDefEqProofs only [go_sem,seval]
  refine afreshT_intro fun b4 hb4 => ?_
  simp -implicitDefEqProofs only [go_sem,seval]
  refine tcE (Turned_spec _ x.name s1.1 s1.2 by_ hb.few hb.small full) ?_
  simp -implicitDefEqProofs only [go_sem,seval]
  refine tcE (Turned_spec _ x.field s2.1 s2.2 by_ hb.few hb.small full) ?_
  simp -implicitDefEqProofs only [go_sem,seval]
  refine afreshT_intro fun b5 hb5 => ?_
  obtain ⟨hne, hb5'⟩ := none_upd hb5
  simp -implicitDefEqProofs only [go_sem,seval]
  rw [upd_upd]
  generalize hB : (h.upd b4 _) = B
  have hB4 : B b4 = some (.blk [.int .i64 0, .int .i64 0, .str ⟨#[]⟩, .str ⟨#[]⟩, .sl [] true] 5 76) := by rw [← hB, upd_same]
  have hBle : h.le B := by rw [← hB]; exact AHeap.le_upd hb4
  have hB5 : B b5 = none := by rw [← hB]; exact hb5
  refine lT_list x.l (fun pre post e g => ∃ v g0, GL 76 5 (B.upd b5 (.blk [.int .i64 x.op, .int .i64 x.n, .str (turn by_ x.name), .str (turn by_ x.field), v] 5 76)) g v ((pre.map (rnE (turn by_))).map eExpr) ∧ g0 = g ∧ e = [(1, .sl (by_.map ePair) full), (2, .ip (eExpr x) 0), (4, .ptr (some ⟨b4, 0, none⟩)), (5, .ptr (some ⟨b5, 0, none⟩)), (6, .int .i64 pre.length)]) (WeakE.env ?_) ⟨.sl [] true, _, .nil _, rfl, rfl⟩ ?_ ?_
  ·simp -implicitDefEqProofs only [go_sem,seval]
  ·rintro pre y post e g hp ⟨v, g0, G, rfl, rfl⟩
   have hy := mem_at hp
   have hyz := Exprs.sz_mem hy
   have hyw := wEs_mem hy
   have hpl := (at_pre hp).2
   have hg5 := G.at (upd_same B b5 _)
   simp -implicitDefEqProofs only [go_sem,seval, lt_at hp, hg5, aia_sl (map_at hp) (eExpr_len y)]
   refine tcE (ih y (by omega) (o2 y hy) (inEs_mem s3 y hy) (by omega) _) ?_
   simp -implicitDefEqProofs only [go_sem,seval, hg5, splice_same, expr_take]
   refine G.append1 (xs := eExpr (rnE (turn by_) y)) (bytes := 72) (eExpr_len _) (by unfold roomFor; simp; omega) (fun v' g' G' => ?_)
   have hg5' := G'.at (upd_same B b5 _)
   simp -implicitDefEqProofs only [go_sem,seval, hg5', G'.cells]
   have G'' := G'.upd (upd_same B b5 _) (.blk [.int .i64 x.op, .int .i64 x.n, .str (turn by_ x.name), .str (turn by_ x.field), v'] 5 76)
   rw [upd_upd] at G''
   refine ⟨.inr (by decide), _, _, WeakE.env ?_, v', _, ?_, rfl, rfl⟩
   ·simp -implicitDefEqProofs only [go_sem,seval, step_at o1 hp]
   ·simpa using G''
  ·rintro e g ⟨v, g0, G, rfl, rfl⟩
   have hg5 := G.at (upd_same B b5 _)
   have hg4 := G.at (show (B.upd b5 _) b4 = some _ by rw [upd_ne _ _ _ hne.symm]; exact hB4)
   simp -implicitDefEqProofs only [go_sem,seval, lt_end]
   refine lessQ.same ?_
   simp -implicitDefEqProofs only [go_sem,seval, hg5, hg4]
   refine EndW.less (AVle.agg ?_) ?_ ⟨rfl, rfl⟩
   ·rw [eExpr_eq, rnE_eq]
    simp only [rnEs_map]
    exact .cons (.refl _) (.cons (.refl _) (.cons (.refl _) (.cons (.refl _) (.cons G.avle .nil))))
   ·refine le_upd_of hb4 (AHeap.le_trans (AHeap.le_trans hBle (AHeap.le_upd hB5)) G.le) _
end Pg

namespace Pg
open Go Go.Proofs.Tryz
set_option linter.all false
set_option maxHeartbeats 4000000
set_option maxRecDepth 4000
theorem eVar_eq (v : Var) : eVar v = [eTexts v.before, eTexts v.trail, .str v.name, .int .i64 v.t.kind, .int .i64 v.t.size, .str v.t.name] := rfl
theorem turnVars_spec [GI] {by_ : List Pair} (hb : ByOk by_) (full : Bool) (l : List Var) (hl : few l) (hs : ∀ v ∈ l, inVar soft v) (hw : l.length ≤ 1099511627776) (f2 : Bool) (h : AHeap) :
  ACalls prog 32 [.sl (l.map eVar) f2, .sl (by_.map ePair) full] h (fun v g => v = .sl ((l.map (rnVar (turn by_))).map eVar) false ∧ g = h) := by
 refine F32.calls (by simp) ?_
 delta F32.c0
 simp -implicitDefEqProofs only [go_sem,seval]
 refine lT_list l (fun pre post e g => ∃ v, GL 82 6 h g v ((pre.map (rnVar (turn by_))).map eVar) ∧ e = [(0, .sl (l.map eVar) f2), (1, .sl (by_.map ePair) full), (5, v), (6, .int .i64 pre.length)]) (WeakE.env ?_) ⟨.sl [] true, .nil h, rfl⟩ ?_ ?_
 ·simp -implicitDefEqProofs only [go_sem,seval]
 ·rintro pre x post e g hp ⟨v, G, rfl⟩
  have hx := hs x (mem_at hp)
  have hpl := (at_pre hp).2
  simp -implicitDefEqProofs only [go_sem,seval, lt_at hp, aia_sl (map_at hp) (eVar_len x)]
  refine afreshT_intro fun b hbk => ?_
  simp -implicitDefEqProofs only [go_sem,seval, eVar_eq x]
  refine tcE (Turned_spec _ x.name hx.1.1 hx.1.2 by_ hb.few hb.small full) ?_
  simp -implicitDefEqProofs only [go_sem,seval]
  refine tcE (Turned_spec _ x.t.name hx.2.1 hx.2.2 by_ hb.few hb.small full) ?_
  simp -implicitDefEqProofs only [go_sem,seval, upd_upd]
  refine (G.fresh hbk _).append1 (xs := eVar (rnVar (turn by_) x)) (bytes := 96) rfl (by unfold roomFor; simp; omega) (fun v' g' G' => ?_)
  simp -implicitDefEqProofs only [go_sem,seval]
  obtain ⟨h3, G3, le3⟩ := G'.rebase (h0 := h) (AHeap.le_upd (by
   cases hh : h b with
   | none => rfl
   | some o => rw [G.at hh] at hbk; cases hbk))
  refine ⟨_, h3, WeakE.of ?_ (.of_le le3), v', ?_, rfl⟩
  ·simp -implicitDefEqProofs only [go_sem,seval, step_at hl hp]
  ·simpa using G3
 ·rintro e g ⟨v, G, rfl⟩
  simp -implicitDefEqProofs only [go_sem,seval, lt_end]
  refine lessQ.same ?_
  simp -implicitDefEqProofs only [go_sem,seval]
  exact G.endW ⟨rfl, rfl⟩
theorem turnStmts_spec [GI] {by_ : List Pair} (hb : ByOk by_) (full : Bool) : ∀ (n : Nat) (l : List Stmt), Stmts.sz l ≤ n → few l → (∀ x ∈ l, x.ok) → inSs soft l → wSs l ≤ 274877906944 → ∀ (f2 : Bool) (h : AHeap),
  ACalls prog 34 [.sl (l.map eStmt) f2, .sl (by_.map ePair) full] h (fun v g => v = .sl ((rnSs (turn by_) l).map eStmt) false ∧ g = h) := by
 intro n
 induction n with
 | zero =>
  intro l hn hl ho hs hw f2 h
  cases l with
  | cons x r => simp [Stmts.sz] at hn
  | nil =>
   refine F34.calls (by simp) ?_
   delta F34.c0
   simp -implicitDefEqProofs only [go_sem,seval]
   refine lT_round ?_
   simp -implicitDefEqProofs only [go_sem,seval]
   exact (GL.nil (ty := 78) (size := 16) h).endW ⟨rfl, rfl⟩
 | succ n ih =>
  intro l hn hl ho hs hw f2 h
  refine F34.calls (by simp) ?_
  delta F34.c0
  simp -implicitDefEqProofs only [go_sem,seval]
  refine lT_list l (fun pre post e g => ∃ v, GL 78 16 h g v ((pre.map (rnS (turn by_))).map eStmt) ∧ e = [(0, .sl (l.map eStmt) f2), (1, .sl (by_.map ePair) full), (5, v), (6, .int .i64 pre.length)]) (WeakE.env ?_) ⟨.sl [] true, .nil h, rfl⟩ ?_ ?_
  ·simp -implicitDefEqProofs only [go_sem,seval]
  ·rintro pre x post e g hp ⟨v, G, rfl⟩
   have hx := mem_at hp
   have hxz := Stmts.sz_mem hx
   have hxw := wSs_mem hx
   have hz := Stmt.sz_eq x
   have hwx := wS_eq x
   have hpl := (at_pre hp).2
   have hlw := wSs_len l
   have hel := turnE_room x.e
   obtain ⟨i1, i2, i3, i4, i5⟩ := (inS_eq soft x).1 (inSs_mem hs x hx)
   have hok := (Stmt.ok_iff x).1 (ho x hx)
   simp -implicitDefEqProofs only [go_sem,seval, lt_at hp, aia_sl (map_at hp) (eStmt_len x)]
   refine afreshT_intro fun b hbk => ?_
   simp -implicitDefEqProofs only [go_sem,seval, eStmt_eq x]
   refine tcE (Turned_spec _ x.name i1.1 i1.2 by_ hb.few hb.small full) ?_
   simp -implicitDefEqProofs only [go_sem,seval]
   have hP := turnExpr_spec hb full _ x.p (Nat.le_refl _) hok.2.2.1 i2 (by omega)
   rw [eExpr_eq x.p] at hP
   refine tcE (hP _) ?_
   simp -implicitDefEqProofs only [go_sem,seval, upd_upd, eExpr_eq (rnE (turn by_) x.p)]
   generalize hB : (AHeap.upd g b _) = B
   have hBb : B b = some (.blk [eTexts x.before, eTexts x.trail, .int .i64 x.op, .str (turn by_ x.name), .int .i64 (rnE (turn by_) x.p).op, .int .i64 (rnE (turn by_) x.p).n, .str (rnE (turn by_) x.p).name, .str (rnE (turn by_) x.p).field, .sl ((rnE (turn by_) x.p).l.map eExpr) false, .sl (x.e.map eExpr) false, .bool x.down, .bool x.more, .sl (x.body.map eStmt) false, .sl (x.els.map eStmt) false, eTexts x.end1, eTexts x.end2] 16 78) := by rw [← hB, upd_same]
   refine lT_list x.e (fun pre' post' e k => ∃ ve, GL 76 5 B k ve ((pre'.map (rnE (turn by_))).map eExpr) ∧ e = [(0, .sl (l.map eStmt) f2), (1, .sl (by_.map ePair) full), (5, v), (6, .int .i64 pre.length), (7, .ptr (some ⟨b, 0, none⟩)), (8, ve), (9, .int .i64 pre'.length)]) (WeakE.env ?_) ⟨.sl [] true, .nil B, rfl⟩ ?_ ?_
   ·simp -implicitDefEqProofs only [go_sem,seval]
   ·rintro pre' y post' e k hp' ⟨ve, E, rfl⟩
    have hy := mem_at hp'
    have hyw := wEs_mem hy
    have hpl' := (at_pre hp').2
    have hkb := E.at hBb
    simp -implicitDefEqProofs only [go_sem,seval, hkb, lt_at hp', aia_sl (map_at hp') (eExpr_len y)]
    refine tcE (turnExpr_spec hb full _ y (Nat.le_refl _) (hok.2.2.2.2.1 y hy) (inEs_mem i3 y hy) (by omega) k) ?_
    simp -implicitDefEqProofs only [go_sem,seval, splice_same, expr_take]
    refine E.append1 (xs := eExpr (rnE (turn by_) y)) (bytes := 72) (eExpr_len _) (by unfold roomFor; simp; omega) (fun v' g' E' => ?_)
    simp -implicitDefEqProofs only [go_sem,seval]
    refine ⟨_, _, WeakE.env ?_, v', ?_, rfl⟩
    ·simp -implicitDefEqProofs only [go_sem,seval, step_at hok.2.2.2.1 hp']
    ·simpa using E'
   ·rintro e k ⟨ve, E, rfl⟩
    have hkb := E.at hBb
    simp -implicitDefEqProofs only [go_sem,seval, hkb, lt_end]
    refine lessQ.to (e' := [(0, .sl (l.map eStmt) f2), (1, .sl (by_.map ePair) full), (5, v), (6, .int .i64 pre.length), (7, .ptr (some ⟨b, 0, none⟩)), (8, .sl ((x.e.map (rnE (turn by_))).map eExpr) false)]) (g := B) (WeakE.of ?_ (.of_le E.le)) ?_
    ·simp -implicitDefEqProofs only [go_sem,seval]
     exact E.avle
    simp -implicitDefEqProofs only [go_sem,seval, hBb]
    refine tcE (ih x.body (by omega) hok.2.2.2.2.2.1 hok.2.2.2.2.2.2.1 i4 (by omega) false _) ?_
    simp -implicitDefEqProofs only [go_sem,seval]
    refine tcE (ih x.els (by omega) hok.2.2.2.2.2.2.2.1 hok.2.2.2.2.2.2.2.2.1 i5 (by omega) false _) ?_
    simp -implicitDefEqProofs only [go_sem,seval, upd_upd]
    rw [← hB, upd_upd]
    have hrow : eStmt (rnS (turn by_) x) = [eTexts x.before, eTexts x.trail, .int .i64 x.op, .str (turn by_ x.name), .int .i64 (rnE (turn by_) x.p).op, .int .i64 (rnE (turn by_) x.p).n, .str (rnE (turn by_) x.p).name, .str (rnE (turn by_) x.p).field, .sl ((rnE (turn by_) x.p).l.map eExpr) false, .sl ((x.e.map (rnE (turn by_))).map eExpr) false, .bool x.down, .bool x.more, .sl ((rnSs (turn by_) x.body).map eStmt) false, .sl ((rnSs (turn by_) x.els).map eStmt) false, eTexts x.end1, eTexts x.end2] := by
     rw [eStmt_eq, rnS_eq, ← rnEs_map]
    rw [← hrow]
    refine (G.fresh hbk _).append1 (xs := eStmt (rnS (turn by_) x)) (bytes := 272) (eStmt_len _) (by unfold roomFor; simp; omega) (fun v' g' G' => ?_)
    simp -implicitDefEqProofs only [go_sem,seval]
    obtain ⟨h3, G3, le3⟩ := G'.rebase (h0 := h) (AHeap.le_upd (none_le G.le hbk))
    refine ⟨_, h3, WeakE.of ?_ (.of_le le3), v', ?_, rfl⟩
    ·simp -implicitDefEqProofs only [go_sem,seval, step_at hl hp]
    ·simpa using G3
  ·rintro e g ⟨v, G, rfl⟩
   simp -implicitDefEqProofs only [go_sem,seval, lt_end]
   refine lessQ.same ?_
   simp -implicitDefEqProofs only [go_sem,seval]
   refine G.endW ⟨?_, rfl⟩
   rw [rnSs_map]
end Pg

namespace Pg
open Go Go.Proofs.Tryz
set_option linter.all false
set_option maxHeartbeats 4000000
set_option maxRecDepth 4000
theorem eParam_eq (v : Param) : eParam v = [.str v.name, .int .i64 v.t.kind, .int .i64 v.t.size, .str v.t.name, .int .i64 v.mode] := rfl
theorem turnRoutines_spec [GI] {by_ : List Pair} (hb : ByOk by_) (full : Bool) : ∀ (n : Nat) (l : List Routine), Routines.sz l ≤ n → few l → (∀ x ∈ l, x.ok) → inRs soft l → wRs l ≤ 274877906944 → ∀ (f2 : Bool) (h : AHeap),
  ACalls prog 33 [.sl (l.map eRoutine) f2, .sl (by_.map ePair) full] h (fun v g => v = .sl ((rnRs (turn by_) l).map eRoutine) false ∧ g = h) := by
 intro n
 induction n with
 | zero =>
  intro l hn hl ho hs hw f2 h
  cases l with
  | cons x r => simp [Routines.sz] at hn
  | nil =>
   refine F33.calls (by simp) ?_
   delta F33.c0
   simp -implicitDefEqProofs only [go_sem,seval]
   refine lT_round ?_
   simp -implicitDefEqProofs only [go_sem,seval]
   exact (GL.nil (ty := 43) (size := 9) h).endW ⟨rfl, rfl⟩
 | succ n ih =>
  intro l hn hl ho hs hw f2 h
  refine F33.calls (by simp) ?_
  delta F33.c0
  simp -implicitDefEqProofs only [go_sem,seval]
  refine lT_list l (fun pre post e g => ∃ v, GL 43 9 h g v ((pre.map (rnR (turn by_))).map eRoutine) ∧ e = [(0, .sl (l.map eRoutine) f2), (1, .sl (by_.map ePair) full), (5, v), (6, .int .i64 pre.length)]) (WeakE.env ?_) ⟨.sl [] true, .nil h, rfl⟩ ?_ ?_
  ·simp -implicitDefEqProofs only [go_sem,seval]
  ·rintro pre x post e g hp ⟨v, G, rfl⟩
   have hx := mem_at hp
   have hxz := Routines.sz_mem hx
   have hxw := wRs_mem hx
   have hz := Routine.sz_eq x
   have hwx := wR_eq x
   have hpl := (at_pre hp).2
   have hlw := wRs_len l
   obtain ⟨i1, i2, i3, i4, i5⟩ := (inR_eq soft x).1 (inRs_mem hs x hx)
   have hok := (Routine.ok_iff x).1 (ho x hx)
   simp -implicitDefEqProofs only [go_sem,seval, lt_at hp, aia_sl (map_at hp) (eRoutine_len x)]
   refine afreshT_intro fun b hbk => ?_
   simp -implicitDefEqProofs only [go_sem,seval, eRoutine_eq x]
   refine tcE (Turned_spec _ x.name i1.1 i1.2 by_ hb.few hb.small full) ?_
   simp -implicitDefEqProofs only [go_sem,seval, upd_upd]
   generalize hB : (AHeap.upd g b _) = B
   have hBb : B b = some (.blk [eTexts x.before, eTexts x.trail, .str (turn by_ x.name), .int .i64 x.result, .sl (x.params.map eParam) false, .sl (x.vars.map eVar) false, .sl (x.inner.map eRoutine) false, .sl (x.body.map eStmt) false, eTexts x.endd] 9 43) := by rw [← hB, upd_same]
   refine lT_list x.params (fun pre' post' e k => ∃ ve, GL 105 5 B k ve ((pre'.map (rnParam (turn by_))).map eParam) ∧ e = [(0, .sl (l.map eRoutine) f2), (1, .sl (by_.map ePair) full), (5, v), (6, .int .i64 pre.length), (7, .ptr (some ⟨b, 0, none⟩)), (8, ve), (9, .int .i64 pre'.length)]) (WeakE.env ?_) ⟨.sl [] true, .nil B, rfl⟩ ?_ ?_
   ·simp -implicitDefEqProofs only [go_sem,seval]
   ·rintro pre' y post' e k hp' ⟨ve, E, rfl⟩
    have hy := i2 y (mem_at hp')
    have hpl' := (at_pre hp').2
    have hkb := E.at hBb
    simp -implicitDefEqProofs only [go_sem,seval, hkb, lt_at hp', aia_sl (map_at hp') (eParam_len y)]
    refine afreshT_intro fun c hck => ?_
    simp -implicitDefEqProofs only [go_sem,seval, eParam_eq y]
    refine tcE (Turned_spec _ y.name hy.1.1 hy.1.2 by_ hb.few hb.small full) ?_
    simp -implicitDefEqProofs only [go_sem,seval]
    refine tcE (Turned_spec _ y.t.name hy.2.1 hy.2.2 by_ hb.few hb.small full) ?_
    simp -implicitDefEqProofs only [go_sem,seval, upd_upd]
    refine (E.fresh hck _).append1 (xs := eParam (rnParam (turn by_) y)) (bytes := 56) rfl (by unfold roomFor; simp; omega) (fun v' g' E' => ?_)
    simp -implicitDefEqProofs only [go_sem,seval]
    obtain ⟨h3, E3, le3⟩ := E'.rebase (h0 := B) (AHeap.le_upd (none_le E.le hck))
    refine ⟨_, h3, WeakE.of ?_ (.of_le le3), v', ?_, rfl⟩
    ·simp -implicitDefEqProofs only [go_sem,seval, step_at hok.2.2.1 hp']
    ·simpa using E3
   ·rintro e k ⟨ve, E, rfl⟩
    have hkb := E.at hBb
    simp -implicitDefEqProofs only [go_sem,seval, hkb, lt_end]
    refine lessQ.to (e' := [(0, .sl (l.map eRoutine) f2), (1, .sl (by_.map ePair) full), (5, v), (6, .int .i64 pre.length), (7, .ptr (some ⟨b, 0, none⟩)), (8, .sl ((x.params.map (rnParam (turn by_))).map eParam) false)]) (g := B) (WeakE.of ?_ (.of_le E.le)) ?_
    ·simp -implicitDefEqProofs only [go_sem,seval]
     exact E.avle
    simp -implicitDefEqProofs only [go_sem,seval, hBb]
    refine tcE (turnVars_spec hb full x.vars hok.2.2.2.1 i3 (by omega) false _) ?_
    simp -implicitDefEqProofs only [go_sem,seval]
    refine tcE (ih x.inner (by omega) hok.2.2.2.2.2.1 hok.2.2.2.2.2.2.1 i4 (by omega) false _) ?_
    simp -implicitDefEqProofs only [go_sem,seval]
    refine tcE (turnStmts_spec hb full _ x.body (Nat.le_refl _) hok.2.2.2.2.2.2.2.1 hok.2.2.2.2.2.2.2.2.1 i5 (by omega) false _) ?_
    simp -implicitDefEqProofs only [go_sem,seval, upd_upd]
    rw [← hB, upd_upd]
    have hrow : eRoutine (rnR (turn by_) x) = [eTexts x.before, eTexts x.trail, .str (turn by_ x.name), .int .i64 x.result, .sl ((x.params.map (rnParam (turn by_))).map eParam) false, .sl ((x.vars.map (rnVar (turn by_))).map eVar) false, .sl ((rnRs (turn by_) x.inner).map eRoutine) false, .sl ((rnSs (turn by_) x.body).map eStmt) false, eTexts x.endd] := by
     rw [eRoutine_eq, rnR_eq]
    rw [← hrow]
    refine (G.fresh hbk _).append1 (xs := eRoutine (rnR (turn by_) x)) (bytes := 192) (eRoutine_len _) (by unfold roomFor; simp; omega) (fun v' g' G' => ?_)
    simp -implicitDefEqProofs only [go_sem,seval]
    obtain ⟨h3, G3, le3⟩ := G'.rebase (h0 := h) (AHeap.le_upd (none_le G.le hbk))
    refine ⟨_, h3, WeakE.of ?_ (.of_le le3), v', ?_, rfl⟩
    ·simp -implicitDefEqProofs only [go_sem,seval, step_at hl hp]
    ·simpa using G3
  ·rintro e g ⟨v, G, rfl⟩
   simp -implicitDefEqProofs only [go_sem,seval, lt_end]
   refine lessQ.same ?_
   simp -implicitDefEqProofs only [go_sem,seval]
   refine G.endW ⟨?_, rfl⟩
   rw [rnRs_map]
theorem eRec_eq (r : Rec) : eRec r = [eTexts r.before, eTexts r.trail, .str r.name, .sl (r.fields.map eFld) false, eTexts r.endd] := rfl
theorem eFld_eq (f : Fld) : eFld f = [eTexts f.before, eTexts f.trail, .str f.name, .int .i64 f.kind] := rfl
theorem wRecs_len : ∀ l : List Rec, l.length ≤ wRecs l
 | [] => by simp [wRecs]
 | x :: r => by
  have := wRecs_len r
  simp only [wRecs, List.map_cons, List.sum_cons, List.length_cons, wRec] at this ⊢; omega
theorem wRecs_mem {l : List Rec} {x : Rec} (h : x ∈ l) : wRec x ≤ wRecs l := by
 induction l with
 | nil => cases h
 | cons y r ih =>
  simp only [wRecs, List.map_cons, List.sum_cons] at ih ⊢
  rcases List.mem_cons.1 h with rfl | h
  ·omega
  ·have := ih h; omega
theorem Rename_spec [GI] {by_ : List Pair} (hb : ByOk by_) (full : Bool) (p : Prg) (ho : p.ok) (hs : inP soft p) (hw : wP p ≤ 274877906944) (h : AHeap) :
  ACalls prog 11 [.agg (ePrg p), .sl (by_.map ePair) full] h (fun v g => v = .agg (ePrg (rnP (turn by_) p)) ∧ g = h) := by
 unfold wP at hw
 have hrl := wRecs_len p.recs
 refine F11.calls (by simp) ?_
 delta F11.c0
 simp -implicitDefEqProofs only [go_sem,seval]
 refine afreshT_intro fun b4 hb4 => ?_
 simp -implicitDefEqProofs only [go_sem,seval]
 refine afreshT_intro fun b5 hb5 => ?_
 obtain ⟨hne, hb5'⟩ := none_upd hb5
 simp -implicitDefEqProofs only [go_sem,seval, ePrg_eq p]
 refine tcE (Turned_spec _ p.name hs.name.1 hs.name.2 by_ hb.few hb.small full) ?_
 simp -implicitDefEqProofs only [go_sem,seval, upd_upd]
 generalize hB : (h.upd b4 _) = B
 have hB4 : ∃ z, B b4 = some (.blk z 9 28) ∧ z.length = 9 := by rw [← hB, upd_same]; exact ⟨_, rfl, rfl⟩
 obtain ⟨z4, hB4, hz4⟩ := hB4
 have hBle : h.le B := by rw [← hB]; exact AHeap.le_upd hb4
 have hB5 : B b5 = none := by rw [← hB]; exact hb5
 let cells : AV → List AV := fun v => [.str (turn by_ p.name), eTexts p.before, eTexts p.mid, eTexts p.after, v, .sl (p.vars.map eVar) false, .sl (p.routines.map eRoutine) false, .sl (p.body.map eStmt) false, eTexts p.endd]
 refine lT_list p.recs (fun pre post e g => ∃ v, GL 55 5 (B.upd b5 (.blk (cells v) 9 28)) g v ((pre.map (rnRec (turn by_))).map eRec) ∧ e = [(1, .sl (by_.map ePair) full), (2, .ip (ePrg p) 0), (4, .ptr (some ⟨b4, 0, none⟩)), (5, .ptr (some ⟨b5, 0, none⟩)), (6, .int .i64 pre.length)]) (WeakE.env ?_) ⟨.sl [] true, .nil _, rfl⟩ ?_ ?_
 ·skip
  rw [ePrg_eq p]
  simp -implicitDefEqProofs only [go_sem,seval]
 ·rintro pre x post e g hp ⟨v, G, rfl⟩
  have hx := hs.recs x (mem_at hp)
  have ox := ho.eachRec x (mem_at hp)
  have hxw := wRecs_mem (mem_at hp)
  have hpl := (at_pre hp).2
  have hwr : 2 + x.fields.length ≤ wRec x := by unfold wRec; omega
  have hg5 : g b5 = some (.blk [.str (turn by_ p.name), eTexts p.before, eTexts p.mid, eTexts p.after, v, .sl (p.vars.map eVar) false, .sl (p.routines.map eRoutine) false, .sl (p.body.map eStmt) false, eTexts p.endd] 9 28) := G.at (upd_same B b5 _)
  simp -implicitDefEqProofs only [go_sem,seval, lt_at hp, aia_sl (map_at hp) (eRec_len x)]
  refine afreshT_intro fun b hbk => ?_
  have hb5n : b5 ≠ b := by intro hh; subst hh; rw [hg5] at hbk; cases hbk
  simp -implicitDefEqProofs only [go_sem,seval, eRec_eq x]
  refine tcE (Turned_spec _ x.name hx.1.1 hx.1.2 by_ hb.few hb.small full) ?_
  simp -implicitDefEqProofs only [go_sem,seval, upd_upd]
  generalize hC : (AHeap.upd g b _) = C
  have hCb : C b = some (.blk [eTexts x.before, eTexts x.trail, .str (turn by_ x.name), .sl (x.fields.map eFld) false, eTexts x.endd] 5 55) := by rw [← hC, upd_same]
  refine lT_list x.fields (fun pre' post' e k => ∃ ve, GL 58 4 C k ve ((pre'.map (rnFld (turn by_))).map eFld) ∧ e = [(1, .sl (by_.map ePair) full), (2, .ip (ePrg p) 0), (4, .ptr (some ⟨b4, 0, none⟩)), (5, .ptr (some ⟨b5, 0, none⟩)), (6, .int .i64 pre.length), (7, .ptr (some ⟨b, 0, none⟩)), (8, ve), (9, .int .i64 pre'.length)]) (WeakE.env ?_) ⟨.sl [] true, .nil C, rfl⟩ ?_ ?_
  ·simp -implicitDefEqProofs only [go_sem,seval]
  ·rintro pre' y post' e k hp' ⟨ve, E, rfl⟩
   have hy := hx.2 y (mem_at hp')
   have hpl' := (at_pre hp').2
   have hkb := E.at hCb
   simp -implicitDefEqProofs only [go_sem,seval, hkb, lt_at hp', aia_sl (map_at hp') (eFld_len y)]
   refine afreshT_intro fun c hck => ?_
   simp -implicitDefEqProofs only [go_sem,seval, eFld_eq y]
   refine tcE (Turned_spec _ y.name hy.1 hy.2 by_ hb.few hb.small full) ?_
   simp -implicitDefEqProofs only [go_sem,seval, upd_upd]
   refine (E.fresh hck _).append1 (xs := eFld (rnFld (turn by_) y)) (bytes := 72) rfl (by unfold roomFor; simp; omega) (fun v' g' E' => ?_)
   simp -implicitDefEqProofs only [go_sem,seval]
   obtain ⟨h3, E3, le3⟩ := E'.rebase (h0 := C) (AHeap.le_upd (none_le E.le hck))
   refine ⟨_, h3, WeakE.of ?_ (.of_le le3), v', ?_, rfl⟩
   ·simp -implicitDefEqProofs only [go_sem,seval, step_at ox.fields hp']
   ·simpa using E3
  ·rintro e k ⟨ve, E, rfl⟩
   have hkb := E.at hCb
   simp -implicitDefEqProofs only [go_sem,seval, hkb, lt_end]
   refine lessQ.to (e' := [(1, .sl (by_.map ePair) full), (2, .ip (ePrg p) 0), (4, .ptr (some ⟨b4, 0, none⟩)), (5, .ptr (some ⟨b5, 0, none⟩)), (6, .int .i64 pre.length), (7, .ptr (some ⟨b, 0, none⟩)), (8, .sl ((x.fields.map (rnFld (turn by_))).map eFld) false)]) (g := C) (WeakE.of ?_ (.of_le E.le)) ?_
   ·simp -implicitDefEqProofs only [go_sem,seval]
    exact E.avle
   have hC5 : C b5 = some (.blk [.str (turn by_ p.name), eTexts p.before, eTexts p.mid, eTexts p.after, v, .sl (p.vars.map eVar) false, .sl (p.routines.map eRoutine) false, .sl (p.body.map eStmt) false, eTexts p.endd] 9 28) := by rw [← hC, upd_ne _ _ _ hb5n]; exact hg5
   simp -implicitDefEqProofs only [go_sem,seval, hCb, upd_ne _ _ _ hb5n, hC5]
   rw [← hC, upd_upd]
   have hrow : eRec (rnRec (turn by_) x) = [eTexts x.before, eTexts x.trail, .str (turn by_ x.name), .sl ((x.fields.map (rnFld (turn by_))).map eFld) false, eTexts x.endd] := rfl
   rw [← hrow]
   refine (G.fresh hbk _).append1 (xs := eRec (rnRec (turn by_) x)) (bytes := 112) rfl (by unfold roomFor; simp; omega) (fun v' g' G' => ?_)
   obtain ⟨h3, G3, le3⟩ := G'.rebase (h0 := B.upd b5 (.blk (cells v) 9 28)) (AHeap.le_upd (none_le G.le hbk))
   have hg5' : g' b5 = some (.blk [.str (turn by_ p.name), eTexts p.before, eTexts p.mid, eTexts p.after, v, .sl (p.vars.map eVar) false, .sl (p.routines.map eRoutine) false, .sl (p.body.map eStmt) false, eTexts p.endd] 9 28) := le3 _ _ (G3.at (upd_same B b5 _))
   simp -implicitDefEqProofs only [go_sem,seval, hg5', G3.cells]
   have G4 := G3.upd (upd_same B b5 _) (.blk (cells v') 9 28)
   rw [upd_upd] at G4
   refine ⟨_, _, WeakE.of ?_ (.of_le (le_upd_upd le3 b5 _)), v', ?_, rfl⟩
   ·simp -implicitDefEqProofs only [go_sem,seval, step_at ho.recs hp]
   ·simpa using G4
 ·rintro e g ⟨v, G, rfl⟩
  have hg5 : g b5 = some (.blk [.str (turn by_ p.name), eTexts p.before, eTexts p.mid, eTexts p.after, v, .sl (p.vars.map eVar) false, .sl (p.routines.map eRoutine) false, .sl (p.body.map eStmt) false, eTexts p.endd] 9 28) := G.at (upd_same B b5 _)
  have hg4 : g b4 = some (.blk z4 9 28) := G.at (by rw [upd_ne _ _ _ hne.symm]; exact hB4)
  simp -implicitDefEqProofs only [go_sem,seval, lt_end]
  refine lessQ.same ?_
  simp -implicitDefEqProofs only [go_sem,seval]
  refine tcE (turnVars_spec hb full p.vars ho.vars hs.vars (by omega) false _) ?_
  simp -implicitDefEqProofs only [go_sem,seval, hg5]
  refine tcE (turnRoutines_spec hb full _ p.routines (Nat.le_refl _) ho.routines ho.eachRoutine hs.routines (by omega) false _) ?_
  simp -implicitDefEqProofs only [go_sem,seval]
  refine tcE (turnStmts_spec hb full _ p.body (Nat.le_refl _) ho.body ho.eachStmt hs.body (by omega) false _) ?_
  simp -implicitDefEqProofs only [go_sem,seval, upd_ne _ _ _ hne.symm, hg4, upd_upd, hz4]
  rw [splice_same (by rw [hz4]; rfl)]
  refine EndW.less (AVle.agg ?_) ?_ ⟨rfl, rfl⟩
  ·rw [ePrg_eq]
   simp only [rnP]
   exact .cons (.refl _) (.cons (.refl _) (.cons (.refl _) (.cons (.refl _) (.cons G.avle (.cons (.refl _) (.cons (.refl _) (.cons (.refl _) (.cons (.refl _) .nil))))))))
  ·exact le_upd_of hb4 (le_upd_of hb5' (AHeap.le_trans (AHeap.le_trans hBle (AHeap.le_upd hB5)) G.le) _) _
end Pg
