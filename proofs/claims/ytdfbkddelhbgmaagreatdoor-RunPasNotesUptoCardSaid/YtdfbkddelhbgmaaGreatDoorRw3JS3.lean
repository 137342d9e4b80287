import Derived.Test.YtdfbkddelhbgmaaGreatDoorTreeSS3
import Derived.Test.YtdfbkddelhbgmaaGreatDoorRw1S3
namespace Pg
open Go Go.Proofs.Tryz
set_option linter.all false
set_option maxHeartbeats 4000000
set_option maxRecDepth 4000
theorem aEw (v : Var) : dF v = [aE v.before, aE v.aP, .str v.name, .int .i64 v.t.kind, .int .i64 v.t.size, .str v.t.name] := rfl
theorem CJ [GI] {by_ : List vJ} (hb : T3 by_) (full : Bool) (l : List Var) (hl : few l) (hs : ∀ v ∈ l, rA soft v) (hw : l.length ≤ 1099511627776) (f2 : Bool) (h : AHeap) :
  aD prog 45 [.sl (l.map dF) f2, .sl (by_.map iM) full] h (fun v g => v = .sl ((l.map (lJ (bX by_))).map dF) false ∧ g = h) := by
 refine F45.calls (by simp) ?_
 delta F45.c0
 simp -implicitDefEqProofs only [go_sem,seval]
 refine aX l (fun pre post e g => ∃ v, GL 55 6 h g v ((pre.map (lJ (bX by_))).map dF) ∧ e = [(0, .sl (l.map dF) f2), (1, .sl (by_.map iM) full), (5, v), (6, .int .i64 pre.length)]) (aF.env ?_) ⟨.sl [] true, .nil h, rfl⟩ ?_ ?_
 ·simp -implicitDefEqProofs only [go_sem,seval]
 ·rintro pre x post e g hp ⟨v, G, rfl⟩
  have hx := hs x (bJ hp)
  have hpl := (gE hp).2
  simp -implicitDefEqProofs only [go_sem,seval, bI hp, aI (aK hp) (eO x)]
  refine aS fun b hbk => ?_
  simp -implicitDefEqProofs only [go_sem,seval, aEw x]
  refine tcE (hZ _ x.name hx.1.1 hx.1.2 by_ hb.few hb.small full) ?_
  simp -implicitDefEqProofs only [go_sem,seval]
  refine tcE (hZ _ x.t.name hx.2.1 hx.2.2 by_ hb.few hb.small full) ?_
  simp -implicitDefEqProofs only [go_sem,seval, aB]
  refine (G.fresh hbk _).mS (xs := dF (lJ (bX by_) x)) (bytes := 96) rfl (by unfold roomFor; simp; omega) (fun v' g' G' => ?_)
  simp -implicitDefEqProofs only [go_sem,seval]
  obtain ⟨h3, G3, le3⟩ := G'.zV (h0 := h) (AHeap.b8 (by
   cases hh : h b with
   | none => rfl
   | some o => rw [G.at hh] at hbk; cases hbk))
  refine ⟨_, h3, aF.of ?_ (.of_le le3), v', ?_, rfl⟩
  ·simp -implicitDefEqProofs only [go_sem,seval, aQ hl hp]
  ·simpa using G3
 ·rintro e g ⟨v, G, rfl⟩
  simp -implicitDefEqProofs only [go_sem,seval, bE]
  refine aM.same ?_
  simp -implicitDefEqProofs only [go_sem,seval]
  exact G.tQ ⟨rfl, rfl⟩
theorem zN [GI] {by_ : List vJ} (hb : T3 by_) (full : Bool) : ∀ (n : Nat) (l : List Stmt), aZ.sz l ≤ n → few l → (∀ x ∈ l, x.ok) → lL soft l → wSs l ≤ 274877906944 → ∀ (f2 : Bool) (h : AHeap),
  aD prog 47 [.sl (l.map bA) f2, .sl (by_.map iM) full] h (fun v g => v = .sl ((fH (bX by_) l).map bA) false ∧ g = h) := by
 intro n
 induction n with
 | zero =>
  intro l hn hl ho hs hw f2 h
  cases l with
  | cons x r => simp [aZ.sz] at hn
  | nil =>
   refine F47.calls (by simp) ?_
   delta F47.c0
   simp -implicitDefEqProofs only [go_sem,seval]
   refine gR ?_
   simp -implicitDefEqProofs only [go_sem,seval]
   exact (GL.nil (ty := 57) (size := 16) h).tQ ⟨rfl, rfl⟩
 | succ n ih =>
  intro l hn hl ho hs hw f2 h
  refine F47.calls (by simp) ?_
  delta F47.c0
  simp -implicitDefEqProofs only [go_sem,seval]
  refine aX l (fun pre post e g => ∃ v, GL 57 16 h g v ((pre.map (rnS (bX by_))).map bA) ∧ e = [(0, .sl (l.map bA) f2), (1, .sl (by_.map iM) full), (5, v), (6, .int .i64 pre.length)]) (aF.env ?_) ⟨.sl [] true, .nil h, rfl⟩ ?_ ?_
  ·simp -implicitDefEqProofs only [go_sem,seval]
  ·rintro pre x post e g hp ⟨v, G, rfl⟩
   have hx := bJ hp
   have hxz := aZ.dU hx
   have hxw := aDJ hx
   have hz := Stmt.cY x
   have hwx := IY x
   have hpl := (gE hp).2
   have hlw := VH l
   have hel := AP x.e
   obtain ⟨i1, i2, i3, i4, i5⟩ := (qR soft x).1 (IE hs x hx)
   have hok := (Stmt.cN x).1 (ho x hx)
   simp -implicitDefEqProofs only [go_sem,seval, bI hp, aI (aK hp) (c6 x)]
   refine aS fun b hbk => ?_
   simp -implicitDefEqProofs only [go_sem,seval, dO x]
   refine tcE (hZ _ x.name i1.1 i1.2 by_ hb.few hb.small full) ?_
   simp -implicitDefEqProofs only [go_sem,seval]
   have hP := CK hb full _ x.p (Nat.le_refl _) hok.2.2.1 i2 (by omega)
   rw [cF x.p] at hP
   refine tcE (hP _) ?_
   simp -implicitDefEqProofs only [go_sem,seval, aB, cF (rnE (bX by_) x.p)]
   generalize hB : (AHeap.upd g b _) = B
   have hBb : B b = some (.blk [aE x.before, aE x.aP, .int .i64 x.op, .str (bX by_ x.name), .int .i64 (rnE (bX by_) x.p).op, .int .i64 (rnE (bX by_) x.p).n, .str (rnE (bX by_) x.p).name, .str (rnE (bX by_) x.p).field, .sl ((rnE (bX by_) x.p).l.map aO) false, .sl (x.e.map aO) false, .bool x.down, .bool x.more, .sl (x.body.map bA) false, .sl (x.els.map bA) false, aE x.cO, aE x.cT] 16 57) := by rw [← hB, aA]
   refine aX x.e (fun pre' post' e k => ∃ ve, GL 49 5 B k ve ((pre'.map (rnE (bX by_))).map aO) ∧ e = [(0, .sl (l.map bA) f2), (1, .sl (by_.map iM) full), (5, v), (6, .int .i64 pre.length), (7, .ptr (some ⟨b, 0, none⟩)), (8, ve), (9, .int .i64 pre'.length)]) (aF.env ?_) ⟨.sl [] true, .nil B, rfl⟩ ?_ ?_
   ·simp -implicitDefEqProofs only [go_sem,seval]
   ·rintro pre' y post' e k hp' ⟨ve, E, rfl⟩
    have hy := bJ hp'
    have hyw := VJ hy
    have hpl' := (gE hp').2
    have hkb := E.at hBb
    simp -implicitDefEqProofs only [go_sem,seval, hkb, bI hp', aI (aK hp') (aR y)]
    refine tcE (CK hb full _ y (Nat.le_refl _) (hok.2.2.2.2.1 y hy) (pR i3 y hy) (by omega) k) ?_
    simp -implicitDefEqProofs only [go_sem,seval, oU, bO]
    refine E.mS (xs := aO (rnE (bX by_) y)) (bytes := 72) (aR _) (by unfold roomFor; simp; omega) (fun v' g' E' => ?_)
    simp -implicitDefEqProofs only [go_sem,seval]
    refine ⟨_, _, aF.env ?_, v', ?_, rfl⟩
    ·simp -implicitDefEqProofs only [go_sem,seval, aQ hok.2.2.2.1 hp']
    ·simpa using E'
   ·rintro e k ⟨ve, E, rfl⟩
    have hkb := E.at hBb
    simp -implicitDefEqProofs only [go_sem,seval, hkb, bE]
    refine aM.to (e' := [(0, .sl (l.map bA) f2), (1, .sl (by_.map iM) full), (5, v), (6, .int .i64 pre.length), (7, .ptr (some ⟨b, 0, none⟩)), (8, .sl ((x.e.map (rnE (bX by_))).map aO) false)]) (g := B) (aF.of ?_ (.of_le E.le)) ?_
    ·simp -implicitDefEqProofs only [go_sem,seval]
     exact E.B7
    simp -implicitDefEqProofs only [go_sem,seval, hBb]
    refine tcE (ih x.body (by omega) hok.2.2.2.2.2.1 hok.2.2.2.2.2.2.1 i4 (by omega) false _) ?_
    simp -implicitDefEqProofs only [go_sem,seval]
    refine tcE (ih x.els (by omega) hok.2.2.2.2.2.2.2.1 hok.2.2.2.2.2.2.2.2.1 i5 (by omega) false _) ?_
    simp -implicitDefEqProofs only [go_sem,seval, aB]
    rw [← hB, aB]
    have hrow : bA (rnS (bX by_) x) = [aE x.before, aE x.aP, .int .i64 x.op, .str (bX by_ x.name), .int .i64 (rnE (bX by_) x.p).op, .int .i64 (rnE (bX by_) x.p).n, .str (rnE (bX by_) x.p).name, .str (rnE (bX by_) x.p).field, .sl ((rnE (bX by_) x.p).l.map aO) false, .sl ((x.e.map (rnE (bX by_))).map aO) false, .bool x.down, .bool x.more, .sl ((fH (bX by_) x.body).map bA) false, .sl ((fH (bX by_) x.els).map bA) false, aE x.cO, aE x.cT] := by
     rw [dO, mV, ← iC]
    rw [← hrow]
    refine (G.fresh hbk _).mS (xs := bA (rnS (bX by_) x)) (bytes := 272) (c6 _) (by unfold roomFor; simp; omega) (fun v' g' G' => ?_)
    simp -implicitDefEqProofs only [go_sem,seval]
    obtain ⟨h3, G3, le3⟩ := G'.zV (h0 := h) (AHeap.b8 (none_le G.le hbk))
    refine ⟨_, h3, aF.of ?_ (.of_le le3), v', ?_, rfl⟩
    ·simp -implicitDefEqProofs only [go_sem,seval, aQ hl hp]
    ·simpa using G3
  ·rintro e g ⟨v, G, rfl⟩
   simp -implicitDefEqProofs only [go_sem,seval, bE]
   refine aM.same ?_
   simp -implicitDefEqProofs only [go_sem,seval]
   refine G.tQ ⟨?_, rfl⟩
   rw [kT]
end Pg

namespace Pg
open Go Go.Proofs.Tryz
set_option linter.all false
set_option maxHeartbeats 4000000
set_option maxRecDepth 4000
theorem aBw (v : Param) : c7 v = [.str v.name, .int .i64 v.t.kind, .int .i64 v.t.size, .str v.t.name, .int .i64 v.mode] := rfl
theorem FW [GI] {by_ : List vJ} (hb : T3 by_) (full : Bool) : ∀ (n : Nat) (l : List Routine), bB.sz l ≤ n → few l → (∀ x ∈ l, x.ok) → kF soft l → wRs l ≤ 274877906944 → ∀ (f2 : Bool) (h : AHeap),
  aD prog 46 [.sl (l.map aU) f2, .sl (by_.map iM) full] h (fun v g => v = .sl ((iS (bX by_) l).map aU) false ∧ g = h) := by
 intro n
 induction n with
 | zero =>
  intro l hn hl ho hs hw f2 h
  cases l with
  | cons x r => simp [bB.sz] at hn
  | nil =>
   refine F46.calls (by simp) ?_
   delta F46.c0
   simp -implicitDefEqProofs only [go_sem,seval]
   refine gR ?_
   simp -implicitDefEqProofs only [go_sem,seval]
   exact (GL.nil (ty := 114) (size := 9) h).tQ ⟨rfl, rfl⟩
 | succ n ih =>
  intro l hn hl ho hs hw f2 h
  refine F46.calls (by simp) ?_
  delta F46.c0
  simp -implicitDefEqProofs only [go_sem,seval]
  refine aX l (fun pre post e g => ∃ v, GL 114 9 h g v ((pre.map (rnR (bX by_))).map aU) ∧ e = [(0, .sl (l.map aU) f2), (1, .sl (by_.map iM) full), (5, v), (6, .int .i64 pre.length)]) (aF.env ?_) ⟨.sl [] true, .nil h, rfl⟩ ?_ ?_
  ·simp -implicitDefEqProofs only [go_sem,seval]
  ·rintro pre x post e g hp ⟨v, G, rfl⟩
   have hx := bJ hp
   have hxz := bB.dU hx
   have hxw := aDK hx
   have hz := Routine.cY x
   have hwx := IZ x
   have hpl := (gE hp).2
   have hlw := VI l
   obtain ⟨i1, i2, i3, i4, i5⟩ := (oP soft x).1 (IF hs x hx)
   have hok := (Routine.cN x).1 (ho x hx)
   simp -implicitDefEqProofs only [go_sem,seval, bI hp, aI (aK hp) (bL x)]
   refine aS fun b hbk => ?_
   simp -implicitDefEqProofs only [go_sem,seval, dX x]
   refine tcE (hZ _ x.name i1.1 i1.2 by_ hb.few hb.small full) ?_
   simp -implicitDefEqProofs only [go_sem,seval, aB]
   generalize hB : (AHeap.upd g b _) = B
   have hBb : B b = some (.blk [aE x.before, aE x.aP, .str (bX by_ x.name), .int .i64 x.result, .sl (x.params.map c7) false, .sl (x.vars.map dF) false, .sl (x.inner.map aU) false, .sl (x.body.map bA) false, aE x.bT] 9 114) := by rw [← hB, aA]
   refine aX x.params (fun pre' post' e k => ∃ ve, GL 170 5 B k ve ((pre'.map (eK (bX by_))).map c7) ∧ e = [(0, .sl (l.map aU) f2), (1, .sl (by_.map iM) full), (5, v), (6, .int .i64 pre.length), (7, .ptr (some ⟨b, 0, none⟩)), (8, ve), (9, .int .i64 pre'.length)]) (aF.env ?_) ⟨.sl [] true, .nil B, rfl⟩ ?_ ?_
   ·simp -implicitDefEqProofs only [go_sem,seval]
   ·rintro pre' y post' e k hp' ⟨ve, E, rfl⟩
    have hy := i2 y (bJ hp')
    have hpl' := (gE hp').2
    have hkb := E.at hBb
    simp -implicitDefEqProofs only [go_sem,seval, hkb, bI hp', aI (aK hp') (bP y)]
    refine aS fun c hck => ?_
    simp -implicitDefEqProofs only [go_sem,seval, aBw y]
    refine tcE (hZ _ y.name hy.1.1 hy.1.2 by_ hb.few hb.small full) ?_
    simp -implicitDefEqProofs only [go_sem,seval]
    refine tcE (hZ _ y.t.name hy.2.1 hy.2.2 by_ hb.few hb.small full) ?_
    simp -implicitDefEqProofs only [go_sem,seval, aB]
    refine (E.fresh hck _).mS (xs := c7 (eK (bX by_) y)) (bytes := 56) rfl (by unfold roomFor; simp; omega) (fun v' g' E' => ?_)
    simp -implicitDefEqProofs only [go_sem,seval]
    obtain ⟨h3, E3, le3⟩ := E'.zV (h0 := B) (AHeap.b8 (none_le E.le hck))
    refine ⟨_, h3, aF.of ?_ (.of_le le3), v', ?_, rfl⟩
    ·simp -implicitDefEqProofs only [go_sem,seval, aQ hok.2.2.1 hp']
    ·simpa using E3
   ·rintro e k ⟨ve, E, rfl⟩
    have hkb := E.at hBb
    simp -implicitDefEqProofs only [go_sem,seval, hkb, bE]
    refine aM.to (e' := [(0, .sl (l.map aU) f2), (1, .sl (by_.map iM) full), (5, v), (6, .int .i64 pre.length), (7, .ptr (some ⟨b, 0, none⟩)), (8, .sl ((x.params.map (eK (bX by_))).map c7) false)]) (g := B) (aF.of ?_ (.of_le E.le)) ?_
    ·simp -implicitDefEqProofs only [go_sem,seval]
     exact E.B7
    simp -implicitDefEqProofs only [go_sem,seval, hBb]
    refine tcE (CJ hb full x.vars hok.2.2.2.1 i3 (by omega) false _) ?_
    simp -implicitDefEqProofs only [go_sem,seval]
    refine tcE (ih x.inner (by omega) hok.2.2.2.2.2.1 hok.2.2.2.2.2.2.1 i4 (by omega) false _) ?_
    simp -implicitDefEqProofs only [go_sem,seval]
    refine tcE (zN hb full _ x.body (Nat.le_refl _) hok.2.2.2.2.2.2.2.1 hok.2.2.2.2.2.2.2.2.1 i5 (by omega) false _) ?_
    simp -implicitDefEqProofs only [go_sem,seval, aB]
    rw [← hB, aB]
    have hrow : aU (rnR (bX by_) x) = [aE x.before, aE x.aP, .str (bX by_ x.name), .int .i64 x.result, .sl ((x.params.map (eK (bX by_))).map c7) false, .sl ((x.vars.map (lJ (bX by_))).map dF) false, .sl ((iS (bX by_) x.inner).map aU) false, .sl ((fH (bX by_) x.body).map bA) false, aE x.bT] := by
     rw [dX, kZ]
    rw [← hrow]
    refine (G.fresh hbk _).mS (xs := aU (rnR (bX by_) x)) (bytes := 192) (bL _) (by unfold roomFor; simp; omega) (fun v' g' G' => ?_)
    simp -implicitDefEqProofs only [go_sem,seval]
    obtain ⟨h3, G3, le3⟩ := G'.zV (h0 := h) (AHeap.b8 (none_le G.le hbk))
    refine ⟨_, h3, aF.of ?_ (.of_le le3), v', ?_, rfl⟩
    ·simp -implicitDefEqProofs only [go_sem,seval, aQ hl hp]
    ·simpa using G3
  ·rintro e g ⟨v, G, rfl⟩
   simp -implicitDefEqProofs only [go_sem,seval, bE]
   refine aM.same ?_
   simp -implicitDefEqProofs only [go_sem,seval]
   refine G.tQ ⟨?_, rfl⟩
   rw [oD]
theorem aEx (r : Rec) : eB r = [aE r.before, aE r.aP, .str r.name, .sl (r.fields.map eFld) false, aE r.bT] := rfl
theorem aEy (f : Fld) : eFld f = [aE f.before, aE f.aP, .str f.name, .int .i64 f.kind] := rfl
theorem MI : ∀ l : List Rec, l.length ≤ qX l
 | [] => by simp [qX]
 | x :: r => by
  have := MI r
  simp only [qX, List.map_cons, List.sum_cons, List.length_cons, wO] at this ⊢; omega
theorem Z3 {l : List Rec} {x : Rec} (h : x ∈ l) : wO x ≤ qX l := by
 induction l with
 | nil => cases h
 | cons y r ih =>
  simp only [qX, List.map_cons, List.sum_cons] at ih ⊢
  rcases List.mem_cons.1 h with rfl | h
  ·omega
  ·have := ih h; omega
theorem VC [GI] {by_ : List vJ} (hb : T3 by_) (full : Bool) (p : Prg) (ho : p.ok) (hs : inP soft p) (hw : wP p ≤ 274877906944) (h : AHeap) :
  aD prog 17 [.agg (fJ p), .sl (by_.map iM) full] h (fun v g => v = .agg (fJ (rnP (bX by_) p)) ∧ g = h) := by
 unfold wP at hw
 have hrl := MI p.recs
 refine F17.calls (by simp) ?_
 delta F17.c0
 simp -implicitDefEqProofs only [go_sem,seval]
 refine aS fun b4 hb4 => ?_
 simp -implicitDefEqProofs only [go_sem,seval]
 refine aS fun b5 hb5 => ?_
 obtain ⟨hne, hb5'⟩ := P8 hb5
 simp -implicitDefEqProofs only [go_sem,seval, gY p]
 refine tcE (hZ _ p.name hs.name.1 hs.name.2 by_ hb.few hb.small full) ?_
 simp -implicitDefEqProofs only [go_sem,seval, aB]
 generalize hB : (h.upd b4 _) = B
 have hB4 : ∃ z, B b4 = some (.blk z 9 28) ∧ z.length = 9 := by rw [← hB, aA]; exact ⟨_, rfl, rfl⟩
 obtain ⟨z4, hB4, hz4⟩ := hB4
 have hBle : h.le B := by rw [← hB]; exact AHeap.b8 hb4
 have hB5 : B b5 = none := by rw [← hB]; exact hb5
 let cells : AV → List AV := fun v => [.str (bX by_ p.name), aE p.before, aE p.mid, aE p.after, v, .sl (p.vars.map dF) false, .sl (p.aH.map aU) false, .sl (p.body.map bA) false, aE p.bT]
 refine aX p.recs (fun pre post e g => ∃ v, GL 65 5 (B.upd b5 (.blk (cells v) 9 28)) g v ((pre.map (gA (bX by_))).map eB) ∧ e = [(1, .sl (by_.map iM) full), (2, .ip (fJ p) 0), (4, .ptr (some ⟨b4, 0, none⟩)), (5, .ptr (some ⟨b5, 0, none⟩)), (6, .int .i64 pre.length)]) (aF.env ?_) ⟨.sl [] true, .nil _, rfl⟩ ?_ ?_
 ·skip
  rw [gY p]
  simp -implicitDefEqProofs only [go_sem,seval]
 ·rintro pre x post e g hp ⟨v, G, rfl⟩
  have hx := hs.recs x (bJ hp)
  have ox := ho.rV x (bJ hp)
  have hxw := Z3 (bJ hp)
  have hpl := (gE hp).2
  have hwr : 2 + x.fields.length ≤ wO x := by unfold wO; omega
  have hg5 : g b5 = some (.blk [.str (bX by_ p.name), aE p.before, aE p.mid, aE p.after, v, .sl (p.vars.map dF) false, .sl (p.aH.map aU) false, .sl (p.body.map bA) false, aE p.bT] 9 28) := G.at (aA B b5 _)
  simp -implicitDefEqProofs only [go_sem,seval, bI hp, aI (aK hp) (dG x)]
  refine aS fun b hbk => ?_
  have hb5n : b5 ≠ b := by intro hh; subst hh; rw [hg5] at hbk; cases hbk
  simp -implicitDefEqProofs only [go_sem,seval, aEx x]
  refine tcE (hZ _ x.name hx.1.1 hx.1.2 by_ hb.few hb.small full) ?_
  simp -implicitDefEqProofs only [go_sem,seval, aB]
  generalize hC : (AHeap.upd g b _) = C
  have hCb : C b = some (.blk [aE x.before, aE x.aP, .str (bX by_ x.name), .sl (x.fields.map eFld) false, aE x.bT] 5 65) := by rw [← hC, aA]
  refine aX x.fields (fun pre' post' e k => ∃ ve, GL 68 4 C k ve ((pre'.map (jO (bX by_))).map eFld) ∧ e = [(1, .sl (by_.map iM) full), (2, .ip (fJ p) 0), (4, .ptr (some ⟨b4, 0, none⟩)), (5, .ptr (some ⟨b5, 0, none⟩)), (6, .int .i64 pre.length), (7, .ptr (some ⟨b, 0, none⟩)), (8, ve), (9, .int .i64 pre'.length)]) (aF.env ?_) ⟨.sl [] true, .nil C, rfl⟩ ?_ ?_
  ·simp -implicitDefEqProofs only [go_sem,seval]
  ·rintro pre' y post' e k hp' ⟨ve, E, rfl⟩
   have hy := hx.2 y (bJ hp')
   have hpl' := (gE hp').2
   have hkb := E.at hCb
   simp -implicitDefEqProofs only [go_sem,seval, hkb, bI hp', aI (aK hp') (eC y)]
   refine aS fun c hck => ?_
   simp -implicitDefEqProofs only [go_sem,seval, aEy y]
   refine tcE (hZ _ y.name hy.1 hy.2 by_ hb.few hb.small full) ?_
   simp -implicitDefEqProofs only [go_sem,seval, aB]
   refine (E.fresh hck _).mS (xs := eFld (jO (bX by_) y)) (bytes := 72) rfl (by unfold roomFor; simp; omega) (fun v' g' E' => ?_)
   simp -implicitDefEqProofs only [go_sem,seval]
   obtain ⟨h3, E3, le3⟩ := E'.zV (h0 := C) (AHeap.b8 (none_le E.le hck))
   refine ⟨_, h3, aF.of ?_ (.of_le le3), v', ?_, rfl⟩
   ·simp -implicitDefEqProofs only [go_sem,seval, aQ ox.fields hp']
   ·simpa using E3
  ·rintro e k ⟨ve, E, rfl⟩
   have hkb := E.at hCb
   simp -implicitDefEqProofs only [go_sem,seval, hkb, bE]
   refine aM.to (e' := [(1, .sl (by_.map iM) full), (2, .ip (fJ p) 0), (4, .ptr (some ⟨b4, 0, none⟩)), (5, .ptr (some ⟨b5, 0, none⟩)), (6, .int .i64 pre.length), (7, .ptr (some ⟨b, 0, none⟩)), (8, .sl ((x.fields.map (jO (bX by_))).map eFld) false)]) (g := C) (aF.of ?_ (.of_le E.le)) ?_
   ·simp -implicitDefEqProofs only [go_sem,seval]
    exact E.B7
   have hC5 : C b5 = some (.blk [.str (bX by_ p.name), aE p.before, aE p.mid, aE p.after, v, .sl (p.vars.map dF) false, .sl (p.aH.map aU) false, .sl (p.body.map bA) false, aE p.bT] 9 28) := by rw [← hC, aC _ _ _ hb5n]; exact hg5
   simp -implicitDefEqProofs only [go_sem,seval, hCb, aC _ _ _ hb5n, hC5]
   rw [← hC, aB]
   have hrow : eB (gA (bX by_) x) = [aE x.before, aE x.aP, .str (bX by_ x.name), .sl ((x.fields.map (jO (bX by_))).map eFld) false, aE x.bT] := rfl
   rw [← hrow]
   refine (G.fresh hbk _).mS (xs := eB (gA (bX by_) x)) (bytes := 112) rfl (by unfold roomFor; simp; omega) (fun v' g' G' => ?_)
   obtain ⟨h3, G3, le3⟩ := G'.zV (h0 := B.upd b5 (.blk (cells v) 9 28)) (AHeap.b8 (none_le G.le hbk))
   have hg5' : g' b5 = some (.blk [.str (bX by_ p.name), aE p.before, aE p.mid, aE p.after, v, .sl (p.vars.map dF) false, .sl (p.aH.map aU) false, .sl (p.body.map bA) false, aE p.bT] 9 28) := le3 _ _ (G3.at (aA B b5 _))
   simp -implicitDefEqProofs only [go_sem,seval, hg5', G3.cells]
   have G4 := G3.upd (aA B b5 _) (.blk (cells v') 9 28)
   rw [aB] at G4
   refine ⟨_, _, aF.of ?_ (.of_le (oH le3 b5 _)), v', ?_, rfl⟩
   ·simp -implicitDefEqProofs only [go_sem,seval, aQ ho.recs hp]
   ·simpa using G4
 ·rintro e g ⟨v, G, rfl⟩
  have hg5 : g b5 = some (.blk [.str (bX by_ p.name), aE p.before, aE p.mid, aE p.after, v, .sl (p.vars.map dF) false, .sl (p.aH.map aU) false, .sl (p.body.map bA) false, aE p.bT] 9 28) := G.at (aA B b5 _)
  have hg4 : g b4 = some (.blk z4 9 28) := G.at (by rw [aC _ _ _ hne.symm]; exact hB4)
  simp -implicitDefEqProofs only [go_sem,seval, bE]
  refine aM.same ?_
  simp -implicitDefEqProofs only [go_sem,seval]
  refine tcE (CJ hb full p.vars ho.vars hs.vars (by omega) false _) ?_
  simp -implicitDefEqProofs only [go_sem,seval, hg5]
  refine tcE (FW hb full _ p.aH (Nat.le_refl _) ho.aH ho.iO hs.aH (by omega) false _) ?_
  simp -implicitDefEqProofs only [go_sem,seval]
  refine tcE (zN hb full _ p.body (Nat.le_refl _) ho.body ho.rH hs.body (by omega) false _) ?_
  simp -implicitDefEqProofs only [go_sem,seval, aC _ _ _ hne.symm, hg4, aB, hz4]
  rw [oU (by rw [hz4]; rfl)]
  refine eE.less (dE.agg ?_) ?_ ⟨rfl, rfl⟩
  ·rw [gY]
   simp only [rnP]
   exact .cons (.refl _) (.cons (.refl _) (.cons (.refl _) (.cons (.refl _) (.cons G.B7 (.cons (.refl _) (.cons (.refl _) (.cons (.refl _) (.cons (.refl _) .nil))))))))
  ·exact yM hb4 (yM hb5' (AHeap.le_trans (AHeap.le_trans hBle (AHeap.b8 hB5)) G.le) _) _
end Pg
