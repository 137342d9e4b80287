import Derived.Test.YtdfbkddelhbgmaaGreatDoorTreeSS3
import Derived.Test.YtdfbkddelhbgmaaGreatDoorRun4JS3
namespace Pg
open Go Go.Proofs.Tryz
set_option linter.all false
set_option maxHeartbeats 4000000
set_option maxRecDepth 4000
def U4 (p q r t : Nat) (s : AHeap) (a b c d : AObj) : AHeap := (((s.upd p a).upd q b).upd r c).upd t d
structure tU (p q r t : Nat) (s l : AHeap) : Prop where
 pq : p ≠ q
 pr : p ≠ r
 pt : p ≠ t
 qr : q ≠ r
 qt : q ≠ t
 rt : r ≠ t
 sp : s p = none
 sq : s q = none
 sr : s r = none
 stt : s t = none
 lp : l p = none
 lq : l q = none
 lr : l r = none
 lt : l t = none
section
set_option linter.all false
variable {p q r t : Nat} {s l : AHeap} (D : tU p q r t s l)
include D
theorem tU.at1 (l : AHeap) (a b c d : AObj) : ((U4 p q r t s a b c d).join l) p = some a := fP (by simp [U4, AHeap.upd, D.pq, D.pr, D.pt])
theorem tU.at2 (l : AHeap) (a b c d : AObj) : ((U4 p q r t s a b c d).join l) q = some b := fP (by simp [U4, AHeap.upd, D.qr, D.qt])
theorem tU.at3 (l : AHeap) (a b c d : AObj) : ((U4 p q r t s a b c d).join l) r = some c := fP (by simp [U4, AHeap.upd, D.rt])
theorem tU.at4 (l : AHeap) (a b c d : AObj) : ((U4 p q r t s a b c d).join l) t = some d := fP (by simp [U4, AHeap.upd])
theorem tU.up1 (l : AHeap) (a b c d o : AObj) : ((U4 p q r t s a b c d).join l).upd p o = (U4 p q r t s o b c d).join l := by
 rw [bZ, U4, bH _ _ _ D.pt.symm, bH _ _ _ D.pr.symm, bH _ _ _ D.pq.symm, aB]; rfl
theorem tU.up2 (l : AHeap) (a b c d o : AObj) : ((U4 p q r t s a b c d).join l).upd q o = (U4 p q r t s a o c d).join l := by
 rw [bZ, U4, bH _ _ _ D.qt.symm, bH _ _ _ D.qr.symm, aB]; rfl
theorem tU.up3 (l : AHeap) (a b c d o : AObj) : ((U4 p q r t s a b c d).join l).upd r o = (U4 p q r t s a b o d).join l := by
 rw [bZ, U4, bH _ _ _ D.rt.symm, aB]; rfl
theorem tU.up4 (l : AHeap) (a b c d o : AObj) : ((U4 p q r t s a b c d).join l).upd t o = (U4 p q r t s a b c o).join l := by
 rw [bZ, U4, aB]; rfl
theorem tU.le (a b c d : AObj) : s.le (U4 p q r t s a b c d) := by
 intro k o e
 have h1 : k ≠ p := by intro h; rw [h, D.sp] at e; cases e
 have h2 : k ≠ q := by intro h; rw [h, D.sq] at e; cases e
 have h3 : k ≠ r := by intro h; rw [h, D.sr] at e; cases e
 have h4 : k ≠ t := by intro h; rw [h, D.stt] at e; cases e
 simp [U4, AHeap.upd, h1, h2, h3, h4, e]
theorem tU.here {c : Cfg} {C M st : Nat} {ch : Chn} {x : MSt} (h : jA c C M st s l ch x) (a b d e : AObj) : jA c C M st (U4 p q r t s a b d e) l ch x :=
 (((h.up a D.sp D.lp).up b (by rw [aC _ _ _ D.pq.symm]; exact D.sq) D.lq).up d (by rw [aC _ _ _ D.qr.symm, aC _ _ _ D.pr.symm]; exact D.sr) D.lr).up e (by rw [aC _ _ _ D.rt.symm, aC _ _ _ D.qt.symm, aC _ _ _ D.pt.symm]; exact D.stt) D.lt
theorem tU.apart {a b c d : AObj} {l' : AHeap} (h : (U4 p q r t s a b c d).apart l') (a' b' c' d' : AObj) : (U4 p q r t s a' b' c' d').apart l' := by
 intro k o e
 by_cases h1 : k = t
 ·subst h1; exact h k d (by simp [U4, AHeap.upd])
 by_cases h2 : k = r
 ·subst h2; exact h k c (by simp [U4, AHeap.upd, h1])
 by_cases h3 : k = q
 ·subst h3; exact h k b (by simp [U4, AHeap.upd, h1, h2])
 by_cases h4 : k = p
 ·subst h4; exact h k a (by simp [U4, AHeap.upd, h1, h2, h3])
 simp only [U4, AHeap.upd, h1, h2, h3, h4, if_false] at e
 exact h k o (by simp [U4, AHeap.upd, h1, h2, h3, h4, e])
end
theorem tY (v : VarAt) (i : Int) (t : Typ) (x : MSt) : iD v i t x = if x.code = 0 then (((sV (v.frm, v.len) i x).1, t), (sV (v.frm, v.len) i x).2) else (((v.frm, v.len), t), x) := by
 unfold iD
 rw [b6, mQ]
 by_cases hc : x.code = 0
 ·simp only [hc, decide_true, if_true]; rfl
 ·simp only [hc, decide_false, Bool.false_eq_true, if_false]; rfl
theorem aA4 (c : Cfg) (o : Ops) (ch : List Frm) (e : Expr) (x : MSt) : oO c o ch e x =
  if e.op = 5 then iD (varOf e.name ch) (max (-1) (min (o.eval ch (e.at 0) x).1 64)) ⟨(varOf e.name ch).t.kind, 0, noBytes⟩ (o.eval ch (e.at 0) x).2
  else if e.op = 6 then iD (varOf e.name ch) (jE c.recs (varOf e.name ch).t e.field).1 (jE c.recs (varOf e.name ch).t e.field).2 x
  else ((((varOf e.name ch).frm, (varOf e.name ch).len), (varOf e.name ch).t), x) := by
 unfold oO
 split
 ·rfl
 ·split <;> rfl
def yT (r : Int × Int) (i : Int) (x : MSt) : Int := if Pg.there x r.1 r.2 = true then (if i < 0 ∨ r.2 ≤ i then 19 else 0) else 13
theorem B2 (r : Int × Int) (i : Int) (x : MSt) : (sV r i x).2 = if yT r i x = 0 then x else x.fail 19 := by
 unfold sV yT
 split
 ·split <;> simp
 ·simp
theorem v8 [GI] {s l : AHeap} {M st : Nat} {c : Cfg} {x : MSt} (a : s.apart l) (m : Mem l M st c x) (hx : MOk c x) (r : Int × Int) (i : Int) : aD prog 165 [.ptr (some ⟨st, 0, none⟩), .agg [.int .i64 r.1, .int .i64 r.2], .int .i64 i] (s.join l) (fun v g => v = .tuple [QX (sV r i x).1, .int .i64 (yT r i x)] ∧ g = s.join l) := by
 refine (aBP a m hx r.1 r.2 i).mono ?_
 rintro v g ⟨rfl, rfl⟩
 refine ⟨?_, rfl⟩
 unfold sV yT
 split
 ·split <;> rfl
 ·rfl
def rNo (nm : ByteArray) (l : List Rec) : Prop := ∀ r ∈ l, ¬ r.name = nm
def fNo (nm : ByteArray) (l : List Fld) : Prop := ∀ f ∈ l, ¬ f.name = nm
theorem gI (t : Typ) (k : Int) : bM (bV t) 0 [.int .i64 k, .int .i64 0, .str ⟨#[]⟩] = bV ⟨k, 0, noBytes⟩ := rfl
theorem aCU (n : Int) : (if (if 64 < n then 64 else n) > -1 then (if 64 < n then 64 else n) else -1) = max (-1) (min n 64) := by
 split <;> split at * <;> omega
theorem iB (a b c : AV) (t : Typ) : bM [a, b, c] 0 (bV t) = bV t := rfl
theorem ZS [GI] {c : Cfg} {C M st N : Nat} (L : Lv c C M st N) {s l : AHeap} {ch : Chn} {x : MSt} {e : Expr} (h : jA c C M st s l ch x) (he : EOk (scs ch) e) (hN : left c x * C + (4 * e.sz + 1) ≤ N + 1) :
  aD prog 127 [.ptr (some ⟨M, 0, none⟩), scV M ch, .agg (aO e)] (s.join l) (To c M st s (.tuple [QX ((ops c (N + 1)).place (bG ch) e x).1.1, .agg (bV ((ops c (N + 1)).place (bG ch) e x).1.2)]) ((ops c (N + 1)).place (bG ch) e x).2) := by
 have hR : (ops c (N + 1)).place (bG ch) e x = oO c (ops c N) (bG ch) e x := rfl
 rw [aA4] at hR
 generalize (ops c (N + 1)).place (bG ch) e x = R at hR ⊢
 have he0 := he
 cases he with
 | mk _ hl hop h1 h2 hcl sub =>
 refine S9.calls (by simp) ?_
 delta S9.c0
 simp only [go_sem,seval]
 refine aS fun p hp => ?_
 simp only [go_sem,seval]
 refine aS fun q hq => ?_
 have hpq := iF hq
 have hqH := fT hq
 obtain ⟨hp1, hp2⟩ := join_none hp
 obtain ⟨hq1, hq2⟩ := join_none hqH
 simp only [go_sem,seval, xR]
 refine L7 (f := 231) (by kernel_rfl) (by kernel_rfl) ?_
 have hv := C0 (H := ((s.join l).upd p (.blk [.int .i64 0, .int .i64 0] 2 146)).upd q (.blk [.int .i64 0, .int .i64 0, .str noBytes] 3 51)) (ch := ch) (h.names.le (AHeap.le_trans (AHeap.rT s l) (AHeap.le_trans (AHeap.b8 hp) (AHeap.b8 hq)))) (.ip [.ptr (some ⟨M, 0, none⟩)] 0) e.name
 refine tcE (hv) ?_
 generalize varOf e.name (bG ch) = v at hR
 simp only [go_sem,seval]
 refine aS fun r hr => ?_
 simp only [go_sem,seval]
 refine aS fun t ht => ?_
 have hr3 := fT (fT hr)
 have ht3 := fT (fT (fT ht))
 obtain ⟨hr1, hr2⟩ := join_none hr3
 obtain ⟨ht1, ht2⟩ := join_none ht3
 have D : tU p q r t s l := ⟨hpq, iF (fT hr), iF (fT (fT ht)), iF hr, iF (fT ht), iF ht, hp1, hq1, hr1, ht1, hp2, hq2, hr2, ht2⟩
 have hU : ∀ a b c d, ((((s.join l).upd p a).upd q b).upd r c).upd t d = (U4 p q r t s a b c d).join l := fun a b c d => by simp only [bZ]; rfl
 rw [hU]
 have fin : ∀ (l' : AHeap) (y : MSt) (a b d e : AObj) (V : AV), (U4 p q r t s a b d e).apart l' → Mem l' M st c y → y = R.2 → V = .tuple [QX R.1.1, .agg (bV R.1.2)] → eE (To c M st s (.tuple [QX R.1.1, .agg (bV R.1.2)]) R.2) V ((U4 p q r t s a b d e).join l') := fun l' y a b d e V ha hm hy hV => by
  subst hy hV
  exact .forget (n8 (D.le _ _ _ _) ha) ⟨rfl, l', rfl, kJ ha (D.le _ _ _ _), hm⟩
 by_cases o5 : e.op = 5
 ·rw [if_pos o5] at hR
  obtain ⟨y0, hy0, ha0, hk0, hz0⟩ := he0.at (i := 0) (by have := h1 (by omega); omega)
  rw [ha0] at hR
  simp only [go_sem,seval, D.at1, D.at2, D.at3, D.at4, D.up1, D.up2, D.up3, D.up4, iB, gI, dW, fU, cE, b9, dL, o5, hO, aR, bO, kY hy0]
  have H0 := D.here h (.blk [.int .i64 0, .int .i64 0] 2 146) (.blk [.int .i64 0, .int .i64 0, .str noBytes] 3 51) (.blk [.int .i64 v.frm, .int .i64 v.len] 2 146) (.blk (bV v.t) 3 51)
  have kA := (fG c N).2.1 (bG ch) y0 x
  refine tcM (L.eval H0 hk0 (by omega)) fun l1 a1 m1 => ?_
  generalize (ops c N).eval (bG ch) y0 x = A at hR m1 kA
  obtain ⟨n, y⟩ := A
  simp only at hR m1 kA
  simp only [go_sem,seval, D.at1, D.at2, D.at3, D.at4, D.up1, D.up2, D.up3, D.up4, iB, gI, dW, b9, aCU]
  have H : jA c C M st (U4 p q r t s (.blk [.int .i64 0, .int .i64 0] 2 146) (.blk [.int .i64 0, .int .i64 0, .str noBytes] 3 51) (.blk [.int .i64 v.frm, .int .i64 v.len] 2 146) (.blk (bV ⟨v.t.kind, 0, noBytes⟩) 3 51)) l1 ch y := ⟨D.apart a1 _ _ _ _, m1, kA.ok h.ok, h.names.le (D.le _ _ _ _), h.sc, h.recs, h.BO, h.C1⟩
  obtain ⟨cv, ov, f, m'⟩ := m1
  rw [tY] at hR
  have hM := m'.hMj H.a
  refine tcE (dS H.a H.m) ?_
  by_cases hcy : y.code = 0
  case neg =>
   rw [if_neg hcy] at hR
   simp only [go_sem,seval, hcy, D.at1, D.at2, D.at3, D.at4, D.up1, D.up2, D.up3, D.up4, iB, gI, dW, fU, cE, b9]
   exact fin _ _ _ _ _ _ _ (D.apart H.a _ _ _ _) H.m (by rw [hR]) (by rw [hR])
  rw [if_pos hcy] at hR
  simp only [go_sem,seval, hcy, hM, D.at1, D.at2, D.at3, D.at4, D.up1, D.up2, D.up3, D.up4, iB, gI, dW, fU, cE, b9]
  refine tcE (v8 H.a H.m H.ok (v.frm, v.len) _) ?_
  simp only [go_sem,seval, hM, D.at1, D.at2, D.at3, D.at4, D.up1, D.up2, D.up3, D.up4, iB, gI, dW, fU, cE, b9]
  refine aS fun w hw => ?_
  have hMw : M ≠ w := by intro hh; subst hh; rw [hM] at hw; cases hw
  have hrw : r ≠ w := by intro hh; subst hh; rw [D.at3] at hw; cases hw
  have hdel := fun o => fE _ w o hw
  simp only [go_sem,seval, aC _ _ _ hMw, hM, aC _ _ _ hrw, D.at3, aA, aB, hdel]
  rw [B2] at hR
  generalize hE : yT (v.frm, v.len) _ y = E at hR ⊢
  by_cases hz : E = 0
  ·rw [if_pos hz] at hR
   simp only [go_sem,seval, hz, D.at1, D.at2, D.at3, D.at4, D.up1, D.up2, D.up3, D.up4, iB, gI, dW, fU, cE, b9]
   exact fin _ _ _ _ _ _ _ (D.apart H.a _ _ _ _) H.m (by rw [hR]) (by rw [hR])
  ·rw [if_neg hz] at hR
   simp only [go_sem,seval, hz]
   refine tcM (nB H.a H.m 19) fun l5 a5 m5 => ?_
   simp only [go_sem,seval, D.at1, D.at2, D.at3, D.at4, D.up1, D.up2, D.up3, D.up4, iB, gI, dW, fU, cE, b9]
   exact fin _ _ _ _ _ _ _ (D.apart a5 _ _ _ _) m5 (by rw [hR]) (by rw [hR])
 rw [if_neg o5] at hR
 by_cases o6 : e.op = 6
 case neg =>
  rw [if_neg o6] at hR
  simp only [go_sem,seval, o5, o6, D.at1, D.at2, D.at3, D.at4, D.up1, D.up2, D.up3, D.up4, iB, gI, b9, cE]
  exact fin _ _ _ _ _ _ _ (D.here h _ _ _ _).a h.m (by rw [hR]) (by rw [hR])
 rw [if_pos o6] at hR
 obtain ⟨y, hyx⟩ : ∃ y, y = x := ⟨x, rfl⟩
 subst hyx
 obtain ⟨cv, ov, f, m'⟩ := h.m
 have hM0 := fun a b d e => m'.hMj (D.here h a b d e).a
 simp only [go_sem,seval, o5, o6, hM0, D.at1, D.at2, D.at3, D.at4, D.up1, D.up2, D.up3, D.up4, iB, gI, dW, fU, cE, b9]
 refine aX c.recs (fun pre post e' g => rNo v.t.name pre ∧ g = (U4 p q r t s (.blk [.int .i64 0, .int .i64 0] 2 146) (.blk [.int .i64 0, .int .i64 0, .str noBytes] 3 51) (.blk [.int .i64 v.frm, .int .i64 v.len] 2 146) (.blk (bV v.t) 3 51)).join l ∧ e' = [(0, .ptr (some ⟨M, 0, none⟩)), (1, scV M ch), (5, .ip (aO e) 0), (6, .ptr (some ⟨p, 0, none⟩)), (7, .ptr (some ⟨q, 0, none⟩)), (8, .ptr (some ⟨r, 0, none⟩)), (9, .ptr (some ⟨t, 0, none⟩)), (10, .int .i64 0), (49, .sl (c.recs.map eB) false), (50, .int .i64 c.recs.length), (51, .int .i64 pre.length)]) (aF.env ?_) ⟨by simp [rNo], rfl, rfl⟩ ?_ ?_
 ·simp only [go_sem,seval]
 ·rintro pre rc post e' g hp' ⟨hn, rfl, rfl⟩
  have hwf := h.BO rc (bJ hp')
  simp only [go_sem,seval, bI hp', aI (aK hp') (dG rc), rec_2, rec_3, D.at1, D.at2, D.at3, D.at4, D.up1, D.up2, D.up3, D.up4, iB, gI, dW, fU, cE, b9]
  by_cases hrn : rc.name = v.t.name
  case neg =>
   simp only [go_sem,seval, hrn]
   refine ⟨_, _, aF.env ?_, fun z hz => ?_, rfl, rfl⟩
   ·simp only [go_sem,seval, aQ h.recs hp']
   ·rcases List.mem_append.1 hz with hz | hz
    ·exact hn z hz
    ·simp at hz; subst hz; exact hrn
  have hfr : c.recs.find? (fun z => decide (z.name = v.t.name)) = some rc := by
   rw [hp', List.find?_append]
   have : pre.find? (fun z => decide (z.name = v.t.name)) = none := List.find?_eq_none.2 fun z hz => by simpa using hn z hz
   rw [this]; simp [hrn]
  simp only [go_sem,seval, hrn, rec_3]
  refine aX rc.fields (fun pre' post' e' g => fNo e.field pre' ∧ g = (U4 p q r t s (.blk [.int .i64 0, .int .i64 0] 2 146) (.blk [.int .i64 0, .int .i64 0, .str noBytes] 3 51) (.blk [.int .i64 v.frm, .int .i64 v.len] 2 146) (.blk (bV v.t) 3 51)).join l ∧ e' = [(0, .ptr (some ⟨M, 0, none⟩)), (1, scV M ch), (5, .ip (aO e) 0), (6, .ptr (some ⟨p, 0, none⟩)), (7, .ptr (some ⟨q, 0, none⟩)), (8, .ptr (some ⟨r, 0, none⟩)), (9, .ptr (some ⟨t, 0, none⟩)), (10, .int .i64 0), (49, .sl (c.recs.map eB) false), (50, .int .i64 c.recs.length), (51, .int .i64 pre.length), (61, .sl (rc.fields.map eFld) false), (62, .int .i64 rc.fields.length), (63, .int .i64 pre'.length)]) (aF.env ?_) ⟨by simp [fNo], rfl, rfl⟩ ?_ ?_
  ·simp only [go_sem,seval]
  ·rintro pre' fd post' e' g hp2 ⟨hn2, rfl, rfl⟩
   simp only [go_sem,seval, bI hp2, aI (aK hp2) (eC fd), KI, EH, D.at1, D.at2, D.at3, D.at4, D.up1, D.up2, D.up3, D.up4, iB, gI, dW, fU, cE, b9]
   by_cases hfn : fd.name = e.field
   case neg =>
    simp only [go_sem,seval, hfn]
    refine ⟨_, _, aF.env ?_, fun z hz => ?_, rfl, rfl⟩
    ·simp only [go_sem,seval, aQ hwf hp2]
    ·rcases List.mem_append.1 hz with hz | hz
     ·exact hn2 z hz
     ·simp at hz; subst hz; exact hfn
   have hff : jE c.recs v.t e.field = ((pre'.length : Int), ⟨fd.kind, 0, noBytes⟩) := by
    have hix : rc.fields.findIdx? (fun z => decide (z.name = e.field)) = some pre'.length := by
     rw [hp2, List.findIdx?_append]
     have : pre'.findIdx? (fun z => decide (z.name = e.field)) = none := List.findIdx?_eq_none_iff.2 fun z hz => by simpa using hn2 z hz
     rw [this]; simp [List.findIdx?_cons, hfn]
    have hgd : rc.fields.getD pre'.length ⟨[], [], noBytes, 0⟩ = fd := by rw [hp2]; simp
    simp only [jE, hfr, hix, hgd]
   rw [hff] at hR
   simp only [go_sem,seval, hfn, KH, D.at1, D.at2, D.at3, D.at4, D.up1, D.up2, D.up3, D.up4, iB, gI, dW, fU, cE, b9]
   refine aM.same ?_
   simp only [go_sem,seval]
   refine aM.same ?_
   simp only [go_sem,seval]
   have H := D.here h (.blk [.int .i64 0, .int .i64 0] 2 146) (.blk [.int .i64 0, .int .i64 0, .str noBytes] 3 51) (.blk [.int .i64 v.frm, .int .i64 v.len] 2 146) (.blk (bV ⟨fd.kind, 0, noBytes⟩) 3 51)
   rw [tY] at hR
   have hM := m'.hMj H.a
   refine tcE (dS H.a H.m) ?_
   by_cases hcy : y.code = 0
   case neg =>
    rw [if_neg hcy] at hR
    simp only [go_sem,seval, hcy, D.at1, D.at2, D.at3, D.at4, D.up1, D.up2, D.up3, D.up4, iB, gI, dW, fU, cE, b9]
    exact fin _ _ _ _ _ _ _ (D.apart H.a _ _ _ _) H.m (by rw [hR]) (by rw [hR])
   rw [if_pos hcy] at hR
   simp only [go_sem,seval, hcy, hM, D.at1, D.at2, D.at3, D.at4, D.up1, D.up2, D.up3, D.up4, iB, gI, dW, fU, cE, b9]
   refine tcE (v8 H.a H.m H.ok (v.frm, v.len) _) ?_
   simp only [go_sem,seval, hM, D.at1, D.at2, D.at3, D.at4, D.up1, D.up2, D.up3, D.up4, iB, gI, dW, fU, cE, b9]
   refine aS fun w hw => ?_
   have hMw : M ≠ w := by intro hh; subst hh; rw [hM] at hw; cases hw
   have hrw : r ≠ w := by intro hh; subst hh; rw [D.at3] at hw; cases hw
   have hdel := fun o => fE _ w o hw
   simp only [go_sem,seval, aC _ _ _ hMw, hM, aC _ _ _ hrw, D.at3, aA, aB, hdel]
   rw [B2] at hR
   generalize hE : yT (v.frm, v.len) _ y = E at hR ⊢
   by_cases hz : E = 0
   ·rw [if_pos hz] at hR
    simp only [go_sem,seval, hz, D.at1, D.at2, D.at3, D.at4, D.up1, D.up2, D.up3, D.up4, iB, gI, dW, fU, cE, b9]
    exact fin _ _ _ _ _ _ _ (D.apart H.a _ _ _ _) H.m (by rw [hR]) (by rw [hR])
   ·rw [if_neg hz] at hR
    simp only [go_sem,seval, hz]
    refine tcM (nB H.a H.m 19) fun l5 a5 m5 => ?_
    simp only [go_sem,seval, D.at1, D.at2, D.at3, D.at4, D.up1, D.up2, D.up3, D.up4, iB, gI, dW, fU, cE, b9]
    exact fin _ _ _ _ _ _ _ (D.apart a5 _ _ _ _) m5 (by rw [hR]) (by rw [hR])
  ·rintro e' g ⟨hn2, rfl, rfl⟩
   have hff : jE c.recs v.t e.field = (0, v.t) := by
    have hix : rc.fields.findIdx? (fun z => decide (z.name = e.field)) = none := List.findIdx?_eq_none_iff.2 fun z hz => by simpa using hn2 z hz
    simp only [jE, hfr, hix]
   rw [hff] at hR
   simp only [go_sem,seval, bE]
   refine aM.same ?_
   simp only [go_sem,seval]
   refine aM.same ?_
   simp only [go_sem,seval]
   have H := D.here h (.blk [.int .i64 0, .int .i64 0] 2 146) (.blk [.int .i64 0, .int .i64 0, .str noBytes] 3 51) (.blk [.int .i64 v.frm, .int .i64 v.len] 2 146) (.blk (bV v.t) 3 51)
   rw [tY] at hR
   have hM := m'.hMj H.a
   refine tcE (dS H.a H.m) ?_
   by_cases hcy : y.code = 0
   case neg =>
    rw [if_neg hcy] at hR
    simp only [go_sem,seval, hcy, D.at1, D.at2, D.at3, D.at4, D.up1, D.up2, D.up3, D.up4, iB, gI, dW, fU, cE, b9]
    exact fin _ _ _ _ _ _ _ (D.apart H.a _ _ _ _) H.m (by rw [hR]) (by rw [hR])
   rw [if_pos hcy] at hR
   simp only [go_sem,seval, hcy, hM, D.at1, D.at2, D.at3, D.at4, D.up1, D.up2, D.up3, D.up4, iB, gI, dW, fU, cE, b9]
   refine tcE (v8 H.a H.m H.ok (v.frm, v.len) _) ?_
   simp only [go_sem,seval, hM, D.at1, D.at2, D.at3, D.at4, D.up1, D.up2, D.up3, D.up4, iB, gI, dW, fU, cE, b9]
   refine aS fun w hw => ?_
   have hMw : M ≠ w := by intro hh; subst hh; rw [hM] at hw; cases hw
   have hrw : r ≠ w := by intro hh; subst hh; rw [D.at3] at hw; cases hw
   have hdel := fun o => fE _ w o hw
   simp only [go_sem,seval, aC _ _ _ hMw, hM, aC _ _ _ hrw, D.at3, aA, aB, hdel]
   rw [B2] at hR
   generalize hE : yT (v.frm, v.len) _ y = E at hR ⊢
   by_cases hz : E = 0
   ·rw [if_pos hz] at hR
    simp only [go_sem,seval, hz, D.at1, D.at2, D.at3, D.at4, D.up1, D.up2, D.up3, D.up4, iB, gI, dW, fU, cE, b9]
    exact fin _ _ _ _ _ _ _ (D.apart H.a _ _ _ _) H.m (by rw [hR]) (by rw [hR])
   ·rw [if_neg hz] at hR
    simp only [go_sem,seval, hz]
    refine tcM (nB H.a H.m 19) fun l5 a5 m5 => ?_
    simp only [go_sem,seval, D.at1, D.at2, D.at3, D.at4, D.up1, D.up2, D.up3, D.up4, iB, gI, dW, fU, cE, b9]
    exact fin _ _ _ _ _ _ _ (D.apart a5 _ _ _ _) m5 (by rw [hR]) (by rw [hR])
 ·rintro e' g ⟨hn, rfl, rfl⟩
  have hff : jE c.recs v.t e.field = (0, v.t) := by
   have : c.recs.find? (fun z => decide (z.name = v.t.name)) = none := List.find?_eq_none.2 fun z hz => by simpa using hn z hz
   simp only [jE, this]
  rw [hff] at hR
  simp only [go_sem,seval, bE]
  refine aM.same ?_
  simp only [go_sem,seval]
  have H := D.here h (.blk [.int .i64 0, .int .i64 0] 2 146) (.blk [.int .i64 0, .int .i64 0, .str noBytes] 3 51) (.blk [.int .i64 v.frm, .int .i64 v.len] 2 146) (.blk (bV v.t) 3 51)
  rw [tY] at hR
  have hM := m'.hMj H.a
  refine tcE (dS H.a H.m) ?_
  by_cases hcy : y.code = 0
  case neg =>
   rw [if_neg hcy] at hR
   simp only [go_sem,seval, hcy, D.at1, D.at2, D.at3, D.at4, D.up1, D.up2, D.up3, D.up4, iB, gI, dW, fU, cE, b9]
   exact fin _ _ _ _ _ _ _ (D.apart H.a _ _ _ _) H.m (by rw [hR]) (by rw [hR])
  rw [if_pos hcy] at hR
  simp only [go_sem,seval, hcy, hM, D.at1, D.at2, D.at3, D.at4, D.up1, D.up2, D.up3, D.up4, iB, gI, dW, fU, cE, b9]
  refine tcE (v8 H.a H.m H.ok (v.frm, v.len) _) ?_
  simp only [go_sem,seval, hM, D.at1, D.at2, D.at3, D.at4, D.up1, D.up2, D.up3, D.up4, iB, gI, dW, fU, cE, b9]
  refine aS fun w hw => ?_
  have hMw : M ≠ w := by intro hh; subst hh; rw [hM] at hw; cases hw
  have hrw : r ≠ w := by intro hh; subst hh; rw [D.at3] at hw; cases hw
  have hdel := fun o => fE _ w o hw
  simp only [go_sem,seval, aC _ _ _ hMw, hM, aC _ _ _ hrw, D.at3, aA, aB, hdel]
  rw [B2] at hR
  generalize hE : yT (v.frm, v.len) _ y = E at hR ⊢
  by_cases hz : E = 0
  ·rw [if_pos hz] at hR
   simp only [go_sem,seval, hz, D.at1, D.at2, D.at3, D.at4, D.up1, D.up2, D.up3, D.up4, iB, gI, dW, fU, cE, b9]
   exact fin _ _ _ _ _ _ _ (D.apart H.a _ _ _ _) H.m (by rw [hR]) (by rw [hR])
  ·rw [if_neg hz] at hR
   simp only [go_sem,seval, hz]
   refine tcM (nB H.a H.m 19) fun l5 a5 m5 => ?_
   simp only [go_sem,seval, D.at1, D.at2, D.at3, D.at4, D.up1, D.up2, D.up3, D.up4, iB, gI, dW, fU, cE, b9]
   exact fin _ _ _ _ _ _ _ (D.apart a5 _ _ _ _) m5 (by rw [hR]) (by rw [hR])
end Pg

namespace Pg
open Go Go.Proofs.Tryz
set_option linter.all false
set_option maxHeartbeats 4000000
set_option maxRecDepth 4000
theorem aAL (o : Ops) (ch : List Frm) (y : Stmt) (r : List Stmt) (x : MSt) : y8 o ch (y :: r) x = (let q := o.stmt ch y x; if q.1.2 = true ∨ ¬ q.2.code = 0 then q else o.run ch r q.2) := by
 show (o.stmt ch y >>= fun n => nP >>= fun g => if n.2 = true ∨ g = false then pure n else o.run ch r : Mc (Int × Bool)) x = _
 rw [b6, b6, mQ]
 by_cases hb : (o.stmt ch y x).1.2 = true
 ·simp only [hb, true_or, if_true]; rfl
 ·by_cases hc : (o.stmt ch y x).2.code = 0
  ·simp only [hb, hc, decide_true, false_or, if_false, Bool.true_eq_false, not_true, Bool.false_eq_true, or_self]
  ·simp only [hc, decide_false, or_true, if_true, not_false_eq_true]; rfl
theorem aC4 [GI] {c : Cfg} {C M st N : Nat} (L : ∀ n, n ≤ N → Lv c C M st n) {s l : AHeap} {ch : Chn} {x : MSt} {b : List Stmt} {fl : Bool} (h : jA c C M st s l ch x) (hw : few b) (hb : ∀ y ∈ b, tT (scs ch) y) (hN : left c x * C + aZ.wt b ≤ N + 1) :
  aD prog 29 [.ptr (some ⟨M, 0, none⟩), scV M ch, .sl (b.map bA) fl] (s.join l) (To c M st s (.tuple [.int .i64 ((ops c (N + 1)).run (bG ch) b x).1.1, .bool ((ops c (N + 1)).run (bG ch) b x).1.2]) ((ops c (N + 1)).run (bG ch) b x).2) := by
 generalize hR : (ops c (N + 1)).run (bG ch) b x = R
 refine F29.calls (by simp) ?_
 delta F29.c0
 simp only [go_sem,seval]
 refine aX b (fun pre post e g => ∃ K x' l', K ≤ N + 1 ∧ R = (ops c K).run (bG ch) post x' ∧ jA c C M st s l' ch x' ∧ left c x' * C + aZ.wt post ≤ K ∧ g = s.join l' ∧ e = [(0, .ptr (some ⟨M, 0, none⟩)), (1, scV M ch), (12, .sl (b.map bA) fl), (13, .int .i64 b.length), (14, .int .i64 pre.length)]) (aF.env ?_) ⟨N + 1, x, l, Nat.le_refl _, hR.symm, h, hN, rfl, rfl⟩ ?_ ?_
 ·simp only [go_sem,seval]
 ·rintro pre y post e g hp ⟨K, x', l', hK, he, h', hK2, rfl, rfl⟩
  simp only [aZ.wt] at hK2
  obtain ⟨K, rfl⟩ : ∃ k, K = k + 1 := ⟨K - 1, by omega⟩
  have he' : R = y8 (ops c K) (bG ch) (y :: post) x' := he
  rw [aAL] at he'
  have hy := hb y (bJ hp)
  have kq := (fG c K).2.2.2.2 (bG ch) y x'
  have lq := (L K (by omega)).stmt h' hy (by omega)
  generalize (ops c K).stmt (bG ch) y x' = q at he' kq lq
  obtain ⟨⟨n, bk⟩, x2⟩ := q
  simp only at he' kq lq
  simp only [go_sem,seval, bI hp, aI (aK hp) (c6 y), c6, j7]
  refine tcM lq fun l2 a2 m2 => ?_
  have h2 := h'.next a2 m2 kq
  have hl2 := Nat.mul_le_mul_right C kq.left
  cases bk with
  | true =>
   rw [if_pos (.inl rfl)] at he'
   simp only [go_sem,seval]
   refine aM.same ?_
   simp only [go_sem,seval]
   exact .same ⟨by rw [he'], l2, rfl, a2, by rw [he']; exact m2⟩
  | false =>
   simp only [go_sem,seval]
   refine tcE (dS a2 m2) ?_
   by_cases hc : x2.code = 0
   ·rw [if_neg (by simp [hc])] at he'
    simp only [go_sem,seval, hc]
    refine ⟨_, _, aF.env ?_, K, x2, l2, by omega, he', h2, by omega, rfl, rfl⟩
    simp only [go_sem,seval, aQ hw hp]
   ·rw [if_pos (.inr hc)] at he'
    simp only [go_sem,seval, hc]
    refine aM.same ?_
    simp only [go_sem,seval]
    exact .same ⟨by rw [he'], l2, rfl, a2, by rw [he']; exact m2⟩
 ·rintro e g ⟨K, x', l', hK, he, h', hK2, rfl, rfl⟩
  simp only [aZ.wt] at hK2
  obtain ⟨K, rfl⟩ : ∃ k, K = k + 1 := ⟨K - 1, by omega⟩
  have he' : R = ((0, false), x') := he
  simp only [go_sem,seval, bE]
  refine aM.same ?_
  simp only [go_sem,seval]
  exact .same ⟨by rw [he'], l', rfl, h'.a, by rw [he']; exact h'.m⟩
theorem PY (o : Ops) (ch : List Frm) (y : Stmt) (x : MSt) : oE o ch y x = (let p := o.place ch y.p x
  if p.2.code = 0 then (match p.2.input with
   | [] => (((0 : Int), false), p.2.fail 20)
   | v :: r => (((0 : Int), false), (pB p.1.1 (if p.1.2.kind = 3 then wr (BitVec.ofInt 64 v &&& BitVec.ofInt 64 255).toNat else v) { p.2 with input := r }).2)) else (((0 : Int), false), p.2)) := by
 unfold oE
 rw [b6, b6, mQ]
 by_cases hc : (o.place ch y.p x).2.code = 0
 ·simp only [hc, decide_true, if_true]
  rw [b6]
  unfold BI
  simp only [hc, if_true]
  cases (o.place ch y.p x).2.input with
  | nil => rfl
  | cons v r => rfl
 ·simp only [hc, decide_false, Bool.false_eq_true, if_false]; rfl
theorem aAY [GI] {c : Cfg} {C M st N : Nat} (L : Lv c C M st N) {s l : AHeap} {ch : Chn} {x : MSt} {y : Stmt} (h : jA c C M st s l ch x) (hp : EOk (scs ch) y.p) (hN : left c x * C + (4 * y.p.sz + 1) ≤ N) :
  aD prog 131 [.ptr (some ⟨M, 0, none⟩), scV M ch, .agg (aO y.p)] (s.join l) (To c M st s (.tuple []) (oE (ops c N) (bG ch) y x).2) := by
 generalize hR : oE (ops c N) (bG ch) y x = R
 rw [PY] at hR
 have lp := L.place h hp hN
 have kp := (fG c N).1 (bG ch) y.p x
 generalize (ops c N).place (bG ch) y.p x = P at hR lp kp
 obtain ⟨⟨r, t⟩, z⟩ := P
 simp only at hR lp kp
 refine S5.calls (by simp) ?_
 delta S5.c0
 simp only [go_sem,seval, aR, bO]
 refine tcM lp fun l1 a1 m1 => ?_
 have h1 := h.next a1 m1 kp
 obtain ⟨cv, ov, f, m⟩ := m1
 have hM := m.hMj a1
 simp only [go_sem,seval]
 refine aS fun p hp => ?_
 simp only [go_sem,seval]
 refine aS fun q hq => ?_
 have hpq := iF hq
 have hqH := fT hq
 have hup : ∀ (H : AHeap) o1 o2, ((H.upd p o1).upd q o2) p = some o1 := fun H o1 o2 => by rw [aC _ _ _ hpq, aA]
 have hcm : ∀ (H : AHeap) o1 o2 o3, ((H.upd p o1).upd q o2).upd p o3 = (H.upd p o3).upd q o2 := fun H o1 o2 o3 => by rw [bH _ _ _ hpq.symm, aB]
 obtain ⟨hp1, hp2⟩ := join_none hp
 obtain ⟨hq1, hq2⟩ := join_none hqH
 have hu := (h1.up (.blk [.int .i64 r.1, .int .i64 r.2] 2 146) hp1 hp2).up (.blk (bV t) 3 51) (p := q) (by rw [aC _ _ _ hpq.symm]; exact hq1) hq2
 have hMu := m.hMj hu.a
 have fin : ∀ (l' : AHeap) (w : MSt), ((s.upd p (.blk [.int .i64 r.1, .int .i64 r.2] 2 146)).upd q (.blk (bV t) 3 51)).apart l' → Mem l' M st c w → w = R.2 → eE (To c M st s (.tuple []) R.2) (.tuple []) (((s.upd p (.blk [.int .i64 r.1, .int .i64 r.2] 2 146)).upd q (.blk (bV t) 3 51)).join l') := fun l' w ha hm hw => by
  subst hw
  have le : s.le ((s.upd p (.blk [.int .i64 r.1, .int .i64 r.2] 2 146)).upd q (.blk (bV t) 3 51)) := AHeap.le_trans (AHeap.b8 hp1) (AHeap.b8 (by rw [aC _ _ _ hpq.symm]; exact hq1))
  exact .forget (n8 le ha) ⟨rfl, l', rfl, kJ ha le, hm⟩
 simp only [go_sem,seval, aA, hup, hcm, aB, iB]
 rw [bZ, bZ]
 refine tcE (dS hu.a hu.m) ?_
 by_cases hc : z.code = 0
 case neg =>
  rw [if_neg hc] at hR
  simp only [go_sem,seval, hc]
  exact fin l1 z hu.a hu.m (by rw [← hR])
 rw [if_pos hc] at hR
 cases hi : z.input with
 | nil =>
  rw [hi] at hR
  simp only at hR
  have hM2 := hMu
  simp only [sM, hi, List.map_nil] at hM2
  simp only [go_sem,seval, hc, hM2]
  refine tcM (nB hu.a hu.m 20) fun l2 a2 m2 => ?_
  simp only [go_sem,seval]
  exact fin l2 _ a2 m2 (by rw [← hR])
 | cons v rest =>
  rw [hi] at hR
  simp only at hR
  have hM2 := hMu
  simp only [sM, hi, List.map_cons] at hM2
  have hlen : (((rest.length + 1 : Nat) : Int) = 0) = False := by simp; omega
  have hia : aia 1 (.sl ([.int .i64 v] :: rest.map eInt) f) (.int .i64 0) = some (.ip [.int .i64 v] 0) := aI (i := 0) rfl rfl
  have hsl : eP false 1 (.sl ([.int .i64 v] :: rest.map eInt) f) (some (.int .i64 1)) none = some (.sl (rest.map eInt) f) := by
   simp [eP, gG, List.take_of_length_le]
  simp only [go_sem,seval, hc]
  simp only [go_sem,seval, hM2, hlen, hia, hsl]
  have hss := kX hu.a m.hM
  have hqj : ∀ L, (((s.upd p (.blk [.int .i64 r.1, .int .i64 r.2] 2 146)).upd q (.blk (bV t) 3 51)).join L) q = some (.blk (bV t) 3 51) := fun L => fP (aA _ _ _)
  have hpj : ∀ L, (((s.upd p (.blk [.int .i64 r.1, .int .i64 r.2] 2 146)).upd q (.blk (bV t) 3 51)).join L) p = some (.blk [.int .i64 r.1, .int .i64 r.2] 2 146) := fun L => fP (hup _ _ _)
  rw [eL _ _ hss]
  have m2 : Mm (l1.upd M (sM st c.recs c.fuel { z with input := rest } ov f)) M st c { z with input := rest } cv ov f := m.bX rfl rfl
  have a2 := dH hu.a (sM st c.recs c.fuel { z with input := rest } ov f) hss
  have k2 : MOk c { z with input := rest } := ⟨h1.ok.fuel, h1.ok.cells, h1.ok.nS, h1.ok.steps, h1.ok.out, h1.ok.sT, h1.ok.deep, by have := h1.ok.input; rw [hi] at this; unfold few at this ⊢; simp at this; simp only; omega⟩
  by_cases ht3 : t.kind = 3
  ·rw [if_pos ht3] at hR
   simp only [go_sem,seval, hqj, hpj, dW, ht3]
   refine tcM (uP a2 ⟨cv, ov, f, m2⟩ k2 r _) fun l3 a3 m3 => ?_
   simp only [go_sem,seval]
   exact fin l3 _ a3 m3 (by rw [← hR]; rfl)
  ·rw [if_neg ht3] at hR
   simp only [go_sem,seval, hqj, hpj, dW, ht3]
   refine tcM (uP a2 ⟨cv, ov, f, m2⟩ k2 r _) fun l3 a3 m3 => ?_
   simp only [go_sem,seval]
   exact fin l3 _ a3 m3 (by rw [← hR])
end Pg

namespace Pg
open Go Go.Proofs.Tryz
set_option linter.all false
set_option maxHeartbeats 4000000
set_option maxRecDepth 4000
theorem aDI (c : Cfg) (o : Ops) (ch : List Frm) (y : Stmt) (x : MSt) : wN c o ch y x = (let q := cD c x; if q.1 = true then (let v := o.eval ch (y.at 0) q.2; if v.1 = 1 ∧ v.2.code = 0 then (let n := o.run ch y.body v.2; if n.1.2 = true then ((n.1.1, true), n.2) else o.whl ch y n.2) else (((0 : Int), false), v.2)) else (((0 : Int), false), q.2)) := by
 unfold wN
 rw [b6]
 simp only
 split
 ·rw [b6, b6, mQ]
  by_cases hc : (o.eval ch (y.at 0) (cD c x).2).2.code = 0
  ·simp only [hc, decide_true, and_true]
   split
   ·rw [b6]
    split <;> rfl
   ·rfl
  ·simp only [hc, decide_false, and_false, Bool.false_eq_true, if_false]; rfl
 ·rfl
theorem aEg (c : Cfg) (o : Ops) (ch : List Frm) (y : Stmt) (x : MSt) : xD c o ch y x = (if x.code = 0 then (let n := o.run ch y.body x; if n.1.2 = true then ((n.1.1, true), n.2) else (let q := cD c n.2; if q.1 = true then (let v := o.eval ch (y.at 0) q.2; if v.1 = 1 then (((0 : Int), false), v.2) else o.rep ch y v.2) else (((0 : Int), false), q.2))) else (((0 : Int), false), x)) := by
 unfold xD
 rw [b6, mQ]
 by_cases hc : x.code = 0
 ·simp only [hc, decide_true, if_true]
  rw [b6]
  split
  ·rfl
  ·rw [b6]
   split
   ·rw [b6]
    split <;> rfl
   ·rfl
 ·simp only [hc, decide_false, Bool.false_eq_true, if_false]; rfl
theorem W0 (c : Cfg) (o : Ops) (ch : List Frm) (y : Stmt) (i b : Int) (r : Int × Int) (x : MSt) : cntF c o ch y i b r x = (let q := cD c x; if q.1 = true then (let n := o.run ch y.body (pB r i q.2).2; if n.1.2 = true then ((n.1.1, true), n.2) else if i = b then (((0 : Int), false), n.2) else o.cnt ch y (wr (i + if y.down then -1 else 1)) b r n.2) else (((0 : Int), false), q.2)) := by
 unfold cntF
 rw [b6]
 simp only
 split
 ·rw [b6, b6]
  split
  ·rfl
  ·split <;> rfl
 ·rfl
theorem aEt (o : Ops) (ch : List Frm) (y : Stmt) (x : MSt) : vB o ch y x = (let a := o.eval ch (y.at 0) x; let b := o.eval ch (y.at 1) a.2; if (y.down = true ∧ a.1 < b.1) ∨ (y.down = false ∧ b.1 < a.1) then (((0 : Int), false), b.2) else o.cnt ch y a.1 b.1 ((varOf y.name ch).frm, (varOf y.name ch).len) b.2) := by
 unfold vB
 rw [b6, b6]
 simp only
 split <;> rfl
theorem aDZ (o : Ops) (ch : List Frm) (y : Stmt) (x : MSt) : HR o ch y x = (let p := o.place ch y.p x; let v := o.eval ch (y.at 0) p.2; (((0 : Int), false), (pB p.1.1 v.1 v.2).2)) := rfl
theorem aFk (o : Ops) (ch : List Frm) (y : Stmt) (x : MSt) : ifF o ch y x = (let v := o.eval ch (y.at 0) x; if v.2.code = 0 then o.run ch (if v.1 = 1 then y.body else y.els) v.2 else (((0 : Int), false), v.2)) := by
 unfold ifF
 rw [b6, b6, mQ]
 by_cases hc : (o.eval ch (y.at 0) x).2.code = 0
 ·simp only [hc, decide_true, if_true]
 ·simp only [hc, decide_false, Bool.false_eq_true, if_false]; rfl
theorem Z2 (o : Ops) (ch : List Frm) (y : Stmt) (x : MSt) : wM o ch y x = (let v := o.eval ch (y.at 0) x; (((0 : Int), false), if v.2.code = 0 then { v.2 with out := v.2.out ++ [v.1] } else v.2)) := by
 unfold wM writeEnd
 rw [b6, b6, mQ]
 generalize o.eval ch (y.at 0) x = v
 obtain ⟨a, z⟩ := v
 by_cases hc : z.code = 0
 ·rw [if_pos (decide_eq_true hc)]
  simp only
  rw [if_pos hc]
  rfl
 ·simp only [hc, decide_false, Bool.false_eq_true, if_false]; rfl
theorem aEf (o : Ops) (ch : List Frm) (y : Stmt) (x : MSt) : DV o ch y x = (if y.e.length = 0 then (((0 : Int), decide (x.code = 0)), x) else (let v := o.eval ch (y.at 0) x; ((v.1, decide (v.2.code = 0)), v.2))) := by
 unfold DV
 split <;> rfl
theorem aB7 (c : Cfg) (o : Ops) (ch : List Frm) (y : Stmt) (x : MSt) : qA c o ch y x = (let q := cD c x; if q.1 = true then mT o ch y q.2 else (((0 : Int), false), q.2)) := by
 unfold qA
 rw [b6]
 simp only
 split <;> rfl
theorem uM {c : Cfg} {x : MSt} (h : MOk c x) (hs : (cD c x).1 = true) : left c (cD c x).2 + 1 = left c x := by
 have := h.steps
 rcases oB c x with ⟨h1, e⟩ | ⟨h1, h2, e⟩ | ⟨h1, h2, e⟩ <;> rw [e] at hs ⊢
 ·cases hs
 ·cases hs
 ·unfold left; simp only; omega
theorem QL (c : Cfg) (r : Int × Int) (n : Int) (x : MSt) : Kept c x (pB r n x).2 := by
 unfold pB; split
 ·exact BK c r n x
 ·exact .refl _ _
theorem AN {p q : Nat} (hpq : p ≠ q) {s : AHeap} (hp1 : s p = none) (hq1 : s q = none) (o1 o2 : AObj) : s.le ((s.upd p o1).upd q o2) := AHeap.le_trans (AHeap.b8 hp1) (AHeap.b8 (by rw [aC _ _ _ hpq.symm]; exact hq1))
theorem ZA [GI] {c : Cfg} {C M st N : Nat} (L : ∀ n, n ≤ N → Lv c C M st n) {s l : AHeap} {ch : Chn} {x : MSt} {y : Stmt} (h : jA c C M st s l ch x) (hy : tT (scs ch) y) (ho : y.op = 6) (hN : left c x * C + (y.wt - 1) ≤ N) :
  aD prog 130 [.ptr (some ⟨M, 0, none⟩), scV M ch, .agg (bA y)] (s.join l) (To c M st s (.tuple [.int .i64 (vB (ops c N) (bG ch) y x).1.1, .bool (vB (ops c N) (bG ch) y x).1.2]) (vB (ops c N) (bG ch) y x).2) := by
 generalize hR : vB (ops c N) (bG ch) y x = R
 rw [aEt] at hR
 have hS := hy
 cases hy with
 | mk _ he hb hels h1 h2 hp ee bb es =>
 have hl2 := h2 ho
 obtain ⟨y0, hy0, ha0, hk0, hz0⟩ := hS.at (i := 0) (by omega)
 obtain ⟨y1, hy1, ha1, hk1, hz1⟩ := hS.at (i := 1) (by omega)
 rw [ha0, ha1] at hR
 have hwt := y.OR
 have kA := (fG c N).2.1 (bG ch) y0 x
 have lA := (L N (Nat.le_refl _)).eval h hk0 (by omega)
 generalize (ops c N).eval (bG ch) y0 x = A at hR kA lA
 obtain ⟨a, xa⟩ := A
 simp only at hR lA kA
 refine S6.calls (by simp) ?_
 delta S6.c0
 simp only [go_sem,seval, fC, aR, bO, kY hy0, FR hy1]
 refine tcM lA fun l1 a1 m1 => ?_
 have hA := h.next a1 m1 kA
 have wA := Nat.mul_le_mul_right C kA.left
 have kB := (fG c N).2.1 (bG ch) y1 xa
 have lB := (L N (Nat.le_refl _)).eval hA hk1 (by omega)
 generalize (ops c N).eval (bG ch) y1 xa = B at hR kB lB
 obtain ⟨b, xb⟩ := B
 simp only at hR lB kB
 simp only [go_sem,seval]
 refine tcM lB fun l2 a2 m2 => ?_
 have hB := hA.next a2 m2 kB
 have wB := Nat.mul_le_mul_right C kB.left
 simp only [go_sem,seval, JI]
 refine L7 (f := 231) (by kernel_rfl) (by kernel_rfl) ?_
 refine tcE (C0 (h.names.le (AHeap.rT s l2)) (.ip [.ptr (some ⟨M, 0, none⟩)] 0) y.name) ?_
 generalize varOf y.name (bG ch) = v at hR
 simp only [go_sem,seval]
 refine aS fun p hp => ?_
 simp only [go_sem,seval]
 refine aS fun q hq => ?_
 have hpq := iF hq
 have hqH := fT hq
 have hup : ∀ (H : AHeap) o1 o2, ((H.upd p o1).upd q o2) p = some o1 := fun H o1 o2 => by rw [aC _ _ _ hpq, aA]
 have hcm : ∀ (H : AHeap) o1 o2 o3, ((H.upd p o1).upd q o2).upd p o3 = (H.upd p o3).upd q o2 := fun H o1 o2 o3 => by rw [bH _ _ _ hpq.symm, aB]
 obtain ⟨hp1, hp2⟩ := join_none hp
 obtain ⟨hq1, hq2⟩ := join_none hqH
 have hu := (hB.up (.blk [.int .i64 v.frm, .int .i64 v.len] 2 146) hp1 hp2).up (.blk (bV v.t) 3 51) (p := q) (by rw [aC _ _ _ hpq.symm]; exact hq1) hq2
 have leS := AN hpq hp1 hq1 (.blk [.int .i64 v.frm, .int .i64 v.len] 2 146) (.blk (bV v.t) 3 51)
 simp only [go_sem,seval, aA, hup, hcm, aB, iB]
 rw [bZ, bZ]
 have hpj : ∀ L, (((s.upd p (.blk [.int .i64 v.frm, .int .i64 v.len] 2 146)).upd q (.blk (bV v.t) 3 51)).join L) p = some (.blk [.int .i64 v.frm, .int .i64 v.len] 2 146) := fun L => fP (hup _ _ _)
 generalize ((s.upd p (.blk [.int .i64 v.frm, .int .i64 v.len] 2 146)).upd q (.blk (bV v.t) 3 51)) = S at hu leS hpj ⊢
 have fin : ∀ (l' : AHeap) (w : MSt) (n : Int) (bk : Bool), S.apart l' → Mem l' M st c w → R = ((n, bk), w) → eE (To c M st s (.tuple [.int .i64 R.1.1, .bool R.1.2]) R.2) (.tuple [.int .i64 n, .bool bk]) (S.join l') := fun l' w n bk ha hm hw => by
  subst hw
  exact .forget (n8 leS ha) ⟨rfl, l', rfl, kJ ha leS, hm⟩
 have early : (y.down = true ∧ a < b) ∨ (y.down = false ∧ b < a) → R = (((0 : Int), false), xb) := fun hh => by rw [← hR, if_pos hh]
 have late : ¬ ((y.down = true ∧ a < b) ∨ (y.down = false ∧ b < a)) → R = (ops c N).cnt (bG ch) y a b (v.frm, v.len) xb := fun hh => by rw [← hR, if_neg hh]
 cases hdn : y.down
 ·simp only [go_sem,seval, zR, hdn]
  by_cases hba : b < a
  ·simp only [go_sem,seval, hba, gt_iff_lt]
   exact fin l2 xb 0 false hu.a hu.m (early (.inr ⟨hdn, hba⟩))
  ·have hl := late (by simp [hdn, hba])
   simp only [go_sem,seval, hba, gt_iff_lt]
   refine qE (fun K e g => ∃ i x' l', K ≤ N ∧ R = (ops c K).cnt (bG ch) y i b (v.frm, v.len) x' ∧ jA c C M st S l' ch x' ∧ left c x' * C + (aZ.wt y.body + 2) ≤ K ∧ g = S.join l' ∧ e = [(0, .ptr (some ⟨M, 0, none⟩)), (1, scV M ch), (5, .ip (bA y) 0), (9, .int .i64 b), (10, .ptr (some ⟨p, 0, none⟩)), (12, .int .i64 1), (13, .int .i64 i)]) N (aF.env ?_) ⟨a, xb, l2, Nat.le_refl _, hl, hu, by omega, rfl, rfl⟩ ?_
   ·simp only [go_sem,seval]
   ·rintro K e g ⟨i, x', l', hK, he', h', hK2, rfl, rfl⟩
    obtain ⟨K, rfl⟩ : ∃ k, K = k + 1 := ⟨K - 1, by omega⟩
    have he2 : R = cntF c (ops c K) (bG ch) y i b (v.frm, v.len) x' := he'
    rw [W0] at he2
    simp only at he2
    simp only [go_sem,seval]
    refine tcM (r7 h'.a h'.m h'.ok) fun l3 a3 m3 => ?_
    have k3 := mW c x'
    by_cases hs : (cD c x').1 = true
    case neg =>
     rw [if_neg hs] at he2
     have hsf := Bool.eq_false_iff.2 hs
     simp only [go_sem,seval, hsf]
     refine aM.same ?_
     simp only [go_sem,seval]
     exact fin l3 _ 0 false a3 m3 he2
    have hl3 := uM h'.ok hs
    rw [if_pos hs] at he2
    simp only [go_sem,seval, hs]
    generalize (cD c x').2 = x3 at he2 m3 k3 hl3
    have h3 := h'.next a3 m3 k3
    simp only [go_sem,seval, hpj]
    refine tcM (uP h3.a h3.m h3.ok (v.frm, v.len) i) fun l4 a4 m4 => ?_
    have k4 := QL c (v.frm, v.len) i x3
    generalize (pB (v.frm, v.len) i x3).2 = x4 at he2 m4 k4
    have h4 := h3.next a4 m4 k4
    have hl4 := k4.left
    have hmul : left c x4 * C + C ≤ left c x' * C := by
     have : (left c x4 + 1) * C ≤ left c x' * C := Nat.mul_le_mul_right C (by omega)
     rw [Nat.add_mul, Nat.one_mul] at this; exact this
    have hC1 := h.C1
    have lr := (L K (by omega)).run (fl := false) h4 hb bb (by omega)
    have kr := (fG c K).2.2.2.1 (bG ch) y.body x4
    generalize (ops c K).run (bG ch) y.body x4 = q at he2 lr kr
    obtain ⟨⟨n, bk⟩, x5⟩ := q
    simp only at he2 lr kr
    simp only [go_sem,seval, gH]
    refine tcM lr fun l5 a5 m5 => ?_
    have h5 := h4.next a5 m5 kr
    have hl5 := Nat.mul_le_mul_right C kr.left
    cases bk with
    | true =>
     rw [if_pos rfl] at he2
     simp only [go_sem,seval]
     refine aM.same ?_
     simp only [go_sem,seval]
     exact fin l5 _ n true a5 m5 he2
    | false =>
     rw [if_neg (by simp)] at he2
     by_cases hib : i = b
     ·rw [if_pos hib] at he2
      simp only [go_sem,seval, hib]
      refine aM.same ?_
      simp only [go_sem,seval]
      exact fin l5 _ 0 false a5 m5 he2
     ·rw [if_neg hib, hdn] at he2
      simp only [go_sem,seval, hib]
      refine yL.to K _ _ (Nat.lt_succ_self _) (aF.env ?_) ⟨IntKind.i64.wrap (i + 1), x5, l5, by omega, he2, h5, by omega, rfl, rfl⟩
      simp only [go_sem,seval]
 ·simp only [go_sem,seval, zR, hdn]
  by_cases hab : a < b
  ·simp only [go_sem,seval, hab]
   exact fin l2 xb 0 false hu.a hu.m (early (.inl ⟨hdn, hab⟩))
  ·have hl := late (by simp [hdn, hab])
   simp only [go_sem,seval, hab, hdn, zR]
   refine qE (fun K e g => ∃ i x' l', K ≤ N ∧ R = (ops c K).cnt (bG ch) y i b (v.frm, v.len) x' ∧ jA c C M st S l' ch x' ∧ left c x' * C + (aZ.wt y.body + 2) ≤ K ∧ g = S.join l' ∧ e = [(0, .ptr (some ⟨M, 0, none⟩)), (1, scV M ch), (5, .ip (bA y) 0), (9, .int .i64 b), (10, .ptr (some ⟨p, 0, none⟩)), (12, .int .i64 (-1)), (13, .int .i64 i)]) N (aF.env ?_) ⟨a, xb, l2, Nat.le_refl _, hl, hu, by omega, rfl, rfl⟩ ?_
   ·simp only [go_sem,seval]
   ·rintro K e g ⟨i, x', l', hK, he', h', hK2, rfl, rfl⟩
    obtain ⟨K, rfl⟩ : ∃ k, K = k + 1 := ⟨K - 1, by omega⟩
    have he2 : R = cntF c (ops c K) (bG ch) y i b (v.frm, v.len) x' := he'
    rw [W0] at he2
    simp only at he2
    simp only [go_sem,seval]
    refine tcM (r7 h'.a h'.m h'.ok) fun l3 a3 m3 => ?_
    have k3 := mW c x'
    by_cases hs : (cD c x').1 = true
    case neg =>
     rw [if_neg hs] at he2
     have hsf := Bool.eq_false_iff.2 hs
     simp only [go_sem,seval, hsf]
     refine aM.same ?_
     simp only [go_sem,seval]
     exact fin l3 _ 0 false a3 m3 he2
    have hl3 := uM h'.ok hs
    rw [if_pos hs] at he2
    simp only [go_sem,seval, hs]
    generalize (cD c x').2 = x3 at he2 m3 k3 hl3
    have h3 := h'.next a3 m3 k3
    simp only [go_sem,seval, hpj]
    refine tcM (uP h3.a h3.m h3.ok (v.frm, v.len) i) fun l4 a4 m4 => ?_
    have k4 := QL c (v.frm, v.len) i x3
    generalize (pB (v.frm, v.len) i x3).2 = x4 at he2 m4 k4
    have h4 := h3.next a4 m4 k4
    have hl4 := k4.left
    have hmul : left c x4 * C + C ≤ left c x' * C := by
     have : (left c x4 + 1) * C ≤ left c x' * C := Nat.mul_le_mul_right C (by omega)
     rw [Nat.add_mul, Nat.one_mul] at this; exact this
    have hC1 := h.C1
    have lr := (L K (by omega)).run (fl := false) h4 hb bb (by omega)
    have kr := (fG c K).2.2.2.1 (bG ch) y.body x4
    generalize (ops c K).run (bG ch) y.body x4 = q at he2 lr kr
    obtain ⟨⟨n, bk⟩, x5⟩ := q
    simp only at he2 lr kr
    simp only [go_sem,seval, gH]
    refine tcM lr fun l5 a5 m5 => ?_
    have h5 := h4.next a5 m5 kr
    have hl5 := Nat.mul_le_mul_right C kr.left
    cases bk with
    | true =>
     rw [if_pos rfl] at he2
     simp only [go_sem,seval]
     refine aM.same ?_
     simp only [go_sem,seval]
     exact fin l5 _ n true a5 m5 he2
    | false =>
     rw [if_neg (by simp)] at he2
     by_cases hib : i = b
     ·rw [if_pos hib] at he2
      simp only [go_sem,seval, hib]
      refine aM.same ?_
      simp only [go_sem,seval]
      exact fin l5 _ 0 false a5 m5 he2
     ·rw [if_neg hib, hdn] at he2
      simp only [go_sem,seval, hib]
      refine yL.to K _ _ (Nat.lt_succ_self _) (aF.env ?_) ⟨IntKind.i64.wrap (i + (-1)), x5, l5, by omega, he2, h5, by omega, rfl, rfl⟩
      simp only [go_sem,seval]
end Pg

namespace Pg
open Go Go.Proofs.Tryz
set_option linter.all false
set_option maxHeartbeats 4000000
set_option maxRecDepth 4000
theorem Mm.aEm {s l : AHeap} (a : s.apart l) {M st : Nat} {c : Cfg} {x : MSt} {cv ov : AV} {f : Bool} (m : Mm l M st c x cv ov f) (n : Int) (room : roomFor (x.out.length + 1) 8) {K : AV → AHeap → Tok → Prop}
  (k : ∀ v' l', s.apart l' → l' M = some (sM st c.recs c.fuel x ov f) → v'.cells? = some [v'] → Mm (l'.upd M (sM st c.recs c.fuel { x with out := x.out ++ [n] } v' f)) M st c { x with out := x.out ++ [n] } cv v' f → K v' (s.join l') .go) : jZ .go (s.join l) 2 1 8 ov 1 [.int .i64 n] K := by
 refine OL.HI a m.oo (new := [[.int .i64 n]]) rfl (by simp) (by simp) (by simpa using room) Nat.one_ne_zero (fun v' l' a' o' keep => ?_)
 have hk1 := keep M _ m.hM m.no1
 have hk2 := keep st _ m.hS m.no2
 have nco2 : ∀ b n k, cv = .os b n k → jS ov b := fun b n' k' e b' n'' k'' e' hh => by subst hh; exact m.nco _ _ _ e' _ _ _ e rfl
 have hoc : OL l' 2 1 cv (x.cells.map eInt) := by
  rcases m.oc with h0 | ⟨b, cap, cs, h1, h2, h3⟩
  ·exact .inl h0
  ·exact .inr ⟨b, cap, cs, h1, (keep b _ h2 (nco2 _ _ _ h1)).1, h3⟩
 have hno : ∀ b n k, v' = .os b n k → jS cv b := by
  intro b n' k' e b' n'' k'' e' hh
  rw [hh] at e'
  rcases m.oc with ⟨h0, _⟩ | ⟨b2, cap, cs, h1, h2, h3⟩
  ·rw [h0] at e'; cases e'
  ·rw [h1] at e'; cases e'
   exact (keep b _ h2 (nco2 _ _ _ h1)).2 _ _ _ e rfl
 have o2 : OL l' 2 1 v' ((x.out ++ [n]).map eInt) := by simpa using o'
 exact k v' l' a' hk1.1 o'.cells ⟨aA _ _ _, by rw [aC _ _ _ m.ne.symm]; exact hk2.1, hoc.upd m.nc1 _, o2.upd hk1.2 _, m.nc1, m.nc2, hk1.2, hk2.2, hno, m.ne⟩
theorem aAr [GI] {c : Cfg} {C M st N : Nat} (L : ∀ n, n ≤ N → Lv c C M st n) {s l : AHeap} {ch : Chn} {x : MSt} {y : Stmt} (h : jA c C M st s l ch x) (hy : tT (scs ch) y) (hN : left c x * C + y.wt ≤ N + 1) :
  aD prog 74 [.ptr (some ⟨M, 0, none⟩), scV M ch, .agg (bA y)] (s.join l) (To c M st s (.tuple [.int .i64 ((ops c (N + 1)).stmt (bG ch) y x).1.1, .bool ((ops c (N + 1)).stmt (bG ch) y x).1.2]) ((ops c (N + 1)).stmt (bG ch) y x).2) := by
 have hR : (ops c (N + 1)).stmt (bG ch) y x = qA c (ops c N) (bG ch) y x := rfl
 generalize (ops c (N + 1)).stmt (bG ch) y x = R at hR ⊢
 rw [aB7] at hR
 simp only at hR
 have hS := hy
 cases hy with
 | mk _ he hb hels h1 h2 hp ee bb es =>
 have hwt := y.OR
 have LN := L N (Nat.le_refl _)
 have hC1 := h.C1
 have fin : ∀ (l' : AHeap) (w : MSt) (n : Int) (bk : Bool), s.apart l' → Mem l' M st c w → R = ((n, bk), w) → eE (To c M st s (.tuple [.int .i64 R.1.1, .bool R.1.2]) R.2) (.tuple [.int .i64 n, .bool bk]) (s.join l') := fun l' w n bk ha hm hw => by
  subst hw
  exact .same ⟨rfl, l', rfl, ha, hm⟩
 refine F74.calls (by simp) ?_
 delta F74.c0
 simp only [go_sem,seval]
 refine tcM (r7 h.a h.m h.ok) fun l1 a1 m1 => ?_
 have k1 := mW c x
 by_cases hs : (cD c x).1 = true
 case neg =>
  rw [if_neg hs] at hR
  have hsf := Bool.eq_false_iff.2 hs
  simp only [go_sem,seval, hsf]
  exact fin l1 _ 0 false a1 m1 hR
 rw [if_pos hs] at hR
 simp only [go_sem,seval, hs]
 have hl1 := Nat.mul_le_mul_right C k1.left
 generalize (cD c x).2 = x1 at hR m1 k1 hl1
 have H1 := h.next a1 m1 k1
 by_cases o1 : y.op = 1
 ·have hR2 : R = HR (ops c N) (bG ch) y x1 := by rw [hR]; unfold mT; rw [if_pos o1]
  rw [aDZ] at hR2
  have hpp := hp (.inl o1)
  obtain ⟨y0, hy0, ha0, hk0, hz0⟩ := hS.at (i := 0) (by have := h1 (by omega); omega)
  rw [ha0] at hR2
  have lP := LN.place H1 hpp (by omega)
  have kP := (fG c N).1 (bG ch) y.p x1
  generalize (ops c N).place (bG ch) y.p x1 = P at hR2 lP kP
  obtain ⟨⟨r, t⟩, xp⟩ := P
  simp only at hR2 lP kP
  simp only [go_sem,seval, o1, gP, zQ, j7, c6, aR, bO]
  refine tcM lP fun l2 a2 m2 => ?_
  have H2 := H1.next a2 m2 kP
  have hl2 := Nat.mul_le_mul_right C kP.left
  simp only [go_sem,seval]
  refine aS fun p hp => ?_
  simp only [go_sem,seval]
  refine aS fun q hq => ?_
  have hpq := iF hq
  have hqH := fT hq
  have hup : ∀ (H : AHeap) o1 o2, ((H.upd p o1).upd q o2) p = some o1 := fun H o1 o2 => by rw [aC _ _ _ hpq, aA]
  have hcm : ∀ (H : AHeap) o1 o2 o3, ((H.upd p o1).upd q o2).upd p o3 = (H.upd p o3).upd q o2 := fun H o1 o2 o3 => by rw [bH _ _ _ hpq.symm, aB]
  obtain ⟨hp1, hp2⟩ := join_none hp
  obtain ⟨hq1, hq2⟩ := join_none hqH
  have hu := (H2.up (.blk [.int .i64 r.1, .int .i64 r.2] 2 146) hp1 hp2).up (.blk (bV t) 3 51) (p := q) (by rw [aC _ _ _ hpq.symm]; exact hq1) hq2
  have leS := AN hpq hp1 hq1 (.blk [.int .i64 r.1, .int .i64 r.2] 2 146) (.blk (bV t) 3 51)
  have hpj : ∀ L, (((s.upd p (.blk [.int .i64 r.1, .int .i64 r.2] 2 146)).upd q (.blk (bV t) 3 51)).join L) p = some (.blk [.int .i64 r.1, .int .i64 r.2] 2 146) := fun L => fP (hup _ _ _)
  have hUJ : ((s.join l2).upd p (.blk [.int .i64 r.1, .int .i64 r.2] 2 146)).upd q (.blk (bV t) 3 51) = ((s.upd p (.blk [.int .i64 r.1, .int .i64 r.2] 2 146)).upd q (.blk (bV t) 3 51)).join l2 := by rw [bZ, bZ]
  have lE := LN.eval hu hk0 (by omega)
  have kE := (fG c N).2.1 (bG ch) y0 xp
  generalize (ops c N).eval (bG ch) y0 xp = E at hR2 lE kE
  obtain ⟨n, xe⟩ := E
  simp only at hR2 lE kE
  simp only [go_sem,seval, aA, hup, hcm, aB, iB, hUJ, hpj, fC, kY hy0, aR, bO]
  generalize ((s.upd p (.blk [.int .i64 r.1, .int .i64 r.2] 2 146)).upd q (.blk (bV t) 3 51)) = S at hu leS hpj lE ⊢
  refine tcM lE fun l3 a3 m3 => ?_
  have H3 := hu.next a3 m3 kE
  simp only [go_sem,seval, hpj]
  refine tcM (uP a3 m3 H3.ok r n) fun l4 a4 m4 => ?_
  simp only [go_sem,seval, hpj]
  subst hR2
  exact .forget (n8 leS a4) ⟨rfl, l4, rfl, kJ a4 leS, m4⟩
 by_cases o2 : y.op = 2
 ·have hR2 : R = (((0 : Int), false), ((ops c N).eval (bG ch) (y.at 0) x1).2) := by rw [hR]; unfold mT; rw [if_neg o1, if_pos o2]; rfl
  obtain ⟨y0, hy0, ha0, hk0, hz0⟩ := hS.at (i := 0) (by have := h1 (by omega); omega)
  rw [ha0] at hR2
  simp only [go_sem,seval, o2, gP, fC, kY hy0, j7, c6, aR, bO]
  refine tcM (LN.eval H1 hk0 (by omega)) fun l2 a2 m2 => ?_
  simp only [go_sem,seval]
  exact fin l2 _ 0 false a2 m2 hR2
 by_cases o3 : y.op = 3
 ·have hR2 : R = ifF (ops c N) (bG ch) y x1 := by rw [hR]; unfold mT; rw [if_neg o1, if_neg o2, if_pos o3]
  rw [aFk] at hR2
  obtain ⟨y0, hy0, ha0, hk0, hz0⟩ := hS.at (i := 0) (by have := h1 (by omega); omega)
  rw [ha0] at hR2
  have lE := LN.eval H1 hk0 (by omega)
  have kE := (fG c N).2.1 (bG ch) y0 x1
  generalize (ops c N).eval (bG ch) y0 x1 = E at hR2 lE kE
  obtain ⟨n, xe⟩ := E
  simp only at hR2 lE kE
  have hlE := Nat.mul_le_mul_right C kE.left
  simp only [go_sem,seval, o3, gP, fC, jD, kY hy0, j7, c6, aR, bO]
  refine tcM lE fun l2 a2 m2 => ?_
  have H2 := H1.next a2 m2 kE
  by_cases hn : n = 1
  ·rw [if_pos hn] at hR2
   simp only [go_sem,seval, hn, gH]
   refine tcE (dS a2 m2) ?_
   by_cases hc : xe.code = 0
   ·rw [if_pos hc] at hR2
    simp only [go_sem,seval, hc]
    refine tcM (LN.run H2 hb bb (by omega)) fun l3 a3 m3 => ?_
    simp only [go_sem,seval]
    exact fin l3 _ _ _ a3 m3 hR2
   ·rw [if_neg hc] at hR2
    simp only [go_sem,seval, hc]
    exact fin l2 _ 0 false a2 m2 hR2
  ·rw [if_neg hn] at hR2
   simp only [go_sem,seval, hn]
   refine tcE (dS a2 m2) ?_
   by_cases hc : xe.code = 0
   ·rw [if_pos hc] at hR2
    simp only [go_sem,seval, hc]
    refine tcM (LN.run H2 hels es (by omega)) fun l3 a3 m3 => ?_
    simp only [go_sem,seval]
    exact fin l3 _ _ _ a3 m3 hR2
   ·rw [if_neg hc] at hR2
    simp only [go_sem,seval, hc]
    exact fin l2 _ 0 false a2 m2 hR2
 by_cases o4 : y.op = 4
 ·have hR2 : R = (ops c N).whl (bG ch) y x1 := by rw [hR]; unfold mT; rw [if_neg o1, if_neg o2, if_neg o3, if_pos o4]
  obtain ⟨y0, hy0, ha0, hk0, hz0⟩ := hS.at (i := 0) (by have := h1 (by omega); omega)
  have hsz : 4 * y0.sz + 8 ≤ 8 + 4 * cI.sz y.e := by have := cI.dU (List.mem_of_getElem? hy0); omega
  simp only [go_sem,seval, o4, gP]
  refine qE (fun K e g => ∃ x' l', K ≤ N ∧ R = (ops c K).whl (bG ch) y x' ∧ jA c C M st s l' ch x' ∧ left c x' * C + (aZ.wt y.body + 4 * cI.sz y.e + 3) ≤ K ∧ g = s.join l' ∧ e = [(0, .ptr (some ⟨M, 0, none⟩)), (1, scV M ch), (5, .ip (bA y) 0)]) N (aF.env ?_) ⟨x1, l1, Nat.le_refl _, hR2, H1, by omega, rfl, rfl⟩ ?_
  ·simp only [go_sem,seval]
  ·rintro K e g ⟨x', l', hK, he', h', hK2, rfl, rfl⟩
   obtain ⟨K, rfl⟩ : ∃ k, K = k + 1 := ⟨K - 1, by omega⟩
   have he2 : R = wN c (ops c K) (bG ch) y x' := he'
   rw [aDI] at he2
   simp only at he2
   simp only [go_sem,seval]
   refine tcM (r7 h'.a h'.m h'.ok) fun l3 a3 m3 => ?_
   have k3 := mW c x'
   by_cases hs : (cD c x').1 = true
   case neg =>
    rw [if_neg hs] at he2
    have hsf := Bool.eq_false_iff.2 hs
    simp only [go_sem,seval, hsf]
    refine aM.same ?_
    simp only [go_sem,seval]
    exact fin l3 _ 0 false a3 m3 he2
   have hl3 := uM h'.ok hs
   rw [if_pos hs] at he2
   simp only [go_sem,seval, hs, fC, kY hy0, aR, bO]
   generalize (cD c x').2 = x3 at he2 m3 k3 hl3
   have h3 := h'.next a3 m3 k3
   have hmul : left c x3 * C + C = left c x' * C := by
    rw [← hl3, Nat.add_mul, Nat.one_mul]
   rw [ha0] at he2
   have lE := (L K (by omega)).eval h3 hk0 (by omega)
   have kE := (fG c K).2.1 (bG ch) y0 x3
   generalize (ops c K).eval (bG ch) y0 x3 = E at he2 lE kE
   obtain ⟨n, x4⟩ := E
   simp only at he2 lE kE
   refine tcM lE fun l4 a4 m4 => ?_
   have h4 := h3.next a4 m4 kE
   have hl4 := Nat.mul_le_mul_right C kE.left
   by_cases hn : n = 1
   case neg =>
    rw [if_neg (by simp [hn])] at he2
    simp only [go_sem,seval, hn]
    refine aM.same ?_
    simp only [go_sem,seval]
    exact fin l4 _ 0 false a4 m4 he2
   simp only [go_sem,seval, hn]
   refine tcE (dS a4 m4) ?_
   by_cases hc : x4.code = 0
   case neg =>
    rw [if_neg (by simp [hc])] at he2
    simp only [go_sem,seval, hc]
    refine aM.same ?_
    simp only [go_sem,seval]
    exact fin l4 _ 0 false a4 m4 he2
   rw [if_pos ⟨hn, hc⟩] at he2
   have lr := (L K (by omega)).run (fl := false) h4 hb bb (by omega)
   have kr := (fG c K).2.2.2.1 (bG ch) y.body x4
   generalize (ops c K).run (bG ch) y.body x4 = q at he2 lr kr
   obtain ⟨⟨w, bk⟩, x5⟩ := q
   simp only at he2 lr kr
   simp only [go_sem,seval, hc, gH]
   refine tcM lr fun l5 a5 m5 => ?_
   have h5 := h4.next a5 m5 kr
   have hl5 := Nat.mul_le_mul_right C kr.left
   cases bk with
   | true =>
    rw [if_pos rfl] at he2
    simp only [go_sem,seval]
    refine aM.same ?_
    simp only [go_sem,seval]
    exact fin l5 _ w true a5 m5 he2
   | false =>
    rw [if_neg (by simp)] at he2
    simp only [go_sem,seval]
    refine yL.to K _ _ (Nat.lt_succ_self _) (aF.env ?_) ⟨x5, l5, by omega, he2, h5, by omega, rfl, rfl⟩
    simp only [go_sem,seval]
 by_cases o5 : y.op = 5
 ·have hR2 : R = (ops c N).rep (bG ch) y x1 := by rw [hR]; unfold mT; rw [if_neg o1, if_neg o2, if_neg o3, if_neg o4, if_pos o5]
  obtain ⟨y0, hy0, ha0, hk0, hz0⟩ := hS.at (i := 0) (by have := h1 (by omega); omega)
  have hsz : 4 * y0.sz + 8 ≤ 8 + 4 * cI.sz y.e := by have := cI.dU (List.mem_of_getElem? hy0); omega
  simp only [go_sem,seval, o5, gP]
  refine qE (fun K e g => ∃ x' l', K ≤ N ∧ R = (ops c K).rep (bG ch) y x' ∧ jA c C M st s l' ch x' ∧ left c x' * C + (aZ.wt y.body + 4 * cI.sz y.e + 3) ≤ K ∧ g = s.join l' ∧ e = [(0, .ptr (some ⟨M, 0, none⟩)), (1, scV M ch), (5, .ip (bA y) 0)]) N (aF.env ?_) ⟨x1, l1, Nat.le_refl _, hR2, H1, by omega, rfl, rfl⟩ ?_
  ·simp only [go_sem,seval]
  ·rintro K e g ⟨x', l', hK, he', h', hK2, rfl, rfl⟩
   obtain ⟨K, rfl⟩ : ∃ k, K = k + 1 := ⟨K - 1, by omega⟩
   have he2 : R = xD c (ops c K) (bG ch) y x' := he'
   rw [aEg] at he2
   simp only [go_sem,seval]
   refine tcE (dS h'.a h'.m) ?_
   by_cases hc : x'.code = 0
   case neg =>
    rw [if_neg hc] at he2
    simp only [go_sem,seval, hc]
    refine aM.same ?_
    simp only [go_sem,seval]
    exact fin l' _ 0 false h'.a h'.m he2
   rw [if_pos hc] at he2
   have lr := (L K (by omega)).run (fl := false) h' hb bb (by omega)
   have kr := (fG c K).2.2.2.1 (bG ch) y.body x'
   generalize (ops c K).run (bG ch) y.body x' = q at he2 lr kr
   obtain ⟨⟨w, bk⟩, x4⟩ := q
   simp only at he2 lr kr
   simp only [go_sem,seval, hc, gH]
   refine tcM lr fun l4 a4 m4 => ?_
   have h4 := h'.next a4 m4 kr
   have hl4 := Nat.mul_le_mul_right C kr.left
   cases bk with
   | true =>
    rw [if_pos rfl] at he2
    simp only [go_sem,seval]
    refine aM.same ?_
    simp only [go_sem,seval]
    exact fin l4 _ w true a4 m4 he2
   | false =>
    rw [if_neg (by simp)] at he2
    simp only [go_sem,seval]
    refine tcM (r7 h4.a h4.m h4.ok) fun l3 a3 m3 => ?_
    have k3 := mW c x4
    by_cases hs : (cD c x4).1 = true
    case neg =>
     rw [if_neg hs] at he2
     have hsf := Bool.eq_false_iff.2 hs
     simp only [go_sem,seval, hsf]
     refine aM.same ?_
     simp only [go_sem,seval]
     exact fin l3 _ 0 false a3 m3 he2
    have hl3 := uM h4.ok hs
    rw [if_pos hs] at he2
    simp only [go_sem,seval, hs, fC, kY hy0, aR, bO]
    generalize (cD c x4).2 = x3 at he2 m3 k3 hl3
    have h3 := h4.next a3 m3 k3
    have hmul : left c x3 * C + C = left c x4 * C := by
     rw [← hl3, Nat.add_mul, Nat.one_mul]
    rw [ha0] at he2
    have lE := (L K (by omega)).eval h3 hk0 (by omega)
    have kE := (fG c K).2.1 (bG ch) y0 x3
    generalize (ops c K).eval (bG ch) y0 x3 = E at he2 lE kE
    obtain ⟨n, x5⟩ := E
    simp only at he2 lE kE
    refine tcM lE fun l5 a5 m5 => ?_
    have h5 := h3.next a5 m5 kE
    have hl5 := Nat.mul_le_mul_right C kE.left
    by_cases hn : n = 1
    ·rw [if_pos hn] at he2
     simp only [go_sem,seval, hn]
     refine aM.same ?_
     simp only [go_sem,seval]
     exact fin l5 _ 0 false a5 m5 he2
    ·rw [if_neg hn] at he2
     simp only [go_sem,seval, hn]
     refine yL.to K _ _ (Nat.lt_succ_self _) (aF.env ?_) ⟨x5, l5, by omega, he2, h5, by omega, rfl, rfl⟩
     simp only [go_sem,seval]
 by_cases o6 : y.op = 6
 ·have hR2 : R = vB (ops c N) (bG ch) y x1 := by rw [hR]; unfold mT; rw [if_neg o1, if_neg o2, if_neg o3, if_neg o4, if_neg o5, if_pos o6]
  simp only [go_sem,seval, o6, gP, j7, c6]
  refine tcM (ZA L H1 hS o6 (by omega)) fun l2 a2 m2 => ?_
  simp only [go_sem,seval]
  exact fin l2 _ _ _ a2 m2 hR2
 by_cases o7 : y.op = 7
 ·have hR2 : R = oE (ops c N) (bG ch) y x1 := by rw [hR]; unfold mT; rw [if_neg o1, if_neg o2, if_neg o3, if_neg o4, if_neg o5, if_neg o6, if_pos o7]
  have hz : (oE (ops c N) (bG ch) y x1).1 = (0, false) := by rw [PY]; simp only; split <;> (try split) <;> rfl
  simp only [go_sem,seval, o7, gP, zQ, j7, c6, aR, bO]
  refine tcM (aAY LN H1 (hp (.inr o7)) (by omega)) fun l2 a2 m2 => ?_
  simp only [go_sem,seval]
  exact fin l2 _ 0 false a2 m2 (by rw [hR2, ← hz])
 by_cases o8 : y.op = 8
 ·have hR2 : R = wM (ops c N) (bG ch) y x1 := by rw [hR]; unfold mT; rw [if_neg o1, if_neg o2, if_neg o3, if_neg o4, if_neg o5, if_neg o6, if_neg o7, if_pos o8]
  rw [Z2] at hR2
  obtain ⟨y0, hy0, ha0, hk0, hz0⟩ := hS.at (i := 0) (by have := h1 (by omega); omega)
  rw [ha0] at hR2
  have lE := LN.eval H1 hk0 (by omega)
  have kE := (fG c N).2.1 (bG ch) y0 x1
  generalize (ops c N).eval (bG ch) y0 x1 = E at hR2 lE kE
  obtain ⟨n, xe⟩ := E
  simp only at hR2 lE kE
  simp only [go_sem,seval, o8, gP, fC, kY hy0, j7, c6, aR, bO]
  refine tcM lE fun l2 a2 m2 => ?_
  have H2 := H1.next a2 m2 kE
  simp only [go_sem,seval]
  refine tcE (dS a2 m2) ?_
  by_cases hc : xe.code = 0
  case neg =>
   rw [if_neg hc] at hR2
   simp only [go_sem,seval, hc]
   exact fin l2 _ 0 false a2 m2 hR2
  rw [if_pos hc] at hR2
  obtain ⟨cv, ov, f, m⟩ := m2
  have hM := m.hMj a2
  simp only [go_sem,seval, hc]
  simp only [go_sem,seval, hM]
  have ho := H2.ok.out; have hst := H2.ok.steps; have hf := H2.ok.fuel
  refine m.aEm a2 n (by unfold roomFor; omega) fun v' l3 a3 hM3 hv3 m3 => ?_
  have hM3j := (AHeap.eT a3) _ _ hM3
  have hs3 := kX a3 hM3
  simp only [go_sem,seval, hM3j, hv3]
  rw [eL _ _ hs3]
  exact fin _ _ 0 false (dH a3 _ hs3) ⟨cv, v', f, m3⟩ hR2
 by_cases o9 : y.op = 9
 ·have hR2 : R = DV (ops c N) (bG ch) y x1 := by rw [hR]; unfold mT; rw [if_neg o1, if_neg o2, if_neg o3, if_neg o4, if_neg o5, if_neg o6, if_neg o7, if_neg o8, if_pos o9]
  rw [aEf] at hR2
  by_cases hz : y.e.length = 0
  ·rw [if_pos hz] at hR2
   simp only [go_sem,seval, o9, gP, fC, hz]
   refine tcE (dS a1 m1) ?_
   simp only [go_sem,seval]
   exact fin l1 _ 0 _ a1 m1 hR2
  ·rw [if_neg hz] at hR2
   obtain ⟨y0, hy0, ha0, hk0, hz0⟩ := hS.at (i := 0) (by omega)
   rw [ha0] at hR2
   have hgt : ((y.e.length : Int) > 0) = True := by simp; omega
   simp only [go_sem,seval, o9, gP, fC, hgt, kY hy0, j7, c6, aR, bO]
   refine tcM (LN.eval H1 hk0 (by omega)) fun l2 a2 m2 => ?_
   simp only [go_sem,seval]
   refine tcE (dS a2 m2) ?_
   simp only [go_sem,seval]
   exact fin l2 _ _ _ a2 m2 hR2
 have hR2 : R = (((0 : Int), false), x1) := by rw [hR]; unfold mT; rw [if_neg o1, if_neg o2, if_neg o3, if_neg o4, if_neg o5, if_neg o6, if_neg o7, if_neg o8, if_neg o9]; rfl
 simp only [go_sem,seval, o1, o2, o3, o4, o5, o6, o7, o8, o9, gP]
 exact fin l1 _ 0 false a1 m1 hR2
end Pg
