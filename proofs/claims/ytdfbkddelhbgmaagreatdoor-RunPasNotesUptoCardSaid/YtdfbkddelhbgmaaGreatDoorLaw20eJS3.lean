import Derived.Test.YtdfbkddelhbgmaaGreatDoorRunNames2JS3
import Derived.Test.YtdfbkddelhbgmaaGreatDoorNamesLawJS3
import Derived.Test.YtdfbkddelhbgmaaGreatDoorRun10JS3
import Derived.Test.YtdfbkddelhbgmaaGreatDoorRunFitJS3
import Derived.Test.YtdfbkddelhbgmaaGreatDoorTreeSS3
import Derived.Test.YtdfbkddelhbgmaaGreatDoorK4S3
import Derived.Test.YtdfbkddelhbgmaaGreatDoorNmXS3
import Derived.Test.YtdfbkddelhbgmaaGreatDoorLaw20S3
import Derived.Test.YtdfbkddelhbgmaaGreatDoorRw3JS3
namespace Pg.Nt
open Go Rf
set_option linter.all false
section
variable {ρ σ : ByteArray → ByteArray} {S : ByteArray → Prop} (H : ∀ n, S n → ρ n = σ n)
include H
mutual
theorem aFo : ∀ x : Expr, inE S x → rnE ρ x = rnE σ x
 | ⟨op, n, name, field, l⟩, h => by
  have h := (pS S _).1 h
  simp only [rnE, H _ h.1, H _ h.2.1, ZD l h.2.2]
theorem ZD : ∀ l : List Expr, fS S l → fI ρ l = fI σ l
 | [], _ => rfl
 | x :: r, h => by
  simp only [fS] at h
  simp only [fI, aFo x h.1, ZD r h.2]
end
mutual
theorem aF6 : ∀ x : Stmt, inS S x → rnS ρ x = rnS σ x
 | ⟨before, aP, op, name, p, e, down, more, body, els, cO, cT⟩, h => by
  have h := (qR S _).1 h
  simp only [rnS, H _ h.1, aFo H p h.2.1, ZD H e h.2.2.1, KT body h.2.2.2.1, KT els h.2.2.2.2]
theorem KT : ∀ l : List Stmt, lL S l → fH ρ l = fH σ l
 | [], _ => rfl
 | x :: r, h => by
  simp only [lL] at h
  simp only [fH, aF6 x h.1, KT r h.2]
end
theorem W1 {l : List Var} (h : ∀ v ∈ l, rA S v) : l.map (lJ ρ) = l.map (lJ σ) :=
 List.map_congr_left fun v hv => by simp only [lJ, dD, H _ (h v hv).1, H _ (h v hv).2]
theorem aBD {l : List Param} (h : ∀ v ∈ l, nW S v) : l.map (eK ρ) = l.map (eK σ) :=
 List.map_congr_left fun v hv => by simp only [eK, dD, H _ (h v hv).1, H _ (h v hv).2]
mutual
theorem aF7 : ∀ x : Routine, inR S x → rnR ρ x = rnR σ x
 | ⟨before, aP, name, result, params, vars, inner, body, bT⟩, h => by
  have h := (oP S _).1 h
  simp only [rnR, H _ h.1, aBD H h.2.1, W1 H h.2.2.1, ZC inner h.2.2.2.1, KT H body h.2.2.2.2]
theorem ZC : ∀ l : List Routine, kF S l → iS ρ l = iS σ l
 | [], _ => rfl
 | x :: r, h => by
  simp only [kF] at h
  simp only [iS, aF7 x h.1, ZC r h.2]
end
theorem aF8 {p : Prg} (h : inP S p) : rnP ρ p = rnP σ p := by
 have hr : p.recs.map (gA ρ) = p.recs.map (gA σ) := List.map_congr_left fun r hx => by
  have hi := h.recs r hx
  have : r.fields.map (jO ρ) = r.fields.map (jO σ) := List.map_congr_left fun f hf => by simp only [jO, H _ (hi.2 f hf)]
  simp only [gA, H _ hi.1, this]
 simp only [rnP, H _ h.name, hr, W1 H h.vars, ZC H p.aH h.aH, KT H p.body h.body]
end
section
variable (ρ : ByteArray → ByteArray)
mutual
theorem aEP : ∀ x : Expr, (rnE ρ x).sz = x.sz
 | ⟨op, n, name, field, l⟩ => by simp only [rnE, Expr.sz, XN l]
theorem XN : ∀ l : List Expr, cI.sz (fI ρ l) = cI.sz l
 | [] => rfl
 | x :: r => by simp only [fI, cI.sz, aEP x, XN r]
end
mutual
theorem aFS : ∀ x : Stmt, (rnS ρ x).wt = x.wt
 | ⟨before, aP, op, name, p, e, down, more, body, els, cO, cT⟩ => by simp only [rnS, Stmt.wt, aEP, XN, IX body, IX els]
theorem IX : ∀ l : List Stmt, aZ.wt (fH ρ l) = aZ.wt l
 | [] => rfl
 | x :: r => by simp only [fH, aZ.wt, aFS x, IX r]
end
mutual
theorem aFT : ∀ x : Routine, wtR (rnR ρ x) = wtR x
 | ⟨before, aP, name, result, params, vars, inner, body, bT⟩ => by simp only [rnR, wtR, IX, W8 inner]
theorem W8 : ∀ l : List Routine, mG (iS ρ l) = mG l
 | [] => rfl
 | x :: r => by simp only [iS, mG, aFT x, W8 r]
end
end
def YP : ByteArray := ⟨#[0, 0, 0, 0, 0]⟩
theorem aEl {a b : ByteArray} (h : YP ++ a = YP ++ b) : a = b := by
 have := congrArg (fun x : ByteArray => x.data.toList) h
 simp only [ByteArray.data_append, Array.toList_append] at this
 exact ByteArray.ext (Array.ext' (List.append_cancel_left this))
theorem aFg {ρ : ByteArray → ByteArray} (L : List ByteArray) (S : ByteArray → Prop) (hS : ∀ n, S n ↔ n ∈ L) (R : Ren ρ S) (small : ∀ n, S n → (ρ n).size ≤ 4) : ∃ σ, One σ ∧ ∀ n, S n → ρ n = σ n := by
 classical
 have hp : ∀ x : ByteArray, (YP ++ x).size = 5 + x.size := fun x => by rw [ByteArray.size_append]; rfl
 refine ⟨fun x => if x ∈ L then ρ x else YP ++ x, ⟨?_, ?_⟩, ?_⟩
 ·intro a b h
  by_cases ha : a ∈ L <;> by_cases hb : b ∈ L
  ·simp only [ha, hb, if_true] at h
   exact R.inj a b ((hS a).2 ha) ((hS b).2 hb) h
  ·simp only [ha, hb, if_true, if_false] at h
   have := small a ((hS a).2 ha)
   rw [h, hp] at this; omega
  ·simp only [ha, hb, if_true, if_false] at h
   have := small b ((hS b).2 hb)
   rw [← h, hp] at this; omega
  ·simp only [ha, hb, if_false] at h
   exact aEl h
 ·have : noBytes ∈ L := (hS _).1 R.FG
  simp only [this, if_true]; exact R.none_
 ·intro n hn
  simp only [(hS n).1 hn, if_true]
theorem aA8 {p : Prg} (ht : eI p = true) (hl : (names p).length ≤ 200) (hin : inP (qD p) p) (m : List ByteArray) (N : Nat) (input : List Int) (fuel : Int) :
  kS N { rnP (bX (eG 0 (names p))) p with mid := m } input fuel = kS N p input fuel := by
 obtain ⟨σ, h1, h2⟩ := aFg (noBytes :: nmP p) (qD p) (fun n => by simp [qD]) (YD hl) (fun n hn => by
  rcases E7 hn with ⟨_, e⟩ | ⟨_, k, _, _, e⟩
  ·rw [e]; decide
  ·rw [e]; exact (L4 k).1)
 have e : rnP (bX (eG 0 (names p))) p = rnP σ p := aF8 h2 hin
 show kS N { rnP (bX (eG 0 (names p))) p with mid := m } input fuel = _
 have : ∀ q : Prg, kS N { q with mid := m } input fuel = kS N q input fuel := fun q => rfl
 rw [this, e]
 exact aD9 h1 N p input fuel
theorem aEo : ∀ i < 200, dK (nn i) = true := by decide +kernel
theorem UO {p : Prg} (ht : eI p = true) (hl : (names p).length ≤ 200) (hin : inP (qD p) p) : eI { rnP (bX (eG 0 (names p))) p with mid := [⟨#[110]⟩] } = true := by
 have T : aFt (bX (eG 0 (names p))) (qD p) := ⟨YD hl, fun n hn h0 => by
  rcases E7 hn with ⟨e, _⟩ | ⟨_, k, hk, _, e⟩
  ·exact absurd e h0
  ·rw [e]; exact aEo k (by omega)⟩
 have h := aEX T hin ht
 unfold eI at h ⊢
 have hm : eU [⟨#[110]⟩] = true := by decide +kernel
 simp only [Bool.and_eq_true] at h ⊢
 simp only [hm, and_true]
 obtain ⟨⟨⟨⟨⟨⟨⟨⟨⟨h1, h2⟩, h3⟩, h4⟩, h5⟩, h6⟩, h7⟩, h8⟩, h9⟩, h10⟩ := h
 exact ⟨⟨⟨⟨⟨⟨⟨⟨h1, h2⟩, h4⟩, h5⟩, h6⟩, h7⟩, h8⟩, h9⟩, h10⟩
theorem aCz {p : Prg} (ρ : ByteArray → ByteArray) (m : List ByteArray) : mA (1 + mG ({ rnP ρ p with mid := m } : Prg).aH) { rnP ρ p with mid := m } = mA (1 + mG p.aH) p := by
 show 1048576 * (1 + mG (iS ρ p.aH)) + aZ.wt (fH ρ p.body) = _
 rw [W8, IX]
end Pg.Nt

namespace Pg
open Go
set_option linter.all false
set_option maxHeartbeats 4000000
set_option maxRecDepth 4000
end Pg

namespace Pg
open Go
set_option linter.all false
set_option maxHeartbeats 4000000
set_option maxRecDepth 4000
theorem JH {s : ByteArray} (h : dK s = true) : soft s := by
 refine ⟨?_, GB h⟩
 simp only [dK, Bool.and_eq_true, decide_eq_true_eq] at h
 have h1 := h.1
 unfold jY at h1
 unfold small
 by_cases h0 : s = noBytes
 ·rw [h0]; decide
 ·rw [if_neg h0] at h1
  by_cases hl : gK true (bytes s) = true
  ·rw [if_pos hl] at h1
   by_cases h2 : 32 < s.size
   ·rw [if_pos h2] at h1; simp at h1
   ·omega
  ·rw [if_neg hl] at h1; simp at h1
theorem aAq {p : Prg} (h : eI p = true) : inP soft p := LP (fun _ => JH) ⟨by unfold small; decide, A8⟩ h
theorem XJ {p : Prg} (h : eI p = true) : inP small p := LP (fun _ h => (JH h).1) (by unfold small; decide) h
end Pg

namespace Pg
open Go Tc Rf Nt
set_option linter.all false
set_option maxHeartbeats 4000000
set_option maxRecDepth 4000
theorem ZU [GI] (hm : Spc0) (h : AHeap) (p : Prg) (ho : p.ok) (hf : p.fit) (hw : wP p ≤ 1048576) (input : List Int) (hi : few input) (f : Bool) (fuel : Int) : aD Go.Proofs.Tryz.prog 5 [.agg (fJ p), .sl (input.map eInt) f, .int .i64 fuel] h (fun v g => v = .bool true ∧ g = h) := by
 have hul : upto fuel ≤ 20000 := by unfold upto; split <;> omega
 have hue : (if 20000 < fuel then 20000 else fuel) = upto fuel := rfl
 generalize upto fuel = F at hul hue
 refine F5.calls (by simp) ?_
 delta F5.c0
 simp only [go_sem,seval, oL, pN, hue]
 refine tcE (aAp p ho hf h) ?_
 cases ht : eI p with
 | false =>
  simp only [go_sem,seval]
  refine tcE (sX hm h) ?_
  simp only [go_sem,seval]
  exact .same ⟨rfl, rfl⟩
 | true =>
  simp only [go_sem,seval, oL, pN]
  refine tcE (T2 p ht ho h) ?_
  simp only [go_sem,seval]
  by_cases hc : (xH p).2 = 0
  case neg =>
   simp only [go_sem,seval, hc]
   refine tcE (sX hm h) ?_
   simp only [go_sem,seval]
   exact .same ⟨rfl, rfl⟩
  have hck := (YC ht).2 hc
  have hpl := XK ht
  have hnl := aEp hpl
  simp only [go_sem,seval, hc, oL, pN]
  refine tcE (ZV p ho (XJ ht) (by unfold roomy; omega) h) ?_
  simp only [go_sem,seval]
  by_cases hl : ((names p).length : Int) > 200
  ·simp only [go_sem,seval, hl]
   refine tcE (sX hm h) ?_
   simp only [go_sem,seval]
   exact .same ⟨rfl, rfl⟩
  simp only [go_sem,seval, hl]
  have hl2 : (names p).length ≤ 200 := by omega
  have hfew : few (names p) := by unfold few; omega
  refine aX (names p) (fun pre post e g => ∃ v, GL 45 2 h g v ((eG 0 pre).map iM) ∧ e = [(1, .sl (input.map eInt) f), (2, .int .i64 F), (3, .ip (fJ p) 0), (9, .sl (txt (names p)) false), (10, v), (11, .int .i64 pre.length)]) (aF.env ?_) ⟨.sl [] true, .nil h, rfl⟩ ?_ ?_
  ·simp only [go_sem,seval]
  ·rintro pre x post e g hp ⟨v, G, rfl⟩
   have hpl2 := (gE hp).2
   simp only [go_sem,seval, bI hp, aI (Z7 hp) (show _ = 1 from rfl)]
   refine tcE (VG g 2 pre.length (by simp; omega) (by omega)) ?_
   have hs : (((((⟨#[110]⟩ : ByteArray)).size + (vF 2 pre.length).size : Nat) : Int) > IntKind.i64.max) = False := by
    have a := yR 2 pre.length
    have m : IntKind.i64.max = 9223372036854775807 := by decide
    have z : (⟨#[110]⟩ : ByteArray).size = 1 := rfl
    rw [m, z]; simp; omega
   have hs' : ((((#[110] : Array UInt8).size + (vF 2 pre.length).size : Nat) : Int) > IntKind.i64.max) = False := hs
   simp only [go_sem,seval, hs, hs']
   refine G.mS (xs := iM ⟨x, nn pre.length⟩) (bytes := 32) rfl (by unfold roomFor; simp [B5]; omega) (fun v' g' G' => ?_)
   simp only [go_sem,seval]
   refine ⟨_, _, aF.env ?_, v', ?_, rfl⟩
   ·simp only [go_sem,seval, aQ hfew hp]
   ·rw [HH, List.map_append, Nat.zero_add]; exact G'
  ·rintro e g ⟨v, G, rfl⟩
   simp only [go_sem,seval, bE]
   refine aM.to (e' := [(1, .sl (input.map eInt) f), (2, .int .i64 F), (3, .ip (fJ p) 0), (10, .sl ((eG 0 (names p)).map iM) false)]) (g := h) (aF.of ?_ (.of_le G.le)) ?_
   ·simp only [go_sem,seval]
    exact G.B7
   simp only [go_sem,seval, oL, pN]
   refine tcE (VC (by_ := eG 0 (names p)) ⟨by unfold few; rw [B5]; omega, ES 0 _⟩ false p ho (aAq ht) (by omega) h) ?_
   have hin : inP (qD p) p := QM hpl fun m hm => .inr hm
   have hqr := UO ht hl2 hin
   have hqo : ({ rnP (bX (eG 0 (names p))) p with mid := [⟨#[110]⟩] } : Prg).ok := by
    have o := aE2 (ρ := bX (eG 0 (names p))) ho
    exact ⟨o.before, by simp [Pg.few], o.after, o.recs, o.rV, o.vars, o.FN, o.aH, o.iO, o.body, o.rH, o.bT⟩
   have hqc : check ({ rnP (bX (eG 0 (names p))) p with mid := [⟨#[110]⟩] } : Prg) = check p := by
    rw [← aBf p hpl hl2 hw]; rfl
   have R1 := fun k => JP hm k p ho ht input hi f F
   have R2 := fun k => JP hm k { rnP (bX (eG 0 (names p))) p with mid := [⟨#[110]⟩] } hqo hqr input hi f F
   have hwt : mA (1 + mG (rnP (bX (eG 0 (names p))) p).aH) ({ rnP (bX (eG 0 (names p))) p with mid := [⟨#[110]⟩] } : Prg) = mA (1 + mG p.aH) p := aCz _ _
   simp only [hwt, aA8 ht hl2 hin, hqc] at R2
   have hsteps := aAK (mA (1 + mG p.aH) p) p input F
   generalize kS (mA (1 + mG p.aH) p) p input F = r at R1 R2 hsteps
   have E : ∃ c o s, (if (check p).2 = 0 then IL r.code r.out r.steps else IL 1 [] 0) = IL c o s ∧ o.length ≤ 20000 := ⟨_, _, _, if_pos hck, by omega⟩
   obtain ⟨c, o, s, E, hol⟩ := E
   rw [E] at R1 R2
   generalize rnP (bX (eG 0 (names p))) p = q at R2 ⊢
   rw [gY] at R1 R2 ⊢
   rw [gY q]
   simp only [go_sem,seval]
   refine aS fun b hb => ?_
   simp only [go_sem,seval, aB, aA]
   refine tcE (R1 _) ?_
   simp only [go_sem,seval, aA]
   refine IN (R2 _) (.cons (.agg ?_) (.cons (.refl _) (.cons (.refl _) .nil))) (fun v g ⟨hv, hg⟩ => ?_)
   ·repeat' (first | exact fA.nil | exact dE.refl _ | exact dE.sl _ _ | refine fA.cons ?_ ?_)
   subst hv hg
   simp only [go_sem,seval, aA]
   refine tcE (JM _ c o s false false (by unfold Pg.few; omega)) ?_
   simp only [go_sem,seval]
   refine tcE (sX hm _) ?_
   simp only [go_sem,seval]
   exact .forget (AHeap.b8 hb) ⟨rfl, rfl⟩
