import Derived.Test.YtdfbkddelhbgmaaGreatDoorCheckSpecJS3
import Derived.Test.YtdfbkddelhbgmaaGreatDoorRw3JS3
import Derived.Test.YtdfbkddelhbgmaaGreatDoorNnXJS3
namespace Pg
open Go
set_option linter.all false
def Ups (s s' : CS) (n : Nat) : Prop := -1 ≤ s.item → s.item + n ≤ 4611686018427387904 → s.item ≤ s'.item ∧ s'.item ≤ s.item + n ∧ (s'.bad = 0 → s.bad = 0 ∧ s'.item = s.item + n)
theorem Ups.refl (s : CS) : Ups s s 0 := fun h1 h2 => ⟨by omega, by omega, fun h => ⟨h, by omega⟩⟩
theorem Ups.trans {s s' s'' : CS} {n m k : Nat} (a : Ups s s' n) (b : Ups s' s'' m) (e : n + m = k) : Ups s s'' k := by
 intro h1 h2
 obtain ⟨a1, a2, a3⟩ := a h1 (by omega)
 obtain ⟨b1, b2, b3⟩ := b (by omega) (by omega)
 exact ⟨by omega, by omega, fun h => ⟨(a3 (b3 h).1).1, by have := (b3 h).2; have := (a3 (b3 h).1).2; omega⟩⟩
theorem Ups.fail (s : CS) {e : Int} (he : e ≠ 0) : Ups s (s.fail e) 0 := by
 intro h1 h2
 unfold CS.fail
 split
 ·exact ⟨by simp, by simp, fun h => absurd h he⟩
 ·rename_i hb; exact ⟨by omega, by omega, fun h => absurd h hb⟩
theorem Ups.step (s : CS) : Ups s s.step 1 := by
 intro h1 h2
 have : w64 (s.item + 1) = s.item + 1 := MJ (by omega) (by omega)
 simp only [CS.step, this]
 exact ⟨by omega, by omega, fun h => ⟨h, by omega⟩⟩
theorem Ups.bad {s s' : CS} {n : Nat} (h : ¬ s.bad = 0) (e : s' = s) : Ups s s' n := by
 intro h1 h2
 subst e
 exact ⟨by omega, by omega, fun hh => absurd hh h⟩
theorem Ups.to {s s' s'' : CS} (a : Ups s s' 0) (b : Ups s' s'' 0) : Ups s s'' 0 := a.trans b rfl
theorem Ups.sH (s : CS) {e : Int} (he : e ≠ 0) (c : Prop) [Decidable c] : Ups s (if c then s else s.fail e) 0 := by
 split
 ·exact .refl s
 ·exact .fail s he
theorem Ups.aFf (s : CS) {e : Int} (he : e ≠ 0) (c : Prop) [Decidable c] : Ups s (if c then s.fail e else s) 0 := by
 split
 ·exact .fail s he
 ·exact .refl s
theorem LK (fs : List Scope) (s : CS) (name : ByteArray) (x : Thing) : Ups s (cR fs s name x).2 0 := by
 unfold cR; split
 ·exact .fail s (by decide)
 ·exact .refl s
theorem VL (fs : List Scope) (s : CS) (t : Typ) : Ups s (iW fs s t) 0 := by
 unfold iW; split
 ·split
  ·exact .refl s
  ·exact .fail s (by decide)
 ·exact .refl s
theorem r8 (fs : List Scope) (s : CS) (name : ByteArray) : Ups s (bK fs s name).2 0 := by
 unfold bK; split
 ·exact .refl s
 ·exact .fail s (by decide)
theorem Z6 (fs : List Scope) (s : CS) (t : Typ) (name : ByteArray) : Ups s (dV fs s t name).2 0 := by
 unfold dV; split
 ·split
  ·split
   ·exact .refl s
   ·exact .fail s (by decide)
  ·exact .fail s (by decide)
 ·exact .fail s (by decide)
theorem tF (kinds : List Int) (p : Typ × CS) : Ups p.2 (c8 kinds p).2 0 := by
 unfold c8; simp only; split
 ·exact .fail _ (by decide)
 ·exact .refl _
def y4 (fs : List Scope) (x : Expr) : Prop := ∀ s b, Ups s (bY fs s x b).2 0
theorem tE {fs : List Scope} : ∀ {l : List Expr}, (∀ x ∈ l, y4 fs x) → ∀ s k, Ups s (cC fs s l k) 0
 | [], _, s, k => by simp only [cC]; exact .refl s
 | x :: r, h, s, k => by
  simp only [cC]
  exact ((h x (by simp) s false).to (tF _ _)).to (tE (fun y hy => h y (by simp [hy])) _ k)
theorem VM {fs : List Scope} {l : List Expr} (h : ∀ x ∈ l, y4 fs x) (s : CS) (kinds : List Int) : Ups s (j4 fs s kinds l) 0 := by
 cases l with
 | nil => simp only [j4]; exact .refl s
 | cons x r =>
  simp only [j4]
  split
  ·exact ((h x (by simp) s false).to (tF _ _)).to (tE (fun y hy => h y (by simp [hy])) _ _)
  ·exact .refl s
theorem AL {fs : List Scope} : ∀ {l : List Expr}, (∀ x ∈ l, y4 fs x) → ∀ s ps, Ups s (dB fs s ps l) 0
 | [], _, s, ps => by cases ps <;> simp only [dB] <;> exact .refl s
 | x :: r, h, s, [] => by simp only [dB]; exact .refl s
 | x :: r, h, s, p :: ps => by
  have hr : ∀ y ∈ r, y4 fs y := fun y hy => h y (by simp [hy])
  simp only [dB]
  split
  ·split
   ·exact ((h x (by simp) s false).to (tF _ _)).to (AL hr _ _)
   ·refine Ups.to ?_ (AL hr _ _)
    exact ((Ups.sH s (by decide) _).to (h x (by simp) _ false)).to (Ups.sH _ (by decide) _)
  ·exact .refl s
theorem aEL (fs : List Scope) (x : Expr) (h : ∀ y ∈ x.l, y4 fs y) : y4 fs x := by
 intro s b
 rw [fQ]
 by_cases h0 : s.bad = 0
 ·rw [if_pos h0]
  by_cases o0 : x.op = 1
  ·rw [if_pos o0]
   exact .refl s
  rw [if_neg o0]
  by_cases o1 : x.op = 2
  ·rw [if_pos o1]
   exact .refl s
  rw [if_neg o1]
  by_cases o2 : x.op = 3
  ·rw [if_pos o2]
   exact .refl s
  rw [if_neg o2]
  by_cases o3 : x.op = 4
  ·rw [if_pos o3]
   exact r8 fs s _
  rw [if_neg o3]
  by_cases o4 : x.op = 5
  ·rw [if_pos o4]
   exact ((r8 fs s _).to (Ups.aFf _ (by decide) _)).to (tE h _ _)
  rw [if_neg o4]
  by_cases o5 : x.op = 6
  ·rw [if_pos o5]
   exact (r8 fs s _).to (Z6 _ _ _ _)
  rw [if_neg o5]
  by_cases o6 : x.op = 7
  ·rw [if_pos o6]
   have key : ∀ o : Option Thing, Ups s (match o with
    | some (.bU r) => if decide (0 < r.result) = b then (bC r.result, dB fs (s.fail 14) r.params x.l) else if r.params.length = x.l.length then (bC r.result, dB fs s r.params x.l) else (noTyp, s.fail 15)
    | _ => (noTyp, s.fail 13)).2 0 := by
    intro o
    rcases o with _ | (_ | _ | r)
    ·exact .fail s (by decide)
    ·exact .fail s (by decide)
    ·exact .fail s (by decide)
    ·simp only
     by_cases q : decide (0 < r.result) = b
     ·rw [if_pos q]; exact (Ups.fail s (by decide)).to (AL h _ _)
     ·rw [if_neg q]
      by_cases q2 : r.params.length = x.l.length
      ·rw [if_pos q2]; exact AL h _ _
      ·rw [if_neg q2]; exact .fail s (by decide)
   exact key _
  rw [if_neg o6]
  by_cases o7 : x.op = 9 ∨ (13 ≤ x.op ∧ x.op ≤ 14) ∨ (17 ≤ x.op ∧ x.op ≤ 18)
  ·rw [if_pos o7]
   exact tE h _ _
  rw [if_neg o7]
  by_cases o8 : x.op = 19 ∨ x.op = 20
  ·rw [if_pos o8]
   exact VM h _ _
  rw [if_neg o8]
  by_cases o9 : 21 ≤ x.op ∧ x.op ≤ 24
  ·rw [if_pos o9]
   exact VM h _ _
  rw [if_neg o9]
  exact tE h _ _
 ·rw [if_neg h0]; exact .refl s
theorem VN (fs : List Scope) : ∀ (n : Nat) (x : Expr), x.sz ≤ n → y4 fs x
 | 0, x, h => by obtain ⟨op, k, name, field, l⟩ := x; simp [Expr.sz] at h
 | n + 1, x, h => aEL fs x fun y hy => VN fs n y (by
   have := cI.dU hy
   have := Expr.cY x
   omega)
theorem wU (fs : List Scope) (x : Expr) : y4 fs x := VN fs _ x (Nat.le_refl _)
theorem x0 (fs : List Scope) (s : CS) (l : List Expr) (k : Int) : Ups s (cC fs s l k) 0 := tE (fun x _ => wU fs x) s k
theorem O3 (fs : List Scope) : ∀ (l : List Expr) (s : CS), Ups s (nZ fs s l) 0
 | [], s => .refl s
 | x :: r, s => (wU fs x s true).to (O3 fs r _)
theorem aDN (fs : List Scope) (s : CS) (x : Expr) : Ups s (B1 fs s x).2 0 := (wU fs x s false).to (tF _ _)
theorem O4 (fs : List Scope) : ∀ (l : List Expr) (s : CS), Ups s (n5 fs s l) 0
 | [], s => .refl s
 | x :: r, s => (aDN fs s x).to (O4 fs r _)
theorem XB (fs : List Scope) (s : CS) (res : Int) (e : List Expr) : Ups s (iG fs s res e) 0 := by
 unfold iG
 have a : Ups s (if decide (0 < res) = decide (0 < e.length) then s else s.fail 16) 0 := by
  split
  ·exact .refl s
  ·exact .fail s (by decide)
 simp only
 split
 ·exact a.to (x0 _ _ _ _)
 ·exact a
theorem aBX (fs : List Scope) (s : CS) (res : Int) (x : Stmt) : Ups s (eX fs s res x) 0 := by
 unfold eX
 split
 ·exact ((wU fs x.p s false).to (tF _ _)).to (x0 _ _ _ _)
 split
 ·exact O3 _ _ _
 split
 ·exact x0 _ _ _ _
 split
 ·simp only
  exact ((r8 fs s _).to (Ups.sH _ (by decide) _)).to (x0 _ _ _ _)
 split
 ·exact (wU fs x.p s false).to (tF _ _)
 split
 ·exact O4 _ _ _
 split
 ·exact XB _ _ _ _
 ·exact .refl s
theorem uK (fs : List Scope) (res : Int) : ∀ (n : Nat) (l : List Stmt), aZ.sz l ≤ n → ∀ s, Ups s (cS fs s res l) (sU l)
 | n, [], h, s => by simp only [cS, sU]; exact .refl s
 | 0, x :: r, h, s => by simp [aZ.sz] at h
 | n + 1, x :: r, h, s => by
  simp only [cS]
  have h1 := Stmt.cY x
  have h2 : aZ.sz (x :: r) = 1 + x.sz + aZ.sz r := by simp only [aZ.sz]
  by_cases hb : s.bad = 0
  ·rw [if_pos hb, uV]
   have a := uK fs res n x.body (by omega) (eX fs s.step res x)
   have b := uK fs res n x.els (by omega) (cS fs (eX fs s.step res x) res x.body)
   have c := uK fs res n r (by omega) (cS fs (cS fs (eX fs s.step res x) res x.body) res x.els)
   refine ((((Ups.step s).trans (aBX fs s.step res x) rfl).trans a rfl).trans b rfl).trans c ?_
   simp only [sU, WY]; omega
  ·rw [if_neg hb]; exact .bad hb rfl
theorem HP {behind : List Routine} : ∀ (l : List Var) (fs : List Scope) (s : CS), Ups s (cH fs s l behind).2 l.length
 | [], fs, s => by simp only [cH]; exact .refl s
 | v :: r, fs, s => by
  simp only [cH]
  by_cases hb : s.bad = 0
  ·rw [if_pos hb]
   have a : Ups s.step (if behind.any (fun x => decide (x.name = v.name)) then s.step.fail 12 else s.step) 0 := by
    split
    ·exact .fail _ (by decide)
    ·exact .refl _
   refine (((Ups.step s).trans ((a.to (LK fs _ _ _)).to (VL _ _ _)) rfl).trans (HP r _ _) ?_)
   simp; omega
  ·rw [if_neg hb]; exact .bad hb rfl
theorem I0 : ∀ (l : List Param) (fs : List Scope) (s : CS), Ups s (cA fs s l).2 0
 | [], fs, s => by simp only [cA]; exact .refl s
 | v :: r, fs, s => by
  simp only [cA]
  exact ((LK fs s _ _).to (VL _ _ _)).to (I0 r _ _)
theorem O2 : ∀ (l : List Rec) (fs : List Scope) (s : CS), Ups s (dY fs s l).2 l.length
 | [], fs, s => by simp only [dY]; exact .refl s
 | v :: r, fs, s => by
  simp only [dY]
  by_cases hb : s.bad = 0
  ·rw [if_pos hb]
   have a : Ups (cR fs s.step v.name (.rcd v)).2 (if iP [] v.fields then (cR fs s.step v.name (.rcd v)).2.fail 12 else (cR fs s.step v.name (.rcd v)).2) 0 := by
    split
    ·exact .fail _ (by decide)
    ·exact .refl _
   refine (((Ups.step s).trans ((LK fs s.step _ _).to a) rfl).trans (O2 r _ _) ?_)
   simp; omega
  ·rw [if_neg hb]; exact .bad hb rfl
theorem wQ : ∀ (n : Nat) (l : List Routine), bB.sz l ≤ n → ∀ around all s, Ups s (b7 around all s l) (uD l)
 | n, [], h, around, all, s => by simp only [b7, uD]; exact .refl s
 | 0, x :: r, h, around, all, s => by simp [bB.sz] at h
 | n + 1, x :: r, h, around, all, s => by
  simp only [b7]
  have h1 := Routine.cY x
  have h2 : bB.sz (x :: r) = 1 + x.sz + bB.sz r := by simp only [bB.sz]
  by_cases hb : s.bad = 0
  ·rw [if_pos hb]
   have a : Ups s.step (if (bD around x.name).isSome then s.step.fail 12 else s.step) 0 := by
    split
    ·exact .fail _ (by decide)
    ·exact .refl _
   generalize (if (bD around x.name).isSome then s.step.fail 12 else s.step) = s1 at a
   have c := wQ n r (by omega) around all (jI all s1 x)
   have b : Ups s1 (jI all s1 x) (aCT x) := by
    rw [iX]
    have p := I0 x.params ([] :: all) s1
    simp only
    have q : Ups (cA ([] :: all) s1 x.params).2 (if 0 < x.result ∧ kW x.body = false then (cA ([] :: all) s1 x.params).2.fail 16 else (cA ([] :: all) s1 x.params).2) 0 := by
     split
     ·exact .fail _ (by decide)
     ·exact .refl _
    refine (((p.to q).trans (HP x.vars _ _) rfl).trans (wQ n x.inner (by omega) _ _ _) rfl).trans (uK _ _ _ x.body (Nat.le_refl _) _) ?_
    rw [WZ, Nat.zero_add]
   refine (((Ups.step s).trans a rfl).trans b rfl).trans c ?_
   simp only [uD] <;> omega
  ·rw [if_neg hb]; exact .bad hb rfl
theorem aDM (p : Prg) : Ups ⟨-1, 0⟩ (mY p) (ZB p) := by
 unfold mY
 refine (((O2 p.recs _ _).trans (HP p.vars _ _) rfl).trans (wQ _ p.aH (Nat.le_refl _) _ _ _) rfl).trans (uK _ _ _ p.body (Nat.le_refl _) _) ?_
 simp only [ZB]
end Pg

namespace Pg
open Go
set_option linter.all false
set_option maxRecDepth 4000
def nn (i : Nat) : ByteArray := (⟨#[110]⟩ : ByteArray) ++ vF 2 i
def eG : Nat → List ByteArray → List vJ
 | _, [] => []
 | i, s :: r => ⟨s, nn i⟩ :: eG (i + 1) r
theorem HH : ∀ (i : Nat) (l : List ByteArray) (x : ByteArray), eG i (l ++ [x]) = eG i l ++ [⟨x, nn (i + l.length)⟩]
 | i, [], x => rfl
 | i, s :: r, x => by
  have e : i + 1 + r.length = i + (r.length + 1) := by omega
  simp only [List.cons_append, eG, HH (i + 1) r x, List.length_cons, e]
theorem B5 : ∀ (i : Nat) (l : List ByteArray), (eG i l).length = l.length
 | i, [] => rfl
 | i, s :: r => by simp [eG, B5 (i + 1) r]
theorem L4 (i : Nat) : (nn i).size ≤ 4 ∧ 1 ≤ (nn i).size := by
 unfold nn
 have := yR 2 i
 rw [ByteArray.size_append]
 have : (⟨#[110]⟩ : ByteArray).size = 1 := rfl
 omega
theorem ES : ∀ (i : Nat) (l : List ByteArray), ∀ p ∈ eG i l, small p.new
 | i, [], p, h => by simp [eG] at h
 | i, s :: r, p, h => by
  simp only [eG, List.mem_cons] at h
  rcases h with rfl | h
  ·have := (L4 i).1; unfold small; simp only; omega
  ·exact ES (i + 1) r p h
def aEM (s : ByteArray) : Nat := (s.data.toList.drop 1).foldl (fun v b => 10 * v + (b.toNat - 48)) 0
theorem aDe : ∀ i < 200, aEM (nn i) = i := by decide +kernel
theorem aDA (i : Nat) : nn i ≠ noBytes := by
 intro h
 have := (L4 i).2
 rw [h] at this
 exact absurd this (by decide)
theorem QG : ∀ (l : List ByteArray) (i : Nat) (s : ByteArray), s ∈ l → ∃ k, k < l.length ∧ l[k]? = some s ∧ vV s (eG i l) = nn (i + k)
 | x :: r, i, s, h => by
  simp only [eG, vV]
  by_cases hx : x = s
  ·exact ⟨0, by simp, by simp [hx], by simp [hx]⟩
  ·have hr : s ∈ r := by
    rcases List.mem_cons.1 h with rfl | h
    ·exact absurd rfl hx
    ·exact h
   obtain ⟨k, k1, k2, k3⟩ := QG r (i + 1) s hr
   refine ⟨k + 1, by simp; omega, by simpa using k2, ?_⟩
   rw [if_neg hx, k3]
   congr 1; omega
def qD (p : Prg) (n : ByteArray) : Prop := n = noBytes ∨ n ∈ nmP p
theorem E7 {p : Prg} {n : ByteArray} (h : qD p n) : (n = noBytes ∧ bX (eG 0 (names p)) n = noBytes) ∨ (n ≠ noBytes ∧ ∃ k, k < (names p).length ∧ (names p)[k]? = some n ∧ bX (eG 0 (names p)) n = nn k) := by
 unfold bX
 by_cases h0 : n = noBytes
 ·exact .inl ⟨h0, by rw [if_pos h0]; exact h0⟩
 ·refine .inr ⟨h0, ?_⟩
  rw [if_neg h0]
  have hm : n ∈ names p := (A9 _ _ _).2 (.inr ⟨h.resolve_left h0, h0⟩)
  obtain ⟨k, k1, k2, k3⟩ := QG (names p) 0 n hm
  exact ⟨k, k1, k2, by rw [k3, Nat.zero_add]⟩
theorem YD {p : Prg} (hl : (names p).length ≤ 200) : Ren (bX (eG 0 (names p))) (qD p) := by
 refine ⟨?_, by unfold bX; rw [if_pos rfl], .inl rfl⟩
 intro a b ha hb he
 rcases E7 ha with ⟨a1, a2⟩ | ⟨a1, i, i1, i2, i3⟩ <;> rcases E7 hb with ⟨b1, b2⟩ | ⟨b1, j, j1, j2, j3⟩
 ·rw [a1, b1]
 ·rw [a2, j3] at he; exact absurd he.symm (aDA j)
 ·rw [b2, i3] at he; exact absurd he (aDA i)
 ·rw [i3, j3] at he
  have : i = j := by rw [← aDe i (by omega), he, aDe j (by omega)]
  subst this
  rw [i2] at j2; cases j2; rfl
theorem YV (p : Prg) (hw : wP p ≤ 1048576) : w64 (mY p).item = (mY p).item := by
 have hcnt := aEB p
 obtain ⟨u1, u2, _⟩ := aDM p (by simp) (by simp; omega)
 simp only at u1 u2
 exact MJ (by omega) (by omega)
theorem aBf (p : Prg) (hpl : inP plain p) (hl : (names p).length ≤ 200) (hw : wP p ≤ 1048576) : check (rnP (bX (eG 0 (names p))) p) = check p := by
 have hin : inP (qD p) p := QM hpl fun m hm => .inr hm
 obtain ⟨s1, s2⟩ := aE1 (YD hl) hin
 rw [Int.add_zero, YV p hw] at s2
 simp only [check, s1, s2]
section
variable {ρ : ByteArray → ByteArray}
theorem lR {X Y : Type} {f : X → Y} {l : List X} (h : few l) : few (l.map f) := by unfold few at *; simpa using h
theorem PV : ∀ (n : Nat) (x : Expr), x.sz ≤ n → x.ok → (rnE ρ x).ok
 | 0, x, hn, k => by rw [Expr.cY] at hn; omega
 | n + 1, x, hn, k => by
  obtain ⟨a, b⟩ := (Expr.cN x).1 k
  have hz := Expr.cY x
  rw [lC, Expr.cN]
  simp only [iC]
  refine ⟨lR a, fun y hy => ?_⟩
  obtain ⟨z, hz', rfl⟩ := List.mem_map.1 hy
  exact PV n z (by have := cI.dU hz'; omega) (b z hz')
theorem JU : ∀ (n : Nat) (x : Stmt), x.sz ≤ n → x.ok → (rnS ρ x).ok
 | 0, x, hn, k => by rw [Stmt.cY] at hn; omega
 | n + 1, x, hn, k => by
  obtain ⟨a1, a2, a3, a4, a5, a6, a7, a8, a9, a10, a11⟩ := (Stmt.cN x).1 k
  have hz := Stmt.cY x
  rw [mV, Stmt.cN]
  simp only [iC, kT]
  refine ⟨a1, a2, PV _ _ (Nat.le_refl _) a3, lR a4, ?_, lR a6, ?_, lR a8, ?_, a10, a11⟩
  ·intro y hy
   obtain ⟨z, hz', rfl⟩ := List.mem_map.1 hy
   exact PV _ _ (Nat.le_refl _) (a5 z hz')
  ·intro y hy
   obtain ⟨z, hz', rfl⟩ := List.mem_map.1 hy
   exact JU n z (by have := aZ.dU hz'; omega) (a7 z hz')
  ·intro y hy
   obtain ⟨z, hz', rfl⟩ := List.mem_map.1 hy
   exact JU n z (by have := aZ.dU hz'; omega) (a9 z hz')
theorem aAW : ∀ (n : Nat) (x : Routine), x.sz ≤ n → x.ok → (rnR ρ x).ok
 | 0, x, hn, k => by rw [Routine.cY] at hn; omega
 | n + 1, x, hn, k => by
  obtain ⟨a1, a2, a3, a4, a5, a6, a7, a8, a9, a10⟩ := (Routine.cN x).1 k
  have hz := Routine.cY x
  rw [kZ, Routine.cN]
  simp only [oD, kT]
  refine ⟨a1, a2, lR a3, lR a4, ?_, lR a6, ?_, lR a8, ?_, a10⟩
  ·intro y hy
   obtain ⟨z, hz', rfl⟩ := List.mem_map.1 hy
   exact ⟨(a5 z hz').before, (a5 z hz').aP⟩
  ·intro y hy
   obtain ⟨z, hz', rfl⟩ := List.mem_map.1 hy
   exact aAW n z (by have := bB.dU hz'; omega) (a7 z hz')
  ·intro y hy
   obtain ⟨z, hz', rfl⟩ := List.mem_map.1 hy
   exact JU _ _ (Nat.le_refl _) (a9 z hz')
theorem aE2 {p : Prg} (ho : p.ok) : (rnP ρ p).ok := by
 unfold rnP
 refine ⟨ho.before, ho.mid, ho.after, lR ho.recs, ?_, lR ho.vars, ?_, ?_, ?_, ?_, ?_, ho.bT⟩
 ·intro y hy
  obtain ⟨z, hz, rfl⟩ := List.mem_map.1 hy
  have := ho.rV z hz
  refine ⟨this.before, this.aP, lR this.fields, ?_, this.bT⟩
  intro f hf
  obtain ⟨k, hk, rfl⟩ := List.mem_map.1 hf
  exact ⟨(this.each k hk).before, (this.each k hk).aP⟩
 ·intro y hy
  obtain ⟨z, hz, rfl⟩ := List.mem_map.1 hy
  exact ⟨(ho.FN z hz).before, (ho.FN z hz).aP⟩
 ·simp only [oD]; exact lR ho.aH
 ·intro y hy
  simp only [oD] at hy
  obtain ⟨z, hz, rfl⟩ := List.mem_map.1 hy
  exact aAW _ _ (Nat.le_refl _) (ho.iO z hz)
 ·simp only [kT]; exact lR ho.body
 ·intro y hy
  simp only [kT] at hy
  obtain ⟨z, hz, rfl⟩ := List.mem_map.1 hy
  exact JU _ _ (Nat.le_refl _) (ho.rH z hz)
end
end Pg
