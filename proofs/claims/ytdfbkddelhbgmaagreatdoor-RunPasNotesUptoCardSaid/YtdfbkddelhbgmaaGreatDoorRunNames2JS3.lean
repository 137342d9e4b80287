import Derived.Test.YtdfbkddelhbgmaaGreatDoorRun4JS3
import Derived.Test.YtdfbkddelhbgmaaGreatDoorRnS3
namespace Pg.Nt
open Go
set_option linter.all false
section
variable (σ : ByteArray → ByteArray)
def rnV (v : VarAt) : VarAt := ⟨v.frm, v.len, dD σ v.t⟩
def qL (l : Names) : Names := l.map fun q => (σ q.1, rnV σ q.2)
def rnF (f : Frm) : Frm := ⟨qL σ f.names, iS σ f.aH⟩
def rnC (c : Cfg) : Cfg := ⟨c.recs.map (gA σ), c.fuel⟩
end
structure One (σ : ByteArray → ByteArray) : Prop where
 inj : ∀ a b, σ a = σ b → a = b
 none_ : σ noBytes = noBytes
section
variable {σ : ByteArray → ByteArray} (R : One σ)
include R
theorem One.eq (a b : ByteArray) : (σ a = σ b) = (a = b) := propext ⟨R.inj a b, fun h => by rw [h]⟩
theorem WD (n : ByteArray) : ∀ l : Names, xK (σ n) (qL σ l) = (xK n l).map (rnV σ)
 | [] => rfl
 | (k, v) :: r => by
  simp only [qL, List.map_cons, xK, R.eq]
  by_cases h : n = k
  ·simp [h]
  ·simp only [h, if_false]; exact WD n r
theorem FB (n : ByteArray) (x : VarAt) : ∀ l : Names, sJ (σ n) (rnV σ x) (qL σ l) = qL σ (sJ n x l)
 | [] => rfl
 | (k, v) :: r => by
  simp only [qL, List.map_cons, sJ, R.eq]
  by_cases h : n = k
  ·simp [h]
  ·have := FB n x r
   simp only [qL] at this
   simp only [h, if_false, List.map_cons, this]
theorem A3 : dD σ zTyp = zTyp := by simp only [dD, R.none_]
theorem aCm : rnV σ noVar = noVar := by simp only [rnV, A3 R]
theorem HV (n : ByteArray) : ∀ ch : List Frm, varOf (σ n) (ch.map (rnF σ)) = rnV σ (varOf n ch)
 | [] => by simp only [List.map_nil, varOf]; exact (aCm R).symm
 | f :: r => by
  simp only [List.map_cons, varOf, rnF, WD R, HV n r]
  cases xK n f.names <;> rfl
theorem wD {X : Type} (g : X → X) (nm : X → ByteArray) (hg : ∀ x, nm (g x) = σ (nm x)) (n : ByteArray) : ∀ l : List X, (l.map g).find? (fun x => decide (nm x = σ n)) = (l.find? fun x => decide (nm x = n)).map g
 | [] => rfl
 | x :: l => by
  simp only [List.map_cons, List.find?_cons, hg, R.eq]
  by_cases h : nm x = n
  ·simp [h]
  ·simp only [h, decide_false]; exact wD g nm hg n l
theorem aCi : rnR σ zRout = zRout := by simp [rnR, iS, fH, R.none_]
theorem ND (n : ByteArray) : ∀ ch : List Frm, jT (σ n) (ch.map (rnF σ)) = (rnR σ (jT n ch).1, (jT n ch).2.map (rnF σ))
 | [] => by simp only [List.map_nil, jT, aCi R]
 | f :: r => by
  have hf := wD R (rnR σ) (fun x : Routine => x.name) (fun x => by rw [kZ]) n f.aH
  simp only [List.map_cons, jT, rnF, oD, hf]
  cases f.aH.find? (fun x => decide (x.name = n)) with
  | none => simpa using ND n r
  | some x => simp [rnF, oD]
theorem aCn (rs : List Rec) (t : Typ) : nO (rs.map (gA σ)) (dD σ t) = nO rs t := by
 have hf : ∀ l : List Rec, (l.map (gA σ)).find? (fun r => decide (t.kind = 4) && decide (r.name = σ t.name)) = (l.find? fun r => decide (t.kind = 4) && decide (r.name = t.name)).map (gA σ) := by
  intro l
  induction l with
  | nil => rfl
  | cons x l ih =>
   simp only [List.map_cons, List.find?_cons, gA, R.eq] at ih ⊢
   by_cases h : (decide (t.kind = 4) && decide (x.name = t.name)) = true
   ·simp only [h, Option.map_some]; rfl
   ·simp only [Bool.not_eq_true] at h
    simp only [h]; exact ih
 show (if 0 < t.size then t.size else match (rs.map (gA σ)).find? (fun r => decide (t.kind = 4) && decide (r.name = σ t.name)) with | some r => (r.fields.length : Int) | none => 1) = _
 rw [hf rs]
 unfold nO
 cases rs.find? (fun r => decide (t.kind = 4) && decide (r.name = t.name)) with
 | none => rfl
 | some r => simp [gA]
theorem X7 (rs : List Rec) (t : Typ) (n : ByteArray) : jE (rs.map (gA σ)) (dD σ t) (σ n) = ((jE rs t n).1, dD σ (jE rs t n).2) := by
 have hf := wD R (gA σ) (fun x : Rec => x.name) (fun x => rfl) t.name rs
 show (match (rs.map (gA σ)).find? (fun r : Rec => decide (r.name = σ t.name)) with | none => ((0 : Int), dD σ t) | some (r : Rec) => match r.fields.findIdx? (fun f : Fld => decide (f.name = σ n)) with | none => (0, dD σ t) | some i => ((i : Int), ⟨(r.fields.getD i ⟨[], [], noBytes, 0⟩).kind, 0, noBytes⟩)) = _
 rw [hf]
 unfold jE
 cases rs.find? (fun x => decide (x.name = t.name)) with
 | none => rfl
 | some r =>
  simp only [Option.map_some, gA, List.findIdx?_map]
  have hp : ((fun f : Fld => decide (f.name = σ n)) ∘ jO σ) = fun f : Fld => decide (f.name = n) := by
   funext f; simp only [Function.comp, jO, R.eq]
  rw [hp]
  cases hx : r.fields.findIdx? (fun f => decide (f.name = n)) with
  | none => rfl
  | some i =>
   have hk : ((r.fields.map (jO σ)).getD i ⟨[], [], noBytes, 0⟩).kind = (r.fields.getD i ⟨[], [], noBytes, 0⟩).kind := by
    rw [List.getD_eq_getElem?_getD, List.getD_eq_getElem?_getD, List.getElem?_map]
    cases r.fields[i]? <;> rfl
   simp only [dD, hk, R.none_]
theorem X9 (e : Expr) (i : Nat) : (rnE σ e).at i = rnE σ (e.at i) := by
 rw [lC]
 simp only [Expr.at, iC]
 rw [List.getD_eq_getElem?_getD, List.getD_eq_getElem?_getD, List.getElem?_map]
 cases e.l[i]? with
 | some x => rfl
 | none => simp [default, instInhabitedExpr, rnE, fI, R.none_]
theorem uN (x : Stmt) (i : Nat) : (rnS σ x).at i = rnE σ (x.at i) := by
 rw [mV]
 simp only [Stmt.at, iC]
 rw [List.getD_eq_getElem?_getD, List.getD_eq_getElem?_getD, List.getElem?_map]
 cases x.e[i]? with
 | some x => rfl
 | none => simp [default, instInhabitedExpr, rnE, fI, R.none_]
omit R in
def mp {α β : Type} (f : α → β) (m : Mc α) : Mc β := fun s => (f (m s).1, (m s).2)
omit R in
theorem FI {α β γ : Type} (f : α → β) (m : Mc α) (k : β → Mc γ) : (mp f m >>= k) = (m >>= fun x => k (f x)) := rfl
structure pE (σ : ByteArray → ByteArray) (o o' : Ops) : Prop where
 place : ∀ ch e, o'.place (ch.map (rnF σ)) (rnE σ e) = mp (fun r => (r.1, dD σ r.2)) (o.place ch e)
 eval : ∀ ch e, o'.eval (ch.map (rnF σ)) (rnE σ e) = o.eval ch e
 call : ∀ ch e, o'.call (ch.map (rnF σ)) (rnE σ e) = o.call ch e
 run : ∀ ch l, o'.run (ch.map (rnF σ)) (fH σ l) = o.run ch l
 stmt : ∀ ch x, o'.stmt (ch.map (rnF σ)) (rnS σ x) = o.stmt ch x
 whl : ∀ ch x, o'.whl (ch.map (rnF σ)) (rnS σ x) = o.whl ch x
 rep : ∀ ch x, o'.rep (ch.map (rnF σ)) (rnS σ x) = o.rep ch x
 cnt : ∀ ch x i b r, o'.cnt (ch.map (rnF σ)) (rnS σ x) i b r = o.cnt ch x i b r
theorem X6 (e : Expr) : (rnE σ e).op = e.op := by rw [lC]
theorem aF0 (e : Expr) : (rnE σ e).n = e.n := by rw [lC]
theorem WE (e : Expr) : (rnE σ e).name = σ e.name := by rw [lC]
theorem HY (e : Expr) : (rnE σ e).field = σ e.field := by rw [lC]
theorem aF1 (e : Expr) : (rnE σ e).l = e.l.map (rnE σ) := by rw [lC, iC]
theorem GK (v : VarAt) (i : Int) (t : Typ) : iD (rnV σ v) i (dD σ t) = mp (fun r => (r.1, dD σ r.2)) (iD v i t) := by
 funext s
 unfold iD mp
 simp only [b6, rnV]
 generalize nP s = g
 obtain ⟨b, s'⟩ := g
 cases b <;> rfl
theorem aAT {o o' : Ops} (h : pE σ o o') (c : Cfg) (ch : List Frm) (e : Expr) : oO (rnC σ c) o' (ch.map (rnF σ)) (rnE σ e) = mp (fun r => (r.1, dD σ r.2)) (oO c o ch e) := by
 unfold oO
 simp only [X6 R, WE R, HY R, X9 R, HV R, h.eval]
 by_cases h5 : e.op = 5
 ·simp only [h5, if_true]
  funext s
  have := GK R (varOf e.name ch) (max (-1) (min ((o.eval ch (e.at 0)) s).1 64)) ⟨(varOf e.name ch).t.kind, 0, noBytes⟩
  simp only [dD, R.none_] at this
  exact congrFun this _
 ·by_cases h6 : e.op = 6
  ·simp only [h6, if_true, show ¬ (6 : Int) = 5 by decide, if_false]
   have hf := X7 R c.recs (varOf e.name ch).t e.field
   show iD (rnV σ (varOf e.name ch)) (jE (c.recs.map (gA σ)) (dD σ (varOf e.name ch).t) (σ e.field)).1 (jE (c.recs.map (gA σ)) (dD σ (varOf e.name ch).t) (σ e.field)).2 = _
   rw [hf]
   exact GK R _ _ _
  ·simp only [h5, h6, if_false]
   funext s
   rfl
theorem aD4 {o o' : Ops} (h : pE σ o o') (ch : List Frm) (e : Expr) : wW o' (ch.map (rnF σ)) (rnE σ e) = wW o ch e := by
 unfold wW
 simp only [X6 R, X9 R, h.eval]
theorem aCp {o o' : Ops} (h : pE σ o o') (ch : List Frm) (e : Expr) : sQ o' (ch.map (rnF σ)) (rnE σ e) = sQ o ch e := by
 unfold sQ
 simp only [X6 R, aF0 R, X9 R, h.eval, h.call, h.place, aD4 R h]
 rfl
theorem X8 : rnE σ default = (default : Expr) := by simp [default, instInhabitedExpr, rnE, fI, R.none_]
theorem aCo (l : List Expr) : (l.map (rnE σ)).headD default = rnE σ (l.headD default) := by
 cases l with
 | nil => exact (X8 R).symm
 | cons x r => rfl
theorem WG (c : Cfg) (t : Typ) : mI (rnC σ c) (dD σ t) = mI c t := by
 funext s
 unfold mI
 simp only [rnC, aCn R]
theorem HZ {o o' : Ops} (h : pE σ o o') (ch : List Frm) : ∀ (ps : List Param) (es : List Expr) (names : Names) (vs : List Int), jR o' (ch.map (rnF σ)) (ps.map (eK σ)) (es.map (rnE σ)) (qL σ names) vs = mp (fun r => (qL σ r.1, r.2)) (jR o ch ps es names vs)
 | [], es, names, vs => rfl
 | p :: ps, es, names, vs => by
  simp only [List.map_cons, jR, eK, aCo R, ← List.map_tail]
  by_cases hm : p.mode = 1
  ·simp only [hm, if_true, h.place, FI]
   have := fun q : (Int × Int) × Typ => FB R p.name ⟨q.1.1, q.1.2, q.2⟩ names
   simp only [rnV] at this
   simp only [this, HZ h ch ps es.tail]
   rfl
  ·simp only [hm, if_false, h.eval, HZ h ch ps es.tail]
   rfl
theorem HX (c : Cfg) : ∀ (ps : List Param) (vs : List Int) (names : Names), jQ (rnC σ c) (ps.map (eK σ)) vs (qL σ names) = mp (qL σ) (jQ c ps vs names)
 | [], vs, names => rfl
 | p :: ps, vs, names => by
  simp only [List.map_cons, jQ, eK, WG R]
  by_cases hm : p.mode = 0
  ·have := fun q : Int × Int => FB R p.name ⟨q.1, q.2, p.t⟩ names
   simp only [rnV] at this
   simp only [hm, if_true, this, HX c ps]
   rfl
  ·simp only [hm, if_false]
   rw [HX c ps]
theorem HW (c : Cfg) : ∀ (vs : List Var) (names : Names), gU (rnC σ c) (vs.map (lJ σ)) (qL σ names) = mp (qL σ) (gU c vs names)
 | [], names => rfl
 | v :: vs, names => by
  have := fun q : Int × Int => FB R v.name ⟨q.1, q.2, v.t⟩ names
  simp only [rnV] at this
  simp only [List.map_cons, gU, lJ, WG R, this, HW c vs]
  rfl
theorem aCr {o o' : Ops} (h : pE σ o o') (c : Cfg) (r : Routine) (around : List Frm) (names : Names) (vs : List Int) : FQ (rnC σ c) o' (rnR σ r) (around.map (rnF σ)) (qL σ names) vs = FQ c o r around names vs := by
 unfold FQ
 rw [kZ]
 simp only [HX R, FI, HW R]
 have := fun n2 : Names => h.run (⟨n2, r.inner⟩ :: around) r.body
 simp only [List.map_cons, rnF] at this
 simp only [this]
theorem aCq {o o' : Ops} (h : pE σ o o') (c : Cfg) (ch : List Frm) (e : Expr) : uH (rnC σ c) o' (ch.map (rnF σ)) (rnE σ e) = uH c o ch e := by
 unfold uH
 simp only [WE R, aF1 R, ND R]
 have ha := HZ R h ch (jT e.name ch).1.params e.l [] []
 have hp : (rnR σ (jT e.name ch).1).params = (jT e.name ch).1.params.map (eK σ) := by rw [kZ]
 rw [hp]
 have h0 : qL σ [] = [] := rfl
 rw [h0] at ha
 simp only [ha, FI, aCr R h]
 rfl
theorem aEa {o o' : Ops} (h : pE σ o o') (ch : List Frm) : ∀ l : List Stmt, y8 o' (ch.map (rnF σ)) (fH σ l) = y8 o ch l
 | [] => rfl
 | x :: r => by
  simp only [fH, y8, h.stmt, h.run]
theorem aEZ (x : Stmt) : (rnS σ x).op = x.op := by rw [mV]
theorem aCk (x : Stmt) : (rnS σ x).name = σ x.name := by rw [mV]
theorem aDn (x : Stmt) : (rnS σ x).p = rnE σ x.p := by rw [mV]
theorem PS (x : Stmt) : (rnS σ x).down = x.down := by rw [mV]
theorem A2 (x : Stmt) : (rnS σ x).body = fH σ x.body := by rw [mV]
theorem aD8 (x : Stmt) : (rnS σ x).els = fH σ x.els := by rw [mV]
theorem aD6 (x : Stmt) : (rnS σ x).e.length = x.e.length := by rw [mV]; simp [iC]
theorem aD7 {o o' : Ops} (h : pE σ o o') (ch : List Frm) (x : Stmt) : HR o' (ch.map (rnF σ)) (rnS σ x) = HR o ch x := by
 unfold HR
 simp only [aDn R, uN R, h.eval, h.place]
 rfl
theorem aE0 {o o' : Ops} (h : pE σ o o') (ch : List Frm) (x : Stmt) : ifF o' (ch.map (rnF σ)) (rnS σ x) = ifF o ch x := by
 unfold ifF
 simp only [uN R, h.eval, A2 R, aD8 R]
 have : ∀ v : Int, o'.run (ch.map (rnF σ)) (if v = 1 then fH σ x.body else fH σ x.els) = o.run ch (if v = 1 then x.body else x.els) := fun v => by
  split <;> exact h.run _ _
 simp only [this]
theorem aEd {o o' : Ops} (h : pE σ o o') (ch : List Frm) (x : Stmt) : vB o' (ch.map (rnF σ)) (rnS σ x) = vB o ch x := by
 unfold vB
 simp only [uN R, h.eval, PS R, aCk R, HV R, h.cnt, rnV]
theorem aCl {o o' : Ops} (h : pE σ o o') (ch : List Frm) (x : Stmt) : oE o' (ch.map (rnF σ)) (rnS σ x) = oE o ch x := by
 unfold oE
 simp only [aDn R, h.place]
 rfl
theorem aAP {o o' : Ops} (h : pE σ o o') (ch : List Frm) (x : Stmt) : wM o' (ch.map (rnF σ)) (rnS σ x) = wM o ch x := by
 unfold wM
 simp only [uN R, h.eval]
theorem aEb {o o' : Ops} (h : pE σ o o') (ch : List Frm) (x : Stmt) : DV o' (ch.map (rnF σ)) (rnS σ x) = DV o ch x := by
 unfold DV
 simp only [aD6 R, uN R, h.eval]
theorem aCj {o o' : Ops} (h : pE σ o o') (c : Cfg) (ch : List Frm) (x : Stmt) : qA (rnC σ c) o' (ch.map (rnF σ)) (rnS σ x) = qA c o ch x := by
 unfold qA mT
 simp only [aEZ R, aD7 R h, uN R, h.eval, aE0 R h, h.whl, h.rep, aEd R h, aCl R h, aAP R h, aEb R h]
 rfl
theorem aD3 {o o' : Ops} (h : pE σ o o') (c : Cfg) (ch : List Frm) (x : Stmt) : wN (rnC σ c) o' (ch.map (rnF σ)) (rnS σ x) = wN c o ch x := by
 unfold wN
 simp only [uN R, h.eval, A2 R, h.run, h.whl]
 rfl
theorem aEc {o o' : Ops} (h : pE σ o o') (c : Cfg) (ch : List Frm) (x : Stmt) : xD (rnC σ c) o' (ch.map (rnF σ)) (rnS σ x) = xD c o ch x := by
 unfold xD
 simp only [uN R, h.eval, A2 R, h.run, h.rep]
 rfl
theorem aEe {o o' : Ops} (h : pE σ o o') (c : Cfg) (ch : List Frm) (x : Stmt) (i b : Int) (r : Int × Int) : cntF (rnC σ c) o' (ch.map (rnF σ)) (rnS σ x) i b r = cntF c o ch x i b r := by
 unfold cntF
 simp only [PS R, A2 R, h.run, h.cnt]
 rfl
theorem aAU (c : Cfg) : ∀ N, pE σ (ops c N) (ops (rnC σ c) N)
 | 0 => ⟨fun _ _ => by funext s; show ((((0 : Int), (0 : Int)), zTyp), s) = (((0, 0), dD σ zTyp), s); rw [show dD σ zTyp = zTyp from A3 R], fun _ _ => rfl, fun _ _ => rfl, fun _ _ => rfl, fun _ _ => rfl, fun _ _ => rfl, fun _ _ => rfl, fun _ _ _ _ _ => rfl⟩
 | n + 1 => by
  have h := aAU c n
  exact ⟨fun ch e => aAT R h c ch e, fun ch e => aCp R h ch e, fun ch e => aCq R h c ch e, fun ch l => aEa R h ch l, fun ch x => aCj R h c ch x, fun ch x => aD3 R h c ch x, fun ch x => aEc R h c ch x, fun ch x i b r => aEe R h c ch x i b r⟩
theorem aD9 (N : Nat) (p : Prg) (input : List Int) (fuel : Int) : kS N (rnP σ p) input fuel = kS N p input fuel := by
 unfold kS L1
 have hc : fX (rnP σ p) fuel = rnC σ (fX p fuel) := rfl
 rw [hc]
 simp only [rnP]
 have hl := HW R (fX p fuel) p.vars []
 have h0 : qL σ [] = [] := rfl
 rw [h0] at hl
 rw [hl]
 have hr := fun n2 : Names => (aAU R (fX p fuel) N).run [⟨n2, p.aH⟩] p.body
 simp only [List.map_cons, List.map_nil, rnF] at hr
 simp only [FI, hr]
end
end Pg.Nt

namespace Pg.Nt
open Go
set_option linter.all false
structure aFt (ρ : ByteArray → ByteArray) (S : ByteArray → Prop) : Prop where
 ren : Ren ρ S
 nm : ∀ n, S n → n ≠ noBytes → dK (ρ n) = true
section
variable {ρ : ByteArray → ByteArray} {S : ByteArray → Prop} (T : aFt ρ S)
include T
theorem aB5 {n : ByteArray} (h : dK n = true) : n ≠ noBytes := by
 rintro rfl; revert h; decide
theorem oV {n : ByteArray} (hs : S n) (h : dK n = true) : dK (ρ n) = true := T.nm n hs (aB5 T h)
theorem E9 (n : ByteArray) (h : n = noBytes) : ρ n = noBytes := by rw [h]; exact T.ren.none_
theorem aAM {t : Typ} (hs : S t.name) (h : mH t = true) : mH (dD ρ t) = true := by
 unfold mH at h ⊢
 simp only [dD]
 by_cases hk : t.kind = 4
 ·simp only [hk, if_true, Bool.and_eq_true] at h ⊢
  exact ⟨h.1, oV T hs h.2⟩
 ·simp only [hk, if_false, Bool.and_eq_true] at h ⊢
  exact ⟨h.1, decide_eq_true (E9 T _ (of_decide_eq_true h.2))⟩
theorem aCg {x : Expr} (hs : S x.name) (hf : S x.field) (h : eV x = true) : eV (rnE ρ x) = true := by
 rw [lC]
 simp only [eV, Bool.and_eq_true] at h ⊢
 obtain ⟨⟨⟨p1, p2⟩, p3⟩, p4⟩ := h
 refine ⟨⟨⟨p1, ?_⟩, ?_⟩, by simpa [iC] using p4⟩
 ·split <;> rename_i h1
  ·rw [if_pos h1] at p2; exact oV T hs p2
  ·rw [if_neg h1] at p2; rw [decide_eq_true_eq] at p2 ⊢; exact E9 T _ p2
 ·split <;> rename_i h1
  ·rw [if_pos h1] at p3; exact oV T hf p3
  ·rw [if_neg h1] at p3; rw [decide_eq_true_eq] at p3 ⊢; exact E9 T _ p3
mutual
theorem V9 : ∀ (n : Nat) (x : Expr), inE S x → form n x = true → form n (rnE ρ x) = true
 | 0, x, _, h => by simp [form] at h
 | n + 1, ⟨op, k, name, field, l⟩, hs, h => by
  have hp := aCg T (x := ⟨op, k, name, field, l⟩) ((pS S _).1 hs).1 ((pS S _).1 hs).2.1
  simp only [form, Bool.and_eq_true] at h
  obtain ⟨⟨⟨⟨h1, h2⟩, h3⟩, h4⟩, h5⟩ := h
  have hp := hp h4
  simp only [rnE] at hp ⊢
  simp only [form, Bool.and_eq_true]
  exact ⟨⟨⟨⟨by simpa [iC] using h1, h2⟩, h3⟩, hp⟩, PM n l ((pS S _).1 hs).2.2 h5⟩
theorem PM : ∀ (n : Nat) (l : List Expr), fS S l → gV n l = true → gV n (fI ρ l) = true
 | n, [], _, _ => rfl
 | n, x :: r, hs, h => by
  simp only [gV, Bool.and_eq_true] at h
  simp only [fI, gV, Bool.and_eq_true]
  simp only [fS] at hs
  refine ⟨⟨?_, V9 n x hs.1 h.1.2⟩, PM n r hs.2 h.2⟩
  rw [lC]; exact h.1.1
end
omit T in
mutual
theorem WB : ∀ (n : Nat) (x : Expr), deep n (rnE ρ x) = deep n x
 | n, ⟨op, k, name, field, l⟩ => by
  simp only [rnE, deep, PN n l]
theorem PN : ∀ (n : Nat) (l : List Expr), kO n (fI ρ l) = kO n l
 | 0, _ => by cases ‹List Expr› <;> rfl
 | n + 1, [] => rfl
 | n + 1, x :: r => by
  have : (rnE ρ x).op = x.op := by rw [lC]
  simp only [fI, kO, this, WB n x, PN (n + 1) r]
end
theorem WA {x : Expr} (hs : inE S x) (h : nK x = true) : nK (rnE ρ x) = true := by
 simp only [nK, Bool.and_eq_true, WB] at h ⊢
 exact ⟨V9 T 48 x hs h.1, h.2⟩
theorem aCf {x : Expr} (hs : inE S x) (h : j6 x = true) : j6 (rnE ρ x) = true := by
 simp only [j6, Bool.and_eq_true] at h ⊢
 exact ⟨by rw [lC]; exact h.1, WA T hs h.2⟩
theorem aD2 {x : Expr} (h : kN x = true) : kN (rnE ρ x) = true := by
 rw [lC]
 simp only [kN, Bool.and_eq_true, decide_eq_true_eq, iC, List.length_map] at h ⊢
 exact ⟨⟨⟨h.1.1.1, E9 T _ h.1.1.2⟩, E9 T _ h.1.2⟩, h.2⟩
omit T in
theorem pR : ∀ (l : List Expr), fS S l → ∀ x ∈ l, inE S x
 | y :: r, h, x, hx => by
  simp only [fS] at h
  rcases List.mem_cons.1 hx with e | hx
  ·rw [e]; exact h.1
  ·exact pR r h.2 x hx
theorem aCe {x : Stmt} (hs : inS S x) (h : fB x = true) : fB (rnS ρ x) = true := by
 obtain ⟨i1, i2, i3, i4, i5⟩ := (qR S x).1 hs
 rw [mV]
 simp only [fB, Bool.and_eq_true] at h ⊢
 obtain ⟨⟨⟨⟨⟨⟨h1, h2⟩, h3⟩, h4⟩, h5⟩, h6⟩, h7⟩ := h
 refine ⟨⟨⟨⟨⟨⟨h1, by simpa [lW, iC] using h2⟩, ?_⟩, ?_⟩, ?_⟩, by simpa [jN, kT] using h6⟩, by simpa [tV, kT] using h7⟩
 ·simp only [iC, List.all_eq_true, List.mem_map] at h3 ⊢
  rintro _ ⟨y, hy, rfl⟩
  have := h3 y hy
  simp only [fV, Bool.and_eq_true] at this ⊢
  exact ⟨WA T (pR _ i3 y hy) this.1, by rw [show (rnE ρ y).op = y.op by rw [lC]]; exact this.2⟩
 ·simp only [iR] at h4 ⊢
  split <;> rename_i h0
  ·rw [if_pos h0] at h4; exact aCf T i2 h4
  ·rw [if_neg h0] at h4; exact aD2 T h4
 ·simp only [nL] at h5 ⊢
  split <;> rename_i h0
  ·rw [if_pos h0] at h5; exact oV T i1 h5
  ·rw [if_neg h0] at h5
   simp only [Bool.and_eq_true, decide_eq_true_eq] at h5 ⊢
   exact ⟨E9 T _ h5.1, h5.2⟩
mutual
theorem aD1 : ∀ (x : Stmt) (d : Int), inS S x → nJ x d = true → nJ (rnS ρ x) d = true
 | ⟨before, aP, op, name, p, e, down, more, body, els, cO, cT⟩, d, hs, h => by
  have i := (qR S _).1 hs
  simp only [nJ, Bool.and_eq_true] at h
  obtain ⟨⟨⟨hd, h1⟩, hb, hbl⟩, he, hel⟩ := h
  have h1' := aCe T hs h1
  simp only [rnS] at h1' ⊢
  simp only [nJ, Bool.and_eq_true]
  exact ⟨⟨⟨hd, h1'⟩, xA body (d + 1) i.2.2.2.1 hb, by simpa [kT] using hbl⟩, xA els (d + 1) i.2.2.2.2 he, by simpa [kT] using hel⟩
theorem xA : ∀ (l : List Stmt) (d : Int), lL S l → dA l d = true → dA (fH ρ l) d = true
 | [], d, _, _ => rfl
 | x :: r, d, hs, h => by
  simp only [dA, Bool.and_eq_true] at h
  simp only [lL] at hs
  simp only [fH, dA, Bool.and_eq_true]
  exact ⟨aD1 x d hs.1 h.1, xA r d hs.2 h.2⟩
end
theorem V8 {l : List Var} (hs : ∀ v ∈ l, rA S v) (h : jM l = true) : jM (l.map (lJ ρ)) = true := by
 simp only [jM, Bool.and_eq_true, List.all_eq_true, List.mem_map, List.length_map] at h ⊢
 refine ⟨?_, h.2⟩
 rintro _ ⟨v, hv, rfl⟩
 have := h.1 v hv
 simp only [tG, lJ, Bool.and_eq_true] at this ⊢
 exact ⟨⟨this.1.1, oV T (hs v hv).1 this.1.2⟩, aAM T (hs v hv).2 this.2⟩
theorem aAN {l : List Param} (hs : ∀ v ∈ l, nW S v) (h : eJ l = true) : eJ (l.map (eK ρ)) = true := by
 simp only [eJ, Bool.and_eq_true, List.all_eq_true, List.mem_map, List.length_map] at h ⊢
 refine ⟨?_, h.2⟩
 rintro _ ⟨v, hv, rfl⟩
 have := h.1 v hv
 simp only [dZ, eK, Bool.and_eq_true] at this ⊢
 obtain ⟨⟨⟨⟨h1, h2⟩, h3⟩, h4⟩, h5⟩ := this
 exact ⟨⟨⟨⟨oV T (hs v hv).1 h1, aAM T (hs v hv).2 h2⟩, h3⟩, h4⟩, h5⟩
theorem PO {n : ByteArray} (hn : S n) : ∀ (l : List ByteArray), (∀ x ∈ l, S x) → fY (ρ n) (l.map ρ) = fY n l
 | [], _ => rfl
 | x :: l, h => by
  have := PO hn l (fun y hy => h y (by simp [hy]))
  simp only [fY, List.map_cons, List.any_cons] at this ⊢
  rw [this, T.ren.dec (h x (by simp)) hn]
mutual
theorem X3 : ∀ (x : Routine) (ahead : List ByteArray) (d : Int), inR S x → (∀ y ∈ ahead, S y) → gC ahead x d = true → gC (ahead.map ρ) (rnR ρ x) d = true
 | ⟨before, aP, name, result, params, vars, inner, body, bT⟩, ahead, d, hs, ha, h => by
  obtain ⟨i1, i2, i3, i4, i5⟩ := (oP S _).1 hs
  simp only [gC, Bool.and_eq_true] at h
  obtain ⟨⟨⟨⟨⟨⟨⟨⟨⟨⟨hd, n1⟩, n3⟩, hn⟩, r0⟩, r3⟩, hap⟩, hp⟩, hv⟩, hin, hil⟩, hb, hbl⟩ := h
  simp only [rnR, gC, Bool.and_eq_true]
  exact ⟨⟨⟨⟨⟨⟨⟨⟨⟨⟨hd, n1⟩, n3⟩, oV T i1 hn⟩, r0⟩, r3⟩, by rw [PO T i1 _ ha]; exact hap⟩, aAN T i2 hp⟩, V8 T i3 hv⟩, y9 inner [] (d + 1) i4 (by simp) hin, by simpa [oD] using hil⟩, xA T body 1 i5 hb, by simpa [kT] using hbl⟩
theorem y9 : ∀ (l : List Routine) (ahead : List ByteArray) (d : Int), kF S l → (∀ y ∈ ahead, S y) → bN ahead l d = true → bN (ahead.map ρ) (iS ρ l) d = true
 | [], ahead, d, _, _, _ => rfl
 | x :: r, ahead, d, hs, ha, h => by
  simp only [bN, Bool.and_eq_true] at h
  simp only [kF] at hs
  have hx : S x.name := ((oP S x).1 hs.1).1
  simp only [iS, bN, Bool.and_eq_true]
  refine ⟨X3 x ahead d hs.1 ha h.1, ?_⟩
  have := y9 r (ahead ++ [x.name]) d hs.2 (by
   intro y hy
   rcases List.mem_append.1 hy with hy | hy
   ·exact ha y hy
   ·simp at hy; rw [hy]; exact hx) h.2
  rw [kZ]
  simpa using this
end
theorem aEX {p : Prg} (hs : inP S p) (h : eI p = true) : eI (rnP ρ p) = true := by
 simp only [eI, Bool.and_eq_true] at h
 obtain ⟨⟨⟨⟨⟨⟨⟨⟨⟨hn, n1⟩, n2⟩, n3⟩, n4⟩, hrl⟩, hr⟩, hv⟩, ht, htl⟩, hb, hbl⟩ := h
 simp only [eI, rnP, Bool.and_eq_true]
 refine ⟨⟨⟨⟨⟨⟨⟨⟨⟨oV T hs.name hn, n1⟩, n2⟩, n3⟩, n4⟩, by simpa using hrl⟩, ?_⟩, V8 T hs.vars hv⟩, y9 T p.aH [] 1 hs.aH (by simp) ht, by simpa [oD] using htl⟩, xA T p.body 1 hs.body hb, by simpa [kT] using hbl⟩
 simp only [List.all_eq_true, List.mem_map] at hr ⊢
 rintro _ ⟨r, hx, rfl⟩
 have := hr r hx
 have hi := hs.recs r hx
 simp only [jX, gA, Bool.and_eq_true] at this ⊢
 obtain ⟨⟨⟨⟨⟨h1, h2⟩, h3⟩, h4⟩, h5⟩, h6⟩ := this
 refine ⟨⟨⟨⟨⟨h1, h2⟩, oV T hi.1 h3⟩, by simpa using h4⟩, by simpa using h5⟩, ?_⟩
 simp only [List.all_eq_true, List.mem_map] at h6 ⊢
 rintro _ ⟨f, hf, rfl⟩
 have := h6 f hf
 simp only [qK, jO, Bool.and_eq_true] at this ⊢
 exact ⟨⟨⟨this.1.1.1, oV T (hi.2 f hf) this.1.1.2⟩, this.1.2⟩, this.2⟩
end
end Pg.Nt
