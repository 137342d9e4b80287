import Derived.Test.YtdfbkddelhbgmaaGreatDoorTreeSS3
import Derived.Test.YtdfbkddelhbgmaaGreatDoorCk5JS3
import Derived.Test.YtdfbkddelhbgmaaGreatDoorCountS3
set_option linter.all false
set_option maxHeartbeats 4000000
set_option maxRecDepth 4000
namespace Pg
open Go Go.Proofs.Tryz
def InP (inp : AV) (res : Int) : Prop := (inp = .ptr none ∧ res = 0) ∨ ∃ r : Routine, inp = .ip (aU r) 0 ∧ res = r.result
section
variable {h : AHeap} {c : Nat} {sp inp : AV} {s : CS} {fs : List Scope} {bs : List Nat}
theorem UJ [GI] (x : Stmt) (ho : x.ok) {res : Int} (hi : InP inp res) (k : eN h c sp inp s fs bs) (fw : tD fs) :
  iZ 146 [.ptr (some ⟨c, 0, none⟩), .agg (bA x)] h c sp inp (.tuple []) (iG fs s res x.e) := by
 unfold iZ
 have hcl := k.cell
 obtain ⟨_, _, _, hl, he, _⟩ := (Stmt.cN x).1 ho
 have he' : ∀ y ∈ x.e, nC y false := fun y hy => EF y (he y hy) false
 have hlen : (decide ((x.e.length : Int) > 0)) = decide (0 < x.e.length) := by congr 1; simp
 refine SW.calls (by simp) ?_
 delta SW.c0
 rcases hi with ⟨rfl, rfl⟩ | ⟨r, rfl, rfl⟩
 ·simp only [go_sem,seval, hcl, hlen]
  by_cases hz : 0 < x.e.length
  ·simp only [go_sem,seval, hz]
   refine tcE (cL k.hc 16) ?_
   simp only [go_sem,seval]
   exact .same ⟨rfl, by simp [iG, hz]⟩
  ·simp only [go_sem,seval, hz]
   exact .same ⟨rfl, by simp [iG, hz, k.self]⟩
 ·simp only [go_sem,seval, hcl, hlen]
  by_cases hr : 0 < r.result
  ·have hr' : (r.result > 0) = True := by simpa using hr
   by_cases hz : 0 < x.e.length
   ·simp only [go_sem,seval, hz, hr', hcl]
    refine tcE (oW x.e hl he' k fw r.result false) ?_
    have kn := (k.next (cC fs s x.e r.result)).cell
    simp only [go_sem,seval, ↓kn]
    exact .same ⟨rfl, by simp [iG, hz, hr]⟩
   ·simp only [go_sem,seval, hz, hr', hcl]
    refine tcE (cL k.hc 16) ?_
    have kn := (k.next (s.fail 16)).cell
    simp only [go_sem,seval, ↓kn]
    refine tcE (oW x.e hl he' (k.next (s.fail 16)) fw r.result false) ?_
    have kn := (k.next (cC fs (s.fail 16) x.e r.result)).cell
    simp only [go_sem,seval, ↓aB, ↓kn]
    exact .same ⟨rfl, by simp [iG, hz, hr]⟩
  ·have hr' : (r.result > 0) = False := by simpa using hr
   by_cases hz : 0 < x.e.length
   ·simp only [go_sem,seval, hz, hr', hcl]
    refine tcE (cL k.hc 16) ?_
    simp only [go_sem,seval]
    exact .same ⟨rfl, by simp [iG, hz, hr]⟩
   ·simp only [go_sem,seval, hz, hr', hcl]
    exact .same ⟨rfl, by simp [iG, hz, hr, k.self]⟩
theorem aAs [GI] (x : Stmt) (ho : x.ok) {res : Int} (hi : InP inp res) (k : eN h c sp inp s fs bs) (fw : tD fs) :
  iZ 100 [.ptr (some ⟨c, 0, none⟩), .agg (bA x)] h c sp inp (.tuple []) (eX fs s res x) := by
 unfold iZ
 obtain ⟨_, _, hp, hl, he, _⟩ := (Stmt.cN x).1 ho
 have he' : ∀ b, ∀ y ∈ x.e, nC y b := fun b y hy => EF y (he y hy) b
 have hp' : nC x.p false := fun k fw => EF x.p hp false k fw
 have fin : ∀ s', eX fs s res x = s' → eE (fun r g => r = .tuple [] ∧ g = h.upd c (bW sp (eX fs s res x) inp)) (.tuple []) (h.upd c (bW sp s' inp)) := fun s' e => .same ⟨rfl, by rw [e]⟩
 refine T0.calls (by simp) ?_
 delta T0.c0
 by_cases h1 : x.op = 1
 ·simp only [go_sem,seval, h1]
  refine tcE (aAH x.p hp' k fw [1, 2, 3] (cX (by simp)) true) ?_
  simp only [go_sem,seval]
  refine tcE (oW x.e hl (he' false) (k.next _) fw _ false) ?_
  simp only [go_sem,seval, aB]
  exact fin _ (by simp [eX, h1])
 by_cases h2 : x.op = 2
 ·simp only [go_sem,seval, h2]
  refine aX x.e (fun pre post e g => (∃ s', nZ fs s x.e = nZ fs s' post ∧ g = h.upd c (bW sp s' inp)) ∧ e = [(0, .ptr (some ⟨c, 0, none⟩)), (27, .sl (x.e.map aO) false), (28, .int .i64 x.e.length), (29, .int .i64 pre.length)]) (aF.env ?_) ⟨⟨s, rfl, k.self.symm⟩, rfl⟩ ?_ ?_
  ·simp only [go_sem,seval]
  ·rintro pre y post e g hp ⟨⟨s', hs, rfl⟩, rfl⟩
   simp only [go_sem,seval, bI hp, aI (aK hp) (aR y)]
   refine tcE (he' true y (bJ hp) (k.next s') fw) ?_
   simp only [go_sem,seval, aB]
   refine ⟨_, _, aF.env ?_, ⟨_, ?_, rfl⟩, rfl⟩
   ·simp only [go_sem,seval, aQ hl hp]
   ·rw [hs]; simp only [nZ]
  ·rintro e g ⟨⟨s', hs, rfl⟩, rfl⟩
   simp only [go_sem,seval, bE]
   refine aM.same ?_
   simp only [go_sem,seval]
   exact fin _ (by simp [eX, h2, hs, nZ])
 by_cases h3 : x.op = 3 ∨ x.op = 4 ∨ x.op = 5
 ·have e3 : eX fs s res x = cC fs s x.e 2 := by simp [eX, h1, h2, h3]
  rcases h3 with hop | hop | hop
  all_goals
   simp only [go_sem,seval, hop]
   refine tcE (oW x.e hl (he' false) k fw 2 false) ?_
   simp only [go_sem,seval, aB]
   exact fin _ e3
 by_cases h6 : x.op = 6
 ·have e6 : eX fs s res x = cC fs (if (bK fs s x.name).1 = bC 1 then (bK fs s x.name).2 else (bK fs s x.name).2.fail 14) x.e 1 := by simp [eX, h6]
  simp only [go_sem,seval, h6]
  refine tcE (qY k x.name) ?_
  have ht : dI [1, 1, 2] (bV (bK fs s x.name).1) [.int .i64 1, .int .i64 0, .str ⟨#[]⟩] = some (decide ((bK fs s x.name).1 = bC 1)) := O5 _ (bC 1)
  simp only [go_sem,seval, ht]
  by_cases hv : (bK fs s x.name).1 = bC 1
  ·simp only [go_sem,seval, hv]
   refine tcE (oW x.e hl (he' false) (k.next _) fw 1 false) ?_
   simp only [go_sem,seval, aB]
   exact fin _ (by rw [e6, if_pos hv])
  ·simp only [go_sem,seval, hv]
   refine tcE (cL (k.next _).hc 14) ?_
   simp only [go_sem,seval, aB]
   refine tcE (oW x.e hl (he' false) (k.next _) fw 1 false) ?_
   simp only [go_sem,seval, aB]
   exact fin _ (by rw [e6, if_neg hv])
 by_cases h7 : x.op = 7
 ·simp only [go_sem,seval, h7]
  refine tcE (aAH x.p hp' k fw [1, 3] (cX (by simp)) true) ?_
  simp only [go_sem,seval]
  exact fin _ (by simp [eX, h7])
 by_cases h8 : x.op = 8
 ·simp only [go_sem,seval, h8]
  refine aX x.e (fun pre post e g => (∃ s', n5 fs s x.e = n5 fs s' post ∧ g = h.upd c (bW sp s' inp)) ∧ e = [(0, .ptr (some ⟨c, 0, none⟩)), (70, .sl (x.e.map aO) false), (71, .int .i64 x.e.length), (72, .int .i64 pre.length)]) (aF.env ?_) ⟨⟨s, rfl, k.self.symm⟩, rfl⟩ ?_ ?_
  ·simp only [go_sem,seval]
  ·rintro pre y post e g hp ⟨⟨s', hs, rfl⟩, rfl⟩
   simp only [go_sem,seval, bI hp, aI (aK hp) (aR y)]
   refine tcE (aBG y (fun k fw => he' false y (bJ hp) k fw) (k.next s') fw) ?_
   simp only [go_sem,seval, aB]
   refine ⟨_, _, aF.env ?_, ⟨_, ?_, rfl⟩, rfl⟩
   ·simp only [go_sem,seval, aQ hl hp]
   ·rw [hs]; simp only [n5]
  ·rintro e g ⟨⟨s', hs, rfl⟩, rfl⟩
   simp only [go_sem,seval, bE]
   refine aM.same ?_
   simp only [go_sem,seval]
   exact fin _ (by simp [eX, h8, hs, n5])
 have h345 : ¬ x.op = 3 ∧ ¬ x.op = 4 ∧ ¬ x.op = 5 := by omega
 by_cases h9 : x.op = 9
 ·simp only [go_sem,seval, h9]
  refine tcE (UJ x ho hi k fw) ?_
  simp only [go_sem,seval]
  exact fin _ (by simp [eX, h9])
 ·simp only [go_sem,seval, h1, h2, h345.1, h345.2.1, h345.2.2, h6, h7, h8, h9]
  have := fin s (by simp [eX, h1, h2, h3, h6, h7, h8, h9])
  rwa [k.self] at this
theorem sB [GI] : ∀ (n : Nat) (l : List Stmt), aZ.sz l ≤ n → few l → (∀ x ∈ l, x.ok) → ∀ {h : AHeap} {c : Nat} {sp inp : AV} {s : CS} {fs : List Scope} {bs : List Nat} {res : Int} (hi : InP inp res) (k : eN h c sp inp s fs bs) (fw : tD fs) (full : Bool),
  iZ 62 [.ptr (some ⟨c, 0, none⟩), .sl (l.map bA) full] h c sp inp (.tuple []) (cS fs s res l) := by
 intro n
 induction n with
 | zero =>
  intro l hn hw ho h c sp inp s fs bs res hi k fw full
  cases l with
  | cons x r => simp [aZ.sz] at hn
  | nil =>
   unfold iZ
   refine F62.calls (by simp) ?_
   delta F62.c0
   simp only [go_sem,seval]
   refine gR ?_
   simp only [go_sem,seval]
   exact .same ⟨rfl, by simp [cS, k.self]⟩
 | succ n ih =>
  intro l hn hw ho h c sp inp s fs bs res hi k fw full
  unfold iZ
  refine F62.calls (by simp) ?_
  delta F62.c0
  simp only [go_sem,seval]
  refine aX l (fun pre post e g => (∃ s', cS fs s res l = cS fs s' res post ∧ g = h.upd c (bW sp s' inp)) ∧ e = [(0, .ptr (some ⟨c, 0, none⟩)), (6, .sl (l.map bA) full), (7, .int .i64 l.length), (8, .int .i64 pre.length)]) (aF.env ?_) ⟨⟨s, rfl, k.self.symm⟩, rfl⟩ ?_ ?_
  ·simp only [go_sem,seval]
  ·rintro pre x post e g hp ⟨⟨s', hs, rfl⟩, rfl⟩
   have hx := bJ hp
   have hz := aZ.dU hx
   have hsz := Stmt.cY x
   have hok := (Stmt.cN x).1 (ho x hx)
   simp only [go_sem,seval, bI hp, aI (aK hp) (c6 x)]
   refine tcE (yK (k.next s').hc) ?_
   by_cases hb : s'.bad = 0
   ·simp only [go_sem,seval, hb, aB]
    refine tcE (aAs x (ho x hx) hi (k.next s'.step) fw) ?_
    simp only [go_sem,seval, aB]
    refine tcE (ih x.body (by omega) hok.2.2.2.2.2.1 hok.2.2.2.2.2.2.1 hi (k.next _) fw false) ?_
    simp only [go_sem,seval, aB]
    refine tcE (ih x.els (by omega) hok.2.2.2.2.2.2.2.1 hok.2.2.2.2.2.2.2.2.1 hi (k.next _) fw false) ?_
    simp only [go_sem,seval, aB]
    refine ⟨_, _, aF.env ?_, ⟨_, ?_, rfl⟩, rfl⟩
    ·simp only [go_sem,seval, aQ hw hp]
    ·rw [hs]; simp only [cS, hb, if_true, uV]
   ·simp only [go_sem,seval, hb, aB]
    refine aM.same ?_
    simp only [go_sem,seval]
    exact .same ⟨rfl, by rw [hs]; simp only [cS, hb, if_false]⟩
  ·rintro e g ⟨⟨s', hs, rfl⟩, rfl⟩
   simp only [go_sem,seval, bE]
   refine aM.same ?_
   simp only [go_sem,seval]
   exact .same ⟨rfl, by rw [hs]; simp only [cS]⟩
end
end Pg
namespace Pg
open Go Go.Proofs.Tryz
def Thing.few : Thing → Prop
 | .var _ => True
 | .rcd r => Pg.few r.fields
 | .bU r => Pg.few r.params
def Good (fs : List Scope) : Prop := ∀ f ∈ fs, ∀ p ∈ f, Thing.few p.2
theorem aCD {f : Scope} {name : ByteArray} {x : Thing} (h : look f name = some x) : ∃ p ∈ f, p.2 = x := by
 unfold look at h
 simp only [Option.map_eq_some_iff] at h
 obtain ⟨p, hp, rfl⟩ := h
 exact ⟨p, List.mem_of_find?_eq_some hp, rfl⟩
theorem BQ : ∀ {fs : List Scope} {name : ByteArray} {x : Thing}, bD fs name = some x → ∃ f ∈ fs, ∃ p ∈ f, p.2 = x
 | [], _, _, h => by simp [bD] at h
 | f :: fs, name, x, h => by
  simp only [bD] at h
  split at h
  ·rename_i y hy
   simp only [Option.some.injEq] at h; subst h
   obtain ⟨p, hp, rfl⟩ := aCD hy
   exact ⟨f, by simp, p, hp, rfl⟩
  ·obtain ⟨g, hg, p, hp, e⟩ := BQ h
   exact ⟨g, by simp [hg], p, hp, e⟩
theorem Good.KL {fs : List Scope} (g : Good fs) : tD fs := by
 constructor
 ·intro name r h
  obtain ⟨f, hf, p, hp, e⟩ := BQ h
  have := g f hf p hp
  rw [e] at this; exact this
 ·intro name r h
  obtain ⟨f, hf, p, hp, e⟩ := BQ h
  have := g f hf p hp
  rw [e] at this; exact this
theorem DP {name : ByteArray} {x : Thing} : ∀ {f : Scope} {p : ByteArray × Thing}, p ∈ q7 name x f → p = (name, x) ∨ p ∈ f
 | [], p, h => by simp only [q7, List.mem_singleton] at h; exact .inl h
 | (n, y) :: f, p, h => by
  simp only [q7] at h
  split at h
  ·rcases List.mem_cons.1 h with h | h
   ·exact .inl h
   ·exact .inr (by simp [h])
  ·rcases List.mem_cons.1 h with h | h
   ·exact .inr (by simp [h])
   ·rcases DP h with h | h
    ·exact .inl h
    ·exact .inr (by simp [h])
theorem Good.j8 {fs : List Scope} (g : Good fs) {name : ByteArray} {x : Thing} (hx : x.few) : Good (j8 name x fs) := by
 cases fs with
 | nil => exact g
 | cons f fs =>
  intro f' hf p hp
  rcases List.mem_cons.1 hf with rfl | hf
  ·rcases DP hp with rfl | hp
   ·exact hx
   ·exact g f (by simp) p hp
  ·exact g f' (by simp [hf]) p hp
theorem Good.lay {fs : List Scope} (g : Good fs) {s : CS} {name : ByteArray} {x : Thing} (hx : x.few) : Good (cR fs s name x).1 := by
 unfold cR
 split
 ·exact g
 ·exact g.j8 hx
theorem Good.cons {fs : List Scope} (g : Good fs) {f : Scope} (h : ∀ p ∈ f, Thing.few p.2) : Good (f :: fs) := by
 intro f' hf p hp
 rcases List.mem_cons.1 hf with rfl | hf
 ·exact h p hp
 ·exact g f' hf p hp
theorem Good.vars {behind : List Routine} : ∀ {l : List Var} {fs : List Scope} {s : CS}, Good fs → Good (cH fs s l behind).1
 | [], fs, s, g => g
 | v :: l, fs, s, g => by
  simp only [cH]
  split
  ·exact Good.vars (g.lay trivial)
  ·exact g
theorem Good.params : ∀ {l : List Param} {fs : List Scope} {s : CS}, Good fs → Good (cA fs s l).1
 | [], fs, s, g => g
 | v :: l, fs, s, g => by simp only [cA]; exact Good.params (g.lay trivial)
theorem OA : ∀ {l : List Routine} {f : Scope} {p : ByteArray × Thing}, p ∈ cK f l → p ∈ f ∨ ∃ r ∈ l, p.2 = .bU r
 | [], f, p, h => .inl h
 | r :: l, f, p, h => by
  simp only [cK] at h
  rcases OA h with h | ⟨r', h1, h2⟩
  ·rcases DP h with rfl | h
   ·exact .inr ⟨r, by simp, rfl⟩
   ·exact .inl h
  ·exact .inr ⟨r', by simp [h1], h2⟩
theorem Good.all {fs : List Scope} (g : Good fs) {l : List Routine} (ho : ∀ r ∈ l, r.ok) : Good (cK [] l :: fs) := by
 refine g.cons fun p hp => ?_
 rcases OA hp with h | ⟨r, h1, h2⟩
 ·simp at h
 ·rw [h2]; exact ((Routine.cN r).1 (ho r h1)).2.2.1
theorem H9 (f : Scope) (fs : List Scope) (s : CS) (name : ByteArray) (x : Thing) : ∃ f', (cR (f :: fs) s name x).1 = f' :: fs := by
 unfold cR
 split
 ·exact ⟨f, rfl⟩
 ·exact ⟨_, rfl⟩
def nQ (h g : AHeap) (c m : Nat) : Prop := ∀ b, b ≠ c → b ≠ m → g b = h b
theorem nQ.refl (h : AHeap) (c m : Nat) : nQ h h c m := fun _ _ _ => rfl
theorem nQ.trans {h g k : AHeap} {c m : Nat} (a : nQ h g c m) (b : nQ g k c m) : nQ h k c m := fun x h1 h2 => (b x h1 h2).trans (a x h1 h2)
theorem nQ.next (h : AHeap) (c m : Nat) (o : AObj) : nQ h (h.upd c o) c m := fun b h1 _ => aC _ _ _ h1
section
variable {h : AHeap} {c m : Nat} {sp inp : AV} {s : CS} {f : Scope} {fs : List Scope} {bs : List Nat}
theorem yN [GI] (k : eN h c sp inp s (f :: fs) (m :: bs)) (hd : (m :: bs).Nodup) (name : ByteArray) (x : Thing) :
  aD prog 57 [.ptr (some ⟨c, 0, none⟩), .str name, .agg (dM x)] h (fun v g => v = .tuple [] ∧ eN g c sp inp (cR (f :: fs) s name x).2 (cR (f :: fs) s name x).1 (m :: bs) ∧ nQ h g c m) := by
 refine (aCG k.hc k.ch k.hn hd name x).mono ?_
 rintro v g ⟨hv, rfl, hch⟩
 refine ⟨hv, ⟨aA _ _ _, hch, k.hn⟩, ?_⟩
 intro b h1 h2
 rw [aC _ _ _ h1, aC _ _ _ h2]
end
theorem K8 [GI] {h : AHeap} {full : Bool} (l : List Routine) (hw : few l) (fid : Nat) (first captured : List AV) (p : Routine → Bool) (hc : eD prog fid = true)
  (hf : ∀ x ∈ l, aD prog fid (first ++ [.agg (aU x)] ++ captured) h (fun v g => v = .bool (p x) ∧ g = h)) :
  aD prog 139 [.sl (l.map aU) full, .func (.func fid) first captured] h (fun v g => v = .int .i64 (match l.findIdx? p with | some i => i | none => -1) ∧ g = h) := by
 refine S4.calls (by simp) ?_
 delta S4.c0
 simp only [go_sem,seval, List.length_map]
 refine aX l (fun pre post e g => (∀ x ∈ pre, p x = false) ∧ g = h ∧ e = [(0, .sl (l.map aU) full), (1, .func (.func fid) first captured), (7, .int .i64 l.length), (8, .int .i64 pre.length)]) (aF.env ?_) ⟨by simp, rfl, rfl⟩ ?_ ?_
 ·simp only [go_sem,seval]
 ·rintro pre x post e g hl ⟨hp, rfl, rfl⟩
  simp only [go_sem,seval, bI hl, aI (aK hl) (bL x)]
  refine ⟨hc, aW (hf x (bJ hl)) (fun v k ⟨hv, hk⟩ => ?_)⟩
  subst hv hk
  cases hpx : p x with
  | true =>
   simp only [go_sem,seval]
   refine aM.same ?_
   simp only [go_sem,seval]
   refine .same ⟨?_, rfl⟩
   have : l.findIdx? p = some pre.length := by
    subst hl
    rw [List.findIdx?_append, List.findIdx?_eq_none_iff.2 (by simpa using hp)]
    simp [List.findIdx?_cons, hpx]
   rw [this]
  | false =>
   simp only [go_sem,seval]
   refine ⟨_, _, aF.env ?_, ?_, rfl, rfl⟩
   ·simp only [go_sem,seval, aQ hw hl]
   ·intro y hy
    rcases List.mem_append.1 hy with hy | hy
    ·exact hp y hy
    ·simp at hy; subst hy; exact hpx
 ·rintro e g ⟨hp, rfl, rfl⟩
  simp only [go_sem,seval, bE]
  refine aM.same ?_
  simp only [go_sem,seval]
  refine .same ⟨?_, rfl⟩
  rw [List.findIdx?_eq_none_iff.2 (by simpa using hp)]
theorem uY [GI] {h : AHeap} {full : Bool} (l : List Routine) (hw : few l) (fid : Nat) (first captured : List AV) (p : Routine → Bool) (hc : eD prog fid = true)
  (hf : ∀ x ∈ l, aD prog fid (first ++ [.agg (aU x)] ++ captured) h (fun v g => v = .bool (p x) ∧ g = h)) :
  aD prog 96 [.sl (l.map aU) full, .func (.func fid) first captured] h (fun v g => v = .bool (l.any p) ∧ g = h) := by
 refine F96.calls (by simp) ?_
 delta F96.c0
 simp only [go_sem,seval]
 refine aW (K8 l hw fid first captured p hc hf) (fun v k ⟨hv, hk⟩ => ?_)
 generalize hn : (match l.findIdx? p with | some i => (i : Int) | none => -1) = n at hv
 subst hv hk
 simp only [go_sem,seval]
 refine .same ⟨?_, rfl⟩
 congr 1
 subst hn
 cases hi : l.findIdx? p with
 | none =>
  have := List.findIdx?_eq_none_iff.1 hi
  simp only [ge_iff_le]
  rw [List.any_eq_false.2 (by simpa using this)]; rfl
 | some i =>
  obtain ⟨h1, h2, _⟩ := List.findIdx?_eq_some_iff_getElem.1 hi
  rw [List.any_eq_true.2 ⟨l[i], List.getElem_mem h1, h2⟩]
  simp
theorem aAI [GI] (h : AHeap) (r : Routine) (v : Var) : aD prog 97 [.agg (aU r), .ip (dF v) 0] h (fun x g => x = .bool (decide (r.name = v.name)) ∧ g = h) := by
 refine F97.calls (by simp) ?_
 delta F97.c0
 simp only [go_sem,seval]
 exact .same ⟨rfl, rfl⟩
theorem nR [GI] {h : AHeap} {c m : Nat} {sp inp : AV} {s : CS} {f : Scope} {fs : List Scope} {bs : List Nat} (k : eN h c sp inp s (f :: fs) (m :: bs)) (hd : (m :: bs).Nodup) (l : List Var) (hw : few l) (behind : List Routine) (hb : few behind) (full full' : Bool) :
  aD prog 60 [.ptr (some ⟨c, 0, none⟩), .sl (l.map dF) full, .sl (behind.map aU) full'] h (fun v g => v = .tuple [] ∧ eN g c sp inp (cH (f :: fs) s l behind).2 (cH (f :: fs) s l behind).1 (m :: bs) ∧ nQ h g c m) := by
 refine F60.calls (by simp) ?_
 delta F60.c0
 simp only [go_sem,seval]
 refine aX l (fun pre post e g => (∃ s' f', cH (f :: fs) s l behind = cH (f' :: fs) s' post behind ∧ eN g c sp inp s' (f' :: fs) (m :: bs) ∧ nQ h g c m) ∧ e = [(0, .ptr (some ⟨c, 0, none⟩)), (2, .sl (behind.map aU) full'), (8, .sl (l.map dF) full), (9, .int .i64 l.length), (10, .int .i64 pre.length)]) (aF.env ?_) ⟨⟨s, f, rfl, k, .refl _ _ _⟩, rfl⟩ ?_ ?_
 ·simp only [go_sem,seval]
 ·rintro pre x post e g hp ⟨⟨s', f', hs, k', ke⟩, rfl⟩
  simp only [go_sem,seval, bI hp, aI (aK hp) (eO x)]
  refine tcE (yK k'.hc) ?_
  by_cases hz : s'.bad = 0
  ·simp only [go_sem,seval, hz]
   have k1 := k'.next s'.step
   refine tcE (uY (h := g.upd c (bW sp s'.step inp)) (full := full') behind hb 97 [] [.ip (dF x) 0] (fun r => decide (r.name = x.name)) (by kernel_rfl) (fun r _ => aAI _ r x)) ?_
   have fin : ∀ {g1 : AHeap} {s2 : CS}, s2 = (if behind.any (fun r => decide (r.name = x.name)) then s'.step.fail 12 else s'.step) → eN g1 c sp inp (cR (f' :: fs) s2 x.name (.var x.t)).2 (cR (f' :: fs) s2 x.name (.var x.t)).1 (m :: bs) → nQ h g1 c m →
     ∃ s3 f3, cH (f :: fs) s l behind = cH (f3 :: fs) s3 post behind ∧ eN (g1.upd c (bW sp (iW (cR (f' :: fs) s2 x.name (.var x.t)).1 (cR (f' :: fs) s2 x.name (.var x.t)).2 x.t) inp)) c sp inp s3 (f3 :: fs) (m :: bs) ∧ nQ h (g1.upd c (bW sp (iW (cR (f' :: fs) s2 x.name (.var x.t)).1 (cR (f' :: fs) s2 x.name (.var x.t)).2 x.t) inp)) c m := by
    intro g1 s2 e2 k3 ke3
    obtain ⟨f2, hf2⟩ := H9 f' fs s2 x.name (.var x.t)
    refine ⟨iW (cR (f' :: fs) s2 x.name (.var x.t)).1 (cR (f' :: fs) s2 x.name (.var x.t)).2 x.t, f2, ?_, ?_, ke3.trans (.next _ _ _ _)⟩
    rotate_left
    ·have := k3.next (iW (cR (f' :: fs) s2 x.name (.var x.t)).1 (cR (f' :: fs) s2 x.name (.var x.t)).2 x.t)
     rw [hf2] at this ⊢
     exact this
    ·rw [hs]
     simp only [cH, hz, if_true]
     rw [← e2, hf2]
   cases ha : behind.any (fun r => decide (r.name = x.name)) with
   | true =>
    simp only [go_sem,seval]
    refine tcE (cL k1.hc 12) ?_
    have k2 := k1.next (s'.step.fail 12)
    simp only [go_sem,seval]
    refine aW (yN k2 hd x.name (.var x.t)) (fun v g1 ⟨hv, k3, ke3⟩ => ?_)
    subst hv
    simp only [go_sem,seval]
    refine tcE (HQ k3.hc k3.ch x.t) ?_
    simp only [go_sem,seval]
    refine ⟨_, _, aF.env ?_, fin (by simp [ha]) k3 (((ke.trans (.next _ _ _ _)).trans (.next _ _ _ _)).trans ke3), rfl⟩
    simp only [go_sem,seval, aQ hw hp]
   | false =>
    simp only [go_sem,seval]
    refine aW (yN k1 hd x.name (.var x.t)) (fun v g1 ⟨hv, k3, ke3⟩ => ?_)
    subst hv
    simp only [go_sem,seval]
    refine tcE (HQ k3.hc k3.ch x.t) ?_
    simp only [go_sem,seval]
    refine ⟨_, _, aF.env ?_, fin (by simp [ha]) k3 ((ke.trans (.next _ _ _ _)).trans ke3), rfl⟩
    simp only [go_sem,seval, aQ hw hp]
  ·simp only [go_sem,seval, hz]
   refine aM.same ?_
   simp only [go_sem,seval]
   refine .same ⟨rfl, ?_, ke.trans (.next _ _ _ _)⟩
   rw [hs]
   simp only [cH, hz, if_false]
   exact k'.next s'
 ·rintro e g ⟨⟨s', f', hs, k', ke⟩, rfl⟩
  simp only [go_sem,seval, bE]
  refine aM.same ?_
  simp only [go_sem,seval]
  exact .same ⟨rfl, by rw [hs]; simpa only [cH] using k', ke⟩
end Pg
namespace Pg
open Go Go.Proofs.Tryz
theorem aC0 (n : Nat) (es : List (List AV)) (m : Nat) (hm : m ≤ es.length) : eP false n (.sl es false) none (some (.int .i64 (m : Int))) = some (.sl (es.take m) false) := by
 simp [eP, gG, hm]
theorem UU [GI] (h : AHeap) (r : Rec) (hw : few r.fields) : aD prog 58 [.agg (eB r)] h (fun v g => v = .bool (iP [] r.fields) ∧ g = h) := by
 refine F58.calls (by simp) ?_
 delta F58.c0
 simp only [go_sem,seval]
 refine aX r.fields (fun pre post e g => (iP [] r.fields = iP pre post ∧ g = h) ∧ e = [(1, .ip (eB r) 0), (3, .bool false), (9, .sl (r.fields.map eFld) false), (10, .int .i64 r.fields.length), (11, .int .i64 pre.length)]) (aF.env ?_) ⟨⟨rfl, rfl⟩, rfl⟩ ?_ ?_
 ·simp only [go_sem,seval]
 ·rintro pre x post e g hp ⟨⟨hs, rfl⟩, rfl⟩
  simp only [go_sem,seval, bI hp, aI (aK hp) (eC x)]
  have hle : pre.length ≤ (r.fields.map eFld).length := by rw [hp]; simp
  have htk : (r.fields.map eFld).take pre.length = pre.map eFld := by rw [hp]; simp
  have hwp : few pre := by
   unfold few at hw ⊢
   rw [hp] at hw; simp at hw; omega
  simp only [go_sem,seval, aC0 _ _ _ hle, htk]
  refine aX pre (fun pre' post' e k => ((∀ y ∈ pre', ¬ y.name = x.name) ∧ k = g) ∧ e = [(1, .ip (eB r) 0), (3, .bool false), (5, .ip (eFld x) 0), (9, .sl (r.fields.map eFld) false), (10, .int .i64 r.fields.length), (11, .int .i64 pre.length), (19, .sl (pre.map eFld) false), (20, .int .i64 pre.length), (21, .int .i64 pre'.length)]) (aF.env ?_) ⟨⟨by simp, rfl⟩, rfl⟩ ?_ ?_
  ·simp only [go_sem,seval]
  ·rintro pre' y post' e k hp' ⟨⟨hn, rfl⟩, rfl⟩
   simp only [go_sem,seval, bI hp', aI (aK hp') (eC y)]
   by_cases hy : y.name = x.name
   ·simp only [go_sem,seval, hy]
    refine aM.same ?_
    simp only [go_sem,seval]
    refine aM.same ?_
    simp only [go_sem,seval]
    refine .same ⟨?_, rfl⟩
    rw [hs]
    have : pre.any (fun g => decide (g.name = x.name)) = true := List.any_eq_true.2 ⟨y, bJ hp', by simp [hy]⟩
    simp [iP, this]
   ·simp only [go_sem,seval, hy]
    refine ⟨_, _, aF.env ?_, ⟨?_, rfl⟩, rfl⟩
    ·simp only [go_sem,seval, aQ hwp hp']
    ·intro z hz
     rcases List.mem_append.1 hz with hz | hz
     ·exact hn z hz
     ·simp at hz; subst hz; exact hy
  ·rintro e k ⟨⟨hn, rfl⟩, rfl⟩
   simp only [go_sem,seval, bE]
   refine aM.same ?_
   simp only [go_sem,seval]
   refine ⟨_, _, aF.env ?_, ⟨?_, rfl⟩, rfl⟩
   ·simp only [go_sem,seval, aQ hw hp]
   ·rw [hs]
    have : pre.any (fun g => decide (g.name = x.name)) = false := List.any_eq_false.2 (by simpa using hn)
    simp only [iP, this, Bool.false_or]
 ·rintro e g ⟨⟨hs, rfl⟩, rfl⟩
  simp only [go_sem,seval, bE]
  refine aM.same ?_
  simp only [go_sem,seval]
  exact .same ⟨by rw [hs]; simp [iP], rfl⟩
end Pg
