import Derived.Test.YtdfbkddelhbgmaaGreatDoorTreeSS2
import Derived.Test.YtdfbkddelhbgmaaGreatDoorCk5JS2
import Derived.Test.YtdfbkddelhbgmaaGreatDoorCountS2
set_option linter.all false
set_option maxHeartbeats 4000000
set_option maxRecDepth 4000
namespace Pg
open Go Go.Proofs.Tryz
def InP (inp : AV) (res : Int) : Prop := (inp = .ptr none ∧ res = 0) ∨ ∃ r : Routine, inp = .ip (eRoutine r) 0 ∧ res = r.result
section
variable {h : AHeap} {c : Nat} {sp inp : AV} {s : CS} {fs : List Scope} {bs : List Nat}
theorem result_spec [GI] (x : Stmt) (ho : x.ok) {res : Int} (hi : InP inp res) (k : CkIn h c sp inp s fs bs) (fw : FewIn fs) :
  Turns 146 [.ptr (some ⟨c, 0, none⟩), .agg (eStmt x)] h c sp inp (.tuple []) (ckResult fs s res x.e) := by
 unfold Turns
 have hcl := k.cell
 obtain ⟨_, _, _, hl, he, _⟩ := (Stmt.ok_iff x).1 ho
 have he' : ∀ y ∈ x.e, ExprC y false := fun y hy => expr_spec y (he y hy) false
 have hlen : (decide ((x.e.length : Int) > 0)) = decide (0 < x.e.length) := by congr 1; simp
 refine F146.calls (by simp) ?_
 delta F146.c0
 rcases hi with ⟨rfl, rfl⟩ | ⟨r, rfl, rfl⟩
 ·simp only [go_sem,seval, hcl, hlen]
  by_cases hz : 0 < x.e.length
  ·simp only [go_sem,seval, hz]
   refine tcE (fail_spec k.hc 16) ?_
   simp only [go_sem,seval]
   exact .same ⟨rfl, by simp [ckResult, hz]⟩
  ·simp only [go_sem,seval, hz]
   exact .same ⟨rfl, by simp [ckResult, hz, k.self]⟩
 ·simp only [go_sem,seval, hcl, hlen]
  by_cases hr : 0 < r.result
  ·have hr' : (r.result > 0) = True := by simpa using hr
   by_cases hz : 0 < x.e.length
   ·simp only [go_sem,seval, hz, hr', hcl]
    refine tcE (pair_of x.e hl he' k fw r.result false) ?_
    have kn := (k.next (ckPair fs s x.e r.result)).cell
    simp only [go_sem,seval, ↓kn]
    exact .same ⟨rfl, by simp [ckResult, hz, hr]⟩
   ·simp only [go_sem,seval, hz, hr', hcl]
    refine tcE (fail_spec k.hc 16) ?_
    have kn := (k.next (s.fail 16)).cell
    simp only [go_sem,seval, ↓kn]
    refine tcE (pair_of x.e hl he' (k.next (s.fail 16)) fw r.result false) ?_
    have kn := (k.next (ckPair fs (s.fail 16) x.e r.result)).cell
    simp only [go_sem,seval, ↓upd_upd, ↓kn]
    exact .same ⟨rfl, by simp [ckResult, hz, hr]⟩
  ·have hr' : (r.result > 0) = False := by simpa using hr
   by_cases hz : 0 < x.e.length
   ·simp only [go_sem,seval, hz, hr', hcl]
    refine tcE (fail_spec k.hc 16) ?_
    simp only [go_sem,seval]
    exact .same ⟨rfl, by simp [ckResult, hz, hr]⟩
   ·simp only [go_sem,seval, hz, hr', hcl]
    exact .same ⟨rfl, by simp [ckResult, hz, hr, k.self]⟩
theorem stmt_spec [GI] (x : Stmt) (ho : x.ok) {res : Int} (hi : InP inp res) (k : CkIn h c sp inp s fs bs) (fw : FewIn fs) :
  Turns 100 [.ptr (some ⟨c, 0, none⟩), .agg (eStmt x)] h c sp inp (.tuple []) (ckStmt fs s res x) := by
 unfold Turns
 obtain ⟨_, _, hp, hl, he, _⟩ := (Stmt.ok_iff x).1 ho
 have he' : ∀ b, ∀ y ∈ x.e, ExprC y b := fun b y hy => expr_spec y (he y hy) b
 have hp' : ExprC x.p false := fun k fw => expr_spec x.p hp false k fw
 have fin : ∀ s', ckStmt fs s res x = s' → EndW (fun r g => r = .tuple [] ∧ g = h.upd c (ckBlk sp (ckStmt fs s res x) inp)) (.tuple []) (h.upd c (ckBlk sp s' inp)) := fun s' e => .same ⟨rfl, by rw [e]⟩
 refine F100.calls (by simp) ?_
 delta F100.c0
 by_cases h1 : x.op = 1
 ·simp only [go_sem,seval, h1]
  refine tcE (set_of x.p hp' k fw [1, 2, 3] (few_small (by simp)) true) ?_
  simp only [go_sem,seval]
  refine tcE (pair_of x.e hl (he' false) (k.next _) fw _ false) ?_
  simp only [go_sem,seval, upd_upd]
  exact fin _ (by simp [ckStmt, h1])
 by_cases h2 : x.op = 2
 ·simp only [go_sem,seval, h2]
  refine lT_list x.e (fun pre post e g => (∃ s', ckEach fs s x.e = ckEach fs s' post ∧ g = h.upd c (ckBlk sp s' inp)) ∧ e = [(0, .ptr (some ⟨c, 0, none⟩)), (27, .sl (x.e.map eExpr) false), (28, .int .i64 x.e.length), (29, .int .i64 pre.length)]) (WeakE.env ?_) ⟨⟨s, rfl, k.self.symm⟩, rfl⟩ ?_ ?_
  ·simp only [go_sem,seval]
  ·rintro pre y post e g hp ⟨⟨s', hs, rfl⟩, rfl⟩
   simp only [go_sem,seval, lt_at hp, aia_sl (map_at hp) (eExpr_len y)]
   refine tcE (he' true y (mem_at hp) (k.next s') fw) ?_
   simp only [go_sem,seval, upd_upd]
   refine ⟨_, _, WeakE.env ?_, ⟨_, ?_, rfl⟩, rfl⟩
   ·simp only [go_sem,seval, step_at hl hp]
   ·rw [hs]; simp only [ckEach]
  ·rintro e g ⟨⟨s', hs, rfl⟩, rfl⟩
   simp only [go_sem,seval, lt_end]
   refine lessQ.same ?_
   simp only [go_sem,seval]
   exact fin _ (by simp [ckStmt, h2, hs, ckEach])
 by_cases h3 : x.op = 3 ∨ x.op = 4 ∨ x.op = 5
 ·have e3 : ckStmt fs s res x = ckPair fs s x.e 2 := by simp [ckStmt, h1, h2, h3]
  rcases h3 with hop | hop | hop
  all_goals
   simp only [go_sem,seval, hop]
   refine tcE (pair_of x.e hl (he' false) k fw 2 false) ?_
   simp only [go_sem,seval, upd_upd]
   exact fin _ e3
 by_cases h6 : x.op = 6
 ·have e6 : ckStmt fs s res x = ckPair fs (if (ckVariable fs s x.name).1 = kindTyp 1 then (ckVariable fs s x.name).2 else (ckVariable fs s x.name).2.fail 14) x.e 1 := by simp [ckStmt, h6]
  simp only [go_sem,seval, h6]
  refine tcE (variable_spec k x.name) ?_
  have ht : cellsEq [1, 1, 2] (eTyp (ckVariable fs s x.name).1) [.int .i64 1, .int .i64 0, .str ⟨#[]⟩] = some (decide ((ckVariable fs s x.name).1 = kindTyp 1)) := typ_eq _ (kindTyp 1)
  simp only [go_sem,seval, ht]
  by_cases hv : (ckVariable fs s x.name).1 = kindTyp 1
  ·simp only [go_sem,seval, hv]
   refine tcE (pair_of x.e hl (he' false) (k.next _) fw 1 false) ?_
   simp only [go_sem,seval, upd_upd]
   exact fin _ (by rw [e6, if_pos hv])
  ·simp only [go_sem,seval, hv]
   refine tcE (fail_spec (k.next _).hc 14) ?_
   simp only [go_sem,seval, upd_upd]
   refine tcE (pair_of x.e hl (he' false) (k.next _) fw 1 false) ?_
   simp only [go_sem,seval, upd_upd]
   exact fin _ (by rw [e6, if_neg hv])
 by_cases h7 : x.op = 7
 ·simp only [go_sem,seval, h7]
  refine tcE (set_of x.p hp' k fw [1, 3] (few_small (by simp)) true) ?_
  simp only [go_sem,seval]
  exact fin _ (by simp [ckStmt, h7])
 by_cases h8 : x.op = 8
 ·simp only [go_sem,seval, h8]
  refine lT_list x.e (fun pre post e g => (∃ s', ckAnys fs s x.e = ckAnys fs s' post ∧ g = h.upd c (ckBlk sp s' inp)) ∧ e = [(0, .ptr (some ⟨c, 0, none⟩)), (70, .sl (x.e.map eExpr) false), (71, .int .i64 x.e.length), (72, .int .i64 pre.length)]) (WeakE.env ?_) ⟨⟨s, rfl, k.self.symm⟩, rfl⟩ ?_ ?_
  ·simp only [go_sem,seval]
  ·rintro pre y post e g hp ⟨⟨s', hs, rfl⟩, rfl⟩
   simp only [go_sem,seval, lt_at hp, aia_sl (map_at hp) (eExpr_len y)]
   refine tcE (any_of y (fun k fw => he' false y (mem_at hp) k fw) (k.next s') fw) ?_
   simp only [go_sem,seval, upd_upd]
   refine ⟨_, _, WeakE.env ?_, ⟨_, ?_, rfl⟩, rfl⟩
   ·simp only [go_sem,seval, step_at hl hp]
   ·rw [hs]; simp only [ckAnys]
  ·rintro e g ⟨⟨s', hs, rfl⟩, rfl⟩
   simp only [go_sem,seval, lt_end]
   refine lessQ.same ?_
   simp only [go_sem,seval]
   exact fin _ (by simp [ckStmt, h8, hs, ckAnys])
 have h345 : ¬ x.op = 3 ∧ ¬ x.op = 4 ∧ ¬ x.op = 5 := by omega
 by_cases h9 : x.op = 9
 ·simp only [go_sem,seval, h9]
  refine tcE (result_spec x ho hi k fw) ?_
  simp only [go_sem,seval]
  exact fin _ (by simp [ckStmt, h9])
 ·simp only [go_sem,seval, h1, h2, h345.1, h345.2.1, h345.2.2, h6, h7, h8, h9]
  have := fin s (by simp [ckStmt, h1, h2, h3, h6, h7, h8, h9])
  rwa [k.self] at this
theorem stmts_spec [GI] : ∀ (n : Nat) (l : List Stmt), Stmts.sz l ≤ n → few l → (∀ x ∈ l, x.ok) → ∀ {h : AHeap} {c : Nat} {sp inp : AV} {s : CS} {fs : List Scope} {bs : List Nat} {res : Int} (hi : InP inp res) (k : CkIn h c sp inp s fs bs) (fw : FewIn fs) (full : Bool),
  Turns 62 [.ptr (some ⟨c, 0, none⟩), .sl (l.map eStmt) full] h c sp inp (.tuple []) (ckStmts fs s res l) := by
 intro n
 induction n with
 | zero =>
  intro l hn hw ho h c sp inp s fs bs res hi k fw full
  cases l with
  | cons x r => simp [Stmts.sz] at hn
  | nil =>
   unfold Turns
   refine F62.calls (by simp) ?_
   delta F62.c0
   simp only [go_sem,seval]
   refine lT_round ?_
   simp only [go_sem,seval]
   exact .same ⟨rfl, by simp [ckStmts, k.self]⟩
 | succ n ih =>
  intro l hn hw ho h c sp inp s fs bs res hi k fw full
  unfold Turns
  refine F62.calls (by simp) ?_
  delta F62.c0
  simp only [go_sem,seval]
  refine lT_list l (fun pre post e g => (∃ s', ckStmts fs s res l = ckStmts fs s' res post ∧ g = h.upd c (ckBlk sp s' inp)) ∧ e = [(0, .ptr (some ⟨c, 0, none⟩)), (6, .sl (l.map eStmt) full), (7, .int .i64 l.length), (8, .int .i64 pre.length)]) (WeakE.env ?_) ⟨⟨s, rfl, k.self.symm⟩, rfl⟩ ?_ ?_
  ·simp only [go_sem,seval]
  ·rintro pre x post e g hp ⟨⟨s', hs, rfl⟩, rfl⟩
   have hx := mem_at hp
   have hz := Stmts.sz_mem hx
   have hsz := Stmt.sz_eq x
   have hok := (Stmt.ok_iff x).1 (ho x hx)
   simp only [go_sem,seval, lt_at hp, aia_sl (map_at hp) (eStmt_len x)]
   refine tcE (next_spec (k.next s').hc) ?_
   by_cases hb : s'.bad = 0
   ·simp only [go_sem,seval, hb, upd_upd]
    refine tcE (stmt_spec x (ho x hx) hi (k.next s'.step) fw) ?_
    simp only [go_sem,seval, upd_upd]
    refine tcE (ih x.body (by omega) hok.2.2.2.2.2.1 hok.2.2.2.2.2.2.1 hi (k.next _) fw false) ?_
    simp only [go_sem,seval, upd_upd]
    refine tcE (ih x.els (by omega) hok.2.2.2.2.2.2.2.1 hok.2.2.2.2.2.2.2.2.1 hi (k.next _) fw false) ?_
    simp only [go_sem,seval, upd_upd]
    refine ⟨_, _, WeakE.env ?_, ⟨_, ?_, rfl⟩, rfl⟩
    ·simp only [go_sem,seval, step_at hw hp]
    ·rw [hs]; simp only [ckStmts, hb, if_true, ckDeep_eq]
   ·simp only [go_sem,seval, hb, upd_upd]
    refine lessQ.same ?_
    simp only [go_sem,seval]
    exact .same ⟨rfl, by rw [hs]; simp only [ckStmts, hb, if_false]⟩
  ·rintro e g ⟨⟨s', hs, rfl⟩, rfl⟩
   simp only [go_sem,seval, lt_end]
   refine lessQ.same ?_
   simp only [go_sem,seval]
   exact .same ⟨rfl, by rw [hs]; simp only [ckStmts]⟩
end
end Pg
namespace Pg
open Go Go.Proofs.Tryz
def Thing.few : Thing → Prop
 | .var _ => True
 | .rcd r => Pg.few r.fields
 | .routine r => Pg.few r.params
def Good (fs : List Scope) : Prop := ∀ f ∈ fs, ∀ p ∈ f, Thing.few p.2
theorem look_mem {f : Scope} {name : ByteArray} {x : Thing} (h : look f name = some x) : ∃ p ∈ f, p.2 = x := by
 unfold look at h
 simp only [Option.map_eq_some_iff] at h
 obtain ⟨p, hp, rfl⟩ := h
 exact ⟨p, List.mem_of_find?_eq_some hp, rfl⟩
theorem findIn_mem : ∀ {fs : List Scope} {name : ByteArray} {x : Thing}, findIn fs name = some x → ∃ f ∈ fs, ∃ p ∈ f, p.2 = x
 | [], _, _, h => by simp [findIn] at h
 | f :: fs, name, x, h => by
  simp only [findIn] at h
  split at h
  ·rename_i y hy
   simp only [Option.some.injEq] at h; subst h
   obtain ⟨p, hp, rfl⟩ := look_mem hy
   exact ⟨f, by simp, p, hp, rfl⟩
  ·obtain ⟨g, hg, p, hp, e⟩ := findIn_mem h
   exact ⟨g, by simp [hg], p, hp, e⟩
theorem Good.fewIn {fs : List Scope} (g : Good fs) : FewIn fs := by
 constructor
 ·intro name r h
  obtain ⟨f, hf, p, hp, e⟩ := findIn_mem h
  have := g f hf p hp
  rw [e] at this; exact this
 ·intro name r h
  obtain ⟨f, hf, p, hp, e⟩ := findIn_mem h
  have := g f hf p hp
  rw [e] at this; exact this
theorem setIn_mem {name : ByteArray} {x : Thing} : ∀ {f : Scope} {p : ByteArray × Thing}, p ∈ setIn name x f → p = (name, x) ∨ p ∈ f
 | [], p, h => by simp only [setIn, List.mem_singleton] at h; exact .inl h
 | (n, y) :: f, p, h => by
  simp only [setIn] at h
  split at h
  ·rcases List.mem_cons.1 h with h | h
   ·exact .inl h
   ·exact .inr (by simp [h])
  ·rcases List.mem_cons.1 h with h | h
   ·exact .inr (by simp [h])
   ·rcases setIn_mem h with h | h
    ·exact .inl h
    ·exact .inr (by simp [h])
theorem Good.setTop {fs : List Scope} (g : Good fs) {name : ByteArray} {x : Thing} (hx : x.few) : Good (setTop name x fs) := by
 cases fs with
 | nil => exact g
 | cons f fs =>
  intro f' hf p hp
  rcases List.mem_cons.1 hf with rfl | hf
  ·rcases setIn_mem hp with rfl | hp
   ·exact hx
   ·exact g f (by simp) p hp
  ·exact g f' (by simp [hf]) p hp
theorem Good.lay {fs : List Scope} (g : Good fs) {s : CS} {name : ByteArray} {x : Thing} (hx : x.few) : Good (ckLay fs s name x).1 := by
 unfold ckLay
 split
 ·exact g
 ·exact g.setTop hx
theorem Good.cons {fs : List Scope} (g : Good fs) {f : Scope} (h : ∀ p ∈ f, Thing.few p.2) : Good (f :: fs) := by
 intro f' hf p hp
 rcases List.mem_cons.1 hf with rfl | hf
 ·exact h p hp
 ·exact g f' hf p hp
theorem Good.vars {behind : List Routine} : ∀ {l : List Var} {fs : List Scope} {s : CS}, Good fs → Good (ckVars fs s l behind).1
 | [], fs, s, g => g
 | v :: l, fs, s, g => by
  simp only [ckVars]
  split
  ·exact Good.vars (g.lay trivial)
  ·exact g
theorem Good.params : ∀ {l : List Param} {fs : List Scope} {s : CS}, Good fs → Good (ckParams fs s l).1
 | [], fs, s, g => g
 | v :: l, fs, s, g => by simp only [ckParams]; exact Good.params (g.lay trivial)
theorem allOf_mem : ∀ {l : List Routine} {f : Scope} {p : ByteArray × Thing}, p ∈ allOf f l → p ∈ f ∨ ∃ r ∈ l, p.2 = .routine r
 | [], f, p, h => .inl h
 | r :: l, f, p, h => by
  simp only [allOf] at h
  rcases allOf_mem h with h | ⟨r', h1, h2⟩
  ·rcases setIn_mem h with rfl | h
   ·exact .inr ⟨r, by simp, rfl⟩
   ·exact .inl h
  ·exact .inr ⟨r', by simp [h1], h2⟩
theorem Good.all {fs : List Scope} (g : Good fs) {l : List Routine} (ho : ∀ r ∈ l, r.ok) : Good (allOf [] l :: fs) := by
 refine g.cons fun p hp => ?_
 rcases allOf_mem hp with h | ⟨r, h1, h2⟩
 ·simp at h
 ·rw [h2]; exact ((Routine.ok_iff r).1 (ho r h1)).2.2.1
theorem lay_tail (f : Scope) (fs : List Scope) (s : CS) (name : ByteArray) (x : Thing) : ∃ f', (ckLay (f :: fs) s name x).1 = f' :: fs := by
 unfold ckLay
 split
 ·exact ⟨f, rfl⟩
 ·exact ⟨_, rfl⟩
def Keeps (h g : AHeap) (c m : Nat) : Prop := ∀ b, b ≠ c → b ≠ m → g b = h b
theorem Keeps.refl (h : AHeap) (c m : Nat) : Keeps h h c m := fun _ _ _ => rfl
theorem Keeps.trans {h g k : AHeap} {c m : Nat} (a : Keeps h g c m) (b : Keeps g k c m) : Keeps h k c m := fun x h1 h2 => (b x h1 h2).trans (a x h1 h2)
theorem Keeps.next (h : AHeap) (c m : Nat) (o : AObj) : Keeps h (h.upd c o) c m := fun b h1 _ => upd_ne _ _ _ h1
section
variable {h : AHeap} {c m : Nat} {sp inp : AV} {s : CS} {f : Scope} {fs : List Scope} {bs : List Nat}
theorem lay_spec' [GI] (k : CkIn h c sp inp s (f :: fs) (m :: bs)) (hd : (m :: bs).Nodup) (name : ByteArray) (x : Thing) :
  ACalls prog 57 [.ptr (some ⟨c, 0, none⟩), .str name, .agg (eThing x)] h (fun v g => v = .tuple [] ∧ CkIn g c sp inp (ckLay (f :: fs) s name x).2 (ckLay (f :: fs) s name x).1 (m :: bs) ∧ Keeps h g c m) := by
 refine (lay_spec k.hc k.ch k.hn hd name x).mono ?_
 rintro v g ⟨hv, rfl, hch⟩
 refine ⟨hv, ⟨upd_same _ _ _, hch, k.hn⟩, ?_⟩
 intro b h1 h2
 rw [upd_ne _ _ _ h1, upd_ne _ _ _ h2]
end
theorem IndexFuncR_spec [GI] {h : AHeap} {full : Bool} (l : List Routine) (hw : few l) (fid : Nat) (first captured : List AV) (p : Routine → Bool) (hc : callable prog fid = true)
  (hf : ∀ x ∈ l, ACalls prog fid (first ++ [.agg (eRoutine x)] ++ captured) h (fun v g => v = .bool (p x) ∧ g = h)) :
  ACalls prog 139 [.sl (l.map eRoutine) full, .func (.func fid) first captured] h (fun v g => v = .int .i64 (match l.findIdx? p with | some i => i | none => -1) ∧ g = h) := by
 refine F139.calls (by simp) ?_
 delta F139.c0
 simp only [go_sem,seval, List.length_map]
 refine lT_list l (fun pre post e g => (∀ x ∈ pre, p x = false) ∧ g = h ∧ e = [(0, .sl (l.map eRoutine) full), (1, .func (.func fid) first captured), (7, .int .i64 l.length), (8, .int .i64 pre.length)]) (WeakE.env ?_) ⟨by simp, rfl, rfl⟩ ?_ ?_
 ·simp only [go_sem,seval]
 ·rintro pre x post e g hl ⟨hp, rfl, rfl⟩
  simp only [go_sem,seval, lt_at hl, aia_sl (map_at hl) (eRoutine_len x)]
  refine ⟨hc, callT_of (hf x (mem_at hl)) (fun v k ⟨hv, hk⟩ => ?_)⟩
  subst hv hk
  cases hpx : p x with
  | true =>
   simp only [go_sem,seval]
   refine lessQ.same ?_
   simp only [go_sem,seval]
   refine .same ⟨?_, rfl⟩
   have : l.findIdx? p = some pre.length := by
    subst hl
    rw [List.findIdx?_append, List.findIdx?_eq_none_iff.2 (by simpa using hp)]
    simp [List.findIdx?_cons, hpx]
   rw [this]
  | false =>
   simp only [go_sem,seval]
   refine ⟨_, _, WeakE.env ?_, ?_, rfl, rfl⟩
   ·simp only [go_sem,seval, step_at hw hl]
   ·intro y hy
    rcases List.mem_append.1 hy with hy | hy
    ·exact hp y hy
    ·simp at hy; subst hy; exact hpx
 ·rintro e g ⟨hp, rfl, rfl⟩
  simp only [go_sem,seval, lt_end]
  refine lessQ.same ?_
  simp only [go_sem,seval]
  refine .same ⟨?_, rfl⟩
  rw [List.findIdx?_eq_none_iff.2 (by simpa using hp)]
theorem ContainsFuncR_spec [GI] {h : AHeap} {full : Bool} (l : List Routine) (hw : few l) (fid : Nat) (first captured : List AV) (p : Routine → Bool) (hc : callable prog fid = true)
  (hf : ∀ x ∈ l, ACalls prog fid (first ++ [.agg (eRoutine x)] ++ captured) h (fun v g => v = .bool (p x) ∧ g = h)) :
  ACalls prog 96 [.sl (l.map eRoutine) full, .func (.func fid) first captured] h (fun v g => v = .bool (l.any p) ∧ g = h) := by
 refine F96.calls (by simp) ?_
 delta F96.c0
 simp only [go_sem,seval]
 refine callT_of (IndexFuncR_spec l hw fid first captured p hc hf) (fun v k ⟨hv, hk⟩ => ?_)
 generalize hn : (match l.findIdx? p with | some i => (i : Int) | none => -1) = n at hv
 subst hv hk
 simp only [go_sem,seval]
 refine .same ⟨?_, rfl⟩
 congr 1
 subst hn
 cases hi : l.findIdx? p with
 | none =>
  have := List.findIdx?_eq_none_iff.1 hi
  simp only [ge_iff_le]
  rw [List.any_eq_false.2 (by simpa using this)]; rfl
 | some i =>
  obtain ⟨h1, h2, _⟩ := List.findIdx?_eq_some_iff_getElem.1 hi
  rw [List.any_eq_true.2 ⟨l[i], List.getElem_mem h1, h2⟩]
  simp
theorem same_name [GI] (h : AHeap) (r : Routine) (v : Var) : ACalls prog 97 [.agg (eRoutine r), .ip (eVar v) 0] h (fun x g => x = .bool (decide (r.name = v.name)) ∧ g = h) := by
 refine F97.calls (by simp) ?_
 delta F97.c0
 simp only [go_sem,seval]
 exact .same ⟨rfl, rfl⟩
theorem variables_spec [GI] {h : AHeap} {c m : Nat} {sp inp : AV} {s : CS} {f : Scope} {fs : List Scope} {bs : List Nat} (k : CkIn h c sp inp s (f :: fs) (m :: bs)) (hd : (m :: bs).Nodup) (l : List Var) (hw : few l) (behind : List Routine) (hb : few behind) (full full' : Bool) :
  ACalls prog 60 [.ptr (some ⟨c, 0, none⟩), .sl (l.map eVar) full, .sl (behind.map eRoutine) full'] h (fun v g => v = .tuple [] ∧ CkIn g c sp inp (ckVars (f :: fs) s l behind).2 (ckVars (f :: fs) s l behind).1 (m :: bs) ∧ Keeps h g c m) := by
 refine F60.calls (by simp) ?_
 delta F60.c0
 simp only [go_sem,seval]
 refine lT_list l (fun pre post e g => (∃ s' f', ckVars (f :: fs) s l behind = ckVars (f' :: fs) s' post behind ∧ CkIn g c sp inp s' (f' :: fs) (m :: bs) ∧ Keeps h g c m) ∧ e = [(0, .ptr (some ⟨c, 0, none⟩)), (2, .sl (behind.map eRoutine) full'), (8, .sl (l.map eVar) full), (9, .int .i64 l.length), (10, .int .i64 pre.length)]) (WeakE.env ?_) ⟨⟨s, f, rfl, k, .refl _ _ _⟩, rfl⟩ ?_ ?_
 ·simp only [go_sem,seval]
 ·rintro pre x post e g hp ⟨⟨s', f', hs, k', ke⟩, rfl⟩
  simp only [go_sem,seval, lt_at hp, aia_sl (map_at hp) (eVar_len x)]
  refine tcE (next_spec k'.hc) ?_
  by_cases hz : s'.bad = 0
  ·simp only [go_sem,seval, hz]
   have k1 := k'.next s'.step
   refine tcE (ContainsFuncR_spec (h := g.upd c (ckBlk sp s'.step inp)) (full := full') behind hb 97 [] [.ip (eVar x) 0] (fun r => decide (r.name = x.name)) (by kernel_rfl) (fun r _ => same_name _ r x)) ?_
   have fin : ∀ {g1 : AHeap} {s2 : CS}, s2 = (if behind.any (fun r => decide (r.name = x.name)) then s'.step.fail 12 else s'.step) → CkIn g1 c sp inp (ckLay (f' :: fs) s2 x.name (.var x.t)).2 (ckLay (f' :: fs) s2 x.name (.var x.t)).1 (m :: bs) → Keeps h g1 c m →
     ∃ s3 f3, ckVars (f :: fs) s l behind = ckVars (f3 :: fs) s3 post behind ∧ CkIn (g1.upd c (ckBlk sp (ckTyp (ckLay (f' :: fs) s2 x.name (.var x.t)).1 (ckLay (f' :: fs) s2 x.name (.var x.t)).2 x.t) inp)) c sp inp s3 (f3 :: fs) (m :: bs) ∧ Keeps h (g1.upd c (ckBlk sp (ckTyp (ckLay (f' :: fs) s2 x.name (.var x.t)).1 (ckLay (f' :: fs) s2 x.name (.var x.t)).2 x.t) inp)) c m := by
    intro g1 s2 e2 k3 ke3
    obtain ⟨f2, hf2⟩ := lay_tail f' fs s2 x.name (.var x.t)
    refine ⟨ckTyp (ckLay (f' :: fs) s2 x.name (.var x.t)).1 (ckLay (f' :: fs) s2 x.name (.var x.t)).2 x.t, f2, ?_, ?_, ke3.trans (.next _ _ _ _)⟩
    rotate_left
    ·have := k3.next (ckTyp (ckLay (f' :: fs) s2 x.name (.var x.t)).1 (ckLay (f' :: fs) s2 x.name (.var x.t)).2 x.t)
     rw [hf2] at this ⊢
     exact this
    ·rw [hs]
     simp only [ckVars, hz, if_true]
     rw [← e2, hf2]
   cases ha : behind.any (fun r => decide (r.name = x.name)) with
   | true =>
    simp only [go_sem,seval]
    refine tcE (fail_spec k1.hc 12) ?_
    have k2 := k1.next (s'.step.fail 12)
    simp only [go_sem,seval]
    refine callT_of (lay_spec' k2 hd x.name (.var x.t)) (fun v g1 ⟨hv, k3, ke3⟩ => ?_)
    subst hv
    simp only [go_sem,seval]
    refine tcE (typ_spec k3.hc k3.ch x.t) ?_
    simp only [go_sem,seval]
    refine ⟨_, _, WeakE.env ?_, fin (by simp [ha]) k3 (((ke.trans (.next _ _ _ _)).trans (.next _ _ _ _)).trans ke3), rfl⟩
    simp only [go_sem,seval, step_at hw hp]
   | false =>
    simp only [go_sem,seval]
    refine callT_of (lay_spec' k1 hd x.name (.var x.t)) (fun v g1 ⟨hv, k3, ke3⟩ => ?_)
    subst hv
    simp only [go_sem,seval]
    refine tcE (typ_spec k3.hc k3.ch x.t) ?_
    simp only [go_sem,seval]
    refine ⟨_, _, WeakE.env ?_, fin (by simp [ha]) k3 ((ke.trans (.next _ _ _ _)).trans ke3), rfl⟩
    simp only [go_sem,seval, step_at hw hp]
  ·simp only [go_sem,seval, hz]
   refine lessQ.same ?_
   simp only [go_sem,seval]
   refine .same ⟨rfl, ?_, ke.trans (.next _ _ _ _)⟩
   rw [hs]
   simp only [ckVars, hz, if_false]
   exact k'.next s'
 ·rintro e g ⟨⟨s', f', hs, k', ke⟩, rfl⟩
  simp only [go_sem,seval, lt_end]
  refine lessQ.same ?_
  simp only [go_sem,seval]
  exact .same ⟨rfl, by rw [hs]; simpa only [ckVars] using k', ke⟩
end Pg
namespace Pg
open Go Go.Proofs.Tryz
theorem asl_take (n : Nat) (es : List (List AV)) (m : Nat) (hm : m ≤ es.length) : aslice false n (.sl es false) none (some (.int .i64 (m : Int))) = some (.sl (es.take m) false) := by
 simp [aslice, abound, hm]
theorem fields_spec [GI] (h : AHeap) (r : Rec) (hw : few r.fields) : ACalls prog 58 [.agg (eRec r)] h (fun v g => v = .bool (twice [] r.fields) ∧ g = h) := by
 refine F58.calls (by simp) ?_
 delta F58.c0
 simp only [go_sem,seval]
 refine lT_list r.fields (fun pre post e g => (twice [] r.fields = twice pre post ∧ g = h) ∧ e = [(1, .ip (eRec r) 0), (3, .bool false), (9, .sl (r.fields.map eFld) false), (10, .int .i64 r.fields.length), (11, .int .i64 pre.length)]) (WeakE.env ?_) ⟨⟨rfl, rfl⟩, rfl⟩ ?_ ?_
 ·simp only [go_sem,seval]
 ·rintro pre x post e g hp ⟨⟨hs, rfl⟩, rfl⟩
  simp only [go_sem,seval, lt_at hp, aia_sl (map_at hp) (eFld_len x)]
  have hle : pre.length ≤ (r.fields.map eFld).length := by rw [hp]; simp
  have htk : (r.fields.map eFld).take pre.length = pre.map eFld := by rw [hp]; simp
  have hwp : few pre := by
   unfold few at hw ⊢
   rw [hp] at hw; simp at hw; omega
  simp only [go_sem,seval, asl_take _ _ _ hle, htk]
  refine lT_list pre (fun pre' post' e k => ((∀ y ∈ pre', ¬ y.name = x.name) ∧ k = g) ∧ e = [(1, .ip (eRec r) 0), (3, .bool false), (5, .ip (eFld x) 0), (9, .sl (r.fields.map eFld) false), (10, .int .i64 r.fields.length), (11, .int .i64 pre.length), (19, .sl (pre.map eFld) false), (20, .int .i64 pre.length), (21, .int .i64 pre'.length)]) (WeakE.env ?_) ⟨⟨by simp, rfl⟩, rfl⟩ ?_ ?_
  ·simp only [go_sem,seval]
  ·rintro pre' y post' e k hp' ⟨⟨hn, rfl⟩, rfl⟩
   simp only [go_sem,seval, lt_at hp', aia_sl (map_at hp') (eFld_len y)]
   by_cases hy : y.name = x.name
   ·simp only [go_sem,seval, hy]
    refine lessQ.same ?_
    simp only [go_sem,seval]
    refine lessQ.same ?_
    simp only [go_sem,seval]
    refine .same ⟨?_, rfl⟩
    rw [hs]
    have : pre.any (fun g => decide (g.name = x.name)) = true := List.any_eq_true.2 ⟨y, mem_at hp', by simp [hy]⟩
    simp [twice, this]
   ·simp only [go_sem,seval, hy]
    refine ⟨_, _, WeakE.env ?_, ⟨?_, rfl⟩, rfl⟩
    ·simp only [go_sem,seval, step_at hwp hp']
    ·intro z hz
     rcases List.mem_append.1 hz with hz | hz
     ·exact hn z hz
     ·simp at hz; subst hz; exact hy
  ·rintro e k ⟨⟨hn, rfl⟩, rfl⟩
   simp only [go_sem,seval, lt_end]
   refine lessQ.same ?_
   simp only [go_sem,seval]
   refine ⟨_, _, WeakE.env ?_, ⟨?_, rfl⟩, rfl⟩
   ·simp only [go_sem,seval, step_at hw hp]
   ·rw [hs]
    have : pre.any (fun g => decide (g.name = x.name)) = false := List.any_eq_false.2 (by simpa using hn)
    simp only [twice, this, Bool.false_or]
 ·rintro e g ⟨⟨hs, rfl⟩, rfl⟩
  simp only [go_sem,seval, lt_end]
  refine lessQ.same ?_
  simp only [go_sem,seval]
  exact .same ⟨by rw [hs]; simp [twice], rfl⟩
end Pg
