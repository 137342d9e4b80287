/- The core, twentieth part: less may be told at a loop's head and behind it, and of arguments; lists that grow and never turn. -/
import Derived.Test.YtpebidcmkjjpnaaCore17
namespace Pg
open Go
set_option linter.unusedSimpArgs false
set_option linter.unusedVariables false

/-! ### Values that say less -/
def AVle (a b : AV) : Prop := ∀ I v, Rd I a v → Rd I b v
theorem AVle.refl (a : AV) : AVle a a := fun _ _ r => r
theorem AVle.trans {a b c : AV} (x : AVle a b) (y : AVle b c) : AVle a c := fun I v r => y I v (x I v r)
theorem AVle.any (a : AV) : AVle a .any := fun _ v _ => .any v
theorem AVle.gs (es : List (List AV)) (b cap : Nat) : AVle (.gs es b cap) (.sl es false) := fun _ _ r => r.gs_sl
theorem AVle.sl (es : List (List AV)) (f : Bool) : AVle (.sl es f) (.sl es false) := fun _ _ r => r.sl_open
def AVles (xs ys : List AV) : Prop := ∀ I vs, Rds I xs vs → Rds I ys vs
theorem AVles.refl (xs : List AV) : AVles xs xs := fun _ _ r => r
theorem AVles.nil : AVles [] [] := .refl _
theorem AVles.cons {a b : AV} {xs ys : List AV} (h : AVle a b) (r : AVles xs ys) : AVles (a :: xs) (b :: ys) := by
  intro I vs hr
  obtain ⟨v, vs', rfl, h1, h2⟩ := hr.uncons
  exact .cons (h I v h1) (r I vs' h2)
theorem AVles.length {xs ys : List AV} (h : AVles xs ys) {I : Imm} {vs : List Value} (r : Rds I xs vs) : xs.length = ys.length := by rw [r.len, (h I vs r).len]
theorem AVle.agg {xs ys : List AV} (h : AVles xs ys) : AVle (.agg xs) (.agg ys) := by
  intro I v r
  obtain ⟨vs, rfl, r1, r2⟩ := r.inv_agg
  exact .of_agg (h I vs r1) r2
theorem AVle.tuple {xs ys : List AV} (h : AVles xs ys) : AVle (.tuple xs) (.tuple ys) := by
  intro I v r
  obtain ⟨vs, rfl, r1⟩ := r.inv_tuple
  exact .of_tuple (h I vs r1)

theorem ACalls.less {P : Program} {f : FuncId} {args args' : List AV} {h : AHeap} {K : AV → AHeap → Prop} (le : AVles args args') (c : ACalls P f args' h K) : ACalls P f args h K :=
  fun I w vs r s => c I w vs (le I vs r) s
theorem callT_le {P : Program} {f : FuncId} {args args' : List AV} {h : AHeap} {K : AV → AHeap → Prop} {K' : AV → AHeap → Tok → Prop} (c : ACalls P f args' h K) (le : AVles args args') (m : ∀ v g, K v g → K' v g .go) : callT .go P f args h K' := (c.less le).mono m

/-! ### Heaps and slots that say less -/
def ObjLe : AObj → AObj → Prop
  | .blk cs total ty, .blk cs' total' ty' => total = total' ∧ ty = ty' ∧ cs.length = cs'.length ∧ AVles cs cs'
  | a, b => a = b
theorem ObjLe.refl (o : AObj) : ObjLe o o := by cases o <;> simp [ObjLe, AVles.refl]
def HeapLe (h h' : AHeap) : Prop := ∀ b o', h' b = some o' → ∃ o, h b = some o ∧ ObjLe o o'
theorem HeapLe.refl (h : AHeap) : HeapLe h h := fun b o' e => ⟨o', e, .refl _⟩
theorem HeapLe.of_le {h h' : AHeap} (le : h'.le h) : HeapLe h h' := fun b o' e => ⟨o', le b o' e, .refl _⟩
theorem ObjSat.less {I : Imm} {w : World} {b : Nat} {o o' : AObj} (le : ObjLe o o') (s : ObjSat I w b o) : ObjSat I w b o' := by
  cases o <;> cases o' <;> simp only [ObjLe, reduceCtorEq] at le
  · obtain ⟨rfl, rfl, hl, hv⟩ := le
    obtain ⟨vs, h1, h2, h3, h4, h5⟩ := s
    refine ⟨vs, h1, h2, by omega, ?_, by rw [← hl]; exact h5⟩
    rw [← hl]; exact hv _ _ h4
  · cases le; exact s
  · cases le; exact s
theorem HeapLe.sat {h h' : AHeap} (le : HeapLe h h') {w : World} {I : Imm} (s : Sat w I h) : Sat w I h' := by
  refine ⟨fun b o' hb => ?_, s.imm, fun b o v hb => ?_⟩
  · obtain ⟨o, h1, h2⟩ := le b o' hb
    exact (s.obj b o h1).less h2
  · cases hb' : h' b with
    | none => trivial
    | some o' =>
      obtain ⟨x, h1, h2⟩ := le b o' hb'
      have := s.dis b o v hb
      rw [h1] at this
      cases x <;> cases o' <;> simp only [ObjLe, reduceCtorEq] at h2 <;> first | exact this.elim | (cases h2; exact this)
theorem HeapLe.new {h h' : AHeap} (le : HeapLe h h') (w : World) (I : Imm) : New w I I h h' :=
  ⟨Imm.le_refl I, fun b o e => by obtain ⟨x, h1, _⟩ := le b o e; exact .inl (by rw [h1]; simp), fun b o v e => .inl e⟩

/-- From slots and a heap to others that say less. -/
def WeakE (e : Env) (h : AHeap) (e' : Env) (h' : AHeap) : Prop :=
  ∀ (I : Imm) (w : World) (N : Nat) (tmps : Array Value), EnvSat I N e tmps → Sat w I h → ∃ J, New w I J h h' ∧ EnvSat J N e' tmps ∧ Sat w J h'
theorem WeakE.refl (e : Env) (h : AHeap) : WeakE e h e h := fun I w N tmps s t => ⟨I, .refl w I h, s, t⟩
theorem WeakE.trans {e e' e'' : Env} {h h' h'' : AHeap} (x : WeakE e h e' h') (y : WeakE e' h' e'' h'') : WeakE e h e'' h'' := by
  intro I w N tmps s t
  obtain ⟨J, n, s1, t1⟩ := x I w N tmps s t
  obtain ⟨K, m, s2, t2⟩ := y J w N tmps s1 t1
  exact ⟨K, n.trans (.refl h w) m, s2, t2⟩
def EnvLe (e e' : Env) : Prop := ∀ t, AVle (e.get t) (e'.get t)
theorem EnvLe.refl (e : Env) : EnvLe e e := fun t => .refl _
theorem EnvLe.nil (e : Env) : EnvLe e [] := fun t => .any _
theorem EnvLe.cons {e r : Env} {s : Nat} {v : AV} (h : AVle (e.get s) v) (k : EnvLe e r) : EnvLe e ((s, v) :: r) := by
  intro t
  simp only [Env.get]
  split
  · rename_i hh; subst hh; exact h
  · exact k t
theorem WeakE.of {e e' : Env} {h h' : AHeap} (a : EnvLe e e') (b : HeapLe h h') : WeakE e h e' h' :=
  fun I w N tmps s t => ⟨I, b.new w I, ⟨s.size, fun u => a u I _ (s.at_ u)⟩, b.sat t⟩
theorem WeakE.env {e e' : Env} {h : AHeap} (a : EnvLe e e') : WeakE e h e' h := .of a (.refl h)

/-- A loop by an invariant with a measure; less may be told at each round's end and behind the loop. -/
theorem L_inv2 {P : Program} {N : Nat} {c : RCode} {Q : Exit → Env → AHeap → Prop} {Inv : Nat → Env → AHeap → Prop}
    (step : ∀ n e h, Inv n e h → W P N c (onNormal (fun e h => ∃ m e' g, m < n ∧ WeakE e h e' g ∧ Inv m e' g) (fun x e h => ∃ e' g, WeakE e h e' g ∧ Q x e' g)) e h) : ∀ n e h, Inv n e h → L P N c Q e h := by
  intro n
  induction n using Nat.strongRecOn with
  | _ n ih =>
    intro e h hi B F code hc I w a s t hd
    refine lw_unroll (wp_mono (T_of_W _ _ _ _ (step n e h hi) B F code hc I w a s t hd) ?_)
    intro ex a' w' hpost
    obtain ⟨J, e', g, kk, s', t', ext, nw, d'⟩ := hpost
    have out : (∃ e2 g2, WeakE e' g e2 g2 ∧ Q ex e2 g2) → Post N I w h Q ex a' w' := by
      rintro ⟨e2, g2, wk, q⟩
      obtain ⟨J2, n2, s2, t2⟩ := wk J w' N a'.tmps s' t'
      exact ⟨J2, e2, g2, q, s2, t2, ext, nw.trans ext n2, d'⟩
    cases ex with
    | normal =>
      intro b kk2 cs
      obtain ⟨m, e2', g', hm, wk, hi'⟩ := kk
      obtain ⟨J2, n2, s2, t2⟩ := wk J w' N a'.tmps s' t'
      obtain ⟨e2, a2, w2, p2, r2⟩ := ih m hm e2' g' hi' B F code hc J2 w' a' s2 t2 d' b kk2 cs
      exact ⟨e2, a2, w2, post_trans ext (nw.trans ext n2) p2, r2⟩
    | exit i => exact out kk
    | goto l => exact out kk
    | ret => exact out kk
    | panic ch => exact out kk
    | outgrown => exact out kk

theorem okRead_mono {o : Option AV} {K K' : AV → Prop} (m : ∀ v, K v → K' v) (k : okRead o K) : okRead o K' := by cases o with | none => exact k | some v => exact m v k
theorem aguard_mono {x : AV} {w : Bool} {A B A' B' : Unit → Prop} (a : A () → A' ()) (b : B () → B' ()) (k : aguard x w A B) : aguard x w A' B' := by
  unfold aguard at k ⊢
  split at k
  · split at k
    · rename_i hh; rw [if_pos hh]; exact a k
    · rename_i hh; rw [if_neg hh]; exact b k
  · exact b k
  · exact k
theorem aop_mono {P : Program} {K K' : AV → AHeap → Prop} (m : ∀ v g, K v g → K' v g) {e : Env} {h : AHeap} {r : ROp} (k : aop P K e h r) : aop P K' e h r := by
  cases r with
  | rd r => exact okRead_mono (fun v => m v h) k
  | ef r => exact aeff_mono m k
theorem aops_mono {P : Program} : ∀ (l : List ROper) {K K' : Env → AHeap → Prop} (m : ∀ e h, K e h → K' e h) {e : Env} {h : AHeap}, aops P l K e h → aops P l K' e h
  | [], K, K', m, e, h, k => m e h k
  | ⟨dst, op, none⟩ :: r, K, K', m, e, h, k => aop_mono (fun v g => aops_mono r m) k
  | ⟨dst, op, some (s, w)⟩ :: r, K, K', m, e, h, k => aguard_mono (aop_mono fun v g => aops_mono r m) (aops_mono r m) k
theorem dop_mono {P : Program} {H : List (AHeap → Prop)} {K K' : AV → AHeap → List (AHeap → Prop) → Prop} (m : ∀ v g H, K v g H → K' v g H) {e : Env} {h : AHeap} {r : ROp} (k : dop P H K e h r) : dop P H K' e h r := by
  cases r with
  | rd r => exact okRead_mono (fun v => m v h _) k
  | ef r =>
    simp only [dop] at k ⊢
    exact aeff_mono (fun v g q => ⟨q.1, m v g _ q.2⟩) k
theorem dops_mono {P : Program} : ∀ (l : List ROper) {H : List (AHeap → Prop)} {K K' : Env → AHeap → Prop} (m : ∀ e h, K e h → K' e h) {e : Env} {h : AHeap}, dops P l H K e h → dops P l H K' e h
  | [], H, K, K', m, e, h, k => m e h k
  | ⟨dst, op, none⟩ :: r, H, K, K', m, e, h, k => dop_mono (fun v g H => dops_mono r m) k
  | ⟨dst, op, some (s, w)⟩ :: r, H, K, K', m, e, h, k => aguard_mono (dop_mono fun v g H => dops_mono r m) (dops_mono r m) k
theorem L_mono {P : Program} {N : Nat} {c : RCode} {Q Q' : Exit → Env → AHeap → Prop} (m : ∀ x e h, Q x e h → Q' x e h) {e : Env} {h : AHeap} (k : L P N c Q e h) : L P N c Q' e h := by
  intro B F code hc I w a s t hd b kk cs
  obtain ⟨e2, a2, w2, ⟨J, e', g, q, rest⟩, r2⟩ := k B F code hc I w a s t hd b kk cs
  exact ⟨e2, a2, w2, ⟨J, e', g, m _ _ _ q, rest⟩, r2⟩
theorem onNormal_mono {K K' : Env → AHeap → Prop} {Q Q' : Exit → Env → AHeap → Prop} (a : ∀ e h, K e h → K' e h) (m : ∀ x e h, Q x e h → Q' x e h) : ∀ x e h, onNormal K Q x e h → onNormal K' Q' x e h := by
  intro x e h k
  cases x <;> first | exact a e h k | exact m _ e h k
theorem okFrz_mono {K K' : Env → AHeap → Prop} : ∀ (ds : List Nat) (m : ∀ e h, K e h → K' e h) (e : Env) (h : AHeap), okFrz ds K e h → okFrz ds K' e h
  | [], m, e, h, k => m e h k
  | d :: ds, m, e, h, k => by
    simp only [okFrz] at k ⊢
    split at k
    · rename_i b hb
      split at k
      · rename_i cs total ty hg
        exact okFrz_mono ds m _ _ k
      · exact k
    · exact k
theorem W_mono {P : Program} {N : Nat} : ∀ (c : RCode) {Q Q' : Exit → Env → AHeap → Prop} (m : ∀ x e h, Q x e h → Q' x e h) {e : Env} {h : AHeap}, W P N c Q e h → W P N c Q' e h := by
  intro c
  induction c with
  | skip => intro Q Q' m e h k; exact m _ _ _ k
  | reg ops => intro Q Q' m e h k; exact aops_mono ops (m .normal) k
  | dreg ops => intro Q Q' m e h k; exact dops_mono ops (m .normal) k
  | frz c ds ih => intro Q Q' m e h k; exact ih (onNormal_mono (okFrz_mono ds (m .normal)) m) k
  | seq a b iha ihb => intro Q Q' m e h k; exact iha (onNormal_mono (fun e h => ihb m) m) k
  | cond c a b iha ihb =>
    intro Q Q' m e h k
    simp only [W] at k ⊢
    unfold agate at k ⊢
    split at k
    · split at k
      · rename_i hh; rw [if_pos hh]; exact iha m k
      · rename_i hh; rw [if_neg hh]; exact ihb m k
    · exact k
  | block id c ih =>
    intro Q Q' m e h k
    refine ih ?_ k
    intro x e h q
    cases x <;> first | exact m _ e h q | skip
    simp only [onExit] at q ⊢
    split at q
    · rename_i hh; rw [if_pos hh]; exact m _ _ _ q
    · rename_i hh; rw [if_neg hh]; exact m _ _ _ q
  | loop c ih => intro Q Q' m e h k; exact L_mono m k
  | exit id => intro Q Q' m e h k; exact m _ _ _ k
  | ret => intro Q Q' m e h k; exact m _ _ _ k
  | scope c ih =>
    intro Q Q' m e h k
    refine ih ?_ k
    intro x e h q
    cases x <;> first | exact m _ e h q | exact q

/-- Where a round ends, or the loop: less may be told. -/
def lessQ (Q : Exit → Env → AHeap → Tok → Prop) (x : Exit) (e : Env) (h : AHeap) : Prop := ∃ e' g, WeakE e h e' g ∧ Q x e' g .go
theorem lessQ.same {Q : Exit → Env → AHeap → Tok → Prop} {x : Exit} {e : Env} {h : AHeap} (q : Q x e h .go) : lessQ Q x e h := ⟨e, h, .refl e h, q⟩
theorem lessQ.to {Q : Exit → Env → AHeap → Tok → Prop} {x : Exit} {e e' : Env} {h g : AHeap} (wk : WeakE e h e' g) (q : Q x e' g .go) : lessQ Q x e h := ⟨e', g, wk, q⟩
def lessI (Inv : Nat → Env → AHeap → Prop) (n : Nat) (e : Env) (h : AHeap) : Prop := ∃ m e' g, m < n ∧ WeakE e h e' g ∧ Inv m e' g
theorem lessI.to {Inv : Nat → Env → AHeap → Prop} {n : Nat} {e : Env} {h : AHeap} (m : Nat) (e' : Env) (g : AHeap) (hm : m < n) (wk : WeakE e h e' g) (i : Inv m e' g) : lessI Inv n e h := ⟨m, e', g, hm, wk, i⟩

theorem L_weak {P : Program} {N : Nat} {c : RCode} {Q : Exit → Env → AHeap → Prop} {e e' : Env} {h h' : AHeap} (wk : WeakE e h e' h') (k : L P N c Q e' h') : L P N c Q e h := by
  intro B F code hc I w a s t hd
  obtain ⟨J, n, s', t'⟩ := wk I w N a.tmps s t
  intro b kk cs
  obtain ⟨e2, a2, w2, p2, r2⟩ := k B F code hc J w a s' t' hd b kk cs
  exact ⟨e2, a2, w2, post_trans (.refl h w) n p2, r2⟩

theorem lT_inv2 {P : Program} {N : Nat} {c : RCode} {Q : Exit → Env → AHeap → Tok → Prop} (Inv : Nat → Env → AHeap → Prop) (n : Nat) {e e' : Env} {h h' : AHeap} (wk : WeakE e h e' h') (i : Inv n e' h')
    (step : ∀ n e h, Inv n e h → wT .go P N c (fun x e h t => onNormalT t (fun e h t => lessI Inv n e h) (fun x e h t => lessQ Q x e h) x e h) e h) : lT .go P N c Q e h :=
  L_weak wk (L_inv2 (Inv := Inv) step n e' h' i)

/-- A loop over a list: what is done, what is ahead. -/
theorem lT_list {P : Program} {N : Nat} {c : RCode} {Q : Exit → Env → AHeap → Tok → Prop} {X : Type} (l : List X) (Inv : List X → List X → Env → AHeap → Prop) {e e' : Env} {h h' : AHeap} (wk : WeakE e h e' h') (i : Inv [] l e' h')
    (step : ∀ pre x post e h, l = pre ++ x :: post → Inv pre (x :: post) e h → wT .go P N c (fun y e h t => onNormalT t (fun e h t => ∃ e' g, WeakE e h e' g ∧ Inv (pre ++ [x]) post e' g) (fun y e h t => lessQ Q y e h) y e h) e h)
    (done : ∀ e h, Inv l [] e h → wT .go P N c (fun y e h t => onNormalT t (fun e h t => False) (fun y e h t => lessQ Q y e h) y e h) e h) : lT .go P N c Q e h := by
  refine lT_inv2 (fun n e h => ∃ pre post, l = pre ++ post ∧ post.length = n ∧ Inv pre post e h) l.length wk ⟨[], l, rfl, rfl, i⟩ ?_
  rintro n e h ⟨pre, post, hl, hn, hi⟩
  have mono : ∀ {K K' : Env → AHeap → Prop}, (∀ e h, K e h → K' e h) → wT .go P N c (fun y e h t => onNormalT t (fun e h t => K e h) (fun y e h t => lessQ Q y e h) y e h) e h → wT .go P N c (fun y e h t => onNormalT t (fun e h t => K' e h) (fun y e h t => lessQ Q y e h) y e h) e h := by
    intro K K' m k
    exact W_mono c (fun y e h q => by cases y <;> first | exact m _ _ q | exact q) k
  cases post with
  | nil =>
    rw [List.append_nil] at hl; subst hl
    exact mono (fun e h f => f.elim) (done e h hi)
  | cons x post =>
    refine mono ?_ (step pre x post e h hl hi)
    rintro e h ⟨e', g, wk, hi'⟩
    exact ⟨post.length, e', g, by simp at hn; omega, wk, pre ++ [x], post, by rw [hl]; simp, rfl, hi'⟩

/-! ### Lists that grow -/
/-- 'v' is a list of the rows; its free places, if there are any, are all that the heap has beyond 'h0'. -/
def GL (ty : TypeId) (size : Nat) (h0 h : AHeap) (v : AV) (rows : List (List AV)) : Prop :=
  (∀ e ∈ rows, e.length = size) ∧ ((v = .sl rows true ∧ h = h0) ∨ ∃ b cap, h0 b = none ∧ rows.length ≤ cap ∧ v = .gs rows b cap ∧ h = h0.upd b (.tail (rows.length * size) (cap * size) ty))
theorem GL.full {ty : TypeId} {size : Nat} (h : AHeap) {rows : List (List AV)} (hs : ∀ e ∈ rows, e.length = size) : GL ty size h h (.sl rows true) rows := ⟨hs, .inl ⟨rfl, rfl⟩⟩
theorem GL.nil {ty : TypeId} {size : Nat} (h : AHeap) : GL ty size h h (.sl [] true) [] := .full h (by simp)
theorem GL.avle {ty : TypeId} {size : Nat} {h0 h : AHeap} {v : AV} {rows : List (List AV)} (g : GL ty size h0 h v rows) : AVle v (.sl rows false) := by
  rcases g.2 with ⟨rfl, _⟩ | ⟨b, cap, _, _, rfl, _⟩
  · exact .sl _ _
  · exact .gs _ _ _
theorem GL.le {ty : TypeId} {size : Nat} {h0 h : AHeap} {v : AV} {rows : List (List AV)} (g : GL ty size h0 h v rows) : h0.le h := by
  rcases g.2 with ⟨_, rfl⟩ | ⟨b, cap, hb, _, _, rfl⟩
  · exact AHeap.le_refl _
  · exact AHeap.le_upd hb
theorem GL.at {ty : TypeId} {size : Nat} {h0 h : AHeap} {v : AV} {rows : List (List AV)} (g : GL ty size h0 h v rows) {b : Nat} {o : AObj} (e : h0 b = some o) : h b = some o := g.le b o e
theorem GL.len {ty : TypeId} {size : Nat} {h0 h : AHeap} {v : AV} {rows : List (List AV)} (g : GL ty size h0 h v rows) (k : AHeap) : alen k 1 v = some (.int .i64 rows.length) := by
  rcases g.2 with ⟨rfl, _⟩ | ⟨b, cap, _, _, rfl, _⟩ <;> rfl
theorem GL.cells {ty : TypeId} {size : Nat} {h0 h : AHeap} {v : AV} {rows : List (List AV)} (g : GL ty size h0 h v rows) : v.cells? = some [v] := by
  rcases g.2 with ⟨rfl, _⟩ | ⟨b, cap, _, _, rfl, _⟩ <;> rfl
theorem GL.aia {ty : TypeId} {size : Nat} {h0 h : AHeap} {v : AV} {rows : List (List AV)} (g : GL ty size h0 h v rows) (k : IntKind) {i : Nat} {e : List AV} (he : rows[i]? = some e) : aia size v (.int k i) = some (.ip e 0) := by
  have hl := g.1 e (List.mem_of_getElem? he)
  rcases g.2 with ⟨rfl, _⟩ | ⟨b, cap, _, _, rfl, _⟩ <;> simp only [Pg.aia] <;> rw [if_pos (Int.natCast_nonneg i), Int.toNat_natCast, he] <;> simp only <;> rw [if_pos hl]
theorem GL.elems {ty : TypeId} {size : Nat} {h0 h : AHeap} {v : AV} {rows : List (List AV)} (g : GL ty size h0 h v rows) (k : AHeap) (s : Nat) : aelems k s v = some (rows.length, rows.flatten) := by
  rcases g.2 with ⟨rfl, _⟩ | ⟨b, cap, _, _, rfl, _⟩ <;> rfl
theorem GL.fit {ty : TypeId} {size : Nat} {h0 h : AHeap} {v : AV} {rows : List (List AV)} (g : GL ty size h0 h v rows) : elemsFit size v := by
  rcases g.2 with ⟨rfl, _⟩ | ⟨b, cap, _, _, rfl, _⟩ <;> exact g.1
/-- It stays one where what is beside it turns. -/
theorem GL.upd {ty : TypeId} {size : Nat} {h0 h : AHeap} {v : AV} {rows : List (List AV)} (g : GL ty size h0 h v rows) {p : Nat} {x : AObj} (hp : h0 p = some x) (o : AObj) : GL ty size (h0.upd p o) (h.upd p o) v rows := by
  refine ⟨g.1, ?_⟩
  rcases g.2 with ⟨rfl, rfl⟩ | ⟨b, cap, hb, hc, rfl, rfl⟩
  · exact .inl ⟨rfl, rfl⟩
  · have hne : b ≠ p := by intro hh; subst hh; rw [hb] at hp; cases hp
    exact .inr ⟨b, cap, by rw [upd_ne _ _ _ hne]; exact hb, hc, rfl, upd_comm _ _ _ hne⟩
/-- Something new is laid beside it. -/
theorem GL.fresh {ty : TypeId} {size : Nat} {h0 h : AHeap} {v : AV} {rows : List (List AV)} (g : GL ty size h0 h v rows) {p : Nat} (hp : h p = none) (o : AObj) : GL ty size (h0.upd p o) (h.upd p o) v rows := by
  refine ⟨g.1, ?_⟩
  rcases g.2 with ⟨rfl, rfl⟩ | ⟨b, cap, hb, hc, rfl, rfl⟩
  · exact .inl ⟨rfl, rfl⟩
  · obtain ⟨hne, _⟩ := upd_none hp
    exact .inr ⟨b, cap, by rw [upd_ne _ _ _ hne.symm]; exact hb, hc, rfl, upd_comm _ _ _ hne.symm⟩
/-- Two lists change places. -/
theorem GL.swap {ty ty' : TypeId} {size size' : Nat} {h0 h1 h2 : AHeap} {v v' : AV} {rows rows' : List (List AV)} (g : GL ty size h0 h1 v rows) (g' : GL ty' size' h1 h2 v' rows') : ∃ k, GL ty' size' h0 k v' rows' ∧ GL ty size k h2 v rows := by
  obtain ⟨s', c'⟩ := g'
  rcases c' with ⟨rfl, rfl⟩ | ⟨b', cap', hb', hc', rfl, rfl⟩
  · exact ⟨h0, .full _ s', g⟩
  · have : h0 b' = none := by
      cases hh : h0 b' with
      | none => rfl
      | some x => rw [g.at hh] at hb'; cases hb'
    exact ⟨_, ⟨s', .inr ⟨b', cap', this, hc', rfl, rfl⟩⟩, g.fresh hb' _⟩
/-- append to such a list. -/
theorem GL.append {ty : TypeId} {size bytes : Nat} {h0 h : AHeap} {v : AV} {rows : List (List AV)} (g : GL ty size h0 h v rows) {m : Nat} {xs : List AV} {new : List (List AV)} (hm : new.length = m) (hx : new.flatten = xs) (hn : ∀ e ∈ new, e.length = size) (room : roomFor (rows.length + m) bytes)
    {K : AV → AHeap → Tok → Prop} (k : ∀ v' h', GL ty size h0 h' v' (rows ++ new) → K v' h' .go) : appendT .go h ty size bytes v m xs K := by
  have hch : chunks size m xs = new := by
    subst hm hx
    clear k room g
    induction new with
    | nil => rfl
    | cons e es ih =>
      have he := hn e (by simp)
      simp only [List.length_cons, chunks, List.flatten_cons]
      rw [List.take_left' he, List.drop_left' he, ih (fun x hx => hn x (by simp [hx]))]
  have hall : ∀ e ∈ rows ++ new, e.length = size := by
    intro e he
    rcases List.mem_append.1 he with h | h
    · exact g.1 e h
    · exact hn e h
  unfold appendT aappend
  rcases g.2 with ⟨rfl, rfl⟩ | ⟨b, cap, hb, hc, rfl, rfl⟩
  · simp only
    refine ⟨fun h => ?_, fun _ => ⟨trivial, room, g.1, .inr ?_⟩⟩
    · have : new = [] := List.eq_nil_of_length_eq_zero (by omega)
      subst this
      exact k _ _ (by rw [List.append_nil]; exact .full _ g.1)
    · intro b cap hb hc
      rw [hch]
      refine k _ _ ⟨hall, .inr ⟨b, cap, hb, by rw [List.length_append, hm]; exact hc, rfl, by rw [List.length_append, hm]⟩⟩
  · simp only [upd_same]
    refine ⟨trivial, trivial, trivial, hc, g.1, room, ?_⟩
    rw [del_upd _ _ _ hb, hch]
    intro b' cap' hb' hc'
    exact k _ _ ⟨hall, .inr ⟨b', cap', hb', by rw [List.length_append, hm]; exact hc', rfl, by rw [List.length_append, hm]⟩⟩
theorem GL.append1 {ty : TypeId} {size bytes : Nat} {h0 h : AHeap} {v : AV} {rows : List (List AV)} (g : GL ty size h0 h v rows) {xs : List AV} (hn : xs.length = size) (room : roomFor (rows.length + 1) bytes)
    {K : AV → AHeap → Tok → Prop} (k : ∀ v' h', GL ty size h0 h' v' (rows ++ [xs]) → K v' h' .go) : appendT .go h ty size bytes v 1 xs K :=
  g.append (new := [xs]) rfl (by simp) (by simpa using hn) room k
/-- Where the walk ends with such a list. -/
theorem GL.endW {ty : TypeId} {size : Nat} {h0 h : AHeap} {v : AV} {rows : List (List AV)} (g : GL ty size h0 h v rows) {K : AV → AHeap → Prop} (k : K (.sl rows false) h0) : EndW K v h :=
  ⟨_, _, (WeakV.forget g.le).trans (WeakV.less fun I us r => by
    obtain ⟨u, us', rfl, r1, r2⟩ := r.uncons
    exact .cons (g.avle I u r1) r2), k⟩
theorem EndW.less {K : AV → AHeap → Prop} {v v' : AV} {g g' : AHeap} (a : AVle v v') (le : g'.le g) (k : K v' g') : EndW K v g :=
  ⟨_, _, (WeakV.forget le).trans (WeakV.less fun I us r => by
    obtain ⟨u, us', rfl, r1, r2⟩ := r.uncons
    exact .cons (a I u r1) r2), k⟩

theorem fresh_ne {h : AHeap} {p q : Nat} {o : AObj} (hq : h.upd p o q = none) : p ≠ q := by intro hh; subst hh; rw [upd_same] at hq; cases hq
theorem fresh_at {h : AHeap} {p q : Nat} {o o' : AObj} (hq : h.upd p o q = none) : h.upd p o' q = none := by rw [upd_ne _ _ _ (fresh_ne hq).symm, ← hq, upd_ne _ _ _ (fresh_ne hq).symm]
theorem fresh_of {h : AHeap} {p q : Nat} {o : AObj} (hq : h.upd p o q = none) : h q = none := by rw [← hq, upd_ne _ _ _ (fresh_ne hq).symm]
theorem upd_self {h : AHeap} {b : Nat} {o : AObj} (e : h b = some o) : h.upd b o = h := by
  funext c; simp only [AHeap.upd]; split
  · rename_i hh; subst hh; exact e.symm
  · rfl
/-! ### Maps -/
def mapupT (t : Tok) (h : AHeap) (ks : List Nat) (m k v : AV) (K : AV → AHeap → Tok → Prop) : Prop := match m with
  | .map (some r) => match h r with
    | some (.mp es) => match aset ks k v es with
      | some es' => keyFits ks k = true ∧ K .any (h.upd r (.mp es')) t
      | none => False
    | _ => False
  | _ => False
theorem t_mapup (P : Program) (h : AHeap) (va : ROpd → AV) (K : AV → AHeap → Tok → Prop) (ks : List Nat) (m k v : ROpd) : aeffT .go P va h K (.mapup ks m k v) = mapupT .go h ks (va m) (va k) (va v) K := rfl
theorem mapupT_of {h : AHeap} {ks : List Nat} {r : Nat} {k v : AV} {es es' : List (AV × AV)} {K : AV → AHeap → Tok → Prop} (h1 : h r = some (.mp es)) (h2 : aset ks k v es = some es') (h3 : keyFits ks k = true) (kk : K .any (h.upd r (.mp es')) .go) : mapupT .go h ks (.map (some r)) k v K := by
  simp only [mapupT, h1, h2]; exact ⟨h3, kk⟩
theorem cells_gs (es : List (List AV)) (b c : Nat) : (AV.gs es b c).cells? = some [.gs es b c] := rfl
theorem alen_gs (h : AHeap) (es : List (List AV)) (b c : Nat) : alen h 1 (.gs es b c) = some (.int .i64 es.length) := rfl

end Pg
