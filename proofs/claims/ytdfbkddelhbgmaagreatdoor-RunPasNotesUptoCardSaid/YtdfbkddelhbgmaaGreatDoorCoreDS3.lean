import Derived.Test.YtdfbkddelhbgmaaGreatDoorK4S3
import Derived.Defers
namespace Pg
open Go
set_option linter.all false
structure Dfr where
 pre : List ROper
 f : FuncId
 args : List aV
 dst : Option Nat
def P0 (P : Program) (N : Nat) (B : List Nat) (ops : Array Oper) : Option Dfr :=
 match ops[ops.size - 1]? with
 | some o => match o.op, o.guard with
  | .defer { callee := .value (.func f), args, .. }, none =>
   match mU args.toList, xB P N B ops (List.range (ops.size - 1)) with
   | some rs, some pre => if (o.dst.all (· < N)) = true ∧ eD P f = true then some ⟨pre, f, rs, o.dst⟩ else none
   | _, _ => none
  | _, _ => none
 | none => none
def DW (P : Program) (N : Nat) (B : List Nat) : Code → Option Dfr
 | .region _ ops false => P0 P N B ops
 | _ => none
def qS (P : Program) (N : Nat) (B F : List Nat) : Code → Option (RCode × Dfr × RCode)
 | .seq x y => match DW P N B x with
  | some d => (fF P N B F y).map fun ry => (.skip, d, ry)
  | none => match fF P N B F x, qS P N B F y with
   | some rx, some (a, d, b) => some (.seq rx a, d, b)
   | _, _ => none
 | _ => none
theorem K2 [GI] {DD : List Deferred} {P : Program} {N : Nat} {B : List Nat} {ops : Array Oper} {Q : Exit → Act → World → Prop} {l' : List Nat} : ∀ (l : List Nat) (xs : List ROper), xB P N B ops l = some xs → ∀ {K : Env → AHeap → Prop} (I : Imm) (w : World) (a : Act) (e : Env) (h : AHeap),
  dC I N e a.tmps → Sat w I h → a.defers = DD → iN P xs K e h →
  (∀ J e' g a' w', K e' g → dC J N e' a'.tmps → Sat w' J g → Ext h w w' → New w I J h g → a'.defers = DD → wpOps P ops Q l' a' w') → wpOps P ops Q (l ++ l') a w
 | [], xs, hx, K, I, w, a, e, h, s, t, hd, k, H => by
  simp only [xB, Option.some.injEq] at hx; subst hx
  exact H I e h a w k s t (.refl _ _) (.refl _ _ _) hd
 | i :: l, xs, hx, K, I, w, a, e, h, s, t, hd, k, H => by
  simp only [xB] at hx
  split at hx
  ·rename_i o ho
   split at hx
   ·rename_i x r hx1 hx2
    simp only [Option.some.injEq] at hx; subst hx
    rw [yX] at k
    refine tM ho hx1 I w a e h s t hd k ?_
    intro J e' g a' w' k' s' t' ex n hd'
    refine K2 l r hx2 J w' a' e' g s' t' hd' k' ?_
    intro J2 e2 g2 a2 w2 k2 s2 t2 ex2 n2 hd2
    exact H J2 e2 g2 a2 w2 k2 s2 t2 (ex.trans n ex2) (n.trans ex n2) hd2
   ·cases hx
  ·cases hx
theorem aEh [GI] {P : Program} {N : Nat} {B : List Nat} {ops : Array Oper} {d : Dfr} (hr : P0 P N B ops = some d) {K : Env → AHeap → Prop} {I : Imm} {w : World} {a : Act} {e : Env} {h : AHeap} (s : dC I N e a.tmps) (t : Sat w I h) (hd : a.defers = []) (k : iN P d.pre K e h) (id : Nat) :
  (Code.region id ops false).wp P (fun x a' w' => x = .normal ∧ ∃ J e' g us, K e' g ∧ Rds J (d.args.map (ev e')) us ∧ dC J N (e'.put d.dst (.tuple [])) a'.tmps ∧ Sat w' J g ∧ Ext h w w' ∧ New w I J h g ∧ a'.defers = [⟨.fn (.func d.f) #[], us.toArray⟩]) a w := by
 unfold P0 at hr
 split at hr
 case h_2 => cases hr
 rename_i o ho
 split at hr
 case h_2 => cases hr
 rename_i f args tt hop hg
 split at hr
 case h_2 => cases hr
 rename_i rs pre hrs hpre
 split at hr
 case isFalse => cases hr
 rename_i hc
 simp only [Option.some.injEq] at hr; subst hr
 refine wp_region ?_
 have hpos : 0 < ops.size := by
  rcases Nat.eq_zero_or_pos ops.size with h0 | h0
  ·rw [h0] at ho; simp [Array.getElem?_eq_none (by omega : ops.size ≤ 0)] at ho
  ·exact h0
 have hl : List.range ops.size = List.range (ops.size - 1) ++ [ops.size - 1] := by
  rw [← List.range_succ]; congr 1; omega
 rw [hl]
 refine K2 _ _ hpre I w a e h s t hd k ?_
 intro J e' g a' w' k' s' t' ex n hd'
 have h1 := pK s'.val hrs
 simp only [wpOps, ho]
 have hw : Region.wanted o (yielded ops a'.tmps) = true := by simp [Region.wanted, hg]
 rw [if_pos hw]
 refine .inl ?_
 have hexec : (execOp a'.eval o).run P w' = .ok (.defer ⟨.fn (.func f) #[], (args.toList.map a'.eval).toArray⟩) w' := by
  simp only [execOp, hop, resolve, Act.eval, Deferred.ofValue, Sem.run_bind, Sem.run_pure, Result.andThen_ok]
  congr 4
  apply Array.ext'
  simp
 unfold Oper.wp
 rw [hexec, Oper.upon_defer]
 have hdst : ∀ t, o.dst = some t → t < N := by
  intro t ht; have := hc.1; rw [ht] at this; simpa using this
 refine ⟨trivial, J, e', g, _, k', h1, by
  have := s'.put (a := a') hdst (xE J)
  revert this
  cases o.dst <;> exact fun x => x, t', ex, n, ?_⟩
 rw [put_defers, hd']
theorem OK {P : Program} {N : Nat} {B : List Nat} {ops : Array Oper} {d : Dfr} (hr : P0 P N B ops = some d) : eD P d.f = true := by
 unfold P0 at hr
 split at hr
 case h_2 => cases hr
 split at hr
 case h_2 => cases hr
 split at hr
 case h_2 => cases hr
 split at hr
 case isFalse => cases hr
 rename_i hc
 simp only [Option.some.injEq] at hr; subst hr
 exact hc.2
theorem KP {P : Program} {N : Nat} {B F : List Nat} {d : Dfr} {b : RCode} : ∀ (code : Code) {a : RCode}, qS P N B F code = some (a, d, b) → eD P d.f = true := by
 intro code
 induction code with
 | seq x y ihx ihy =>
  intro a hc
  simp only [qS] at hc
  split at hc
  ·rename_i d' hd'
   simp only [Option.map_eq_some_iff, Prod.mk.injEq] at hc
   obtain ⟨ry, hy, rfl, rfl, rfl⟩ := hc
   unfold DW at hd'
   split at hd'
   ·exact OK hd'
   ·cases hd'
  ·split at hc
   ·rename_i rx a' d' b' hx hy
    simp only [Option.some.injEq, Prod.mk.injEq] at hc
    obtain ⟨rfl, rfl, rfl⟩ := hc
    exact ihy hy
   ·cases hc
 | _ => intro a hc; simp [qS] at hc
def K5 [GI] (N : Nat) (I : Imm) (w : World) (h : AHeap) (d : Dfr) (Q : Exit → Env → AHeap → Prop) (Q2 : List AV → Exit → Env → AHeap → Prop) : Exit → Act → World → Prop := fun x a' w' =>
 (x ≠ .normal ∧ ∃ J e' g, Q x e' g ∧ dC J N e' a'.tmps ∧ Sat w' J g ∧ Ext h w w' ∧ New w I J h g ∧ a'.defers = []) ∨
 ∃ e0 us J e' g, Q2 (d.args.map (ev e0)) x e' g ∧ Rds J (d.args.map (ev e0)) us ∧ dC J N e' a'.tmps ∧ Sat w' J g ∧ Ext h w w' ∧ New w I J h g ∧ a'.defers = [⟨.fn (.func d.f) #[], us.toArray⟩]
theorem K5.trans [GI] {N : Nat} {I J : Imm} {w w' : World} {h g : AHeap} {d : Dfr} {Q : Exit → Env → AHeap → Prop} {Q2 : List AV → Exit → Env → AHeap → Prop} (ex : Ext h w w') (n : New w I J h g) {x : Exit} {a : Act} {w2 : World} (p : K5 N J w' g d Q Q2 x a w2) : K5 N I w h d Q Q2 x a w2 := by
 rcases p with ⟨hx, K, e, f, q, s, t, ex2, n2, dd⟩ | ⟨dvs, us, K, e, f, q, r, s, t, ex2, n2, dd⟩
 ·exact .inl ⟨hx, K, e, f, q, s, t, ex.trans n ex2, n.trans ex n2, dd⟩
 ·exact .inr ⟨dvs, us, K, e, f, q, r, s, t, ex.trans n ex2, n.trans ex n2, dd⟩
theorem aBx [GI] {P : Program} {N : Nat} {B F : List Nat} {Q : Exit → Env → AHeap → Prop} {Q2 : List AV → Exit → Env → AHeap → Prop} {d : Dfr} {b : RCode} : ∀ (code : Code) (a : RCode), qS P N B F code = some (a, d, b) →
  (∀ e h, Q .normal e h → iN P d.pre (fun e g => W P N b (Q2 (d.args.map (ev e))) (e.put d.dst (.tuple [])) g) e h) → ∀ (e : Env) (h : AHeap), W P N a Q e h → ∀ (I : Imm) (w : World) (act : Act), dC I N e act.tmps → Sat w I h → act.defers = [] →
  code.wp P (K5 N I w h d Q Q2) act w := by
 intro code
 induction code with
 | seq x y ihx ihy =>
  intro a hc HN e h k I w act s t hd
  simp only [qS] at hc
  split at hc
  ·rename_i d' hd'
   simp only [Option.map_eq_some_iff, Prod.mk.injEq] at hc
   obtain ⟨ry, hy, rfl, rfl, rfl⟩ := hc
   cases x with
   | region id ops dr =>
    cases dr with
    | true => simp [DW] at hd'
    | false =>
     simp only [DW] at hd'
     have r := aEh hd' s t hd (HN e h k) id
     refine wp_seq (wp_mono r ?_)
     rintro x a' w' ⟨rfl, J, e', g, us, k', rd, s', t', ex, n, hd2⟩
     have := AJ _ _ _ _ k' _ B F y hy J w' a' s' t' hd2
     refine wp_mono this ?_
     rintro x2 a2 w2 ⟨J2, e2, g2, q2, s2, t2, ex2, n2, hd3⟩
     exact .inr ⟨_, us, J2, e2, g2, q2, rd.mono n2.imm, s2, t2, ex.trans n ex2, n.trans ex n2, hd3⟩
   | _ => simp [DW] at hd'
  ·split at hc
   ·rename_i rx a' d' b' hx hy
    simp only [Option.some.injEq, Prod.mk.injEq] at hc
    obtain ⟨rfl, rfl, rfl⟩ := hc
    have hT := AJ rx (pO (W P N a' Q) Q) e h k [] B F x hx I w act s t hd
    refine wp_seq (wp_mono hT ?_)
    rintro x2 a2 w2 ⟨J2, e2, g2, q2, s2, t2, ex2, n2, hd3⟩
    cases x2 with
    | normal => exact wp_mono (ihy a' hy HN e2 g2 q2 J2 w2 a2 s2 t2 hd3) (fun x a w p => p.trans ex2 n2)
    | exit i => exact .inl ⟨by simp, J2, e2, g2, q2, s2, t2, ex2, n2, hd3⟩
    | goto i => exact .inl ⟨by simp, J2, e2, g2, q2, s2, t2, ex2, n2, hd3⟩
    | ret => exact .inl ⟨by simp, J2, e2, g2, q2, s2, t2, ex2, n2, hd3⟩
    | panic c => exact .inl ⟨by simp, J2, e2, g2, q2, s2, t2, ex2, n2, hd3⟩
    | outgrown => exact .inl ⟨by simp, J2, e2, g2, q2, s2, t2, ex2, n2, hd3⟩
   ·cases hc
 | _ => intro a hc; simp [qS] at hc
def Y9 [GI] (P : Program) (Ng : Nat) (rg : RCode) (rs : List kL) (K : AV → AHeap → Prop) (dvs : List AV) : Exit → Env → AHeap → Prop
 | .normal, e, h | .ret, e, h => W P Ng rg (fun x _ g => match x with | .normal | .ret => tZ (hY e g rs) fun v => K v g | _ => False) (oJ 0 dvs) h
 | _, _, _ => False
def Y8 [GI] (P : Program) (N : Nat) (d : Dfr) (b : RCode) (Ng : Nat) (rg : RCode) (rs : List kL) (K : AV → AHeap → Prop) : Exit → Env → AHeap → Prop
 | .normal, e, h => iN P d.pre (fun e g => W P N b (Y9 P Ng rg rs K (d.args.map (ev e))) (e.put d.dst (.tuple [])) g) e h
 | .ret, e, h => tZ (hY e h rs) fun v => K v h
 | _, _, _ => False
theorem GM [GI] {P : Program} {fn : Func} {I : Imm} {N : Nat} {e : Env} {h : AHeap} {w : World} {tmps : Array Value} (s : dC I N e tmps) (t : Sat w I h) {rs : List kL} (hr : tW P fn.results.toList = some rs) {K : AV → AHeap → Prop} (ko : tZ (hY e h rs) fun v => K v h) :
  ∃ v r, (results fn tmps).run P w = .ok v w ∧ K r h ∧ Rd I r v := by
 cases he : hY e h rs with
 | none => simp [he, tZ] at ko
 | some ws =>
  obtain ⟨us, q1, q2⟩ := BR (P := P) s t hr he
  have hres : (results fn tmps).run P w = .ok (if h : us.toArray.size = 1 then us.toArray[0] else .tuple us.toArray) w := by
   have hdef : results fn tmps = (do
     let vs ← fn.results.mapM (JV tmps)
     pure (if h : vs.size = 1 then vs[0] else .tuple vs)) := by
    unfold results
    congr 1
    try (congr 1; funext x; cases x <;> rfl)
   rw [hdef, ← Array.toArray_toList (xs := fn.results), List.mapM_toArray]
   simp only [Sem.run_bind, Sem.run_map, q1, Result.andThen_ok, Sem.run_pure]
  rw [he] at ko
  match ws, q2 with
  | [], q2 =>
   have := q2.of_nil; subst this
   exact ⟨_, _, hres, ko, .iU (.nil I)⟩
  | [x1], q2 =>
   obtain ⟨u, us', rfl, r1, r2⟩ := q2.dN
   have := r2.of_nil; subst this
   exact ⟨_, _, hres, ko, r1⟩
  | x1 :: x2 :: r, q2 =>
   obtain ⟨u, us', rfl, r1, r2⟩ := q2.dN
   obtain ⟨u2, us2, rfl, r3, r4⟩ := r2.dN
   refine ⟨_, _, hres, ko, ?_⟩
   simp only [List.size_toArray, List.length_cons]
   rw [dif_neg (by omega)]
   exact .iU q2
theorem WW {I : Imm} {N : Nat} {args : List AV} {vs : List Value} (ra : Rds I args vs) (hn : args.length ≤ N) : dC I N (oJ 0 args) (vs.toArray ++ Array.replicate (N - vs.toArray.size) undef) := by
 have hl := ra.len
 refine ⟨by simp; omega, ?_⟩
 intro u
 rw [NY]
 simp only [Nat.zero_le, if_true, Nat.sub_zero, Array.getD_eq_getD_getElem?]
 cases hu : args[u]? with
 | none => exact .any _
 | some a =>
  obtain ⟨v, hv, rd⟩ := ra.get hu
  have hlt : u < vs.length := by
   rcases Nat.lt_or_ge u vs.length with h' | h'
   ·exact h'
   ·rw [List.getElem?_eq_none h'] at hv; cases hv
  rw [Array.getElem?_append_left (by simpa using hlt)]
  simp only [List.getElem?_toArray, hv, Option.getD_some]
  exact rd
theorem ZO [GI] {P : Program} {B F B' F' : List Nat} {f : FuncId} {fn gn : Func} {a b rg : RCode} {d : Dfr} {rs : List kL} (N Ng : Nat) (hf : P.funcs[f]? = some fn) (hN : fn.ntmps = N) (hc : fn.body.bind (qS P N B F) = some (a, d, b)) (hr : tW P fn.results.toList = some rs)
  (hg : P.funcs[d.f]? = some gn) (hNg : gn.ntmps = Ng) (hcg : gn.body.bind (fF P Ng B' F') = some rg) (hrg : gn.results = #[]) (hna : d.args.length ≤ Ng)
  {as : List AV} {h : AHeap} {K : AV → AHeap → Prop} (hn : as.length ≤ N) (k : W P N a (Y8 P N d b Ng rg rs K) (oJ 0 as) h) : aD P f as h K := by
 cases hb : fn.body with
 | none => rw [hb] at hc; cases hc
 | some code =>
 cases hbg : gn.body with
 | none => rw [hbg] at hcg; cases hcg
 | some gcode =>
 rw [hb] at hc; rw [hbg] at hcg
 simp only [Option.bind_some] at hc hcg
 subst hN hNg
 intro I w vs ra t
 have hcal := KP code hc
 refine calls_of_wp_defers hf hb (wp_mono (aBx (Q := Y8 P fn.ntmps d b gn.ntmps rg rs K) (Q2 := Y9 P gn.ntmps rg rs K) code a hc (fun e h k => k) _ h k I w _ (WW ra hn) t rfl) ?_)
 have fin : ∀ (x : Exit) (a' : Act) (w' : World), (x = .normal ∨ x = .ret) → K5 fn.ntmps I w h d (Y8 P fn.ntmps d b gn.ntmps rg rs K) (Y9 P gn.ntmps rg rs K) x a' w' →
   Leaves P fn a'.tmps (fun e w' => ∃ v, e = .returned v ∧ ∃ J r g, K r g ∧ Rd J r v ∧ Sat w' J g ∧ Ext h w w' ∧ New w I J h g) a'.defers .returning w' := by
  intro x a' w' hx hpost
  rcases hpost with ⟨hx2, J, e', g, q, s', t', ex, n, dd⟩ | ⟨e0, us, J, e', g, q, r, s', t', ex, n, dd⟩
  ·rw [dd]
   have hxr : x = .ret := hx.resolve_left hx2
   subst hxr
   obtain ⟨v, r, h1, h2, h3⟩ := GM s' t' hr q
   exact ⟨v, h1, v, rfl, J, r, g, h2, h3, t', ex, n⟩
  ·rw [dd]
   have q' : W P gn.ntmps rg (fun x _ g => match x with | .normal | .ret => tZ (hY e' g rs) fun v => K v g | _ => False) (oJ 0 (d.args.map (ev e0))) g := by
    rcases hx with rfl | rfl <;> exact q
   have hdl : (d.args.map (ev e0)).length ≤ gn.ntmps := by simpa using hna
   have hinv : (invoke (.fn (.func d.f) #[]) us.toArray).run P w' = .ok (.enter d.f us.toArray) w' := by
    simp only [invoke, sF hcal]
    simp
   refine ⟨by simp, .func d.f, #[], d.f, us.toArray, rfl, hinv, ?_⟩
   have hT := AJ rg _ _ g q' [] B' F' gcode hcg J w' ⟨us.toArray ++ Array.replicate (gn.ntmps - us.toArray.size) undef, []⟩ (WW r hdl) t' rfl
   have hD := callsD_of_wp (P := P) (f := d.f) (args := us.toArray) (u := .returning) (w := w') (R := fun e w2 => ∃ v, e = .returned v ∧ ∃ J2 g2, tZ (hY e' g2 rs) (fun v => K v g2) ∧ Sat w2 J2 g2 ∧ Ext g w' w2 ∧ New w' J J2 g g2) hg hbg (wp_mono hT ?_)
   ·intro c cs hcm
    obtain ⟨e, u', w2, fr, ⟨rfl, v, rfl, J2, g2, ko, t2, ex2, n2⟩, rest⟩ := hD c cs hcm
    refine ⟨_, _, w2, fr, ?_, rest⟩
    obtain ⟨v2, r2, h1, h2, h3⟩ := GM (s'.mono n2.imm) t2 hr ko
    exact ⟨v2, h1, v2, rfl, J2, r2, g2, h2, h3, t2, ex.trans n ex2, n.trans ex n2⟩
   ·rintro x2 a2 w2 ⟨J2, e2, g2, kk, s2, t2, ex2, n2, d2⟩
    have hres : (results gn a2.tmps).run P w2 = .ok (.tuple #[]) w2 := by
     unfold results
     rw [hrg]
     simp
    cases x2 with
    | normal => exact ⟨d2, _, hres, _, rfl, J2, g2, kk, t2, ex2, n2⟩
    | ret => exact ⟨d2, _, hres, _, rfl, J2, g2, kk, t2, ex2, n2⟩
    | exit i => exact kk.elim
    | goto l => exact kk.elim
    | panic c => exact kk.elim
    | outgrown => exact kk.elim
 intro x a' w' hpost
 cases x with
 | normal => exact fin _ a' w' (.inl rfl) hpost
 | ret => exact fin _ a' w' (.inr rfl) hpost
 | exit i => rcases hpost with ⟨_, J, e', g, q, _⟩ | ⟨dvs, us, J, e', g, q, _⟩ <;> exact q.elim
 | goto i => rcases hpost with ⟨_, J, e', g, q, _⟩ | ⟨dvs, us, J, e', g, q, _⟩ <;> exact q.elim
 | panic i => rcases hpost with ⟨_, J, e', g, q, _⟩ | ⟨dvs, us, J, e', g, q, _⟩ <;> exact q.elim
 | outgrown => rcases hpost with ⟨_, J, e', g, q, _⟩ | ⟨dvs, us, J, e', g, q, _⟩ <;> exact q.elim
def aBA (t : Tok) (rs : List kL) (e : Env) (K : AV → AHeap → Prop) (x : Exit) (g : AHeap) : Prop := match x with | .normal | .ret => uO .go (hY e g rs) (fun v => K v g) | _ => False
def aDG [GI] (t : Tok) (P : Program) (Ng : Nat) (rg : RCode) (rs : List kL) (K : AV → AHeap → Prop) (dvs : List AV) (x : Exit) (e : Env) (h : AHeap) : Prop := Y9 P Ng rg rs K dvs x e h
def Y7 [GI] (t : Tok) (P : Program) (N : Nat) (d : Dfr) (b : RCode) (Ng : Nat) (rg : RCode) (rs : List kL) (K : AV → AHeap → Prop) (x : Exit) (e : Env) (h : AHeap) : Prop := Y8 P N d b Ng rg rs K x e h
section
variable (P : Program) (N Ng : Nat) (rg b : RCode) (rs : List kL) (K : AV → AHeap → Prop) (dvs : List AV) (e : Env) (h g : AHeap)
theorem LM : aBA .go rs e K .normal g = uO .go (hY e g rs) (fun v => K v g) := rfl
theorem XI [GI] : aDG .go P Ng rg rs K dvs .ret e h = wT .go P Ng rg (fun x _ g t => aBA t rs e K x g) (oJ 0 dvs) h := rfl
theorem XH [GI] (d : Dfr) : Y7 .go P N d b Ng rg rs K .ret e h = uO .go (hY e h rs) (fun v => K v h) := rfl
theorem OH [GI] (pre : List ROper) (f : FuncId) (args : List aV) (dst : Option Nat) : Y7 .go P N ⟨pre, f, args, dst⟩ b Ng rg rs K .normal e h = yY .go P pre (fun e g t => wT t P N b (fun x e' h' t => aDG t P Ng rg rs K (args.map (ev e)) x e' h') (e.put dst (.tuple [])) g) e h := rfl
end
abbrev W7 [GI] (P : Program) (f : FuncId) (N : Nat) (s : RCode × Dfr × RCode) (Ng : Nat) (rg : RCode) (rs : List kL) : Prop := ∀ {args : List AV} {h : AHeap} {K : AV → AHeap → Prop}, args.length ≤ N → wT .go P N s.1 (fun x e h t => Y7 t P N s.2.1 s.2.2 Ng rg rs (eE K) x e h) (oJ 0 args) h → aD P f args h K
abbrev aFs (P : Program) (N : Nat) (B F : List Nat) (fn : Func) := {s : RCode × Dfr × RCode // fn.body.bind (qS P N B F) = some s}
theorem aC3 [GI] {P : Program} {B F B' F' : List Nat} {f : FuncId} {fn gn : Func} {s : RCode × Dfr × RCode} {rg : RCode} {rs : List kL} (N Ng : Nat) (hf : P.funcs[f]? = some fn) (hN : fn.ntmps = N) (hc : fn.body.bind (qS P N B F) = some s) (hr : tW P fn.results.toList = some rs)
  (hg : P.funcs[s.2.1.f]? = some gn) (hNg : gn.ntmps = Ng) (hcg : gn.body.bind (fF P Ng B' F') = some rg) (hrg : gn.results = #[]) (hna : s.2.1.args.length ≤ Ng) : W7 P f N s Ng rg rs :=
 fun hn k => aD.aBU (ZO N Ng hf hN hc hr hg hNg hcg hrg hna hn k)
end Pg
