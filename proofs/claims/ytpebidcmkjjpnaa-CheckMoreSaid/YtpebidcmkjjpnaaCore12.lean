/- The core, twelfth part: a function's body gives its calls. -/
import Derived.Test.YtpebidcmkjjpnaaCore11
namespace Pg
open Go
set_option linter.unusedSimpArgs false
set_option linter.unusedVariables false

inductive RRes where
  | tmp (t : Nat)
  | cell (a : Nat) (n : Option Nat)
  deriving Inhabited
def rres (P : Program) : ResultVar → Option RRes
  | .tmp t => some (.tmp t)
  | .cell a t => match P.underlying t with
    | some (.struct _) | some (.array _ _) => (P.info? t).map fun i => .cell a (some i.size)
    | some _ => some (.cell a none)
    | none => none
def rress (P : Program) : List ResultVar → Option (List RRes)
  | [] => some []
  | x :: r => match rres P x, rress P r with | some a, some l => some (a :: l) | _, _ => none
def evRes (e : Env) (h : AHeap) : RRes → Option AV
  | .tmp t => some (e.get t)
  | .cell a n => aload h n (e.get a)
def evRess (e : Env) (h : AHeap) : List RRes → Option (List AV)
  | [] => some []
  | x :: r => match evRes e h x, evRess e h r with | some a, some l => some (a :: l) | _, _ => none
def okRes (o : Option (List AV)) (K : AV → Prop) : Prop := match o with | some [v] => K v | some vs => K (.tuple vs) | none => False
theorem okRes_one (v : AV) (K : AV → Prop) : okRes (some [v]) K = K v := rfl
theorem okRes_none (K : AV → Prop) : okRes (some []) K = K (.tuple []) := rfl
theorem okRes_two (u v : AV) (r : List AV) (K : AV → Prop) : okRes (some (u :: v :: r)) K = K (.tuple (u :: v :: r)) := rfl

/-- Where a body ends. -/
def atEnd (rs : List RRes) (K : AV → AHeap → Prop) : Exit → Env → AHeap → Prop
  | .normal, e, h | .ret, e, h => okRes (evRess e h rs) fun v => K v h
  | _, _, _ => False
theorem atEnd_normal (rs : List RRes) (K : AV → AHeap → Prop) (e : Env) (h : AHeap) : atEnd rs K .normal e h = okRes (evRess e h rs) fun v => K v h := rfl
theorem atEnd_ret (rs : List RRes) (K : AV → AHeap → Prop) (e : Env) (h : AHeap) : atEnd rs K .ret e h = okRes (evRess e h rs) fun v => K v h := rfl

def envOf (i : Nat) : List AV → Env
  | [] => []
  | a :: r => (i, a) :: envOf (i + 1) r

theorem envOf_get (args : List AV) : ∀ (i t : Nat), (envOf i args).get t = if i ≤ t then (args[t - i]?).getD .any else .any := by
  induction args with
  | nil => intro i t; simp [envOf, Env.get]
  | cons a r ih =>
    intro i t
    simp only [envOf, Env.get]
    by_cases h : i = t
    · subst h; simp
    · rw [if_neg h, ih]
      by_cases h2 : i + 1 ≤ t
      · rw [if_pos h2, if_pos (by omega)]
        rw [show t - i = (t - (i + 1)) + 1 by omega, List.getElem?_cons_succ]
      · rw [if_neg h2]
        rw [if_neg (by omega)]

/-- What 'results' does with one variable. -/
def resOne (tmps : Array Value) : ResultVar → Sem Value
  | .tmp t => pure (tmps.getD t undef)
  | .cell a t => do loadVar t (← asAddr (tmps.getD a undef))

theorem evRes_run {P : Program} {I : Imm} {N : Nat} {e : Env} {h : AHeap} {w : World} {tmps : Array Value} (s : EnvSat I N e tmps) (t : Sat w I h) {x : ResultVar} {r : RRes} {v : AV} (hr : rres P x = some r) (hv : evRes e h r = some v) :
    ∃ u, (resOne tmps x).run P w = .ok u w ∧ Rd I v u := by
  cases x with
  | tmp k =>
    simp only [rres, Option.some.injEq] at hr; subst hr
    simp only [evRes, Option.some.injEq] at hv; subst hv
    exact ⟨_, rfl, s.at_ k⟩
  | cell a ty =>
    have key : ∀ n : Option Nat, r = .cell a n → (∀ (b o' : Nat), (match n with
        | some m => ∀ vs : List Value, vs.length = m → (∀ (j : Nat) (u : Value), vs[j]? = some u → w.cell? ⟨b, o' + j, none⟩ = some u) → (loadVar ty ⟨b, o', none⟩).run P w = .ok (.agg vs.toArray) w
        | none => ∀ u, w.cell? ⟨b, o', none⟩ = some u → (loadVar ty ⟨b, o', none⟩).run P w = .ok u w)) →
        ∃ u, (do loadVar ty (← asAddr (tmps.getD a undef)) : Sem Value).run P w = .ok u w ∧ Rd I v u := by
      intro n hn H
      subst hn
      simp only [evRes] at hv
      obtain ⟨b, o', hp, hc⟩ := aload_cells t (s.at_ a) hv
      have H' := H b o'
      cases n with
      | some m =>
        simp only at hc H'
        obtain ⟨vs, h1, h2, h3⟩ := hc
        exact ⟨_, by simp only [Sem.run_bind, hp, asAddr, Sem.run_pure, Result.andThen_ok]; exact H' vs h1 h2, h3⟩
      | none =>
        simp only at hc H'
        obtain ⟨u, h1, h2⟩ := hc
        exact ⟨_, by simp only [Sem.run_bind, hp, asAddr, Sem.run_pure, Result.andThen_ok]; exact H' u h1, h2⟩
    simp only [rres] at hr
    split at hr
    · rename_i fs hu
      simp only [Option.map_eq_some_iff] at hr
      obtain ⟨i, hi, rfl⟩ := hr
      exact key _ rfl fun b o' vs h1 h2 => run_loadVar_agg hu rfl hi w b o' vs h1 h2
    · rename_i n el hu
      simp only [Option.map_eq_some_iff] at hr
      obtain ⟨i, hi, rfl⟩ := hr
      exact key _ rfl fun b o' vs h1 h2 => run_loadVar_agg hu rfl hi w b o' vs h1 h2
    · rename_i d hd1 hd2 hu
      simp only [Option.some.injEq] at hr
      subst hr
      exact key none rfl fun b o' u h1 => run_loadVar_one hu (by cases d <;> simp_all [aggD]) w b o' u h1
    · cases hr

theorem evRess_run {P : Program} {I : Imm} {N : Nat} {e : Env} {h : AHeap} {w : World} {tmps : Array Value} (s : EnvSat I N e tmps) (t : Sat w I h) : ∀ {xs : List ResultVar} {rs : List RRes} {vs : List AV}, rress P xs = some rs → evRess e h rs = some vs →
    ∃ us : List Value, (xs.mapM (resOne tmps)).run P w = .ok us w ∧ Rds I vs us
  | [], rs, vs, hr, hv => by
    simp only [rress, Option.some.injEq] at hr; subst hr
    simp only [evRess, Option.some.injEq] at hv; subst hv
    exact ⟨[], rfl, .nil I⟩
  | x :: r, rs, vs, hr, hv => by
    simp only [rress] at hr
    split at hr
    · rename_i a l h1 h2
      simp only [Option.some.injEq] at hr; subst hr
      simp only [evRess] at hv
      split at hv
      · rename_i v l' h3 h4
        simp only [Option.some.injEq] at hv; subst hv
        obtain ⟨u, q1, q2⟩ := evRes_run (P := P) s t h1 h3
        obtain ⟨us, q3, q4⟩ := evRess_run s t h2 h4
        refine ⟨u :: us, ?_, .cons q2 q4⟩
        rw [List.mapM_cons]
        simp only [Sem.run_bind, q1, q3, Result.andThen_ok, Sem.run_pure]
      · cases hv
    · cases hr

/-- The calls of a function, from its body. -/
theorem acalls_body {P : Program} {B F : List Nat} {f : FuncId} {fn : Func} {code : Code} {rc : RCode} {rs : List RRes} (hf : P.funcs[f]? = some fn) (hb : fn.body = some code) (N : Nat) (hN : fn.ntmps = N) (hc : rcode P N B F code = some rc) (hr : rress P fn.results.toList = some rs)
    {args : List AV} {h : AHeap} {K : AV → AHeap → Prop} (hn : args.length ≤ N) (k : W P N rc (atEnd rs K) (envOf 0 args) h) : ACalls P f args h K := by
  subst hN
  intro I w vs ra t
  have henv : EnvSat I fn.ntmps (envOf 0 args) (vs.toArray ++ Array.replicate (fn.ntmps - vs.toArray.size) undef) := by
    have hl := ra.len
    refine ⟨by simp; omega, ?_⟩
    intro u
    rw [envOf_get]
    simp only [Nat.zero_le, if_true, Nat.sub_zero, Array.getD_eq_getD_getElem?]
    cases hu : args[u]? with
    | none => exact .any _
    | some a =>
      obtain ⟨v, hv, rd⟩ := ra.get hu
      have hlt : u < vs.length := by
        rcases Nat.lt_or_ge u vs.length with h' | h'
        · exact h'
        · rw [List.getElem?_eq_none h'] at hv; cases hv
      rw [Array.getElem?_append_left (by simpa using hlt)]
      simp only [List.getElem?_toArray, hv, Option.getD_some]
      exact rd
  refine calls_of_wp hf hb (wp_mono (T_of_W rc _ _ h k B F code hc I w ⟨_, []⟩ henv t rfl) ?_)
  intro x a' w' hpost
  obtain ⟨J, e', g, kk, s', t', ext, n, d'⟩ := hpost
  have fin : okRes (evRess e' g rs) (fun v => K v g) → ∃ v, (results fn a'.tmps).run P w' = .ok v w' ∧ ∃ J' r g', K r g' ∧ Rd J' r v ∧ Sat w' J' g' ∧ Ext h w w' ∧ New w I J' h g' := by
    intro ko
    cases he : evRess e' g rs with
    | none => simp [he, okRes] at ko
    | some ws =>
      obtain ⟨us, q1, q2⟩ := evRess_run (P := P) s' t' hr he
      have hres : (results fn a'.tmps).run P w' = .ok (if h : us.toArray.size = 1 then us.toArray[0] else .tuple us.toArray) w' := by
        have hdef : results fn a'.tmps = (do
            let vs ← fn.results.mapM (resOne a'.tmps)
            pure (if h : vs.size = 1 then vs[0] else .tuple vs)) := by
          unfold results
          congr 1
          try (congr 1; funext x; cases x <;> rfl)
        rw [hdef, ← Array.toArray_toList (xs := fn.results), List.mapM_toArray]
        simp only [Sem.run_bind, Sem.run_map, q1, Result.andThen_ok, Sem.run_pure]
      rw [he] at ko
      match ws, q2 with
      | [], q2 =>
        have := q2.of_nil; subst this
        exact ⟨_, hres, J, _, g, ko, .of_tuple (.nil J), t', ext, n⟩
      | [x1], q2 =>
        obtain ⟨u, us', rfl, r1, r2⟩ := q2.uncons
        have := r2.of_nil; subst this
        exact ⟨_, hres, J, _, g, ko, r1, t', ext, n⟩
      | x1 :: x2 :: r, q2 =>
        obtain ⟨u, us', rfl, r1, r2⟩ := q2.uncons
        obtain ⟨u2, us2, rfl, r3, r4⟩ := r2.uncons
        refine ⟨_, hres, J, _, g, ko, ?_, t', ext, n⟩
        simp only [List.size_toArray, List.length_cons]
        rw [dif_neg (by omega)]
        exact .of_tuple q2
  cases x with
  | normal =>
    obtain ⟨v, h1, h2⟩ := fin kk
    exact ⟨d', v, h1, v, rfl, h2⟩
  | ret =>
    obtain ⟨v, h1, h2⟩ := fin kk
    exact ⟨d', v, h1, v, rfl, h2⟩
  | exit i => exact kk.elim
  | goto l => exact kk.elim
  | panic c => exact kk.elim
  | outgrown => exact kk.elim

/-- The same, as the printed texts offer it. -/
theorem acalls_of {P : Program} {B F : List Nat} {f : FuncId} {fn : Func} {rc : RCode} {rs : List RRes} (N : Nat) (hf : P.funcs[f]? = some fn) (hN : fn.ntmps = N) (hc : fn.body.bind (rcode P N B F) = some rc) (hr : rress P fn.results.toList = some rs)
    {args : List AV} {h : AHeap} {K : AV → AHeap → Prop} (hn : args.length ≤ N) (k : W P N rc (atEnd rs K) (envOf 0 args) h) : ACalls P f args h K := by
  cases hb : fn.body with
  | none => rw [hb] at hc; cases hc
  | some code => rw [hb] at hc; exact acalls_body hf hb N hN hc hr hn k

end Pg
