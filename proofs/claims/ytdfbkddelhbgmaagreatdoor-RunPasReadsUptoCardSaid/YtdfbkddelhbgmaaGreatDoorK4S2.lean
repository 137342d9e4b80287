import Derived.Test.YtdfbkddelhbgmaaGreatDoorCore11S2
import Derived.Laws.BitsLemmas
import Derived.Handed
import Derived.JoinedCond
import Derived.ChangeSame
import Derived.Carry
import Derived.DataReads
import Derived.ChangeArms
import Derived.RowKit
import Derived.Attr
set_option linter.all false
namespace Pg
open Go
inductive RRes where
 | tmp (t : Nat)
 | cell (a : Nat) (n : Option Nat)
 deriving Inhabited
def rres (P : Program) : ResultVar → Option RRes
 | .tmp t => some (.tmp t)
 | .cell a t => match P.underlying t with
  | some (.struct _) | some (.array _ _) => (P.info? t).map fun i => .cell a (some i.size)
  | some _ => some (.cell a none)
  | none => none
def rress (P : Program) : List ResultVar → Option (List RRes)
 | [] => some []
 | x :: r => match rres P x, rress P r with | some a, some l => some (a :: l) | _, _ => none
def evRes (e : Env) (h : AHeap) : RRes → Option AV
 | .tmp t => some (e.get t)
 | .cell a n => aload h n (e.get a)
def evRess (e : Env) (h : AHeap) : List RRes → Option (List AV)
 | [] => some []
 | x :: r => match evRes e h x, evRess e h r with | some a, some l => some (a :: l) | _, _ => none
def okRes (o : Option (List AV)) (K : AV → Prop) : Prop := match o with | some [v] => K v | some vs => K (.tuple vs) | none => False
def atEnd (rs : List RRes) (K : AV → AHeap → Prop) : Exit → Env → AHeap → Prop
 | .normal, e, h | .ret, e, h => okRes (evRess e h rs) fun v => K v h
 | _, _, _ => False
def envOf (i : Nat) : List AV → Env
 | [] => []
 | a :: r => (i, a) :: envOf (i + 1) r
theorem envOf_get (args : List AV) : ∀ (i t : Nat), (envOf i args).get t = if i ≤ t then (args[t - i]?).getD .any else .any := by
 induction args with
 | nil => intro i t; simp [envOf, Env.get]
 | cons a r ih =>
  intro i t
  simp only [envOf, Env.get]
  by_cases h : i = t
  ·subst h; simp
  ·rw [if_neg h, ih]
   by_cases h2 : i + 1 ≤ t
   ·rw [if_pos h2, if_pos (by omega)]
    rw [show t - i = (t - (i + 1)) + 1 by omega, List.getElem?_cons_succ]
   ·rw [if_neg h2]
    rw [if_neg (by omega)]
def resOne (tmps : Array Value) : ResultVar → Sem Value
 | .tmp t => pure (tmps.getD t undef)
 | .cell a t => do loadVar t (← asAddr (tmps.getD a undef))
theorem evRes_run [GI] {P : Program} {I : Imm} {N : Nat} {e : Env} {h : AHeap} {w : World} {tmps : Array Value} (s : EnvSat I N e tmps) (t : Sat w I h) {x : ResultVar} {r : RRes} {v : AV} (hr : rres P x = some r) (hv : evRes e h r = some v) :
  ∃ u, (resOne tmps x).run P w = .ok u w ∧ Rd I v u := by
 cases x with
 | tmp k =>
  simp only [rres, Option.some.injEq] at hr; subst hr
  simp only [evRes, Option.some.injEq] at hv; subst hv
  exact ⟨_, rfl, s.at_ k⟩
 | cell a ty =>
  have key : ∀ n : Option Nat, r = .cell a n → (∀ (b o' : Nat), (match n with
    | some m => ∀ vs : List Value, vs.length = m → (∀ (j : Nat) (u : Value), vs[j]? = some u → w.cell? ⟨b, o' + j, none⟩ = some u) → (loadVar ty ⟨b, o', none⟩).run P w = .ok (.agg vs.toArray) w
    | none => ∀ u, w.cell? ⟨b, o', none⟩ = some u → (loadVar ty ⟨b, o', none⟩).run P w = .ok u w)) →
    ∃ u, (do loadVar ty (← asAddr (tmps.getD a undef)) : Sem Value).run P w = .ok u w ∧ Rd I v u := by
   intro n hn H
   subst hn
   simp only [evRes] at hv
   obtain ⟨b, o', hp, hc⟩ := aload_cells t (s.at_ a) hv
   have H' := H b o'
   cases n with
   | some m =>
    simp only at hc H'
    obtain ⟨vs, h1, h2, h3⟩ := hc
    exact ⟨_, by simp only [Sem.run_bind, hp, asAddr, Sem.run_pure, Result.andThen_ok]; exact H' vs h1 h2, h3⟩
   | none =>
    simp only at hc H'
    obtain ⟨u, h1, h2⟩ := hc
    exact ⟨_, by simp only [Sem.run_bind, hp, asAddr, Sem.run_pure, Result.andThen_ok]; exact H' u h1, h2⟩
  simp only [rres] at hr
  split at hr
  ·rename_i fs hu
   simp only [Option.map_eq_some_iff] at hr
   obtain ⟨i, hi, rfl⟩ := hr
   exact key _ rfl fun b o' vs h1 h2 => run_loadVar_agg hu rfl hi w b o' vs h1 h2
  ·rename_i n el hu
   simp only [Option.map_eq_some_iff] at hr
   obtain ⟨i, hi, rfl⟩ := hr
   exact key _ rfl fun b o' vs h1 h2 => run_loadVar_agg hu rfl hi w b o' vs h1 h2
  ·rename_i d hd1 hd2 hu
   simp only [Option.some.injEq] at hr
   subst hr
   exact key none rfl fun b o' u h1 => run_loadVar_one hu (by cases d <;> simp_all [aggD]) w b o' u h1
  ·cases hr
theorem evRess_run [GI] {P : Program} {I : Imm} {N : Nat} {e : Env} {h : AHeap} {w : World} {tmps : Array Value} (s : EnvSat I N e tmps) (t : Sat w I h) : ∀ {xs : List ResultVar} {rs : List RRes} {vs : List AV}, rress P xs = some rs → evRess e h rs = some vs →
  ∃ us : List Value, (xs.mapM (resOne tmps)).run P w = .ok us w ∧ Rds I vs us
 | [], rs, vs, hr, hv => by
  simp only [rress, Option.some.injEq] at hr; subst hr
  simp only [evRess, Option.some.injEq] at hv; subst hv
  exact ⟨[], rfl, .nil I⟩
 | x :: r, rs, vs, hr, hv => by
  simp only [rress] at hr
  split at hr
  ·rename_i a l h1 h2
   simp only [Option.some.injEq] at hr; subst hr
   simp only [evRess] at hv
   split at hv
   ·rename_i v l' h3 h4
    simp only [Option.some.injEq] at hv; subst hv
    obtain ⟨u, q1, q2⟩ := evRes_run (P := P) s t h1 h3
    obtain ⟨us, q3, q4⟩ := evRess_run s t h2 h4
    refine ⟨u :: us, ?_, .cons q2 q4⟩
    rw [List.mapM_cons]
    simp only [Sem.run_bind, q1, q3, Result.andThen_ok, Sem.run_pure]
   ·cases hv
  ·cases hr
theorem acalls_body [GI] {P : Program} {B F : List Nat} {f : FuncId} {fn : Func} {code : Code} {rc : RCode} {rs : List RRes} (hf : P.funcs[f]? = some fn) (hb : fn.body = some code) (N : Nat) (hN : fn.ntmps = N) (hc : rcode P N B F code = some rc) (hr : rress P fn.results.toList = some rs)
  {args : List AV} {h : AHeap} {K : AV → AHeap → Prop} (hn : args.length ≤ N) (k : W P N rc (atEnd rs K) (envOf 0 args) h) : ACalls P f args h K := by
 subst hN
 intro I w vs ra t
 have henv : EnvSat I fn.ntmps (envOf 0 args) (vs.toArray ++ Array.replicate (fn.ntmps - vs.toArray.size) undef) := by
  have hl := ra.len
  refine ⟨by simp; omega, ?_⟩
  intro u
  rw [envOf_get]
  simp only [Nat.zero_le, if_true, Nat.sub_zero, Array.getD_eq_getD_getElem?]
  cases hu : args[u]? with
  | none => exact .any _
  | some a =>
   obtain ⟨v, hv, rd⟩ := ra.get hu
   have hlt : u < vs.length := by
    rcases Nat.lt_or_ge u vs.length with h' | h'
    ·exact h'
    ·rw [List.getElem?_eq_none h'] at hv; cases hv
   rw [Array.getElem?_append_left (by simpa using hlt)]
   simp only [List.getElem?_toArray, hv, Option.getD_some]
   exact rd
 refine calls_of_wp hf hb (wp_mono (T_of_W rc _ _ h k _ B F code hc I w ⟨_, []⟩ henv t rfl) ?_)
 intro x a' w' hpost
 obtain ⟨J, e', g, kk, s', t', ext, n, d'⟩ := hpost
 have fin : okRes (evRess e' g rs) (fun v => K v g) → ∃ v, (results fn a'.tmps).run P w' = .ok v w' ∧ ∃ J' r g', K r g' ∧ Rd J' r v ∧ Sat w' J' g' ∧ Ext h w w' ∧ New w I J' h g' := by
  intro ko
  cases he : evRess e' g rs with
  | none => simp [he, okRes] at ko
  | some ws =>
   obtain ⟨us, q1, q2⟩ := evRess_run (P := P) s' t' hr he
   have hres : (results fn a'.tmps).run P w' = .ok (if h : us.toArray.size = 1 then us.toArray[0] else .tuple us.toArray) w' := by
    have hdef : results fn a'.tmps = (do
      let vs ← fn.results.mapM (resOne a'.tmps)
      pure (if h : vs.size = 1 then vs[0] else .tuple vs)) := by
     unfold results
     congr 1
     try (congr 1; funext x; cases x <;> rfl)
    rw [hdef, ← Array.toArray_toList (xs := fn.results), List.mapM_toArray]
    simp only [Sem.run_bind, Sem.run_map, q1, Result.andThen_ok, Sem.run_pure]
   rw [he] at ko
   match ws, q2 with
   | [], q2 =>
    have := q2.of_nil; subst this
    exact ⟨_, hres, J, _, g, ko, .of_tuple (.nil J), t', ext, n⟩
   | [x1], q2 =>
    obtain ⟨u, us', rfl, r1, r2⟩ := q2.uncons
    have := r2.of_nil; subst this
    exact ⟨_, hres, J, _, g, ko, r1, t', ext, n⟩
   | x1 :: x2 :: r, q2 =>
    obtain ⟨u, us', rfl, r1, r2⟩ := q2.uncons
    obtain ⟨u2, us2, rfl, r3, r4⟩ := r2.uncons
    refine ⟨_, hres, J, _, g, ko, ?_, t', ext, n⟩
    simp only [List.size_toArray, List.length_cons]
    rw [dif_neg (by omega)]
    exact .of_tuple q2
 cases x with
 | normal =>
  obtain ⟨v, h1, h2⟩ := fin kk
  exact ⟨d', v, h1, v, rfl, h2⟩
 | ret =>
  obtain ⟨v, h1, h2⟩ := fin kk
  exact ⟨d', v, h1, v, rfl, h2⟩
 | exit i => exact kk.elim
 | goto l => exact kk.elim
 | panic c => exact kk.elim
 | outgrown => exact kk.elim
theorem acalls_of [GI] {P : Program} {B F : List Nat} {f : FuncId} {fn : Func} {rc : RCode} {rs : List RRes} (N : Nat) (hf : P.funcs[f]? = some fn) (hN : fn.ntmps = N) (hc : fn.body.bind (rcode P N B F) = some rc) (hr : rress P fn.results.toList = some rs)
  {args : List AV} {h : AHeap} {K : AV → AHeap → Prop} (hn : args.length ≤ N) (k : W P N rc (atEnd rs K) (envOf 0 args) h) : ACalls P f args h K := by
 cases hb : fn.body with
 | none => rw [hb] at hc; cases hc
 | some code => rw [hb] at hc; exact acalls_body hf hb N hN hc hr hn k
end Pg
namespace Pg
open Go
inductive Tok where
 | go
def okReadT (t : Tok) (o : Option AV) (K : AV → Tok → Prop) : Prop := okRead o fun v => K v .go
def okOrT (t : Tok) (o : Option AHeap) (K : AHeap → Tok → Prop) : Prop := okOr o fun v => K v .go
def okCellsT (t : Tok) (o : Option (List AV)) (K : List AV → Tok → Prop) : Prop := okCells o fun v => K v .go
def okElemsT (t : Tok) (o : Option (Nat × List AV)) (K : Nat → List AV → Tok → Prop) : Prop := okElems o fun m v => K m v .go
def afreshT (t : Tok) (h : AHeap) (K : Nat → Tok → Prop) : Prop := afresh h fun b => K b .go
def agateT (t : Tok) (x : AV) (w : Bool) (A B : Tok → Prop) : Prop := agate x w (fun _ => A .go) (fun _ => B .go)
def guardT (t : Tok) (x : AV) (w : Bool) (A B : Tok → Prop) : Prop := aguard x w (fun _ => A .go) (fun _ => B .go)
def callT [GI] (t : Tok) (P : Program) (f : FuncId) (args : List AV) (h : AHeap) (K : AV → AHeap → Tok → Prop) : Prop := ACalls P f args h fun v g => K v g .go
def appendT (t : Tok) (h : AHeap) (ty : TypeId) (size bytes : Nat) (s : AV) (m : Nat) (xs : List AV) (K : AV → AHeap → Tok → Prop) : Prop := aappend h ty size bytes s m xs fun v g => K v g .go
def aeffT [GI] (t : Tok) (P : Program) (va : ROpd → AV) (h : AHeap) (K : AV → AHeap → Tok → Prop) (r : REff) : Prop := aeff P va h (fun v g => K v g .go) r
def aopT [GI] (t : Tok) (P : Program) (K : AV → AHeap → Tok → Prop) (e : Env) (h : AHeap) (r : ROp) : Prop := aop P (fun v g => K v g .go) e h r
def aopsT [GI] (t : Tok) (P : Program) (l : List ROper) (K : Env → AHeap → Tok → Prop) (e : Env) (h : AHeap) : Prop := aops P l (fun e h => K e h .go) e h
def dopT [GI] (t : Tok) (P : Program) (o : ROper) (H : Held) (K : AV → AHeap → Held → Tok → Prop) (e : Env) (h : AHeap) (r : ROp) : Prop := dop P o H (fun v g H => K v g H .go) e h r
def dopsT [GI] (t : Tok) (P : Program) (l : List ROper) (H : Held) (K : Env → AHeap → Tok → Prop) (e : Env) (h : AHeap) : Prop := dops P l H (fun e h => K e h .go) e h
def wT [GI] (t : Tok) (P : Program) (N : Nat) (c : RCode) (Q : Exit → Env → AHeap → Tok → Prop) (e : Env) (h : AHeap) : Prop := W P N c (fun x e h => Q x e h .go) e h
def lT [GI] (t : Tok) (P : Program) (N : Nat) (c : RCode) (Q : Exit → Env → AHeap → Tok → Prop) (e : Env) (h : AHeap) : Prop := L P N c (fun x e h => Q x e h .go) e h
def onNormalT (t : Tok) (K : Env → AHeap → Tok → Prop) (Q : Exit → Env → AHeap → Tok → Prop) (x : Exit) (e : Env) (h : AHeap) : Prop := onNormal (fun e h => K e h .go) (fun x e h => Q x e h .go) x e h
def onExitT (t : Tok) (i : Nat) (Q : Exit → Env → AHeap → Tok → Prop) (x : Exit) (e : Env) (h : AHeap) : Prop := onExit i (fun x e h => Q x e h .go) x e h
def noGotoT (t : Tok) (Q : Exit → Env → AHeap → Tok → Prop) (x : Exit) (e : Env) (h : AHeap) : Prop := noGoto (fun x e h => Q x e h .go) x e h
def okResT (t : Tok) (o : Option (List AV)) (K : AV → Prop) : Prop := okRes o K
def atEndT (t : Tok) (rs : List RRes) (K : AV → AHeap → Prop) (x : Exit) (e : Env) (h : AHeap) : Prop := atEnd rs K x e h
def taints (os : List ROper) (T : List Nat) : List Nat := os.foldl (fun T o => taintS o T) T
def killsT : List ROper → List Nat → Bool
 | [], _ => false
 | o :: os, T => kills o T || killsT os (taintS o T)
def hangsT (os : List ROper) (o : ROper) (T : List Nat) : Bool := killsT os T || hangs o (taints os T)
def heldT (t : Tok) (os : List ROper) (o : ROper) (H : Held) (g : AHeap) : Prop := ∀ e ∈ H, e.2 g ∨ hangsT os o e.1 = true
def okFrzT (t : Tok) (ds : List Nat) (K : Env → AHeap → Tok → Prop) (e : Env) (h : AHeap) : Prop := okFrz ds (fun e h => K e h .go) e h
def frz2T (t : Tok) (o : Option AObj) (b d : Nat) (ds : List Nat) (K : Env → AHeap → Tok → Prop) (e : Env) (h : AHeap) : Prop := match o with
 | some (.blk cs _ _) => okFrzT t ds K (e.put (some d) (.ip cs 0)) (h.del b)
 | _ => False
def frz1T (t : Tok) (x : AV) (d : Nat) (ds : List Nat) (K : Env → AHeap → Tok → Prop) (e : Env) (h : AHeap) : Prop := match x with
 | .ptr (some ⟨b, 0, none⟩) => frz2T t (h b) b d ds K e h
 | _ => False
section
variable (P : Program) (N : Nat) (e : Env) (h g : AHeap)
theorem t_read (v : AV) (K : AV → Tok → Prop) : okReadT .go (some v) K = K v .go := rfl
theorem t_or (v : AHeap) (K : AHeap → Tok → Prop) : okOrT .go (some v) K = K v .go := rfl
theorem t_cells (v : List AV) (K : List AV → Tok → Prop) : okCellsT .go (some v) K = K v .go := rfl
theorem t_elems (m : Nat) (v : List AV) (K : Nat → List AV → Tok → Prop) : okElemsT .go (some (m, v)) K = K m v .go := rfl
theorem t_guard_bool (b w : Bool) (A B : Tok → Prop) : guardT .go (.bool b) w A B = agateT .go (.bool b) w A B := rfl
theorem t_guard_undef (w : Bool) (A B : Tok → Prop) : guardT .go (.tuple []) w A B = B .go := rfl
theorem t_gate_tt (A B : Tok → Prop) : agateT .go (.bool true) true A B = A .go := rfl
theorem t_gate_ff (A B : Tok → Prop) : agateT .go (.bool false) false A B = A .go := rfl
theorem t_gate_tf (A B : Tok → Prop) : agateT .go (.bool true) false A B = B .go := rfl
theorem t_gate_ft (A B : Tok → Prop) : agateT .go (.bool false) true A B = B .go := rfl
theorem t_gate_not (b w : Bool) (A B : Tok → Prop) : agateT .go (.bool (!b)) w A B = agateT .go (.bool b) (!w) A B := by cases b <;> cases w <;> rfl
theorem t_store [GI] (va : ROpd → AV) (K : AV → AHeap → Tok → Prop) (s : Nat) (x v : ROpd) : aeffT .go P va h K (.store s x v) = okOrT .go (astore h s (va x) (va v)) (K .any) := rfl
theorem t_box [GI] (va : ROpd → AV) (K : AV → AHeap → Tok → Prop) (ty : TypeId) (x : ROpd) : aeffT .go P va h K (.box ty x) = okCellsT .go (va x).cells? (fun ds t => afreshT t h fun b t => K (.ptr (some ⟨b, 0, none⟩)) (h.upd b (.blk ds ds.length ty)) t) := rfl
theorem t_alloc [GI] (va : ROpd → AV) (K : AV → AHeap → Tok → Prop) (ty : TypeId) (z : List AV) : aeffT .go P va h K (.alloc ty z) = afreshT .go h fun b t => K (.ptr (some ⟨b, 0, none⟩)) (h.upd b (.blk z z.length ty)) t := rfl
theorem t_mkmap [GI] (va : ROpd → AV) (K : AV → AHeap → Tok → Prop) : aeffT .go P va h K .mkmap = afreshT .go h fun b t => K (.map (some b)) (h.upd b (.mp [])) t := rfl
theorem t_bsle [GI] (va : ROpd → AV) (K : AV → AHeap → Tok → Prop) (ty : TypeId) (s l : Nat) (z : List AV) (ps : List (Nat × Nat × ROpd)) : aeffT .go P va h K (.bsle ty s l z ps) = okCellsT .go (afill z (evParts va ps)) (fun cs t => afreshT t h fun b t => K (.os b l l) (h.upd b (.blk cs cs.length ty)) t) := rfl
theorem t_append [GI] (va : ROpd → AV) (K : AV → AHeap → Tok → Prop) (ty : TypeId) (s b : Nat) (x y : ROpd) : aeffT .go P va h K (.append ty s b x y) = okElemsT .go (aelems h s (va y)) (fun m xs t => elemsFit s (va y) ∧ appendT t h ty s b (va x) m xs K) := rfl
def appendzT (t : Tok) (h : AHeap) (ty : TypeId) (b : Nat) (z s n : AV) (K : AV → AHeap → Tok → Prop) : Prop := match n with
  | .int .i64 m => 0 ≤ m ∧ m ≤ 9223372036854775807 ∧ m * b ≤ 2 ^ 48 ∧ appendT t h ty 1 b s m.toNat (List.replicate m.toNat z) K
  | _ => False
theorem t_appendz [GI] (va : ROpd → AV) (K : AV → AHeap → Tok → Prop) (ty : TypeId) (b : Nat) (z : AV) (x y : ROpd) : aeffT .go P va h K (.appendz ty b z x y) = appendzT .go h ty b z (va x) (va y) K := rfl
def mkslT (t : Tok) (h : AHeap) (ty : TypeId) (b : Nat) (z l c : AV) (K : AV → AHeap → Tok → Prop) : Prop := match l, c with
  | .int .i64 l, .int .i64 c => l = c ∧ 0 ≤ l ∧ l ≤ 9223372036854775807 ∧ (b : Int) * l ≤ 2 ^ 48 ∧ afreshT t h fun b t => K (.os b l.toNat l.toNat) (h.upd b (.blk (List.replicate l.toNat z) l.toNat ty)) t
  | _, _ => False
theorem t_mksl [GI] (va : ROpd → AV) (K : AV → AHeap → Tok → Prop) (ty : TypeId) (b : Nat) (z : AV) (x y : ROpd) : aeffT .go P va h K (.mksl ty b z x y) = mkslT .go h ty b z (va x) (va y) K := rfl
theorem t_call [GI] (va : ROpd → AV) (K : AV → AHeap → Tok → Prop) (f : FuncId) (args : List ROpd) : aeffT .go P va h K (.call f args) = callT .go P f (args.map va) h K := rfl
def callvT [GI] (t : Tok) (P : Program) (f : AV) (args : List AV) (h : AHeap) (K : AV → AHeap → Tok → Prop) : Prop := match f with
  | .func (.func f) first captured => callable P f = true ∧ callT t P f (first ++ args ++ captured) h K
  | _ => False
theorem t_callv [GI] (va : ROpd → AV) (K : AV → AHeap → Tok → Prop) (f : ROpd) (args : List ROpd) : aeffT .go P va h K (.callv f args) = callvT .go P (va f) (args.map va) h K := rfl
def invT [GI] (t : Tok) (P : Program) (name : String) (x : AV) (args : List AV) (h : AHeap) (K : AV → AHeap → Tok → Prop) : Prop := match x with
 | .iface ty v => match directM P ty name with
  | some f => callable P f = true ∧ callT t P f (v :: args) h K
  | none => False
 | _ => False
theorem t_inv [GI] (va : ROpd → AV) (K : AV → AHeap → Tok → Prop) (name : String) (x : ROpd) (args : List ROpd) : aeffT .go P va h K (.inv name x args) = invT .go P name (va x) (args.map va) h K := rfl
theorem invT_of [GI] {P : Program} {name : String} {ty : TypeId} {v : AV} {args : List AV} {h : AHeap} {K : AV → AHeap → Tok → Prop} {f : FuncId} (hf : directM P ty name = some f) (hc : callable P f = true) (k : callT .go P f (v :: args) h K) : invT .go P name (.iface ty v) args h K := by
 unfold invT; simp only [hf]; exact ⟨hc, k⟩
def rngT (t : Tok) (h : AHeap) (x : AV) (K : AV → AHeap → Tok → Prop) : Prop := arng h x fun v g => K v g .go
def nxtT (t : Tok) (h : AHeap) (x : AV) (K : AV → AHeap → Tok → Prop) : Prop := anxt h x fun v g => K v g .go
theorem t_rngs [GI] (va : ROpd → AV) (K : AV → AHeap → Tok → Prop) (x : ROpd) : aeffT .go P va h K (.rngs x) = arngs h (va x) (fun v g => K v g .go) := rfl
theorem t_nxts [GI] (va : ROpd → AV) (K : AV → AHeap → Tok → Prop) (x : ROpd) : aeffT .go P va h K (.nxts x) = anxts h (va x) (fun v g => K v g .go) := rfl
theorem t_rng [GI] (va : ROpd → AV) (K : AV → AHeap → Tok → Prop) (x : ROpd) : aeffT .go P va h K (.rng x) = rngT .go h (va x) K := rfl
theorem t_nxt [GI] (va : ROpd → AV) (K : AV → AHeap → Tok → Prop) (x : ROpd) : aeffT .go P va h K (.nxt x) = nxtT .go h (va x) K := rfl
theorem t_callv_func [GI] (f : FuncId) (first captured args : List AV) (K : AV → AHeap → Tok → Prop) : callvT .go P (.func (.func f) first captured) args h K = (callable P f = true ∧ callT .go P f (first ++ args ++ captured) h K) := rfl
theorem t_op_rd [GI] (K : AV → AHeap → Tok → Prop) (r : RRead) : aopT .go P K e h (.rd r) = okReadT .go (aread (ev e) h r) (fun v t => K v h t) := rfl
theorem t_op_ef [GI] (K : AV → AHeap → Tok → Prop) (r : REff) : aopT .go P K e h (.ef r) = aeffT .go P (ev e) h K r := rfl
theorem t_ops_nil [GI] (K : Env → AHeap → Tok → Prop) : aopsT .go P [] K e h = K e h .go := rfl
theorem t_ops_plain [GI] (K : Env → AHeap → Tok → Prop) (d : Option Nat) (op : ROp) (r : List ROper) : aopsT .go P (⟨d, op, none⟩ :: r) K e h = aopT .go P (fun av g t => aopsT t P r K (e.put d av) g) e h op := rfl
theorem t_ops_guard [GI] (K : Env → AHeap → Tok → Prop) (d : Option Nat) (op : ROp) (s : Nat) (w : Bool) (r : List ROper) : aopsT .go P (⟨d, op, some (s, w)⟩ :: r) K e h = guardT .go (e.get s) w (fun t => aopT t P (fun av g t => aopsT t P r K (e.put d av) g) e h op) (fun t => aopsT t P r K (e.put d (.tuple [])) h) := rfl
theorem t_dop_rd [GI] (o : ROper) (H : Held) (K : AV → AHeap → Held → Tok → Prop) (q : RRead) : dopT .go P o H K e h (.rd q) = okReadT .go (aread (ev e) h q) (fun av t => K av h (if q.still = true then taint o H else (o.dst.toList, fun g => aread (ev e) g q = some av) :: taint o H) t) := rfl
theorem t_dop_ef [GI] (o : ROper) (H : Held) (K : AV → AHeap → Held → Tok → Prop) (q : REff) : dopT .go P o H K e h (.ef q) = aeffT .go P (ev e) h (fun av g t => (q.allocs = true ∨ heldT t [] o H g) ∧ K av g (taint o H) t) q := rfl
theorem t_dops_nil [GI] (H : Held) (K : Env → AHeap → Tok → Prop) : dopsT .go P [] H K e h = K e h .go := rfl
theorem t_dops_plain [GI] (H : Held) (K : Env → AHeap → Tok → Prop) (d : Option Nat) (op : ROp) (r : List ROper) : dopsT .go P (⟨d, op, none⟩ :: r) H K e h = dopT .go P ⟨d, op, none⟩ H (fun av g H' t => dopsT t P r H' K (e.put d av) g) e h op := rfl
theorem t_dops_guard [GI] (H : Held) (K : Env → AHeap → Tok → Prop) (d : Option Nat) (op : ROp) (s : Nat) (w : Bool) (r : List ROper) : dopsT .go P (⟨d, op, some (s, w)⟩ :: r) H K e h = guardT .go (e.get s) w (fun t => dopT t P ⟨d, op, some (s, w)⟩ H (fun av g H' t => dopsT t P r H' K (e.put d av) g) e h op) (fun t => dopsT t P r (taint ⟨d, op, some (s, w)⟩ H) K (e.put d (.tuple [])) h) := rfl
theorem t_held_nil (os : List ROper) (o : ROper) : heldT .go os o [] g = True := by simp [heldT]
theorem t_held_cons (os : List ROper) (o : ROper) (T : List Nat) (p : AHeap → Prop) (H : Held) : heldT .go os o ((T, p) :: H) g = ((p g ∨ hangsT os o T = true) ∧ heldT .go os o H g) := by simp [heldT]
theorem t_held_taint (os : List ROper) (o o' : ROper) (H : Held) : heldT .go os o (taint o' H) g = heldT .go (o' :: os) o H g := by
 apply propext
 have key : ∀ e : List Nat × (AHeap → Prop), (killed o' e.1 e.2 g ∨ hangsT os o (taintS o' e.1) = true) ↔ (e.2 g ∨ hangsT (o' :: os) o e.1 = true) := by
  intro e
  simp only [hangsT, killsT, killed, taints, List.foldl_cons]
  cases kills o' e.1 <;> simp
 unfold heldT taint
 constructor
 ·intro k e he
  exact (key e).1 (k _ (List.mem_map.2 ⟨e, he, rfl⟩))
 ·intro k x hx
  obtain ⟨e, he, rfl⟩ := List.mem_map.1 hx
  exact (key e).2 (k e he)
variable (Q : Exit → Env → AHeap → Tok → Prop)
theorem t_skip [GI] : wT .go P N .skip Q e h = Q .normal e h .go := rfl
theorem t_ret [GI] : wT .go P N .ret Q e h = Q .ret e h .go := rfl
theorem t_exit [GI] (i : Nat) : wT .go P N (.exit i) Q e h = Q (.exit i) e h .go := rfl
theorem t_reg [GI] (ops : List ROper) : wT .go P N (.reg ops) Q e h = aopsT .go P ops (fun e h t => Q .normal e h t) e h := rfl
theorem t_dreg [GI] (ops : List ROper) : wT .go P N (.dreg ops) Q e h = dopsT .go P ops [] (fun e h t => Q .normal e h t) e h := rfl
theorem t_dreg2 [GI] (a b : List ROper) : wT .go P N (.dreg2 a b) Q e h = (dopsT .go P a [] (fun e h t => Q .normal e h t) e h ∧ dopsT .go P b [] (fun e h t => Q .normal e h t) e h) := rfl
theorem t_frz [GI] (c : RCode) (ds : List Nat) : wT .go P N (.frz c ds) Q e h = wT .go P N c (fun x e h t => onNormalT t (fun e h t => okFrzT t ds (fun e h t => Q .normal e h t) e h) Q x e h) e h := rfl
theorem t_frz_nil (K : Env → AHeap → Tok → Prop) : okFrzT .go [] K e h = K e h .go := rfl
theorem t_frz_cons (d : Nat) (ds : List Nat) (K : Env → AHeap → Tok → Prop) : okFrzT .go (d :: ds) K e h = frz1T .go (e.get d) d ds K e h := rfl
theorem t_frz_ptr (b d : Nat) (ds : List Nat) (K : Env → AHeap → Tok → Prop) : frz1T .go (.ptr (some ⟨b, 0, none⟩)) d ds K e h = frz2T .go (h b) b d ds K e h := rfl
theorem t_frz_blk (cs : List AV) (n : Nat) (ty : TypeId) (b d : Nat) (ds : List Nat) (K : Env → AHeap → Tok → Prop) : frz2T .go (some (.blk cs n ty)) b d ds K e h = okFrzT .go ds K (e.put (some d) (.ip cs 0)) (h.del b) := rfl
theorem t_seq [GI] (a b : RCode) : wT .go P N (.seq a b) Q e h = wT .go P N a (fun x e h t => onNormalT t (fun e h t => wT t P N b Q e h) Q x e h) e h := rfl
theorem t_cond [GI] (c : ROpd) (a b : RCode) : wT .go P N (.cond c a b) Q e h = agateT .go (ev e c) true (fun t => wT t P N a Q e h) (fun t => wT t P N b Q e h) := rfl
theorem t_block [GI] (i : Nat) (c : RCode) : wT .go P N (.block i c) Q e h = wT .go P N c (fun x e h t => onExitT t i Q x e h) e h := rfl
theorem t_scope [GI] (c : RCode) : wT .go P N (.scope c) Q e h = wT .go P N c (fun x e h t => noGotoT t Q x e h) e h := rfl
theorem t_loop [GI] (c : RCode) : wT .go P N (.loop c) Q e h = lT .go P N c Q e h := rfl
theorem t_onNormal_normal (K : Env → AHeap → Tok → Prop) : onNormalT .go K Q .normal e h = K e h .go := rfl
theorem t_onNormal_exit (K : Env → AHeap → Tok → Prop) (i : Nat) : onNormalT .go K Q (.exit i) e h = Q (.exit i) e h .go := rfl
theorem t_onNormal_ret (K : Env → AHeap → Tok → Prop) : onNormalT .go K Q .ret e h = Q .ret e h .go := rfl
theorem t_onExit_normal (i : Nat) : onExitT .go i Q .normal e h = Q .normal e h .go := rfl
theorem t_onExit_ret (i : Nat) : onExitT .go i Q .ret e h = Q .ret e h .go := rfl
theorem t_onExit_exit (i j : Nat) : onExitT .go j Q (.exit i) e h = if i = j then Q .normal e h .go else Q (.exit i) e h .go := rfl
theorem t_noGoto_normal : noGotoT .go Q .normal e h = Q .normal e h .go := rfl
theorem t_noGoto_ret : noGotoT .go Q .ret e h = Q .ret e h .go := rfl
theorem t_noGoto_exit (i : Nat) : noGotoT .go Q (.exit i) e h = Q (.exit i) e h .go := rfl
theorem t_end_normal (rs : List RRes) (K : AV → AHeap → Prop) : atEndT .go rs K .normal e h = okResT .go (evRess e h rs) (fun v => K v h) := rfl
theorem t_end_ret (rs : List RRes) (K : AV → AHeap → Prop) : atEndT .go rs K .ret e h = okResT .go (evRess e h rs) (fun v => K v h) := rfl
theorem t_res_none (K : AV → Prop) : okResT .go (some []) K = K (.tuple []) := rfl
theorem t_res_one (v : AV) (K : AV → Prop) : okResT .go (some [v]) K = K v := rfl
theorem t_res_two (u v : AV) (r : List AV) (K : AV → Prop) : okResT .go (some (u :: v :: r)) K = K (.tuple (u :: v :: r)) := rfl
theorem t_get_some (s t : Nat) (v : AV) : Env.get (Env.put e (some s) v) t = if s = t then v else e.get t := rfl
theorem t_get_none (t : Nat) (v : AV) : Env.get (Env.put e none v) t = e.get t := rfl
theorem t_get_cons (s t : Nat) (v : AV) : Env.get ((s, v) :: e) t = if s = t then v else e.get t := rfl
theorem t_get_nil (t : Nat) : Env.get [] t = .any := rfl
theorem t_ev_t (n : Nat) : ev e (.t n) = e.get n := rfl
theorem t_ev_c (v : AV) : ev e (.c v) = v := rfl
theorem t_evs_nil : evRess e h [] = some [] := rfl
theorem t_evs_cons (x : RRes) (r : List RRes) : evRess e h (x :: r) = match evRes e h x, evRess e h r with | some a, some l => some (a :: l) | _, _ => none := rfl
theorem t_evr_tmp (t : Nat) : evRes e h (.tmp t) = some (e.get t) := rfl
theorem t_evr_cell (a : Nat) (n : Option Nat) : evRes e h (.cell a n) = aload h n (e.get a) := rfl
end
theorem agateT_split {b w : Bool} {A B : Tok → Prop} (h1 : b = w → A .go) (h2 : b = (!w) → B .go) : agateT .go (.bool b) w A B := by
 cases b <;> cases w <;> first | exact h1 rfl | exact h2 rfl
theorem lT_round [GI] {P : Program} {N : Nat} {c : RCode} {Q : Exit → Env → AHeap → Tok → Prop} {e : Env} {h : AHeap} (k : wT .go P N c (fun x e h t => onNormalT t (fun e h t => lT t P N c Q e h) Q x e h) e h) : lT .go P N c Q e h := L_round k
theorem callT_of [GI] {P : Program} {f : FuncId} {args : List AV} {h : AHeap} {K : AV → AHeap → Prop} {K' : AV → AHeap → Tok → Prop} (c : ACalls P f args h K) (m : ∀ v g, K v g → K' v g .go) : callT .go P f args h K' := c.mono m
theorem afreshT_intro {h : AHeap} {K : Nat → Tok → Prop} (k : ∀ b, h b = none → K b .go) : afreshT .go h K := k
def WeakV [GI] (vs : List AV) (h : AHeap) (vs' : List AV) (h' : AHeap) : Prop :=
 ∀ (I : Imm) (w : World) (us : List Value), Rds I vs us → Sat w I h → ∃ J, New w I J h h' ∧ Rds J vs' us ∧ Sat w J h'
theorem WeakV.refl [GI] (vs : List AV) (h : AHeap) : WeakV vs h vs h := fun I w us r s => ⟨I, .refl w I h, r, s⟩
theorem WeakV.trans [GI] {a b c : List AV} {h g k : AHeap} (x : WeakV a h b g) (y : WeakV b g c k) : WeakV a h c k := by
 intro I w us r s
 obtain ⟨J, n, r1, s1⟩ := x I w us r s
 obtain ⟨K, m, r2, s2⟩ := y J w us r1 s1
 exact ⟨K, n.trans (.refl h w) m, r2, s2⟩
theorem WeakV.forget [GI] {vs : List AV} {h h' : AHeap} (le : h'.le h) : WeakV vs h vs h' := fun I w us r s => ⟨I, (New.refl w I h).forget le, r, s.forget le⟩
theorem WeakV.less [GI] {vs vs' : List AV} {h : AHeap} (H : ∀ I us, Rds I vs us → Rds I vs' us) : WeakV vs h vs' h := fun I w us r s => ⟨I, .refl w I h, H I us r, s⟩
theorem ACalls.weak [GI] {P : Program} {f : FuncId} {args : List AV} {h : AHeap} {K : AV → AHeap → Prop} (c : ACalls P f args h fun v g => ∃ v' g', WeakV [v] g [v'] g' ∧ K v' g') : ACalls P f args h K := by
 intro I w vs r s
 refine (c I w vs r s).mono ?_
 rintro e w' ⟨v, he, J, x, g, ⟨x', g', wk, k⟩, rd, s', ex, n⟩
 obtain ⟨J', n', r', s''⟩ := wk J w' [v] (.cons rd (.nil J)) s'
 obtain ⟨v', _, e1, r1, _⟩ := r'.uncons
 cases e1
 exact ⟨v, he, J', x', g', k, r1, s'', ex, n.trans ex n'⟩
def EndW [GI] (K : AV → AHeap → Prop) (v : AV) (g : AHeap) : Prop := ∃ v' g', WeakV [v] g [v'] g' ∧ K v' g'
theorem EndW.same [GI] {K : AV → AHeap → Prop} {v : AV} {g : AHeap} (k : K v g) : EndW K v g := ⟨v, g, .refl _ _, k⟩
theorem EndW.forget [GI] {K : AV → AHeap → Prop} {v : AV} {g g' : AHeap} (le : g'.le g) (k : K v g') : EndW K v g := ⟨v, g', .forget le, k⟩
abbrev qr (d : Nat) (r : RRead) : ROper := ⟨some d, .rd r, none⟩
abbrev qg (d : Nat) (r : RRead) (s : Nat) (w : Bool) : ROper := ⟨some d, .rd r, some (s, w)⟩
abbrev qe (d : Nat) (r : REff) : ROper := ⟨some d, .ef r, none⟩
abbrev qu (r : REff) : ROper := ⟨none, .ef r, none⟩
abbrev CallsT [GI] (P : Program) (f : FuncId) (N : Nat) (rc : RCode) (rs : List RRes) : Prop := ∀ {args : List AV} {h : AHeap} {K : AV → AHeap → Prop}, args.length ≤ N → wT .go P N rc (fun x e h t => atEndT t rs (EndW K) x e h) (envOf 0 args) h → ACalls P f args h K
abbrev CodeT (P : Program) (N : Nat) (B F : List Nat) (fn : Func) := {c : RCode // fn.body.bind (rcode P N B F) = some c}
theorem acallsT [GI] {P : Program} (B F : List Nat) {f : FuncId} {fn : Func} {rc : RCode} {rs : List RRes} (N : Nat) (hf : P.funcs[f]? = some fn) (hN : fn.ntmps = N) (hc : fn.body.bind (rcode P N B F) = some rc) (hr : rress P fn.results.toList = some rs) : CallsT P f N rc rs :=
 fun hn k => ACalls.weak (acalls_of N hf hN hc hr hn k)
theorem freeze_sat [GI] {w : World} {I : Imm} {h : AHeap} (s : Sat w I h) {b total size : Nat} {ty : TypeId} {es : List (List AV)} {cs : List AV} (hb : h b = some (.blk cs total ty)) (hcs : es.flatten = cs.take (es.length * size)) (hs : ∀ e ∈ es, e.length = size) :
  ∃ J, New w I J h (h.del b) ∧ Sat w J (h.del b) ∧ ∀ cap, es.length ≤ cap → Rd J (.sl es false) (.slice (some ⟨b, 0, none⟩) es.length cap) := by
 obtain ⟨vs, g1, g2, g3, g4, g5⟩ := s.obj _ _ hb
 let J : Imm := fun c o => if c = b then (vs.take cs.length)[o]? else I c o
 have hIJ : I.le J := by
  intro c o v hv
  have := s.dis c o v hv
  simp only [J]
  rw [if_neg]
  ·exact hv
  ·intro hh; subst hh; rw [hb] at this; exact this
 have hcell : ∀ (o : Nat) (v : Value), (vs.take cs.length)[o]? = some v → w.cell? ⟨b, o, none⟩ = some v := by
  intro o v hv
  rw [List.getElem?_take] at hv
  split at hv
  ·simp only [World.cell?, g1]; simpa using hv
  ·cases hv
 have hfl := flatten_length size es hs
 have hle : es.length * size ≤ cs.length := by
  rw [hcs, List.length_take] at hfl; omega
 have hrow : Rds I es.flatten ((vs.take cs.length).take (es.length * size)) := by rw [hcs]; exact g4.take _
 have hlen : ((vs.take cs.length).take (es.length * size)).length = es.length * size := by simp; omega
 refine ⟨J, ⟨hIJ, ?_, ?_⟩, ⟨Imm.le_trans s.glob hIJ, ?_, ?_, ?_⟩, ?_⟩
 ·intro c o hc
  exact .inl (by rw [del_le h b c o hc]; simp)
 ·intro c o v hc
  simp only [J] at hc
  split at hc
  ·rename_i hcb; subst hcb; exact .inr (.inl (by rw [hb]; simp))
  ·exact .inl hc
 ·intro c o hc
  exact (s.obj c o (del_le h b c o hc)).mono hIJ rfl
 ·intro c o v hc
  simp only [J] at hc
  split at hc
  ·rename_i hcb; subst hcb; exact hcell o v hc
  ·exact s.imm c o v hc
 ·intro c o v hc
  simp only [J] at hc
  split at hc
  ·rename_i hcb; subst hcb; rw [del_same]; trivial
  ·have := s.dis c o v hc
   by_cases hcb : c = b
   ·subst hcb; rw [del_same]; trivial
   ·rw [del_ne _ _ hcb]; exact this
 ·intro cap hcap
  have R : Rows J b 0 size (chunks size es.length es.flatten) (chunks size es.length ((vs.take cs.length).take (es.length * size))) :=
   rows_of_chunks (hrow.mono hIJ) (g5.take _) hfl (fun j v hj => by
    simp only [J, if_true]
    rw [List.getElem?_take] at hj
    split at hj
    ·exact hj
    ·cases hj)
  have hch : chunks size es.length es.flatten = es := by
   clear R hrow hlen hle hfl hcs
   induction es with
   | nil => rfl
   | cons e es ih =>
    have he := hs e (by simp)
    simp only [List.length_cons, chunks, List.flatten_cons]
    rw [List.take_left' he, List.drop_left' he, ih (fun x hx => hs x (by simp [hx])) (by simpa using Nat.le_of_succ_le hcap)]
  rw [hch] at R
  exact Rd.of_rows false hcap (fun hh => by cases hh) R
end Pg
namespace Pg
open Go
theorem join_left {s l : AHeap} {b : Nat} {o : AObj} (e : s b = some o) : (s.join l) b = some o := by simp [AHeap.join, e]
theorem join_right {s l : AHeap} {b : Nat} (e : s b = none) : (s.join l) b = l b := by simp [AHeap.join, e]
theorem join_none {s l : AHeap} {b : Nat} (e : (s.join l) b = none) : s b = none ∧ l b = none := by
 unfold AHeap.join at e
 split at e
 ·cases e
 ·exact ⟨‹_›, e⟩
theorem join_upd_left (s l : AHeap) (b : Nat) (o : AObj) : (s.join l).upd b o = (s.upd b o).join l := by
 funext c; simp only [AHeap.upd, AHeap.join]; split <;> rfl
theorem join_upd_right {s : AHeap} (l : AHeap) {b : Nat} (o : AObj) (e : s b = none) : (s.join l).upd b o = s.join (l.upd b o) := by
 funext c; simp only [AHeap.upd, AHeap.join]
 by_cases hc : c = b
 ·subst hc; simp [e]
 ·simp [hc]
theorem join_del_right {s : AHeap} (l : AHeap) {b : Nat} (e : s b = none) : (s.join l).del b = s.join (l.del b) := by
 funext c; simp only [AHeap.del, AHeap.join]
 by_cases hc : c = b
 ·subst hc; simp [e]
 ·simp [hc]
theorem apart_upd_right {s l : AHeap} (a : s.apart l) {b : Nat} (o : AObj) (e : s b = none) : s.apart (l.upd b o) := by
 intro c x hc
 by_cases hb : c = b
 ·subst hb; rw [e] at hc; cases hc
 ·rw [upd_ne _ _ _ hb]; exact a c x hc
theorem apart_upd_left {s l : AHeap} (a : s.apart l) {b : Nat} (o : AObj) (e : l b = none) : (s.upd b o).apart l := by
 intro c x hc
 by_cases hb : c = b
 ·subst hb; exact e
 ·rw [upd_ne _ _ _ hb] at hc; exact a c x hc
theorem apart_del_right {s l : AHeap} (a : s.apart l) (b : Nat) : s.apart (l.del b) := by
 intro c x hc
 by_cases hb : c = b
 ·subst hb; exact del_same _ _
 ·rw [del_ne _ _ hb]; exact a c x hc
def eheap : AHeap := fun _ => none
theorem join_eheap (s : AHeap) : s.join eheap = s := by
 funext c; simp only [AHeap.join, eheap]; split
 ·rename_i o h; exact h.symm
 ·rename_i h; exact h.symm
theorem apart_eheap (s : AHeap) : s.apart eheap := fun _ _ _ => rfl
theorem upd_le {l : AHeap} {b : Nat} {o : AObj} (e : l b = none) : l.le (l.upd b o) := AHeap.le_upd e
theorem apart_at {s l : AHeap} (a : s.apart l) {p : Nat} {o : AObj} (e : l p = some o) : s p = none := by
 cases h : s p with
 | none => rfl
 | some x => have := a p x h; rw [e] at this; cases this
def OL (h : AHeap) (ty : TypeId) (size : Nat) (v : AV) (rows : List (List AV)) : Prop :=
 (v = .sl [] true ∧ rows = []) ∨ ∃ b cap cs, v = .os b rows.length cap ∧ h b = some (.blk cs (cap * size) ty) ∧ rows.length ≤ cap ∧ rows.length * size ≤ cs.length ∧ cs.take (rows.length * size) = rows.flatten ∧ ∀ e ∈ rows, e.length = size
def OLnot (v : AV) (p : Nat) : Prop := ∀ b n cap, v = .os b n cap → b ≠ p
theorem OLnot.nil (p : Nat) : OLnot (.sl [] true) p := fun _ _ _ h => by cases h
theorem OLnot.os {b n cap p : Nat} (h : b ≠ p) : OLnot (.os b n cap) p := fun _ _ _ e => by cases e; exact h
theorem OL.nil (h : AHeap) (ty : TypeId) (size : Nat) : OL h ty size (.sl [] true) [] := .inl ⟨rfl, rfl⟩
theorem OL.len {h : AHeap} {ty : TypeId} {size : Nat} {v : AV} {rows : List (List AV)} (o : OL h ty size v rows) (g : AHeap) : alen g 1 v = some (.int .i64 rows.length) := by
 rcases o with ⟨rfl, rfl⟩ | ⟨b, cap, cs, rfl, _⟩ <;> rfl
theorem OL.of_le {h g : AHeap} {ty : TypeId} {size : Nat} {v : AV} {rows : List (List AV)} (o : OL h ty size v rows) (le : h.le g) : OL g ty size v rows := by
 rcases o with h0 | ⟨b, cap, cs, h1, h2, h3⟩
 ·exact .inl h0
 ·exact .inr ⟨b, cap, cs, h1, le _ _ h2, h3⟩
theorem OL.upd {h : AHeap} {ty : TypeId} {size : Nat} {v : AV} {rows : List (List AV)} (o : OL h ty size v rows) {p : Nat} (n : OLnot v p) (x : AObj) : OL (h.upd p x) ty size v rows := by
 rcases o with h0 | ⟨b, cap, cs, h1, h2, h3⟩
 ·exact .inl h0
 ·refine .inr ⟨b, cap, cs, h1, ?_, h3⟩
  rw [upd_ne _ _ _ (n _ _ _ h1)]; exact h2
theorem OL.del {h : AHeap} {ty : TypeId} {size : Nat} {v : AV} {rows : List (List AV)} (o : OL h ty size v rows) {p : Nat} (n : OLnot v p) : OL (h.del p) ty size v rows := by
 rcases o with h0 | ⟨b, cap, cs, h1, h2, h3⟩
 ·exact .inl h0
 ·refine .inr ⟨b, cap, cs, h1, ?_, h3⟩
  rw [del_ne _ _ (n _ _ _ h1)]; exact h2
theorem flatten_take_drop {rows : List (List AV)} {size : Nat} (h : ∀ e ∈ rows, e.length = size) : ∀ {i : Nat} {e : List AV}, rows[i]? = some e → (rows.flatten.drop (i * size)).take size = e ∧ i * size + size ≤ rows.flatten.length := by
 induction rows with
 | nil => intro i e he; simp at he
 | cons a r ih =>
  intro i e he
  have ha := h a (by simp)
  cases i with
  | zero =>
   simp at he; subst he
   refine ⟨?_, ?_⟩
   ·rw [Nat.zero_mul, List.drop_zero, List.flatten_cons, List.take_left' ha]
   ·rw [List.flatten_cons, List.length_append, ha]; omega
  | succ i =>
   obtain ⟨h1, h2⟩ := ih (fun x hx => h x (by simp [hx])) (by simpa using he)
   refine ⟨?_, ?_⟩
   ·rw [List.flatten_cons, List.drop_append, show a.drop ((i + 1) * size) = [] from List.drop_eq_nil_of_le (by rw [ha, Nat.add_mul]; omega), List.nil_append, ha, show (i + 1) * size - size = i * size by rw [Nat.add_mul]; omega]
    exact h1
   ·simp only [List.flatten_cons, List.length_append, ha, Nat.add_mul]; omega
theorem OL.ia {h : AHeap} {ty : TypeId} {size : Nat} {v : AV} {rows : List (List AV)} (o : OL h ty size v rows) {k : IntKind} {i : Nat} {e : List AV} (he : rows[i]? = some e) :
  ∃ b cs tot, aia size v (.int k i) = some (.ptr (some ⟨b, i * size, none⟩)) ∧ h b = some (.blk cs tot ty) ∧ (cs.drop (i * size)).take size = e ∧ i * size + size ≤ cs.length := by
 rcases o with ⟨rfl, rfl⟩ | ⟨b, cap, cs, rfl, h2, h3, h4, h5, h6⟩
 ·simp at he
 ·have hi : i < rows.length := by
   rcases Nat.lt_or_ge i rows.length with h | h
   ·exact h
   ·rw [List.getElem?_eq_none h] at he; cases he
  obtain ⟨g1, g2⟩ := flatten_take_drop h6 he
  refine ⟨b, cs, cap * size, ?_, h2, ?_, ?_⟩
  ·simp only [aia]; rw [if_pos ⟨by omega, by exact_mod_cast hi⟩]; simp
  ·rw [← h5, List.drop_take, List.take_take] at g1
   rw [← g1]
   congr 1
   have : i * size + size ≤ rows.length * size := by rw [← Nat.succ_mul]; exact Nat.mul_le_mul_right _ hi
   omega
  ·have : i * size + size ≤ rows.length * size := by rw [← Nat.succ_mul]; exact Nat.mul_le_mul_right _ hi
   omega
theorem OL.load {h : AHeap} {ty : TypeId} {size : Nat} {v : AV} {rows : List (List AV)} (o : OL h ty size v rows) {k : IntKind} {i : Nat} {e : List AV} (he : rows[i]? = some e) {p : AV} (hp : aia size v (.int k i) = some p) :
  aload h (some size) p = some (.agg e) := by
 obtain ⟨b, cs, tot, h1, h2, h3, h4⟩ := o.ia (k := k) he
 rw [h1] at hp; cases hp
 simp only [aload, h2]; rw [if_pos h4, h3]
theorem OL.load1 {h : AHeap} {ty : TypeId} {v : AV} {rows : List (List AV)} (o : OL h ty 1 v rows) {k : IntKind} {i : Nat} {x : AV} (he : rows[i]? = some [x]) {p : AV} (hp : aia 1 v (.int k i) = some p) :
  aload h none p = some x := by
 obtain ⟨b, cs, tot, h1, h2, h3, h4⟩ := o.ia (k := k) he
 rw [h1] at hp; cases hp
 simp only [aload, h2]
 have := congrArg (fun l => l[0]?) h3
 simp only [List.getElem?_take, List.getElem?_drop] at this
 simpa using this
theorem OL.fa {h : AHeap} {ty : TypeId} {size : Nat} {v : AV} {rows : List (List AV)} (o : OL h ty size v rows) {k : IntKind} {i : Nat} {e : List AV} (he : rows[i]? = some e) {j : Nat} {x : AV} (hj : e[j]? = some x) {p q : AV} (hp : aia size v (.int k i) = some p) (hq : afa j p = some q) :
  aload h none q = some x := by
 obtain ⟨b, cs, tot, h1, h2, h3, h4⟩ := o.ia (k := k) he
 rw [h1] at hp; cases hp
 simp only [afa, Option.some.injEq] at hq; subst hq
 simp only [aload, h2]
 have hjl : j < size := by
  have : e.length ≤ size := by rw [← h3]; simp; omega
  rcases Nat.lt_or_ge j e.length with h | h
  ·omega
  ·rw [List.getElem?_eq_none h] at hj; cases hj
 have := congrArg (fun l => l[j]?) h3
 simp only [List.getElem?_take, List.getElem?_drop, hjl, if_true] at this
 rw [this, hj]
theorem OL.at1 {h : AHeap} {ty : TypeId} {v : AV} {rows : List (List AV)} (o : OL h ty 1 v rows) {k : IntKind} {i : Nat} {x : AV} (he : rows[i]? = some [x]) :
  ∃ b cs tot, aia 1 v (.int k i) = some (.ptr (some ⟨b, i * 1, none⟩)) ∧ h b = some (.blk cs tot ty) ∧ cs[i * 1]? = some x := by
 obtain ⟨b, cs, tot, h1, h2, h3, h4⟩ := o.ia (k := k) he
 have := o.load1 (k := k) he h1
 simp only [aload, h2] at this
 exact ⟨b, cs, tot, h1, h2, this⟩
theorem OL.at {h : AHeap} {ty : TypeId} {size : Nat} {v : AV} {rows : List (List AV)} (o : OL h ty size v rows) {k : IntKind} {i : Nat} {e : List AV} (he : rows[i]? = some e) :
  ∃ b cs tot, aia size v (.int k i) = some (.ptr (some ⟨b, i * size, none⟩)) ∧ h b = some (.blk cs tot ty) ∧ (cs.drop (i * size)).take size = e ∧ i * size + size ≤ cs.length ∧ ∀ (j : Nat) (x : AV), e[j]? = some x → cs[i * size + j]? = some x := by
 obtain ⟨b, cs, tot, h1, h2, h3, h4⟩ := o.ia (k := k) he
 refine ⟨b, cs, tot, h1, h2, h3, h4, fun j x hj => ?_⟩
 have := o.fa (k := k) he hj h1 (q := .ptr (some ⟨b, i * size + j, none⟩)) rfl
 simpa only [aload, h2] using this
theorem OL.append {h : AHeap} {ty : TypeId} {size bytes : Nat} {v : AV} {rows : List (List AV)} (o : OL h ty size v rows) {m : Nat} {xs : List AV} {new : List (List AV)} (hm : new.length = m) (hx : new.flatten = xs) (hn : ∀ e ∈ new, e.length = size) (room : roomFor (rows.length + m) bytes)
  {K : AV → AHeap → Tok → Prop} (m0 : m ≠ 0)
  (k : ∀ b cap cs h0, (h0 = h ∨ ∃ b0 n0 c0, v = .os b0 n0 c0 ∧ h0 = h.del b0) → h0 b = none → OL (h0.upd b (.blk cs (cap * size) ty)) ty size (.os b (rows.length + m) cap) (rows ++ new) → K (.os b (rows.length + m) cap) (h0.upd b (.blk cs (cap * size) ty)) .go) : appendT .go h ty size bytes v m xs K := by
 have hfl := fun (l : List (List AV)) hl => flatten_length (α := AV) size l hl
 unfold appendT aappend
 rcases o with ⟨rfl, rfl⟩ | ⟨b, cap, cs, rfl, h2, h3, h4, h5, h6⟩
 ·simp only
  refine ⟨fun h => absurd h m0, fun _ => ⟨trivial, room, by simp, .inl ?_⟩⟩
  intro b cap hb hc
  refine k b cap _ h (.inl rfl) hb (.inr ⟨b, cap, _, ?_, upd_same _ _ _, ?_, ?_, ?_, ?_⟩)
  ·simp [hm]
  ·simp [hm] at hc ⊢; omega
  ·simp [← hx, hfl new hn]
  ·rw [List.take_of_length_le]
   ·simp [hx]
   ·simp [← hx, hfl new hn]
  ·simpa using hn
 ·simp only [h2]
  refine ⟨trivial, trivial, h3, h4, room, ?_⟩
  intro b' cap' hb' hc'
  refine k b' cap' _ (h.del b) (.inr ⟨b, rows.length, cap, rfl, rfl⟩) hb' (.inr ⟨b', cap', _, ?_, upd_same _ _ _, ?_, ?_, ?_, ?_⟩)
  ·simp [hm]
  ·simp [hm]; omega
  ·rw [h5, ← hx, List.length_append, List.length_append, hfl rows h6, hfl new hn, Nat.add_mul]; exact Nat.le_refl _
  ·rw [List.take_of_length_le]
   ·rw [h5, ← hx, List.flatten_append]
   ·rw [h5, ← hx, List.length_append, List.length_append, hfl rows h6, hfl new hn, Nat.add_mul]; exact Nat.le_refl _
  ·intro e he
   rcases List.mem_append.1 he with h | h
   ·exact h6 e h
   ·exact hn e h
theorem OL.cut {h : AHeap} {ty : TypeId} {size : Nat} {v : AV} {rows : List (List AV)} (o : OL h ty size v rows) {k : IntKind} {n : Int} (h0 : 0 ≤ n) (hn : n ≤ rows.length) :
  ∃ v', aslice false size v none (some (.int k n)) = some v' ∧ OL h ty size v' (rows.take n.toNat) ∧ ∀ p, OLnot v p → OLnot v' p := by
 obtain ⟨m, rfl⟩ := Int.eq_ofNat_of_zero_le h0
 rcases o with ⟨rfl, rfl⟩ | ⟨b, cap, cs, rfl, h2, h3, h4, h5, h6⟩
 ·have hm : m = 0 := by simpa using hn
  subst hm
  refine ⟨.sl [] true, ?_, .inl ⟨rfl, by simp⟩, fun p _ => .nil p⟩
  simp [aslice, abound]
 ·have hm : m ≤ rows.length := by exact_mod_cast hn
  have hl : (rows.take m).length = m := by simp; omega
  have hms : m * size ≤ rows.length * size := Nat.mul_le_mul_right _ hm
  refine ⟨.os b m cap, ?_, .inr ⟨b, cap, cs, ?_, h2, ?_, ?_, ?_, ?_⟩, fun p hp => .os (hp _ _ _ rfl)⟩
  ·simp only [aslice, abound, Int.toNat_natCast]
   rw [if_pos (by omega)]; simp only; rw [if_pos ⟨hm, h3⟩]
  ·simp only [Int.toNat_natCast, hl]
  ·simp only [Int.toNat_natCast, hl]; omega
  ·simp only [Int.toNat_natCast, hl]; omega
  ·simp only [Int.toNat_natCast, hl]
   have e1 : cs.take (m * size) = (cs.take (rows.length * size)).take (m * size) := by rw [List.take_take, Nat.min_eq_left hms]
   rw [e1, h5]
   have e2 : rows.flatten = (rows.take m).flatten ++ (rows.drop m).flatten := by rw [← List.flatten_append, List.take_append_drop]
   rw [e2, List.take_left']
   rw [flatten_length size _ (fun e he => h6 e (List.mem_of_mem_take he)), hl]
  ·exact fun e he => h6 e (List.mem_of_mem_take he)
theorem flatten_set {size : Nat} {e' : List AV} (he' : e'.length = size) : ∀ {rows : List (List AV)} {i : Nat}, (∀ e ∈ rows, e.length = size) → i < rows.length → (rows.set i e').flatten = splice rows.flatten (i * size) e'
 | [], i, _, hi => by simp at hi
 | a :: r, 0, h, _ => by
  have ha := h a (by simp)
  simp only [List.set_cons_zero, List.flatten_cons, splice, Nat.zero_mul, List.take_zero, List.nil_append, Nat.zero_add]
  rw [he', ← ha, List.drop_left]
 | a :: r, i + 1, h, hi => by
  have ha := h a (by simp)
  have ih := flatten_set he' (rows := r) (i := i) (fun e he => h e (by simp [he])) (by simpa using hi)
  have e1 : (i + 1) * size = a.length + i * size := by rw [ha, Nat.add_mul]; omega
  simp only [List.set_cons_succ, List.flatten_cons, ih, splice]
  rw [e1, List.take_length_add_append, Nat.add_assoc, List.drop_length_add_append, List.append_assoc]
theorem splice_take {α : Type} {cs : List α} {o n : Nat} {ds : List α} (h : o + ds.length ≤ n) (hn : n ≤ cs.length) : (splice cs o ds).take n = splice (cs.take n) o ds := by
 simp only [splice]
 rw [List.take_append, List.take_append, List.take_take, List.length_take, List.take_take, List.drop_take]
 rw [Nat.min_eq_left (by omega : o ≤ cs.length), Nat.min_eq_right (by omega : o ≤ n), Nat.min_eq_left (by omega : o ≤ n)]
 rw [List.take_of_length_le (by omega : ds.length ≤ n - o), show n - (o + ds.length) = n - o - ds.length by omega]
theorem OL.store {h : AHeap} {ty : TypeId} {size : Nat} {v : AV} {rows : List (List AV)} (o : OL h ty size v rows) {k : IntKind} {i : Nat} (hi : i < rows.length) {e' : List AV} (he' : e'.length = size) :
  ∃ b cs tot n c, v = .os b n c ∧ aia size v (.int k i) = some (.ptr (some ⟨b, i * size, none⟩)) ∧ h b = some (.blk cs tot ty) ∧ i * size + size ≤ cs.length ∧
   OL (h.upd b (.blk (splice cs (i * size) e') tot ty)) ty size v (rows.set i e') := by
 rcases o with ⟨rfl, rfl⟩ | ⟨b, cap, cs, rfl, h2, h3, h4, h5, h6⟩
 ·simp at hi
 ·have hle : i * size + size ≤ rows.length * size := by rw [← Nat.succ_mul]; exact Nat.mul_le_mul_right _ hi
  refine ⟨b, cs, cap * size, _, _, rfl, ?_, h2, by omega, .inr ⟨b, cap, _, ?_, upd_same _ _ _, ?_, ?_, ?_, ?_⟩⟩
  ·simp only [aia]; rw [if_pos ⟨by omega, by exact_mod_cast hi⟩]; simp
  ·simp
  ·simpa using h3
  ·rw [splice_length _ _ _ (by rw [he']; omega)]; simpa using h4
  ·rw [List.length_set, splice_take (by rw [he']; omega) h4, h5, flatten_set he' h6 hi]
  ·intro e he
   rcases List.mem_or_eq_of_mem_set he with h | h
   ·exact h6 e h
   ·rw [h]; exact he'
theorem splice_nil {α : Type} (cs : List α) : splice cs 0 [] = cs := by simp [splice]
theorem splice_zero {α : Type} (c d : α) (cs ds : List α) : splice (c :: cs) 0 (d :: ds) = d :: splice cs 0 ds := by simp [splice]
theorem splice_succ {α : Type} (c : α) (cs ds : List α) (o : Nat) : splice (c :: cs) (o + 1) ds = c :: splice cs o ds := by
 simp only [splice, List.take_succ_cons, List.cons_append]
 rw [show o + 1 + ds.length = (o + ds.length) + 1 by omega, List.drop_succ_cons]
theorem le_upd_upd {h g : AHeap} (le : h.le g) (b : Nat) (o : AObj) : (h.upd b o).le (g.upd b o) := by
 intro c x e
 by_cases hc : c = b
 ·subst hc; rw [upd_same] at e ⊢; exact e
 ·rw [upd_ne _ _ _ hc] at e ⊢; exact le c x e
section
variable (b : Bool) (k : IntKind) (n : Int) (s : ByteArray) (a : Option Addr) (cs : List AV) (o m c : Nat) (es : List (List AV)) (f : Bool) (r : Option Nat) (fn : Fn) (t : TypeId) (v : AV)
theorem cells_bool : (AV.bool b).cells? = some [.bool b] := rfl
theorem cells_int : (AV.int k n).cells? = some [.int k n] := rfl
theorem cells_str : (AV.str s).cells? = some [.str s] := rfl
theorem cells_ptr : (AV.ptr a).cells? = some [.ptr a] := rfl
theorem cells_ip : (AV.ip cs o).cells? = some [.ip cs o] := rfl
theorem cells_sl : (AV.sl es f).cells? = some [.sl es f] := rfl
theorem cells_os : (AV.os o m c).cells? = some [.os o m c] := rfl
theorem cells_map : (AV.map r).cells? = some [.map r] := rfl
theorem cells_func (x y : List AV) : (AV.func fn x y).cells? = some [.func fn x y] := rfl
theorem cells_nilFunc : AV.nilFunc.cells? = some [.nilFunc] := rfl
theorem cells_iface : (AV.iface t v).cells? = some [.iface t v] := rfl
theorem cells_nilIface : AV.nilIface.cells? = some [.nilIface] := rfl
theorem cells_agg : (AV.agg cs).cells? = some cs := rfl
end
theorem OL.cells {h : AHeap} {ty : TypeId} {size : Nat} {v : AV} {rows : List (List AV)} (o : OL h ty size v rows) : v.cells? = some [v] := by
 rcases o with ⟨rfl, _⟩ | ⟨b, cap, cs, rfl, _⟩ <;> rfl
theorem OL.of_join_right {s l : AHeap} {ty : TypeId} {size : Nat} {v : AV} {rows : List (List AV)} (o : OL (s.join l) ty size v rows) (n : ∀ b m c, v = .os b m c → s b = none) : OL l ty size v rows := by
 rcases o with h0 | ⟨b, cap, cs, h1, h2, h3⟩
 ·exact .inl h0
 ·exact .inr ⟨b, cap, cs, h1, by rw [← h2, join_right (n _ _ _ h1)], h3⟩
theorem OL.append_join {s l : AHeap} {ty : TypeId} {size bytes : Nat} {v : AV} {rows : List (List AV)} (a : s.apart l) (o : OL l ty size v rows) {m : Nat} {xs : List AV} {new : List (List AV)} (hm : new.length = m) (hx : new.flatten = xs) (hn : ∀ e ∈ new, e.length = size) (room : roomFor (rows.length + m) bytes)
  {K : AV → AHeap → Tok → Prop} (m0 : m ≠ 0)
  (k : ∀ v' l', s.apart l' → OL l' ty size v' (rows ++ new) → (∀ c x, l c = some x → OLnot v c → l' c = some x ∧ OLnot v' c) → K v' (s.join l') .go) : appendT .go (s.join l) ty size bytes v m xs K := by
 refine (o.of_le (AHeap.le_join_right a)).append hm hx hn room m0 ?_
 intro b cap cs h0 hh0 hb ol'
 have key : ∃ l0, h0 = s.join l0 ∧ s.apart l0 ∧ ∀ c x, l c = some x → OLnot v c → l0 c = some x := by
  rcases hh0 with rfl | ⟨b0, n0, c0, rfl, rfl⟩
  ·exact ⟨l, rfl, a, fun c x h _ => h⟩
  ·rcases o with ⟨h, _⟩ | ⟨b1, cap1, cs1, h1, h2, _⟩
   ·cases h
   ·cases h1
    exact ⟨l.del b0, join_del_right l (apart_at a h2), apart_del_right a b0, fun c x h n => by rw [del_ne _ _ (n _ _ _ rfl).symm]; exact h⟩
 obtain ⟨l0, rfl, a0, keep⟩ := key
 obtain ⟨hb1, hb2⟩ := join_none hb
 rw [join_upd_right _ _ hb1] at ol' ⊢
 refine k _ _ (apart_upd_right a0 _ hb1) (ol'.of_join_right fun b' m' c' e => by cases e; exact hb1) ?_
 intro c x hc n
 have hcb : c ≠ b := by intro hh; subst hh; rw [keep c x hc n] at hb2; cases hb2
 exact ⟨by rw [upd_ne _ _ _ hcb]; exact keep c x hc n, .os hcb.symm⟩
theorem aia_sl {size : Nat} {es : List (List AV)} {f : Bool} {k : IntKind} {i : Nat} {e : List AV} (h : es[i]? = some e) (hl : e.length = size) : aia size (.sl es f) (.int k i) = some (.ip e 0) := by
 simp only [aia]; rw [if_pos (Int.natCast_nonneg i), Int.toNat_natCast, h]; simp only; rw [if_pos hl]
theorem alen_sl (h : AHeap) (es : List (List AV)) (f : Bool) : alen h 1 (.sl es f) = some (.int .i64 es.length) := rfl
theorem alen_os (h : AHeap) (b n c : Nat) : alen h 1 (.os b n c) = some (.int .i64 n) := rfl
theorem alen_str (h : AHeap) (s : ByteArray) : alen h 0 (.str s) = some (.int .i64 s.size) := rfl
theorem wrap64 {n : Int} (h0 : -9223372036854775808 ≤ n) (h1 : n ≤ 9223372036854775807) : IntKind.i64.wrap n = n := by
 rw [IntKind.wrap_i64]; omega
end Pg
namespace Pg
open Go Go.ChangeShapes Go.WideShapes Go.RowKit
def memOf (W : World) : Imm := fun b o => W.cell? ⟨b, o, none⟩
theorem sat_mem [GI] (W : World) (hg : GI.imm.le (memOf W)) : Sat W (memOf W) eheap := ⟨hg, (fun b o h => by cases h), (fun b o v h => h), (fun b o v h => trivial)⟩
section
variable {H : Type} (enc : TypeId × Value → H) (P : Program) (W : World)
def RdN (n : Nat) (t : TypeId) {X : Type} (e : X → List AV) (ok : DataW H → X → Prop) : Prop :=
 ∀ cs d ps, DataW.trod enc P W 0 (fun _ => true) true n t cs = some (d, ps) → ∃ x, ok d x ∧ Rds (memOf W) (e x) cs ∧ Ones cs
def RdFs (n total off : Nat) (fs : List Field) {X : Type} (e : X → List AV) (ok : List (DataW H) → X → Prop) : Prop :=
 ∀ (cs : List Value) (xs : List (DataW H × List MemPlace)), cs.length = total → (xs.length = fs.length ∧ ∀ (i : Nat) (f : Field), fs[i]? = some f → DataW.trod enc P W 0 (fun _ => true) true n f.type ((cs.drop f.offset).take (P.cellsOf f.type)) = xs[i]?) →
  ∃ x, ok (xs.map (·.1)) x ∧ Rds (memOf W) (e x) (cs.drop off) ∧ Ones (cs.drop off)
def Two {A B : Type} (r : A → B → Prop) : List A → List B → Prop
 | [], [] => True
 | a :: l, b :: m => r a b ∧ Two r l m
 | _, _ => False
end
section
variable {H : Type} {enc : TypeId × Value → H} {P : Program} {W : World} {n : Nat} {t el : TypeId}
theorem RdN.zero {X : Type} {e : X → List AV} {ok : DataW H → X → Prop} : RdN enc P W 0 t e ok := by
 intro cs d ps h; simp [DataW.trod] at h
theorem RdN.mono {X Y : Type} {e : X → List AV} {ok : DataW H → X → Prop} {e' : Y → List AV} {ok' : DataW H → Y → Prop} (h : RdN enc P W n t e ok) (m : ∀ d x, ok d x → ∃ y, ok' d y ∧ e' y = e x) : RdN enc P W n t e' ok' := by
 intro cs d ps k
 obtain ⟨x, h1, h2, h3⟩ := h cs d ps k
 obtain ⟨y, m1, m2⟩ := m d x h1
 exact ⟨y, m1, by rw [m2]; exact h2, h3⟩
theorem Ones.one {v : Value} (h : v.oneCell' = true) : Ones [v] := .cons h .nil
theorem RdN.int {k : IntKind} (ht : P.underlying t = some (.int k)) : RdN enc P W n t (fun x : Int => [.int k x]) (fun d x => d = .lit (.int k x) ∧ (Lit.int k x).wf = true) := by
 intro cs d ps h
 obtain ⟨m, rfl, hx, hw⟩ := DataW.trod_int ht h
 cases hx
 exact ⟨m, ⟨rfl, hw⟩, .cons (.int _ _) (.nil _), .one rfl⟩
theorem RdN.bool (ht : P.underlying t = some .bool) : RdN enc P W n t (fun x : Bool => [.bool x]) (fun d x => d = .lit (.bool x)) := by
 intro cs d ps h
 obtain ⟨b, rfl, hx⟩ := DataW.trod_bool ht h
 cases hx
 exact ⟨b, rfl, .cons (.bool _) (.nil _), .one rfl⟩
theorem RdN.str (ht : P.underlying t = some .string) : RdN enc P W n t (fun x : ByteArray => [.str x]) (fun d x => d = .lit (.string x.data.toList) ∧ x.size ≤ maxLen) := by
 intro cs d ps h
 obtain ⟨b, rfl, hx, hl⟩ := DataW.trod_string ht h
 cases hx
 exact ⟨b, ⟨rfl, hl⟩, .cons (.str _) (.nil _), .one rfl⟩
theorem cells?_get {a : Addr} {k : Nat} {cs : List Value} (h : W.cells? 0 a k = some cs) : cs.length = k ∧ (0 < k → a.spot = none) ∧ ∀ (j : Nat) (v : Value), cs[j]? = some v → W.cell? ⟨a.block, a.off + j, none⟩ = some v := by
 unfold World.cells? at h
 rw [if_pos (Nat.zero_le _)] at h
 have hl := mapM_some_length h
 simp only [List.length_range] at hl
 have hg : ∀ (j : Nat) (v : Value), cs[j]? = some v → W.cell? (a.add j) = some v := by
  intro j v hv
  have hj : j < k := by
   rcases Nat.lt_or_ge j cs.length with h' | h'
   ·omega
   ·rw [List.getElem?_eq_none h'] at hv; cases hv
  rw [← hv]
  exact mapM_some_get h j j (by simp [hj])
 have hsp : 0 < k → a.spot = none := by
  intro hk
  have h0 : cs[0]? = some cs[0] := List.getElem?_eq_getElem (by omega)
  have := hg 0 _ h0
  simp only [Addr.add, if_true] at this
  unfold World.cell? at this
  split at this
  ·split at this
   ·cases this
   ·rename_i hs; simpa using hs
  ·cases this
 refine ⟨hl, hsp, ?_⟩
 intro j v hv
 have hk : 0 < k := by
  rcases Nat.lt_or_ge j cs.length with h' | h'
  ·omega
  ·rw [List.getElem?_eq_none h'] at hv; cases hv
 have := hg j v hv
 have hs := hsp hk
 rw [← this]
 congr 1
 unfold Addr.add
 split
 ·subst_vars; cases a; simp at hs; simp [hs]
 ·rfl
def okPtr {X : Type} (ok : DataW H → X → Prop) : DataW H → Option X → Prop
 | d, none => d = .nil
 | d, some x => ∃ d', d = .ptr d' ∧ ok d' x
def ePtr {X : Type} (e : X → List AV) : Option X → List AV
 | none => [.ptr none]
 | some x => [.ip (e x) 0]
theorem RdN.ptr {X : Type} {e : X → List AV} {ok : DataW H → X → Prop} (ht : P.underlying t = some (.pointer el)) (hk : 0 < P.cellsOf el) (h : RdN enc P W n el e ok) : RdN enc P W (n + 1) t (ePtr e) (okPtr ok) := by
 intro cs d ps k
 rcases DataW.trod_pointer ht k with ⟨rfl, hx⟩ | ⟨a, us, y, m, hm, rfl, hx, h1, h2⟩
 ·cases hx
  exact ⟨none, rfl, .cons (.ptr none) (.nil _), .one rfl⟩
 ·cases hx; cases hm
  obtain ⟨c1, c2, c3⟩ := cells?_get h1
  obtain ⟨x, x1, x2, x3⟩ := h us y.1 y.2 h2
  refine ⟨some x, ⟨y.1, rfl, x1⟩, .cons ?_ (.nil _), .one rfl⟩
  have hs := c2 hk
  have : Rd (memOf W) (.ip (e x) 0) (.pointer (some ⟨a.block, a.off + 0, none⟩)) := .of_ip 0 (fun j u hu => c3 j u hu) x2 x3
  cases a; simp at hs; subst hs; simpa using this
theorem Two.len {A B : Type} {r : A → B → Prop} : ∀ {l : List A} {m : List B}, Two r l m → l.length = m.length
 | [], [], _ => rfl
 | _ :: _, _ :: _, h => by simp [Two.len h.2]
 | [], _ :: _, h => h.elim
 | _ :: _, [], h => h.elim
def okSl {X : Type} (ok : DataW H → X → Prop) (d : DataW H) (xs : List X) : Prop := (d = .nil ∧ xs = []) ∨ ∃ ds sp, d = .slice ds sp ∧ Two ok ds xs
def eSl {X : Type} (e : X → List AV) (xs : List X) : List AV := [.sl (xs.map e) false]
theorem RdN.slice {X : Type} {e : X → List AV} {ok : DataW H → X → Prop} (ht : P.underlying t = some (.slice el)) (hc : 0 < P.cellsOf el) (h : RdN enc P W n el e ok) : RdN enc P W (n + 1) t (eSl e) (okSl ok) := by
 intro cs d ps k
 rcases DataW.trod_slice ht k with ⟨rfl, hx⟩ | ⟨a, len, cap, elems, rest, m, hm, rfl, hx, _, hb1, hb2, hl, hr, _⟩
 ·cases hx
  exact ⟨[], .inl ⟨rfl, rfl⟩, .cons (.sl0 false none 0 (fun _ _ => trivial) (fun _ => rfl) (fun h => by cases h)) (.nil _), .one rfl⟩
 ·cases hx; cases hm
  have hel : ∀ (i : Nat) (y : DataW H × List MemPlace), elems[i]? = some y → ∃ us, W.cells? 0 (a.add (i * P.cellsOf el)) (P.cellsOf el) = some us ∧ DataW.trod enc P W 0 (fun _ => true) true n el us = some y := by
   intro i y hy
   have hi : i < len := by
    rcases Nat.lt_or_ge i elems.length with h' | h'
    ·omega
    ·rw [List.getElem?_eq_none h'] at hy; cases hy
   have := hr i hi
   rw [hy] at this
   simpa [Option.bind_eq_some_iff] using this
  -- each element's x
  have key : ∀ (l : List (DataW H × List MemPlace)) (from_ : Nat), (∀ (i : Nat) (y : DataW H × List MemPlace), l[i]? = some y → ∃ us, W.cells? 0 (a.add ((from_ + i) * P.cellsOf el)) (P.cellsOf el) = some us ∧ DataW.trod enc P W 0 (fun _ => true) true n el us = some y) →
    ∃ (xs : List X) (vss : List (List Value)), Two ok (l.map (·.1)) xs ∧ vss.length = l.length ∧ ∀ (i : Nat) (vs : List Value), vss[i]? = some vs → W.cells? 0 (a.add ((from_ + i) * P.cellsOf el)) (P.cellsOf el) = some vs ∧ ∃ x, xs[i]? = some x ∧ Rds (memOf W) (e x) vs ∧ Ones vs := by
   intro l
   induction l with
   | nil => intro _ _; exact ⟨[], [], trivial, rfl, by simp⟩
   | cons y l ih =>
    intro from_ hy
    obtain ⟨us, u1, u2⟩ := hy 0 y (by simp)
    obtain ⟨x, x1, x2, x3⟩ := h us y.1 y.2 u2
    obtain ⟨xs, vss, i1, i2, i3⟩ := ih (from_ + 1) (fun i z hz => by
     have := hy (i + 1) z (by simpa using hz)
     rwa [show from_ + (i + 1) = from_ + 1 + i by omega] at this)
    refine ⟨x :: xs, us :: vss, ⟨x1, i1⟩, by simp [i2], ?_⟩
    intro i vs hvs
    cases i with
    | zero => simp at hvs; subst hvs; exact ⟨u1, x, by simp, x2, x3⟩
    | succ i =>
     have := i3 i vs (by simpa using hvs)
     rw [show from_ + 1 + i = from_ + (i + 1) by omega] at this
     simpa using this
  obtain ⟨xs, vss, k1, k2, k3⟩ := key elems 0 (fun i y hy => by rw [Nat.zero_add]; exact hel i y hy)
  simp only [Nat.zero_add] at k3
  have hx : xs.length = len := by have := k1.len; simp at this; omega
  refine ⟨xs, .inr ⟨_, _, rfl, k1⟩, .cons ?_ (.nil _), .one rfl⟩
  by_cases h0 : len = 0
  ·have hxs : xs = [] := List.eq_nil_of_length_eq_zero (by omega)
   rw [hxs, h0]
   exact .sl0 false (some a) cap (fun _ _ => trivial) (fun h => by cases h) (fun h => by cases h)
  ·have hs : a.spot = none := by
    have hv0 : vss[0]? = some vss[0] := List.getElem?_eq_getElem (by omega)
    have := (cells?_get (k3 0 _ hv0).1).2.1 hc
    simpa [Addr.add] using this
   have hadd : ∀ i, a.add i = ⟨a.block, a.off + i, none⟩ := by
    intro i; unfold Addr.add; split
    ·subst_vars; cases a; simp at hs; simp [hs]
    ·rfl
   have R : Rows (memOf W) a.block a.off (P.cellsOf el) (xs.map e) vss := by
    refine ⟨by simp; omega, ?_, ?_, ?_, ?_⟩
    ·intro i ee vs h1 h2
     obtain ⟨q1, x, q2, q3, q4⟩ := k3 i vs h2
     simp only [List.getElem?_map, q2, Option.map_some, Option.some.injEq] at h1
     subst h1
     have := (cells?_get q1).1
     exact ⟨by rw [q3.len]; exact this, this⟩
    ·intro i vs j v h2 hj
     obtain ⟨q1, x, q2, q3, q4⟩ := k3 i vs h2
     have := (cells?_get q1).2.2 j v hj
     rw [hadd] at this
     exact this
    ·intro i vs h2
     exact (k3 i vs h2).2.choose_spec.2.2
    ·intro i ee vs j c v h1 h2 hj hv
     obtain ⟨q1, x, q2, q3, q4⟩ := k3 i vs h2
     simp only [List.getElem?_map, q2, Option.map_some, Option.some.injEq] at h1
     subst h1
     exact q3.at_ j c v hj hv
   have := Rd.of_rows (I := memOf W) false (cap := cap) (by simpa [hx] using hb1) (fun h => by cases h) R
   have hz : (xs.map e).length = len := by simpa using hx
   rw [hz] at this
   cases a; simp at hs; subst hs; exact this
theorem RdFs.nil {total : Nat} : RdFs enc P W n total total [] (fun _ : Unit => []) (fun ds _ => ds = []) := by
 intro cs xs hl hx
 have : xs = [] := by cases xs with
  | nil => rfl
  | cons y xs => have := hx.1; simp at this
 subst this
 have e : cs.drop total = [] := List.drop_eq_nil_of_le (by omega)
 rw [e]
 exact ⟨(), rfl, .nil _, .nil⟩
theorem RdFs.cons {total off off' : Nat} {f : Field} {fs : List Field} {X Y : Type} {e : X → List AV} {ok : DataW H → X → Prop} {e' : Y → List AV} {ok' : List (DataW H) → Y → Prop} (ho : f.offset = off) (ho' : off + P.cellsOf f.type = off') (h : RdN enc P W n f.type e ok) (hs : RdFs enc P W n total off' fs e' ok') :
  RdFs enc P W n total off (f :: fs) (fun x : X × Y => e x.1 ++ e' x.2) (fun ds x => ∃ d r, ds = d :: r ∧ ok d x.1 ∧ ok' r x.2) := by
 intro cs xs hl hx
 cases xs with
 | nil => have := hx.1; simp at this
 | cons y xs =>
  have h0 := hx.2 0 f (by simp)
  simp only [List.getElem?_cons_zero, ho] at h0
  obtain ⟨x, x1, x2, x3⟩ := h _ _ _ h0
  obtain ⟨z, z1, z2, z3⟩ := hs cs xs hl ⟨by simpa using hx.1, fun i g hg => by simpa using hx.2 (i + 1) g (by simpa using hg)⟩
  refine ⟨(x, z), ⟨_, _, rfl, x1, z1⟩, ?_, ?_⟩
  ·have := x2.append z2
   rwa [← ho', ← List.drop_drop, List.take_append_drop] at this
  ·have := x3.append z3
   rwa [← ho', ← List.drop_drop, List.take_append_drop] at this
theorem RdN.struct {X : Type} {e : X → List AV} {ok : List (DataW H) → X → Prop} {fs : Array Field} (ht : P.underlying t = some (.struct fs)) (h : RdFs enc P W n (P.cellsOf t) 0 fs.toList e ok) : RdN enc P W (n + 1) t e (fun d x => ∃ ds, d = .agg ds ∧ ok ds x) := by
 intro cs d ps k
 obtain ⟨xs, m, hm, hx, hl, hxl, hf⟩ := DataW.trod_struct ht k
 cases hm; cases hx
 obtain ⟨x, x1, x2, x3⟩ := h cs xs hl ⟨by simpa using hxl, fun i f hf' => hf i f (by simpa using hf')⟩
 exact ⟨x, ⟨_, rfl, x1⟩, by simpa using x2, by simpa using x3⟩
end
end Pg
namespace Pg
open Go Go.ChangeShapes Go.WideShapes Go.RowKit
section
variable {H : Type} {enc : TypeId × Value → H} {P : Program} {W : World} {t : TypeId}
def flatTy (P : Program) (t : TypeId) : Bool := match P.underlying t with | some (.struct _) | some (.array _ _) => false | _ => true
theorem flat_cells {r : Reach} {b : Nat} {v : Value} (hf : flatTy P t = true) (h : Value.okWide P W r b t v) : v.cells = #[v] := by
 cases v with
 | agg cs =>
  unfold flatTy at hf
  unfold Value.okWide at h
  split at h
  ·rename_i hu; rw [hu] at hf; cases hf
  ·rename_i hu; rw [hu] at hf; cases hf
  ·unfold Cell.okWide at h
   split at h <;> simp_all [Cell.ok]
 | _ => rfl
theorem arg_flat {r : Reach} {b : Nat} {v : Value} {d : DataW H} {p : List MemPlace} {X : Type} {a : X → AV} {ok : DataW H → X → Prop} (hf : flatTy P t = true) (hv : Value.okWide P W r b t v) (h : DataW.Trod enc P W 0 (fun _ => true) true t v d p) (hr : ∀ n, RdN enc P W n t (fun x => [a x]) ok) :
  ∃ x, ok d x ∧ Rd (memOf W) (a x) v := by
 obtain ⟨n, h⟩ := h
 rw [flat_cells hf hv] at h
 obtain ⟨x, x1, x2, _⟩ := hr n _ _ _ h
 exact ⟨x, x1, x2.at_ 0 _ _ (by simp) (by simp)⟩
theorem arg_agg {r : Reach} {b : Nat} {v : Value} {d : DataW H} {p : List MemPlace} {X : Type} {e : X → List AV} {ok : DataW H → X → Prop} {fs : Array Field} (ht : P.underlying t = some (.struct fs)) (hv : Value.okWide P W r b t v) (h : DataW.Trod enc P W 0 (fun _ => true) true t v d p) (hr : ∀ n, RdN enc P W n t e ok) :
  ∃ x, ok d x ∧ Rd (memOf W) (.agg (e x)) v := by
 obtain ⟨n, h⟩ := h
 unfold Value.okWide at hv
 rw [ht] at hv
 obtain ⟨cs, rfl, _, _⟩ := hv
 obtain ⟨x, x1, x2, x3⟩ := hr n _ _ _ h
 exact ⟨x, x1, .of_agg (vs := cs.toList) x2 x3⟩
theorem below_of_ext {W W' : World} (e : Ext eheap W W') : Below W.heap.size W W' := ⟨e.os, e.tape, e.output, e.size, fun k hk => e.block k hk rfl⟩
theorem reread (hl : laidOutB P = true) {W' : World} (hb : Below W.heap.size W W') : ∀ {ts : List TypeId} {vs : List Value} {ds : List (DataW H)} {ps : List MemPlace}, ts.all (fun t => P.readableRec t && decide (t < P.types.size)) = true →
  DataW.TrodAll enc P W 0 (fun _ => true) true ts vs ds ps → (∀ x ∈ ps, x.block < W.heap.size) → DataW.TrodAll enc P W' 0 (fun b => decide (b < W.heap.size)) true ts vs ds ps
 | [], _, _, _, _, h, _ => by
  obtain ⟨rfl, rfl, rfl⟩ := trodAll_nil h
  exact rfl
 | t :: ts, _, _, _, hr, h, hlt => by
  obtain ⟨v, vs1, d, ds1, a, b, rfl, rfl, rfl, h1, h2⟩ := trodAll_cons h
  simp only [List.all_cons, Bool.and_eq_true, decide_eq_true_eq] at hr
  exact ⟨a, b, Below.trod hl hr.1.1 hr.1.2 h1 hb (fun x hx => hlt x (List.mem_append.2 (.inl hx))), reread hl hb (by simpa using hr.2) h2 (fun x hx => hlt x (List.mem_append.2 (.inr hx))), rfl⟩
theorem law_post {fn : Func} {s : ChangeSpec} {fresh handsOn : Bool} {tb : TypeId} (hl : laidOutB P = true) (hres : fn.resultTypes = #[tb]) (hb : P.underlying tb = some .bool) (hps : fn.params.toList.all (fun t => P.readableRec t && decide (t < P.types.size)) = true) (hvars : s.vars = [])
  (hspec : ∀ ds : List (DataW H), ds.length = fn.params.size → s.fn H ds = { results := [.lit (.bool true)], args := ds })
  {args : Array Value} {ds gs : List (DataW H)} {before : List MemPlace} (hW : DataW.Whole enc P fn.params.toList s.vars false W args.toList ds gs before) {W' : World} (hB : Below W.heap.size W W') :
  s.post enc P fn false fresh handsOn false W args (.bool true) W' := by
 have hW' := hW
 obtain ⟨p, q, hA, hV, rfl, _, _⟩ := hW
 rw [hvars] at hV
 obtain ⟨rfl, rfl⟩ := trodVars_none hV
 have hlen : ∀ {ts : List TypeId} {vs : List Value} {ds : List (DataW H)} {ps : List MemPlace}, DataW.TrodAll enc P W 0 (fun _ => true) true ts vs ds ps → ds.length = ts.length := by
  intro ts
  induction ts with
  | nil => intro vs ds ps h; obtain ⟨_, rfl, _⟩ := trodAll_nil h; rfl
  | cons t ts ih => intro vs ds ps h; obtain ⟨v, vs1, d, ds1, a, b, rfl, rfl, rfl, h1, h2⟩ := trodAll_cons h; simp [ih h2]
 have hd := hlen hA
 have hsp := hspec ds (by simpa using hd)
 have hlt : ∀ x ∈ p, x.block < W.heap.size := fun x hx => hW'.lt x (by simpa using hx)
 refine ⟨ds, [], p ++ [], [], p, [], hW', ?_, ?_, ?_, hB.frame _, fun h => by cases h⟩
 ·rw [List.append_nil, hsp, hres]
  exact trodAll_mk1 (shut_bool hb true)
 ·rw [List.append_nil, hsp]
  exact reread hl hB hps hA hlt
 ·rw [List.append_nil, hsp, hvars]
  rfl
end
end Pg
namespace Pg
open Go
def AVle (a b : AV) : Prop := ∀ I v, Rd I a v → Rd I b v
theorem AVle.refl (a : AV) : AVle a a := fun _ _ r => r
theorem AVle.trans {a b c : AV} (x : AVle a b) (y : AVle b c) : AVle a c := fun I v r => y I v (x I v r)
theorem AVle.any (a : AV) : AVle a .any := fun _ v _ => .any v
theorem AVle.gs (es : List (List AV)) (b cap : Nat) : AVle (.gs es b cap) (.sl es false) := fun _ _ r => r.gs_sl
theorem AVle.sl (es : List (List AV)) (f : Bool) : AVle (.sl es f) (.sl es false) := fun _ _ r => r.sl_open
def AVles (xs ys : List AV) : Prop := ∀ I vs, Rds I xs vs → Rds I ys vs
theorem AVles.refl (xs : List AV) : AVles xs xs := fun _ _ r => r
theorem AVles.nil : AVles [] [] := .refl _
theorem AVles.cons {a b : AV} {xs ys : List AV} (h : AVle a b) (r : AVles xs ys) : AVles (a :: xs) (b :: ys) := by
 intro I vs hr
 obtain ⟨v, vs', rfl, h1, h2⟩ := hr.uncons
 exact .cons (h I v h1) (r I vs' h2)
theorem AVles.length {xs ys : List AV} (h : AVles xs ys) {I : Imm} {vs : List Value} (r : Rds I xs vs) : xs.length = ys.length := by rw [r.len, (h I vs r).len]
theorem AVle.agg {xs ys : List AV} (h : AVles xs ys) : AVle (.agg xs) (.agg ys) := by
 intro I v r
 obtain ⟨vs, rfl, r1, r2⟩ := r.inv_agg
 exact .of_agg (h I vs r1) r2
theorem AVle.tuple {xs ys : List AV} (h : AVles xs ys) : AVle (.tuple xs) (.tuple ys) := by
 intro I v r
 obtain ⟨vs, rfl, r1⟩ := r.inv_tuple
 exact .of_tuple (h I vs r1)
theorem ACalls.less [GI] {P : Program} {f : FuncId} {args args' : List AV} {h : AHeap} {K : AV → AHeap → Prop} (le : AVles args args') (c : ACalls P f args' h K) : ACalls P f args h K :=
 fun I w vs r s => c I w vs (le I vs r) s
theorem callT_le [GI] {P : Program} {f : FuncId} {args args' : List AV} {h : AHeap} {K : AV → AHeap → Prop} {K' : AV → AHeap → Tok → Prop} (c : ACalls P f args' h K) (le : AVles args args') (m : ∀ v g, K v g → K' v g .go) : callT .go P f args h K' := (c.less le).mono m
theorem tcE [GI] {P : Program} {f : FuncId} {args : List AV} {h H : AHeap} {V : AV} {K' : AV → AHeap → Tok → Prop} (c : ACalls P f args h (fun v g => v = V ∧ g = H)) (k : K' V H .go) : callT .go P f args h K' :=
 callT_of c fun v g ⟨hv, hg⟩ => by subst hv hg; exact k
def ObjLe : AObj → AObj → Prop
 | .blk cs total ty, .blk cs' total' ty' => total = total' ∧ ty = ty' ∧ cs.length = cs'.length ∧ AVles cs cs'
 | .mpc es _ _, .mp es' => es = es'
 | a, b => a = b
theorem ObjLe.refl (o : AObj) : ObjLe o o := by cases o <;> simp [ObjLe, AVles.refl]
def HeapLe (h h' : AHeap) : Prop := ∀ b o', h' b = some o' → ∃ o, h b = some o ∧ ObjLe o o'
theorem HeapLe.refl (h : AHeap) : HeapLe h h := fun b o' e => ⟨o', e, .refl _⟩
theorem HeapLe.of_le {h h' : AHeap} (le : h'.le h) : HeapLe h h' := fun b o' e => ⟨o', le b o' e, .refl _⟩
theorem ObjSat.less {I : Imm} {w : World} {b : Nat} {o o' : AObj} (le : ObjLe o o') (s : ObjSat I w b o) : ObjSat I w b o' := by
 cases o <;> cases o' <;> simp only [ObjLe, reduceCtorEq] at le
 ·obtain ⟨rfl, rfl, hl, hv⟩ := le
  obtain ⟨vs, h1, h2, h3, h4, h5⟩ := s
  refine ⟨vs, h1, h2, by omega, ?_, by rw [← hl]; exact h5⟩
  rw [← hl]; exact hv _ _ h4
 ·cases le; exact s
 ·cases le; exact s
 ·subst le
  obtain ⟨ms, h1, h2, h3, h4, h5, h6⟩ := s
  exact ⟨ms, _, h1, h2, h3, by rw [h4]; exact h5, fun e he => h6 _ (by rw [← h4]; exact List.mem_map.2 ⟨e, he, rfl⟩)⟩
 ·cases le; exact s
 ·cases le; exact s
 ·cases le; exact s
theorem HeapLe.sat [GI] {h h' : AHeap} (le : HeapLe h h') {w : World} {I : Imm} (s : Sat w I h) : Sat w I h' := by
 refine ⟨s.glob, fun b o' hb => ?_, s.imm, fun b o v hb => ?_⟩
 ·obtain ⟨o, h1, h2⟩ := le b o' hb
  exact (s.obj b o h1).less h2
 ·cases hb' : h' b with
  | none => trivial
  | some o' =>
   obtain ⟨x, h1, h2⟩ := le b o' hb'
   have := s.dis b o v hb
   rw [h1] at this
   cases x <;> cases o' <;> simp only [ObjLe, reduceCtorEq] at h2 <;> first | exact this.elim | (cases h2; exact this)
theorem HeapLe.new {h h' : AHeap} (le : HeapLe h h') (w : World) (I : Imm) : New w I I h h' :=
 ⟨Imm.le_refl I, fun b o e => by obtain ⟨x, h1, _⟩ := le b o e; exact .inl (by rw [h1]; simp), fun b o v e => .inl e⟩
def WeakE [GI] (e : Env) (h : AHeap) (e' : Env) (h' : AHeap) : Prop :=
 ∀ (I : Imm) (w : World) (N : Nat) (tmps : Array Value), EnvSat I N e tmps → Sat w I h → ∃ J, New w I J h h' ∧ EnvSat J N e' tmps ∧ Sat w J h'
theorem WeakE.refl [GI] (e : Env) (h : AHeap) : WeakE e h e h := fun I w N tmps s t => ⟨I, .refl w I h, s, t⟩
theorem WeakE.trans [GI] {e e' e'' : Env} {h h' h'' : AHeap} (x : WeakE e h e' h') (y : WeakE e' h' e'' h'') : WeakE e h e'' h'' := by
 intro I w N tmps s t
 obtain ⟨J, n, s1, t1⟩ := x I w N tmps s t
 obtain ⟨K, m, s2, t2⟩ := y J w N tmps s1 t1
 exact ⟨K, n.trans (.refl h w) m, s2, t2⟩
def EnvLe (e : Env) : Env → Prop
 | [] => True
 | (s, v) :: r => AVle (e.get s) v ∧ EnvLe e r
theorem EnvLe.at {e : Env} : ∀ {e' : Env}, EnvLe e e' → ∀ t, AVle (e.get t) (e'.get t)
 | [], _, t => .any _
 | (s, v) :: r, h, t => by
  simp only [Env.get]
  split
  ·rename_i hh; subst hh; exact h.1
  ·exact EnvLe.at h.2 t
theorem wrap_one : IntKind.i64.wrap 1 = 1 := by decide
theorem AVle_refl (a : AV) : AVle a a = True := eq_true (.refl a)
theorem WeakE.of [GI] {e e' : Env} {h h' : AHeap} (a : EnvLe e e') (b : HeapLe h h') : WeakE e h e' h' :=
 fun I w N tmps s t => ⟨I, b.new w I, ⟨s.size, fun u => a.at u I _ (s.at_ u)⟩, b.sat t⟩
theorem WeakE.env [GI] {e e' : Env} {h : AHeap} (a : EnvLe e e') : WeakE e h e' h := .of a (.refl h)
theorem L_inv2 [GI] {P : Program} {N : Nat} {c : RCode} {Q : Exit → Env → AHeap → Prop} {Inv : Nat → Env → AHeap → Prop}
  (step : ∀ n e h, Inv n e h → W P N c (onNormal (fun e h => ∃ m e' g, m < n ∧ WeakE e h e' g ∧ Inv m e' g) (fun x e h => ∃ e' g, WeakE e h e' g ∧ Q x e' g)) e h) : ∀ n e h, Inv n e h → L P N c Q e h := by
 intro n
 induction n using Nat.strongRecOn with
 | _ n ih =>
  intro e h hi DD B F code hc I w a s t hd
  refine lw_unroll (wp_mono (T_of_W _ _ _ _ (step n e h hi) _ B F code hc I w a s t hd) ?_)
  intro ex a' w' hpost
  obtain ⟨J, e', g, kk, s', t', ext, nw, d'⟩ := hpost
  have out : (∃ e2 g2, WeakE e' g e2 g2 ∧ Q ex e2 g2) → Post DD N I w h Q ex a' w' := by
   rintro ⟨e2, g2, wk, q⟩
   obtain ⟨J2, n2, s2, t2⟩ := wk J w' N a'.tmps s' t'
   exact ⟨J2, e2, g2, q, s2, t2, ext, nw.trans ext n2, d'⟩
  cases ex with
  | normal =>
   intro b kk2 cs
   obtain ⟨m, e2', g', hm, wk, hi'⟩ := kk
   obtain ⟨J2, n2, s2, t2⟩ := wk J w' N a'.tmps s' t'
   obtain ⟨e2, a2, w2, p2, r2⟩ := ih m hm e2' g' hi' _ B F code hc J2 w' a' s2 t2 d' b kk2 cs
   exact ⟨e2, a2, w2, post_trans ext (nw.trans ext n2) p2, r2⟩
  | exit i => exact out kk
  | goto l => exact out kk
  | ret => exact out kk
  | panic ch => exact out kk
  | outgrown => exact out kk
theorem okRead_mono {o : Option AV} {K K' : AV → Prop} (m : ∀ v, K v → K' v) (k : okRead o K) : okRead o K' := by cases o with | none => exact k | some v => exact m v k
theorem aguard_mono {x : AV} {w : Bool} {A B A' B' : Unit → Prop} (a : A () → A' ()) (b : B () → B' ()) (k : aguard x w A B) : aguard x w A' B' := by
 unfold aguard at k ⊢
 split at k
 ·split at k
  ·rename_i hh; rw [if_pos hh]; exact a k
  ·rename_i hh; rw [if_neg hh]; exact b k
 ·exact b k
 ·exact k
theorem aop_mono [GI] {P : Program} {K K' : AV → AHeap → Prop} (m : ∀ v g, K v g → K' v g) {e : Env} {h : AHeap} {r : ROp} (k : aop P K e h r) : aop P K' e h r := by
 cases r with
 | rd r => exact okRead_mono (fun v => m v h) k
 | ef r => exact aeff_mono m k
theorem aops_mono [GI] {P : Program} : ∀ (l : List ROper) {K K' : Env → AHeap → Prop} (m : ∀ e h, K e h → K' e h) {e : Env} {h : AHeap}, aops P l K e h → aops P l K' e h
 | [], K, K', m, e, h, k => m e h k
 | ⟨dst, op, none⟩ :: r, K, K', m, e, h, k => aop_mono (fun v g => aops_mono r m) k
 | ⟨dst, op, some (s, w)⟩ :: r, K, K', m, e, h, k => aguard_mono (aop_mono fun v g => aops_mono r m) (aops_mono r m) k
theorem dop_mono [GI] {P : Program} {o : ROper} {H : Held} {K K' : AV → AHeap → Held → Prop} (m : ∀ v g H, K v g H → K' v g H) {e : Env} {h : AHeap} {r : ROp} (k : dop P o H K e h r) : dop P o H K' e h r := by
 cases r with
 | rd r => exact okRead_mono (fun v => m v h _) k
 | ef r =>
  simp only [dop] at k ⊢
  exact aeff_mono (fun v g q => ⟨q.1, m v g _ q.2⟩) k
theorem dops_mono [GI] {P : Program} : ∀ (l : List ROper) {H : Held} {K K' : Env → AHeap → Prop} (m : ∀ e h, K e h → K' e h) {e : Env} {h : AHeap}, dops P l H K e h → dops P l H K' e h
 | [], H, K, K', m, e, h, k => m e h k
 | ⟨dst, op, none⟩ :: r, H, K, K', m, e, h, k => dop_mono (fun v g H => dops_mono r m) k
 | ⟨dst, op, some (s, w)⟩ :: r, H, K, K', m, e, h, k => aguard_mono (dop_mono fun v g H => dops_mono r m) (dops_mono r m) k
theorem L_mono [GI] {P : Program} {N : Nat} {c : RCode} {Q Q' : Exit → Env → AHeap → Prop} (m : ∀ x e h, Q x e h → Q' x e h) {e : Env} {h : AHeap} (k : L P N c Q e h) : L P N c Q' e h := by
 intro DD B F code hc I w a s t hd b kk cs
 obtain ⟨e2, a2, w2, ⟨J, e', g, q, rest⟩, r2⟩ := k _ B F code hc I w a s t hd b kk cs
 exact ⟨e2, a2, w2, ⟨J, e', g, m _ _ _ q, rest⟩, r2⟩
theorem onNormal_mono {K K' : Env → AHeap → Prop} {Q Q' : Exit → Env → AHeap → Prop} (a : ∀ e h, K e h → K' e h) (m : ∀ x e h, Q x e h → Q' x e h) : ∀ x e h, onNormal K Q x e h → onNormal K' Q' x e h := by
 intro x e h k
 cases x <;> first | exact a e h k | exact m _ e h k
theorem okFrz_mono {K K' : Env → AHeap → Prop} : ∀ (ds : List Nat) (m : ∀ e h, K e h → K' e h) (e : Env) (h : AHeap), okFrz ds K e h → okFrz ds K' e h
 | [], m, e, h, k => m e h k
 | d :: ds, m, e, h, k => by
  simp only [okFrz] at k ⊢
  split at k
  ·rename_i b hb
   split at k
   ·rename_i cs total ty hg
    exact okFrz_mono ds m _ _ k
   ·exact k
  ·exact k
theorem W_mono [GI] {P : Program} {N : Nat} : ∀ (c : RCode) {Q Q' : Exit → Env → AHeap → Prop} (m : ∀ x e h, Q x e h → Q' x e h) {e : Env} {h : AHeap}, W P N c Q e h → W P N c Q' e h := by
 intro c
 induction c with
 | bad => intro Q Q' m e h k; exact k
 | skip => intro Q Q' m e h k; exact m _ _ _ k
 | reg ops => intro Q Q' m e h k; exact aops_mono ops (m .normal) k
 | dreg ops => intro Q Q' m e h k; exact dops_mono ops (m .normal) k
 | dreg2 a b => intro Q Q' m e h k; exact ⟨dops_mono a (m .normal) k.1, dops_mono b (m .normal) k.2⟩
 | frz c ds ih => intro Q Q' m e h k; exact ih (onNormal_mono (okFrz_mono ds (m .normal)) m) k
 | seq a b iha ihb => intro Q Q' m e h k; exact iha (onNormal_mono (fun e h => ihb m) m) k
 | cond c a b iha ihb =>
  intro Q Q' m e h k
  simp only [W] at k ⊢
  unfold agate at k ⊢
  split at k
  ·split at k
   ·rename_i hh; rw [if_pos hh]; exact iha m k
   ·rename_i hh; rw [if_neg hh]; exact ihb m k
  ·exact k
 | block id c ih =>
  intro Q Q' m e h k
  refine ih ?_ k
  intro x e h q
  cases x <;> first | exact m _ e h q | skip
  simp only [onExit] at q ⊢
  split at q
  ·rename_i hh; rw [if_pos hh]; exact m _ _ _ q
  ·rename_i hh; rw [if_neg hh]; exact m _ _ _ q
 | loop c ih => intro Q Q' m e h k; exact L_mono m k
 | exit id => intro Q Q' m e h k; exact m _ _ _ k
 | ret => intro Q Q' m e h k; exact m _ _ _ k
 | scope c ih =>
  intro Q Q' m e h k
  refine ih ?_ k
  intro x e h q
  cases x <;> first | exact m _ e h q | exact q
def lessQ [GI] (Q : Exit → Env → AHeap → Tok → Prop) (x : Exit) (e : Env) (h : AHeap) : Prop := ∃ e' g, WeakE e h e' g ∧ Q x e' g .go
theorem lessQ.same [GI] {Q : Exit → Env → AHeap → Tok → Prop} {x : Exit} {e : Env} {h : AHeap} (q : Q x e h .go) : lessQ Q x e h := ⟨e, h, .refl e h, q⟩
theorem lessQ.to [GI] {Q : Exit → Env → AHeap → Tok → Prop} {x : Exit} {e e' : Env} {h g : AHeap} (wk : WeakE e h e' g) (q : Q x e' g .go) : lessQ Q x e h := ⟨e', g, wk, q⟩
def lessI [GI] (Inv : Nat → Env → AHeap → Prop) (n : Nat) (e : Env) (h : AHeap) : Prop := ∃ m e' g, m < n ∧ WeakE e h e' g ∧ Inv m e' g
theorem lessI.to [GI] {Inv : Nat → Env → AHeap → Prop} {n : Nat} {e : Env} {h : AHeap} (m : Nat) (e' : Env) (g : AHeap) (hm : m < n) (wk : WeakE e h e' g) (i : Inv m e' g) : lessI Inv n e h := ⟨m, e', g, hm, wk, i⟩
theorem L_weak [GI] {P : Program} {N : Nat} {c : RCode} {Q : Exit → Env → AHeap → Prop} {e e' : Env} {h h' : AHeap} (wk : WeakE e h e' h') (k : L P N c Q e' h') : L P N c Q e h := by
 intro DD B F code hc I w a s t hd
 obtain ⟨J, n, s', t'⟩ := wk I w N a.tmps s t
 intro b kk cs
 obtain ⟨e2, a2, w2, p2, r2⟩ := k _ B F code hc J w a s' t' hd b kk cs
 exact ⟨e2, a2, w2, post_trans (.refl h w) n p2, r2⟩
theorem lT_inv2 [GI] {P : Program} {N : Nat} {c : RCode} {Q : Exit → Env → AHeap → Tok → Prop} (Inv : Nat → Env → AHeap → Prop) (n : Nat) {e e' : Env} {h h' : AHeap} (wk : WeakE e h e' h') (i : Inv n e' h')
  (step : ∀ n e h, Inv n e h → wT .go P N c (fun x e h t => onNormalT t (fun e h t => lessI Inv n e h) (fun x e h t => lessQ Q x e h) x e h) e h) : lT .go P N c Q e h :=
 L_weak wk (L_inv2 (Inv := Inv) step n e' h' i)
theorem lT_list [GI] {P : Program} {N : Nat} {c : RCode} {Q : Exit → Env → AHeap → Tok → Prop} {X : Type} (l : List X) (Inv : List X → List X → Env → AHeap → Prop) {e e' : Env} {h h' : AHeap} (wk : WeakE e h e' h') (i : Inv [] l e' h')
  (step : ∀ pre x post e h, l = pre ++ x :: post → Inv pre (x :: post) e h → wT .go P N c (fun y e h t => onNormalT t (fun e h t => ∃ e' g, WeakE e h e' g ∧ Inv (pre ++ [x]) post e' g) (fun y e h t => lessQ Q y e h) y e h) e h)
  (done : ∀ e h, Inv l [] e h → wT .go P N c (fun y e h t => onNormalT t (fun e h t => False) (fun y e h t => lessQ Q y e h) y e h) e h) : lT .go P N c Q e h := by
 refine lT_inv2 (fun n e h => ∃ pre post, l = pre ++ post ∧ post.length = n ∧ Inv pre post e h) l.length wk ⟨[], l, rfl, rfl, i⟩ ?_
 rintro n e h ⟨pre, post, hl, hn, hi⟩
 have mono : ∀ {K K' : Env → AHeap → Prop}, (∀ e h, K e h → K' e h) → wT .go P N c (fun y e h t => onNormalT t (fun e h t => K e h) (fun y e h t => lessQ Q y e h) y e h) e h → wT .go P N c (fun y e h t => onNormalT t (fun e h t => K' e h) (fun y e h t => lessQ Q y e h) y e h) e h := by
  intro K K' m k
  exact W_mono c (fun y e h q => by cases y <;> first | exact m _ _ q | exact q) k
 cases post with
 | nil =>
  rw [List.append_nil] at hl; subst hl
  exact mono (fun e h f => f.elim) (done e h hi)
 | cons x post =>
  refine mono ?_ (step pre x post e h hl hi)
  rintro e h ⟨e', g, wk, hi'⟩
  exact ⟨post.length, e', g, by simp at hn; omega, wk, pre ++ [x], post, by rw [hl]; simp, rfl, hi'⟩
def GL (ty : TypeId) (size : Nat) (h0 h : AHeap) (v : AV) (rows : List (List AV)) : Prop :=
 (∀ e ∈ rows, e.length = size) ∧ ((v = .sl rows true ∧ h = h0) ∨ ∃ b cap, h0 b = none ∧ rows.length ≤ cap ∧ v = .gs rows b cap ∧ h = h0.upd b (.tail (rows.length * size) (cap * size) ty))
theorem GL.full {ty : TypeId} {size : Nat} (h : AHeap) {rows : List (List AV)} (hs : ∀ e ∈ rows, e.length = size) : GL ty size h h (.sl rows true) rows := ⟨hs, .inl ⟨rfl, rfl⟩⟩
theorem GL.nil {ty : TypeId} {size : Nat} (h : AHeap) : GL ty size h h (.sl [] true) [] := .full h (by simp)
theorem GL.avle {ty : TypeId} {size : Nat} {h0 h : AHeap} {v : AV} {rows : List (List AV)} (g : GL ty size h0 h v rows) : AVle v (.sl rows false) := by
 rcases g.2 with ⟨rfl, _⟩ | ⟨b, cap, _, _, rfl, _⟩
 ·exact .sl _ _
 ·exact .gs _ _ _
theorem GL.le {ty : TypeId} {size : Nat} {h0 h : AHeap} {v : AV} {rows : List (List AV)} (g : GL ty size h0 h v rows) : h0.le h := by
 rcases g.2 with ⟨_, rfl⟩ | ⟨b, cap, hb, _, _, rfl⟩
 ·exact AHeap.le_refl _
 ·exact AHeap.le_upd hb
theorem GL.at {ty : TypeId} {size : Nat} {h0 h : AHeap} {v : AV} {rows : List (List AV)} (g : GL ty size h0 h v rows) {b : Nat} {o : AObj} (e : h0 b = some o) : h b = some o := g.le b o e
theorem GL.len {ty : TypeId} {size : Nat} {h0 h : AHeap} {v : AV} {rows : List (List AV)} (g : GL ty size h0 h v rows) (k : AHeap) : alen k 1 v = some (.int .i64 rows.length) := by
 rcases g.2 with ⟨rfl, _⟩ | ⟨b, cap, _, _, rfl, _⟩ <;> rfl
theorem GL.cells {ty : TypeId} {size : Nat} {h0 h : AHeap} {v : AV} {rows : List (List AV)} (g : GL ty size h0 h v rows) : v.cells? = some [v] := by
 rcases g.2 with ⟨rfl, _⟩ | ⟨b, cap, _, _, rfl, _⟩ <;> rfl
theorem GL.aia {ty : TypeId} {size : Nat} {h0 h : AHeap} {v : AV} {rows : List (List AV)} (g : GL ty size h0 h v rows) (k : IntKind) {i : Nat} {e : List AV} (he : rows[i]? = some e) : aia size v (.int k i) = some (.ip e 0) := by
 have hl := g.1 e (List.mem_of_getElem? he)
 rcases g.2 with ⟨rfl, _⟩ | ⟨b, cap, _, _, rfl, _⟩ <;> simp only [Pg.aia] <;> rw [if_pos (Int.natCast_nonneg i), Int.toNat_natCast, he] <;> simp only <;> rw [if_pos hl]
theorem GL.elems {ty : TypeId} {size : Nat} {h0 h : AHeap} {v : AV} {rows : List (List AV)} (g : GL ty size h0 h v rows) (k : AHeap) (s : Nat) : aelems k s v = some (rows.length, rows.flatten) := by
 rcases g.2 with ⟨rfl, _⟩ | ⟨b, cap, _, _, rfl, _⟩ <;> rfl
theorem GL.fit {ty : TypeId} {size : Nat} {h0 h : AHeap} {v : AV} {rows : List (List AV)} (g : GL ty size h0 h v rows) : elemsFit size v := by
 rcases g.2 with ⟨rfl, _⟩ | ⟨b, cap, _, _, rfl, _⟩ <;> exact g.1
theorem GL.upd {ty : TypeId} {size : Nat} {h0 h : AHeap} {v : AV} {rows : List (List AV)} (g : GL ty size h0 h v rows) {p : Nat} {x : AObj} (hp : h0 p = some x) (o : AObj) : GL ty size (h0.upd p o) (h.upd p o) v rows := by
 refine ⟨g.1, ?_⟩
 rcases g.2 with ⟨rfl, rfl⟩ | ⟨b, cap, hb, hc, rfl, rfl⟩
 ·exact .inl ⟨rfl, rfl⟩
 ·have hne : b ≠ p := by intro hh; subst hh; rw [hb] at hp; cases hp
  exact .inr ⟨b, cap, by rw [upd_ne _ _ _ hne]; exact hb, hc, rfl, upd_comm _ _ _ hne⟩
theorem GL.fresh {ty : TypeId} {size : Nat} {h0 h : AHeap} {v : AV} {rows : List (List AV)} (g : GL ty size h0 h v rows) {p : Nat} (hp : h p = none) (o : AObj) : GL ty size (h0.upd p o) (h.upd p o) v rows := by
 refine ⟨g.1, ?_⟩
 rcases g.2 with ⟨rfl, rfl⟩ | ⟨b, cap, hb, hc, rfl, rfl⟩
 ·exact .inl ⟨rfl, rfl⟩
 ·obtain ⟨hne, _⟩ := upd_none hp
  exact .inr ⟨b, cap, by rw [upd_ne _ _ _ hne.symm]; exact hb, hc, rfl, upd_comm _ _ _ hne.symm⟩
theorem GL.swap {ty ty' : TypeId} {size size' : Nat} {h0 h1 h2 : AHeap} {v v' : AV} {rows rows' : List (List AV)} (g : GL ty size h0 h1 v rows) (g' : GL ty' size' h1 h2 v' rows') : ∃ k, GL ty' size' h0 k v' rows' ∧ GL ty size k h2 v rows := by
 obtain ⟨s', c'⟩ := g'
 rcases c' with ⟨rfl, rfl⟩ | ⟨b', cap', hb', hc', rfl, rfl⟩
 ·exact ⟨h0, .full _ s', g⟩
 ·have : h0 b' = none := by
   cases hh : h0 b' with
   | none => rfl
   | some x => rw [g.at hh] at hb'; cases hb'
  exact ⟨_, ⟨s', .inr ⟨b', cap', this, hc', rfl, rfl⟩⟩, g.fresh hb' _⟩
theorem GL.append {ty : TypeId} {size bytes : Nat} {h0 h : AHeap} {v : AV} {rows : List (List AV)} (g : GL ty size h0 h v rows) {m : Nat} {xs : List AV} {new : List (List AV)} (hm : new.length = m) (hx : new.flatten = xs) (hn : ∀ e ∈ new, e.length = size) (room : roomFor (rows.length + m) bytes)
  {K : AV → AHeap → Tok → Prop} (k : ∀ v' h', GL ty size h0 h' v' (rows ++ new) → K v' h' .go) : appendT .go h ty size bytes v m xs K := by
 have hch : chunks size m xs = new := by
  subst hm hx
  clear k room g
  induction new with
  | nil => rfl
  | cons e es ih =>
   have he := hn e (by simp)
   simp only [List.length_cons, chunks, List.flatten_cons]
   rw [List.take_left' he, List.drop_left' he, ih (fun x hx => hn x (by simp [hx]))]
 have hall : ∀ e ∈ rows ++ new, e.length = size := by
  intro e he
  rcases List.mem_append.1 he with h | h
  ·exact g.1 e h
  ·exact hn e h
 unfold appendT aappend
 rcases g.2 with ⟨rfl, rfl⟩ | ⟨b, cap, hb, hc, rfl, rfl⟩
 ·simp only
  refine ⟨fun h => ?_, fun _ => ⟨trivial, room, g.1, .inr ?_⟩⟩
  ·have : new = [] := List.eq_nil_of_length_eq_zero (by omega)
   subst this
   exact k _ _ (by rw [List.append_nil]; exact .full _ g.1)
  ·intro b cap hb hc
   rw [hch]
   refine k _ _ ⟨hall, .inr ⟨b, cap, hb, by rw [List.length_append, hm]; exact hc, rfl, by rw [List.length_append, hm]⟩⟩
 ·simp only [upd_same]
  refine ⟨trivial, trivial, trivial, hc, g.1, room, ?_⟩
  rw [del_upd _ _ _ hb, hch]
  intro b' cap' hb' hc'
  exact k _ _ ⟨hall, .inr ⟨b', cap', hb', by rw [List.length_append, hm]; exact hc', rfl, by rw [List.length_append, hm]⟩⟩
theorem GL.append1 {ty : TypeId} {size bytes : Nat} {h0 h : AHeap} {v : AV} {rows : List (List AV)} (g : GL ty size h0 h v rows) {xs : List AV} (hn : xs.length = size) (room : roomFor (rows.length + 1) bytes)
  {K : AV → AHeap → Tok → Prop} (k : ∀ v' h', GL ty size h0 h' v' (rows ++ [xs]) → K v' h' .go) : appendT .go h ty size bytes v 1 xs K :=
 g.append (new := [xs]) rfl (by simp) (by simpa using hn) room k
theorem EndW.less [GI] {K : AV → AHeap → Prop} {v v' : AV} {g g' : AHeap} (a : AVle v v') (le : g'.le g) (k : K v' g') : EndW K v g :=
 ⟨_, _, (WeakV.forget le).trans (WeakV.less fun I us r => by
  obtain ⟨u, us', rfl, r1, r2⟩ := r.uncons
  exact .cons (a I u r1) r2), k⟩
theorem fresh_ne {h : AHeap} {p q : Nat} {o : AObj} (hq : h.upd p o q = none) : p ≠ q := by intro hh; subst hh; rw [upd_same] at hq; cases hq
theorem fresh_of {h : AHeap} {p q : Nat} {o : AObj} (hq : h.upd p o q = none) : h q = none := by rw [← hq, upd_ne _ _ _ (fresh_ne hq).symm]
theorem upd_self {h : AHeap} {b : Nat} {o : AObj} (e : h b = some o) : h.upd b o = h := by
 funext c; simp only [AHeap.upd]; split
 ·rename_i hh; subst hh; exact e.symm
 ·rfl
def mapupT (t : Tok) (h : AHeap) (ks : List Nat) (m k v : AV) (K : AV → AHeap → Tok → Prop) : Prop := match m with
 | .map (some r) => match h r with
  | some (.mp es) => match aset ks k v es with
   | some es' => keyFits ks k = true ∧ K .any (h.upd r (.mp es')) t
   | none => False
  | _ => False
 | _ => False
theorem t_mapup [GI] (P : Program) (h : AHeap) (va : ROpd → AV) (K : AV → AHeap → Tok → Prop) (ks : List Nat) (m k v : ROpd) : aeffT .go P va h K (.mapup ks m k v) = mapupT .go h ks (va m) (va k) (va v) K := rfl
theorem mapupT_of {h : AHeap} {ks : List Nat} {r : Nat} {k v : AV} {es es' : List (AV × AV)} {K : AV → AHeap → Tok → Prop} (h1 : h r = some (.mp es)) (h2 : aset ks k v es = some es') (h3 : keyFits ks k = true) (kk : K .any (h.upd r (.mp es')) .go) : mapupT .go h ks (.map (some r)) k v K := by
 simp only [mapupT, h1, h2]; exact ⟨h3, kk⟩
theorem cells_gs (es : List (List AV)) (b c : Nat) : (AV.gs es b c).cells? = some [.gs es b c] := rfl
theorem alen_gs (h : AHeap) (es : List (List AV)) (b c : Nat) : alen h 1 (.gs es b c) = some (.int .i64 es.length) := rfl
end Pg
namespace Pg
open Go
theorem pgPre : type_of% (And.intro @Pg.t_seq (And.intro @Pg.t_reg (And.intro @Pg.t_dreg (And.intro @Pg.t_dreg2 (And.intro @Pg.t_ops_nil (And.intro @Pg.t_ops_plain (And.intro @Pg.t_ops_guard (And.intro @Pg.t_dops_nil (And.intro @Pg.t_dops_plain (And.intro @Pg.t_dops_guard (And.intro @Pg.t_op_rd (And.intro @Pg.t_op_ef (And.intro @Pg.t_dop_rd (And.intro @Pg.t_dop_ef (And.intro @Pg.t_box (And.intro @Pg.t_alloc (And.intro @Pg.t_mkmap (And.intro @Pg.t_append (And.intro @Pg.t_appendz (And.intro @Pg.t_mksl (And.intro @Pg.t_call (And.intro @Pg.t_callv (And.intro @Pg.t_inv (And.intro @Pg.t_callv_func (And.intro @Pg.t_rng (And.intro @Pg.t_nxt (And.intro @Pg.t_rngs (And.intro @Pg.t_nxts (And.intro @Pg.t_store (And.intro @Pg.t_skip (And.intro @Pg.t_ret (And.intro @Pg.t_exit (And.intro @Pg.t_cond (And.intro @Pg.t_block (And.intro @Pg.t_scope (And.intro @Pg.t_loop (And.intro @Pg.t_onNormal_normal (And.intro @Pg.t_onNormal_exit (And.intro @Pg.t_onNormal_ret (And.intro @Pg.t_onExit_normal (And.intro @Pg.t_onExit_ret (And.intro @Pg.t_onExit_exit (And.intro @Pg.t_noGoto_normal (And.intro @Pg.t_noGoto_ret (And.intro @Pg.t_noGoto_exit (And.intro @Pg.t_end_normal (And.intro @Pg.t_end_ret (And.intro @Pg.t_ev_t (And.intro @Pg.t_ev_c (And.intro @Pg.t_get_some (And.intro @Pg.t_get_none (And.intro @Pg.t_get_cons (And.intro @Pg.t_get_nil (And.intro @Pg.t_frz (And.intro @Pg.t_frz_nil (And.intro @Pg.t_frz_cons @Pg.t_bsle)))))))))))))))))))))))))))))))))))))))))))))))))))))))) := And.intro @Pg.t_seq (And.intro @Pg.t_reg (And.intro @Pg.t_dreg (And.intro @Pg.t_dreg2 (And.intro @Pg.t_ops_nil (And.intro @Pg.t_ops_plain (And.intro @Pg.t_ops_guard (And.intro @Pg.t_dops_nil (And.intro @Pg.t_dops_plain (And.intro @Pg.t_dops_guard (And.intro @Pg.t_op_rd (And.intro @Pg.t_op_ef (And.intro @Pg.t_dop_rd (And.intro @Pg.t_dop_ef (And.intro @Pg.t_box (And.intro @Pg.t_alloc (And.intro @Pg.t_mkmap (And.intro @Pg.t_append (And.intro @Pg.t_appendz (And.intro @Pg.t_mksl (And.intro @Pg.t_call (And.intro @Pg.t_callv (And.intro @Pg.t_inv (And.intro @Pg.t_callv_func (And.intro @Pg.t_rng (And.intro @Pg.t_nxt (And.intro @Pg.t_rngs (And.intro @Pg.t_nxts (And.intro @Pg.t_store (And.intro @Pg.t_skip (And.intro @Pg.t_ret (And.intro @Pg.t_exit (And.intro @Pg.t_cond (And.intro @Pg.t_block (And.intro @Pg.t_scope (And.intro @Pg.t_loop (And.intro @Pg.t_onNormal_normal (And.intro @Pg.t_onNormal_exit (And.intro @Pg.t_onNormal_ret (And.intro @Pg.t_onExit_normal (And.intro @Pg.t_onExit_ret (And.intro @Pg.t_onExit_exit (And.intro @Pg.t_noGoto_normal (And.intro @Pg.t_noGoto_ret (And.intro @Pg.t_noGoto_exit (And.intro @Pg.t_end_normal (And.intro @Pg.t_end_ret (And.intro @Pg.t_ev_t (And.intro @Pg.t_ev_c (And.intro @Pg.t_get_some (And.intro @Pg.t_get_none (And.intro @Pg.t_get_cons (And.intro @Pg.t_get_nil (And.intro @Pg.t_frz (And.intro @Pg.t_frz_nil (And.intro @Pg.t_frz_cons @Pg.t_bsle)))))))))))))))))))))))))))))))))))))))))))))))))))))))
theorem pgPost : type_of% (And.intro @Pg.t_cells (And.intro @Pg.t_elems (And.intro @Pg.t_read (And.intro @Pg.t_or (And.intro @Pg.t_gate_tt (And.intro @Pg.t_gate_ff (And.intro @Pg.t_gate_tf (And.intro @Pg.t_gate_ft (And.intro @Pg.t_gate_not (And.intro @Bool.not_not (And.intro @Pg.t_res_none (And.intro @Pg.t_res_one (And.intro @Pg.t_res_two (And.intro @Pg.t_evs_nil (And.intro @Pg.t_evs_cons (And.intro @Pg.t_evr_tmp (And.intro @Pg.t_evr_cell (And.intro @Pg.t_held_nil (And.intro @Pg.t_held_cons (And.intro @Pg.t_held_taint (And.intro @Pg.cells_bool (And.intro @Pg.cells_int (And.intro @Pg.cells_str (And.intro @Pg.cells_ptr (And.intro @Pg.cells_ip (And.intro @Pg.cells_sl (And.intro @Pg.cells_os (And.intro @Pg.cells_map (And.intro @Pg.cells_func (And.intro @Pg.cells_nilFunc (And.intro @Pg.cells_iface (And.intro @Pg.cells_nilIface (And.intro @Pg.cells_agg (And.intro @decide_true (And.intro @decide_false (And.intro @Pg.upd_same (And.intro @Bool.not_false (And.intro @Bool.not_true (And.intro @Option.isNone_some.{0} (And.intro @Option.isNone_none.{0} (And.intro @Nat.zero_add (And.intro @List.getElem?_cons_zero.{0} (And.intro @List.getElem?_cons_succ.{0} (And.intro @Pg.splice_nil (And.intro @Pg.splice_zero (And.intro @Pg.splice_succ (And.intro @List.length_cons.{0} (And.intro @List.length_nil.{0} (And.intro @List.map_cons.{0, 0} (And.intro @List.map_nil.{0, 0} (And.intro @Option.map_some.{0, 0} (And.intro @Option.map_none.{0, 0} (And.intro @List.take_zero.{0} (And.intro @List.take_succ_cons.{0} (And.intro @List.take_nil.{0} (And.intro @List.drop_zero.{0} (And.intro @List.drop_succ_cons.{0} (And.intro @List.drop_nil.{0} (And.intro @List.append_nil.{0} (And.intro @List.nil_append.{0} (And.intro @List.cons_append.{0} (And.intro @Bool.false_eq_true (And.intro @Bool.true_eq_false (And.intro @and_true (And.intro @true_and (And.intro @or_false (And.intro @false_or (And.intro @or_true (And.intro @true_or (And.intro @Int.cast_ofNat_Int (And.intro @Bool.and_true (And.intro @Bool.true_and (And.intro @Bool.and_false (And.intro @Bool.false_and (And.intro @Bool.and_self (And.intro @Pg.alen_sl (And.intro @Pg.alen_os (And.intro @Pg.alen_str (And.intro @List.flatten_cons.{0} (And.intro @List.flatten_nil.{0} (And.intro @List.mem_singleton.{0} (And.intro @Pg.t_guard_bool (And.intro @Pg.t_guard_undef (And.intro @Pg.t_mapup (And.intro @Pg.cells_gs (And.intro @Pg.alen_gs (And.intro @Pg.t_frz_ptr (And.intro @Pg.t_frz_blk (And.intro @Option.isSome_some.{0} @Option.isSome_none.{0}))))))))))))))))))))))))))))))))))))))))))))))))))))))))))))))))))))))))))))))))))))))))) := And.intro @Pg.t_cells (And.intro @Pg.t_elems (And.intro @Pg.t_read (And.intro @Pg.t_or (And.intro @Pg.t_gate_tt (And.intro @Pg.t_gate_ff (And.intro @Pg.t_gate_tf (And.intro @Pg.t_gate_ft (And.intro @Pg.t_gate_not (And.intro @Bool.not_not (And.intro @Pg.t_res_none (And.intro @Pg.t_res_one (And.intro @Pg.t_res_two (And.intro @Pg.t_evs_nil (And.intro @Pg.t_evs_cons (And.intro @Pg.t_evr_tmp (And.intro @Pg.t_evr_cell (And.intro @Pg.t_held_nil (And.intro @Pg.t_held_cons (And.intro @Pg.t_held_taint (And.intro @Pg.cells_bool (And.intro @Pg.cells_int (And.intro @Pg.cells_str (And.intro @Pg.cells_ptr (And.intro @Pg.cells_ip (And.intro @Pg.cells_sl (And.intro @Pg.cells_os (And.intro @Pg.cells_map (And.intro @Pg.cells_func (And.intro @Pg.cells_nilFunc (And.intro @Pg.cells_iface (And.intro @Pg.cells_nilIface (And.intro @Pg.cells_agg (And.intro @decide_true (And.intro @decide_false (And.intro @Pg.upd_same (And.intro @Bool.not_false (And.intro @Bool.not_true (And.intro @Option.isNone_some.{0} (And.intro @Option.isNone_none.{0} (And.intro @Nat.zero_add (And.intro @List.getElem?_cons_zero.{0} (And.intro @List.getElem?_cons_succ.{0} (And.intro @Pg.splice_nil (And.intro @Pg.splice_zero (And.intro @Pg.splice_succ (And.intro @List.length_cons.{0} (And.intro @List.length_nil.{0} (And.intro @List.map_cons.{0, 0} (And.intro @List.map_nil.{0, 0} (And.intro @Option.map_some.{0, 0} (And.intro @Option.map_none.{0, 0} (And.intro @List.take_zero.{0} (And.intro @List.take_succ_cons.{0} (And.intro @List.take_nil.{0} (And.intro @List.drop_zero.{0} (And.intro @List.drop_succ_cons.{0} (And.intro @List.drop_nil.{0} (And.intro @List.append_nil.{0} (And.intro @List.nil_append.{0} (And.intro @List.cons_append.{0} (And.intro @Bool.false_eq_true (And.intro @Bool.true_eq_false (And.intro @and_true (And.intro @true_and (And.intro @or_false (And.intro @false_or (And.intro @or_true (And.intro @true_or (And.intro @Int.cast_ofNat_Int (And.intro @Bool.and_true (And.intro @Bool.true_and (And.intro @Bool.and_false (And.intro @Bool.false_and (And.intro @Bool.and_self (And.intro @Pg.alen_sl (And.intro @Pg.alen_os (And.intro @Pg.alen_str (And.intro @List.flatten_cons.{0} (And.intro @List.flatten_nil.{0} (And.intro @List.mem_singleton.{0} (And.intro @Pg.t_guard_bool (And.intro @Pg.t_guard_undef (And.intro @Pg.t_mapup (And.intro @Pg.cells_gs (And.intro @Pg.alen_gs (And.intro @Pg.t_frz_ptr (And.intro @Pg.t_frz_blk (And.intro @Option.isSome_some.{0} @Option.isSome_none.{0}))))))))))))))))))))))))))))))))))))))))))))))))))))))))))))))))))))))))))))))))))))))))
attribute [go_sem ↓] pgPre
attribute [go_sem] pgPost EnvLe AVle_refl wrap_one aread envOf apeq boolNeg afa aload abin aun amn amx aext aconv abeq anilc RRead.still REff.allocs evParts afill astore aseq cellsEq cellEq eq_self if_true if_false chunks aelems elemsFit forall_eq aentry entryAt abx afld
end Pg
namespace Pg
open Go
def AVto (I J : Imm) (a b : AV) : Prop := ∀ v, Rd I a v → Rd J b v
theorem AVto.refl {I J : Imm} (le : I.le J) (a : AV) : AVto I J a a := fun v r => r.mono le
theorem AVto.sl0 {I J : Imm} (le : I.le J) (es : List (List AV)) (f : Bool) : AVto I J (.sl es f) (.sl es false) := fun v r => r.sl_open.mono le
def AVtos (I J : Imm) (xs ys : List AV) : Prop := ∀ vs, Rds I xs vs → Rds J ys vs
theorem AVtos.nil (I J : Imm) : AVtos I J [] [] := fun vs r => by have := r.of_nil; subst this; exact .nil _
theorem AVtos.cons {I J : Imm} {a b : AV} {xs ys : List AV} (h : AVto I J a b) (r : AVtos I J xs ys) : AVtos I J (a :: xs) (b :: ys) := by
 intro vs hr
 obtain ⟨v, vs', rfl, h1, h2⟩ := hr.uncons
 exact .cons (h v h1) (r vs' h2)
theorem AVto.agg {I J : Imm} {xs ys : List AV} (h : AVtos I J xs ys) : AVto I J (.agg xs) (.agg ys) := by
 intro v r
 obtain ⟨vs, rfl, r1, r2⟩ := r.inv_agg
 exact .of_agg (h vs r1) r2
theorem AVto.one {I J : Imm} (le : I.le J) {xs ys : List AV} {f : Bool} (hl : xs.length = ys.length) (h : AVtos I J xs ys) : AVto I J (.sl [xs] f) (.sl [ys] false) := by
 intro v r
 obtain ⟨a, cap, rfl, h1, h2, h3, h4, h5⟩ := r.inv_sl
 rcases h5 with h5 | ⟨b, o, size, vss, rfl, R⟩
 ·cases h5
 ·refine Rd.of_rows (es := [ys]) (vss := vss) false h1 (fun h => by cases h) ⟨by rw [← R.len]; rfl, ?_, fun i vs j v e1 e2 => le _ _ _ (R.mem i vs j v e1 e2), R.one, ?_⟩
  ·intro i e vs e1 e2
   cases i with
   | zero =>
    simp only [List.getElem?_cons_zero, Option.some.injEq] at e1; subst e1
    have := R.size_ 0 xs vs rfl e2
    exact ⟨by rw [← hl]; exact this.1, this.2⟩
   | succ i => simp at e1
  ·intro i e vs j c v e1 e2 e3 e4
   cases i with
   | zero =>
    simp only [List.getElem?_cons_zero, Option.some.injEq] at e1; subst e1
    have hs := R.size_ 0 xs vs rfl e2
    exact (h vs ⟨by rw [hs.1, hs.2], fun j c v e3 e4 => R.rd 0 xs vs j c v rfl e2 e3 e4⟩).at_ j c v e3 e4
   | succ i => simp at e1
theorem AVto.os {I J : Imm} {b : Nat} {cs : List AV} {us : List Value} (hm : ∀ (j : Nat) (u : Value), us[j]? = some u → J b j = some u) (r : Rds J cs us) (h1 : Ones us) : AVto I J (.os b 1 1) (.sl [cs] false) := by
 intro v hv
 have := hv.inv_os; subst this
 refine Rd.of_rows (es := [cs]) (b := b) (o := 0) (size := cs.length) (vss := [us]) false (Nat.le_refl _) (fun h => by cases h) ⟨rfl, ?_, ?_, ?_, ?_⟩
 ·intro i e vs e1 e2
  cases i with
  | zero => simp at e1 e2; subst e1 e2; exact ⟨rfl, r.len.symm⟩
  | succ i => simp at e1
 ·intro i vs j v e1 e2
  cases i with
  | zero => simp at e1; subst e1; simpa using hm j v e2
  | succ i => simp at e1
 ·intro i vs e1
  cases i with
  | zero => simp at e1; subst e1; exact h1
  | succ i => simp at e1
 ·intro i e vs j c v e1 e2 e3 e4
  cases i with
  | zero => simp at e1 e2; subst e1 e2; exact r.at_ j c v e3 e4
  | succ i => simp at e1
end Pg
namespace Pg
open Go
end Pg
