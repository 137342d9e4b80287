import Derived.Test.YtdfbkddelhbgmaaGreatDoorCore11S3
import Derived.Laws.BitsLemmas
import Derived.Handed
import Derived.JoinedCond
import Derived.ChangeSame
import Derived.Carry
import Derived.DataReads
import Derived.ChangeArms
import Derived.RowKit
import Derived.Attr
set_option linter.all false
namespace Pg
open Go
inductive kL where
 | tmp (t : Nat)
 | cell (a : Nat) (n : Option Nat)
 deriving Inhabited
def X4 (P : Program) : ResultVar → Option kL
 | .tmp t => some (.tmp t)
 | .cell a t => match P.underlying t with
  | some (.struct _) | some (.array _ _) => (P.info? t).map fun i => .cell a (some i.size)
  | some _ => some (.cell a none)
  | none => none
def tW (P : Program) : List ResultVar → Option (List kL)
 | [] => some []
 | x :: r => match X4 P x, tW P r with | some a, some l => some (a :: l) | _, _ => none
def BS (e : Env) (h : AHeap) : kL → Option AV
 | .tmp t => some (e.get t)
 | .cell a n => gW h n (e.get a)
def hY (e : Env) (h : AHeap) : List kL → Option (List AV)
 | [] => some []
 | x :: r => match BS e h x, hY e h r with | some a, some l => some (a :: l) | _, _ => none
def tZ (o : Option (List AV)) (K : AV → Prop) : Prop := match o with | some [v] => K v | some vs => K (.tuple vs) | none => False
def atEnd (rs : List kL) (K : AV → AHeap → Prop) : Exit → Env → AHeap → Prop
 | .normal, e, h | .ret, e, h => tZ (hY e h rs) fun v => K v h
 | _, _, _ => False
def oJ (i : Nat) : List AV → Env
 | [] => []
 | a :: r => (i, a) :: oJ (i + 1) r
theorem NY (args : List AV) : ∀ (i t : Nat), (oJ i args).get t = if i ≤ t then (args[t - i]?).getD .any else .any := by
 induction args with
 | nil => intro i t; simp [oJ, Env.get]
 | cons a r ih =>
  intro i t
  simp only [oJ, Env.get]
  by_cases h : i = t
  ·subst h; simp
  ·rw [if_neg h, ih]
   by_cases h2 : i + 1 ≤ t
   ·rw [if_pos h2, if_pos (by omega)]
    rw [show t - i = (t - (i + 1)) + 1 by omega, List.getElem?_cons_succ]
   ·rw [if_neg h2]
    rw [if_neg (by omega)]
def JV (tmps : Array Value) : ResultVar → Sem Value
 | .tmp t => pure (tmps.getD t undef)
 | .cell a t => do loadVar t (← asAddr (tmps.getD a undef))
theorem aBv [GI] {P : Program} {I : Imm} {N : Nat} {e : Env} {h : AHeap} {w : World} {tmps : Array Value} (s : dC I N e tmps) (t : Sat w I h) {x : ResultVar} {r : kL} {v : AV} (hr : X4 P x = some r) (hv : BS e h r = some v) :
  ∃ u, (JV tmps x).run P w = .ok u w ∧ Rd I v u := by
 cases x with
 | tmp k =>
  simp only [X4, Option.some.injEq] at hr; subst hr
  simp only [BS, Option.some.injEq] at hv; subst hv
  exact ⟨_, rfl, s.at_ k⟩
 | cell a ty =>
  have key : ∀ n : Option Nat, r = .cell a n → (∀ (b o' : Nat), (match n with
    | some m => ∀ vs : List Value, vs.length = m → (∀ (j : Nat) (u : Value), vs[j]? = some u → w.cell? ⟨b, o' + j, none⟩ = some u) → (loadVar ty ⟨b, o', none⟩).run P w = .ok (.agg vs.toArray) w
    | none => ∀ u, w.cell? ⟨b, o', none⟩ = some u → (loadVar ty ⟨b, o', none⟩).run P w = .ok u w)) →
    ∃ u, (do loadVar ty (← asAddr (tmps.getD a undef)) : Sem Value).run P w = .ok u w ∧ Rd I v u := by
   intro n hn H
   subst hn
   simp only [BS] at hv
   obtain ⟨b, o', hp, hc⟩ := HJ t (s.at_ a) hv
   have H' := H b o'
   cases n with
   | some m =>
    simp only at hc H'
    obtain ⟨vs, h1, h2, h3⟩ := hc
    exact ⟨_, by simp only [Sem.run_bind, hp, asAddr, Sem.run_pure, Result.andThen_ok]; exact H' vs h1 h2, h3⟩
   | none =>
    simp only at hc H'
    obtain ⟨u, h1, h2⟩ := hc
    exact ⟨_, by simp only [Sem.run_bind, hp, asAddr, Sem.run_pure, Result.andThen_ok]; exact H' u h1, h2⟩
  simp only [X4] at hr
  split at hr
  ·rename_i fs hu
   simp only [Option.map_eq_some_iff] at hr
   obtain ⟨i, hi, rfl⟩ := hr
   exact key _ rfl fun b o' vs h1 h2 => pG hu rfl hi w b o' vs h1 h2
  ·rename_i n el hu
   simp only [Option.map_eq_some_iff] at hr
   obtain ⟨i, hi, rfl⟩ := hr
   exact key _ rfl fun b o' vs h1 h2 => pG hu rfl hi w b o' vs h1 h2
  ·rename_i d hd1 hd2 hu
   simp only [Option.some.injEq] at hr
   subst hr
   exact key none rfl fun b o' u h1 => yB hu (by cases d <;> simp_all [xW]) w b o' u h1
  ·cases hr
theorem BR [GI] {P : Program} {I : Imm} {N : Nat} {e : Env} {h : AHeap} {w : World} {tmps : Array Value} (s : dC I N e tmps) (t : Sat w I h) : ∀ {xs : List ResultVar} {rs : List kL} {vs : List AV}, tW P xs = some rs → hY e h rs = some vs →
  ∃ us : List Value, (xs.mapM (JV tmps)).run P w = .ok us w ∧ Rds I vs us
 | [], rs, vs, hr, hv => by
  simp only [tW, Option.some.injEq] at hr; subst hr
  simp only [hY, Option.some.injEq] at hv; subst hv
  exact ⟨[], rfl, .nil I⟩
 | x :: r, rs, vs, hr, hv => by
  simp only [tW] at hr
  split at hr
  ·rename_i a l h1 h2
   simp only [Option.some.injEq] at hr; subst hr
   simp only [hY] at hv
   split at hv
   ·rename_i v l' h3 h4
    simp only [Option.some.injEq] at hv; subst hv
    obtain ⟨u, q1, q2⟩ := aBv (P := P) s t h1 h3
    obtain ⟨us, q3, q4⟩ := BR s t h2 h4
    refine ⟨u :: us, ?_, .cons q2 q4⟩
    rw [List.mapM_cons]
    simp only [Sem.run_bind, q1, q3, Result.andThen_ok, Sem.run_pure]
   ·cases hv
  ·cases hr
theorem U9 [GI] {P : Program} {B F : List Nat} {f : FuncId} {fn : Func} {code : Code} {rc : RCode} {rs : List kL} (hf : P.funcs[f]? = some fn) (hb : fn.body = some code) (N : Nat) (hN : fn.ntmps = N) (hc : fF P N B F code = some rc) (hr : tW P fn.results.toList = some rs)
  {args : List AV} {h : AHeap} {K : AV → AHeap → Prop} (hn : args.length ≤ N) (k : W P N rc (atEnd rs K) (oJ 0 args) h) : aD P f args h K := by
 subst hN
 intro I w vs ra t
 have henv : dC I fn.ntmps (oJ 0 args) (vs.toArray ++ Array.replicate (fn.ntmps - vs.toArray.size) undef) := by
  have hl := ra.len
  refine ⟨by simp; omega, ?_⟩
  intro u
  rw [NY]
  simp only [Nat.zero_le, if_true, Nat.sub_zero, Array.getD_eq_getD_getElem?]
  cases hu : args[u]? with
  | none => exact .any _
  | some a =>
   obtain ⟨v, hv, rd⟩ := ra.get hu
   have hlt : u < vs.length := by
    rcases Nat.lt_or_ge u vs.length with h' | h'
    ·exact h'
    ·rw [List.getElem?_eq_none h'] at hv; cases hv
   rw [Array.getElem?_append_left (by simpa using hlt)]
   simp only [List.getElem?_toArray, hv, Option.getD_some]
   exact rd
 refine calls_of_wp hf hb (wp_mono (AJ rc _ _ h k _ B F code hc I w ⟨_, []⟩ henv t rfl) ?_)
 intro x a' w' hpost
 obtain ⟨J, e', g, kk, s', t', ext, n, d'⟩ := hpost
 have fin : tZ (hY e' g rs) (fun v => K v g) → ∃ v, (results fn a'.tmps).run P w' = .ok v w' ∧ ∃ J' r g', K r g' ∧ Rd J' r v ∧ Sat w' J' g' ∧ Ext h w w' ∧ New w I J' h g' := by
  intro ko
  cases he : hY e' g rs with
  | none => simp [he, tZ] at ko
  | some ws =>
   obtain ⟨us, q1, q2⟩ := BR (P := P) s' t' hr he
   have hres : (results fn a'.tmps).run P w' = .ok (if h : us.toArray.size = 1 then us.toArray[0] else .tuple us.toArray) w' := by
    have hdef : results fn a'.tmps = (do
      let vs ← fn.results.mapM (JV a'.tmps)
      pure (if h : vs.size = 1 then vs[0] else .tuple vs)) := by
     unfold results
     congr 1
     try (congr 1; funext x; cases x <;> rfl)
    rw [hdef, ← Array.toArray_toList (xs := fn.results), List.mapM_toArray]
    simp only [Sem.run_bind, Sem.run_map, q1, Result.andThen_ok, Sem.run_pure]
   rw [he] at ko
   match ws, q2 with
   | [], q2 =>
    have := q2.of_nil; subst this
    exact ⟨_, hres, J, _, g, ko, .iU (.nil J), t', ext, n⟩
   | [x1], q2 =>
    obtain ⟨u, us', rfl, r1, r2⟩ := q2.dN
    have := r2.of_nil; subst this
    exact ⟨_, hres, J, _, g, ko, r1, t', ext, n⟩
   | x1 :: x2 :: r, q2 =>
    obtain ⟨u, us', rfl, r1, r2⟩ := q2.dN
    obtain ⟨u2, us2, rfl, r3, r4⟩ := r2.dN
    refine ⟨_, hres, J, _, g, ko, ?_, t', ext, n⟩
    simp only [List.size_toArray, List.length_cons]
    rw [dif_neg (by omega)]
    exact .iU q2
 cases x with
 | normal =>
  obtain ⟨v, h1, h2⟩ := fin kk
  exact ⟨d', v, h1, v, rfl, h2⟩
 | ret =>
  obtain ⟨v, h1, h2⟩ := fin kk
  exact ⟨d', v, h1, v, rfl, h2⟩
 | exit i => exact kk.elim
 | goto l => exact kk.elim
 | panic c => exact kk.elim
 | outgrown => exact kk.elim
theorem aBJ [GI] {P : Program} {B F : List Nat} {f : FuncId} {fn : Func} {rc : RCode} {rs : List kL} (N : Nat) (hf : P.funcs[f]? = some fn) (hN : fn.ntmps = N) (hc : fn.body.bind (fF P N B F) = some rc) (hr : tW P fn.results.toList = some rs)
  {args : List AV} {h : AHeap} {K : AV → AHeap → Prop} (hn : args.length ≤ N) (k : W P N rc (atEnd rs K) (oJ 0 args) h) : aD P f args h K := by
 cases hb : fn.body with
 | none => rw [hb] at hc; cases hc
 | some code => rw [hb] at hc; exact U9 hf hb N hN hc hr hn k
end Pg
namespace Pg
open Go
inductive Tok where
 | go
def L2 (t : Tok) (o : Option AV) (K : AV → Tok → Prop) : Prop := dJ o fun v => K v .go
def aDy (t : Tok) (o : Option AHeap) (K : AHeap → Tok → Prop) : Prop := sH o fun v => K v .go
def H7 (t : Tok) (o : Option (List AV)) (K : List AV → Tok → Prop) : Prop := gJ o fun v => K v .go
def P7 (t : Tok) (o : Option (Nat × List AV)) (K : Nat → List AV → Tok → Prop) : Prop := rP o fun m v => K m v .go
def wK (t : Tok) (h : AHeap) (K : Nat → Tok → Prop) : Prop := iY h fun b => K b .go
def s8 (t : Tok) (x : AV) (w : Bool) (A B : Tok → Prop) : Prop := OX x w (fun _ => A .go) (fun _ => B .go)
def KD (t : Tok) (x : AV) (w : Bool) (A B : Tok → Prop) : Prop := uW x w (fun _ => A .go) (fun _ => B .go)
def uG [GI] (t : Tok) (P : Program) (f : FuncId) (args : List AV) (h : AHeap) (K : AV → AHeap → Tok → Prop) : Prop := aD P f args h fun v g => K v g .go
def jZ (t : Tok) (h : AHeap) (ty : TypeId) (size bytes : Nat) (s : AV) (m : Nat) (xs : List AV) (K : AV → AHeap → Tok → Prop) : Prop := gZ h ty size bytes s m xs fun v g => K v g .go
def mF [GI] (t : Tok) (P : Program) (va : aV → AV) (h : AHeap) (K : AV → AHeap → Tok → Prop) (r : REff) : Prop := eY P va h (fun v g => K v g .go) r
def ZI [GI] (t : Tok) (P : Program) (K : AV → AHeap → Tok → Prop) (e : Env) (h : AHeap) (r : ROp) : Prop := aop P (fun v g => K v g .go) e h r
def yY [GI] (t : Tok) (P : Program) (l : List ROper) (K : Env → AHeap → Tok → Prop) (e : Env) (h : AHeap) : Prop := iN P l (fun e h => K e h .go) e h
def Y6 [GI] (t : Tok) (P : Program) (o : ROper) (H : Held) (K : AV → AHeap → Held → Tok → Prop) (e : Env) (h : AHeap) (r : ROp) : Prop := dop P o H (fun v g H => K v g H .go) e h r
def vY [GI] (t : Tok) (P : Program) (l : List ROper) (H : Held) (K : Env → AHeap → Tok → Prop) (e : Env) (h : AHeap) : Prop := sR P l H (fun e h => K e h .go) e h
def wT [GI] (t : Tok) (P : Program) (N : Nat) (c : RCode) (Q : Exit → Env → AHeap → Tok → Prop) (e : Env) (h : AHeap) : Prop := W P N c (fun x e h => Q x e h .go) e h
def lT [GI] (t : Tok) (P : Program) (N : Nat) (c : RCode) (Q : Exit → Env → AHeap → Tok → Prop) (e : Env) (h : AHeap) : Prop := L P N c (fun x e h => Q x e h .go) e h
def kD (t : Tok) (K : Env → AHeap → Tok → Prop) (Q : Exit → Env → AHeap → Tok → Prop) (x : Exit) (e : Env) (h : AHeap) : Prop := pO (fun e h => K e h .go) (fun x e h => Q x e h .go) x e h
def FE (t : Tok) (i : Nat) (Q : Exit → Env → AHeap → Tok → Prop) (x : Exit) (e : Env) (h : AHeap) : Prop := JY i (fun x e h => Q x e h .go) x e h
def FH (t : Tok) (Q : Exit → Env → AHeap → Tok → Prop) (x : Exit) (e : Env) (h : AHeap) : Prop := noGoto (fun x e h => Q x e h .go) x e h
def uO (t : Tok) (o : Option (List AV)) (K : AV → Prop) : Prop := tZ o K
def xV (t : Tok) (rs : List kL) (K : AV → AHeap → Prop) (x : Exit) (e : Env) (h : AHeap) : Prop := atEnd rs K x e h
def Z9 (os : List ROper) (T : List Nat) : List Nat := os.foldl (fun T o => iQ o T) T
def QK : List ROper → List Nat → Bool
 | [], _ => false
 | o :: os, T => uB o T || QK os (iQ o T)
def EA (os : List ROper) (o : ROper) (T : List Nat) : Bool := QK os T || mD o (Z9 os T)
def vW (t : Tok) (os : List ROper) (o : ROper) (H : Held) (g : AHeap) : Prop := ∀ e ∈ H, e.2 g ∨ EA os o e.1 = true
def DZ (t : Tok) (ds : List Nat) (K : Env → AHeap → Tok → Prop) (e : Env) (h : AHeap) : Prop := yI ds (fun e h => K e h .go) e h
def Y0 (t : Tok) (o : Option AObj) (b d : Nat) (ds : List Nat) (K : Env → AHeap → Tok → Prop) (e : Env) (h : AHeap) : Prop := match o with
 | some (.blk cs _ _) => DZ t ds K (e.put (some d) (.ip cs 0)) (h.del b)
 | _ => False
def aDB (t : Tok) (x : AV) (d : Nat) (ds : List Nat) (K : Env → AHeap → Tok → Prop) (e : Env) (h : AHeap) : Prop := match x with
 | .ptr (some ⟨b, 0, none⟩) => Y0 t (h b) b d ds K e h
 | _ => False
section
variable (P : Program) (N : Nat) (e : Env) (h g : AHeap)
theorem aAc (v : AV) (K : AV → Tok → Prop) : L2 .go (some v) K = K v .go := rfl
theorem aEO (v : AHeap) (K : AHeap → Tok → Prop) : aDy .go (some v) K = K v .go := rfl
theorem V0 (v : List AV) (K : List AV → Tok → Prop) : H7 .go (some v) K = K v .go := rfl
theorem VW (m : Nat) (v : List AV) (K : Nat → List AV → Tok → Prop) : P7 .go (some (m, v)) K = K m v .go := rfl
theorem DF (b w : Bool) (A B : Tok → Prop) : KD .go (.bool b) w A B = s8 .go (.bool b) w A B := rfl
theorem CN (w : Bool) (A B : Tok → Prop) : KD .go (.tuple []) w A B = B .go := rfl
theorem MR (A B : Tok → Prop) : s8 .go (.bool true) true A B = A .go := rfl
theorem MU (A B : Tok → Prop) : s8 .go (.bool false) false A B = A .go := rfl
theorem MS (A B : Tok → Prop) : s8 .go (.bool true) false A B = B .go := rfl
theorem MT (A B : Tok → Prop) : s8 .go (.bool false) true A B = B .go := rfl
theorem JB (b w : Bool) (A B : Tok → Prop) : s8 .go (.bool (!b)) w A B = s8 .go (.bool b) (!w) A B := by cases b <;> cases w <;> rfl
theorem VQ [GI] (va : aV → AV) (K : AV → AHeap → Tok → Prop) (s : Nat) (x v : aV) : mF .go P va h K (.store s x v) = aDy .go (mB h s (va x) (va v)) (K .any) := rfl
theorem aDm [GI] (va : aV → AV) (K : AV → AHeap → Tok → Prop) (ty : TypeId) (x : aV) : mF .go P va h K (.box ty x) = H7 .go (va x).cells? (fun ds t => wK t h fun b t => K (.ptr (some ⟨b, 0, none⟩)) (h.upd b (.blk ds ds.length ty)) t) := rfl
theorem V3 [GI] (va : aV → AV) (K : AV → AHeap → Tok → Prop) (ty : TypeId) (z : List AV) : mF .go P va h K (.alloc ty z) = wK .go h fun b t => K (.ptr (some ⟨b, 0, none⟩)) (h.upd b (.blk z z.length ty)) t := rfl
theorem VU [GI] (va : aV → AV) (K : AV → AHeap → Tok → Prop) : mF .go P va h K .q9 = wK .go h fun b t => K (.map (some b)) (h.upd b (.mp [])) t := rfl
theorem aAm [GI] (va : aV → AV) (K : AV → AHeap → Tok → Prop) (ty : TypeId) (s l : Nat) (z : List AV) (ps : List (Nat × Nat × aV)) : mF .go P va h K (.vG ty s l z ps) = H7 .go (mE z (fO va ps)) (fun cs t => wK t h fun b t => K (.os b l l) (h.upd b (.blk cs cs.length ty)) t) := rfl
theorem PB [GI] (va : aV → AV) (K : AV → AHeap → Tok → Prop) (ty : TypeId) (s b : Nat) (x y : aV) : mF .go P va h K (.append ty s b x y) = P7 .go (lG h s (va y)) (fun m xs t => rG s (va y) ∧ jZ t h ty s b (va x) m xs K) := rfl
def aC1 (t : Tok) (h : AHeap) (ty : TypeId) (b : Nat) (z s n : AV) (K : AV → AHeap → Tok → Prop) : Prop := match n with
  | .int .i64 m => 0 ≤ m ∧ m ≤ 9223372036854775807 ∧ m * b ≤ 2 ^ 48 ∧ jZ t h ty 1 b s m.toNat (List.replicate m.toNat z) K
  | _ => False
theorem M1 [GI] (va : aV → AV) (K : AV → AHeap → Tok → Prop) (ty : TypeId) (b : Nat) (z : AV) (x y : aV) : mF .go P va h K (.r6 ty b z x y) = aC1 .go h ty b z (va x) (va y) K := rfl
def aFN (t : Tok) (h : AHeap) (ty : TypeId) (b : Nat) (z l c : AV) (K : AV → AHeap → Tok → Prop) : Prop := match l, c with
  | .int .i64 l, .int .i64 c => l = c ∧ 0 ≤ l ∧ l ≤ 9223372036854775807 ∧ (b : Int) * l ≤ 2 ^ 48 ∧ wK t h fun b t => K (.os b l.toNat l.toNat) (h.upd b (.blk (List.replicate l.toNat z) l.toNat ty)) t
  | _, _ => False
theorem aAe [GI] (va : aV → AV) (K : AV → AHeap → Tok → Prop) (ty : TypeId) (b : Nat) (z : AV) (x y : aV) : mF .go P va h K (.D4 ty b z x y) = aFN .go h ty b z (va x) (va y) K := rfl
theorem aAl [GI] (va : aV → AV) (K : AV → AHeap → Tok → Prop) (f : FuncId) (args : List aV) : mF .go P va h K (.call f args) = uG .go P f (args.map va) h K := rfl
def aBF [GI] (t : Tok) (P : Program) (f : AV) (args : List AV) (h : AHeap) (K : AV → AHeap → Tok → Prop) : Prop := match f with
  | .func (.func f) first captured => eD P f = true ∧ uG t P f (first ++ args ++ captured) h K
  | _ => False
theorem V1 [GI] (va : aV → AV) (K : AV → AHeap → Tok → Prop) (f : aV) (args : List aV) : mF .go P va h K (.yU f args) = aBF .go P (va f) (args.map va) h K := rfl
def aCL [GI] (t : Tok) (P : Program) (name : String) (x : AV) (args : List AV) (h : AHeap) (K : AV → AHeap → Tok → Prop) : Prop := match x with
 | .iface ty v => match AD P ty name with
  | some f => eD P f = true ∧ uG t P f (v :: args) h K
  | none => False
 | _ => False
theorem aDk [GI] (va : aV → AV) (K : AV → AHeap → Tok → Prop) (name : String) (x : aV) (args : List aV) : mF .go P va h K (.inv name x args) = aCL .go P name (va x) (args.map va) h K := rfl
theorem L7 [GI] {P : Program} {name : String} {ty : TypeId} {v : AV} {args : List AV} {h : AHeap} {K : AV → AHeap → Tok → Prop} {f : FuncId} (hf : AD P ty name = some f) (hc : eD P f = true) (k : uG .go P f (v :: args) h K) : aCL .go P name (.iface ty v) args h K := by
 unfold aCL; simp only [hf]; exact ⟨hc, k⟩
def aFZ (t : Tok) (h : AHeap) (x : AV) (K : AV → AHeap → Tok → Prop) : Prop := RB h x fun v g => K v g .go
def aF4 (t : Tok) (h : AHeap) (x : AV) (K : AV → AHeap → Tok → Prop) : Prop := RF h x fun v g => K v g .go
theorem aAb [GI] (va : aV → AV) (K : AV → AHeap → Tok → Prop) (x : aV) : mF .go P va h K (.DT x) = KZ h (va x) (fun v g => K v g .go) := rfl
theorem aAd [GI] (va : aV → AV) (K : AV → AHeap → Tok → Prop) (x : aV) : mF .go P va h K (.D1 x) = CB h (va x) (fun v g => K v g .go) := rfl
theorem aDg [GI] (va : aV → AV) (K : AV → AHeap → Tok → Prop) (x : aV) : mF .go P va h K (.rng x) = aFZ .go h (va x) K := rfl
theorem aDj [GI] (va : aV → AV) (K : AV → AHeap → Tok → Prop) (x : aV) : mF .go P va h K (.nxt x) = aF4 .go h (va x) K := rfl
theorem DJ [GI] (f : FuncId) (first captured args : List AV) (K : AV → AHeap → Tok → Prop) : aBF .go P (.func (.func f) first captured) args h K = (eD P f = true ∧ uG .go P f (first ++ args ++ captured) h K) := rfl
theorem VS [GI] (K : AV → AHeap → Tok → Prop) (r : RRead) : ZI .go P K e h (.rd r) = L2 .go (bS (ev e) h r) (fun v t => K v h t) := rfl
theorem VT [GI] (K : AV → AHeap → Tok → Prop) (r : REff) : ZI .go P K e h (.ef r) = mF .go P (ev e) h K r := rfl
theorem MP [GI] (K : Env → AHeap → Tok → Prop) : yY .go P [] K e h = K e h .go := rfl
theorem F2 [GI] (K : Env → AHeap → Tok → Prop) (d : Option Nat) (op : ROp) (r : List ROper) : yY .go P (⟨d, op, none⟩ :: r) K e h = ZI .go P (fun av g t => yY t P r K (e.put d av) g) e h op := rfl
theorem F3 [GI] (K : Env → AHeap → Tok → Prop) (d : Option Nat) (op : ROp) (s : Nat) (w : Bool) (r : List ROper) : yY .go P (⟨d, op, some (s, w)⟩ :: r) K e h = KD .go (e.get s) w (fun t => ZI t P (fun av g t => yY t P r K (e.put d av) g) e h op) (fun t => yY t P r K (e.put d (.tuple [])) h) := rfl
theorem O9 [GI] (o : ROper) (H : Held) (K : AV → AHeap → Held → Tok → Prop) (q : RRead) : Y6 .go P o H K e h (.rd q) = L2 .go (bS (ev e) h q) (fun av t => K av h (if q.still = true then cG o H else (o.dst.toList, fun g => bS (ev e) g q = some av) :: cG o H) t) := rfl
theorem PA [GI] (o : ROper) (H : Held) (K : AV → AHeap → Held → Tok → Prop) (q : REff) : Y6 .go P o H K e h (.ef q) = mF .go P (ev e) h (fun av g t => (q.oR = true ∨ vW t [] o H g) ∧ K av g (cG o H) t) q := rfl
theorem JF [GI] (H : Held) (K : Env → AHeap → Tok → Prop) : vY .go P [] H K e h = K e h .go := rfl
theorem DH [GI] (H : Held) (K : Env → AHeap → Tok → Prop) (d : Option Nat) (op : ROp) (r : List ROper) : vY .go P (⟨d, op, none⟩ :: r) H K e h = Y6 .go P ⟨d, op, none⟩ H (fun av g H' t => vY t P r H' K (e.put d av) g) e h op := rfl
theorem DI [GI] (H : Held) (K : Env → AHeap → Tok → Prop) (d : Option Nat) (op : ROp) (s : Nat) (w : Bool) (r : List ROper) : vY .go P (⟨d, op, some (s, w)⟩ :: r) H K e h = KD .go (e.get s) w (fun t => Y6 t P ⟨d, op, some (s, w)⟩ H (fun av g H' t => vY t P r H' K (e.put d av) g) e h op) (fun t => vY t P r (cG ⟨d, op, some (s, w)⟩ H) K (e.put d (.tuple [])) h) := rfl
theorem I7 (os : List ROper) (o : ROper) : vW .go os o [] g = True := by simp [vW]
theorem GA (os : List ROper) (o : ROper) (T : List Nat) (p : AHeap → Prop) (H : Held) : vW .go os o ((T, p) :: H) g = ((p g ∨ EA os o T = true) ∧ vW .go os o H g) := by simp [vW]
theorem DE (os : List ROper) (o o' : ROper) (H : Held) : vW .go os o (cG o' H) g = vW .go (o' :: os) o H g := by
 apply propext
 have key : ∀ e : List Nat × (AHeap → Prop), (uQ o' e.1 e.2 g ∨ EA os o (iQ o' e.1) = true) ↔ (e.2 g ∨ EA (o' :: os) o e.1 = true) := by
  intro e
  simp only [EA, QK, uQ, Z9, List.foldl_cons]
  cases uB o' e.1 <;> simp
 unfold vW cG
 constructor
 ·intro k e he
  exact (key e).1 (k _ (List.mem_map.2 ⟨e, he, rfl⟩))
 ·intro k x hx
  obtain ⟨e, he, rfl⟩ := List.mem_map.1 hx
  exact (key e).2 (k e he)
variable (Q : Exit → Env → AHeap → Tok → Prop)
theorem aAa [GI] : wT .go P N .skip Q e h = Q .normal e h .go := rfl
theorem aDh [GI] : wT .go P N .ret Q e h = Q .ret e h .go := rfl
theorem aAg [GI] (i : Nat) : wT .go P N (.exit i) Q e h = Q (.exit i) e h .go := rfl
theorem aDi [GI] (ops : List ROper) : wT .go P N (.reg ops) Q e h = yY .go P ops (fun e h t => Q .normal e h t) e h := rfl
theorem aAj [GI] (ops : List ROper) : wT .go P N (.nX ops) Q e h = vY .go P ops [] (fun e h t => Q .normal e h t) e h := rfl
theorem VZ [GI] (a b : List ROper) : wT .go P N (.BV a b) Q e h = (vY .go P a [] (fun e h t => Q .normal e h t) e h ∧ vY .go P b [] (fun e h t => Q .normal e h t) e h) := rfl
theorem aDl [GI] (c : RCode) (ds : List Nat) : wT .go P N (.frz c ds) Q e h = wT .go P N c (fun x e h t => kD t (fun e h t => DZ t ds (fun e h t => Q .normal e h t) e h) Q x e h) e h := rfl
theorem MW (K : Env → AHeap → Tok → Prop) : DZ .go [] K e h = K e h .go := rfl
theorem JC (d : Nat) (ds : List Nat) (K : Env → AHeap → Tok → Prop) : DZ .go (d :: ds) K e h = aDB .go (e.get d) d ds K e h := rfl
theorem MV (b d : Nat) (ds : List Nat) (K : Env → AHeap → Tok → Prop) : aDB .go (.ptr (some ⟨b, 0, none⟩)) d ds K e h = Y0 .go (h b) b d ds K e h := rfl
theorem MX (cs : List AV) (n : Nat) (ty : TypeId) (b d : Nat) (ds : List Nat) (K : Env → AHeap → Tok → Prop) : Y0 .go (some (.blk cs n ty)) b d ds K e h = DZ .go ds K (e.put (some d) (.ip cs 0)) (h.del b) := rfl
theorem aDf [GI] (a b : RCode) : wT .go P N (.seq a b) Q e h = wT .go P N a (fun x e h t => kD t (fun e h t => wT t P N b Q e h) Q x e h) e h := rfl
theorem aAk [GI] (c : aV) (a b : RCode) : wT .go P N (.cond c a b) Q e h = s8 .go (ev e c) true (fun t => wT t P N a Q e h) (fun t => wT t P N b Q e h) := rfl
theorem V2 [GI] (i : Nat) (c : RCode) : wT .go P N (.block i c) Q e h = wT .go P N c (fun x e h t => FE t i Q x e h) e h := rfl
theorem VR [GI] (c : RCode) : wT .go P N (.scope c) Q e h = wT .go P N c (fun x e h t => FH t Q x e h) e h := rfl
theorem aAf [GI] (c : RCode) : wT .go P N (.loop c) Q e h = lT .go P N c Q e h := rfl
theorem vK (K : Env → AHeap → Tok → Prop) : kD .go K Q .normal e h = K e h .go := rfl
theorem x8 (K : Env → AHeap → Tok → Prop) (i : Nat) : kD .go K Q (.exit i) e h = Q (.exit i) e h .go := rfl
theorem zP (K : Env → AHeap → Tok → Prop) : kD .go K Q .ret e h = Q .ret e h .go := rfl
theorem x9 (i : Nat) : FE .go i Q .normal e h = Q .normal e h .go := rfl
theorem DB (i : Nat) : FE .go i Q .ret e h = Q .ret e h .go := rfl
theorem CL (i j : Nat) : FE .go j Q (.exit i) e h = if i = j then Q .normal e h .go else Q (.exit i) e h .go := rfl
theorem yA : FH .go Q .normal e h = Q .normal e h .go := rfl
theorem DC : FH .go Q .ret e h = Q .ret e h .go := rfl
theorem CM (i : Nat) : FH .go Q (.exit i) e h = Q (.exit i) e h .go := rfl
theorem DG (rs : List kL) (K : AV → AHeap → Prop) : xV .go rs K .normal e h = uO .go (hY e h rs) (fun v => K v h) := rfl
theorem M0 (rs : List kL) (K : AV → AHeap → Prop) : xV .go rs K .ret e h = uO .go (hY e h rs) (fun v => K v h) := rfl
theorem I6 (K : AV → Prop) : uO .go (some []) K = K (.tuple []) := rfl
theorem MO (v : AV) (K : AV → Prop) : uO .go (some [v]) K = K v := rfl
theorem MN (u v : AV) (r : List AV) (K : AV → Prop) : uO .go (some (u :: v :: r)) K = K (.tuple (u :: v :: r)) := rfl
theorem I8 (s t : Nat) (v : AV) : Env.get (Env.put e (some s) v) t = if s = t then v else e.get t := rfl
theorem I9 (t : Nat) (v : AV) : Env.get (Env.put e none v) t = e.get t := rfl
theorem JA (s t : Nat) (v : AV) : Env.get ((s, v) :: e) t = if s = t then v else e.get t := rfl
theorem MQ (t : Nat) : Env.get [] t = .any := rfl
theorem aAh (n : Nat) : ev e (.t n) = e.get n := rfl
theorem aAi (v : AV) : ev e (.c v) = v := rfl
theorem MY : hY e h [] = some [] := rfl
theorem JD (x : kL) (r : List kL) : hY e h (x :: r) = match BS e h x, hY e h r with | some a, some l => some (a :: l) | _, _ => none := rfl
theorem MZ (t : Nat) : BS e h (.tmp t) = some (e.get t) := rfl
theorem JE (a : Nat) (n : Option Nat) : BS e h (.cell a n) = gW h n (e.get a) := rfl
end
theorem cP {b w : Bool} {A B : Tok → Prop} (h1 : b = w → A .go) (h2 : b = (!w) → B .go) : s8 .go (.bool b) w A B := by
 cases b <;> cases w <;> first | exact h1 rfl | exact h2 rfl
theorem gR [GI] {P : Program} {N : Nat} {c : RCode} {Q : Exit → Env → AHeap → Tok → Prop} {e : Env} {h : AHeap} (k : wT .go P N c (fun x e h t => kD t (fun e h t => lT t P N c Q e h) Q x e h) e h) : lT .go P N c Q e h := aEH k
theorem aW [GI] {P : Program} {f : FuncId} {args : List AV} {h : AHeap} {K : AV → AHeap → Prop} {K' : AV → AHeap → Tok → Prop} (c : aD P f args h K) (m : ∀ v g, K v g → K' v g .go) : uG .go P f args h K' := c.mono m
theorem aS {h : AHeap} {K : Nat → Tok → Prop} (k : ∀ b, h b = none → K b .go) : wK .go h K := k
def nA [GI] (vs : List AV) (h : AHeap) (vs' : List AV) (h' : AHeap) : Prop :=
 ∀ (I : Imm) (w : World) (us : List Value), Rds I vs us → Sat w I h → ∃ J, New w I J h h' ∧ Rds J vs' us ∧ Sat w J h'
theorem nA.refl [GI] (vs : List AV) (h : AHeap) : nA vs h vs h := fun I w us r s => ⟨I, .refl w I h, r, s⟩
theorem nA.trans [GI] {a b c : List AV} {h g k : AHeap} (x : nA a h b g) (y : nA b g c k) : nA a h c k := by
 intro I w us r s
 obtain ⟨J, n, r1, s1⟩ := x I w us r s
 obtain ⟨K, m, r2, s2⟩ := y J w us r1 s1
 exact ⟨K, n.trans (.refl h w) m, r2, s2⟩
theorem nA.forget [GI] {vs : List AV} {h h' : AHeap} (le : h'.le h) : nA vs h vs h' := fun I w us r s => ⟨I, (New.refl w I h).forget le, r, s.forget le⟩
theorem nA.less [GI] {vs vs' : List AV} {h : AHeap} (H : ∀ I us, Rds I vs us → Rds I vs' us) : nA vs h vs' h := fun I w us r s => ⟨I, .refl w I h, H I us r, s⟩
theorem aD.aBU [GI] {P : Program} {f : FuncId} {args : List AV} {h : AHeap} {K : AV → AHeap → Prop} (c : aD P f args h fun v g => ∃ v' g', nA [v] g [v'] g' ∧ K v' g') : aD P f args h K := by
 intro I w vs r s
 refine (c I w vs r s).mono ?_
 rintro e w' ⟨v, he, J, x, g, ⟨x', g', wk, k⟩, rd, s', ex, n⟩
 obtain ⟨J', n', r', s''⟩ := wk J w' [v] (.cons rd (.nil J)) s'
 obtain ⟨v', _, e1, r1, _⟩ := r'.dN
 cases e1
 exact ⟨v, he, J', x', g', k, r1, s'', ex, n.trans ex n'⟩
def eE [GI] (K : AV → AHeap → Prop) (v : AV) (g : AHeap) : Prop := ∃ v' g', nA [v] g [v'] g' ∧ K v' g'
theorem eE.same [GI] {K : AV → AHeap → Prop} {v : AV} {g : AHeap} (k : K v g) : eE K v g := ⟨v, g, .refl _ _, k⟩
theorem eE.forget [GI] {K : AV → AHeap → Prop} {v : AV} {g g' : AHeap} (le : g'.le g) (k : K v g') : eE K v g := ⟨v, g', .forget le, k⟩
abbrev qr (d : Nat) (r : RRead) : ROper := ⟨some d, .rd r, none⟩
abbrev qg (d : Nat) (r : RRead) (s : Nat) (w : Bool) : ROper := ⟨some d, .rd r, some (s, w)⟩
abbrev qe (d : Nat) (r : REff) : ROper := ⟨some d, .ef r, none⟩
abbrev qu (r : REff) : ROper := ⟨none, .ef r, none⟩
abbrev aJ [GI] (P : Program) (f : FuncId) (N : Nat) (rc : RCode) (rs : List kL) : Prop := ∀ {args : List AV} {h : AHeap} {K : AV → AHeap → Prop}, args.length ≤ N → wT .go P N rc (fun x e h t => xV t rs (eE K) x e h) (oJ 0 args) h → aD P f args h K
abbrev aT (P : Program) (N : Nat) (B F : List Nat) (fn : Func) := {c : RCode // fn.body.bind (fF P N B F) = some c}
theorem aG [GI] {P : Program} (B F : List Nat) {f : FuncId} {fn : Func} {rc : RCode} {rs : List kL} (N : Nat) (hf : P.funcs[f]? = some fn) (hN : fn.ntmps = N) (hc : fn.body.bind (fF P N B F) = some rc) (hr : tW P fn.results.toList = some rs) : aJ P f N rc rs :=
 fun hn k => aD.aBU (aBJ N hf hN hc hr hn k)
theorem BN [GI] {w : World} {I : Imm} {h : AHeap} (s : Sat w I h) {b total size : Nat} {ty : TypeId} {es : List (List AV)} {cs : List AV} (hb : h b = some (.blk cs total ty)) (hcs : es.flatten = cs.take (es.length * size)) (hs : ∀ e ∈ es, e.length = size) :
  ∃ J, New w I J h (h.del b) ∧ Sat w J (h.del b) ∧ ∀ cap, es.length ≤ cap → Rd J (.sl es false) (.slice (some ⟨b, 0, none⟩) es.length cap) := by
 obtain ⟨vs, g1, g2, g3, g4, g5⟩ := s.obj _ _ hb
 let J : Imm := fun c o => if c = b then (vs.take cs.length)[o]? else I c o
 have hIJ : I.le J := by
  intro c o v hv
  have := s.dis c o v hv
  simp only [J]
  rw [if_neg]
  ·exact hv
  ·intro hh; subst hh; rw [hb] at this; exact this
 have hcell : ∀ (o : Nat) (v : Value), (vs.take cs.length)[o]? = some v → w.cell? ⟨b, o, none⟩ = some v := by
  intro o v hv
  rw [List.getElem?_take] at hv
  split at hv
  ·simp only [World.cell?, g1]; simpa using hv
  ·cases hv
 have hfl := fM size es hs
 have hle : es.length * size ≤ cs.length := by
  rw [hcs, List.length_take] at hfl; omega
 have hrow : Rds I es.flatten ((vs.take cs.length).take (es.length * size)) := by rw [hcs]; exact g4.take _
 have hlen : ((vs.take cs.length).take (es.length * size)).length = es.length * size := by simp; omega
 refine ⟨J, ⟨hIJ, ?_, ?_⟩, ⟨Imm.le_trans s.pD hIJ, ?_, ?_, ?_⟩, ?_⟩
 ·intro c o hc
  exact .inl (by rw [KQ h b c o hc]; simp)
 ·intro c o v hc
  simp only [J] at hc
  split at hc
  ·rename_i hcb; subst hcb; exact .inr (.inl (by rw [hb]; simp))
  ·exact .inl hc
 ·intro c o hc
  exact (s.obj c o (KQ h b c o hc)).mono hIJ rfl
 ·intro c o v hc
  simp only [J] at hc
  split at hc
  ·rename_i hcb; subst hcb; exact hcell o v hc
  ·exact s.imm c o v hc
 ·intro c o v hc
  simp only [J] at hc
  split at hc
  ·rename_i hcb; subst hcb; rw [oM]; trivial
  ·have := s.dis c o v hc
   by_cases hcb : c = b
   ·subst hcb; rw [oM]; trivial
   ·rw [pT _ _ hcb]; exact this
 ·intro cap hcap
  have R : Rows J b 0 size (chunks size es.length es.flatten) (chunks size es.length ((vs.take cs.length).take (es.length * size))) :=
   tH (hrow.mono hIJ) (g5.take _) hfl (fun j v hj => by
    simp only [J, if_true]
    rw [List.getElem?_take] at hj
    split at hj
    ·exact hj
    ·cases hj)
  have hch : chunks size es.length es.flatten = es := by
   clear R hrow hlen hle hfl hcs
   induction es with
   | nil => rfl
   | cons e es ih =>
    have he := hs e (by simp)
    simp only [List.length_cons, chunks, List.flatten_cons]
    rw [List.take_left' he, List.drop_left' he, ih (fun x hx => hs x (by simp [hx])) (by simpa using Nat.le_of_succ_le hcap)]
  rw [hch] at R
  exact Rd.rQ false hcap (fun hh => by cases hh) R
end Pg
namespace Pg
open Go
theorem fP {s l : AHeap} {b : Nat} {o : AObj} (e : s b = some o) : (s.join l) b = some o := by simp [AHeap.join, e]
theorem sO {s l : AHeap} {b : Nat} (e : s b = none) : (s.join l) b = l b := by simp [AHeap.join, e]
theorem join_none {s l : AHeap} {b : Nat} (e : (s.join l) b = none) : s b = none ∧ l b = none := by
 unfold AHeap.join at e
 split at e
 ·cases e
 ·exact ⟨‹_›, e⟩
theorem bZ (s l : AHeap) (b : Nat) (o : AObj) : (s.join l).upd b o = (s.upd b o).join l := by
 funext c; simp only [AHeap.upd, AHeap.join]; split <;> rfl
theorem eL {s : AHeap} (l : AHeap) {b : Nat} (o : AObj) (e : s b = none) : (s.join l).upd b o = s.join (l.upd b o) := by
 funext c; simp only [AHeap.upd, AHeap.join]
 by_cases hc : c = b
 ·subst hc; simp [e]
 ·simp [hc]
theorem L6 {s : AHeap} (l : AHeap) {b : Nat} (e : s b = none) : (s.join l).del b = s.join (l.del b) := by
 funext c; simp only [AHeap.del, AHeap.join]
 by_cases hc : c = b
 ·subst hc; simp [e]
 ·simp [hc]
theorem dH {s l : AHeap} (a : s.apart l) {b : Nat} (o : AObj) (e : s b = none) : s.apart (l.upd b o) := by
 intro c x hc
 by_cases hb : c = b
 ·subst hb; rw [e] at hc; cases hc
 ·rw [aC _ _ _ hb]; exact a c x hc
theorem gO {s l : AHeap} (a : s.apart l) {b : Nat} (o : AObj) (e : l b = none) : (s.upd b o).apart l := by
 intro c x hc
 by_cases hb : c = b
 ·subst hb; exact e
 ·rw [aC _ _ _ hb] at hc; exact a c x hc
theorem K1 {s l : AHeap} (a : s.apart l) (b : Nat) : s.apart (l.del b) := by
 intro c x hc
 by_cases hb : c = b
 ·subst hb; exact oM _ _
 ·rw [pT _ _ hb]; exact a c x hc
def eheap : AHeap := fun _ => none
theorem YU (s : AHeap) : s.join eheap = s := by
 funext c; simp only [AHeap.join, eheap]; split
 ·rename_i o h; exact h.symm
 ·rename_i h; exact h.symm
theorem U5 (s : AHeap) : s.apart eheap := fun _ _ _ => rfl
theorem r9 {l : AHeap} {b : Nat} {o : AObj} (e : l b = none) : l.le (l.upd b o) := AHeap.b8 e
theorem kX {s l : AHeap} (a : s.apart l) {p : Nat} {o : AObj} (e : l p = some o) : s p = none := by
 cases h : s p with
 | none => rfl
 | some x => have := a p x h; rw [e] at this; cases this
def OL (h : AHeap) (ty : TypeId) (size : Nat) (v : AV) (rows : List (List AV)) : Prop :=
 (v = .sl [] true ∧ rows = []) ∨ ∃ b cap cs, v = .os b rows.length cap ∧ h b = some (.blk cs (cap * size) ty) ∧ rows.length ≤ cap ∧ rows.length * size ≤ cs.length ∧ cs.take (rows.length * size) = rows.flatten ∧ ∀ e ∈ rows, e.length = size
def jS (v : AV) (p : Nat) : Prop := ∀ b n cap, v = .os b n cap → b ≠ p
theorem jS.nil (p : Nat) : jS (.sl [] true) p := fun _ _ _ h => by cases h
theorem jS.os {b n cap p : Nat} (h : b ≠ p) : jS (.os b n cap) p := fun _ _ _ e => by cases e; exact h
theorem OL.nil (h : AHeap) (ty : TypeId) (size : Nat) : OL h ty size (.sl [] true) [] := .inl ⟨rfl, rfl⟩
theorem OL.len {h : AHeap} {ty : TypeId} {size : Nat} {v : AV} {rows : List (List AV)} (o : OL h ty size v rows) (g : AHeap) : sZ g 1 v = some (.int .i64 rows.length) := by
 rcases o with ⟨rfl, rfl⟩ | ⟨b, cap, cs, rfl, _⟩ <;> rfl
theorem OL.of_le {h g : AHeap} {ty : TypeId} {size : Nat} {v : AV} {rows : List (List AV)} (o : OL h ty size v rows) (le : h.le g) : OL g ty size v rows := by
 rcases o with h0 | ⟨b, cap, cs, h1, h2, h3⟩
 ·exact .inl h0
 ·exact .inr ⟨b, cap, cs, h1, le _ _ h2, h3⟩
theorem OL.upd {h : AHeap} {ty : TypeId} {size : Nat} {v : AV} {rows : List (List AV)} (o : OL h ty size v rows) {p : Nat} (n : jS v p) (x : AObj) : OL (h.upd p x) ty size v rows := by
 rcases o with h0 | ⟨b, cap, cs, h1, h2, h3⟩
 ·exact .inl h0
 ·refine .inr ⟨b, cap, cs, h1, ?_, h3⟩
  rw [aC _ _ _ (n _ _ _ h1)]; exact h2
theorem OL.del {h : AHeap} {ty : TypeId} {size : Nat} {v : AV} {rows : List (List AV)} (o : OL h ty size v rows) {p : Nat} (n : jS v p) : OL (h.del p) ty size v rows := by
 rcases o with h0 | ⟨b, cap, cs, h1, h2, h3⟩
 ·exact .inl h0
 ·refine .inr ⟨b, cap, cs, h1, ?_, h3⟩
  rw [pT _ _ (n _ _ _ h1)]; exact h2
theorem FY {rows : List (List AV)} {size : Nat} (h : ∀ e ∈ rows, e.length = size) : ∀ {i : Nat} {e : List AV}, rows[i]? = some e → (rows.flatten.drop (i * size)).take size = e ∧ i * size + size ≤ rows.flatten.length := by
 induction rows with
 | nil => intro i e he; simp at he
 | cons a r ih =>
  intro i e he
  have ha := h a (by simp)
  cases i with
  | zero =>
   simp at he; subst he
   refine ⟨?_, ?_⟩
   ·rw [Nat.zero_mul, List.drop_zero, List.flatten_cons, List.take_left' ha]
   ·rw [List.flatten_cons, List.length_append, ha]; omega
  | succ i =>
   obtain ⟨h1, h2⟩ := ih (fun x hx => h x (by simp [hx])) (by simpa using he)
   refine ⟨?_, ?_⟩
   ·rw [List.flatten_cons, List.drop_append, show a.drop ((i + 1) * size) = [] from List.drop_eq_nil_of_le (by rw [ha, Nat.add_mul]; omega), List.nil_append, ha, show (i + 1) * size - size = i * size by rw [Nat.add_mul]; omega]
    exact h1
   ·simp only [List.flatten_cons, List.length_append, ha, Nat.add_mul]; omega
theorem OL.ia {h : AHeap} {ty : TypeId} {size : Nat} {v : AV} {rows : List (List AV)} (o : OL h ty size v rows) {k : IntKind} {i : Nat} {e : List AV} (he : rows[i]? = some e) :
  ∃ b cs tot, aia size v (.int k i) = some (.ptr (some ⟨b, i * size, none⟩)) ∧ h b = some (.blk cs tot ty) ∧ (cs.drop (i * size)).take size = e ∧ i * size + size ≤ cs.length := by
 rcases o with ⟨rfl, rfl⟩ | ⟨b, cap, cs, rfl, h2, h3, h4, h5, h6⟩
 ·simp at he
 ·have hi : i < rows.length := by
   rcases Nat.lt_or_ge i rows.length with h | h
   ·exact h
   ·rw [List.getElem?_eq_none h] at he; cases he
  obtain ⟨g1, g2⟩ := FY h6 he
  refine ⟨b, cs, cap * size, ?_, h2, ?_, ?_⟩
  ·simp only [aia]; rw [if_pos ⟨by omega, by exact_mod_cast hi⟩]; simp
  ·rw [← h5, List.drop_take, List.take_take] at g1
   rw [← g1]
   congr 1
   have : i * size + size ≤ rows.length * size := by rw [← Nat.succ_mul]; exact Nat.mul_le_mul_right _ hi
   omega
  ·have : i * size + size ≤ rows.length * size := by rw [← Nat.succ_mul]; exact Nat.mul_le_mul_right _ hi
   omega
theorem OL.load {h : AHeap} {ty : TypeId} {size : Nat} {v : AV} {rows : List (List AV)} (o : OL h ty size v rows) {k : IntKind} {i : Nat} {e : List AV} (he : rows[i]? = some e) {p : AV} (hp : aia size v (.int k i) = some p) :
  gW h (some size) p = some (.agg e) := by
 obtain ⟨b, cs, tot, h1, h2, h3, h4⟩ := o.ia (k := k) he
 rw [h1] at hp; cases hp
 simp only [gW, h2]; rw [if_pos h4, h3]
theorem OL.aFO {h : AHeap} {ty : TypeId} {v : AV} {rows : List (List AV)} (o : OL h ty 1 v rows) {k : IntKind} {i : Nat} {x : AV} (he : rows[i]? = some [x]) {p : AV} (hp : aia 1 v (.int k i) = some p) :
  gW h none p = some x := by
 obtain ⟨b, cs, tot, h1, h2, h3, h4⟩ := o.ia (k := k) he
 rw [h1] at hp; cases hp
 simp only [gW, h2]
 have := congrArg (fun l => l[0]?) h3
 simp only [List.getElem?_take, List.getElem?_drop] at this
 simpa using this
theorem OL.fa {h : AHeap} {ty : TypeId} {size : Nat} {v : AV} {rows : List (List AV)} (o : OL h ty size v rows) {k : IntKind} {i : Nat} {e : List AV} (he : rows[i]? = some e) {j : Nat} {x : AV} (hj : e[j]? = some x) {p q : AV} (hp : aia size v (.int k i) = some p) (hq : afa j p = some q) :
  gW h none q = some x := by
 obtain ⟨b, cs, tot, h1, h2, h3, h4⟩ := o.ia (k := k) he
 rw [h1] at hp; cases hp
 simp only [afa, Option.some.injEq] at hq; subst hq
 simp only [gW, h2]
 have hjl : j < size := by
  have : e.length ≤ size := by rw [← h3]; simp; omega
  rcases Nat.lt_or_ge j e.length with h | h
  ·omega
  ·rw [List.getElem?_eq_none h] at hj; cases hj
 have := congrArg (fun l => l[j]?) h3
 simp only [List.getElem?_take, List.getElem?_drop, hjl, if_true] at this
 rw [this, hj]
theorem OL.at1 {h : AHeap} {ty : TypeId} {v : AV} {rows : List (List AV)} (o : OL h ty 1 v rows) {k : IntKind} {i : Nat} {x : AV} (he : rows[i]? = some [x]) :
  ∃ b cs tot, aia 1 v (.int k i) = some (.ptr (some ⟨b, i * 1, none⟩)) ∧ h b = some (.blk cs tot ty) ∧ cs[i * 1]? = some x := by
 obtain ⟨b, cs, tot, h1, h2, h3, h4⟩ := o.ia (k := k) he
 have := o.aFO (k := k) he h1
 simp only [gW, h2] at this
 exact ⟨b, cs, tot, h1, h2, this⟩
theorem OL.at {h : AHeap} {ty : TypeId} {size : Nat} {v : AV} {rows : List (List AV)} (o : OL h ty size v rows) {k : IntKind} {i : Nat} {e : List AV} (he : rows[i]? = some e) :
  ∃ b cs tot, aia size v (.int k i) = some (.ptr (some ⟨b, i * size, none⟩)) ∧ h b = some (.blk cs tot ty) ∧ (cs.drop (i * size)).take size = e ∧ i * size + size ≤ cs.length ∧ ∀ (j : Nat) (x : AV), e[j]? = some x → cs[i * size + j]? = some x := by
 obtain ⟨b, cs, tot, h1, h2, h3, h4⟩ := o.ia (k := k) he
 refine ⟨b, cs, tot, h1, h2, h3, h4, fun j x hj => ?_⟩
 have := o.fa (k := k) he hj h1 (q := .ptr (some ⟨b, i * size + j, none⟩)) rfl
 simpa only [gW, h2] using this
theorem OL.append {h : AHeap} {ty : TypeId} {size bytes : Nat} {v : AV} {rows : List (List AV)} (o : OL h ty size v rows) {m : Nat} {xs : List AV} {new : List (List AV)} (hm : new.length = m) (hx : new.flatten = xs) (hn : ∀ e ∈ new, e.length = size) (room : roomFor (rows.length + m) bytes)
  {K : AV → AHeap → Tok → Prop} (m0 : m ≠ 0)
  (k : ∀ b cap cs h0, (h0 = h ∨ ∃ b0 n0 c0, v = .os b0 n0 c0 ∧ h0 = h.del b0) → h0 b = none → OL (h0.upd b (.blk cs (cap * size) ty)) ty size (.os b (rows.length + m) cap) (rows ++ new) → K (.os b (rows.length + m) cap) (h0.upd b (.blk cs (cap * size) ty)) .go) : jZ .go h ty size bytes v m xs K := by
 have hfl := fun (l : List (List AV)) hl => fM (α := AV) size l hl
 unfold jZ gZ
 rcases o with ⟨rfl, rfl⟩ | ⟨b, cap, cs, rfl, h2, h3, h4, h5, h6⟩
 ·simp only
  refine ⟨fun h => absurd h m0, fun _ => ⟨trivial, room, by simp, .inl ?_⟩⟩
  intro b cap hb hc
  refine k b cap _ h (.inl rfl) hb (.inr ⟨b, cap, _, ?_, aA _ _ _, ?_, ?_, ?_, ?_⟩)
  ·simp [hm]
  ·simp [hm] at hc ⊢; omega
  ·simp [← hx, hfl new hn]
  ·rw [List.take_of_length_le]
   ·simp [hx]
   ·simp [← hx, hfl new hn]
  ·simpa using hn
 ·simp only [h2]
  refine ⟨trivial, trivial, h3, h4, room, ?_⟩
  intro b' cap' hb' hc'
  refine k b' cap' _ (h.del b) (.inr ⟨b, rows.length, cap, rfl, rfl⟩) hb' (.inr ⟨b', cap', _, ?_, aA _ _ _, ?_, ?_, ?_, ?_⟩)
  ·simp [hm]
  ·simp [hm]; omega
  ·rw [h5, ← hx, List.length_append, List.length_append, hfl rows h6, hfl new hn, Nat.add_mul]; exact Nat.le_refl _
  ·rw [List.take_of_length_le]
   ·rw [h5, ← hx, List.flatten_append]
   ·rw [h5, ← hx, List.length_append, List.length_append, hfl rows h6, hfl new hn, Nat.add_mul]; exact Nat.le_refl _
  ·intro e he
   rcases List.mem_append.1 he with h | h
   ·exact h6 e h
   ·exact hn e h
theorem OL.cut {h : AHeap} {ty : TypeId} {size : Nat} {v : AV} {rows : List (List AV)} (o : OL h ty size v rows) {k : IntKind} {n : Int} (h0 : 0 ≤ n) (hn : n ≤ rows.length) :
  ∃ v', eP false size v none (some (.int k n)) = some v' ∧ OL h ty size v' (rows.take n.toNat) ∧ ∀ p, jS v p → jS v' p := by
 obtain ⟨m, rfl⟩ := Int.eq_ofNat_of_zero_le h0
 rcases o with ⟨rfl, rfl⟩ | ⟨b, cap, cs, rfl, h2, h3, h4, h5, h6⟩
 ·have hm : m = 0 := by simpa using hn
  subst hm
  refine ⟨.sl [] true, ?_, .inl ⟨rfl, by simp⟩, fun p _ => .nil p⟩
  simp [eP, gG]
 ·have hm : m ≤ rows.length := by exact_mod_cast hn
  have hl : (rows.take m).length = m := by simp; omega
  have hms : m * size ≤ rows.length * size := Nat.mul_le_mul_right _ hm
  refine ⟨.os b m cap, ?_, .inr ⟨b, cap, cs, ?_, h2, ?_, ?_, ?_, ?_⟩, fun p hp => .os (hp _ _ _ rfl)⟩
  ·simp only [eP, gG, Int.toNat_natCast]
   rw [if_pos (by omega)]; simp only; rw [if_pos ⟨hm, h3⟩]
  ·simp only [Int.toNat_natCast, hl]
  ·simp only [Int.toNat_natCast, hl]; omega
  ·simp only [Int.toNat_natCast, hl]; omega
  ·simp only [Int.toNat_natCast, hl]
   have e1 : cs.take (m * size) = (cs.take (rows.length * size)).take (m * size) := by rw [List.take_take, Nat.min_eq_left hms]
   rw [e1, h5]
   have e2 : rows.flatten = (rows.take m).flatten ++ (rows.drop m).flatten := by rw [← List.flatten_append, List.take_append_drop]
   rw [e2, List.take_left']
   rw [fM size _ (fun e he => h6 e (List.mem_of_mem_take he)), hl]
  ·exact fun e he => h6 e (List.mem_of_mem_take he)
theorem G8 {size : Nat} {e' : List AV} (he' : e'.length = size) : ∀ {rows : List (List AV)} {i : Nat}, (∀ e ∈ rows, e.length = size) → i < rows.length → (rows.set i e').flatten = bM rows.flatten (i * size) e'
 | [], i, _, hi => by simp at hi
 | a :: r, 0, h, _ => by
  have ha := h a (by simp)
  simp only [List.set_cons_zero, List.flatten_cons, bM, Nat.zero_mul, List.take_zero, List.nil_append, Nat.zero_add]
  rw [he', ← ha, List.drop_left]
 | a :: r, i + 1, h, hi => by
  have ha := h a (by simp)
  have ih := G8 he' (rows := r) (i := i) (fun e he => h e (by simp [he])) (by simpa using hi)
  have e1 : (i + 1) * size = a.length + i * size := by rw [ha, Nat.add_mul]; omega
  simp only [List.set_cons_succ, List.flatten_cons, ih, bM]
  rw [e1, List.take_length_add_append, Nat.add_assoc, List.drop_length_add_append, List.append_assoc]
theorem UC {α : Type} {cs : List α} {o n : Nat} {ds : List α} (h : o + ds.length ≤ n) (hn : n ≤ cs.length) : (bM cs o ds).take n = bM (cs.take n) o ds := by
 simp only [bM]
 rw [List.take_append, List.take_append, List.take_take, List.length_take, List.take_take, List.drop_take]
 rw [Nat.min_eq_left (by omega : o ≤ cs.length), Nat.min_eq_right (by omega : o ≤ n), Nat.min_eq_left (by omega : o ≤ n)]
 rw [List.take_of_length_le (by omega : ds.length ≤ n - o), show n - (o + ds.length) = n - o - ds.length by omega]
theorem OL.store {h : AHeap} {ty : TypeId} {size : Nat} {v : AV} {rows : List (List AV)} (o : OL h ty size v rows) {k : IntKind} {i : Nat} (hi : i < rows.length) {e' : List AV} (he' : e'.length = size) :
  ∃ b cs tot n c, v = .os b n c ∧ aia size v (.int k i) = some (.ptr (some ⟨b, i * size, none⟩)) ∧ h b = some (.blk cs tot ty) ∧ i * size + size ≤ cs.length ∧
   OL (h.upd b (.blk (bM cs (i * size) e') tot ty)) ty size v (rows.set i e') := by
 rcases o with ⟨rfl, rfl⟩ | ⟨b, cap, cs, rfl, h2, h3, h4, h5, h6⟩
 ·simp at hi
 ·have hle : i * size + size ≤ rows.length * size := by rw [← Nat.succ_mul]; exact Nat.mul_le_mul_right _ hi
  refine ⟨b, cs, cap * size, _, _, rfl, ?_, h2, by omega, .inr ⟨b, cap, _, ?_, aA _ _ _, ?_, ?_, ?_, ?_⟩⟩
  ·simp only [aia]; rw [if_pos ⟨by omega, by exact_mod_cast hi⟩]; simp
  ·simp
  ·simpa using h3
  ·rw [jG _ _ _ (by rw [he']; omega)]; simpa using h4
  ·rw [List.length_set, UC (by rw [he']; omega) h4, h5, G8 he' h6 hi]
  ·intro e he
   rcases List.mem_or_eq_of_mem_set he with h | h
   ·exact h6 e h
   ·rw [h]; exact he'
theorem JK {α : Type} (cs : List α) : bM cs 0 [] = cs := by simp [bM]
theorem GD {α : Type} (c d : α) (cs ds : List α) : bM (c :: cs) 0 (d :: ds) = d :: bM cs 0 ds := by simp [bM]
theorem GF {α : Type} (c : α) (cs ds : List α) (o : Nat) : bM (c :: cs) (o + 1) ds = c :: bM cs o ds := by
 simp only [bM, List.take_succ_cons, List.cons_append]
 rw [show o + 1 + ds.length = (o + ds.length) + 1 by omega, List.drop_succ_cons]
theorem oH {h g : AHeap} (le : h.le g) (b : Nat) (o : AObj) : (h.upd b o).le (g.upd b o) := by
 intro c x e
 by_cases hc : c = b
 ·subst hc; rw [aA] at e ⊢; exact e
 ·rw [aC _ _ _ hc] at e ⊢; exact le c x e
section
variable (b : Bool) (k : IntKind) (n : Int) (s : ByteArray) (a : Option Addr) (cs : List AV) (o m c : Nat) (es : List (List AV)) (f : Bool) (r : Option Nat) (fn : Fn) (t : TypeId) (v : AV)
theorem KV : (AV.bool b).cells? = some [.bool b] := rfl
theorem N5 : (AV.int k n).cells? = some [.int k n] := rfl
theorem N2 : (AV.str s).cells? = some [.str s] := rfl
theorem N3 : (AV.ptr a).cells? = some [.ptr a] := rfl
theorem Q4 : (AV.ip cs o).cells? = some [.ip cs o] := rfl
theorem Q1 : (AV.sl es f).cells? = some [.sl es f] := rfl
theorem Q3 : (AV.os o m c).cells? = some [.os o m c] := rfl
theorem N4 : (AV.map r).cells? = some [.map r] := rfl
theorem KU (x y : List AV) : (AV.func fn x y).cells? = some [.func fn x y] := rfl
theorem CY : AV.nilFunc.cells? = some [.nilFunc] := rfl
theorem HF : (AV.iface t v).cells? = some [.iface t v] := rfl
theorem AG : AV.nilIface.cells? = some [.nilIface] := rfl
theorem N6 : (AV.agg cs).cells? = some cs := rfl
end
theorem OL.cells {h : AHeap} {ty : TypeId} {size : Nat} {v : AV} {rows : List (List AV)} (o : OL h ty size v rows) : v.cells? = some [v] := by
 rcases o with ⟨rfl, _⟩ | ⟨b, cap, cs, rfl, _⟩ <;> rfl
theorem OL.OM {s l : AHeap} {ty : TypeId} {size : Nat} {v : AV} {rows : List (List AV)} (o : OL (s.join l) ty size v rows) (n : ∀ b m c, v = .os b m c → s b = none) : OL l ty size v rows := by
 rcases o with h0 | ⟨b, cap, cs, h1, h2, h3⟩
 ·exact .inl h0
 ·exact .inr ⟨b, cap, cs, h1, by rw [← h2, sO (n _ _ _ h1)], h3⟩
theorem OL.HI {s l : AHeap} {ty : TypeId} {size bytes : Nat} {v : AV} {rows : List (List AV)} (a : s.apart l) (o : OL l ty size v rows) {m : Nat} {xs : List AV} {new : List (List AV)} (hm : new.length = m) (hx : new.flatten = xs) (hn : ∀ e ∈ new, e.length = size) (room : roomFor (rows.length + m) bytes)
  {K : AV → AHeap → Tok → Prop} (m0 : m ≠ 0)
  (k : ∀ v' l', s.apart l' → OL l' ty size v' (rows ++ new) → (∀ c x, l c = some x → jS v c → l' c = some x ∧ jS v' c) → K v' (s.join l') .go) : jZ .go (s.join l) ty size bytes v m xs K := by
 refine (o.of_le (AHeap.eT a)).append hm hx hn room m0 ?_
 intro b cap cs h0 hh0 hb ol'
 have key : ∃ l0, h0 = s.join l0 ∧ s.apart l0 ∧ ∀ c x, l c = some x → jS v c → l0 c = some x := by
  rcases hh0 with rfl | ⟨b0, n0, c0, rfl, rfl⟩
  ·exact ⟨l, rfl, a, fun c x h _ => h⟩
  ·rcases o with ⟨h, _⟩ | ⟨b1, cap1, cs1, h1, h2, _⟩
   ·cases h
   ·cases h1
    exact ⟨l.del b0, L6 l (kX a h2), K1 a b0, fun c x h n => by rw [pT _ _ (n _ _ _ rfl).symm]; exact h⟩
 obtain ⟨l0, rfl, a0, keep⟩ := key
 obtain ⟨hb1, hb2⟩ := join_none hb
 rw [eL _ _ hb1] at ol' ⊢
 refine k _ _ (dH a0 _ hb1) (ol'.OM fun b' m' c' e => by cases e; exact hb1) ?_
 intro c x hc n
 have hcb : c ≠ b := by intro hh; subst hh; rw [keep c x hc n] at hb2; cases hb2
 exact ⟨by rw [aC _ _ _ hcb]; exact keep c x hc n, .os hcb.symm⟩
theorem aI {size : Nat} {es : List (List AV)} {f : Bool} {k : IntKind} {i : Nat} {e : List AV} (h : es[i]? = some e) (hl : e.length = size) : aia size (.sl es f) (.int k i) = some (.ip e 0) := by
 simp only [aia]; rw [if_pos (Int.natCast_nonneg i), Int.toNat_natCast, h]; simp only; rw [if_pos hl]
theorem W4 (h : AHeap) (es : List (List AV)) (f : Bool) : sZ h 1 (.sl es f) = some (.int .i64 es.length) := rfl
theorem W5 (h : AHeap) (b n c : Nat) : sZ h 1 (.os b n c) = some (.int .i64 n) := rfl
theorem RG (h : AHeap) (s : ByteArray) : sZ h 0 (.str s) = some (.int .i64 s.size) := rfl
theorem wrap64 {n : Int} (h0 : -9223372036854775808 ≤ n) (h1 : n ≤ 9223372036854775807) : IntKind.i64.wrap n = n := by
 rw [IntKind.wrap_i64]; omega
end Pg
namespace Pg
open Go Go.ChangeShapes Go.WideShapes Go.RowKit
def oG (W : World) : Imm := fun b o => W.cell? ⟨b, o, none⟩
theorem aD0 [GI] (W : World) (hg : GI.imm.le (oG W)) : Sat W (oG W) eheap := ⟨hg, (fun b o h => by cases h), (fun b o v h => h), (fun b o v h => trivial)⟩
section
variable {H : Type} (enc : TypeId × Value → H) (P : Program) (W : World)
def RdN (n : Nat) (t : TypeId) {X : Type} (e : X → List AV) (ok : DataW H → X → Prop) : Prop :=
 ∀ cs d ps, DataW.trod enc P W 0 (fun _ => true) true n t cs = some (d, ps) → ∃ x, ok d x ∧ Rds (oG W) (e x) cs ∧ cV cs
def cU (n total off : Nat) (fs : List Field) {X : Type} (e : X → List AV) (ok : List (DataW H) → X → Prop) : Prop :=
 ∀ (cs : List Value) (xs : List (DataW H × List MemPlace)), cs.length = total → (xs.length = fs.length ∧ ∀ (i : Nat) (f : Field), fs[i]? = some f → DataW.trod enc P W 0 (fun _ => true) true n f.type ((cs.drop f.offset).take (P.cellsOf f.type)) = xs[i]?) →
  ∃ x, ok (xs.map (·.1)) x ∧ Rds (oG W) (e x) (cs.drop off) ∧ cV (cs.drop off)
def Two {A B : Type} (r : A → B → Prop) : List A → List B → Prop
 | [], [] => True
 | a :: l, b :: m => r a b ∧ Two r l m
 | _, _ => False
end
section
variable {H : Type} {enc : TypeId × Value → H} {P : Program} {W : World} {n : Nat} {t el : TypeId}
theorem RdN.zero {X : Type} {e : X → List AV} {ok : DataW H → X → Prop} : RdN enc P W 0 t e ok := by
 intro cs d ps h; simp [DataW.trod] at h
theorem RdN.mono {X Y : Type} {e : X → List AV} {ok : DataW H → X → Prop} {e' : Y → List AV} {ok' : DataW H → Y → Prop} (h : RdN enc P W n t e ok) (m : ∀ d x, ok d x → ∃ y, ok' d y ∧ e' y = e x) : RdN enc P W n t e' ok' := by
 intro cs d ps k
 obtain ⟨x, h1, h2, h3⟩ := h cs d ps k
 obtain ⟨y, m1, m2⟩ := m d x h1
 exact ⟨y, m1, by rw [m2]; exact h2, h3⟩
theorem cV.one {v : Value} (h : v.oneCell' = true) : cV [v] := .cons h .nil
theorem RdN.int {k : IntKind} (ht : P.underlying t = some (.int k)) : RdN enc P W n t (fun x : Int => [.int k x]) (fun d x => d = .lit (.int k x) ∧ (Lit.int k x).wf = true) := by
 intro cs d ps h
 obtain ⟨m, rfl, hx, hw⟩ := DataW.trod_int ht h
 cases hx
 exact ⟨m, ⟨rfl, hw⟩, .cons (.int _ _) (.nil _), .one rfl⟩
theorem RdN.bool (ht : P.underlying t = some .bool) : RdN enc P W n t (fun x : Bool => [.bool x]) (fun d x => d = .lit (.bool x)) := by
 intro cs d ps h
 obtain ⟨b, rfl, hx⟩ := DataW.trod_bool ht h
 cases hx
 exact ⟨b, rfl, .cons (.bool _) (.nil _), .one rfl⟩
theorem RdN.str (ht : P.underlying t = some .string) : RdN enc P W n t (fun x : ByteArray => [.str x]) (fun d x => d = .lit (.string x.data.toList) ∧ x.size ≤ maxLen) := by
 intro cs d ps h
 obtain ⟨b, rfl, hx, hl⟩ := DataW.trod_string ht h
 cases hx
 exact ⟨b, ⟨rfl, hl⟩, .cons (.str _) (.nil _), .one rfl⟩
theorem v7 {a : Addr} {k : Nat} {cs : List Value} (h : W.cells? 0 a k = some cs) : cs.length = k ∧ (0 < k → a.spot = none) ∧ ∀ (j : Nat) (v : Value), cs[j]? = some v → W.cell? ⟨a.block, a.off + j, none⟩ = some v := by
 unfold World.cells? at h
 rw [if_pos (Nat.zero_le _)] at h
 have hl := mapM_some_length h
 simp only [List.length_range] at hl
 have hg : ∀ (j : Nat) (v : Value), cs[j]? = some v → W.cell? (a.add j) = some v := by
  intro j v hv
  have hj : j < k := by
   rcases Nat.lt_or_ge j cs.length with h' | h'
   ·omega
   ·rw [List.getElem?_eq_none h'] at hv; cases hv
  rw [← hv]
  exact mapM_some_get h j j (by simp [hj])
 have hsp : 0 < k → a.spot = none := by
  intro hk
  have h0 : cs[0]? = some cs[0] := List.getElem?_eq_getElem (by omega)
  have := hg 0 _ h0
  simp only [Addr.add, if_true] at this
  unfold World.cell? at this
  split at this
  ·split at this
   ·cases this
   ·rename_i hs; simpa using hs
  ·cases this
 refine ⟨hl, hsp, ?_⟩
 intro j v hv
 have hk : 0 < k := by
  rcases Nat.lt_or_ge j cs.length with h' | h'
  ·omega
  ·rw [List.getElem?_eq_none h'] at hv; cases hv
 have := hg j v hv
 have hs := hsp hk
 rw [← this]
 congr 1
 unfold Addr.add
 split
 ·subst_vars; cases a; simp at hs; simp [hs]
 ·rfl
def aFM {X : Type} (ok : DataW H → X → Prop) : DataW H → Option X → Prop
 | d, none => d = .nil
 | d, some x => ∃ d', d = .ptr d' ∧ ok d' x
def aF5 {X : Type} (e : X → List AV) : Option X → List AV
 | none => [.ptr none]
 | some x => [.ip (e x) 0]
theorem RdN.ptr {X : Type} {e : X → List AV} {ok : DataW H → X → Prop} (ht : P.underlying t = some (.pointer el)) (hk : 0 < P.cellsOf el) (h : RdN enc P W n el e ok) : RdN enc P W (n + 1) t (aF5 e) (aFM ok) := by
 intro cs d ps k
 rcases DataW.trod_pointer ht k with ⟨rfl, hx⟩ | ⟨a, us, y, m, hm, rfl, hx, h1, h2⟩
 ·cases hx
  exact ⟨none, rfl, .cons (.ptr none) (.nil _), .one rfl⟩
 ·cases hx; cases hm
  obtain ⟨c1, c2, c3⟩ := v7 h1
  obtain ⟨x, x1, x2, x3⟩ := h us y.1 y.2 h2
  refine ⟨some x, ⟨y.1, rfl, x1⟩, .cons ?_ (.nil _), .one rfl⟩
  have hs := c2 hk
  have : Rd (oG W) (.ip (e x) 0) (.pointer (some ⟨a.block, a.off + 0, none⟩)) := .J0 0 (fun j u hu => c3 j u hu) x2 x3
  cases a; simp at hs; subst hs; simpa using this
theorem Two.len {A B : Type} {r : A → B → Prop} : ∀ {l : List A} {m : List B}, Two r l m → l.length = m.length
 | [], [], _ => rfl
 | _ :: _, _ :: _, h => by simp [Two.len h.2]
 | [], _ :: _, h => h.elim
 | _ :: _, [], h => h.elim
def aF3 {X : Type} (ok : DataW H → X → Prop) (d : DataW H) (xs : List X) : Prop := (d = .nil ∧ xs = []) ∨ ∃ ds sp, d = .slice ds sp ∧ Two ok ds xs
def eSl {X : Type} (e : X → List AV) (xs : List X) : List AV := [.sl (xs.map e) false]
theorem RdN.slice {X : Type} {e : X → List AV} {ok : DataW H → X → Prop} (ht : P.underlying t = some (.slice el)) (hc : 0 < P.cellsOf el) (h : RdN enc P W n el e ok) : RdN enc P W (n + 1) t (eSl e) (aF3 ok) := by
 intro cs d ps k
 rcases DataW.trod_slice ht k with ⟨rfl, hx⟩ | ⟨a, len, cap, elems, rest, m, hm, rfl, hx, _, hb1, hb2, hl, hr, _⟩
 ·cases hx
  exact ⟨[], .inl ⟨rfl, rfl⟩, .cons (.sl0 false none 0 (fun _ _ => trivial) (fun _ => rfl) (fun h => by cases h)) (.nil _), .one rfl⟩
 ·cases hx; cases hm
  have hel : ∀ (i : Nat) (y : DataW H × List MemPlace), elems[i]? = some y → ∃ us, W.cells? 0 (a.add (i * P.cellsOf el)) (P.cellsOf el) = some us ∧ DataW.trod enc P W 0 (fun _ => true) true n el us = some y := by
   intro i y hy
   have hi : i < len := by
    rcases Nat.lt_or_ge i elems.length with h' | h'
    ·omega
    ·rw [List.getElem?_eq_none h'] at hy; cases hy
   have := hr i hi
   rw [hy] at this
   simpa [Option.bind_eq_some_iff] using this
  -- each element's x
  have key : ∀ (l : List (DataW H × List MemPlace)) (from_ : Nat), (∀ (i : Nat) (y : DataW H × List MemPlace), l[i]? = some y → ∃ us, W.cells? 0 (a.add ((from_ + i) * P.cellsOf el)) (P.cellsOf el) = some us ∧ DataW.trod enc P W 0 (fun _ => true) true n el us = some y) →
    ∃ (xs : List X) (vss : List (List Value)), Two ok (l.map (·.1)) xs ∧ vss.length = l.length ∧ ∀ (i : Nat) (vs : List Value), vss[i]? = some vs → W.cells? 0 (a.add ((from_ + i) * P.cellsOf el)) (P.cellsOf el) = some vs ∧ ∃ x, xs[i]? = some x ∧ Rds (oG W) (e x) vs ∧ cV vs := by
   intro l
   induction l with
   | nil => intro _ _; exact ⟨[], [], trivial, rfl, by simp⟩
   | cons y l ih =>
    intro from_ hy
    obtain ⟨us, u1, u2⟩ := hy 0 y (by simp)
    obtain ⟨x, x1, x2, x3⟩ := h us y.1 y.2 u2
    obtain ⟨xs, vss, i1, i2, i3⟩ := ih (from_ + 1) (fun i z hz => by
     have := hy (i + 1) z (by simpa using hz)
     rwa [show from_ + (i + 1) = from_ + 1 + i by omega] at this)
    refine ⟨x :: xs, us :: vss, ⟨x1, i1⟩, by simp [i2], ?_⟩
    intro i vs hvs
    cases i with
    | zero => simp at hvs; subst hvs; exact ⟨u1, x, by simp, x2, x3⟩
    | succ i =>
     have := i3 i vs (by simpa using hvs)
     rw [show from_ + 1 + i = from_ + (i + 1) by omega] at this
     simpa using this
  obtain ⟨xs, vss, k1, k2, k3⟩ := key elems 0 (fun i y hy => by rw [Nat.zero_add]; exact hel i y hy)
  simp only [Nat.zero_add] at k3
  have hx : xs.length = len := by have := k1.len; simp at this; omega
  refine ⟨xs, .inr ⟨_, _, rfl, k1⟩, .cons ?_ (.nil _), .one rfl⟩
  by_cases h0 : len = 0
  ·have hxs : xs = [] := List.eq_nil_of_length_eq_zero (by omega)
   rw [hxs, h0]
   exact .sl0 false (some a) cap (fun _ _ => trivial) (fun h => by cases h) (fun h => by cases h)
  ·have hs : a.spot = none := by
    have hv0 : vss[0]? = some vss[0] := List.getElem?_eq_getElem (by omega)
    have := (v7 (k3 0 _ hv0).1).2.1 hc
    simpa [Addr.add] using this
   have hadd : ∀ i, a.add i = ⟨a.block, a.off + i, none⟩ := by
    intro i; unfold Addr.add; split
    ·subst_vars; cases a; simp at hs; simp [hs]
    ·rfl
   have R : Rows (oG W) a.block a.off (P.cellsOf el) (xs.map e) vss := by
    refine ⟨by simp; omega, ?_, ?_, ?_, ?_⟩
    ·intro i ee vs h1 h2
     obtain ⟨q1, x, q2, q3, q4⟩ := k3 i vs h2
     simp only [List.getElem?_map, q2, Option.map_some, Option.some.injEq] at h1
     subst h1
     have := (v7 q1).1
     exact ⟨by rw [q3.len]; exact this, this⟩
    ·intro i vs j v h2 hj
     obtain ⟨q1, x, q2, q3, q4⟩ := k3 i vs h2
     have := (v7 q1).2.2 j v hj
     rw [hadd] at this
     exact this
    ·intro i vs h2
     exact (k3 i vs h2).2.choose_spec.2.2
    ·intro i ee vs j c v h1 h2 hj hv
     obtain ⟨q1, x, q2, q3, q4⟩ := k3 i vs h2
     simp only [List.getElem?_map, q2, Option.map_some, Option.some.injEq] at h1
     subst h1
     exact q3.at_ j c v hj hv
   have := Rd.rQ (I := oG W) false (cap := cap) (by simpa [hx] using hb1) (fun h => by cases h) R
   have hz : (xs.map e).length = len := by simpa using hx
   rw [hz] at this
   cases a; simp at hs; subst hs; exact this
theorem cU.nil {total : Nat} : cU enc P W n total total [] (fun _ : Unit => []) (fun ds _ => ds = []) := by
 intro cs xs hl hx
 have : xs = [] := by cases xs with
  | nil => rfl
  | cons y xs => have := hx.1; simp at this
 subst this
 have e : cs.drop total = [] := List.drop_eq_nil_of_le (by omega)
 rw [e]
 exact ⟨(), rfl, .nil _, .nil⟩
theorem cU.cons {total off off' : Nat} {f : Field} {fs : List Field} {X Y : Type} {e : X → List AV} {ok : DataW H → X → Prop} {e' : Y → List AV} {ok' : List (DataW H) → Y → Prop} (ho : f.offset = off) (ho' : off + P.cellsOf f.type = off') (h : RdN enc P W n f.type e ok) (hs : cU enc P W n total off' fs e' ok') :
  cU enc P W n total off (f :: fs) (fun x : X × Y => e x.1 ++ e' x.2) (fun ds x => ∃ d r, ds = d :: r ∧ ok d x.1 ∧ ok' r x.2) := by
 intro cs xs hl hx
 cases xs with
 | nil => have := hx.1; simp at this
 | cons y xs =>
  have h0 := hx.2 0 f (by simp)
  simp only [List.getElem?_cons_zero, ho] at h0
  obtain ⟨x, x1, x2, x3⟩ := h _ _ _ h0
  obtain ⟨z, z1, z2, z3⟩ := hs cs xs hl ⟨by simpa using hx.1, fun i g hg => by simpa using hx.2 (i + 1) g (by simpa using hg)⟩
  refine ⟨(x, z), ⟨_, _, rfl, x1, z1⟩, ?_, ?_⟩
  ·have := x2.append z2
   rwa [← ho', ← List.drop_drop, List.take_append_drop] at this
  ·have := x3.append z3
   rwa [← ho', ← List.drop_drop, List.take_append_drop] at this
theorem RdN.struct {X : Type} {e : X → List AV} {ok : List (DataW H) → X → Prop} {fs : Array Field} (ht : P.underlying t = some (.struct fs)) (h : cU enc P W n (P.cellsOf t) 0 fs.toList e ok) : RdN enc P W (n + 1) t e (fun d x => ∃ ds, d = .agg ds ∧ ok ds x) := by
 intro cs d ps k
 obtain ⟨xs, m, hm, hx, hl, hxl, hf⟩ := DataW.trod_struct ht k
 cases hm; cases hx
 obtain ⟨x, x1, x2, x3⟩ := h cs xs hl ⟨by simpa using hxl, fun i f hf' => hf i f (by simpa using hf')⟩
 exact ⟨x, ⟨_, rfl, x1⟩, by simpa using x2, by simpa using x3⟩
end
end Pg
namespace Pg
open Go Go.ChangeShapes Go.WideShapes Go.RowKit
section
variable {H : Type} {enc : TypeId × Value → H} {P : Program} {W : World} {t : TypeId}
def QS (P : Program) (t : TypeId) : Bool := match P.underlying t with | some (.struct _) | some (.array _ _) => false | _ => true
theorem Y2 {r : Reach} {b : Nat} {v : Value} (hf : QS P t = true) (h : Value.okWide P W r b t v) : v.cells = #[v] := by
 cases v with
 | agg cs =>
  unfold QS at hf
  unfold Value.okWide at h
  split at h
  ·rename_i hu; rw [hu] at hf; cases hf
  ·rename_i hu; rw [hu] at hf; cases hf
  ·unfold Cell.okWide at h
   split at h <;> simp_all [Cell.ok]
 | _ => rfl
theorem RC {r : Reach} {b : Nat} {v : Value} {d : DataW H} {p : List MemPlace} {X : Type} {a : X → AV} {ok : DataW H → X → Prop} (hf : QS P t = true) (hv : Value.okWide P W r b t v) (h : DataW.Trod enc P W 0 (fun _ => true) true t v d p) (hr : ∀ n, RdN enc P W n t (fun x => [a x]) ok) :
  ∃ x, ok d x ∧ Rd (oG W) (a x) v := by
 obtain ⟨n, h⟩ := h
 rw [Y2 hf hv] at h
 obtain ⟨x, x1, x2, _⟩ := hr n _ _ _ h
 exact ⟨x, x1, x2.at_ 0 _ _ (by simp) (by simp)⟩
theorem aEG {r : Reach} {b : Nat} {v : Value} {d : DataW H} {p : List MemPlace} {X : Type} {e : X → List AV} {ok : DataW H → X → Prop} {fs : Array Field} (ht : P.underlying t = some (.struct fs)) (hv : Value.okWide P W r b t v) (h : DataW.Trod enc P W 0 (fun _ => true) true t v d p) (hr : ∀ n, RdN enc P W n t e ok) :
  ∃ x, ok d x ∧ Rd (oG W) (.agg (e x)) v := by
 obtain ⟨n, h⟩ := h
 unfold Value.okWide at hv
 rw [ht] at hv
 obtain ⟨cs, rfl, _, _⟩ := hv
 obtain ⟨x, x1, x2, x3⟩ := hr n _ _ _ h
 exact ⟨x, x1, .qP (vs := cs.toList) x2 x3⟩
theorem Q7 {W W' : World} (e : Ext eheap W W') : Below W.heap.size W W' := ⟨e.os, e.tape, e.output, e.size, fun k hk => e.block k hk rfl⟩
theorem aAX (hl : laidOutB P = true) {W' : World} (hb : Below W.heap.size W W') : ∀ {ts : List TypeId} {vs : List Value} {ds : List (DataW H)} {ps : List MemPlace}, ts.all (fun t => P.readableRec t && decide (t < P.types.size)) = true →
  DataW.TrodAll enc P W 0 (fun _ => true) true ts vs ds ps → (∀ x ∈ ps, x.block < W.heap.size) → DataW.TrodAll enc P W' 0 (fun b => decide (b < W.heap.size)) true ts vs ds ps
 | [], _, _, _, _, h, _ => by
  obtain ⟨rfl, rfl, rfl⟩ := trodAll_nil h
  exact rfl
 | t :: ts, _, _, _, hr, h, hlt => by
  obtain ⟨v, vs1, d, ds1, a, b, rfl, rfl, rfl, h1, h2⟩ := trodAll_cons h
  simp only [List.all_cons, Bool.and_eq_true, decide_eq_true_eq] at hr
  exact ⟨a, b, Below.trod hl hr.1.1 hr.1.2 h1 hb (fun x hx => hlt x (List.mem_append.2 (.inl hx))), aAX hl hb (by simpa using hr.2) h2 (fun x hx => hlt x (List.mem_append.2 (.inr hx))), rfl⟩
theorem aCH {fn : Func} {s : ChangeSpec} {fresh handsOn : Bool} {tb : TypeId} (hl : laidOutB P = true) (hres : fn.resultTypes = #[tb]) (hb : P.underlying tb = some .bool) (hps : fn.params.toList.all (fun t => P.readableRec t && decide (t < P.types.size)) = true) (hvars : s.vars = [])
  (hspec : ∀ ds : List (DataW H), ds.length = fn.params.size → s.fn H ds = { results := [.lit (.bool true)], args := ds })
  {args : Array Value} {ds gs : List (DataW H)} {before : List MemPlace} (hW : DataW.Whole enc P fn.params.toList s.vars false W args.toList ds gs before) {W' : World} (hB : Below W.heap.size W W') :
  s.post enc P fn false fresh handsOn false W args (.bool true) W' := by
 have hW' := hW
 obtain ⟨p, q, hA, hV, rfl, _, _⟩ := hW
 rw [hvars] at hV
 obtain ⟨rfl, rfl⟩ := trodVars_none hV
 have hlen : ∀ {ts : List TypeId} {vs : List Value} {ds : List (DataW H)} {ps : List MemPlace}, DataW.TrodAll enc P W 0 (fun _ => true) true ts vs ds ps → ds.length = ts.length := by
  intro ts
  induction ts with
  | nil => intro vs ds ps h; obtain ⟨_, rfl, _⟩ := trodAll_nil h; rfl
  | cons t ts ih => intro vs ds ps h; obtain ⟨v, vs1, d, ds1, a, b, rfl, rfl, rfl, h1, h2⟩ := trodAll_cons h; simp [ih h2]
 have hd := hlen hA
 have hsp := hspec ds (by simpa using hd)
 have hlt : ∀ x ∈ p, x.block < W.heap.size := fun x hx => hW'.lt x (by simpa using hx)
 refine ⟨ds, [], p ++ [], [], p, [], hW', ?_, ?_, ?_, hB.frame _, fun h => by cases h⟩
 ·rw [List.append_nil, hsp, hres]
  exact trodAll_mk1 (shut_bool hb true)
 ·rw [List.append_nil, hsp]
  exact aAX hl hB hps hA hlt
 ·rw [List.append_nil, hsp, hvars]
  rfl
end
end Pg
namespace Pg
open Go
def dE (a b : AV) : Prop := ∀ I v, Rd I a v → Rd I b v
theorem dE.refl (a : AV) : dE a a := fun _ _ r => r
theorem dE.trans {a b c : AV} (x : dE a b) (y : dE b c) : dE a c := fun I v r => y I v (x I v r)
theorem dE.any (a : AV) : dE a .any := fun _ v _ => .any v
theorem dE.gs (es : List (List AV)) (b cap : Nat) : dE (.gs es b cap) (.sl es false) := fun _ _ r => r.OU
theorem dE.sl (es : List (List AV)) (f : Bool) : dE (.sl es f) (.sl es false) := fun _ _ r => r.LQ
def fA (xs ys : List AV) : Prop := ∀ I vs, Rds I xs vs → Rds I ys vs
theorem fA.refl (xs : List AV) : fA xs xs := fun _ _ r => r
theorem fA.nil : fA [] [] := .refl _
theorem fA.cons {a b : AV} {xs ys : List AV} (h : dE a b) (r : fA xs ys) : fA (a :: xs) (b :: ys) := by
 intro I vs hr
 obtain ⟨v, vs', rfl, h1, h2⟩ := hr.dN
 exact .cons (h I v h1) (r I vs' h2)
theorem fA.length {xs ys : List AV} (h : fA xs ys) {I : Imm} {vs : List Value} (r : Rds I xs vs) : xs.length = ys.length := by rw [r.len, (h I vs r).len]
theorem dE.agg {xs ys : List AV} (h : fA xs ys) : dE (.agg xs) (.agg ys) := by
 intro I v r
 obtain ⟨vs, rfl, r1, r2⟩ := r.mO
 exact .qP (h I vs r1) r2
theorem dE.tuple {xs ys : List AV} (h : fA xs ys) : dE (.tuple xs) (.tuple ys) := by
 intro I v r
 obtain ⟨vs, rfl, r1⟩ := r.uR
 exact .iU (h I vs r1)
theorem aD.less [GI] {P : Program} {f : FuncId} {args args' : List AV} {h : AHeap} {K : AV → AHeap → Prop} (le : fA args args') (c : aD P f args' h K) : aD P f args h K :=
 fun I w vs r s => c I w vs (le I vs r) s
theorem IN [GI] {P : Program} {f : FuncId} {args args' : List AV} {h : AHeap} {K : AV → AHeap → Prop} {K' : AV → AHeap → Tok → Prop} (c : aD P f args' h K) (le : fA args args') (m : ∀ v g, K v g → K' v g .go) : uG .go P f args h K' := (c.less le).mono m
theorem tcE [GI] {P : Program} {f : FuncId} {args : List AV} {h H : AHeap} {V : AV} {K' : AV → AHeap → Tok → Prop} (c : aD P f args h (fun v g => v = V ∧ g = H)) (k : K' V H .go) : uG .go P f args h K' :=
 aW c fun v g ⟨hv, hg⟩ => by subst hv hg; exact k
theorem tcL [GI] {P : Program} {f : FuncId} {args args' : List AV} {h H : AHeap} {V : AV} {K' : AV → AHeap → Tok → Prop} (c : aD P f args' h (fun v g => v = V ∧ g = H)) (le : fA args args') (k : K' V H .go) : uG .go P f args h K' :=
 IN c le fun v g ⟨hv, hg⟩ => by subst hv hg; exact k
def CD : AObj → AObj → Prop
 | .blk cs total ty, .blk cs' total' ty' => total = total' ∧ ty = ty' ∧ cs.length = cs'.length ∧ fA cs cs'
 | .mpc es _ _, .mp es' => es = es'
 | a, b => a = b
theorem CD.refl (o : AObj) : CD o o := by cases o <;> simp [CD, fA.refl]
def qV (h h' : AHeap) : Prop := ∀ b o', h' b = some o' → ∃ o, h b = some o ∧ CD o o'
theorem qV.refl (h : AHeap) : qV h h := fun b o' e => ⟨o', e, .refl _⟩
theorem qV.of_le {h h' : AHeap} (le : h'.le h) : qV h h' := fun b o' e => ⟨o', le b o' e, .refl _⟩
theorem tB.less {I : Imm} {w : World} {b : Nat} {o o' : AObj} (le : CD o o') (s : tB I w b o) : tB I w b o' := by
 cases o <;> cases o' <;> simp only [CD, reduceCtorEq] at le
 ·obtain ⟨rfl, rfl, hl, hv⟩ := le
  obtain ⟨vs, h1, h2, h3, h4, h5⟩ := s
  refine ⟨vs, h1, h2, by omega, ?_, by rw [← hl]; exact h5⟩
  rw [← hl]; exact hv _ _ h4
 ·cases le; exact s
 ·cases le; exact s
 ·subst le
  obtain ⟨ms, h1, h2, h3, h4, h5, h6⟩ := s
  exact ⟨ms, _, h1, h2, h3, by rw [h4]; exact h5, fun e he => h6 _ (by rw [← h4]; exact List.mem_map.2 ⟨e, he, rfl⟩)⟩
 ·cases le; exact s
 ·cases le; exact s
 ·cases le; exact s
theorem qV.sat [GI] {h h' : AHeap} (le : qV h h') {w : World} {I : Imm} (s : Sat w I h) : Sat w I h' := by
 refine ⟨s.pD, fun b o' hb => ?_, s.imm, fun b o v hb => ?_⟩
 ·obtain ⟨o, h1, h2⟩ := le b o' hb
  exact (s.obj b o h1).less h2
 ·cases hb' : h' b with
  | none => trivial
  | some o' =>
   obtain ⟨x, h1, h2⟩ := le b o' hb'
   have := s.dis b o v hb
   rw [h1] at this
   cases x <;> cases o' <;> simp only [CD, reduceCtorEq] at h2 <;> first | exact this.elim | (cases h2; exact this)
theorem qV.new {h h' : AHeap} (le : qV h h') (w : World) (I : Imm) : New w I I h h' :=
 ⟨Imm.le_refl I, fun b o e => by obtain ⟨x, h1, _⟩ := le b o e; exact .inl (by rw [h1]; simp), fun b o v e => .inl e⟩
def aF [GI] (e : Env) (h : AHeap) (e' : Env) (h' : AHeap) : Prop :=
 ∀ (I : Imm) (w : World) (N : Nat) (tmps : Array Value), dC I N e tmps → Sat w I h → ∃ J, New w I J h h' ∧ dC J N e' tmps ∧ Sat w J h'
theorem aF.refl [GI] (e : Env) (h : AHeap) : aF e h e h := fun I w N tmps s t => ⟨I, .refl w I h, s, t⟩
theorem aF.trans [GI] {e e' e'' : Env} {h h' h'' : AHeap} (x : aF e h e' h') (y : aF e' h' e'' h'') : aF e h e'' h'' := by
 intro I w N tmps s t
 obtain ⟨J, n, s1, t1⟩ := x I w N tmps s t
 obtain ⟨K, m, s2, t2⟩ := y J w N tmps s1 t1
 exact ⟨K, n.trans (.refl h w) m, s2, t2⟩
def y5 (e : Env) : Env → Prop
 | [] => True
 | (s, v) :: r => dE (e.get s) v ∧ y5 e r
theorem y5.at {e : Env} : ∀ {e' : Env}, y5 e e' → ∀ t, dE (e.get t) (e'.get t)
 | [], _, t => .any _
 | (s, v) :: r, h, t => by
  simp only [Env.get]
  split
  ·rename_i hh; subst hh; exact h.1
  ·exact y5.at h.2 t
theorem aBS : IntKind.i64.wrap 1 = 1 := by decide
theorem aBR (a : AV) : dE a a = True := eq_true (.refl a)
theorem aF.of [GI] {e e' : Env} {h h' : AHeap} (a : y5 e e') (b : qV h h') : aF e h e' h' :=
 fun I w N tmps s t => ⟨I, b.new w I, ⟨s.size, fun u => a.at u I _ (s.at_ u)⟩, b.sat t⟩
theorem aF.env [GI] {e e' : Env} {h : AHeap} (a : y5 e e') : aF e h e' h := .of a (.refl h)
theorem aFw [GI] {P : Program} {N : Nat} {c : RCode} {Q : Exit → Env → AHeap → Prop} {Inv : Nat → Env → AHeap → Prop}
  (step : ∀ n e h, Inv n e h → W P N c (pO (fun e h => ∃ m e' g, m < n ∧ aF e h e' g ∧ Inv m e' g) (fun x e h => ∃ e' g, aF e h e' g ∧ Q x e' g)) e h) : ∀ n e h, Inv n e h → L P N c Q e h := by
 intro n
 induction n using Nat.strongRecOn with
 | _ n ih =>
  intro e h hi DD B F code hc I w a s t hd
  refine NM (wp_mono (AJ _ _ _ _ (step n e h hi) _ B F code hc I w a s t hd) ?_)
  intro ex a' w' hpost
  obtain ⟨J, e', g, kk, s', t', ext, nw, d'⟩ := hpost
  have out : (∃ e2 g2, aF e' g e2 g2 ∧ Q ex e2 g2) → ME DD N I w h Q ex a' w' := by
   rintro ⟨e2, g2, wk, q⟩
   obtain ⟨J2, n2, s2, t2⟩ := wk J w' N a'.tmps s' t'
   exact ⟨J2, e2, g2, q, s2, t2, ext, nw.trans ext n2, d'⟩
  cases ex with
  | normal =>
   intro b kk2 cs
   obtain ⟨m, e2', g', hm, wk, hi'⟩ := kk
   obtain ⟨J2, n2, s2, t2⟩ := wk J w' N a'.tmps s' t'
   obtain ⟨e2, a2, w2, p2, r2⟩ := ih m hm e2' g' hi' _ B F code hc J2 w' a' s2 t2 d' b kk2 cs
   exact ⟨e2, a2, w2, vT ext (nw.trans ext n2) p2, r2⟩
  | exit i => exact out kk
  | goto l => exact out kk
  | ret => exact out kk
  | panic ch => exact out kk
  | outgrown => exact out kk
theorem GP {o : Option AV} {K K' : AV → Prop} (m : ∀ v, K v → K' v) (k : dJ o K) : dJ o K' := by cases o with | none => exact k | some v => exact m v k
theorem HK {x : AV} {w : Bool} {A B A' B' : Unit → Prop} (a : A () → A' ()) (b : B () → B' ()) (k : uW x w A B) : uW x w A' B' := by
 unfold uW at k ⊢
 split at k
 ·split at k
  ·rename_i hh; rw [if_pos hh]; exact a k
  ·rename_i hh; rw [if_neg hh]; exact b k
 ·exact b k
 ·exact k
theorem RE [GI] {P : Program} {K K' : AV → AHeap → Prop} (m : ∀ v g, K v g → K' v g) {e : Env} {h : AHeap} {r : ROp} (k : aop P K e h r) : aop P K' e h r := by
 cases r with
 | rd r => exact GP (fun v => m v h) k
 | ef r => exact n9 m k
theorem yW [GI] {P : Program} : ∀ (l : List ROper) {K K' : Env → AHeap → Prop} (m : ∀ e h, K e h → K' e h) {e : Env} {h : AHeap}, iN P l K e h → iN P l K' e h
 | [], K, K', m, e, h, k => m e h k
 | ⟨dst, op, none⟩ :: r, K, K', m, e, h, k => RE (fun v g => yW r m) k
 | ⟨dst, op, some (s, w)⟩ :: r, K, K', m, e, h, k => HK (RE fun v g => yW r m) (yW r m) k
theorem QZ [GI] {P : Program} {o : ROper} {H : Held} {K K' : AV → AHeap → Held → Prop} (m : ∀ v g H, K v g H → K' v g H) {e : Env} {h : AHeap} {r : ROp} (k : dop P o H K e h r) : dop P o H K' e h r := by
 cases r with
 | rd r => exact GP (fun v => m v h _) k
 | ef r =>
  simp only [dop] at k ⊢
  exact n9 (fun v g q => ⟨q.1, m v g _ q.2⟩) k
theorem rZ [GI] {P : Program} : ∀ (l : List ROper) {H : Held} {K K' : Env → AHeap → Prop} (m : ∀ e h, K e h → K' e h) {e : Env} {h : AHeap}, sR P l H K e h → sR P l H K' e h
 | [], H, K, K', m, e, h, k => m e h k
 | ⟨dst, op, none⟩ :: r, H, K, K', m, e, h, k => QZ (fun v g H => rZ r m) k
 | ⟨dst, op, some (s, w)⟩ :: r, H, K, K', m, e, h, k => HK (QZ fun v g H => rZ r m) (rZ r m) k
theorem aFv [GI] {P : Program} {N : Nat} {c : RCode} {Q Q' : Exit → Env → AHeap → Prop} (m : ∀ x e h, Q x e h → Q' x e h) {e : Env} {h : AHeap} (k : L P N c Q e h) : L P N c Q' e h := by
 intro DD B F code hc I w a s t hd b kk cs
 obtain ⟨e2, a2, w2, ⟨J, e', g, q, rest⟩, r2⟩ := k _ B F code hc I w a s t hd b kk cs
 exact ⟨e2, a2, w2, ⟨J, e', g, m _ _ _ q, rest⟩, r2⟩
theorem CU {K K' : Env → AHeap → Prop} {Q Q' : Exit → Env → AHeap → Prop} (a : ∀ e h, K e h → K' e h) (m : ∀ x e h, Q x e h → Q' x e h) : ∀ x e h, pO K Q x e h → pO K' Q' x e h := by
 intro x e h k
 cases x <;> first | exact a e h k | exact m _ e h k
theorem JZ {K K' : Env → AHeap → Prop} : ∀ (ds : List Nat) (m : ∀ e h, K e h → K' e h) (e : Env) (h : AHeap), yI ds K e h → yI ds K' e h
 | [], m, e, h, k => m e h k
 | d :: ds, m, e, h, k => by
  simp only [yI] at k ⊢
  split at k
  ·rename_i b hb
   split at k
   ·rename_i cs total ty hg
    exact JZ ds m _ _ k
   ·exact k
  ·exact k
theorem aFq [GI] {P : Program} {N : Nat} : ∀ (c : RCode) {Q Q' : Exit → Env → AHeap → Prop} (m : ∀ x e h, Q x e h → Q' x e h) {e : Env} {h : AHeap}, W P N c Q e h → W P N c Q' e h := by
 intro c
 induction c with
 | bad => intro Q Q' m e h k; exact k
 | skip => intro Q Q' m e h k; exact m _ _ _ k
 | reg ops => intro Q Q' m e h k; exact yW ops (m .normal) k
 | nX ops => intro Q Q' m e h k; exact rZ ops (m .normal) k
 | BV a b => intro Q Q' m e h k; exact ⟨rZ a (m .normal) k.1, rZ b (m .normal) k.2⟩
 | frz c ds ih => intro Q Q' m e h k; exact ih (CU (JZ ds (m .normal)) m) k
 | seq a b iha ihb => intro Q Q' m e h k; exact iha (CU (fun e h => ihb m) m) k
 | cond c a b iha ihb =>
  intro Q Q' m e h k
  simp only [W] at k ⊢
  unfold OX at k ⊢
  split at k
  ·split at k
   ·rename_i hh; rw [if_pos hh]; exact iha m k
   ·rename_i hh; rw [if_neg hh]; exact ihb m k
  ·exact k
 | block id c ih =>
  intro Q Q' m e h k
  refine ih ?_ k
  intro x e h q
  cases x <;> first | exact m _ e h q | skip
  simp only [JY] at q ⊢
  split at q
  ·rename_i hh; rw [if_pos hh]; exact m _ _ _ q
  ·rename_i hh; rw [if_neg hh]; exact m _ _ _ q
 | loop c ih => intro Q Q' m e h k; exact aFv m k
 | exit id => intro Q Q' m e h k; exact m _ _ _ k
 | ret => intro Q Q' m e h k; exact m _ _ _ k
 | scope c ih =>
  intro Q Q' m e h k
  refine ih ?_ k
  intro x e h q
  cases x <;> first | exact m _ e h q | exact q
def aM [GI] (Q : Exit → Env → AHeap → Tok → Prop) (x : Exit) (e : Env) (h : AHeap) : Prop := ∃ e' g, aF e h e' g ∧ Q x e' g .go
theorem aM.same [GI] {Q : Exit → Env → AHeap → Tok → Prop} {x : Exit} {e : Env} {h : AHeap} (q : Q x e h .go) : aM Q x e h := ⟨e, h, .refl e h, q⟩
theorem aM.to [GI] {Q : Exit → Env → AHeap → Tok → Prop} {x : Exit} {e e' : Env} {h g : AHeap} (wk : aF e h e' g) (q : Q x e' g .go) : aM Q x e h := ⟨e', g, wk, q⟩
def yL [GI] (Inv : Nat → Env → AHeap → Prop) (n : Nat) (e : Env) (h : AHeap) : Prop := ∃ m e' g, m < n ∧ aF e h e' g ∧ Inv m e' g
theorem yL.to [GI] {Inv : Nat → Env → AHeap → Prop} {n : Nat} {e : Env} {h : AHeap} (m : Nat) (e' : Env) (g : AHeap) (hm : m < n) (wk : aF e h e' g) (i : Inv m e' g) : yL Inv n e h := ⟨m, e', g, hm, wk, i⟩
theorem aFu [GI] {P : Program} {N : Nat} {c : RCode} {Q : Exit → Env → AHeap → Prop} {e e' : Env} {h h' : AHeap} (wk : aF e h e' h') (k : L P N c Q e' h') : L P N c Q e h := by
 intro DD B F code hc I w a s t hd
 obtain ⟨J, n, s', t'⟩ := wk I w N a.tmps s t
 intro b kk cs
 obtain ⟨e2, a2, w2, p2, r2⟩ := k _ B F code hc J w a s' t' hd b kk cs
 exact ⟨e2, a2, w2, vT (.refl h w) n p2, r2⟩
theorem qE [GI] {P : Program} {N : Nat} {c : RCode} {Q : Exit → Env → AHeap → Tok → Prop} (Inv : Nat → Env → AHeap → Prop) (n : Nat) {e e' : Env} {h h' : AHeap} (wk : aF e h e' h') (i : Inv n e' h')
  (step : ∀ n e h, Inv n e h → wT .go P N c (fun x e h t => kD t (fun e h t => yL Inv n e h) (fun x e h t => aM Q x e h) x e h) e h) : lT .go P N c Q e h :=
 aFu wk (aFw (Inv := Inv) step n e' h' i)
theorem aX [GI] {P : Program} {N : Nat} {c : RCode} {Q : Exit → Env → AHeap → Tok → Prop} {X : Type} (l : List X) (Inv : List X → List X → Env → AHeap → Prop) {e e' : Env} {h h' : AHeap} (wk : aF e h e' h') (i : Inv [] l e' h')
  (step : ∀ pre x post e h, l = pre ++ x :: post → Inv pre (x :: post) e h → wT .go P N c (fun y e h t => kD t (fun e h t => ∃ e' g, aF e h e' g ∧ Inv (pre ++ [x]) post e' g) (fun y e h t => aM Q y e h) y e h) e h)
  (done : ∀ e h, Inv l [] e h → wT .go P N c (fun y e h t => kD t (fun e h t => False) (fun y e h t => aM Q y e h) y e h) e h) : lT .go P N c Q e h := by
 refine qE (fun n e h => ∃ pre post, l = pre ++ post ∧ post.length = n ∧ Inv pre post e h) l.length wk ⟨[], l, rfl, rfl, i⟩ ?_
 rintro n e h ⟨pre, post, hl, hn, hi⟩
 have mono : ∀ {K K' : Env → AHeap → Prop}, (∀ e h, K e h → K' e h) → wT .go P N c (fun y e h t => kD t (fun e h t => K e h) (fun y e h t => aM Q y e h) y e h) e h → wT .go P N c (fun y e h t => kD t (fun e h t => K' e h) (fun y e h t => aM Q y e h) y e h) e h := by
  intro K K' m k
  exact aFq c (fun y e h q => by cases y <;> first | exact m _ _ q | exact q) k
 cases post with
 | nil =>
  rw [List.append_nil] at hl; subst hl
  exact mono (fun e h f => f.elim) (done e h hi)
 | cons x post =>
  refine mono ?_ (step pre x post e h hl hi)
  rintro e h ⟨e', g, wk, hi'⟩
  exact ⟨post.length, e', g, by simp at hn; omega, wk, pre ++ [x], post, by rw [hl]; simp, rfl, hi'⟩
def GL (ty : TypeId) (size : Nat) (h0 h : AHeap) (v : AV) (rows : List (List AV)) : Prop :=
 (∀ e ∈ rows, e.length = size) ∧ ((v = .sl rows true ∧ h = h0) ∨ ∃ b cap, h0 b = none ∧ rows.length ≤ cap ∧ v = .gs rows b cap ∧ h = h0.upd b (.tail (rows.length * size) (cap * size) ty))
theorem GL.full {ty : TypeId} {size : Nat} (h : AHeap) {rows : List (List AV)} (hs : ∀ e ∈ rows, e.length = size) : GL ty size h h (.sl rows true) rows := ⟨hs, .inl ⟨rfl, rfl⟩⟩
theorem GL.nil {ty : TypeId} {size : Nat} (h : AHeap) : GL ty size h h (.sl [] true) [] := .full h (by simp)
theorem GL.B7 {ty : TypeId} {size : Nat} {h0 h : AHeap} {v : AV} {rows : List (List AV)} (g : GL ty size h0 h v rows) : dE v (.sl rows false) := by
 rcases g.2 with ⟨rfl, _⟩ | ⟨b, cap, _, _, rfl, _⟩
 ·exact .sl _ _
 ·exact .gs _ _ _
theorem GL.le {ty : TypeId} {size : Nat} {h0 h : AHeap} {v : AV} {rows : List (List AV)} (g : GL ty size h0 h v rows) : h0.le h := by
 rcases g.2 with ⟨_, rfl⟩ | ⟨b, cap, hb, _, _, rfl⟩
 ·exact AHeap.le_refl _
 ·exact AHeap.b8 hb
theorem GL.at {ty : TypeId} {size : Nat} {h0 h : AHeap} {v : AV} {rows : List (List AV)} (g : GL ty size h0 h v rows) {b : Nat} {o : AObj} (e : h0 b = some o) : h b = some o := g.le b o e
theorem GL.len {ty : TypeId} {size : Nat} {h0 h : AHeap} {v : AV} {rows : List (List AV)} (g : GL ty size h0 h v rows) (k : AHeap) : sZ k 1 v = some (.int .i64 rows.length) := by
 rcases g.2 with ⟨rfl, _⟩ | ⟨b, cap, _, _, rfl, _⟩ <;> rfl
theorem GL.cells {ty : TypeId} {size : Nat} {h0 h : AHeap} {v : AV} {rows : List (List AV)} (g : GL ty size h0 h v rows) : v.cells? = some [v] := by
 rcases g.2 with ⟨rfl, _⟩ | ⟨b, cap, _, _, rfl, _⟩ <;> rfl
theorem GL.aia {ty : TypeId} {size : Nat} {h0 h : AHeap} {v : AV} {rows : List (List AV)} (g : GL ty size h0 h v rows) (k : IntKind) {i : Nat} {e : List AV} (he : rows[i]? = some e) : aia size v (.int k i) = some (.ip e 0) := by
 have hl := g.1 e (List.mem_of_getElem? he)
 rcases g.2 with ⟨rfl, _⟩ | ⟨b, cap, _, _, rfl, _⟩ <;> simp only [Pg.aia] <;> rw [if_pos (Int.natCast_nonneg i), Int.toNat_natCast, he] <;> simp only <;> rw [if_pos hl]
theorem GL.elems {ty : TypeId} {size : Nat} {h0 h : AHeap} {v : AV} {rows : List (List AV)} (g : GL ty size h0 h v rows) (k : AHeap) (s : Nat) : lG k s v = some (rows.length, rows.flatten) := by
 rcases g.2 with ⟨rfl, _⟩ | ⟨b, cap, _, _, rfl, _⟩ <;> rfl
theorem GL.fit {ty : TypeId} {size : Nat} {h0 h : AHeap} {v : AV} {rows : List (List AV)} (g : GL ty size h0 h v rows) : rG size v := by
 rcases g.2 with ⟨rfl, _⟩ | ⟨b, cap, _, _, rfl, _⟩ <;> exact g.1
theorem GL.upd {ty : TypeId} {size : Nat} {h0 h : AHeap} {v : AV} {rows : List (List AV)} (g : GL ty size h0 h v rows) {p : Nat} {x : AObj} (hp : h0 p = some x) (o : AObj) : GL ty size (h0.upd p o) (h.upd p o) v rows := by
 refine ⟨g.1, ?_⟩
 rcases g.2 with ⟨rfl, rfl⟩ | ⟨b, cap, hb, hc, rfl, rfl⟩
 ·exact .inl ⟨rfl, rfl⟩
 ·have hne : b ≠ p := by intro hh; subst hh; rw [hb] at hp; cases hp
  exact .inr ⟨b, cap, by rw [aC _ _ _ hne]; exact hb, hc, rfl, bH _ _ _ hne⟩
theorem GL.fresh {ty : TypeId} {size : Nat} {h0 h : AHeap} {v : AV} {rows : List (List AV)} (g : GL ty size h0 h v rows) {p : Nat} (hp : h p = none) (o : AObj) : GL ty size (h0.upd p o) (h.upd p o) v rows := by
 refine ⟨g.1, ?_⟩
 rcases g.2 with ⟨rfl, rfl⟩ | ⟨b, cap, hb, hc, rfl, rfl⟩
 ·exact .inl ⟨rfl, rfl⟩
 ·obtain ⟨hne, _⟩ := rD hp
  exact .inr ⟨b, cap, by rw [aC _ _ _ hne.symm]; exact hb, hc, rfl, bH _ _ _ hne.symm⟩
theorem GL.swap {ty ty' : TypeId} {size size' : Nat} {h0 h1 h2 : AHeap} {v v' : AV} {rows rows' : List (List AV)} (g : GL ty size h0 h1 v rows) (g' : GL ty' size' h1 h2 v' rows') : ∃ k, GL ty' size' h0 k v' rows' ∧ GL ty size k h2 v rows := by
 obtain ⟨s', c'⟩ := g'
 rcases c' with ⟨rfl, rfl⟩ | ⟨b', cap', hb', hc', rfl, rfl⟩
 ·exact ⟨h0, .full _ s', g⟩
 ·have : h0 b' = none := by
   cases hh : h0 b' with
   | none => rfl
   | some x => rw [g.at hh] at hb'; cases hb'
  exact ⟨_, ⟨s', .inr ⟨b', cap', this, hc', rfl, rfl⟩⟩, g.fresh hb' _⟩
theorem GL.append {ty : TypeId} {size bytes : Nat} {h0 h : AHeap} {v : AV} {rows : List (List AV)} (g : GL ty size h0 h v rows) {m : Nat} {xs : List AV} {new : List (List AV)} (hm : new.length = m) (hx : new.flatten = xs) (hn : ∀ e ∈ new, e.length = size) (room : roomFor (rows.length + m) bytes)
  {K : AV → AHeap → Tok → Prop} (k : ∀ v' h', GL ty size h0 h' v' (rows ++ new) → K v' h' .go) : jZ .go h ty size bytes v m xs K := by
 have hch : chunks size m xs = new := by
  subst hm hx
  clear k room g
  induction new with
  | nil => rfl
  | cons e es ih =>
   have he := hn e (by simp)
   simp only [List.length_cons, chunks, List.flatten_cons]
   rw [List.take_left' he, List.drop_left' he, ih (fun x hx => hn x (by simp [hx]))]
 have hall : ∀ e ∈ rows ++ new, e.length = size := by
  intro e he
  rcases List.mem_append.1 he with h | h
  ·exact g.1 e h
  ·exact hn e h
 unfold jZ gZ
 rcases g.2 with ⟨rfl, rfl⟩ | ⟨b, cap, hb, hc, rfl, rfl⟩
 ·simp only
  refine ⟨fun h => ?_, fun _ => ⟨trivial, room, g.1, .inr ?_⟩⟩
  ·have : new = [] := List.eq_nil_of_length_eq_zero (by omega)
   subst this
   exact k _ _ (by rw [List.append_nil]; exact .full _ g.1)
  ·intro b cap hb hc
   rw [hch]
   refine k _ _ ⟨hall, .inr ⟨b, cap, hb, by rw [List.length_append, hm]; exact hc, rfl, by rw [List.length_append, hm]⟩⟩
 ·simp only [aA]
  refine ⟨trivial, trivial, trivial, hc, g.1, room, ?_⟩
  rw [fE _ _ _ hb, hch]
  intro b' cap' hb' hc'
  exact k _ _ ⟨hall, .inr ⟨b', cap', hb', by rw [List.length_append, hm]; exact hc', rfl, by rw [List.length_append, hm]⟩⟩
theorem GL.mS {ty : TypeId} {size bytes : Nat} {h0 h : AHeap} {v : AV} {rows : List (List AV)} (g : GL ty size h0 h v rows) {xs : List AV} (hn : xs.length = size) (room : roomFor (rows.length + 1) bytes)
  {K : AV → AHeap → Tok → Prop} (k : ∀ v' h', GL ty size h0 h' v' (rows ++ [xs]) → K v' h' .go) : jZ .go h ty size bytes v 1 xs K :=
 g.append (new := [xs]) rfl (by simp) (by simpa using hn) room k
theorem GL.tQ [GI] {ty : TypeId} {size : Nat} {h0 h : AHeap} {v : AV} {rows : List (List AV)} (g : GL ty size h0 h v rows) {K : AV → AHeap → Prop} (k : K (.sl rows false) h0) : eE K v h :=
 ⟨_, _, (nA.forget g.le).trans (nA.less fun I us r => by
  obtain ⟨u, us', rfl, r1, r2⟩ := r.dN
  exact .cons (g.B7 I u r1) r2), k⟩
theorem eE.less [GI] {K : AV → AHeap → Prop} {v v' : AV} {g g' : AHeap} (a : dE v v') (le : g'.le g) (k : K v' g') : eE K v g :=
 ⟨_, _, (nA.forget le).trans (nA.less fun I us r => by
  obtain ⟨u, us', rfl, r1, r2⟩ := r.dN
  exact .cons (a I u r1) r2), k⟩
theorem iF {h : AHeap} {p q : Nat} {o : AObj} (hq : h.upd p o q = none) : p ≠ q := by intro hh; subst hh; rw [aA] at hq; cases hq
theorem fT {h : AHeap} {p q : Nat} {o : AObj} (hq : h.upd p o q = none) : h q = none := by rw [← hq, aC _ _ _ (iF hq).symm]
theorem dQ {h : AHeap} {b : Nat} {o : AObj} (e : h b = some o) : h.upd b o = h := by
 funext c; simp only [AHeap.upd]; split
 ·rename_i hh; subst hh; exact e.symm
 ·rfl
def QF (t : Tok) (h : AHeap) (ks : List Nat) (m k v : AV) (K : AV → AHeap → Tok → Prop) : Prop := match m with
 | .map (some r) => match h r with
  | some (.mp es) => match tR ks k v es with
   | some es' => mM ks k = true ∧ K .any (h.upd r (.mp es')) t
   | none => False
  | _ => False
 | _ => False
theorem VV [GI] (P : Program) (h : AHeap) (va : aV → AV) (K : AV → AHeap → Tok → Prop) (ks : List Nat) (m k v : aV) : mF .go P va h K (.BJ ks m k v) = QF .go h ks (va m) (va k) (va v) K := rfl
theorem rS {h : AHeap} {ks : List Nat} {r : Nat} {k v : AV} {es es' : List (AV × AV)} {K : AV → AHeap → Tok → Prop} (h1 : h r = some (.mp es)) (h2 : tR ks k v es = some es') (h3 : mM ks k = true) (kk : K .any (h.upd r (.mp es')) .go) : QF .go h ks (.map (some r)) k v K := by
 simp only [QF, h1, h2]; exact ⟨h3, kk⟩
theorem Q5 (es : List (List AV)) (b c : Nat) : (AV.gs es b c).cells? = some [.gs es b c] := rfl
theorem W6 (h : AHeap) (es : List (List AV)) (b c : Nat) : sZ h 1 (.gs es b c) = some (.int .i64 es.length) := rfl
end Pg
namespace Pg
open Go
theorem aFL : type_of% (And.intro @Pg.aDf (And.intro @Pg.aDi (And.intro @Pg.aAj (And.intro @Pg.VZ (And.intro @Pg.MP (And.intro @Pg.F2 (And.intro @Pg.F3 (And.intro @Pg.JF (And.intro @Pg.DH (And.intro @Pg.DI (And.intro @Pg.VS (And.intro @Pg.VT (And.intro @Pg.O9 (And.intro @Pg.PA (And.intro @Pg.aDm (And.intro @Pg.V3 (And.intro @Pg.VU (And.intro @Pg.PB (And.intro @Pg.M1 (And.intro @Pg.aAe (And.intro @Pg.aAl (And.intro @Pg.V1 (And.intro @Pg.aDk (And.intro @Pg.DJ (And.intro @Pg.aDg (And.intro @Pg.aDj (And.intro @Pg.aAb (And.intro @Pg.aAd (And.intro @Pg.VQ (And.intro @Pg.aAa (And.intro @Pg.aDh (And.intro @Pg.aAg (And.intro @Pg.aAk (And.intro @Pg.V2 (And.intro @Pg.VR (And.intro @Pg.aAf (And.intro @Pg.vK (And.intro @Pg.x8 (And.intro @Pg.zP (And.intro @Pg.x9 (And.intro @Pg.DB (And.intro @Pg.CL (And.intro @Pg.yA (And.intro @Pg.DC (And.intro @Pg.CM (And.intro @Pg.DG (And.intro @Pg.M0 (And.intro @Pg.aAh (And.intro @Pg.aAi (And.intro @Pg.I8 (And.intro @Pg.I9 (And.intro @Pg.JA (And.intro @Pg.MQ (And.intro @Pg.aDl (And.intro @Pg.MW (And.intro @Pg.JC @Pg.aAm)))))))))))))))))))))))))))))))))))))))))))))))))))))))) := And.intro @Pg.aDf (And.intro @Pg.aDi (And.intro @Pg.aAj (And.intro @Pg.VZ (And.intro @Pg.MP (And.intro @Pg.F2 (And.intro @Pg.F3 (And.intro @Pg.JF (And.intro @Pg.DH (And.intro @Pg.DI (And.intro @Pg.VS (And.intro @Pg.VT (And.intro @Pg.O9 (And.intro @Pg.PA (And.intro @Pg.aDm (And.intro @Pg.V3 (And.intro @Pg.VU (And.intro @Pg.PB (And.intro @Pg.M1 (And.intro @Pg.aAe (And.intro @Pg.aAl (And.intro @Pg.V1 (And.intro @Pg.aDk (And.intro @Pg.DJ (And.intro @Pg.aDg (And.intro @Pg.aDj (And.intro @Pg.aAb (And.intro @Pg.aAd (And.intro @Pg.VQ (And.intro @Pg.aAa (And.intro @Pg.aDh (And.intro @Pg.aAg (And.intro @Pg.aAk (And.intro @Pg.V2 (And.intro @Pg.VR (And.intro @Pg.aAf (And.intro @Pg.vK (And.intro @Pg.x8 (And.intro @Pg.zP (And.intro @Pg.x9 (And.intro @Pg.DB (And.intro @Pg.CL (And.intro @Pg.yA (And.intro @Pg.DC (And.intro @Pg.CM (And.intro @Pg.DG (And.intro @Pg.M0 (And.intro @Pg.aAh (And.intro @Pg.aAi (And.intro @Pg.I8 (And.intro @Pg.I9 (And.intro @Pg.JA (And.intro @Pg.MQ (And.intro @Pg.aDl (And.intro @Pg.MW (And.intro @Pg.JC @Pg.aAm)))))))))))))))))))))))))))))))))))))))))))))))))))))))
theorem aFd : type_of% (And.intro @Pg.V0 (And.intro @Pg.VW (And.intro @Pg.aAc (And.intro @Pg.aEO (And.intro @Pg.MR (And.intro @Pg.MU (And.intro @Pg.MS (And.intro @Pg.MT (And.intro @Pg.JB (And.intro @Bool.not_not (And.intro @Pg.I6 (And.intro @Pg.MO (And.intro @Pg.MN (And.intro @Pg.MY (And.intro @Pg.JD (And.intro @Pg.MZ (And.intro @Pg.JE (And.intro @Pg.I7 (And.intro @Pg.GA (And.intro @Pg.DE (And.intro @Pg.KV (And.intro @Pg.N5 (And.intro @Pg.N2 (And.intro @Pg.N3 (And.intro @Pg.Q4 (And.intro @Pg.Q1 (And.intro @Pg.Q3 (And.intro @Pg.N4 (And.intro @Pg.KU (And.intro @Pg.CY (And.intro @Pg.HF (And.intro @Pg.AG (And.intro @Pg.N6 (And.intro @decide_true (And.intro @decide_false (And.intro @Pg.aA (And.intro @Bool.not_false (And.intro @Bool.not_true (And.intro @Option.isNone_some.{0} (And.intro @Option.isNone_none.{0} (And.intro @Nat.zero_add (And.intro @List.getElem?_cons_zero.{0} (And.intro @List.getElem?_cons_succ.{0} (And.intro @Pg.JK (And.intro @Pg.GD (And.intro @Pg.GF (And.intro @List.length_cons.{0} (And.intro @List.length_nil.{0} (And.intro @List.map_cons.{0, 0} (And.intro @List.map_nil.{0, 0} (And.intro @Option.map_some.{0, 0} (And.intro @Option.map_none.{0, 0} (And.intro @List.take_zero.{0} (And.intro @List.take_succ_cons.{0} (And.intro @List.take_nil.{0} (And.intro @List.drop_zero.{0} (And.intro @List.drop_succ_cons.{0} (And.intro @List.drop_nil.{0} (And.intro @List.append_nil.{0} (And.intro @List.nil_append.{0} (And.intro @List.cons_append.{0} (And.intro @Bool.false_eq_true (And.intro @Bool.true_eq_false (And.intro @and_true (And.intro @true_and (And.intro @or_false (And.intro @false_or (And.intro @or_true (And.intro @true_or (And.intro @Int.cast_ofNat_Int (And.intro @Bool.and_true (And.intro @Bool.true_and (And.intro @Bool.and_false (And.intro @Bool.false_and (And.intro @Bool.and_self (And.intro @Pg.W4 (And.intro @Pg.W5 (And.intro @Pg.RG (And.intro @List.flatten_cons.{0} (And.intro @List.flatten_nil.{0} (And.intro @List.mem_singleton.{0} (And.intro @Pg.DF (And.intro @Pg.CN (And.intro @Pg.VV (And.intro @Pg.Q5 (And.intro @Pg.W6 (And.intro @Pg.MV (And.intro @Pg.MX (And.intro @Option.isSome_some.{0} @Option.isSome_none.{0}))))))))))))))))))))))))))))))))))))))))))))))))))))))))))))))))))))))))))))))))))))))))) := And.intro @Pg.V0 (And.intro @Pg.VW (And.intro @Pg.aAc (And.intro @Pg.aEO (And.intro @Pg.MR (And.intro @Pg.MU (And.intro @Pg.MS (And.intro @Pg.MT (And.intro @Pg.JB (And.intro @Bool.not_not (And.intro @Pg.I6 (And.intro @Pg.MO (And.intro @Pg.MN (And.intro @Pg.MY (And.intro @Pg.JD (And.intro @Pg.MZ (And.intro @Pg.JE (And.intro @Pg.I7 (And.intro @Pg.GA (And.intro @Pg.DE (And.intro @Pg.KV (And.intro @Pg.N5 (And.intro @Pg.N2 (And.intro @Pg.N3 (And.intro @Pg.Q4 (And.intro @Pg.Q1 (And.intro @Pg.Q3 (And.intro @Pg.N4 (And.intro @Pg.KU (And.intro @Pg.CY (And.intro @Pg.HF (And.intro @Pg.AG (And.intro @Pg.N6 (And.intro @decide_true (And.intro @decide_false (And.intro @Pg.aA (And.intro @Bool.not_false (And.intro @Bool.not_true (And.intro @Option.isNone_some.{0} (And.intro @Option.isNone_none.{0} (And.intro @Nat.zero_add (And.intro @List.getElem?_cons_zero.{0} (And.intro @List.getElem?_cons_succ.{0} (And.intro @Pg.JK (And.intro @Pg.GD (And.intro @Pg.GF (And.intro @List.length_cons.{0} (And.intro @List.length_nil.{0} (And.intro @List.map_cons.{0, 0} (And.intro @List.map_nil.{0, 0} (And.intro @Option.map_some.{0, 0} (And.intro @Option.map_none.{0, 0} (And.intro @List.take_zero.{0} (And.intro @List.take_succ_cons.{0} (And.intro @List.take_nil.{0} (And.intro @List.drop_zero.{0} (And.intro @List.drop_succ_cons.{0} (And.intro @List.drop_nil.{0} (And.intro @List.append_nil.{0} (And.intro @List.nil_append.{0} (And.intro @List.cons_append.{0} (And.intro @Bool.false_eq_true (And.intro @Bool.true_eq_false (And.intro @and_true (And.intro @true_and (And.intro @or_false (And.intro @false_or (And.intro @or_true (And.intro @true_or (And.intro @Int.cast_ofNat_Int (And.intro @Bool.and_true (And.intro @Bool.true_and (And.intro @Bool.and_false (And.intro @Bool.false_and (And.intro @Bool.and_self (And.intro @Pg.W4 (And.intro @Pg.W5 (And.intro @Pg.RG (And.intro @List.flatten_cons.{0} (And.intro @List.flatten_nil.{0} (And.intro @List.mem_singleton.{0} (And.intro @Pg.DF (And.intro @Pg.CN (And.intro @Pg.VV (And.intro @Pg.Q5 (And.intro @Pg.W6 (And.intro @Pg.MV (And.intro @Pg.MX (And.intro @Option.isSome_some.{0} @Option.isSome_none.{0}))))))))))))))))))))))))))))))))))))))))))))))))))))))))))))))))))))))))))))))))))))))))
attribute [go_sem ↓] aFL
attribute [go_sem] aFd y5 aBR aBS bS oJ vH fZ afa gW IQ aun amn amx ZL OY RI lM RRead.still REff.oR fO mE mB RA dI l9 eq_self if_true if_false chunks lG rG forall_eq AI tP abx RH
end Pg
namespace Pg
open Go
def xY (I J : Imm) (a b : AV) : Prop := ∀ v, Rd I a v → Rd J b v
theorem xY.refl {I J : Imm} (le : I.le J) (a : AV) : xY I J a a := fun v r => r.mono le
theorem xY.sl0 {I J : Imm} (le : I.le J) (es : List (List AV)) (f : Bool) : xY I J (.sl es f) (.sl es false) := fun v r => r.LQ.mono le
def CG (I J : Imm) (xs ys : List AV) : Prop := ∀ vs, Rds I xs vs → Rds J ys vs
theorem CG.nil (I J : Imm) : CG I J [] [] := fun vs r => by have := r.of_nil; subst this; exact .nil _
theorem CG.cons {I J : Imm} {a b : AV} {xs ys : List AV} (h : xY I J a b) (r : CG I J xs ys) : CG I J (a :: xs) (b :: ys) := by
 intro vs hr
 obtain ⟨v, vs', rfl, h1, h2⟩ := hr.dN
 exact .cons (h v h1) (r vs' h2)
theorem xY.agg {I J : Imm} {xs ys : List AV} (h : CG I J xs ys) : xY I J (.agg xs) (.agg ys) := by
 intro v r
 obtain ⟨vs, rfl, r1, r2⟩ := r.mO
 exact .qP (h vs r1) r2
theorem xY.one {I J : Imm} (le : I.le J) {xs ys : List AV} {f : Bool} (hl : xs.length = ys.length) (h : CG I J xs ys) : xY I J (.sl [xs] f) (.sl [ys] false) := by
 intro v r
 obtain ⟨a, cap, rfl, h1, h2, h3, h4, h5⟩ := r.uS
 rcases h5 with h5 | ⟨b, o, size, vss, rfl, R⟩
 ·cases h5
 ·refine Rd.rQ (es := [ys]) (vss := vss) false h1 (fun h => by cases h) ⟨by rw [← R.len]; rfl, ?_, fun i vs j v e1 e2 => le _ _ _ (R.mem i vs j v e1 e2), R.one, ?_⟩
  ·intro i e vs e1 e2
   cases i with
   | zero =>
    simp only [List.getElem?_cons_zero, Option.some.injEq] at e1; subst e1
    have := R.oC 0 xs vs rfl e2
    exact ⟨by rw [← hl]; exact this.1, this.2⟩
   | succ i => simp at e1
  ·intro i e vs j c v e1 e2 e3 e4
   cases i with
   | zero =>
    simp only [List.getElem?_cons_zero, Option.some.injEq] at e1; subst e1
    have hs := R.oC 0 xs vs rfl e2
    exact (h vs ⟨by rw [hs.1, hs.2], fun j c v e3 e4 => R.rd 0 xs vs j c v rfl e2 e3 e4⟩).at_ j c v e3 e4
   | succ i => simp at e1
theorem xY.os {I J : Imm} {b : Nat} {cs : List AV} {us : List Value} (hm : ∀ (j : Nat) (u : Value), us[j]? = some u → J b j = some u) (r : Rds J cs us) (h1 : cV us) : xY I J (.os b 1 1) (.sl [cs] false) := by
 intro v hv
 have := hv.pQ; subst this
 refine Rd.rQ (es := [cs]) (b := b) (o := 0) (size := cs.length) (vss := [us]) false (Nat.le_refl _) (fun h => by cases h) ⟨rfl, ?_, ?_, ?_, ?_⟩
 ·intro i e vs e1 e2
  cases i with
  | zero => simp at e1 e2; subst e1 e2; exact ⟨rfl, r.len.symm⟩
  | succ i => simp at e1
 ·intro i vs j v e1 e2
  cases i with
  | zero => simp at e1; subst e1; simpa using hm j v e2
  | succ i => simp at e1
 ·intro i vs e1
  cases i with
  | zero => simp at e1; subst e1; exact h1
  | succ i => simp at e1
 ·intro i e vs j c v e1 e2 e3 e4
  cases i with
  | zero => simp at e1 e2; subst e1 e2; exact r.at_ j c v e3 e4
  | succ i => simp at e1
end Pg
namespace Pg
open Go
end Pg
