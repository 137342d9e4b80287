/- The core, sixteenth part: the same walk with a token, so that simp goes on just where the walk stands. -/
import Derived.Test.YtpebidcmkjjpnaaCore12
namespace Pg
open Go
set_option linter.unusedSimpArgs false
set_option linter.unusedVariables false

inductive Tok where
  | go

def okReadT (t : Tok) (o : Option AV) (K : AV → Tok → Prop) : Prop := okRead o fun v => K v .go
def okOrT (t : Tok) (o : Option AHeap) (K : AHeap → Tok → Prop) : Prop := okOr o fun v => K v .go
def okCellsT (t : Tok) (o : Option (List AV)) (K : List AV → Tok → Prop) : Prop := okCells o fun v => K v .go
def okElemsT (t : Tok) (o : Option (Nat × List AV)) (K : Nat → List AV → Tok → Prop) : Prop := okElems o fun m v => K m v .go
def afreshT (t : Tok) (h : AHeap) (K : Nat → Tok → Prop) : Prop := afresh h fun b => K b .go
def agateT (t : Tok) (x : AV) (w : Bool) (A B : Tok → Prop) : Prop := agate x w (fun _ => A .go) (fun _ => B .go)
def guardT (t : Tok) (x : AV) (w : Bool) (A B : Tok → Prop) : Prop := aguard x w (fun _ => A .go) (fun _ => B .go)
def callT (t : Tok) (P : Program) (f : FuncId) (args : List AV) (h : AHeap) (K : AV → AHeap → Tok → Prop) : Prop := ACalls P f args h fun v g => K v g .go
def appendT (t : Tok) (h : AHeap) (ty : TypeId) (size bytes : Nat) (s : AV) (m : Nat) (xs : List AV) (K : AV → AHeap → Tok → Prop) : Prop := aappend h ty size bytes s m xs fun v g => K v g .go
def aeffT (t : Tok) (P : Program) (va : ROpd → AV) (h : AHeap) (K : AV → AHeap → Tok → Prop) (r : REff) : Prop := aeff P va h (fun v g => K v g .go) r
def aopT (t : Tok) (P : Program) (K : AV → AHeap → Tok → Prop) (e : Env) (h : AHeap) (r : ROp) : Prop := aop P (fun v g => K v g .go) e h r
def aopsT (t : Tok) (P : Program) (l : List ROper) (K : Env → AHeap → Tok → Prop) (e : Env) (h : AHeap) : Prop := aops P l (fun e h => K e h .go) e h
def dopT (t : Tok) (P : Program) (H : List (AHeap → Prop)) (K : AV → AHeap → List (AHeap → Prop) → Tok → Prop) (e : Env) (h : AHeap) (r : ROp) : Prop := dop P H (fun v g H => K v g H .go) e h r
def dopsT (t : Tok) (P : Program) (l : List ROper) (H : List (AHeap → Prop)) (K : Env → AHeap → Tok → Prop) (e : Env) (h : AHeap) : Prop := dops P l H (fun e h => K e h .go) e h
def wT (t : Tok) (P : Program) (N : Nat) (c : RCode) (Q : Exit → Env → AHeap → Tok → Prop) (e : Env) (h : AHeap) : Prop := W P N c (fun x e h => Q x e h .go) e h
def lT (t : Tok) (P : Program) (N : Nat) (c : RCode) (Q : Exit → Env → AHeap → Tok → Prop) (e : Env) (h : AHeap) : Prop := L P N c (fun x e h => Q x e h .go) e h
def onNormalT (t : Tok) (K : Env → AHeap → Tok → Prop) (Q : Exit → Env → AHeap → Tok → Prop) (x : Exit) (e : Env) (h : AHeap) : Prop := onNormal (fun e h => K e h .go) (fun x e h => Q x e h .go) x e h
def onExitT (t : Tok) (i : Nat) (Q : Exit → Env → AHeap → Tok → Prop) (x : Exit) (e : Env) (h : AHeap) : Prop := onExit i (fun x e h => Q x e h .go) x e h
def noGotoT (t : Tok) (Q : Exit → Env → AHeap → Tok → Prop) (x : Exit) (e : Env) (h : AHeap) : Prop := noGoto (fun x e h => Q x e h .go) x e h
def okResT (t : Tok) (o : Option (List AV)) (K : AV → Prop) : Prop := okRes o K
def atEndT (t : Tok) (rs : List RRes) (K : AV → AHeap → Prop) (x : Exit) (e : Env) (h : AHeap) : Prop := atEnd rs K x e h
def heldT (t : Tok) (H : List (AHeap → Prop)) (g : AHeap) : Prop := AllH H g

def okFrzT (t : Tok) (ds : List Nat) (K : Env → AHeap → Tok → Prop) (e : Env) (h : AHeap) : Prop := okFrz ds (fun e h => K e h .go) e h
def frz2T (t : Tok) (o : Option AObj) (b d : Nat) (ds : List Nat) (K : Env → AHeap → Tok → Prop) (e : Env) (h : AHeap) : Prop := match o with
  | some (.blk cs _ _) => okFrzT t ds K (e.put (some d) (.ip cs 0)) (h.del b)
  | _ => False
def frz1T (t : Tok) (x : AV) (d : Nat) (ds : List Nat) (K : Env → AHeap → Tok → Prop) (e : Env) (h : AHeap) : Prop := match x with
  | .ptr (some ⟨b, 0, none⟩) => frz2T t (h b) b d ds K e h
  | _ => False
section
variable (P : Program) (N : Nat) (e : Env) (h g : AHeap)

theorem t_read (v : AV) (K : AV → Tok → Prop) : okReadT .go (some v) K = K v .go := rfl
theorem t_or (v : AHeap) (K : AHeap → Tok → Prop) : okOrT .go (some v) K = K v .go := rfl
theorem t_cells (v : List AV) (K : List AV → Tok → Prop) : okCellsT .go (some v) K = K v .go := rfl
theorem t_elems (m : Nat) (v : List AV) (K : Nat → List AV → Tok → Prop) : okElemsT .go (some (m, v)) K = K m v .go := rfl
theorem t_guard_bool (b w : Bool) (A B : Tok → Prop) : guardT .go (.bool b) w A B = agateT .go (.bool b) w A B := rfl
theorem t_guard_undef (w : Bool) (A B : Tok → Prop) : guardT .go (.tuple []) w A B = B .go := rfl
theorem t_gate_tt (A B : Tok → Prop) : agateT .go (.bool true) true A B = A .go := rfl
theorem t_gate_ff (A B : Tok → Prop) : agateT .go (.bool false) false A B = A .go := rfl
theorem t_gate_tf (A B : Tok → Prop) : agateT .go (.bool true) false A B = B .go := rfl
theorem t_gate_ft (A B : Tok → Prop) : agateT .go (.bool false) true A B = B .go := rfl
theorem t_gate_not (b w : Bool) (A B : Tok → Prop) : agateT .go (.bool (!b)) w A B = agateT .go (.bool b) (!w) A B := by cases b <;> cases w <;> rfl
theorem t_store (va : ROpd → AV) (K : AV → AHeap → Tok → Prop) (s : Nat) (x v : ROpd) : aeffT .go P va h K (.store s x v) = okOrT .go (astore h s (va x) (va v)) (K .any) := rfl
theorem t_box (va : ROpd → AV) (K : AV → AHeap → Tok → Prop) (ty : TypeId) (x : ROpd) : aeffT .go P va h K (.box ty x) = okCellsT .go (va x).cells? (fun ds t => afreshT t h fun b t => K (.ptr (some ⟨b, 0, none⟩)) (h.upd b (.blk ds ds.length ty)) t) := rfl
theorem t_alloc (va : ROpd → AV) (K : AV → AHeap → Tok → Prop) (ty : TypeId) (z : List AV) : aeffT .go P va h K (.alloc ty z) = afreshT .go h fun b t => K (.ptr (some ⟨b, 0, none⟩)) (h.upd b (.blk z z.length ty)) t := rfl
theorem t_mkmap (va : ROpd → AV) (K : AV → AHeap → Tok → Prop) : aeffT .go P va h K .mkmap = afreshT .go h fun b t => K (.map (some b)) (h.upd b (.mp [])) t := rfl
theorem t_bsle (va : ROpd → AV) (K : AV → AHeap → Tok → Prop) (ty : TypeId) (s l : Nat) (z : List AV) (ps : List (Nat × Nat × ROpd)) : aeffT .go P va h K (.bsle ty s l z ps) = okCellsT .go (afill z (evParts va ps)) (fun cs t => afreshT t h fun b t => K (.os b l l) (h.upd b (.blk cs cs.length ty)) t) := rfl
theorem t_append (va : ROpd → AV) (K : AV → AHeap → Tok → Prop) (ty : TypeId) (s b : Nat) (x y : ROpd) : aeffT .go P va h K (.append ty s b x y) = okElemsT .go (aelems h s (va y)) (fun m xs t => elemsFit s (va y) ∧ appendT t h ty s b (va x) m xs K) := rfl
def appendzT (t : Tok) (h : AHeap) (ty : TypeId) (b : Nat) (z s n : AV) (K : AV → AHeap → Tok → Prop) : Prop := match n with
    | .int .i64 m => 0 ≤ m ∧ m ≤ 9223372036854775807 ∧ m * b ≤ 2 ^ 48 ∧ appendT t h ty 1 b s m.toNat (List.replicate m.toNat z) K
    | _ => False
theorem t_appendz (va : ROpd → AV) (K : AV → AHeap → Tok → Prop) (ty : TypeId) (b : Nat) (z : AV) (x y : ROpd) : aeffT .go P va h K (.appendz ty b z x y) = appendzT .go h ty b z (va x) (va y) K := rfl
def mkslT (t : Tok) (h : AHeap) (ty : TypeId) (b : Nat) (z l c : AV) (K : AV → AHeap → Tok → Prop) : Prop := match l, c with
    | .int .i64 l, .int .i64 c => l = c ∧ 0 ≤ l ∧ l ≤ 9223372036854775807 ∧ (b : Int) * l ≤ 2 ^ 48 ∧ afreshT t h fun b t => K (.os b l.toNat l.toNat) (h.upd b (.blk (List.replicate l.toNat z) l.toNat ty)) t
    | _, _ => False
theorem t_mksl (va : ROpd → AV) (K : AV → AHeap → Tok → Prop) (ty : TypeId) (b : Nat) (z : AV) (x y : ROpd) : aeffT .go P va h K (.mksl ty b z x y) = mkslT .go h ty b z (va x) (va y) K := rfl
theorem t_call (va : ROpd → AV) (K : AV → AHeap → Tok → Prop) (f : FuncId) (args : List ROpd) : aeffT .go P va h K (.call f args) = callT .go P f (args.map va) h K := rfl
def callvT (t : Tok) (P : Program) (f : AV) (args : List AV) (h : AHeap) (K : AV → AHeap → Tok → Prop) : Prop := match f with
    | .func (.func f) first captured => callable P f = true ∧ callT t P f (first ++ args ++ captured) h K
    | _ => False
theorem t_callv (va : ROpd → AV) (K : AV → AHeap → Tok → Prop) (f : ROpd) (args : List ROpd) : aeffT .go P va h K (.callv f args) = callvT .go P (va f) (args.map va) h K := rfl
theorem t_callv_func (f : FuncId) (first captured args : List AV) (K : AV → AHeap → Tok → Prop) : callvT .go P (.func (.func f) first captured) args h K = (callable P f = true ∧ callT .go P f (first ++ args ++ captured) h K) := rfl
theorem t_op_rd (K : AV → AHeap → Tok → Prop) (r : RRead) : aopT .go P K e h (.rd r) = okReadT .go (aread (ev e) h r) (fun v t => K v h t) := rfl
theorem t_op_ef (K : AV → AHeap → Tok → Prop) (r : REff) : aopT .go P K e h (.ef r) = aeffT .go P (ev e) h K r := rfl
theorem t_ops_nil (K : Env → AHeap → Tok → Prop) : aopsT .go P [] K e h = K e h .go := rfl
theorem t_ops_plain (K : Env → AHeap → Tok → Prop) (d : Option Nat) (op : ROp) (r : List ROper) : aopsT .go P (⟨d, op, none⟩ :: r) K e h = aopT .go P (fun av g t => aopsT t P r K (e.put d av) g) e h op := rfl
theorem t_ops_guard (K : Env → AHeap → Tok → Prop) (d : Option Nat) (op : ROp) (s : Nat) (w : Bool) (r : List ROper) : aopsT .go P (⟨d, op, some (s, w)⟩ :: r) K e h = guardT .go (e.get s) w (fun t => aopT t P (fun av g t => aopsT t P r K (e.put d av) g) e h op) (fun t => aopsT t P r K (e.put d (.tuple [])) h) := rfl
theorem t_dop_rd (H : List (AHeap → Prop)) (K : AV → AHeap → List (AHeap → Prop) → Tok → Prop) (q : RRead) : dopT .go P H K e h (.rd q) = okReadT .go (aread (ev e) h q) (fun av t => K av h (if q.still = true then H else (fun g => aread (ev e) g q = some av) :: H) t) := rfl
theorem t_dop_ef (H : List (AHeap → Prop)) (K : AV → AHeap → List (AHeap → Prop) → Tok → Prop) (q : REff) : dopT .go P H K e h (.ef q) = aeffT .go P (ev e) h (fun av g t => (q.allocs = true ∨ heldT t H g) ∧ K av g H t) q := rfl
theorem t_dops_nil (H : List (AHeap → Prop)) (K : Env → AHeap → Tok → Prop) : dopsT .go P [] H K e h = K e h .go := rfl
theorem t_dops_plain (H : List (AHeap → Prop)) (K : Env → AHeap → Tok → Prop) (d : Option Nat) (op : ROp) (r : List ROper) : dopsT .go P (⟨d, op, none⟩ :: r) H K e h = dopT .go P H (fun av g H' t => dopsT t P r H' K (e.put d av) g) e h op := rfl
theorem t_dops_guard (H : List (AHeap → Prop)) (K : Env → AHeap → Tok → Prop) (d : Option Nat) (op : ROp) (s : Nat) (w : Bool) (r : List ROper) : dopsT .go P (⟨d, op, some (s, w)⟩ :: r) H K e h = guardT .go (e.get s) w (fun t => dopT t P H (fun av g H' t => dopsT t P r H' K (e.put d av) g) e h op) (fun t => dopsT t P r H K (e.put d (.tuple [])) h) := rfl
theorem t_held_nil : heldT .go [] g = True := by simp [heldT, AllH]
theorem t_held_cons (p : AHeap → Prop) (H : List (AHeap → Prop)) : heldT .go (p :: H) g = (p g ∧ heldT .go H g) := by simp [heldT, AllH]
variable (Q : Exit → Env → AHeap → Tok → Prop)
theorem t_skip : wT .go P N .skip Q e h = Q .normal e h .go := rfl
theorem t_ret : wT .go P N .ret Q e h = Q .ret e h .go := rfl
theorem t_exit (i : Nat) : wT .go P N (.exit i) Q e h = Q (.exit i) e h .go := rfl
theorem t_reg (ops : List ROper) : wT .go P N (.reg ops) Q e h = aopsT .go P ops (fun e h t => Q .normal e h t) e h := rfl
theorem t_dreg (ops : List ROper) : wT .go P N (.dreg ops) Q e h = dopsT .go P ops [] (fun e h t => Q .normal e h t) e h := rfl
theorem t_frz (c : RCode) (ds : List Nat) : wT .go P N (.frz c ds) Q e h = wT .go P N c (fun x e h t => onNormalT t (fun e h t => okFrzT t ds (fun e h t => Q .normal e h t) e h) Q x e h) e h := rfl
theorem t_frz_nil (K : Env → AHeap → Tok → Prop) : okFrzT .go [] K e h = K e h .go := rfl
theorem t_frz_cons (d : Nat) (ds : List Nat) (K : Env → AHeap → Tok → Prop) : okFrzT .go (d :: ds) K e h = frz1T .go (e.get d) d ds K e h := rfl
theorem t_frz_ptr (b d : Nat) (ds : List Nat) (K : Env → AHeap → Tok → Prop) : frz1T .go (.ptr (some ⟨b, 0, none⟩)) d ds K e h = frz2T .go (h b) b d ds K e h := rfl
theorem t_frz_blk (cs : List AV) (n : Nat) (ty : TypeId) (b d : Nat) (ds : List Nat) (K : Env → AHeap → Tok → Prop) : frz2T .go (some (.blk cs n ty)) b d ds K e h = okFrzT .go ds K (e.put (some d) (.ip cs 0)) (h.del b) := rfl
theorem t_seq (a b : RCode) : wT .go P N (.seq a b) Q e h = wT .go P N a (fun x e h t => onNormalT t (fun e h t => wT t P N b Q e h) Q x e h) e h := rfl
theorem t_cond (c : ROpd) (a b : RCode) : wT .go P N (.cond c a b) Q e h = agateT .go (ev e c) true (fun t => wT t P N a Q e h) (fun t => wT t P N b Q e h) := rfl
theorem t_block (i : Nat) (c : RCode) : wT .go P N (.block i c) Q e h = wT .go P N c (fun x e h t => onExitT t i Q x e h) e h := rfl
theorem t_scope (c : RCode) : wT .go P N (.scope c) Q e h = wT .go P N c (fun x e h t => noGotoT t Q x e h) e h := rfl
theorem t_loop (c : RCode) : wT .go P N (.loop c) Q e h = lT .go P N c Q e h := rfl
theorem t_onNormal_normal (K : Env → AHeap → Tok → Prop) : onNormalT .go K Q .normal e h = K e h .go := rfl
theorem t_onNormal_exit (K : Env → AHeap → Tok → Prop) (i : Nat) : onNormalT .go K Q (.exit i) e h = Q (.exit i) e h .go := rfl
theorem t_onNormal_ret (K : Env → AHeap → Tok → Prop) : onNormalT .go K Q .ret e h = Q .ret e h .go := rfl
theorem t_onExit_normal (i : Nat) : onExitT .go i Q .normal e h = Q .normal e h .go := rfl
theorem t_onExit_ret (i : Nat) : onExitT .go i Q .ret e h = Q .ret e h .go := rfl
theorem t_onExit_exit (i j : Nat) : onExitT .go j Q (.exit i) e h = if i = j then Q .normal e h .go else Q (.exit i) e h .go := rfl
theorem t_noGoto_normal : noGotoT .go Q .normal e h = Q .normal e h .go := rfl
theorem t_noGoto_ret : noGotoT .go Q .ret e h = Q .ret e h .go := rfl
theorem t_noGoto_exit (i : Nat) : noGotoT .go Q (.exit i) e h = Q (.exit i) e h .go := rfl
theorem t_end_normal (rs : List RRes) (K : AV → AHeap → Prop) : atEndT .go rs K .normal e h = okResT .go (evRess e h rs) (fun v => K v h) := rfl
theorem t_end_ret (rs : List RRes) (K : AV → AHeap → Prop) : atEndT .go rs K .ret e h = okResT .go (evRess e h rs) (fun v => K v h) := rfl
theorem t_res_none (K : AV → Prop) : okResT .go (some []) K = K (.tuple []) := rfl
theorem t_res_one (v : AV) (K : AV → Prop) : okResT .go (some [v]) K = K v := rfl
theorem t_res_two (u v : AV) (r : List AV) (K : AV → Prop) : okResT .go (some (u :: v :: r)) K = K (.tuple (u :: v :: r)) := rfl
theorem t_get_some (s t : Nat) (v : AV) : Env.get (Env.put e (some s) v) t = if s = t then v else e.get t := rfl
theorem t_get_none (t : Nat) (v : AV) : Env.get (Env.put e none v) t = e.get t := rfl
theorem t_get_cons (s t : Nat) (v : AV) : Env.get ((s, v) :: e) t = if s = t then v else e.get t := rfl
theorem t_get_nil (t : Nat) : Env.get [] t = .any := rfl
theorem t_ev_t (n : Nat) : ev e (.t n) = e.get n := rfl
theorem t_ev_c (v : AV) : ev e (.c v) = v := rfl
theorem t_evs_nil : evRess e h [] = some [] := rfl
theorem t_evs_cons (x : RRes) (r : List RRes) : evRess e h (x :: r) = match evRes e h x, evRess e h r with | some a, some l => some (a :: l) | _, _ => none := rfl
theorem t_evr_tmp (t : Nat) : evRes e h (.tmp t) = some (e.get t) := rfl
theorem t_evr_cell (a : Nat) (n : Option Nat) : evRes e h (.cell a n) = aload h n (e.get a) := rfl
end

theorem agateT_split {b w : Bool} {A B : Tok → Prop} (h1 : b = w → A .go) (h2 : b = (!w) → B .go) : agateT .go (.bool b) w A B := by
  cases b <;> cases w <;> first | exact h1 rfl | exact h2 rfl
theorem agateT_dec {p : Prop} [Decidable p] {A B : Tok → Prop} (h1 : p → A .go) (h2 : ¬ p → B .go) : agateT .go (.bool (decide p)) true A B :=
  agateT_split (fun h => h1 (of_decide_eq_true h)) (fun h => h2 (of_decide_eq_false h))
theorem agateT_decf {p : Prop} [Decidable p] {A B : Tok → Prop} (h1 : ¬ p → A .go) (h2 : p → B .go) : agateT .go (.bool (decide p)) false A B :=
  agateT_split (fun h => h1 (of_decide_eq_false h)) (fun h => h2 (of_decide_eq_true h))
theorem lT_round {P : Program} {N : Nat} {c : RCode} {Q : Exit → Env → AHeap → Tok → Prop} {e : Env} {h : AHeap} (k : wT .go P N c (fun x e h t => onNormalT t (fun e h t => lT t P N c Q e h) Q x e h) e h) : lT .go P N c Q e h := L_round k
theorem callT_of {P : Program} {f : FuncId} {args : List AV} {h : AHeap} {K : AV → AHeap → Prop} {K' : AV → AHeap → Tok → Prop} (c : ACalls P f args h K) (m : ∀ v g, K v g → K' v g .go) : callT .go P f args h K' := c.mono m
theorem afreshT_intro {h : AHeap} {K : Nat → Tok → Prop} (k : ∀ b, h b = none → K b .go) : afreshT .go h K := k

/-! ### Less may be told, and lists become immutable -/

/-- From a value and a heap to others that the same world bears. -/
def WeakV (vs : List AV) (h : AHeap) (vs' : List AV) (h' : AHeap) : Prop :=
  ∀ (I : Imm) (w : World) (us : List Value), Rds I vs us → Sat w I h → ∃ J, New w I J h h' ∧ Rds J vs' us ∧ Sat w J h'
theorem WeakV.refl (vs : List AV) (h : AHeap) : WeakV vs h vs h := fun I w us r s => ⟨I, .refl w I h, r, s⟩
theorem WeakV.trans {a b c : List AV} {h g k : AHeap} (x : WeakV a h b g) (y : WeakV b g c k) : WeakV a h c k := by
  intro I w us r s
  obtain ⟨J, n, r1, s1⟩ := x I w us r s
  obtain ⟨K, m, r2, s2⟩ := y J w us r1 s1
  exact ⟨K, n.trans (.refl h w) m, r2, s2⟩
theorem WeakV.forget {vs : List AV} {h h' : AHeap} (le : h'.le h) : WeakV vs h vs h' := fun I w us r s => ⟨I, (New.refl w I h).forget le, r, s.forget le⟩
/-- Values that say less. -/
theorem WeakV.less {vs vs' : List AV} {h : AHeap} (H : ∀ I us, Rds I vs us → Rds I vs' us) : WeakV vs h vs' h := fun I w us r s => ⟨I, .refl w I h, H I us r, s⟩

theorem ACalls.weak {P : Program} {f : FuncId} {args : List AV} {h : AHeap} {K : AV → AHeap → Prop} (c : ACalls P f args h fun v g => ∃ v' g', WeakV [v] g [v'] g' ∧ K v' g') : ACalls P f args h K := by
  intro I w vs r s
  refine (c I w vs r s).mono ?_
  rintro e w' ⟨v, he, J, x, g, ⟨x', g', wk, k⟩, rd, s', ex, n⟩
  obtain ⟨J', n', r', s''⟩ := wk J w' [v] (.cons rd (.nil J)) s'
  obtain ⟨v', _, e1, r1, _⟩ := r'.uncons
  cases e1
  exact ⟨v, he, J', x', g', k, r1, s'', ex, n.trans ex n'⟩

/-- Where a walk ends: what is told may be less. -/
def EndW (K : AV → AHeap → Prop) (v : AV) (g : AHeap) : Prop := ∃ v' g', WeakV [v] g [v'] g' ∧ K v' g'
theorem EndW.same {K : AV → AHeap → Prop} {v : AV} {g : AHeap} (k : K v g) : EndW K v g := ⟨v, g, .refl _ _, k⟩
theorem EndW.forget {K : AV → AHeap → Prop} {v : AV} {g g' : AHeap} (le : g'.le g) (k : K v g') : EndW K v g := ⟨v, g', .forget le, k⟩

theorem acallsT {P : Program} (B F : List Nat) {f : FuncId} {fn : Func} {rc : RCode} {rs : List RRes} (N : Nat) (hf : P.funcs[f]? = some fn) (hN : fn.ntmps = N) (hc : fn.body.bind (rcode P N B F) = some rc) (hr : rress P fn.results.toList = some rs)
    {args : List AV} {h : AHeap} {K : AV → AHeap → Prop} (hn : args.length ≤ N) (k : wT .go P N rc (fun x e h t => atEndT t rs (EndW K) x e h) (envOf 0 args) h) : ACalls P f args h K :=
  ACalls.weak (acalls_of N hf hN hc hr hn k)

/-- An owned row becomes an immutable slice. -/
theorem freeze_sat {w : World} {I : Imm} {h : AHeap} (s : Sat w I h) {b total size : Nat} {ty : TypeId} {es : List (List AV)} {cs : List AV} (hb : h b = some (.blk cs total ty)) (hcs : es.flatten = cs.take (es.length * size)) (hs : ∀ e ∈ es, e.length = size) :
    ∃ J, New w I J h (h.del b) ∧ Sat w J (h.del b) ∧ ∀ cap, es.length ≤ cap → Rd J (.sl es false) (.slice (some ⟨b, 0, none⟩) es.length cap) := by
  obtain ⟨vs, g1, g2, g3, g4, g5⟩ := s.obj _ _ hb
  let J : Imm := fun c o => if c = b then (vs.take cs.length)[o]? else I c o
  have hIJ : I.le J := by
    intro c o v hv
    have := s.dis c o v hv
    simp only [J]
    rw [if_neg]
    · exact hv
    · intro hh; subst hh; rw [hb] at this; exact this
  have hcell : ∀ (o : Nat) (v : Value), (vs.take cs.length)[o]? = some v → w.cell? ⟨b, o, none⟩ = some v := by
    intro o v hv
    rw [List.getElem?_take] at hv
    split at hv
    · simp only [World.cell?, g1]; simpa using hv
    · cases hv
  have hfl := flatten_length size es hs
  have hle : es.length * size ≤ cs.length := by
    rw [hcs, List.length_take] at hfl; omega
  have hrow : Rds I es.flatten ((vs.take cs.length).take (es.length * size)) := by rw [hcs]; exact g4.take _
  have hlen : ((vs.take cs.length).take (es.length * size)).length = es.length * size := by simp; omega
  refine ⟨J, ⟨hIJ, ?_, ?_⟩, ⟨?_, ?_, ?_⟩, ?_⟩
  · intro c o hc
    exact .inl (by rw [del_le h b c o hc]; simp)
  · intro c o v hc
    simp only [J] at hc
    split at hc
    · rename_i hcb; subst hcb; exact .inr (.inl (by rw [hb]; simp))
    · exact .inl hc
  · intro c o hc
    exact (s.obj c o (del_le h b c o hc)).mono hIJ rfl
  · intro c o v hc
    simp only [J] at hc
    split at hc
    · rename_i hcb; subst hcb; exact hcell o v hc
    · exact s.imm c o v hc
  · intro c o v hc
    simp only [J] at hc
    split at hc
    · rename_i hcb; subst hcb; rw [del_same]; trivial
    · have := s.dis c o v hc
      by_cases hcb : c = b
      · subst hcb; rw [del_same]; trivial
      · rw [del_ne _ _ hcb]; exact this
  · intro cap hcap
    have R : Rows J b 0 size (chunks size es.length es.flatten) (chunks size es.length ((vs.take cs.length).take (es.length * size))) :=
      rows_of_chunks (hrow.mono hIJ) (g5.take _) hfl (fun j v hj => by
        simp only [J, if_true]
        rw [List.getElem?_take] at hj
        split at hj
        · exact hj
        · cases hj)
    have hch : chunks size es.length es.flatten = es := by
      clear R hrow hlen hle hfl hcs
      induction es with
      | nil => rfl
      | cons e es ih =>
        have he := hs e (by simp)
        simp only [List.length_cons, chunks, List.flatten_cons]
        rw [List.take_left' he, List.drop_left' he, ih (fun x hx => hs x (by simp [hx])) (by simpa using Nat.le_of_succ_le hcap)]
    rw [hch] at R
    exact Rd.of_rows false hcap (fun hh => by cases hh) R

end Pg
