/- The core, second part: operations with their numbers resolved; what the reading ones yield of abstract values. -/
import Derived.Test.YtpebidcmkjjpnaaCore1
import Derived.Laws.Cells
import Derived.Laws.CopyRow
namespace Pg
open Go
set_option linter.unusedSimpArgs false
set_option linter.unusedVariables false

abbrev Env := List (Nat × AV)
def Env.get : Env → Nat → AV
  | [], _ => .any
  | (s, v) :: r, t => if s = t then v else Env.get r t
def Env.put (e : Env) (d : Option Nat) (v : AV) : Env := match d with | some t => (t, v) :: e | none => e

structure EnvSat (I : Imm) (N : Nat) (e : Env) (tmps : Array Value) : Prop where
  size : tmps.size = N
  at_ : ∀ t, Rd I (e.get t) (tmps.getD t undef)

theorem EnvSat.mono {I J : Imm} (h : I.le J) {N : Nat} {e : Env} {tmps : Array Value} (s : EnvSat I N e tmps) : EnvSat J N e tmps := ⟨s.size, fun t => (s.at_ t).mono h⟩
theorem EnvSat.put {I : Imm} {N : Nat} {e : Env} {a : Act} (s : EnvSat I N e a.tmps) {d : Option Nat} {av : AV} {v : Value} (hd : ∀ t, d = some t → t < N) (h : Rd I av v) : EnvSat I N (e.put d av) (a.put d v).tmps := by
  cases d with
  | none => exact s
  | some t =>
    have ht : t < a.tmps.size := by rw [s.size]; exact hd t rfl
    refine ⟨by simp [Act.put, s.size], ?_⟩
    intro u
    simp only [Env.put, Env.get, Act.put]
    by_cases hu : t = u
    · subst hu
      simp only [if_true, Array.getD_eq_getD_getElem?, Array.getElem?_setIfInBounds, ht, Option.getD_some]
      exact h
    · simp only [hu, if_false]
      have := s.at_ u
      simp only [Array.getD_eq_getD_getElem?] at this ⊢
      rw [Array.getElem?_setIfInBounds_ne hu]
      exact this

/-- Operands. -/
inductive ROpd where
  | t (n : Nat)
  | c (v : AV)
  deriving Inhabited
def ev (e : Env) : ROpd → AV
  | .t n => e.get n
  | .c v => v

def ofV : Value → Option AV
  | .bool b => some (.bool b)
  | .int k n => some (.int k n)
  | .string s => some (.str s)
  | .pointer a => some (.ptr a)
  | .slice none 0 0 => some (.sl [] true)
  | .map none => some (.map none)
  | .nilFunc => some .nilFunc
  | .nilIface => some .nilIface
  | _ => none
theorem ofV_rd (I : Imm) {v : Value} {a : AV} (h : ofV v = some a) : Rd I a v := by
  unfold ofV at h
  split at h <;> simp only [Option.some.injEq, reduceCtorEq] at h <;> subst h
  · exact .bool _
  · exact .int _ _
  · exact .str _
  · exact .ptr _
  · exact .sl0 true none 0 (fun x h => by cases h) (fun _ => rfl) (fun _ => rfl)
  · exact .map _
  · exact .nilFunc
  · exact .nilIface
def ofVs : List Value → Option (List AV)
  | [] => some []
  | v :: r => match ofV v, ofVs r with | some a, some l => some (a :: l) | _, _ => none
theorem ofVs_rds (I : Imm) : ∀ {vs : List Value} {as : List AV}, ofVs vs = some as → Rds I as vs
  | [], as, h => by simp [ofVs] at h; subst h; exact .nil I
  | v :: r, as, h => by
    simp only [ofVs] at h
    split at h
    · rename_i a l h1 h2
      simp only [Option.some.injEq] at h; subst h
      exact .cons (ofV_rd I h1) (ofVs_rds I h2)
    · cases h

def ropd : Operand → Option ROpd
  | .tmp t => some (.t t)
  | .const v => (ofV v).map .c
  | .global g => some (.c (.ptr (some ⟨g, 0, none⟩)))
  | .func f => some (.c (.func (.func f) [] []))
theorem ropd_env {I : Imm} {N : Nat} {e : Env} {a : Act} (s : EnvSat I N e a.tmps) {x : Operand} {r : ROpd} (h : ropd x = some r) : Rd I (ev e r) (a.eval x) := by
  cases x with
  | tmp t => simp only [ropd, Option.some.injEq] at h; subst h; exact s.at_ t
  | const v =>
    simp only [ropd, Option.map_eq_some_iff] at h
    obtain ⟨a', h1, rfl⟩ := h
    exact ofV_rd I h1
  | global g => simp only [ropd, Option.some.injEq] at h; subst h; exact .ptr _
  | func f =>
    simp only [ropd, Option.some.injEq] at h; subst h
    exact .func (.func f) [] [] [] [] rfl rfl (fun _ _ _ h => by simp at h) (fun _ _ _ h => by simp at h)
/-- A valuation of the operands stands for what the frame has. -/
def ValSat (I : Imm) (va : ROpd → AV) (a : Act) : Prop := ∀ (x : Operand) (r : ROpd), ropd x = some r → Rd I (va r) (a.eval x)
theorem EnvSat.val {I : Imm} {N : Nat} {e : Env} {a : Act} (s : EnvSat I N e a.tmps) : ValSat I (ev e) a := fun _ _ h => ropd_env s h
theorem ropd_rd {I : Imm} {va : ROpd → AV} {a : Act} (s : ValSat I va a) {x : Operand} {r : ROpd} (h : ropd x = some r) : Rd I (va r) (a.eval x) := s x r h
def ropds : List Operand → Option (List ROpd)
  | [] => some []
  | x :: r => match ropd x, ropds r with | some a, some l => some (a :: l) | _, _ => none
theorem ropds_rds {I : Imm} {va : ROpd → AV} {a : Act} (s : ValSat I va a) : ∀ {xs : List Operand} {rs : List ROpd}, ropds xs = some rs → Rds I (rs.map va) (xs.map a.eval)
  | [], rs, h => by simp [ropds] at h; subst h; exact .nil I
  | x :: r, rs, h => by
    simp only [ropds] at h
    split at h
    · rename_i a l h1 h2
      simp only [Option.some.injEq] at h; subst h
      exact .cons (ropd_rd s h1) (ropds_rds s h2)
    · cases h

/-- The cells of a value. -/
def AV.cells? : AV → Option (List AV)
  | .any => none
  | .tuple _ => none
  | .agg cs => some cs
  | x => some [x]
theorem cells_rds {I : Imm} {a : AV} {v : Value} (r : Rd I a v) {cs : List AV} (h : a.cells? = some cs) : ∃ vs : List Value, v.cells = vs.toArray ∧ Rds I cs vs ∧ Ones vs := by
  cases r <;> simp only [AV.cells?, Option.some.injEq, reduceCtorEq] at h <;> subst h
  case agg cs' vs hl h1 hr => exact ⟨vs, rfl, ⟨hl, hr⟩, h1⟩
  all_goals (refine ⟨[_], rfl, .cons ?_ (.nil I), .cons rfl .nil⟩)
  case bool b => exact .bool b
  case int k n => exact .int k n
  case str s => exact .str s
  case ptr a => exact .ptr a
  case ip cells off b o vs hl hm h1 hr => exact .ip cells off b o vs hl hm h1 hr
  case sl0 full a cap ha hn hf => exact .sl0 full a cap ha hn hf
  case sl es full b o size cap vss hl hc hf hs hm h1 hr => exact .sl es full b o size cap vss hl hc hf hs hm h1 hr
  case os b n cap => exact .os b n cap
  case gs es b size cap vss hl hc hs hm h1 hr => exact .gs es b size cap vss hl hc hs hm h1 hr
  case map r => exact .map r
  case func fn f c fs cs hl kl hr kr => exact .func fn f c fs cs hl kl hr kr
  case nilFunc => exact .nilFunc
  case iface t a v h => exact .iface t a v h
  case nilIface => exact .nilIface
theorem ofV_one {v : Value} {a : AV} (h : ofV v = some a) : v.oneCell' = true := by
  unfold ofV at h
  split at h <;> first | rfl | cases h
theorem ofVs_ones : ∀ {vs : List Value} {as : List AV}, ofVs vs = some as → Ones vs
  | [], as, h => .nil
  | v :: r, as, h => by
    simp only [ofVs] at h
    split at h
    · rename_i a l h1 h2
      exact .cons (ofV_one h1) (ofVs_ones h2)
    · cases h

/-- What 'fill' does, over abstract values. -/
def afill : List AV → List (Nat × Nat × AV) → Option (List AV)
  | cs, [] => some cs
  | cs, (off, size, v) :: r =>
    match v.cells? with
    | some ds => if ds.length = size ∧ off + size ≤ cs.length then afill (splice cs off ds) r else none
    | none => none

theorem foldl_set (vs : List Value) (off : Nat) : ∀ (k : Nat) (cur : Array Value), off + k + vs.length ≤ cur.size →
    ((vs.zipIdx k).foldl (fun cs (p : Value × Nat) => cs.setIfInBounds (off + p.2) p.1) cur).toList = splice cur.toList (off + k) vs := by
  induction vs with
  | nil => intro k cur _; simp [splice]
  | cons v vs ih =>
    intro k cur h
    simp only [List.length_cons] at h
    simp only [List.zipIdx_cons, List.foldl_cons]
    rw [ih (k + 1) _ (by simp; omega)]
    have hk : off + k < cur.toList.length := by simp; omega
    simp only [splice, Array.toList_setIfInBounds, List.length_cons]
    apply List.ext_getElem?
    intro j
    simp only [List.getElem?_append, List.getElem?_take, List.getElem?_drop, List.getElem?_set, List.length_take, List.length_set, List.getElem?_cons, List.length_cons]
    rcases Nat.lt_trichotomy j (off + k) with hj | hj | hj
    · have h1 : j < off + (k + 1) := by omega
      have h2 : j < min (off + (k + 1)) cur.toList.length := by omega
      have h3 : j < min (off + k) cur.toList.length := by omega
      simp only [h1, h2, h3, hj, if_true]
      rw [if_neg (by omega)]
    · subst hj
      have h1 : off + k < off + (k + 1) := by omega
      have h2 : off + k < min (off + (k + 1)) cur.toList.length := by omega
      have h3 : ¬ off + k < min (off + k) cur.toList.length := by omega
      simp only [h1, h2, h3, if_true, if_false, hk]
      rw [Nat.min_eq_left (by omega)]
      try simp
    · have h1 : ¬ j < min (off + (k + 1)) cur.toList.length := by omega
      have h3 : ¬ j < min (off + k) cur.toList.length := by omega
      simp only [h1, h3, if_false]
      rw [Nat.min_eq_left (show off + (k + 1) ≤ cur.toList.length by omega), Nat.min_eq_left (show off + k ≤ cur.toList.length by omega)]
      rw [if_neg (show ¬ j - (off + k) = 0 by omega)]
      by_cases h4 : j - (off + (k + 1)) < vs.length
      · simp only [h4, if_true, show j - (off + k) < vs.length + 1 by omega]
        congr 1 <;> omega
      · simp only [h4, if_false, show ¬ j - (off + k) < vs.length + 1 by omega]
        rw [if_neg (by omega)]
        congr 1 <;> omega

theorem fill_sim {I : Imm} (place : Nat → Option (Nat × Nat)) : ∀ (ps : List (Nat × Value)) (qs : List (Nat × Nat × AV)) (cur : Array Value) (cs out : List AV), Rds I cs cur.toList → Ones cur.toList → ps.length = qs.length →
    (∀ (j i : Nat) (v : Value) (q : Nat × Nat × AV), ps[j]? = some (i, v) → qs[j]? = some q → place i = some (q.1, q.2.1) ∧ Rd I q.2.2 v) → afill cs qs = some out → ∃ res : Array Value, Instr.fill place cur ps = some res ∧ Rds I out res.toList ∧ Ones res.toList
  | [], [], cur, cs, out, h, h1, _, _, e => by simp only [afill, Option.some.injEq] at e; subst e; exact ⟨cur, rfl, h, h1⟩
  | [], _ :: _, _, _, _, _, _, hl, _, _ => by simp at hl
  | _ :: _, [], _, _, _, _, _, hl, _, _ => by simp at hl
  | (i, v) :: ps, (off, size, a) :: qs, cur, cs, out, h, ho, hl, hp, e => by
    obtain ⟨h1, h2⟩ := hp 0 i v (off, size, a) (by simp) (by simp)
    simp only [afill] at e
    split at e
    · rename_i ds hds
      split at e
      · rename_i hc
        obtain ⟨vs, hv, r, r1⟩ := cells_rds h2 hds
        have hlen : vs.length = size := by rw [← r.len]; exact hc.1
        have hcur : cur.size = cs.length := by have := h.len; simp at this; exact this.symm
        have hfold := foldl_set vs off 0 cur (by rw [hcur, hlen]; simpa using hc.2)
        have hz : (v.cells.zipIdx.foldl (fun cs (p : Value × Nat) => cs.setIfInBounds (off + p.2) p.1) cur) = ((vs.zipIdx 0).foldl (fun cs (p : Value × Nat) => cs.setIfInBounds (off + p.2) p.1) cur) := by
          rw [hv, ← Array.foldl_toList]; simp
        obtain ⟨res, hr, hres⟩ := fill_sim place ps qs (v.cells.zipIdx.foldl (fun cs (p : Value × Nat) => cs.setIfInBounds (off + p.2) p.1) cur) (splice cs off ds) out
          (by rw [hz, hfold]; simpa using h.splice r off) (by rw [hz, hfold]; simpa using ho.splice r1 off) (by simpa using hl) (fun j i v q e1 e2 => hp (j + 1) i v q (by simpa using e1) (by simpa using e2)) e
        refine ⟨res, ?_, hres⟩
        simp only [Instr.fill, h1]
        rw [if_neg (by rw [hv]; simp [hlen, hcur]; exact hc.2)]
        exact hr
      · cases e
    · cases e

/-- The reading operations. -/
inductive RRead where
  | mv (x : ROpd)
  | pick (c a b : ROpd)
  | build (zero : List AV) (parts : List (Nat × Nat × ROpd))
  | bsl (size len : Nat) (zero : List AV) (parts : List (Nat × Nat × ROpd))
  | load (n : Option Nat) (x : ROpd)
  | nilc (x : ROpd)
  | bin (op : BinOp) (x y : ROpd)
  | peq (neg : Bool) (x y : ROpd)
  | beq (neg : Bool) (x y : ROpd)
  | seq (neg : Bool) (ks : List Nat) (x y : ROpd)
  | un (op : UnOp) (x : ROpd)
  | conv (k : IntKind) (x : ROpd)
  | cstr (x : ROpd)
  | mkI (t : TypeId) (x : ROpd)
  | mkF (fn : Fn) (first captured : List ROpd)
  | slice (str : Bool) (size : Nat) (x : ROpd) (lo hi : Option ROpd)
  | fa (k : Nat) (x : ROpd)
  | ia (size : Nat) (x i : ROpd)
  | six (x i : ROpd)
  | lookup (ks : List Nat) (zero : AV) (ok : Bool) (m k : ROpd)
  | ext (x : ROpd) (i : Nat)
  | bx (n : Option Nat) (x : ROpd)
  | fld (off : Nat) (n : Option Nat) (x : ROpd)
  | len (k : Nat) (x : ROpd)
  | mx (x y : ROpd)
  | mn (x y : ROpd)
  deriving Inhabited

def abin (op : BinOp) : AV → AV → Option AV
  | .int k a, .int k' b =>
    if k = k' then
      match op with
      | .add => some (.int k (k.wrap (a + b)))
      | .sub => some (.int k (k.wrap (a - b)))
      | .mul => some (.int k (k.wrap (a * b)))
      | .quo => if b = 0 then none else some (.int k (k.wrap (a.tdiv b)))
      | .rem => if b = 0 then none else some (.int k (a.tmod b))
      | .and => some (.int k (k.wrap (BitVec.ofInt k.bits a &&& BitVec.ofInt k.bits b).toNat))
      | .or => some (.int k (k.wrap (BitVec.ofInt k.bits a ||| BitVec.ofInt k.bits b).toNat))
      | .eql => some (.bool (decide (a = b)))
      | .neq => some (.bool (!decide (a = b)))
      | .lss => some (.bool (decide (a < b)))
      | .leq => some (.bool (decide (a ≤ b)))
      | .gtr => some (.bool (decide (a > b)))
      | .geq => some (.bool (decide (a ≥ b)))
      | _ => none
    else none
  | .str a, .str b =>
    match op with
    | .add => if ((a.size + b.size : Nat) : Int) > IntKind.i64.max then none else some (.str (a ++ b))
    | .eql => some (.bool (decide (a = b)))
    | .neq => some (.bool (!decide (a = b)))
    | _ => none
  | _, _ => none
def boolNeg (neg b : Bool) : Bool := if neg then !b else b
/-- Bools. -/
def abeq (neg : Bool) : AV → AV → Option AV
  | .bool a, .bool b => some (.bool (boolNeg neg (decide (a = b))))
  | _, _ => none
/-- Pointers against nil. -/
def apeq (neg : Bool) : AV → AV → Option AV
  | .ptr none, .ptr b => some (.bool (boolNeg neg b.isNone))
  | .ptr (some _), .ptr none => some (.bool (boolNeg neg false))
  | .ip _ _, .ptr none => some (.bool (boolNeg neg false))
  | .ptr none, .ip _ _ => some (.bool (boolNeg neg false))
  | _, _ => none
/-- One cell against another: 0: bools, 1: integers, 2: strings. -/
def cellEq : Nat → AV → AV → Option Bool
  | 1, .int k a, .int k' b => if k = k' then some (decide (a = b)) else none
  | 2, .str a, .str b => some (decide (a = b))
  | 0, .bool a, .bool b => some (decide (a = b))
  | _, _, _ => none
def cellsEq : List Nat → List AV → List AV → Option Bool
  | [], [], [] => some true
  | k :: ks, a :: l, b :: r => match cellEq k a b, cellsEq ks l r with | some x, some y => some (x && y) | _, _ => none
  | _, _, _ => none
def aseq (neg : Bool) (ks : List Nat) : AV → AV → Option AV
  | .agg a, .agg b => (cellsEq ks a b).map fun x => .bool (boolNeg neg x)
  | _, _ => none
def aun (op : UnOp) : AV → Option AV
  | .int k n => match op with | .neg => some (.int k (k.wrap (0 - n))) | _ => none
  | .bool b => match op with | .not => some (.bool !b) | _ => none
  | _ => none
def aload (h : AHeap) (n : Option Nat) : AV → Option AV
  | .ip cells off => match n with
    | some k => if off + k ≤ cells.length then some (.agg ((cells.drop off).take k)) else none
    | none => cells[off]?
  | .ptr (some ⟨b, o, none⟩) => match h b with
    | some (.blk cs _ _) => match n with
      | some k => if o + k ≤ cs.length then some (.agg ((cs.drop o).take k)) else none
      | none => cs[o]?
    | _ => none
  | _ => none
def anilc : AV → Option AV
  | .ptr none | .nilIface | .nilFunc | .any => none
  | .func _ _ _ => none
  | x => some x
def afa (k : Nat) : AV → Option AV
  | .ip cells off => some (.ip cells (off + k))
  | .ptr (some ⟨b, o, none⟩) => some (.ptr (some ⟨b, o + k, none⟩))
  | _ => none
def abx : Option Nat → AV → Option AV
  | none, x => x.cells?.map fun ds => .ip ds 0
  | some n, x => match x.cells? with
    | some ds => if ds.length = n then some (.ip ds 0) else none
    | none => none
def afld (off : Nat) (n : Option Nat) : AV → Option AV
  | .agg cs => match n with
    | some k => if off + k ≤ cs.length then some (.agg ((cs.drop off).take k)) else none
    | none => cs[off]?
  | _ => none
def aia (size : Nat) : AV → AV → Option AV
  | .gs es _ _, .int _ i => if 0 ≤ i then match es[i.toNat]? with | some e => if e.length = size then some (.ip e 0) else none | none => none else none
  | .sl es _, .int _ i => if 0 ≤ i then match es[i.toNat]? with | some e => if e.length = size then some (.ip e 0) else none | none => none else none
  | .os b n _, .int _ i => if 0 ≤ i ∧ i < n then some (.ptr (some ⟨b, i.toNat * size, none⟩)) else none
  | _, _ => none
def asix : AV → AV → Option AV
  | .str s, .int _ i => if 0 ≤ i then (s[i.toNat]?).map fun b => .int .u8 b.toNat else none
  | _, _ => none
def aext (i : Nat) : AV → Option AV
  | .tuple vs => vs[i]?
  | _ => none
/-- 0: strings, 1: slices, 2: maps. -/
def alen (h : AHeap) : Nat → AV → Option AV
  | 0, .str s => some (.int .i64 s.size)
  | 1, .sl es _ => some (.int .i64 es.length)
  | 1, .os _ n _ => some (.int .i64 n)
  | 1, .gs es _ _ => some (.int .i64 es.length)
  | 2, .map none => some (.int .i64 0)
  | 2, .map (some r) => match h r with | some (.mp es) => some (.int .i64 es.length) | _ => none
  | _, _ => none
def amx : AV → AV → Option AV
  | .int k x, .int k' y => if k = k' then some (.int k (if y > x then y else x)) else none
  | _, _ => none
def amn : AV → AV → Option AV
  | .int k x, .int k' y => if k = k' then some (.int k (if y < x then y else x)) else none
  | _, _ => none
def abound (d : Nat) : Option AV → Option Nat
  | none => some d
  | some (.int _ i) => if 0 ≤ i then some i.toNat else none
  | _ => none
def aslice (str : Bool) (size : Nat) (x : AV) (lo hi : Option AV) : Option AV :=
  match str, x with
  | true, .str s => match abound s.size hi, abound 0 lo with
    | some h, some l => if l ≤ h ∧ h ≤ s.size then some (.str (s.extract l h)) else none
    | _, _ => none
  | false, .sl es full => match abound es.length hi, abound 0 lo with
    | some h, some l => if l ≤ h ∧ h ≤ es.length ∧ (l = 0 ∨ (es.headD []).length = size) then some (.sl ((es.take h).drop l) (full && h == es.length)) else none
    | _, _ => none
  | false, .gs es _ _ => match abound es.length hi, abound 0 lo with
    | some h, some l => if l ≤ h ∧ h ≤ es.length ∧ (l = 0 ∨ (es.headD []).length = size) then some (.sl ((es.take h).drop l) false) else none
    | _, _ => none
  | false, .os b n cap => match abound n hi, abound 0 lo with
    | some h, some 0 => if h ≤ n ∧ n ≤ cap then some (.os b h cap) else none
    | _, _ => none
  | _, _ => none
/-- Keys: of a scalar type, or of a flat struct type. -/
def keyEq : List Nat → AV → AV → Option Bool
  | 3 :: ks, .agg a, .agg b => cellsEq ks a b
  | [k], a, b => cellEq k a b
  | _, _, _ => none
/-- A key's cells are as many as its type's. -/
def keyFits : List Nat → AV → Bool
  | 3 :: l, .agg x => x.length == l.length
  | [k], .int _ _ => k == 1
  | [k], .str _ => k == 2
  | [k], .bool _ => k == 0
  | _, _ => false
def afind (ks : List Nat) (k : AV) : List (AV × AV) → Option (Option AV)
  | [] => some none
  | (x, v) :: r => match keyEq ks k x with
    | some true => some (some v)
    | some false => afind ks k r
    | none => none
def amapOf (h : AHeap) : AV → Option (List (AV × AV))
  | .map none => some []
  | .map (some r) => match h r with | some (.mp es) => some es | _ => none
  | _ => none
def alookup (h : AHeap) (ks : List Nat) (zero : AV) (ok : Bool) (m k : AV) : Option AV :=
  if keyFits ks k = true then match amapOf h m with
  | some es => (afind ks k es).map fun f => match f with
    | some v => if ok then .tuple [v, .bool true] else v
    | none => if ok then .tuple [zero, .bool false] else zero
  | none => none
  else none
def aconv (k : IntKind) : AV → Option AV
  | .int _ n => some (.int k (k.wrap n))
  | _ => none
def acstr : AV → Option AV
  | .str s => some (.str s)
  | _ => none
def chunks {α : Type} (size : Nat) : Nat → List α → List (List α)
  | 0, _ => []
  | n + 1, l => l.take size :: chunks size n (l.drop size)

def evParts (va : ROpd → AV) : List (Nat × Nat × ROpd) → List (Nat × Nat × AV)
  | [] => []
  | (o, s, x) :: r => (o, s, va x) :: evParts va r

def aread (va : ROpd → AV) (h : AHeap) : RRead → Option AV
  | .mv x => some (va x)
  | .pick c a b => match va c with | .bool t => some (if t then va a else va b) | _ => none
  | .build zero parts => (afill zero (evParts va parts)).map .agg
  | .bsl size len zero parts => (afill zero (evParts va parts)).map fun cs => .sl (chunks size len cs) true
  | .load n x => aload h n (va x)
  | .nilc x => anilc (va x)
  | .bin op x y => abin op (va x) (va y)
  | .peq neg x y => apeq neg (va x) (va y)
  | .beq neg x y => abeq neg (va x) (va y)
  | .seq neg ks x y => aseq neg ks (va x) (va y)
  | .un op x => aun op (va x)
  | .conv k x => aconv k (va x)
  | .cstr x => acstr (va x)
  | .mkI t x => some (.iface t (va x))
  | .mkF fn f c => some (.func fn (f.map va) (c.map va))
  | .slice str size x lo hi => aslice str size (va x) (lo.map va) (hi.map va)
  | .fa k x => afa k (va x)
  | .ia size x i => aia size (va x) (va i)
  | .six x i => asix (va x) (va i)
  | .lookup ks zero ok m k => alookup h ks zero ok (va m) (va k)
  | .ext x i => aext i (va x)
  | .bx n x => abx n (va x)
  | .fld off n x => afld off n (va x)
  | .len k x => alen h k (va x)
  | .mx x y => amx (va x) (va y)
  | .mn x y => amn (va x) (va y)

end Pg
