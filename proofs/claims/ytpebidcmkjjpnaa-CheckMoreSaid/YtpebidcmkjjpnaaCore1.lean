/- The core of the proofs, first part: abstract values, how they stand to the model's values, abstract heaps and how they stand to worlds. No program in sight. -/
import Derived.Calls
import Derived.Laws.World
import Derived.Laws.Sem
namespace Pg
open Go
set_option linter.unusedVariables false

/-- Abstract values: immutable data carry what they hold. -/
inductive AV where
  | any
  | bool (b : Bool)
  | int (k : IntKind) (n : Int)
  | str (s : ByteArray)
  | ptr (a : Option Addr)
  | ip (cells : List AV) (off : Nat)
  | sl (elems : List (List AV)) (full : Bool)
  | os (b n cap : Nat)
  | gs (elems : List (List AV)) (b cap : Nat)
  | map (r : Option Nat)
  | func (fn : Fn) (first captured : List AV)
  | nilFunc
  | iface (t : TypeId) (v : AV)
  | nilIface
  | agg (cells : List AV)
  | tuple (vs : List AV)
  deriving Inhabited

/-- Cells that never turn any more. -/
abbrev Imm := Nat → Nat → Option Value
def Imm.le (I J : Imm) : Prop := ∀ b o v, I b o = some v → J b o = some v
theorem Imm.le_refl (I : Imm) : I.le I := fun _ _ _ h => h
theorem Imm.le_trans {I J K : Imm} (h : I.le J) (k : J.le K) : I.le K := fun b o v e => k b o v (h b o v e)

/-- Each value takes one cell. -/
def Ones (vs : List Value) : Prop := ∀ (j : Nat) (v : Value), vs[j]? = some v → v.oneCell' = true

inductive Rd (I : Imm) : AV → Value → Prop where
  | any (v : Value) : Rd I .any v
  | bool (b : Bool) : Rd I (.bool b) (.bool b)
  | int (k : IntKind) (n : Int) : Rd I (.int k n) (.int k n)
  | str (s : ByteArray) : Rd I (.str s) (.string s)
  | ptr (a : Option Addr) : Rd I (.ptr a) (.pointer a)
  | ip (cells : List AV) (off b o : Nat) (vs : List Value) (hl : cells.length = vs.length)
      (hm : ∀ (j : Nat) (v : Value), vs[j]? = some v → I b (o + j) = some v) (h1 : Ones vs)
      (hr : ∀ (j : Nat) (c : AV) (v : Value), cells[j]? = some c → vs[j]? = some v → Rd I c v) : Rd I (.ip cells off) (.pointer (some ⟨b, o + off, none⟩))
  | sl0 (full : Bool) (a : Option Addr) (cap : Nat) (ha : ∀ x : Addr, a = some x → True) (hn : a = none → cap = 0) (hf : full = true → cap = 0) : Rd I (.sl [] full) (.slice a 0 cap)
  | sl (es : List (List AV)) (full : Bool) (b o size cap : Nat) (vss : List (List Value)) (hl : es.length = vss.length) (hc : es.length ≤ cap) (hf : full = true → cap = es.length)
      (hs : ∀ (i : Nat) (e : List AV) (vs : List Value), es[i]? = some e → vss[i]? = some vs → e.length = size ∧ vs.length = size)
      (hm : ∀ (i : Nat) (vs : List Value) (j : Nat) (v : Value), vss[i]? = some vs → vs[j]? = some v → I b (o + i * size + j) = some v) (h1 : ∀ (i : Nat) (vs : List Value), vss[i]? = some vs → Ones vs)
      (hr : ∀ (i : Nat) (e : List AV) (vs : List Value) (j : Nat) (c : AV) (v : Value), es[i]? = some e → vss[i]? = some vs → e[j]? = some c → vs[j]? = some v → Rd I c v) :
      Rd I (.sl es full) (.slice (some ⟨b, o, none⟩) es.length cap)
  | os (b n cap : Nat) : Rd I (.os b n cap) (.slice (some ⟨b, 0, none⟩) n cap)
  | gs (es : List (List AV)) (b size cap : Nat) (vss : List (List Value)) (hl : es.length = vss.length) (hc : es.length ≤ cap)
      (hs : ∀ (i : Nat) (e : List AV) (vs : List Value), es[i]? = some e → vss[i]? = some vs → e.length = size ∧ vs.length = size)
      (hm : ∀ (i : Nat) (vs : List Value) (j : Nat) (v : Value), vss[i]? = some vs → vs[j]? = some v → I b (0 + i * size + j) = some v) (h1 : ∀ (i : Nat) (vs : List Value), vss[i]? = some vs → Ones vs)
      (hr : ∀ (i : Nat) (e : List AV) (vs : List Value) (j : Nat) (c : AV) (v : Value), es[i]? = some e → vss[i]? = some vs → e[j]? = some c → vs[j]? = some v → Rd I c v) :
      Rd I (.gs es b cap) (.slice (some ⟨b, 0, none⟩) es.length cap)
  | map (r : Option Nat) : Rd I (.map r) (.map r)
  | func (fn : Fn) (f c : List AV) (fs cs : List Value) (hl : f.length = fs.length) (kl : c.length = cs.length)
      (hr : ∀ (j : Nat) (a : AV) (v : Value), f[j]? = some a → fs[j]? = some v → Rd I a v) (kr : ∀ (j : Nat) (a : AV) (v : Value), c[j]? = some a → cs[j]? = some v → Rd I a v) : Rd I (.func fn f c) (.func fn fs.toArray cs.toArray)
  | nilFunc : Rd I .nilFunc .nilFunc
  | iface (t : TypeId) (a : AV) (v : Value) (h : Rd I a v) : Rd I (.iface t a) (.iface t v)
  | nilIface : Rd I .nilIface .nilIface
  | agg (cs : List AV) (vs : List Value) (hl : cs.length = vs.length) (h1 : Ones vs) (hr : ∀ (j : Nat) (a : AV) (v : Value), cs[j]? = some a → vs[j]? = some v → Rd I a v) : Rd I (.agg cs) (.agg vs.toArray)
  | tuple (cs : List AV) (vs : List Value) (hl : cs.length = vs.length) (hr : ∀ (j : Nat) (a : AV) (v : Value), cs[j]? = some a → vs[j]? = some v → Rd I a v) : Rd I (.tuple cs) (.tuple vs.toArray)

theorem Rd.mono {I J : Imm} (h : I.le J) {a : AV} {v : Value} (r : Rd I a v) : Rd J a v := by
  induction r with
  | any v => exact .any v
  | bool b => exact .bool b
  | int k n => exact .int k n
  | str s => exact .str s
  | ptr a => exact .ptr a
  | ip cells off b o vs hl hm h1 hr ih => exact .ip cells off b o vs hl (fun j v e => h _ _ _ (hm j v e)) h1 (fun j c v e1 e2 => ih j c v e1 e2)
  | sl0 full a cap ha hn hf => exact .sl0 full a cap ha hn hf
  | sl es full b o size cap vss hl hc hf hs hm h1 hr ih =>
    exact .sl es full b o size cap vss hl hc hf hs (fun i vs j v e1 e2 => h _ _ _ (hm i vs j v e1 e2)) h1 (fun i e vs j c v e1 e2 e3 e4 => ih i e vs j c v e1 e2 e3 e4)
  | os b n cap => exact .os b n cap
  | gs es b size cap vss hl hc hs hm h1 hr ih =>
    exact .gs es b size cap vss hl hc hs (fun i vs j v e1 e2 => h _ _ _ (hm i vs j v e1 e2)) h1 (fun i e vs j c v e1 e2 e3 e4 => ih i e vs j c v e1 e2 e3 e4)
  | map r => exact .map r
  | func fn f c fs cs hl kl hr kr ih ik => exact .func fn f c fs cs hl kl (fun j a v e1 e2 => ih j a v e1 e2) (fun j a v e1 e2 => ik j a v e1 e2)
  | nilFunc => exact .nilFunc
  | iface t a v _ ih => exact .iface t a v ih
  | nilIface => exact .nilIface
  | agg cs vs hl h1 hr ih => exact .agg cs vs hl h1 (fun j a v e1 e2 => ih j a v e1 e2)
  | tuple cs vs hl hr ih => exact .tuple cs vs hl (fun j a v e1 e2 => ih j a v e1 e2)

/-- Lists of cells. -/
structure Rds (I : Imm) (cs : List AV) (vs : List Value) : Prop where
  len : cs.length = vs.length
  at_ : ∀ (j : Nat) (c : AV) (v : Value), cs[j]? = some c → vs[j]? = some v → Rd I c v

theorem Rds.mono {I J : Imm} (h : I.le J) {cs : List AV} {vs : List Value} (r : Rds I cs vs) : Rds J cs vs := ⟨r.len, fun j c v e1 e2 => (r.at_ j c v e1 e2).mono h⟩
theorem Rds.nil (I : Imm) : Rds I [] [] := ⟨rfl, fun j c v e => by simp at e⟩
theorem Rds.cons {I : Imm} {c : AV} {v : Value} {cs : List AV} {vs : List Value} (h : Rd I c v) (r : Rds I cs vs) : Rds I (c :: cs) (v :: vs) := by
  refine ⟨by simp [r.len], ?_⟩
  intro j c' v' e1 e2
  cases j with
  | zero => simp at e1 e2; subst e1; subst e2; exact h
  | succ j => simp at e1 e2; exact r.at_ j c' v' e1 e2
theorem Rds.uncons {I : Imm} {c : AV} {cs : List AV} {vs : List Value} (r : Rds I (c :: cs) vs) : ∃ v vs', vs = v :: vs' ∧ Rd I c v ∧ Rds I cs vs' := by
  cases vs with
  | nil => have := r.len; simp at this
  | cons v vs' =>
    refine ⟨v, vs', rfl, r.at_ 0 c v (by simp) (by simp), ⟨by have := r.len; simpa using this, ?_⟩⟩
    intro j c' v' e1 e2
    exact r.at_ (j + 1) c' v' (by simpa using e1) (by simpa using e2)
theorem Rds.of_nil {I : Imm} {vs : List Value} (r : Rds I [] vs) : vs = [] := by
  have := r.len
  cases vs with
  | nil => rfl
  | cons => simp at this
theorem Rds.append {I : Imm} {cs ds : List AV} {vs us : List Value} (r : Rds I cs vs) (s : Rds I ds us) : Rds I (cs ++ ds) (vs ++ us) := by
  induction cs generalizing vs with
  | nil => have := r.of_nil; subst this; simpa using s
  | cons c cs ih =>
    obtain ⟨v, vs', rfl, h, r'⟩ := r.uncons
    exact .cons h (ih r')
theorem Rds.take {I : Imm} {cs : List AV} {vs : List Value} (r : Rds I cs vs) (n : Nat) : Rds I (cs.take n) (vs.take n) := by
  refine ⟨by simp [r.len], ?_⟩
  intro j c v e1 e2
  rw [List.getElem?_take] at e1 e2
  split at e1
  · rename_i hj; rw [if_pos hj] at e2; exact r.at_ j c v e1 e2
  · cases e1
theorem Rds.drop {I : Imm} {cs : List AV} {vs : List Value} (r : Rds I cs vs) (n : Nat) : Rds I (cs.drop n) (vs.drop n) := by
  refine ⟨by simp [r.len], ?_⟩
  intro j c v e1 e2
  rw [List.getElem?_drop] at e1 e2
  exact r.at_ (n + j) c v e1 e2
theorem Rds.get {I : Imm} {cs : List AV} {vs : List Value} (r : Rds I cs vs) {j : Nat} {c : AV} (h : cs[j]? = some c) : ∃ v, vs[j]? = some v ∧ Rd I c v := by
  have hj : j < cs.length := by
    rcases Nat.lt_or_ge j cs.length with h' | h'
    · exact h'
    · rw [List.getElem?_eq_none h'] at h; cases h
  have hv : j < vs.length := r.len ▸ hj
  exact ⟨vs[j], List.getElem?_eq_getElem hv, r.at_ j c _ h (List.getElem?_eq_getElem hv)⟩

theorem Rd.inv_bool {I : Imm} {b : Bool} {v : Value} (r : Rd I (.bool b) v) : v = .bool b := by cases r; rfl
theorem Rd.inv_int {I : Imm} {k : IntKind} {n : Int} {v : Value} (r : Rd I (.int k n) v) : v = .int k n := by cases r; rfl
theorem Rd.inv_str {I : Imm} {s : ByteArray} {v : Value} (r : Rd I (.str s) v) : v = .string s := by cases r; rfl
theorem Rd.inv_ptr {I : Imm} {a : Option Addr} {v : Value} (r : Rd I (.ptr a) v) : v = .pointer a := by cases r; rfl
theorem Rd.inv_map {I : Imm} {a : Option Nat} {v : Value} (r : Rd I (.map a) v) : v = .map a := by cases r; rfl
theorem Rd.inv_os {I : Imm} {b n cap : Nat} {v : Value} (r : Rd I (.os b n cap) v) : v = .slice (some ⟨b, 0, none⟩) n cap := by cases r; rfl
theorem Rd.inv_nilFunc {I : Imm} {v : Value} (r : Rd I .nilFunc v) : v = .nilFunc := by cases r; rfl
theorem Rd.inv_nilIface {I : Imm} {v : Value} (r : Rd I .nilIface v) : v = .nilIface := by cases r; rfl
theorem Rd.inv_iface {I : Imm} {t : TypeId} {a : AV} {v : Value} (r : Rd I (.iface t a) v) : ∃ u, v = .iface t u ∧ Rd I a u := by cases r; exact ⟨_, rfl, by assumption⟩
theorem Rd.inv_agg {I : Imm} {cs : List AV} {v : Value} (r : Rd I (.agg cs) v) : ∃ vs : List Value, v = .agg vs.toArray ∧ Rds I cs vs ∧ Ones vs := by
  cases r with
  | agg cs vs hl h1 hr => exact ⟨vs, rfl, ⟨hl, hr⟩, h1⟩
theorem Rd.inv_tuple {I : Imm} {cs : List AV} {v : Value} (r : Rd I (.tuple cs) v) : ∃ vs : List Value, v = .tuple vs.toArray ∧ Rds I cs vs := by
  cases r with
  | tuple cs vs hl hr => exact ⟨vs, rfl, hl, hr⟩
theorem Rd.inv_func {I : Imm} {fn : Fn} {f c : List AV} {v : Value} (r : Rd I (.func fn f c) v) : ∃ fs cs : List Value, v = .func fn fs.toArray cs.toArray ∧ Rds I f fs ∧ Rds I c cs := by
  cases r with
  | func fn f c fs cs hl kl hr kr => exact ⟨fs, cs, rfl, ⟨hl, hr⟩, ⟨kl, kr⟩⟩
theorem Rd.inv_ip {I : Imm} {cells : List AV} {off : Nat} {v : Value} (r : Rd I (.ip cells off) v) :
    ∃ (b o : Nat) (vs : List Value), v = .pointer (some ⟨b, o + off, none⟩) ∧ (∀ (j : Nat) (u : Value), vs[j]? = some u → I b (o + j) = some u) ∧ Rds I cells vs ∧ Ones vs := by
  cases r with
  | ip cells off b o vs hl hm h1 hr => exact ⟨b, o, vs, rfl, hm, ⟨hl, hr⟩, h1⟩
theorem Rd.of_ip {I : Imm} {cells : List AV} {b o : Nat} {vs : List Value} (off : Nat) (hm : ∀ (j : Nat) (u : Value), vs[j]? = some u → I b (o + j) = some u) (r : Rds I cells vs) (h1 : Ones vs) : Rd I (.ip cells off) (.pointer (some ⟨b, o + off, none⟩)) :=
  .ip cells off b o vs r.len hm h1 r.at_
theorem Rd.of_agg {I : Imm} {cs : List AV} {vs : List Value} (r : Rds I cs vs) (h1 : Ones vs) : Rd I (.agg cs) (.agg vs.toArray) := .agg cs vs r.len h1 r.at_
theorem Rd.of_tuple {I : Imm} {cs : List AV} {vs : List Value} (r : Rds I cs vs) : Rd I (.tuple cs) (.tuple vs.toArray) := .tuple cs vs r.len r.at_
theorem Rd.of_func {I : Imm} {fn : Fn} {f c : List AV} {fs cs : List Value} (r : Rds I f fs) (s : Rds I c cs) : Rd I (.func fn f c) (.func fn fs.toArray cs.toArray) := .func fn f c fs cs r.len s.len r.at_ s.at_
/-- An immutable slice's rows. -/
structure Rows (I : Imm) (b o size : Nat) (es : List (List AV)) (vss : List (List Value)) : Prop where
  len : es.length = vss.length
  size_ : ∀ (i : Nat) (e : List AV) (vs : List Value), es[i]? = some e → vss[i]? = some vs → e.length = size ∧ vs.length = size
  mem : ∀ (i : Nat) (vs : List Value) (j : Nat) (v : Value), vss[i]? = some vs → vs[j]? = some v → I b (o + i * size + j) = some v
  one : ∀ (i : Nat) (vs : List Value), vss[i]? = some vs → Ones vs
  rd : ∀ (i : Nat) (e : List AV) (vs : List Value) (j : Nat) (c : AV) (v : Value), es[i]? = some e → vss[i]? = some vs → e[j]? = some c → vs[j]? = some v → Rd I c v
theorem Rd.inv_sl {I : Imm} {es : List (List AV)} {full : Bool} {v : Value} (r : Rd I (.sl es full) v) :
    ∃ (a : Option Addr) (cap : Nat), v = .slice a es.length cap ∧ es.length ≤ cap ∧ (full = true → cap = es.length) ∧ (∀ x : Addr, a = some x → True) ∧ (a = none → cap = 0) ∧
      (es = [] ∨ ∃ b o size vss, a = some ⟨b, o, none⟩ ∧ Rows I b o size es vss) := by
  cases r with
  | sl0 full a cap ha hn hf => exact ⟨a, cap, rfl, Nat.zero_le _, fun h => hf h, ha, hn, .inl rfl⟩
  | sl es full b o size cap vss hl hc hf hs hm h1 hr => exact ⟨some ⟨b, o, none⟩, cap, rfl, hc, hf, (fun _ _ => trivial), (fun h => by cases h), .inr ⟨b, o, size, vss, rfl, hl, hs, hm, h1, hr⟩⟩
theorem Rd.of_rows {I : Imm} {es : List (List AV)} (full : Bool) {b o size cap : Nat} {vss : List (List Value)} (hc : es.length ≤ cap) (hf : full = true → cap = es.length) (r : Rows I b o size es vss) : Rd I (.sl es full) (.slice (some ⟨b, o, none⟩) es.length cap) :=
  .sl es full b o size cap vss r.len hc hf r.size_ r.mem r.one r.rd

theorem Rd.inv_gs {I : Imm} {es : List (List AV)} {b cap : Nat} {v : Value} (r : Rd I (.gs es b cap) v) : ∃ size vss, v = .slice (some ⟨b, 0, none⟩) es.length cap ∧ es.length ≤ cap ∧ Rows I b 0 size es vss := by
  cases r with
  | gs es b size cap vss hl hc hs hm h1 hr => exact ⟨size, vss, rfl, hc, hl, hs, hm, h1, hr⟩
theorem Rd.of_gs {I : Imm} {es : List (List AV)} {b size cap : Nat} {vss : List (List Value)} (hc : es.length ≤ cap) (r : Rows I b 0 size es vss) : Rd I (.gs es b cap) (.slice (some ⟨b, 0, none⟩) es.length cap) :=
  .gs es b size cap vss r.len hc r.size_ r.mem r.one r.rd
theorem Rd.gs_sl {I : Imm} {es : List (List AV)} {b cap : Nat} {v : Value} (r : Rd I (.gs es b cap) v) : Rd I (.sl es false) v := by
  obtain ⟨size, vss, rfl, hc, R⟩ := r.inv_gs
  exact Rd.of_rows false hc (fun h => by cases h) R
theorem Rd.sl_open {I : Imm} {es : List (List AV)} {full : Bool} {v : Value} (r : Rd I (.sl es full) v) : Rd I (.sl es false) v := by
  cases r with
  | sl0 full a cap ha hn hf => exact .sl0 false a cap ha hn (fun h => by cases h)
  | sl es full b o size cap vss hl hc hf hs hm h1 hr => exact .sl es false b o size cap vss hl hc (fun h => by cases h) hs hm h1 hr

/-- 'cs' with 'ds' laid over it from place 'o' on. -/
def splice {α : Type} (cs : List α) (o : Nat) (ds : List α) : List α := cs.take o ++ (ds ++ cs.drop (o + ds.length))
theorem splice_length {α : Type} (cs : List α) (o : Nat) (ds : List α) (h : o + ds.length ≤ cs.length) : (splice cs o ds).length = cs.length := by
  simp only [splice, List.length_append, List.length_take, List.length_drop]; omega
theorem Rds.splice {I : Imm} {cs ds : List AV} {vs us : List Value} (r : Rds I cs vs) (s : Rds I ds us) (o : Nat) : Rds I (splice cs o ds) (splice vs o us) := by
  unfold Pg.splice
  rw [← s.len]
  exact (r.take o).append (s.append (r.drop _))

theorem Ones.nil : Ones [] := fun j v e => by simp at e
theorem Ones.cons {v : Value} {vs : List Value} (h : v.oneCell' = true) (r : Ones vs) : Ones (v :: vs) := by
  intro j u e
  cases j with
  | zero => simp at e; subst e; exact h
  | succ j => exact r j u (by simpa using e)
theorem Ones.head {v : Value} {vs : List Value} (r : Ones (v :: vs)) : v.oneCell' = true := r 0 v (by simp)
theorem Ones.tail {v : Value} {vs : List Value} (r : Ones (v :: vs)) : Ones vs := fun j u e => r (j + 1) u (by simpa using e)
theorem Ones.take {vs : List Value} (r : Ones vs) (n : Nat) : Ones (vs.take n) := by
  intro j v e
  rw [List.getElem?_take] at e
  split at e
  · exact r j v e
  · cases e
theorem Ones.drop {vs : List Value} (r : Ones vs) (n : Nat) : Ones (vs.drop n) := by
  intro j v e
  rw [List.getElem?_drop] at e
  exact r _ v e
theorem Ones.append {vs us : List Value} (r : Ones vs) (s : Ones us) : Ones (vs ++ us) := by
  intro j v e
  rw [List.getElem?_append] at e
  split at e
  · exact r j v e
  · exact s _ v e
theorem Ones.splice {vs us : List Value} (r : Ones vs) (s : Ones us) (o : Nat) : Ones (splice vs o us) := (r.take o).append (s.append (r.drop _))
theorem Ones.mem {vs : List Value} (r : Ones vs) : ∀ v ∈ vs, v.oneCell' = true := by
  intro v hv
  obtain ⟨j, hj⟩ := List.getElem?_of_mem hv
  exact r j v hj
theorem Ones.of_mem {vs : List Value} (h : ∀ v ∈ vs, v.oneCell' = true) : Ones vs := fun j v e => h v (List.mem_of_getElem? e)

/-- Abstract objects: a row of cells of which the first ones are known; a map; a row of which all but the first cells are free to be laid. -/
inductive AObj where
  | blk (cs : List AV) (total : Nat) (ty : TypeId)
  | mp (es : List (AV × AV))
  | tail (m total : Nat) (ty : TypeId)
/-- A cell that never turns may lie where? -/
def Free (x : Option AObj) (o : Nat) : Prop := match x with | none => True | some (.tail m _ _) => o < m | some _ => False

abbrev AHeap := Nat → Option AObj

def AHeap.upd (h : AHeap) (b : Nat) (o : AObj) : AHeap := fun c => if c = b then some o else h c
def AHeap.del (h : AHeap) (b : Nat) : AHeap := fun c => if c = b then none else h c
theorem upd_same (h : AHeap) (b : Nat) (o : AObj) : h.upd b o b = some o := by simp [AHeap.upd]
theorem upd_ne (h : AHeap) (b : Nat) (o : AObj) {c : Nat} (n : c ≠ b) : h.upd b o c = h c := by simp [AHeap.upd, n]
theorem del_same (h : AHeap) (b : Nat) : h.del b b = none := by simp [AHeap.del]
theorem del_ne (h : AHeap) (b : Nat) {c : Nat} (n : c ≠ b) : h.del b c = h c := by simp [AHeap.del, n]
theorem del_of_none (h : AHeap) (b : Nat) (e : h b = none) : h.del b = h := by
  funext c; simp only [AHeap.del]; split
  · rename_i k; subst k; exact e.symm
  · rfl
theorem del_upd (h : AHeap) (b : Nat) (o : AObj) (e : h b = none) : (h.upd b o).del b = h := by
  funext c; simp only [AHeap.del, AHeap.upd]; split
  · rename_i k; subst k; exact e.symm
  · rfl
theorem upd_upd (h : AHeap) (b : Nat) (o p : AObj) : (h.upd b o).upd b p = h.upd b p := by
  funext c; simp only [AHeap.upd]; split <;> rfl

/-- Sub-heaps: what is in the first is in the second. -/
def AHeap.le (h g : AHeap) : Prop := ∀ b o, h b = some o → g b = some o
theorem AHeap.le_refl (h : AHeap) : h.le h := fun _ _ e => e
theorem AHeap.le_trans {h g k : AHeap} (a : h.le g) (b : g.le k) : h.le k := fun c o e => b c o (a c o e)
theorem AHeap.le_upd {h : AHeap} {b : Nat} {o : AObj} (e : h b = none) : h.le (h.upd b o) := fun c x k => by
  by_cases hc : c = b
  · subst hc; rw [e] at k; cases k
  · rw [upd_ne _ _ _ hc]; exact k

def ObjSat (I : Imm) (w : World) (b : Nat) : AObj → Prop
  | .blk cs total ty => ∃ vs : List Value, w.heap[b]? = some (.cells vs.toArray ty (0, 0)) ∧ vs.length = total ∧ cs.length ≤ total ∧ Rds I cs (vs.take cs.length) ∧ Ones (vs.take cs.length)
  | .mp es => ∃ (ms : Array MapEntry) (clock : Nat), w.heap[b]? = some (.map ms clock) ∧ Rds I (es.map (·.1)) (ms.toList.map (·.key)) ∧ Rds I (es.map (·.2)) (ms.toList.map (·.val)) ∧
      (ms.toList.map (·.born)).Nodup ∧ ∀ e ∈ ms.toList, e.born < clock
  | .tail m total ty => ∃ vs : List Value, w.heap[b]? = some (.cells vs.toArray ty (0, 0)) ∧ vs.length = total ∧ m ≤ total

structure Sat (w : World) (I : Imm) (h : AHeap) : Prop where
  obj : ∀ b o, h b = some o → ObjSat I w b o
  imm : ∀ b o v, I b o = some v → w.cell? ⟨b, o, none⟩ = some v
  dis : ∀ b o v, I b o = some v → Free (h b) o

/-- Outside what is owned (the heap h) nothing that was there has turned. -/
structure Ext (h : AHeap) (w w' : World) : Prop where
  os : w'.os = w.os
  tape : w'.tape = w.tape
  output : w'.output = w.output
  size : w.heap.size ≤ w'.heap.size
  block : ∀ k, k < w.heap.size → h k = none → w'.heap[k]? = w.heap[k]?

theorem Ext.refl (h : AHeap) (w : World) : Ext h w w := ⟨rfl, rfl, rfl, Nat.le_refl _, fun _ _ _ => rfl⟩

/-- What the second state may hold: what the first one owned, and what is new. -/
structure New (w : World) (I J : Imm) (h g : AHeap) : Prop where
  imm : I.le J
  heap : ∀ b o, g b = some o → (h b ≠ none ∨ w.heap.size ≤ b)
  fresh : ∀ b o v, J b o = some v → (I b o = some v ∨ h b ≠ none ∨ w.heap.size ≤ b)

theorem New.refl (w : World) (I : Imm) (h : AHeap) : New w I I h h := ⟨Imm.le_refl I, fun _ _ e => .inl (by rw [e]; simp), fun _ _ _ e => .inl e⟩

theorem Ext.trans {w w' w'' : World} {I J : Imm} {h g : AHeap} (e : Ext h w w') (n : New w I J h g) (e' : Ext g w' w'') : Ext h w w'' := by
  refine ⟨e'.os.trans e.os, e'.tape.trans e.tape, e'.output.trans e.output, Nat.le_trans e.size e'.size, ?_⟩
  intro k hk hn
  rw [e'.block k (Nat.lt_of_lt_of_le hk e.size) ?_, e.block k hk hn]
  cases hg : g k with
  | none => rfl
  | some o =>
    rcases n.heap k o hg with h1 | h1
    · exact absurd hn h1
    · omega
theorem New.trans {w w' : World} {I J K : Imm} {h g f : AHeap} (n : New w I J h g) (e : Ext h w w') (m : New w' J K g f) : New w I K h f := by
  refine ⟨Imm.le_trans n.imm m.imm, ?_, ?_⟩
  · intro b o hb
    rcases m.heap b o hb with h1 | h1
    · cases hg : g b with
      | none => exact absurd hg h1
      | some o' => exact n.heap b o' hg
    · exact .inr (Nat.le_trans e.size h1)
  · intro b o v hb
    rcases m.fresh b o v hb with h1 | h1 | h1
    · exact n.fresh b o v h1
    · cases hg : g b with
      | none => exact absurd hg h1
      | some o' => exact .inr (n.heap b o' hg)
    · exact .inr (.inr (Nat.le_trans e.size h1))

theorem Sat.lt {w : World} {I : Imm} {h : AHeap} (s : Sat w I h) {b : Nat} {o : AObj} (e : h b = some o) : b < w.heap.size := by
  have := s.obj b o e
  rcases Nat.lt_or_ge b w.heap.size with h' | h'
  · exact h'
  · cases o with
    | blk cs total ty => obtain ⟨vs, hv, _⟩ := this; rw [Array.getElem?_eq_none h'] at hv; cases hv
    | mp es => obtain ⟨ms, c, hv, _⟩ := this; rw [Array.getElem?_eq_none h'] at hv; cases hv
    | tail m total ty => obtain ⟨vs, hv, _⟩ := this; rw [Array.getElem?_eq_none h'] at hv; cases hv
theorem Sat.imm_lt {w : World} {I : Imm} {h : AHeap} (s : Sat w I h) {b o : Nat} {v : Value} (e : I b o = some v) : b < w.heap.size :=
  World.block_lt_of_cell? (a := ⟨b, o, none⟩) w (s.imm b o v e)

/-- Less may be owned than is. -/
theorem Sat.forget {w : World} {I : Imm} {h g : AHeap} (s : Sat w I h) (le : g.le h) : Sat w I g :=
  ⟨fun b o e => s.obj b o (le b o e), s.imm, fun b o v e => by
    cases hg : g b with
    | none => trivial
    | some x => have := s.dis b o v e; rw [le b x hg] at this; exact this⟩
theorem New.forget {w : World} {I J : Imm} {h g f : AHeap} (n : New w I J h g) (le : f.le g) : New w I J h f :=
  ⟨n.imm, fun b o e => n.heap b o (le b o e), n.fresh⟩

theorem ObjSat.mono {I J : Imm} (hI : I.le J) {w w' : World} {b : Nat} {o : AObj} (hw : w'.heap[b]? = w.heap[b]?) (s : ObjSat I w b o) : ObjSat J w' b o := by
  cases o with
  | blk cs total ty =>
    obtain ⟨vs, h1, h2, h3, h4, h5⟩ := s
    exact ⟨vs, hw ▸ h1, h2, h3, h4.mono hI, h5⟩
  | mp es =>
    obtain ⟨ms, c, h1, h2, h3, h4⟩ := s
    exact ⟨ms, c, hw ▸ h1, h2.mono hI, h3.mono hI, h4⟩
  | tail m total ty =>
    obtain ⟨vs, h1, h2⟩ := s
    exact ⟨vs, hw ▸ h1, h2⟩

/-- What is owned beside: the frame. -/
def AHeap.join (h g : AHeap) : AHeap := fun b => match h b with | some o => some o | none => g b
def AHeap.apart (h g : AHeap) : Prop := ∀ b o, h b = some o → g b = none
theorem AHeap.le_join (h g : AHeap) : h.le (h.join g) := fun b o e => by simp [AHeap.join, e]
theorem AHeap.le_join_right {h g : AHeap} (a : h.apart g) : g.le (h.join g) := fun b o e => by
  cases hh : h b with
  | none => simp [AHeap.join, hh, e]
  | some x => have := a b x hh; rw [e] at this; cases this
theorem AHeap.join_cases {h g : AHeap} {b : Nat} {o : AObj} (e : h.join g b = some o) : h b = some o ∨ (h b = none ∧ g b = some o) := by
  unfold AHeap.join at e
  split at e
  · rename_i x hx; exact .inl (hx.trans e)
  · rename_i hx; exact .inr ⟨hx, e⟩

/-- The frame rule's heart. -/
theorem Sat.frame {w w' : World} {I J : Imm} {h h' g : AHeap} (s : Sat w I (h.join g)) (a : h.apart g) (s' : Sat w' J h') (e : Ext h w w') (n : New w I J h h') :
    Sat w' J (h'.join g) ∧ h'.apart g ∧ Ext (h.join g) w w' ∧ New w I J (h.join g) (h'.join g) := by
  have hap : h'.apart g := by
    intro b o hb
    cases hg : g b with
    | none => rfl
    | some x =>
      have hx : (h.join g) b = some x := AHeap.le_join_right a b x hg
      have hlt := s.lt hx
      rcases n.heap b o hb with h1 | h1
      · cases hh : h b with
        | none => exact absurd hh h1
        | some y => have := a b y hh; rw [hg] at this; cases this
      · omega
  refine ⟨⟨?_, s'.imm, ?_⟩, hap, ⟨e.os, e.tape, e.output, e.size, ?_⟩, ⟨n.imm, ?_, ?_⟩⟩
  · intro b o hb
    rcases AHeap.join_cases hb with h1 | ⟨h1, h2⟩
    · exact s'.obj b o h1
    · have hx : (h.join g) b = some o := AHeap.le_join_right a b o h2
      refine (s.obj b o hx).mono n.imm (e.block b (s.lt hx) ?_)
      cases hh : h b with
      | none => rfl
      | some y => have := a b y hh; rw [h2] at this; cases this
  · intro b o v hb
    have h1 := s'.dis b o v hb
    cases hg : g b with
    | none =>
      have e : (h'.join g) b = h' b := by simp only [AHeap.join]; cases hh : h' b with | none => exact hg | some x => rfl
      rw [e]; exact h1
    | some x =>
      have hx : (h.join g) b = some x := AHeap.le_join_right a b x hg
      have hlt := s.lt hx
      have hn : h' b = none := by
        cases hh : h' b with
        | none => rfl
        | some y => have := hap b y hh; rw [hg] at this; cases this
      have e : (h'.join g) b = some x := by simp only [AHeap.join, hn, hg]
      rw [e]
      rcases n.fresh b o v hb with h2 | h2 | h2
      · have := s.dis b o v h2; rw [hx] at this; exact this
      · cases hh : h b with
        | none => exact absurd hh h2
        | some y => have := a b y hh; rw [hg] at this; cases this
      · omega
  · intro k hk hn
    refine e.block k hk ?_
    cases hh : h k with
    | none => rfl
    | some y => have := AHeap.le_join h g k y hh; rw [hn] at this; cases this
  · intro b o hb
    rcases AHeap.join_cases hb with h1 | ⟨h1, h2⟩
    · rcases n.heap b o h1 with h3 | h3
      · refine .inl ?_
        cases hh : h b with
        | none => exact absurd hh h3
        | some y => rw [AHeap.le_join h g b y hh]; simp
      · exact .inr h3
    · exact .inl (by rw [AHeap.le_join_right a b o h2]; simp)
  · intro b o v hb
    rcases n.fresh b o v hb with h1 | h1 | h1
    · exact .inl h1
    · refine .inr (.inl ?_)
      cases hh : h b with
      | none => exact absurd hh h1
      | some y => rw [AHeap.le_join h g b y hh]; simp
    · exact .inr (.inr h1)

end Pg
