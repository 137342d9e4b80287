import Derived.Calls
import Derived.Laws.World
import Derived.Laws.Sem
import Derived.Laws.Cells
import Derived.Laws.CopyRow
import Derived.Laws.Tables
import Derived.Laws.StructEq
set_option linter.all false
namespace Pg
open Go
inductive AV where
 | any
 | bool (b : Bool)
 | int (k : IntKind) (n : Int)
 | str (s : ByteArray)
 | ptr (a : Option Addr)
 | ip (cells : List AV) (off : Nat)
 | sl (elems : List (List AV)) (full : Bool)
 | os (b n cap : Nat)
 | gs (elems : List (List AV)) (b cap : Nat)
 | map (r : Option Nat)
 | func (fn : Fn) (first captured : List AV)
 | nilFunc
 | iface (t : TypeId) (v : AV)
 | nilIface
 | agg (cells : List AV)
 | tuple (vs : List AV)
 deriving Inhabited
abbrev Imm := Nat → Nat → Option Value
def Imm.le (I J : Imm) : Prop := ∀ b o v, I b o = some v → J b o = some v
theorem Imm.le_refl (I : Imm) : I.le I := fun _ _ _ h => h
theorem Imm.le_trans {I J K : Imm} (h : I.le J) (k : J.le K) : I.le K := fun b o v e => k b o v (h b o v e)
def cV (vs : List Value) : Prop := ∀ (j : Nat) (v : Value), vs[j]? = some v → v.oneCell' = true
inductive Rd (I : Imm) : AV → Value → Prop where
 | any (v : Value) : Rd I .any v
 | bool (b : Bool) : Rd I (.bool b) (.bool b)
 | int (k : IntKind) (n : Int) : Rd I (.int k n) (.int k n)
 | str (s : ByteArray) : Rd I (.str s) (.string s)
 | ptr (a : Option Addr) : Rd I (.ptr a) (.pointer a)
 | ip (cells : List AV) (off b o : Nat) (vs : List Value) (hl : cells.length = vs.length)
   (hm : ∀ (j : Nat) (v : Value), vs[j]? = some v → I b (o + j) = some v) (h1 : cV vs)
   (hr : ∀ (j : Nat) (c : AV) (v : Value), cells[j]? = some c → vs[j]? = some v → Rd I c v) : Rd I (.ip cells off) (.pointer (some ⟨b, o + off, none⟩))
 | sl0 (full : Bool) (a : Option Addr) (cap : Nat) (ha : ∀ x : Addr, a = some x → True) (hn : a = none → cap = 0) (hf : full = true → cap = 0) : Rd I (.sl [] full) (.slice a 0 cap)
 | sl (es : List (List AV)) (full : Bool) (b o size cap : Nat) (vss : List (List Value)) (hl : es.length = vss.length) (hc : es.length ≤ cap) (hf : full = true → cap = es.length)
   (hs : ∀ (i : Nat) (e : List AV) (vs : List Value), es[i]? = some e → vss[i]? = some vs → e.length = size ∧ vs.length = size)
   (hm : ∀ (i : Nat) (vs : List Value) (j : Nat) (v : Value), vss[i]? = some vs → vs[j]? = some v → I b (o + i * size + j) = some v) (h1 : ∀ (i : Nat) (vs : List Value), vss[i]? = some vs → cV vs)
   (hr : ∀ (i : Nat) (e : List AV) (vs : List Value) (j : Nat) (c : AV) (v : Value), es[i]? = some e → vss[i]? = some vs → e[j]? = some c → vs[j]? = some v → Rd I c v) :
   Rd I (.sl es full) (.slice (some ⟨b, o, none⟩) es.length cap)
 | os (b n cap : Nat) : Rd I (.os b n cap) (.slice (some ⟨b, 0, none⟩) n cap)
 | gs (es : List (List AV)) (b size cap : Nat) (vss : List (List Value)) (hl : es.length = vss.length) (hc : es.length ≤ cap)
   (hs : ∀ (i : Nat) (e : List AV) (vs : List Value), es[i]? = some e → vss[i]? = some vs → e.length = size ∧ vs.length = size)
   (hm : ∀ (i : Nat) (vs : List Value) (j : Nat) (v : Value), vss[i]? = some vs → vs[j]? = some v → I b (0 + i * size + j) = some v) (h1 : ∀ (i : Nat) (vs : List Value), vss[i]? = some vs → cV vs)
   (hr : ∀ (i : Nat) (e : List AV) (vs : List Value) (j : Nat) (c : AV) (v : Value), es[i]? = some e → vss[i]? = some vs → e[j]? = some c → vs[j]? = some v → Rd I c v) :
   Rd I (.gs es b cap) (.slice (some ⟨b, 0, none⟩) es.length cap)
 | map (r : Option Nat) : Rd I (.map r) (.map r)
 | func (fn : Fn) (f c : List AV) (fs cs : List Value) (hl : f.length = fs.length) (kl : c.length = cs.length)
   (hr : ∀ (j : Nat) (a : AV) (v : Value), f[j]? = some a → fs[j]? = some v → Rd I a v) (kr : ∀ (j : Nat) (a : AV) (v : Value), c[j]? = some a → cs[j]? = some v → Rd I a v) : Rd I (.func fn f c) (.func fn fs.toArray cs.toArray)
 | nilFunc : Rd I .nilFunc .nilFunc
 | iface (t : TypeId) (a : AV) (v : Value) (h : Rd I a v) : Rd I (.iface t a) (.iface t v)
 | nilIface : Rd I .nilIface .nilIface
 | agg (cs : List AV) (vs : List Value) (hl : cs.length = vs.length) (h1 : cV vs) (hr : ∀ (j : Nat) (a : AV) (v : Value), cs[j]? = some a → vs[j]? = some v → Rd I a v) : Rd I (.agg cs) (.agg vs.toArray)
 | tuple (cs : List AV) (vs : List Value) (hl : cs.length = vs.length) (hr : ∀ (j : Nat) (a : AV) (v : Value), cs[j]? = some a → vs[j]? = some v → Rd I a v) : Rd I (.tuple cs) (.tuple vs.toArray)
theorem Rd.mono {I J : Imm} (h : I.le J) {a : AV} {v : Value} (r : Rd I a v) : Rd J a v := by
 induction r with
 | any v => exact .any v
 | bool b => exact .bool b
 | int k n => exact .int k n
 | str s => exact .str s
 | ptr a => exact .ptr a
 | ip cells off b o vs hl hm h1 hr ih => exact .ip cells off b o vs hl (fun j v e => h _ _ _ (hm j v e)) h1 (fun j c v e1 e2 => ih j c v e1 e2)
 | sl0 full a cap ha hn hf => exact .sl0 full a cap ha hn hf
 | sl es full b o size cap vss hl hc hf hs hm h1 hr ih =>
  exact .sl es full b o size cap vss hl hc hf hs (fun i vs j v e1 e2 => h _ _ _ (hm i vs j v e1 e2)) h1 (fun i e vs j c v e1 e2 e3 e4 => ih i e vs j c v e1 e2 e3 e4)
 | os b n cap => exact .os b n cap
 | gs es b size cap vss hl hc hs hm h1 hr ih =>
  exact .gs es b size cap vss hl hc hs (fun i vs j v e1 e2 => h _ _ _ (hm i vs j v e1 e2)) h1 (fun i e vs j c v e1 e2 e3 e4 => ih i e vs j c v e1 e2 e3 e4)
 | map r => exact .map r
 | func fn f c fs cs hl kl hr kr ih ik => exact .func fn f c fs cs hl kl (fun j a v e1 e2 => ih j a v e1 e2) (fun j a v e1 e2 => ik j a v e1 e2)
 | nilFunc => exact .nilFunc
 | iface t a v _ ih => exact .iface t a v ih
 | nilIface => exact .nilIface
 | agg cs vs hl h1 hr ih => exact .agg cs vs hl h1 (fun j a v e1 e2 => ih j a v e1 e2)
 | tuple cs vs hl hr ih => exact .tuple cs vs hl (fun j a v e1 e2 => ih j a v e1 e2)
structure Rds (I : Imm) (cs : List AV) (vs : List Value) : Prop where
 len : cs.length = vs.length
 at_ : ∀ (j : Nat) (c : AV) (v : Value), cs[j]? = some c → vs[j]? = some v → Rd I c v
theorem Rds.mono {I J : Imm} (h : I.le J) {cs : List AV} {vs : List Value} (r : Rds I cs vs) : Rds J cs vs := ⟨r.len, fun j c v e1 e2 => (r.at_ j c v e1 e2).mono h⟩
theorem Rds.nil (I : Imm) : Rds I [] [] := ⟨rfl, fun j c v e => by simp at e⟩
theorem Rds.cons {I : Imm} {c : AV} {v : Value} {cs : List AV} {vs : List Value} (h : Rd I c v) (r : Rds I cs vs) : Rds I (c :: cs) (v :: vs) := by
 refine ⟨by simp [r.len], ?_⟩
 intro j c' v' e1 e2
 cases j with
 | zero => simp at e1 e2; subst e1; subst e2; exact h
 | succ j => simp at e1 e2; exact r.at_ j c' v' e1 e2
theorem Rds.dN {I : Imm} {c : AV} {cs : List AV} {vs : List Value} (r : Rds I (c :: cs) vs) : ∃ v vs', vs = v :: vs' ∧ Rd I c v ∧ Rds I cs vs' := by
 cases vs with
 | nil => have := r.len; simp at this
 | cons v vs' =>
  refine ⟨v, vs', rfl, r.at_ 0 c v (by simp) (by simp), ⟨by have := r.len; simpa using this, ?_⟩⟩
  intro j c' v' e1 e2
  exact r.at_ (j + 1) c' v' (by simpa using e1) (by simpa using e2)
theorem Rds.of_nil {I : Imm} {vs : List Value} (r : Rds I [] vs) : vs = [] := by
 have := r.len
 cases vs with
 | nil => rfl
 | cons => simp at this
theorem Rds.append {I : Imm} {cs ds : List AV} {vs us : List Value} (r : Rds I cs vs) (s : Rds I ds us) : Rds I (cs ++ ds) (vs ++ us) := by
 induction cs generalizing vs with
 | nil => have := r.of_nil; subst this; simpa using s
 | cons c cs ih =>
  obtain ⟨v, vs', rfl, h, r'⟩ := r.dN
  exact .cons h (ih r')
theorem Rds.take {I : Imm} {cs : List AV} {vs : List Value} (r : Rds I cs vs) (n : Nat) : Rds I (cs.take n) (vs.take n) := by
 refine ⟨by simp [r.len], ?_⟩
 intro j c v e1 e2
 rw [List.getElem?_take] at e1 e2
 split at e1
 ·rename_i hj; rw [if_pos hj] at e2; exact r.at_ j c v e1 e2
 ·cases e1
theorem Rds.drop {I : Imm} {cs : List AV} {vs : List Value} (r : Rds I cs vs) (n : Nat) : Rds I (cs.drop n) (vs.drop n) := by
 refine ⟨by simp [r.len], ?_⟩
 intro j c v e1 e2
 rw [List.getElem?_drop] at e1 e2
 exact r.at_ (n + j) c v e1 e2
theorem Rds.get {I : Imm} {cs : List AV} {vs : List Value} (r : Rds I cs vs) {j : Nat} {c : AV} (h : cs[j]? = some c) : ∃ v, vs[j]? = some v ∧ Rd I c v := by
 have hj : j < cs.length := by
  rcases Nat.lt_or_ge j cs.length with h' | h'
  ·exact h'
  ·rw [List.getElem?_eq_none h'] at h; cases h
 have hv : j < vs.length := r.len ▸ hj
 exact ⟨vs[j], List.getElem?_eq_getElem hv, r.at_ j c _ h (List.getElem?_eq_getElem hv)⟩
theorem Rd.nG {I : Imm} {b : Bool} {v : Value} (r : Rd I (.bool b) v) : v = .bool b := by cases r; rfl
theorem Rd.gM {I : Imm} {k : IntKind} {n : Int} {v : Value} (r : Rd I (.int k n) v) : v = .int k n := by cases r; rfl
theorem Rd.mN {I : Imm} {s : ByteArray} {v : Value} (r : Rd I (.str s) v) : v = .string s := by cases r; rfl
theorem Rd.gL {I : Imm} {a : Option Addr} {v : Value} (r : Rd I (.ptr a) v) : v = .pointer a := by cases r; rfl
theorem Rd.rU {I : Imm} {a : Option Nat} {v : Value} (r : Rd I (.map a) v) : v = .map a := by cases r; rfl
theorem Rd.pQ {I : Imm} {b n cap : Nat} {v : Value} (r : Rd I (.os b n cap) v) : v = .slice (some ⟨b, 0, none⟩) n cap := by cases r; rfl
theorem Rd.NP {I : Imm} {t : TypeId} {a : AV} {v : Value} (r : Rd I (.iface t a) v) : ∃ u, v = .iface t u ∧ Rd I a u := by cases r; exact ⟨_, rfl, by assumption⟩
theorem Rd.mO {I : Imm} {cs : List AV} {v : Value} (r : Rd I (.agg cs) v) : ∃ vs : List Value, v = .agg vs.toArray ∧ Rds I cs vs ∧ cV vs := by
 cases r with
 | agg cs vs hl h1 hr => exact ⟨vs, rfl, ⟨hl, hr⟩, h1⟩
theorem Rd.uR {I : Imm} {cs : List AV} {v : Value} (r : Rd I (.tuple cs) v) : ∃ vs : List Value, v = .tuple vs.toArray ∧ Rds I cs vs := by
 cases r with
 | tuple cs vs hl hr => exact ⟨vs, rfl, hl, hr⟩
theorem Rd.aCK {I : Imm} {fn : Fn} {f c : List AV} {v : Value} (r : Rd I (.func fn f c) v) : ∃ fs cs : List Value, v = .func fn fs.toArray cs.toArray ∧ Rds I f fs ∧ Rds I c cs := by
 cases r with
 | func fn f c fs cs hl kl hr kr => exact ⟨fs, cs, rfl, ⟨hl, hr⟩, ⟨kl, kr⟩⟩
theorem Rd.D8 {I : Imm} {cells : List AV} {off : Nat} {v : Value} (r : Rd I (.ip cells off) v) :
  ∃ (b o : Nat) (vs : List Value), v = .pointer (some ⟨b, o + off, none⟩) ∧ (∀ (j : Nat) (u : Value), vs[j]? = some u → I b (o + j) = some u) ∧ Rds I cells vs ∧ cV vs := by
 cases r with
 | ip cells off b o vs hl hm h1 hr => exact ⟨b, o, vs, rfl, hm, ⟨hl, hr⟩, h1⟩
theorem Rd.J0 {I : Imm} {cells : List AV} {b o : Nat} {vs : List Value} (off : Nat) (hm : ∀ (j : Nat) (u : Value), vs[j]? = some u → I b (o + j) = some u) (r : Rds I cells vs) (h1 : cV vs) : Rd I (.ip cells off) (.pointer (some ⟨b, o + off, none⟩)) :=
 .ip cells off b o vs r.len hm h1 r.at_
theorem Rd.qP {I : Imm} {cs : List AV} {vs : List Value} (r : Rds I cs vs) (h1 : cV vs) : Rd I (.agg cs) (.agg vs.toArray) := .agg cs vs r.len h1 r.at_
theorem Rd.iU {I : Imm} {cs : List AV} {vs : List Value} (r : Rds I cs vs) : Rd I (.tuple cs) (.tuple vs.toArray) := .tuple cs vs r.len r.at_
theorem Rd.aEn {I : Imm} {fn : Fn} {f c : List AV} {fs cs : List Value} (r : Rds I f fs) (s : Rds I c cs) : Rd I (.func fn f c) (.func fn fs.toArray cs.toArray) := .func fn f c fs cs r.len s.len r.at_ s.at_
structure Rows (I : Imm) (b o size : Nat) (es : List (List AV)) (vss : List (List Value)) : Prop where
 len : es.length = vss.length
 oC : ∀ (i : Nat) (e : List AV) (vs : List Value), es[i]? = some e → vss[i]? = some vs → e.length = size ∧ vs.length = size
 mem : ∀ (i : Nat) (vs : List Value) (j : Nat) (v : Value), vss[i]? = some vs → vs[j]? = some v → I b (o + i * size + j) = some v
 one : ∀ (i : Nat) (vs : List Value), vss[i]? = some vs → cV vs
 rd : ∀ (i : Nat) (e : List AV) (vs : List Value) (j : Nat) (c : AV) (v : Value), es[i]? = some e → vss[i]? = some vs → e[j]? = some c → vs[j]? = some v → Rd I c v
theorem Rd.uS {I : Imm} {es : List (List AV)} {full : Bool} {v : Value} (r : Rd I (.sl es full) v) :
  ∃ (a : Option Addr) (cap : Nat), v = .slice a es.length cap ∧ es.length ≤ cap ∧ (full = true → cap = es.length) ∧ (∀ x : Addr, a = some x → True) ∧ (a = none → cap = 0) ∧
   (es = [] ∨ ∃ b o size vss, a = some ⟨b, o, none⟩ ∧ Rows I b o size es vss) := by
 cases r with
 | sl0 full a cap ha hn hf => exact ⟨a, cap, rfl, Nat.zero_le _, fun h => hf h, ha, hn, .inl rfl⟩
 | sl es full b o size cap vss hl hc hf hs hm h1 hr => exact ⟨some ⟨b, o, none⟩, cap, rfl, hc, hf, (fun _ _ => trivial), (fun h => by cases h), .inr ⟨b, o, size, vss, rfl, hl, hs, hm, h1, hr⟩⟩
theorem Rd.rQ {I : Imm} {es : List (List AV)} (full : Bool) {b o size cap : Nat} {vss : List (List Value)} (hc : es.length ≤ cap) (hf : full = true → cap = es.length) (r : Rows I b o size es vss) : Rd I (.sl es full) (.slice (some ⟨b, o, none⟩) es.length cap) :=
 .sl es full b o size cap vss r.len hc hf r.oC r.mem r.one r.rd
theorem Rd.KB {I : Imm} {es : List (List AV)} {b cap : Nat} {v : Value} (r : Rd I (.gs es b cap) v) : ∃ size vss, v = .slice (some ⟨b, 0, none⟩) es.length cap ∧ es.length ≤ cap ∧ Rows I b 0 size es vss := by
 cases r with
 | gs es b size cap vss hl hc hs hm h1 hr => exact ⟨size, vss, rfl, hc, hl, hs, hm, h1, hr⟩
theorem Rd.aDz {I : Imm} {es : List (List AV)} {b size cap : Nat} {vss : List (List Value)} (hc : es.length ≤ cap) (r : Rows I b 0 size es vss) : Rd I (.gs es b cap) (.slice (some ⟨b, 0, none⟩) es.length cap) :=
 .gs es b size cap vss r.len hc r.oC r.mem r.one r.rd
theorem Rd.OU {I : Imm} {es : List (List AV)} {b cap : Nat} {v : Value} (r : Rd I (.gs es b cap) v) : Rd I (.sl es false) v := by
 obtain ⟨size, vss, rfl, hc, R⟩ := r.KB
 exact Rd.rQ false hc (fun h => by cases h) R
theorem Rd.LQ {I : Imm} {es : List (List AV)} {full : Bool} {v : Value} (r : Rd I (.sl es full) v) : Rd I (.sl es false) v := by
 cases r with
 | sl0 full a cap ha hn hf => exact .sl0 false a cap ha hn (fun h => by cases h)
 | sl es full b o size cap vss hl hc hf hs hm h1 hr => exact .sl es false b o size cap vss hl hc (fun h => by cases h) hs hm h1 hr
def bM {α : Type} (cs : List α) (o : Nat) (ds : List α) : List α := cs.take o ++ (ds ++ cs.drop (o + ds.length))
theorem jG {α : Type} (cs : List α) (o : Nat) (ds : List α) (h : o + ds.length ≤ cs.length) : (bM cs o ds).length = cs.length := by
 simp only [bM, List.length_append, List.length_take, List.length_drop]; omega
theorem Rds.bM {I : Imm} {cs ds : List AV} {vs us : List Value} (r : Rds I cs vs) (s : Rds I ds us) (o : Nat) : Rds I (bM cs o ds) (bM vs o us) := by
 unfold Pg.bM
 rw [← s.len]
 exact (r.take o).append (s.append (r.drop _))
theorem cV.nil : cV [] := fun j v e => by simp at e
theorem cV.cons {v : Value} {vs : List Value} (h : v.oneCell' = true) (r : cV vs) : cV (v :: vs) := by
 intro j u e
 cases j with
 | zero => simp at e; subst e; exact h
 | succ j => exact r j u (by simpa using e)
theorem cV.head {v : Value} {vs : List Value} (r : cV (v :: vs)) : v.oneCell' = true := r 0 v (by simp)
theorem cV.tail {v : Value} {vs : List Value} (r : cV (v :: vs)) : cV vs := fun j u e => r (j + 1) u (by simpa using e)
theorem cV.take {vs : List Value} (r : cV vs) (n : Nat) : cV (vs.take n) := by
 intro j v e
 rw [List.getElem?_take] at e
 split at e
 ·exact r j v e
 ·cases e
theorem cV.drop {vs : List Value} (r : cV vs) (n : Nat) : cV (vs.drop n) := by
 intro j v e
 rw [List.getElem?_drop] at e
 exact r _ v e
theorem cV.append {vs us : List Value} (r : cV vs) (s : cV us) : cV (vs ++ us) := by
 intro j v e
 rw [List.getElem?_append] at e
 split at e
 ·exact r j v e
 ·exact s _ v e
theorem cV.bM {vs us : List Value} (r : cV vs) (s : cV us) (o : Nat) : cV (bM vs o us) := (r.take o).append (s.append (r.drop _))
theorem cV.mem {vs : List Value} (r : cV vs) : ∀ v ∈ vs, v.oneCell' = true := by
 intro v hv
 obtain ⟨j, hj⟩ := List.getElem?_of_mem hv
 exact r j v hj
inductive AObj where
 | blk (cs : List AV) (total : Nat) (ty : TypeId)
 | mp (es : List (AV × AV))
 | tail (m total : Nat) (ty : TypeId)
 | mpc (es : List (AV × AV)) (bs : List Nat) (clock : Nat)
 | it (m : Option Nat) (since : Nat) (seen : List Nat) (last : Nat)
 | sit (s : ByteArray) (pos : Nat)
def aF9 (x : Option AObj) (o : Nat) : Prop := match x with | none => True | some (.tail m _ _) => o < m | some _ => False
abbrev AHeap := Nat → Option AObj
def AHeap.upd (h : AHeap) (b : Nat) (o : AObj) : AHeap := fun c => if c = b then some o else h c
def AHeap.del (h : AHeap) (b : Nat) : AHeap := fun c => if c = b then none else h c
theorem aA (h : AHeap) (b : Nat) (o : AObj) : h.upd b o b = some o := by simp [AHeap.upd]
theorem aC (h : AHeap) (b : Nat) (o : AObj) {c : Nat} (n : c ≠ b) : h.upd b o c = h c := by simp [AHeap.upd, n]
theorem oM (h : AHeap) (b : Nat) : h.del b b = none := by simp [AHeap.del]
theorem pT (h : AHeap) (b : Nat) {c : Nat} (n : c ≠ b) : h.del b c = h c := by simp [AHeap.del, n]
theorem fE (h : AHeap) (b : Nat) (o : AObj) (e : h b = none) : (h.upd b o).del b = h := by
 funext c; simp only [AHeap.del, AHeap.upd]; split
 ·rename_i k; subst k; exact e.symm
 ·rfl
theorem aB (h : AHeap) (b : Nat) (o p : AObj) : (h.upd b o).upd b p = h.upd b p := by
 funext c; simp only [AHeap.upd]; split <;> rfl
def AHeap.le (h g : AHeap) : Prop := ∀ b o, h b = some o → g b = some o
theorem AHeap.le_refl (h : AHeap) : h.le h := fun _ _ e => e
theorem AHeap.le_trans {h g k : AHeap} (a : h.le g) (b : g.le k) : h.le k := fun c o e => b c o (a c o e)
theorem AHeap.b8 {h : AHeap} {b : Nat} {o : AObj} (e : h b = none) : h.le (h.upd b o) := fun c x k => by
 by_cases hc : c = b
 ·subst hc; rw [e] at k; cases k
 ·rw [aC _ _ _ hc]; exact k
def tB (I : Imm) (w : World) (b : Nat) : AObj → Prop
 | .blk cs total ty => ∃ vs : List Value, w.heap[b]? = some (.cells vs.toArray ty (0, 0)) ∧ vs.length = total ∧ cs.length ≤ total ∧ Rds I cs (vs.take cs.length) ∧ cV (vs.take cs.length)
 | .mp es => ∃ (ms : Array MapEntry) (clock : Nat), w.heap[b]? = some (.map ms clock) ∧ Rds I (es.map (·.1)) (ms.toList.map (·.key)) ∧ Rds I (es.map (·.2)) (ms.toList.map (·.val)) ∧
   (ms.toList.map (·.born)).Nodup ∧ ∀ e ∈ ms.toList, e.born < clock
 | .tail m total ty => ∃ vs : List Value, w.heap[b]? = some (.cells vs.toArray ty (0, 0)) ∧ vs.length = total ∧ m ≤ total
 | .mpc es bs clock => ∃ ms : Array MapEntry, w.heap[b]? = some (.map ms clock) ∧ Rds I (es.map (·.1)) (ms.toList.map (·.key)) ∧ Rds I (es.map (·.2)) (ms.toList.map (·.val)) ∧ ms.toList.map (·.born) = bs ∧ bs.Nodup ∧ ∀ x ∈ bs, x < clock
 | .it m since seen last => w.heap[b]? = some (.mapIter m since seen.toArray last)
 | .sit s pos => w.heap[b]? = some (.stringIter s pos)
class GI where
 imm : Imm
structure Sat [GI] (w : World) (I : Imm) (h : AHeap) : Prop where
 pD : GI.imm.le I
 obj : ∀ b o, h b = some o → tB I w b o
 imm : ∀ b o v, I b o = some v → w.cell? ⟨b, o, none⟩ = some v
 dis : ∀ b o v, I b o = some v → aF9 (h b) o
structure Ext (h : AHeap) (w w' : World) : Prop where
 os : w'.os = w.os
 tape : w'.tape = w.tape
 output : w'.output = w.output
 size : w.heap.size ≤ w'.heap.size
 block : ∀ k, k < w.heap.size → h k = none → w'.heap[k]? = w.heap[k]?
theorem Ext.refl (h : AHeap) (w : World) : Ext h w w := ⟨rfl, rfl, rfl, Nat.le_refl _, fun _ _ _ => rfl⟩
structure New (w : World) (I J : Imm) (h g : AHeap) : Prop where
 imm : I.le J
 heap : ∀ b o, g b = some o → (h b ≠ none ∨ w.heap.size ≤ b)
 fresh : ∀ b o v, J b o = some v → (I b o = some v ∨ h b ≠ none ∨ w.heap.size ≤ b)
theorem New.refl (w : World) (I : Imm) (h : AHeap) : New w I I h h := ⟨Imm.le_refl I, fun _ _ e => .inl (by rw [e]; simp), fun _ _ _ e => .inl e⟩
theorem Ext.trans {w w' w'' : World} {I J : Imm} {h g : AHeap} (e : Ext h w w') (n : New w I J h g) (e' : Ext g w' w'') : Ext h w w'' := by
 refine ⟨e'.os.trans e.os, e'.tape.trans e.tape, e'.output.trans e.output, Nat.le_trans e.size e'.size, ?_⟩
 intro k hk hn
 rw [e'.block k (Nat.lt_of_lt_of_le hk e.size) ?_, e.block k hk hn]
 cases hg : g k with
 | none => rfl
 | some o =>
  rcases n.heap k o hg with h1 | h1
  ·exact absurd hn h1
  ·omega
theorem New.trans {w w' : World} {I J K : Imm} {h g f : AHeap} (n : New w I J h g) (e : Ext h w w') (m : New w' J K g f) : New w I K h f := by
 refine ⟨Imm.le_trans n.imm m.imm, ?_, ?_⟩
 ·intro b o hb
  rcases m.heap b o hb with h1 | h1
  ·cases hg : g b with
   | none => exact absurd hg h1
   | some o' => exact n.heap b o' hg
  ·exact .inr (Nat.le_trans e.size h1)
 ·intro b o v hb
  rcases m.fresh b o v hb with h1 | h1 | h1
  ·exact n.fresh b o v h1
  ·cases hg : g b with
   | none => exact absurd hg h1
   | some o' => exact .inr (n.heap b o' hg)
  ·exact .inr (.inr (Nat.le_trans e.size h1))
theorem Sat.lt [GI] {w : World} {I : Imm} {h : AHeap} (s : Sat w I h) {b : Nat} {o : AObj} (e : h b = some o) : b < w.heap.size := by
 have := s.obj b o e
 rcases Nat.lt_or_ge b w.heap.size with h' | h'
 ·exact h'
 ·cases o with
  | blk cs total ty => obtain ⟨vs, hv, _⟩ := this; rw [Array.getElem?_eq_none h'] at hv; cases hv
  | mp es => obtain ⟨ms, c, hv, _⟩ := this; rw [Array.getElem?_eq_none h'] at hv; cases hv
  | tail m total ty => obtain ⟨vs, hv, _⟩ := this; rw [Array.getElem?_eq_none h'] at hv; cases hv
  | mpc es bs c => obtain ⟨ms, hv, _⟩ := this; rw [Array.getElem?_eq_none h'] at hv; cases hv
  | it m s n l => have hv : w.heap[b]? = _ := this; rw [Array.getElem?_eq_none h'] at hv; cases hv
  | sit s p => have hv : w.heap[b]? = _ := this; rw [Array.getElem?_eq_none h'] at hv; cases hv
theorem Sat.z6 [GI] {w : World} {I : Imm} {h : AHeap} (s : Sat w I h) {b o : Nat} {v : Value} (e : I b o = some v) : b < w.heap.size :=
 World.block_lt_of_cell? (a := ⟨b, o, none⟩) w (s.imm b o v e)
theorem Sat.forget [GI] {w : World} {I : Imm} {h g : AHeap} (s : Sat w I h) (le : g.le h) : Sat w I g :=
 ⟨s.pD, fun b o e => s.obj b o (le b o e), s.imm, fun b o v e => by
  cases hg : g b with
  | none => trivial
  | some x => have := s.dis b o v e; rw [le b x hg] at this; exact this⟩
theorem New.forget {w : World} {I J : Imm} {h g f : AHeap} (n : New w I J h g) (le : f.le g) : New w I J h f :=
 ⟨n.imm, fun b o e => n.heap b o (le b o e), n.fresh⟩
theorem tB.mono {I J : Imm} (hI : I.le J) {w w' : World} {b : Nat} {o : AObj} (hw : w'.heap[b]? = w.heap[b]?) (s : tB I w b o) : tB J w' b o := by
 cases o with
 | blk cs total ty =>
  obtain ⟨vs, h1, h2, h3, h4, h5⟩ := s
  exact ⟨vs, hw ▸ h1, h2, h3, h4.mono hI, h5⟩
 | mp es =>
  obtain ⟨ms, c, h1, h2, h3, h4⟩ := s
  exact ⟨ms, c, hw ▸ h1, h2.mono hI, h3.mono hI, h4⟩
 | tail m total ty =>
  obtain ⟨vs, h1, h2⟩ := s
  exact ⟨vs, hw ▸ h1, h2⟩
 | mpc es bs c =>
  obtain ⟨ms, h1, h2, h3, h4⟩ := s
  exact ⟨ms, hw ▸ h1, h2.mono hI, h3.mono hI, h4⟩
 | it m i n l => exact hw.trans s
 | sit t p => exact hw.trans s
def AHeap.join (h g : AHeap) : AHeap := fun b => match h b with | some o => some o | none => g b
def AHeap.apart (h g : AHeap) : Prop := ∀ b o, h b = some o → g b = none
theorem AHeap.rT (h g : AHeap) : h.le (h.join g) := fun b o e => by simp [AHeap.join, e]
theorem AHeap.eT {h g : AHeap} (a : h.apart g) : g.le (h.join g) := fun b o e => by
 cases hh : h b with
 | none => simp [AHeap.join, hh, e]
 | some x => have := a b x hh; rw [e] at this; cases this
theorem AHeap.BL {h g : AHeap} {b : Nat} {o : AObj} (e : h.join g b = some o) : h b = some o ∨ (h b = none ∧ g b = some o) := by
 unfold AHeap.join at e
 split at e
 ·rename_i x hx; exact .inl (hx.trans e)
 ·rename_i hx; exact .inr ⟨hx, e⟩
theorem Sat.frame [GI] {w w' : World} {I J : Imm} {h h' g : AHeap} (s : Sat w I (h.join g)) (a : h.apart g) (s' : Sat w' J h') (e : Ext h w w') (n : New w I J h h') :
  Sat w' J (h'.join g) ∧ h'.apart g ∧ Ext (h.join g) w w' ∧ New w I J (h.join g) (h'.join g) := by
 have hap : h'.apart g := by
  intro b o hb
  cases hg : g b with
  | none => rfl
  | some x =>
   have hx : (h.join g) b = some x := AHeap.eT a b x hg
   have hlt := s.lt hx
   rcases n.heap b o hb with h1 | h1
   ·cases hh : h b with
    | none => exact absurd hh h1
    | some y => have := a b y hh; rw [hg] at this; cases this
   ·omega
 refine ⟨⟨s'.pD, ?_, s'.imm, ?_⟩, hap, ⟨e.os, e.tape, e.output, e.size, ?_⟩, ⟨n.imm, ?_, ?_⟩⟩
 ·intro b o hb
  rcases AHeap.BL hb with h1 | ⟨h1, h2⟩
  ·exact s'.obj b o h1
  ·have hx : (h.join g) b = some o := AHeap.eT a b o h2
   refine (s.obj b o hx).mono n.imm (e.block b (s.lt hx) ?_)
   cases hh : h b with
   | none => rfl
   | some y => have := a b y hh; rw [h2] at this; cases this
 ·intro b o v hb
  have h1 := s'.dis b o v hb
  cases hg : g b with
  | none =>
   have e : (h'.join g) b = h' b := by simp only [AHeap.join]; cases hh : h' b with | none => exact hg | some x => rfl
   rw [e]; exact h1
  | some x =>
   have hx : (h.join g) b = some x := AHeap.eT a b x hg
   have hlt := s.lt hx
   have hn : h' b = none := by
    cases hh : h' b with
    | none => rfl
    | some y => have := hap b y hh; rw [hg] at this; cases this
   have e : (h'.join g) b = some x := by simp only [AHeap.join, hn, hg]
   rw [e]
   rcases n.fresh b o v hb with h2 | h2 | h2
   ·have := s.dis b o v h2; rw [hx] at this; exact this
   ·cases hh : h b with
    | none => exact absurd hh h2
    | some y => have := a b y hh; rw [hg] at this; cases this
   ·omega
 ·intro k hk hn
  refine e.block k hk ?_
  cases hh : h k with
  | none => rfl
  | some y => have := AHeap.rT h g k y hh; rw [hn] at this; cases this
 ·intro b o hb
  rcases AHeap.BL hb with h1 | ⟨h1, h2⟩
  ·rcases n.heap b o h1 with h3 | h3
   ·refine .inl ?_
    cases hh : h b with
    | none => exact absurd hh h3
    | some y => rw [AHeap.rT h g b y hh]; simp
   ·exact .inr h3
  ·exact .inl (by rw [AHeap.eT a b o h2]; simp)
 ·intro b o v hb
  rcases n.fresh b o v hb with h1 | h1 | h1
  ·exact .inl h1
  ·refine .inr (.inl ?_)
   cases hh : h b with
   | none => exact absurd hh h1
   | some y => rw [AHeap.rT h g b y hh]; simp
  ·exact .inr (.inr h1)
end Pg
namespace Pg
open Go
abbrev Env := List (Nat × AV)
def Env.get : Env → Nat → AV
 | [], _ => .any
 | (s, v) :: r, t => if s = t then v else Env.get r t
def Env.put (e : Env) (d : Option Nat) (v : AV) : Env := match d with | some t => (t, v) :: e | none => e
structure dC (I : Imm) (N : Nat) (e : Env) (tmps : Array Value) : Prop where
 size : tmps.size = N
 at_ : ∀ t, Rd I (e.get t) (tmps.getD t undef)
theorem dC.mono {I J : Imm} (h : I.le J) {N : Nat} {e : Env} {tmps : Array Value} (s : dC I N e tmps) : dC J N e tmps := ⟨s.size, fun t => (s.at_ t).mono h⟩
theorem dC.put {I : Imm} {N : Nat} {e : Env} {a : Act} (s : dC I N e a.tmps) {d : Option Nat} {av : AV} {v : Value} (hd : ∀ t, d = some t → t < N) (h : Rd I av v) : dC I N (e.put d av) (a.put d v).tmps := by
 cases d with
 | none => exact s
 | some t =>
  have ht : t < a.tmps.size := by rw [s.size]; exact hd t rfl
  refine ⟨by simp [Act.put, s.size], ?_⟩
  intro u
  simp only [Env.put, Env.get, Act.put]
  by_cases hu : t = u
  ·subst hu
   simp only [if_true, Array.getD_eq_getD_getElem?, Array.getElem?_setIfInBounds, ht, Option.getD_some]
   exact h
  ·simp only [hu, if_false]
   have := s.at_ u
   simp only [Array.getD_eq_getD_getElem?] at this ⊢
   rw [Array.getElem?_setIfInBounds_ne hu]
   exact this
inductive aV where
 | t (n : Nat)
 | c (v : AV)
 deriving Inhabited
def ev (e : Env) : aV → AV
 | .t n => e.get n
 | .c v => v
def ofV : Value → Option AV
 | .bool b => some (.bool b)
 | .int k n => some (.int k n)
 | .string s => some (.str s)
 | .pointer a => some (.ptr a)
 | .slice none 0 0 => some (.sl [] true)
 | .map none => some (.map none)
 | .nilFunc => some .nilFunc
 | .nilIface => some .nilIface
 | _ => none
theorem D0 (I : Imm) {v : Value} {a : AV} (h : ofV v = some a) : Rd I a v := by
 unfold ofV at h
 split at h <;> simp only [Option.some.injEq, reduceCtorEq] at h <;> subst h
 ·exact .bool _
 ·exact .int _ _
 ·exact .str _
 ·exact .ptr _
 ·exact .sl0 true none 0 (fun x h => by cases h) (fun _ => rfl) (fun _ => rfl)
 ·exact .map _
 ·exact .nilFunc
 ·exact .nilIface
def qM : List Value → Option (List AV)
 | [] => some []
 | v :: r => match ofV v, qM r with | some a, some l => some (a :: l) | _, _ => none
theorem tN (I : Imm) : ∀ {vs : List Value} {as : List AV}, qM vs = some as → Rds I as vs
 | [], as, h => by simp [qM] at h; subst h; exact .nil I
 | v :: r, as, h => by
  simp only [qM] at h
  split at h
  ·rename_i a l h1 h2
   simp only [Option.some.injEq] at h; subst h
   exact .cons (D0 I h1) (tN I h2)
  ·cases h
theorem L3 {v : Value} {a : AV} (h : ofV v = some a) : v.oneCell' = true := by
 unfold ofV at h
 split at h <;> first | rfl | cases h
theorem rR : ∀ {vs : List Value} {as : List AV}, qM vs = some as → cV vs
 | [], as, h => .nil
 | v :: r, as, h => by
  simp only [qM] at h
  split at h
  ·rename_i a l h1 h2
   exact .cons (L3 h1) (rR h2)
  ·cases h
def ofC : Value → Option AV
 | .agg zs => (qM zs.toList).map .agg
 | v => ofV v
theorem aA7 (I : Imm) {v : Value} {a : AV} (h : ofC v = some a) : Rd I a v := by
 unfold ofC at h
 split at h
 ·simp only [Option.map_eq_some_iff] at h
  obtain ⟨l, h1, rfl⟩ := h
  have := Rd.qP (tN I h1) (rR h1)
  simpa using this
 ·exact D0 I h
def bF : Operand → Option aV
 | .tmp t => some (.t t)
 | .const v => (ofC v).map .c
 | .global g => some (.c (.ptr (some ⟨g, 0, none⟩)))
 | .func f => some (.c (.func (.func f) [] []))
theorem aCh {I : Imm} {N : Nat} {e : Env} {a : Act} (s : dC I N e a.tmps) {x : Operand} {r : aV} (h : bF x = some r) : Rd I (ev e r) (a.eval x) := by
 cases x with
 | tmp t => simp only [bF, Option.some.injEq] at h; subst h; exact s.at_ t
 | const v =>
  simp only [bF, Option.map_eq_some_iff] at h
  obtain ⟨a', h1, rfl⟩ := h
  exact aA7 I h1
 | global g => simp only [bF, Option.some.injEq] at h; subst h; exact .ptr _
 | func f =>
  simp only [bF, Option.some.injEq] at h; subst h
  exact .func (.func f) [] [] [] [] rfl rfl (fun _ _ _ h => by simp at h) (fun _ _ _ h => by simp at h)
def qU (I : Imm) (va : aV → AV) (a : Act) : Prop := ∀ (x : Operand) (r : aV), bF x = some r → Rd I (va r) (a.eval x)
theorem dC.val {I : Imm} {N : Nat} {e : Env} {a : Act} (s : dC I N e a.tmps) : qU I (ev e) a := fun _ _ h => aCh s h
theorem bR {I : Imm} {va : aV → AV} {a : Act} (s : qU I va a) {x : Operand} {r : aV} (h : bF x = some r) : Rd I (va r) (a.eval x) := s x r h
def mU : List Operand → Option (List aV)
 | [] => some []
 | x :: r => match bF x, mU r with | some a, some l => some (a :: l) | _, _ => none
theorem pK {I : Imm} {va : aV → AV} {a : Act} (s : qU I va a) : ∀ {xs : List Operand} {rs : List aV}, mU xs = some rs → Rds I (rs.map va) (xs.map a.eval)
 | [], rs, h => by simp [mU] at h; subst h; exact .nil I
 | x :: r, rs, h => by
  simp only [mU] at h
  split at h
  ·rename_i a l h1 h2
   simp only [Option.some.injEq] at h; subst h
   exact .cons (bR s h1) (pK s h2)
  ·cases h
def AV.cells? : AV → Option (List AV)
 | .any => none
 | .tuple _ => none
 | .agg cs => some cs
 | x => some [x]
theorem yS {I : Imm} {a : AV} {v : Value} (r : Rd I a v) {cs : List AV} (h : a.cells? = some cs) : ∃ vs : List Value, v.cells = vs.toArray ∧ Rds I cs vs ∧ cV vs := by
 cases r <;> simp only [AV.cells?, Option.some.injEq, reduceCtorEq] at h <;> subst h
 case agg cs' vs hl h1 hr => exact ⟨vs, rfl, ⟨hl, hr⟩, h1⟩
 all_goals (refine ⟨[_], rfl, .cons ?_ (.nil I), .cons rfl .nil⟩)
 case bool b => exact .bool b
 case int k n => exact .int k n
 case str s => exact .str s
 case ptr a => exact .ptr a
 case ip cells off b o vs hl hm h1 hr => exact .ip cells off b o vs hl hm h1 hr
 case sl0 full a cap ha hn hf => exact .sl0 full a cap ha hn hf
 case sl es full b o size cap vss hl hc hf hs hm h1 hr => exact .sl es full b o size cap vss hl hc hf hs hm h1 hr
 case os b n cap => exact .os b n cap
 case gs es b size cap vss hl hc hs hm h1 hr => exact .gs es b size cap vss hl hc hs hm h1 hr
 case map r => exact .map r
 case func fn f c fs cs hl kl hr kr => exact .func fn f c fs cs hl kl hr kr
 case nilFunc => exact .nilFunc
 case iface t a v h => exact .iface t a v h
 case nilIface => exact .nilIface
def mE : List AV → List (Nat × Nat × AV) → Option (List AV)
 | cs, [] => some cs
 | cs, (off, size, v) :: r =>
  match v.cells? with
  | some ds => if ds.length = size ∧ off + size ≤ cs.length then mE (bM cs off ds) r else none
  | none => none
theorem aBs (vs : List Value) (off : Nat) : ∀ (k : Nat) (cur : Array Value), off + k + vs.length ≤ cur.size →
  ((vs.zipIdx k).foldl (fun cs (p : Value × Nat) => cs.setIfInBounds (off + p.2) p.1) cur).toList = bM cur.toList (off + k) vs := by
 induction vs with
 | nil => intro k cur _; simp [bM]
 | cons v vs ih =>
  intro k cur h
  simp only [List.length_cons] at h
  simp only [List.zipIdx_cons, List.foldl_cons]
  rw [ih (k + 1) _ (by simp; omega)]
  have hk : off + k < cur.toList.length := by simp; omega
  simp only [bM, Array.toList_setIfInBounds, List.length_cons]
  apply List.ext_getElem?
  intro j
  simp only [List.getElem?_append, List.getElem?_take, List.getElem?_drop, List.getElem?_set, List.length_take, List.length_set, List.getElem?_cons, List.length_cons]
  rcases Nat.lt_trichotomy j (off + k) with hj | hj | hj
  ·have h1 : j < off + (k + 1) := by omega
   have h2 : j < min (off + (k + 1)) cur.toList.length := by omega
   have h3 : j < min (off + k) cur.toList.length := by omega
   simp only [h1, h2, h3, hj, if_true]
   rw [if_neg (by omega)]
  ·subst hj
   have h1 : off + k < off + (k + 1) := by omega
   have h2 : off + k < min (off + (k + 1)) cur.toList.length := by omega
   have h3 : ¬ off + k < min (off + k) cur.toList.length := by omega
   simp only [h1, h2, h3, if_true, if_false, hk]
   rw [Nat.min_eq_left (by omega)]
   try simp
  ·have h1 : ¬ j < min (off + (k + 1)) cur.toList.length := by omega
   have h3 : ¬ j < min (off + k) cur.toList.length := by omega
   simp only [h1, h3, if_false]
   rw [Nat.min_eq_left (show off + (k + 1) ≤ cur.toList.length by omega), Nat.min_eq_left (show off + k ≤ cur.toList.length by omega)]
   rw [if_neg (show ¬ j - (off + k) = 0 by omega)]
   by_cases h4 : j - (off + (k + 1)) < vs.length
   ·simp only [h4, if_true, show j - (off + k) < vs.length + 1 by omega]
    congr 1 <;> omega
   ·simp only [h4, if_false, show ¬ j - (off + k) < vs.length + 1 by omega]
    rw [if_neg (by omega)]
    congr 1 <;> omega
theorem II {I : Imm} (place : Nat → Option (Nat × Nat)) : ∀ (ps : List (Nat × Value)) (qs : List (Nat × Nat × AV)) (cur : Array Value) (cs out : List AV), Rds I cs cur.toList → cV cur.toList → ps.length = qs.length →
  (∀ (j i : Nat) (v : Value) (q : Nat × Nat × AV), ps[j]? = some (i, v) → qs[j]? = some q → place i = some (q.1, q.2.1) ∧ Rd I q.2.2 v) → mE cs qs = some out → ∃ res : Array Value, Instr.fill place cur ps = some res ∧ Rds I out res.toList ∧ cV res.toList
 | [], [], cur, cs, out, h, h1, _, _, e => by simp only [mE, Option.some.injEq] at e; subst e; exact ⟨cur, rfl, h, h1⟩
 | [], _ :: _, _, _, _, _, _, hl, _, _ => by simp at hl
 | _ :: _, [], _, _, _, _, _, hl, _, _ => by simp at hl
 | (i, v) :: ps, (off, size, a) :: qs, cur, cs, out, h, ho, hl, hp, e => by
  obtain ⟨h1, h2⟩ := hp 0 i v (off, size, a) (by simp) (by simp)
  simp only [mE] at e
  split at e
  ·rename_i ds hds
   split at e
   ·rename_i hc
    obtain ⟨vs, hv, r, r1⟩ := yS h2 hds
    have hlen : vs.length = size := by rw [← r.len]; exact hc.1
    have hcur : cur.size = cs.length := by have := h.len; simp at this; exact this.symm
    have hfold := aBs vs off 0 cur (by rw [hcur, hlen]; simpa using hc.2)
    have hz : (v.cells.zipIdx.foldl (fun cs (p : Value × Nat) => cs.setIfInBounds (off + p.2) p.1) cur) = ((vs.zipIdx 0).foldl (fun cs (p : Value × Nat) => cs.setIfInBounds (off + p.2) p.1) cur) := by
     rw [hv, ← Array.foldl_toList]; simp
    obtain ⟨res, hr, hres⟩ := II place ps qs (v.cells.zipIdx.foldl (fun cs (p : Value × Nat) => cs.setIfInBounds (off + p.2) p.1) cur) (bM cs off ds) out
     (by rw [hz, hfold]; simpa using h.bM r off) (by rw [hz, hfold]; simpa using ho.bM r1 off) (by simpa using hl) (fun j i v q e1 e2 => hp (j + 1) i v q (by simpa using e1) (by simpa using e2)) e
    refine ⟨res, ?_, hres⟩
    simp only [Instr.fill, h1]
    rw [if_neg (by rw [hv]; simp [hlen, hcur]; exact hc.2)]
    exact hr
   ·cases e
  ·cases e
inductive RRead where
 | mv (x : aV)
 | pick (c a b : aV)
 | build (zero : List AV) (parts : List (Nat × Nat × aV))
 | bsl (size len : Nat) (zero : List AV) (parts : List (Nat × Nat × aV))
 | load (n : Option Nat) (x : aV)
 | vA (x : aV)
 | bin (op : BinOp) (x y : aV)
 | peq (neg : Bool) (x y : aV)
 | beq (neg : Bool) (x y : aV)
 | seq (neg : Bool) (ks : List Nat) (x y : aV)
 | un (op : UnOp) (x : aV)
 | conv (k : IntKind) (x : aV)
 | Q0 (x : aV)
 | mkI (t : TypeId) (x : aV)
 | mkF (fn : Fn) (first captured : List aV)
 | slice (str : Bool) (size : Nat) (x : aV) (lo hi : Option aV)
 | fa (k : Nat) (x : aV)
 | ia (size : Nat) (x i : aV)
 | six (x i : aV)
 | lookup (ks : List Nat) (zero : AV) (ok : Bool) (m k : aV)
 | ext (x : aV) (i : Nat)
 | bx (n : Option Nat) (x : aV)
 | fld (off : Nat) (n : Option Nat) (x : aV)
 | len (k : Nat) (x : aV)
 | mx (x y : aV)
 | mn (x y : aV)
 | entry (x : aV)
 deriving Inhabited
def IQ (op : BinOp) : AV → AV → Option AV
 | .int k a, .int k' b =>
  if k = k' then
   match op with
   | .add => some (.int k (k.wrap (a + b)))
   | .sub => some (.int k (k.wrap (a - b)))
   | .mul => some (.int k (k.wrap (a * b)))
   | .quo => if b = 0 then none else some (.int k (k.wrap (a.tdiv b)))
   | .rem => if b = 0 then none else some (.int k (a.tmod b))
   | .and => some (.int k (k.wrap (BitVec.ofInt k.bits a &&& BitVec.ofInt k.bits b).toNat))
   | .or => some (.int k (k.wrap (BitVec.ofInt k.bits a ||| BitVec.ofInt k.bits b).toNat))
   | .eql => some (.bool (decide (a = b)))
   | .neq => some (.bool (!decide (a = b)))
   | .lss => some (.bool (decide (a < b)))
   | .leq => some (.bool (decide (a ≤ b)))
   | .gtr => some (.bool (decide (a > b)))
   | .geq => some (.bool (decide (a ≥ b)))
   | .shr => if b = 1 then some (.int k (a.fdiv 2)) else none
   | _ => none
  else none
 | .str a, .str b =>
  match op with
  | .lss => some (.bool (Op.bytesLess a.toList b.toList))
  | .add => if ((a.size + b.size : Nat) : Int) > IntKind.i64.max then none else some (.str (a ++ b))
  | .eql => some (.bool (decide (a = b)))
  | .neq => some (.bool (!decide (a = b)))
  | _ => none
 | _, _ => none
def fZ (neg b : Bool) : Bool := if neg then !b else b
def RI (neg : Bool) : AV → AV → Option AV
 | .bool a, .bool b => some (.bool (fZ neg (decide (a = b))))
 | _, _ => none
def vH (neg : Bool) : AV → AV → Option AV
 | .ptr none, .ptr b => some (.bool (fZ neg b.isNone))
 | .ptr (some _), .ptr none => some (.bool (fZ neg false))
 | .ip _ _, .ptr none => some (.bool (fZ neg false))
 | .ptr none, .ip _ _ => some (.bool (fZ neg false))
 | _, _ => none
def l9 : Nat → AV → AV → Option Bool
 | 1, .int k a, .int k' b => if k = k' then some (decide (a = b)) else none
 | 2, .str a, .str b => some (decide (a = b))
 | 0, .bool a, .bool b => some (decide (a = b))
 | _, _, _ => none
def dI : List Nat → List AV → List AV → Option Bool
 | [], [], [] => some true
 | k :: ks, a :: l, b :: r => match l9 k a b, dI ks l r with | some x, some y => some (x && y) | _, _ => none
 | _, _, _ => none
def RA (neg : Bool) (ks : List Nat) : AV → AV → Option AV
 | .agg a, .agg b => (dI ks a b).map fun x => .bool (fZ neg x)
 | _, _ => none
def aun (op : UnOp) : AV → Option AV
 | .int k n => match op with | .neg => some (.int k (k.wrap (0 - n))) | _ => none
 | .bool b => match op with | .not => some (.bool !b) | _ => none
 | _ => none
def gW (h : AHeap) (n : Option Nat) : AV → Option AV
 | .ip cells off => match n with
  | some k => if off + k ≤ cells.length then some (.agg ((cells.drop off).take k)) else none
  | none => cells[off]?
 | .ptr (some ⟨b, o, none⟩) => match h b with
  | some (.blk cs _ _) => match n with
   | some k => if o + k ≤ cs.length then some (.agg ((cs.drop o).take k)) else none
   | none => cs[o]?
  | _ => none
 | _ => none
def lM : AV → Option AV
 | .ptr none | .nilIface | .nilFunc | .any => none
 | .func _ _ _ => none
 | x => some x
def afa (k : Nat) : AV → Option AV
 | .ip cells off => some (.ip cells (off + k))
 | .ptr (some ⟨b, o, none⟩) => some (.ptr (some ⟨b, o + k, none⟩))
 | _ => none
def abx : Option Nat → AV → Option AV
 | none, x => x.cells?.map fun ds => .ip ds 0
 | some n, x => match x.cells? with
  | some ds => if ds.length = n then some (.ip ds 0) else none
  | none => none
def RH (off : Nat) (n : Option Nat) : AV → Option AV
 | .agg cs => match n with
  | some k => if off + k ≤ cs.length then some (.agg ((cs.drop off).take k)) else none
  | none => cs[off]?
 | _ => none
def aia (size : Nat) : AV → AV → Option AV
 | .gs es _ _, .int _ i => if 0 ≤ i then match es[i.toNat]? with | some e => if e.length = size then some (.ip e 0) else none | none => none else none
 | .sl es _, .int _ i => if 0 ≤ i then match es[i.toNat]? with | some e => if e.length = size then some (.ip e 0) else none | none => none else none
 | .os b n _, .int _ i => if 0 ≤ i ∧ i < n then some (.ptr (some ⟨b, i.toNat * size, none⟩)) else none
 | _, _ => none
def MC : AV → AV → Option AV
 | .str s, .int _ i => if 0 ≤ i then (s[i.toNat]?).map fun b => .int .u8 b.toNat else none
 | _, _ => none
def ZL (i : Nat) : AV → Option AV
 | .tuple vs => vs[i]?
 | _ => none
def sZ (h : AHeap) : Nat → AV → Option AV
 | 0, .str s => some (.int .i64 s.size)
 | 1, .sl es _ => some (.int .i64 es.length)
 | 1, .os _ n _ => some (.int .i64 n)
 | 1, .gs es _ _ => some (.int .i64 es.length)
 | 2, .map none => some (.int .i64 0)
 | 2, .map (some r) => match h r with | some (.mp es) => some (.int .i64 es.length) | _ => none
 | _, _ => none
def amx : AV → AV → Option AV
 | .int k x, .int k' y => if k = k' then some (.int k (if y > x then y else x)) else none
 | _, _ => none
def amn : AV → AV → Option AV
 | .int k x, .int k' y => if k = k' then some (.int k (if y < x then y else x)) else none
 | _, _ => none
def gG (d : Nat) : Option AV → Option Nat
 | none => some d
 | some (.int _ i) => if 0 ≤ i then some i.toNat else none
 | _ => none
def eP (str : Bool) (size : Nat) (x : AV) (lo hi : Option AV) : Option AV :=
 match str, x with
 | true, .str s => match gG s.size hi, gG 0 lo with
  | some h, some l => if l ≤ h ∧ h ≤ s.size then some (.str (s.extract l h)) else none
  | _, _ => none
 | false, .sl es full => match gG es.length hi, gG 0 lo with
  | some h, some l => if l ≤ h ∧ h ≤ es.length ∧ (l = 0 ∨ (es.headD []).length = size) then some (.sl ((es.take h).drop l) (full && h == es.length)) else none
  | _, _ => none
 | false, .gs es _ _ => match gG es.length hi, gG 0 lo with
  | some h, some l => if l ≤ h ∧ h ≤ es.length ∧ (l = 0 ∨ (es.headD []).length = size) then some (.sl ((es.take h).drop l) false) else none
  | _, _ => none
 | false, .os b n cap => match gG n hi, gG 0 lo with
  | some h, some 0 => if h ≤ n ∧ n ≤ cap then some (.os b h cap) else none
  | _, _ => none
 | _, _ => none
def oI : List Nat → AV → AV → Option Bool
 | 3 :: ks, .agg a, .agg b => dI ks a b
 | [k], a, b => l9 k a b
 | _, _, _ => none
def mM : List Nat → AV → Bool
 | 3 :: l, .agg x => x.length == l.length
 | [k], .int _ _ => k == 1
 | [k], .str _ => k == 2
 | [k], .bool _ => k == 0
 | _, _ => false
def s9 (ks : List Nat) (k : AV) : List (AV × AV) → Option (Option AV)
 | [] => some none
 | (x, v) :: r => match oI ks k x with
  | some true => some (some v)
  | some false => s9 ks k r
  | none => none
def pU (h : AHeap) : AV → Option (List (AV × AV))
 | .map none => some []
 | .map (some r) => match h r with | some (.mp es) => some es | some (.mpc es _ _) => some es | _ => none
 | _ => none
def tS (h : AHeap) (ks : List Nat) (zero : AV) (ok : Bool) (m k : AV) : Option AV :=
 if mM ks k = true then match pU h m with
 | some es => (s9 ks k es).map fun f => match f with
  | some v => if ok then .tuple [v, .bool true] else v
  | none => if ok then .tuple [zero, .bool false] else zero
 | none => none
 else none
def OY (k : IntKind) : AV → Option AV
 | .int _ n => some (.int k (k.wrap n))
 | _ => none
def ZN : AV → Option AV
 | .str s => some (.str s)
 | _ => none
def chunks {α : Type} (size : Nat) : Nat → List α → List (List α)
 | 0, _ => []
 | n + 1, l => l.take size :: chunks size n (l.drop size)
def fO (va : aV → AV) : List (Nat × Nat × aV) → List (Nat × Nat × AV)
 | [] => []
 | (o, s, x) :: r => (o, s, va x) :: fO va r
def tP : List (AV × AV) → List Nat → Nat → Option (AV × AV)
 | e :: es, b :: bs, s => if b = s then some e else tP es bs s
 | _, _, _ => none
def AI (h : AHeap) : AV → Option AV
 | .ptr (some ⟨b, 0, none⟩) => match h b with
  | some (.it (some m) _ seen last) => match h m, seen.getLast? with
   | some (.mpc es bs clock), some s => if clock = last then (tP es bs s).map fun e => .tuple [e.1, e.2] else none
   | _, _ => none
  | _ => none
 | _ => none
def bS (va : aV → AV) (h : AHeap) : RRead → Option AV
 | .mv x => some (va x)
 | .pick c a b => match va c with | .bool t => some (if t then va a else va b) | _ => none
 | .build zero parts => (mE zero (fO va parts)).map .agg
 | .bsl size len zero parts => (mE zero (fO va parts)).map fun cs => .sl (chunks size len cs) true
 | .load n x => gW h n (va x)
 | .vA x => lM (va x)
 | .bin op x y => IQ op (va x) (va y)
 | .peq neg x y => vH neg (va x) (va y)
 | .beq neg x y => RI neg (va x) (va y)
 | .seq neg ks x y => RA neg ks (va x) (va y)
 | .un op x => aun op (va x)
 | .conv k x => OY k (va x)
 | .Q0 x => ZN (va x)
 | .mkI t x => some (.iface t (va x))
 | .mkF fn f c => some (.func fn (f.map va) (c.map va))
 | .slice str size x lo hi => eP str size (va x) (lo.map va) (hi.map va)
 | .fa k x => afa k (va x)
 | .ia size x i => aia size (va x) (va i)
 | .six x i => MC (va x) (va i)
 | .lookup ks zero ok m k => tS h ks zero ok (va m) (va k)
 | .ext x i => ZL i (va x)
 | .bx n x => abx n (va x)
 | .fld off n x => RH off n (va x)
 | .len k x => sZ h k (va x)
 | .mx x y => amx (va x) (va y)
 | .mn x y => amn (va x) (va y)
 | .entry x => AI h (va x)
end Pg
namespace Pg
open Go
def eH [GI] (P : Program) (o : Oper) (r : RRead) : Prop :=
 ∀ (I : Imm) (w : World) (h : AHeap) (a : Act) (va : aV → AV) (av : AV), qU I va a → Sat w I h → bS va h r = some av →
  ∃ v J w', (execOp a.eval o).run P w = .ok (.value v) w' ∧ Rd J av v ∧ Sat w' J h ∧ Ext h w w' ∧ New w I J h h
theorem eH.pure [GI] {P : Program} {o : Oper} {r : RRead}
  (H : ∀ (I : Imm) (w : World) (h : AHeap) (a : Act) (va : aV → AV) (av : AV), qU I va a → Sat w I h → bS va h r = some av → ∃ v, (execOp a.eval o).run P w = .ok (.value v) w ∧ Rd I av v) : eH P o r :=
 fun I w h a va av s t k => let ⟨v, h1, h2⟩ := H I w h a va av s t k; ⟨v, I, w, h1, h2, t, .refl h w, .refl w I h⟩
theorem nI (b o n : Nat) : (⟨b, o, none⟩ : Addr).add n = ⟨b, o + n, none⟩ := by unfold Addr.add; split <;> simp_all
theorem aAD [GI] {P : Program} {o : Oper} {x : Operand} {rx : aV} (ho : o.op = .move x ∨ o.op = .assign x) (hx : bF x = some rx) : eH P o (.mv rx) := by
 refine .pure fun I w h a va av s t k => ?_
 simp only [bS, Option.some.injEq] at k; subst k
 exact ⟨a.eval x, by rcases ho with ho | ho <;> simp [execOp, ho], bR s hx⟩
theorem aB8 [GI] {P : Program} {o : Oper} {c x y : Operand} {rc rx ry : aV} (ho : o.op = .pick c x y) (hc : bF c = some rc) (hx : bF x = some rx) (hy : bF y = some ry) : eH P o (.pick rc rx ry) := by
 refine .pure fun I w h a va av s t k => ?_
 have h1 := bR s hc
 simp only [bS] at k
 split at k
 ·rename_i b hb
  simp only [Option.some.injEq] at k; subst k
  rw [hb] at h1
  cases hv : a.eval c <;> rw [hv] at h1 <;> cases h1
  cases b
  ·exact ⟨a.eval y, by simp [execOp, ho, hv, asBool], bR s hy⟩
  ·exact ⟨a.eval x, by simp [execOp, ho, hv, asBool], bR s hx⟩
 ·cases k
def qN (place : Nat → Option (Nat × Nat)) : List (Nat × Operand) → Option (List (Nat × Nat × aV))
 | [] => some []
 | (i, x) :: r => match place i, bF x, qN place r with | some p, some y, some l => some ((p.1, p.2, y) :: l) | _, _, _ => none
theorem AZ {I : Imm} {va : aV → AV} {a : Act} (s : qU I va a) (place : Nat → Option (Nat × Nat)) : ∀ {ps : List (Nat × Operand)} {rs : List (Nat × Nat × aV)}, qN place ps = some rs →
  (ps.map fun (i, x) => (i, a.eval x)).length = (fO va rs).length ∧
  ∀ (j i : Nat) (v : Value) (q : Nat × Nat × AV), (ps.map fun (i, x) => (i, a.eval x))[j]? = some (i, v) → (fO va rs)[j]? = some q → place i = some (q.1, q.2.1) ∧ Rd I q.2.2 v
 | [], rs, h => by simp [qN] at h; subst h; simp [fO]
 | (i, x) :: r, rs, h => by
  simp only [qN] at h
  split at h
  ·rename_i p y l h1 h2 h3
   simp only [Option.some.injEq] at h; subst h
   obtain ⟨ih1, ih2⟩ := AZ s place h3
   refine ⟨by simp only [List.map_cons, List.length_cons, fO, ih1], ?_⟩
   intro j i' v q e1 e2
   cases j with
   | zero =>
    simp only [List.map_cons, List.getElem?_cons_zero, Option.some.injEq, Prod.mk.injEq] at e1
    simp only [fO, List.getElem?_cons_zero, Option.some.injEq] at e2
    obtain ⟨rfl, rfl⟩ := e1
    subst e2
    exact ⟨h1, bR s h2⟩
   | succ j =>
    exact ih2 j i' v q (by simpa using e1) (by simpa [fO] using e2)
  ·cases h
def P1 (P : Program) (t : TypeId) (parts : List (Nat × Operand)) : Option RRead :=
 match P.info? t, P.underlying t with
 | some it, some (.struct fields) =>
  match it.zero, fields.toList.mapM (fun f => (P.info? f.type).map fun i => (f.offset, i.size)) with
  | some z, some places => match qM z.cells.toList, qN (places.toArray[·]?) parts with
   | some zs, some ps => some (.build zs ps)
   | _, _ => none
  | _, _ => none
 | _, _ => none
theorem aAF [GI] {P : Program} {o : Oper} {t : TypeId} {parts : Array (Nat × Operand)} {r : RRead} (ho : o.op = .build t parts) (hr : P1 P t parts.toList = some r) : eH P o r := by
 unfold P1 at hr
 split at hr
 ·rename_i it fields hit hu
  split at hr
  ·rename_i z places hz hpl
   split at hr
   ·rename_i zs ps hzs hps
    simp only [Option.some.injEq] at hr; subst hr
    refine .pure fun I w h a va av s t' k => ?_
    simp only [bS, Option.map_eq_some_iff] at k
    obtain ⟨out, hout, rfl⟩ := k
    obtain ⟨k1, k2⟩ := AZ s _ hps
    obtain ⟨res, hres, hrd, hone⟩ := II (I := I) (places.toArray[·]?) _ _ z.cells zs out (tN I hzs) (rR hzs) k1 k2 hout
    have hb : P.built t (parts.map fun (i, x) => (i, a.eval x)).toList = some res := by
     unfold Program.built
     simp only [hit, hu, hz, hpl, Array.toList_map]
     exact hres
    refine ⟨.agg res, ?_, ?_⟩
    ·simp only [execOp, ho, Sem.run_bind, run_build w t _ res hb, Result.andThen_ok, Sem.run_pure]
    ·have := Rd.qP hrd hone
     simpa using this
   ·cases hr
  ·cases hr
 ·cases hr
def YA (P : Program) (t : TypeId) (x : aV) : Option RRead :=
 match P.underlying t with
 | some (.struct _) | some (.array _ _) => (P.info? t).map fun i => .load (some i.size) x
 | some _ => some (.load none x)
 | none => none
def xW : TypeDesc → Bool
 | .struct _ | .array _ _ => true
 | _ => false
theorem pG {P : Program} {t : TypeId} {i : TypeInfo} {d : TypeDesc} (hu : P.underlying t = some d) (hd : xW d = true) (hi : P.info? t = some i)
  (w : World) (b o : Nat) (vs : List Value) (hl : vs.length = i.size) (hc : ∀ j v, vs[j]? = some v → w.cell? ⟨b, o + j, none⟩ = some v) :
  (loadVar t ⟨b, o, none⟩).run P w = .ok (.agg vs.toArray) w := by
 have hload := run_loadCells_list (P := P) w ⟨b, o, none⟩ vs (fun j v hj => by rw [nI]; exact hc j v hj)
 have hagg : (isAgg t).run P w = .ok true w := by
  simp only [isAgg, Sem.run_bind, run_underlying hu, Result.andThen_ok]
  cases d <;> simp_all [xW]
 simp only [loadVar, Sem.run_bind, hagg, Result.andThen_ok, if_true, Go.sizeOf, typeInfo, run_program, hi, Sem.run_pure]
 rw [← hl, hload]
 rfl
theorem yB {P : Program} {t : TypeId} {d : TypeDesc} (hu : P.underlying t = some d) (hd : xW d = false)
  (w : World) (b o : Nat) (v : Value) (hc : w.cell? ⟨b, o, none⟩ = some v) : (loadVar t ⟨b, o, none⟩).run P w = .ok v w := by
 have hagg : (isAgg t).run P w = .ok false w := by
  simp only [isAgg, Sem.run_bind, run_underlying hu, Result.andThen_ok]
  cases d <;> simp_all [xW]
 simp only [loadVar, Sem.run_bind, hagg, Result.andThen_ok, Bool.false_eq_true, if_false, run_load, hc]
theorem HJ [GI] {w : World} {I : Imm} {h : AHeap} (s : Sat w I h) {n : Option Nat} {x : AV} {v av} (r : Rd I x v) (k : gW h n x = some av) :
  ∃ b o, v = .pointer (some ⟨b, o, none⟩) ∧
   match n with
   | some m => ∃ vs : List Value, vs.length = m ∧ (∀ (j : Nat) (u : Value), vs[j]? = some u → w.cell? ⟨b, o + j, none⟩ = some u) ∧ Rd I av (.agg vs.toArray)
   | none => ∃ u, w.cell? ⟨b, o, none⟩ = some u ∧ Rd I av u := by
 cases x with
 | ip cells off =>
  obtain ⟨b, o, vs, rfl, hm, hr, hone⟩ := r.D8
  refine ⟨b, o + off, rfl, ?_⟩
  cases n with
  | some m =>
   simp only [gW] at k ⊢
   split at k
   ·rename_i hle
    simp only [Option.some.injEq] at k; subst k
    have hlen := hr.len
    refine ⟨(vs.drop off).take m, by simp; omega, ?_, ?_⟩
    ·intro j u hj
     rw [List.getElem?_take] at hj
     split at hj
     ·rw [List.getElem?_drop] at hj
      rw [Nat.add_assoc]
      exact s.imm _ _ _ (hm _ _ hj)
     ·cases hj
    ·exact .qP ((hr.drop off).take m) ((hone.drop off).take m)
   ·cases k
  | none =>
   simp only [gW] at k ⊢
   obtain ⟨u, h1, h2⟩ := hr.get k
   exact ⟨u, s.imm _ _ _ (hm _ _ h1), h2⟩
 | ptr p =>
  have hv := r.gL
  subst hv
  match p, k with
  | none, k => simp [gW] at k
  | some ⟨b, o, some z⟩, k => simp [gW] at k
  | some ⟨b, o, none⟩, k =>
  refine ⟨b, o, rfl, ?_⟩
  simp only [gW] at k
  cases hb : h b with
  | none => simp [hb] at k
  | some ob =>
   cases ob with
   | mp es => simp [hb] at k
   | mpc _ _ _ => simp [hb] at k
   | it _ _ _ _ => simp [hb] at k
   | sit _ _ => simp [hb] at k
   | tail _ _ _ => simp [hb] at k
   | blk cs total ty =>
    simp only [hb] at k
    obtain ⟨vs, h1, h2, h3, h4, hone⟩ := s.obj _ _ hb
    have hcell : ∀ (j : Nat) (u : Value), (vs.take cs.length)[j]? = some u → w.cell? ⟨b, j, none⟩ = some u := by
     intro j u hj
     rw [List.getElem?_take] at hj
     split at hj
     ·simp only [World.cell?, h1]; simpa using hj
     ·cases hj
    cases n with
    | some m =>
     simp only at k ⊢
     split at k
     ·rename_i hle
      simp only [Option.some.injEq] at k; subst k
      refine ⟨((vs.take cs.length).drop o).take m, by simp; omega, ?_, ?_⟩
      ·intro j u hj
       rw [List.getElem?_take] at hj
       split at hj
       ·rw [List.getElem?_drop] at hj
        exact hcell _ _ hj
       ·cases hj
      ·exact .qP ((h4.drop o).take m) ((hone.drop o).take m)
     ·cases k
    | none =>
     simp only at k ⊢
     obtain ⟨u, h5, h6⟩ := h4.get k
     exact ⟨u, hcell _ _ h5, h6⟩
 | _ => simp [gW] at k
theorem aCa [GI] {P : Program} {o : Oper} {t : TypeId} {x : Operand} {rx : aV} {r : RRead} (ho : o.op = .load t x) (hx : bF x = some rx) (hr : YA P t rx = some r) : eH P o r := by
 have key : ∀ (n : Option Nat), r = .load n rx → (∀ (w : World) (b o' : Nat), (match n with
   | some m => ∀ vs : List Value, vs.length = m → (∀ (j : Nat) (u : Value), vs[j]? = some u → w.cell? ⟨b, o' + j, none⟩ = some u) → (loadVar t ⟨b, o', none⟩).run P w = .ok (.agg vs.toArray) w
   | none => ∀ u, w.cell? ⟨b, o', none⟩ = some u → (loadVar t ⟨b, o', none⟩).run P w = .ok u w)) → eH P o r := by
  intro n hn H
  subst hn
  refine .pure fun I w h a va av s t' k => ?_
  simp only [bS] at k
  obtain ⟨b, o', hv, hc⟩ := HJ t' (bR s hx) k
  have H' := H w b o'
  cases n with
  | some m =>
   simp only at hc H'
   obtain ⟨vs, h1, h2, h3⟩ := hc
   exact ⟨_, by simp [execOp, ho, Instr.loadAt, hv, Instr.sureAddr, H' vs h1 h2], h3⟩
  | none =>
   simp only at hc H'
   obtain ⟨u, h1, h2⟩ := hc
   exact ⟨_, by simp [execOp, ho, Instr.loadAt, hv, Instr.sureAddr, H' u h1], h2⟩
 unfold YA at hr
 split at hr
 ·rename_i fs hu
  simp only [Option.map_eq_some_iff] at hr
  obtain ⟨i, hi, rfl⟩ := hr
  exact key _ rfl fun w b o' vs h1 h2 => pG hu rfl hi w b o' vs h1 h2
 ·rename_i n el hu
  simp only [Option.map_eq_some_iff] at hr
  obtain ⟨i, hi, rfl⟩ := hr
  exact key _ rfl fun w b o' vs h1 h2 => pG hu rfl hi w b o' vs h1 h2
 ·rename_i d hd1 hd2 hu
  simp only [Option.some.injEq] at hr
  subst hr
  exact key none rfl fun w b o' u h1 => yB hu (by cases d <;> simp_all [xW]) w b o' u h1
 ·cases hr
theorem aB9 [GI] {P : Program} {o : Oper} {x : Operand} {rx : aV} (ho : o.op = .nilCheck x) (hx : bF x = some rx) : eH P o (.vA rx) := by
 refine .pure fun I w h a va av s t k => ?_
 have h1 := bR s hx
 simp only [bS] at k
 generalize va rx = y at h1 k
 generalize hv : a.eval x = v at h1
 cases y with
 | ptr p =>
  have := h1.gL; subst this
  cases p with
  | none => simp [lM] at k
  | some p => simp only [lM, Option.some.injEq] at k; subst k; exact ⟨.pointer (some p), by simp [execOp, ho, hv], h1⟩
 | any => simp [lM] at k
 | nilIface => simp [lM] at k
 | nilFunc => simp [lM] at k
 | func _ _ _ => simp [lM] at k
 | bool b => simp only [lM, Option.some.injEq] at k; subst k; have := h1.nG; subst this; exact ⟨_, by simp [execOp, ho, hv], h1⟩
 | int _ _ => simp only [lM, Option.some.injEq] at k; subst k; have := h1.gM; subst this; exact ⟨_, by simp [execOp, ho, hv], h1⟩
 | str _ => simp only [lM, Option.some.injEq] at k; subst k; have := h1.mN; subst this; exact ⟨_, by simp [execOp, ho, hv], h1⟩
 | ip _ _ => simp only [lM, Option.some.injEq] at k; subst k; obtain ⟨b, o', vs, rfl, _⟩ := h1.D8; exact ⟨_, by simp [execOp, ho, hv], h1⟩
 | sl _ _ => simp only [lM, Option.some.injEq] at k; subst k; obtain ⟨p, cap, rfl, _⟩ := h1.uS; exact ⟨_, by simp [execOp, ho, hv], h1⟩
 | os _ _ _ => simp only [lM, Option.some.injEq] at k; subst k; have := h1.pQ; subst this; exact ⟨_, by simp [execOp, ho, hv], h1⟩
 | gs _ _ _ => simp only [lM, Option.some.injEq] at k; subst k; obtain ⟨sz, vss, rfl, _⟩ := h1.KB; exact ⟨_, by simp [execOp, ho, hv], h1⟩
 | map _ => simp only [lM, Option.some.injEq] at k; subst k; have := h1.rU; subst this; exact ⟨_, by simp [execOp, ho, hv], h1⟩
 | iface _ _ => simp only [lM, Option.some.injEq] at k; subst k; obtain ⟨u, rfl, _⟩ := h1.NP; exact ⟨_, by simp [execOp, ho, hv], h1⟩
 | agg _ => simp only [lM, Option.some.injEq] at k; subst k; obtain ⟨u, rfl, _⟩ := h1.mO; exact ⟨_, by simp [execOp, ho, hv], h1⟩
 | tuple _ => simp only [lM, Option.some.injEq] at k; subst k; obtain ⟨u, rfl, _⟩ := h1.uR; exact ⟨_, by simp [execOp, ho, hv], h1⟩
end Pg
namespace Pg
open Go
theorem yV (a b : ByteArray) : (a == b) = decide (a = b) := by
 rw [beq_toListBytes, ByteArray.toList_eq, ByteArray.toList_eq, Bool.eq_iff_iff]
 obtain ⟨⟨x⟩⟩ := a
 obtain ⟨⟨y⟩⟩ := b
 simp
theorem W3 (a b : Int) : (a == b) = decide (a = b) := by rw [Bool.eq_iff_iff]; simp
theorem aEF (a b : Int) : (a != b) = !decide (a = b) := by rw [Bool.eq_iff_iff]; simp
theorem N7 (a b : Bool) : (a == b) = decide (a = b) := by cases a <;> cases b <;> rfl
theorem LV [GI] {P : Program} {o : Oper} {op : BinOp} {t u : TypeId} {x y : Operand} {rx ry : aV} (ho : o.op = .binOp op t x y u) (hx : bF x = some rx) (hy : bF y = some ry) : eH P o (.bin op rx ry) := by
 refine .pure fun I w h a va av s t' k => ?_
 have h1 := bR s hx
 have h2 := bR s hy
 simp only [bS] at k
 generalize va rx = p at h1 k
 generalize va ry = q at h2 k
 generalize hvx : a.eval x = vx at h1
 generalize hvy : a.eval y = vy at h2
 cases p with
 | int k1 m =>
  cases q with
  | int k2 n =>
   have := h1.gM; subst this
   have := h2.gM; subst this
   simp only [IQ] at k
   split at k
   ·rename_i hk; subst hk
    cases op <;> simp only [Option.some.injEq, reduceCtorEq] at k
    case quo =>
     split at k
     ·cases k
     ·rename_i hn; simp only [Option.some.injEq] at k; subst k; exact ⟨_, by simp [execOp, ho, hvx, hvy, eqGuard, binOp, Op.intDiv, hn], .int _ _⟩
    case rem =>
     split at k
     ·cases k
     ·rename_i hn; simp only [Option.some.injEq] at k; subst k; exact ⟨_, by simp [execOp, ho, hvx, hvy, eqGuard, binOp, Op.intDiv, hn], .int _ _⟩
    case shr =>
     split at k
     ·rename_i hn; simp only [Option.some.injEq] at k; subst k; subst hn
      have hb : min (1 : Int).toNat k1.bits = 1 := by cases k1 <;> rfl
      refine ⟨.int k1 (m.fdiv 2), ?_, .int _ _⟩
      simp only [execOp, ho, hvx, hvy, eqGuard, binOp, Op.shift, hb]
      simp
     ·cases k
    all_goals subst k
    case add => exact ⟨_, by simp [execOp, ho, hvx, hvy, eqGuard, binOp, Op.intArith], .int _ _⟩
    case sub => exact ⟨_, by simp [execOp, ho, hvx, hvy, eqGuard, binOp, Op.intArith], .int _ _⟩
    case mul => exact ⟨_, by simp [execOp, ho, hvx, hvy, eqGuard, binOp, Op.intArith], .int _ _⟩
    case and => exact ⟨_, by simp [execOp, ho, hvx, hvy, eqGuard, binOp, Op.intBits], .int _ _⟩
    case or => exact ⟨_, by simp [execOp, ho, hvx, hvy, eqGuard, binOp, Op.intBits], .int _ _⟩
    case eql => exact ⟨.bool (m == n), by simp [execOp, ho, hvx, hvy, eqGuard, binOp, Op.intCmp], by rw [W3]; exact .bool _⟩
    case neq => exact ⟨.bool (m != n), by simp [execOp, ho, hvx, hvy, eqGuard, binOp, Op.intCmp], by rw [aEF]; exact .bool _⟩
    case lss => exact ⟨_, by simp [execOp, ho, hvx, hvy, eqGuard, binOp, Op.intCmp], .bool _⟩
    case leq => exact ⟨_, by simp [execOp, ho, hvx, hvy, eqGuard, binOp, Op.intCmp], .bool _⟩
    case gtr => exact ⟨_, by simp [execOp, ho, hvx, hvy, eqGuard, binOp, Op.intCmp], .bool _⟩
    case geq => exact ⟨_, by simp [execOp, ho, hvx, hvy, eqGuard, binOp, Op.intCmp], .bool _⟩
   ·cases k
  | _ => simp [IQ] at k
 | str m =>
  cases q with
  | str n =>
   have := h1.mN; subst this
   have := h2.mN; subst this
   simp only [IQ] at k
   cases op <;> simp only [Option.some.injEq, reduceCtorEq] at k
   case add =>
    split at k
    ·cases k
    ·rename_i hn; simp only [Option.some.injEq] at k; subst k; exact ⟨.string (m ++ n), by simp only [execOp, ho, hvx, hvy, eqGuard, binOp, Op.stringOp, Sem.run_bind, Sem.run_ite, hn, if_false, Sem.run_pure, Result.andThen_ok]; simp [hn], .str _⟩
   case lss => subst k; exact ⟨_, by simp [execOp, ho, hvx, hvy, eqGuard, binOp, Op.stringOp], .bool _⟩
   case eql => subst k; exact ⟨.bool (m == n), by simp [execOp, ho, hvx, hvy, eqGuard, binOp, Op.stringOp, beq_toListBytes], by rw [yV]; exact .bool _⟩
   case neq => subst k; exact ⟨.bool (!(m == n)), by simp [execOp, ho, hvx, hvy, eqGuard, binOp, Op.stringOp, beq_toListBytes], by rw [yV]; exact .bool _⟩
  | _ => simp [IQ] at k
 | _ => simp [IQ] at k
theorem aDY [GI] {P : Program} {o : Oper} {op : BinOp} {t u : TypeId} {x y : Operand} {rx ry : aV} {neg : Bool} (ho : o.op = .binOp op t x y u) (hop : op = if neg then .neq else .eql) (hu : P.underlying t = some .bool) (hx : bF x = some rx) (hy : bF y = some ry) :
  eH P o (.beq neg rx ry) := by
 refine .pure fun I w h a va av s t' k => ?_
 have h1 := bR s hx
 have h2 := bR s hy
 simp only [bS] at k
 generalize va rx = p at h1 k
 generalize va ry = q at h2 k
 generalize hvx : a.eval x = vx at h1
 generalize hvy : a.eval y = vy at h2
 cases p with
 | bool m =>
  cases q with
  | bool n =>
   have := h1.nG; subst this
   have := h2.nG; subst this
   simp only [RI, Option.some.injEq] at k; subst k
   have hb : (Op.equal t (.bool m) (.bool n)).run P w = .ok (decide (m = n)) w := by rw [← N7]; exact run_equalIn_bool w 9999 t m n hu
   have he : (eqGuard op t x y (.bool m) (.bool n)).run P w = .ok () w := by cases op <;> rfl
   cases neg <;> simp only [Bool.false_eq_true, if_true, if_false] at hop <;> subst hop
   ·have hbin : binOp .eql t (.bool m) (.bool n) = (do pure (.bool (← Op.equal t (.bool m) (.bool n)))) := rfl
    refine ⟨.bool (fZ false (decide (m = n))), ?_, .bool _⟩
    simp only [execOp, ho, hvx, hvy, hbin, Sem.run_bind, he, hb, Result.andThen_ok, Sem.run_pure, fZ, Bool.false_eq_true, if_false]
   ·have hbin : binOp .neq t (.bool m) (.bool n) = (do pure (.bool (!(← Op.equal t (.bool m) (.bool n))))) := rfl
    refine ⟨.bool (fZ true (decide (m = n))), ?_, .bool _⟩
    simp only [execOp, ho, hvx, hvy, hbin, Sem.run_bind, he, hb, Result.andThen_ok, Sem.run_pure, fZ, if_true]
  | _ => simp [RI] at k
 | _ => simp [RI] at k
theorem aDS [GI] {P : Program} {o : Oper} {op : BinOp} {t u el : TypeId} {x y : Operand} {rx ry : aV} {neg : Bool} (ho : o.op = .binOp op t x y u) (hop : op = if neg then .neq else .eql) (hu : P.underlying t = some (.pointer el)) (hx : bF x = some rx) (hy : bF y = some ry) :
  eH P o (.peq neg rx ry) := by
 refine .pure fun I w h a va av s t' k => ?_
 have h1 := bR s hx
 have h2 := bR s hy
 simp only [bS] at k
 generalize va rx = p at h1 k
 generalize va ry = q at h2 k
 generalize hvx : a.eval x = vx at h1
 generalize hvy : a.eval y = vy at h2
 have fin : ∀ (b : Bool), vx = .pointer none ∨ vy = .pointer none → (∃ pa pb, vx = .pointer pa ∧ vy = .pointer pb ∧ b = (pa.isNone && pb.isNone)) → av = .bool (fZ neg b) → ∃ v, (execOp a.eval o).run P w = .ok (.value v) w ∧ Rd I av v := by
  rintro b hn ⟨pa, pb, rfl, rfl, rfl⟩ rfl
  have hb : (Op.equal t (.pointer pa) (.pointer pb)).run P w = .ok (pa.isNone && pb.isNone) w := by
   show (Op.equalIn (9999 + 1) t (.pointer pa) (.pointer pb)).run P w = _
   rw [Op.equalIn]
   rcases pa with _ | pa
   ·simp [run_underlying hu]
   ·rcases pb with _ | pb
    ·simp [run_underlying hu]
    ·simp at hn
  have he : (eqGuard op t x y (.pointer pa) (.pointer pb)).run P w = .ok () w := by cases op <;> rfl
  cases neg <;> simp only [Bool.false_eq_true, if_true, if_false] at hop <;> subst hop
  ·have hbin : binOp .eql t (.pointer pa) (.pointer pb) = (do pure (.bool (← Op.equal t (.pointer pa) (.pointer pb)))) := by cases pa <;> cases pb <;> rfl
   refine ⟨.bool (fZ false (pa.isNone && pb.isNone)), ?_, .bool _⟩
   simp only [execOp, ho, hvx, hvy, hbin, Sem.run_bind, he, hb, Result.andThen_ok, Sem.run_pure, fZ, Bool.false_eq_true, if_false]
  ·have hbin : binOp .neq t (.pointer pa) (.pointer pb) = (do pure (.bool (!(← Op.equal t (.pointer pa) (.pointer pb))))) := by cases pa <;> cases pb <;> rfl
   refine ⟨.bool (fZ true (pa.isNone && pb.isNone)), ?_, .bool _⟩
   simp only [execOp, ho, hvx, hvy, hbin, Sem.run_bind, he, hb, Result.andThen_ok, Sem.run_pure, fZ, if_true]
 cases p with
 | ptr pa =>
  have := h1.gL; subst this
  cases q with
  | ptr pb =>
   have := h2.gL; subst this
   cases pa with
   | none => simp only [vH, Option.some.injEq] at k; exact fin pb.isNone (.inl rfl) ⟨_, _, rfl, rfl, by simp⟩ k.symm
   | some pa =>
    cases pb with
    | none => simp only [vH, Option.some.injEq] at k; exact fin false (.inr rfl) ⟨_, _, rfl, rfl, by simp⟩ k.symm
    | some pb => simp [vH] at k
  | ip cells off =>
   obtain ⟨b, o', vs, rfl, _⟩ := h2.D8
   cases pa with
   | none => simp only [vH, Option.some.injEq] at k; exact fin false (.inl rfl) ⟨_, _, rfl, rfl, by simp⟩ k.symm
   | some pa => simp [vH] at k
  | _ => cases pa <;> simp [vH] at k
 | ip cells off =>
  obtain ⟨b, o', vs, rfl, _⟩ := h1.D8
  cases q with
  | ptr pb =>
   have := h2.gL; subst this
   cases pb with
   | none => simp only [vH, Option.some.injEq] at k; exact fin false (.inr rfl) ⟨_, _, rfl, rfl, by simp⟩ k.symm
   | some pb => simp [vH] at k
  | _ => simp [vH] at k
 | _ => simp [vH] at k
def qG (P : Program) (fl : TypeId → Option (List Nat)) : Nat → List Field → Option (List Nat)
 | _, [] => some []
 | off, f :: r =>
  if f.name == "_" || f.offset != off then none else
  match fl f.type, P.info? f.type with
  | some ks, some i => if i.size == ks.length && ks.length != 0 then (qG P fl (off + ks.length) r).map (ks ++ ·) else none
  | _, _ => none
def kH (P : Program) : Nat → TypeId → Option (List Nat)
 | 0, _ => none
 | d + 1, t =>
  match P.underlying t with
  | some .bool => some [0]
  | some (.int _) => some [1]
  | some .string => some [2]
  | some (.struct fs) => if P.stoodInHeld t then none else qG P (kH P d) 0 fs.toList
  | _ => none
def kQ (P : Program) (t : TypeId) (vs : List Value) : Value :=
 match P.underlying t with
 | some (.struct _) => .agg vs.toArray
 | _ => vs.headD undef
def T1 (P : Program) (d : Nat) (t : TypeId) (ks : List Nat) : Prop :=
 ∀ (I : Imm) (w : World) (X Y : List AV) (VX VY : List Value) (b : Bool), Rds I X VX → Rds I Y VY → dI ks X Y = some b → (Op.equalIn d t (kQ P t VX) (kQ P t VY)).run P w = .ok b w
theorem qJ : ∀ (ks : List Nat) (X Y : List AV) (b : Bool), dI ks X Y = some b → X.length = ks.length ∧ Y.length = ks.length
 | [], [], [], _, _ => ⟨rfl, rfl⟩
 | [], [], _ :: _, _, h => by simp [dI] at h
 | [], _ :: _, _, _, h => by simp [dI] at h
 | _ :: _, [], _, _, h => by simp [dI] at h
 | _ :: _, _ :: _, [], _, h => by simp [dI] at h
 | k :: ks, x :: X, y :: Y, b, h => by
  simp only [dI] at h
  split at h
  ·rename_i p q h1 h2; have := qJ ks X Y q h2; simp [this]
  ·cases h
theorem AH : ∀ (ks ls : List Nat) (X Y : List AV) (b : Bool), dI (ks ++ ls) X Y = some b →
  ∃ b1 b2, dI ks (X.take ks.length) (Y.take ks.length) = some b1 ∧ dI ls (X.drop ks.length) (Y.drop ks.length) = some b2 ∧ b = (b1 && b2)
 | [], ls, X, Y, b, h => ⟨true, b, by simp [dI], by simpa using h, by simp⟩
 | k :: ks, ls, [], Y, b, h => by simp [dI] at h
 | k :: ks, ls, x :: X, [], b, h => by simp [dI] at h
 | k :: ks, ls, x :: X, y :: Y, b, h => by
  simp only [List.cons_append, dI] at h
  split at h
  ·rename_i p q h1 h2
   simp only [Option.some.injEq] at h; subst h
   obtain ⟨b1, b2, e1, e2, rfl⟩ := AH ks ls X Y q h2
   exact ⟨p && b1, b2, by simp [dI, h1, e1], by simpa using e2, by cases p <;> simp⟩
  ·cases h
theorem B3 {P : Program} {I : Imm} {k : Nat} {x y : AV} {vx vy : Value} {b : Bool} (h : l9 k x y = some b) (hx : Rd I x vx) (hy : Rd I y vy) :
  (k = 0 ∧ ∃ m n, vx = .bool m ∧ vy = .bool n ∧ b = (m == n)) ∨ (k = 1 ∧ ∃ j m n, vx = .int j m ∧ vy = .int j n ∧ b = (m == n)) ∨ (k = 2 ∧ ∃ m n, vx = .string m ∧ vy = .string n ∧ b = (m == n)) := by
 unfold l9 at h
 split at h
 ·split at h
  ·rename_i k1 m k2 n hk
   subst hk
   simp only [Option.some.injEq] at h; subst h
   exact .inr (.inl ⟨rfl, k1, m, n, hx.gM, hy.gM, (W3 m n).symm⟩)
  ·cases h
 ·rename_i m n
  simp only [Option.some.injEq] at h; subst h
  exact .inr (.inr ⟨rfl, m, n, hx.mN, hy.mN, (yV m n).symm⟩)
 ·rename_i m n
  simp only [Option.some.injEq] at h; subst h
  exact .inl ⟨rfl, m, n, hx.nG, hy.nG, (N7 m n).symm⟩
 ·cases h
theorem vD {P : Program} {d : Nat} {t : TypeId} {k : Nat} (hu : (k = 0 ∧ P.underlying t = some .bool) ∨ (k = 1 ∧ ∃ j, P.underlying t = some (.int j)) ∨ (k = 2 ∧ P.underlying t = some .string)) : T1 P (d + 1) t [k] := by
 intro I w X Y VX VY b rX rY h
 obtain ⟨lX, lY⟩ := qJ _ _ _ _ h
 match X, Y, lX, lY with
 | [x], [y], _, _ =>
  obtain ⟨vx, _, rfl, hx, r1⟩ := rX.dN
  have := r1.of_nil; subst this
  obtain ⟨vy, _, rfl, hy, r2⟩ := rY.dN
  have := r2.of_nil; subst this
  simp only [dI] at h
  cases hc : l9 k x y with
  | none => simp [hc] at h
  | some c =>
   simp only [hc, Bool.and_true, Option.some.injEq] at h; subst h
   have ha : kQ P t [vx] = vx := by rcases hu with ⟨_, h⟩ | ⟨_, k, h⟩ | ⟨_, h⟩ <;> simp [kQ, h]
   have hb : kQ P t [vy] = vy := by rcases hu with ⟨_, h⟩ | ⟨_, k, h⟩ | ⟨_, h⟩ <;> simp [kQ, h]
   rw [ha, hb]
   rcases B3 (P := P) hc hx hy with ⟨rfl, m, n, rfl, rfl, rfl⟩ | ⟨rfl, j, m, n, rfl, rfl, rfl⟩ | ⟨rfl, m, n, rfl, rfl, rfl⟩ <;> rcases hu with ⟨hk, h⟩ | ⟨hk, j', h⟩ | ⟨hk, h⟩ <;>
    first | (cases hk; done) | simp [Op.equalIn, run_underlying h]
theorem HT {P : Program} {t : TypeId} {i : TypeInfo} (ks : List Nat) (d : Nat) (hf : kH P d t = some ks) (hi : P.info? t = some i) (hs : i.size = ks.length) (w : World) (vs : List Value) (off : Nat) (hl : off + ks.length ≤ vs.length) :
  (part t vs.toArray off).run P w = .ok (kQ P t ((vs.drop off).take ks.length)) w := by
 cases d with
 | zero => simp [kH] at hf
 | succ d =>
  simp only [kH] at hf
  have one : ∀ d', P.underlying t = some d' → xW d' = false → ks.length = 1 → (part t vs.toArray off).run P w = .ok (kQ P t ((vs.drop off).take ks.length)) w := by
   intro d' hu hd h1
   have hagg : (isAgg t).run P w = .ok false w := by
    simp only [isAgg, Sem.run_bind, run_underlying hu, Result.andThen_ok]
    cases d' <;> simp_all [xW]
   have ho : off < vs.length := by omega
   have hv : kQ P t ((vs.drop off).take ks.length) = vs[off] := by
    unfold kQ; rw [hu, h1]
    have h2 : ((vs.drop off).take 1).headD undef = vs[off] := by
     rw [List.drop_eq_getElem_cons ho]; rfl
    cases d' <;> first | (simp [xW] at hd; done) | exact h2
   rw [hv]
   simp only [part, Sem.run_bind, hagg, Result.andThen_ok, Bool.false_eq_true, if_false]
   simp [ho]
  split at hf
  ·rename_i hu; simp only [Option.some.injEq] at hf; exact one _ hu rfl (by rw [← hf]; rfl)
  ·rename_i j hu; simp only [Option.some.injEq] at hf; exact one _ hu rfl (by rw [← hf]; rfl)
  ·rename_i hu; simp only [Option.some.injEq] at hf; exact one _ hu rfl (by rw [← hf]; rfl)
  ·rename_i fs hu
   have hagg : (isAgg t).run P w = .ok true w := by
    simp only [isAgg, Sem.run_bind, run_underlying hu, Result.andThen_ok]
    rfl
   simp only [part, Sem.run_bind, hagg, Result.andThen_ok, if_true, Go.sizeOf, typeInfo, run_program, hi, Sem.run_pure, hs, kQ, hu]
   congr 2
   apply Array.ext'
   simp [List.take_drop]
  ·cases hf
theorem CX {P : Program} {d : Nat} {fl : TypeId → Option (List Nat)} (hfl : ∀ t ks, fl t = some ks → kH P d t = some ks ∧ T1 P d t ks) : ∀ (fs : List Field) (off : Nat) (ks : List Nat), qG P fl off fs = some ks →
  ∀ (I : Imm) (w : World) (X Y : List AV) (VX VY : List Value) (b : Bool), Rds I X VX → Rds I Y VY → dI ks (X.drop off) (Y.drop off) = some b → (Op.eqFields d VX.toArray VY.toArray fs).run P w = .ok b w
 | [], off, ks, h, I, w, X, Y, VX, VY, b, rX, rY, he => by
  simp only [qG, Option.some.injEq] at h; subst h
  obtain ⟨lX, lY⟩ := qJ _ _ _ _ he
  cases hx : X.drop off with
  | cons _ _ => rw [hx] at lX; simp at lX
  | nil =>
   cases hy : Y.drop off with
   | cons _ _ => rw [hy] at lY; simp at lY
   | nil => rw [hx, hy] at he; simp only [dI, Option.some.injEq] at he; subst he; simp [Op.eqFields]
 | f :: r, off, ks, h, I, w, X, Y, VX, VY, b, rX, rY, he => by
  simp only [qG] at h
  split at h
  ·cases h
  ·rename_i hname
   split at h
   ·rename_i ks1 i h1 h2
    split at h
    ·rename_i hsz
     simp only [Option.map_eq_some_iff] at h
     obtain ⟨ks2, h3, rfl⟩ := h
     have hn : f.name ≠ "_" ∧ f.offset = off := by simpa using hname
     have hs : i.size = ks1.length ∧ ¬ ks1 = [] := by simpa using hsz
     have hpos : 0 < ks1.length := by
      cases ks1 with
      | nil => exact absurd rfl hs.2
      | cons => simp
     obtain ⟨g1, g2⟩ := hfl _ _ h1
     obtain ⟨lX, lY⟩ := qJ _ _ _ _ he
     simp only [List.length_drop, List.length_append] at lX lY
     obtain ⟨b1, b2, e1, e2, rfl⟩ := AH _ _ _ _ _ he
     have ih := CX hfl r (off + ks1.length) ks2 h3 I w X Y VX VY b2 rX rY (by simpa [List.drop_drop, Nat.add_comm] using e2)
     have hlx := rX.len
     have hly := rY.len
     have p1 := HT ks1 d g1 h2 hs.1 w VX off (by omega)
     have p2 := HT ks1 d g1 h2 hs.1 w VY off (by omega)
     have p3 := g2 I w _ _ _ _ b1 ((rX.drop off).take ks1.length) ((rY.drop off).take ks1.length) e1
     rw [Op.eqFields, if_pos hn.1, hn.2]
     simp only [Sem.run_bind, p1, p2, p3, Result.andThen_ok]
     cases b1
     ·simp
     ·simpa using ih
    ·cases h
   ·cases h
theorem EK {P : Program} : ∀ (d : Nat) (t : TypeId) (ks : List Nat), kH P d t = some ks → T1 P d t ks
 | 0, t, ks, h => by simp [kH] at h
 | d + 1, t, ks, h => by
  have h0 := h
  simp only [kH] at h
  split at h
  ·rename_i hu; simp only [Option.some.injEq] at h; subst h; exact vD (.inl ⟨rfl, hu⟩)
  ·rename_i j hu; simp only [Option.some.injEq] at h; subst h; exact vD (.inr (.inl ⟨rfl, j, hu⟩))
  ·rename_i hu; simp only [Option.some.injEq] at h; subst h; exact vD (.inr (.inr ⟨rfl, hu⟩))
  ·rename_i fs hu
   split at h
   ·cases h
   ·rename_i hp
    intro I w X Y VX VY b rX rY he
    have hf : P.fieldsOf t = fs := by simp [Program.fieldsOf, hu]
    have e1 : ∀ V : List Value, kQ P t V = .agg V.toArray := fun V => by simp [kQ, hu]
    rw [e1, e1, run_equalIn_struct (P := P) w d t _ _ (by rw [hf]; exact hu) (by simpa using hp), hf]
    exact CX (fun t ks hk => ⟨hk, EK d t ks hk⟩) fs.toList 0 ks h I w X Y VX VY b rX rY (by simpa using he)
  ·cases h
end Pg
namespace Pg
open Go
theorem aDR [GI] {P : Program} {o : Oper} {op : BinOp} {t u : TypeId} {fs : Array Field} {x y : Operand} {rx ry : aV} {neg : Bool} {ks : List Nat} (ho : o.op = .binOp op t x y u) (hop : op = if neg then .neq else .eql) (hu : P.underlying t = some (.struct fs)) (hf : kH P 10000 t = some ks) (hg : P.eqGuardType P.depth t = false)
  (hx : bF x = some rx) (hy : bF y = some ry) : eH P o (.seq neg ks rx ry) := by
 refine .pure fun I w h a va av s t' k => ?_
 have h1 := bR s hx
 have h2 := bR s hy
 simp only [bS] at k
 generalize va rx = p at h1 k
 generalize va ry = q at h2 k
 generalize hvx : a.eval x = vx at h1
 generalize hvy : a.eval y = vy at h2
 cases p with
 | agg X =>
  cases q with
  | agg Y =>
   obtain ⟨VX, rfl, rX, _⟩ := h1.mO
   obtain ⟨VY, rfl, rY, _⟩ := h2.mO
   simp only [RA, Option.map_eq_some_iff] at k
   obtain ⟨b, hb, rfl⟩ := k
   have e1 : ∀ V : List Value, kQ P t V = .agg V.toArray := fun V => by simp [kQ, hu]
   have h3 := EK 10000 t ks hf I w X Y VX VY b rX rY hb
   rw [e1, e1] at h3
   have h4 : (Op.equal t (.agg VX.toArray) (.agg VY.toArray)).run P w = .ok b w := h3
   have he : (eqGuard op t x y (.agg VX.toArray) (.agg VY.toArray)).run P w = .ok () w := run_eqGuard_agg w op t x y _ _ hg
   cases neg <;> simp only [Bool.false_eq_true, if_true, if_false] at hop <;> subst hop
   ·have hbin : binOp .eql t (.agg VX.toArray) (.agg VY.toArray) = (do pure (.bool (← Op.equal t (.agg VX.toArray) (.agg VY.toArray)))) := rfl
    refine ⟨.bool (fZ false b), ?_, .bool _⟩
    simp only [execOp, ho, hvx, hvy, hbin, Sem.run_bind, he, h4, Result.andThen_ok, Sem.run_pure, fZ, Bool.false_eq_true, if_false]
   ·have hbin : binOp .neq t (.agg VX.toArray) (.agg VY.toArray) = (do pure (.bool (!(← Op.equal t (.agg VX.toArray) (.agg VY.toArray))))) := rfl
    refine ⟨.bool (fZ true b), ?_, .bool _⟩
    simp only [execOp, ho, hvx, hvy, hbin, Sem.run_bind, he, h4, Result.andThen_ok, Sem.run_pure, fZ, if_true]
  | _ => simp [RA] at k
 | _ => simp [RA] at k
theorem aER [GI] {P : Program} {o : Oper} {op : UnOp} {t : TypeId} {x : Operand} {rx : aV} (ho : o.op = .unOp op t x) (hx : bF x = some rx) : eH P o (.un op rx) := by
 refine .pure fun I w h a va av s t' k => ?_
 have h1 := bR s hx
 simp only [bS] at k
 generalize va rx = p at h1 k
 generalize hvx : a.eval x = vx at h1
 cases p with
 | int kk n =>
  have := h1.gM; subst this
  cases op <;> simp only [aun, Option.some.injEq, reduceCtorEq] at k
  subst k
  exact ⟨_, by simp [execOp, ho, hvx, Op.unary, Op.intArith], .int _ _⟩
 | bool b =>
  have := h1.nG; subst this
  cases op <;> simp only [aun, Option.some.injEq, reduceCtorEq] at k
  subst k
  exact ⟨_, by simp [execOp, ho, hvx, Op.unary], .bool _⟩
 | _ => simp [aun] at k
theorem aCc [GI] {P : Program} {o : Oper} {src dst : TypeId} {d : TypeDesc} {k' : IntKind} {x : Operand} {rx : aV} (ho : o.op = .convert src dst x) (hs : P.underlying src = some d) (hd : P.underlying dst = some (.int k')) (hx : bF x = some rx) : eH P o (.conv k' rx) := by
 refine .pure fun I w h a va av s t' k => ?_
 have h1 := bR s hx
 simp only [bS] at k
 generalize va rx = p at h1 k
 generalize hvx : a.eval x = vx at h1
 cases p with
 | int kk n =>
  have := h1.gM; subst this
  simp only [OY, Option.some.injEq] at k; subst k
  exact ⟨_, by simp [execOp, ho, hvx, convert, run_underlying hs, run_underlying hd, Conv.intToInt], .int _ _⟩
 | _ => simp [OY] at k
theorem aCb [GI] {P : Program} {o : Oper} {src dst : TypeId} {d : TypeDesc} {x : Operand} {rx : aV} (ho : o.op = .convert src dst x) (hs : P.underlying src = some d) (hd : P.underlying dst = some .string) (hx : bF x = some rx) : eH P o (.Q0 rx) := by
 refine .pure fun I w h a va av s t' k => ?_
 have h1 := bR s hx
 simp only [bS] at k
 generalize va rx = p at h1 k
 generalize hvx : a.eval x = vx at h1
 cases p with
 | str z =>
  have := h1.mN; subst this
  simp only [ZN, Option.some.injEq] at k; subst k
  exact ⟨_, by simp [execOp, ho, hvx, convert, run_underlying hs, run_underlying hd], .str _⟩
 | _ => simp [ZN] at k
theorem aDT [GI] {P : Program} {o : Oper} {t : TypeId} {d : TypeDesc} {x : Operand} {rx : aV} (ho : o.op = .makeInterface t x) (hu : P.underlying t = some d) (hd : ∀ ms, d ≠ .interface ms) (hx : bF x = some rx) : eH P o (.mkI t rx) := by
 refine .pure fun I w h a va av s t' k => ?_
 have h1 := bR s hx
 simp only [bS, Option.some.injEq] at k; subst k
 refine ⟨.iface t (a.eval x), ?_, .iface _ _ _ h1⟩
 simp only [execOp, ho, Instr.makeInterface, Sem.run_bind, run_underlying hu, Result.andThen_ok]
 cases d <;> first | rfl | (exfalso; exact hd _ rfl)
theorem aDU [GI] {P : Program} {o : Oper} {fn : Fn} {f c : Array Operand} {rf rc : List aV} (ho : o.op = .makeFunc fn f c) (hf : mU f.toList = some rf) (hc : mU c.toList = some rc) : eH P o (.mkF fn rf rc) := by
 refine .pure fun I w h a va av s t' k => ?_
 simp only [bS, Option.some.injEq] at k; subst k
 have h1 := pK s hf
 have h2 := pK s hc
 refine ⟨_, ?_, .aEn h1 h2⟩
 simp only [execOp, ho, Instr.makeFunc, Sem.run_bind, Sem.run_pure, Result.andThen_ok]
 congr 3 <;> apply Array.ext' <;> simp
theorem aEV [GI] {P : Program} {o : Oper} {t : TypeId} {fs : Array Field} {f : Nat} {fd : Field} {i : TypeInfo} {x : Operand} {rx : aV} (ho : o.op = .fieldAddr t x f) (hu : P.underlying t = some (.struct fs)) (hf : fs[f]? = some fd) (hi : P.info? fd.type = some i) (hz : i.size ≠ 0) (hx : bF x = some rx) :
  eH P o (.fa fd.offset rx) := by
 refine .pure fun I w h a va av s t' k => ?_
 have h1 := bR s hx
 simp only [bS] at k
 generalize va rx = p at h1 k
 generalize hvx : a.eval x = vx at h1
 have run : ∀ b o', vx = .pointer (some ⟨b, o', none⟩) → (execOp a.eval o).run P w = .ok (.value (.pointer (some ⟨b, o' + fd.offset, none⟩))) w := by
  rintro b o' rfl
  have hsz : (Go.sizeOf fd.type).run P w = .ok i.size w := by simp [Go.sizeOf, typeInfo, hi]
  simp only [execOp, ho, hvx, Instr.fieldAt, Sem.run_bind, run_underlying hu, Result.andThen_ok, hf, Instr.sureAddr, Sem.run_pure, fieldPlace, hsz, Sem.run_ite, if_neg hz, nI]
 cases p with
 | ip cells off =>
  obtain ⟨b, o', vs, rfl, hm, hr, hone⟩ := h1.D8
  simp only [afa, Option.some.injEq] at k; subst k
  exact ⟨_, run b (o' + off) rfl, by rw [Nat.add_assoc]; exact .J0 _ hm hr hone⟩
 | ptr q =>
  have := h1.gL; subst this
  match q, k with
  | none, k => simp [afa] at k
  | some ⟨b, o', some z⟩, k => simp [afa] at k
  | some ⟨b, o', none⟩, k =>
   simp only [afa, Option.some.injEq] at k; subst k
   exact ⟨_, run b o' rfl, .ptr _⟩
 | _ => simp [afa] at k
theorem aEU [GI] {P : Program} {o : Oper} {t el : TypeId} {i : TypeInfo} {x y : Operand} {rx ry : aV} (ho : o.op = .indexAddr t x y) (hu : P.underlying t = some (.slice el)) (hi : P.info? el = some i) (hx : bF x = some rx) (hy : bF y = some ry) : eH P o (.ia i.size rx ry) := by
 refine .pure fun I w h a va av s t' k => ?_
 have h1 := bR s hx
 have h2 := bR s hy
 simp only [bS] at k
 generalize va rx = p at h1 k
 generalize va ry = q at h2 k
 generalize hvx : a.eval x = vx at h1
 generalize hvy : a.eval y = vy at h2
 have hel : P.elem t = el := by simp [Program.elem, hu]
 have hsz : (Go.sizeOf el).run P w = .ok i.size w := by simp [Go.sizeOf, typeInfo, hi]
 have run : ∀ (b o' n cap : Nat) (j : IntKind) (m : Int), vx = .slice (some ⟨b, o', none⟩) n cap → vy = .int j m → 0 ≤ m ∧ m < n → (execOp a.eval o).run P w = .ok (.value (.pointer (some ⟨b, o' + m.toNat * i.size, none⟩))) w := by
  rintro b o' n cap j m rfl rfl hm
  simp only [execOp, ho, hvx, hvy, Sem.run_bind, run_indexAt_slice w t ⟨b, o', none⟩ n cap j m (by rw [hel]; exact hu), if_pos hm, hel, hsz, Result.andThen_ok, Sem.run_pure, nI]
 have key : ∀ (es : List (List AV)) (full : Bool), Rd I (.sl es full) vx → aia i.size (.sl es full) q = some av → ∃ v, (execOp a.eval o).run P w = .ok (.value v) w ∧ Rd I av v := by
  intro es full h1 k
  cases q with
  | int j m =>
   have := h2.gM; subst this
   simp only [aia] at k
   split at k
   ·rename_i hm
    cases he : es[m.toNat]? with
    | none => simp [he] at k
    | some el' =>
     simp only [he] at k
     split at k
     ·rename_i hlen
      simp only [Option.some.injEq] at k; subst k
      have hlt : m.toNat < es.length := by
       rcases Nat.lt_or_ge m.toNat es.length with h | h
       ·exact h
       ·rw [List.getElem?_eq_none h] at he; cases he
      obtain ⟨p, cap, rfl, hc, hf, hsp, hn, hes⟩ := h1.uS
      rcases hes with rfl | ⟨b, o', size, vss, rfl, R⟩
      ·simp at hlt
      ·have hv : m.toNat < vss.length := by rw [← R.len]; exact hlt
       have hvs := List.getElem?_eq_getElem hv
       obtain ⟨s1, s2⟩ := R.oC m.toNat el' _ he hvs
       have hsize : size = i.size := by rw [← s1, hlen]
       refine ⟨_, run b o' es.length cap j m rfl rfl ⟨hm, by omega⟩, ?_⟩
       have := Rd.J0 (I := I) (cells := el') (b := b) (o := o' + m.toNat * i.size) (vs := vss[m.toNat]) 0 (fun jj u hu => by rw [← hsize]; exact R.mem _ _ _ _ hvs hu) ⟨by rw [s1, s2], fun jj c v e1 e2 => R.rd _ _ _ _ _ _ he hvs e1 e2⟩ (R.one _ _ hvs)
       simpa using this
     ·cases k
   ·cases k
  | _ => simp [aia] at k
 cases p with
 | sl es full => exact key es full h1 k
 | gs es b cap => exact key es false h1.OU (by cases q <;> exact k)
 | os b n cap =>
  cases q with
  | int j m =>
   have := h2.gM; subst this
   have := h1.pQ; subst this
   simp only [aia] at k
   split at k
   ·rename_i hm
    simp only [Option.some.injEq] at k; subst k
    exact ⟨_, run b 0 n cap j m rfl rfl hm, by rw [Nat.zero_add]; exact .ptr _⟩
   ·cases k
  | _ => simp [aia] at k
 | _ => simp [aia] at k
theorem aDQ [GI] {P : Program} {o : Oper} {t : TypeId} {x y : Operand} {rx ry : aV} (ho : o.op = .index t x y) (hu : P.underlying t = some .string) (hx : bF x = some rx) (hy : bF y = some ry) : eH P o (.six rx ry) := by
 refine .pure fun I w h a va av s t' k => ?_
 have h1 := bR s hx
 have h2 := bR s hy
 simp only [bS] at k
 generalize va rx = p at h1 k
 generalize va ry = q at h2 k
 generalize hvx : a.eval x = vx at h1
 generalize hvy : a.eval y = vy at h2
 cases p with
 | str z =>
  cases q with
  | int j m =>
   have := h1.mN; subst this
   have := h2.gM; subst this
   simp only [MC] at k
   split at k
   ·rename_i hm
    simp only [Option.map_eq_some_iff] at k
    obtain ⟨b, hb, rfl⟩ := k
    exact ⟨_, by simp [execOp, ho, hvx, hvy, Instr.index, asIntOf, run_underlying hu, hm, hb], .int _ _⟩
   ·cases k
  | _ => simp [MC] at k
 | _ => simp [MC] at k
theorem aDW [GI] {P : Program} {o : Oper} {x : Operand} {i : Nat} {rx : aV} (ho : o.op = .extract x i) (hx : bF x = some rx) : eH P o (.ext rx i) := by
 refine .pure fun I w h a va av s t' k => ?_
 have h1 := bR s hx
 simp only [bS] at k
 generalize va rx = p at h1 k
 generalize hvx : a.eval x = vx at h1
 cases p with
 | tuple cs =>
  obtain ⟨vs, rfl, r⟩ := h1.uR
  simp only [ZL] at k
  obtain ⟨v, h3, h4⟩ := r.get k
  exact ⟨v, by simp [execOp, ho, hvx, Instr.extract, h3], h4⟩
 | _ => simp [ZL] at k
theorem LU [GI] {P : Program} {o : Oper} {t : TypeId} {d : TypeDesc} {x : Operand} {rx : aV} {kd : Nat} (ho : o.op = .call { callee := .builtin .len, args := #[x], argTypes := #[t] }) (hu : P.underlying t = some d)
  (hd : match kd, d with | 0, .string | 1, .slice _ | 2, .map _ _ => True | _, _ => False) (hx : bF x = some rx) : eH P o (.len kd rx) := by
 refine .pure fun I w h a va av s t' k => ?_
 have h1 := bR s hx
 simp only [bS] at k
 generalize va rx = p at h1 k
 generalize hvx : a.eval x = vx at h1
 have run : ∀ n : Nat, (Builtin.len_ #[t] o.type #[vx]).run P w = .ok (goInt n) w → (execOp a.eval o).run P w = .ok (.value (.int .i64 n)) w := by
  intro n hn
  simp only [execOp, ho, resolve, invoke, builtin, Sem.run_bind, Sem.run_pure, Result.andThen_ok, List.map_toArray, List.map_cons, List.map_nil, hvx, hn]
  rfl
 unfold sZ at k
 split at k
 ·rename_i z
  have := h1.mN; subst this
  simp only [Option.some.injEq] at k; subst k
  cases d <;> first | (exact hd.elim) | exact ⟨_, run z.size (by simp [Builtin.len_, run_underlying hu]), .int _ _⟩
 ·rename_i es full
  obtain ⟨q, cap, rfl, _⟩ := h1.uS
  simp only [Option.some.injEq] at k; subst k
  cases d <;> first | (exact hd.elim) | exact ⟨_, run es.length (by simp [Builtin.len_, run_underlying hu]), .int _ _⟩
 ·rename_i b n cap
  have := h1.pQ; subst this
  simp only [Option.some.injEq] at k; subst k
  cases d <;> first | (exact hd.elim) | exact ⟨_, run n (by simp [Builtin.len_, run_underlying hu]), .int _ _⟩
 ·rename_i es b cap
  obtain ⟨q, vss, rfl, _⟩ := h1.KB
  simp only [Option.some.injEq] at k; subst k
  cases d <;> first | (exact hd.elim) | exact ⟨_, run es.length (by simp [Builtin.len_, run_underlying hu]), .int _ _⟩
 ·have := h1.rU; subst this
  simp only [Option.some.injEq] at k; subst k
  cases d <;> first | (exact hd.elim) | exact ⟨_, run 0 (by simp [Builtin.len_, run_underlying hu]), .int _ _⟩
 ·rename_i r
  have := h1.rU; subst this
  cases hr : h r with
  | none => simp [hr] at k
  | some ob =>
   cases ob with
   | blk _ _ _ => simp [hr] at k
   | tail _ _ _ => simp [hr] at k
   | mpc _ _ _ => simp [hr] at k
   | it _ _ _ _ => simp [hr] at k
   | sit _ _ => simp [hr] at k
   | mp es =>
    simp only [hr, Option.some.injEq] at k; subst k
    obtain ⟨ms, c, g1, g2, g3, g4⟩ := t'.obj _ _ hr
    have hl := g2.len
    simp only [List.length_map, Array.length_toList] at hl
    rw [hl]
    cases d <;> first | (exact hd.elim) | exact ⟨_, run ms.size (by simp [Builtin.len_, run_underlying hu, getObj, Sem.run, g1]), .int _ _⟩
 ·cases k
theorem aES [GI] {P : Program} {o : Oper} {tt : Array TypeId} {x y : Operand} {rx ry : aV} (ho : o.op = .call { callee := .builtin .max, args := #[x, y], argTypes := tt }) (hx : bF x = some rx) (hy : bF y = some ry) : eH P o (.mx rx ry) := by
 refine .pure fun I w h a va av s t' k => ?_
 have h1 := bR s hx
 have h2 := bR s hy
 simp only [bS] at k
 generalize va rx = p at h1 k
 generalize va ry = q at h2 k
 generalize hvx : a.eval x = vx at h1
 generalize hvy : a.eval y = vy at h2
 cases p with
 | int k1 m =>
  cases q with
  | int k2 n =>
   have := h1.gM; subst this
   have := h2.gM; subst this
   simp only [amx] at k
   split at k
   ·simp only [Option.some.injEq] at k; subst k
    exact ⟨_, by simp [execOp, ho, resolve, invoke, builtin, Builtin.max_, Builtin.max2, hvx, hvy], .int _ _⟩
   ·cases k
  | _ => simp [amx] at k
 | _ => simp [amx] at k
theorem aET [GI] {P : Program} {o : Oper} {tt : Array TypeId} {x y : Operand} {rx ry : aV} (ho : o.op = .call { callee := .builtin .min, args := #[x, y], argTypes := tt }) (hx : bF x = some rx) (hy : bF y = some ry) : eH P o (.mn rx ry) := by
 refine .pure fun I w h a va av s t' k => ?_
 have h1 := bR s hx
 have h2 := bR s hy
 simp only [bS] at k
 generalize va rx = p at h1 k
 generalize va ry = q at h2 k
 generalize hvx : a.eval x = vx at h1
 generalize hvy : a.eval y = vy at h2
 cases p with
 | int k1 m =>
  cases q with
  | int k2 n =>
   have := h1.gM; subst this
   have := h2.gM; subst this
   simp only [amn] at k
   split at k
   ·simp only [Option.some.injEq] at k; subst k
    exact ⟨_, by simp [execOp, ho, resolve, invoke, builtin, Builtin.min_, Builtin.min2, hvx, hvy], .int _ _⟩
   ·cases k
  | _ => simp [amn] at k
 | _ => simp [amn] at k
end Pg
namespace Pg
open Go
def ZT (I : Imm) : Option AV → Option Value → Prop
 | some x, some v => Rd I x v
 | none, none => True
 | _, _ => False
def jC (P : Program) (w : World) (d top : Nat) (code : BoundsCode) (n : Nat) : Option Value → Prop
 | some v => (Instr.sliceBound v top code).run P w = .ok n w
 | none => n = d
theorem yC {P : Program} {I : Imm} {w : World} {d : Nat} {x : Option AV} {v : Option Value} {n : Nat} (h : gG d x = some n) (r : ZT I x v) (top : Nat) (code : BoundsCode) (hn : n ≤ top) :
  jC P w d top code n v := by
 cases x with
 | none =>
  cases v with
  | none => simp only [gG, Option.some.injEq] at h; exact h.symm
  | some v => exact r.elim
 | some x =>
  cases v with
  | none => exact r.elim
  | some v =>
   simp only [ZT, jC] at r ⊢
   cases x with
   | int k i =>
    have := r.gM; subst this
    simp only [gG] at h
    split at h
    ·rename_i hi
     simp only [Option.some.injEq] at h; subst h
     have : 0 ≤ i ∧ i ≤ (top : Int) := ⟨hi, by omega⟩
     simp [Instr.sliceBound, asIntOf, this]
    ·cases h
   | _ => simp [gG] at h
def A1 : Option Operand → Option (Option aV)
 | none => some none
 | some x => (bF x).map some
theorem FA {I : Imm} {va : aV → AV} {a : Act} (s : qU I va a) {x : Option Operand} {r : Option aV} (h : A1 x = some r) :
  ZT I (r.map va) (x.map a.eval) := by
 cases x with
 | none => simp only [A1, Option.some.injEq] at h; subst h; trivial
 | some x =>
  simp only [A1, Option.map_eq_some_iff] at h
  obtain ⟨y, hy, rfl⟩ := h
  exact bR s hy
theorem XS [GI] {P : Program} {o : Oper} {t : TypeId} {x : Operand} {lo hi : Option Operand} {rx : aV} {rlo rhi : Option aV} (size : Nat) (ho : o.op = .slice t x lo hi none) (hu : P.underlying t = some .string) (hx : bF x = some rx) (hlo : A1 lo = some rlo) (hhi : A1 hi = some rhi) :
  eH P o (.slice true size rx rlo rhi) := by
 refine .pure fun I w h a va av s t' k => ?_
 have h1 := bR s hx
 have h2 := FA s hlo
 have h3 := FA s hhi
 simp only [bS] at k
 generalize va rx = p at h1 k
 generalize hvx : a.eval x = vx at h1
 cases p with
 | str z =>
  have := h1.mN; subst this
  simp only [eP] at k
  split at k
  ·rename_i hh ll hh1 hl1
   split at k
   ·rename_i hc
    simp only [Option.some.injEq] at k; subst k
    refine ⟨.string (z.extract ll hh), ?_, .str _⟩
    have b1 := yC (P := P) (w := w) hh1 h3 z.size .sliceAlen hc.2
    have b2 := yC (P := P) (w := w) hl1 h2 hh .sliceB hc.1
    have hb : (Instr.sliceBounds false z.size z.size (lo.map a.eval) (hi.map a.eval) none).run P w = .ok (ll, hh, z.size) w := by
     cases hhi' : hi.map a.eval with
     | none =>
      rw [hhi'] at b1; simp only [jC] at b1; subst b1
      cases hlo' : lo.map a.eval with
      | none => rw [hlo'] at b2; simp only [jC] at b2; subst b2; simp [Instr.sliceBounds]
      | some u => rw [hlo'] at b2; simp only [jC] at b2; simp [Instr.sliceBounds, b2]
     | some v =>
      rw [hhi'] at b1; simp only [jC] at b1
      cases hlo' : lo.map a.eval with
      | none => rw [hlo'] at b2; simp only [jC] at b2; subst b2; simp [Instr.sliceBounds, b1]
      | some u => rw [hlo'] at b2; simp only [jC] at b2; simp [Instr.sliceBounds, b1, b2]
    simp [execOp, ho, hvx, Instr.sliceAt, Instr.slice, run_underlying hu, hb]
   ·cases k
  ·cases k
 | _ => simp [eP] at k
theorem XT [GI] {P : Program} {o : Oper} {t el : TypeId} {i : TypeInfo} {x : Operand} {lo hi : Option Operand} {rx : aV} {rlo rhi : Option aV} (ho : o.op = .slice t x lo hi none) (hu : P.underlying t = some (.slice el)) (hi' : P.info? el = some i) (hx : bF x = some rx) (hlo : A1 lo = some rlo) (hhi : A1 hi = some rhi) :
  eH P o (.slice false i.size rx rlo rhi) := by
 refine .pure fun I w h a va av s t' k => ?_
 have h1 := bR s hx
 have h2 := FA s hlo
 have h3 := FA s hhi
 simp only [bS] at k
 generalize va rx = p at h1 k
 generalize hvx : a.eval x = vx at h1
 have hsz : (Go.sizeOf el).run P w = .ok i.size w := by simp [Go.sizeOf, typeInfo, hi']
 have run : ∀ (q : Option Addr) (n cap hh ll : Nat), vx = .slice q n cap → gG n (rhi.map va) = some hh → gG 0 (rlo.map va) = some ll → ll ≤ hh → hh ≤ n → n ≤ cap →
   (execOp a.eval o).run P w = .ok (.value (.slice (if cap = ll then q else q.map (·.add (ll * i.size))) (hh - ll) (cap - ll))) w := by
  rintro q n cap hh ll rfl hh1 hl1 c1 c2 c3
  have b1 := yC (P := P) (w := w) hh1 h3 cap .sliceAcap (by omega)
  have b2 := yC (P := P) (w := w) hl1 h2 hh .sliceB c1
  have hb : (Instr.sliceBounds true n cap (lo.map a.eval) (hi.map a.eval) none).run P w = .ok (ll, hh, cap) w := by
   cases hhi' : hi.map a.eval with
   | none =>
    rw [hhi'] at b1; simp only [jC] at b1; subst b1
    cases hlo' : lo.map a.eval with
    | none => rw [hlo'] at b2; simp only [jC] at b2; subst b2; simp [Instr.sliceBounds]
    | some u => rw [hlo'] at b2; simp only [jC] at b2; simp [Instr.sliceBounds, b2]
   | some v =>
    rw [hhi'] at b1; simp only [jC] at b1
    cases hlo' : lo.map a.eval with
    | none => rw [hlo'] at b2; simp only [jC] at b2; subst b2; simp [Instr.sliceBounds, b1]
    | some u => rw [hlo'] at b2; simp only [jC] at b2; simp [Instr.sliceBounds, b1, b2]
  simp [execOp, ho, hvx, Instr.sliceAt, Instr.slice, run_underlying hu, hb, hsz]
 have key : ∀ (es : List (List AV)) (full : Bool), Rd I (.sl es full) vx → eP false i.size (.sl es full) (rlo.map va) (rhi.map va) = some av → ∃ v, (execOp a.eval o).run P w = .ok (.value v) w ∧ Rd I av v := by
  intro es full h1 k
  obtain ⟨q, cap, rfl, hc, hf, hsp, hn, hes⟩ := h1.uS
  simp only [eP] at k
  split at k
  ·rename_i hh ll hh1 hl1
   split at k
   ·rename_i hcond
    obtain ⟨c1, c2, c3⟩ := hcond
    simp only [Option.some.injEq] at k; subst k
    refine ⟨_, run q es.length cap hh ll rfl hh1 hl1 c1 c2 hc, ?_⟩
    have hlen : ((es.take hh).drop ll).length = hh - ll := by simp; omega
    have hfull : (full && hh == es.length) = true → cap - ll = hh - ll := by
     intro hb; simp only [Bool.and_eq_true, beq_iff_eq] at hb; rw [hf hb.1, hb.2]
    by_cases hempty : hh - ll = 0
    ·have h0 : (es.take hh).drop ll = [] := List.eq_nil_of_length_eq_zero (by omega)
     rw [h0, hempty]
     refine .sl0 _ _ _ ?_ ?_ ?_
     ·exact fun _ _ => trivial
     ·intro hz
      split at hz
      ·have := hn hz; omega
      ·cases q with
       | none => have := hn rfl; omega
       | some z' => simp at hz
     ·intro hb; have := hfull hb; omega
    ·rcases hes with rfl | ⟨b, o', size, vss, rfl, R⟩
     ·simp at c2; omega
     ·have hcl : ¬ cap = ll := by omega
      rw [if_neg hcl]
      simp only [Option.map_some, nI]
      have hlt : 0 < es.length := by omega
      have hsize : ll = 0 ∨ size = i.size := by
       rcases c3 with c3 | c3
       ·exact .inl c3
       ·right
        cases es with
        | nil => simp at hlt
        | cons e0 es =>
         have hv : 0 < vss.length := by have := R.len; simp at this; omega
         have := (R.oC 0 e0 _ (by simp) (List.getElem?_eq_getElem hv)).1
         simp at c3; omega
      have hmul : ll * i.size = ll * size := by
       rcases hsize with h | h
       ·subst h; simp
       ·rw [h]
      rw [hmul, ← hlen]
      refine Rd.rQ _ (by rw [hlen]; omega) (fun hb => by rw [hlen]; exact hfull hb) (o := o' + ll * size) (size := size) (vss := (vss.take hh).drop ll) ⟨by simp [R.len], ?_, ?_, ?_, ?_⟩
      ·intro j e' vs e1 e2
       rw [List.getElem?_drop, List.getElem?_take] at e1 e2
       split at e1
       ·rename_i hj; rw [if_pos hj] at e2; exact R.oC _ _ _ e1 e2
       ·cases e1
      ·intro j vs jj v e1 e2
       rw [List.getElem?_drop, List.getElem?_take] at e1
       split at e1
       ·have := R.mem _ _ _ _ e1 e2
        rw [show o' + ll * size + j * size + jj = o' + (ll + j) * size + jj by rw [Nat.add_mul]; omega]
        exact this
       ·cases e1
      ·intro j vs e1
       rw [List.getElem?_drop, List.getElem?_take] at e1
       split at e1
       ·exact R.one _ _ e1
       ·cases e1
      ·intro j e' vs jj c v e1 e2 e3 e4
       rw [List.getElem?_drop, List.getElem?_take] at e1 e2
       split at e1
       ·rename_i hj; rw [if_pos hj] at e2; exact R.rd _ _ _ _ _ _ e1 e2 e3 e4
       ·cases e1
   ·cases k
  ·cases k
 cases p with
 | sl es full => exact key es full h1 k
 | gs es b cap => exact key es false h1.OU (by simpa [eP] using k)
 | os b n cap =>
  have := h1.pQ; subst this
  simp only [eP] at k
  split at k
  ·rename_i hh hh1 hl1
   split at k
   ·rename_i hcond
    simp only [Option.some.injEq] at k; subst k
    refine ⟨_, run _ n cap hh 0 rfl hh1 hl1 (Nat.zero_le _) hcond.1 hcond.2, ?_⟩
    have : (if cap = 0 then (some ⟨b, 0, none⟩ : Option Addr) else (some ⟨b, 0, none⟩ : Option Addr).map (·.add (0 * i.size))) = some ⟨b, 0, none⟩ := by
     split <;> simp [Addr.add]
    rw [this]
    exact .os b hh cap
   ·cases k
  ·cases k
 | _ => simp [eP] at k
theorem oN {α : Type} (size : Nat) : ∀ (n : Nat) (l : List α) (i : Nat) (x : List α), (chunks size n l)[i]? = some x → i < n ∧ x = (l.drop (i * size)).take size
 | 0, l, i, x, h => by simp [chunks] at h
 | n + 1, l, 0, x, h => by simp [chunks] at h; subst h; simp
 | n + 1, l, i + 1, x, h => by
  simp only [chunks, List.getElem?_cons_succ] at h
  obtain ⟨h1, h2⟩ := oN size n _ i x h
  refine ⟨by omega, ?_⟩
  rw [h2, List.drop_drop, Nat.add_mul, Nat.one_mul, Nat.add_comm size]
theorem mR {α : Type} (size : Nat) : ∀ (n : Nat) (l : List α), (chunks size n l).length = n
 | 0, _ => rfl
 | n + 1, l => by simp [chunks, mR size n]
def Imm.mK (I : Imm) (b : Nat) (vs : List Value) : Imm := fun c o => if c = b then vs[o]? else I c o
theorem F0 [GI] {w : World} {I : Imm} {h : AHeap} (s : Sat w I h) (vs : List Value) (ty : TypeId) :
  let w' := w.alloc (.cells vs.toArray ty)
  Sat w' (I.mK w.heap.size vs) h ∧ Ext h w w' ∧ New w I (I.mK w.heap.size vs) h h ∧ I.le (I.mK w.heap.size vs) := by
 intro w'
 have hle : I.le (I.mK w.heap.size vs) := by
  intro b o v hb
  have := s.z6 hb
  simp only [Imm.mK]; rw [if_neg (by omega)]; exact hb
 have hold : ∀ k, k < w.heap.size → w'.heap[k]? = w.heap[k]? := by
  intro k hk
  show (w.heap.push _)[k]? = _
  rw [Array.getElem?_push, if_neg (by omega)]
 refine ⟨⟨Imm.le_trans s.pD hle, ?_, ?_, ?_⟩, ⟨rfl, rfl, rfl, by simp [w'], fun k hk _ => hold k hk⟩, ⟨hle, fun b o e => .inl (by rw [e]; simp), ?_⟩, hle⟩
 ·intro b o hb
  exact (s.obj b o hb).mono hle (hold b (s.lt hb))
 ·intro b o v hb
  simp only [Imm.mK] at hb
  split at hb
  ·rename_i hbb; subst hbb
   show (w.alloc (.cells vs.toArray ty)).cell? ⟨w.heap.size, o, none⟩ = some v
   rw [World.cell?_alloc_new]; simpa using hb
  ·have hlt := s.z6 hb
   show (w.alloc (.cells vs.toArray ty)).cell? ⟨b, o, none⟩ = some v
   rw [World.cell?_alloc_lt _ _ _ hlt]
   exact s.imm b o v hb
 ·intro b o v hb
  simp only [Imm.mK] at hb
  split at hb
  ·rename_i hbb; subst hbb
   cases hh : h w.heap.size with
   | none => trivial
   | some x => have := s.lt hh; omega
  ·exact s.dis b o v hb
 ·intro b o v hb
  simp only [Imm.mK] at hb
  split at hb
  ·rename_i hbb; exact .inr (.inr (by omega))
  ·exact .inl hb
theorem tH {I : Imm} {b size len : Nat} {cs : List AV} {vs : List Value} (r : Rds I cs vs) (hone : cV vs) (hl : cs.length = len * size) (hm : ∀ (j : Nat) (v : Value), vs[j]? = some v → I b j = some v) : Rows I b 0 size (chunks size len cs) (chunks size len vs) := by
 have hl' : vs.length = len * size := by rw [← r.len]; exact hl
 have hrow : ∀ i, i < len → i * size + size ≤ len * size := by
  intro i hi
  calc i * size + size = (i + 1) * size := by rw [Nat.add_mul, Nat.one_mul]
   _ ≤ len * size := Nat.mul_le_mul_right _ hi
 refine ⟨by rw [mR, mR], ?_, ?_, ?_, ?_⟩
 ·intro i e v e1 e2
  obtain ⟨h1, rfl⟩ := oN size len cs i e e1
  obtain ⟨_, rfl⟩ := oN size len vs i v e2
  have := hrow i h1
  simp only [List.length_take, List.length_drop, hl, hl']
  omega
 ·intro i v j u e1 e2
  obtain ⟨h1, rfl⟩ := oN size len vs i v e1
  rw [List.getElem?_take] at e2
  split at e2
  ·rw [List.getElem?_drop] at e2
   rw [Nat.zero_add]
   exact hm _ _ e2
  ·cases e2
 ·intro i v e1
  obtain ⟨h1, rfl⟩ := oN size len vs i v e1
  exact (hone.drop _).take _
 ·intro i e v j c u e1 e2 e3 e4
  obtain ⟨h1, rfl⟩ := oN size len cs i e e1
  obtain ⟨_, rfl⟩ := oN size len vs i v e2
  exact ((r.drop _).take _).at_ j c u e3 e4
def wJ (zs : Array Value) (n : Nat) : List Value := ((Array.range n).map (zs[· % zs.size]!)).toList
theorem W2 {P : Program} {I : Imm} {va : aV → AV} {a : Act} {w : World} {t el : TypeId} {ie : TypeInfo} {z : Value} {len : Nat} {parts : Array (Nat × Operand)} {zs cs : List AV} {ps : List (Nat × Nat × aV)} (s : qU I va a) (hu : P.underlying t = some (.slice el)) (hie : P.info? el = some ie) (hz : ie.zero = some z)
  (hsmall : ¬ len * ie.size > 2 ^ 24) (hzs : qM (wJ (if len * ie.size = 0 then #[] else z.cells) (len * ie.size)) = some zs) (hps : qN (fun i => some (i * ie.size, ie.size)) parts.toList = some ps) (hcs : mE zs (fO va ps) = some cs) :
  ∃ res : Array Value, (Instr.buildSlice t len (parts.map fun (i, x) => (i, a.eval x))).run P w = .ok (.slice (some ⟨w.heap.size, 0, none⟩) len len) (w.alloc (.cells res el)) ∧ Rds I cs res.toList ∧ cV res.toList ∧ cs.length = len * ie.size := by
 obtain ⟨k1, k2⟩ := AZ s _ hps
 have hzr := tN I hzs
 obtain ⟨res, hres, hrd, hone⟩ := II (I := I) (fun i => some (i * ie.size, ie.size)) _ _ ((Array.range (len * ie.size)).map ((if len * ie.size = 0 then #[] else z.cells)[· % (if len * ie.size = 0 then #[] else z.cells).size]!)) zs cs hzr (rR hzs) k1 k2 hcs
 have hlen : cs.length = len * ie.size := by
  have afl : ∀ (qs : List (Nat × Nat × AV)) (c0 c1 : List AV), mE c0 qs = some c1 → c1.length = c0.length := by
   intro qs
   induction qs with
   | nil => intro c0 c1 h; simp only [mE, Option.some.injEq] at h; rw [h]
   | cons q qs ih =>
    intro c0 c1 h
    obtain ⟨o1, s1, v1⟩ := q
    simp only [mE] at h
    split at h
    ·split at h
     ·rename_i hc
      rw [ih _ _ h, jG]
      rw [hc.1]; exact hc.2
     ·cases h
    ·cases h
  rw [afl _ _ _ hcs, hzr.len]; simp [wJ]
 have hrun : (Instr.buildSlice t len (parts.map fun (i, x) => (i, a.eval x))).run P w = .ok (.slice (some ⟨w.heap.size, 0, none⟩) len len) (w.alloc (.cells res el)) := by
  by_cases h0 : len * ie.size = 0
  ·simp only [h0, if_true] at hres
   rw [← Array.toList_map] at hres
   simp [Instr.buildSlice, run_underlying hu, Go.sizeOf, typeInfo, zeroValue, hie, hz, h0, newRow]
   simp at hres
   rw [hres]
   rfl
  ·simp only [h0, if_false] at hres
   rw [← Array.toList_map] at hres
   simp [Instr.buildSlice, run_underlying hu, Go.sizeOf, typeInfo, zeroValue, hie, hz, h0, hsmall, newRow]
   rw [Array.toList_map] at hres
   rw [hres]
   rfl
 exact ⟨res, hrun, hrd, hone, hlen⟩
theorem aDX [GI] {P : Program} {o : Oper} {t el : TypeId} {ie : TypeInfo} {z : Value} {len : Nat} {parts : Array (Nat × Operand)} {zs : List AV} {ps : List (Nat × Nat × aV)} (ho : o.op = .buildSlice t len parts) (hu : P.underlying t = some (.slice el)) (hie : P.info? el = some ie) (hz : ie.zero = some z)
  (hsmall : ¬ len * ie.size > 2 ^ 24) (hzs : qM (wJ (if len * ie.size = 0 then #[] else z.cells) (len * ie.size)) = some zs) (hps : qN (fun i => some (i * ie.size, ie.size)) parts.toList = some ps) : eH P o (.bsl ie.size len zs ps) := by
 intro I w h a va av s t' k
 simp only [bS, Option.map_eq_some_iff] at k
 obtain ⟨cs, hcs, rfl⟩ := k
 obtain ⟨res, hrun, hrd, hone, hlen⟩ := W2 (P := P) (w := w) s hu hie hz hsmall hzs hps hcs
 obtain ⟨g1, g2, g3, g4⟩ := F0 t' res.toList el
 refine ⟨.slice (some ⟨w.heap.size, 0, none⟩) len len, _, _, ?_, ?_, g1, g2, g3⟩
 ·simp only [execOp, ho, Sem.run_bind, hrun, Result.andThen_ok, Sem.run_pure]
 ·have hR := tH (I := I.mK w.heap.size res.toList) (b := w.heap.size) (hrd.mono g4) hone hlen (fun j v hj => by simp only [Imm.mK, if_true]; exact hj)
  have hl := mR ie.size len cs
  have := Rd.rQ (cap := len) true (by rw [hl]; omega) (fun _ => by rw [hl]) hR
  rw [hl] at this
  exact this
theorem aEW [GI] {P : Program} {o : Oper} {ty : TypeId} {x : Operand} {rx : aV} (ho : o.op = .box ty x) (hx : bF x = some rx) : eH P o (.bx none rx) := by
 intro I w h a va av s t k
 have h1 := bR s hx
 simp only [bS, abx, Option.map_eq_some_iff] at k
 obtain ⟨ds, hc, rfl⟩ := k
 obtain ⟨vs, hv, r, r1⟩ := yS h1 hc
 obtain ⟨g1, g2, g3, g4⟩ := F0 t vs ty
 have hexec : (execOp a.eval o).run P w = .ok (.value (.pointer (some ⟨w.heap.size, 0, none⟩))) (w.alloc (.cells vs.toArray ty)) := by
  simp [execOp, ho, Instr.box, newVar, newRow, hv]
 refine ⟨_, _, _, hexec, ?_, g1, g2, g3⟩
 have := Rd.J0 (I := I.mK w.heap.size vs) (cells := ds) (b := w.heap.size) (o := 0) (vs := vs) 0 (fun j u hu => by simp only [Imm.mK, if_true, Nat.zero_add]; exact hu) (r.mono g4) r1
 simpa using this
def PX (P : Program) (t : TypeId) (f : Nat) (x : aV) : Option RRead :=
 match P.underlying t with
 | some (.struct fs) => match fs[f]? with
  | some fd => match P.underlying fd.type with
   | some (.struct _) | some (.array _ _) => (P.info? fd.type).map fun i => .fld fd.offset (some i.size) x
   | some _ => some (.fld fd.offset none x)
   | none => none
  | none => none
 | _ => none
theorem aDV [GI] {P : Program} {o : Oper} {t : TypeId} {f : Nat} {x : Operand} {rx : aV} {r : RRead} (ho : o.op = .field t x f) (hx : bF x = some rx) (hr : PX P t f rx = some r) : eH P o r := by
 have key : ∀ (fs : Array Field) (fd : Field) (n : Option Nat), P.underlying t = some (.struct fs) → fs[f]? = some fd → r = .fld fd.offset n rx →
   (∀ (w : World) (vs : List Value), match n with
    | some m => fd.offset + m ≤ vs.length → (part fd.type vs.toArray fd.offset).run P w = .ok (.agg ((vs.drop fd.offset).take m).toArray) w
    | none => ∀ u, vs[fd.offset]? = some u → (part fd.type vs.toArray fd.offset).run P w = .ok u w) → eH P o r := by
  intro fs fd n hu hf hn H
  subst hn
  refine .pure fun I w h a va av s t' k => ?_
  have h1 := bR s hx
  simp only [bS] at k
  generalize va rx = p at h1 k
  generalize hvx : a.eval x = vx at h1
  cases p with
  | agg cs =>
   obtain ⟨vs, rfl, rv, r1⟩ := h1.mO
   have H' := H w vs
   cases n with
   | some m =>
    simp only [RH] at k H'
    split at k
    ·rename_i hle
     simp only [Option.some.injEq] at k; subst k
     have := H' (by rw [← rv.len]; exact hle)
     exact ⟨_, by simp [execOp, ho, Instr.field, run_underlying hu, hf, hvx, asAgg, this], .qP ((rv.drop _).take _) ((r1.drop _).take _)⟩
    ·cases k
   | none =>
    simp only [RH] at k H'
    obtain ⟨u, h3, h4⟩ := rv.get k
    have := H' u h3
    exact ⟨_, by simp [execOp, ho, Instr.field, run_underlying hu, hf, hvx, asAgg, this], h4⟩
  | _ => simp [RH] at k
 have aggRun : ∀ (fd : Field) (d : TypeDesc) (i : TypeInfo), P.underlying fd.type = some d → xW d = true → P.info? fd.type = some i → ∀ (w : World) (vs : List Value), fd.offset + i.size ≤ vs.length →
   (part fd.type vs.toArray fd.offset).run P w = .ok (.agg ((vs.drop fd.offset).take i.size).toArray) w := by
  intro fd d i hu hd hi w vs hle
  have hagg : (isAgg fd.type).run P w = .ok true w := by
   simp only [isAgg, Sem.run_bind, run_underlying hu, Result.andThen_ok]
   cases d <;> simp_all [xW]
  simp only [part, Sem.run_bind, hagg, Result.andThen_ok, if_true, Go.sizeOf, typeInfo, run_program, hi, Sem.run_pure]
  congr 2
  apply Array.ext'
  simp [List.take_drop]
 unfold PX at hr
 split at hr
 ·rename_i fs hu
  split at hr
  ·rename_i fd hf
   split at hr
   ·rename_i g hg
    simp only [Option.map_eq_some_iff] at hr
    obtain ⟨i, hi, rfl⟩ := hr
    exact key fs fd _ hu hf rfl fun w vs => aggRun fd _ i hg rfl hi w vs
   ·rename_i n g hg
    simp only [Option.map_eq_some_iff] at hr
    obtain ⟨i, hi, rfl⟩ := hr
    exact key fs fd _ hu hf rfl fun w vs => aggRun fd _ i hg rfl hi w vs
   ·rename_i d hd1 hd2 hu'
    simp only [Option.some.injEq] at hr
    subst hr
    refine key fs fd none hu hf rfl fun w vs u hv => ?_
    have hagg : (isAgg fd.type).run P w = .ok false w := by
     simp only [isAgg, Sem.run_bind, run_underlying hu', Result.andThen_ok]
     cases d <;> simp_all
    simp only [part, Sem.run_bind, hagg, Result.andThen_ok, Bool.false_eq_true, if_false, List.getElem?_toArray, hv, Sem.run_pure]
   ·cases hr
  ·cases hr
 ·cases hr
end Pg
