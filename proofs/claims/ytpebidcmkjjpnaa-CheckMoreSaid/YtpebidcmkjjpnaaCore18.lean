/- The core, eighteenth part: what comes in is read; rows. -/
import Derived.Test.YtpebidcmkjjpnaaCore17
import Derived.Handed
import Derived.JoinedCond
import Derived.ChangeSame
import Derived.Carry
import Derived.DataReads
import Derived.ChangeArms
import Derived.RowKit
namespace Pg
open Go Go.ChangeShapes Go.WideShapes Go.RowKit
set_option linter.unusedSimpArgs false
set_option linter.unusedVariables false

/-- The memory as it came. -/
def memOf (W : World) : Imm := fun b o => W.cell? ⟨b, o, none⟩
theorem sat_mem (W : World) : Sat W (memOf W) eheap := ⟨(fun b o h => by cases h), (fun b o v h => h), (fun b o v h => trivial)⟩

section
variable {H : Type} (enc : TypeId × Value → H) (P : Program) (W : World)

/-- Whatever reads as type t with fuel n is the cells of some x. -/
def RdN (n : Nat) (t : TypeId) {X : Type} (e : X → List AV) (ok : DataW H → X → Prop) : Prop :=
  ∀ cs d ps, DataW.trod enc P W 0 (fun _ => true) true n t cs = some (d, ps) → ∃ x, ok d x ∧ Rds (memOf W) (e x) cs ∧ Ones cs
def RdA (t : TypeId) {X : Type} (e : X → List AV) (ok : DataW H → X → Prop) : Prop := ∀ n, RdN enc P W n t e ok
/-- Fields from place 'off' on; the struct has 'total' cells. -/
def RdFs (n total off : Nat) (fs : List Field) {X : Type} (e : X → List AV) (ok : List (DataW H) → X → Prop) : Prop :=
  ∀ (cs : List Value) (xs : List (DataW H × List MemPlace)), cs.length = total → (xs.length = fs.length ∧ ∀ (i : Nat) (f : Field), fs[i]? = some f → DataW.trod enc P W 0 (fun _ => true) true n f.type ((cs.drop f.offset).take (P.cellsOf f.type)) = xs[i]?) →
    ∃ x, ok (xs.map (·.1)) x ∧ Rds (memOf W) (e x) (cs.drop off) ∧ Ones (cs.drop off)
/-- Elements, one by one. -/
def Two {A B : Type} (r : A → B → Prop) : List A → List B → Prop
  | [], [] => True
  | a :: l, b :: m => r a b ∧ Two r l m
  | _, _ => False
end

section
variable {H : Type} {enc : TypeId × Value → H} {P : Program} {W : World} {n : Nat} {t el : TypeId}

theorem RdN.zero {X : Type} {e : X → List AV} {ok : DataW H → X → Prop} : RdN enc P W 0 t e ok := by
  intro cs d ps h; simp [DataW.trod] at h
theorem RdN.mono {X Y : Type} {e : X → List AV} {ok : DataW H → X → Prop} {e' : Y → List AV} {ok' : DataW H → Y → Prop} (h : RdN enc P W n t e ok) (m : ∀ d x, ok d x → ∃ y, ok' d y ∧ e' y = e x) : RdN enc P W n t e' ok' := by
  intro cs d ps k
  obtain ⟨x, h1, h2, h3⟩ := h cs d ps k
  obtain ⟨y, m1, m2⟩ := m d x h1
  exact ⟨y, m1, by rw [m2]; exact h2, h3⟩
theorem Ones.one {v : Value} (h : v.oneCell' = true) : Ones [v] := .cons h .nil
theorem RdN.int {k : IntKind} (ht : P.underlying t = some (.int k)) : RdN enc P W n t (fun x : Int => [.int k x]) (fun d x => d = .lit (.int k x) ∧ (Lit.int k x).wf = true) := by
  intro cs d ps h
  obtain ⟨m, rfl, hx, hw⟩ := DataW.trod_int ht h
  cases hx
  exact ⟨m, ⟨rfl, hw⟩, .cons (.int _ _) (.nil _), .one rfl⟩
theorem RdN.bool (ht : P.underlying t = some .bool) : RdN enc P W n t (fun x : Bool => [.bool x]) (fun d x => d = .lit (.bool x)) := by
  intro cs d ps h
  obtain ⟨b, rfl, hx⟩ := DataW.trod_bool ht h
  cases hx
  exact ⟨b, rfl, .cons (.bool _) (.nil _), .one rfl⟩
theorem RdN.str (ht : P.underlying t = some .string) : RdN enc P W n t (fun x : ByteArray => [.str x]) (fun d x => d = .lit (.string x.data.toList) ∧ x.size ≤ maxLen) := by
  intro cs d ps h
  obtain ⟨b, rfl, hx, hl⟩ := DataW.trod_string ht h
  cases hx
  exact ⟨b, ⟨rfl, hl⟩, .cons (.str _) (.nil _), .one rfl⟩
theorem cells?_get {a : Addr} {k : Nat} {cs : List Value} (h : W.cells? 0 a k = some cs) : cs.length = k ∧ (0 < k → a.spot = none) ∧ ∀ (j : Nat) (v : Value), cs[j]? = some v → W.cell? ⟨a.block, a.off + j, none⟩ = some v := by
  unfold World.cells? at h
  rw [if_pos (Nat.zero_le _)] at h
  have hl := mapM_some_length h
  simp only [List.length_range] at hl
  have hg : ∀ (j : Nat) (v : Value), cs[j]? = some v → W.cell? (a.add j) = some v := by
    intro j v hv
    have hj : j < k := by
      rcases Nat.lt_or_ge j cs.length with h' | h'
      · omega
      · rw [List.getElem?_eq_none h'] at hv; cases hv
    rw [← hv]
    exact mapM_some_get h j j (by simp [hj])
  have hsp : 0 < k → a.spot = none := by
    intro hk
    have h0 : cs[0]? = some cs[0] := List.getElem?_eq_getElem (by omega)
    have := hg 0 _ h0
    simp only [Addr.add, if_true] at this
    unfold World.cell? at this
    split at this
    · split at this
      · cases this
      · rename_i hs; simpa using hs
    · cases this
  refine ⟨hl, hsp, ?_⟩
  intro j v hv
  have hk : 0 < k := by
    rcases Nat.lt_or_ge j cs.length with h' | h'
    · omega
    · rw [List.getElem?_eq_none h'] at hv; cases hv
  have := hg j v hv
  have hs := hsp hk
  rw [← this]
  congr 1
  unfold Addr.add
  split
  · subst_vars; cases a; simp at hs; simp [hs]
  · rfl

def okPtr {X : Type} (ok : DataW H → X → Prop) : DataW H → Option X → Prop
  | d, none => d = .nil
  | d, some x => ∃ d', d = .ptr d' ∧ ok d' x
def ePtr {X : Type} (e : X → List AV) : Option X → List AV
  | none => [.ptr none]
  | some x => [.ip (e x) 0]
theorem RdN.ptr {X : Type} {e : X → List AV} {ok : DataW H → X → Prop} (ht : P.underlying t = some (.pointer el)) (hk : 0 < P.cellsOf el) (h : RdN enc P W n el e ok) : RdN enc P W (n + 1) t (ePtr e) (okPtr ok) := by
  intro cs d ps k
  rcases DataW.trod_pointer ht k with ⟨rfl, hx⟩ | ⟨a, us, y, m, hm, rfl, hx, h1, h2⟩
  · cases hx
    exact ⟨none, rfl, .cons (.ptr none) (.nil _), .one rfl⟩
  · cases hx; cases hm
    obtain ⟨c1, c2, c3⟩ := cells?_get h1
    obtain ⟨x, x1, x2, x3⟩ := h us y.1 y.2 h2
    refine ⟨some x, ⟨y.1, rfl, x1⟩, .cons ?_ (.nil _), .one rfl⟩
    have hs := c2 hk
    have : Rd (memOf W) (.ip (e x) 0) (.pointer (some ⟨a.block, a.off + 0, none⟩)) := .of_ip 0 (fun j u hu => c3 j u hu) x2 x3
    cases a; simp at hs; subst hs; simpa using this

theorem Two.len {A B : Type} {r : A → B → Prop} : ∀ {l : List A} {m : List B}, Two r l m → l.length = m.length
  | [], [], _ => rfl
  | _ :: _, _ :: _, h => by simp [Two.len h.2]
  | [], _ :: _, h => h.elim
  | _ :: _, [], h => h.elim
def okSl {X : Type} (ok : DataW H → X → Prop) (d : DataW H) (xs : List X) : Prop := (d = .nil ∧ xs = []) ∨ ∃ ds sp, d = .slice ds sp ∧ Two ok ds xs
def eSl {X : Type} (e : X → List AV) (xs : List X) : List AV := [.sl (xs.map e) false]
theorem RdN.slice {X : Type} {e : X → List AV} {ok : DataW H → X → Prop} (ht : P.underlying t = some (.slice el)) (hc : 0 < P.cellsOf el) (h : RdN enc P W n el e ok) : RdN enc P W (n + 1) t (eSl e) (okSl ok) := by
  intro cs d ps k
  rcases DataW.trod_slice ht k with ⟨rfl, hx⟩ | ⟨a, len, cap, elems, rest, m, hm, rfl, hx, _, hb1, hb2, hl, hr, _⟩
  · cases hx
    exact ⟨[], .inl ⟨rfl, rfl⟩, .cons (.sl0 false none 0 (fun _ _ => trivial) (fun _ => rfl) (fun h => by cases h)) (.nil _), .one rfl⟩
  · cases hx; cases hm
    have hel : ∀ (i : Nat) (y : DataW H × List MemPlace), elems[i]? = some y → ∃ us, W.cells? 0 (a.add (i * P.cellsOf el)) (P.cellsOf el) = some us ∧ DataW.trod enc P W 0 (fun _ => true) true n el us = some y := by
      intro i y hy
      have hi : i < len := by
        rcases Nat.lt_or_ge i elems.length with h' | h'
        · omega
        · rw [List.getElem?_eq_none h'] at hy; cases hy
      have := hr i hi
      rw [hy] at this
      simpa [Option.bind_eq_some_iff] using this
    -- each element's x
    have key : ∀ (l : List (DataW H × List MemPlace)) (from_ : Nat), (∀ (i : Nat) (y : DataW H × List MemPlace), l[i]? = some y → ∃ us, W.cells? 0 (a.add ((from_ + i) * P.cellsOf el)) (P.cellsOf el) = some us ∧ DataW.trod enc P W 0 (fun _ => true) true n el us = some y) →
        ∃ (xs : List X) (vss : List (List Value)), Two ok (l.map (·.1)) xs ∧ vss.length = l.length ∧ ∀ (i : Nat) (vs : List Value), vss[i]? = some vs → W.cells? 0 (a.add ((from_ + i) * P.cellsOf el)) (P.cellsOf el) = some vs ∧ ∃ x, xs[i]? = some x ∧ Rds (memOf W) (e x) vs ∧ Ones vs := by
      intro l
      induction l with
      | nil => intro _ _; exact ⟨[], [], trivial, rfl, by simp⟩
      | cons y l ih =>
        intro from_ hy
        obtain ⟨us, u1, u2⟩ := hy 0 y (by simp)
        obtain ⟨x, x1, x2, x3⟩ := h us y.1 y.2 u2
        obtain ⟨xs, vss, i1, i2, i3⟩ := ih (from_ + 1) (fun i z hz => by
          have := hy (i + 1) z (by simpa using hz)
          rwa [show from_ + (i + 1) = from_ + 1 + i by omega] at this)
        refine ⟨x :: xs, us :: vss, ⟨x1, i1⟩, by simp [i2], ?_⟩
        intro i vs hvs
        cases i with
        | zero => simp at hvs; subst hvs; exact ⟨u1, x, by simp, x2, x3⟩
        | succ i =>
          have := i3 i vs (by simpa using hvs)
          rw [show from_ + 1 + i = from_ + (i + 1) by omega] at this
          simpa using this
    obtain ⟨xs, vss, k1, k2, k3⟩ := key elems 0 (fun i y hy => by rw [Nat.zero_add]; exact hel i y hy)
    simp only [Nat.zero_add] at k3
    have hx : xs.length = len := by have := k1.len; simp at this; omega
    refine ⟨xs, .inr ⟨_, _, rfl, k1⟩, .cons ?_ (.nil _), .one rfl⟩
    by_cases h0 : len = 0
    · have hxs : xs = [] := List.eq_nil_of_length_eq_zero (by omega)
      rw [hxs, h0]
      exact .sl0 false (some a) cap (fun _ _ => trivial) (fun h => by cases h) (fun h => by cases h)
    · have hs : a.spot = none := by
        have hv0 : vss[0]? = some vss[0] := List.getElem?_eq_getElem (by omega)
        have := (cells?_get (k3 0 _ hv0).1).2.1 hc
        simpa [Addr.add] using this
      have hadd : ∀ i, a.add i = ⟨a.block, a.off + i, none⟩ := by
        intro i; unfold Addr.add; split
        · subst_vars; cases a; simp at hs; simp [hs]
        · rfl
      have R : Rows (memOf W) a.block a.off (P.cellsOf el) (xs.map e) vss := by
        refine ⟨by simp; omega, ?_, ?_, ?_, ?_⟩
        · intro i ee vs h1 h2
          obtain ⟨q1, x, q2, q3, q4⟩ := k3 i vs h2
          simp only [List.getElem?_map, q2, Option.map_some, Option.some.injEq] at h1
          subst h1
          have := (cells?_get q1).1
          exact ⟨by rw [q3.len]; exact this, this⟩
        · intro i vs j v h2 hj
          obtain ⟨q1, x, q2, q3, q4⟩ := k3 i vs h2
          have := (cells?_get q1).2.2 j v hj
          rw [hadd] at this
          exact this
        · intro i vs h2
          exact (k3 i vs h2).2.choose_spec.2.2
        · intro i ee vs j c v h1 h2 hj hv
          obtain ⟨q1, x, q2, q3, q4⟩ := k3 i vs h2
          simp only [List.getElem?_map, q2, Option.map_some, Option.some.injEq] at h1
          subst h1
          exact q3.at_ j c v hj hv
      have := Rd.of_rows (I := memOf W) false (cap := cap) (by simpa [hx] using hb1) (fun h => by cases h) R
      have hz : (xs.map e).length = len := by simpa using hx
      rw [hz] at this
      cases a; simp at hs; subst hs; exact this
theorem RdFs.nil {total : Nat} : RdFs enc P W n total total [] (fun _ : Unit => []) (fun ds _ => ds = []) := by
  intro cs xs hl hx
  have : xs = [] := by cases xs with
    | nil => rfl
    | cons y xs => have := hx.1; simp at this
  subst this
  have e : cs.drop total = [] := List.drop_eq_nil_of_le (by omega)
  rw [e]
  exact ⟨(), rfl, .nil _, .nil⟩
theorem RdFs.cons {total off off' : Nat} {f : Field} {fs : List Field} {X Y : Type} {e : X → List AV} {ok : DataW H → X → Prop} {e' : Y → List AV} {ok' : List (DataW H) → Y → Prop} (ho : f.offset = off) (ho' : off + P.cellsOf f.type = off') (h : RdN enc P W n f.type e ok) (hs : RdFs enc P W n total off' fs e' ok') :
    RdFs enc P W n total off (f :: fs) (fun x : X × Y => e x.1 ++ e' x.2) (fun ds x => ∃ d r, ds = d :: r ∧ ok d x.1 ∧ ok' r x.2) := by
  intro cs xs hl hx
  cases xs with
  | nil => have := hx.1; simp at this
  | cons y xs =>
    have h0 := hx.2 0 f (by simp)
    simp only [List.getElem?_cons_zero, ho] at h0
    obtain ⟨x, x1, x2, x3⟩ := h _ _ _ h0
    obtain ⟨z, z1, z2, z3⟩ := hs cs xs hl ⟨by simpa using hx.1, fun i g hg => by simpa using hx.2 (i + 1) g (by simpa using hg)⟩
    refine ⟨(x, z), ⟨_, _, rfl, x1, z1⟩, ?_, ?_⟩
    · have := x2.append z2
      rwa [← ho', ← List.drop_drop, List.take_append_drop] at this
    · have := x3.append z3
      rwa [← ho', ← List.drop_drop, List.take_append_drop] at this
theorem RdN.struct {X : Type} {e : X → List AV} {ok : List (DataW H) → X → Prop} {fs : Array Field} (ht : P.underlying t = some (.struct fs)) (h : RdFs enc P W n (P.cellsOf t) 0 fs.toList e ok) : RdN enc P W (n + 1) t e (fun d x => ∃ ds, d = .agg ds ∧ ok ds x) := by
  intro cs d ps k
  obtain ⟨xs, m, hm, hx, hl, hxl, hf⟩ := DataW.trod_struct ht k
  cases hm; cases hx
  obtain ⟨x, x1, x2, x3⟩ := h cs xs hl ⟨by simpa using hxl, fun i f hf' => hf i f (by simpa using hf')⟩
  exact ⟨x, ⟨_, rfl, x1⟩, by simpa using x2, by simpa using x3⟩

end
end Pg
