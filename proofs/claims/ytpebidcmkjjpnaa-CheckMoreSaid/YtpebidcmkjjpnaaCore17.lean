/- The core, seventeenth part: loops by an invariant, heaps in two parts, owned lists, numbers. -/
import Derived.Test.YtpebidcmkjjpnaaCore16
import Derived.Laws.BitsLemmas
namespace Pg
open Go
set_option linter.unusedSimpArgs false
set_option linter.unusedVariables false

/-- A loop by an invariant with a measure; what is owned may be let go at each round's end. -/
theorem L_inv {P : Program} {N : Nat} {c : RCode} {Q : Exit → Env → AHeap → Prop} {Inv : Nat → Env → AHeap → Prop}
    (step : ∀ n e h, Inv n e h → W P N c (onNormal (fun e h => ∃ m g, m < n ∧ AHeap.le g h ∧ Inv m e g) Q) e h) : ∀ n e h, Inv n e h → L P N c Q e h := by
  intro n
  induction n using Nat.strongRecOn with
  | _ n ih =>
    intro e h hi B F code hc I w a s t hd
    refine lw_unroll (wp_mono (T_of_W _ _ _ _ (step n e h hi) B F code hc I w a s t hd) ?_)
    intro ex a' w' hpost
    obtain ⟨J, e', g, kk, s', t', ext, nw, d'⟩ := hpost
    cases ex with
    | normal =>
      intro b kk2 cs
      obtain ⟨m, g', hm, le, hi'⟩ := kk
      obtain ⟨e2, a2, w2, p2, r2⟩ := ih m hm e' g' hi' B F code hc J w' a' s' (t'.forget le) d' b kk2 cs
      exact ⟨e2, a2, w2, post_trans (ext.trans nw (.refl g w')) (nw.forget le) p2, r2⟩
    | exit i => exact ⟨J, e', g, kk, s', t', ext, nw, d'⟩
    | goto l => exact ⟨J, e', g, kk, s', t', ext, nw, d'⟩
    | ret => exact ⟨J, e', g, kk, s', t', ext, nw, d'⟩
    | panic ch => exact ⟨J, e', g, kk, s', t', ext, nw, d'⟩
    | outgrown => exact ⟨J, e', g, kk, s', t', ext, nw, d'⟩

theorem lT_inv {P : Program} {N : Nat} {c : RCode} {Q : Exit → Env → AHeap → Tok → Prop} (Inv : Nat → Env → AHeap → Prop) (n : Nat) {e : Env} {h : AHeap} (i : Inv n e h)
    (step : ∀ n e h, Inv n e h → wT .go P N c (fun x e h t => onNormalT t (fun e h t => ∃ m g, m < n ∧ AHeap.le g h ∧ Inv m e g) Q x e h) e h) : lT .go P N c Q e h :=
  L_inv (Inv := Inv) step n e h i

/-! ### Heaps in two parts -/
theorem join_left {s l : AHeap} {b : Nat} {o : AObj} (e : s b = some o) : (s.join l) b = some o := by simp [AHeap.join, e]
theorem join_right {s l : AHeap} {b : Nat} (e : s b = none) : (s.join l) b = l b := by simp [AHeap.join, e]
theorem join_none {s l : AHeap} {b : Nat} (e : (s.join l) b = none) : s b = none ∧ l b = none := by
  unfold AHeap.join at e
  split at e
  · cases e
  · exact ⟨‹_›, e⟩
theorem join_upd_left (s l : AHeap) (b : Nat) (o : AObj) : (s.join l).upd b o = (s.upd b o).join l := by
  funext c; simp only [AHeap.upd, AHeap.join]; split <;> rfl
theorem join_upd_right {s : AHeap} (l : AHeap) {b : Nat} (o : AObj) (e : s b = none) : (s.join l).upd b o = s.join (l.upd b o) := by
  funext c; simp only [AHeap.upd, AHeap.join]
  by_cases hc : c = b
  · subst hc; simp [e]
  · simp [hc]
theorem join_del_right {s : AHeap} (l : AHeap) {b : Nat} (e : s b = none) : (s.join l).del b = s.join (l.del b) := by
  funext c; simp only [AHeap.del, AHeap.join]
  by_cases hc : c = b
  · subst hc; simp [e]
  · simp [hc]
theorem apart_upd_right {s l : AHeap} (a : s.apart l) {b : Nat} (o : AObj) (e : s b = none) : s.apart (l.upd b o) := by
  intro c x hc
  by_cases hb : c = b
  · subst hb; rw [e] at hc; cases hc
  · rw [upd_ne _ _ _ hb]; exact a c x hc
theorem apart_upd_left {s l : AHeap} (a : s.apart l) {b : Nat} (o : AObj) (e : l b = none) : (s.upd b o).apart l := by
  intro c x hc
  by_cases hb : c = b
  · subst hb; exact e
  · rw [upd_ne _ _ _ hb] at hc; exact a c x hc
theorem apart_del_right {s l : AHeap} (a : s.apart l) (b : Nat) : s.apart (l.del b) := by
  intro c x hc
  by_cases hb : c = b
  · subst hb; exact del_same _ _
  · rw [del_ne _ _ hb]; exact a c x hc
def eheap : AHeap := fun _ => none
theorem join_eheap (s : AHeap) : s.join eheap = s := by
  funext c; simp only [AHeap.join, eheap]; split
  · rename_i o h; exact h.symm
  · rename_i h; exact h.symm
theorem eheap_join (s : AHeap) : eheap.join s = s := by funext c; simp [AHeap.join, eheap]
theorem apart_eheap (s : AHeap) : s.apart eheap := fun _ _ _ => rfl
theorem eheap_apart (s : AHeap) : eheap.apart s := fun _ _ e => by cases e
theorem eheap_le (s : AHeap) : eheap.le s := fun _ _ e => by cases e
theorem join_le {s l l' : AHeap} (a : l'.le l) : (s.join l').le (s.join l) := by
  intro b o e
  rcases AHeap.join_cases e with h | ⟨h1, h2⟩
  · exact join_left h
  · rw [join_right h1]; exact a b o h2
theorem upd_le {l : AHeap} {b : Nat} {o : AObj} (e : l b = none) : l.le (l.upd b o) := AHeap.le_upd e
theorem apart_le {s l l' : AHeap} (a : s.apart l) (le : l'.le l) : s.apart l' := by
  intro b o e
  have := a b o e
  cases h : l' b with
  | none => rfl
  | some x => rw [le b x h] at this; cases this
theorem callT_frame {P : Program} {f : FuncId} {args : List AV} {s l : AHeap} {K : AV → AHeap → Prop} {K' : AV → AHeap → Tok → Prop} (c : ACalls P f args s K) (a : s.apart l) (m : ∀ v s', K v s' → s'.apart l → K' v (s'.join l) .go) : callT .go P f args (s.join l) K' :=
  callT_of (c.frame a) fun v g ⟨s', e, a', k⟩ => by subst e; exact m v s' k a'
theorem join_swap {s r : AHeap} (l : AHeap) (a : s.apart r) : s.join (r.join l) = r.join (s.join l) := by
  funext b
  simp only [AHeap.join]
  cases h : s b with
  | none => rfl
  | some o => rw [a b o h]
theorem apart_join {s r l : AHeap} (a : s.apart r) (b : s.apart l) : s.apart (r.join l) := fun c o e => by simp only [AHeap.join, a c o e]; exact b c o e
theorem apart_join_left {s r l : AHeap} (a : s.apart (r.join l)) : s.apart r := fun c o e => (join_none (a c o e)).1
theorem apart_join_right {s r l : AHeap} (a : s.apart (r.join l)) : s.apart l := fun c o e => (join_none (a c o e)).2
theorem apart_symm {s r : AHeap} (a : s.apart r) : r.apart s := fun c o e => by
  cases h : s c with
  | none => rfl
  | some x => have := a c x h; rw [e] at this; cases this
/-- A call that works on the second of three parts. -/
theorem callT_frame2 {P : Program} {f : FuncId} {args : List AV} {s r l : AHeap} {K : AV → AHeap → Prop} {K' : AV → AHeap → Tok → Prop} (c : ACalls P f args r K) (a : s.apart (r.join l)) (b : r.apart l) (m : ∀ v r', K v r' → s.apart (r'.join l) → r'.apart l → K' v (s.join (r'.join l)) .go) : callT .go P f args (s.join (r.join l)) K' := by
  have a1 := apart_join_left a
  have a2 := apart_join_right a
  rw [join_swap l a1]
  refine callT_frame c (apart_join (apart_symm a1) b) (fun v r' k ap => ?_)
  have b1 := apart_symm (apart_join_left ap)
  have b2 := apart_join_right ap
  rw [← join_swap l b1]
  exact m v r' k (apart_join b1 a2) b2
theorem callT_any {P : Program} {f : FuncId} {args : List AV} {l : AHeap} {K : AV → AHeap → Prop} {K' : AV → AHeap → Tok → Prop} (c : ACalls P f args eheap K) (m : ∀ v s', K v s' → s'.apart l → K' v (s'.join l) .go) : callT .go P f args l K' := by
  have := callT_frame (K' := K') c (eheap_apart l) m
  rwa [eheap_join] at this

theorem apart_at {s l : AHeap} (a : s.apart l) {p : Nat} {o : AObj} (e : l p = some o) : s p = none := by
  cases h : s p with
  | none => rfl
  | some x => have := a p x h; rw [e] at this; cases this

/-! ### Owned lists -/
/-- 'v' is a list of the rows that nobody else has; it is nil, or its cells are block 'f'. -/
def OL (h : AHeap) (ty : TypeId) (size : Nat) (v : AV) (rows : List (List AV)) : Prop :=
  (v = .sl [] true ∧ rows = []) ∨ ∃ b cap cs, v = .os b rows.length cap ∧ h b = some (.blk cs (cap * size) ty) ∧ rows.length ≤ cap ∧ rows.length * size ≤ cs.length ∧ cs.take (rows.length * size) = rows.flatten ∧ ∀ e ∈ rows, e.length = size
def OLnot (v : AV) (p : Nat) : Prop := ∀ b n cap, v = .os b n cap → b ≠ p
theorem OLnot.nil (p : Nat) : OLnot (.sl [] true) p := fun _ _ _ h => by cases h
theorem OLnot.os {b n cap p : Nat} (h : b ≠ p) : OLnot (.os b n cap) p := fun _ _ _ e => by cases e; exact h
theorem OL.nil (h : AHeap) (ty : TypeId) (size : Nat) : OL h ty size (.sl [] true) [] := .inl ⟨rfl, rfl⟩
theorem OL.len {h : AHeap} {ty : TypeId} {size : Nat} {v : AV} {rows : List (List AV)} (o : OL h ty size v rows) (g : AHeap) : alen g 1 v = some (.int .i64 rows.length) := by
  rcases o with ⟨rfl, rfl⟩ | ⟨b, cap, cs, rfl, _⟩ <;> rfl
theorem OL.of_le {h g : AHeap} {ty : TypeId} {size : Nat} {v : AV} {rows : List (List AV)} (o : OL h ty size v rows) (le : h.le g) : OL g ty size v rows := by
  rcases o with h0 | ⟨b, cap, cs, h1, h2, h3⟩
  · exact .inl h0
  · exact .inr ⟨b, cap, cs, h1, le _ _ h2, h3⟩
theorem OL.not_fresh {h : AHeap} {ty : TypeId} {size : Nat} {v : AV} {rows : List (List AV)} (o : OL h ty size v rows) {p : Nat} (hp : h p = none) : OLnot v p := by
  intro b n cap e
  rcases o with ⟨rfl, _⟩ | ⟨b', cap', cs, rfl, h2, _⟩
  · cases e
  · cases e; intro hh; subst hh; rw [hp] at h2; cases h2
theorem OL.upd {h : AHeap} {ty : TypeId} {size : Nat} {v : AV} {rows : List (List AV)} (o : OL h ty size v rows) {p : Nat} (n : OLnot v p) (x : AObj) : OL (h.upd p x) ty size v rows := by
  rcases o with h0 | ⟨b, cap, cs, h1, h2, h3⟩
  · exact .inl h0
  · refine .inr ⟨b, cap, cs, h1, ?_, h3⟩
    rw [upd_ne _ _ _ (n _ _ _ h1)]; exact h2
theorem OL.del {h : AHeap} {ty : TypeId} {size : Nat} {v : AV} {rows : List (List AV)} (o : OL h ty size v rows) {p : Nat} (n : OLnot v p) : OL (h.del p) ty size v rows := by
  rcases o with h0 | ⟨b, cap, cs, h1, h2, h3⟩
  · exact .inl h0
  · refine .inr ⟨b, cap, cs, h1, ?_, h3⟩
    rw [del_ne _ _ (n _ _ _ h1)]; exact h2
theorem flatten_take_drop {rows : List (List AV)} {size : Nat} (h : ∀ e ∈ rows, e.length = size) : ∀ {i : Nat} {e : List AV}, rows[i]? = some e → (rows.flatten.drop (i * size)).take size = e ∧ i * size + size ≤ rows.flatten.length := by
  induction rows with
  | nil => intro i e he; simp at he
  | cons a r ih =>
    intro i e he
    have ha := h a (by simp)
    cases i with
    | zero =>
      simp at he; subst he
      refine ⟨?_, ?_⟩
      · rw [Nat.zero_mul, List.drop_zero, List.flatten_cons, List.take_left' ha]
      · rw [List.flatten_cons, List.length_append, ha]; omega
    | succ i =>
      obtain ⟨h1, h2⟩ := ih (fun x hx => h x (by simp [hx])) (by simpa using he)
      refine ⟨?_, ?_⟩
      · rw [List.flatten_cons, List.drop_append, show a.drop ((i + 1) * size) = [] from List.drop_eq_nil_of_le (by rw [ha, Nat.add_mul]; omega), List.nil_append, ha, show (i + 1) * size - size = i * size by rw [Nat.add_mul]; omega]
        exact h1
      · simp only [List.flatten_cons, List.length_append, ha, Nat.add_mul]; omega
theorem OL.ia {h : AHeap} {ty : TypeId} {size : Nat} {v : AV} {rows : List (List AV)} (o : OL h ty size v rows) {k : IntKind} {i : Nat} {e : List AV} (he : rows[i]? = some e) :
    ∃ b cs tot, aia size v (.int k i) = some (.ptr (some ⟨b, i * size, none⟩)) ∧ h b = some (.blk cs tot ty) ∧ (cs.drop (i * size)).take size = e ∧ i * size + size ≤ cs.length := by
  rcases o with ⟨rfl, rfl⟩ | ⟨b, cap, cs, rfl, h2, h3, h4, h5, h6⟩
  · simp at he
  · have hi : i < rows.length := by
      rcases Nat.lt_or_ge i rows.length with h | h
      · exact h
      · rw [List.getElem?_eq_none h] at he; cases he
    obtain ⟨g1, g2⟩ := flatten_take_drop h6 he
    refine ⟨b, cs, cap * size, ?_, h2, ?_, ?_⟩
    · simp only [aia]; rw [if_pos ⟨by omega, by exact_mod_cast hi⟩]; simp
    · rw [← h5, List.drop_take, List.take_take] at g1
      rw [← g1]
      congr 1
      have : i * size + size ≤ rows.length * size := by rw [← Nat.succ_mul]; exact Nat.mul_le_mul_right _ hi
      omega
    · have : i * size + size ≤ rows.length * size := by rw [← Nat.succ_mul]; exact Nat.mul_le_mul_right _ hi
      omega
/-- A whole element is read. -/
theorem OL.load {h : AHeap} {ty : TypeId} {size : Nat} {v : AV} {rows : List (List AV)} (o : OL h ty size v rows) {k : IntKind} {i : Nat} {e : List AV} (he : rows[i]? = some e) {p : AV} (hp : aia size v (.int k i) = some p) :
    aload h (some size) p = some (.agg e) := by
  obtain ⟨b, cs, tot, h1, h2, h3, h4⟩ := o.ia (k := k) he
  rw [h1] at hp; cases hp
  simp only [aload, h2]; rw [if_pos h4, h3]
theorem OL.load1 {h : AHeap} {ty : TypeId} {v : AV} {rows : List (List AV)} (o : OL h ty 1 v rows) {k : IntKind} {i : Nat} {x : AV} (he : rows[i]? = some [x]) {p : AV} (hp : aia 1 v (.int k i) = some p) :
    aload h none p = some x := by
  obtain ⟨b, cs, tot, h1, h2, h3, h4⟩ := o.ia (k := k) he
  rw [h1] at hp; cases hp
  simp only [aload, h2]
  have := congrArg (fun l => l[0]?) h3
  simp only [List.getElem?_take, List.getElem?_drop] at this
  simpa using this
theorem OL.fa {h : AHeap} {ty : TypeId} {size : Nat} {v : AV} {rows : List (List AV)} (o : OL h ty size v rows) {k : IntKind} {i : Nat} {e : List AV} (he : rows[i]? = some e) {j : Nat} {x : AV} (hj : e[j]? = some x) {p q : AV} (hp : aia size v (.int k i) = some p) (hq : afa j p = some q) :
    aload h none q = some x := by
  obtain ⟨b, cs, tot, h1, h2, h3, h4⟩ := o.ia (k := k) he
  rw [h1] at hp; cases hp
  simp only [afa, Option.some.injEq] at hq; subst hq
  simp only [aload, h2]
  have hjl : j < size := by
    have : e.length ≤ size := by rw [← h3]; simp; omega
    rcases Nat.lt_or_ge j e.length with h | h
    · omega
    · rw [List.getElem?_eq_none h] at hj; cases hj
  have := congrArg (fun l => l[j]?) h3
  simp only [List.getElem?_take, List.getElem?_drop, hjl, if_true] at this
  rw [this, hj]

theorem OL.at1 {h : AHeap} {ty : TypeId} {v : AV} {rows : List (List AV)} (o : OL h ty 1 v rows) {k : IntKind} {i : Nat} {x : AV} (he : rows[i]? = some [x]) :
    ∃ b cs tot, aia 1 v (.int k i) = some (.ptr (some ⟨b, i * 1, none⟩)) ∧ h b = some (.blk cs tot ty) ∧ cs[i * 1]? = some x := by
  obtain ⟨b, cs, tot, h1, h2, h3, h4⟩ := o.ia (k := k) he
  have := o.load1 (k := k) he h1
  simp only [aload, h2] at this
  exact ⟨b, cs, tot, h1, h2, this⟩
theorem OL.at {h : AHeap} {ty : TypeId} {size : Nat} {v : AV} {rows : List (List AV)} (o : OL h ty size v rows) {k : IntKind} {i : Nat} {e : List AV} (he : rows[i]? = some e) :
    ∃ b cs tot, aia size v (.int k i) = some (.ptr (some ⟨b, i * size, none⟩)) ∧ h b = some (.blk cs tot ty) ∧ (cs.drop (i * size)).take size = e ∧ i * size + size ≤ cs.length ∧ ∀ (j : Nat) (x : AV), e[j]? = some x → cs[i * size + j]? = some x := by
  obtain ⟨b, cs, tot, h1, h2, h3, h4⟩ := o.ia (k := k) he
  refine ⟨b, cs, tot, h1, h2, h3, h4, fun j x hj => ?_⟩
  have := o.fa (k := k) he hj h1 (q := .ptr (some ⟨b, i * size + j, none⟩)) rfl
  simpa only [aload, h2] using this

/-- append to an owned list. -/
theorem OL.append {h : AHeap} {ty : TypeId} {size bytes : Nat} {v : AV} {rows : List (List AV)} (o : OL h ty size v rows) {m : Nat} {xs : List AV} {new : List (List AV)} (hm : new.length = m) (hx : new.flatten = xs) (hn : ∀ e ∈ new, e.length = size) (room : roomFor (rows.length + m) bytes)
    {K : AV → AHeap → Tok → Prop} (m0 : m ≠ 0)
    (k : ∀ b cap cs h0, (h0 = h ∨ ∃ b0 n0 c0, v = .os b0 n0 c0 ∧ h0 = h.del b0) → h0 b = none → OL (h0.upd b (.blk cs (cap * size) ty)) ty size (.os b (rows.length + m) cap) (rows ++ new) → K (.os b (rows.length + m) cap) (h0.upd b (.blk cs (cap * size) ty)) .go) : appendT .go h ty size bytes v m xs K := by
  have hfl := fun (l : List (List AV)) hl => flatten_length (α := AV) size l hl
  unfold appendT aappend
  rcases o with ⟨rfl, rfl⟩ | ⟨b, cap, cs, rfl, h2, h3, h4, h5, h6⟩
  · simp only
    refine ⟨fun h => absurd h m0, fun _ => ⟨trivial, room, by simp, .inl ?_⟩⟩
    intro b cap hb hc
    refine k b cap _ h (.inl rfl) hb (.inr ⟨b, cap, _, ?_, upd_same _ _ _, ?_, ?_, ?_, ?_⟩)
    · simp [hm]
    · simp [hm] at hc ⊢; omega
    · simp [← hx, hfl new hn]
    · rw [List.take_of_length_le]
      · simp [hx]
      · simp [← hx, hfl new hn]
    · simpa using hn
  · simp only [h2]
    refine ⟨trivial, trivial, h3, h4, room, ?_⟩
    intro b' cap' hb' hc'
    refine k b' cap' _ (h.del b) (.inr ⟨b, rows.length, cap, rfl, rfl⟩) hb' (.inr ⟨b', cap', _, ?_, upd_same _ _ _, ?_, ?_, ?_, ?_⟩)
    · simp [hm]
    · simp [hm]; omega
    · rw [h5, ← hx, List.length_append, List.length_append, hfl rows h6, hfl new hn, Nat.add_mul]; exact Nat.le_refl _
    · rw [List.take_of_length_le]
      · rw [h5, ← hx, List.flatten_append]
      · rw [h5, ← hx, List.length_append, List.length_append, hfl rows h6, hfl new hn, Nat.add_mul]; exact Nat.le_refl _
    · intro e he
      rcases List.mem_append.1 he with h | h
      · exact h6 e h
      · exact hn e h

/-- An owned list is cut. -/
theorem OL.cut {h : AHeap} {ty : TypeId} {size : Nat} {v : AV} {rows : List (List AV)} (o : OL h ty size v rows) {k : IntKind} {n : Int} (h0 : 0 ≤ n) (hn : n ≤ rows.length) :
    ∃ v', aslice false size v none (some (.int k n)) = some v' ∧ OL h ty size v' (rows.take n.toNat) ∧ ∀ p, OLnot v p → OLnot v' p := by
  obtain ⟨m, rfl⟩ := Int.eq_ofNat_of_zero_le h0
  rcases o with ⟨rfl, rfl⟩ | ⟨b, cap, cs, rfl, h2, h3, h4, h5, h6⟩
  · have hm : m = 0 := by simpa using hn
    subst hm
    refine ⟨.sl [] true, ?_, .inl ⟨rfl, by simp⟩, fun p _ => .nil p⟩
    simp [aslice, abound]
  · have hm : m ≤ rows.length := by exact_mod_cast hn
    have hl : (rows.take m).length = m := by simp; omega
    have hms : m * size ≤ rows.length * size := Nat.mul_le_mul_right _ hm
    refine ⟨.os b m cap, ?_, .inr ⟨b, cap, cs, ?_, h2, ?_, ?_, ?_, ?_⟩, fun p hp => .os (hp _ _ _ rfl)⟩
    · simp only [aslice, abound, Int.toNat_natCast]
      rw [if_pos (by omega)]; simp only; rw [if_pos ⟨hm, h3⟩]
    · simp only [Int.toNat_natCast, hl]
    · simp only [Int.toNat_natCast, hl]; omega
    · simp only [Int.toNat_natCast, hl]; omega
    · simp only [Int.toNat_natCast, hl]
      have e1 : cs.take (m * size) = (cs.take (rows.length * size)).take (m * size) := by rw [List.take_take, Nat.min_eq_left hms]
      rw [e1, h5]
      have e2 : rows.flatten = (rows.take m).flatten ++ (rows.drop m).flatten := by rw [← List.flatten_append, List.take_append_drop]
      rw [e2, List.take_left']
      rw [flatten_length size _ (fun e he => h6 e (List.mem_of_mem_take he)), hl]
    · exact fun e he => h6 e (List.mem_of_mem_take he)
theorem flatten_set {size : Nat} {e' : List AV} (he' : e'.length = size) : ∀ {rows : List (List AV)} {i : Nat}, (∀ e ∈ rows, e.length = size) → i < rows.length → (rows.set i e').flatten = splice rows.flatten (i * size) e'
  | [], i, _, hi => by simp at hi
  | a :: r, 0, h, _ => by
    have ha := h a (by simp)
    simp only [List.set_cons_zero, List.flatten_cons, splice, Nat.zero_mul, List.take_zero, List.nil_append, Nat.zero_add]
    rw [he', ← ha, List.drop_left]
  | a :: r, i + 1, h, hi => by
    have ha := h a (by simp)
    have ih := flatten_set he' (rows := r) (i := i) (fun e he => h e (by simp [he])) (by simpa using hi)
    have e1 : (i + 1) * size = a.length + i * size := by rw [ha, Nat.add_mul]; omega
    simp only [List.set_cons_succ, List.flatten_cons, ih, splice]
    rw [e1, List.take_length_add_append, Nat.add_assoc, List.drop_length_add_append, List.append_assoc]
theorem splice_take {α : Type} {cs : List α} {o n : Nat} {ds : List α} (h : o + ds.length ≤ n) (hn : n ≤ cs.length) : (splice cs o ds).take n = splice (cs.take n) o ds := by
  simp only [splice]
  rw [List.take_append, List.take_append, List.take_take, List.length_take, List.take_take, List.drop_take]
  rw [Nat.min_eq_left (by omega : o ≤ cs.length), Nat.min_eq_right (by omega : o ≤ n), Nat.min_eq_left (by omega : o ≤ n)]
  rw [List.take_of_length_le (by omega : ds.length ≤ n - o), show n - (o + ds.length) = n - o - ds.length by omega]
/-- A whole element is written. -/
theorem OL.store {h : AHeap} {ty : TypeId} {size : Nat} {v : AV} {rows : List (List AV)} (o : OL h ty size v rows) {k : IntKind} {i : Nat} (hi : i < rows.length) {e' : List AV} (he' : e'.length = size) :
    ∃ b cs tot n c, v = .os b n c ∧ aia size v (.int k i) = some (.ptr (some ⟨b, i * size, none⟩)) ∧ h b = some (.blk cs tot ty) ∧ i * size + size ≤ cs.length ∧
      OL (h.upd b (.blk (splice cs (i * size) e') tot ty)) ty size v (rows.set i e') := by
  rcases o with ⟨rfl, rfl⟩ | ⟨b, cap, cs, rfl, h2, h3, h4, h5, h6⟩
  · simp at hi
  · have hle : i * size + size ≤ rows.length * size := by rw [← Nat.succ_mul]; exact Nat.mul_le_mul_right _ hi
    refine ⟨b, cs, cap * size, _, _, rfl, ?_, h2, by omega, .inr ⟨b, cap, _, ?_, upd_same _ _ _, ?_, ?_, ?_, ?_⟩⟩
    · simp only [aia]; rw [if_pos ⟨by omega, by exact_mod_cast hi⟩]; simp
    · simp
    · simpa using h3
    · rw [splice_length _ _ _ (by rw [he']; omega)]; simpa using h4
    · rw [List.length_set, splice_take (by rw [he']; omega) h4, h5, flatten_set he' h6 hi]
    · intro e he
      rcases List.mem_or_eq_of_mem_set he with h | h
      · exact h6 e h
      · rw [h]; exact he'

theorem splice_nil {α : Type} (cs : List α) : splice cs 0 [] = cs := by simp [splice]
theorem splice_zero {α : Type} (c d : α) (cs ds : List α) : splice (c :: cs) 0 (d :: ds) = d :: splice cs 0 ds := by simp [splice]
theorem splice_succ {α : Type} (c : α) (cs ds : List α) (o : Nat) : splice (c :: cs) (o + 1) ds = c :: splice cs o ds := by
  simp only [splice, List.take_succ_cons, List.cons_append]
  rw [show o + 1 + ds.length = (o + ds.length) + 1 by omega, List.drop_succ_cons]
theorem le_upd_upd {h g : AHeap} (le : h.le g) (b : Nat) (o : AObj) : (h.upd b o).le (g.upd b o) := by
  intro c x e
  by_cases hc : c = b
  · subst hc; rw [upd_same] at e ⊢; exact e
  · rw [upd_ne _ _ _ hc] at e ⊢; exact le c x e

section
variable (b : Bool) (k : IntKind) (n : Int) (s : ByteArray) (a : Option Addr) (cs : List AV) (o m c : Nat) (es : List (List AV)) (f : Bool) (r : Option Nat) (fn : Fn) (t : TypeId) (v : AV)
theorem cells_bool : (AV.bool b).cells? = some [.bool b] := rfl
theorem cells_int : (AV.int k n).cells? = some [.int k n] := rfl
theorem cells_str : (AV.str s).cells? = some [.str s] := rfl
theorem cells_ptr : (AV.ptr a).cells? = some [.ptr a] := rfl
theorem cells_ip : (AV.ip cs o).cells? = some [.ip cs o] := rfl
theorem cells_sl : (AV.sl es f).cells? = some [.sl es f] := rfl
theorem cells_os : (AV.os o m c).cells? = some [.os o m c] := rfl
theorem cells_map : (AV.map r).cells? = some [.map r] := rfl
theorem cells_func (x y : List AV) : (AV.func fn x y).cells? = some [.func fn x y] := rfl
theorem cells_nilFunc : AV.nilFunc.cells? = some [.nilFunc] := rfl
theorem cells_iface : (AV.iface t v).cells? = some [.iface t v] := rfl
theorem cells_nilIface : AV.nilIface.cells? = some [.nilIface] := rfl
theorem cells_agg : (AV.agg cs).cells? = some cs := rfl
end
theorem OL.cells {h : AHeap} {ty : TypeId} {size : Nat} {v : AV} {rows : List (List AV)} (o : OL h ty size v rows) : v.cells? = some [v] := by
  rcases o with ⟨rfl, _⟩ | ⟨b, cap, cs, rfl, _⟩ <;> rfl

theorem OL.of_join_right {s l : AHeap} {ty : TypeId} {size : Nat} {v : AV} {rows : List (List AV)} (o : OL (s.join l) ty size v rows) (n : ∀ b m c, v = .os b m c → s b = none) : OL l ty size v rows := by
  rcases o with h0 | ⟨b, cap, cs, h1, h2, h3⟩
  · exact .inl h0
  · exact .inr ⟨b, cap, cs, h1, by rw [← h2, join_right (n _ _ _ h1)], h3⟩
/-- append to a list of the second part. -/
theorem OL.append_join {s l : AHeap} {ty : TypeId} {size bytes : Nat} {v : AV} {rows : List (List AV)} (a : s.apart l) (o : OL l ty size v rows) {m : Nat} {xs : List AV} {new : List (List AV)} (hm : new.length = m) (hx : new.flatten = xs) (hn : ∀ e ∈ new, e.length = size) (room : roomFor (rows.length + m) bytes)
    {K : AV → AHeap → Tok → Prop} (m0 : m ≠ 0)
    (k : ∀ v' l', s.apart l' → OL l' ty size v' (rows ++ new) → (∀ c x, l c = some x → OLnot v c → l' c = some x ∧ OLnot v' c) → K v' (s.join l') .go) : appendT .go (s.join l) ty size bytes v m xs K := by
  refine (o.of_le (AHeap.le_join_right a)).append hm hx hn room m0 ?_
  intro b cap cs h0 hh0 hb ol'
  have key : ∃ l0, h0 = s.join l0 ∧ s.apart l0 ∧ ∀ c x, l c = some x → OLnot v c → l0 c = some x := by
    rcases hh0 with rfl | ⟨b0, n0, c0, rfl, rfl⟩
    · exact ⟨l, rfl, a, fun c x h _ => h⟩
    · rcases o with ⟨h, _⟩ | ⟨b1, cap1, cs1, h1, h2, _⟩
      · cases h
      · cases h1
        exact ⟨l.del b0, join_del_right l (apart_at a h2), apart_del_right a b0, fun c x h n => by rw [del_ne _ _ (n _ _ _ rfl).symm]; exact h⟩
  obtain ⟨l0, rfl, a0, keep⟩ := key
  obtain ⟨hb1, hb2⟩ := join_none hb
  rw [join_upd_right _ _ hb1] at ol' ⊢
  refine k _ _ (apart_upd_right a0 _ hb1) (ol'.of_join_right fun b' m' c' e => by cases e; exact hb1) ?_
  intro c x hc n
  have hcb : c ≠ b := by intro hh; subst hh; rw [keep c x hc n] at hb2; cases hb2
  exact ⟨by rw [upd_ne _ _ _ hcb]; exact keep c x hc n, .os hcb.symm⟩
theorem aia_sl {size : Nat} {es : List (List AV)} {f : Bool} {k : IntKind} {i : Nat} {e : List AV} (h : es[i]? = some e) (hl : e.length = size) : aia size (.sl es f) (.int k i) = some (.ip e 0) := by
  simp only [aia]; rw [if_pos (Int.natCast_nonneg i), Int.toNat_natCast, h]; simp only; rw [if_pos hl]
theorem alen_sl (h : AHeap) (es : List (List AV)) (f : Bool) : alen h 1 (.sl es f) = some (.int .i64 es.length) := rfl
theorem alen_os (h : AHeap) (b n c : Nat) : alen h 1 (.os b n c) = some (.int .i64 n) := rfl
theorem alen_str (h : AHeap) (s : ByteArray) : alen h 0 (.str s) = some (.int .i64 s.size) := rfl

/-! ### Numbers -/
theorem wrap64 {n : Int} (h0 : -9223372036854775808 ≤ n) (h1 : n ≤ 9223372036854775807) : IntKind.i64.wrap n = n := by
  rw [IntKind.wrap_i64]; omega

end Pg
