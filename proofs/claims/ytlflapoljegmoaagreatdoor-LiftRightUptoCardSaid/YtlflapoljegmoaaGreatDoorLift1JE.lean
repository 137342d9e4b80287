import Derived.Test.YtlflapoljegmoaaGreatDoorCpXE
import Derived.Test.YtlflapoljegmoaaGreatDoorTreeSE
import Derived.Test.YtlflapoljegmoaaGreatDoorCodeRJE
import Derived.Test.YtlflapoljegmoaaGreatDoorLiftSpecJE
namespace Pg
open Go
set_option linter.all false
abbrev kRow (x : Routine) (pv ir : AV) : List AV := [eTexts x.before, eTexts x.trail, .str x.name, .int .i64 x.result, pv, .sl (x.vars.map eVar) false, ir, .sl (x.body.map eStmt) false, eTexts x.endd]
inductive KRs : List Routine → List (List AV) → List AV → Prop
 | nil : KRs [] [] []
 | cons {x : Routine} {l : List Routine} {irows rows : List (List AV)} {pv : AV} {ps qs : List AV} (a : KRs x.inner irows ps) (b : KRs l rows qs) : KRs (x :: l) (kRow x pv (.sl irows false) :: rows) (pv :: ps ++ qs)
inductive Flat : List Routine → List (List AV) → List AV → Prop
 | nil : Flat [] [] []
 | cons {x : Routine} {l : List Routine} {rows : List (List AV)} {pv ir : AV} {ps : List AV} (b : Flat l rows ps) : Flat (x :: l) (kRow x pv ir :: rows) (pv :: ps)
theorem Flat.append {a : List Routine} {ra : List (List AV)} {pa : List AV} (f : Flat a ra pa) {b : List Routine} {rb : List (List AV)} {pb : List AV} (g : Flat b rb pb) : Flat (a ++ b) (ra ++ rb) (pa ++ pb) := by
 induction f with
 | nil => exact g
 | cons _ ih => exact .cons ih
theorem Flat.get {a : List Routine} {ra : List (List AV)} {pa : List AV} (f : Flat a ra pa) : ∀ {i : Nat} {x : Routine}, a[i]? = some x → ∃ pv ir, pa[i]? = some pv ∧ ra[i]? = some (kRow x pv ir) := by
 induction f with
 | nil => intro i x h; simp at h
 | @cons y l rows pv ir ps _ ih =>
  intro i x h
  cases i with
  | zero => simp at h; subst h; exact ⟨pv, ir, rfl, rfl⟩
  | succ i => simpa using ih (by simpa using h)
theorem Flat.len {a : List Routine} {ra : List (List AV)} {pa : List AV} (f : Flat a ra pa) : ra.length = a.length ∧ pa.length = a.length := by
 induction f with
 | nil => exact ⟨rfl, rfl⟩
 | cons _ ih => exact ⟨by simp [ih.1], by simp [ih.2]⟩
theorem kRow_len (x : Routine) (pv ir : AV) : (kRow x pv ir).length = 9 := rfl
theorem kRow_take (x : Routine) (pv ir : AV) : List.take 9 (kRow x pv ir) = kRow x pv ir := rfl
theorem kRow_2 (x : Routine) (pv ir : AV) : (kRow x pv ir)[2]? = some (.str x.name) := rfl
theorem kRow_6 (x : Routine) (pv ir : AV) : (kRow x pv ir)[6]? = some ir := rfl
theorem eRoutine_k (x : Routine) : eRoutine x = kRow x (.sl (x.params.map eParam) false) (.sl (x.inner.map eRoutine) false) := eRoutine_eq x
theorem KRs.of : ∀ (N : Nat) (l : List Routine), Routines.sz l < N → ∃ ps, KRs l (l.map eRoutine) ps
 | 0, l, h => absurd h (Nat.not_lt_zero _)
 | N + 1, [], _ => ⟨[], .nil⟩
 | N + 1, x :: l, h => by
  have hz := Routine.sz_eq x
  simp only [Routines.sz] at h
  obtain ⟨ps, k1⟩ := KRs.of N x.inner (by omega)
  obtain ⟨qs, k2⟩ := KRs.of N l (by omega)
  refine ⟨.sl (x.params.map eParam) false :: ps ++ qs, ?_⟩
  rw [List.map_cons, eRoutine_k]
  exact .cons k1 k2
theorem KRs.len {l : List Routine} {rows : List (List AV)} {ps : List AV} (k : KRs l rows ps) : rows.length = l.length := by
 induction k with
 | nil => rfl
 | cons _ _ _ ih => simp [ih]
mutual
def preR : Routine → List Routine
 | ⟨before, trail, name, result, params, vars, inner, body, endd⟩ => ⟨before, trail, name, result, params, vars, inner, body, endd⟩ :: preL inner
def preL : List Routine → List Routine
 | [] => []
 | x :: r => preR x ++ preL r
end
theorem preR_eq (x : Routine) : preR x = x :: preL x.inner := by obtain ⟨before, trail, name, result, params, vars, inner, body, endd⟩ := x; rfl
theorem preL_snoc (x : Routine) : ∀ l, preL (l ++ [x]) = preL l ++ preR x
 | [] => by simp [preL]
 | y :: r => by simp only [List.cons_append, preL]; rw [preL_snoc x r, List.append_assoc]
mutual
theorem capR_pre : ∀ (x : Routine) (k : Nat) (whole : List Routine) (around : Int) (path : ByteArray), (capR k whole around path x).map (·.r) = preR x
 | ⟨before, trail, name, result, params, vars, inner, body, endd⟩, k, whole, around, path => by
  simp only [capR, preR, List.map_cons]
  rw [capL_pre inner]
theorem capL_pre : ∀ (l : List Routine) (k : Nat) (whole : List Routine) (around : Int) (path : ByteArray), (capL k whole around path l).map (·.r) = preL l
 | [], k, whole, around, path => rfl
 | r :: l, k, whole, around, path => by
  simp only [capL, preL, List.map_append]
  rw [capR_pre r, capL_pre l]
end
inductive TL : AHeap → AHeap → List AV → List Routine → Prop
 | nil (g : AHeap) : TL g g [] []
 | cons {g m k : AHeap} {pv : AV} {x : Routine} {ps : List AV} {xs : List Routine} (a : GL 105 5 g m pv (x.params.map eParam)) (b : TL m k ps xs) : TL g k (pv :: ps) (x :: xs)
theorem TL.append {g m k : AHeap} {ps qs : List AV} {xs ys : List Routine} (a : TL g m ps xs) (b : TL m k qs ys) : TL g k (ps ++ qs) (xs ++ ys) := by
 induction a with
 | nil => exact b
 | cons a _ ih => exact .cons a (ih b)
theorem TL.le {g k : AHeap} {ps : List AV} {xs : List Routine} (a : TL g k ps xs) : g.le k := by
 induction a with
 | nil => exact AHeap.le_refl _
 | cons a _ ih => exact AHeap.le_trans a.le ih
theorem TL.upd {g k : AHeap} {ps : List AV} {xs : List Routine} (a : TL g k ps xs) {p : Nat} {x : AObj} (hp : g p = some x) (o : AObj) : TL (g.upd p o) (k.upd p o) ps xs := by
 induction a generalizing x with
 | nil => exact .nil _
 | cons a _ ih => exact .cons (a.upd hp o) (ih (a.at hp))
theorem TL.fresh {g k : AHeap} {ps : List AV} {xs : List Routine} (a : TL g k ps xs) {p : Nat} (hp : k p = none) (o : AObj) : TL (g.upd p o) (k.upd p o) ps xs := by
 induction a with
 | nil => exact .nil _
 | cons a b ih => exact .cons (a.fresh (none_le b.le hp) o) (ih hp)
theorem TL.swap {ty : TypeId} {size : Nat} {g m k : AHeap} {v : AV} {rows : List (List AV)} {ps : List AV} {xs : List Routine} (a : GL ty size g m v rows) (b : TL m k ps xs) : ∃ n, TL g n ps xs ∧ GL ty size n k v rows := by
 induction b generalizing g with
 | nil => exact ⟨g, .nil _, a⟩
 | cons c _ ih =>
  obtain ⟨n, h1, h2⟩ := a.swap c
  obtain ⟨n', h3, h4⟩ := ih h2
  exact ⟨n', .cons h1 h3, h4⟩
theorem TL.swap' {ty : TypeId} {size : Nat} {g m k : AHeap} {v : AV} {rows : List (List AV)} {ps : List AV} {xs : List Routine} (a : TL g m ps xs) (b : GL ty size m k v rows) : ∃ n, GL ty size g n v rows ∧ TL n k ps xs := by
 induction a generalizing k with
 | nil => exact ⟨k, b, .nil _⟩
 | cons c _ ih =>
  obtain ⟨n, h1, h2⟩ := ih b
  obtain ⟨n', h3, h4⟩ := c.swap h1
  exact ⟨n', h3, .cons h4 h2⟩
theorem GL.drop {ty : TypeId} {size : Nat} {g m : AHeap} {b : Nat} {o : AObj} {v : AV} {rows : List (List AV)} (hb : g b = none) (a : GL ty size (g.upd b o) m v rows) : ∃ n, GL ty size g n v rows ∧ m = n.upd b o ∧ n b = none := by
 obtain ⟨s, c⟩ := a
 rcases c with ⟨rfl, rfl⟩ | ⟨t, cap, ht, hc, rfl, rfl⟩
 ·exact ⟨g, ⟨s, .inl ⟨rfl, rfl⟩⟩, rfl, hb⟩
 ·obtain ⟨hne, ht'⟩ := upd_none ht
  refine ⟨_, ⟨s, .inr ⟨t, cap, ht', hc, rfl, rfl⟩⟩, upd_comm _ _ _ hne.symm, ?_⟩
  rw [upd_ne _ _ _ hne.symm]; exact hb
theorem TL.drop {g k : AHeap} {b : Nat} {o : AObj} {ps : List AV} {xs : List Routine} (hb : g b = none) (a : TL (g.upd b o) k ps xs) : ∃ n, TL g n ps xs ∧ k = n.upd b o ∧ n b = none := by
 generalize hm : g.upd b o = m at a
 induction a generalizing g with
 | nil => exact ⟨g, .nil _, hm.symm, hb⟩
 | cons c _ ih =>
  subst hm
  obtain ⟨n, h1, h2, h3⟩ := GL.drop hb c
  obtain ⟨n', h4, h5, h6⟩ := ih h3 h2.symm
  exact ⟨n', .cons h1 h4, h5, h6⟩
theorem GL.unjoin {ty : TypeId} {size : Nat} {s l m : AHeap} (ap : s.apart l) {v : AV} {rows : List (List AV)} (a : GL ty size (s.join l) m v rows) : ∃ n, GL ty size s n v rows ∧ m = n.join l ∧ n.apart l := by
 obtain ⟨z, c⟩ := a
 rcases c with ⟨rfl, rfl⟩ | ⟨t, cap, ht, hc, rfl, rfl⟩
 ·exact ⟨s, ⟨z, .inl ⟨rfl, rfl⟩⟩, rfl, ap⟩
 ·obtain ⟨h1, h2⟩ := join_none ht
  exact ⟨_, ⟨z, .inr ⟨t, cap, h1, hc, rfl, rfl⟩⟩, join_upd_left _ _ _ _, apart_upd_left ap _ h2⟩
theorem GL.tojoin {ty : TypeId} {size : Nat} {s l m : AHeap} {v : AV} {rows : List (List AV)} (a : GL ty size s m v rows) (ap : m.apart l) : GL ty size (s.join l) (m.join l) v rows := by
 obtain ⟨z, c⟩ := a
 rcases c with ⟨rfl, rfl⟩ | ⟨t, cap, ht, hc, rfl, rfl⟩
 ·exact ⟨z, .inl ⟨rfl, rfl⟩⟩
 ·have := ap t _ (upd_same _ _ _)
  exact ⟨z, .inr ⟨t, cap, by rw [join_right ht]; exact this, hc, rfl, (join_upd_left _ _ _ _).symm⟩⟩
theorem TL.unjoin {s l k : AHeap} (ap : s.apart l) {ps : List AV} {xs : List Routine} (a : TL (s.join l) k ps xs) : ∃ n, TL s n ps xs ∧ k = n.join l ∧ n.apart l := by
 generalize hm : s.join l = m at a
 induction a generalizing s with
 | nil => exact ⟨s, .nil _, hm.symm, ap⟩
 | cons c _ ih =>
  subst hm
  obtain ⟨n, h1, h2, h3⟩ := c.unjoin ap
  obtain ⟨n', h4, h5, h6⟩ := ih h3 h2.symm
  exact ⟨n', .cons h1 h4, h5, h6⟩
end Pg

namespace Pg
open Go Go.Proofs.Tryz
set_option linter.all false
set_option maxHeartbeats 4000000
set_option maxRecDepth 4000
abbrev tBlk (v1 v2 v3 v4 : AV) : AObj := .blk [v1, v2, v3, v4] 4 68
structure Tb (l : AHeap) (tb : Nat) (w1 w2 v1 v2 : AV) (rs ars : List (List AV)) (v3 v4 : AV) : Prop where
 hb : l tb = some (tBlk w1 w2 v3 v4)
 o1 : OL l 43 9 v1 rs
 o2 : OL l 3 1 v2 ars
 n1 : OLnot v1 tb
 n2 : OLnot v2 tb
 n12 : ∀ b n c, v2 = .os b n c → OLnot v1 b
theorem OL.keep {l l' : AHeap} {ty : TypeId} {size : Nat} {v : AV} {rows : List (List AV)} (o : OL l ty size v rows) (e : ∀ b n c, v = .os b n c → ∀ x, l b = some x → l' b = some x) : OL l' ty size v rows := by
 rcases o with h0 | ⟨b, cap, cs, h1, h2, h3⟩
 ·exact .inl h0
 ·exact .inr ⟨b, cap, cs, h1, e _ _ _ h1 _ h2, h3⟩
theorem OL.some {l : AHeap} {ty : TypeId} {size : Nat} {v : AV} {rows : List (List AV)} (o : OL l ty size v rows) {b n c : Nat} (e : v = .os b n c) : ∃ x, l b = Option.some x := by
 rcases o with ⟨h0, _⟩ | ⟨b', cap, cs, h1, h2, h3⟩
 ·rw [h0] at e; cases e
 ·rw [h1] at e; cases e; exact ⟨_, h2⟩
theorem Tb.set {l : AHeap} {tb : Nat} {w1 w2 v1 v2 v3 v4 : AV} {rs ars : List (List AV)} (t : Tb l tb w1 w2 v1 v2 rs ars v3 v4) (u1 u2 : AV) : Tb (l.upd tb (tBlk u1 u2 v3 v4)) tb u1 u2 v1 v2 rs ars v3 v4 :=
 ⟨upd_same _ _ _, t.o1.upd t.n1 _, t.o2.upd t.n2 _, t.n1, t.n2, t.n12⟩
theorem Tb.app1 {s l : AHeap} (a : s.apart l) {tb : Nat} {w1 w2 v1 v2 v3 v4 : AV} {rs ars : List (List AV)} (t : Tb l tb w1 w2 v1 v2 rs ars v3 v4) {bytes : Nat} {x : List AV} (hx : x.length = 9) (room : roomFor (rs.length + 1) bytes) {K : AV → AHeap → Tok → Prop}
  (k : ∀ v' l', s.apart l' → Tb l' tb w1 w2 v' v2 (rs ++ [x]) ars v3 v4 → K v' (s.join l') .go) : appendT .go (s.join l) 43 9 bytes v1 1 x K := by
 refine OL.append_join a t.o1 (new := [x]) rfl (by simp) (by simpa using hx) room Nat.one_ne_zero (fun v' l' a' o' keep => ?_)
 have hk := keep tb _ t.hb t.n1
 refine k v' l' a' ⟨hk.1, o', t.o2.keep fun b n c e y hy => (keep b y hy (t.n12 b n c e)).1, hk.2, t.n2, fun b n c e => ?_⟩
 obtain ⟨y, hy⟩ := t.o2.some e
 exact (keep b y hy (t.n12 b n c e)).2
theorem Tb.app2 {s l : AHeap} (a : s.apart l) {tb : Nat} {w1 w2 v1 v2 v3 v4 : AV} {rs ars : List (List AV)} (t : Tb l tb w1 w2 v1 v2 rs ars v3 v4) {bytes : Nat} {x : List AV} (hx : x.length = 1) (room : roomFor (ars.length + 1) bytes) {K : AV → AHeap → Tok → Prop}
  (k : ∀ v' l', s.apart l' → Tb l' tb w1 w2 v1 v' rs (ars ++ [x]) v3 v4 → K v' (s.join l') .go) : appendT .go (s.join l) 3 1 bytes v2 1 x K := by
 refine OL.append_join a t.o2 (new := [x]) rfl (by simp) (by simpa using hx) room Nat.one_ne_zero (fun v' l' a' o' keep => ?_)
 have hk := keep tb _ t.hb t.n2
 have n21 : ∀ b n c, v1 = .os b n c → OLnot v2 b := fun b n c e b' n' c' e' hh => by subst hh; exact t.n12 _ _ _ e' _ _ _ e rfl
 refine k v' l' a' ⟨hk.1, t.o1.keep fun b n c e y hy => (keep b y hy (n21 b n c e)).1, o', t.n1, hk.2, fun b n c e b' n' c' e' hh => ?_⟩
 subst hh
 obtain ⟨y, hy⟩ := t.o1.some e'
 exact (keep _ y hy (n21 _ _ _ e')).2 _ _ _ e rfl
theorem Tb.store {l : AHeap} {tb : Nat} {w1 w2 v1 v2 v3 v4 : AV} {rs ars : List (List AV)} (t : Tb l tb w1 w2 v1 v2 rs ars v3 v4) {i : Nat} (hi : i < rs.length) {x : List AV} (hx : x.length = 9) :
  ∃ b cs tot, aia 9 v1 (.int .i64 i) = some (.ptr (some ⟨b, i * 9, none⟩)) ∧ l b = some (.blk cs tot 43) ∧ i * 9 + 9 ≤ cs.length ∧ b ≠ tb ∧ Tb (l.upd b (.blk (splice cs (i * 9) x) tot 43)) tb w1 w2 v1 v2 (rs.set i x) ars v3 v4 := by
 obtain ⟨b, cs, tot, n, c, e, h1, h2, h3, h4⟩ := t.o1.store (k := .i64) hi hx
 have hbt : b ≠ tb := t.n1 _ _ _ e
 refine ⟨b, cs, tot, h1, h2, h3, hbt, ?_, h4, t.o2.upd (fun b' n' c' e' hh => ?_) _, t.n1, t.n2, t.n12⟩
 ·rw [upd_ne _ _ _ hbt.symm]; exact t.hb
 ·subst hh; exact t.n12 _ _ _ e' _ _ _ e rfl
theorem set_last {α : Type} (l : List α) (a b : α) : (l ++ [a]).set l.length b = l ++ [b] := by simp
abbrev aRow (n : CN) : List AV := [.int .i64 n.around]
theorem ladd_spec [GI] : ∀ (N : Nat) (l : List Routine), Routines.sz l < N → few l → (∀ x ∈ l, x.ok) → ∀ (s l0 : AHeap) (tb : Nat) (v1 v2 v3 v4 : AV) (rs ars : List (List AV)) (around : Int) (whole : List Routine) (path : ByteArray) (f : Bool) (rows : List (List AV)) (ps : List AV), KRs l rows ps →
  s.apart l0 → Tb l0 tb v1 v2 v1 v2 rs ars v3 v4 → rs.length + wRs l ≤ 274877906944 → rs.length = ars.length →
  ACalls prog 29 [.ptr (some ⟨tb, 0, none⟩), .int .i64 around, .sl rows f] (s.join l0) (fun w g => w = .tuple [] ∧ ∃ l1 u1 u2 R, g = s.join l1 ∧ s.apart l1 ∧ Flat ((capL rs.length whole around path l).map (·.r)) R ps ∧ Tb l1 tb u1 u2 u1 u2 (rs ++ R) (ars ++ (capL rs.length whole around path l).map aRow) v3 v4) := by
 intro N
 induction N with
 | zero => intro l hN; omega
 | succ N ih =>
  intro l hN hl hok s l0 tb v1 v2 v3 v4 rs ars around whole path f rows ps KR ap T hw hlen
  refine F29.calls (by simp) ?_
  delta F29.c0
  simp only [go_sem,seval]
  rw [KR.len]
  refine lT_list l (fun pre post e g => ∃ l1 u1 u2 R rows1 rows2 ps1 ps2, g = s.join l1 ∧ s.apart l1 ∧ rows = rows1 ++ rows2 ∧ ps = ps1 ++ ps2 ∧ rows1.length = pre.length ∧ KRs post rows2 ps2 ∧ Flat ((capL rs.length whole around path pre).map (·.r)) R ps1 ∧ Tb l1 tb u1 u2 u1 u2 (rs ++ R) (ars ++ (capL rs.length whole around path pre).map aRow) v3 v4 ∧ e = [(0, .ptr (some ⟨tb, 0, none⟩)), (1, .int .i64 around), (9, .sl rows f), (10, .int .i64 l.length), (11, .int .i64 pre.length)]) (WeakE.env ?_) ⟨l0, v1, v2, [], [], rows, [], ps, rfl, ap, rfl, rfl, rfl, KR, .nil, by simpa [capL] using T, rfl⟩ ?_ ?_
  ·simp only [go_sem,seval]
  ·rintro pre x post e g hp ⟨l1, u1, u2, R, rows1, rows2, ps1, ps2, rfl, ap1, hrows, hps, hl1, KP, FL, T1, rfl⟩
   cases KP with
   | @cons _ _ irows rows3 pv ps3 qs KI KP =>
   have hx := mem_at hp
   have hxz := Routines.sz_mem hx
   have hz := Routine.sz_eq x
   have hxo := (Routine.ok_iff x).1 (hok x hx)
   have hww := wRs_at hp
   have hwx := wR_eq x
   have hrc := rcnts_le _ pre (Nat.le_refl _)
   have hR : R.length = rcnts pre := by rw [FL.len.1]; simp [capL_len]
   have hrow : (rs ++ R).length = rs.length + rcnts pre := by simp [hR]
   have harow : (ars ++ (capL rs.length whole around path pre).map aRow).length = rs.length + rcnts pre := by simp [capL_len, hlen]
   have htb : s tb = none := apart_at ap1 T1.hb
   have hg := (AHeap.le_join_right ap1) _ _ T1.hb
   have hat : rows[pre.length]? = some (kRow x pv (.sl irows false)) := by rw [hrows, ← hl1]; simp
   simp only [go_sem,seval, lt_at hp, aia_sl hat (kRow_len _ _ _), kRow_len, kRow_take, hg, T1.o1.len, hrow]
   refine ⟨?_, ?_⟩
   all_goals
    refine Tb.app1 ap1 T1 rfl (by rw [hrow]; unfold roomFor; omega) (fun v' l2 ap2 T2 => ?_)
    obtain ⟨b, cs, tot, e1, e2, e3, hbt, T3⟩ := T2.store (i := rs.length + rcnts pre) (by rw [List.length_append, hrow]; simp) (kRow_len x pv (.sl irows false))
    rw [← hrow, set_last, hrow] at T3
    have hg2 := (AHeap.le_join_right ap2) _ _ T2.hb
    have hb2 := (AHeap.le_join_right ap2) _ _ e2
    have hg3 : ∀ (H : AHeap) o, (H.upd b o) tb = H tb := fun H o => upd_ne _ _ _ hbt.symm
    have hb3 : ∀ o, ((s.join l2).upd tb o) b = some (.blk cs tot 43) := fun o => by rw [upd_ne _ _ _ hbt]; exact hb2
    simp only [go_sem,seval, hg2, e1, hb2, kRow_len, e3, hg3, hb3, upd_same, T2.o1.cells]
    refine ⟨.inr (by decide), ?_⟩
    try refine ⟨.inr (by decide), ?_⟩
    have hsb := apart_at ap2 e2
    try rw [upd_comm _ _ _ hbt.symm]
    rw [join_upd_right _ _ hsb, join_upd_right _ _ htb]
    have T4 := T3.set v' u2
    have ap3 := apart_upd_right (apart_upd_right ap2 (.blk (splice cs ((rs.length + rcnts pre) * 9) (kRow x pv (.sl irows false))) tot 43) hsb) (tBlk v' u2 v3 v4) htb
    generalize (l2.upd b (.blk (splice cs ((rs.length + rcnts pre) * 9) (kRow x pv (.sl irows false))) tot 43)).upd tb (tBlk v' u2 v3 v4) = l3 at T4 ap3
    refine Tb.app2 ap3 T4 rfl (by rw [harow]; unfold roomFor; omega) (fun v2' l4 ap4 T5 => ?_)
    have hg5 := (AHeap.le_join_right ap4) _ _ T5.hb
    simp only [go_sem,seval, hg5, T5.o2.cells, kRow_6]
    rw [join_upd_right _ _ htb]
    have T6 := T5.set v' v2'
    have ap5 := apart_upd_right ap4 (tBlk v' v2' v3 v4) htb
    generalize l4.upd tb (tBlk v' v2' v3 v4) = l5 at T6 ap5
    have hr5 : (rs ++ R ++ [kRow x pv (.sl irows false)]).length = rs.length + rcnts pre + 1 := by rw [List.length_append, hrow]; rfl
    have ha5 : (ars ++ (capL rs.length whole around path pre).map aRow ++ [[AV.int .i64 around]]).length = rs.length + rcnts pre + 1 := by rw [List.length_append, harow]; rfl
    refine callT_of (ih x.inner (by omega) hxo.2.2.2.2.2.1 hxo.2.2.2.2.2.2.1 s l5 tb v' v2' v3 v4 _ _ ((rs.length + rcnts pre : Nat) : Int) x.inner (path ++ x.name ++ dollar) false irows ps3 KI ap5 T6 (by rw [hr5]; omega) (by rw [hr5, ha5])) (fun w g7 hw7 => ?_)
    obtain ⟨rfl, l7, w1, w2, R2, rfl, ap7, FL2, T7⟩ := hw7
    rw [hr5] at T7 FL2
    simp only [go_sem,seval]
    refine ⟨_, _, WeakE.env ?_, l7, w1, w2, R ++ kRow x pv (.sl irows false) :: R2, rows1 ++ [kRow x pv (.sl irows false)], rows3, ps1 ++ (pv :: ps3), qs, rfl, ap7, by simp [hrows], by simp [hps], by simp [hl1], KP, ?_, ?_, rfl⟩
    ·simp only [go_sem,seval, step_at hl hp]
    ·rw [capL_snoc, capR_eq, List.map_append]
     exact FL.append (.cons FL2)
    ·rw [capL_snoc, capR_eq]
     simpa [List.append_assoc] using T7
  ·rintro e g ⟨l1, u1, u2, R, rows1, rows2, ps1, ps2, rfl, ap1, hrows, hps, hl1, KP, FL, T1, rfl⟩
   cases KP
   simp only [go_sem,seval, lt_end]
   refine lessQ.same ?_
   simp only [go_sem,seval]
   exact .same ⟨rfl, l1, u1, u2, R, rfl, ap1, by simpa [hps] using FL, T1⟩
end Pg
