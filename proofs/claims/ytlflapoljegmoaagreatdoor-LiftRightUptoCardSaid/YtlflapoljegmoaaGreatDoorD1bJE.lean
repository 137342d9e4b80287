import Derived.Test.YtlflapoljegmoaaGreatDoorLiftOkJE
import Derived.Test.YtlflapoljegmoaaGreatDoorNnXJE
import Derived.Test.YtlflapoljegmoaaGreatDoorLwXE
import Derived.Test.YtlflapoljegmoaaGreatDoorTreeSE
import Derived.Test.YtlflapoljegmoaaGreatDoorNmWE
namespace Pg
open Go
set_option linter.all false
set_option maxRecDepth 4000
def ofL (l : List UInt8) : ByteArray := ⟨l.toArray⟩
def spl : List UInt8 → List (List UInt8)
 | [] => [[]]
 | c :: r => if c.toNat = 36 then [] :: spl r else match spl r with
  | [] => [[c]]
  | h :: t => (c :: h) :: t
theorem spl_ne : ∀ l, spl l ≠ []
 | [] => by simp [spl]
 | c :: r => by
  simp only [spl]
  split
  ·simp
  ·split <;> simp
theorem spl_dollar : ∀ x y : List UInt8, spl (x ++ 36 :: y) = spl x ++ spl y
 | [], y => by simp [spl]
 | c :: x, y => by
  simp only [List.cons_append, spl, spl_dollar x y]
  split
  ·rfl
  ·cases h : spl x with
   | nil => exact absurd h (spl_ne x)
   | cons a t => rfl
theorem extract_mid {s : ByteArray} {A M r : List UInt8} (h : bytes s = A ++ M ++ r) : s.extract A.length (A.length + M.length) = ofL M := by
 apply ByteArray.ext
 apply Array.ext'
 rw [ByteArray.data_extract, Array.toList_extract]
 change (bytes s).extract _ _ = M
 rw [h]
 simp [List.extract]
theorem partsAt_spl (s : ByteArray) : ∀ (r A M : List UInt8), bytes s = A ++ M ++ r → partsAt s r A.length (A.length + M.length) = match spl r with | [] => [] | h :: t => ofL (M ++ h) :: t.map ofL
 | [], A, M, h => by simp only [partsAt, spl, List.append_nil, List.map_nil]; rw [extract_mid (r := []) h]
 | c :: r, A, M, h => by
  simp only [partsAt, spl]
  split
  ·have := partsAt_spl s r (A ++ M ++ [c]) [] (by rw [h]; simp)
   simp only [List.length_append, List.length_cons, List.length_nil, Nat.add_zero, Nat.zero_add, List.nil_append] at this
   rw [extract_mid h, this]
   simp only [List.append_nil]
   congr 1
   cases e : spl r with
   | nil => exact absurd e (spl_ne r)
   | cons a t => simp
  ·have := partsAt_spl s r A (M ++ [c]) (by rw [h]; simp)
   simp only [List.length_append, List.length_cons, List.length_nil, Nat.zero_add] at this
   rw [Nat.add_assoc, this]
   cases e : spl r with
   | nil => exact absurd e (spl_ne r)
   | cons a t => simp
theorem parts_spl (s : ByteArray) : parts s = (spl (bytes s)).map ofL := by
 have := partsAt_spl s (bytes s) [] [] (by simp)
 simp only [List.length_nil, Nat.add_zero, List.nil_append] at this
 unfold parts
 rw [this]
 cases e : spl (bytes s) with
 | nil => exact absurd e (spl_ne _)
 | cons a t => simp
theorem parts_dollar (a b : ByteArray) : parts (a ++ dollar ++ b) = parts a ++ parts b := by
 simp only [parts_spl, bytes_append]
 rw [show bytes dollar = [36] from rfl, List.append_assoc, List.singleton_append, spl_dollar, List.map_append]
theorem nmRs_in {x : Routine} {l : List Routine} (hx : x ∈ l) {n : ByteArray} (h : n ∈ nmR x) : n ∈ nmRs l := by rw [nmRs_map]; exact List.mem_flatMap.2 ⟨x, hx, h⟩
theorem tName_size {s : ByteArray} (h : tName s = true) : s.size ≤ 32 := by
 simp only [tName, Bool.and_eq_true, decide_eq_true_eq] at h
 have h1 := h.1
 unfold nameCode at h1
 by_cases h0 : s = noBytes
 ·rw [h0]; decide
 ·rw [if_neg h0] at h1
  by_cases hl : letters true (bytes s) = true
  ·rw [if_pos hl] at h1
   by_cases h2 : 32 < s.size
   ·rw [if_pos h2] at h1; simp at h1
   ·omega
  ·rw [if_neg hl] at h1; simp at h1
def tame (s : ByteArray) : Prop := small s ∧ plain s
theorem tName_tame {s : ByteArray} (h : tName s = true) : tame s := ⟨by have := tName_size h; unfold small; omega, tName_plain h⟩
theorem path_parts : ∀ (N : Nat) (l ahead : _) (d : Int), Routines.sz l < N → tRoutines ahead l d = true → ∀ (k : Nat) (whole : List Routine) (around : Int) (path : ByteArray) (pre : List ByteArray), (pre.length : Int) + 1 = d → path.size ≤ 33 * pre.length →
  (∀ m, plain m → parts (path ++ m) = pre ++ [m]) → ∀ n ∈ capL k whole around path l, tName n.r.name = true ∧ ∃ q, parts n.path = q ++ [n.r.name] ∧ q.length < 48 ∧ n.path.size ≤ 33 * q.length + 32 ∧ ∀ x ∈ q, x ∈ pre ∨ (x ∈ nmRs l ∧ tName x = true)
 | 0, l, ahead, d, h, _, _, _, _, _, _, _, _, _, _, _ => absurd h (Nat.not_lt_zero _)
 | N + 1, [], ahead, d, h, ht, k, whole, around, path, pre, hd, hs, hp, n, hn => by simp [capL] at hn
 | N + 1, x :: l, ahead, d, h, ht, k, whole, around, path, pre, hd, hs, hp, n, hn => by
  have h2 : Routines.sz (x :: l) = 1 + x.sz + Routines.sz l := by simp only [Routines.sz]
  have h1 := Routine.sz_eq x
  simp only [tRoutines, Bool.and_eq_true] at ht
  have hx := ht.1
  rw [tRoutine_eq] at hx
  simp only [Bool.and_eq_true, decide_eq_true_eq] at hx
  obtain ⟨⟨⟨⟨⟨⟨⟨⟨⟨⟨hd8, _⟩, _⟩, hnm⟩, _⟩, _⟩, _⟩, _⟩, _⟩, hin, _⟩, _⟩ := hx
  have hz := tName_size hnm
  have hpl := tName_plain hnm
  simp only [capL, capR_eq, List.cons_append, List.mem_cons, List.mem_append] at hn
  rcases hn with rfl | hn | hn
  ·refine ⟨hnm, pre, hp _ hpl, by omega, ?_, fun y hy => .inl hy⟩
   simp only [ByteArray.size_append]; omega
  ·obtain ⟨a, q, q1, q2, q3, q4⟩ := path_parts N x.inner [] (d + 1) (by omega) hin (k + 1) x.inner k (path ++ x.name ++ dollar) (pre ++ [x.name]) (by simp; omega) (by
    simp only [ByteArray.size_append, List.length_append, List.length_singleton]
    have : dollar.size = 1 := rfl
    omega) (fun m hm => by rw [parts_dollar, hp _ hpl, parts_plain hm]) n hn
   refine ⟨a, q, q1, q2, q3, fun y hy => ?_⟩
   rcases q4 y hy with h | h
   ·rcases List.mem_append.1 h with h | h
    ·exact .inl h
    ·simp only [List.mem_singleton] at h; subst h
     exact .inr ⟨nmRs_in (x := x) (by simp) (by rw [nmR_eq, parts_plain hpl]; simp), hnm⟩
   ·exact .inr ⟨nmRs_in (x := x) (by simp) (by rw [nmR_eq]; simp [h.1]), h.2⟩
  ·obtain ⟨a, q, q1, q2, q3, q4⟩ := path_parts N l _ d (by omega) ht.2 _ whole around path pre hd hs hp n hn
   refine ⟨a, q, q1, q2, q3, fun y hy => ?_⟩
   rcases q4 y hy with h | h
   ·exact .inl h
   ·exact .inr ⟨by simp only [nmRs, List.mem_append]; exact .inr h.1, h.2⟩
def nm1 (r : Routine) : List ByteArray := parts r.name ++ nmParams r.params ++ nmVars r.vars ++ nmSs r.body
theorem nm_nodes : ∀ (N : Nat) (l : List Routine), Routines.sz l < N → ∀ (k : Nat) (whole : List Routine) (around : Int) (path : ByteArray) (x : ByteArray), x ∈ nmRs l ↔ ∃ n ∈ capL k whole around path l, x ∈ nm1 n.r
 | 0, l, h, _, _, _, _, _ => absurd h (Nat.not_lt_zero _)
 | N + 1, [], h, k, whole, around, path, x => by simp [capL, nmRs]
 | N + 1, r :: l, h, k, whole, around, path, x => by
  have h2 : Routines.sz (r :: l) = 1 + r.sz + Routines.sz l := by simp only [Routines.sz]
  have h1 := Routine.sz_eq r
  simp only [nmRs, capL, capR_eq, nmR_eq, List.cons_append, List.mem_cons, List.mem_append, nm_nodes N l (by omega) (k + rcnt r) whole around path x, nm_nodes N r.inner (by omega) (k + 1) r.inner k (path ++ r.name ++ dollar) x]
  constructor
  ·rintro (((((h | h) | h) | ⟨n, h, h'⟩) | h) | ⟨n, h, h'⟩)
   ·exact ⟨_, .inl rfl, by simp [nm1, h]⟩
   ·exact ⟨_, .inl rfl, by simp [nm1, h]⟩
   ·exact ⟨_, .inl rfl, by simp [nm1, h]⟩
   ·exact ⟨n, .inr (.inl h), h'⟩
   ·exact ⟨_, .inl rfl, by simp [nm1, h]⟩
   ·exact ⟨n, .inr (.inr h), h'⟩
  ·rintro ⟨n, h, h'⟩
   rcases h with rfl | h | h
   ·simp only [nm1, List.mem_append] at h'
    rcases h' with ((h | h) | h) | h
    ·exact .inl (.inl (.inl (.inl (.inl h))))
    ·exact .inl (.inl (.inl (.inl (.inr h))))
    ·exact .inl (.inl (.inl (.inr h)))
    ·exact .inl (.inr h)
   ·exact .inl (.inl (.inr ⟨n, h, h'⟩))
   ·exact .inr ⟨n, h, h'⟩
structure LF (Z : ByteArray → Prop) (f : ByteArray → Option (ByteArray × List Param)) : Prop where
 h : ∀ name path us, f name = some (path, us) → (∀ y ∈ parts name, y ∈ parts path) ∧ (∀ y ∈ parts path, Z y) ∧ (parts path).length ≤ 49 ∧ small path ∧ us.length ≤ 512 ∧ ∀ u ∈ us, Z u.name ∧ tame u.name
theorem nmE_up (u : Param) (h : plain u.name) : nmE (upE u) = [u.name, noBytes] := by
 rw [nmE_eq]; simp [upE, parts_plain h, parts_plain plain_none, nmEs]
section
variable {Z : ByteArray → Prop} {f : ByteArray → Option (ByteArray × List Param)} (F : LF Z f)
include F
def Told (Z : ByteArray → Prop) (a b : List ByteArray) (w : Nat) : Prop := (∀ x ∈ a, x ∈ b) ∧ (∀ x ∈ b, x ∈ a ∨ Z x ∨ x = noBytes) ∧ b.length ≤ 1100 * w
omit F in
theorem Told.app {a b c d : List ByteArray} {v w : Nat} (h : Told Z a b v) (k : Told Z c d w) : Told Z (a ++ c) (b ++ d) (v + w) := by
 refine ⟨fun x hx => ?_, fun x hx => ?_, by have := h.2.2; have := k.2.2; simp only [List.length_append]; omega⟩
 ·rcases List.mem_append.1 hx with hx | hx
  ·exact List.mem_append.2 (.inl (h.1 x hx))
  ·exact List.mem_append.2 (.inr (k.1 x hx))
 ·rcases List.mem_append.1 hx with hx | hx
  ·rcases h.2.1 x hx with h | h
   ·exact .inl (by simp [h])
   ·exact .inr h
  ·rcases k.2.1 x hx with h | h
   ·exact .inl (by simp [h])
   ·exact .inr h
omit F in
theorem Told.same {a : List ByteArray} {w : Nat} (h : a.length ≤ 1100 * w) : Told Z a a w := ⟨fun _ h => h, fun _ h => .inl h, h⟩
omit F in
theorem Told.le {a b : List ByteArray} {v w : Nat} (h : Told Z a b v) (l : v ≤ w) : Told Z a b w := ⟨h.1, h.2.1, by have := h.2.2; omega⟩
theorem lfE_of {x : Expr} (hn : plain x.name ∧ plain x.field) (hl : Told Z (nmEs x.l) (nmEs (liftEs f x.l)) (wEs x.l)) : Told Z (nmE x) (nmE (liftE f x)) (wE x) := by
 rw [nmE_eq, liftE_eq, wE_eq]
 have nn : Told Z (parts x.name ++ parts x.field) (parts x.name ++ parts x.field) 1 := .same (by rw [parts_plain hn.1, parts_plain hn.2]; simp)
 split
 ·split
  ·rename_i path us he
   obtain ⟨h1, h2, h3, h4, h5, h6⟩ := F.h _ _ _ he
   rw [nmE_eq]
   simp only [nmEs_append]
   have a : Told Z (parts x.name ++ parts x.field) (parts path ++ parts x.field) 1 := by
    refine ⟨fun y hy => ?_, fun y hy => ?_, by rw [parts_plain hn.2]; simp; omega⟩
    ·rcases List.mem_append.1 hy with h | h
     ·exact List.mem_append.2 (.inl (h1 y h))
     ·exact List.mem_append.2 (.inr h)
    ·rcases List.mem_append.1 hy with h | h
     ·exact .inr (.inl (h2 y h))
     ·exact .inl (List.mem_append.2 (.inr h))
   have key : ∀ l : List Param, (∀ u ∈ l, Z u.name ∧ tame u.name) → (∀ y ∈ nmEs (l.map upE), Z y ∨ y = noBytes) ∧ (nmEs (l.map upE)).length = 2 * l.length := by
    intro l
    induction l with
    | nil => intro _; simp [nmEs]
    | cons u l ih =>
     intro h
     obtain ⟨i1, i2⟩ := ih fun v hv => h v (by simp [hv])
     obtain ⟨z, t⟩ := h u (by simp)
     simp only [List.map_cons, nmEs, nmE_up u t.2, List.length_append, List.length_cons, List.length_nil, i2]
     refine ⟨fun y hy => ?_, by omega⟩
     simp only [List.cons_append, List.nil_append, List.mem_cons] at hy
     rcases hy with rfl | rfl | hy
     ·exact .inl z
     ·exact .inr rfl
     ·exact i1 y hy
   obtain ⟨k1, k2⟩ := key us h6
   have b : Told Z [] (nmEs (us.map upE)) 1 := ⟨by simp, fun y hy => .inr (k1 y hy), by omega⟩
   have := (a.app (hl.app b)).le (w := 2 + (x.name.size + x.field.size) + wEs x.l) (by omega)
   simpa only [List.append_nil, List.append_assoc] using this
  ·rw [nmE_eq]
   exact (nn.app hl).le (by omega)
 ·rw [nmE_eq]
  exact (nn.app hl).le (by omega)
theorem lfE : ∀ (n : Nat) (x : Expr), x.sz < n → inE plain x → Told Z (nmE x) (nmE (liftE f x)) (wE x)
 | 0, x, h, _ => absurd h (Nat.not_lt_zero _)
 | n + 1, x, h, hi => by
  obtain ⟨a, b, c⟩ := (inE_eq plain x).1 hi
  rw [Expr.sz_eq] at h
  refine lfE_of F ⟨a, b⟩ ?_
  have hl : ∀ l : List Expr, Exprs.sz l < n → inEs plain l → Told Z (nmEs l) (nmEs (liftEs f l)) (wEs l) := by
   intro l
   induction l with
   | nil => intro _ _; exact .same (by simp [nmEs])
   | cons y r ih =>
    intro hs hp
    simp only [Exprs.sz] at hs
    simp only [inEs] at hp
    simp only [nmEs, liftEs, wEs]
    exact (lfE n y (by omega) hp.1).app (ih (by omega) hp.2)
  exact hl x.l (by omega) c
theorem lfEs : ∀ l : List Expr, inEs plain l → Told Z (nmEs l) (nmEs (liftEs f l)) (wEs l)
 | [], _ => .same (by simp [nmEs])
 | y :: r, hp => by
  simp only [inEs] at hp
  simp only [nmEs, liftEs, wEs]
  exact (lfE F _ y (Nat.lt_succ_self _) hp.1).app (lfEs r hp.2)
theorem lfSs : ∀ (n : Nat) (l : List Stmt), Stmts.sz l < n → inSs plain l → Told Z (nmSs l) (nmSs (liftSs f l)) (wSs l)
 | 0, l, h, _ => absurd h (Nat.not_lt_zero _)
 | n + 1, [], _, _ => .same (by simp [nmSs])
 | n + 1, x :: l, h, hp => by
  simp only [Stmts.sz, Stmt.sz_eq] at h
  simp only [inSs] at hp
  obtain ⟨a, b, c, d, e⟩ := (inS_eq plain x).1 hp.1
  obtain ⟨b1, b2, b3⟩ := (inE_eq plain x.p).1 b
  simp only [nmSs, liftSs, wSs, liftS_eq, nmS_eq, wS_eq]
  have hp' : Told Z (nmE x.p) (nmE { x.p with l := liftEs f x.p.l }) (wE x.p) := by
   rw [nmE_eq, nmE_eq, wE_eq]
   exact ((Told.same (w := 1) (by rw [parts_plain b1, parts_plain b2]; simp)).app (lfEs F x.p.l b3)).le (by omega)
  have hn : Told Z (parts x.name) (parts x.name) 1 := .same (by rw [parts_plain a]; simp)
  exact (((((hn.app hp').app (lfEs F x.e c)).app (lfSs n x.body (by omega) d)).app (lfSs n x.els (by omega) e)).app (lfSs n l (by omega) hp.2)).le (by omega)
end
end Pg

namespace Pg
open Go
set_option linter.all false
set_option maxRecDepth 4000
section
variable {S : ByteArray → Prop} {f : ByteArray → Option (ByteArray × List Param)} (h0 : S noBytes) (hf : ∀ name path us, f name = some (path, us) → S path ∧ ∀ u ∈ us, S u.name)
include h0 hf
theorem inE_lift : ∀ (n : Nat) (x : Expr), x.sz < n → inE S x → inE S (liftE f x)
 | 0, x, h, _ => absurd h (Nat.not_lt_zero _)
 | n + 1, x, h, hi => by
  obtain ⟨a, b, c⟩ := (inE_eq S x).1 hi
  rw [Expr.sz_eq] at h
  have hl : inEs S (liftEs f x.l) := inEs_of fun y hy => by
   rw [liftEs_map] at hy
   obtain ⟨z, hz, rfl⟩ := List.mem_map.1 hy
   have := Exprs.sz_mem hz
   exact inE_lift n z (by omega) (inEs_mem c z hz)
  rw [liftE_eq]
  split
  ·split
   ·rename_i path us he
    obtain ⟨h1, h2⟩ := hf _ _ _ he
    refine (inE_eq S _).2 ⟨h1, b, inEs_of fun y hy => ?_⟩
    rcases List.mem_append.1 hy with hy | hy
    ·exact inEs_mem hl y hy
    ·obtain ⟨u, hu, rfl⟩ := List.mem_map.1 hy
     exact (inE_eq S _).2 ⟨h2 u hu, h0, trivial⟩
   ·exact (inE_eq S _).2 ⟨a, b, hl⟩
  ·exact (inE_eq S _).2 ⟨a, b, hl⟩
theorem inEs_lift {l : List Expr} (h : inEs S l) : inEs S (liftEs f l) := inEs_of fun y hy => by
 rw [liftEs_map] at hy
 obtain ⟨z, hz, rfl⟩ := List.mem_map.1 hy
 exact inE_lift h0 hf _ z (Nat.lt_succ_self _) (inEs_mem h z hz)
omit h0 hf in
theorem inSs_of : ∀ {l : List Stmt}, (∀ x ∈ l, inS S x) → inSs S l
 | [], _ => trivial
 | x :: r, h => ⟨h x (by simp), inSs_of fun y hy => h y (by simp [hy])⟩
theorem inSs_lift : ∀ (n : Nat) (l : List Stmt), Stmts.sz l < n → inSs S l → inSs S (liftSs f l)
 | 0, l, h, _ => absurd h (Nat.not_lt_zero _)
 | n + 1, l, h, hi => inSs_of fun y hy => by
  rw [liftSs_map] at hy
  obtain ⟨z, hz, rfl⟩ := List.mem_map.1 hy
  have hz' := Stmts.sz_mem hz
  rw [Stmt.sz_eq] at hz'
  obtain ⟨a, b, c, d, e⟩ := (inS_eq S z).1 (inSs_mem hi z hz)
  obtain ⟨b1, b2, b3⟩ := (inE_eq S z.p).1 b
  rw [liftS_eq, inS_eq]
  exact ⟨a, (inE_eq S _).2 ⟨b1, b2, inEs_lift h0 hf b3⟩, inEs_lift h0 hf c, inSs_lift n z.body (by omega) d, inSs_lift n z.els (by omega) e⟩
end
theorem tree_paths {p : Prg} (ht : tPrg p = true) : ∀ n ∈ nodesOf p.routines, tName n.r.name = true ∧ ∃ q, parts n.path = q ++ [n.r.name] ∧ q.length < 48 ∧ n.path.size ≤ 33 * q.length + 32 ∧ ∀ x ∈ q, x ∈ nmRs p.routines ∧ tName x = true := fun n hn => by
 have hr : tRoutines [] p.routines 1 = true := by
  unfold tPrg at ht
  simp only [Bool.and_eq_true, decide_eq_true_eq] at ht
  exact ht.1.2.1
 obtain ⟨a, q, h1, h2, h3, h4⟩ := path_parts _ p.routines [] 1 (Nat.lt_succ_self _) hr 0 p.routines (-1) noBytes [] (by simp) (by decide) (fun m hm => by
  have : noBytes ++ m = m := by apply ByteArray.ext; simp [noBytes]
  rw [this, parts_plain hm]; rfl) n hn
 exact ⟨a, q, h1, h2, h3, fun x hx => (h4 x hx).resolve_left (by simp)⟩
theorem tree_routine {a : List ByteArray} {r : Routine} {d : Int} (h : tRoutine a r d = true) : (∀ u ∈ r.params, inParam tame u) ∧ (∀ u ∈ r.vars, inVar tame u) ∧ inSs plain r.body ∧ inSs small r.body := by
 rw [tRoutine_eq] at h
 simp only [Bool.and_eq_true, decide_eq_true_eq] at h
 obtain ⟨⟨⟨⟨_, hp⟩, hv⟩, _⟩, hb, _⟩ := h
 have t0 : tame noBytes := ⟨by unfold small; decide, plain_none⟩
 exact ⟨tParams_in (fun _ => tName_tame) t0 hp, tVars_in (fun _ => tName_tame) t0 hv, tStmts_in (fun _ h => (tName_tame h).2) t0.2 _ _ (Nat.le_refl _) _ hb, tStmts_in (fun _ h => (tName_tame h).1) t0.1 _ _ (Nat.le_refl _) _ hb⟩
theorem nm1_in {p : Prg} {n : CN} (hn : n ∈ nodesOf p.routines) {x : ByteArray} (hx : x ∈ nm1 n.r) : x ∈ nmRs p.routines :=
 (nm_nodes _ p.routines (Nat.lt_succ_self _) 0 p.routines (-1) noBytes x).2 ⟨n, hn, hx⟩
theorem ups_names {p : Prg} (ht : tPrg p = true) {us : List Param} (h : us ∈ cUps p.routines) : ∀ u ∈ us, inParam tame u ∧ u.name ∈ nmRs p.routines ∧ u.t.name ∈ nmRs p.routines := fun u hu => by
 unfold cUps at h
 obtain ⟨j, _, rfl⟩ := List.mem_map.1 h
 obtain ⟨i, n, k, h1, h2, _⟩ := upN_mem hu
 have hn : n ∈ nodesOf p.routines := List.mem_of_getElem? h1
 obtain ⟨a, d, hr⟩ := tree_nodes ht n hn
 obtain ⟨t1, t2, _, _⟩ := tree_routine hr
 have hm := List.mem_of_getElem? h2
 unfold locs at hm
 rcases List.mem_append.1 hm with hm | hm
 ·obtain ⟨v, hv, rfl⟩ := List.mem_map.1 hm
  have t := t1 v hv
  have : ∀ y ∈ nmParam v, y ∈ nmRs p.routines := fun y hy => nm1_in hn (by
   have : y ∈ nmParams n.r.params := List.mem_flatMap.2 ⟨v, hv, hy⟩
   simp [nm1, this])
  exact ⟨t, this _ (by simp [nmParam, parts_plain t.1.2]), this _ (by simp [nmParam, parts_plain t.2.2])⟩
 ·obtain ⟨v, hv, rfl⟩ := List.mem_map.1 hm
  have t := t2 v hv
  have : ∀ y ∈ nmVar v, y ∈ nmRs p.routines := fun y hy => nm1_in hn (by
   have : y ∈ nmVars n.r.vars := List.mem_flatMap.2 ⟨v, hv, hy⟩
   simp [nm1, this])
  exact ⟨t, this _ (by simp [nmVar, parts_plain t.1.2]), this _ (by simp [nmVar, parts_plain t.2.2])⟩
theorem liftF_at {p : Prg} {a : Int} {name path : ByteArray} {us : List Param} (he : liftF (nodesOf p.routines) (cUps p.routines) a name = some (path, us)) : ∃ n ∈ nodesOf p.routines, n.r.name = name ∧ path = n.path ∧ us ∈ cUps p.routines := by
 unfold liftF at he
 simp only at he
 split at he
 ·cases he
 ·rename_i hn
  obtain ⟨n, e1, e2⟩ := callee_name _ _ hn
  rw [e1] at he
  split at he
  ·rename_i m vs em ev
   cases em
   simp only [Option.some.injEq, Prod.mk.injEq] at he
   obtain ⟨rfl, rfl⟩ := he
   exact ⟨n, List.mem_of_getElem? e1, e2, rfl, List.mem_of_getElem? ev⟩
  ·cases he
theorem liftF_lf {p : Prg} (ht : tPrg p = true) (h : (liftP p).2 = 0) (a : Int) : LF (· ∈ nmRs p.routines) (liftF (nodesOf p.routines) (cUps p.routines) a) := ⟨fun name path us he => by
 obtain ⟨n, hn, rfl, rfl, hu⟩ := liftF_at he
 obtain ⟨t, q, q1, q2, q3, q4⟩ := tree_paths ht n hn
 have hnm : n.r.name ∈ nmRs p.routines := nm1_in hn (by simp [nm1, parts_plain (tName_plain t)])
 refine ⟨fun y hy => ?_, fun y hy => ?_, by rw [q1]; simp; omega, by unfold small; omega, liftF_few h a _ _ _ he, fun u hu' => ?_⟩
 ·rw [parts_plain (tName_plain t)] at hy
  rw [q1]; simp at hy ⊢; exact .inr hy
 ·rw [q1] at hy
  rcases List.mem_append.1 hy with hy | hy
  ·exact (q4 y hy).1
  ·simp only [List.mem_singleton] at hy; subst hy; exact hnm
 ·obtain ⟨u1, u2, _⟩ := ups_names ht hu u hu'
  exact ⟨u2, u1.1⟩⟩
theorem nmParams_tame : ∀ {l : List Param}, (∀ u ∈ l, inParam tame u) → (nmParams l).length ≤ 2 * l.length := fun h => nmParams_len fun u hu => ⟨(h u hu).1.2, (h u hu).2.2⟩
theorem lfRs {p : Prg} (ht : tPrg p = true) (h : (liftP p).2 = 0) : ∀ (l : List (CN × List Param)) (i : Nat), (∀ q ∈ l, q.1 ∈ nodesOf p.routines ∧ q.2 ∈ cUps p.routines ∧ q.1.r.params.length + q.2.length ≤ 512) →
  (∀ q ∈ l, ∀ x ∈ nm1 q.1.r, x ∈ nmRs (liftRs (nodesOf p.routines) (cUps p.routines) i l)) ∧ (∀ x ∈ nmRs (liftRs (nodesOf p.routines) (cUps p.routines) i l), x ∈ nmRs p.routines ∨ x = noBytes) ∧
  (nmRs (liftRs (nodesOf p.routines) (cUps p.routines) i l)).length ≤ 1100 * (l.map fun q => wR q.1.r).sum ∧ inRs small (liftRs (nodesOf p.routines) (cUps p.routines) i l)
 | [], i, _ => by simp [liftRs, nmRs, inRs]
 | q :: l, i, hq => by
  obtain ⟨i1, i2, i3, i4⟩ := lfRs ht h l (i + 1) fun r hr => hq r (by simp [hr])
  obtain ⟨c1, c2, c3⟩ := hq q (by simp)
  obtain ⟨a, d, hr⟩ := tree_nodes ht q.1 c1
  obtain ⟨t1, t2, t3, t4⟩ := tree_routine hr
  obtain ⟨tn, b, b1, b2, b3, b4⟩ := tree_paths ht q.1 c1
  have F := liftF_lf ht h i
  obtain ⟨s1, s2, s3⟩ := lfSs F _ q.1.r.body (Nat.lt_succ_self _) t3
  have u := ups_names ht c2
  have hnm := parts_plain (tName_plain tn)
  have e : nmRs (liftRs (nodesOf p.routines) (cUps p.routines) i (q :: l)) = parts q.1.path ++ (nmParams q.1.r.params ++ nmParams q.2) ++ nmVars q.1.r.vars ++ nmSs (liftSs (liftF (nodesOf p.routines) (cUps p.routines) i) q.1.r.body) ++ nmRs (liftRs (nodesOf p.routines) (cUps p.routines) (i + 1) l) := by
   simp only [liftRs, nmRs, liftR, nmR_eq, nmParams, List.flatMap_append, List.append_nil, List.append_assoc]
  rw [e]
  refine ⟨fun r hr' x hx => ?_, fun x hx => ?_, ?_, ?_⟩
  ·rcases List.mem_cons.1 hr' with rfl | hr'
   ·simp only [nm1, List.mem_append, hnm, List.mem_singleton] at hx
    simp only [List.mem_append, b1, List.mem_singleton]
    rcases hx with ((hx | hx) | hx) | hx
    ·exact .inl (.inl (.inl (.inl (.inr hx))))
    ·exact .inl (.inl (.inl (.inr (.inl hx))))
    ·exact .inl (.inl (.inr hx))
    ·exact .inl (.inr (s1 x hx))
   ·exact List.mem_append.2 (.inr (i1 r hr' x hx))
  ·simp only [List.mem_append, b1, List.mem_singleton] at hx
   rcases hx with (((((hx | hx) | (hx | hx)) | hx) | hx) | hx)
   ·exact .inl (b4 x hx).1
   ·exact .inl (nm1_in c1 (by simp [nm1, hnm, hx]))
   ·exact .inl (nm1_in c1 (by simp [nm1, hx]))
   ·obtain ⟨v, hv, hx⟩ := List.mem_flatMap.1 hx
    obtain ⟨v1, v2, v3⟩ := u v hv
    simp only [nmParam, parts_plain v1.1.2, parts_plain v1.2.2, List.mem_append, List.mem_singleton] at hx
    rcases hx with rfl | rfl
    ·exact .inl v2
    ·exact .inl v3
   ·exact .inl (nm1_in c1 (by simp [nm1, hx]))
   ·rcases s2 x hx with hx | hx
    ·exact .inl (nm1_in c1 (by simp [nm1, hx]))
    ·exact hx
   ·exact i2 x hx
  ·have n1 := nmParams_tame t1
   have n2 := nmParams_tame fun v hv => (u v hv).1
   have n3 := nmVars_len (l := q.1.r.vars) fun v hv => ⟨(t2 v hv).1.2, (t2 v hv).2.2⟩
   simp only [List.length_append, b1, List.length_singleton, List.map_cons, List.sum_cons]
   have := wR_eq q.1.r
   omega
  ·simp only [liftRs, inRs]
   refine ⟨?_, i4⟩
   simp only [liftR]
   refine (inR_eq small _).2 ⟨show q.1.path.size ≤ _ by omega, fun v hv => ?_, fun v hv => ⟨(t2 v hv).1.1, (t2 v hv).2.1⟩, trivial, inSs_lift (by unfold small; decide) (fun name path us he => ?_) _ _ (Nat.lt_succ_self _) t4⟩
   ·rcases List.mem_append.1 hv with hv | hv
    ·exact ⟨(t1 v hv).1.1, (t1 v hv).2.1⟩
    ·obtain ⟨v1, _, _⟩ := u v hv
     exact ⟨v1.1.1, v1.2.1⟩
   ·obtain ⟨_, _, _, k4, _, k6⟩ := F.h _ _ _ he
    exact ⟨k4, fun w hw => (k6 w hw).2.1⟩
theorem sum_le {X : Type} {g : X → Nat} {c : Nat} : ∀ {l : List X}, (∀ x ∈ l, g x ≤ c) → (l.map g).sum ≤ l.length * c
 | [], _ => by simp
 | x :: l, h => by
  have := sum_le (l := l) fun y hy => h y (by simp [hy])
  have := h x (by simp)
  simp only [List.map_cons, List.sum_cons, List.length_cons, Nat.add_mul]; omega
theorem lift_names {p : Prg} (ht : tPrg p = true) (hw : wP p ≤ 1048576) (h : (liftP p).2 = 0) : (∀ x ∈ nmP p, x ∈ nmP (liftP p).1) ∧ (∀ x ∈ nmP (liftP p).1, x ∈ nmP p ∨ x = noBytes) ∧ roomy (nmP (liftP p).1) ∧ inP small (liftP p).1 := by
 obtain ⟨g1, g2, g3⟩ := liftP_good h
 have hpl := tPrg_plain ht
 have hsm : inP small p := tPrg_in (fun _ h => (tName_tame h).1) (by unfold small; decide) ht
 have hwr : wRs p.routines ≤ 1048576 := by unfold wP at hw; omega
 have hall : ∀ n ∈ nodesOf p.routines, wR n.r ≤ 1048576 := capL_all (P := fun x => wR x ≤ 1048576) (fun x hx y hy => Nat.le_trans (wR_in hy) hx) _ p.routines (Nat.lt_succ_self _) (fun x hx => Nat.le_trans (wRs_mem hx) hwr) 0 p.routines (-1) noBytes
 obtain ⟨r1, r2, r3, r4⟩ := lfRs ht h ((nodesOf p.routines).zip (cUps p.routines)) 0 fun q hq => ⟨(List.of_mem_zip (show (q.1, q.2) ∈ _ from hq)).1, (List.of_mem_zip (show (q.1, q.2) ∈ _ from hq)).2, g2 q hq⟩
 have F := liftF_lf ht h (-1)
 obtain ⟨s1, s2, s3⟩ := lfSs F _ p.body (Nat.lt_succ_self _) hpl.body
 have hups : (cUps p.routines).length = (nodesOf p.routines).length := by unfold cUps; rw [List.length_map, List.length_range]; rfl
 have hs := sum_le (l := (nodesOf p.routines).zip (cUps p.routines)) (g := fun q => wR q.1.r) (c := 1048576) fun q hq => hall _ (List.of_mem_zip (show (q.1, q.2) ∈ _ from hq)).1
 have hz : ((nodesOf p.routines).zip (cUps p.routines)).length ≤ 512 := by rw [List.length_zip]; omega
 rw [g3]
 simp only [nmP]
 refine ⟨fun x hx => ?_, fun x hx => ?_, ?_, ⟨hsm.name, hsm.recs, hsm.vars, r4, inSs_lift (by unfold small; decide) (fun name path us he => ?_) _ _ (Nat.lt_succ_self _) hsm.body⟩⟩
 ·simp only [List.mem_append] at hx ⊢
  rcases hx with ((hx | hx) | hx)
  ·exact .inl (.inl hx)
  ·obtain ⟨n, hn, hx⟩ := (nm_nodes _ p.routines (Nat.lt_succ_self _) 0 p.routines (-1) noBytes x).1 hx
   obtain ⟨i, hi⟩ := List.getElem?_of_mem (show n ∈ nodesOf p.routines from hn)
   have hu : (cUps p.routines)[i]? = some ((cUps p.routines)[i]'(by have := (List.getElem?_eq_some_iff.1 hi).1; omega)) := List.getElem?_eq_getElem _
   have hzz : ((nodesOf p.routines).zip (cUps p.routines))[i]? = some (n, _) := List.getElem?_zip_eq_some.2 ⟨hi, hu⟩
   exact .inl (.inr (r1 _ (List.mem_of_getElem? hzz) x hx))
  ·exact .inr (s1 x hx)
 ·simp only [List.mem_append] at hx ⊢
  rcases hx with ((hx | hx) | hx)
  ·exact .inl (.inl (.inl hx))
  ·rcases r2 x hx with hx | hx
   ·exact .inl (.inl (.inr hx))
   ·exact .inr hx
  ·rcases s2 x hx with hx | hx | hx
   ·exact .inl (.inr hx)
   ·exact .inl (.inl (.inr hx))
   ·exact .inr hx
 ·have n1 := nmRecs_len hpl.recs
  have n2 := nmVars_len hpl.vars
  have n3 := parts_one hpl.name
  unfold roomy
  simp only [List.length_append, n3]
  unfold wP at hw
  have : ((nodesOf p.routines).zip (cUps p.routines)).length * 1048576 ≤ 512 * 1048576 := Nat.mul_le_mul_right _ hz
  omega
 ·obtain ⟨_, _, _, k4, _, k6⟩ := F.h _ _ _ he
  exact ⟨k4, fun w hw => (k6 w hw).2.1⟩
end Pg

namespace Pg.Ac
open Go
set_option linter.all false
mutual
def callE : Expr → List (ByteArray × Nat)
 | ⟨op, n, name, field, l⟩ => (if op = 7 then [(name, l.length)] else []) ++ callEs l
def callEs : List Expr → List (ByteArray × Nat)
 | [] => []
 | x :: r => callE x ++ callEs r
end
theorem callE_eq (x : Expr) : callE x = (if x.op = 7 then [(x.name, x.l.length)] else []) ++ callEs x.l := by
 obtain ⟨op, n, name, field, l⟩ := x; rfl
mutual
def callS : Stmt → List (ByteArray × Nat)
 | ⟨before, trail, op, name, p, e, down, more, body, els, end1, end2⟩ => callE p ++ callEs e ++ callSs body ++ callSs els
def callSs : List Stmt → List (ByteArray × Nat)
 | [] => []
 | x :: r => callS x ++ callSs r
end
theorem callS_eq (x : Stmt) : callS x = callE x.p ++ callEs x.e ++ callSs x.body ++ callSs x.els := by
 obtain ⟨before, trail, op, name, p, e, down, more, body, els, end1, end2⟩ := x; rfl
def Seen (fs : List Scope) (q : ByteArray × Nat) : Prop := ∃ r, findIn fs q.1 = some (.routine r) ∧ r.params.length = q.2
theorem pair_seen {fs : List Scope} {k : Int} : ∀ {l : List Expr} {s : CS}, (∀ y ∈ l, ∀ s, (ckExpr fs s y false).2.bad = 0 → ∀ name ∈ callE y, Seen fs name) → (ckPair fs s l k).bad = 0 → ∀ name ∈ callEs l, Seen fs name
 | [], s, _, _, name, hn => by simp [callEs] at hn
 | x :: l, s, h, hb, name, hn => by
  simp only [ckPair] at hb
  simp only [callEs, List.mem_append] at hn
  rcases hn with hn | hn
  ·exact h x (by simp) s (ckKind_zero (ckPair_zero hb)) name hn
  ·exact pair_seen (fun y hy => h y (by simp [hy])) hb name hn
theorem args_seen {fs : List Scope} : ∀ {ps : List Param} {l : List Expr} {s : CS}, ps.length = l.length → (∀ y ∈ l, ∀ s, (ckExpr fs s y false).2.bad = 0 → ∀ name ∈ callE y, Seen fs name) → (ckArgs fs s ps l).bad = 0 → ∀ name ∈ callEs l, Seen fs name
 | ps, [], s, _, _, _, name, hn => by simp [callEs] at hn
 | [], x :: l, s, hl, _, _, _, _ => by simp at hl
 | p :: ps, x :: l, s, hl, h, hb, name, hn => by
  have hs := ckArgs_zero hb
  simp only [ckArgs, hs, if_true] at hb
  simp only [callEs, List.mem_append] at hn
  have hl' : ps.length = l.length := by simpa using hl
  have h' := fun y hy => h y (List.mem_cons_of_mem x hy)
  split at hb
  ·rcases hn with hn | hn
   ·exact h x (by simp) s (ckKind_zero (ckArgs_zero hb)) name hn
   ·exact args_seen hl' h' hb name hn
  ·generalize (if x.op = 4 ∨ x.op = 5 ∨ x.op = 6 then s else s.fail 14) = s1 at hb
   rcases hn with hn | hn
   ·have h2 := ckArgs_zero hb
    split at h2
    ·exact h x (by simp) _ h2 name hn
    ·exact absurd h2 (fail_yes _ (by decide))
   ·exact args_seen hl' h' hb name hn
theorem ckTwo_seen {fs : List Scope} {kinds : List Int} {l : List Expr} {s : CS} (hl : l.length = 2) (h : ∀ y ∈ l, ∀ s, (ckExpr fs s y false).2.bad = 0 → ∀ name ∈ callE y, Seen fs name) (hb : (ckTwo fs s kinds l).bad = 0) : ∀ name ∈ callEs l, Seen fs name := by
 obtain ⟨y, z, rfl⟩ : ∃ y z, l = [y, z] := by
  match l, hl with
  | [y, z], _ => exact ⟨y, z, rfl⟩
 simp only [ckTwo, List.length_cons, List.length_nil, if_true] at hb
 intro name hn
 simp only [callEs, List.append_nil, List.mem_append] at hn
 rcases hn with hn | hn
 ·exact h y (by simp) s (ckKind_zero (ckPair_zero hb)) name hn
 ·exact pair_seen (l := [z]) (fun w hw => h w (by simp at hw; simp [hw])) hb name (by simpa [callEs] using hn)
theorem expr_seen {fs : List Scope} : ∀ (n : Nat) (x : Expr), form n x = true → ∀ (b : Bool) (s : CS), (ckExpr fs s x b).2.bad = 0 → ∀ name ∈ callE x, Seen fs name := by
 intro n
 induction n with
 | zero => intro x h; simp [form] at h
 | succ n ih =>
  intro x hx b s hb name hn
  have hsub : ∀ y ∈ x.l, ∀ s, (ckExpr fs s y false).2.bad = 0 → ∀ name ∈ callE y, Seen fs name := fun y hy s => ih y (form_sub hx y hy) false s
  rw [form_eq] at hx
  simp only [Bool.and_eq_true, decide_eq_true_eq] at hx
  obtain ⟨⟨⟨⟨h1, h2⟩, h3⟩, h4⟩, h5⟩ := hx
  have hlen := parts_len h4
  have hs := ckExpr_zero hb
  rw [ckExpr_eq, if_pos hs] at hb
  rw [callE_eq] at hn
  have nil : x.l.length = 0 → x.op ≠ 7 → False := fun h0 h7 => by
   have : x.l = [] := List.length_eq_zero_iff.1 h0
   rw [if_neg h7, this] at hn
   simp [callEs] at hn
  by_cases g7 : x.op = 7
  ·rw [if_neg (by omega), if_neg (by omega), if_neg (by omega), if_neg (by omega), if_neg (by omega), if_neg (by omega), if_pos g7] at hb
   cases hf : findIn fs x.name with
   | none => rw [hf] at hb; exact absurd hb (fail_yes _ (by decide))
   | some z =>
    rw [hf] at hb
    cases z with
    | var t => exact absurd hb (fail_yes _ (by decide))
    | rcd r => exact absurd hb (fail_yes _ (by decide))
    | routine r =>
     simp only at hb
     split at hb
     ·exact absurd (ckArgs_zero hb) (fail_yes _ (by decide))
     ·split at hb
      ·rename_i hl
       rw [if_pos g7] at hn
       rcases List.mem_append.1 hn with hn | hn
       ·simp only [List.mem_cons, List.not_mem_nil, or_false] at hn
        subst hn; exact ⟨r, hf, hl⟩
       ·exact args_seen hl hsub hb name hn
      ·exact absurd hb (fail_yes _ (by decide))
  ·rw [if_neg g7, List.nil_append] at hn
   by_cases g1 : x.op = 1 ∨ x.op = 2 ∨ x.op = 3 ∨ x.op = 4 ∨ x.op = 6
   ·exact (nil (by
     rw [if_neg g7, if_neg (by omega), if_neg (by omega)] at hlen; omega) g7).elim
   rw [if_neg (by omega), if_neg (by omega), if_neg (by omega), if_neg (by omega)] at hb
   by_cases g5 : x.op = 5
   ·rw [if_pos g5] at hb
    exact pair_seen hsub hb name hn
   rw [if_neg g5, if_neg (by omega), if_neg g7] at hb
   split at hb
   ·exact pair_seen hsub hb name hn
   ·rename_i g9
    have two : 19 ≤ x.op → x.l.length = 2 := fun h => by
     rw [if_neg g7, if_neg (by omega), if_pos (by omega)] at hlen; omega
    split at hb
    ·exact ckTwo_seen (two (by omega)) hsub hb name hn
    ·split at hb
     ·exact ckTwo_seen (two (by omega)) hsub hb name hn
     ·exact pair_seen hsub hb name hn
theorem stmt_seen {fs : List Scope} {x : Stmt} (hx : SForm x) (hp : ¬ (x.op = 1 ∨ x.op = 7) → callE x.p = []) {res : Int} {s : CS} (hb : (ckStmt fs s res x).bad = 0) : ∀ name ∈ callE x.p ++ callEs x.e, Seen fs name := by
 intro name hn
 have he : ∀ y ∈ x.e, ∀ b s, (ckExpr fs s y b).2.bad = 0 → ∀ name ∈ callE y, Seen fs name := fun y hy b s => expr_seen 48 y (hx.e y hy) b s
 have hpe : (x.op = 1 ∨ x.op = 7) → ∀ s, (ckExpr fs s x.p false).2.bad = 0 → ∀ name ∈ callE x.p, Seen fs name := fun h s => expr_seen 48 x.p (hx.p h) false s
 have lo := hx.lo
 have hi := hx.hi
 have h1 := hx.op1
 have h9 := hx.op9
 have pair : ∀ {k : Int} {s : CS}, (ckPair fs s x.e k).bad = 0 → ∀ name ∈ callEs x.e, Seen fs name := fun h => pair_seen (fun y hy => he y hy false) h
 have rest : ¬ (x.op = 1 ∨ x.op = 7) → name ∈ callEs x.e := fun h => by
  rw [hp h, List.nil_append] at hn; exact hn
 unfold ckStmt at hb
 by_cases g1 : x.op = 1
 ·rw [if_pos g1] at hb
  rcases List.mem_append.1 hn with hn | hn
  ·exact hpe (.inl g1) _ (ckKind_zero (ckPair_zero hb)) name hn
  ·exact pair hb name hn
 rw [if_neg g1] at hb
 by_cases g2 : x.op = 2
 ·rw [if_pos g2] at hb
  have hn := rest (by omega)
  obtain ⟨y, hy⟩ : ∃ y, x.e = [y] := by
   rw [if_neg (by omega), if_neg (by omega), if_neg (by omega)] at lo
   rw [if_neg (by omega), if_neg (by omega)] at hi
   exact List.length_eq_one_iff.1 (by omega)
  rw [hy] at hb hn
  simp only [ckEach] at hb
  exact he y (by simp [hy]) true s hb name (by simpa [callEs] using hn)
 rw [if_neg g2] at hb
 by_cases g3 : x.op = 3 ∨ x.op = 4 ∨ x.op = 5
 ·rw [if_pos g3] at hb
  exact pair hb name (rest (by omega))
 rw [if_neg g3] at hb
 by_cases g6 : x.op = 6
 ·rw [if_pos g6] at hb
  exact pair hb name (rest (by omega))
 rw [if_neg g6] at hb
 by_cases g7 : x.op = 7
 ·rw [if_pos g7] at hb
  have hee : x.e = [] := by
   rw [if_neg g6, if_pos g7] at hi
   exact List.length_eq_zero_iff.1 (by omega)
  rw [hee] at hn
  simp only [callEs, List.append_nil] at hn
  exact hpe (.inr g7) _ (ckKind_zero hb) name hn
 rw [if_neg g7] at hb
 by_cases g8 : x.op = 8
 ·rw [if_pos g8] at hb
  have hn := rest (by omega)
  obtain ⟨y, hy⟩ : ∃ y, x.e = [y] := by
   rw [if_neg (by omega), if_neg (by omega), if_neg (by omega)] at lo
   rw [if_neg (by omega), if_neg (by omega)] at hi
   exact List.length_eq_one_iff.1 (by omega)
  rw [hy] at hb hn
  simp only [ckAnys, ckAny] at hb
  exact he y (by simp [hy]) false s (ckKind_zero hb) name (by simpa [callEs] using hn)
 rw [if_neg g8, if_pos (by omega : x.op = 9)] at hb
 have hn := rest (by omega)
 unfold ckResult at hb
 by_cases hr : 0 < res
 ·simp only [hr, if_true] at hb
  exact pair hb name hn
 ·simp only [hr, if_false, decide_false] at hb
  have hee : x.e = [] := by
   refine Decidable.byContradiction fun hh => ?_
   have := List.length_pos_iff.2 hh
   rw [if_neg (by simp [this])] at hb
   exact absurd hb (fail_yes _ (by decide))
  rw [hee] at hn
  simp [callEs] at hn
theorem tNone_callE {x : Expr} (h : tNone x = true) : callE x = [] := by
 unfold tNone at h
 simp only [Bool.and_eq_true, decide_eq_true_eq] at h
 obtain ⟨⟨⟨⟨h1, _⟩, _⟩, _⟩, h2⟩ := h
 have hl : x.l = [] := List.length_eq_zero_iff.1 h2
 rw [callE_eq, hl]
 simp [h1, callEs]
theorem tStmt1_none {x : Stmt} (h : tStmt1 x = true) (hp : ¬ (x.op = 1 ∨ x.op = 7)) : callE x.p = [] := by
 unfold tStmt1 sPlace at h
 simp only [Bool.and_eq_true] at h
 have h6 := h.1.1.1.2
 rw [if_neg hp] at h6
 exact tNone_callE h6
theorem stmts_seen {fs : List Scope} {res : Int} : ∀ (n : Nat) (l : List Stmt) (d : Int), Stmts.sz l ≤ n → tStmts l d = true → ∀ s, (ckStmts fs s res l).bad = 0 → ∀ name ∈ callSs l, Seen fs name
 | n, [], d, _, _, s, _, name, hn => by simp [callSs] at hn
 | 0, x :: l, d, hz, _, s, _, _, _ => by simp [Stmts.sz] at hz
 | n + 1, x :: l, d, hn, ht, s, hb, name, hc => by
  have hz := Stmt.sz_eq x
  simp only [Stmts.sz] at hn
  simp only [tStmts, Bool.and_eq_true] at ht
  have ht1 := ht.1
  rw [tStmt_eq] at ht1
  simp only [Bool.and_eq_true, decide_eq_true_eq] at ht1
  obtain ⟨⟨⟨hd, hso⟩, htb, hlb⟩, hte, hle⟩ := ht1
  have hs := ckStmts_zero hb
  simp only [ckStmts, hs, if_true] at hb
  have hb1 := ckStmts_zero hb
  rw [ckDeep_eq] at hb1
  have hb2 := ckStmts_zero hb1
  have hb3 := ckStmts_zero hb2
  simp only [callSs, List.mem_append] at hc
  rcases hc with hc | hc
  ·rw [callS_eq] at hc
   simp only [List.mem_append] at hc
   rcases hc with (hc | hc) | hc
   ·exact stmt_seen (tStmt1_form hso) (fun hp => tStmt1_none hso hp) hb3 name (List.mem_append.2 hc)
   ·exact stmts_seen n x.body (d + 1) (by omega) htb _ hb2 name hc
   ·exact stmts_seen n x.els (d + 1) (by omega) hte _ hb1 name hc
  ·exact stmts_seen n l d (by omega) ht.2 _ hb name hc
def Rl (ns : List CN) (fs : List Scope) (a : Int) : Prop := ∀ m r, findIn fs m = some (.routine r) → ∃ (v : Nat) (n : CN), ns[v]? = some n ∧ n.r = r ∧ ∀ f, (a + 2).toNat ≤ f → calleeAt ns m f a = v
theorem Rl.lay {ns : List CN} {fs : List Scope} {a : Int} (o : Rl ns fs a) (hne : fs ≠ []) (name : ByteArray) (t : Typ) : Rl ns (setTop name (.var t) fs) a := fun m r h => by
 rw [findIn_setTop name _ hne] at h
 split at h
 ·simp at h
 ·exact o m r h
theorem Rl.deeper {ns : List CN} {fs : List Scope} {a : Int} (o : Rl ns fs a) : Rl ns ([] :: fs) a := fun m r h => o m r (by simpa [findIn, look] using h)
theorem Rl.params {ns : List CN} {a : Int} : ∀ (l : List Param) {fs : List Scope} {s : CS}, fs ≠ [] → Rl ns fs a → (ckParams fs s l).2.bad = 0 → Rl ns (ckParams fs s l).1 a ∧ (ckParams fs s l).1 ≠ []
 | [], fs, s, hne, o, h => ⟨by simpa [ckParams] using o, by simpa [ckParams] using hne⟩
 | v :: l, fs, s, hne, o, h => by
  simp only [ckParams] at h ⊢
  have h1 : (ckLay fs s v.name (.var v.t)).2.bad = 0 := by
   refine Decidable.byContradiction fun hb => ?_
   rw [ckTyp_bad _ hb, ckParams_bad hb] at h
   exact hb h
  obtain ⟨_, _, e⟩ := ckLay_zero h1
  refine Rl.params l ?_ ?_ h
  ·rw [e]; cases fs with
   | nil => exact absurd rfl hne
   | cons f fs => simp [setTop]
  ·rw [e]; exact o.lay hne _ _
theorem Rl.vars {ns : List CN} {a : Int} (behind : List Routine) : ∀ (l : List Var) {fs : List Scope} {s : CS}, fs ≠ [] → Rl ns fs a → (ckVars fs s l behind).2.bad = 0 → Rl ns (ckVars fs s l behind).1 a ∧ (ckVars fs s l behind).1 ≠ []
 | [], fs, s, hne, o, h => ⟨by simpa [ckVars] using o, by simpa [ckVars] using hne⟩
 | v :: l, fs, s, hne, o, h => by
  have hs : s.bad = 0 := Decidable.byContradiction fun hb => by rw [ckVars_bad hb] at h; exact hb h
  simp only [ckVars, hs, if_true] at h ⊢
  generalize (if (behind.any fun x => decide (x.name = v.name)) = true then s.step.fail 12 else s.step) = s1 at h ⊢
  have h1 : (ckLay fs s1 v.name (.var v.t)).2.bad = 0 := by
   refine Decidable.byContradiction fun hb => ?_
   rw [ckTyp_bad _ hb, ckVars_bad hb] at h
   exact hb h
  obtain ⟨_, _, e⟩ := ckLay_zero h1
  refine Rl.vars behind l ?_ ?_ h
  ·rw [e]; cases fs with
   | nil => exact absurd rfl hne
   | cons f fs => simp [setTop]
  ·rw [e]; exact o.lay hne _ _
theorem look_all_in {m : ByteArray} {y : Thing} : ∀ (l : List Routine) (f : Scope), look (allOf f l) m = some y → (∃ r ∈ l, r.name = m ∧ y = .routine r) ∨ look f m = some y
 | [], f, h => .inr h
 | r :: l, f, h => by
  simp only [allOf] at h
  rcases look_all_in l _ h with ⟨x, hx, h1⟩ | h
  ·exact .inl ⟨x, by simp [hx], h1⟩
  ·rw [look_setIn] at h
   split at h
   ·rename_i he
    simp only [Option.some.injEq] at h
    exact .inl ⟨r, by simp, he.symm, h.symm⟩
   ·exact .inr h
theorem look_all_some {m : ByteArray} : ∀ (l : List Routine) (f : Scope), m ∈ l.map (·.name) → look (allOf f l) m ≠ none
 | r :: l, f, h => by
  simp only [allOf]
  simp only [List.map_cons, List.mem_cons] at h
  by_cases he : m = r.name
  ·refine look_all_ne l _ ?_
   rw [look_setIn, if_pos he]; simp
  ·exact look_all_some l _ (h.resolve_left he)
theorem one_name {l : List Routine} {d : Int} (ht : tRoutines [] l d = true) {x y : Routine} (hx : x ∈ l) (hy : y ∈ l) (h : x.name = y.name) : x = y := by
 have nd := (tRoutines_nodup ht).1
 obtain ⟨i, hi⟩ := List.getElem?_of_mem hx
 obtain ⟨j, hj⟩ := List.getElem?_of_mem hy
 have : i = j := nodup_inj nd (a := x.name) (by simp [hi]) (by simp [hj, h])
 subst this
 rw [hi] at hj; cases hj; rfl
theorem Rl.visible {p : List Routine} {d0 : Int} (ht : tRoutines [] p d0 = true) {fs : List Scope} {k : Nat} {n : CN} (hn : (nodesOf p)[k]? = some n) {d : Int} (hi : tRoutines [] n.r.inner d = true) (har : n.around < (k : Int)) (o : Rl (nodesOf p) fs n.around) : Rl (nodesOf p) (allOf [] n.r.inner :: fs) (k : Int) := fun m r h => by
 have fof : ∀ f, ((k : Int) + 2).toNat ≤ f → ∃ g, f = g + 1 ∧ (n.around + 2).toNat ≤ g := fun f hf => ⟨f - 1, by omega, by omega⟩
 simp only [findIn] at h
 cases hl : look (allOf [] n.r.inner) m with
 | some y =>
  rw [hl] at h
  simp only [Option.some.injEq] at h
  subst h
  rcases look_all_in _ _ hl with ⟨x, hx, h1, h2⟩ | h
  ·cases h2
   obtain ⟨w, hw⟩ : ∃ w, lookN m n.inner = some w := by
    have := lookN_some (name := m) n.r.inner (k + 1) [] (.inl (List.mem_map.2 ⟨r, hx, h1⟩))
    rw [← (node_inner hn).1] at this
    cases hh : lookN m n.inner with
    | none => exact absurd hh this
    | some w => exact ⟨w, rfl⟩
   obtain ⟨c, c1, c2, c3⟩ := (node_inner hn).2 hw
   have hcr : c.r = r := by
    rcases capL_parent _ p (Nat.lt_succ_self _) 0 p (-1) noBytes w c c1 with ⟨a1, _⟩ | ⟨s, y, a1, a2, a3, _⟩
    ·omega
    ·have : s = k := by omega
     subst this
     change (nodesOf p)[s]? = some y at a1
     rw [hn] at a1; cases a1
     exact one_name hi a3 hx (by rw [c2, h1])
   refine ⟨w, c, c1, hcr, fun f hf => ?_⟩
   obtain ⟨g, rfl, _⟩ := fof f hf
   simp only [calleeAt]
   rw [callee_find ht c1 c2 c3]
  ·simp [look] at h
 | none =>
  rw [hl] at h
  obtain ⟨v, c, c1, c2, c3⟩ := o m r h
  refine ⟨v, c, c1, c2, fun f hf => ?_⟩
  obtain ⟨g, rfl, hg⟩ := fof f hf
  have hno : lookN m n.inner = none := by
   cases hh : lookN m n.inner with
   | none => rfl
   | some w =>
    obtain ⟨c, e1, e2, e3⟩ := (node_inner hn).2 hh
    refine absurd hl (look_all_some _ _ ?_)
    rcases capL_parent _ p (Nat.lt_succ_self _) 0 p (-1) noBytes w c e1 with ⟨a1, _⟩ | ⟨s, y, a1, a2, a3, _⟩
    ·omega
    ·have : s = k := by omega
     subst this
     change (nodesOf p)[s]? = some y at a1
     rw [hn] at a1; cases a1
     exact List.mem_map.2 ⟨c.r, a3, e2⟩
  simp only [calleeAt]
  rw [callee_none hn hno]
  simp only
  rw [if_neg (by omega), Int.toNat_natCast, hn]
  exact c3 g hg
def Fits (ns : List CN) (a : Int) (q : ByteArray × Nat) : Prop := ∃ (v : Nat) (n : CN), ns[v]? = some n ∧ n.r.params.length = q.2 ∧ calleeAt ns q.1 (a + 2).toNat a = v
theorem Rl.fits {ns : List CN} {fs : List Scope} {a : Int} (o : Rl ns fs a) {q : ByteArray × Nat} (h : Seen fs q) : Fits ns a q := by
 obtain ⟨r, h1, h2⟩ := h
 obtain ⟨v, n, e1, e2, e3⟩ := o _ _ h1
 exact ⟨v, n, e1, by rw [e2]; exact h2, e3 _ (Nat.le_refl _)⟩
theorem routines_fit {p : List Routine} {d0 : Int} (ht0 : tRoutines [] p d0 = true) : ∀ (N : Nat) (l : List Routine) (d : Int) (ahead : List ByteArray), Routines.sz l < N → tRoutines ahead l d = true → ∀ (k : Nat) (whole : List Routine) (around : Int) (path : ByteArray), around < (k : Int) → -1 ≤ around → (∀ t n, (capL k whole around path l)[t]? = some n → (nodesOf p)[k + t]? = some n) →
  ∀ {fs all : List Scope}, Rl (nodesOf p) all around → ∀ s, (ckRoutines fs all s l).bad = 0 → ∀ t n, (capL k whole around path l)[t]? = some n → ∀ q ∈ callSs n.r.body, Fits (nodesOf p) ((k + t : Nat) : Int) q
 | 0, l, d, _, h, _, _, _, _, _, _, _, _, _, _, _, _, _, _, _, _ => by omega
 | N + 1, [], d, _, _, _, k, whole, around, path, _, _, _, fs, all, _, s, _, t, n, hn => by simp [capL] at hn
 | N + 1, x :: l, d, ahead, hN, ht, k, whole, around, path, hk1, hk2, hat, fs, all, o, s, hb, t, n, hn => by
  have hz := Routine.sz_eq x
  simp only [Routines.sz] at hN
  simp only [tRoutines, Bool.and_eq_true] at ht
  have hx := tRoutine_ok ht.1
  have hs := ckRoutines_zero hb
  simp only [ckRoutines, hs, if_true] at hb
  have hb1 := ckRoutines_zero hb
  have hlen := capR_len x k whole around path
  simp only [capL] at hn hat
  have left : ∀ j n, (capR k whole around path x)[j]? = some n → (nodesOf p)[k + j]? = some n := fun j n hj => by
   have hlt := (List.getElem?_eq_some_iff.1 hj).1
   exact hat j n (by rw [List.getElem?_append, if_pos hlt]; exact hj)
  have right : ∀ j n, (capL (k + rcnt x) whole around path l)[j]? = some n → (nodesOf p)[k + rcnt x + j]? = some n := fun j n hj => by
   have := hat (rcnt x + j) n (by rw [List.getElem?_append, if_neg (by rw [hlen]; omega), hlen, Nat.add_sub_cancel_left]; exact hj)
   rw [← this]; congr 1; omega
  rw [List.getElem?_append] at hn
  have e0 : (nodesOf p)[k]? = some ⟨path ++ x.name, around, whole, x, capMap (k + 1) [] x.inner⟩ := by
   have := left 0 ⟨path ++ x.name, around, whole, x, capMap (k + 1) [] x.inner⟩ (by rw [capR_eq]; rfl)
   simpa using this
  split at hn
  ·generalize (if (findIn fs x.name).isSome = true then s.step.fail 12 else s.step) = s1 at hb1
   rw [ckRoutine_eq] at hb1
   simp only at hb1
   have h4 := ckStmts_zero hb1
   have h3 := ckRoutines_zero h4
   have h2 := ckVars_zero h3
   have h1 : (ckParams ([] :: all) s1 x.params).2.bad = 0 := by
    split at h2
    ·exact absurd h2 (fail_yes _ (by decide))
    ·exact h2
   obtain ⟨o1, n1⟩ := Rl.params x.params (by simp) o.deeper h1
   obtain ⟨o2, _⟩ := Rl.vars x.inner x.vars n1 o1 h3
   have o3 := Rl.visible ht0 e0 (d := d + 1) hx.inner hk1 o2
   rw [capR_eq] at hn left
   cases t with
   | zero =>
    simp only [List.getElem?_cons_zero, Option.some.injEq] at hn
    subst hn
    exact fun q hq => o3.fits (stmts_seen _ x.body 1 (Nat.le_refl _) hx.body _ hb1 q hq)
   | succ t =>
    simp only [List.getElem?_cons_succ] at hn
    have := routines_fit ht0 N x.inner (d + 1) [] (by omega) hx.inner (k + 1) x.inner (k : Int) (path ++ x.name ++ dollar) (by omega) (by omega) (fun j n hj => by
     have := left (j + 1) n (by rw [List.getElem?_cons_succ]; exact hj)
     rw [← this]; congr 1; omega) o3 _ h4 t n hn
    rw [show k + (t + 1) = k + 1 + t by omega]
    exact this
  ·rename_i hge
   rw [hlen] at hge hn
   have := routines_fit ht0 N l d _ (by omega) ht.2 (k + rcnt x) whole around path (by omega) hk2 right o _ hb _ n hn
   rw [show k + rcnt x + (t - rcnt x) = k + t by omega] at this
   exact this
theorem right_fits {p : Prg} (ht : tPrg p = true) (hc : (check p).2 = 0) : (∀ (i : Nat) n, (nodesOf p.routines)[i]? = some n → ∀ q ∈ callSs n.r.body, Fits (nodesOf p.routines) (i : Int) q) ∧ ∀ q ∈ callSs p.body, Fits (nodesOf p.routines) (-1) q := by
 have po := tPrg_ok ht
 have hb : (ckAll p).bad = 0 := by
  unfold check at hc
  split at hc
  ·assumption
  ·exact hc
 unfold ckAll at hb
 simp only at hb
 have h3 := ckStmts_zero hb
 have h2 := ckRoutines_zero h3
 have h1 := ckVars_zero h2
 obtain ⟨e1, e2, _⟩ := Held2.recs (V := fun _ => False) p.recs (by simp) (by rintro m ⟨r, hr⟩; simp [findIn, look] at hr) h1
 have o0 : Rl (nodesOf p.routines) (ckRecs [[]] ⟨-1, 0⟩ p.recs).1 (-1) := fun m r h => absurd ⟨r, h⟩ (e2 m)
 obtain ⟨o1, _⟩ := Rl.vars p.routines p.vars e1 o0 h2
 have o2 : Rl (nodesOf p.routines) (allOf [] p.routines :: (ckVars (ckRecs [[]] ⟨-1, 0⟩ p.recs).1 (ckRecs [[]] ⟨-1, 0⟩ p.recs).2 p.vars p.routines).1) (-1) := fun m r h => by
  simp only [findIn] at h
  have noVar : ∀ x, findIn (ckVars (ckRecs [[]] ⟨-1, 0⟩ p.recs).1 (ckRecs [[]] ⟨-1, 0⟩ p.recs).2 p.vars p.routines).1 m = some (.routine x) → False := fun x hx => by
   obtain ⟨o, _⟩ := Held2.vars (V := fun _ => False) (L := []) p.routines p.vars ⟨e1, List.nodup_nil, by simp, fun m h => e2 m h⟩ h2
   exact o.seen m ⟨x, hx⟩
  cases hl : look (allOf [] p.routines) m with
  | none => rw [hl] at h; exact (noVar r h).elim
  | some y =>
   rw [hl] at h
   simp only [Option.some.injEq] at h
   subst h
   rcases look_all_in _ _ hl with ⟨x, hx, h1, h2⟩ | h
   ·cases h2
    obtain ⟨w, hw⟩ : ∃ w, lookN m (capMap 0 [] p.routines) = some w := by
     have := lookN_some (name := m) p.routines 0 [] (.inl (List.mem_map.2 ⟨r, hx, h1⟩))
     cases hh : lookN m (capMap 0 [] p.routines) with
     | none => exact absurd hh this
     | some w => exact ⟨w, rfl⟩
    obtain ⟨c, c1, c2, c3⟩ := node_top hw
    have hcr : c.r = r := by
     rcases capL_parent _ p.routines (Nat.lt_succ_self _) 0 p.routines (-1) noBytes w c c1 with ⟨_, a2, _⟩ | ⟨s, y, a1, a2, a3, _⟩
     ·exact one_name po.routines a2 hx (by rw [c2, h1])
     ·omega
    refine ⟨w, c, c1, hcr, fun f hf => ?_⟩
    obtain ⟨g, rfl⟩ : ∃ g, f = g + 1 := ⟨f - 1, by omega⟩
    simp only [calleeAt]
    rw [callee_find po.routines c1 c2 c3]
   ·simp [look] at h
 refine ⟨fun i n hn => ?_, fun q hq => o2.fits (stmts_seen _ p.body 1 (Nat.le_refl _) po.body _ hb q hq)⟩
 have := routines_fit po.routines _ p.routines 1 [] (Nat.lt_succ_self _) po.routines 0 p.routines (-1) noBytes (by omega) (by omega) (fun t n hn => by simpa using hn) o2 _ h3 i n hn
 simpa using this
end Pg.Ac

namespace Pg.D1
open Go Go.Proofs.Tryz
set_option linter.all false
set_option maxHeartbeats 4000000
set_option maxRecDepth 4000
def words1 : List ByteArray := [⟨#[98, 111, 111, 108]⟩, ⟨#[99, 104, 97, 114]⟩, ⟨#[100, 111]⟩, ⟨#[100, 111, 119, 110, 116, 111]⟩, ⟨#[101, 108, 115, 101]⟩, ⟨#[102, 97, 108, 115, 101]⟩, ⟨#[102, 111, 114]⟩, ⟨#[103, 101, 116]⟩, ⟨#[105, 102]⟩, ⟨#[105, 110, 116]⟩, ⟨#[109, 97, 105, 110]⟩, ⟨#[112, 114, 111, 103, 114, 97, 109]⟩, ⟨#[112, 117, 116]⟩, ⟨#[114, 101, 116, 117, 114, 110]⟩, ⟨#[115, 116, 114, 117, 99, 116]⟩, ⟨#[116, 111]⟩, ⟨#[116, 114, 117, 101]⟩, ⟨#[117, 110, 116, 105, 108]⟩, ⟨#[117, 112]⟩, ⟨#[118, 111, 105, 100]⟩, ⟨#[119, 104, 105, 108, 101]⟩]
def tName (s : ByteArray) : Bool := decide (nameCode s = 0) && !among s words1
def tTyp (t : Typ) : Bool := if t.kind = 4 then decide (t.size = 0) && tName t.name else decide (1 ≤ t.kind) && decide (t.kind ≤ 3) && decide (0 ≤ t.size) && decide (t.size ≤ 64) && decide (t.name = noBytes)
def tRName (s : ByteArray) : Bool := (parts s).all tName
def upsOk (x : Expr) : Bool := tName x.name && decide (x.n = 0) && decide (x.field = noBytes) && decide (x.l.length = 0)
def partsOk (x : Expr) : Bool :=
 (if x.op = 1 then decide (0 ≤ x.n) else if x.op = 2 then decide (x.n = 0) || decide (x.n = 1) else if x.op = 3 then decide (0 ≤ x.n) && decide (x.n ≤ 255) else decide (x.n = 0)) &&
 (if x.op = 7 then tRName x.name else if 4 ≤ x.op ∧ x.op ≤ 6 then tName x.name else decide (x.name = noBytes)) &&
 (if x.op = 6 then tName x.field else decide (x.field = noBytes)) &&
 decide ((x.l.length : Int) = if x.op = 7 then (x.l.length : Int) else if x.op = 5 ∨ x.op = 8 ∨ x.op = 9 then 1 else if 10 ≤ x.op then 2 else 0)
mutual
def form : Nat → Expr → Bool
 | 0, _ => false
 | n + 1, ⟨op, k, name, field, l⟩ => decide (l.length ≤ 512) && decide (1 ≤ op) && decide (op ≤ 24) && partsOk ⟨op, k, name, field, l⟩ && forms n (decide (op = 7)) false l
def forms : Nat → Bool → Bool → List Expr → Bool
 | _, _, _, [] => true
 | n, c, up, x :: r => (if x.op = 25 then c && upsOk x else !up && form n x) && forms n c (up || decide (x.op = 25)) r
end
def tExpr (x : Expr) : Bool := form 48 x && decide (deep 99 x ≤ 48)
def tPlace (x : Expr) : Bool := decide (4 ≤ x.op) && decide (x.op ≤ 6) && tExpr x
def sExpr (x : Stmt) (y : Expr) : Bool := tExpr y && !(decide (x.op = 2) && !decide (y.op = 7))
def sPlace (x : Stmt) : Bool := if x.op = 1 ∨ x.op = 7 then tPlace x.p else tNone x.p
def sName (x : Stmt) : Bool := if x.op = 6 then tName x.name else decide (x.name = noBytes) && !x.down
def tStmt1 (x : Stmt) : Bool := sMarks x && sCount x && x.e.all (sExpr x) && sPlace x && sName x && sMore x && sBody x
mutual
def tStmt : Stmt → Int → Bool
 | ⟨before, trail, op, name, p, e, down, more, body, els, end1, end2⟩, d => decide (d ≤ 48) && tStmt1 ⟨before, trail, op, name, p, e, down, more, body, els, end1, end2⟩ && (tStmts body (d + 1) && decide (body.length ≤ 512)) && (tStmts els (d + 1) && decide (els.length ≤ 512))
def tStmts : List Stmt → Int → Bool
 | [], _ => true
 | x :: r, d => tStmt x d && tStmts r d
end
def tVar (v : Var) : Bool := tMarks v.before v.trail && tName v.name && tTyp v.t
def tVars (l : List Var) : Bool := l.all tVar && decide (l.length ≤ 512)
def tParam (p : Param) : Bool :=
 tName p.name && tTyp p.t && decide (0 ≤ p.mode) && decide (p.mode ≤ 2) && !(decide (p.mode = 0) && (!decide (p.t.size = 0) || decide (p.t.kind = 4)))
def tOrder : Bool → List Param → Bool
 | _, [] => true
 | up, p :: r => !(!decide (p.mode = 2) && up) && tOrder (decide (p.mode = 2)) r
def tParams (l : List Param) : Bool := l.all tParam && tOrder false l && decide (l.length ≤ 512)
mutual
def tRoutine : List ByteArray → Routine → Int → Bool
 | ahead, ⟨before, trail, name, result, params, vars, inner, body, endd⟩, d =>
  decide (d ≤ 48) && tMarks before trail && tNotes endd && tRName name && decide (0 ≤ result) && decide (result ≤ 3) && !among name ahead && decide (inner.length = 0) && tParams params && tVars vars && (tRoutines [] inner (d + 1) && decide (inner.length ≤ 512)) && (tStmts body 1 && decide (body.length ≤ 512))
def tRoutines : List ByteArray → List Routine → Int → Bool
 | _, [], _ => true
 | ahead, x :: r, d => tRoutine ahead x d && tRoutines (ahead ++ [x.name]) r d
end
def tFld (f : Fld) : Bool := tMarks f.before f.trail && tName f.name && decide (1 ≤ f.kind) && decide (f.kind ≤ 3)
def tRec (r : Rec) : Bool := tMarks r.before r.trail && tNotes r.endd && tName r.name && !decide (r.fields.length = 0) && decide (r.fields.length ≤ 512) && r.fields.all tFld
def tPrg (p : Prg) : Bool := tName p.name && tNotes p.before && tNotes p.mid && tNotes p.after && tNotes p.endd && decide (p.recs.length ≤ 512) && p.recs.all tRec && tVars p.vars && (tRoutines [] p.routines 1 && decide (p.routines.length ≤ 512)) && (tStmts p.body 1 && decide (p.body.length ≤ 512))
theorem partsAt_size (s : ByteArray) : ∀ (l : List UInt8) (a i : Nat), ∀ x ∈ partsAt s l a i, x.size ≤ s.size
 | [], a, i, x, hx => by
  simp only [partsAt, List.mem_singleton] at hx
  subst hx
  rw [ByteArray.size_extract]; omega
 | c :: r, a, i, x, hx => by
  simp only [partsAt] at hx
  split at hx
  ·rcases List.mem_cons.1 hx with rfl | hx
   ·rw [ByteArray.size_extract]; omega
   ·exact partsAt_size s r _ _ x hx
  ·exact partsAt_size s r _ _ x hx
theorem parts_short {s : ByteArray} (hs : small s) : ∀ x ∈ parts s, short x := fun x hx => by
 have := partsAt_size s _ _ _ x hx
 unfold small at hs; unfold short; omega
theorem parts_count (s : ByteArray) : (parts s).length ≤ s.size + 1 := by
 have := ptail_len s ((bytes s).map some ++ [none]) 0 0
 rw [ptail_eq] at this
 unfold parts
 simpa [bytes_len] using this
theorem All_spec [GI] (h : AHeap) : ACalls prog 73 [.int .i64 1] h (fun v g => v = .sl (words1.map fun s => [.str s]) true ∧ g = h) := by
 refine F73.calls (by simp) ?_
 delta F73.c0
 simp only [go_sem,seval]
 exact .same ⟨rfl, rfl⟩
theorem Is_spec [GI] (h : AHeap) (s : ByteArray) : ACalls prog 49 [.int .i64 1, .str s] h (fun v g => v = .bool (among s words1) ∧ g = h) := by
 refine F49.calls (by simp) ?_
 delta F49.c0
 simp only [go_sem,seval]
 refine tcE (All_spec h) ?_
 simp only [go_sem,seval]
 refine tcE (Among_spec h words1 (by unfold few; decide) true s) ?_
 simp only [go_sem,seval]
 exact .same ⟨rfl, rfl⟩
theorem Name_spec [GI] (h : AHeap) (s : ByteArray) (hs : short s) : ACalls prog 21 [.int .i64 1, .str s] h (fun v g => v = .bool (tName s) ∧ g = h) := by
 refine F21.calls (by simp) ?_
 delta F21.c0
 simp only [go_sem,seval]
 refine tcE (nameCode_spec h s hs) ?_
 simp only [go_sem,seval]
 by_cases hc : nameCode s = 0
 ·simp only [go_sem,seval, hc]
  refine tcE (Is_spec h s) ?_
  simp only [go_sem,seval]
  exact .same ⟨by simp [tName, hc], rfl⟩
 ·simp only [go_sem,seval, hc]
  exact .same ⟨by simp [tName, hc], rfl⟩
theorem Type_spec [GI] (h : AHeap) (t : Typ) (ht : short t.name) : ACalls prog 51 [.int .i64 1, .agg (eTyp t)] h (fun v g => v = .bool (tTyp t) ∧ g = h) := by
 refine F51.calls (by simp) ?_
 delta F51.c0
 simp only [go_sem,seval]
 by_cases hk : t.kind = 4
 ·simp only [go_sem,seval, hk]
  by_cases hz : t.size = 0
  ·simp only [go_sem,seval, hz]
   refine tcE (Name_spec h t.name ht) ?_
   simp only [go_sem,seval]
   exact .same ⟨by simp [tTyp, hk, hz], rfl⟩
  ·simp only [go_sem,seval, hz]
   exact .same ⟨by simp [tTyp, hk, hz], rfl⟩
 ·simp only [go_sem,seval, hk]
  repeat' (refine agateT_split (fun hg => ?_) (fun hg => ?_) <;> simp only [go_sem,seval, hg, Bool.not_true, Bool.not_false])
  all_goals
   refine .same ⟨?_, rfl⟩
   congr 1
   try simp only [Bool.not_true, Bool.not_false, decide_eq_true_eq, decide_eq_false_iff_not] at *
   try rw [Bool.eq_iff_iff]
   try simp [tTyp, hk, noBytes, *]
   try omega
end Pg.D1

namespace Pg.D1
open Go Go.Proofs.Tryz
set_option linter.all false
set_option maxHeartbeats 4000000
set_option maxRecDepth 4000
theorem form_tail [GI] (n : Nat) (hn : n ≤ 47) (x : Expr) (hl : few x.l) (hfl : ∀ y ∈ x.l, y.op = y.op ∧ True ∧ short y.name ∧ True) (ih : ∀ y ∈ x.l, ∀ h, ACalls prog 110 [.int .i64 1, .agg (eExpr y), .int .i64 (n : Int)] h (fun v g => v = .bool (form n y) ∧ g = h))
  (h : AHeap) (K : AV → AHeap → Prop) (e : Env) (want : Int) (b1 b2 b3 : Bool) (h0 : e.get 0 = .int .i64 1) (h2 : e.get 2 = .int .i64 ((n + 1 : Nat) : Int)) (h4 : e.get 4 = .ip (eExpr x) 0) (h7 : e.get 7 = .int .i64 want) (h8 : e.get 8 = .bool b1) (h9 : e.get 9 = .bool b2) (h10 : e.get 10 = .bool b3)
  (k : K (.bool (b1 && b2 && b3 && decide ((x.l.length : Int) = want) && forms n (decide (x.op = 7)) false x.l)) h) : wT .go prog 178 F110.c62 (fun x e h t => atEndT t [.tmp 6] (EndW K) x e h) e h := by
 delta F110.c62
 have hw : IntKind.i64.wrap (((n + 1 : Nat) : Int) - 1) = (n : Int) := by rw [wrap64 (by omega) (by omega)]; omega
 cases b1 <;> cases b2 <;> cases b3
 all_goals try
  simp only [go_sem,seval, h8, h9, h10, h4, h7]
  exact .same k
 simp only [go_sem,seval, h8, h9, h10, h4, h7]
 by_cases hz : (x.l.length : Int) = want
 ·simp only [go_sem,seval, hz, h4]
  refine lT_list x.l (fun pre post e g => ∃ up : Bool, (forms n (decide (x.op = 7)) false x.l = forms n (decide (x.op = 7)) up post ∧ g = h) ∧ e = [(0, .int .i64 1), (2, .int .i64 ((n + 1 : Nat) : Int)), (4, .ip (eExpr x) 0), (11, .bool up), (12, .int .i64 pre.length)]) (WeakE.env ?_) ⟨false, ⟨rfl, rfl⟩, rfl⟩ ?_ ?_
  ·simp only [go_sem,seval, h0, h2, h4]
  ·rintro pre y post e g hp ⟨up, ⟨hs, rfl⟩, rfl⟩
   have hfy := hfl y (mem_at hp)
   have out : ((if y.op = 25 then decide (x.op = 7) && upsOk y else !up && form n y) = false) → K (.bool false) g := fun hh => by
    have hf : forms n (decide (x.op = 7)) false x.l = false := by rw [hs]; simp only [forms, hh, Bool.false_and]
    rw [hf] at k
    simpa using k
   have next : ((if y.op = 25 then decide (x.op = 7) && upsOk y else !up && form n y) = true) → forms n (decide (x.op = 7)) false x.l = forms n (decide (x.op = 7)) (up || decide (y.op = 25)) post := fun hh => by rw [hs]; simp only [forms, hh, Bool.true_and]
   simp only [go_sem,seval, lt_at hp, aia_sl (map_at hp) (eExpr_len y)]
   by_cases h25 : y.op = 25
   ·simp only [h25, if_true] at out next
    by_cases h7 : x.op = 7
    ·simp only [h7, decide_true, Bool.true_and, upsOk] at out next
     simp only [go_sem,seval, h25, h7]
     refine tcE (Name_spec g y.name hfy.2.2.1) ?_
     cases c1 : tName y.name
     ·simp only [go_sem,seval]
      refine lessQ.same ?_
      simp only [go_sem,seval]
      exact .same (out (by simp [c1]))
     simp only [go_sem,seval]
     by_cases c2 : y.n = 0
     ·by_cases c3 : y.field = noBytes
      ·by_cases c4 : y.l.length = 0
       ·have c4' : ((y.l.length : Int) = 0) = True := by simp [c4]
        simp only [go_sem,seval, c2, c3, c4']
        refine ⟨_, _, WeakE.env ?_, true, ⟨?_, rfl⟩, rfl⟩
        ·simp only [go_sem,seval, step_at hl hp]
        ·simpa [c1, c2, c3, c4] using next
       ·have c4' : ((y.l.length : Int) = 0) = False := by simpa using c4
        simp only [go_sem,seval, c2, c3, c4']
        refine lessQ.same ?_
        simp only [go_sem,seval]
        exact .same (out (by simp [c1, c2, c3, c4]))
      ·have c3' : (y.field = (⟨#[]⟩ : ByteArray)) = False := by simpa using c3
       simp only [go_sem,seval, c2, c3']
       refine lessQ.same ?_
       simp only [go_sem,seval]
       exact .same (out (by simp [c3]))
     ·simp only [go_sem,seval, c2]
      refine lessQ.same ?_
      simp only [go_sem,seval]
      exact .same (out (by simp [c2]))
    ·simp only [go_sem,seval, h25, h7]
     refine lessQ.same ?_
     simp only [go_sem,seval]
     exact .same (out (by simp [h7]))
   ·simp only [h25, if_false] at out next
    cases up with
    | true =>
     simp only [go_sem,seval, h25]
     refine lessQ.same ?_
     simp only [go_sem,seval]
     exact .same (out (by simp))
    | false =>
     simp only [go_sem,seval, h25, hw]
     refine tcE (ih y (mem_at hp) g) ?_
     cases hy : form n y with
     | true =>
      simp only [go_sem,seval]
      refine ⟨_, _, WeakE.env ?_, false, ⟨?_, rfl⟩, rfl⟩
      ·simp only [go_sem,seval, step_at hl hp]
      ·simpa [hy] using next
     | false =>
      simp only [go_sem,seval]
      refine lessQ.same ?_
      simp only [go_sem,seval]
      exact .same (out (by simp [hy]))
  ·rintro e g ⟨up, ⟨hs, rfl⟩, rfl⟩
   simp only [go_sem,seval, lt_end]
   refine lessQ.same ?_
   simp only [go_sem,seval]
   have hf : forms n (decide (x.op = 7)) false x.l = true := by rw [hs]; simp [forms]
   rw [hf] at k
   exact .same (by simpa [hz] using k)
 ·simp only [go_sem,seval, hz]
  exact .same (by simpa [hz] using k)
theorem form_eq (n : Nat) (x : Expr) : form (n + 1) x = (decide (x.l.length ≤ 512) && decide (1 ≤ x.op) && decide (x.op ≤ 24) && partsOk x && forms n (decide (x.op = 7)) false x.l) := by obtain ⟨op, k, name, field, l⟩ := x; rw [form]
theorem RoutineName_spec [GI] (h : AHeap) (s : ByteArray) (hs : short s ∧ small s) : ACalls prog 52 [.int .i64 1, .str s] h (fun v g => v = .bool (tRName s) ∧ g = h) := by
 have hpl : ∀ x ∈ parts s, short x := fun x hx => parts_short hs.2 x hx
 have hfew : few (parts s) := by have := parts_count s; have := hs.2; unfold small at this; unfold few; omega
 refine F52.calls (by simp) ?_
 delta F52.c0
 simp only [go_sem,seval]
 refine tcE (Parts_spec h s hs.2) ?_
 simp only [go_sem,seval]
 refine lT_list (parts s) (fun pre post e g => (tRName s = post.all tName ∧ g = h) ∧ e = [(0, .int .i64 1), (5, .sl (txt (parts s)) false), (6, .int .i64 pre.length)]) (WeakE.env ?_) ⟨⟨rfl, rfl⟩, rfl⟩ ?_ ?_
 ·simp only [go_sem,seval]
 ·rintro pre x post e g hp ⟨⟨hn, rfl⟩, rfl⟩
  have hrow : (txt (parts s))[pre.length]? = some [.str x] := by rw [hp]; simp
  simp only [go_sem,seval, lt_at hp, aia_sl (size := 1) hrow rfl]
  refine tcE (Name_spec g x (hpl x (mem_at hp))) ?_
  cases hx : tName x
  ·simp only [go_sem,seval]
   refine lessQ.same ?_
   simp only [go_sem,seval]
   exact .same ⟨by rw [hn]; simp [hx], rfl⟩
  ·simp only [go_sem,seval]
   refine ⟨_, _, WeakE.env ?_, ⟨?_, rfl⟩, rfl⟩
   ·simp only [go_sem,seval, step_at hfew hp]
   ·rw [hn]; simp [hx]
 ·rintro e g ⟨⟨hn, rfl⟩, rfl⟩
  simp only [go_sem,seval, lt_end]
  refine lessQ.same ?_
  simp only [go_sem,seval]
  exact .same ⟨by rw [hn]; simp, rfl⟩
theorem form_spec [GI] : ∀ (n : Nat) (x : Expr), n ≤ 48 → x.ok → x.fit ∧ inE small x → ∀ h : AHeap, ACalls prog 110 [.int .i64 1, .agg (eExpr x), .int .i64 (n : Int)] h (fun v g => v = .bool (form n x) ∧ g = h) := by
 intro n
 induction n with
 | zero =>
  intro x hn ho hf h
  have hz0 : (((0 : Nat) : Int) = 0) = True := by simp
  refine F110.calls (by simp) ?_
  delta F110.c0
  simp only [go_sem,seval, hz0]
  exact .same ⟨by rw [form], rfl⟩
 | succ n ihn =>
  intro x hn ho hf h
  obtain ⟨hl, he⟩ := (Expr.ok_iff x).1 ho
  have hft := (Expr.fit_iff x).1 hf.1
  have hie := (inE_eq small x).1 hf.2
  have hsm := hie.1
  have ih : ∀ y ∈ x.l, ∀ h, ACalls prog 110 [.int .i64 1, .agg (eExpr y), .int .i64 (n : Int)] h (fun v g => v = .bool (form n y) ∧ g = h) := fun y hy h => ihn y (by omega) (he y hy) ⟨hft.2.2.2.2 y hy, inEs_mem hie.2.2 y hy⟩ h
  have hz : (((n + 1 : Nat) : Int) = 0) = False := by simp; omega
  by_cases h512 : x.l.length ≤ 512
  ·have h512' : ((x.l.length : Int) > 512) = False := by simp; omega
   have tail : ∀ (e : Env) (want : Int) (b1 b2 b3 : Bool), e.get 0 = .int .i64 1 → e.get 2 = .int .i64 ((n + 1 : Nat) : Int) → e.get 4 = .ip (eExpr x) 0 → e.get 7 = .int .i64 want → e.get 8 = .bool b1 → e.get 9 = .bool b2 → e.get 10 = .bool b3 → 1 ≤ x.op → x.op ≤ 24 →
     (b1 && b2 && b3 && decide ((x.l.length : Int) = want)) = partsOk x → wT .go prog 178 F110.c62 (fun y e' h' t => atEndT t [.tmp 6] (EndW (fun v g => v = .bool (form (n + 1) x) ∧ g = h)) y e' h') e h := by
    intro e want b1 b2 b3 h0 h2 h4 h7 h8 h9 h10 o1 o2 hp
    refine form_tail n (by omega) x hl (fun y hy => ⟨rfl, trivial, ((Expr.fit_iff y).1 (hft.2.2.2.2 y hy)).2.2.1, trivial⟩) ih h _ e want b1 b2 b3 h0 h2 h4 h7 h8 h9 h10 ⟨?_, rfl⟩
    rw [hp, form_eq]
    simp [h512, o1, o2]
   by_cases o1 : x.op = 1
   ·
    refine F110.calls (by simp) ?_
    delta F110.c0 F110.c5
    simp only [go_sem,seval, hz, h512', o1]
    refine tail _ 0 (decide (x.n ≥ 0)) (decide (x.name = (⟨#[]⟩ : ByteArray))) (decide (x.field = (⟨#[]⟩ : ByteArray))) rfl rfl rfl rfl rfl rfl rfl (by omega) (by omega) ?_
    simp [partsOk, o1, noBytes]
   by_cases o2 : x.op = 2
   ·
    refine F110.calls (by simp) ?_
    delta F110.c0 F110.c5
    simp only [go_sem,seval, hz, h512', o2]
    delta F110.c12
    simp only [go_sem,seval, o2]
    refine agateT_split (fun hg => ?_) (fun hg => ?_) <;> simp only [go_sem,seval, hg, Bool.not_true, Bool.not_false]
    ·
     refine tail _ 0 (decide (x.n = 1)) (decide (x.name = (⟨#[]⟩ : ByteArray))) (decide (x.field = (⟨#[]⟩ : ByteArray))) rfl rfl rfl rfl rfl rfl rfl (by omega) (by omega) ?_
     simp at hg
     simp [hg, partsOk, o2, noBytes]
    ·
     refine tail _ 0 true (decide (x.name = (⟨#[]⟩ : ByteArray))) (decide (x.field = (⟨#[]⟩ : ByteArray))) rfl rfl rfl rfl rfl rfl rfl (by omega) (by omega) ?_
     simp at hg
     simp [hg, partsOk, o2, noBytes]
   by_cases o3 : x.op = 3
   ·
    refine F110.calls (by simp) ?_
    delta F110.c0 F110.c5
    simp only [go_sem,seval, hz, h512', o3]
    delta F110.c12
    simp only [go_sem,seval, o3]
    delta F110.c14
    simp only [go_sem,seval, o3]
    refine agateT_split (fun hg => ?_) (fun hg => ?_) <;> simp only [go_sem,seval, hg, Bool.not_true, Bool.not_false]
    ·
     refine tail _ 0 (decide (x.n ≤ 255)) (decide (x.name = (⟨#[]⟩ : ByteArray))) (decide (x.field = (⟨#[]⟩ : ByteArray))) rfl rfl rfl rfl rfl rfl rfl (by omega) (by omega) ?_
     simp at hg
     simp [hg, partsOk, o3, noBytes]
    ·
     refine tail _ 0 false (decide (x.name = (⟨#[]⟩ : ByteArray))) (decide (x.field = (⟨#[]⟩ : ByteArray))) rfl rfl rfl rfl rfl rfl rfl (by omega) (by omega) ?_
     simp at hg
     simp [hg, partsOk, o3, noBytes]
     intro hh; omega
   by_cases o4 : x.op = 4
   ·
    refine F110.calls (by simp) ?_
    delta F110.c0 F110.c5
    simp only [go_sem,seval, hz, h512', o4]
    delta F110.c12
    simp only [go_sem,seval, o4]
    delta F110.c14
    simp only [go_sem,seval, o4]
    delta F110.c16
    simp only [go_sem,seval, o4]
    refine tcE (Name_spec h x.name hft.2.2.1) ?_
    simp only [go_sem,seval]
    refine tail _ 0 (decide (x.n = 0)) (tName x.name) (decide (x.field = (⟨#[]⟩ : ByteArray))) rfl rfl rfl rfl rfl rfl rfl (by omega) (by omega) ?_
    simp [partsOk, o4, noBytes]
   by_cases o5 : x.op = 5
   ·
    refine F110.calls (by simp) ?_
    delta F110.c0 F110.c5
    simp only [go_sem,seval, hz, h512', o5]
    delta F110.c12
    simp only [go_sem,seval, o5]
    delta F110.c14
    simp only [go_sem,seval, o5]
    delta F110.c16
    simp only [go_sem,seval, o5]
    delta F110.c18
    simp only [go_sem,seval, o5]
    refine tcE (Name_spec h x.name hft.2.2.1) ?_
    simp only [go_sem,seval]
    refine tail _ 1 (decide (x.n = 0)) (tName x.name) (decide (x.field = (⟨#[]⟩ : ByteArray))) rfl rfl rfl rfl rfl rfl rfl (by omega) (by omega) ?_
    simp [partsOk, o5, noBytes]
   by_cases o6 : x.op = 6
   ·
    refine F110.calls (by simp) ?_
    delta F110.c0 F110.c5
    simp only [go_sem,seval, hz, h512', o6]
    delta F110.c12
    simp only [go_sem,seval, o6]
    delta F110.c14
    simp only [go_sem,seval, o6]
    delta F110.c16
    simp only [go_sem,seval, o6]
    delta F110.c18
    simp only [go_sem,seval, o6]
    delta F110.c21
    simp only [go_sem,seval, o6]
    refine tcE (Name_spec h x.name hft.2.2.1) ?_
    simp only [go_sem,seval]
    refine tcE (Name_spec h x.field hft.2.2.2.1) ?_
    simp only [go_sem,seval]
    refine tail _ 0 (decide (x.n = 0)) (tName x.name) (tName x.field) rfl rfl rfl rfl rfl rfl rfl (by omega) (by omega) ?_
    simp [partsOk, o6, noBytes]
   by_cases o7 : x.op = 7
   ·
    refine F110.calls (by simp) ?_
    delta F110.c0 F110.c5
    simp only [go_sem,seval, hz, h512', o7]
    delta F110.c12
    simp only [go_sem,seval, o7]
    delta F110.c14
    simp only [go_sem,seval, o7]
    delta F110.c16
    simp only [go_sem,seval, o7]
    delta F110.c18
    simp only [go_sem,seval, o7]
    delta F110.c21
    simp only [go_sem,seval, o7]
    delta F110.c24
    simp only [go_sem,seval, o7]
    refine tcE (RoutineName_spec h x.name ⟨hft.2.2.1, hsm⟩) ?_
    simp only [go_sem,seval]
    refine tail _ x.l.length (decide (x.n = 0)) (tRName x.name) (decide (x.field = (⟨#[]⟩ : ByteArray))) rfl rfl rfl rfl rfl rfl rfl (by omega) (by omega) ?_
    simp [partsOk, o7, noBytes]
   by_cases o8 : x.op = 8
   ·
    refine F110.calls (by simp) ?_
    delta F110.c0 F110.c5
    simp only [go_sem,seval, hz, h512', o8]
    delta F110.c12
    simp only [go_sem,seval, o8]
    delta F110.c14
    simp only [go_sem,seval, o8]
    delta F110.c16
    simp only [go_sem,seval, o8]
    delta F110.c18
    simp only [go_sem,seval, o8]
    delta F110.c21
    simp only [go_sem,seval, o8]
    delta F110.c24
    simp only [go_sem,seval, o8]
    delta F110.c27
    simp only [go_sem,seval, o8]
    refine tail _ 1 (decide (x.n = 0)) (decide (x.name = (⟨#[]⟩ : ByteArray))) (decide (x.field = (⟨#[]⟩ : ByteArray))) rfl rfl rfl rfl rfl rfl rfl (by omega) (by omega) ?_
    simp [partsOk, o8, noBytes]
   by_cases o9 : x.op = 9
   ·
    refine F110.calls (by simp) ?_
    delta F110.c0 F110.c5
    simp only [go_sem,seval, hz, h512', o9]
    delta F110.c12
    simp only [go_sem,seval, o9]
    delta F110.c14
    simp only [go_sem,seval, o9]
    delta F110.c16
    simp only [go_sem,seval, o9]
    delta F110.c18
    simp only [go_sem,seval, o9]
    delta F110.c21
    simp only [go_sem,seval, o9]
    delta F110.c24
    simp only [go_sem,seval, o9]
    delta F110.c27
    simp only [go_sem,seval, o9]
    refine tail _ 1 (decide (x.n = 0)) (decide (x.name = (⟨#[]⟩ : ByteArray))) (decide (x.field = (⟨#[]⟩ : ByteArray))) rfl rfl rfl rfl rfl rfl rfl (by omega) (by omega) ?_
    simp [partsOk, o9, noBytes]
   by_cases p : 10 ≤ x.op ∧ x.op ≤ 24
   ·
    refine F110.calls (by simp) ?_
    delta F110.c0 F110.c5 F110.c12 F110.c14 F110.c16 F110.c18 F110.c21 F110.c24 F110.c27
    simp only [go_sem,seval, hz, h512', o1, o2, o3, o4, o5, o6, o7, o8, o9]
    have q : x.op = 10 ∨ x.op = 11 ∨ x.op = 12 ∨ x.op = 13 ∨ x.op = 14 ∨ x.op = 15 ∨ x.op = 16 ∨ x.op = 17 ∨ x.op = 18 ∨ x.op = 19 ∨ x.op = 20 ∨ x.op = 21 ∨ x.op = 22 ∨ x.op = 23 ∨ x.op = 24 := by omega
    delta F110.c31 F110.c34 F110.c36 F110.c38 F110.c40 F110.c42 F110.c44 F110.c46 F110.c48 F110.c50 F110.c52 F110.c54 F110.c56 F110.c58
    rcases q with q | q | q | q | q | q | q | q | q | q | q | q | q | q | q
    all_goals
     simp only [go_sem,seval, q]
     refine tail _ 2 (decide (x.n = 0)) (decide (x.name = (⟨#[]⟩ : ByteArray))) (decide (x.field = (⟨#[]⟩ : ByteArray))) rfl rfl rfl rfl rfl rfl rfl (by omega) (by omega) ?_
     simp [partsOk, q, noBytes]
   have o10 : ¬ x.op = 10 := by omega
   have o11 : ¬ x.op = 11 := by omega
   have o12 : ¬ x.op = 12 := by omega
   have o13 : ¬ x.op = 13 := by omega
   have o14 : ¬ x.op = 14 := by omega
   have o15 : ¬ x.op = 15 := by omega
   have o16 : ¬ x.op = 16 := by omega
   have o17 : ¬ x.op = 17 := by omega
   have o18 : ¬ x.op = 18 := by omega
   have o19 : ¬ x.op = 19 := by omega
   have o20 : ¬ x.op = 20 := by omega
   have o21 : ¬ x.op = 21 := by omega
   have o22 : ¬ x.op = 22 := by omega
   have o23 : ¬ x.op = 23 := by omega
   have o24 : ¬ x.op = 24 := by omega
   refine F110.calls (by simp) ?_
   delta F110.c0 F110.c5
   simp only [go_sem,seval, hz, h512', o1, o2, o3, o4, o5, o6, o7, o8, o9, o10, o11, o12, o13, o14, o15, o16, o17, o18, o19, o20, o21, o22, o23, o24]
   delta F110.c12
   simp only [go_sem,seval, o1, o2, o3, o4, o5, o6, o7, o8, o9, o10, o11, o12, o13, o14, o15, o16, o17, o18, o19, o20, o21, o22, o23, o24]
   delta F110.c14
   simp only [go_sem,seval, o1, o2, o3, o4, o5, o6, o7, o8, o9, o10, o11, o12, o13, o14, o15, o16, o17, o18, o19, o20, o21, o22, o23, o24]
   delta F110.c16
   simp only [go_sem,seval, o1, o2, o3, o4, o5, o6, o7, o8, o9, o10, o11, o12, o13, o14, o15, o16, o17, o18, o19, o20, o21, o22, o23, o24]
   delta F110.c18
   simp only [go_sem,seval, o1, o2, o3, o4, o5, o6, o7, o8, o9, o10, o11, o12, o13, o14, o15, o16, o17, o18, o19, o20, o21, o22, o23, o24]
   delta F110.c21
   simp only [go_sem,seval, o1, o2, o3, o4, o5, o6, o7, o8, o9, o10, o11, o12, o13, o14, o15, o16, o17, o18, o19, o20, o21, o22, o23, o24]
   delta F110.c24
   simp only [go_sem,seval, o1, o2, o3, o4, o5, o6, o7, o8, o9, o10, o11, o12, o13, o14, o15, o16, o17, o18, o19, o20, o21, o22, o23, o24]
   delta F110.c27
   simp only [go_sem,seval, o1, o2, o3, o4, o5, o6, o7, o8, o9, o10, o11, o12, o13, o14, o15, o16, o17, o18, o19, o20, o21, o22, o23, o24]
   delta F110.c31
   simp only [go_sem,seval, o1, o2, o3, o4, o5, o6, o7, o8, o9, o10, o11, o12, o13, o14, o15, o16, o17, o18, o19, o20, o21, o22, o23, o24]
   delta F110.c34
   simp only [go_sem,seval, o1, o2, o3, o4, o5, o6, o7, o8, o9, o10, o11, o12, o13, o14, o15, o16, o17, o18, o19, o20, o21, o22, o23, o24]
   delta F110.c36
   simp only [go_sem,seval, o1, o2, o3, o4, o5, o6, o7, o8, o9, o10, o11, o12, o13, o14, o15, o16, o17, o18, o19, o20, o21, o22, o23, o24]
   delta F110.c38
   simp only [go_sem,seval, o1, o2, o3, o4, o5, o6, o7, o8, o9, o10, o11, o12, o13, o14, o15, o16, o17, o18, o19, o20, o21, o22, o23, o24]
   delta F110.c40
   simp only [go_sem,seval, o1, o2, o3, o4, o5, o6, o7, o8, o9, o10, o11, o12, o13, o14, o15, o16, o17, o18, o19, o20, o21, o22, o23, o24]
   delta F110.c42
   simp only [go_sem,seval, o1, o2, o3, o4, o5, o6, o7, o8, o9, o10, o11, o12, o13, o14, o15, o16, o17, o18, o19, o20, o21, o22, o23, o24]
   delta F110.c44
   simp only [go_sem,seval, o1, o2, o3, o4, o5, o6, o7, o8, o9, o10, o11, o12, o13, o14, o15, o16, o17, o18, o19, o20, o21, o22, o23, o24]
   delta F110.c46
   simp only [go_sem,seval, o1, o2, o3, o4, o5, o6, o7, o8, o9, o10, o11, o12, o13, o14, o15, o16, o17, o18, o19, o20, o21, o22, o23, o24]
   delta F110.c48
   simp only [go_sem,seval, o1, o2, o3, o4, o5, o6, o7, o8, o9, o10, o11, o12, o13, o14, o15, o16, o17, o18, o19, o20, o21, o22, o23, o24]
   delta F110.c50
   simp only [go_sem,seval, o1, o2, o3, o4, o5, o6, o7, o8, o9, o10, o11, o12, o13, o14, o15, o16, o17, o18, o19, o20, o21, o22, o23, o24]
   delta F110.c52
   simp only [go_sem,seval, o1, o2, o3, o4, o5, o6, o7, o8, o9, o10, o11, o12, o13, o14, o15, o16, o17, o18, o19, o20, o21, o22, o23, o24]
   delta F110.c54
   simp only [go_sem,seval, o1, o2, o3, o4, o5, o6, o7, o8, o9, o10, o11, o12, o13, o14, o15, o16, o17, o18, o19, o20, o21, o22, o23, o24]
   delta F110.c56
   simp only [go_sem,seval, o1, o2, o3, o4, o5, o6, o7, o8, o9, o10, o11, o12, o13, o14, o15, o16, o17, o18, o19, o20, o21, o22, o23, o24]
   delta F110.c58
   simp only [go_sem,seval, o1, o2, o3, o4, o5, o6, o7, o8, o9, o10, o11, o12, o13, o14, o15, o16, o17, o18, o19, o20, o21, o22, o23, o24]
   refine .same ⟨?_, rfl⟩
   have : ¬ (1 ≤ x.op ∧ x.op ≤ 24) := by omega
   by_cases p1 : 1 ≤ x.op <;> by_cases p2 : x.op ≤ 24 <;> simp [form_eq, p1, p2]
   exact (this ⟨p1, p2⟩).elim
  ·have h512' : ((x.l.length : Int) > 512) = True := by simp; omega
   refine F110.calls (by simp) ?_
   delta F110.c0
   simp only [go_sem,seval, hz, h512']
   exact .same ⟨by simp [form_eq, h512], rfl⟩
theorem Expr_spec [GI] (x : Expr) (ho : x.ok) (hf : x.fit ∧ inE small x) (h : AHeap) : ACalls prog 75 [.int .i64 1, .agg (eExpr x)] h (fun v g => v = .bool (tExpr x) ∧ g = h) := by
 refine F75.calls (by simp) ?_
 delta F75.c0
 simp only [go_sem,seval]
 refine tcE (form_spec 48 x (by omega) ho hf h) ?_
 cases hx : form 48 x with
 | false =>
  simp only [go_sem,seval]
  exact .same ⟨by simp [tExpr, hx], rfl⟩
 | true =>
  simp only [go_sem,seval]
  refine tcE (Deep_spec 99 x (by omega) ho h) ?_
  simp only [go_sem,seval]
  refine .same ⟨?_, rfl⟩
  simp only [tExpr, hx, Bool.true_and]
  congr 2
  simp; omega
theorem place_spec [GI] (x : Expr) (ho : x.ok) (hf : x.fit ∧ inE small x) (h : AHeap) : ACalls prog 76 [.int .i64 1, .agg (eExpr x)] h (fun v g => v = .bool (tPlace x) ∧ g = h) := by
 refine F76.calls (by simp) ?_
 delta F76.c0
 by_cases h1 : 4 ≤ x.op
 ·have h1' : (x.op ≥ 4) = True := by simp [h1]
  by_cases h2 : x.op ≤ 6
  ·simp only [go_sem,seval, h1', h2]
   refine tcE (Expr_spec x ho hf h) ?_
   simp only [go_sem,seval]
   exact .same ⟨by simp [tPlace, h1, h2], rfl⟩
  ·simp only [go_sem,seval, h1', h2]
   exact .same ⟨by simp [tPlace, h2], rfl⟩
 ·have h1' : (x.op ≥ 4) = False := by simpa using h1
  simp only [go_sem,seval, h1']
  exact .same ⟨by simp [tPlace, h1], rfl⟩
end Pg.D1
