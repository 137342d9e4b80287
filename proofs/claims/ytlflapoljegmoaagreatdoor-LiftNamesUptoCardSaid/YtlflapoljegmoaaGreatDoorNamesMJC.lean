import Derived.Test.YtlflapoljegmoaaGreatDoorLiftOkJC
import Derived.Test.YtlflapoljegmoaaGreatDoorNnXC
import Derived.Test.YtlflapoljegmoaaGreatDoorNnWC
import Derived.Test.YtlflapoljegmoaaGreatDoorLwXC
namespace Pg
open Go
set_option linter.unusedVariables false
set_option linter.unusedSimpArgs false
set_option maxRecDepth 4000
def ofL (l : List UInt8) : ByteArray := ⟨l.toArray⟩
def spl : List UInt8 → List (List UInt8)
 | [] => [[]]
 | c :: r => if c.toNat = 36 then [] :: spl r else match spl r with
  | [] => [[c]]
  | h :: t => (c :: h) :: t
theorem spl_ne : ∀ l, spl l ≠ []
 | [] => by simp [spl]
 | c :: r => by
  simp only [spl]
  split
  ·simp
  ·split <;> simp
theorem spl_dollar : ∀ x y : List UInt8, spl (x ++ 36 :: y) = spl x ++ spl y
 | [], y => by simp [spl]
 | c :: x, y => by
  simp only [List.cons_append, spl, spl_dollar x y]
  split
  ·rfl
  ·cases h : spl x with
   | nil => exact absurd h (spl_ne x)
   | cons a t => rfl
theorem extract_mid {s : ByteArray} {A M r : List UInt8} (h : bytes s = A ++ M ++ r) : s.extract A.length (A.length + M.length) = ofL M := by
 apply ByteArray.ext
 apply Array.ext'
 rw [ByteArray.data_extract, Array.toList_extract]
 change (bytes s).extract _ _ = M
 rw [h]
 simp [List.extract]
theorem partsAt_spl (s : ByteArray) : ∀ (r A M : List UInt8), bytes s = A ++ M ++ r → partsAt s r A.length (A.length + M.length) = match spl r with | [] => [] | h :: t => ofL (M ++ h) :: t.map ofL
 | [], A, M, h => by simp only [partsAt, spl, List.append_nil, List.map_nil]; rw [extract_mid (r := []) h]
 | c :: r, A, M, h => by
  simp only [partsAt, spl]
  split
  ·have := partsAt_spl s r (A ++ M ++ [c]) [] (by rw [h]; simp)
   simp only [List.length_append, List.length_cons, List.length_nil, Nat.add_zero, Nat.zero_add, List.nil_append] at this
   rw [extract_mid h, this]
   simp only [List.append_nil]
   congr 1
   cases e : spl r with
   | nil => exact absurd e (spl_ne r)
   | cons a t => simp
  ·have := partsAt_spl s r A (M ++ [c]) (by rw [h]; simp)
   simp only [List.length_append, List.length_cons, List.length_nil, Nat.zero_add] at this
   rw [Nat.add_assoc, this]
   cases e : spl r with
   | nil => exact absurd e (spl_ne r)
   | cons a t => simp
theorem parts_spl (s : ByteArray) : parts s = (spl (bytes s)).map ofL := by
 have := partsAt_spl s (bytes s) [] [] (by simp)
 simp only [List.length_nil, Nat.add_zero, List.nil_append] at this
 unfold parts
 rw [this]
 cases e : spl (bytes s) with
 | nil => exact absurd e (spl_ne _)
 | cons a t => simp
theorem parts_dollar (a b : ByteArray) : parts (a ++ dollar ++ b) = parts a ++ parts b := by
 simp only [parts_spl, bytes_append]
 rw [show bytes dollar = [36] from rfl, List.append_assoc, List.singleton_append, spl_dollar, List.map_append]
theorem nmRs_in {x : Routine} {l : List Routine} (hx : x ∈ l) {n : ByteArray} (h : n ∈ nmR x) : n ∈ nmRs l := by rw [nmRs_map]; exact List.mem_flatMap.2 ⟨x, hx, h⟩
theorem tName_size {s : ByteArray} (h : tName s = true) : s.size ≤ 32 := by
 simp only [tName, Bool.and_eq_true, decide_eq_true_eq] at h
 have h1 := h.1
 unfold nameCode at h1
 by_cases h0 : s = noBytes
 ·rw [h0]; decide
 ·rw [if_neg h0] at h1
  by_cases hl : letters true (bytes s) = true
  ·rw [if_pos hl] at h1
   by_cases h2 : 32 < s.size
   ·rw [if_pos h2] at h1; simp at h1
   ·omega
  ·rw [if_neg hl] at h1; simp at h1
def tame (s : ByteArray) : Prop := small s ∧ plain s
theorem tName_tame {s : ByteArray} (h : tName s = true) : tame s := ⟨by have := tName_size h; unfold small; omega, tName_plain h⟩
theorem path_parts : ∀ (N : Nat) (l ahead : _) (d : Int), Routines.sz l < N → tRoutines ahead l d = true → ∀ (k : Nat) (whole : List Routine) (around : Int) (path : ByteArray) (pre : List ByteArray), (pre.length : Int) + 1 = d → path.size ≤ 33 * pre.length →
  (∀ m, plain m → parts (path ++ m) = pre ++ [m]) → ∀ n ∈ capL k whole around path l, tName n.r.name = true ∧ ∃ q, parts n.path = q ++ [n.r.name] ∧ q.length < 48 ∧ n.path.size ≤ 33 * q.length + 32 ∧ ∀ x ∈ q, x ∈ pre ∨ x ∈ nmRs l
 | 0, l, ahead, d, h, _, _, _, _, _, _, _, _, _, _, _ => absurd h (Nat.not_lt_zero _)
 | N + 1, [], ahead, d, h, ht, k, whole, around, path, pre, hd, hs, hp, n, hn => by simp [capL] at hn
 | N + 1, x :: l, ahead, d, h, ht, k, whole, around, path, pre, hd, hs, hp, n, hn => by
  have h2 : Routines.sz (x :: l) = 1 + x.sz + Routines.sz l := by simp only [Routines.sz]
  have h1 := Routine.sz_eq x
  simp only [tRoutines, Bool.and_eq_true] at ht
  have hx := ht.1
  rw [tRoutine_eq] at hx
  simp only [Bool.and_eq_true, decide_eq_true_eq] at hx
  obtain ⟨⟨⟨⟨⟨⟨⟨⟨⟨⟨hd8, _⟩, _⟩, hnm⟩, _⟩, _⟩, _⟩, _⟩, _⟩, hin, _⟩, _⟩ := hx
  have hz := tName_size hnm
  have hpl := tName_plain hnm
  simp only [capL, capR_eq, List.cons_append, List.mem_cons, List.mem_append] at hn
  rcases hn with rfl | hn | hn
  ·refine ⟨hnm, pre, hp _ hpl, by omega, ?_, fun y hy => .inl hy⟩
   simp only [ByteArray.size_append]; omega
  ·obtain ⟨a, q, q1, q2, q3, q4⟩ := path_parts N x.inner [] (d + 1) (by omega) hin (k + 1) x.inner k (path ++ x.name ++ dollar) (pre ++ [x.name]) (by simp; omega) (by
    simp only [ByteArray.size_append, List.length_append, List.length_singleton]
    have : dollar.size = 1 := rfl
    omega) (fun m hm => by rw [parts_dollar, hp _ hpl, parts_plain hm]) n hn
   refine ⟨a, q, q1, q2, q3, fun y hy => ?_⟩
   rcases q4 y hy with h | h
   ·rcases List.mem_append.1 h with h | h
    ·exact .inl h
    ·simp only [List.mem_singleton] at h; subst h
     exact .inr (nmRs_in (x := x) (by simp) (by rw [nmR_eq, parts_plain hpl]; simp))
   ·exact .inr (nmRs_in (x := x) (by simp) (by rw [nmR_eq]; simp [h]))
  ·obtain ⟨a, q, q1, q2, q3, q4⟩ := path_parts N l _ d (by omega) ht.2 _ whole around path pre hd hs hp n hn
   refine ⟨a, q, q1, q2, q3, fun y hy => ?_⟩
   rcases q4 y hy with h | h
   ·exact .inl h
   ·exact .inr (by simp only [nmRs, List.mem_append]; exact .inr h)
def nm1 (r : Routine) : List ByteArray := parts r.name ++ nmParams r.params ++ nmVars r.vars ++ nmSs r.body
theorem nm_nodes : ∀ (N : Nat) (l : List Routine), Routines.sz l < N → ∀ (k : Nat) (whole : List Routine) (around : Int) (path : ByteArray) (x : ByteArray), x ∈ nmRs l ↔ ∃ n ∈ capL k whole around path l, x ∈ nm1 n.r
 | 0, l, h, _, _, _, _, _ => absurd h (Nat.not_lt_zero _)
 | N + 1, [], h, k, whole, around, path, x => by simp [capL, nmRs]
 | N + 1, r :: l, h, k, whole, around, path, x => by
  have h2 : Routines.sz (r :: l) = 1 + r.sz + Routines.sz l := by simp only [Routines.sz]
  have h1 := Routine.sz_eq r
  simp only [nmRs, capL, capR_eq, nmR_eq, List.cons_append, List.mem_cons, List.mem_append, nm_nodes N l (by omega) (k + rcnt r) whole around path x, nm_nodes N r.inner (by omega) (k + 1) r.inner k (path ++ r.name ++ dollar) x]
  constructor
  ·rintro (((((h | h) | h) | ⟨n, h, h'⟩) | h) | ⟨n, h, h'⟩)
   ·exact ⟨_, .inl rfl, by simp [nm1, h]⟩
   ·exact ⟨_, .inl rfl, by simp [nm1, h]⟩
   ·exact ⟨_, .inl rfl, by simp [nm1, h]⟩
   ·exact ⟨n, .inr (.inl h), h'⟩
   ·exact ⟨_, .inl rfl, by simp [nm1, h]⟩
   ·exact ⟨n, .inr (.inr h), h'⟩
  ·rintro ⟨n, h, h'⟩
   rcases h with rfl | h | h
   ·simp only [nm1, List.mem_append] at h'
    rcases h' with ((h | h) | h) | h
    ·exact .inl (.inl (.inl (.inl (.inl h))))
    ·exact .inl (.inl (.inl (.inl (.inr h))))
    ·exact .inl (.inl (.inl (.inr h)))
    ·exact .inl (.inr h)
   ·exact .inl (.inl (.inr ⟨n, h, h'⟩))
   ·exact .inr ⟨n, h, h'⟩
structure LF (Z : ByteArray → Prop) (f : ByteArray → Option (ByteArray × List Param)) : Prop where
 h : ∀ name path us, f name = some (path, us) → (∀ y ∈ parts name, y ∈ parts path) ∧ (∀ y ∈ parts path, Z y) ∧ (parts path).length ≤ 49 ∧ small path ∧ us.length ≤ 512 ∧ ∀ u ∈ us, Z u.name ∧ tame u.name
theorem nmE_up (u : Param) (h : plain u.name) : nmE (upE u) = [u.name, noBytes] := by
 rw [nmE_eq]; simp [upE, parts_plain h, parts_plain plain_none, nmEs]
section
variable {Z : ByteArray → Prop} {f : ByteArray → Option (ByteArray × List Param)} (F : LF Z f)
include F
def Told (Z : ByteArray → Prop) (a b : List ByteArray) (w : Nat) : Prop := (∀ x ∈ a, x ∈ b) ∧ (∀ x ∈ b, x ∈ a ∨ Z x ∨ x = noBytes) ∧ b.length ≤ 1100 * w
omit F in
theorem Told.app {a b c d : List ByteArray} {v w : Nat} (h : Told Z a b v) (k : Told Z c d w) : Told Z (a ++ c) (b ++ d) (v + w) := by
 refine ⟨fun x hx => ?_, fun x hx => ?_, by have := h.2.2; have := k.2.2; simp only [List.length_append]; omega⟩
 ·rcases List.mem_append.1 hx with hx | hx
  ·exact List.mem_append.2 (.inl (h.1 x hx))
  ·exact List.mem_append.2 (.inr (k.1 x hx))
 ·rcases List.mem_append.1 hx with hx | hx
  ·rcases h.2.1 x hx with h | h
   ·exact .inl (by simp [h])
   ·exact .inr h
  ·rcases k.2.1 x hx with h | h
   ·exact .inl (by simp [h])
   ·exact .inr h
omit F in
theorem Told.same {a : List ByteArray} {w : Nat} (h : a.length ≤ 1100 * w) : Told Z a a w := ⟨fun _ h => h, fun _ h => .inl h, h⟩
omit F in
theorem Told.le {a b : List ByteArray} {v w : Nat} (h : Told Z a b v) (l : v ≤ w) : Told Z a b w := ⟨h.1, h.2.1, by have := h.2.2; omega⟩
theorem lfE_of {x : Expr} (hn : plain x.name ∧ plain x.field) (hl : Told Z (nmEs x.l) (nmEs (liftEs f x.l)) (wEs x.l)) : Told Z (nmE x) (nmE (liftE f x)) (wE x) := by
 rw [nmE_eq, liftE_eq, wE_eq]
 have nn : Told Z (parts x.name ++ parts x.field) (parts x.name ++ parts x.field) 1 := .same (by rw [parts_plain hn.1, parts_plain hn.2]; simp)
 split
 ·split
  ·rename_i path us he
   obtain ⟨h1, h2, h3, h4, h5, h6⟩ := F.h _ _ _ he
   rw [nmE_eq]
   simp only [nmEs_append]
   have a : Told Z (parts x.name ++ parts x.field) (parts path ++ parts x.field) 1 := by
    refine ⟨fun y hy => ?_, fun y hy => ?_, by rw [parts_plain hn.2]; simp; omega⟩
    ·rcases List.mem_append.1 hy with h | h
     ·exact List.mem_append.2 (.inl (h1 y h))
     ·exact List.mem_append.2 (.inr h)
    ·rcases List.mem_append.1 hy with h | h
     ·exact .inr (.inl (h2 y h))
     ·exact .inl (List.mem_append.2 (.inr h))
   have key : ∀ l : List Param, (∀ u ∈ l, Z u.name ∧ tame u.name) → (∀ y ∈ nmEs (l.map upE), Z y ∨ y = noBytes) ∧ (nmEs (l.map upE)).length = 2 * l.length := by
    intro l
    induction l with
    | nil => intro _; simp [nmEs]
    | cons u l ih =>
     intro h
     obtain ⟨i1, i2⟩ := ih fun v hv => h v (by simp [hv])
     obtain ⟨z, t⟩ := h u (by simp)
     simp only [List.map_cons, nmEs, nmE_up u t.2, List.length_append, List.length_cons, List.length_nil, i2]
     refine ⟨fun y hy => ?_, by omega⟩
     simp only [List.cons_append, List.nil_append, List.mem_cons] at hy
     rcases hy with rfl | rfl | hy
     ·exact .inl z
     ·exact .inr rfl
     ·exact i1 y hy
   obtain ⟨k1, k2⟩ := key us h6
   have b : Told Z [] (nmEs (us.map upE)) 1 := ⟨by simp, fun y hy => .inr (k1 y hy), by omega⟩
   have := (a.app (hl.app b)).le (w := 2 + (x.name.size + x.field.size) + wEs x.l) (by omega)
   simpa only [List.append_nil, List.append_assoc] using this
  ·rw [nmE_eq]
   exact (nn.app hl).le (by omega)
 ·rw [nmE_eq]
  exact (nn.app hl).le (by omega)
theorem lfE : ∀ (n : Nat) (x : Expr), x.sz < n → inE plain x → Told Z (nmE x) (nmE (liftE f x)) (wE x)
 | 0, x, h, _ => absurd h (Nat.not_lt_zero _)
 | n + 1, x, h, hi => by
  obtain ⟨a, b, c⟩ := (inE_eq plain x).1 hi
  rw [Expr.sz_eq] at h
  refine lfE_of F ⟨a, b⟩ ?_
  have hl : ∀ l : List Expr, Exprs.sz l < n → inEs plain l → Told Z (nmEs l) (nmEs (liftEs f l)) (wEs l) := by
   intro l
   induction l with
   | nil => intro _ _; exact .same (by simp [nmEs])
   | cons y r ih =>
    intro hs hp
    simp only [Exprs.sz] at hs
    simp only [inEs] at hp
    simp only [nmEs, liftEs, wEs]
    exact (lfE n y (by omega) hp.1).app (ih (by omega) hp.2)
  exact hl x.l (by omega) c
theorem lfEs : ∀ l : List Expr, inEs plain l → Told Z (nmEs l) (nmEs (liftEs f l)) (wEs l)
 | [], _ => .same (by simp [nmEs])
 | y :: r, hp => by
  simp only [inEs] at hp
  simp only [nmEs, liftEs, wEs]
  exact (lfE F _ y (Nat.lt_succ_self _) hp.1).app (lfEs r hp.2)
theorem lfSs : ∀ (n : Nat) (l : List Stmt), Stmts.sz l < n → inSs plain l → Told Z (nmSs l) (nmSs (liftSs f l)) (wSs l)
 | 0, l, h, _ => absurd h (Nat.not_lt_zero _)
 | n + 1, [], _, _ => .same (by simp [nmSs])
 | n + 1, x :: l, h, hp => by
  simp only [Stmts.sz, Stmt.sz_eq] at h
  simp only [inSs] at hp
  obtain ⟨a, b, c, d, e⟩ := (inS_eq plain x).1 hp.1
  obtain ⟨b1, b2, b3⟩ := (inE_eq plain x.p).1 b
  simp only [nmSs, liftSs, wSs, liftS_eq, nmS_eq, wS_eq]
  have hp' : Told Z (nmE x.p) (nmE { x.p with l := liftEs f x.p.l }) (wE x.p) := by
   rw [nmE_eq, nmE_eq, wE_eq]
   exact ((Told.same (w := 1) (by rw [parts_plain b1, parts_plain b2]; simp)).app (lfEs F x.p.l b3)).le (by omega)
  have hn : Told Z (parts x.name) (parts x.name) 1 := .same (by rw [parts_plain a]; simp)
  exact (((((hn.app hp').app (lfEs F x.e c)).app (lfSs n x.body (by omega) d)).app (lfSs n x.els (by omega) e)).app (lfSs n l (by omega) hp.2)).le (by omega)
end
end Pg

namespace Pg
open Go
set_option linter.unusedVariables false
set_option linter.unusedSimpArgs false
set_option maxRecDepth 4000
section
variable {S : ByteArray → Prop} {f : ByteArray → Option (ByteArray × List Param)} (h0 : S noBytes) (hf : ∀ name path us, f name = some (path, us) → S path ∧ ∀ u ∈ us, S u.name)
include h0 hf
theorem inE_lift : ∀ (n : Nat) (x : Expr), x.sz < n → inE S x → inE S (liftE f x)
 | 0, x, h, _ => absurd h (Nat.not_lt_zero _)
 | n + 1, x, h, hi => by
  obtain ⟨a, b, c⟩ := (inE_eq S x).1 hi
  rw [Expr.sz_eq] at h
  have hl : inEs S (liftEs f x.l) := inEs_of fun y hy => by
   rw [liftEs_map] at hy
   obtain ⟨z, hz, rfl⟩ := List.mem_map.1 hy
   have := Exprs.sz_mem hz
   exact inE_lift n z (by omega) (inEs_mem c z hz)
  rw [liftE_eq]
  split
  ·split
   ·rename_i path us he
    obtain ⟨h1, h2⟩ := hf _ _ _ he
    refine (inE_eq S _).2 ⟨h1, b, inEs_of fun y hy => ?_⟩
    rcases List.mem_append.1 hy with hy | hy
    ·exact inEs_mem hl y hy
    ·obtain ⟨u, hu, rfl⟩ := List.mem_map.1 hy
     exact (inE_eq S _).2 ⟨h2 u hu, h0, trivial⟩
   ·exact (inE_eq S _).2 ⟨a, b, hl⟩
  ·exact (inE_eq S _).2 ⟨a, b, hl⟩
theorem inEs_lift {l : List Expr} (h : inEs S l) : inEs S (liftEs f l) := inEs_of fun y hy => by
 rw [liftEs_map] at hy
 obtain ⟨z, hz, rfl⟩ := List.mem_map.1 hy
 exact inE_lift h0 hf _ z (Nat.lt_succ_self _) (inEs_mem h z hz)
omit h0 hf in
theorem inSs_of : ∀ {l : List Stmt}, (∀ x ∈ l, inS S x) → inSs S l
 | [], _ => trivial
 | x :: r, h => ⟨h x (by simp), inSs_of fun y hy => h y (by simp [hy])⟩
theorem inSs_lift : ∀ (n : Nat) (l : List Stmt), Stmts.sz l < n → inSs S l → inSs S (liftSs f l)
 | 0, l, h, _ => absurd h (Nat.not_lt_zero _)
 | n + 1, l, h, hi => inSs_of fun y hy => by
  rw [liftSs_map] at hy
  obtain ⟨z, hz, rfl⟩ := List.mem_map.1 hy
  have hz' := Stmts.sz_mem hz
  rw [Stmt.sz_eq] at hz'
  obtain ⟨a, b, c, d, e⟩ := (inS_eq S z).1 (inSs_mem hi z hz)
  obtain ⟨b1, b2, b3⟩ := (inE_eq S z.p).1 b
  rw [liftS_eq, inS_eq]
  exact ⟨a, (inE_eq S _).2 ⟨b1, b2, inEs_lift h0 hf b3⟩, inEs_lift h0 hf c, inSs_lift n z.body (by omega) d, inSs_lift n z.els (by omega) e⟩
end
theorem tree_paths {p : Prg} (ht : tPrg p = true) : ∀ n ∈ nodesOf p.routines, tName n.r.name = true ∧ ∃ q, parts n.path = q ++ [n.r.name] ∧ q.length < 48 ∧ n.path.size ≤ 33 * q.length + 32 ∧ ∀ x ∈ q, x ∈ nmRs p.routines := fun n hn => by
 have hr : tRoutines [] p.routines 1 = true := by
  unfold tPrg at ht
  simp only [Bool.and_eq_true, decide_eq_true_eq] at ht
  exact ht.1.2.1
 obtain ⟨a, q, h1, h2, h3, h4⟩ := path_parts _ p.routines [] 1 (Nat.lt_succ_self _) hr 0 p.routines (-1) noBytes [] (by simp) (by decide) (fun m hm => by
  have : noBytes ++ m = m := by apply ByteArray.ext; simp [noBytes]
  rw [this, parts_plain hm]; rfl) n hn
 exact ⟨a, q, h1, h2, h3, fun x hx => (h4 x hx).resolve_left (by simp)⟩
theorem tree_routine [GI] {a : List ByteArray} {r : Routine} {d : Int} (h : tRoutine a r d = true) : (∀ u ∈ r.params, inParam tame u) ∧ (∀ u ∈ r.vars, inVar tame u) ∧ inSs plain r.body ∧ inSs small r.body := by
 rw [tRoutine_eq] at h
 simp only [Bool.and_eq_true, decide_eq_true_eq] at h
 obtain ⟨⟨⟨⟨_, hp⟩, hv⟩, _⟩, hb, _⟩ := h
 have t0 : tame noBytes := ⟨by unfold small; decide, plain_none⟩
 exact ⟨tParams_in (fun _ => tName_tame) t0 hp, tVars_in (fun _ => tName_tame) t0 hv, tStmts_in (fun _ h => (tName_tame h).2) t0.2 _ _ (Nat.le_refl _) _ hb, tStmts_in (fun _ h => (tName_tame h).1) t0.1 _ _ (Nat.le_refl _) _ hb⟩
theorem nm1_in {p : Prg} {n : CN} (hn : n ∈ nodesOf p.routines) {x : ByteArray} (hx : x ∈ nm1 n.r) : x ∈ nmRs p.routines :=
 (nm_nodes _ p.routines (Nat.lt_succ_self _) 0 p.routines (-1) noBytes x).2 ⟨n, hn, hx⟩
theorem ups_names [GI] {p : Prg} (ht : tPrg p = true) {us : List Param} (h : us ∈ cUps p.routines) : ∀ u ∈ us, inParam tame u ∧ u.name ∈ nmRs p.routines ∧ u.t.name ∈ nmRs p.routines := fun u hu => by
 unfold cUps at h
 obtain ⟨j, _, rfl⟩ := List.mem_map.1 h
 obtain ⟨i, n, k, h1, h2, _⟩ := upN_mem hu
 have hn : n ∈ nodesOf p.routines := List.mem_of_getElem? h1
 obtain ⟨a, d, hr⟩ := tree_nodes ht n hn
 obtain ⟨t1, t2, _, _⟩ := tree_routine hr
 have hm := List.mem_of_getElem? h2
 unfold locs at hm
 rcases List.mem_append.1 hm with hm | hm
 ·obtain ⟨v, hv, rfl⟩ := List.mem_map.1 hm
  have t := t1 v hv
  have : ∀ y ∈ nmParam v, y ∈ nmRs p.routines := fun y hy => nm1_in hn (by
   have : y ∈ nmParams n.r.params := List.mem_flatMap.2 ⟨v, hv, hy⟩
   simp [nm1, this])
  exact ⟨t, this _ (by simp [nmParam, parts_plain t.1.2]), this _ (by simp [nmParam, parts_plain t.2.2])⟩
 ·obtain ⟨v, hv, rfl⟩ := List.mem_map.1 hm
  have t := t2 v hv
  have : ∀ y ∈ nmVar v, y ∈ nmRs p.routines := fun y hy => nm1_in hn (by
   have : y ∈ nmVars n.r.vars := List.mem_flatMap.2 ⟨v, hv, hy⟩
   simp [nm1, this])
  exact ⟨t, this _ (by simp [nmVar, parts_plain t.1.2]), this _ (by simp [nmVar, parts_plain t.2.2])⟩
theorem liftF_at {p : Prg} {a : Int} {name path : ByteArray} {us : List Param} (he : liftF (nodesOf p.routines) (cUps p.routines) a name = some (path, us)) : ∃ n ∈ nodesOf p.routines, n.r.name = name ∧ path = n.path ∧ us ∈ cUps p.routines := by
 unfold liftF at he
 simp only at he
 split at he
 ·cases he
 ·rename_i hn
  obtain ⟨n, e1, e2⟩ := callee_name _ _ hn
  rw [e1] at he
  split at he
  ·rename_i m vs em ev
   cases em
   simp only [Option.some.injEq, Prod.mk.injEq] at he
   obtain ⟨rfl, rfl⟩ := he
   exact ⟨n, List.mem_of_getElem? e1, e2, rfl, List.mem_of_getElem? ev⟩
  ·cases he
theorem liftF_lf [GI] {p : Prg} (ht : tPrg p = true) (h : (liftP p).2 = 0) (a : Int) : LF (· ∈ nmRs p.routines) (liftF (nodesOf p.routines) (cUps p.routines) a) := ⟨fun name path us he => by
 obtain ⟨n, hn, rfl, rfl, hu⟩ := liftF_at he
 obtain ⟨t, q, q1, q2, q3, q4⟩ := tree_paths ht n hn
 have hnm : n.r.name ∈ nmRs p.routines := nm1_in hn (by simp [nm1, parts_plain (tName_plain t)])
 refine ⟨fun y hy => ?_, fun y hy => ?_, by rw [q1]; simp; omega, by unfold small; omega, liftF_few h a _ _ _ he, fun u hu' => ?_⟩
 ·rw [parts_plain (tName_plain t)] at hy
  rw [q1]; simp at hy ⊢; exact .inr hy
 ·rw [q1] at hy
  rcases List.mem_append.1 hy with hy | hy
  ·exact q4 y hy
  ·simp only [List.mem_singleton] at hy; subst hy; exact hnm
 ·obtain ⟨u1, u2, _⟩ := ups_names ht hu u hu'
  exact ⟨u2, u1.1⟩⟩
theorem nmParams_tame : ∀ {l : List Param}, (∀ u ∈ l, inParam tame u) → (nmParams l).length ≤ 2 * l.length := fun h => nmParams_len fun u hu => ⟨(h u hu).1.2, (h u hu).2.2⟩
theorem lfRs [GI] {p : Prg} (ht : tPrg p = true) (h : (liftP p).2 = 0) : ∀ (l : List (CN × List Param)) (i : Nat), (∀ q ∈ l, q.1 ∈ nodesOf p.routines ∧ q.2 ∈ cUps p.routines ∧ q.1.r.params.length + q.2.length ≤ 512) →
  (∀ q ∈ l, ∀ x ∈ nm1 q.1.r, x ∈ nmRs (liftRs (nodesOf p.routines) (cUps p.routines) i l)) ∧ (∀ x ∈ nmRs (liftRs (nodesOf p.routines) (cUps p.routines) i l), x ∈ nmRs p.routines ∨ x = noBytes) ∧
  (nmRs (liftRs (nodesOf p.routines) (cUps p.routines) i l)).length ≤ 1100 * (l.map fun q => wR q.1.r).sum ∧ inRs small (liftRs (nodesOf p.routines) (cUps p.routines) i l)
 | [], i, _ => by simp [liftRs, nmRs, inRs]
 | q :: l, i, hq => by
  obtain ⟨i1, i2, i3, i4⟩ := lfRs ht h l (i + 1) fun r hr => hq r (by simp [hr])
  obtain ⟨c1, c2, c3⟩ := hq q (by simp)
  obtain ⟨a, d, hr⟩ := tree_nodes ht q.1 c1
  obtain ⟨t1, t2, t3, t4⟩ := tree_routine hr
  obtain ⟨tn, b, b1, b2, b3, b4⟩ := tree_paths ht q.1 c1
  have F := liftF_lf ht h i
  obtain ⟨s1, s2, s3⟩ := lfSs F _ q.1.r.body (Nat.lt_succ_self _) t3
  have u := ups_names ht c2
  have hnm := parts_plain (tName_plain tn)
  have e : nmRs (liftRs (nodesOf p.routines) (cUps p.routines) i (q :: l)) = parts q.1.path ++ (nmParams q.1.r.params ++ nmParams q.2) ++ nmVars q.1.r.vars ++ nmSs (liftSs (liftF (nodesOf p.routines) (cUps p.routines) i) q.1.r.body) ++ nmRs (liftRs (nodesOf p.routines) (cUps p.routines) (i + 1) l) := by
   simp only [liftRs, nmRs, liftR, nmR_eq, nmParams, List.flatMap_append, List.append_nil, List.append_assoc]
  rw [e]
  refine ⟨fun r hr' x hx => ?_, fun x hx => ?_, ?_, ?_⟩
  ·rcases List.mem_cons.1 hr' with rfl | hr'
   ·simp only [nm1, List.mem_append, hnm, List.mem_singleton] at hx
    simp only [List.mem_append, b1, List.mem_singleton]
    rcases hx with ((hx | hx) | hx) | hx
    ·exact .inl (.inl (.inl (.inl (.inr hx))))
    ·exact .inl (.inl (.inl (.inr (.inl hx))))
    ·exact .inl (.inl (.inr hx))
    ·exact .inl (.inr (s1 x hx))
   ·exact List.mem_append.2 (.inr (i1 r hr' x hx))
  ·simp only [List.mem_append, b1, List.mem_singleton] at hx
   rcases hx with (((((hx | hx) | (hx | hx)) | hx) | hx) | hx)
   ·exact .inl (b4 x hx)
   ·exact .inl (nm1_in c1 (by simp [nm1, hnm, hx]))
   ·exact .inl (nm1_in c1 (by simp [nm1, hx]))
   ·obtain ⟨v, hv, hx⟩ := List.mem_flatMap.1 hx
    obtain ⟨v1, v2, v3⟩ := u v hv
    simp only [nmParam, parts_plain v1.1.2, parts_plain v1.2.2, List.mem_append, List.mem_singleton] at hx
    rcases hx with rfl | rfl
    ·exact .inl v2
    ·exact .inl v3
   ·exact .inl (nm1_in c1 (by simp [nm1, hx]))
   ·rcases s2 x hx with hx | hx
    ·exact .inl (nm1_in c1 (by simp [nm1, hx]))
    ·exact hx
   ·exact i2 x hx
  ·have n1 := nmParams_tame t1
   have n2 := nmParams_tame fun v hv => (u v hv).1
   have n3 := nmVars_len (l := q.1.r.vars) fun v hv => ⟨(t2 v hv).1.2, (t2 v hv).2.2⟩
   simp only [List.length_append, b1, List.length_singleton, List.map_cons, List.sum_cons]
   have := wR_eq q.1.r
   omega
  ·simp only [liftRs, inRs]
   refine ⟨?_, i4⟩
   simp only [liftR]
   refine (inR_eq small _).2 ⟨show q.1.path.size ≤ _ by omega, fun v hv => ?_, fun v hv => ⟨(t2 v hv).1.1, (t2 v hv).2.1⟩, trivial, inSs_lift (by unfold small; decide) (fun name path us he => ?_) _ _ (Nat.lt_succ_self _) t4⟩
   ·rcases List.mem_append.1 hv with hv | hv
    ·exact ⟨(t1 v hv).1.1, (t1 v hv).2.1⟩
    ·obtain ⟨v1, _, _⟩ := u v hv
     exact ⟨v1.1.1, v1.2.1⟩
   ·obtain ⟨_, _, _, k4, _, k6⟩ := F.h _ _ _ he
    exact ⟨k4, fun w hw => (k6 w hw).2.1⟩
theorem sum_le {X : Type} {g : X → Nat} {c : Nat} : ∀ {l : List X}, (∀ x ∈ l, g x ≤ c) → (l.map g).sum ≤ l.length * c
 | [], _ => by simp
 | x :: l, h => by
  have := sum_le (l := l) fun y hy => h y (by simp [hy])
  have := h x (by simp)
  simp only [List.map_cons, List.sum_cons, List.length_cons, Nat.add_mul]; omega
theorem lift_names [GI] {p : Prg} (ht : tPrg p = true) (hw : wP p ≤ 1048576) (h : (liftP p).2 = 0) : (∀ x ∈ nmP p, x ∈ nmP (liftP p).1) ∧ (∀ x ∈ nmP (liftP p).1, x ∈ nmP p ∨ x = noBytes) ∧ roomy (nmP (liftP p).1) ∧ inP small (liftP p).1 := by
 obtain ⟨g1, g2, g3⟩ := liftP_good h
 have hpl := tPrg_plain ht
 have hsm : inP small p := tPrg_in (fun _ h => (tName_tame h).1) (by unfold small; decide) ht
 have hwr : wRs p.routines ≤ 1048576 := by unfold wP at hw; omega
 have hall : ∀ n ∈ nodesOf p.routines, wR n.r ≤ 1048576 := capL_all (P := fun x => wR x ≤ 1048576) (fun x hx y hy => Nat.le_trans (wR_in hy) hx) _ p.routines (Nat.lt_succ_self _) (fun x hx => Nat.le_trans (wRs_mem hx) hwr) 0 p.routines (-1) noBytes
 obtain ⟨r1, r2, r3, r4⟩ := lfRs ht h ((nodesOf p.routines).zip (cUps p.routines)) 0 fun q hq => ⟨(List.of_mem_zip (show (q.1, q.2) ∈ _ from hq)).1, (List.of_mem_zip (show (q.1, q.2) ∈ _ from hq)).2, g2 q hq⟩
 have F := liftF_lf ht h (-1)
 obtain ⟨s1, s2, s3⟩ := lfSs F _ p.body (Nat.lt_succ_self _) hpl.body
 have hups : (cUps p.routines).length = (nodesOf p.routines).length := by unfold cUps; rw [List.length_map, List.length_range]; rfl
 have hs := sum_le (l := (nodesOf p.routines).zip (cUps p.routines)) (g := fun q => wR q.1.r) (c := 1048576) fun q hq => hall _ (List.of_mem_zip (show (q.1, q.2) ∈ _ from hq)).1
 have hz : ((nodesOf p.routines).zip (cUps p.routines)).length ≤ 512 := by rw [List.length_zip]; omega
 rw [g3]
 simp only [nmP]
 refine ⟨fun x hx => ?_, fun x hx => ?_, ?_, ⟨hsm.name, hsm.recs, hsm.vars, r4, inSs_lift (by unfold small; decide) (fun name path us he => ?_) _ _ (Nat.lt_succ_self _) hsm.body⟩⟩
 ·simp only [List.mem_append] at hx ⊢
  rcases hx with ((hx | hx) | hx)
  ·exact .inl (.inl hx)
  ·obtain ⟨n, hn, hx⟩ := (nm_nodes _ p.routines (Nat.lt_succ_self _) 0 p.routines (-1) noBytes x).1 hx
   obtain ⟨i, hi⟩ := List.getElem?_of_mem (show n ∈ nodesOf p.routines from hn)
   have hu : (cUps p.routines)[i]? = some ((cUps p.routines)[i]'(by have := (List.getElem?_eq_some_iff.1 hi).1; omega)) := List.getElem?_eq_getElem _
   have hzz : ((nodesOf p.routines).zip (cUps p.routines))[i]? = some (n, _) := List.getElem?_zip_eq_some.2 ⟨hi, hu⟩
   exact .inl (.inr (r1 _ (List.mem_of_getElem? hzz) x hx))
  ·exact .inr (s1 x hx)
 ·simp only [List.mem_append] at hx ⊢
  rcases hx with ((hx | hx) | hx)
  ·exact .inl (.inl (.inl hx))
  ·rcases r2 x hx with hx | hx
   ·exact .inl (.inl (.inr hx))
   ·exact .inr hx
  ·rcases s2 x hx with hx | hx | hx
   ·exact .inl (.inr hx)
   ·exact .inl (.inl (.inr hx))
   ·exact .inr hx
 ·have n1 := nmRecs_len hpl.recs
  have n2 := nmVars_len hpl.vars
  have n3 := parts_one hpl.name
  unfold roomy
  simp only [List.length_append, n3]
  unfold wP at hw
  have : ((nodesOf p.routines).zip (cUps p.routines)).length * 1048576 ≤ 512 * 1048576 := Nat.mul_le_mul_right _ hz
  omega
 ·obtain ⟨_, _, _, k4, _, k6⟩ := F.h _ _ _ he
  exact ⟨k4, fun w hw => (k6 w hw).2.1⟩
theorem nodup_le {α : Type} [DecidableEq α] : ∀ {a b : List α}, a.Nodup → (∀ x ∈ a, x ∈ b) → a.length ≤ b.length
 | [], b, _, _ => by simp
 | x :: a, b, h, k => by
  rw [List.nodup_cons] at h
  have hx := k x (by simp)
  have := nodup_le (a := a) (b := b.erase x) h.2 fun y hy => (List.mem_erase_of_ne (by rintro rfl; exact h.1 hy)).2 (k y (by simp [hy]))
  rw [List.length_erase_of_mem hx] at this
  have := List.length_pos_of_mem hx
  simp only [List.length_cons]; omega
theorem names_same [GI] {p : Prg} (ht : tPrg p = true) (hw : wP p ≤ 1048576) (h : (liftP p).2 = 0) : (∀ x ∈ names p, x ∈ names (liftP p).1) ∧ (names p).length = (names (liftP p).1).length := by
 obtain ⟨a, b, _, _⟩ := lift_names ht hw h
 have k1 : ∀ x ∈ names p, x ∈ names (liftP p).1 := fun x hx => by
  rcases (once_mem _ _ _).1 hx with hx | ⟨h1, h2⟩
  ·simp at hx
  ·exact (once_mem _ _ _).2 (.inr ⟨a x h1, h2⟩)
 have k2 : ∀ x ∈ names (liftP p).1, x ∈ names p := fun x hx => by
  rcases (once_mem _ _ _).1 hx with hx | ⟨h1, h2⟩
  ·simp at hx
  ·exact (once_mem _ _ _).2 (.inr ⟨(b x h1).resolve_right h2, h2⟩)
 exact ⟨k1, Nat.le_antisymm (nodup_le (once_nodup _ _ (by simp)) k1) (nodup_le (once_nodup _ _ (by simp)) k2)⟩
end Pg
