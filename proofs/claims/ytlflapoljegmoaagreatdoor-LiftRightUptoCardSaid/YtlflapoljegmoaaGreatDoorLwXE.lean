import Derived.Test.YtlflapoljegmoaaGreatDoorR12aJE
import Derived.Test.YtlflapoljegmoaaGreatDoorR12LawE
set_option linter.all false
set_option maxHeartbeats 4000000
set_option maxRecDepth 4000
namespace Pg
open Go
theorem upL_mem {f : Nat → Nat → Bool} {i : Nat} {x : Param} : ∀ {l : List Param} {k : Nat}, x ∈ upL f i k l → ∃ j, l[j]? = some x ∧ f i (k + j) = true
 | [], k, h => by simp [upL] at h
 | p :: r, k, h => by
  simp only [upL, List.mem_append] at h
  rcases h with h | h
  ·split at h
   ·simp only [List.mem_cons, List.not_mem_nil, or_false] at h
    subst h
    exact ⟨0, rfl, by simpa⟩
   ·simp at h
  ·obtain ⟨j, h1, h2⟩ := upL_mem h
   exact ⟨j + 1, by simpa using h1, by rw [← h2]; congr 1; omega⟩
theorem upN_mem {f : Nat → Nat → Bool} {x : Param} : ∀ {ns : List CN} {i : Nat}, x ∈ upN f i ns → ∃ j n k, ns[j]? = some n ∧ (locs n.r)[k]? = some x ∧ f (i + j) k = true
 | [], i, h => by simp [upN] at h
 | n :: ns, i, h => by
  simp only [upN, List.mem_append] at h
  rcases h with h | h
  ·obtain ⟨k, h1, h2⟩ := upL_mem h
   exact ⟨0, n, k, rfl, h1, by simpa using h2⟩
  ·obtain ⟨j, m, k, h1, h2, h3⟩ := upN_mem h
   exact ⟨j + 1, m, k, by simpa using h1, h2, by rw [← h3]; congr 1; omega⟩
end Pg
namespace Pg
open Go
theorem letters_no : ∀ {l : List UInt8} {f : Bool}, letters f l = true → ∀ c ∈ l, c ≠ 36
 | [], _, _, c, hc => by simp at hc
 | x :: r, f, h, c, hc => by
  simp only [letters, Bool.and_eq_true] at h
  rcases List.mem_cons.1 hc with rfl | hc
  ·rintro rfl
   have := h.1
   cases f <;> simp [letter] at this
  ·exact letters_no h.2 c hc
theorem name_plain {s : ByteArray} (h : tName s = true) : ∀ c ∈ bytes s, c ≠ 36 := by
 unfold tName nameCode at h
 simp only [Bool.and_eq_true, decide_eq_true_eq] at h
 have h1 := h.1
 split at h1
 ·cases h1
 ·split at h1
  ·rename_i h2; exact letters_no h2
  ·cases h1
theorem name_split : ∀ {a b r s : List UInt8}, (∀ c ∈ a, c ≠ 36) → (∀ c ∈ b, c ≠ 36) → (r = [] ∨ ∃ t, r = 36 :: t) → (s = [] ∨ ∃ t, s = 36 :: t) → a ++ r = b ++ s → a = b
 | [], [], _, _, _, _, _, _, _ => rfl
 | [], y :: b, r, s, _, hb, hr, _, h => by
  rcases hr with rfl | ⟨t, rfl⟩
  ·simp at h
  ·simp only [List.nil_append, List.cons_append, List.cons.injEq] at h
   exact absurd h.1.symm (hb y (by simp))
 | x :: a, [], r, s, ha, _, _, hs, h => by
  rcases hs with rfl | ⟨t, rfl⟩
  ·simp at h
  ·simp only [List.nil_append, List.cons_append, List.cons.injEq] at h
   exact absurd h.1 (ha x (by simp))
 | x :: a, y :: b, r, s, ha, hb, hr, hs, h => by
  simp only [List.cons_append, List.cons.injEq] at h
  rw [h.1, name_split (fun c hc => ha c (by simp [hc])) (fun c hc => hb c (by simp [hc])) hr hs h.2]
theorem bytes_append (a b : ByteArray) : bytes (a ++ b) = bytes a ++ bytes b := by
 simp [bytes, ByteArray.data_append]
theorem bytes_inj {a b : ByteArray} (h : bytes a = bytes b) : a = b := by
 apply ByteArray.ext
 exact Array.ext' h
theorem path_form : ∀ (N : Nat) (l : List Routine), Routines.sz l < N → ∀ (k : Nat) (whole : List Routine) (around : Int) (path : ByteArray), ∀ n ∈ capL k whole around path l, ∃ r ∈ l, ∃ rest : List UInt8, (rest = [] ∨ ∃ t, rest = 36 :: t) ∧ bytes n.path = bytes path ++ (bytes r.name ++ rest)
 | 0, l, h, _, _, _, _, _, _ => by omega
 | N + 1, [], h, k, whole, around, path, n, hn => by simp [capL] at hn
 | N + 1, x :: l, h, k, whole, around, path, n, hn => by
  have hz := Routine.sz_eq x
  simp only [Routines.sz] at h
  simp only [capL, capR_eq] at hn
  rcases List.mem_append.1 hn with hn | hn
  ·rcases List.mem_cons.1 hn with rfl | hn
   ·exact ⟨x, by simp, [], .inl rfl, by simp [bytes_append]⟩
   ·obtain ⟨r, _, rest, _, h2⟩ := path_form N x.inner (by omega) _ _ _ _ n hn
    refine ⟨x, by simp, 36 :: (bytes r.name ++ rest), .inr ⟨_, rfl⟩, ?_⟩
    rw [h2, bytes_append, bytes_append]
    show bytes path ++ bytes x.name ++ [36] ++ _ = _
    simp
  ·obtain ⟨r, hr, rest, h1, h2⟩ := path_form N l (by omega) _ _ _ _ n hn
   exact ⟨r, by simp [hr], rest, h1, h2⟩
theorem paths_nodup : ∀ (N : Nat) (l : List Routine) (ahead : List ByteArray) (d : Int), Routines.sz l < N → tRoutines ahead l d = true → ∀ (k : Nat) (whole : List Routine) (around : Int) (path : ByteArray), ((capL k whole around path l).map (·.path)).Nodup
 | 0, l, _, _, h, _, _, _, _, _ => by omega
 | N + 1, [], _, _, h, _, k, whole, around, path => by simp [capL]
 | N + 1, x :: l, ahead, d, h, ht, k, whole, around, path => by
  have hz := Routine.sz_eq x
  simp only [Routines.sz] at h
  obtain ⟨nd, _⟩ := tRoutines_nodup ht
  simp only [List.map_cons, List.nodup_cons] at nd
  have plainAll : ∀ y ∈ x :: l, ∀ c ∈ bytes y.name, c ≠ 36 := fun y hy => by
   obtain ⟨a, ha⟩ := tRoutines_mem ht hy
   rw [tRoutine_eq] at ha
   simp only [Bool.and_eq_true] at ha
   exact name_plain ha.1.1.1.1.1.1.1.2
  simp only [tRoutines, Bool.and_eq_true] at ht
  have hx := tRoutine_ok ht.1
  have h1 := paths_nodup N x.inner [] (d + 1) (by omega) hx.inner (k + 1) x.inner k (path ++ x.name ++ dollar)
  have h2 := paths_nodup N l _ d (by omega) ht.2 (k + rcnt x) whole around path
  simp only [capL, List.map_append]
  refine List.nodup_append.2 ⟨?_, h2, ?_⟩
  ·rw [capR_eq, List.map_cons]
   refine List.nodup_cons.2 ⟨fun hh => ?_, h1⟩
   obtain ⟨n, hn, he⟩ := List.mem_map.1 hh
   obtain ⟨r, _, rest, _, h4⟩ := path_form N x.inner (by omega) _ _ _ _ n hn
   have he := congrArg (fun s => (bytes s).length) he
   simp only [h4, bytes_append, List.length_append] at he
   have : (bytes dollar).length = 1 := rfl
   omega
  ·intro a ha b hb hab
   subst hab
   obtain ⟨n, hn, he⟩ := List.mem_map.1 ha
   obtain ⟨m, hm, he'⟩ := List.mem_map.1 hb
   have hform : ∃ rest : List UInt8, (rest = [] ∨ ∃ t, rest = 36 :: t) ∧ bytes n.path = bytes path ++ (bytes x.name ++ rest) := by
    rw [capR_eq] at hn
    rcases List.mem_cons.1 hn with rfl | hn
    ·exact ⟨[], .inl rfl, by simp [bytes_append]⟩
    ·obtain ⟨r, _, rest, _, h4⟩ := path_form N x.inner (by omega) _ _ _ _ n hn
     refine ⟨36 :: (bytes r.name ++ rest), .inr ⟨_, rfl⟩, ?_⟩
     rw [h4, bytes_append, bytes_append]
     show bytes path ++ bytes x.name ++ [36] ++ _ = _
     simp
   obtain ⟨r1, hr1, e1⟩ := hform
   obtain ⟨y, hy, r2, hr2, e2⟩ := path_form N l (by omega) _ _ _ _ m hm
   rw [he] at e1
   rw [he', e1] at e2
   have e3 := name_split (plainAll x (by simp)) (plainAll y (by simp [hy])) hr1 hr2 (List.append_cancel_left e2)
   exact nd.1 (List.mem_map.2 ⟨y, hy, (bytes_inj e3).symm⟩)
end Pg
namespace Pg
open Go
theorem ckKind_zero {kinds : List Int} {p : Typ × CS} (h : (ckKind kinds p).2.bad = 0) : p.2.bad = 0 := by
 unfold ckKind at h
 simp only at h
 split at h
 ·exact absurd h (fail_yes _ (by decide))
 ·exact h
theorem ckPair_zero {fs : List Scope} {s : CS} {l : List Expr} {k : Int} (h : (ckPair fs s l k).bad = 0) : s.bad = 0 :=
 Decidable.byContradiction fun hb => by rw [ckPair_bad' fs hb] at h; exact hb h
theorem ckArgs_zero {fs : List Scope} {s : CS} {ps : List Param} {l : List Expr} (h : (ckArgs fs s ps l).bad = 0) : s.bad = 0 := by
 refine Decidable.byContradiction fun hb => ?_
 cases ps with
 | nil => cases l <;> simp [ckArgs] at h <;> exact hb h
 | cons p ps => cases l with
  | nil => simp [ckArgs] at h; exact hb h
  | cons x l => simp [ckArgs, hb] at h
theorem ckExpr_zero {fs : List Scope} {s : CS} {x : Expr} {b : Bool} (h : (ckExpr fs s x b).2.bad = 0) : s.bad = 0 :=
 Decidable.byContradiction fun hb => by rw [ckExpr_bad' fs hb] at h; exact hb h
def Seen (fs : List Scope) (name : ByteArray) : Prop := ∃ r, findIn fs name = some (.routine r)
theorem pair_seen {fs : List Scope} {k : Int} : ∀ {l : List Expr} {s : CS}, (∀ y ∈ l, ∀ s, (ckExpr fs s y false).2.bad = 0 → ∀ name ∈ callE y, Seen fs name) → (ckPair fs s l k).bad = 0 → ∀ name ∈ callEs l, Seen fs name
 | [], s, _, _, name, hn => by simp [callEs] at hn
 | x :: l, s, h, hb, name, hn => by
  simp only [ckPair] at hb
  simp only [callEs, List.mem_append] at hn
  rcases hn with hn | hn
  ·exact h x (by simp) s (ckKind_zero (ckPair_zero hb)) name hn
  ·exact pair_seen (fun y hy => h y (by simp [hy])) hb name hn
theorem args_seen {fs : List Scope} : ∀ {ps : List Param} {l : List Expr} {s : CS}, ps.length = l.length → (∀ y ∈ l, ∀ s, (ckExpr fs s y false).2.bad = 0 → ∀ name ∈ callE y, Seen fs name) → (ckArgs fs s ps l).bad = 0 → ∀ name ∈ callEs l, Seen fs name
 | ps, [], s, _, _, _, name, hn => by simp [callEs] at hn
 | [], x :: l, s, hl, _, _, _, _ => by simp at hl
 | p :: ps, x :: l, s, hl, h, hb, name, hn => by
  have hs := ckArgs_zero hb
  simp only [ckArgs, hs, if_true] at hb
  simp only [callEs, List.mem_append] at hn
  have hl' : ps.length = l.length := by simpa using hl
  have h' := fun y hy => h y (List.mem_cons_of_mem x hy)
  split at hb
  ·rcases hn with hn | hn
   ·exact h x (by simp) s (ckKind_zero (ckArgs_zero hb)) name hn
   ·exact args_seen hl' h' hb name hn
  ·generalize (if x.op = 4 ∨ x.op = 5 ∨ x.op = 6 then s else s.fail 14) = s1 at hb
   rcases hn with hn | hn
   ·have h2 := ckArgs_zero hb
    split at h2
    ·exact h x (by simp) _ h2 name hn
    ·exact absurd h2 (fail_yes _ (by decide))
   ·exact args_seen hl' h' hb name hn
theorem ckTwo_seen {fs : List Scope} {kinds : List Int} {l : List Expr} {s : CS} (hl : l.length = 2) (h : ∀ y ∈ l, ∀ s, (ckExpr fs s y false).2.bad = 0 → ∀ name ∈ callE y, Seen fs name) (hb : (ckTwo fs s kinds l).bad = 0) : ∀ name ∈ callEs l, Seen fs name := by
 obtain ⟨y, z, rfl⟩ : ∃ y z, l = [y, z] := by
  match l, hl with
  | [y, z], _ => exact ⟨y, z, rfl⟩
 simp only [ckTwo, List.length_cons, List.length_nil, if_true] at hb
 intro name hn
 simp only [callEs, List.append_nil, List.mem_append] at hn
 rcases hn with hn | hn
 ·exact h y (by simp) s (ckKind_zero (ckPair_zero hb)) name hn
 ·exact pair_seen (l := [z]) (fun w hw => h w (by simp at hw; simp [hw])) hb name (by simpa [callEs] using hn)
theorem expr_seen {fs : List Scope} : ∀ (n : Nat) (x : Expr), form n x = true → ∀ (b : Bool) (s : CS), (ckExpr fs s x b).2.bad = 0 → ∀ name ∈ callE x, Seen fs name := by
 intro n
 induction n with
 | zero => intro x h; simp [form] at h
 | succ n ih =>
  intro x hx b s hb name hn
  have hsub : ∀ y ∈ x.l, ∀ s, (ckExpr fs s y false).2.bad = 0 → ∀ name ∈ callE y, Seen fs name := fun y hy s => ih y (form_sub hx y hy) false s
  rw [form_eq] at hx
  simp only [Bool.and_eq_true, decide_eq_true_eq] at hx
  obtain ⟨⟨⟨⟨h1, h2⟩, h3⟩, h4⟩, h5⟩ := hx
  have hlen := parts_len h4
  have hs := ckExpr_zero hb
  rw [ckExpr_eq, if_pos hs] at hb
  rw [callE_eq] at hn
  have nil : x.l.length = 0 → x.op ≠ 7 → False := fun h0 h7 => by
   have : x.l = [] := List.length_eq_zero_iff.1 h0
   rw [if_neg h7, this] at hn
   simp [callEs] at hn
  by_cases g7 : x.op = 7
  ·rw [if_neg (by omega), if_neg (by omega), if_neg (by omega), if_neg (by omega), if_neg (by omega), if_neg (by omega), if_pos g7] at hb
   cases hf : findIn fs x.name with
   | none => rw [hf] at hb; exact absurd hb (fail_yes _ (by decide))
   | some z =>
    rw [hf] at hb
    cases z with
    | var t => exact absurd hb (fail_yes _ (by decide))
    | rcd r => exact absurd hb (fail_yes _ (by decide))
    | routine r =>
     simp only at hb
     split at hb
     ·exact absurd (ckArgs_zero hb) (fail_yes _ (by decide))
     ·split at hb
      ·rename_i hl
       rw [if_pos g7] at hn
       rcases List.mem_append.1 hn with hn | hn
       ·simp only [List.mem_cons, List.not_mem_nil, or_false] at hn
        subst hn; exact ⟨r, hf⟩
       ·exact args_seen hl hsub hb name hn
      ·exact absurd hb (fail_yes _ (by decide))
  ·rw [if_neg g7, List.nil_append] at hn
   by_cases g1 : x.op = 1 ∨ x.op = 2 ∨ x.op = 3 ∨ x.op = 4 ∨ x.op = 6
   ·exact (nil (by
     rw [if_neg g7, if_neg (by omega), if_neg (by omega)] at hlen; omega) g7).elim
   rw [if_neg (by omega), if_neg (by omega), if_neg (by omega), if_neg (by omega)] at hb
   by_cases g5 : x.op = 5
   ·rw [if_pos g5] at hb
    exact pair_seen hsub hb name hn
   rw [if_neg g5, if_neg (by omega), if_neg g7] at hb
   split at hb
   ·exact pair_seen hsub hb name hn
   ·rename_i g9
    have two : 19 ≤ x.op → x.l.length = 2 := fun h => by
     rw [if_neg g7, if_neg (by omega), if_pos (by omega)] at hlen; omega
    split at hb
    ·exact ckTwo_seen (two (by omega)) hsub hb name hn
    ·split at hb
     ·exact ckTwo_seen (two (by omega)) hsub hb name hn
     ·exact pair_seen hsub hb name hn
theorem stmt_seen {fs : List Scope} {x : Stmt} (hx : SForm x) (hp : ¬ (x.op = 1 ∨ x.op = 7) → callE x.p = []) {res : Int} {s : CS} (hb : (ckStmt fs s res x).bad = 0) : ∀ name ∈ callE x.p ++ callEs x.e, Seen fs name := by
 intro name hn
 have he : ∀ y ∈ x.e, ∀ b s, (ckExpr fs s y b).2.bad = 0 → ∀ name ∈ callE y, Seen fs name := fun y hy b s => expr_seen 48 y (hx.e y hy) b s
 have hpe : (x.op = 1 ∨ x.op = 7) → ∀ s, (ckExpr fs s x.p false).2.bad = 0 → ∀ name ∈ callE x.p, Seen fs name := fun h s => expr_seen 48 x.p (hx.p h) false s
 have lo := hx.lo
 have hi := hx.hi
 have h1 := hx.op1
 have h9 := hx.op9
 have pair : ∀ {k : Int} {s : CS}, (ckPair fs s x.e k).bad = 0 → ∀ name ∈ callEs x.e, Seen fs name := fun h => pair_seen (fun y hy => he y hy false) h
 have rest : ¬ (x.op = 1 ∨ x.op = 7) → name ∈ callEs x.e := fun h => by
  rw [hp h, List.nil_append] at hn; exact hn
 unfold ckStmt at hb
 by_cases g1 : x.op = 1
 ·rw [if_pos g1] at hb
  rcases List.mem_append.1 hn with hn | hn
  ·exact hpe (.inl g1) _ (ckKind_zero (ckPair_zero hb)) name hn
  ·exact pair hb name hn
 rw [if_neg g1] at hb
 by_cases g2 : x.op = 2
 ·rw [if_pos g2] at hb
  have hn := rest (by omega)
  obtain ⟨y, hy⟩ : ∃ y, x.e = [y] := by
   rw [if_neg (by omega), if_neg (by omega), if_neg (by omega)] at lo
   rw [if_neg (by omega), if_neg (by omega)] at hi
   exact List.length_eq_one_iff.1 (by omega)
  rw [hy] at hb hn
  simp only [ckEach] at hb
  exact he y (by simp [hy]) true s hb name (by simpa [callEs] using hn)
 rw [if_neg g2] at hb
 by_cases g3 : x.op = 3 ∨ x.op = 4 ∨ x.op = 5
 ·rw [if_pos g3] at hb
  exact pair hb name (rest (by omega))
 rw [if_neg g3] at hb
 by_cases g6 : x.op = 6
 ·rw [if_pos g6] at hb
  exact pair hb name (rest (by omega))
 rw [if_neg g6] at hb
 by_cases g7 : x.op = 7
 ·rw [if_pos g7] at hb
  have hee : x.e = [] := by
   rw [if_neg g6, if_pos g7] at hi
   exact List.length_eq_zero_iff.1 (by omega)
  rw [hee] at hn
  simp only [callEs, List.append_nil] at hn
  exact hpe (.inr g7) _ (ckKind_zero hb) name hn
 rw [if_neg g7] at hb
 by_cases g8 : x.op = 8
 ·rw [if_pos g8] at hb
  have hn := rest (by omega)
  obtain ⟨y, hy⟩ : ∃ y, x.e = [y] := by
   rw [if_neg (by omega), if_neg (by omega), if_neg (by omega)] at lo
   rw [if_neg (by omega), if_neg (by omega)] at hi
   exact List.length_eq_one_iff.1 (by omega)
  rw [hy] at hb hn
  simp only [ckAnys, ckAny] at hb
  exact he y (by simp [hy]) false s (ckKind_zero hb) name (by simpa [callEs] using hn)
 rw [if_neg g8, if_pos (by omega : x.op = 9)] at hb
 have hn := rest (by omega)
 unfold ckResult at hb
 by_cases hr : 0 < res
 ·simp only [hr, if_true] at hb
  exact pair hb name hn
 ·simp only [hr, if_false, decide_false] at hb
  have hee : x.e = [] := by
   refine Decidable.byContradiction fun hh => ?_
   have := List.length_pos_iff.2 hh
   rw [if_neg (by simp [this])] at hb
   exact absurd hb (fail_yes _ (by decide))
  rw [hee] at hn
  simp [callEs] at hn
theorem ckStmts_zero {fs : List Scope} {res : Int} {l : List Stmt} {s : CS} (h : (ckStmts fs s res l).bad = 0) : s.bad = 0 :=
 Decidable.byContradiction fun hb => by rw [ckStmts_bad hb] at h; exact hb h
theorem tNone_callE {x : Expr} (h : tNone x = true) : callE x = [] ∧ useE x = [] := by
 unfold tNone at h
 simp only [Bool.and_eq_true, decide_eq_true_eq] at h
 obtain ⟨⟨⟨⟨h1, _⟩, _⟩, _⟩, h2⟩ := h
 have hl : x.l = [] := List.length_eq_zero_iff.1 h2
 rw [callE_eq, useE_eq, hl]
 simp [h1, callEs, useEs]
theorem tStmt1_none {x : Stmt} (h : tStmt1 x = true) (hp : ¬ (x.op = 1 ∨ x.op = 7)) : callE x.p = [] ∧ useE x.p = [] := by
 unfold tStmt1 sPlace at h
 simp only [Bool.and_eq_true] at h
 have h6 := h.1.1.1.2
 rw [if_neg hp] at h6
 exact tNone_callE h6
theorem stmts_seen {fs : List Scope} {res : Int} : ∀ (n : Nat) (l : List Stmt) (d : Int), Stmts.sz l ≤ n → tStmts l d = true → ∀ s, (ckStmts fs s res l).bad = 0 → ∀ name ∈ callSs l, Seen fs name
 | n, [], d, _, _, s, _, name, hn => by simp [callSs] at hn
 | 0, x :: l, d, hz, _, s, _, _, _ => by simp [Stmts.sz] at hz
 | n + 1, x :: l, d, hn, ht, s, hb, name, hc => by
  have hz := Stmt.sz_eq x
  simp only [Stmts.sz] at hn
  simp only [tStmts, Bool.and_eq_true] at ht
  have ht1 := ht.1
  rw [tStmt_eq] at ht1
  simp only [Bool.and_eq_true, decide_eq_true_eq] at ht1
  obtain ⟨⟨⟨hd, hso⟩, htb, hlb⟩, hte, hle⟩ := ht1
  have hs := ckStmts_zero hb
  simp only [ckStmts, hs, if_true] at hb
  have hb1 := ckStmts_zero hb
  rw [ckDeep_eq] at hb1
  have hb2 := ckStmts_zero hb1
  have hb3 := ckStmts_zero hb2
  simp only [callSs, List.mem_append] at hc
  rcases hc with hc | hc
  ·rw [callS_eq] at hc
   simp only [List.mem_append] at hc
   rcases hc with (hc | hc) | hc
   ·exact stmt_seen (tStmt1_form hso) (fun hp => (tStmt1_none hso hp).1) hb3 name (List.mem_append.2 hc)
   ·exact stmts_seen n x.body (d + 1) (by omega) htb _ hb2 name hc
   ·exact stmts_seen n x.els (d + 1) (by omega) hte _ hb1 name hc
  ·exact stmts_seen n l d (by omega) ht.2 _ hb name hc
structure Held2 (fs : List Scope) (V : ByteArray → Prop) (L : List ByteArray) : Prop where
 ne : fs ≠ []
 nodup : L.Nodup
 there : ∀ m ∈ L, findIn fs m ≠ none
 seen : ∀ m, Seen fs m → V m
theorem ckLay_zero {fs : List Scope} {s : CS} {name : ByteArray} {x : Thing} (h : (ckLay fs s name x).2.bad = 0) : findIn fs name = none ∧ s.bad = 0 ∧ (ckLay fs s name x).1 = setTop name x fs := by
 unfold ckLay at h ⊢
 cases hf : findIn fs name with
 | some y => rw [hf] at h; exact absurd h (fail_yes _ (by decide))
 | none => rw [hf] at h; exact ⟨rfl, h, rfl⟩
theorem Held2.lay {fs : List Scope} {V : ByteArray → Prop} {L : List ByteArray} (o : Held2 fs V L) {s : CS} {name : ByteArray} {t : Typ} (h : (ckLay fs s name (.var t)).2.bad = 0) : Held2 (ckLay fs s name (.var t)).1 V (L ++ [name]) := by
 obtain ⟨h1, h2, h3⟩ := ckLay_zero h
 rw [h3]
 have hn : name ∉ L := fun hh => o.there name hh h1
 refine ⟨?_, ?_, fun m hm => ?_, fun m ⟨r, hr⟩ => ?_⟩
 ·have := o.ne
  cases fs with
  | nil => exact absurd rfl this
  | cons f fs => simp [setTop]
 ·refine List.nodup_append.2 ⟨o.nodup, by simp, ?_⟩
  intro a ha b hb hab
  simp only [List.mem_cons, List.not_mem_nil, or_false] at hb
  subst hb hab
  exact hn ha
 ·rw [findIn_setTop name _ o.ne]
  by_cases hmn : m = name
  ·rw [if_pos hmn]; simp
  ·rw [if_neg hmn]
   rcases List.mem_append.1 hm with hm | hm
   ·exact o.there m hm
   ·simp at hm; exact absurd hm hmn
 ·rw [findIn_setTop name _ o.ne] at hr
  split at hr
  ·simp at hr
  ·exact o.seen m ⟨r, hr⟩
theorem Held2.params {V : ByteArray → Prop} : ∀ (l : List Param) {fs : List Scope} {L : List ByteArray} {s : CS}, Held2 fs V L → (ckParams fs s l).2.bad = 0 → Held2 (ckParams fs s l).1 V (L ++ l.map (·.name)) ∧ s.bad = 0
 | [], fs, L, s, o, h => ⟨by simpa [ckParams] using o, h⟩
 | v :: l, fs, L, s, o, h => by
  simp only [ckParams] at h ⊢
  have h1 : (ckLay fs s v.name (.var v.t)).2.bad = 0 := by
   refine Decidable.byContradiction fun hb => ?_
   rw [ckTyp_bad _ hb, ckParams_bad hb] at h
   exact hb h
  have o1 := o.lay h1
  obtain ⟨o2, _⟩ := Held2.params l o1 h
  refine ⟨by simpa [List.append_assoc] using o2, (ckLay_zero h1).2.1⟩
theorem Held2.vars {V : ByteArray → Prop} (behind : List Routine) : ∀ (l : List Var) {fs : List Scope} {L : List ByteArray} {s : CS}, Held2 fs V L → (ckVars fs s l behind).2.bad = 0 → Held2 (ckVars fs s l behind).1 V (L ++ l.map (·.name)) ∧ s.bad = 0
 | [], fs, L, s, o, h => ⟨by simpa [ckVars] using o, h⟩
 | v :: l, fs, L, s, o, h => by
  have hs : s.bad = 0 := Decidable.byContradiction fun hb => by rw [ckVars_bad hb] at h; exact hb h
  simp only [ckVars, hs, if_true] at h ⊢
  generalize (if (behind.any fun x => decide (x.name = v.name)) = true then s.step.fail 12 else s.step) = s1 at h ⊢
  have h1 : (ckLay fs s1 v.name (.var v.t)).2.bad = 0 := by
   refine Decidable.byContradiction fun hb => ?_
   rw [ckTyp_bad _ hb, ckVars_bad hb] at h
   exact hb h
  have o1 := o.lay h1
  obtain ⟨o2, _⟩ := Held2.vars behind l o1 h
  exact ⟨by simpa [List.append_assoc] using o2, trivial⟩
theorem Held2.recs {V : ByteArray → Prop} : ∀ (l : List Rec) {fs : List Scope} {s : CS}, fs ≠ [] → (∀ m, ¬ Seen fs m) → (ckRecs fs s l).2.bad = 0 → (ckRecs fs s l).1 ≠ [] ∧ (∀ m, ¬ Seen (ckRecs fs s l).1 m) ∧ s.bad = 0
 | [], fs, s, hne, o, h => ⟨by simpa [ckRecs] using hne, by simpa [ckRecs] using o, h⟩
 | r :: l, fs, s, hne, o, h => by
  have hs : s.bad = 0 := Decidable.byContradiction fun hb => by simp [ckRecs, hb] at h
  simp only [ckRecs, hs, if_true] at h ⊢
  have recs_bad : ∀ (l : List Rec) (fs : List Scope) (s : CS), s.bad ≠ 0 → (ckRecs fs s l).2 = s := fun l fs s hb => by
   cases l <;> simp [ckRecs, hb]
  have h1 : (ckLay fs s.step r.name (.rcd r)).2.bad = 0 := by
   refine Decidable.byContradiction fun hb => ?_
   rw [recs_bad _ _ _ (by split; exact fail_yes _ (by decide); exact hb)] at h
   split at h
   ·exact fail_yes _ (by decide) h
   ·exact hb h
  obtain ⟨h2, h3, h4⟩ := ckLay_zero h1
  refine ⟨?_, ?_, trivial⟩
  ·refine (Held2.recs (V := V) l ?_ ?_ h).1
   ·rw [h4]; cases fs with
    | nil => exact absurd rfl hne
    | cons f fs => simp [setTop]
   ·intro m ⟨x, hx⟩
    rw [h4, findIn_setTop _ _ hne] at hx
    split at hx
    ·simp at hx
    ·exact o m ⟨x, hx⟩
  ·refine (Held2.recs (V := V) l ?_ ?_ h).2.1
   ·rw [h4]; cases fs with
    | nil => exact absurd rfl hne
    | cons f fs => simp [setTop]
   ·intro m ⟨x, hx⟩
    rw [h4, findIn_setTop _ _ hne] at hx
    split at hx
    ·simp at hx
    ·exact o m ⟨x, hx⟩
theorem ckRoutines_zero {a b : List Scope} {s : CS} {l : List Routine} (h : (ckRoutines a b s l).bad = 0) : s.bad = 0 :=
 Decidable.byContradiction fun hb => by rw [ckRoutines_bad hb] at h; exact hb h
theorem Held2.deeper {fs : List Scope} {V : ByteArray → Prop} {L : List ByteArray} (o : Held2 fs V L) : Held2 ([] :: fs) V L :=
 ⟨by simp, o.nodup, fun m hm => by simpa [findIn, look] using o.there m hm, fun m ⟨r, hr⟩ => o.seen m ⟨r, by simpa [findIn, look] using hr⟩⟩
theorem look_all {m : ByteArray} : ∀ (l : List Routine) (f : Scope) (x : Thing), look (allOf f l) m = some x → look f m = some x ∨ m ∈ l.map (·.name)
 | [], f, x, h => .inl h
 | r :: l, f, x, h => by
  simp only [allOf] at h
  rcases look_all l _ x h with h | h
  ·rw [look_setIn] at h
   split at h
   ·rename_i he; exact .inr (by simp [he])
   ·exact .inl h
  ·exact .inr (by simp only [List.map_cons, List.mem_cons]; exact .inr h)
theorem look_all_ne {m : ByteArray} : ∀ (l : List Routine) (f : Scope), look f m ≠ none → look (allOf f l) m ≠ none
 | [], f, h => h
 | r :: l, f, h => by
  simp only [allOf]
  refine look_all_ne l _ ?_
  rw [look_setIn]
  split
  ·simp
  ·exact h
theorem Held2.visible {fs : List Scope} {V : ByteArray → Prop} {L : List ByteArray} (o : Held2 fs V L) (l : List Routine) : Held2 (allOf [] l :: fs) (fun m => V m ∨ m ∈ l.map (·.name)) L := by
 refine ⟨by simp, o.nodup, fun m hm => ?_, fun m ⟨r, hr⟩ => ?_⟩
 ·simp only [findIn]
  cases h : look (allOf [] l) m with
  | some x => simp
  | none => exact o.there m hm
 ·simp only [findIn] at hr
  cases h : look (allOf [] l) m with
  | some x =>
   rcases look_all l [] x h with h | h
   ·simp [look] at h
   ·exact .inr h
  | none => rw [h] at hr; exact .inl (o.seen m ⟨r, hr⟩)
theorem ckVars_zero {fs : List Scope} {s : CS} {l : List Var} {b : List Routine} (h : (ckVars fs s l b).2.bad = 0) : s.bad = 0 :=
 Decidable.byContradiction fun hb => by rw [ckVars_bad hb] at h; exact hb h
end Pg
namespace Pg
open Go
theorem capL_parent : ∀ (N : Nat) (l : List Routine), Routines.sz l < N → ∀ (k : Nat) (whole : List Routine) (around : Int) (path : ByteArray) (t : Nat) (m : CN), (capL k whole around path l)[t]? = some m →
  (m.around = around ∧ m.r ∈ l ∧ m.path = path ++ m.r.name) ∨ ∃ s n, (capL k whole around path l)[s]? = some n ∧ m.around = ((k + s : Nat) : Int) ∧ m.r ∈ n.r.inner ∧ m.path = n.path ++ dollar ++ m.r.name
 | 0, l, h, _, _, _, _, _, _, _ => by omega
 | N + 1, [], h, k, whole, around, path, t, m, hm => by simp [capL] at hm
 | N + 1, x :: l, h, k, whole, around, path, t, m, hm => by
  have hz := Routine.sz_eq x
  simp only [Routines.sz] at h
  have hlen := capR_len x k whole around path
  simp only [capL] at hm ⊢
  rw [List.getElem?_append] at hm
  split at hm
  ·rename_i hlt
   have left : ∀ j, j < (capR k whole around path x).length → (capR k whole around path x ++ capL (k + rcnt x) whole around path l)[j]? = (capR k whole around path x)[j]? := fun j hj => by
    rw [List.getElem?_append, if_pos hj]
   rw [capR_eq] at hm left hlt ⊢
   cases t with
   | zero =>
    simp only [List.getElem?_cons_zero, Option.some.injEq] at hm
    subst hm
    exact .inl ⟨rfl, by simp, rfl⟩
   | succ t =>
    simp only [List.getElem?_cons_succ] at hm
    refine .inr ?_
    rcases capL_parent N x.inner (by omega) (k + 1) _ k _ t m hm with ⟨h1, h2, h3⟩ | ⟨s, n, h1, h2, h3, h4⟩
    ·exact ⟨0, ⟨path ++ x.name, around, whole, x, capMap (k + 1) [] x.inner⟩, rfl, by simpa using h1, h2, h3⟩
    ·refine ⟨s + 1, n, ?_, by rw [h2]; congr 1; omega, h3, h4⟩
     rw [left _ (by
      have : s < (capL (k + 1) x.inner (k : Int) (path ++ x.name ++ dollar) x.inner).length := by
       rcases Nat.lt_or_ge s (capL (k + 1) x.inner (k : Int) (path ++ x.name ++ dollar) x.inner).length with h | h
       ·exact h
       ·rw [List.getElem?_eq_none h] at h1; cases h1
      simp only [List.length_cons]; omega), List.getElem?_cons_succ]
     exact h1
  ·rename_i hge
   rw [hlen] at hge hm
   rcases capL_parent N l (by omega) (k + rcnt x) _ around _ _ m hm with ⟨h1, h2, h3⟩ | ⟨s, n, h1, h2, h3, h4⟩
   ·exact .inl ⟨h1, by simp [h2], h3⟩
   ·refine .inr ⟨rcnt x + s, n, ?_, by rw [h2]; congr 1; omega, h3, h4⟩
    rw [List.getElem?_append, if_neg (by rw [hlen]; omega), hlen, ← h1]
    congr 1; omega
theorem nodup_inj {X : Type} {l : List X} (nd : l.Nodup) {i j : Nat} {a : X} (hi : l[i]? = some a) (hj : l[j]? = some a) : i = j := by
 obtain ⟨l1, e1⟩ := List.getElem?_eq_some_iff.1 hi
 obtain ⟨l2, e2⟩ := List.getElem?_eq_some_iff.1 hj
 have hp := List.pairwise_iff_getElem.1 nd
 rcases Nat.lt_trichotomy i j with h | h | h
 ·exact absurd (e1.trans e2.symm) (hp i j l1 l2 h)
 ·exact h
 ·exact absurd (e2.trans e1.symm) (hp j i l2 l1 h)
theorem node_one {p : List Routine} {d : Int} (ht : tRoutines [] p d = true) {i j : Nat} {m n : CN} (hi : (nodesOf p)[i]? = some m) (hj : (nodesOf p)[j]? = some n) (ha : m.around = n.around) (hn : m.r.name = n.r.name) : i = j := by
 have nd := paths_nodup _ p [] d (Nat.lt_succ_self _) ht 0 p (-1) noBytes
 have hp : m.path = n.path := by
  have h1 := capL_parent _ p (Nat.lt_succ_self _) 0 p (-1) noBytes i m hi
  have h2 := capL_parent _ p (Nat.lt_succ_self _) 0 p (-1) noBytes j n hj
  rcases h1 with ⟨a1, _, a3⟩ | ⟨s, x, a1, a2, _, a4⟩
  ·rcases h2 with ⟨b1, _, b3⟩ | ⟨s', x', b1, b2, _, b4⟩
   ·rw [a3, b3, hn]
   ·omega
  ·rcases h2 with ⟨b1, _, b3⟩ | ⟨s', x', b1, b2, _, b4⟩
   ·omega
   ·have : s = s' := by omega
    subst this
    rw [a1] at b1; cases b1
    rw [a4, b4, hn]
 have e1 : ((nodesOf p).map (·.path))[i]? = some m.path := by simp [hi]
 have e2 : ((nodesOf p).map (·.path))[j]? = some n.path := by simp [hj]
 exact nodup_inj nd e1 (by rw [e2, hp])
theorem lookN_some {name : ByteArray} : ∀ (l : List Routine) (k : Nat) (m : List (ByteArray × Nat)), (name ∈ l.map (·.name) ∨ lookN name m ≠ none) → lookN name (capMap k m l) ≠ none
 | [], k, m, h => by
  rcases h with h | h
  ·simp at h
  ·exact h
 | x :: l, k, m, h => by
  simp only [capMap]
  refine lookN_some l _ _ ?_
  rw [lookN_mapIn]
  by_cases hx : name = x.name
  ·exact .inr (by simp [hx])
  ·rw [if_neg hx]
   rcases h with h | h
   ·simp only [List.map_cons, List.mem_cons, hx, false_or] at h
    exact .inl h
   ·exact .inr h
theorem node_top {p : List Routine} {name : ByteArray} {v : Nat} (h : lookN name (capMap 0 [] p) = some v) : ∃ m, (nodesOf p)[v]? = some m ∧ m.r.name = name ∧ m.around = -1 := by
 rcases capMap_at p (-1) noBytes name p 0 [] v h with h | ⟨_, r, _, hn, n, h2, h3, h4, _⟩
 ·simp [lookN] at h
 ·exact ⟨n, by simpa using h2, by rw [h3]; exact hn, h4⟩
theorem node_inner {p : List Routine} {a : Nat} {n : CN} (hn : (nodesOf p)[a]? = some n) : n.inner = capMap (a + 1) [] n.r.inner ∧ ∀ {name : ByteArray} {k : Nat}, lookN name n.inner = some k → ∃ m, (nodesOf p)[k]? = some m ∧ m.r.name = name ∧ m.around = (a : Int) := by
 obtain ⟨h1, h2, h3⟩ := capL_sub _ p (Nat.lt_succ_self _) 0 p (-1) noBytes a n hn
 simp only [Nat.zero_add] at h2 h3
 refine ⟨h2, fun {name k} hk => ?_⟩
 rw [h2] at hk
 rcases capMap_at n.r.inner (a : Int) (n.path ++ dollar) name n.r.inner _ [] k hk with h | ⟨h4, r, hr, hrn, m, h5, h6, h7, _⟩
 ·simp [lookN] at h
 ·have hlt : k - (a + 1) < rcnts n.r.inner := by
   rw [← capL_len n.r.inner (a + 1) n.r.inner (a : Int) (n.path ++ dollar)]
   exact (List.getElem?_eq_some_iff.1 h5).1
  have h8 := h3 _ hlt
  rw [h5, show a + 1 + (k - (a + 1)) = k by omega] at h8
  exact ⟨m, h8, by rw [h6]; exact hrn, h7⟩
def calleeAt (ns : List CN) (name : ByteArray) : Nat → Int → Int
 | 0, _ => -1
 | f + 1, a => match ns.findIdx? (fun n => decide (n.around = a) && decide (n.r.name = name)) with
  | some i => i
  | none => if a < 0 then -1 else match ns[a.toNat]? with
   | some n => calleeAt ns name f n.around
   | none => -1
theorem callee_find {p : List Routine} {d : Int} (ht : tRoutines [] p d = true) {name : ByteArray} {a : Int} {v : Nat} {m : CN} (h1 : (nodesOf p)[v]? = some m) (h2 : m.r.name = name) (h3 : m.around = a) : (nodesOf p).findIdx? (fun n => decide (n.around = a) && decide (n.r.name = name)) = some v := by
 cases hf : (nodesOf p).findIdx? (fun n => decide (n.around = a) && decide (n.r.name = name)) with
 | none =>
  rw [List.findIdx?_eq_none_iff] at hf
  have := hf m (List.mem_of_getElem? h1)
  simp [h2, h3] at this
 | some w =>
  have hw := List.findIdx?_eq_some_iff_getElem.1 hf
  obtain ⟨hlt, hp, _⟩ := hw
  simp only [Bool.and_eq_true, decide_eq_true_eq] at hp
  congr 1
  exact node_one ht (List.getElem?_eq_getElem hlt) h1 (by rw [hp.1, h3]) (by rw [hp.2, h2])
theorem callee_none {p : List Routine} {name : ByteArray} {a : Nat} {n : CN} (hn : (nodesOf p)[a]? = some n) (hk : lookN name n.inner = none) : (nodesOf p).findIdx? (fun n => decide (n.around = (a : Int)) && decide (n.r.name = name)) = none := by
 rw [List.findIdx?_eq_none_iff]
 intro m hm
 obtain ⟨w, hw⟩ := List.getElem?_of_mem hm
 refine Decidable.byContradiction fun hh => ?_
 have : m.around = (a : Int) ∧ m.r.name = name := by simpa using hh
 rcases capL_parent _ p (Nat.lt_succ_self _) 0 p (-1) noBytes w m hw with ⟨h1, _⟩ | ⟨s, x, h1, h2, h3, _⟩
 ·omega
 ·have : s = a := by omega
  subst this
  change (nodesOf p)[s]? = some x at h1
  rw [hn] at h1; cases h1
  refine lookN_some (name := name) n.r.inner (s + 1) [] (.inl ?_) (by rw [← (node_inner hn).1]; exact hk)
  exact List.mem_map.2 ⟨m.r, h3, by rw [‹m.around = (s : Int) ∧ m.r.name = name›.2]⟩
end Pg
