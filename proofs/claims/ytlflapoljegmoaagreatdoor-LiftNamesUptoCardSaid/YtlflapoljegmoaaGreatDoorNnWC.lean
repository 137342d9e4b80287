import Derived.Test.YtlflapoljegmoaaGreatDoorCount2JC
import Derived.Test.YtlflapoljegmoaaGreatDoorRnC
import Derived.Test.YtlflapoljegmoaaGreatDoorWeighJC
set_option linter.unusedSimpArgs false
set_option linter.unusedVariables false
set_option maxHeartbeats 4000000
set_option maxRecDepth 4000
namespace Pg
open Go
def partsAt (s : ByteArray) : List UInt8 → Nat → Nat → List ByteArray
 | [], a, i => [s.extract a i]
 | c :: r, a, i => if c.toNat = 36 then s.extract a i :: partsAt s r (i + 1) (i + 1) else partsAt s r a (i + 1)
def parts (s : ByteArray) : List ByteArray := partsAt s (bytes s) 0 0
mutual
def nmE : Expr → List ByteArray
 | ⟨op, n, name, field, l⟩ => parts name ++ parts field ++ nmEs l
def nmEs : List Expr → List ByteArray
 | [] => []
 | x :: r => nmE x ++ nmEs r
end
mutual
def nmS : Stmt → List ByteArray
 | ⟨before, trail, op, name, p, e, down, more, body, els, end1, end2⟩ => parts name ++ nmE p ++ nmEs e ++ nmSs body ++ nmSs els
def nmSs : List Stmt → List ByteArray
 | [] => []
 | x :: r => nmS x ++ nmSs r
end
def nmVar (v : Var) : List ByteArray := parts v.name ++ parts v.t.name
def nmVars (l : List Var) : List ByteArray := l.flatMap nmVar
def nmParam (p : Param) : List ByteArray := parts p.name ++ parts p.t.name
def nmParams (l : List Param) : List ByteArray := l.flatMap nmParam
mutual
def nmR : Routine → List ByteArray
 | ⟨before, trail, name, result, params, vars, inner, body, endd⟩ => parts name ++ nmParams params ++ nmVars vars ++ nmRs inner ++ nmSs body
def nmRs : List Routine → List ByteArray
 | [] => []
 | x :: r => nmR x ++ nmRs r
end
def nmFlds (l : List Fld) : List ByteArray := l.flatMap fun f => parts f.name
def nmRec (r : Rec) : List ByteArray := parts r.name ++ nmFlds r.fields
def nmRecs (l : List Rec) : List ByteArray := l.flatMap nmRec
def nmP (p : Prg) : List ByteArray := parts p.name ++ nmRecs p.recs ++ nmVars p.vars ++ nmRs p.routines ++ nmSs p.body
def once : List ByteArray → List ByteArray → List ByteArray
 | out, [] => out
 | out, x :: r => if x = noBytes then once out r else if among x out then once out r else once (out ++ [x]) r
def names (p : Prg) : List ByteArray := once [] (nmP p)
theorem nmE_eq (x : Expr) : nmE x = parts x.name ++ parts x.field ++ nmEs x.l := by obtain ⟨op, n, name, field, l⟩ := x; rw [nmE]
theorem nmS_eq (x : Stmt) : nmS x = parts x.name ++ nmE x.p ++ nmEs x.e ++ nmSs x.body ++ nmSs x.els := by
 obtain ⟨before, trail, op, name, p, e, down, more, body, els, end1, end2⟩ := x; rw [nmS]
theorem nmR_eq (x : Routine) : nmR x = parts x.name ++ nmParams x.params ++ nmVars x.vars ++ nmRs x.inner ++ nmSs x.body := by
 obtain ⟨before, trail, name, result, params, vars, inner, body, endd⟩ := x; rw [nmR]
theorem nmEs_map : ∀ l, nmEs l = l.flatMap nmE
 | [] => rfl
 | x :: r => by simp [nmEs, nmEs_map r]
theorem nmSs_map : ∀ l, nmSs l = l.flatMap nmS
 | [] => rfl
 | x :: r => by simp [nmSs, nmSs_map r]
theorem nmRs_map : ∀ l, nmRs l = l.flatMap nmR
 | [] => rfl
 | x :: r => by simp [nmRs, nmRs_map r]
theorem among_iff (s : ByteArray) (l : List ByteArray) : among s l = true ↔ s ∈ l := by
 unfold among
 rw [List.any_eq_true]
 constructor
 ·rintro ⟨x, hx, h⟩; simp only [decide_eq_true_eq] at h; subst h; exact hx
 ·exact fun h => ⟨s, h, by simp⟩
theorem once_mem : ∀ (l out : List ByteArray) (s : ByteArray), s ∈ once out l ↔ s ∈ out ∨ (s ∈ l ∧ s ≠ noBytes)
 | [], out, s => by simp [once]
 | x :: r, out, s => by
  simp only [once]
  split
  ·rename_i hx; subst hx
   rw [once_mem r out s]
   constructor
   ·rintro (h | ⟨h1, h2⟩)
    ·exact .inl h
    ·exact .inr ⟨by simp [h1], h2⟩
   ·rintro (h | ⟨h1, h2⟩)
    ·exact .inl h
    ·rcases List.mem_cons.1 h1 with h | h
     ·exact absurd h h2
     ·exact .inr ⟨h, h2⟩
  ·rename_i hx
   split
   ·rename_i ha
    rw [among_iff] at ha
    rw [once_mem r out s]
    constructor
    ·rintro (h | ⟨h1, h2⟩)
     ·exact .inl h
     ·exact .inr ⟨by simp [h1], h2⟩
    ·rintro (h | ⟨h1, h2⟩)
     ·exact .inl h
     ·rcases List.mem_cons.1 h1 with h | h
      ·subst h; exact .inl ha
      ·exact .inr ⟨h, h2⟩
   ·rw [once_mem r (out ++ [x]) s]
    simp only [List.mem_append, List.mem_cons, List.not_mem_nil, or_false]
    constructor
    ·rintro ((h | h) | ⟨h1, h2⟩)
     ·exact .inl h
     ·subst h; exact .inr ⟨.inl rfl, hx⟩
     ·exact .inr ⟨.inr h1, h2⟩
    ·rintro (h | ⟨h1 | h1, h2⟩)
     ·exact .inl (.inl h)
     ·exact .inl (.inr h1)
     ·exact .inr ⟨h1, h2⟩
theorem once_len : ∀ (l out : List ByteArray), (once out l).length ≤ out.length + l.length
 | [], out => by simp [once]
 | x :: r, out => by
  simp only [once]
  split
  ·have := once_len r out; simp; omega
  ·split
   ·have := once_len r out; simp; omega
   ·have := once_len r (out ++ [x]); simp at this ⊢; omega
theorem once_nodup : ∀ (l out : List ByteArray), out.Nodup → (once out l).Nodup
 | [], out, h => by simpa [once] using h
 | x :: r, out, h => by
  simp only [once]
  split
  ·exact once_nodup r out h
  ·split
   ·exact once_nodup r out h
   ·rename_i ha
    have hx : ¬ x ∈ out := fun hm => ha ((among_iff x out).2 hm)
    refine once_nodup r _ (List.nodup_append.2 ⟨h, by simp, ?_⟩)
    intro a ha' b hb hab
    simp only [List.mem_singleton] at hb
    subst hb hab; exact hx ha'
def plain (s : ByteArray) : Prop := ∀ c ∈ bytes s, c.toNat ≠ 36
theorem partsAt_plain (s : ByteArray) : ∀ (l : List UInt8) (a i : Nat), (∀ c ∈ l, c.toNat ≠ 36) → partsAt s l a i = [s.extract a (i + l.length)]
 | [], a, i, h => by simp [partsAt]
 | c :: r, a, i, h => by
  simp only [partsAt]
  rw [if_neg (h c (by simp)), partsAt_plain s r a (i + 1) (fun d hd => h d (by simp [hd]))]
  congr 2; simp; omega
theorem parts_plain {s : ByteArray} (h : plain s) : parts s = [s] := by
 unfold parts
 rw [partsAt_plain s _ 0 0 h]
 congr 1
 have : 0 + (bytes s).length = s.size := by unfold bytes; rw [Array.length_toList, Nat.zero_add]; rfl
 rw [this]
 simp
theorem letters_plain : ∀ (l : List UInt8) (f : Bool), letters f l = true → ∀ c ∈ l, c.toNat ≠ 36
 | [], f, h => by simp
 | c :: r, f, h => by
  simp only [letters, Bool.and_eq_true] at h
  intro d hd
  rcases List.mem_cons.1 hd with rfl | hd
  ·intro he
   have := h.1
   rw [he] at this
   simp [letter] at this
  ·exact letters_plain r false h.2 d hd
theorem plain_none : plain noBytes := by intro c hc; simp [bytes, noBytes] at hc
theorem tName_plain {s : ByteArray} (h : tName s = true) : plain s := by
 simp only [tName, Bool.and_eq_true, decide_eq_true_eq] at h
 have h1 := h.1
 unfold nameCode at h1
 by_cases h0 : s = noBytes
 ·rw [h0]; exact plain_none
 ·rw [if_neg h0] at h1
  by_cases hl : letters true (bytes s) = true
  ·exact letters_plain _ _ hl
  ·rw [if_neg hl] at h1; simp at h1
end Pg
namespace Pg
open Go
section
variable {S : ByteArray → Prop} (hS : ∀ s, tName s = true → S s) (h0 : S noBytes)
include hS h0
theorem form_in : ∀ (n : Nat) (x : Expr), form n x = true → inE S x
 | 0, x, h => by simp [form] at h
 | n + 1, ⟨op, k, name, field, l⟩, h => by
  simp only [form, partsOk, Bool.and_eq_true] at h
  obtain ⟨⟨_, ⟨⟨_, h1⟩, h2⟩, _⟩, h3⟩ := h
  have hl : ∀ l, forms n l = true → inEs S l := by
   intro l
   induction l with
   | nil => intro _; trivial
   | cons y r ih =>
    intro hf
    simp only [forms, Bool.and_eq_true] at hf
    exact ⟨form_in n y hf.1.2, ih hf.2⟩
  refine ⟨?_, ?_, hl l h3⟩
  ·split at h1
   ·exact hS _ h1
   ·simp only [decide_eq_true_eq] at h1; rw [h1]; exact h0
  ·split at h2
   ·exact hS _ h2
   ·simp only [decide_eq_true_eq] at h2; rw [h2]; exact h0
theorem tExpr_in {x : Expr} (h : tExpr x = true) : inE S x := by
 simp only [tExpr, Bool.and_eq_true] at h
 exact form_in hS h0 _ x h.1
theorem tTyp_in {t : Typ} (h : tTyp t = true) : S t.name := by
 unfold tTyp at h
 split at h
 ·simp only [Bool.and_eq_true] at h; exact hS _ h.2
 ·simp only [Bool.and_eq_true, decide_eq_true_eq] at h; rw [h.2]; exact h0
omit hS h0 in
theorem inEs_of : ∀ {l : List Expr}, (∀ x ∈ l, inE S x) → inEs S l
 | [], _ => trivial
 | x :: r, h => ⟨h x (by simp), inEs_of fun y hy => h y (by simp [hy])⟩
theorem tStmt1_in [GI] {x : Stmt} (h : tStmt1 x = true) : S x.name ∧ inE S x.p ∧ inEs S x.e := by
 simp only [tStmt1, Bool.and_eq_true] at h
 obtain ⟨⟨⟨⟨⟨⟨h1, h2⟩, h3⟩, h4⟩, h5⟩, h6⟩, h7⟩ := h
 refine ⟨?_, ?_, inEs_of fun y hy => ?_⟩
 ·unfold sName at h5
  split at h5
  ·exact hS _ h5
  ·simp only [Bool.and_eq_true, decide_eq_true_eq] at h5; rw [h5.1]; exact h0
 ·unfold sPlace at h4
  split at h4
  ·simp only [tPlace, Bool.and_eq_true] at h4; exact tExpr_in hS h0 h4.2
  ·simp only [tNone, Bool.and_eq_true, decide_eq_true_eq] at h4
   obtain ⟨⟨⟨⟨_, _⟩, a⟩, b⟩, c⟩ := h4
   rw [inE_eq, a, b, List.eq_nil_of_length_eq_zero c]
   exact ⟨h0, h0, trivial⟩
 ·have := List.all_eq_true.1 h3 y hy
  simp only [sExpr, Bool.and_eq_true] at this
  exact tExpr_in hS h0 this.1
theorem tStmts_in [GI] : ∀ (n : Nat) (l : List Stmt), Stmts.sz l ≤ n → ∀ d, tStmts l d = true → inSs S l
 | n, [], hn, d, h => trivial
 | 0, x :: r, hn, d, h => by simp [Stmts.sz] at hn
 | n + 1, x :: r, hn, d, h => by
  have h1 := Stmt.sz_eq x
  have h2 : Stmts.sz (x :: r) = 1 + x.sz + Stmts.sz r := by simp only [Stmts.sz]
  simp only [tStmts, Bool.and_eq_true] at h
  refine ⟨?_, tStmts_in n r (by omega) d h.2⟩
  obtain ⟨before, trail, op, name, p, e, down, more, body, els, end1, end2⟩ := x
  have hh := h.1
  simp only [tStmt, Bool.and_eq_true] at hh
  obtain ⟨⟨⟨_, a⟩, b, _⟩, c, _⟩ := hh
  obtain ⟨p1, p2, p3⟩ := tStmt1_in hS h0 a
  exact ⟨p1, p2, p3, tStmts_in n body (by simp only at h1; omega) _ b, tStmts_in n els (by simp only at h1; omega) _ c⟩
theorem tVars_in {l : List Var} (h : tVars l = true) : ∀ v ∈ l, inVar S v := by
 simp only [tVars, Bool.and_eq_true] at h
 intro v hv
 have := List.all_eq_true.1 h.1 v hv
 simp only [tVar, Bool.and_eq_true] at this
 exact ⟨hS _ this.1.2, tTyp_in hS h0 this.2⟩
theorem tParams_in {l : List Param} (h : tParams l = true) : ∀ v ∈ l, inParam S v := by
 simp only [tParams, Bool.and_eq_true] at h
 intro v hv
 have := List.all_eq_true.1 h.1 v hv
 simp only [tParam, Bool.and_eq_true] at this
 exact ⟨hS _ this.1.1.1.1, tTyp_in hS h0 this.1.1.1.2⟩
theorem tRoutines_in [GI] : ∀ (n : Nat) (l : List Routine), Routines.sz l ≤ n → ∀ a d, tRoutines a l d = true → inRs S l
 | n, [], hn, a, d, h => trivial
 | 0, x :: r, hn, a, d, h => by simp [Routines.sz] at hn
 | n + 1, x :: r, hn, a, d, h => by
  have h1 := Routine.sz_eq x
  have h2 : Routines.sz (x :: r) = 1 + x.sz + Routines.sz r := by simp only [Routines.sz]
  simp only [tRoutines, Bool.and_eq_true] at h
  refine ⟨?_, tRoutines_in n r (by omega) _ d h.2⟩
  obtain ⟨before, trail, name, result, params, vars, inner, body, endd⟩ := x
  have hh := h.1
  simp only [tRoutine, Bool.and_eq_true] at hh
  obtain ⟨⟨⟨⟨⟨⟨⟨⟨⟨⟨_, _⟩, _⟩, q1⟩, _⟩, _⟩, _⟩, q2⟩, q3⟩, q4, _⟩, q5, _⟩ := hh
  exact ⟨hS _ q1, tParams_in hS h0 q2, tVars_in hS h0 q3, tRoutines_in n inner (by simp only at h1; omega) _ _ q4, tStmts_in hS h0 _ body (Nat.le_refl _) _ q5⟩
theorem tPrg_in [GI] {p : Prg} (h : tPrg p = true) : inP S p := by
 simp only [tPrg, Bool.and_eq_true] at h
 obtain ⟨⟨⟨⟨⟨⟨⟨⟨⟨q1, _⟩, _⟩, _⟩, _⟩, _⟩, q2⟩, q3⟩, q4, _⟩, q5, _⟩ := h
 refine ⟨hS _ q1, ?_, tVars_in hS h0 q3, tRoutines_in hS h0 _ _ (Nat.le_refl _) _ _ q4, tStmts_in hS h0 _ _ (Nat.le_refl _) _ q5⟩
 intro r hr
 have := List.all_eq_true.1 q2 r hr
 simp only [tRec, Bool.and_eq_true] at this
 obtain ⟨⟨⟨⟨⟨_, _⟩, a⟩, _⟩, _⟩, b⟩ := this
 refine ⟨hS _ a, fun f hf => ?_⟩
 have := List.all_eq_true.1 b f hf
 simp only [tFld, Bool.and_eq_true] at this
 exact hS _ this.1.1.2
end
theorem tPrg_plain [GI] {p : Prg} (h : tPrg p = true) : inP plain p := tPrg_in (fun _ => tName_plain) plain_none h
section
variable {S : ByteArray → Prop}
end
theorem parts_one {s : ByteArray} (h : plain s) : (parts s).length = 1 := by rw [parts_plain h]; rfl
theorem nmE_len : ∀ (n : Nat) (x : Expr), x.sz ≤ n → inE plain x → (nmE x).length ≤ wE x
 | 0, x, hn, h => by rw [Expr.sz_eq] at hn; omega
 | n + 1, x, hn, h => by
  obtain ⟨a, b, c⟩ := (inE_eq plain x).1 h
  have hz := Expr.sz_eq x
  have hl : ∀ l : List Expr, Exprs.sz l ≤ n → inEs plain l → (nmEs l).length ≤ wEs l := by
   intro l
   induction l with
   | nil => intro _ _; simp [nmEs, wEs]
   | cons y r ih =>
    intro hs hp
    have e : Exprs.sz (y :: r) = 1 + y.sz + Exprs.sz r := by simp only [Exprs.sz]
    simp only [inEs] at hp
    have i1 := nmE_len n y (by omega) hp.1
    have i2 := ih (by omega) hp.2
    simp only [nmEs, wEs, List.length_append]; omega
  have := hl x.l (by omega) c
  rw [nmE_eq, wE_eq]
  simp only [List.length_append, parts_one a, parts_one b]; omega
theorem nmEs_len : ∀ (l : List Expr), inEs plain l → (nmEs l).length ≤ wEs l
 | [], _ => by simp [nmEs, wEs]
 | y :: r, hp => by
  simp only [inEs] at hp
  have i1 := nmE_len _ y (Nat.le_refl _) hp.1
  have i2 := nmEs_len r hp.2
  simp only [nmEs, wEs, List.length_append]; omega
theorem nmSs_len : ∀ (n : Nat) (l : List Stmt), Stmts.sz l ≤ n → inSs plain l → (nmSs l).length ≤ wSs l
 | n, [], hn, h => by simp [nmSs, wSs]
 | 0, x :: r, hn, h => by simp [Stmts.sz] at hn
 | n + 1, x :: r, hn, h => by
  have h1 := Stmt.sz_eq x
  have h2 : Stmts.sz (x :: r) = 1 + x.sz + Stmts.sz r := by simp only [Stmts.sz]
  simp only [inSs] at h
  obtain ⟨a, b, c, d, e⟩ := (inS_eq plain x).1 h.1
  have i1 := nmE_len _ x.p (Nat.le_refl _) b
  have i2 := nmEs_len x.e c
  have i3 := nmSs_len n x.body (by omega) d
  have i4 := nmSs_len n x.els (by omega) e
  have i5 := nmSs_len n r (by omega) h.2
  simp only [nmSs, wSs, nmS_eq, wS_eq, List.length_append, parts_one a]; omega
theorem nmVars_len : ∀ {l : List Var}, (∀ v ∈ l, inVar plain v) → (nmVars l).length ≤ 2 * l.length
 | [], _ => by simp [nmVars]
 | v :: r, h => by
  have hv := h v (by simp)
  have := nmVars_len (l := r) fun w hw => h w (by simp [hw])
  simp only [nmVars, List.flatMap_cons, List.length_append, nmVar, parts_one hv.1, parts_one hv.2, List.length_cons] at this ⊢; omega
theorem nmParams_len : ∀ {l : List Param}, (∀ v ∈ l, inParam plain v) → (nmParams l).length ≤ 2 * l.length
 | [], _ => by simp [nmParams]
 | v :: r, h => by
  have hv := h v (by simp)
  have := nmParams_len (l := r) fun w hw => h w (by simp [hw])
  simp only [nmParams, List.flatMap_cons, List.length_append, nmParam, parts_one hv.1, parts_one hv.2, List.length_cons] at this ⊢; omega
theorem nmFlds_len : ∀ {l : List Fld}, (∀ v ∈ l, plain v.name) → (nmFlds l).length ≤ l.length
 | [], _ => by simp [nmFlds]
 | v :: r, h => by
  have hv := h v (by simp)
  have := nmFlds_len (l := r) fun w hw => h w (by simp [hw])
  simp only [nmFlds, List.flatMap_cons, List.length_append, parts_one hv, List.length_cons] at this ⊢; omega
theorem nmRecs_len : ∀ {l : List Rec}, (∀ v ∈ l, inRec plain v) → (nmRecs l).length ≤ wRecs l
 | [], _ => by simp [nmRecs, wRecs]
 | v :: r, h => by
  have hv := h v (by simp)
  have := nmRecs_len (l := r) fun w hw => h w (by simp [hw])
  have a := nmFlds_len hv.2
  simp only [nmRecs, List.flatMap_cons, List.length_append, nmRec, parts_one hv.1, wRecs, List.map_cons, List.sum_cons, wRec] at this ⊢; omega
theorem nmRs_len : ∀ (n : Nat) (l : List Routine), Routines.sz l ≤ n → inRs plain l → (nmRs l).length ≤ wRs l
 | n, [], hn, h => by simp [nmRs, wRs]
 | 0, x :: r, hn, h => by simp [Routines.sz] at hn
 | n + 1, x :: r, hn, h => by
  have h1 := Routine.sz_eq x
  have h2 : Routines.sz (x :: r) = 1 + x.sz + Routines.sz r := by simp only [Routines.sz]
  simp only [inRs] at h
  obtain ⟨a, b, c, d, e⟩ := (inR_eq plain x).1 h.1
  have i1 := nmParams_len b
  have i2 := nmVars_len c
  have i3 := nmRs_len n x.inner (by omega) d
  have i4 := nmSs_len _ x.body (Nat.le_refl _) e
  have i5 := nmRs_len n r (by omega) h.2
  simp only [nmRs, wRs, nmR_eq, wR_eq, List.length_append, parts_one a]; omega
theorem nmP_len {p : Prg} (h : inP plain p) : (nmP p).length ≤ wP p := by
 have i1 := nmRecs_len h.recs
 have i2 := nmVars_len h.vars
 have i3 := nmRs_len _ _ (Nat.le_refl _) h.routines
 have i4 := nmSs_len _ _ (Nat.le_refl _) h.body
 simp only [nmP, wP, List.length_append, parts_one h.name]; omega
end Pg
