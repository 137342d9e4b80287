import Derived.Test.YtpebidcmkjjpnaaTreeS
import Derived.Test.YtpebidcmkjjpnaaCodeC
import Derived.Test.YtpebidcmkjjpnaaNmW
import Derived.Test.YtpebidcmkjjpnaaNnW
set_option linter.unusedSimpArgs false
set_option linter.unusedVariables false
set_option maxHeartbeats 4000000
set_option maxRecDepth 4000
namespace Pg
open Go

/-! ### Lists of texts that grow -/
abbrev txt (l : List ByteArray) : List (List AV) := l.map fun s => [.str s]
theorem txt_one (l : List ByteArray) : ∀ e ∈ txt l, e.length = 1 := by
  intro e he; obtain ⟨s, _, rfl⟩ := List.mem_map.1 he; rfl
theorem txt_flat (l : List ByteArray) : (txt l).flatten = l.map fun s => AV.str s := by
  induction l with
  | nil => rfl
  | cons x r ih => simp [ih]
theorem GL.txts {ty : TypeId} {h0 h : AHeap} {v : AV} {l m : List ByteArray} (g : GL ty 1 h0 h v (txt l)) (room : l.length + m.length ≤ 2199023255552) {K : AV → AHeap → Tok → Prop} (k : ∀ v' h', GL ty 1 h0 h' v' (txt (l ++ m)) → K v' h' .go) :
    (∀ e ∈ txt m, e.length = 1) ∧ appendT .go h ty 1 16 v m.length (txt m).flatten K := by
  refine ⟨txt_one m, g.append (new := txt m) (by simp) rfl (txt_one m) ?_ fun v' h' G => k v' h' ?_⟩
  · unfold roomFor; simp; omega
  · rw [← List.map_append] at G; exact G
theorem GL.txt1 {ty : TypeId} {h0 h : AHeap} {v : AV} {l : List ByteArray} (g : GL ty 1 h0 h v (txt l)) {s : ByteArray} (room : l.length + 1 ≤ 2199023255552) {K : AV → AHeap → Tok → Prop} (k : ∀ v' h', GL ty 1 h0 h' v' (txt (l ++ [s])) → K v' h' .go) :
    appendT .go h ty 1 16 v 1 [.str s] K := (g.txts (m := [s]) room k).2
theorem aslice_str {s : ByteArray} {a b : Nat} (h1 : a ≤ b) (h2 : b ≤ s.size) : aslice true 0 (.str s) (some (.int .i64 (a : Int))) (some (.int .i64 (b : Int))) = some (.str (s.extract a b)) := by
  simp only [aslice, abound]
  rw [if_pos (Int.natCast_nonneg b), if_pos (Int.natCast_nonneg a)]
  simp only [Int.toNat_natCast]
  rw [if_pos ⟨h1, h2⟩]

/-! ### Parts -/
def ptail (s : ByteArray) : List (Option UInt8) → Nat → Nat → List ByteArray
  | [], _, _ => []
  | none :: r, a, i => s.extract a i :: ptail s r (i + 1) (i + 1)
  | some c :: r, a, i => if c.toNat = 36 then s.extract a i :: ptail s r (i + 1) (i + 1) else ptail s r a (i + 1)
theorem ptail_eq (s : ByteArray) : ∀ (l : List UInt8) (a i : Nat), ptail s (l.map some ++ [none]) a i = partsAt s l a i
  | [], a, i => rfl
  | c :: r, a, i => by
    simp only [List.map_cons, List.cons_append, ptail, partsAt]
    rw [ptail_eq s r, ptail_eq s r]
theorem ptail_len (s : ByteArray) : ∀ (l : List (Option UInt8)) (a i : Nat), (ptail s l a i).length ≤ l.length
  | [], a, i => by simp [ptail]
  | none :: r, a, i => by have := ptail_len s r (i + 1) (i + 1); simp only [ptail, List.length_cons]; omega
  | some c :: r, a, i => by
    simp only [ptail]
    split
    · have := ptail_len s r (i + 1) (i + 1); simp only [List.length_cons]; omega
    · have := ptail_len s r a (i + 1); simp only [List.length_cons]; omega
def small (s : ByteArray) : Prop := s.size ≤ 1099511627776
theorem Parts_gl (h : AHeap) (s : ByteArray) (hs : small s) : ACalls Go.Proofs.Try.prog 36 [.str s] h (fun v g => GL 9 1 h g v (txt (parts s))) := by
  unfold small at hs
  refine F36.calls (by simp) ?_
  delta F36.c0 F36.c1 F36.c2 F36.c3 F36.c15 F36.r9 F36.c4 F36.c5 F36.c6 F36.c7 F36.c10 F36.r8 F36.c11 F36.c12 F36.c13 F36.c14 F36.r7 F36.r6 F36.r5 F36.c8 F36.c9 F36.r4 F36.r3 F36.r2 F36.r1 F36.r0
  simp -implicitDefEqProofs only [↓pgPre,go_sem,↓reduceIte,reduceCtorEq,seval]
  have hlen : ((bytes s).map some ++ [none]).length = s.size + 1 := by simp [bytes_len]
  have hpl : (parts s).length ≤ s.size + 1 := by
    have := ptail_len s ((bytes s).map some ++ [none]) 0 0
    rw [ptail_eq] at this; rw [hlen] at this; exact this
  have hfew : few ((bytes s).map some ++ [none]) := by unfold few; rw [hlen]; omega
  refine lT_list ((bytes s).map some ++ [none]) (fun pre post e g => ∃ (a : Nat) (v : AV) (done : List ByteArray), GL 9 1 h g v (txt done) ∧ parts s = done ++ ptail s post a pre.length ∧ a ≤ pre.length ∧ e = [(0, .str s), (3, v), (4, .int .i64 (a : Int)), (5, .int .i64 pre.length)]) (WeakE.env ?_) ⟨0, .sl [] true, [], .nil h, ?_, Nat.le_refl _, rfl⟩ ?_ ?_
  · skip
    repeat' (first | exact EnvLe.nil _ | refine EnvLe.cons ?_ ?_)
    all_goals (simp -implicitDefEqProofs only [↓pgPre,go_sem,↓reduceIte,reduceCtorEq,seval]; try first | exact AVle.refl _ | exact AVle.sl _ _ | exact AVle.gs _ _ _ | assumption)
  · show parts s = [] ++ ptail s ((bytes s).map some ++ [none]) 0 0
    rw [ptail_eq]; rfl
  · rintro pre x post e g hp ⟨a, v, done, G, hd, ha, rfl⟩
    have hl := (at_pre hp).2
    rw [hlen] at hl
    have hle : ((pre.length : Int) ≤ (s.size : Int)) = True := by simp; omega
    have hdl : done.length ≤ s.size + 1 := by rw [hd, List.length_append] at hpl; omega
    have hst := step_at hfew hp
    have hnx : (pre ++ [x]).length = pre.length + 1 := by simp
    rw [hnx] at hst
    cases x with
    | none =>
      have hpost : post = [] := by
        cases post with
        | nil => rfl
        | cons y r =>
          have hl2 : ((bytes s).map some ++ [none])[pre.length]? = some none := (at_pre hp).1
          rw [List.getElem?_append] at hl2
          split at hl2
          · simp at hl2
          · rename_i hge
            have := congrArg List.length hp
            rw [hlen] at this
            simp [bytes_len] at this hge
            omega
      have hi : pre.length = s.size := by
        have := congrArg List.length hp
        rw [hlen, hpost] at this; simp at this; omega
      have heq : ((pre.length : Int) = (s.size : Int)) = True := by simp [hi]
      simp -implicitDefEqProofs only [↓pgPre,go_sem,↓reduceIte,reduceCtorEq,seval, hle, heq, aslice_str ha (by omega : pre.length ≤ s.size)]
      refine G.txt1 (by omega) (fun v' g' G' => ?_)
      simp -implicitDefEqProofs only [↓pgPre,go_sem,↓reduceIte,reduceCtorEq,seval]
      refine ⟨_, _, WeakE.env ?_, pre.length + 1, v', done ++ [s.extract a pre.length], G', ?_, by simp, rfl⟩
      · skip
        repeat' (first | exact EnvLe.nil _ | refine EnvLe.cons ?_ ?_)
        all_goals (simp -implicitDefEqProofs only [↓pgPre,go_sem,↓reduceIte,reduceCtorEq,seval, hst, hnx]; try first | exact AVle.refl _ | exact AVle.sl _ _ | exact AVle.gs _ _ _ | assumption)
      · rw [hd, hpost]; simp [ptail]
    | some c =>
      have hc : (bytes s)[pre.length]? = some c := by
        have hl2 : ((bytes s).map some ++ [none])[pre.length]? = some (some c) := (at_pre hp).1
        rw [List.getElem?_append] at hl2
        split at hl2
        · simpa using hl2
        · rename_i hge
          have : pre.length - ((bytes s).map some).length = 0 := by simp [bytes_len] at hge ⊢; omega
          rw [this] at hl2; simp at hl2
      have hlt : pre.length < s.size := by
        rw [← bytes_len]
        rcases Nat.lt_or_ge pre.length (bytes s).length with h | h
        · exact h
        · rw [List.getElem?_eq_none h] at hc; cases hc
      have heq : ((pre.length : Int) = (s.size : Int)) = False := by simp; omega
      have hsp : bytes s = (bytes s).take pre.length ++ c :: (bytes s).drop (pre.length + 1) := by
        have hb : pre.length < (bytes s).length := by rw [bytes_len]; exact hlt
        have e := List.take_append_drop pre.length (bytes s)
        rw [List.drop_eq_getElem_cons hb] at e
        have : (bytes s)[pre.length] = c := by
          rw [List.getElem?_eq_getElem hb] at hc
          simpa using hc
        rw [this] at e
        exact e.symm
      have hsix := six_at hsp
      rw [List.length_take, bytes_len, Nat.min_eq_left (Nat.le_of_lt hlt)] at hsix
      by_cases h36 : c.toNat = 36
      · have h36' : ((c.toNat : Int) = 36) = True := by simp; omega
        simp -implicitDefEqProofs only [↓pgPre,go_sem,↓reduceIte,reduceCtorEq,seval, hle, heq, hsix, h36', aslice_str ha (by omega : pre.length ≤ s.size)]
        refine G.txt1 (by omega) (fun v' g' G' => ?_)
        simp -implicitDefEqProofs only [↓pgPre,go_sem,↓reduceIte,reduceCtorEq,seval]
        refine ⟨_, _, WeakE.env ?_, pre.length + 1, v', done ++ [s.extract a pre.length], G', ?_, by simp, rfl⟩
        · skip
          repeat' (first | exact EnvLe.nil _ | refine EnvLe.cons ?_ ?_)
          all_goals (simp -implicitDefEqProofs only [↓pgPre,go_sem,↓reduceIte,reduceCtorEq,seval, hst, hnx]; try first | exact AVle.refl _ | exact AVle.sl _ _ | exact AVle.gs _ _ _ | assumption)
        · rw [hd]; simp [ptail, h36]
      · have h36' : ((c.toNat : Int) = 36) = False := by simp; omega
        simp -implicitDefEqProofs only [↓pgPre,go_sem,↓reduceIte,reduceCtorEq,seval, hle, heq, hsix, h36']
        refine ⟨_, _, WeakE.env ?_, a, v, done, G, ?_, by simp; omega, rfl⟩
        · skip
          repeat' (first | exact EnvLe.nil _ | refine EnvLe.cons ?_ ?_)
          all_goals (simp -implicitDefEqProofs only [↓pgPre,go_sem,↓reduceIte,reduceCtorEq,seval, hst, hnx]; try first | exact AVle.refl _ | exact AVle.sl _ _ | exact AVle.gs _ _ _ | assumption)
        · rw [hd]; simp [ptail, h36]
  · rintro e g ⟨a, v, done, G, hd, ha, rfl⟩
    have hle : ((((bytes s).map some ++ [none]).length : Int) ≤ (s.size : Int)) = False := by rw [hlen]; simp; omega
    simp -implicitDefEqProofs only [↓pgPre,go_sem,↓reduceIte,reduceCtorEq,seval, hle]
    refine lessQ.same ?_
    simp -implicitDefEqProofs only [↓pgPre,go_sem,↓reduceIte,reduceCtorEq,seval]
    refine .same ?_
    simp only [ptail, List.append_nil] at hd
    rw [hd]; exact G
theorem Parts_spec (h : AHeap) (s : ByteArray) (hs : small s) : ACalls Go.Proofs.Try.prog 36 [.str s] h (fun v g => v = .sl (txt (parts s)) false ∧ g = h) :=
  ACalls.weak ((Parts_gl h s hs).mono fun v g G => G.endW ⟨rfl, rfl⟩)
end Pg
namespace Pg
open Go
theorem nmEs_append : ∀ (l r : List Expr), nmEs (l ++ r) = nmEs l ++ nmEs r := fun l r => by simp [nmEs_map]
theorem nmSs_append : ∀ (l r : List Stmt), nmSs (l ++ r) = nmSs l ++ nmSs r := fun l r => by simp [nmSs_map]
theorem nmRs_append : ∀ (l r : List Routine), nmRs (l ++ r) = nmRs l ++ nmRs r := fun l r => by simp [nmRs_map]
theorem nmEs_one (x : Expr) : nmEs [x] = nmE x := by simp [nmEs]
theorem nmSs_one (x : Stmt) : nmSs [x] = nmS x := by simp [nmSs]
theorem nmRs_one (x : Routine) : nmRs [x] = nmR x := by simp [nmRs]
/-- Room for so many names. -/
abbrev roomy (l : List ByteArray) : Prop := l.length ≤ 1099511627776
theorem inEs_mem {S : ByteArray → Prop} : ∀ {l : List Expr}, inEs S l → ∀ x ∈ l, inE S x
  | y :: r, h, x, hx => by
    simp only [inEs] at h
    rcases List.mem_cons.1 hx with rfl | hx
    · exact h.1
    · exact inEs_mem h.2 x hx
theorem inSs_mem {S : ByteArray → Prop} : ∀ {l : List Stmt}, inSs S l → ∀ x ∈ l, inS S x
  | y :: r, h, x, hx => by
    simp only [inSs] at h
    rcases List.mem_cons.1 hx with rfl | hx
    · exact h.1
    · exact inSs_mem h.2 x hx
theorem inRs_mem {S : ByteArray → Prop} : ∀ {l : List Routine}, inRs S l → ∀ x ∈ l, inR S x
  | y :: r, h, x, hx => by
    simp only [inRs] at h
    rcases List.mem_cons.1 hx with rfl | hx
    · exact h.1
    · exact inRs_mem h.2 x hx
theorem nmEs_split {l pre post : List Expr} {x : Expr} (h : l = pre ++ x :: post) : (nmEs l).length = (nmEs pre).length + (nmE x).length + (nmEs post).length := by
  subst h; rw [nmEs_append]; simp only [nmEs, List.length_append]; omega
theorem nmSs_split {l pre post : List Stmt} {x : Stmt} (h : l = pre ++ x :: post) : (nmSs l).length = (nmSs pre).length + (nmS x).length + (nmSs post).length := by
  subst h; rw [nmSs_append]; simp only [nmSs, List.length_append]; omega
theorem nmRs_split {l pre post : List Routine} {x : Routine} (h : l = pre ++ x :: post) : (nmRs l).length = (nmRs pre).length + (nmR x).length + (nmRs post).length := by
  subst h; rw [nmRs_append]; simp only [nmRs, List.length_append]; omega
theorem ExprNames_spec : ∀ (n : Nat) (x : Expr), x.sz ≤ n → x.ok → inE small x → roomy (nmE x) → ∀ h : AHeap, ACalls Go.Proofs.Try.prog 71 [.agg (eExpr x)] h (fun v g => v = .sl (txt (nmE x)) false ∧ g = h) := by
  intro n
  induction n with
  | zero => intro x hn; rw [Expr.sz_eq] at hn; omega
  | succ n ih =>
    intro x hn ho hs hr h
    obtain ⟨s1, s2, s3⟩ := (inE_eq small x).1 hs
    obtain ⟨o1, o2⟩ := (Expr.ok_iff x).1 ho
    have hz := Expr.sz_eq x
    have hlen : (nmE x).length = (parts x.name).length + (parts x.field).length + (nmEs x.l).length := by rw [nmE_eq]; simp only [List.length_append]
    unfold roomy at hr
    refine F71.calls (by simp) ?_
    delta F71.c0 F71.c1 F71.c2 F71.c11 F71.r6 F71.c3 F71.c4 F71.c5 F71.c6 F71.c9 F71.r5 F71.c10 F71.r4 F71.c7 F71.c8 F71.r3 F71.r2 F71.r1 F71.r0
    simp -implicitDefEqProofs only [↓pgPre,go_sem,↓reduceIte,reduceCtorEq,seval]
    refine callT_of (Parts_gl h x.name s1) (fun v1 g1 G1 => ?_)
    simp -implicitDefEqProofs only [↓pgPre,go_sem,↓reduceIte,reduceCtorEq,seval]
    refine callT_of (Parts_spec g1 x.field s2) (fun v g ⟨hv, hg⟩ => ?_)
    subst v g
    simp -implicitDefEqProofs only [↓pgPre,go_sem,↓reduceIte,reduceCtorEq,seval]
    refine G1.txts (by omega) (fun v2 g2 G2 => ?_)
    simp -implicitDefEqProofs only [↓pgPre,go_sem,↓reduceIte,reduceCtorEq,seval]
    refine lT_list x.l (fun pre post e g => ∃ v, GL 9 1 h g v (txt (parts x.name ++ parts x.field ++ nmEs pre)) ∧ e = [(1, .ip (eExpr x) 0), (3, v), (4, .int .i64 pre.length)]) (WeakE.env ?_) ⟨v2, by simpa [nmEs] using G2, rfl⟩ ?_ ?_
    · skip
      repeat' (first | exact EnvLe.nil _ | refine EnvLe.cons ?_ ?_)
      all_goals (simp -implicitDefEqProofs only [↓pgPre,go_sem,↓reduceIte,reduceCtorEq,seval]; try first | exact AVle.refl _ | exact AVle.sl _ _ | exact AVle.gs _ _ _ | assumption)
    · rintro pre y post e g hp ⟨v, G, rfl⟩
      have hy := mem_at hp
      have hyz := Exprs.sz_mem hy
      have sp := nmEs_split hp
      simp -implicitDefEqProofs only [↓pgPre,go_sem,↓reduceIte,reduceCtorEq,seval, lt_at hp, aia_sl (map_at hp) (eExpr_len y)]
      refine callT_of (ih y (by omega) (o2 y hy) (inEs_mem s3 y hy) (by unfold roomy; omega) g) (fun v g ⟨hv, hg⟩ => ?_)
      subst v g
      simp -implicitDefEqProofs only [↓pgPre,go_sem,↓reduceIte,reduceCtorEq,seval]
      refine G.txts (by simp only [List.length_append]; omega) (fun v' g' G' => ?_)
      simp -implicitDefEqProofs only [↓pgPre,go_sem,↓reduceIte,reduceCtorEq,seval]
      refine ⟨_, _, WeakE.env ?_, v', ?_, rfl⟩
      · skip
        repeat' (first | exact EnvLe.nil _ | refine EnvLe.cons ?_ ?_)
        all_goals (simp -implicitDefEqProofs only [↓pgPre,go_sem,↓reduceIte,reduceCtorEq,seval, step_at o1 hp]; try first | exact AVle.refl _ | exact AVle.sl _ _ | exact AVle.gs _ _ _ | assumption)
      · rw [nmEs_append, nmEs_one, ← List.append_assoc]; exact G'
    · rintro e g ⟨v, G, rfl⟩
      simp -implicitDefEqProofs only [↓pgPre,go_sem,↓reduceIte,reduceCtorEq,seval, lt_end]
      refine lessQ.same ?_
      simp -implicitDefEqProofs only [↓pgPre,go_sem,↓reduceIte,reduceCtorEq,seval]
      refine G.endW ⟨?_, rfl⟩
      rw [nmE_eq]
theorem varNames_spec (l : List Var) (hl : few l) (hs : ∀ v ∈ l, inVar small v) (hr : roomy (nmVars l)) (full : Bool) (h : AHeap) : ACalls Go.Proofs.Try.prog 37 [.sl (l.map eVar) full] h (fun v g => v = .sl (txt (nmVars l)) false ∧ g = h) := by
  unfold roomy at hr
  refine F37.calls (by simp) ?_
  delta F37.c0 F37.c1 F37.c2 F37.c12 F37.r7 F37.c3 F37.c4 F37.c5 F37.c6 F37.c9 F37.r6 F37.c10 F37.c11 F37.r5 F37.r4 F37.c7 F37.c8 F37.r3 F37.r2 F37.r1 F37.r0
  simp -implicitDefEqProofs only [↓pgPre,go_sem,↓reduceIte,reduceCtorEq,seval]
  refine lT_list l (fun pre post e g => ∃ v, GL 9 1 h g v (txt (nmVars pre)) ∧ e = [(0, .sl (l.map eVar) full), (3, v), (4, .int .i64 pre.length)]) (WeakE.env ?_) ⟨.sl [] true, .nil h, rfl⟩ ?_ ?_
  · skip
    repeat' (first | exact EnvLe.nil _ | refine EnvLe.cons ?_ ?_)
    all_goals (simp -implicitDefEqProofs only [↓pgPre,go_sem,↓reduceIte,reduceCtorEq,seval]; try first | exact AVle.refl _ | exact AVle.sl _ _ | exact AVle.gs _ _ _ | assumption)
  · rintro pre y post e g hp ⟨v, G, rfl⟩
    have hy := hs y (mem_at hp)
    have sp : (nmVars l).length = (nmVars pre).length + ((parts y.name).length + (parts y.t.name).length) + (nmVars post).length := by
      rw [hp]; simp only [nmVars, List.flatMap_append, List.flatMap_cons, List.length_append, nmVar]; omega
    simp -implicitDefEqProofs only [↓pgPre,go_sem,↓reduceIte,reduceCtorEq,seval, lt_at hp, aia_sl (map_at hp) (eVar_len y)]
    refine callT_of (Parts_spec g y.name hy.1) (fun v g ⟨hv, hg⟩ => ?_)
    subst v g
    simp -implicitDefEqProofs only [↓pgPre,go_sem,↓reduceIte,reduceCtorEq,seval]
    refine G.txts (by omega) (fun v1 g1 G1 => ?_)
    simp -implicitDefEqProofs only [↓pgPre,go_sem,↓reduceIte,reduceCtorEq,seval, aia_sl (map_at hp) (eVar_len y)]
    refine callT_of (Parts_spec g1 y.t.name hy.2) (fun v g ⟨hv, hg⟩ => ?_)
    subst v g
    simp -implicitDefEqProofs only [↓pgPre,go_sem,↓reduceIte,reduceCtorEq,seval]
    refine G1.txts (by simp only [List.length_append]; omega) (fun v2 g2 G2 => ?_)
    simp -implicitDefEqProofs only [↓pgPre,go_sem,↓reduceIte,reduceCtorEq,seval]
    refine ⟨_, _, WeakE.env ?_, v2, ?_, rfl⟩
    · skip
      repeat' (first | exact EnvLe.nil _ | refine EnvLe.cons ?_ ?_)
      all_goals (simp -implicitDefEqProofs only [↓pgPre,go_sem,↓reduceIte,reduceCtorEq,seval, step_at hl hp]; try first | exact AVle.refl _ | exact AVle.sl _ _ | exact AVle.gs _ _ _ | assumption)
    · have : nmVars (pre ++ [y]) = nmVars pre ++ parts y.name ++ parts y.t.name := by simp [nmVars, nmVar]
      rw [this]; exact G2
  · rintro e g ⟨v, G, rfl⟩
    simp -implicitDefEqProofs only [↓pgPre,go_sem,↓reduceIte,reduceCtorEq,seval, lt_end]
    refine lessQ.same ?_
    simp -implicitDefEqProofs only [↓pgPre,go_sem,↓reduceIte,reduceCtorEq,seval]
    exact G.endW ⟨rfl, rfl⟩
theorem stmtNames_spec : ∀ (n : Nat) (l : List Stmt), Stmts.sz l ≤ n → few l → (∀ x ∈ l, x.ok) → inSs small l → roomy (nmSs l) → ∀ (full : Bool) (h : AHeap), ACalls Go.Proofs.Try.prog 39 [.sl (l.map eStmt) full] h (fun v g => v = .sl (txt (nmSs l)) false ∧ g = h) := by
  intro n
  induction n with
  | zero =>
    intro l hn hw ho hs hr full h
    cases l with
    | cons x r => simp [Stmts.sz] at hn
    | nil =>
      refine F39.calls (by simp) ?_
      delta F39.c0 F39.c1 F39.c2 F39.c23 F39.r13 F39.c3 F39.c4 F39.c5 F39.c6 F39.c9 F39.r12 F39.c10 F39.c11 F39.c12 F39.c13 F39.c22 F39.r11 F39.r10 F39.c14 F39.c15 F39.c16 F39.c17 F39.c20 F39.r9 F39.c21 F39.r8 F39.c18 F39.c19 F39.r7 F39.r6 F39.r5 F39.r4 F39.c7 F39.c8 F39.r3 F39.r2 F39.r1 F39.r0
      simp -implicitDefEqProofs only [↓pgPre,go_sem,↓reduceIte,reduceCtorEq,seval]
      refine lT_round ?_
      simp -implicitDefEqProofs only [↓pgPre,go_sem,↓reduceIte,reduceCtorEq,seval]
      exact (GL.nil (ty := 9) (size := 1) h).endW ⟨rfl, rfl⟩
  | succ n ih =>
    intro l hn hw ho hs hr full h
    unfold roomy at hr
    refine F39.calls (by simp) ?_
    delta F39.c0 F39.c1 F39.c2 F39.c23 F39.r13 F39.c3 F39.c4 F39.c5 F39.c6 F39.c9 F39.r12 F39.c10 F39.c11 F39.c12 F39.c13 F39.c22 F39.r11 F39.r10 F39.c14 F39.c15 F39.c16 F39.c17 F39.c20 F39.r9 F39.c21 F39.r8 F39.c18 F39.c19 F39.r7 F39.r6 F39.r5 F39.r4 F39.c7 F39.c8 F39.r3 F39.r2 F39.r1 F39.r0
    simp -implicitDefEqProofs only [↓pgPre,go_sem,↓reduceIte,reduceCtorEq,seval]
    refine lT_list l (fun pre post e g => ∃ v, GL 9 1 h g v (txt (nmSs pre)) ∧ e = [(0, .sl (l.map eStmt) full), (3, v), (4, .int .i64 pre.length)]) (WeakE.env ?_) ⟨.sl [] true, .nil h, rfl⟩ ?_ ?_
    · skip
      repeat' (first | exact EnvLe.nil _ | refine EnvLe.cons ?_ ?_)
      all_goals (simp -implicitDefEqProofs only [↓pgPre,go_sem,↓reduceIte,reduceCtorEq,seval]; try first | exact AVle.refl _ | exact AVle.sl _ _ | exact AVle.gs _ _ _ | assumption)
    · rintro pre x post e g hp ⟨v, G, rfl⟩
      have hx := mem_at hp
      have hxz := Stmts.sz_mem hx
      have hz := Stmt.sz_eq x
      have sp := nmSs_split hp
      obtain ⟨i1, i2, i3, i4, i5⟩ := (inS_eq small x).1 (inSs_mem hs x hx)
      have hok := (Stmt.ok_iff x).1 (ho x hx)
      have hlen : (nmS x).length = (parts x.name).length + (nmE x.p).length + (nmEs x.e).length + (nmSs x.body).length + (nmSs x.els).length := by rw [nmS_eq]; simp only [List.length_append]
      simp -implicitDefEqProofs only [↓pgPre,go_sem,↓reduceIte,reduceCtorEq,seval, lt_at hp, aia_sl (map_at hp) (eStmt_len x)]
      refine callT_of (Parts_spec g x.name i1) (fun v g ⟨hv, hg⟩ => ?_)
      subst v g
      simp -implicitDefEqProofs only [↓pgPre,go_sem,↓reduceIte,reduceCtorEq,seval]
      refine G.txts (by omega) (fun v1 g1 G1 => ?_)
      simp -implicitDefEqProofs only [↓pgPre,go_sem,↓reduceIte,reduceCtorEq,seval, aia_sl (map_at hp) (eStmt_len x)]
      refine callT_of (ExprNames_spec _ x.p (Nat.le_refl _) hok.2.2.1 i2 (by unfold roomy; omega) g1) (fun v g ⟨hv, hg⟩ => ?_)
      subst v g
      simp -implicitDefEqProofs only [↓pgPre,go_sem,↓reduceIte,reduceCtorEq,seval]
      refine G1.txts (by simp only [List.length_append]; omega) (fun v2 g2 G2 => ?_)
      simp -implicitDefEqProofs only [↓pgPre,go_sem,↓reduceIte,reduceCtorEq,seval]
      refine lT_list x.e (fun pre' post' e k => ∃ v, GL 9 1 h k v (txt (nmSs pre ++ parts x.name ++ nmE x.p ++ nmEs pre')) ∧ e = [(0, .sl (l.map eStmt) full), (3, v), (4, .int .i64 pre.length), (5, .int .i64 pre'.length)]) (WeakE.env ?_) ⟨v2, by simpa [nmEs] using G2, rfl⟩ ?_ ?_
      · skip
        repeat' (first | exact EnvLe.nil _ | refine EnvLe.cons ?_ ?_)
        all_goals (simp -implicitDefEqProofs only [↓pgPre,go_sem,↓reduceIte,reduceCtorEq,seval]; try first | exact AVle.refl _ | exact AVle.sl _ _ | exact AVle.gs _ _ _ | assumption)
      · rintro pre' y post' e k hp' ⟨v3, G3, rfl⟩
        have hy := mem_at hp'
        have sp' := nmEs_split hp'
        simp -implicitDefEqProofs only [↓pgPre,go_sem,↓reduceIte,reduceCtorEq,seval, lt_at hp', aia_sl (map_at hp) (eStmt_len x), aia_sl (map_at hp') (eExpr_len y)]
        refine callT_of (ExprNames_spec _ y (Nat.le_refl _) (hok.2.2.2.2.1 y hy) (inEs_mem i3 y hy) (by unfold roomy; omega) k) (fun v g ⟨hv, hg⟩ => ?_)
        subst v g
        simp -implicitDefEqProofs only [↓pgPre,go_sem,↓reduceIte,reduceCtorEq,seval]
        refine G3.txts (by simp only [List.length_append]; omega) (fun v4 g4 G4 => ?_)
        simp -implicitDefEqProofs only [↓pgPre,go_sem,↓reduceIte,reduceCtorEq,seval]
        refine ⟨_, _, WeakE.env ?_, v4, ?_, rfl⟩
        · skip
          repeat' (first | exact EnvLe.nil _ | refine EnvLe.cons ?_ ?_)
          all_goals (simp -implicitDefEqProofs only [↓pgPre,go_sem,↓reduceIte,reduceCtorEq,seval, step_at hok.2.2.2.1 hp']; try first | exact AVle.refl _ | exact AVle.sl _ _ | exact AVle.gs _ _ _ | assumption)
        · rw [nmEs_append, nmEs_one, ← List.append_assoc]; exact G4
      · rintro e k ⟨v3, G3, rfl⟩
        simp -implicitDefEqProofs only [↓pgPre,go_sem,↓reduceIte,reduceCtorEq,seval, lt_end, aia_sl (map_at hp) (eStmt_len x)]
        refine lessQ.same ?_
        simp -implicitDefEqProofs only [↓pgPre,go_sem,↓reduceIte,reduceCtorEq,seval, aia_sl (map_at hp) (eStmt_len x)]
        refine callT_of (ih x.body (by omega) hok.2.2.2.2.2.1 hok.2.2.2.2.2.2.1 i4 (by unfold roomy; omega) false k) (fun v g ⟨hv, hg⟩ => ?_)
        subst v g
        simp -implicitDefEqProofs only [↓pgPre,go_sem,↓reduceIte,reduceCtorEq,seval]
        refine G3.txts (by simp only [List.length_append]; omega) (fun v4 g4 G4 => ?_)
        simp -implicitDefEqProofs only [↓pgPre,go_sem,↓reduceIte,reduceCtorEq,seval, aia_sl (map_at hp) (eStmt_len x)]
        refine callT_of (ih x.els (by omega) hok.2.2.2.2.2.2.2.1 hok.2.2.2.2.2.2.2.2.1 i5 (by unfold roomy; omega) false g4) (fun v g ⟨hv, hg⟩ => ?_)
        subst v g
        simp -implicitDefEqProofs only [↓pgPre,go_sem,↓reduceIte,reduceCtorEq,seval]
        refine G4.txts (by simp only [List.length_append]; omega) (fun v5 g5 G5 => ?_)
        simp -implicitDefEqProofs only [↓pgPre,go_sem,↓reduceIte,reduceCtorEq,seval]
        refine ⟨_, _, WeakE.env ?_, v5, ?_, rfl⟩
        · skip
          repeat' (first | exact EnvLe.nil _ | refine EnvLe.cons ?_ ?_)
          all_goals (simp -implicitDefEqProofs only [↓pgPre,go_sem,↓reduceIte,reduceCtorEq,seval, step_at hw hp]; try first | exact AVle.refl _ | exact AVle.sl _ _ | exact AVle.gs _ _ _ | assumption)
        · have e1 : nmSs (pre ++ [x]) = nmSs pre ++ parts x.name ++ nmE x.p ++ nmEs x.e ++ nmSs x.body ++ nmSs x.els := by rw [nmSs_append, nmSs_one, nmS_eq]; simp only [List.append_assoc]
          rw [e1]; exact G5
    · rintro e g ⟨v, G, rfl⟩
      simp -implicitDefEqProofs only [↓pgPre,go_sem,↓reduceIte,reduceCtorEq,seval, lt_end]
      refine lessQ.same ?_
      simp -implicitDefEqProofs only [↓pgPre,go_sem,↓reduceIte,reduceCtorEq,seval]
      exact G.endW ⟨rfl, rfl⟩
theorem routineNames_spec : ∀ (n : Nat) (l : List Routine), Routines.sz l ≤ n → few l → (∀ x ∈ l, x.ok) → inRs small l → roomy (nmRs l) → ∀ (full : Bool) (h : AHeap), ACalls Go.Proofs.Try.prog 38 [.sl (l.map eRoutine) full] h (fun v g => v = .sl (txt (nmRs l)) false ∧ g = h) := by
  intro n
  induction n with
  | zero =>
    intro l hn hw ho hs hr full h
    cases l with
    | cons x r => simp [Routines.sz] at hn
    | nil =>
      refine F38.calls (by simp) ?_
      delta F38.c0 F38.c1 F38.c2 F38.c25 F38.r15 F38.c3 F38.c4 F38.c5 F38.c6 F38.c9 F38.r14 F38.c10 F38.c11 F38.c12 F38.c13 F38.c23 F38.c24 F38.r13 F38.r12 F38.r11 F38.c14 F38.c15 F38.c16 F38.c17 F38.c20 F38.r10 F38.c21 F38.c22 F38.r9 F38.r8 F38.c18 F38.c19 F38.r7 F38.r6 F38.r5 F38.r4 F38.c7 F38.c8 F38.r3 F38.r2 F38.r1 F38.r0
      simp -implicitDefEqProofs only [↓pgPre,go_sem,↓reduceIte,reduceCtorEq,seval]
      refine lT_round ?_
      simp -implicitDefEqProofs only [↓pgPre,go_sem,↓reduceIte,reduceCtorEq,seval]
      exact (GL.nil (ty := 9) (size := 1) h).endW ⟨rfl, rfl⟩
  | succ n ih =>
    intro l hn hw ho hs hr full h
    unfold roomy at hr
    refine F38.calls (by simp) ?_
    delta F38.c0 F38.c1 F38.c2 F38.c25 F38.r15 F38.c3 F38.c4 F38.c5 F38.c6 F38.c9 F38.r14 F38.c10 F38.c11 F38.c12 F38.c13 F38.c23 F38.c24 F38.r13 F38.r12 F38.r11 F38.c14 F38.c15 F38.c16 F38.c17 F38.c20 F38.r10 F38.c21 F38.c22 F38.r9 F38.r8 F38.c18 F38.c19 F38.r7 F38.r6 F38.r5 F38.r4 F38.c7 F38.c8 F38.r3 F38.r2 F38.r1 F38.r0
    simp -implicitDefEqProofs only [↓pgPre,go_sem,↓reduceIte,reduceCtorEq,seval]
    refine lT_list l (fun pre post e g => ∃ v, GL 9 1 h g v (txt (nmRs pre)) ∧ e = [(0, .sl (l.map eRoutine) full), (3, v), (4, .int .i64 pre.length)]) (WeakE.env ?_) ⟨.sl [] true, .nil h, rfl⟩ ?_ ?_
    · skip
      repeat' (first | exact EnvLe.nil _ | refine EnvLe.cons ?_ ?_)
      all_goals (simp -implicitDefEqProofs only [↓pgPre,go_sem,↓reduceIte,reduceCtorEq,seval]; try first | exact AVle.refl _ | exact AVle.sl _ _ | exact AVle.gs _ _ _ | assumption)
    · rintro pre x post e g hp ⟨v, G, rfl⟩
      have hx := mem_at hp
      have hxz := Routines.sz_mem hx
      have hz := Routine.sz_eq x
      have sp := nmRs_split hp
      obtain ⟨i1, i2, i3, i4, i5⟩ := (inR_eq small x).1 (inRs_mem hs x hx)
      have hok := (Routine.ok_iff x).1 (ho x hx)
      have hlen : (nmR x).length = (parts x.name).length + (nmParams x.params).length + (nmVars x.vars).length + (nmRs x.inner).length + (nmSs x.body).length := by rw [nmR_eq]; simp only [List.length_append]
      simp -implicitDefEqProofs only [↓pgPre,go_sem,↓reduceIte,reduceCtorEq,seval, lt_at hp, aia_sl (map_at hp) (eRoutine_len x)]
      refine callT_of (Parts_spec g x.name i1) (fun v g ⟨hv, hg⟩ => ?_)
      subst v g
      simp -implicitDefEqProofs only [↓pgPre,go_sem,↓reduceIte,reduceCtorEq,seval]
      refine G.txts (by omega) (fun v1 g1 G1 => ?_)
      simp -implicitDefEqProofs only [↓pgPre,go_sem,↓reduceIte,reduceCtorEq,seval]
      refine lT_list x.params (fun pre' post' e k => ∃ v, GL 9 1 h k v (txt (nmRs pre ++ parts x.name ++ nmParams pre')) ∧ e = [(0, .sl (l.map eRoutine) full), (3, v), (4, .int .i64 pre.length), (5, .ip (eRoutine x) 0), (6, .int .i64 pre'.length)]) (WeakE.env ?_) ⟨v1, by simpa [nmParams] using G1, rfl⟩ ?_ ?_
      · skip
        repeat' (first | exact EnvLe.nil _ | refine EnvLe.cons ?_ ?_)
        all_goals (simp -implicitDefEqProofs only [↓pgPre,go_sem,↓reduceIte,reduceCtorEq,seval]; try first | exact AVle.refl _ | exact AVle.sl _ _ | exact AVle.gs _ _ _ | assumption)
      · rintro pre' y post' e k hp' ⟨v3, G3, rfl⟩
        have hy := i2 y (mem_at hp')
        have sp' : (nmParams x.params).length = (nmParams pre').length + ((parts y.name).length + (parts y.t.name).length) + (nmParams post').length := by
          rw [hp']; simp only [nmParams, List.flatMap_append, List.flatMap_cons, List.length_append, nmParam]; omega
        simp -implicitDefEqProofs only [↓pgPre,go_sem,↓reduceIte,reduceCtorEq,seval, lt_at hp', aia_sl (map_at hp') (eParam_len y)]
        refine callT_of (Parts_spec k y.name hy.1) (fun v g ⟨hv, hg⟩ => ?_)
        subst v g
        simp -implicitDefEqProofs only [↓pgPre,go_sem,↓reduceIte,reduceCtorEq,seval]
        refine G3.txts (by simp only [List.length_append]; omega) (fun v4 g4 G4 => ?_)
        simp -implicitDefEqProofs only [↓pgPre,go_sem,↓reduceIte,reduceCtorEq,seval, aia_sl (map_at hp') (eParam_len y)]
        refine callT_of (Parts_spec g4 y.t.name hy.2) (fun v g ⟨hv, hg⟩ => ?_)
        subst v g
        simp -implicitDefEqProofs only [↓pgPre,go_sem,↓reduceIte,reduceCtorEq,seval]
        refine G4.txts (by simp only [List.length_append]; omega) (fun v5 g5 G5 => ?_)
        simp -implicitDefEqProofs only [↓pgPre,go_sem,↓reduceIte,reduceCtorEq,seval]
        refine ⟨_, _, WeakE.env ?_, v5, ?_, rfl⟩
        · skip
          repeat' (first | exact EnvLe.nil _ | refine EnvLe.cons ?_ ?_)
          all_goals (simp -implicitDefEqProofs only [↓pgPre,go_sem,↓reduceIte,reduceCtorEq,seval, step_at hok.2.2.1 hp']; try first | exact AVle.refl _ | exact AVle.sl _ _ | exact AVle.gs _ _ _ | assumption)
        · have : nmRs pre ++ parts x.name ++ nmParams (pre' ++ [y]) = nmRs pre ++ parts x.name ++ nmParams pre' ++ parts y.name ++ parts y.t.name := by simp [nmParams, nmParam]
          rw [this]; exact G5
      · rintro e k ⟨v3, G3, rfl⟩
        simp -implicitDefEqProofs only [↓pgPre,go_sem,↓reduceIte,reduceCtorEq,seval, lt_end]
        refine lessQ.same ?_
        simp -implicitDefEqProofs only [↓pgPre,go_sem,↓reduceIte,reduceCtorEq,seval]
        refine callT_of (varNames_spec x.vars hok.2.2.2.1 i3 (by unfold roomy; omega) false k) (fun v g ⟨hv, hg⟩ => ?_)
        subst v g
        simp -implicitDefEqProofs only [↓pgPre,go_sem,↓reduceIte,reduceCtorEq,seval]
        refine G3.txts (by simp only [List.length_append]; omega) (fun v4 g4 G4 => ?_)
        simp -implicitDefEqProofs only [↓pgPre,go_sem,↓reduceIte,reduceCtorEq,seval]
        refine callT_of (ih x.inner (by omega) hok.2.2.2.2.2.1 hok.2.2.2.2.2.2.1 i4 (by unfold roomy; omega) false g4) (fun v g ⟨hv, hg⟩ => ?_)
        subst v g
        simp -implicitDefEqProofs only [↓pgPre,go_sem,↓reduceIte,reduceCtorEq,seval]
        refine G4.txts (by simp only [List.length_append]; omega) (fun v5 g5 G5 => ?_)
        simp -implicitDefEqProofs only [↓pgPre,go_sem,↓reduceIte,reduceCtorEq,seval]
        refine callT_of (stmtNames_spec _ x.body (Nat.le_refl _) hok.2.2.2.2.2.2.2.1 hok.2.2.2.2.2.2.2.2.1 i5 (by unfold roomy; omega) false g5) (fun v g ⟨hv, hg⟩ => ?_)
        subst v g
        simp -implicitDefEqProofs only [↓pgPre,go_sem,↓reduceIte,reduceCtorEq,seval]
        refine G5.txts (by simp only [List.length_append]; omega) (fun v6 g6 G6 => ?_)
        simp -implicitDefEqProofs only [↓pgPre,go_sem,↓reduceIte,reduceCtorEq,seval]
        refine ⟨_, _, WeakE.env ?_, v6, ?_, rfl⟩
        · skip
          repeat' (first | exact EnvLe.nil _ | refine EnvLe.cons ?_ ?_)
          all_goals (simp -implicitDefEqProofs only [↓pgPre,go_sem,↓reduceIte,reduceCtorEq,seval, step_at hw hp]; try first | exact AVle.refl _ | exact AVle.sl _ _ | exact AVle.gs _ _ _ | assumption)
        · have e1 : nmRs (pre ++ [x]) = nmRs pre ++ parts x.name ++ nmParams x.params ++ nmVars x.vars ++ nmRs x.inner ++ nmSs x.body := by rw [nmRs_append, nmRs_one, nmR_eq]; simp only [List.append_assoc]
          rw [e1]; exact G6
    · rintro e g ⟨v, G, rfl⟩
      simp -implicitDefEqProofs only [↓pgPre,go_sem,↓reduceIte,reduceCtorEq,seval, lt_end]
      refine lessQ.same ?_
      simp -implicitDefEqProofs only [↓pgPre,go_sem,↓reduceIte,reduceCtorEq,seval]
      exact G.endW ⟨rfl, rfl⟩
end Pg
namespace Pg
open Go
theorem once_append : ∀ (l out : List ByteArray) (x : ByteArray), once out (l ++ [x]) = if x = noBytes then once out l else if among x (once out l) then once out l else once out l ++ [x]
  | [], out, x => rfl
  | y :: l, out, x => by
    simp only [List.cons_append, once]
    split
    · exact once_append l out x
    · split
      · exact once_append l out x
      · exact once_append l _ x
theorem txt_at {l pre post : List ByteArray} {x : ByteArray} (h : l = pre ++ x :: post) : (txt l)[pre.length]? = some [.str x] := by subst h; simp
theorem Names_spec (p : Prg) (ho : p.ok) (hs : inP small p) (hr : roomy (nmP p)) (h : AHeap) : ACalls Go.Proofs.Try.prog 13 [.agg (ePrg p)] h (fun v g => v = .sl (txt (names p)) false ∧ g = h) := by
  unfold roomy at hr
  have hlen : (nmP p).length = (parts p.name).length + (nmRecs p.recs).length + (nmVars p.vars).length + (nmRs p.routines).length + (nmSs p.body).length := by unfold nmP; simp only [List.length_append]
  have hfew : few (nmP p) := by unfold few; omega
  refine F13.calls (by simp) ?_
  delta F13.c0 F13.c1 F13.c2 F13.c20 F13.c21 F13.c22 F13.c23 F13.c24 F13.c35 F13.r19 F13.c25 F13.c26 F13.c27 F13.c28 F13.c31 F13.r18 F13.c32 F13.c33 F13.c34 F13.r17 F13.r16 F13.c29 F13.c30 F13.r15 F13.r14 F13.r13 F13.r12 F13.r11 F13.r10 F13.c3 F13.c4 F13.c5 F13.c6 F13.c9 F13.r9 F13.c10 F13.c11 F13.c12 F13.c13 F13.c14 F13.c15 F13.c18 F13.r8 F13.c19 F13.r7 F13.c16 F13.c17 F13.r6 F13.r5 F13.r4 F13.c7 F13.c8 F13.r3 F13.r2 F13.r1 F13.r0
  simp -implicitDefEqProofs only [↓pgPre,go_sem,↓reduceIte,reduceCtorEq,seval]
  refine callT_of (Parts_gl h p.name hs.name) (fun v1 g1 G1 => ?_)
  simp -implicitDefEqProofs only [↓pgPre,go_sem,↓reduceIte,reduceCtorEq,seval]
  refine lT_list p.recs (fun pre post e g => ∃ v, GL 9 1 h g v (txt (parts p.name ++ nmRecs pre)) ∧ e = [(1, .ip (ePrg p) 0), (3, v), (4, .int .i64 pre.length)]) (WeakE.env ?_) ⟨v1, by simpa [nmRecs] using G1, rfl⟩ ?_ ?_
  · skip
    repeat' (first | exact EnvLe.nil _ | refine EnvLe.cons ?_ ?_)
    all_goals (simp -implicitDefEqProofs only [↓pgPre,go_sem,↓reduceIte,reduceCtorEq,seval]; try first | exact AVle.refl _ | exact AVle.sl _ _ | exact AVle.gs _ _ _ | assumption)
  · rintro pre x post e g hp ⟨v, G, rfl⟩
    have hx := hs.recs x (mem_at hp)
    have ox := ho.eachRec x (mem_at hp)
    have sp : (nmRecs p.recs).length = (nmRecs pre).length + ((parts x.name).length + (nmFlds x.fields).length) + (nmRecs post).length := by
      rw [hp]; simp only [nmRecs, List.flatMap_append, List.flatMap_cons, List.length_append, nmRec]; omega
    simp -implicitDefEqProofs only [↓pgPre,go_sem,↓reduceIte,reduceCtorEq,seval, lt_at hp, aia_sl (map_at hp) (eRec_len x)]
    refine callT_of (Parts_spec g x.name hx.1) (fun v g ⟨hv, hg⟩ => ?_)
    subst v g
    simp -implicitDefEqProofs only [↓pgPre,go_sem,↓reduceIte,reduceCtorEq,seval]
    refine G.txts (by simp only [List.length_append]; omega) (fun v2 g2 G2 => ?_)
    simp -implicitDefEqProofs only [↓pgPre,go_sem,↓reduceIte,reduceCtorEq,seval]
    refine lT_list x.fields (fun pre' post' e k => ∃ v, GL 9 1 h k v (txt (parts p.name ++ nmRecs pre ++ parts x.name ++ nmFlds pre')) ∧ e = [(1, .ip (ePrg p) 0), (3, v), (4, .int .i64 pre.length), (5, .int .i64 pre'.length)]) (WeakE.env ?_) ⟨v2, by simpa [nmFlds] using G2, rfl⟩ ?_ ?_
    · skip
      repeat' (first | exact EnvLe.nil _ | refine EnvLe.cons ?_ ?_)
      all_goals (simp -implicitDefEqProofs only [↓pgPre,go_sem,↓reduceIte,reduceCtorEq,seval]; try first | exact AVle.refl _ | exact AVle.sl _ _ | exact AVle.gs _ _ _ | assumption)
    · rintro pre' y post' e k hp' ⟨v3, G3, rfl⟩
      have hy := hx.2 y (mem_at hp')
      have sp' : (nmFlds x.fields).length = (nmFlds pre').length + (parts y.name).length + (nmFlds post').length := by
        rw [hp']; simp only [nmFlds, List.flatMap_append, List.flatMap_cons, List.length_append]; omega
      simp -implicitDefEqProofs only [↓pgPre,go_sem,↓reduceIte,reduceCtorEq,seval, lt_at hp', aia_sl (map_at hp) (eRec_len x), aia_sl (map_at hp') (eFld_len y)]
      refine callT_of (Parts_spec k y.name hy) (fun v g ⟨hv, hg⟩ => ?_)
      subst v g
      simp -implicitDefEqProofs only [↓pgPre,go_sem,↓reduceIte,reduceCtorEq,seval]
      refine G3.txts (by simp only [List.length_append]; omega) (fun v4 g4 G4 => ?_)
      simp -implicitDefEqProofs only [↓pgPre,go_sem,↓reduceIte,reduceCtorEq,seval]
      refine ⟨_, _, WeakE.env ?_, v4, ?_, rfl⟩
      · skip
        repeat' (first | exact EnvLe.nil _ | refine EnvLe.cons ?_ ?_)
        all_goals (simp -implicitDefEqProofs only [↓pgPre,go_sem,↓reduceIte,reduceCtorEq,seval, step_at ox.fields hp']; try first | exact AVle.refl _ | exact AVle.sl _ _ | exact AVle.gs _ _ _ | assumption)
      · have : parts p.name ++ nmRecs pre ++ parts x.name ++ nmFlds (pre' ++ [y]) = parts p.name ++ nmRecs pre ++ parts x.name ++ nmFlds pre' ++ parts y.name := by simp [nmFlds]
        rw [this]; exact G4
    · rintro e k ⟨v3, G3, rfl⟩
      simp -implicitDefEqProofs only [↓pgPre,go_sem,↓reduceIte,reduceCtorEq,seval, lt_end, aia_sl (map_at hp) (eRec_len x)]
      refine lessQ.same ?_
      simp -implicitDefEqProofs only [↓pgPre,go_sem,↓reduceIte,reduceCtorEq,seval]
      refine ⟨_, _, WeakE.env ?_, v3, ?_, rfl⟩
      · skip
        repeat' (first | exact EnvLe.nil _ | refine EnvLe.cons ?_ ?_)
        all_goals (simp -implicitDefEqProofs only [↓pgPre,go_sem,↓reduceIte,reduceCtorEq,seval, step_at ho.recs hp]; try first | exact AVle.refl _ | exact AVle.sl _ _ | exact AVle.gs _ _ _ | assumption)
      · have : parts p.name ++ nmRecs (pre ++ [x]) = parts p.name ++ nmRecs pre ++ parts x.name ++ nmFlds x.fields := by simp [nmRecs, nmRec]
        rw [this]; exact G3
  · rintro e g ⟨v, G, rfl⟩
    simp -implicitDefEqProofs only [↓pgPre,go_sem,↓reduceIte,reduceCtorEq,seval, lt_end]
    refine lessQ.same ?_
    simp -implicitDefEqProofs only [↓pgPre,go_sem,↓reduceIte,reduceCtorEq,seval]
    refine callT_of (varNames_spec p.vars ho.vars hs.vars (by unfold roomy; omega) false g) (fun v g ⟨hv, hg⟩ => ?_)
    subst v g
    simp -implicitDefEqProofs only [↓pgPre,go_sem,↓reduceIte,reduceCtorEq,seval]
    refine G.txts (by simp only [List.length_append]; omega) (fun v4 g4 G4 => ?_)
    simp -implicitDefEqProofs only [↓pgPre,go_sem,↓reduceIte,reduceCtorEq,seval]
    refine callT_of (routineNames_spec _ p.routines (Nat.le_refl _) ho.routines ho.eachRoutine hs.routines (by unfold roomy; omega) false g4) (fun v g ⟨hv, hg⟩ => ?_)
    subst v g
    simp -implicitDefEqProofs only [↓pgPre,go_sem,↓reduceIte,reduceCtorEq,seval]
    refine G4.txts (by simp only [List.length_append]; omega) (fun v5 g5 G5 => ?_)
    simp -implicitDefEqProofs only [↓pgPre,go_sem,↓reduceIte,reduceCtorEq,seval]
    refine callT_of (stmtNames_spec _ p.body (Nat.le_refl _) ho.body ho.eachStmt hs.body (by unfold roomy; omega) false g5) (fun v g ⟨hv, hg⟩ => ?_)
    subst v g
    simp -implicitDefEqProofs only [↓pgPre,go_sem,↓reduceIte,reduceCtorEq,seval]
    refine G5.txts (by simp only [List.length_append]; omega) (fun v6 g6 G6 => ?_)
    have G7 : GL 9 1 h g6 v6 (txt (nmP p)) := G6
    clear G6
    simp -implicitDefEqProofs only [↓pgPre,go_sem,↓reduceIte,reduceCtorEq,seval]
    refine lT_list (nmP p) (fun pre post e g => ∃ v, GL 9 1 g6 g v (txt (once [] pre)) ∧ e = [(3, v6), (6, v), (7, .int .i64 pre.length)]) (WeakE.env ?_) ⟨.sl [] true, .nil g6, rfl⟩ ?_ ?_
    · skip
      repeat' (first | exact EnvLe.nil _ | refine EnvLe.cons ?_ ?_)
      all_goals (simp -implicitDefEqProofs only [↓pgPre,go_sem,↓reduceIte,reduceCtorEq,seval]; try first | exact AVle.refl _ | exact AVle.sl _ _ | exact AVle.gs _ _ _ | assumption)
    · rintro pre x post e g hp ⟨v, G, rfl⟩
      have hA := G7.aia .i64 (txt_at hp)
      have hL := G7.len g
      have ol := once_len pre []
      have pl : pre.length ≤ (nmP p).length := Nat.le_of_lt (at_pre hp).2
      have ofew : few (once [] pre) := by unfold few; simp at ol; omega
      by_cases h0 : x = noBytes
      · subst h0
        simp -implicitDefEqProofs only [↓pgPre,go_sem,↓reduceIte,reduceCtorEq,seval, hL, lt_at hp, hA]
        refine ⟨_, _, WeakE.env ?_, v, ?_, rfl⟩
        · skip
          repeat' (first | exact EnvLe.nil _ | refine EnvLe.cons ?_ ?_)
          all_goals (simp -implicitDefEqProofs only [↓pgPre,go_sem,↓reduceIte,reduceCtorEq,seval, step_at hfew hp]; try first | exact AVle.refl _ | exact AVle.sl _ _ | exact AVle.gs _ _ _ | assumption)
        · rw [once_append, if_pos rfl]; exact G
      · have h0' : (x = (⟨#[]⟩ : ByteArray)) = False := by simpa using h0
        simp -implicitDefEqProofs only [↓pgPre,go_sem,↓reduceIte,reduceCtorEq,seval, hL, lt_at hp, hA, h0']
        refine callT_le (Among_spec g (once [] pre) ofew false x) (.cons G.avle (.cons (.refl _) .nil)) (fun v k ⟨hv, hk⟩ => ?_)
        subst v k
        simp -implicitDefEqProofs only [↓pgPre,go_sem,↓reduceIte,reduceCtorEq,seval]
        cases ha : among x (once [] pre) with
        | true =>
          simp -implicitDefEqProofs only [↓pgPre,go_sem,↓reduceIte,reduceCtorEq,seval]
          refine ⟨_, _, WeakE.env ?_, v, ?_, rfl⟩
          · skip
            repeat' (first | exact EnvLe.nil _ | refine EnvLe.cons ?_ ?_)
            all_goals (simp -implicitDefEqProofs only [↓pgPre,go_sem,↓reduceIte,reduceCtorEq,seval, step_at hfew hp]; try first | exact AVle.refl _ | exact AVle.sl _ _ | exact AVle.gs _ _ _ | assumption)
          · rw [once_append, if_neg h0, if_pos ha]; exact G
        | false =>
          simp -implicitDefEqProofs only [↓pgPre,go_sem,↓reduceIte,reduceCtorEq,seval, hA]
          refine G.txt1 (by simp at ol; omega) (fun v' g' G' => ?_)
          simp -implicitDefEqProofs only [↓pgPre,go_sem,↓reduceIte,reduceCtorEq,seval]
          refine ⟨_, _, WeakE.env ?_, v', ?_, rfl⟩
          · skip
            repeat' (first | exact EnvLe.nil _ | refine EnvLe.cons ?_ ?_)
            all_goals (simp -implicitDefEqProofs only [↓pgPre,go_sem,↓reduceIte,reduceCtorEq,seval, step_at hfew hp]; try first | exact AVle.refl _ | exact AVle.sl _ _ | exact AVle.gs _ _ _ | assumption)
          · rw [once_append, if_neg h0, if_neg (by rw [ha]; simp)]; exact G'
    · rintro e g ⟨v, G, rfl⟩
      have hL := G7.len g
      simp -implicitDefEqProofs only [↓pgPre,go_sem,↓reduceIte,reduceCtorEq,seval, hL, lt_end]
      refine lessQ.same ?_
      simp -implicitDefEqProofs only [↓pgPre,go_sem,↓reduceIte,reduceCtorEq,seval]
      exact EndW.less G.avle (AHeap.le_trans G7.le G.le) ⟨rfl, rfl⟩
end Pg
