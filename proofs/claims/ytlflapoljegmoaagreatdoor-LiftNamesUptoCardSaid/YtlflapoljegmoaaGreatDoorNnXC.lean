import Derived.Test.YtlflapoljegmoaaGreatDoorTreeSC
import Derived.Test.YtlflapoljegmoaaGreatDoorCodeCC
import Derived.Test.YtlflapoljegmoaaGreatDoorNmWC
import Derived.Test.YtlflapoljegmoaaGreatDoorNnWC
import Derived.Test.YtlflapoljegmoaaGreatDoorCpWJC
set_option linter.unusedSimpArgs false
set_option linter.unusedVariables false
set_option maxHeartbeats 4000000
set_option maxRecDepth 4000
namespace Pg
open Go
theorem aslice_str {s : ByteArray} {a b : Nat} (h1 : a ≤ b) (h2 : b ≤ s.size) : aslice true 0 (.str s) (some (.int .i64 (a : Int))) (some (.int .i64 (b : Int))) = some (.str (s.extract a b)) := by
 simp only [aslice, abound]
 rw [if_pos (Int.natCast_nonneg b), if_pos (Int.natCast_nonneg a)]
 simp only [Int.toNat_natCast]
 rw [if_pos ⟨h1, h2⟩]
def ptail (s : ByteArray) : List (Option UInt8) → Nat → Nat → List ByteArray
 | [], _, _ => []
 | none :: r, a, i => s.extract a i :: ptail s r (i + 1) (i + 1)
 | some c :: r, a, i => if c.toNat = 36 then s.extract a i :: ptail s r (i + 1) (i + 1) else ptail s r a (i + 1)
theorem ptail_eq (s : ByteArray) : ∀ (l : List UInt8) (a i : Nat), ptail s (l.map some ++ [none]) a i = partsAt s l a i
 | [], a, i => rfl
 | c :: r, a, i => by
  simp only [List.map_cons, List.cons_append, ptail, partsAt]
  rw [ptail_eq s r, ptail_eq s r]
theorem ptail_len (s : ByteArray) : ∀ (l : List (Option UInt8)) (a i : Nat), (ptail s l a i).length ≤ l.length
 | [], a, i => by simp [ptail]
 | none :: r, a, i => by have := ptail_len s r (i + 1) (i + 1); simp only [ptail, List.length_cons]; omega
 | some c :: r, a, i => by
  simp only [ptail]
  split
  ·have := ptail_len s r (i + 1) (i + 1); simp only [List.length_cons]; omega
  ·have := ptail_len s r a (i + 1); simp only [List.length_cons]; omega
def small (s : ByteArray) : Prop := s.size ≤ 1099511627776
theorem Parts_gl [GI] (h : AHeap) (s : ByteArray) (hs : small s) : ACalls Go.Proofs.Tryz.prog 43 [.str s] h (fun v g => GL 9 1 h g v (txt (parts s))) := by
 unfold small at hs
 refine F43.calls (by simp) ?_
 delta F43.c0
 simp only [↓pgPre,go_sem,seval]
 have hlen : ((bytes s).map some ++ [none]).length = s.size + 1 := by simp [bytes_len]
 have hpl : (parts s).length ≤ s.size + 1 := by
  have := ptail_len s ((bytes s).map some ++ [none]) 0 0
  rw [ptail_eq] at this; rw [hlen] at this; exact this
 have hfew : few ((bytes s).map some ++ [none]) := by unfold few; rw [hlen]; omega
 refine lT_list ((bytes s).map some ++ [none]) (fun pre post e g => ∃ (a : Nat) (v : AV) (done : List ByteArray), GL 9 1 h g v (txt done) ∧ parts s = done ++ ptail s post a pre.length ∧ a ≤ pre.length ∧ e = [(0, .str s), (3, v), (4, .int .i64 (a : Int)), (5, .int .i64 pre.length)]) (WeakE.env ?_) ⟨0, .sl [] true, [], .nil h, ?_, Nat.le_refl _, rfl⟩ ?_ ?_
 ·skip
  repeat' (first | exact EnvLe.nil _ | refine EnvLe.cons ?_ ?_)
  all_goals (simp only [↓pgPre,go_sem,seval]; try first | exact AVle.refl _ | exact AVle.sl _ _ | exact AVle.gs _ _ _ | assumption)
 ·show parts s = [] ++ ptail s ((bytes s).map some ++ [none]) 0 0
  rw [ptail_eq]; rfl
 ·rintro pre x post e g hp ⟨a, v, done, G, hd, ha, rfl⟩
  have hl := (at_pre hp).2
  rw [hlen] at hl
  have hle : ((pre.length : Int) ≤ (s.size : Int)) = True := by simp; omega
  have hdl : done.length ≤ s.size + 1 := by rw [hd, List.length_append] at hpl; omega
  have hst := step_at hfew hp
  have hnx : (pre ++ [x]).length = pre.length + 1 := by simp
  rw [hnx] at hst
  cases x with
  | none =>
   have hpost : post = [] := by
    cases post with
    | nil => rfl
    | cons y r =>
     have hl2 : ((bytes s).map some ++ [none])[pre.length]? = some none := (at_pre hp).1
     rw [List.getElem?_append] at hl2
     split at hl2
     ·simp at hl2
     ·rename_i hge
      have := congrArg List.length hp
      rw [hlen] at this
      simp [bytes_len] at this hge
      omega
   have hi : pre.length = s.size := by
    have := congrArg List.length hp
    rw [hlen, hpost] at this; simp at this; omega
   have heq : ((pre.length : Int) = (s.size : Int)) = True := by simp [hi]
   simp only [↓pgPre,go_sem,seval, hle, heq, aslice_str ha (by omega : pre.length ≤ s.size)]
   refine G.txt1 (by omega) (fun v' g' G' => ?_)
   simp only [↓pgPre,go_sem,seval]
   refine ⟨_, _, WeakE.env ?_, pre.length + 1, v', done ++ [s.extract a pre.length], G', ?_, by simp, rfl⟩
   ·skip
    repeat' (first | exact EnvLe.nil _ | refine EnvLe.cons ?_ ?_)
    all_goals (simp only [↓pgPre,go_sem,seval, hst, hnx]; try first | exact AVle.refl _ | exact AVle.sl _ _ | exact AVle.gs _ _ _ | assumption)
   ·rw [hd, hpost]; simp [ptail]
  | some c =>
   have hc : (bytes s)[pre.length]? = some c := by
    have hl2 : ((bytes s).map some ++ [none])[pre.length]? = some (some c) := (at_pre hp).1
    rw [List.getElem?_append] at hl2
    split at hl2
    ·simpa using hl2
    ·rename_i hge
     have : pre.length - ((bytes s).map some).length = 0 := by simp [bytes_len] at hge ⊢; omega
     rw [this] at hl2; simp at hl2
   have hlt : pre.length < s.size := by
    rw [← bytes_len]
    rcases Nat.lt_or_ge pre.length (bytes s).length with h | h
    ·exact h
    ·rw [List.getElem?_eq_none h] at hc; cases hc
   have heq : ((pre.length : Int) = (s.size : Int)) = False := by simp; omega
   have hsp : bytes s = (bytes s).take pre.length ++ c :: (bytes s).drop (pre.length + 1) := by
    have hb : pre.length < (bytes s).length := by rw [bytes_len]; exact hlt
    have e := List.take_append_drop pre.length (bytes s)
    rw [List.drop_eq_getElem_cons hb] at e
    have : (bytes s)[pre.length] = c := by
     rw [List.getElem?_eq_getElem hb] at hc
     simpa using hc
    rw [this] at e
    exact e.symm
   have hsix := six_at hsp
   rw [List.length_take, bytes_len, Nat.min_eq_left (Nat.le_of_lt hlt)] at hsix
   by_cases h36 : c.toNat = 36
   ·have h36' : ((c.toNat : Int) = 36) = True := by simp; omega
    simp only [↓pgPre,go_sem,seval, hle, heq, hsix, h36', aslice_str ha (by omega : pre.length ≤ s.size)]
    refine G.txt1 (by omega) (fun v' g' G' => ?_)
    simp only [↓pgPre,go_sem,seval]
    refine ⟨_, _, WeakE.env ?_, pre.length + 1, v', done ++ [s.extract a pre.length], G', ?_, by simp, rfl⟩
    ·skip
     repeat' (first | exact EnvLe.nil _ | refine EnvLe.cons ?_ ?_)
     all_goals (simp only [↓pgPre,go_sem,seval, hst, hnx]; try first | exact AVle.refl _ | exact AVle.sl _ _ | exact AVle.gs _ _ _ | assumption)
    ·rw [hd]; simp [ptail, h36]
   ·have h36' : ((c.toNat : Int) = 36) = False := by simp; omega
    simp only [↓pgPre,go_sem,seval, hle, heq, hsix, h36']
    refine ⟨_, _, WeakE.env ?_, a, v, done, G, ?_, by simp; omega, rfl⟩
    ·skip
     repeat' (first | exact EnvLe.nil _ | refine EnvLe.cons ?_ ?_)
     all_goals (simp only [↓pgPre,go_sem,seval, hst, hnx]; try first | exact AVle.refl _ | exact AVle.sl _ _ | exact AVle.gs _ _ _ | assumption)
    ·rw [hd]; simp [ptail, h36]
 ·rintro e g ⟨a, v, done, G, hd, ha, rfl⟩
  have hle : ((((bytes s).map some ++ [none]).length : Int) ≤ (s.size : Int)) = False := by rw [hlen]; simp; omega
  simp only [↓pgPre,go_sem,seval, hle]
  refine lessQ.same ?_
  simp only [↓pgPre,go_sem,seval]
  refine .same ?_
  simp only [ptail, List.append_nil] at hd
  rw [hd]; exact G
theorem Parts_spec [GI] (h : AHeap) (s : ByteArray) (hs : small s) : ACalls Go.Proofs.Tryz.prog 43 [.str s] h (fun v g => v = .sl (txt (parts s)) false ∧ g = h) :=
 ACalls.weak ((Parts_gl h s hs).mono fun v g G => G.endW ⟨rfl, rfl⟩)
end Pg
namespace Pg
open Go
theorem nmEs_append : ∀ (l r : List Expr), nmEs (l ++ r) = nmEs l ++ nmEs r := fun l r => by simp [nmEs_map]
theorem nmSs_append : ∀ (l r : List Stmt), nmSs (l ++ r) = nmSs l ++ nmSs r := fun l r => by simp [nmSs_map]
theorem nmRs_append : ∀ (l r : List Routine), nmRs (l ++ r) = nmRs l ++ nmRs r := fun l r => by simp [nmRs_map]
theorem nmEs_one (x : Expr) : nmEs [x] = nmE x := by simp [nmEs]
theorem nmSs_one (x : Stmt) : nmSs [x] = nmS x := by simp [nmSs]
theorem nmRs_one (x : Routine) : nmRs [x] = nmR x := by simp [nmRs]
abbrev roomy (l : List ByteArray) : Prop := l.length ≤ 1099511627776
theorem inEs_mem {S : ByteArray → Prop} : ∀ {l : List Expr}, inEs S l → ∀ x ∈ l, inE S x
 | y :: r, h, x, hx => by
  simp only [inEs] at h
  rcases List.mem_cons.1 hx with rfl | hx
  ·exact h.1
  ·exact inEs_mem h.2 x hx
theorem inSs_mem {S : ByteArray → Prop} : ∀ {l : List Stmt}, inSs S l → ∀ x ∈ l, inS S x
 | y :: r, h, x, hx => by
  simp only [inSs] at h
  rcases List.mem_cons.1 hx with rfl | hx
  ·exact h.1
  ·exact inSs_mem h.2 x hx
theorem inRs_mem {S : ByteArray → Prop} : ∀ {l : List Routine}, inRs S l → ∀ x ∈ l, inR S x
 | y :: r, h, x, hx => by
  simp only [inRs] at h
  rcases List.mem_cons.1 hx with rfl | hx
  ·exact h.1
  ·exact inRs_mem h.2 x hx
theorem nmEs_split {l pre post : List Expr} {x : Expr} (h : l = pre ++ x :: post) : (nmEs l).length = (nmEs pre).length + (nmE x).length + (nmEs post).length := by
 subst h; rw [nmEs_append]; simp only [nmEs, List.length_append]; omega
theorem nmSs_split {l pre post : List Stmt} {x : Stmt} (h : l = pre ++ x :: post) : (nmSs l).length = (nmSs pre).length + (nmS x).length + (nmSs post).length := by
 subst h; rw [nmSs_append]; simp only [nmSs, List.length_append]; omega
theorem nmRs_split {l pre post : List Routine} {x : Routine} (h : l = pre ++ x :: post) : (nmRs l).length = (nmRs pre).length + (nmR x).length + (nmRs post).length := by
 subst h; rw [nmRs_append]; simp only [nmRs, List.length_append]; omega
theorem ExprNames_spec [GI] : ∀ (n : Nat) (x : Expr), x.sz ≤ n → x.ok → inE small x → roomy (nmE x) → ∀ h : AHeap, ACalls Go.Proofs.Tryz.prog 71 [.agg (eExpr x)] h (fun v g => v = .sl (txt (nmE x)) false ∧ g = h) := by
 intro n
 induction n with
 | zero => intro x hn; rw [Expr.sz_eq] at hn; omega
 | succ n ih =>
  intro x hn ho hs hr h
  obtain ⟨s1, s2, s3⟩ := (inE_eq small x).1 hs
  obtain ⟨o1, o2⟩ := (Expr.ok_iff x).1 ho
  have hz := Expr.sz_eq x
  have hlen : (nmE x).length = (parts x.name).length + (parts x.field).length + (nmEs x.l).length := by rw [nmE_eq]; simp only [List.length_append]
  unfold roomy at hr
  refine F71.calls (by simp) ?_
  delta F71.c0
  simp only [↓pgPre,go_sem,seval]
  refine callT_of (Parts_gl h x.name s1) (fun v1 g1 G1 => ?_)
  simp only [↓pgPre,go_sem,seval]
  refine callT_of (Parts_spec g1 x.field s2) (fun v g ⟨hv, hg⟩ => ?_)
  subst v g
  simp only [↓pgPre,go_sem,seval]
  refine G1.txts (by omega) (fun v2 g2 G2 => ?_)
  simp only [↓pgPre,go_sem,seval]
  refine lT_list x.l (fun pre post e g => ∃ v, GL 9 1 h g v (txt (parts x.name ++ parts x.field ++ nmEs pre)) ∧ e = [(1, .ip (eExpr x) 0), (3, v), (4, .int .i64 pre.length)]) (WeakE.env ?_) ⟨v2, by simpa [nmEs] using G2, rfl⟩ ?_ ?_
  ·skip
   repeat' (first | exact EnvLe.nil _ | refine EnvLe.cons ?_ ?_)
   all_goals (simp only [↓pgPre,go_sem,seval]; try first | exact AVle.refl _ | exact AVle.sl _ _ | exact AVle.gs _ _ _ | assumption)
  ·rintro pre y post e g hp ⟨v, G, rfl⟩
   have hy := mem_at hp
   have hyz := Exprs.sz_mem hy
   have sp := nmEs_split hp
   simp only [↓pgPre,go_sem,seval, lt_at hp, aia_sl (map_at hp) (eExpr_len y)]
   refine callT_of (ih y (by omega) (o2 y hy) (inEs_mem s3 y hy) (by unfold roomy; omega) g) (fun v g ⟨hv, hg⟩ => ?_)
   subst v g
   simp only [↓pgPre,go_sem,seval]
   refine G.txts (by simp only [List.length_append]; omega) (fun v' g' G' => ?_)
   simp only [↓pgPre,go_sem,seval]
   refine ⟨_, _, WeakE.env ?_, v', ?_, rfl⟩
   ·skip
    repeat' (first | exact EnvLe.nil _ | refine EnvLe.cons ?_ ?_)
    all_goals (simp only [↓pgPre,go_sem,seval, step_at o1 hp]; try first | exact AVle.refl _ | exact AVle.sl _ _ | exact AVle.gs _ _ _ | assumption)
   ·rw [nmEs_append, nmEs_one, ← List.append_assoc]; exact G'
  ·rintro e g ⟨v, G, rfl⟩
   simp only [↓pgPre,go_sem,seval, lt_end]
   refine lessQ.same ?_
   simp only [↓pgPre,go_sem,seval]
   refine G.endW ⟨?_, rfl⟩
   rw [nmE_eq]
theorem varNames_spec [GI] (l : List Var) (hl : few l) (hs : ∀ v ∈ l, inVar small v) (hr : roomy (nmVars l)) (full : Bool) (h : AHeap) : ACalls Go.Proofs.Tryz.prog 44 [.sl (l.map eVar) full] h (fun v g => v = .sl (txt (nmVars l)) false ∧ g = h) := by
 unfold roomy at hr
 refine F44.calls (by simp) ?_
 delta F44.c0
 simp only [↓pgPre,go_sem,seval]
 refine lT_list l (fun pre post e g => ∃ v, GL 9 1 h g v (txt (nmVars pre)) ∧ e = [(0, .sl (l.map eVar) full), (3, v), (4, .int .i64 pre.length)]) (WeakE.env ?_) ⟨.sl [] true, .nil h, rfl⟩ ?_ ?_
 ·skip
  repeat' (first | exact EnvLe.nil _ | refine EnvLe.cons ?_ ?_)
  all_goals (simp only [↓pgPre,go_sem,seval]; try first | exact AVle.refl _ | exact AVle.sl _ _ | exact AVle.gs _ _ _ | assumption)
 ·rintro pre y post e g hp ⟨v, G, rfl⟩
  have hy := hs y (mem_at hp)
  have sp : (nmVars l).length = (nmVars pre).length + ((parts y.name).length + (parts y.t.name).length) + (nmVars post).length := by
   rw [hp]; simp only [nmVars, List.flatMap_append, List.flatMap_cons, List.length_append, nmVar]; omega
  simp only [↓pgPre,go_sem,seval, lt_at hp, aia_sl (map_at hp) (eVar_len y)]
  refine callT_of (Parts_spec g y.name hy.1) (fun v g ⟨hv, hg⟩ => ?_)
  subst v g
  simp only [↓pgPre,go_sem,seval]
  refine G.txts (by omega) (fun v1 g1 G1 => ?_)
  simp only [↓pgPre,go_sem,seval, aia_sl (map_at hp) (eVar_len y)]
  refine callT_of (Parts_spec g1 y.t.name hy.2) (fun v g ⟨hv, hg⟩ => ?_)
  subst v g
  simp only [↓pgPre,go_sem,seval]
  refine G1.txts (by simp only [List.length_append]; omega) (fun v2 g2 G2 => ?_)
  simp only [↓pgPre,go_sem,seval]
  refine ⟨_, _, WeakE.env ?_, v2, ?_, rfl⟩
  ·skip
   repeat' (first | exact EnvLe.nil _ | refine EnvLe.cons ?_ ?_)
   all_goals (simp only [↓pgPre,go_sem,seval, step_at hl hp]; try first | exact AVle.refl _ | exact AVle.sl _ _ | exact AVle.gs _ _ _ | assumption)
  ·have : nmVars (pre ++ [y]) = nmVars pre ++ parts y.name ++ parts y.t.name := by simp [nmVars, nmVar]
   rw [this]; exact G2
 ·rintro e g ⟨v, G, rfl⟩
  simp only [↓pgPre,go_sem,seval, lt_end]
  refine lessQ.same ?_
  simp only [↓pgPre,go_sem,seval]
  exact G.endW ⟨rfl, rfl⟩
theorem stmtNames_spec [GI] : ∀ (n : Nat) (l : List Stmt), Stmts.sz l ≤ n → few l → (∀ x ∈ l, x.ok) → inSs small l → roomy (nmSs l) → ∀ (full : Bool) (h : AHeap), ACalls Go.Proofs.Tryz.prog 46 [.sl (l.map eStmt) full] h (fun v g => v = .sl (txt (nmSs l)) false ∧ g = h) := by
 intro n
 induction n with
 | zero =>
  intro l hn hw ho hs hr full h
  cases l with
  | cons x r => simp [Stmts.sz] at hn
  | nil =>
   refine F46.calls (by simp) ?_
   delta F46.c0
   simp only [↓pgPre,go_sem,seval]
   refine lT_round ?_
   simp only [↓pgPre,go_sem,seval]
   exact (GL.nil (ty := 9) (size := 1) h).endW ⟨rfl, rfl⟩
 | succ n ih =>
  intro l hn hw ho hs hr full h
  unfold roomy at hr
  refine F46.calls (by simp) ?_
  delta F46.c0
  simp only [↓pgPre,go_sem,seval]
  refine lT_list l (fun pre post e g => ∃ v, GL 9 1 h g v (txt (nmSs pre)) ∧ e = [(0, .sl (l.map eStmt) full), (3, v), (4, .int .i64 pre.length)]) (WeakE.env ?_) ⟨.sl [] true, .nil h, rfl⟩ ?_ ?_
  ·skip
   repeat' (first | exact EnvLe.nil _ | refine EnvLe.cons ?_ ?_)
   all_goals (simp only [↓pgPre,go_sem,seval]; try first | exact AVle.refl _ | exact AVle.sl _ _ | exact AVle.gs _ _ _ | assumption)
  ·rintro pre x post e g hp ⟨v, G, rfl⟩
   have hx := mem_at hp
   have hxz := Stmts.sz_mem hx
   have hz := Stmt.sz_eq x
   have sp := nmSs_split hp
   obtain ⟨i1, i2, i3, i4, i5⟩ := (inS_eq small x).1 (inSs_mem hs x hx)
   have hok := (Stmt.ok_iff x).1 (ho x hx)
   have hlen : (nmS x).length = (parts x.name).length + (nmE x.p).length + (nmEs x.e).length + (nmSs x.body).length + (nmSs x.els).length := by rw [nmS_eq]; simp only [List.length_append]
   simp only [↓pgPre,go_sem,seval, lt_at hp, aia_sl (map_at hp) (eStmt_len x)]
   refine callT_of (Parts_spec g x.name i1) (fun v g ⟨hv, hg⟩ => ?_)
   subst v g
   simp only [↓pgPre,go_sem,seval]
   refine G.txts (by omega) (fun v1 g1 G1 => ?_)
   simp only [↓pgPre,go_sem,seval, aia_sl (map_at hp) (eStmt_len x)]
   refine callT_of (ExprNames_spec _ x.p (Nat.le_refl _) hok.2.2.1 i2 (by unfold roomy; omega) g1) (fun v g ⟨hv, hg⟩ => ?_)
   subst v g
   simp only [↓pgPre,go_sem,seval]
   refine G1.txts (by simp only [List.length_append]; omega) (fun v2 g2 G2 => ?_)
   simp only [↓pgPre,go_sem,seval]
   refine lT_list x.e (fun pre' post' e k => ∃ v, GL 9 1 h k v (txt (nmSs pre ++ parts x.name ++ nmE x.p ++ nmEs pre')) ∧ e = [(0, .sl (l.map eStmt) full), (3, v), (4, .int .i64 pre.length), (5, .int .i64 pre'.length)]) (WeakE.env ?_) ⟨v2, by simpa [nmEs] using G2, rfl⟩ ?_ ?_
   ·skip
    repeat' (first | exact EnvLe.nil _ | refine EnvLe.cons ?_ ?_)
    all_goals (simp only [↓pgPre,go_sem,seval]; try first | exact AVle.refl _ | exact AVle.sl _ _ | exact AVle.gs _ _ _ | assumption)
   ·rintro pre' y post' e k hp' ⟨v3, G3, rfl⟩
    have hy := mem_at hp'
    have sp' := nmEs_split hp'
    simp only [↓pgPre,go_sem,seval, lt_at hp', aia_sl (map_at hp) (eStmt_len x), aia_sl (map_at hp') (eExpr_len y)]
    refine callT_of (ExprNames_spec _ y (Nat.le_refl _) (hok.2.2.2.2.1 y hy) (inEs_mem i3 y hy) (by unfold roomy; omega) k) (fun v g ⟨hv, hg⟩ => ?_)
    subst v g
    simp only [↓pgPre,go_sem,seval]
    refine G3.txts (by simp only [List.length_append]; omega) (fun v4 g4 G4 => ?_)
    simp only [↓pgPre,go_sem,seval]
    refine ⟨_, _, WeakE.env ?_, v4, ?_, rfl⟩
    ·skip
     repeat' (first | exact EnvLe.nil _ | refine EnvLe.cons ?_ ?_)
     all_goals (simp only [↓pgPre,go_sem,seval, step_at hok.2.2.2.1 hp']; try first | exact AVle.refl _ | exact AVle.sl _ _ | exact AVle.gs _ _ _ | assumption)
    ·rw [nmEs_append, nmEs_one, ← List.append_assoc]; exact G4
   ·rintro e k ⟨v3, G3, rfl⟩
    simp only [↓pgPre,go_sem,seval, lt_end, aia_sl (map_at hp) (eStmt_len x)]
    refine lessQ.same ?_
    simp only [↓pgPre,go_sem,seval, aia_sl (map_at hp) (eStmt_len x)]
    refine callT_of (ih x.body (by omega) hok.2.2.2.2.2.1 hok.2.2.2.2.2.2.1 i4 (by unfold roomy; omega) false k) (fun v g ⟨hv, hg⟩ => ?_)
    subst v g
    simp only [↓pgPre,go_sem,seval]
    refine G3.txts (by simp only [List.length_append]; omega) (fun v4 g4 G4 => ?_)
    simp only [↓pgPre,go_sem,seval, aia_sl (map_at hp) (eStmt_len x)]
    refine callT_of (ih x.els (by omega) hok.2.2.2.2.2.2.2.1 hok.2.2.2.2.2.2.2.2.1 i5 (by unfold roomy; omega) false g4) (fun v g ⟨hv, hg⟩ => ?_)
    subst v g
    simp only [↓pgPre,go_sem,seval]
    refine G4.txts (by simp only [List.length_append]; omega) (fun v5 g5 G5 => ?_)
    simp only [↓pgPre,go_sem,seval]
    refine ⟨_, _, WeakE.env ?_, v5, ?_, rfl⟩
    ·skip
     repeat' (first | exact EnvLe.nil _ | refine EnvLe.cons ?_ ?_)
     all_goals (simp only [↓pgPre,go_sem,seval, step_at hw hp]; try first | exact AVle.refl _ | exact AVle.sl _ _ | exact AVle.gs _ _ _ | assumption)
    ·have e1 : nmSs (pre ++ [x]) = nmSs pre ++ parts x.name ++ nmE x.p ++ nmEs x.e ++ nmSs x.body ++ nmSs x.els := by rw [nmSs_append, nmSs_one, nmS_eq]; simp only [List.append_assoc]
     rw [e1]; exact G5
  ·rintro e g ⟨v, G, rfl⟩
   simp only [↓pgPre,go_sem,seval, lt_end]
   refine lessQ.same ?_
   simp only [↓pgPre,go_sem,seval]
   exact G.endW ⟨rfl, rfl⟩
theorem routineNames_spec [GI] : ∀ (n : Nat) (l : List Routine), Routines.sz l ≤ n → few l → (∀ x ∈ l, x.ok) → inRs small l → roomy (nmRs l) → ∀ (full : Bool) (h : AHeap), ACalls Go.Proofs.Tryz.prog 45 [.sl (l.map eRoutine) full] h (fun v g => v = .sl (txt (nmRs l)) false ∧ g = h) := by
 intro n
 induction n with
 | zero =>
  intro l hn hw ho hs hr full h
  cases l with
  | cons x r => simp [Routines.sz] at hn
  | nil =>
   refine F45.calls (by simp) ?_
   delta F45.c0
   simp only [↓pgPre,go_sem,seval]
   refine lT_round ?_
   simp only [↓pgPre,go_sem,seval]
   exact (GL.nil (ty := 9) (size := 1) h).endW ⟨rfl, rfl⟩
 | succ n ih =>
  intro l hn hw ho hs hr full h
  unfold roomy at hr
  refine F45.calls (by simp) ?_
  delta F45.c0
  simp only [↓pgPre,go_sem,seval]
  refine lT_list l (fun pre post e g => ∃ v, GL 9 1 h g v (txt (nmRs pre)) ∧ e = [(0, .sl (l.map eRoutine) full), (3, v), (4, .int .i64 pre.length)]) (WeakE.env ?_) ⟨.sl [] true, .nil h, rfl⟩ ?_ ?_
  ·skip
   repeat' (first | exact EnvLe.nil _ | refine EnvLe.cons ?_ ?_)
   all_goals (simp only [↓pgPre,go_sem,seval]; try first | exact AVle.refl _ | exact AVle.sl _ _ | exact AVle.gs _ _ _ | assumption)
  ·rintro pre x post e g hp ⟨v, G, rfl⟩
   have hx := mem_at hp
   have hxz := Routines.sz_mem hx
   have hz := Routine.sz_eq x
   have sp := nmRs_split hp
   obtain ⟨i1, i2, i3, i4, i5⟩ := (inR_eq small x).1 (inRs_mem hs x hx)
   have hok := (Routine.ok_iff x).1 (ho x hx)
   have hlen : (nmR x).length = (parts x.name).length + (nmParams x.params).length + (nmVars x.vars).length + (nmRs x.inner).length + (nmSs x.body).length := by rw [nmR_eq]; simp only [List.length_append]
   simp only [↓pgPre,go_sem,seval, lt_at hp, aia_sl (map_at hp) (eRoutine_len x)]
   refine callT_of (Parts_spec g x.name i1) (fun v g ⟨hv, hg⟩ => ?_)
   subst v g
   simp only [↓pgPre,go_sem,seval]
   refine G.txts (by omega) (fun v1 g1 G1 => ?_)
   simp only [↓pgPre,go_sem,seval]
   refine lT_list x.params (fun pre' post' e k => ∃ v, GL 9 1 h k v (txt (nmRs pre ++ parts x.name ++ nmParams pre')) ∧ e = [(0, .sl (l.map eRoutine) full), (3, v), (4, .int .i64 pre.length), (5, .ip (eRoutine x) 0), (6, .int .i64 pre'.length)]) (WeakE.env ?_) ⟨v1, by simpa [nmParams] using G1, rfl⟩ ?_ ?_
   ·skip
    repeat' (first | exact EnvLe.nil _ | refine EnvLe.cons ?_ ?_)
    all_goals (simp only [↓pgPre,go_sem,seval]; try first | exact AVle.refl _ | exact AVle.sl _ _ | exact AVle.gs _ _ _ | assumption)
   ·rintro pre' y post' e k hp' ⟨v3, G3, rfl⟩
    have hy := i2 y (mem_at hp')
    have sp' : (nmParams x.params).length = (nmParams pre').length + ((parts y.name).length + (parts y.t.name).length) + (nmParams post').length := by
     rw [hp']; simp only [nmParams, List.flatMap_append, List.flatMap_cons, List.length_append, nmParam]; omega
    simp only [↓pgPre,go_sem,seval, lt_at hp', aia_sl (map_at hp') (eParam_len y)]
    refine callT_of (Parts_spec k y.name hy.1) (fun v g ⟨hv, hg⟩ => ?_)
    subst v g
    simp only [↓pgPre,go_sem,seval]
    refine G3.txts (by simp only [List.length_append]; omega) (fun v4 g4 G4 => ?_)
    simp only [↓pgPre,go_sem,seval, aia_sl (map_at hp') (eParam_len y)]
    refine callT_of (Parts_spec g4 y.t.name hy.2) (fun v g ⟨hv, hg⟩ => ?_)
    subst v g
    simp only [↓pgPre,go_sem,seval]
    refine G4.txts (by simp only [List.length_append]; omega) (fun v5 g5 G5 => ?_)
    simp only [↓pgPre,go_sem,seval]
    refine ⟨_, _, WeakE.env ?_, v5, ?_, rfl⟩
    ·skip
     repeat' (first | exact EnvLe.nil _ | refine EnvLe.cons ?_ ?_)
     all_goals (simp only [↓pgPre,go_sem,seval, step_at hok.2.2.1 hp']; try first | exact AVle.refl _ | exact AVle.sl _ _ | exact AVle.gs _ _ _ | assumption)
    ·have : nmRs pre ++ parts x.name ++ nmParams (pre' ++ [y]) = nmRs pre ++ parts x.name ++ nmParams pre' ++ parts y.name ++ parts y.t.name := by simp [nmParams, nmParam]
     rw [this]; exact G5
   ·rintro e k ⟨v3, G3, rfl⟩
    simp only [↓pgPre,go_sem,seval, lt_end]
    refine lessQ.same ?_
    simp only [↓pgPre,go_sem,seval]
    refine callT_of (varNames_spec x.vars hok.2.2.2.1 i3 (by unfold roomy; omega) false k) (fun v g ⟨hv, hg⟩ => ?_)
    subst v g
    simp only [↓pgPre,go_sem,seval]
    refine G3.txts (by simp only [List.length_append]; omega) (fun v4 g4 G4 => ?_)
    simp only [↓pgPre,go_sem,seval]
    refine callT_of (ih x.inner (by omega) hok.2.2.2.2.2.1 hok.2.2.2.2.2.2.1 i4 (by unfold roomy; omega) false g4) (fun v g ⟨hv, hg⟩ => ?_)
    subst v g
    simp only [↓pgPre,go_sem,seval]
    refine G4.txts (by simp only [List.length_append]; omega) (fun v5 g5 G5 => ?_)
    simp only [↓pgPre,go_sem,seval]
    refine callT_of (stmtNames_spec _ x.body (Nat.le_refl _) hok.2.2.2.2.2.2.2.1 hok.2.2.2.2.2.2.2.2.1 i5 (by unfold roomy; omega) false g5) (fun v g ⟨hv, hg⟩ => ?_)
    subst v g
    simp only [↓pgPre,go_sem,seval]
    refine G5.txts (by simp only [List.length_append]; omega) (fun v6 g6 G6 => ?_)
    simp only [↓pgPre,go_sem,seval]
    refine ⟨_, _, WeakE.env ?_, v6, ?_, rfl⟩
    ·skip
     repeat' (first | exact EnvLe.nil _ | refine EnvLe.cons ?_ ?_)
     all_goals (simp only [↓pgPre,go_sem,seval, step_at hw hp]; try first | exact AVle.refl _ | exact AVle.sl _ _ | exact AVle.gs _ _ _ | assumption)
    ·have e1 : nmRs (pre ++ [x]) = nmRs pre ++ parts x.name ++ nmParams x.params ++ nmVars x.vars ++ nmRs x.inner ++ nmSs x.body := by rw [nmRs_append, nmRs_one, nmR_eq]; simp only [List.append_assoc]
     rw [e1]; exact G6
  ·rintro e g ⟨v, G, rfl⟩
   simp only [↓pgPre,go_sem,seval, lt_end]
   refine lessQ.same ?_
   simp only [↓pgPre,go_sem,seval]
   exact G.endW ⟨rfl, rfl⟩
end Pg
namespace Pg
open Go
theorem once_append : ∀ (l out : List ByteArray) (x : ByteArray), once out (l ++ [x]) = if x = noBytes then once out l else if among x (once out l) then once out l else once out l ++ [x]
 | [], out, x => rfl
 | y :: l, out, x => by
  simp only [List.cons_append, once]
  split
  ·exact once_append l out x
  ·split
   ·exact once_append l out x
   ·exact once_append l _ x
theorem txt_at {l pre post : List ByteArray} {x : ByteArray} (h : l = pre ++ x :: post) : (txt l)[pre.length]? = some [.str x] := by subst h; simp
theorem Names_spec [GI] (p : Prg) (ho : p.ok) (hs : inP small p) (hr : roomy (nmP p)) (h : AHeap) : ACalls Go.Proofs.Tryz.prog 16 [.agg (ePrg p)] h (fun v g => v = .sl (txt (names p)) false ∧ g = h) := by
 unfold roomy at hr
 have hlen : (nmP p).length = (parts p.name).length + (nmRecs p.recs).length + (nmVars p.vars).length + (nmRs p.routines).length + (nmSs p.body).length := by unfold nmP; simp only [List.length_append]
 have hfew : few (nmP p) := by unfold few; omega
 refine F16.calls (by simp) ?_
 delta F16.c0
 simp only [↓pgPre,go_sem,seval]
 refine callT_of (Parts_gl h p.name hs.name) (fun v1 g1 G1 => ?_)
 simp only [↓pgPre,go_sem,seval]
 refine lT_list p.recs (fun pre post e g => ∃ v, GL 9 1 h g v (txt (parts p.name ++ nmRecs pre)) ∧ e = [(1, .ip (ePrg p) 0), (3, v), (4, .int .i64 pre.length)]) (WeakE.env ?_) ⟨v1, by simpa [nmRecs] using G1, rfl⟩ ?_ ?_
 ·skip
  repeat' (first | exact EnvLe.nil _ | refine EnvLe.cons ?_ ?_)
  all_goals (simp only [↓pgPre,go_sem,seval]; try first | exact AVle.refl _ | exact AVle.sl _ _ | exact AVle.gs _ _ _ | assumption)
 ·rintro pre x post e g hp ⟨v, G, rfl⟩
  have hx := hs.recs x (mem_at hp)
  have ox := ho.eachRec x (mem_at hp)
  have sp : (nmRecs p.recs).length = (nmRecs pre).length + ((parts x.name).length + (nmFlds x.fields).length) + (nmRecs post).length := by
   rw [hp]; simp only [nmRecs, List.flatMap_append, List.flatMap_cons, List.length_append, nmRec]; omega
  simp only [↓pgPre,go_sem,seval, lt_at hp, aia_sl (map_at hp) (eRec_len x)]
  refine callT_of (Parts_spec g x.name hx.1) (fun v g ⟨hv, hg⟩ => ?_)
  subst v g
  simp only [↓pgPre,go_sem,seval]
  refine G.txts (by simp only [List.length_append]; omega) (fun v2 g2 G2 => ?_)
  simp only [↓pgPre,go_sem,seval]
  refine lT_list x.fields (fun pre' post' e k => ∃ v, GL 9 1 h k v (txt (parts p.name ++ nmRecs pre ++ parts x.name ++ nmFlds pre')) ∧ e = [(1, .ip (ePrg p) 0), (3, v), (4, .int .i64 pre.length), (5, .int .i64 pre'.length)]) (WeakE.env ?_) ⟨v2, by simpa [nmFlds] using G2, rfl⟩ ?_ ?_
  ·skip
   repeat' (first | exact EnvLe.nil _ | refine EnvLe.cons ?_ ?_)
   all_goals (simp only [↓pgPre,go_sem,seval]; try first | exact AVle.refl _ | exact AVle.sl _ _ | exact AVle.gs _ _ _ | assumption)
  ·rintro pre' y post' e k hp' ⟨v3, G3, rfl⟩
   have hy := hx.2 y (mem_at hp')
   have sp' : (nmFlds x.fields).length = (nmFlds pre').length + (parts y.name).length + (nmFlds post').length := by
    rw [hp']; simp only [nmFlds, List.flatMap_append, List.flatMap_cons, List.length_append]; omega
   simp only [↓pgPre,go_sem,seval, lt_at hp', aia_sl (map_at hp) (eRec_len x), aia_sl (map_at hp') (eFld_len y)]
   refine callT_of (Parts_spec k y.name hy) (fun v g ⟨hv, hg⟩ => ?_)
   subst v g
   simp only [↓pgPre,go_sem,seval]
   refine G3.txts (by simp only [List.length_append]; omega) (fun v4 g4 G4 => ?_)
   simp only [↓pgPre,go_sem,seval]
   refine ⟨_, _, WeakE.env ?_, v4, ?_, rfl⟩
   ·skip
    repeat' (first | exact EnvLe.nil _ | refine EnvLe.cons ?_ ?_)
    all_goals (simp only [↓pgPre,go_sem,seval, step_at ox.fields hp']; try first | exact AVle.refl _ | exact AVle.sl _ _ | exact AVle.gs _ _ _ | assumption)
   ·have : parts p.name ++ nmRecs pre ++ parts x.name ++ nmFlds (pre' ++ [y]) = parts p.name ++ nmRecs pre ++ parts x.name ++ nmFlds pre' ++ parts y.name := by simp [nmFlds]
    rw [this]; exact G4
  ·rintro e k ⟨v3, G3, rfl⟩
   simp only [↓pgPre,go_sem,seval, lt_end, aia_sl (map_at hp) (eRec_len x)]
   refine lessQ.same ?_
   simp only [↓pgPre,go_sem,seval]
   refine ⟨_, _, WeakE.env ?_, v3, ?_, rfl⟩
   ·skip
    repeat' (first | exact EnvLe.nil _ | refine EnvLe.cons ?_ ?_)
    all_goals (simp only [↓pgPre,go_sem,seval, step_at ho.recs hp]; try first | exact AVle.refl _ | exact AVle.sl _ _ | exact AVle.gs _ _ _ | assumption)
   ·have : parts p.name ++ nmRecs (pre ++ [x]) = parts p.name ++ nmRecs pre ++ parts x.name ++ nmFlds x.fields := by simp [nmRecs, nmRec]
    rw [this]; exact G3
 ·rintro e g ⟨v, G, rfl⟩
  simp only [↓pgPre,go_sem,seval, lt_end]
  refine lessQ.same ?_
  simp only [↓pgPre,go_sem,seval]
  refine callT_of (varNames_spec p.vars ho.vars hs.vars (by unfold roomy; omega) false g) (fun v g ⟨hv, hg⟩ => ?_)
  subst v g
  simp only [↓pgPre,go_sem,seval]
  refine G.txts (by simp only [List.length_append]; omega) (fun v4 g4 G4 => ?_)
  simp only [↓pgPre,go_sem,seval]
  refine callT_of (routineNames_spec _ p.routines (Nat.le_refl _) ho.routines ho.eachRoutine hs.routines (by unfold roomy; omega) false g4) (fun v g ⟨hv, hg⟩ => ?_)
  subst v g
  simp only [↓pgPre,go_sem,seval]
  refine G4.txts (by simp only [List.length_append]; omega) (fun v5 g5 G5 => ?_)
  simp only [↓pgPre,go_sem,seval]
  refine callT_of (stmtNames_spec _ p.body (Nat.le_refl _) ho.body ho.eachStmt hs.body (by unfold roomy; omega) false g5) (fun v g ⟨hv, hg⟩ => ?_)
  subst v g
  simp only [↓pgPre,go_sem,seval]
  refine G5.txts (by simp only [List.length_append]; omega) (fun v6 g6 G6 => ?_)
  have G7 : GL 9 1 h g6 v6 (txt (nmP p)) := G6
  clear G6
  simp only [↓pgPre,go_sem,seval]
  refine lT_list (nmP p) (fun pre post e g => ∃ v, GL 9 1 g6 g v (txt (once [] pre)) ∧ e = [(3, v6), (6, v), (7, .int .i64 pre.length)]) (WeakE.env ?_) ⟨.sl [] true, .nil g6, rfl⟩ ?_ ?_
  ·skip
   repeat' (first | exact EnvLe.nil _ | refine EnvLe.cons ?_ ?_)
   all_goals (simp only [↓pgPre,go_sem,seval]; try first | exact AVle.refl _ | exact AVle.sl _ _ | exact AVle.gs _ _ _ | assumption)
  ·rintro pre x post e g hp ⟨v, G, rfl⟩
   have hA := G7.aia .i64 (txt_at hp)
   have hL := G7.len g
   have ol := once_len pre []
   have pl : pre.length ≤ (nmP p).length := Nat.le_of_lt (at_pre hp).2
   have ofew : few (once [] pre) := by unfold few; simp at ol; omega
   by_cases h0 : x = noBytes
   ·subst h0
    simp only [↓pgPre,go_sem,seval, hL, lt_at hp, hA]
    refine ⟨_, _, WeakE.env ?_, v, ?_, rfl⟩
    ·skip
     repeat' (first | exact EnvLe.nil _ | refine EnvLe.cons ?_ ?_)
     all_goals (simp only [↓pgPre,go_sem,seval, step_at hfew hp]; try first | exact AVle.refl _ | exact AVle.sl _ _ | exact AVle.gs _ _ _ | assumption)
    ·rw [once_append, if_pos rfl]; exact G
   ·have h0' : (x = (⟨#[]⟩ : ByteArray)) = False := by simpa using h0
    simp only [↓pgPre,go_sem,seval, hL, lt_at hp, hA, h0']
    refine callT_le (Among_spec g (once [] pre) ofew false x) (.cons G.avle (.cons (.refl _) .nil)) (fun v k ⟨hv, hk⟩ => ?_)
    subst v k
    simp only [↓pgPre,go_sem,seval]
    cases ha : among x (once [] pre) with
    | true =>
     simp only [↓pgPre,go_sem,seval]
     refine ⟨_, _, WeakE.env ?_, v, ?_, rfl⟩
     ·skip
      repeat' (first | exact EnvLe.nil _ | refine EnvLe.cons ?_ ?_)
      all_goals (simp only [↓pgPre,go_sem,seval, step_at hfew hp]; try first | exact AVle.refl _ | exact AVle.sl _ _ | exact AVle.gs _ _ _ | assumption)
     ·rw [once_append, if_neg h0, if_pos ha]; exact G
    | false =>
     simp only [↓pgPre,go_sem,seval, hA]
     refine G.txt1 (by simp at ol; omega) (fun v' g' G' => ?_)
     simp only [↓pgPre,go_sem,seval]
     refine ⟨_, _, WeakE.env ?_, v', ?_, rfl⟩
     ·skip
      repeat' (first | exact EnvLe.nil _ | refine EnvLe.cons ?_ ?_)
      all_goals (simp only [↓pgPre,go_sem,seval, step_at hfew hp]; try first | exact AVle.refl _ | exact AVle.sl _ _ | exact AVle.gs _ _ _ | assumption)
     ·rw [once_append, if_neg h0, if_neg (by rw [ha]; simp)]; exact G'
  ·rintro e g ⟨v, G, rfl⟩
   have hL := G7.len g
   simp only [↓pgPre,go_sem,seval, hL, lt_end]
   refine lessQ.same ?_
   simp only [↓pgPre,go_sem,seval]
   exact EndW.less G.avle (AHeap.le_trans G7.le G.le) ⟨rfl, rfl⟩
end Pg
