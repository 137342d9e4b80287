import Derived.Test.YtlflapoljegmoaaGreatDoorTreeSE
import Derived.Test.YtlflapoljegmoaaGreatDoorD1bJE
import Derived.Test.YtlflapoljegmoaaGreatDoorNmXE
import Derived.Test.YtlflapoljegmoaaGreatDoorK4E
import Derived.Test.YtlflapoljegmoaaGreatDoorProg
import Derived.KernelRfl
namespace Pg.D1
open Go Go.Proofs.Tryz
set_option linter.all false
set_option maxHeartbeats 4000000
set_option maxRecDepth 4000
theorem vars_spec [GI] (h : AHeap) (l : List Var) (hl : few l) (ho : ∀ v ∈ l, v.ok) (hf : ∀ v ∈ l, v.fit) : ACalls prog 24 [.int .i64 1, .sl (l.map eVar) false] h (fun v g => v = .bool (tVars l) ∧ g = h) := by
  refine F24.calls (by simp) ?_
  delta F24.c0
  simp only [go_sem,seval]
  refine lT_list l (fun pre post e g => (l.all tVar = post.all tVar ∧ g = h) ∧ e = [(0, .int .i64 1), (1, .sl (l.map eVar) false), (5, .int .i64 pre.length)]) (WeakE.env ?_) ⟨⟨rfl, rfl⟩, rfl⟩ ?_ ?_
  · simp only [go_sem,seval]
  · rintro pre x post e g hp ⟨⟨hn, rfl⟩, rfl⟩
    have hx := ho x (mem_at hp)
    have fx := hf x (mem_at hp)
    simp only [go_sem,seval, lt_at hp, aia_sl (map_at hp) (eVar_len x), var_m]
    refine tcE (marks_spec g x.before x.trail hx.before hx.trail fx.1 fx.2.1) ?_
    cases c1 : tMarks x.before x.trail
    all_goals simp only [go_sem,seval, aia_sl (map_at hp) (eVar_len x), var_t]
    ·
     refine lessQ.same ?_
     simp only [go_sem,seval]
     exact .same ⟨by rw [tVars, hn]; simp [tVar, c1], rfl⟩
    ·
     refine tcE (Name_spec g x.name fx.2.2.1) ?_
     cases c2 : tName x.name
     all_goals simp only [go_sem,seval, aia_sl (map_at hp) (eVar_len x), var_t]
     ·
      refine lessQ.same ?_
      simp only [go_sem,seval]
      exact .same ⟨by rw [tVars, hn]; simp [tVar, c1, c2], rfl⟩
     ·
      refine tcE (Type_spec g x.t fx.2.2.2.2.2) ?_
      cases c3 : tTyp x.t
      all_goals simp only [go_sem,seval, aia_sl (map_at hp) (eVar_len x), var_t]
      ·
       refine lessQ.same ?_
       simp only [go_sem,seval]
       exact .same ⟨by rw [tVars, hn]; simp [tVar, c1, c2, c3], rfl⟩
      ·
       refine ⟨_, _, WeakE.env ?_, ⟨?_, rfl⟩, rfl⟩
       · simp only [go_sem,seval, step_at hl hp]
       · rw [hn]; simp [tVar, c1, c2, c3]
  · rintro e g ⟨⟨hn, rfl⟩, rfl⟩
    simp only [go_sem,seval, lt_end]
    refine lessQ.same ?_
    simp only [go_sem,seval]
    exact .same ⟨by rw [tVars, hn, le512]; simp, rfl⟩
def upB (pre : List Param) : Bool := (pre.getLast?.map fun p => decide (p.mode = 2)).getD false
theorem upB_snoc (pre : List Param) (x : Param) : upB (pre ++ [x]) = decide (x.mode = 2) := by simp [upB]
theorem params_spec [GI] (h : AHeap) (l : List Param) (hl : few l) (hf : ∀ v ∈ l, v.fit) : ACalls prog 53 [.int .i64 1, .sl (l.map eParam) false] h (fun v g => v = .bool (tParams l) ∧ g = h) := by
 refine F53.calls (by simp) ?_
 delta F53.c0
 simp only [go_sem,seval]
 refine lT_list l (fun pre post e g => ((l.all tParam && tOrder false l) = (post.all tParam && tOrder (upB pre) post) ∧ g = h) ∧ e = [(0, .int .i64 1), (1, .sl (l.map eParam) false), (5, .int .i64 pre.length)]) (WeakE.env ?_) ⟨⟨rfl, rfl⟩, rfl⟩ ?_ ?_
 ·simp only [go_sem,seval]
 ·rintro pre x post e g hp ⟨⟨hn, rfl⟩, rfl⟩
  have fx := hf x (mem_at hp)
  have out : (tParam x && !(!decide (x.mode = 2) && upB pre)) = false → tParams l = false := fun hh => by
   simp only [tParams, hn, List.all_cons, tOrder]
   cases h1 : tParam x
   ·simp
   ·rw [h1] at hh
    simp only [Bool.true_and] at hh
    simp [hh]
  have next : (tParam x && !(!decide (x.mode = 2) && upB pre)) = true → (l.all tParam && tOrder false l) = (post.all tParam && tOrder (upB (pre ++ [x])) post) := fun hh => by
   rw [Bool.and_eq_true] at hh
   rw [hn, upB_snoc]
   simp only [List.all_cons, tOrder, hh.1, hh.2, Bool.true_and]
  simp only [go_sem,seval, lt_at hp, aia_sl (map_at hp) (eParam_len x)]
  refine tcE (Name_spec g x.name fx.1) ?_
  cases c1 : tName x.name
  ·simp only [go_sem,seval]
   refine lessQ.same ?_
   simp only [go_sem,seval]
   exact .same ⟨by rw [out (by simp [tParam, c1])], rfl⟩
  simp only [go_sem,seval, param_t]
  refine tcE (Type_spec g x.t fx.2.1.2.2) ?_
  cases c2 : tTyp x.t
  ·simp only [go_sem,seval]
   refine lessQ.same ?_
   simp only [go_sem,seval]
   exact .same ⟨by rw [out (by simp [tParam, c2])], rfl⟩
  by_cases c3 : 0 ≤ x.mode
  rotate_left
  ·simp only [go_sem,seval, show (x.mode < 0) = True by simp; omega]
   refine lessQ.same ?_
   simp only [go_sem,seval]
   exact .same ⟨by rw [out (by simp [tParam, c3])], rfl⟩
  by_cases c4 : x.mode ≤ 2
  rotate_left
  ·simp only [go_sem,seval, show (x.mode < 0) = False by simp; omega, show (x.mode > 2) = True by simp; omega]
   refine lessQ.same ?_
   simp only [go_sem,seval]
   exact .same ⟨by rw [out (by simp [tParam, c4])], rfl⟩
  simp only [go_sem,seval, show (x.mode < 0) = False by simp; omega, show (x.mode > 2) = False by simp; omega]
  by_cases m2 : x.mode = 2
  ·simp only [go_sem,seval, m2]
   refine ⟨_, _, WeakE.env ?_, ⟨next (by simp [tParam, c1, c2, m2]), rfl⟩, rfl⟩
   simp only [go_sem,seval, step_at hl hp]
  have good : (x.mode = 0 → x.t.size = 0 ∧ ¬ x.t.kind = 4) → tParam x = true := fun hh => by
   simp only [tParam, c1, c2, c3, c4, decide_true, Bool.true_and]
   by_cases m0 : x.mode = 0
   ·obtain ⟨a, b⟩ := hh m0; simp [m0, a, b]
   ·simp [m0]
  by_cases m0 : x.mode = 0
  ·by_cases s0 : x.t.size = 0
   ·by_cases k4 : x.t.kind = 4
    ·simp only [go_sem,seval, m0, s0, k4]
     refine lessQ.same ?_
     simp only [go_sem,seval]
     exact .same ⟨by rw [out (by simp [tParam, m0, k4])], rfl⟩
    ·have gd := good fun _ => ⟨s0, k4⟩
     simp only [go_sem,seval, m0, s0, k4]
     rcases nil_or_snoc pre with rfl | ⟨pre', y, rfl⟩
     ·simp only [go_sem,seval, show ((([] : List Param).length : Int) > 0) = False by simp]
      refine ⟨_, _, WeakE.env ?_, ⟨next (by rw [gd]; simp [upB]), rfl⟩, rfl⟩
      simp only [go_sem,seval, step_at hl hp]
     have hp2 : l = pre' ++ y :: (x :: post) := by rw [hp]; simp
     have hw : IntKind.i64.wrap (((pre' ++ [y]).length : Int) - 1) = (pre'.length : Int) := by
      unfold few at hl
      rw [hp] at hl; simp at hl
      rw [wrap64 (by first | (simp; done) | (simp; omega)) (by first | (simp; done) | (simp; omega))]; simp
     simp only [go_sem,seval, show (((pre' ++ [y]).length : Int) > 0) = True by first | (simp; done) | (simp; omega), hw, aia_sl (map_at hp2) (eParam_len y)]
     by_cases y2 : y.mode = 2
     ·simp only [go_sem,seval, y2]
      refine lessQ.same ?_
      simp only [go_sem,seval]
      exact .same ⟨by rw [out (by rw [upB_snoc]; simp [y2, m2])], rfl⟩
     simp only [go_sem,seval, y2]
     refine ⟨_, _, WeakE.env ?_, ⟨next (by rw [gd, upB_snoc]; simp [y2]), rfl⟩, rfl⟩
     simp only [go_sem,seval, step_at hl hp]
   ·simp only [go_sem,seval, m0, s0]
    refine lessQ.same ?_
    simp only [go_sem,seval]
    exact .same ⟨by rw [out (by simp [tParam, m0, s0])], rfl⟩
  ·have gd := good fun hh => absurd hh m0
   simp only [go_sem,seval, m0, m2]
   rcases nil_or_snoc pre with rfl | ⟨pre', y, rfl⟩
   ·simp only [go_sem,seval, show ((([] : List Param).length : Int) > 0) = False by simp]
    refine ⟨_, _, WeakE.env ?_, ⟨next (by rw [gd]; simp [upB]), rfl⟩, rfl⟩
    simp only [go_sem,seval, step_at hl hp]
   have hp2 : l = pre' ++ y :: (x :: post) := by rw [hp]; simp
   have hw : IntKind.i64.wrap (((pre' ++ [y]).length : Int) - 1) = (pre'.length : Int) := by
    unfold few at hl
    rw [hp] at hl; simp at hl
    rw [wrap64 (by first | (simp; done) | (simp; omega)) (by first | (simp; done) | (simp; omega))]; simp
   simp only [go_sem,seval, show (((pre' ++ [y]).length : Int) > 0) = True by first | (simp; done) | (simp; omega), hw, aia_sl (map_at hp2) (eParam_len y)]
   by_cases y2 : y.mode = 2
   ·simp only [go_sem,seval, y2]
    refine lessQ.same ?_
    simp only [go_sem,seval]
    exact .same ⟨by rw [out (by rw [upB_snoc]; simp [y2, m2])], rfl⟩
   simp only [go_sem,seval, y2]
   refine ⟨_, _, WeakE.env ?_, ⟨next (by rw [gd, upB_snoc]; simp [y2]), rfl⟩, rfl⟩
   simp only [go_sem,seval, step_at hl hp]
 ·rintro e g ⟨⟨hn, rfl⟩, rfl⟩
  simp only [go_sem,seval, lt_end]
  refine lessQ.same ?_
  simp only [go_sem,seval]
  exact .same ⟨by rw [tParams, hn, le512]; simp [tOrder], rfl⟩
end Pg.D1

namespace Pg.D1
open Go Go.Proofs.Tryz
set_option linter.all false
set_option maxHeartbeats 4000000
set_option maxRecDepth 4000
structure StIn (e : Env) (x : Stmt) (d : Int) : Prop where
 h0 : e.get 0 = .int .i64 1
 h2 : e.get 2 = .int .i64 d
 h4 : e.get 4 = .ip (eStmt x) 0
def StGo [GI] (c : RCode) (x : Stmt) (d : Int) (h : AHeap) (K : AV → AHeap → Prop) : Prop := ∀ e, StIn e x d → wT .go prog 179 c (fun y e' h' t => atEndT t [.tmp 6] (EndW K) y e' h') e h
section
variable {x : Stmt} {d : Int} {h : AHeap} {K : AV → AHeap → Prop}
theorem st_53 [GI] (hf : sBody x = false → K (.bool false) h) (hs : sBody x = true → StGo F54.c57 x d h K) : StGo F54.c53 x d h K := by
 intro e ⟨h0, h2, h4⟩
 delta F54.c53
 simp only [sBody] at hf hs
 simp only [go_sem,seval, h0, h2, h4, alen_texts]
 repeat' (refine agateT_split (fun hg => ?_) (fun hg => ?_) <;> simp only [go_sem,seval, hg, Bool.not_true, Bool.not_false, h0, h2, h4, alen_texts])
 all_goals
  first
  | refine hs ?_ _ ⟨by simp only [go_sem,seval, h0], by simp only [go_sem,seval, h2], by simp only [go_sem,seval, h4]⟩
  | refine .same (hf ?_)
  clear hs hf h0 h2 h4
  generalize x.body.length = nb at *
  generalize x.end1.length = ne at *
  try simp only [Bool.not_true, Bool.not_false, decide_eq_true_eq, decide_eq_false_iff_not] at *
  simp
  try omega
theorem st_49 [GI] (hf : sMore x = false → K (.bool false) h) (hs : sMore x = true → StGo F54.c53 x d h K) : StGo F54.c49 x d h K := by
 intro e ⟨h0, h2, h4⟩
 delta F54.c49
 simp only [sMore] at hf hs
 simp only [go_sem,seval, h0, h2, h4, alen_texts]
 cases hm : x.more
 all_goals
  rw [hm] at hf hs
  simp only [go_sem,seval, h0, h2, h4, hm, alen_texts]
  repeat' (refine agateT_split (fun hg => ?_) (fun hg => ?_) <;> simp only [go_sem,seval, hg, Bool.not_true, Bool.not_false, h0, h2, h4, hm, alen_texts])
 all_goals
  first
  | refine hs ?_ _ ⟨by simp only [go_sem,seval, h0], by simp only [go_sem,seval, h2], by simp only [go_sem,seval, h4]⟩
  | refine .same (hf ?_)
  clear hs hf h0 h2 h4
  generalize x.els.length = nb at *
  generalize x.end2.length = ne at *
  try simp only [Bool.not_true, Bool.not_false, decide_eq_true_eq, decide_eq_false_iff_not] at *
  simp
  try omega
theorem st_40 [GI] (fn : short x.name) (hf : sName x = false → K (.bool false) h) (hs : sName x = true → StGo F54.c49 x d h K) : StGo F54.c40 x d h K := by
 intro e ⟨h0, h2, h4⟩
 delta F54.c40
 by_cases h6 : x.op = 6
 ·simp only [sName, h6, if_true] at hf hs
  simp only [go_sem,seval, h0, h2, h4, h6]
  refine tcE (Name_spec h x.name fn) ?_
  cases hn : tName x.name
  ·simp only [go_sem,seval, h0, h2, h4]
   exact .same (hf hn)
  ·simp only [go_sem,seval, h0, h2, h4]
   exact hs hn _ ⟨by simp only [go_sem,seval, h0], by simp only [go_sem,seval, h2], by simp only [go_sem,seval, h4]⟩
 ·simp only [sName, h6, if_false, noBytes] at hf hs
  simp only [go_sem,seval, h0, h2, h4, h6]
  by_cases hn : x.name = (⟨#[]⟩ : ByteArray)
  ·cases hd : x.down
   ·simp only [go_sem,seval, h0, h2, h4, hn, hd]
    exact hs (by simp [hn, hd]) _ ⟨by simp only [go_sem,seval, h0], by simp only [go_sem,seval, h2], by simp only [go_sem,seval, h4]⟩
   ·simp only [go_sem,seval, h0, h2, h4, hn, hd]
    exact .same (hf (by simp [hn, hd]))
  ·simp only [go_sem,seval, h0, h2, h4, hn]
   exact .same (hf (by simp [hn]))
theorem st_31 [GI] (ho : x.p.ok) (fp : x.p.fit ∧ inE small x.p) (hf : sPlace x = false → K (.bool false) h) (hs : sPlace x = true → StGo F54.c40 x d h K) : StGo F54.c31 x d h K := by
 intro e ⟨h0, h2, h4⟩
 delta F54.c31
 by_cases h17 : x.op = 1 ∨ x.op = 7
 ·simp only [sPlace, h17, if_true] at hf hs
  rcases h17 with h17 | h17
  all_goals
   simp only [go_sem,seval, h0, h2, h4, h17, stmt_p]
   refine tcE (place_spec x.p ho fp h) ?_
   cases hn : tPlace x.p
   ·simp only [go_sem,seval, h0, h2, h4]
    exact .same (hf hn)
   ·simp only [go_sem,seval, h0, h2, h4]
    exact hs hn _ ⟨by simp only [go_sem,seval, h0], by simp only [go_sem,seval, h2], by simp only [go_sem,seval, h4]⟩
 ·simp only [sPlace, h17, if_false] at hf hs
  rw [not_or] at h17
  simp only [go_sem,seval, h0, h2, h4, h17.1, h17.2, stmt_p]
  refine tcE (none_spec x.p h) ?_
  cases hn : tNone x.p
  ·simp only [go_sem,seval, h0, h2, h4]
   exact .same (hf hn)
  ·simp only [go_sem,seval, h0, h2, h4]
   exact hs hn _ ⟨by simp only [go_sem,seval, h0], by simp only [go_sem,seval, h2], by simp only [go_sem,seval, h4]⟩
theorem st_19 [GI] (hl : few x.e) (he : ∀ y ∈ x.e, y.ok) (fe : ∀ y ∈ x.e, y.fit ∧ inE small y) (hf : x.e.all (sExpr x) = false → K (.bool false) h) (hs : x.e.all (sExpr x) = true → StGo F54.c31 x d h K) : StGo F54.c19 x d h K := by
 intro e ⟨h0, h2, h4⟩
 delta F54.c19
 simp only [go_sem,seval, h0, h2, h4]
 refine lT_list x.e (fun pre post e g => (x.e.all (sExpr x) = post.all (sExpr x) ∧ g = h) ∧ e = [(0, .int .i64 1), (2, .int .i64 d), (4, .ip (eStmt x) 0), (9, .int .i64 pre.length)]) (WeakE.env ?_) ⟨⟨rfl, rfl⟩, rfl⟩ ?_ ?_
 ·simp only [go_sem,seval, h0, h2, h4]
 ·rintro pre y post e g hp ⟨⟨hn, rfl⟩, rfl⟩
  simp only [go_sem,seval, lt_at hp, aia_sl (map_at hp) (eExpr_len y)]
  refine tcE (Expr_spec y (he y (mem_at hp)) (fe y (mem_at hp)) g) ?_
  have fail : sExpr x y = false → x.e.all (sExpr x) = false := fun hh => by rw [hn]; simp [hh]
  have good : sExpr x y = true → x.e.all (sExpr x) = post.all (sExpr x) := fun hh => by rw [hn]; simp [hh]
  cases hy : tExpr y
  ·simp only [go_sem,seval]
   refine lessQ.same ?_
   simp only [go_sem,seval]
   exact .same (hf (fail (by simp [sExpr, hy])))
  ·by_cases o2 : x.op = 2
   ·by_cases o7 : y.op = 7
    ·simp only [go_sem,seval, o2, o7, aia_sl (map_at hp) (eExpr_len y)]
     refine ⟨_, _, WeakE.env ?_, ⟨good (by simp [sExpr, hy, o2, o7]), rfl⟩, rfl⟩
     simp only [go_sem,seval, step_at hl hp]
    ·simp only [go_sem,seval, o2, o7, aia_sl (map_at hp) (eExpr_len y)]
     refine lessQ.same ?_
     simp only [go_sem,seval]
     exact .same (hf (fail (by simp [sExpr, hy, o2, o7])))
   ·simp only [go_sem,seval, o2]
    refine ⟨_, _, WeakE.env ?_, ⟨good (by simp [sExpr, hy, o2]), rfl⟩, rfl⟩
    simp only [go_sem,seval, step_at hl hp]
 ·rintro e g ⟨⟨hn, rfl⟩, rfl⟩
  simp only [go_sem,seval, lt_end]
  refine lessQ.same ?_
  simp only [go_sem,seval]
  exact hs (by rw [hn]; rfl) _ ⟨by simp only [go_sem,seval], by simp only [go_sem,seval], by simp only [go_sem,seval]⟩
theorem st_15' [GI] (want most : Int) (e : Env) (i : StIn e x d) (h7 : e.get 7 = .int .i64 want) (h8 : e.get 8 = .int .i64 most) (hs : (decide (want ≤ x.e.length) && decide ((x.e.length : Int) ≤ most)) = true → StGo F54.c19 x d h K) (hf : (decide (want ≤ x.e.length) && decide ((x.e.length : Int) ≤ most)) = false → K (.bool false) h) :
  wT .go prog 179 F54.c15 (fun y e' h' t => atEndT t [.tmp 6] (EndW K) y e' h') e h := by
 obtain ⟨h0, h2, h4⟩ := i
 delta F54.c15
 by_cases a : (x.e.length : Int) < want
 ·simp only [go_sem,seval, h0, h2, h4, h7, h8, a]
  exact .same (hf (by simp; omega))
 ·by_cases b : (x.e.length : Int) > most
  ·simp only [go_sem,seval, h0, h2, h4, h7, h8, a, b]
   exact .same (hf (by simp; omega))
  ·simp only [go_sem,seval, h0, h2, h4, h7, h8, a, b]
   exact hs (by simp; omega) _ ⟨by simp only [go_sem,seval, h0], by simp only [go_sem,seval, h2], by simp only [go_sem,seval, h4]⟩
theorem st_5 [GI] (hf : sCount x = false → K (.bool false) h) (hs : sCount x = true → StGo F54.c19 x d h K) : StGo F54.c5 x d h K := by
 intro e ⟨h0, h2, h4⟩
 delta F54.c5
 by_cases h6 : x.op = 6
 ·have ec : sCount x = (decide ((2 : Int) ≤ x.e.length) && decide ((x.e.length : Int) ≤ 2)) := by
   simp only [sCount, h6, if_true]; rw [Bool.eq_iff_iff]; simp <;> omega
  simp only [go_sem,seval, h0, h2, h4, h6]
  exact st_15' 2 2 _ ⟨by simp only [go_sem,seval, h0], by simp only [go_sem,seval, h2], by simp only [go_sem,seval, h4]⟩ (by simp only [go_sem,seval]) (by simp only [go_sem,seval]) (fun hh => hs (ec.trans hh)) (fun hh => hf (ec.trans hh))
 by_cases h7 : x.op = 7
 ·have ec : sCount x = (decide ((0 : Int) ≤ x.e.length) && decide ((x.e.length : Int) ≤ 0)) := by
   simp only [sCount, h7]; rw [Bool.eq_iff_iff]; simp <;> omega
  simp only [go_sem,seval, h0, h2, h4, h7]
  exact st_15' 0 0 _ ⟨by simp only [go_sem,seval, h0], by simp only [go_sem,seval, h2], by simp only [go_sem,seval, h4]⟩ (by simp only [go_sem,seval]) (by simp only [go_sem,seval]) (fun hh => hs (ec.trans hh)) (fun hh => hf (ec.trans hh))
 by_cases h9 : x.op = 9
 ·have ec : sCount x = (decide ((0 : Int) ≤ x.e.length) && decide ((x.e.length : Int) ≤ 1)) := by
   simp only [sCount, h9]; rw [Bool.eq_iff_iff]; simp <;> omega
  simp only [go_sem,seval, h0, h2, h4, h9]
  exact st_15' 0 1 _ ⟨by simp only [go_sem,seval, h0], by simp only [go_sem,seval, h2], by simp only [go_sem,seval, h4]⟩ (by simp only [go_sem,seval]) (by simp only [go_sem,seval]) (fun hh => hs (ec.trans hh)) (fun hh => hf (ec.trans hh))
 ·have ec : sCount x = (decide ((1 : Int) ≤ x.e.length) && decide ((x.e.length : Int) ≤ 1)) := by
   simp only [sCount, h6, h7, h9, if_false]; rw [Bool.eq_iff_iff]; simp <;> omega
  simp only [go_sem,seval, h0, h2, h4, h6, h7, h9]
  exact st_15' 1 1 _ ⟨by simp only [go_sem,seval, h0], by simp only [go_sem,seval, h2], by simp only [go_sem,seval, h4]⟩ (by simp only [go_sem,seval]) (by simp only [go_sem,seval]) (fun hh => hs (ec.trans hh)) (fun hh => hf (ec.trans hh))
theorem st_1 [GI] (ho : x.ok) (fx : x.fit) (h48 : d ≤ 48) (hf : sMarks x = false → K (.bool false) h) (hs : sMarks x = true → StGo F54.c5 x d h K) : StGo F54.c1 x d h K := by
 intro e ⟨h0, h2, h4⟩
 have hok := (Stmt.ok_iff x).1 ho
 have hft := (Stmt.fit_iff x).1 fx
 have hd : (d > 48) = False := by simp; omega
 delta F54.c1
 simp only [go_sem,seval, h0, h2, h4, hd, stmt_m]
 refine tcE (marks_spec h x.before x.trail hok.1 hok.2.1 hft.1 hft.2.1) ?_
 simp only [sMarks] at hf hs
 cases c1 : tMarks x.before x.trail
 ·simp only [go_sem,seval, h0, h2, h4]
  exact .same (hf (by simp [c1]))
 simp only [go_sem,seval, h0, h2, h4]
 refine tcE (notes_spec h x.end1 hok.2.2.2.2.2.2.2.2.2.1 hft.2.2.2.2.2.2.2.2.1) ?_
 cases c2 : tNotes x.end1
 ·simp only [go_sem,seval, h0, h2, h4]
  exact .same (hf (by simp [c2]))
 simp only [go_sem,seval, h0, h2, h4]
 refine tcE (notes_spec h x.end2 hok.2.2.2.2.2.2.2.2.2.2 hft.2.2.2.2.2.2.2.2.2) ?_
 cases c3 : tNotes x.end2
 ·simp only [go_sem,seval, h0, h2, h4]
  exact .same (hf (by simp [c3]))
 by_cases o1 : x.op < 1
 ·simp only [go_sem,seval, h0, h2, h4, o1]
  exact .same (hf (by simp; intros; omega))
 ·by_cases o9 : x.op > 9
  ·simp only [go_sem,seval, h0, h2, h4, o1, o9]
   exact .same (hf (by simp; intros; omega))
  ·simp only [go_sem,seval, h0, h2, h4, o1, o9]
   exact hs (by simp [c1, c2, c3]; omega) _ ⟨by simp only [go_sem,seval, h0], by simp only [go_sem,seval, h2], by simp only [go_sem,seval, h4]⟩
end
theorem tStmt_eq (x : Stmt) (d : Int) : tStmt x d = (decide (d ≤ 48) && tStmt1 x && (tStmts x.body (d + 1) && decide (x.body.length ≤ 512)) && (tStmts x.els (d + 1) && decide (x.els.length ≤ 512))) := by
 obtain ⟨before, trail, op, name, p, e, down, more, body, els, end1, end2⟩ := x; rw [tStmt]
def StmtsC [GI] (l : List Stmt) : Prop := ∀ (d : Int) (h : AHeap), 0 ≤ d → d ≤ 49 → ACalls prog 26 [.int .i64 1, .sl (l.map eStmt) false, .int .i64 d] h (fun v g => v = .bool (tStmts l d && decide (l.length ≤ 512)) ∧ g = h)
theorem tstmt_of [GI] (x : Stmt) (ho : x.ok) (fx : x.fit) (sx : inS small x) (ihb : StmtsC x.body) (ihe : StmtsC x.els) (d : Int) (h : AHeap) (hd0 : 0 ≤ d) (hd : d ≤ 49) :
  ACalls prog 54 [.int .i64 1, .agg (eStmt x), .int .i64 d] h (fun v g => v = .bool (tStmt x d) ∧ g = h) := by
 have hok := (Stmt.ok_iff x).1 ho
 have hft := (Stmt.fit_iff x).1 fx
 by_cases h48 : d ≤ 48
 ·
  refine F54.calls (by simp) ?_
  delta F54.c0
  simp only [go_sem,seval]
  have fail : ∀ {K : Prop}, tStmt1 x = false → (AV.bool false = .bool (tStmt x d) ∧ h = h) := by
   intro _ hh
   refine ⟨?_, rfl⟩
   rw [tStmt_eq, hh]; simp
  refine st_1 (x := x) (d := d) (h := h) (K := fun v g => v = .bool (tStmt x d) ∧ g = h) ho fx h48 (fun h1 => fail (K := True) (by simp [tStmt1, h1])) (fun h1 => ?_) _ ⟨by simp only [go_sem,seval], by simp only [go_sem,seval], by simp only [go_sem,seval]⟩
  refine st_5 (fun h2 => fail (K := True) (by simp [tStmt1, h2])) (fun h2 => ?_)
  refine st_19 hok.2.2.2.1 hok.2.2.2.2.1 (fun y hy => ⟨hft.2.2.2.2.2.1 y hy, inEs_mem ((inS_eq small x).1 sx).2.2.1 y hy⟩) (fun h3 => fail (K := True) (by simp only [tStmt1, h3]; simp)) (fun h3 => ?_)
  refine st_31 hok.2.2.1 ⟨hft.2.2.2.2.1, ((inS_eq small x).1 sx).2.1⟩ (fun h4 => fail (K := True) (by simp [tStmt1, h4])) (fun h4 => ?_)
  refine st_40 hft.2.2.2.1 (fun h5 => fail (K := True) (by simp [tStmt1, h5])) (fun h5 => ?_)
  refine st_49 (fun h6 => fail (K := True) (by simp [tStmt1, h6])) (fun h6 => ?_)
  refine st_53 (fun h7 => fail (K := True) (by simp [tStmt1, h7])) (fun h7 => ?_)
  have hall : tStmt1 x = true := by simp only [tStmt1, h1, h2, h3, h4, h5, h6, h7, Bool.and_self]
  have hw : IntKind.i64.wrap (d + 1) = d + 1 := wrap64 (by omega) (by omega)
  intro e ⟨g0, g2, g4⟩
  delta F54.c57
  simp only [go_sem,seval, g0, g2, g4, hw]
  refine tcE (ihb (d + 1) h (by omega) (by omega)) ?_
  cases hb : (tStmts x.body (d + 1) && decide (x.body.length ≤ 512))
  ·simp only [go_sem,seval, g0, g2, g4]
   refine .same ⟨?_, rfl⟩
   rw [tStmt_eq, hall, hb]; simp
  ·simp only [go_sem,seval, g0, g2, g4, hw]
   refine tcE (ihe (d + 1) h (by omega) (by omega)) ?_
   simp only [go_sem,seval]
   refine .same ⟨?_, rfl⟩
   rw [tStmt_eq, hall, hb]; simp [h48]
 ·have hd' : (d > 48) = True := by simp; omega
  refine F54.calls (by simp) ?_
  delta F54.c0 F54.c1
  simp only [go_sem,seval, hd']
  exact .same ⟨by rw [tStmt_eq]; simp [h48], rfl⟩
theorem tstmts_spec [GI] : ∀ (n : Nat) (l : List Stmt), Stmts.sz l ≤ n → few l → (∀ x ∈ l, x.ok) → (∀ x ∈ l, x.fit) → inSs small l → StmtsC l := by
 intro n
 induction n with
 | zero =>
  intro l hn hw ho hf hsm
  cases l with
  | cons x r => simp [Stmts.sz] at hn
  | nil =>
   intro d h hd0 hd
   refine F26.calls (by simp) ?_
   delta F26.c0
   simp only [go_sem,seval]
   refine lT_round ?_
   simp only [go_sem,seval]
   exact .same ⟨by simp [tStmts], rfl⟩
 | succ n ih =>
  intro l hn hw ho hf hsm d h hd0 hd
  refine F26.calls (by simp) ?_
  delta F26.c0
  simp only [go_sem,seval]
  refine lT_list l (fun pre post e g => (tStmts l d = tStmts post d ∧ g = h) ∧ e = [(0, .int .i64 1), (1, .sl (l.map eStmt) false), (2, .int .i64 d), (7, .int .i64 pre.length)]) (WeakE.env ?_) ⟨⟨rfl, rfl⟩, rfl⟩ ?_ ?_
  ·simp only [go_sem,seval]
  ·rintro pre x post e g hp ⟨⟨hs, rfl⟩, rfl⟩
   have hx := mem_at hp
   have hz := Stmts.sz_mem hx
   have hsz := Stmt.sz_eq x
   have sx := (inS_eq small x).1 (inSs_mem hsm x hx)
   have hok := (Stmt.ok_iff x).1 (ho x hx)
   have hft := (Stmt.fit_iff x).1 (hf x hx)
   have ihb : StmtsC x.body := ih x.body (by omega) hok.2.2.2.2.2.1 hok.2.2.2.2.2.2.1 hft.2.2.2.2.2.2.1 sx.2.2.2.1
   have ihe : StmtsC x.els := ih x.els (by omega) hok.2.2.2.2.2.2.2.1 hok.2.2.2.2.2.2.2.2.1 hft.2.2.2.2.2.2.2.1 sx.2.2.2.2
   simp only [go_sem,seval, lt_at hp, aia_sl (map_at hp) (eStmt_len x)]
   refine tcE (tstmt_of x (ho x hx) (hf x hx) (inSs_mem hsm x hx) ihb ihe d g hd0 hd) ?_
   cases ht : tStmt x d
   ·simp only [go_sem,seval]
    refine lessQ.same ?_
    simp only [go_sem,seval]
    exact .same ⟨by rw [hs]; simp [tStmts, ht], rfl⟩
   ·simp only [go_sem,seval]
    refine ⟨_, _, WeakE.env ?_, ⟨?_, rfl⟩, rfl⟩
    ·simp only [go_sem,seval, step_at hw hp]
    ·rw [hs]; simp [tStmts, ht]
  ·rintro e g ⟨⟨hs, rfl⟩, rfl⟩
   simp only [go_sem,seval, lt_end]
   refine lessQ.same ?_
   simp only [go_sem,seval]
   refine .same ⟨?_, rfl⟩
   rw [hs, le512]; simp [tStmts]
end Pg.D1

namespace Pg.D1
open Go Go.Proofs.Tryz
set_option linter.all false
set_option maxHeartbeats 4000000
set_option maxRecDepth 4000
theorem tRoutine_eq (ahead : List ByteArray) (x : Routine) (d : Int) : tRoutine ahead x d = (decide (d ≤ 48) && tMarks x.before x.trail && tNotes x.endd && tRName x.name && decide (0 ≤ x.result) && decide (x.result ≤ 3) && !among x.name ahead && decide (x.inner.length = 0) && tParams x.params && tVars x.vars && (tRoutines [] x.inner (d + 1) && decide (x.inner.length ≤ 512)) && (tStmts x.body 1 && decide (x.body.length ≤ 512))) := by
 obtain ⟨before, trail, name, result, params, vars, inner, body, endd⟩ := x; rw [tRoutine]
def TRoutinesC [GI] (l : List Routine) : Prop := ∀ (d : Int) (h : AHeap), 0 ≤ d → d ≤ 49 → ACalls prog 25 [.int .i64 1, .sl (l.map eRoutine) false, .int .i64 d] h (fun v g => v = .bool (tRoutines [] l d && decide (l.length ≤ 512)) ∧ g = h)
theorem troutines_of [GI] (l : List Routine) (ih : ∀ x ∈ l, TRoutinesC x.inner) (hw : few l) (ho : ∀ x ∈ l, x.ok) (hf : ∀ x ∈ l, x.fit) (hsm : inRs small l) : TRoutinesC l := by
  intro d h hd0 hd
  refine F25.calls (by simp) ?_
  delta F25.c0
  simp only [go_sem,seval]
  refine lT_list l (fun pre post e g => (tRoutines [] l d = tRoutines (pre.map (·.name)) post d ∧ g = h) ∧ e = [(0, .int .i64 1), (1, .sl (l.map eRoutine) false), (2, .int .i64 d), (7, .int .i64 pre.length)]) (WeakE.env ?_) ⟨⟨rfl, rfl⟩, rfl⟩ ?_ ?_
  · simp only [go_sem,seval]
  · rintro pre x post e g hp ⟨⟨hs, rfl⟩, rfl⟩
    have hx := mem_at hp
    have hok := (Routine.ok_iff x).1 (ho x hx)
    have hft := (Routine.fit_iff x).1 (hf x hx)
    have sx := (inR_eq small x).1 (inRs_mem hsm x hx)
    by_cases h48 : d ≤ 48
    ·
      have hd' : (d > 48) = False := by simp; omega
      have hwr : IntKind.i64.wrap (d + 1) = d + 1 := wrap64 (by omega) (by omega)
      simp only [go_sem,seval, lt_at hp, aia_sl (map_at hp) (eRoutine_len x), hd', routine_m]
      refine tcE (marks_spec g x.before x.trail hok.1 hok.2.1 hft.1 hft.2.1) ?_
      cases c1 : tMarks x.before x.trail
      all_goals simp only [go_sem,seval, aia_sl (map_at hp) (eRoutine_len x), routine_m]
      ·
       refine lessQ.same ?_
       simp only [go_sem,seval]
       exact .same ⟨by rw [hs]; simp [tRoutines, tRoutine_eq, c1], rfl⟩
      ·
       refine tcE (notes_spec g x.endd hok.2.2.2.2.2.2.2.2.2 hft.2.2.2.2.2.2.2.2) ?_
       cases c2 : tNotes x.endd
       all_goals simp only [go_sem,seval, aia_sl (map_at hp) (eRoutine_len x), routine_m]
       ·
        refine lessQ.same ?_
        simp only [go_sem,seval]
        exact .same ⟨by rw [hs]; simp [tRoutines, tRoutine_eq, c1, c2], rfl⟩
       ·
        refine tcE (RoutineName_spec g x.name ⟨hft.2.2.1, sx.1⟩) ?_
        cases c3 : tRName x.name
        all_goals simp only [go_sem,seval, aia_sl (map_at hp) (eRoutine_len x), routine_m]
        ·
         refine lessQ.same ?_
         simp only [go_sem,seval]
         exact .same ⟨by rw [hs]; simp [tRoutines, tRoutine_eq, c1, c2, c3], rfl⟩
        ·
         by_cases c4 : 0 ≤ x.result
         ·
          simp only [go_sem,seval, show (x.result < 0) = False by first | (simp; done) | (simp; omega), aia_sl (map_at hp) (eRoutine_len x), routine_m]
          by_cases c5 : x.result ≤ 3
          ·
           simp only [go_sem,seval, show (x.result > 3) = False by first | (simp; done) | (simp; omega), aia_sl (map_at hp) (eRoutine_len x), routine_m]
           have hple : few pre := by
             unfold few at hw ⊢
             rw [hp] at hw; simp at hw; omega
           refine lT_list pre (fun pre' post' e k => ((∀ z ∈ pre', ¬ z.name = x.name) ∧ k = g) ∧ e = [(0, .int .i64 1), (1, .sl (l.map eRoutine) false), (2, .int .i64 d), (7, .int .i64 pre.length), (8, .ip (eRoutine x) 0), (9, .int .i64 pre'.length)]) (WeakE.env ?_) ⟨⟨by simp, rfl⟩, rfl⟩ ?_ ?_
           · simp only [go_sem,seval]
           · rintro pre' y post' e k hp' ⟨⟨hn, rfl⟩, rfl⟩
             have hp2 : l = pre' ++ y :: (post' ++ x :: post) := by rw [hp, hp']; simp
             simp only [go_sem,seval, lt_at hp', aia_sl (map_at hp2) (eRoutine_len y)]
             by_cases hy : y.name = x.name
             ·
               simp only [go_sem,seval, hy]
               refine lessQ.same ?_
               simp only [go_sem,seval]
               have ham : among x.name (pre.map (·.name)) = true := by
                 simp only [among, List.any_eq_true]
                 exact ⟨y.name, List.mem_map.2 ⟨y, mem_at hp', rfl⟩, by simp [hy]⟩
               refine lessQ.same ?_
               simp only [go_sem,seval]
               exact .same ⟨by rw [hs]; simp [tRoutines, tRoutine_eq, ham], rfl⟩
             ·
               simp only [go_sem,seval, hy]
               refine ⟨_, _, WeakE.env ?_, ⟨?_, rfl⟩, rfl⟩
               · simp only [go_sem,seval, step_at hple hp']
               · intro z hz
                 rcases List.mem_append.1 hz with hz | hz
                 · exact hn z hz
                 · simp at hz; subst hz; exact hy
           · rintro e k ⟨⟨hn, rfl⟩, rfl⟩
             have ham : among x.name (pre.map (·.name)) = false := by
               simp only [among, List.any_eq_false, List.mem_map]
               rintro n ⟨z, hz, rfl⟩
               simp [hn z hz]
             simp only [go_sem,seval, lt_end]
             refine lessQ.same ?_
             simp only [go_sem,seval]
             by_cases d0 : x.inner.length = 0
             ·
              simp only [go_sem,seval, eq_false (show ¬ ((x.inner.length : Int) > 0) by omega), hwr]
              refine tcE (params_spec k x.params hok.2.2.1 hft.2.2.2.2.1) ?_
              cases d1 : tParams x.params
              all_goals simp only [go_sem,seval, hwr]
              ·
               refine lessQ.same ?_
               simp only [go_sem,seval]
               exact .same ⟨by rw [hs]; simp [tRoutines, tRoutine_eq, c1, c2, c3, c4, c5, d1], rfl⟩
              ·
               refine tcE (vars_spec k x.vars hok.2.2.2.1 hok.2.2.2.2.1 hft.2.2.2.2.2.1) ?_
               cases d2 : tVars x.vars
               all_goals simp only [go_sem,seval, hwr]
               ·
                refine lessQ.same ?_
                simp only [go_sem,seval]
                exact .same ⟨by rw [hs]; simp [tRoutines, tRoutine_eq, c1, c2, c3, c4, c5, d1, d2], rfl⟩
               ·
                refine tcE (ih x hx (d + 1) k (by omega) (by omega)) ?_
                cases d3 : (tRoutines [] x.inner (d + 1) && decide (x.inner.length ≤ 512))
                all_goals simp only [go_sem,seval, hwr]
                ·
                 refine lessQ.same ?_
                 simp only [go_sem,seval]
                 exact .same ⟨by rw [hs]; simp [tRoutines, tRoutine_eq, c1, c2, c3, c4, c5, d1, d2, d3], rfl⟩
                ·
                 refine tcE (tstmts_spec _ x.body (Nat.le_refl _) hok.2.2.2.2.2.2.2.1 hok.2.2.2.2.2.2.2.2.1 hft.2.2.2.2.2.2.2.1 sx.2.2.2.2 1 k (by omega) (by omega)) ?_
                 cases d4 : (tStmts x.body 1 && decide (x.body.length ≤ 512))
                 all_goals simp only [go_sem,seval, hwr]
                 ·
                  refine lessQ.same ?_
                  simp only [go_sem,seval]
                  exact .same ⟨by rw [hs]; simp [tRoutines, tRoutine_eq, c1, c2, c3, c4, c5, d1, d2, d3, d4], rfl⟩
                 ·
                  refine ⟨_, _, WeakE.env ?_, ⟨?_, rfl⟩, rfl⟩
                  · simp only [go_sem,seval, step_at hw hp]
                  · rw [hs]; simp only [tRoutines, tRoutine_eq, decide_eq_true h48, c1, c2, c3, decide_eq_true c4, decide_eq_true c5, ham, decide_eq_true d0, d1, d2, d3, d4, Bool.not_false, Bool.and_true, Bool.true_and, List.map_append, List.map_cons, List.map_nil]
             ·
              simp only [go_sem,seval, eq_true (show (x.inner.length : Int) > 0 by omega), hwr]
              refine lessQ.same ?_
              simp only [go_sem,seval]
              exact .same ⟨by rw [hs]; simp [tRoutines, tRoutine_eq, c1, c2, c3, c4, c5, d0], rfl⟩
          ·
           simp only [go_sem,seval, show (x.result > 3) = True by first | (simp; done) | (simp; omega), aia_sl (map_at hp) (eRoutine_len x), routine_m]
           refine lessQ.same ?_
           simp only [go_sem,seval]
           exact .same ⟨by rw [hs]; simp [tRoutines, tRoutine_eq, c1, c2, c3, c4, c5], rfl⟩
         ·
          simp only [go_sem,seval, show (x.result < 0) = True by first | (simp; done) | (simp; omega), aia_sl (map_at hp) (eRoutine_len x), routine_m]
          refine lessQ.same ?_
          simp only [go_sem,seval]
          exact .same ⟨by rw [hs]; simp [tRoutines, tRoutine_eq, c1, c2, c3, c4], rfl⟩
    ·
      have hd' : (d > 48) = True := by simp; omega
      simp only [go_sem,seval, lt_at hp, aia_sl (map_at hp) (eRoutine_len x), hd']
      refine lessQ.same ?_
      simp only [go_sem,seval]
      exact .same ⟨by rw [hs]; simp [tRoutines, tRoutine_eq, h48], rfl⟩
  · rintro e g ⟨⟨hs, rfl⟩, rfl⟩
    simp only [go_sem,seval, lt_end]
    refine lessQ.same ?_
    simp only [go_sem,seval]
    refine .same ⟨?_, rfl⟩
    rw [hs, le512]; simp [tRoutines]
theorem troutines_spec [GI] : ∀ (n : Nat) (l : List Routine), Routines.sz l ≤ n → few l → (∀ x ∈ l, x.ok) → (∀ x ∈ l, x.fit) → inRs small l → TRoutinesC l := by
 intro n
 induction n with
 | zero =>
  intro l hn hw ho hf hsm
  refine troutines_of l (fun x hx => ?_) hw ho hf hsm
  have := Routines.sz_mem hx
  omega
 | succ n ih =>
  intro l hn hw ho hf hsm
  refine troutines_of l (fun x hx => ?_) hw ho hf hsm
  have hz1 := Routines.sz_mem hx
  have hz2 := Routine.sz_eq x
  have hok := (Routine.ok_iff x).1 (ho x hx)
  have hft := (Routine.fit_iff x).1 (hf x hx)
  exact @ih x.inner (by omega) hok.2.2.2.2.2.1 hok.2.2.2.2.2.2.1 hft.2.2.2.2.2.2.1 ((inR_eq small x).1 (inRs_mem hsm x hx)).2.2.2.1
end Pg.D1

namespace Pg.D1
open Go Go.Proofs.Tryz
set_option linter.all false
set_option maxHeartbeats 4000000
set_option maxRecDepth 4000
theorem tPrg_spec [GI] (p : Prg) (ho : p.ok) (hf : p.fit) (hsm : inP small p) (h : AHeap) : ACalls prog 8 [.int .i64 1, .agg (ePrg p)] h (fun v g => v = .bool (tPrg p) ∧ g = h) := by
  refine F8.calls (by simp) ?_
  delta F8.c0
  simp only [go_sem,seval]
  refine tcE (Name_spec h p.name hf.1) ?_
  cases a1 : tName p.name
  all_goals simp only [go_sem,seval, Bool.not_true]
  ·
   exact .same ⟨by simp [tPrg, a1], rfl⟩
  ·
   refine tcE (notes_spec h p.before ho.before hf.2.1) ?_
   cases a2 : tNotes p.before
   all_goals simp only [go_sem,seval, Bool.not_true]
   ·
    exact .same ⟨by simp [tPrg, a1, a2], rfl⟩
   ·
    refine tcE (notes_spec h p.mid ho.mid hf.2.2.1) ?_
    cases a3 : tNotes p.mid
    all_goals simp only [go_sem,seval, Bool.not_true]
    ·
     exact .same ⟨by simp [tPrg, a1, a2, a3], rfl⟩
    ·
     refine tcE (notes_spec h p.after ho.after hf.2.2.2.1) ?_
     cases a4 : tNotes p.after
     all_goals simp only [go_sem,seval, Bool.not_true]
     ·
      exact .same ⟨by simp [tPrg, a1, a2, a3, a4], rfl⟩
     ·
      refine tcE (notes_spec h p.endd ho.endd hf.2.2.2.2.2.2.2.2) ?_
      cases a5 : tNotes p.endd
      all_goals simp only [go_sem,seval, Bool.not_true]
      ·
       exact .same ⟨by simp [tPrg, a1, a2, a3, a4, a5], rfl⟩
      ·
       by_cases a6 : p.recs.length ≤ 512
       ·
        simp only [go_sem,seval, show ((p.recs.length : Int) > 512) = False by first | (simp; done) | (simp; omega), Bool.not_true]
        refine lT_list p.recs (fun pre post e g => (p.recs.all tRec = post.all tRec ∧ g = h) ∧ e = [(0, .int .i64 1), (3, .ip (ePrg p) 0), (5, .int .i64 pre.length)]) (WeakE.env ?_) ⟨⟨rfl, rfl⟩, rfl⟩ ?_ ?_
        · simp only [go_sem,seval]
        · rintro pre x post e g hp ⟨⟨hs, rfl⟩, rfl⟩
          have hx := ho.eachRec x (mem_at hp)
          have fx := hf.2.2.2.2.1 x (mem_at hp)
          simp only [go_sem,seval, lt_at hp, aia_sl (map_at hp) (eRec_len x), rec_m]
          refine tcE (marks_spec g x.before x.trail hx.before hx.trail fx.1 fx.2.1) ?_
          cases r1 : tMarks x.before x.trail
          all_goals simp only [go_sem,seval, aia_sl (map_at hp) (eRec_len x), rec_m]
          ·
           refine lessQ.same ?_
           simp only [go_sem,seval]
           have hr : p.recs.all tRec = false := by rw [hs]; simp [tRec, r1]
           exact .same ⟨by simp [tPrg, hr], rfl⟩
          ·
           refine tcE (notes_spec g x.endd hx.endd fx.2.2.2.2) ?_
           cases r2 : tNotes x.endd
           all_goals simp only [go_sem,seval, aia_sl (map_at hp) (eRec_len x), rec_m]
           ·
            refine lessQ.same ?_
            simp only [go_sem,seval]
            have hr : p.recs.all tRec = false := by rw [hs]; simp [tRec, r1, r2]
            exact .same ⟨by simp [tPrg, hr], rfl⟩
           ·
            refine tcE (Name_spec g x.name fx.2.2.1) ?_
            cases r3 : tName x.name
            all_goals simp only [go_sem,seval, aia_sl (map_at hp) (eRec_len x), rec_m]
            ·
             refine lessQ.same ?_
             simp only [go_sem,seval]
             have hr : p.recs.all tRec = false := by rw [hs]; simp [tRec, r1, r2, r3]
             exact .same ⟨by simp [tPrg, hr], rfl⟩
            ·
             by_cases r4 : ¬ x.fields.length = 0
             ·
              simp only [go_sem,seval, show ((x.fields.length : Int) = 0) = False by simpa using r4, aia_sl (map_at hp) (eRec_len x), rec_m]
              by_cases r5 : x.fields.length ≤ 512
              ·
               simp only [go_sem,seval, show ((x.fields.length : Int) > 512) = False by first | (simp; done) | (simp; omega), aia_sl (map_at hp) (eRec_len x), rec_m]
               refine lT_list x.fields (fun pre' post' e k => (x.fields.all tFld = post'.all tFld ∧ k = g) ∧ e = [(0, .int .i64 1), (3, .ip (ePrg p) 0), (5, .int .i64 pre.length), (6, .ip (eRec x) 0), (7, .int .i64 pre'.length)]) (WeakE.env ?_) ⟨⟨rfl, rfl⟩, rfl⟩ ?_ ?_
               · simp only [go_sem,seval]
               · rintro pre' y post' e k hp' ⟨⟨hn, rfl⟩, rfl⟩
                 have hy := hx.each y (mem_at hp')
                 have fy := fx.2.2.2.1 y (mem_at hp')
                 simp only [go_sem,seval, lt_at hp', aia_sl (map_at hp') (eFld_len y), fld_m]
                 refine tcE (marks_spec k y.before y.trail hy.before hy.trail fy.1 fy.2.1) ?_
                 cases f1 : tMarks y.before y.trail
                 all_goals simp only [go_sem,seval, aia_sl (map_at hp') (eFld_len y), fld_m]
                 ·
                  refine lessQ.same ?_
                  simp only [go_sem,seval]
                  refine lessQ.same ?_
                  simp only [go_sem,seval]
                  have hfl : x.fields.all tFld = false := by rw [hn]; simp [tFld, f1]
                  have hr : p.recs.all tRec = false := by rw [hs]; simp only [List.all_cons, tRec, hfl, Bool.and_false, Bool.false_and]
                  exact .same ⟨by simp only [tPrg, hr, Bool.and_false, Bool.false_and], rfl⟩
                 ·
                  refine tcE (Name_spec k y.name fy.2.2.1) ?_
                  cases f2 : tName y.name
                  all_goals simp only [go_sem,seval, aia_sl (map_at hp') (eFld_len y), fld_m]
                  ·
                   refine lessQ.same ?_
                   simp only [go_sem,seval]
                   refine lessQ.same ?_
                   simp only [go_sem,seval]
                   have hfl : x.fields.all tFld = false := by rw [hn]; simp [tFld, f1, f2]
                   have hr : p.recs.all tRec = false := by rw [hs]; simp only [List.all_cons, tRec, hfl, Bool.and_false, Bool.false_and]
                   exact .same ⟨by simp only [tPrg, hr, Bool.and_false, Bool.false_and], rfl⟩
                  ·
                   by_cases f3 : 1 ≤ y.kind
                   ·
                    simp only [go_sem,seval, show (y.kind < 1) = False by first | (simp; done) | (simp; omega), aia_sl (map_at hp') (eFld_len y), fld_m]
                    by_cases f4 : y.kind ≤ 3
                    ·
                     simp only [go_sem,seval, show (y.kind > 3) = False by first | (simp; done) | (simp; omega), aia_sl (map_at hp') (eFld_len y), fld_m]
                     refine ⟨_, _, WeakE.env ?_, ⟨?_, rfl⟩, rfl⟩
                     · simp only [go_sem,seval, step_at hx.fields hp']
                     · rw [hn]; simp [tFld, f1, f2, f3, f4]
                    ·
                     simp only [go_sem,seval, show (y.kind > 3) = True by first | (simp; done) | (simp; omega), aia_sl (map_at hp') (eFld_len y), fld_m]
                     refine lessQ.same ?_
                     simp only [go_sem,seval]
                     refine lessQ.same ?_
                     simp only [go_sem,seval]
                     have hfl : x.fields.all tFld = false := by rw [hn]; simp [tFld, f1, f2, f3, f4]
                     have hr : p.recs.all tRec = false := by rw [hs]; simp only [List.all_cons, tRec, hfl, Bool.and_false, Bool.false_and]
                     exact .same ⟨by simp only [tPrg, hr, Bool.and_false, Bool.false_and], rfl⟩
                   ·
                    simp only [go_sem,seval, show (y.kind < 1) = True by first | (simp; done) | (simp; omega), aia_sl (map_at hp') (eFld_len y), fld_m]
                    refine lessQ.same ?_
                    simp only [go_sem,seval]
                    refine lessQ.same ?_
                    simp only [go_sem,seval]
                    have hfl : x.fields.all tFld = false := by rw [hn]; simp [tFld, f1, f2, f3]
                    have hr : p.recs.all tRec = false := by rw [hs]; simp only [List.all_cons, tRec, hfl, Bool.and_false, Bool.false_and]
                    exact .same ⟨by simp only [tPrg, hr, Bool.and_false, Bool.false_and], rfl⟩
               · rintro e k ⟨⟨hn, rfl⟩, rfl⟩
                 simp only [go_sem,seval, lt_end]
                 refine lessQ.same ?_
                 simp only [go_sem,seval]
                 have hfl : x.fields.all tFld = true := by rw [hn]; rfl
                 refine ⟨_, _, WeakE.env ?_, ⟨?_, rfl⟩, rfl⟩
                 · simp only [go_sem,seval, step_at ho.recs hp]
                 · rw [hs]; simp [tRec, hfl, r1, r2, r3, r4, r5]
              ·
               simp only [go_sem,seval, show ((x.fields.length : Int) > 512) = True by first | (simp; done) | (simp; omega), aia_sl (map_at hp) (eRec_len x), rec_m]
               refine lessQ.same ?_
               simp only [go_sem,seval]
               have hr : p.recs.all tRec = false := by rw [hs]; simp [tRec, r1, r2, r3, r4, r5]
               exact .same ⟨by simp [tPrg, hr], rfl⟩
             ·
              simp only [go_sem,seval, show ((x.fields.length : Int) = 0) = True by simpa using r4, aia_sl (map_at hp) (eRec_len x), rec_m]
              refine lessQ.same ?_
              simp only [go_sem,seval]
              have hr : p.recs.all tRec = false := by rw [hs]; simp [tRec, r1, r2, r3, show x.fields.length = 0 by omega]
              exact .same ⟨by simp [tPrg, hr], rfl⟩
        · rintro e g ⟨⟨hs, rfl⟩, rfl⟩
          simp only [go_sem,seval, lt_end]
          refine lessQ.same ?_
          simp only [go_sem,seval]
          have hr : p.recs.all tRec = true := by rw [hs]; rfl
          refine tcE (vars_spec g p.vars ho.vars ho.eachVar hf.2.2.2.2.2.1) ?_
          cases e1 : tVars p.vars
          all_goals simp only [go_sem,seval, Bool.not_true]
          ·
           exact .same ⟨by simp [tPrg, hr, a1, a2, a3, a4, a5, a6, e1], rfl⟩
          ·
           refine tcE (troutines_spec _ p.routines (Nat.le_refl _) ho.routines ho.eachRoutine hf.2.2.2.2.2.2.1 hsm.routines 1 g (by omega) (by omega)) ?_
           cases e2 : (tRoutines [] p.routines 1 && decide (p.routines.length ≤ 512))
           all_goals simp only [go_sem,seval, Bool.not_true]
           ·
            exact .same ⟨by simp [tPrg, hr, a1, a2, a3, a4, a5, a6, e1, e2], rfl⟩
           ·
            refine tcE (tstmts_spec _ p.body (Nat.le_refl _) ho.body ho.eachStmt hf.2.2.2.2.2.2.2.1 hsm.body 1 g (by omega) (by omega)) ?_
            cases e3 : (tStmts p.body 1 && decide (p.body.length ≤ 512))
            all_goals simp only [go_sem,seval, Bool.not_true]
            ·
             exact .same ⟨by simp [tPrg, hr, a1, a2, a3, a4, a5, a6, e1, e2, e3], rfl⟩
            ·
             exact .same ⟨by simp [tPrg, hr, a1, a2, a3, a4, a5, a6, e1, e2, e3], rfl⟩
       ·
        simp only [go_sem,seval, show ((p.recs.length : Int) > 512) = True by first | (simp; done) | (simp; omega), Bool.not_true]
        exact .same ⟨by simp [tPrg, a1, a2, a3, a4, a5, a6], rfl⟩
end Pg.D1

namespace Pg
open Go
set_option linter.all false
set_option maxRecDepth 4000
def Both1 (s : ByteArray) : Prop := s = noBytes ∨ D1.tName s = true
theorem tName_ne {s : ByteArray} (h : tName s = true) : s ≠ noBytes := by
 rintro rfl
 simp [tName, nameCode] at h
theorem Both1.name {s : ByteArray} (h : Both1 s) (t : tName s = true) : D1.tName s = true := h.resolve_left (tName_ne t)
theorem rname_plain {s : ByteArray} (t : tName s = true) (h : D1.tName s = true) : D1.tRName s = true := by
 unfold D1.tRName; rw [parts_plain (tName_plain t)]; simpa using h
theorem typ_right {t : Typ} (h : tTyp t = true) (b : Both1 t.name) : D1.tTyp t = true := by
 unfold tTyp at h
 unfold D1.tTyp
 split at h
 ·rename_i hk
  rw [if_pos hk]
  simp only [Bool.and_eq_true] at h ⊢
  exact ⟨h.1, b.name h.2⟩
 ·rename_i hk
  rw [if_neg hk]; exact h
theorem forms_all (n : Nat) : ∀ l : List Expr, forms n l = true → ∀ y ∈ l, y.op ≠ 25 ∧ form n y = true
 | [], _ => by simp
 | x :: r, h => by
  simp only [forms, Bool.and_eq_true, Bool.not_eq_true', decide_eq_false_iff_not] at h
  intro y hy
  rcases List.mem_cons.1 hy with rfl | hy
  ·exact h.1
  ·exact forms_all n r h.2 y hy
structure CF (P : ByteArray × Nat → Prop) (f : ByteArray → Option (ByteArray × List Param)) : Prop where
 h : ∀ name path us, f name = some (path, us) → D1.tRName path = true ∧ (∀ u ∈ us, D1.tName u.name = true) ∧ ∀ k, P (name, k) → k + us.length ≤ 512
theorem liftE_op (f : ByteArray → Option (ByteArray × List Param)) (x : Expr) : (liftE f x).op = x.op := by
 rw [liftE_eq]; split
 ·split <;> rfl
 ·rfl
theorem liftEs_len (f : ByteArray → Option (ByteArray × List Param)) (l : List Expr) : (liftEs f l).length = l.length := by rw [liftEs_map, List.length_map]
theorem liftSs_len (f : ByteArray → Option (ByteArray × List Param)) (l : List Stmt) : (liftSs f l).length = l.length := by rw [liftSs_map, List.length_map]
theorem forms_ups (n : Nat) : ∀ (us : List Param) (up : Bool), (∀ u ∈ us, D1.tName u.name = true) → D1.forms n true up (us.map upE) = true
 | [], up, _ => by simp [D1.forms]
 | u :: us, up, h => by
  simp only [List.map_cons, D1.forms]
  rw [forms_ups n us _ fun v hv => h v (by simp [hv])]
  simp [upE, D1.upsOk, h u (by simp)]
theorem forms_right (n : Nat) (c : Bool) (tail : List Expr) : ∀ l : List Expr, (∀ y ∈ l, y.op ≠ 25 ∧ D1.form n y = true) → D1.forms n c false tail = true → D1.forms n c false (l ++ tail) = true
 | [], _, h => h
 | x :: r, hl, h => by
  obtain ⟨h1, h2⟩ := hl x (by simp)
  simp only [List.cons_append, D1.forms, if_neg h1, h2, decide_eq_false h1, Bool.or_false, Bool.not_false, Bool.true_and]
  exact forms_right n c tail r (fun y hy => hl y (by simp [hy])) h
section
variable {P : ByteArray × Nat → Prop} {f : ByteArray → Option (ByteArray × List Param)} (F : CF P f)
include F
theorem callEs_in {l : List Expr} {y : Expr} (hy : y ∈ l) {q : ByteArray × Nat} (h : q ∈ Ac.callE y) : q ∈ Ac.callEs l := by
 induction l with
 | nil => cases hy
 | cons z r ih =>
  simp only [Ac.callEs, List.mem_append]
  rcases List.mem_cons.1 hy with rfl | hy
  ·exact .inl h
  ·exact .inr (ih hy)
theorem form_right : ∀ (n : Nat) (x : Expr), form n x = true → inE Both1 x → (∀ q ∈ Ac.callE x, P q) → D1.form n (liftE f x) = true
 | 0, x, h, _, _ => by simp [form] at h
 | n + 1, x, h, hi, hq => by
  obtain ⟨b1, b2, b3⟩ := (inE_eq Both1 x).1 hi
  rw [Ac.callE_eq] at hq
  rw [form_eq] at h
  simp only [Bool.and_eq_true, decide_eq_true_eq] at h
  obtain ⟨⟨⟨⟨h1, h2⟩, h3⟩, h4⟩, h5⟩ := h
  have hall := forms_all n x.l h5
  have hsub : ∀ y ∈ liftEs f x.l, y.op ≠ 25 ∧ D1.form n y = true := fun y hy => by
   rw [liftEs_map] at hy
   obtain ⟨z, hz, rfl⟩ := List.mem_map.1 hy
   obtain ⟨a, b⟩ := hall z hz
   exact ⟨by rw [liftE_op]; exact a, form_right n z b (inEs_mem b3 z hz) fun q hq' => hq q (List.mem_append.2 (.inr (callEs_in F hz hq')))⟩
  have hs0 : ∀ c, D1.forms n c false (liftEs f x.l) = true := fun c => by
   have := forms_right n c [] (liftEs f x.l) hsub (by simp [D1.forms])
   simpa using this
  simp only [partsOk, Bool.and_eq_true] at h4
  obtain ⟨⟨⟨p1, p2⟩, p3⟩, p4⟩ := h4
  have pf : (if x.op = 6 then D1.tName x.field else decide (x.field = noBytes)) = true := by
   split at p3
   ·rename_i h6; rw [if_pos h6]; exact b2.name p3
   ·rename_i h6; rw [if_neg h6]; exact p3
  have plain_ : ∀ y : Expr, y = { x with l := liftEs f x.l } → D1.form (n + 1) y = true := fun y hy => by
   subst hy
   rw [D1.form_eq]
   simp only [Bool.and_eq_true, decide_eq_true_eq, D1.partsOk, liftEs_len]
   refine ⟨⟨⟨⟨h1, h2⟩, h3⟩, ⟨⟨p1, ?_⟩, pf⟩, of_decide_eq_true p4⟩, hs0 _⟩
   by_cases h7 : x.op = 7
   ·rw [if_pos (by omega)] at p2
    rw [if_pos h7]; exact rname_plain p2 (b1.name p2)
   ·rw [if_neg h7]
    split at p2
    ·rw [if_pos (by omega)]; exact b1.name p2
    ·rw [if_neg (by omega)]; exact p2
  rw [liftE_eq]
  split
  ·rename_i h7
   split
   ·rename_i path us he
    obtain ⟨f1, f2, f3⟩ := F.h _ _ _ he
    have hk := f3 x.l.length (hq _ (by simp [h7]))
    rw [D1.form_eq]
    simp only [Bool.and_eq_true, decide_eq_true_eq, D1.partsOk, List.length_append, liftEs_len, List.length_map]
    refine ⟨⟨⟨⟨hk, h2⟩, h3⟩, ⟨⟨p1, by rw [if_pos h7]; exact f1⟩, pf⟩, by rw [if_pos h7]⟩, ?_⟩
    rw [decide_eq_true h7]
    exact forms_right n true _ _ hsub (forms_ups n us false f2)
   ·exact plain_ _ rfl
  ·exact plain_ _ rfl
omit F in
theorem deeps_ups (n : Nat) (us : List Param) : ∀ l : List Expr, deeps n (l ++ us.map upE) = deeps n l
 | [] => by
  cases n with
  | zero => rw [deeps_zero, deeps_zero]
  | succ n =>
   induction us with
   | nil => rfl
   | cons u us ih =>
    simp only [List.nil_append, List.map_cons] at ih ⊢
    rw [deeps_cons, ih, deeps_nil]
    simp [upE]
 | x :: r => by
  cases n with
  | zero => rw [deeps_zero, deeps_zero]
  | succ n => rw [List.cons_append, deeps_cons, deeps_cons, deeps_ups (n + 1) us r]
omit F in
theorem deep_lift : ∀ (n : Nat) (x : Expr), deep n (liftE f x) = deep n x
 | n, x => by
  have hl : deeps n (liftEs f x.l) = deeps n x.l := by
   cases n with
   | zero => rw [deeps_zero, deeps_zero]
   | succ n =>
    generalize x.l = l
    induction l with
    | nil => rfl
    | cons y r ih => simp only [liftEs]; rw [deeps_cons, deeps_cons, ih, liftE_op, deep_lift n y]
  rw [liftE_eq]
  split
  ·split
   ·rw [deep_eq, deep_eq, deeps_ups, hl]
   ·rw [deep_eq, deep_eq, hl]
  ·rw [deep_eq, deep_eq, hl]
theorem expr_right {x : Expr} (h : tExpr x = true) (hi : inE Both1 x) (hq : ∀ q ∈ Ac.callE x, P q) : D1.tExpr (liftE f x) = true := by
 simp only [tExpr, Bool.and_eq_true] at h
 simp only [D1.tExpr, Bool.and_eq_true, form_right F 48 x h.1 hi hq, deep_lift, true_and]
 exact h.2
theorem stmt_right {x : Stmt} (h : tStmt1 x = true) (hi : inS Both1 x) (hq : ∀ q ∈ Ac.callS x, P q) : D1.tStmt1 (liftS f x) = true := by
 obtain ⟨b1, b2, b3, b4, b5⟩ := (inS_eq Both1 x).1 hi
 rw [Ac.callS_eq] at hq
 simp only [tStmt1, Bool.and_eq_true] at h
 obtain ⟨⟨⟨⟨⟨⟨h1, h2⟩, h3⟩, h4⟩, h5⟩, h6⟩, h7⟩ := h
 rw [liftS_eq]
 simp only [D1.tStmt1, Bool.and_eq_true]
 refine ⟨⟨⟨⟨⟨⟨h1, ?_⟩, ?_⟩, ?_⟩, ?_⟩, ?_⟩, ?_⟩
 ·simpa only [sCount, liftEs_len] using h2
 ·rw [List.all_eq_true] at h3 ⊢
  intro y hy
  rw [liftEs_map] at hy
  obtain ⟨z, hz, rfl⟩ := List.mem_map.1 hy
  have := h3 z hz
  simp only [sExpr, D1.sExpr, Bool.and_eq_true, liftE_op] at this ⊢
  exact ⟨expr_right F this.1 (inEs_mem b3 z hz) fun q hq' => hq q (by simp [callEs_in F hz hq']), this.2⟩
 ·simp only [sPlace, D1.sPlace] at h4 ⊢
  split at h4
  ·rename_i h17
   rw [if_pos h17]
   simp only [tPlace, Bool.and_eq_true, decide_eq_true_eq] at h4
   obtain ⟨⟨p1, p2⟩, p3⟩ := h4
   have e : ({ x.p with l := liftEs f x.p.l } : Expr) = liftE f x.p := by rw [liftE_eq, if_neg (by omega)]
   rw [e]
   simp only [D1.tPlace, Bool.and_eq_true, decide_eq_true_eq, liftE_op]
   exact ⟨⟨p1, p2⟩, expr_right F p3 b2 fun q hq' => hq q (by simp [hq'])⟩
  ·rename_i h17
   rw [if_neg h17]
   simpa only [tNone, liftEs_len] using h4
 ·simp only [sName, D1.sName] at h5 ⊢
  split at h5
  ·rename_i h6'; rw [if_pos h6']; exact b1.name h5
  ·rename_i h6'; rw [if_neg h6']; exact h5
 ·simpa only [sMore, liftSs_len] using h6
 ·simpa only [sBody, liftSs_len] using h7
theorem stmts_right : ∀ (n : Nat) (l : List Stmt) (d : Int), Stmts.sz l < n → tStmts l d = true → inSs Both1 l → (∀ q ∈ Ac.callSs l, P q) → D1.tStmts (liftSs f l) d = true
 | 0, l, d, h, _, _, _ => absurd h (Nat.not_lt_zero _)
 | n + 1, [], d, h, _, _, _ => by simp [liftSs, D1.tStmts]
 | n + 1, x :: l, d, h, ht, hi, hq => by
  have hz := Stmt.sz_eq x
  simp only [Stmts.sz] at h
  simp only [tStmts, Bool.and_eq_true] at ht
  simp only [inSs] at hi
  simp only [Ac.callSs] at hq
  have h1 := ht.1
  rw [tStmt_eq] at h1
  simp only [Bool.and_eq_true] at h1
  obtain ⟨⟨⟨a1, a2⟩, a3, a4⟩, a5, a6⟩ := h1
  obtain ⟨_, _, _, b4, b5⟩ := (inS_eq Both1 x).1 hi.1
  simp only [liftSs, D1.tStmts, Bool.and_eq_true]
  refine ⟨?_, stmts_right n l d (by omega) ht.2 hi.2 fun q hq' => hq q (by simp [hq'])⟩
  rw [D1.tStmt_eq]
  simp only [Bool.and_eq_true]
  have hx : ∀ q ∈ Ac.callS x, P q := fun q hq' => hq q (by simp [hq'])
  refine ⟨⟨⟨a1, stmt_right F a2 hi.1 hx⟩, ?_, ?_⟩, ?_, ?_⟩
  ·rw [liftS_eq]
   exact stmts_right n x.body _ (by omega) a3 b4 fun q hq' => hx q (by rw [Ac.callS_eq]; simp [hq'])
  ·rw [liftS_eq]; simpa only [liftSs_len] using a4
  ·rw [liftS_eq]
   exact stmts_right n x.els _ (by omega) a5 b5 fun q hq' => hx q (by rw [Ac.callS_eq]; simp [hq'])
  ·rw [liftS_eq]; simpa only [liftSs_len] using a6
end
end Pg

namespace Pg
open Go
set_option linter.all false
set_option maxRecDepth 4000
theorem order_right : ∀ (l us : List Param) (up : Bool), (l = [] ∨ up = false) → (∀ p ∈ l, p.mode ≠ 2) → (∀ u ∈ us, u.mode = 2) → D1.tOrder up (l ++ us) = true
 | [], [], up, _, _, _ => by simp [D1.tOrder]
 | [], u :: us, up, _, _, h => by
  have hu := h u (by simp)
  simp only [List.nil_append, D1.tOrder, hu, decide_true, Bool.not_true, Bool.false_and, Bool.not_false, Bool.true_and]
  exact order_right [] us true (.inl rfl) (by simp) fun v hv => h v (by simp [hv])
 | p :: l, us, up, hup, hl, h => by
  have hp := hl p (by simp)
  have hu : up = false := hup.resolve_left (by simp)
  subst hu
  simp only [List.cons_append, D1.tOrder, decide_eq_false hp, Bool.and_false, Bool.not_false, Bool.true_and]
  exact order_right l us false (.inr rfl) (fun q hq => hl q (by simp [hq])) h
theorem tParam_parts {p : Param} (h : tParam p = true) : tName p.name = true ∧ tTyp p.t = true ∧ 0 ≤ p.mode ∧ p.mode ≤ 1 ∧ (p.mode = 0 → p.t.size = 0 ∧ ¬ p.t.kind = 4) := by
 simp only [tParam, Bool.and_eq_true, decide_eq_true_eq, Bool.not_eq_true', Bool.and_eq_false_iff, decide_eq_false_iff_not, Bool.or_eq_false_iff, Bool.not_eq_false'] at h
 obtain ⟨⟨⟨⟨a, b⟩, c⟩, d⟩, e⟩ := h
 exact ⟨a, b, c, d, fun m0 => e.resolve_left (by simpa using m0)⟩
theorem param_right {p : Param} (h : tParam p = true) (b : inParam Both1 p) : D1.tParam p = true := by
 obtain ⟨h1, h2, h3, h4, h5⟩ := tParam_parts h
 simp only [D1.tParam, b.1.name h1, typ_right h2 b.2, decide_eq_true h3, decide_eq_true (show p.mode ≤ 2 by omega), Bool.true_and]
 by_cases m0 : p.mode = 0
 ·obtain ⟨a, c⟩ := h5 m0; simp [a, c]
 ·simp [m0]
theorem vars_right {l : List Var} (h : tVars l = true) (b : ∀ v ∈ l, inVar Both1 v) : D1.tVars l = true := by
 simp only [tVars, D1.tVars, Bool.and_eq_true, List.all_eq_true] at h ⊢
 refine ⟨fun v hv => ?_, h.2⟩
 have := h.1 v hv
 simp only [tVar, D1.tVar, Bool.and_eq_true] at this ⊢
 exact ⟨⟨this.1.1, (b v hv).1.name this.1.2⟩, typ_right this.2 (b v hv).2⟩
theorem recs_right {l : List Rec} (h : l.all tRec = true) (b : ∀ r ∈ l, inRec Both1 r) : l.all D1.tRec = true := by
 simp only [List.all_eq_true] at h ⊢
 intro r hr
 have := h r hr
 obtain ⟨b1, b2⟩ := b r hr
 simp only [tRec, D1.tRec, Bool.and_eq_true, List.all_eq_true] at this ⊢
 obtain ⟨⟨⟨⟨⟨a1, a2⟩, a3⟩, a4⟩, a5⟩, a6⟩ := this
 refine ⟨⟨⟨⟨⟨a1, a2⟩, b1.name a3⟩, a4⟩, a5⟩, fun f hf => ?_⟩
 have := a6 f hf
 simp only [tFld, D1.tFld, Bool.and_eq_true] at this ⊢
 exact ⟨⟨⟨this.1.1.1, (b2 f hf).name this.1.1.2⟩, this.1.2⟩, this.2⟩
theorem clean_in {p : Prg} (ht : tPrg p = true) (hcl : (names p).all D1.tName = true) : inP Both1 p := inP_told (tPrg_plain ht) fun m hm => by
 by_cases h0 : m = noBytes
 ·exact .inl h0
 ·exact .inr (List.all_eq_true.1 hcl m ((once_mem _ _ _).2 (.inr ⟨hm, h0⟩)))
section
variable {p : Prg} (ht : tPrg p = true) (hcl : (names p).all D1.tName = true)
include ht hcl
theorem node_both : ∀ n ∈ nodesOf p.routines, inR Both1 n.r :=
 capL_all (P := inR Both1) (fun x hx y hy => inRs_mem ((inR_eq Both1 x).1 hx).2.2.2.1 y hy) _ p.routines (Nat.lt_succ_self _) (fun x hx => inRs_mem (clean_in ht hcl).routines x hx) 0 p.routines (-1) noBytes
theorem ups_right {us : List Param} (h : us ∈ cUps p.routines) : ∀ u ∈ us, u.mode = 2 ∧ D1.tName u.name = true ∧ D1.tTyp u.t = true := fun u hu => by
 unfold cUps at h
 obtain ⟨j, _, rfl⟩ := List.mem_map.1 h
 obtain ⟨i, n, k, h1, h2, _⟩ := upN_mem hu
 have hn : n ∈ nodesOf p.routines := List.mem_of_getElem? h1
 obtain ⟨a, d, hr⟩ := tree_nodes ht n hn
 obtain ⟨_, b2, b3, _, _⟩ := (inR_eq Both1 n.r).1 (node_both ht hcl n hn)
 rw [tRoutine_eq] at hr
 simp only [Bool.and_eq_true, tParams, tVars, List.all_eq_true] at hr
 obtain ⟨⟨⟨⟨_, hp, _⟩, hv, _⟩, _⟩, _⟩ := hr
 have hm := List.mem_of_getElem? h2
 unfold locs at hm
 rcases List.mem_append.1 hm with hm | hm
 ·obtain ⟨v, hv', rfl⟩ := List.mem_map.1 hm
  obtain ⟨t1, t2, _⟩ := tParam_parts (hp v hv')
  exact ⟨rfl, (b2 v hv').1.name t1, typ_right t2 (b2 v hv').2⟩
 ·obtain ⟨v, hv', rfl⟩ := List.mem_map.1 hm
  have t := hv v hv'
  simp only [tVar, Bool.and_eq_true] at t
  exact ⟨rfl, (b3 v hv').1.name t.1.2, typ_right t.2 (b3 v hv').2⟩
theorem path_right : ∀ n ∈ nodesOf p.routines, D1.tRName n.path = true := fun n hn => by
 obtain ⟨t, q, q1, _, _, q4⟩ := tree_paths ht n hn
 have hb : ∀ x ∈ nmRs p.routines, tName x = true → D1.tName x = true := fun x hx tx => by
  have : x ∈ names p := (once_mem _ _ _).2 (.inr ⟨by unfold nmP; simp [hx], tName_ne tx⟩)
  exact List.all_eq_true.1 hcl x this
 unfold D1.tRName
 rw [q1, List.all_append, Bool.and_eq_true, List.all_eq_true]
 refine ⟨fun x hx => hb x (q4 x hx).1 (q4 x hx).2, ?_⟩
 simpa using hb _ (nm1_in hn (by simp [nm1, parts_plain (tName_plain t)])) t
theorem cf_right (h : (liftP p).2 = 0) (a : Int) : CF (Ac.Fits (nodesOf p.routines) a) (liftF (nodesOf p.routines) (cUps p.routines) a) := ⟨fun name path us he => by
 obtain ⟨n, hn, _, rfl, hu⟩ := liftF_at he
 refine ⟨path_right ht hcl n hn, fun u hu' => (ups_right ht hcl hu u hu').2.1, fun k ⟨v, m, e1, e2, e3⟩ => ?_⟩
 obtain ⟨_, g2, _⟩ := liftP_good h
 unfold liftF at he
 simp only at e2 e3
 simp only [e3] at he
 rw [if_neg (by omega), Int.toNat_natCast, e1] at he
 split at he
 ·rename_i c vs ec ev
  cases ec
  simp only [Option.some.injEq, Prod.mk.injEq] at he
  obtain ⟨_, rfl⟩ := he
  have hz : ((nodesOf p.routines).zip (cUps p.routines))[v]? = some (m, vs) := List.getElem?_zip_eq_some.2 ⟨e1, ev⟩
  have := g2 _ (List.mem_of_getElem? hz)
  simp only at this; omega
 ·cases he⟩
theorem routines_right (hc : (check p).2 = 0) (h : (liftP p).2 = 0) : ∀ (L : List (CN × List Param)) (i : Nat) (ahead : List ByteArray), (∀ (j : Nat) q, L[j]? = some q → (nodesOf p.routines)[i + j]? = some q.1 ∧ q.2 ∈ cUps p.routines ∧ q.1.r.params.length + q.2.length ≤ 512) → (ahead ++ L.map (·.1.path)).Nodup →
  D1.tRoutines ahead (liftRs (nodesOf p.routines) (cUps p.routines) i L) 1 = true
 | [], i, ahead, _, _ => by simp [liftRs, D1.tRoutines]
 | q :: L, i, ahead, hq, nd => by
  obtain ⟨c1, c2, c3⟩ := hq 0 q rfl
  rw [Nat.add_zero] at c1
  have hn := List.mem_of_getElem? c1
  obtain ⟨a, d, hr⟩ := tree_nodes ht q.1 hn
  obtain ⟨b1, b2, b3, _, b5⟩ := (inR_eq Both1 q.1.r).1 (node_both ht hcl q.1 hn)
  rw [tRoutine_eq] at hr
  simp only [Bool.and_eq_true, decide_eq_true_eq] at hr
  obtain ⟨⟨⟨⟨⟨⟨⟨⟨⟨⟨_, r1⟩, r2⟩, r3⟩, r4⟩, r5⟩, _⟩, r6⟩, r7⟩, _⟩, r8, r9⟩ := hr
  have ur := ups_right ht hcl c2
  have fit := (Ac.right_fits ht hc).1 i q.1 c1
  have sb := stmts_right (cf_right ht hcl h i) _ q.1.r.body 1 (Nat.lt_succ_self _) r8 b5 fit
  have hno : among q.1.path ahead = false := by
   rw [Bool.eq_false_iff]
   intro hh
   rw [among_iff] at hh
   exact (List.nodup_append.1 nd).2.2 _ hh _ (by simp) rfl
  have rest := routines_right hc h L (i + 1) (ahead ++ [q.1.path]) (fun j r hr => by
   have := hq (j + 1) r (by simpa using hr)
   rw [show i + 1 + j = i + (j + 1) by omega]; exact this) (by simpa [List.append_assoc] using nd)
  simp only [liftRs, D1.tRoutines, Bool.and_eq_true]
  refine ⟨?_, rest⟩
  rw [D1.tRoutine_eq]
  simp only [liftR, Bool.and_eq_true, hno, Bool.not_false]
  simp only [tParams, Bool.and_eq_true, List.all_eq_true] at r6
  refine ⟨⟨⟨⟨⟨⟨⟨⟨⟨⟨⟨by simp, r1⟩, r2⟩, path_right ht hcl q.1 hn⟩, decide_eq_true r4⟩, decide_eq_true r5⟩, trivial⟩, by simp⟩, ?_⟩, vars_right r7 b3⟩, by simp [D1.tRoutines], by simp⟩, sb, decide_eq_true (Nat.le_trans (Nat.le_of_eq (liftSs_len _ _)) r9)⟩
  simp only [D1.tParams, Bool.and_eq_true, List.all_eq_true, decide_eq_true_eq, List.length_append]
  refine ⟨⟨fun v hv => ?_, order_right _ _ _ (.inr rfl) (fun v hv => ?_) fun u hu => (ur u hu).1⟩, c3⟩
  ·rcases List.mem_append.1 hv with hv | hv
   ·exact param_right (r6.1 v hv) (b2 v hv)
   ·obtain ⟨u1, u2, u3⟩ := ur v hv
    simp [D1.tParam, u1, u2, u3]
  ·have := (tParam_parts (r6.1 v hv)).2.2.2.1; omega
theorem lift_right (hc : (check p).2 = 0) (h : (liftP p).2 = 0) : D1.tPrg (liftP p).1 = true := by
 obtain ⟨g1, g2, g3⟩ := liftP_good h
 have hb := clean_in ht hcl
 have ht' := ht
 simp only [tPrg, Bool.and_eq_true, decide_eq_true_eq] at ht'
 obtain ⟨⟨⟨⟨⟨⟨⟨⟨⟨q1, n1⟩, n2⟩, n3⟩, n4⟩, q6⟩, q2⟩, q3⟩, q4, _⟩, q5, q7⟩ := ht'
 have hups : (cUps p.routines).length = (nodesOf p.routines).length := by unfold cUps; rw [List.length_map, List.length_range]; rfl
 have nd := paths_nodup _ p.routines [] 1 (Nat.lt_succ_self _) q4 0 p.routines (-1) noBytes
 have hz : ((nodesOf p.routines).zip (cUps p.routines)).map (·.1.path) = (nodesOf p.routines).map (·.path) := by
  rw [show (fun q : CN × List Param => q.1.path) = (fun n : CN => n.path) ∘ Prod.fst from rfl, ← List.map_map, List.map_fst_zip (by omega)]
 rw [g3]
 simp only [D1.tPrg, Bool.and_eq_true, decide_eq_true_eq]
 refine ⟨⟨⟨⟨⟨⟨⟨⟨⟨hb.name.name q1, n1⟩, n2⟩, n3⟩, n4⟩, q6⟩, recs_right q2 hb.recs⟩, vars_right q3 hb.vars⟩, ?_, ?_⟩, ?_, ?_⟩
 ·refine routines_right ht hcl hc h _ 0 [] (fun j q hj => ?_) (by rw [List.nil_append, hz]; exact nd)
  obtain ⟨e1, e2⟩ := List.getElem?_zip_eq_some.1 hj
  exact ⟨by rw [Nat.zero_add]; exact e1, List.mem_of_getElem? e2, g2 q (List.mem_of_getElem? hj)⟩
 ·rw [liftRs_len, List.length_zip]; omega
 ·exact stmts_right (cf_right ht hcl h (-1)) _ p.body 1 (Nat.lt_succ_self _) q5 hb.body (Ac.right_fits ht hc).2
 ·rw [liftSs_len]; exact q7
end
end Pg

namespace Pg
open Go Go.Proofs.Tryz
set_option maxRecDepth 100000
set_option maxHeartbeats 4000000
def F10.c0 : RCode := .seq (.reg [qr 0 (.mv (.c (.bool false)))]) (.seq (.reg [qr 6 (.build [.int .i64 0,.int .i64 0,.str ⟨#[]⟩,.str ⟨#[]⟩,.sl [] true] [(0,1,(.c (.int .i64 4))),(2,1,(.c (.str ⟨#[120]⟩)))]),qr 7 (.bsl 5 1 [.int .i64 0,.int .i64 0,.str ⟨#[]⟩,.str ⟨#[]⟩,.sl [] true] [(0,5,.t 6)]),qr 8 (.build [.sl [] true,.sl [] true,.int .i64 0,.str ⟨#[]⟩,.int .i64 0,.int .i64 0,.str ⟨#[]⟩,.str ⟨#[]⟩,.sl [] true,.sl [] true,.bool false,.bool false,.sl [] true,.sl [] true,.sl [] true,.sl [] true] [(2,1,(.c (.int .i64 8))),(9,1,.t 7)]),qr 9 (.bsl 16 1 [.sl [] true,.sl [] true,.int .i64 0,.str ⟨#[]⟩,.int .i64 0,.int .i64 0,.str ⟨#[]⟩,.str ⟨#[]⟩,.sl [] true,.sl [] true,.bool false,.bool false,.sl [] true,.sl [] true,.sl [] true,.sl [] true] [(0,16,.t 8)]),qr 10 (.build [.sl [] true,.sl [] true,.str ⟨#[]⟩,.int .i64 0,.sl [] true,.sl [] true,.sl [] true,.sl [] true,.sl [] true] [(2,1,(.c (.str ⟨#[103]⟩))),(7,1,.t 9)]),qr 1 (.bx (some 9) (.t 10))]) (.seq (.reg [qr 11 (.build [.int .i64 0,.int .i64 0,.str ⟨#[]⟩] [(0,1,(.c (.int .i64 1)))]),qr 12 (.build [.sl [] true,.sl [] true,.str ⟨#[]⟩,.int .i64 0,.int .i64 0,.str ⟨#[]⟩] [(2,1,(.c (.str ⟨#[120]⟩))),(3,3,.t 11)]),qr 13 (.bsl 6 1 [.sl [] true,.sl [] true,.str ⟨#[]⟩,.int .i64 0,.int .i64 0,.str ⟨#[]⟩] [(0,6,.t 12)]),qr 14 (.load (some 9) (.t 1)),qr 15 (.bsl 9 1 [.sl [] true,.sl [] true,.str ⟨#[]⟩,.int .i64 0,.sl [] true,.sl [] true,.sl [] true,.sl [] true,.sl [] true] [(0,9,.t 14)]),qr 16 (.build [.int .i64 0,.int .i64 0,.str ⟨#[]⟩,.str ⟨#[]⟩,.sl [] true] [(0,1,(.c (.int .i64 7))),(2,1,(.c (.str ⟨#[103]⟩)))]),qr 17 (.bsl 5 1 [.int .i64 0,.int .i64 0,.str ⟨#[]⟩,.str ⟨#[]⟩,.sl [] true] [(0,5,.t 16)]),qr 18 (.build [.sl [] true,.sl [] true,.int .i64 0,.str ⟨#[]⟩,.int .i64 0,.int .i64 0,.str ⟨#[]⟩,.str ⟨#[]⟩,.sl [] true,.sl [] true,.bool false,.bool false,.sl [] true,.sl [] true,.sl [] true,.sl [] true] [(2,1,(.c (.int .i64 2))),(9,1,.t 17)]),qr 19 (.bsl 16 1 [.sl [] true,.sl [] true,.int .i64 0,.str ⟨#[]⟩,.int .i64 0,.int .i64 0,.str ⟨#[]⟩,.str ⟨#[]⟩,.sl [] true,.sl [] true,.bool false,.bool false,.sl [] true,.sl [] true,.sl [] true,.sl [] true] [(0,16,.t 18)]),qr 20 (.build [.sl [] true,.sl [] true,.str ⟨#[]⟩,.int .i64 0,.sl [] true,.sl [] true,.sl [] true,.sl [] true,.sl [] true] [(2,1,(.c (.str ⟨#[102]⟩))),(5,1,.t 13),(6,1,.t 15),(7,1,.t 19)]),qr 2 (.bx (some 9) (.t 20))]) (.seq (.reg [qr 22 (.load (some 9) (.t 2)),qr 23 (.bsl 9 1 [.sl [] true,.sl [] true,.str ⟨#[]⟩,.int .i64 0,.sl [] true,.sl [] true,.sl [] true,.sl [] true,.sl [] true] [(0,9,.t 22)]),qr 24 (.build [.str ⟨#[]⟩,.sl [] true,.sl [] true,.sl [] true,.sl [] true,.sl [] true,.sl [] true,.sl [] true,.sl [] true] [(0,1,(.c (.str ⟨#[112]⟩))),(6,1,.t 23)]),qe 25 (.call 9 [.t 24]),qr 21 (.mv (.t 25)),qr 26 (.ext (.t 21) 0),qr 27 (.ext (.t 21) 1),qr 3 (.bx (some 9) (.t 26)),qr 4 (.mv (.t 27))]) (.seq (.seq (.reg [qr 28 (.mv (.t 4)),qr 29 (.bin .neq (.t 28) (.c (.int .i64 0))),qr 30 (.mv (.t 29)),qg 31 (.fa 6 (.t 3)) 30 false,qg 32 (.load none (.t 31)) 30 false,qg 33 (.len 1 (.t 32)) 30 false,qg 34 (.bin .neq (.t 33) (.c (.int .i64 2))) 30 false,qr 35 (.pick (.t 30) (.c (.bool true)) (.t 34)),qr 36 (.mv (.t 35)),qg 37 (.fa 6 (.t 3)) 36 false,qg 38 (.load none (.t 37)) 36 false,qg 39 (.ia 9 (.t 38) (.c (.int .i64 1))) 36 false,qg 40 (.fa 2 (.t 39)) 36 false,qg 41 (.load none (.t 40)) 36 false,qg 42 (.bin .neq (.t 41) (.c (.str ⟨#[102,36,103]⟩))) 36 false,qr 43 (.pick (.t 36) (.c (.bool true)) (.t 42)),qr 44 (.mv (.t 43)),qg 45 (.fa 6 (.t 3)) 44 false,qg 46 (.load none (.t 45)) 44 false,qg 47 (.ia 9 (.t 46) (.c (.int .i64 1))) 44 false,qg 48 (.fa 4 (.t 47)) 44 false,qg 49 (.load none (.t 48)) 44 false,qg 50 (.len 1 (.t 49)) 44 false,qg 51 (.bin .neq (.t 50) (.c (.int .i64 1))) 44 false,qr 52 (.pick (.t 44) (.c (.bool true)) (.t 51)),qr 53 (.mv (.t 52)),qg 54 (.fa 6 (.t 3)) 53 false,qg 55 (.load none (.t 54)) 53 false,qg 56 (.ia 9 (.t 55) (.c (.int .i64 0))) 53 false,qg 57 (.fa 7 (.t 56)) 53 false,qg 58 (.load none (.t 57)) 53 false,qg 59 (.len 1 (.t 58)) 53 false,qg 60 (.bin .neq (.t 59) (.c (.int .i64 1))) 53 false,qr 61 (.pick (.t 53) (.c (.bool true)) (.t 60)),qr 62 (.mv (.t 61)),qg 63 (.fa 6 (.t 3)) 62 false,qg 64 (.load none (.t 63)) 62 false,qg 65 (.ia 9 (.t 64) (.c (.int .i64 0))) 62 false,qg 66 (.fa 7 (.t 65)) 62 false,qg 67 (.load none (.t 66)) 62 false,qg 68 (.ia 16 (.t 67) (.c (.int .i64 0))) 62 false,qg 69 (.fa 9 (.t 68)) 62 false,qg 70 (.load none (.t 69)) 62 false,qg 71 (.len 1 (.t 70)) 62 false,qg 72 (.bin .neq (.t 71) (.c (.int .i64 1))) 62 false,qr 73 (.pick (.t 62) (.c (.bool true)) (.t 72))]) (.cond (.t 73) (.seq (.reg [qr 0 (.mv (.c (.bool false)))]) .ret) .skip)) (.seq (.reg [qr 74 (.fa 6 (.t 3)),qr 75 (.load none (.t 74)),qr 76 (.ia 9 (.t 75) (.c (.int .i64 0))),qr 77 (.fa 7 (.t 76)),qr 78 (.load none (.t 77)),qr 79 (.ia 16 (.t 78) (.c (.int .i64 0))),qr 80 (.fa 9 (.t 79)),qr 81 (.load none (.t 80)),qr 82 (.ia 5 (.t 81) (.c (.int .i64 0))),qr 83 (.load (some 5) (.t 82)),qr 5 (.bx (some 5) (.t 83))]) (.seq (.reg [qr 84 (.fa 2 (.t 5)),qr 85 (.load none (.t 84)),qr 86 (.bin .eql (.t 85) (.c (.str ⟨#[102,36,103]⟩))),qr 87 (.mv (.t 86)),qg 88 (.fa 4 (.t 5)) 87 true,qg 89 (.load none (.t 88)) 87 true,qg 90 (.len 1 (.t 89)) 87 true,qg 91 (.bin .eql (.t 90) (.c (.int .i64 1))) 87 true,qr 92 (.pick (.t 87) (.t 91) (.c (.bool false))),qr 93 (.mv (.t 92)),qg 94 (.fa 4 (.t 5)) 93 true,qg 95 (.load none (.t 94)) 93 true,qg 96 (.ia 5 (.t 95) (.c (.int .i64 0))) 93 true,qg 97 (.fa 0 (.t 96)) 93 true,qg 98 (.load none (.t 97)) 93 true,qg 99 (.bin .eql (.t 98) (.c (.int .i64 25))) 93 true,qr 100 (.pick (.t 93) (.t 99) (.c (.bool false))),qr 101 (.mv (.t 100)),qg 102 (.fa 4 (.t 5)) 101 true,qg 103 (.load none (.t 102)) 101 true,qg 104 (.ia 5 (.t 103) (.c (.int .i64 0))) 101 true,qg 105 (.fa 2 (.t 104)) 101 true,qg 106 (.load none (.t 105)) 101 true,qg 107 (.bin .eql (.t 106) (.c (.str ⟨#[120]⟩))) 101 true,qr 108 (.pick (.t 101) (.t 107) (.c (.bool false))),qr 0 (.mv (.t 108))]) .ret))))))
theorem F10.calls [GI] : CallsT prog 10 109 F10.c0 [.tmp 0] := acallsT [] [1,2,3,5] 109 func10 ntmps10 (by kernel_rfl) (by kernel_rfl)
end Pg

namespace Pg
open Go Go.Proofs.Tryz
set_option maxRecDepth 100000
set_option maxHeartbeats 4000000
noncomputable def F15.c0 : CodeT prog 12 [1] [] f15 := ⟨_, by with_unfolding_all (conv => lhs; reduce)⟩
theorem F15.calls [GI] : CallsT prog 15 12 F15.c0.1 [.tmp 2] := acallsT _ _ _ func15 ntmps15 F15.c0.2 (by kernel_rfl)
end Pg
