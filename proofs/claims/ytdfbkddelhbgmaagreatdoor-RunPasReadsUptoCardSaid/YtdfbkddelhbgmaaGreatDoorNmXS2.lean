import Derived.Test.YtdfbkddelhbgmaaGreatDoorTreeSS2
import Derived.Test.YtdfbkddelhbgmaaGreatDoorNmWS2
set_option linter.all false
set_option maxHeartbeats 4000000
set_option maxRecDepth 4000
namespace Pg
open Go Go.Proofs.Tryz
theorem var_m (x : Var) : List.take 2 (eVar x) = [eTexts x.before, eTexts x.trail] := rfl
theorem fld_m (x : Fld) : List.take 2 (eFld x) = [eTexts x.before, eTexts x.trail] := rfl
theorem rec_m (x : Rec) : List.take 2 (eRec x) = [eTexts x.before, eTexts x.trail] := rfl
theorem routine_m (x : Routine) : List.take 2 (eRoutine x) = [eTexts x.before, eTexts x.trail] := by rw [eRoutine_eq]; rfl
theorem stmt_m (x : Stmt) : List.take 2 (eStmt x) = [eTexts x.before, eTexts x.trail] := by rw [eStmt_eq]; rfl
theorem nil_or_snoc {α : Type} (l : List α) : l = [] ∨ ∃ L b, l = L ++ [b] := by
 rcases List.eq_nil_or_concat l with h | ⟨L, b, h⟩
 ·exact .inl h
 ·exact .inr ⟨L, b, by simpa using h⟩
theorem le512 {α : Type} (l : List α) : decide ((l.length : Int) ≤ 512) = decide (l.length ≤ 512) := by congr 1; simp; omega
theorem vars_spec [GI] (h : AHeap) (l : List Var) (hl : few l) (ho : ∀ v ∈ l, v.ok) (hf : ∀ v ∈ l, v.fit) : ACalls prog 22 [.int .i64 0, .sl (l.map eVar) false] h (fun v g => v = .bool (tVars l) ∧ g = h) := by
  refine F22.calls (by simp) ?_
  delta F22.c0
  simp only [go_sem,seval]
  refine lT_list l (fun pre post e g => (l.all tVar = post.all tVar ∧ g = h) ∧ e = [(0, .int .i64 0), (1, .sl (l.map eVar) false), (5, .int .i64 pre.length)]) (WeakE.env ?_) ⟨⟨rfl, rfl⟩, rfl⟩ ?_ ?_
  · simp only [go_sem,seval]
  · rintro pre x post e g hp ⟨⟨hn, rfl⟩, rfl⟩
    have hx := ho x (mem_at hp)
    have fx := hf x (mem_at hp)
    simp only [go_sem,seval, lt_at hp, aia_sl (map_at hp) (eVar_len x), var_m]
    refine tcE (marks_spec g x.before x.trail hx.before hx.trail fx.1 fx.2.1) ?_
    cases c1 : tMarks x.before x.trail
    all_goals simp only [go_sem,seval, aia_sl (map_at hp) (eVar_len x), var_t]
    ·
     refine lessQ.same ?_
     simp only [go_sem,seval]
     exact .same ⟨by rw [tVars, hn]; simp [tVar, c1], rfl⟩
    ·
     refine tcE (Name_spec g x.name fx.2.2.1) ?_
     cases c2 : tName x.name
     all_goals simp only [go_sem,seval, aia_sl (map_at hp) (eVar_len x), var_t]
     ·
      refine lessQ.same ?_
      simp only [go_sem,seval]
      exact .same ⟨by rw [tVars, hn]; simp [tVar, c1, c2], rfl⟩
     ·
      refine tcE (Type_spec g x.t fx.2.2.2.2.2) ?_
      cases c3 : tTyp x.t
      all_goals simp only [go_sem,seval, aia_sl (map_at hp) (eVar_len x), var_t]
      ·
       refine lessQ.same ?_
       simp only [go_sem,seval]
       exact .same ⟨by rw [tVars, hn]; simp [tVar, c1, c2, c3], rfl⟩
      ·
       refine ⟨_, _, WeakE.env ?_, ⟨?_, rfl⟩, rfl⟩
       · simp only [go_sem,seval, step_at hl hp]
       · rw [hn]; simp [tVar, c1, c2, c3]
  · rintro e g ⟨⟨hn, rfl⟩, rfl⟩
    simp only [go_sem,seval, lt_end]
    refine lessQ.same ?_
    simp only [go_sem,seval]
    exact .same ⟨by rw [tVars, hn, le512]; simp, rfl⟩
theorem params_spec [GI] (h : AHeap) (l : List Param) (hl : few l) (hf : ∀ v ∈ l, v.fit) : ACalls prog 53 [.int .i64 0, .sl (l.map eParam) false] h (fun v g => v = .bool (tParams l) ∧ g = h) := by
  refine F53.calls (by simp) ?_
  delta F53.c0
  simp only [go_sem,seval]
  refine lT_list l (fun pre post e g => (l.all tParam = post.all tParam ∧ (∀ y ∈ pre, tParam y = true) ∧ g = h) ∧ e = [(0, .int .i64 0), (1, .sl (l.map eParam) false), (5, .int .i64 pre.length)]) (WeakE.env ?_) ⟨⟨rfl, by simp, rfl⟩, rfl⟩ ?_ ?_
  · simp only [go_sem,seval]
  · rintro pre x post e g hp ⟨⟨hn, hpre, rfl⟩, rfl⟩
    have fx := hf x (mem_at hp)
    simp only [go_sem,seval, lt_at hp, aia_sl (map_at hp) (eParam_len x)]
    refine tcE (Name_spec g x.name fx.1) ?_
    cases c1 : tName x.name
    all_goals simp only [go_sem,seval, aia_sl (map_at hp) (eParam_len x), param_t]
    ·
     refine lessQ.same ?_
     simp only [go_sem,seval]
     exact .same ⟨by rw [tParams, hn]; simp [tParam, c1], rfl⟩
    ·
     refine tcE (Type_spec g x.t fx.2.1.2.2) ?_
     cases c2 : tTyp x.t
     all_goals simp only [go_sem,seval, aia_sl (map_at hp) (eParam_len x), param_t]
     ·
      refine lessQ.same ?_
      simp only [go_sem,seval]
      exact .same ⟨by rw [tParams, hn]; simp [tParam, c1, c2], rfl⟩
     ·
      by_cases c3 : 0 ≤ x.mode
      ·
       simp only [go_sem,seval, show (x.mode < 0) = False by first | (simp; done) | (simp; omega), aia_sl (map_at hp) (eParam_len x), param_t]
       by_cases c4 : x.mode ≤ 1
       ·
        simp only [go_sem,seval, show (x.mode > 2) = False by first | (simp; done) | (simp; omega), show (x.mode = 2) = False by first | (simp; done) | (simp; omega), aia_sl (map_at hp) (eParam_len x), param_t]
        by_cases m0 : x.mode = 0
        ·
          by_cases s0 : x.t.size = 0
          ·
            by_cases k4 : x.t.kind = 4
            ·
              simp only [go_sem,seval, m0, s0, k4, aia_sl (map_at hp) (eParam_len x), param_t]
              refine lessQ.same ?_
              simp only [go_sem,seval]
              exact .same ⟨by rw [tParams, hn]; simp [tParam, c1, c2, c3, c4, m0, s0, k4], rfl⟩
            ·
              simp only [go_sem,seval, m0, s0, k4, aia_sl (map_at hp) (eParam_len x), param_t]
              rcases nil_or_snoc pre with rfl | ⟨pre', y, rfl⟩
              ·
                simp only [go_sem,seval, show ((([] : List Param).length : Int) > 0) = False by simp, aia_sl (map_at hp) (eParam_len x), param_t]
                refine ⟨_, _, WeakE.env ?_, ⟨?_, ?_, rfl⟩, rfl⟩
                · simp only [go_sem,seval, step_at hl hp]
                · rw [hn]; simp [tParam, c1, c2, c3, c4, m0, s0, k4]
                · simp [tParam, c1, c2, c3, c4, m0, s0, k4]
              ·
                have hp2 : l = pre' ++ y :: (x :: post) := by rw [hp]; simp
                have hy : (y.mode = 2) = False := by
                  have := hpre y (by simp)
                  simp [tParam] at this
                  simp; omega
                have hw : IntKind.i64.wrap (((pre' ++ [y]).length : Int) - 1) = (pre'.length : Int) := by
                  unfold few at hl
                  rw [hp] at hl; simp at hl
                  rw [wrap64 (by first | (simp; done) | (simp; omega)) (by first | (simp; done) | (simp; omega))]; simp
                simp only [go_sem,seval, show (((pre' ++ [y]).length : Int) > 0) = True by first | (simp; done) | (simp; omega), hw, aia_sl (map_at hp2) (eParam_len y), hy, aia_sl (map_at hp) (eParam_len x), param_t]
                refine ⟨_, _, WeakE.env ?_, ⟨?_, ?_, rfl⟩, rfl⟩
                · simp only [go_sem,seval, step_at hl hp]
                · rw [hn]; simp [tParam, c1, c2, c3, c4, m0, s0, k4]
                · intro z hz
                  rcases List.mem_append.1 hz with hz | hz
                  · exact hpre z hz
                  · simp at hz; subst hz; simp [tParam, c1, c2, c3, c4, m0, s0, k4]
          ·
            simp only [go_sem,seval, m0, s0, aia_sl (map_at hp) (eParam_len x), param_t]
            refine lessQ.same ?_
            simp only [go_sem,seval]
            exact .same ⟨by rw [tParams, hn]; simp [tParam, c1, c2, c3, c4, m0, s0], rfl⟩
        ·
          simp only [go_sem,seval, m0, aia_sl (map_at hp) (eParam_len x), param_t]
          rcases nil_or_snoc pre with rfl | ⟨pre', y, rfl⟩
          ·
            simp only [go_sem,seval, show ((([] : List Param).length : Int) > 0) = False by simp, aia_sl (map_at hp) (eParam_len x), param_t, show (x.mode = 2) = False by first | (simp; done) | (simp; omega)]
            refine ⟨_, _, WeakE.env ?_, ⟨?_, ?_, rfl⟩, rfl⟩
            · simp only [go_sem,seval, step_at hl hp]
            · rw [hn]; simp [tParam, c1, c2, c3, c4, m0]
            · simp [tParam, c1, c2, c3, c4, m0]
          ·
            have hp2 : l = pre' ++ y :: (x :: post) := by rw [hp]; simp
            have hy : (y.mode = 2) = False := by
              have := hpre y (by simp)
              simp [tParam] at this
              simp; omega
            have hw : IntKind.i64.wrap (((pre' ++ [y]).length : Int) - 1) = (pre'.length : Int) := by
              unfold few at hl
              rw [hp] at hl; simp at hl
              rw [wrap64 (by first | (simp; done) | (simp; omega)) (by first | (simp; done) | (simp; omega))]; simp
            simp only [go_sem,seval, show (((pre' ++ [y]).length : Int) > 0) = True by first | (simp; done) | (simp; omega), hw, aia_sl (map_at hp2) (eParam_len y), hy, aia_sl (map_at hp) (eParam_len x), param_t, show (x.mode = 2) = False by first | (simp; done) | (simp; omega)]
            refine ⟨_, _, WeakE.env ?_, ⟨?_, ?_, rfl⟩, rfl⟩
            · simp only [go_sem,seval, step_at hl hp]
            · rw [hn]; simp [tParam, c1, c2, c3, c4, m0]
            · intro z hz
              rcases List.mem_append.1 hz with hz | hz
              · exact hpre z hz
              · simp at hz; subst hz; simp [tParam, c1, c2, c3, c4, m0]
       ·
        skip
        by_cases m2 : x.mode = 2
        · simp only [go_sem,seval, m2, aia_sl (map_at hp) (eParam_len x), param_t]
          refine lessQ.same ?_
          simp only [go_sem,seval]
          exact .same ⟨by rw [tParams, hn]; simp [tParam, c1, c2, c3, c4], rfl⟩
        · simp only [go_sem,seval, show (x.mode > 2) = True by first | (simp; done) | (simp; omega), aia_sl (map_at hp) (eParam_len x), param_t]
          refine lessQ.same ?_
          simp only [go_sem,seval]
          exact .same ⟨by rw [tParams, hn]; simp [tParam, c1, c2, c3, c4], rfl⟩
      ·
       simp only [go_sem,seval, show (x.mode < 0) = True by first | (simp; done) | (simp; omega), aia_sl (map_at hp) (eParam_len x), param_t]
       refine lessQ.same ?_
       simp only [go_sem,seval]
       exact .same ⟨by rw [tParams, hn]; simp [tParam, c1, c2, c3], rfl⟩
  · rintro e g ⟨⟨hn, hpre, rfl⟩, rfl⟩
    simp only [go_sem,seval, lt_end]
    refine lessQ.same ?_
    simp only [go_sem,seval]
    exact .same ⟨by rw [tParams, hn, le512]; simp, rfl⟩
end Pg
namespace Pg
open Go Go.Proofs.Tryz
structure StIn (e : Env) (x : Stmt) (d : Int) : Prop where
 h0 : e.get 0 = .int .i64 0
 h2 : e.get 2 = .int .i64 d
 h4 : e.get 4 = .ip (eStmt x) 0
def StGo [GI] (c : RCode) (x : Stmt) (d : Int) (h : AHeap) (K : AV → AHeap → Prop) : Prop := ∀ e, StIn e x d → wT .go prog 179 c (fun y e' h' t => atEndT t [.tmp 6] (EndW K) y e' h') e h
theorem alen_texts (h : AHeap) (l : List ByteArray) : alen h 1 (eTexts l) = some (.int .i64 l.length) := by simp [alen, eTexts]
section
variable {x : Stmt} {d : Int} {h : AHeap} {K : AV → AHeap → Prop}
theorem st_53 [GI] (hf : sBody x = false → K (.bool false) h) (hs : sBody x = true → StGo F54.c57 x d h K) : StGo F54.c53 x d h K := by
 intro e ⟨h0, h2, h4⟩
 delta F54.c53
 simp only [sBody] at hf hs
 simp only [go_sem,seval, h0, h2, h4, alen_texts]
 repeat' (refine agateT_split (fun hg => ?_) (fun hg => ?_) <;> simp only [go_sem,seval, hg, Bool.not_true, Bool.not_false, h0, h2, h4, alen_texts])
 all_goals
  first
  | refine hs ?_ _ ⟨by simp only [go_sem,seval, h0], by simp only [go_sem,seval, h2], by simp only [go_sem,seval, h4]⟩
  | refine .same (hf ?_)
  clear hs hf h0 h2 h4
  generalize x.body.length = nb at *
  generalize x.end1.length = ne at *
  try simp only [Bool.not_true, Bool.not_false, decide_eq_true_eq, decide_eq_false_iff_not] at *
  simp
  try omega
theorem st_49 [GI] (hf : sMore x = false → K (.bool false) h) (hs : sMore x = true → StGo F54.c53 x d h K) : StGo F54.c49 x d h K := by
 intro e ⟨h0, h2, h4⟩
 delta F54.c49
 simp only [sMore] at hf hs
 simp only [go_sem,seval, h0, h2, h4, alen_texts]
 cases hm : x.more
 all_goals
  rw [hm] at hf hs
  simp only [go_sem,seval, h0, h2, h4, hm, alen_texts]
  repeat' (refine agateT_split (fun hg => ?_) (fun hg => ?_) <;> simp only [go_sem,seval, hg, Bool.not_true, Bool.not_false, h0, h2, h4, hm, alen_texts])
 all_goals
  first
  | refine hs ?_ _ ⟨by simp only [go_sem,seval, h0], by simp only [go_sem,seval, h2], by simp only [go_sem,seval, h4]⟩
  | refine .same (hf ?_)
  clear hs hf h0 h2 h4
  generalize x.els.length = nb at *
  generalize x.end2.length = ne at *
  try simp only [Bool.not_true, Bool.not_false, decide_eq_true_eq, decide_eq_false_iff_not] at *
  simp
  try omega
theorem st_40 [GI] (fn : short x.name) (hf : sName x = false → K (.bool false) h) (hs : sName x = true → StGo F54.c49 x d h K) : StGo F54.c40 x d h K := by
 intro e ⟨h0, h2, h4⟩
 delta F54.c40
 by_cases h6 : x.op = 6
 ·simp only [sName, h6, if_true] at hf hs
  simp only [go_sem,seval, h0, h2, h4, h6]
  refine tcE (Name_spec h x.name fn) ?_
  cases hn : tName x.name
  ·simp only [go_sem,seval, h0, h2, h4]
   exact .same (hf hn)
  ·simp only [go_sem,seval, h0, h2, h4]
   exact hs hn _ ⟨by simp only [go_sem,seval, h0], by simp only [go_sem,seval, h2], by simp only [go_sem,seval, h4]⟩
 ·simp only [sName, h6, if_false, noBytes] at hf hs
  simp only [go_sem,seval, h0, h2, h4, h6]
  by_cases hn : x.name = (⟨#[]⟩ : ByteArray)
  ·cases hd : x.down
   ·simp only [go_sem,seval, h0, h2, h4, hn, hd]
    exact hs (by simp [hn, hd]) _ ⟨by simp only [go_sem,seval, h0], by simp only [go_sem,seval, h2], by simp only [go_sem,seval, h4]⟩
   ·simp only [go_sem,seval, h0, h2, h4, hn, hd]
    exact .same (hf (by simp [hn, hd]))
  ·simp only [go_sem,seval, h0, h2, h4, hn]
   exact .same (hf (by simp [hn]))
theorem st_31 [GI] (ho : x.p.ok) (fp : x.p.fit) (hf : sPlace x = false → K (.bool false) h) (hs : sPlace x = true → StGo F54.c40 x d h K) : StGo F54.c31 x d h K := by
 intro e ⟨h0, h2, h4⟩
 delta F54.c31
 by_cases h17 : x.op = 1 ∨ x.op = 7
 ·simp only [sPlace, h17, if_true] at hf hs
  rcases h17 with h17 | h17
  all_goals
   simp only [go_sem,seval, h0, h2, h4, h17, stmt_p]
   refine tcE (place_spec x.p ho fp h) ?_
   cases hn : tPlace x.p
   ·simp only [go_sem,seval, h0, h2, h4]
    exact .same (hf hn)
   ·simp only [go_sem,seval, h0, h2, h4]
    exact hs hn _ ⟨by simp only [go_sem,seval, h0], by simp only [go_sem,seval, h2], by simp only [go_sem,seval, h4]⟩
 ·simp only [sPlace, h17, if_false] at hf hs
  rw [not_or] at h17
  simp only [go_sem,seval, h0, h2, h4, h17.1, h17.2, stmt_p]
  refine tcE (none_spec x.p h) ?_
  cases hn : tNone x.p
  ·simp only [go_sem,seval, h0, h2, h4]
   exact .same (hf hn)
  ·simp only [go_sem,seval, h0, h2, h4]
   exact hs hn _ ⟨by simp only [go_sem,seval, h0], by simp only [go_sem,seval, h2], by simp only [go_sem,seval, h4]⟩
theorem st_19 [GI] (hl : few x.e) (he : ∀ y ∈ x.e, y.ok) (fe : ∀ y ∈ x.e, y.fit) (hf : x.e.all (sExpr x) = false → K (.bool false) h) (hs : x.e.all (sExpr x) = true → StGo F54.c31 x d h K) : StGo F54.c19 x d h K := by
 intro e ⟨h0, h2, h4⟩
 delta F54.c19
 simp only [go_sem,seval, h0, h2, h4]
 refine lT_list x.e (fun pre post e g => (x.e.all (sExpr x) = post.all (sExpr x) ∧ g = h) ∧ e = [(0, .int .i64 0), (2, .int .i64 d), (4, .ip (eStmt x) 0), (9, .int .i64 pre.length)]) (WeakE.env ?_) ⟨⟨rfl, rfl⟩, rfl⟩ ?_ ?_
 ·simp only [go_sem,seval, h0, h2, h4]
 ·rintro pre y post e g hp ⟨⟨hn, rfl⟩, rfl⟩
  simp only [go_sem,seval, lt_at hp, aia_sl (map_at hp) (eExpr_len y)]
  refine tcE (Expr_spec y (he y (mem_at hp)) (fe y (mem_at hp)) g) ?_
  have fail : sExpr x y = false → x.e.all (sExpr x) = false := fun hh => by rw [hn]; simp [hh]
  have good : sExpr x y = true → x.e.all (sExpr x) = post.all (sExpr x) := fun hh => by rw [hn]; simp [hh]
  cases hy : tExpr y
  ·simp only [go_sem,seval]
   refine lessQ.same ?_
   simp only [go_sem,seval]
   exact .same (hf (fail (by simp [sExpr, hy])))
  ·by_cases o2 : x.op = 2
   ·by_cases o7 : y.op = 7
    ·simp only [go_sem,seval, o2, o7, aia_sl (map_at hp) (eExpr_len y)]
     refine ⟨_, _, WeakE.env ?_, ⟨good (by simp [sExpr, hy, o2, o7]), rfl⟩, rfl⟩
     simp only [go_sem,seval, step_at hl hp]
    ·simp only [go_sem,seval, o2, o7, aia_sl (map_at hp) (eExpr_len y)]
     refine lessQ.same ?_
     simp only [go_sem,seval]
     exact .same (hf (fail (by simp [sExpr, hy, o2, o7])))
   ·simp only [go_sem,seval, o2]
    refine ⟨_, _, WeakE.env ?_, ⟨good (by simp [sExpr, hy, o2]), rfl⟩, rfl⟩
    simp only [go_sem,seval, step_at hl hp]
 ·rintro e g ⟨⟨hn, rfl⟩, rfl⟩
  simp only [go_sem,seval, lt_end]
  refine lessQ.same ?_
  simp only [go_sem,seval]
  exact hs (by rw [hn]; rfl) _ ⟨by simp only [go_sem,seval], by simp only [go_sem,seval], by simp only [go_sem,seval]⟩
theorem st_15' [GI] (want most : Int) (e : Env) (i : StIn e x d) (h7 : e.get 7 = .int .i64 want) (h8 : e.get 8 = .int .i64 most) (hs : (decide (want ≤ x.e.length) && decide ((x.e.length : Int) ≤ most)) = true → StGo F54.c19 x d h K) (hf : (decide (want ≤ x.e.length) && decide ((x.e.length : Int) ≤ most)) = false → K (.bool false) h) :
  wT .go prog 179 F54.c15 (fun y e' h' t => atEndT t [.tmp 6] (EndW K) y e' h') e h := by
 obtain ⟨h0, h2, h4⟩ := i
 delta F54.c15
 by_cases a : (x.e.length : Int) < want
 ·simp only [go_sem,seval, h0, h2, h4, h7, h8, a]
  exact .same (hf (by simp; omega))
 ·by_cases b : (x.e.length : Int) > most
  ·simp only [go_sem,seval, h0, h2, h4, h7, h8, a, b]
   exact .same (hf (by simp; omega))
  ·simp only [go_sem,seval, h0, h2, h4, h7, h8, a, b]
   exact hs (by simp; omega) _ ⟨by simp only [go_sem,seval, h0], by simp only [go_sem,seval, h2], by simp only [go_sem,seval, h4]⟩
theorem st_5 [GI] (hf : sCount x = false → K (.bool false) h) (hs : sCount x = true → StGo F54.c19 x d h K) : StGo F54.c5 x d h K := by
 intro e ⟨h0, h2, h4⟩
 delta F54.c5
 by_cases h6 : x.op = 6
 ·have ec : sCount x = (decide ((2 : Int) ≤ x.e.length) && decide ((x.e.length : Int) ≤ 2)) := by
   simp only [sCount, h6, if_true]; rw [Bool.eq_iff_iff]; simp <;> omega
  simp only [go_sem,seval, h0, h2, h4, h6]
  exact st_15' 2 2 _ ⟨by simp only [go_sem,seval, h0], by simp only [go_sem,seval, h2], by simp only [go_sem,seval, h4]⟩ (by simp only [go_sem,seval]) (by simp only [go_sem,seval]) (fun hh => hs (ec.trans hh)) (fun hh => hf (ec.trans hh))
 by_cases h7 : x.op = 7
 ·have ec : sCount x = (decide ((0 : Int) ≤ x.e.length) && decide ((x.e.length : Int) ≤ 0)) := by
   simp only [sCount, h7]; rw [Bool.eq_iff_iff]; simp <;> omega
  simp only [go_sem,seval, h0, h2, h4, h7]
  exact st_15' 0 0 _ ⟨by simp only [go_sem,seval, h0], by simp only [go_sem,seval, h2], by simp only [go_sem,seval, h4]⟩ (by simp only [go_sem,seval]) (by simp only [go_sem,seval]) (fun hh => hs (ec.trans hh)) (fun hh => hf (ec.trans hh))
 by_cases h9 : x.op = 9
 ·have ec : sCount x = (decide ((0 : Int) ≤ x.e.length) && decide ((x.e.length : Int) ≤ 1)) := by
   simp only [sCount, h9]; rw [Bool.eq_iff_iff]; simp <;> omega
  simp only [go_sem,seval, h0, h2, h4, h9]
  exact st_15' 0 1 _ ⟨by simp only [go_sem,seval, h0], by simp only [go_sem,seval, h2], by simp only [go_sem,seval, h4]⟩ (by simp only [go_sem,seval]) (by simp only [go_sem,seval]) (fun hh => hs (ec.trans hh)) (fun hh => hf (ec.trans hh))
 ·have ec : sCount x = (decide ((1 : Int) ≤ x.e.length) && decide ((x.e.length : Int) ≤ 1)) := by
   simp only [sCount, h6, h7, h9, if_false]; rw [Bool.eq_iff_iff]; simp <;> omega
  simp only [go_sem,seval, h0, h2, h4, h6, h7, h9]
  exact st_15' 1 1 _ ⟨by simp only [go_sem,seval, h0], by simp only [go_sem,seval, h2], by simp only [go_sem,seval, h4]⟩ (by simp only [go_sem,seval]) (by simp only [go_sem,seval]) (fun hh => hs (ec.trans hh)) (fun hh => hf (ec.trans hh))
theorem st_1 [GI] (ho : x.ok) (fx : x.fit) (h48 : d ≤ 48) (hf : sMarks x = false → K (.bool false) h) (hs : sMarks x = true → StGo F54.c5 x d h K) : StGo F54.c1 x d h K := by
 intro e ⟨h0, h2, h4⟩
 have hok := (Stmt.ok_iff x).1 ho
 have hft := (Stmt.fit_iff x).1 fx
 have hd : (d > 48) = False := by simp; omega
 delta F54.c1
 simp only [go_sem,seval, h0, h2, h4, hd, stmt_m]
 refine tcE (marks_spec h x.before x.trail hok.1 hok.2.1 hft.1 hft.2.1) ?_
 simp only [sMarks] at hf hs
 cases c1 : tMarks x.before x.trail
 ·simp only [go_sem,seval, h0, h2, h4]
  exact .same (hf (by simp [c1]))
 simp only [go_sem,seval, h0, h2, h4]
 refine tcE (notes_spec h x.end1 hok.2.2.2.2.2.2.2.2.2.1 hft.2.2.2.2.2.2.2.2.1) ?_
 cases c2 : tNotes x.end1
 ·simp only [go_sem,seval, h0, h2, h4]
  exact .same (hf (by simp [c2]))
 simp only [go_sem,seval, h0, h2, h4]
 refine tcE (notes_spec h x.end2 hok.2.2.2.2.2.2.2.2.2.2 hft.2.2.2.2.2.2.2.2.2) ?_
 cases c3 : tNotes x.end2
 ·simp only [go_sem,seval, h0, h2, h4]
  exact .same (hf (by simp [c3]))
 by_cases o1 : x.op < 1
 ·simp only [go_sem,seval, h0, h2, h4, o1]
  exact .same (hf (by simp; intros; omega))
 ·by_cases o9 : x.op > 9
  ·simp only [go_sem,seval, h0, h2, h4, o1, o9]
   exact .same (hf (by simp; intros; omega))
  ·simp only [go_sem,seval, h0, h2, h4, o1, o9]
   exact hs (by simp [c1, c2, c3]; omega) _ ⟨by simp only [go_sem,seval, h0], by simp only [go_sem,seval, h2], by simp only [go_sem,seval, h4]⟩
end
end Pg
namespace Pg
open Go Go.Proofs.Tryz
theorem tStmt_eq (x : Stmt) (d : Int) : tStmt x d = (decide (d ≤ 48) && tStmt1 x && (tStmts x.body (d + 1) && decide (x.body.length ≤ 512)) && (tStmts x.els (d + 1) && decide (x.els.length ≤ 512))) := by
 obtain ⟨before, trail, op, name, p, e, down, more, body, els, end1, end2⟩ := x; rw [tStmt]
def StmtsC [GI] (l : List Stmt) : Prop := ∀ (d : Int) (h : AHeap), 0 ≤ d → d ≤ 49 → ACalls prog 24 [.int .i64 0, .sl (l.map eStmt) false, .int .i64 d] h (fun v g => v = .bool (tStmts l d && decide (l.length ≤ 512)) ∧ g = h)
theorem tstmt_of [GI] (x : Stmt) (ho : x.ok) (fx : x.fit) (ihb : StmtsC x.body) (ihe : StmtsC x.els) (d : Int) (h : AHeap) (hd0 : 0 ≤ d) (hd : d ≤ 49) :
  ACalls prog 54 [.int .i64 0, .agg (eStmt x), .int .i64 d] h (fun v g => v = .bool (tStmt x d) ∧ g = h) := by
 have hok := (Stmt.ok_iff x).1 ho
 have hft := (Stmt.fit_iff x).1 fx
 by_cases h48 : d ≤ 48
 ·
  refine F54.calls (by simp) ?_
  delta F54.c0
  simp only [go_sem,seval]
  have fail : ∀ {K : Prop}, tStmt1 x = false → (AV.bool false = .bool (tStmt x d) ∧ h = h) := by
   intro _ hh
   refine ⟨?_, rfl⟩
   rw [tStmt_eq, hh]; simp
  refine st_1 (x := x) (d := d) (h := h) (K := fun v g => v = .bool (tStmt x d) ∧ g = h) ho fx h48 (fun h1 => fail (K := True) (by simp [tStmt1, h1])) (fun h1 => ?_) _ ⟨by simp only [go_sem,seval], by simp only [go_sem,seval], by simp only [go_sem,seval]⟩
  refine st_5 (fun h2 => fail (K := True) (by simp [tStmt1, h2])) (fun h2 => ?_)
  refine st_19 hok.2.2.2.1 hok.2.2.2.2.1 hft.2.2.2.2.2.1 (fun h3 => fail (K := True) (by simp only [tStmt1, h3]; simp)) (fun h3 => ?_)
  refine st_31 hok.2.2.1 hft.2.2.2.2.1 (fun h4 => fail (K := True) (by simp [tStmt1, h4])) (fun h4 => ?_)
  refine st_40 hft.2.2.2.1 (fun h5 => fail (K := True) (by simp [tStmt1, h5])) (fun h5 => ?_)
  refine st_49 (fun h6 => fail (K := True) (by simp [tStmt1, h6])) (fun h6 => ?_)
  refine st_53 (fun h7 => fail (K := True) (by simp [tStmt1, h7])) (fun h7 => ?_)
  have hall : tStmt1 x = true := by simp only [tStmt1, h1, h2, h3, h4, h5, h6, h7, Bool.and_self]
  have hw : IntKind.i64.wrap (d + 1) = d + 1 := wrap64 (by omega) (by omega)
  intro e ⟨g0, g2, g4⟩
  delta F54.c57
  simp only [go_sem,seval, g0, g2, g4, hw]
  refine tcE (ihb (d + 1) h (by omega) (by omega)) ?_
  cases hb : (tStmts x.body (d + 1) && decide (x.body.length ≤ 512))
  ·simp only [go_sem,seval, g0, g2, g4]
   refine .same ⟨?_, rfl⟩
   rw [tStmt_eq, hall, hb]; simp
  ·simp only [go_sem,seval, g0, g2, g4, hw]
   refine tcE (ihe (d + 1) h (by omega) (by omega)) ?_
   simp only [go_sem,seval]
   refine .same ⟨?_, rfl⟩
   rw [tStmt_eq, hall, hb]; simp [h48]
 ·have hd' : (d > 48) = True := by simp; omega
  refine F54.calls (by simp) ?_
  delta F54.c0 F54.c1
  simp only [go_sem,seval, hd']
  exact .same ⟨by rw [tStmt_eq]; simp [h48], rfl⟩
theorem tstmts_spec [GI] : ∀ (n : Nat) (l : List Stmt), Stmts.sz l ≤ n → few l → (∀ x ∈ l, x.ok) → (∀ x ∈ l, x.fit) → StmtsC l := by
 intro n
 induction n with
 | zero =>
  intro l hn hw ho hf
  cases l with
  | cons x r => simp [Stmts.sz] at hn
  | nil =>
   intro d h hd0 hd
   refine F24.calls (by simp) ?_
   delta F24.c0
   simp only [go_sem,seval]
   refine lT_round ?_
   simp only [go_sem,seval]
   exact .same ⟨by simp [tStmts], rfl⟩
 | succ n ih =>
  intro l hn hw ho hf d h hd0 hd
  refine F24.calls (by simp) ?_
  delta F24.c0
  simp only [go_sem,seval]
  refine lT_list l (fun pre post e g => (tStmts l d = tStmts post d ∧ g = h) ∧ e = [(0, .int .i64 0), (1, .sl (l.map eStmt) false), (2, .int .i64 d), (7, .int .i64 pre.length)]) (WeakE.env ?_) ⟨⟨rfl, rfl⟩, rfl⟩ ?_ ?_
  ·simp only [go_sem,seval]
  ·rintro pre x post e g hp ⟨⟨hs, rfl⟩, rfl⟩
   have hx := mem_at hp
   have hz := Stmts.sz_mem hx
   have hsz := Stmt.sz_eq x
   have hok := (Stmt.ok_iff x).1 (ho x hx)
   have hft := (Stmt.fit_iff x).1 (hf x hx)
   have ihb : StmtsC x.body := ih x.body (by omega) hok.2.2.2.2.2.1 hok.2.2.2.2.2.2.1 hft.2.2.2.2.2.2.1
   have ihe : StmtsC x.els := ih x.els (by omega) hok.2.2.2.2.2.2.2.1 hok.2.2.2.2.2.2.2.2.1 hft.2.2.2.2.2.2.2.1
   simp only [go_sem,seval, lt_at hp, aia_sl (map_at hp) (eStmt_len x)]
   refine tcE (tstmt_of x (ho x hx) (hf x hx) ihb ihe d g hd0 hd) ?_
   cases ht : tStmt x d
   ·simp only [go_sem,seval]
    refine lessQ.same ?_
    simp only [go_sem,seval]
    exact .same ⟨by rw [hs]; simp [tStmts, ht], rfl⟩
   ·simp only [go_sem,seval]
    refine ⟨_, _, WeakE.env ?_, ⟨?_, rfl⟩, rfl⟩
    ·simp only [go_sem,seval, step_at hw hp]
    ·rw [hs]; simp [tStmts, ht]
  ·rintro e g ⟨⟨hs, rfl⟩, rfl⟩
   simp only [go_sem,seval, lt_end]
   refine lessQ.same ?_
   simp only [go_sem,seval]
   refine .same ⟨?_, rfl⟩
   rw [hs, le512]; simp [tStmts]
end Pg
namespace Pg
open Go Go.Proofs.Tryz
theorem tRoutine_eq (ahead : List ByteArray) (x : Routine) (d : Int) : tRoutine ahead x d = (decide (d ≤ 48) && tMarks x.before x.trail && tNotes x.endd && tName x.name && decide (0 ≤ x.result) && decide (x.result ≤ 3) && !among x.name ahead && tParams x.params && tVars x.vars && (tRoutines [] x.inner (d + 1) && decide (x.inner.length ≤ 512)) && (tStmts x.body 1 && decide (x.body.length ≤ 512))) := by
 obtain ⟨before, trail, name, result, params, vars, inner, body, endd⟩ := x; rw [tRoutine]
def TRoutinesC [GI] (l : List Routine) : Prop := ∀ (d : Int) (h : AHeap), 0 ≤ d → d ≤ 49 → ACalls prog 23 [.int .i64 0, .sl (l.map eRoutine) false, .int .i64 d] h (fun v g => v = .bool (tRoutines [] l d && decide (l.length ≤ 512)) ∧ g = h)
theorem troutines_of [GI] (l : List Routine) (ih : ∀ x ∈ l, TRoutinesC x.inner) (hw : few l) (ho : ∀ x ∈ l, x.ok) (hf : ∀ x ∈ l, x.fit) : TRoutinesC l := by
  intro d h hd0 hd
  refine F23.calls (by simp) ?_
  delta F23.c0
  simp only [go_sem,seval]
  refine lT_list l (fun pre post e g => (tRoutines [] l d = tRoutines (pre.map (·.name)) post d ∧ g = h) ∧ e = [(0, .int .i64 0), (1, .sl (l.map eRoutine) false), (2, .int .i64 d), (7, .int .i64 pre.length)]) (WeakE.env ?_) ⟨⟨rfl, rfl⟩, rfl⟩ ?_ ?_
  · simp only [go_sem,seval]
  · rintro pre x post e g hp ⟨⟨hs, rfl⟩, rfl⟩
    have hx := mem_at hp
    have hok := (Routine.ok_iff x).1 (ho x hx)
    have hft := (Routine.fit_iff x).1 (hf x hx)
    by_cases h48 : d ≤ 48
    ·
      have hd' : (d > 48) = False := by simp; omega
      have hwr : IntKind.i64.wrap (d + 1) = d + 1 := wrap64 (by omega) (by omega)
      simp only [go_sem,seval, lt_at hp, aia_sl (map_at hp) (eRoutine_len x), hd', routine_m]
      refine tcE (marks_spec g x.before x.trail hok.1 hok.2.1 hft.1 hft.2.1) ?_
      cases c1 : tMarks x.before x.trail
      all_goals simp only [go_sem,seval, aia_sl (map_at hp) (eRoutine_len x), routine_m]
      ·
       refine lessQ.same ?_
       simp only [go_sem,seval]
       exact .same ⟨by rw [hs]; simp [tRoutines, tRoutine_eq, c1], rfl⟩
      ·
       refine tcE (notes_spec g x.endd hok.2.2.2.2.2.2.2.2.2 hft.2.2.2.2.2.2.2.2) ?_
       cases c2 : tNotes x.endd
       all_goals simp only [go_sem,seval, aia_sl (map_at hp) (eRoutine_len x), routine_m]
       ·
        refine lessQ.same ?_
        simp only [go_sem,seval]
        exact .same ⟨by rw [hs]; simp [tRoutines, tRoutine_eq, c1, c2], rfl⟩
       ·
        refine tcE (RoutineName_spec g x.name hft.2.2.1) ?_
        cases c3 : tName x.name
        all_goals simp only [go_sem,seval, aia_sl (map_at hp) (eRoutine_len x), routine_m]
        ·
         refine lessQ.same ?_
         simp only [go_sem,seval]
         exact .same ⟨by rw [hs]; simp [tRoutines, tRoutine_eq, c1, c2, c3], rfl⟩
        ·
         by_cases c4 : 0 ≤ x.result
         ·
          simp only [go_sem,seval, show (x.result < 0) = False by first | (simp; done) | (simp; omega), aia_sl (map_at hp) (eRoutine_len x), routine_m]
          by_cases c5 : x.result ≤ 3
          ·
           simp only [go_sem,seval, show (x.result > 3) = False by first | (simp; done) | (simp; omega), aia_sl (map_at hp) (eRoutine_len x), routine_m]
           have hple : few pre := by
             unfold few at hw ⊢
             rw [hp] at hw; simp at hw; omega
           refine lT_list pre (fun pre' post' e k => ((∀ z ∈ pre', ¬ z.name = x.name) ∧ k = g) ∧ e = [(0, .int .i64 0), (1, .sl (l.map eRoutine) false), (2, .int .i64 d), (7, .int .i64 pre.length), (8, .ip (eRoutine x) 0), (9, .int .i64 pre'.length)]) (WeakE.env ?_) ⟨⟨by simp, rfl⟩, rfl⟩ ?_ ?_
           · simp only [go_sem,seval]
           · rintro pre' y post' e k hp' ⟨⟨hn, rfl⟩, rfl⟩
             have hp2 : l = pre' ++ y :: (post' ++ x :: post) := by rw [hp, hp']; simp
             simp only [go_sem,seval, lt_at hp', aia_sl (map_at hp2) (eRoutine_len y)]
             by_cases hy : y.name = x.name
             ·
               simp only [go_sem,seval, hy]
               refine lessQ.same ?_
               simp only [go_sem,seval]
               have ham : among x.name (pre.map (·.name)) = true := by
                 simp only [among, List.any_eq_true]
                 exact ⟨y.name, List.mem_map.2 ⟨y, mem_at hp', rfl⟩, by simp [hy]⟩
               refine lessQ.same ?_
               simp only [go_sem,seval]
               exact .same ⟨by rw [hs]; simp [tRoutines, tRoutine_eq, ham], rfl⟩
             ·
               simp only [go_sem,seval, hy]
               refine ⟨_, _, WeakE.env ?_, ⟨?_, rfl⟩, rfl⟩
               · simp only [go_sem,seval, step_at hple hp']
               · intro z hz
                 rcases List.mem_append.1 hz with hz | hz
                 · exact hn z hz
                 · simp at hz; subst hz; exact hy
           · rintro e k ⟨⟨hn, rfl⟩, rfl⟩
             have ham : among x.name (pre.map (·.name)) = false := by
               simp only [among, List.any_eq_false, List.mem_map]
               rintro n ⟨z, hz, rfl⟩
               simp [hn z hz]
             simp only [go_sem,seval, lt_end]
             refine lessQ.same ?_
             simp only [go_sem,seval]
             refine tcE (params_spec k x.params hok.2.2.1 hft.2.2.2.2.1) ?_
             cases d1 : tParams x.params
             all_goals simp only [go_sem,seval, hwr]
             ·
              refine lessQ.same ?_
              simp only [go_sem,seval]
              exact .same ⟨by rw [hs]; simp [tRoutines, tRoutine_eq, c1, c2, c3, c4, c5, d1], rfl⟩
             ·
              refine tcE (vars_spec k x.vars hok.2.2.2.1 hok.2.2.2.2.1 hft.2.2.2.2.2.1) ?_
              cases d2 : tVars x.vars
              all_goals simp only [go_sem,seval, hwr]
              ·
               refine lessQ.same ?_
               simp only [go_sem,seval]
               exact .same ⟨by rw [hs]; simp [tRoutines, tRoutine_eq, c1, c2, c3, c4, c5, d1, d2], rfl⟩
              ·
               refine tcE (ih x hx (d + 1) k (by omega) (by omega)) ?_
               cases d3 : (tRoutines [] x.inner (d + 1) && decide (x.inner.length ≤ 512))
               all_goals simp only [go_sem,seval, hwr]
               ·
                refine lessQ.same ?_
                simp only [go_sem,seval]
                exact .same ⟨by rw [hs]; simp [tRoutines, tRoutine_eq, c1, c2, c3, c4, c5, d1, d2, d3], rfl⟩
               ·
                refine tcE (tstmts_spec _ x.body (Nat.le_refl _) hok.2.2.2.2.2.2.2.1 hok.2.2.2.2.2.2.2.2.1 hft.2.2.2.2.2.2.2.1 1 k (by omega) (by omega)) ?_
                cases d4 : (tStmts x.body 1 && decide (x.body.length ≤ 512))
                all_goals simp only [go_sem,seval, hwr]
                ·
                 refine lessQ.same ?_
                 simp only [go_sem,seval]
                 exact .same ⟨by rw [hs]; simp [tRoutines, tRoutine_eq, c1, c2, c3, c4, c5, d1, d2, d3, d4], rfl⟩
                ·
                 refine ⟨_, _, WeakE.env ?_, ⟨?_, rfl⟩, rfl⟩
                 · simp only [go_sem,seval, step_at hw hp]
                 · rw [hs]; simp [tRoutines, tRoutine_eq, h48, ham, c1, c2, c3, c4, c5, d1, d2, d3, d4]
          ·
           simp only [go_sem,seval, show (x.result > 3) = True by first | (simp; done) | (simp; omega), aia_sl (map_at hp) (eRoutine_len x), routine_m]
           refine lessQ.same ?_
           simp only [go_sem,seval]
           exact .same ⟨by rw [hs]; simp [tRoutines, tRoutine_eq, c1, c2, c3, c4, c5], rfl⟩
         ·
          simp only [go_sem,seval, show (x.result < 0) = True by first | (simp; done) | (simp; omega), aia_sl (map_at hp) (eRoutine_len x), routine_m]
          refine lessQ.same ?_
          simp only [go_sem,seval]
          exact .same ⟨by rw [hs]; simp [tRoutines, tRoutine_eq, c1, c2, c3, c4], rfl⟩
    ·
      have hd' : (d > 48) = True := by simp; omega
      simp only [go_sem,seval, lt_at hp, aia_sl (map_at hp) (eRoutine_len x), hd']
      refine lessQ.same ?_
      simp only [go_sem,seval]
      exact .same ⟨by rw [hs]; simp [tRoutines, tRoutine_eq, h48], rfl⟩
  · rintro e g ⟨⟨hs, rfl⟩, rfl⟩
    simp only [go_sem,seval, lt_end]
    refine lessQ.same ?_
    simp only [go_sem,seval]
    refine .same ⟨?_, rfl⟩
    rw [hs, le512]; simp [tRoutines]
theorem troutines_spec [GI] : ∀ (n : Nat) (l : List Routine), Routines.sz l ≤ n → few l → (∀ x ∈ l, x.ok) → (∀ x ∈ l, x.fit) → TRoutinesC l := by
 intro n
 induction n with
 | zero =>
  intro l hn hw ho hf
  refine troutines_of l (fun x hx => ?_) hw ho hf
  have := Routines.sz_mem hx
  omega
 | succ n ih =>
  intro l hn hw ho hf
  refine troutines_of l (fun x hx => ?_) hw ho hf
  have hz1 := Routines.sz_mem hx
  have hz2 := Routine.sz_eq x
  have hok := (Routine.ok_iff x).1 (ho x hx)
  have hft := (Routine.fit_iff x).1 (hf x hx)
  exact @ih x.inner (by omega) hok.2.2.2.2.2.1 hok.2.2.2.2.2.2.1 hft.2.2.2.2.2.2.1
end Pg
namespace Pg
open Go Go.Proofs.Tryz
theorem tPrg_spec [GI] (p : Prg) (ho : p.ok) (hf : p.fit) (h : AHeap) : ACalls prog 9 [.int .i64 0, .agg (ePrg p)] h (fun v g => v = .bool (tPrg p) ∧ g = h) := by
  refine F9.calls (by simp) ?_
  delta F9.c0
  simp only [go_sem,seval]
  refine tcE (Name_spec h p.name hf.1) ?_
  cases a1 : tName p.name
  all_goals simp only [go_sem,seval, Bool.not_true]
  ·
   exact .same ⟨by simp [tPrg, a1], rfl⟩
  ·
   refine tcE (notes_spec h p.before ho.before hf.2.1) ?_
   cases a2 : tNotes p.before
   all_goals simp only [go_sem,seval, Bool.not_true]
   ·
    exact .same ⟨by simp [tPrg, a1, a2], rfl⟩
   ·
    refine tcE (notes_spec h p.mid ho.mid hf.2.2.1) ?_
    cases a3 : tNotes p.mid
    all_goals simp only [go_sem,seval, Bool.not_true]
    ·
     exact .same ⟨by simp [tPrg, a1, a2, a3], rfl⟩
    ·
     refine tcE (notes_spec h p.after ho.after hf.2.2.2.1) ?_
     cases a4 : tNotes p.after
     all_goals simp only [go_sem,seval, Bool.not_true]
     ·
      exact .same ⟨by simp [tPrg, a1, a2, a3, a4], rfl⟩
     ·
      refine tcE (notes_spec h p.endd ho.endd hf.2.2.2.2.2.2.2.2) ?_
      cases a5 : tNotes p.endd
      all_goals simp only [go_sem,seval, Bool.not_true]
      ·
       exact .same ⟨by simp [tPrg, a1, a2, a3, a4, a5], rfl⟩
      ·
       by_cases a6 : p.recs.length ≤ 512
       ·
        simp only [go_sem,seval, show ((p.recs.length : Int) > 512) = False by first | (simp; done) | (simp; omega), Bool.not_true]
        refine lT_list p.recs (fun pre post e g => (p.recs.all tRec = post.all tRec ∧ g = h) ∧ e = [(0, .int .i64 0), (3, .ip (ePrg p) 0), (5, .int .i64 pre.length)]) (WeakE.env ?_) ⟨⟨rfl, rfl⟩, rfl⟩ ?_ ?_
        · simp only [go_sem,seval]
        · rintro pre x post e g hp ⟨⟨hs, rfl⟩, rfl⟩
          have hx := ho.eachRec x (mem_at hp)
          have fx := hf.2.2.2.2.1 x (mem_at hp)
          simp only [go_sem,seval, lt_at hp, aia_sl (map_at hp) (eRec_len x), rec_m]
          refine tcE (marks_spec g x.before x.trail hx.before hx.trail fx.1 fx.2.1) ?_
          cases r1 : tMarks x.before x.trail
          all_goals simp only [go_sem,seval, aia_sl (map_at hp) (eRec_len x), rec_m]
          ·
           refine lessQ.same ?_
           simp only [go_sem,seval]
           have hr : p.recs.all tRec = false := by rw [hs]; simp [tRec, r1]
           exact .same ⟨by simp [tPrg, hr], rfl⟩
          ·
           refine tcE (notes_spec g x.endd hx.endd fx.2.2.2.2) ?_
           cases r2 : tNotes x.endd
           all_goals simp only [go_sem,seval, aia_sl (map_at hp) (eRec_len x), rec_m]
           ·
            refine lessQ.same ?_
            simp only [go_sem,seval]
            have hr : p.recs.all tRec = false := by rw [hs]; simp [tRec, r1, r2]
            exact .same ⟨by simp [tPrg, hr], rfl⟩
           ·
            refine tcE (Name_spec g x.name fx.2.2.1) ?_
            cases r3 : tName x.name
            all_goals simp only [go_sem,seval, aia_sl (map_at hp) (eRec_len x), rec_m]
            ·
             refine lessQ.same ?_
             simp only [go_sem,seval]
             have hr : p.recs.all tRec = false := by rw [hs]; simp [tRec, r1, r2, r3]
             exact .same ⟨by simp [tPrg, hr], rfl⟩
            ·
             by_cases r4 : ¬ x.fields.length = 0
             ·
              simp only [go_sem,seval, show ((x.fields.length : Int) = 0) = False by simpa using r4, aia_sl (map_at hp) (eRec_len x), rec_m]
              by_cases r5 : x.fields.length ≤ 512
              ·
               simp only [go_sem,seval, show ((x.fields.length : Int) > 512) = False by first | (simp; done) | (simp; omega), aia_sl (map_at hp) (eRec_len x), rec_m]
               refine lT_list x.fields (fun pre' post' e k => (x.fields.all tFld = post'.all tFld ∧ k = g) ∧ e = [(0, .int .i64 0), (3, .ip (ePrg p) 0), (5, .int .i64 pre.length), (6, .ip (eRec x) 0), (7, .int .i64 pre'.length)]) (WeakE.env ?_) ⟨⟨rfl, rfl⟩, rfl⟩ ?_ ?_
               · simp only [go_sem,seval]
               · rintro pre' y post' e k hp' ⟨⟨hn, rfl⟩, rfl⟩
                 have hy := hx.each y (mem_at hp')
                 have fy := fx.2.2.2.1 y (mem_at hp')
                 simp only [go_sem,seval, lt_at hp', aia_sl (map_at hp') (eFld_len y), fld_m]
                 refine tcE (marks_spec k y.before y.trail hy.before hy.trail fy.1 fy.2.1) ?_
                 cases f1 : tMarks y.before y.trail
                 all_goals simp only [go_sem,seval, aia_sl (map_at hp') (eFld_len y), fld_m]
                 ·
                  refine lessQ.same ?_
                  simp only [go_sem,seval]
                  refine lessQ.same ?_
                  simp only [go_sem,seval]
                  have hfl : x.fields.all tFld = false := by rw [hn]; simp [tFld, f1]
                  have hr : p.recs.all tRec = false := by rw [hs]; simp only [List.all_cons, tRec, hfl, Bool.and_false, Bool.false_and]
                  exact .same ⟨by simp only [tPrg, hr, Bool.and_false, Bool.false_and], rfl⟩
                 ·
                  refine tcE (Name_spec k y.name fy.2.2.1) ?_
                  cases f2 : tName y.name
                  all_goals simp only [go_sem,seval, aia_sl (map_at hp') (eFld_len y), fld_m]
                  ·
                   refine lessQ.same ?_
                   simp only [go_sem,seval]
                   refine lessQ.same ?_
                   simp only [go_sem,seval]
                   have hfl : x.fields.all tFld = false := by rw [hn]; simp [tFld, f1, f2]
                   have hr : p.recs.all tRec = false := by rw [hs]; simp only [List.all_cons, tRec, hfl, Bool.and_false, Bool.false_and]
                   exact .same ⟨by simp only [tPrg, hr, Bool.and_false, Bool.false_and], rfl⟩
                  ·
                   by_cases f3 : 1 ≤ y.kind
                   ·
                    simp only [go_sem,seval, show (y.kind < 1) = False by first | (simp; done) | (simp; omega), aia_sl (map_at hp') (eFld_len y), fld_m]
                    by_cases f4 : y.kind ≤ 3
                    ·
                     simp only [go_sem,seval, show (y.kind > 3) = False by first | (simp; done) | (simp; omega), aia_sl (map_at hp') (eFld_len y), fld_m]
                     refine ⟨_, _, WeakE.env ?_, ⟨?_, rfl⟩, rfl⟩
                     · simp only [go_sem,seval, step_at hx.fields hp']
                     · rw [hn]; simp [tFld, f1, f2, f3, f4]
                    ·
                     simp only [go_sem,seval, show (y.kind > 3) = True by first | (simp; done) | (simp; omega), aia_sl (map_at hp') (eFld_len y), fld_m]
                     refine lessQ.same ?_
                     simp only [go_sem,seval]
                     refine lessQ.same ?_
                     simp only [go_sem,seval]
                     have hfl : x.fields.all tFld = false := by rw [hn]; simp [tFld, f1, f2, f3, f4]
                     have hr : p.recs.all tRec = false := by rw [hs]; simp only [List.all_cons, tRec, hfl, Bool.and_false, Bool.false_and]
                     exact .same ⟨by simp only [tPrg, hr, Bool.and_false, Bool.false_and], rfl⟩
                   ·
                    simp only [go_sem,seval, show (y.kind < 1) = True by first | (simp; done) | (simp; omega), aia_sl (map_at hp') (eFld_len y), fld_m]
                    refine lessQ.same ?_
                    simp only [go_sem,seval]
                    refine lessQ.same ?_
                    simp only [go_sem,seval]
                    have hfl : x.fields.all tFld = false := by rw [hn]; simp [tFld, f1, f2, f3]
                    have hr : p.recs.all tRec = false := by rw [hs]; simp only [List.all_cons, tRec, hfl, Bool.and_false, Bool.false_and]
                    exact .same ⟨by simp only [tPrg, hr, Bool.and_false, Bool.false_and], rfl⟩
               · rintro e k ⟨⟨hn, rfl⟩, rfl⟩
                 simp only [go_sem,seval, lt_end]
                 refine lessQ.same ?_
                 simp only [go_sem,seval]
                 have hfl : x.fields.all tFld = true := by rw [hn]; rfl
                 refine ⟨_, _, WeakE.env ?_, ⟨?_, rfl⟩, rfl⟩
                 · simp only [go_sem,seval, step_at ho.recs hp]
                 · rw [hs]; simp [tRec, hfl, r1, r2, r3, r4, r5]
              ·
               simp only [go_sem,seval, show ((x.fields.length : Int) > 512) = True by first | (simp; done) | (simp; omega), aia_sl (map_at hp) (eRec_len x), rec_m]
               refine lessQ.same ?_
               simp only [go_sem,seval]
               have hr : p.recs.all tRec = false := by rw [hs]; simp [tRec, r1, r2, r3, r4, r5]
               exact .same ⟨by simp [tPrg, hr], rfl⟩
             ·
              simp only [go_sem,seval, show ((x.fields.length : Int) = 0) = True by simpa using r4, aia_sl (map_at hp) (eRec_len x), rec_m]
              refine lessQ.same ?_
              simp only [go_sem,seval]
              have hr : p.recs.all tRec = false := by rw [hs]; simp [tRec, r1, r2, r3, show x.fields.length = 0 by omega]
              exact .same ⟨by simp [tPrg, hr], rfl⟩
        · rintro e g ⟨⟨hs, rfl⟩, rfl⟩
          simp only [go_sem,seval, lt_end]
          refine lessQ.same ?_
          simp only [go_sem,seval]
          have hr : p.recs.all tRec = true := by rw [hs]; rfl
          refine tcE (vars_spec g p.vars ho.vars ho.eachVar hf.2.2.2.2.2.1) ?_
          cases e1 : tVars p.vars
          all_goals simp only [go_sem,seval, Bool.not_true]
          ·
           exact .same ⟨by simp [tPrg, hr, a1, a2, a3, a4, a5, a6, e1], rfl⟩
          ·
           refine tcE (troutines_spec _ p.routines (Nat.le_refl _) ho.routines ho.eachRoutine hf.2.2.2.2.2.2.1 1 g (by omega) (by omega)) ?_
           cases e2 : (tRoutines [] p.routines 1 && decide (p.routines.length ≤ 512))
           all_goals simp only [go_sem,seval, Bool.not_true]
           ·
            exact .same ⟨by simp [tPrg, hr, a1, a2, a3, a4, a5, a6, e1, e2], rfl⟩
           ·
            refine tcE (tstmts_spec _ p.body (Nat.le_refl _) ho.body ho.eachStmt hf.2.2.2.2.2.2.2.1 1 g (by omega) (by omega)) ?_
            cases e3 : (tStmts p.body 1 && decide (p.body.length ≤ 512))
            all_goals simp only [go_sem,seval, Bool.not_true]
            ·
             exact .same ⟨by simp [tPrg, hr, a1, a2, a3, a4, a5, a6, e1, e2, e3], rfl⟩
            ·
             exact .same ⟨by simp [tPrg, hr, a1, a2, a3, a4, a5, a6, e1, e2, e3], rfl⟩
       ·
        simp only [go_sem,seval, show ((p.recs.length : Int) > 512) = True by first | (simp; done) | (simp; omega), Bool.not_true]
        exact .same ⟨by simp [tPrg, a1, a2, a3, a4, a5, a6], rfl⟩
end Pg
