import Derived.Test.YtdfbkddelhbgmaaGreatDoorTreeSS3
import Derived.Test.YtdfbkddelhbgmaaGreatDoorNmWS3
set_option linter.all false
set_option maxHeartbeats 4000000
set_option maxRecDepth 4000
namespace Pg
open Go Go.Proofs.Tryz
theorem aFz (x : Var) : List.take 2 (dF x) = [aE x.before, aE x.aP] := rfl
theorem BP (x : Fld) : List.take 2 (eFld x) = [aE x.before, aE x.aP] := rfl
theorem yE (x : Rec) : List.take 2 (eB x) = [aE x.before, aE x.aP] := rfl
theorem n7 (x : Routine) : List.take 2 (aU x) = [aE x.before, aE x.aP] := by rw [dX]; rfl
theorem aEQ (x : Stmt) : List.take 2 (bA x) = [aE x.before, aE x.aP] := by rw [dO]; rfl
theorem GS {α : Type} (l : List α) : l = [] ∨ ∃ L b, l = L ++ [b] := by
 rcases List.eq_nil_or_concat l with h | ⟨L, b, h⟩
 ·exact .inl h
 ·exact .inr ⟨L, b, by simpa using h⟩
theorem OT {α : Type} (l : List α) : decide ((l.length : Int) ≤ 512) = decide (l.length ≤ 512) := by congr 1; simp; omega
theorem MK [GI] (h : AHeap) (l : List Var) (hl : few l) (ho : ∀ v ∈ l, v.ok) (hf : ∀ v ∈ l, v.fit) : aD prog 22 [.int .i64 0, .sl (l.map dF) false] h (fun v g => v = .bool (jM l) ∧ g = h) := by
  refine F22.calls (by simp) ?_
  delta F22.c0
  simp only [go_sem,seval]
  refine aX l (fun pre post e g => (l.all tG = post.all tG ∧ g = h) ∧ e = [(0, .int .i64 0), (1, .sl (l.map dF) false), (5, .int .i64 pre.length)]) (aF.env ?_) ⟨⟨rfl, rfl⟩, rfl⟩ ?_ ?_
  · simp only [go_sem,seval]
  · rintro pre x post e g hp ⟨⟨hn, rfl⟩, rfl⟩
    have hx := ho x (bJ hp)
    have fx := hf x (bJ hp)
    simp only [go_sem,seval, bI hp, aI (aK hp) (eO x), aFz]
    refine tcE (sK g x.before x.aP hx.before hx.aP fx.1 fx.2.1) ?_
    cases c1 : iH x.before x.aP
    all_goals simp only [go_sem,seval, aI (aK hp) (eO x), E6]
    ·
     refine aM.same ?_
     simp only [go_sem,seval]
     exact .same ⟨by rw [jM, hn]; simp [tG, c1], rfl⟩
    ·
     refine tcE (jL g x.name fx.2.2.1) ?_
     cases c2 : dK x.name
     all_goals simp only [go_sem,seval, aI (aK hp) (eO x), E6]
     ·
      refine aM.same ?_
      simp only [go_sem,seval]
      exact .same ⟨by rw [jM, hn]; simp [tG, c1, c2], rfl⟩
     ·
      refine tcE (OC g x.t fx.2.2.2.2.2) ?_
      cases c3 : mH x.t
      all_goals simp only [go_sem,seval, aI (aK hp) (eO x), E6]
      ·
       refine aM.same ?_
       simp only [go_sem,seval]
       exact .same ⟨by rw [jM, hn]; simp [tG, c1, c2, c3], rfl⟩
      ·
       refine ⟨_, _, aF.env ?_, ⟨?_, rfl⟩, rfl⟩
       · simp only [go_sem,seval, aQ hl hp]
       · rw [hn]; simp [tG, c1, c2, c3]
  · rintro e g ⟨⟨hn, rfl⟩, rfl⟩
    simp only [go_sem,seval, bE]
    refine aM.same ?_
    simp only [go_sem,seval]
    exact .same ⟨by rw [jM, hn, OT]; simp, rfl⟩
theorem UL [GI] (h : AHeap) (l : List Param) (hl : few l) (hf : ∀ v ∈ l, v.fit) : aD prog 53 [.int .i64 0, .sl (l.map c7) false] h (fun v g => v = .bool (eJ l) ∧ g = h) := by
  refine F53.calls (by simp) ?_
  delta F53.c0
  simp only [go_sem,seval]
  refine aX l (fun pre post e g => (l.all dZ = post.all dZ ∧ (∀ y ∈ pre, dZ y = true) ∧ g = h) ∧ e = [(0, .int .i64 0), (1, .sl (l.map c7) false), (5, .int .i64 pre.length)]) (aF.env ?_) ⟨⟨rfl, by simp, rfl⟩, rfl⟩ ?_ ?_
  · simp only [go_sem,seval]
  · rintro pre x post e g hp ⟨⟨hn, hpre, rfl⟩, rfl⟩
    have fx := hf x (bJ hp)
    simp only [go_sem,seval, bI hp, aI (aK hp) (bP x)]
    refine tcE (jL g x.name fx.1) ?_
    cases c1 : dK x.name
    all_goals simp only [go_sem,seval, aI (aK hp) (bP x), gX]
    ·
     refine aM.same ?_
     simp only [go_sem,seval]
     exact .same ⟨by rw [eJ, hn]; simp [dZ, c1], rfl⟩
    ·
     refine tcE (OC g x.t fx.2.1.2.2) ?_
     cases c2 : mH x.t
     all_goals simp only [go_sem,seval, aI (aK hp) (bP x), gX]
     ·
      refine aM.same ?_
      simp only [go_sem,seval]
      exact .same ⟨by rw [eJ, hn]; simp [dZ, c1, c2], rfl⟩
     ·
      by_cases c3 : 0 ≤ x.mode
      ·
       simp only [go_sem,seval, show (x.mode < 0) = False by first | (simp; done) | (simp; omega), aI (aK hp) (bP x), gX]
       by_cases c4 : x.mode ≤ 1
       ·
        simp only [go_sem,seval, show (x.mode > 2) = False by first | (simp; done) | (simp; omega), show (x.mode = 2) = False by first | (simp; done) | (simp; omega), aI (aK hp) (bP x), gX]
        by_cases m0 : x.mode = 0
        ·
          by_cases s0 : x.t.size = 0
          ·
            by_cases k4 : x.t.kind = 4
            ·
              simp only [go_sem,seval, m0, s0, k4, aI (aK hp) (bP x), gX]
              refine aM.same ?_
              simp only [go_sem,seval]
              exact .same ⟨by rw [eJ, hn]; simp [dZ, c1, c2, c3, c4, m0, s0, k4], rfl⟩
            ·
              simp only [go_sem,seval, m0, s0, k4, aI (aK hp) (bP x), gX]
              rcases GS pre with rfl | ⟨pre', y, rfl⟩
              ·
                simp only [go_sem,seval, show ((([] : List Param).length : Int) > 0) = False by simp, aI (aK hp) (bP x), gX]
                refine ⟨_, _, aF.env ?_, ⟨?_, ?_, rfl⟩, rfl⟩
                · simp only [go_sem,seval, aQ hl hp]
                · rw [hn]; simp [dZ, c1, c2, c3, c4, m0, s0, k4]
                · simp [dZ, c1, c2, c3, c4, m0, s0, k4]
              ·
                have hp2 : l = pre' ++ y :: (x :: post) := by rw [hp]; simp
                have hy : (y.mode = 2) = False := by
                  have := hpre y (by simp)
                  simp [dZ] at this
                  simp; omega
                have hw : IntKind.i64.wrap (((pre' ++ [y]).length : Int) - 1) = (pre'.length : Int) := by
                  unfold few at hl
                  rw [hp] at hl; simp at hl
                  rw [wrap64 (by first | (simp; done) | (simp; omega)) (by first | (simp; done) | (simp; omega))]; simp
                simp only [go_sem,seval, show (((pre' ++ [y]).length : Int) > 0) = True by first | (simp; done) | (simp; omega), hw, aI (aK hp2) (bP y), hy, aI (aK hp) (bP x), gX]
                refine ⟨_, _, aF.env ?_, ⟨?_, ?_, rfl⟩, rfl⟩
                · simp only [go_sem,seval, aQ hl hp]
                · rw [hn]; simp [dZ, c1, c2, c3, c4, m0, s0, k4]
                · intro z hz
                  rcases List.mem_append.1 hz with hz | hz
                  · exact hpre z hz
                  · simp at hz; subst hz; simp [dZ, c1, c2, c3, c4, m0, s0, k4]
          ·
            simp only [go_sem,seval, m0, s0, aI (aK hp) (bP x), gX]
            refine aM.same ?_
            simp only [go_sem,seval]
            exact .same ⟨by rw [eJ, hn]; simp [dZ, c1, c2, c3, c4, m0, s0], rfl⟩
        ·
          simp only [go_sem,seval, m0, aI (aK hp) (bP x), gX]
          rcases GS pre with rfl | ⟨pre', y, rfl⟩
          ·
            simp only [go_sem,seval, show ((([] : List Param).length : Int) > 0) = False by simp, aI (aK hp) (bP x), gX, show (x.mode = 2) = False by first | (simp; done) | (simp; omega)]
            refine ⟨_, _, aF.env ?_, ⟨?_, ?_, rfl⟩, rfl⟩
            · simp only [go_sem,seval, aQ hl hp]
            · rw [hn]; simp [dZ, c1, c2, c3, c4, m0]
            · simp [dZ, c1, c2, c3, c4, m0]
          ·
            have hp2 : l = pre' ++ y :: (x :: post) := by rw [hp]; simp
            have hy : (y.mode = 2) = False := by
              have := hpre y (by simp)
              simp [dZ] at this
              simp; omega
            have hw : IntKind.i64.wrap (((pre' ++ [y]).length : Int) - 1) = (pre'.length : Int) := by
              unfold few at hl
              rw [hp] at hl; simp at hl
              rw [wrap64 (by first | (simp; done) | (simp; omega)) (by first | (simp; done) | (simp; omega))]; simp
            simp only [go_sem,seval, show (((pre' ++ [y]).length : Int) > 0) = True by first | (simp; done) | (simp; omega), hw, aI (aK hp2) (bP y), hy, aI (aK hp) (bP x), gX, show (x.mode = 2) = False by first | (simp; done) | (simp; omega)]
            refine ⟨_, _, aF.env ?_, ⟨?_, ?_, rfl⟩, rfl⟩
            · simp only [go_sem,seval, aQ hl hp]
            · rw [hn]; simp [dZ, c1, c2, c3, c4, m0]
            · intro z hz
              rcases List.mem_append.1 hz with hz | hz
              · exact hpre z hz
              · simp at hz; subst hz; simp [dZ, c1, c2, c3, c4, m0]
       ·
        skip
        by_cases m2 : x.mode = 2
        · simp only [go_sem,seval, m2, aI (aK hp) (bP x), gX]
          refine aM.same ?_
          simp only [go_sem,seval]
          exact .same ⟨by rw [eJ, hn]; simp [dZ, c1, c2, c3, c4], rfl⟩
        · simp only [go_sem,seval, show (x.mode > 2) = True by first | (simp; done) | (simp; omega), aI (aK hp) (bP x), gX]
          refine aM.same ?_
          simp only [go_sem,seval]
          exact .same ⟨by rw [eJ, hn]; simp [dZ, c1, c2, c3, c4], rfl⟩
      ·
       simp only [go_sem,seval, show (x.mode < 0) = True by first | (simp; done) | (simp; omega), aI (aK hp) (bP x), gX]
       refine aM.same ?_
       simp only [go_sem,seval]
       exact .same ⟨by rw [eJ, hn]; simp [dZ, c1, c2, c3], rfl⟩
  · rintro e g ⟨⟨hn, hpre, rfl⟩, rfl⟩
    simp only [go_sem,seval, bE]
    refine aM.same ?_
    simp only [go_sem,seval]
    exact .same ⟨by rw [eJ, hn, OT]; simp, rfl⟩
end Pg
namespace Pg
open Go Go.Proofs.Tryz
structure aFr (e : Env) (x : Stmt) (d : Int) : Prop where
 h0 : e.get 0 = .int .i64 0
 h2 : e.get 2 = .int .i64 d
 h4 : e.get 4 = .ip (bA x) 0
def rI [GI] (c : RCode) (x : Stmt) (d : Int) (h : AHeap) (K : AV → AHeap → Prop) : Prop := ∀ e, aFr e x d → wT .go prog 179 c (fun y e' h' t => xV t [.tmp 6] (eE K) y e' h') e h
theorem sY (h : AHeap) (l : List ByteArray) : sZ h 1 (aE l) = some (.int .i64 l.length) := by simp [sZ, aE]
section
variable {x : Stmt} {d : Int} {h : AHeap} {K : AV → AHeap → Prop}
theorem aFA [GI] (hf : tV x = false → K (.bool false) h) (hs : tV x = true → rI F54.c57 x d h K) : rI F54.c53 x d h K := by
 intro e ⟨h0, h2, h4⟩
 delta F54.c53
 simp only [tV] at hf hs
 simp only [go_sem,seval, h0, h2, h4, sY]
 repeat' (refine cP (fun hg => ?_) (fun hg => ?_) <;> simp only [go_sem,seval, hg, Bool.not_true, Bool.not_false, h0, h2, h4, sY])
 all_goals
  first
  | refine hs ?_ _ ⟨by simp only [go_sem,seval, h0], by simp only [go_sem,seval, h2], by simp only [go_sem,seval, h4]⟩
  | refine .same (hf ?_)
  clear hs hf h0 h2 h4
  generalize x.body.length = nb at *
  generalize x.cO.length = ne at *
  try simp only [Bool.not_true, Bool.not_false, decide_eq_true_eq, decide_eq_false_iff_not] at *
  simp
  try omega
theorem aFB [GI] (hf : jN x = false → K (.bool false) h) (hs : jN x = true → rI F54.c53 x d h K) : rI F54.c49 x d h K := by
 intro e ⟨h0, h2, h4⟩
 delta F54.c49
 simp only [jN] at hf hs
 simp only [go_sem,seval, h0, h2, h4, sY]
 cases hm : x.more
 all_goals
  rw [hm] at hf hs
  simp only [go_sem,seval, h0, h2, h4, hm, sY]
  repeat' (refine cP (fun hg => ?_) (fun hg => ?_) <;> simp only [go_sem,seval, hg, Bool.not_true, Bool.not_false, h0, h2, h4, hm, sY])
 all_goals
  first
  | refine hs ?_ _ ⟨by simp only [go_sem,seval, h0], by simp only [go_sem,seval, h2], by simp only [go_sem,seval, h4]⟩
  | refine .same (hf ?_)
  clear hs hf h0 h2 h4
  generalize x.els.length = nb at *
  generalize x.cT.length = ne at *
  try simp only [Bool.not_true, Bool.not_false, decide_eq_true_eq, decide_eq_false_iff_not] at *
  simp
  try omega
theorem aFC [GI] (fn : short x.name) (hf : nL x = false → K (.bool false) h) (hs : nL x = true → rI F54.c49 x d h K) : rI F54.c40 x d h K := by
 intro e ⟨h0, h2, h4⟩
 delta F54.c40
 by_cases h6 : x.op = 6
 ·simp only [nL, h6, if_true] at hf hs
  simp only [go_sem,seval, h0, h2, h4, h6]
  refine tcE (jL h x.name fn) ?_
  cases hn : dK x.name
  ·simp only [go_sem,seval, h0, h2, h4]
   exact .same (hf hn)
  ·simp only [go_sem,seval, h0, h2, h4]
   exact hs hn _ ⟨by simp only [go_sem,seval, h0], by simp only [go_sem,seval, h2], by simp only [go_sem,seval, h4]⟩
 ·simp only [nL, h6, if_false, noBytes] at hf hs
  simp only [go_sem,seval, h0, h2, h4, h6]
  by_cases hn : x.name = (⟨#[]⟩ : ByteArray)
  ·cases hd : x.down
   ·simp only [go_sem,seval, h0, h2, h4, hn, hd]
    exact hs (by simp [hn, hd]) _ ⟨by simp only [go_sem,seval, h0], by simp only [go_sem,seval, h2], by simp only [go_sem,seval, h4]⟩
   ·simp only [go_sem,seval, h0, h2, h4, hn, hd]
    exact .same (hf (by simp [hn, hd]))
  ·simp only [go_sem,seval, h0, h2, h4, hn]
   exact .same (hf (by simp [hn]))
theorem aFD [GI] (ho : x.p.ok) (fp : x.p.fit) (hf : iR x = false → K (.bool false) h) (hs : iR x = true → rI F54.c40 x d h K) : rI F54.c31 x d h K := by
 intro e ⟨h0, h2, h4⟩
 delta F54.c31
 by_cases h17 : x.op = 1 ∨ x.op = 7
 ·simp only [iR, h17, if_true] at hf hs
  rcases h17 with h17 | h17
  all_goals
   simp only [go_sem,seval, h0, h2, h4, h17, zQ]
   refine tcE (YO x.p ho fp h) ?_
   cases hn : j6 x.p
   ·simp only [go_sem,seval, h0, h2, h4]
    exact .same (hf hn)
   ·simp only [go_sem,seval, h0, h2, h4]
    exact hs hn _ ⟨by simp only [go_sem,seval, h0], by simp only [go_sem,seval, h2], by simp only [go_sem,seval, h4]⟩
 ·simp only [iR, h17, if_false] at hf hs
  rw [not_or] at h17
  simp only [go_sem,seval, h0, h2, h4, h17.1, h17.2, zQ]
  refine tcE (aBb x.p h) ?_
  cases hn : kN x.p
  ·simp only [go_sem,seval, h0, h2, h4]
   exact .same (hf hn)
  ·simp only [go_sem,seval, h0, h2, h4]
   exact hs hn _ ⟨by simp only [go_sem,seval, h0], by simp only [go_sem,seval, h2], by simp only [go_sem,seval, h4]⟩
theorem aFE [GI] (hl : few x.e) (he : ∀ y ∈ x.e, y.ok) (fe : ∀ y ∈ x.e, y.fit) (hf : x.e.all (fV x) = false → K (.bool false) h) (hs : x.e.all (fV x) = true → rI F54.c31 x d h K) : rI F54.c19 x d h K := by
 intro e ⟨h0, h2, h4⟩
 delta F54.c19
 simp only [go_sem,seval, h0, h2, h4]
 refine aX x.e (fun pre post e g => (x.e.all (fV x) = post.all (fV x) ∧ g = h) ∧ e = [(0, .int .i64 0), (2, .int .i64 d), (4, .ip (bA x) 0), (9, .int .i64 pre.length)]) (aF.env ?_) ⟨⟨rfl, rfl⟩, rfl⟩ ?_ ?_
 ·simp only [go_sem,seval, h0, h2, h4]
 ·rintro pre y post e g hp ⟨⟨hn, rfl⟩, rfl⟩
  simp only [go_sem,seval, bI hp, aI (aK hp) (aR y)]
  refine tcE (OD y (he y (bJ hp)) (fe y (bJ hp)) g) ?_
  have fail : fV x y = false → x.e.all (fV x) = false := fun hh => by rw [hn]; simp [hh]
  have good : fV x y = true → x.e.all (fV x) = post.all (fV x) := fun hh => by rw [hn]; simp [hh]
  cases hy : nK y
  ·simp only [go_sem,seval]
   refine aM.same ?_
   simp only [go_sem,seval]
   exact .same (hf (fail (by simp [fV, hy])))
  ·by_cases o2 : x.op = 2
   ·by_cases o7 : y.op = 7
    ·simp only [go_sem,seval, o2, o7, aI (aK hp) (aR y)]
     refine ⟨_, _, aF.env ?_, ⟨good (by simp [fV, hy, o2, o7]), rfl⟩, rfl⟩
     simp only [go_sem,seval, aQ hl hp]
    ·simp only [go_sem,seval, o2, o7, aI (aK hp) (aR y)]
     refine aM.same ?_
     simp only [go_sem,seval]
     exact .same (hf (fail (by simp [fV, hy, o2, o7])))
   ·simp only [go_sem,seval, o2]
    refine ⟨_, _, aF.env ?_, ⟨good (by simp [fV, hy, o2]), rfl⟩, rfl⟩
    simp only [go_sem,seval, aQ hl hp]
 ·rintro e g ⟨⟨hn, rfl⟩, rfl⟩
  simp only [go_sem,seval, bE]
  refine aM.same ?_
  simp only [go_sem,seval]
  exact hs (by rw [hn]; rfl) _ ⟨by simp only [go_sem,seval], by simp only [go_sem,seval], by simp only [go_sem,seval]⟩
theorem JJ [GI] (want most : Int) (e : Env) (i : aFr e x d) (h7 : e.get 7 = .int .i64 want) (h8 : e.get 8 = .int .i64 most) (hs : (decide (want ≤ x.e.length) && decide ((x.e.length : Int) ≤ most)) = true → rI F54.c19 x d h K) (hf : (decide (want ≤ x.e.length) && decide ((x.e.length : Int) ≤ most)) = false → K (.bool false) h) :
  wT .go prog 179 F54.c15 (fun y e' h' t => xV t [.tmp 6] (eE K) y e' h') e h := by
 obtain ⟨h0, h2, h4⟩ := i
 delta F54.c15
 by_cases a : (x.e.length : Int) < want
 ·simp only [go_sem,seval, h0, h2, h4, h7, h8, a]
  exact .same (hf (by simp; omega))
 ·by_cases b : (x.e.length : Int) > most
  ·simp only [go_sem,seval, h0, h2, h4, h7, h8, a, b]
   exact .same (hf (by simp; omega))
  ·simp only [go_sem,seval, h0, h2, h4, h7, h8, a, b]
   exact hs (by simp; omega) _ ⟨by simp only [go_sem,seval, h0], by simp only [go_sem,seval, h2], by simp only [go_sem,seval, h4]⟩
theorem aFU [GI] (hf : lW x = false → K (.bool false) h) (hs : lW x = true → rI F54.c19 x d h K) : rI F54.c5 x d h K := by
 intro e ⟨h0, h2, h4⟩
 delta F54.c5
 by_cases h6 : x.op = 6
 ·have ec : lW x = (decide ((2 : Int) ≤ x.e.length) && decide ((x.e.length : Int) ≤ 2)) := by
   simp only [lW, h6, if_true]; rw [Bool.eq_iff_iff]; simp <;> omega
  simp only [go_sem,seval, h0, h2, h4, h6]
  exact JJ 2 2 _ ⟨by simp only [go_sem,seval, h0], by simp only [go_sem,seval, h2], by simp only [go_sem,seval, h4]⟩ (by simp only [go_sem,seval]) (by simp only [go_sem,seval]) (fun hh => hs (ec.trans hh)) (fun hh => hf (ec.trans hh))
 by_cases h7 : x.op = 7
 ·have ec : lW x = (decide ((0 : Int) ≤ x.e.length) && decide ((x.e.length : Int) ≤ 0)) := by
   simp only [lW, h7]; rw [Bool.eq_iff_iff]; simp <;> omega
  simp only [go_sem,seval, h0, h2, h4, h7]
  exact JJ 0 0 _ ⟨by simp only [go_sem,seval, h0], by simp only [go_sem,seval, h2], by simp only [go_sem,seval, h4]⟩ (by simp only [go_sem,seval]) (by simp only [go_sem,seval]) (fun hh => hs (ec.trans hh)) (fun hh => hf (ec.trans hh))
 by_cases h9 : x.op = 9
 ·have ec : lW x = (decide ((0 : Int) ≤ x.e.length) && decide ((x.e.length : Int) ≤ 1)) := by
   simp only [lW, h9]; rw [Bool.eq_iff_iff]; simp <;> omega
  simp only [go_sem,seval, h0, h2, h4, h9]
  exact JJ 0 1 _ ⟨by simp only [go_sem,seval, h0], by simp only [go_sem,seval, h2], by simp only [go_sem,seval, h4]⟩ (by simp only [go_sem,seval]) (by simp only [go_sem,seval]) (fun hh => hs (ec.trans hh)) (fun hh => hf (ec.trans hh))
 ·have ec : lW x = (decide ((1 : Int) ≤ x.e.length) && decide ((x.e.length : Int) ≤ 1)) := by
   simp only [lW, h6, h7, h9, if_false]; rw [Bool.eq_iff_iff]; simp <;> omega
  simp only [go_sem,seval, h0, h2, h4, h6, h7, h9]
  exact JJ 1 1 _ ⟨by simp only [go_sem,seval, h0], by simp only [go_sem,seval, h2], by simp only [go_sem,seval, h4]⟩ (by simp only [go_sem,seval]) (by simp only [go_sem,seval]) (fun hh => hs (ec.trans hh)) (fun hh => hf (ec.trans hh))
theorem aFV [GI] (ho : x.ok) (fx : x.fit) (h48 : d ≤ 48) (hf : wZ x = false → K (.bool false) h) (hs : wZ x = true → rI F54.c5 x d h K) : rI F54.c1 x d h K := by
 intro e ⟨h0, h2, h4⟩
 have hok := (Stmt.cN x).1 ho
 have hft := (Stmt.fD x).1 fx
 have hd : (d > 48) = False := by simp; omega
 delta F54.c1
 simp only [go_sem,seval, h0, h2, h4, hd, aEQ]
 refine tcE (sK h x.before x.aP hok.1 hok.2.1 hft.1 hft.2.1) ?_
 simp only [wZ] at hf hs
 cases c1 : iH x.before x.aP
 ·simp only [go_sem,seval, h0, h2, h4]
  exact .same (hf (by simp [c1]))
 simp only [go_sem,seval, h0, h2, h4]
 refine tcE (j0 h x.cO hok.2.2.2.2.2.2.2.2.2.1 hft.2.2.2.2.2.2.2.2.1) ?_
 cases c2 : eU x.cO
 ·simp only [go_sem,seval, h0, h2, h4]
  exact .same (hf (by simp [c2]))
 simp only [go_sem,seval, h0, h2, h4]
 refine tcE (j0 h x.cT hok.2.2.2.2.2.2.2.2.2.2 hft.2.2.2.2.2.2.2.2.2) ?_
 cases c3 : eU x.cT
 ·simp only [go_sem,seval, h0, h2, h4]
  exact .same (hf (by simp [c3]))
 by_cases o1 : x.op < 1
 ·simp only [go_sem,seval, h0, h2, h4, o1]
  exact .same (hf (by simp; intros; omega))
 ·by_cases o9 : x.op > 9
  ·simp only [go_sem,seval, h0, h2, h4, o1, o9]
   exact .same (hf (by simp; intros; omega))
  ·simp only [go_sem,seval, h0, h2, h4, o1, o9]
   exact hs (by simp [c1, c2, c3]; omega) _ ⟨by simp only [go_sem,seval, h0], by simp only [go_sem,seval, h2], by simp only [go_sem,seval, h4]⟩
end
end Pg
namespace Pg
open Go Go.Proofs.Tryz
theorem oA (x : Stmt) (d : Int) : nJ x d = (decide (d ≤ 48) && fB x && (dA x.body (d + 1) && decide (x.body.length ≤ 512)) && (dA x.els (d + 1) && decide (x.els.length ≤ 512))) := by
 obtain ⟨before, aP, op, name, p, e, down, more, body, els, cO, cT⟩ := x; rw [nJ]
def EX [GI] (l : List Stmt) : Prop := ∀ (d : Int) (h : AHeap), 0 ≤ d → d ≤ 49 → aD prog 24 [.int .i64 0, .sl (l.map bA) false, .int .i64 d] h (fun v g => v = .bool (dA l d && decide (l.length ≤ 512)) ∧ g = h)
theorem aB1 [GI] (x : Stmt) (ho : x.ok) (fx : x.fit) (ihb : EX x.body) (ihe : EX x.els) (d : Int) (h : AHeap) (hd0 : 0 ≤ d) (hd : d ≤ 49) :
  aD prog 54 [.int .i64 0, .agg (bA x), .int .i64 d] h (fun v g => v = .bool (nJ x d) ∧ g = h) := by
 have hok := (Stmt.cN x).1 ho
 have hft := (Stmt.fD x).1 fx
 by_cases h48 : d ≤ 48
 ·
  refine F54.calls (by simp) ?_
  delta F54.c0
  simp only [go_sem,seval]
  have fail : ∀ {K : Prop}, fB x = false → (AV.bool false = .bool (nJ x d) ∧ h = h) := by
   intro _ hh
   refine ⟨?_, rfl⟩
   rw [oA, hh]; simp
  refine aFV (x := x) (d := d) (h := h) (K := fun v g => v = .bool (nJ x d) ∧ g = h) ho fx h48 (fun h1 => fail (K := True) (by simp [fB, h1])) (fun h1 => ?_) _ ⟨by simp only [go_sem,seval], by simp only [go_sem,seval], by simp only [go_sem,seval]⟩
  refine aFU (fun h2 => fail (K := True) (by simp [fB, h2])) (fun h2 => ?_)
  refine aFE hok.2.2.2.1 hok.2.2.2.2.1 hft.2.2.2.2.2.1 (fun h3 => fail (K := True) (by simp only [fB, h3]; simp)) (fun h3 => ?_)
  refine aFD hok.2.2.1 hft.2.2.2.2.1 (fun h4 => fail (K := True) (by simp [fB, h4])) (fun h4 => ?_)
  refine aFC hft.2.2.2.1 (fun h5 => fail (K := True) (by simp [fB, h5])) (fun h5 => ?_)
  refine aFB (fun h6 => fail (K := True) (by simp [fB, h6])) (fun h6 => ?_)
  refine aFA (fun h7 => fail (K := True) (by simp [fB, h7])) (fun h7 => ?_)
  have hall : fB x = true := by simp only [fB, h1, h2, h3, h4, h5, h6, h7, Bool.and_self]
  have hw : IntKind.i64.wrap (d + 1) = d + 1 := wrap64 (by omega) (by omega)
  intro e ⟨g0, g2, g4⟩
  delta F54.c57
  simp only [go_sem,seval, g0, g2, g4, hw]
  refine tcE (ihb (d + 1) h (by omega) (by omega)) ?_
  cases hb : (dA x.body (d + 1) && decide (x.body.length ≤ 512))
  ·simp only [go_sem,seval, g0, g2, g4]
   refine .same ⟨?_, rfl⟩
   rw [oA, hall, hb]; simp
  ·simp only [go_sem,seval, g0, g2, g4, hw]
   refine tcE (ihe (d + 1) h (by omega) (by omega)) ?_
   simp only [go_sem,seval]
   refine .same ⟨?_, rfl⟩
   rw [oA, hall, hb]; simp [h48]
 ·have hd' : (d > 48) = True := by simp; omega
  refine F54.calls (by simp) ?_
  delta F54.c0 F54.c1
  simp only [go_sem,seval, hd']
  exact .same ⟨by rw [oA]; simp [h48], rfl⟩
theorem oS [GI] : ∀ (n : Nat) (l : List Stmt), aZ.sz l ≤ n → few l → (∀ x ∈ l, x.ok) → (∀ x ∈ l, x.fit) → EX l := by
 intro n
 induction n with
 | zero =>
  intro l hn hw ho hf
  cases l with
  | cons x r => simp [aZ.sz] at hn
  | nil =>
   intro d h hd0 hd
   refine F24.calls (by simp) ?_
   delta F24.c0
   simp only [go_sem,seval]
   refine gR ?_
   simp only [go_sem,seval]
   exact .same ⟨by simp [dA], rfl⟩
 | succ n ih =>
  intro l hn hw ho hf d h hd0 hd
  refine F24.calls (by simp) ?_
  delta F24.c0
  simp only [go_sem,seval]
  refine aX l (fun pre post e g => (dA l d = dA post d ∧ g = h) ∧ e = [(0, .int .i64 0), (1, .sl (l.map bA) false), (2, .int .i64 d), (7, .int .i64 pre.length)]) (aF.env ?_) ⟨⟨rfl, rfl⟩, rfl⟩ ?_ ?_
  ·simp only [go_sem,seval]
  ·rintro pre x post e g hp ⟨⟨hs, rfl⟩, rfl⟩
   have hx := bJ hp
   have hz := aZ.dU hx
   have hsz := Stmt.cY x
   have hok := (Stmt.cN x).1 (ho x hx)
   have hft := (Stmt.fD x).1 (hf x hx)
   have ihb : EX x.body := ih x.body (by omega) hok.2.2.2.2.2.1 hok.2.2.2.2.2.2.1 hft.2.2.2.2.2.2.1
   have ihe : EX x.els := ih x.els (by omega) hok.2.2.2.2.2.2.2.1 hok.2.2.2.2.2.2.2.2.1 hft.2.2.2.2.2.2.2.1
   simp only [go_sem,seval, bI hp, aI (aK hp) (c6 x)]
   refine tcE (aB1 x (ho x hx) (hf x hx) ihb ihe d g hd0 hd) ?_
   cases ht : nJ x d
   ·simp only [go_sem,seval]
    refine aM.same ?_
    simp only [go_sem,seval]
    exact .same ⟨by rw [hs]; simp [dA, ht], rfl⟩
   ·simp only [go_sem,seval]
    refine ⟨_, _, aF.env ?_, ⟨?_, rfl⟩, rfl⟩
    ·simp only [go_sem,seval, aQ hw hp]
    ·rw [hs]; simp [dA, ht]
  ·rintro e g ⟨⟨hs, rfl⟩, rfl⟩
   simp only [go_sem,seval, bE]
   refine aM.same ?_
   simp only [go_sem,seval]
   refine .same ⟨?_, rfl⟩
   rw [hs, OT]; simp [dA]
end Pg
namespace Pg
open Go Go.Proofs.Tryz
theorem dP (ahead : List ByteArray) (x : Routine) (d : Int) : gC ahead x d = (decide (d ≤ 48) && iH x.before x.aP && eU x.bT && dK x.name && decide (0 ≤ x.result) && decide (x.result ≤ 3) && !fY x.name ahead && eJ x.params && jM x.vars && (bN [] x.inner (d + 1) && decide (x.inner.length ≤ 512)) && (dA x.body 1 && decide (x.body.length ≤ 512))) := by
 obtain ⟨before, aP, name, result, params, vars, inner, body, bT⟩ := x; rw [gC]
def CC [GI] (l : List Routine) : Prop := ∀ (d : Int) (h : AHeap), 0 ≤ d → d ≤ 49 → aD prog 23 [.int .i64 0, .sl (l.map aU) false, .int .i64 d] h (fun v g => v = .bool (bN [] l d && decide (l.length ≤ 512)) ∧ g = h)
theorem pI [GI] (l : List Routine) (ih : ∀ x ∈ l, CC x.inner) (hw : few l) (ho : ∀ x ∈ l, x.ok) (hf : ∀ x ∈ l, x.fit) : CC l := by
  intro d h hd0 hd
  refine F23.calls (by simp) ?_
  delta F23.c0
  simp only [go_sem,seval]
  refine aX l (fun pre post e g => (bN [] l d = bN (pre.map (·.name)) post d ∧ g = h) ∧ e = [(0, .int .i64 0), (1, .sl (l.map aU) false), (2, .int .i64 d), (7, .int .i64 pre.length)]) (aF.env ?_) ⟨⟨rfl, rfl⟩, rfl⟩ ?_ ?_
  · simp only [go_sem,seval]
  · rintro pre x post e g hp ⟨⟨hs, rfl⟩, rfl⟩
    have hx := bJ hp
    have hok := (Routine.cN x).1 (ho x hx)
    have hft := (Routine.fD x).1 (hf x hx)
    by_cases h48 : d ≤ 48
    ·
      have hd' : (d > 48) = False := by simp; omega
      have hwr : IntKind.i64.wrap (d + 1) = d + 1 := wrap64 (by omega) (by omega)
      simp only [go_sem,seval, bI hp, aI (aK hp) (bL x), hd', n7]
      refine tcE (sK g x.before x.aP hok.1 hok.2.1 hft.1 hft.2.1) ?_
      cases c1 : iH x.before x.aP
      all_goals simp only [go_sem,seval, aI (aK hp) (bL x), n7]
      ·
       refine aM.same ?_
       simp only [go_sem,seval]
       exact .same ⟨by rw [hs]; simp [bN, dP, c1], rfl⟩
      ·
       refine tcE (j0 g x.bT hok.2.2.2.2.2.2.2.2.2 hft.2.2.2.2.2.2.2.2) ?_
       cases c2 : eU x.bT
       all_goals simp only [go_sem,seval, aI (aK hp) (bL x), n7]
       ·
        refine aM.same ?_
        simp only [go_sem,seval]
        exact .same ⟨by rw [hs]; simp [bN, dP, c1, c2], rfl⟩
       ·
        refine tcE (xX g x.name hft.2.2.1) ?_
        cases c3 : dK x.name
        all_goals simp only [go_sem,seval, aI (aK hp) (bL x), n7]
        ·
         refine aM.same ?_
         simp only [go_sem,seval]
         exact .same ⟨by rw [hs]; simp [bN, dP, c1, c2, c3], rfl⟩
        ·
         by_cases c4 : 0 ≤ x.result
         ·
          simp only [go_sem,seval, show (x.result < 0) = False by first | (simp; done) | (simp; omega), aI (aK hp) (bL x), n7]
          by_cases c5 : x.result ≤ 3
          ·
           simp only [go_sem,seval, show (x.result > 3) = False by first | (simp; done) | (simp; omega), aI (aK hp) (bL x), n7]
           have hple : few pre := by
             unfold few at hw ⊢
             rw [hp] at hw; simp at hw; omega
           refine aX pre (fun pre' post' e k => ((∀ z ∈ pre', ¬ z.name = x.name) ∧ k = g) ∧ e = [(0, .int .i64 0), (1, .sl (l.map aU) false), (2, .int .i64 d), (7, .int .i64 pre.length), (8, .ip (aU x) 0), (9, .int .i64 pre'.length)]) (aF.env ?_) ⟨⟨by simp, rfl⟩, rfl⟩ ?_ ?_
           · simp only [go_sem,seval]
           · rintro pre' y post' e k hp' ⟨⟨hn, rfl⟩, rfl⟩
             have hp2 : l = pre' ++ y :: (post' ++ x :: post) := by rw [hp, hp']; simp
             simp only [go_sem,seval, bI hp', aI (aK hp2) (bL y)]
             by_cases hy : y.name = x.name
             ·
               simp only [go_sem,seval, hy]
               refine aM.same ?_
               simp only [go_sem,seval]
               have ham : fY x.name (pre.map (·.name)) = true := by
                 simp only [fY, List.any_eq_true]
                 exact ⟨y.name, List.mem_map.2 ⟨y, bJ hp', rfl⟩, by simp [hy]⟩
               refine aM.same ?_
               simp only [go_sem,seval]
               exact .same ⟨by rw [hs]; simp [bN, dP, ham], rfl⟩
             ·
               simp only [go_sem,seval, hy]
               refine ⟨_, _, aF.env ?_, ⟨?_, rfl⟩, rfl⟩
               · simp only [go_sem,seval, aQ hple hp']
               · intro z hz
                 rcases List.mem_append.1 hz with hz | hz
                 · exact hn z hz
                 · simp at hz; subst hz; exact hy
           · rintro e k ⟨⟨hn, rfl⟩, rfl⟩
             have ham : fY x.name (pre.map (·.name)) = false := by
               simp only [fY, List.any_eq_false, List.mem_map]
               rintro n ⟨z, hz, rfl⟩
               simp [hn z hz]
             simp only [go_sem,seval, bE]
             refine aM.same ?_
             simp only [go_sem,seval]
             refine tcE (UL k x.params hok.2.2.1 hft.2.2.2.2.1) ?_
             cases d1 : eJ x.params
             all_goals simp only [go_sem,seval, hwr]
             ·
              refine aM.same ?_
              simp only [go_sem,seval]
              exact .same ⟨by rw [hs]; simp [bN, dP, c1, c2, c3, c4, c5, d1], rfl⟩
             ·
              refine tcE (MK k x.vars hok.2.2.2.1 hok.2.2.2.2.1 hft.2.2.2.2.2.1) ?_
              cases d2 : jM x.vars
              all_goals simp only [go_sem,seval, hwr]
              ·
               refine aM.same ?_
               simp only [go_sem,seval]
               exact .same ⟨by rw [hs]; simp [bN, dP, c1, c2, c3, c4, c5, d1, d2], rfl⟩
              ·
               refine tcE (ih x hx (d + 1) k (by omega) (by omega)) ?_
               cases d3 : (bN [] x.inner (d + 1) && decide (x.inner.length ≤ 512))
               all_goals simp only [go_sem,seval, hwr]
               ·
                refine aM.same ?_
                simp only [go_sem,seval]
                exact .same ⟨by rw [hs]; simp [bN, dP, c1, c2, c3, c4, c5, d1, d2, d3], rfl⟩
               ·
                refine tcE (oS _ x.body (Nat.le_refl _) hok.2.2.2.2.2.2.2.1 hok.2.2.2.2.2.2.2.2.1 hft.2.2.2.2.2.2.2.1 1 k (by omega) (by omega)) ?_
                cases d4 : (dA x.body 1 && decide (x.body.length ≤ 512))
                all_goals simp only [go_sem,seval, hwr]
                ·
                 refine aM.same ?_
                 simp only [go_sem,seval]
                 exact .same ⟨by rw [hs]; simp [bN, dP, c1, c2, c3, c4, c5, d1, d2, d3, d4], rfl⟩
                ·
                 refine ⟨_, _, aF.env ?_, ⟨?_, rfl⟩, rfl⟩
                 · simp only [go_sem,seval, aQ hw hp]
                 · rw [hs]; simp [bN, dP, h48, ham, c1, c2, c3, c4, c5, d1, d2, d3, d4]
          ·
           simp only [go_sem,seval, show (x.result > 3) = True by first | (simp; done) | (simp; omega), aI (aK hp) (bL x), n7]
           refine aM.same ?_
           simp only [go_sem,seval]
           exact .same ⟨by rw [hs]; simp [bN, dP, c1, c2, c3, c4, c5], rfl⟩
         ·
          simp only [go_sem,seval, show (x.result < 0) = True by first | (simp; done) | (simp; omega), aI (aK hp) (bL x), n7]
          refine aM.same ?_
          simp only [go_sem,seval]
          exact .same ⟨by rw [hs]; simp [bN, dP, c1, c2, c3, c4], rfl⟩
    ·
      have hd' : (d > 48) = True := by simp; omega
      simp only [go_sem,seval, bI hp, aI (aK hp) (bL x), hd']
      refine aM.same ?_
      simp only [go_sem,seval]
      exact .same ⟨by rw [hs]; simp [bN, dP, h48], rfl⟩
  · rintro e g ⟨⟨hs, rfl⟩, rfl⟩
    simp only [go_sem,seval, bE]
    refine aM.same ?_
    simp only [go_sem,seval]
    refine .same ⟨?_, rfl⟩
    rw [hs, OT]; simp [bN]
theorem LL [GI] : ∀ (n : Nat) (l : List Routine), bB.sz l ≤ n → few l → (∀ x ∈ l, x.ok) → (∀ x ∈ l, x.fit) → CC l := by
 intro n
 induction n with
 | zero =>
  intro l hn hw ho hf
  refine pI l (fun x hx => ?_) hw ho hf
  have := bB.dU hx
  omega
 | succ n ih =>
  intro l hn hw ho hf
  refine pI l (fun x hx => ?_) hw ho hf
  have hz1 := bB.dU hx
  have hz2 := Routine.cY x
  have hok := (Routine.cN x).1 (ho x hx)
  have hft := (Routine.fD x).1 (hf x hx)
  exact @ih x.inner (by omega) hok.2.2.2.2.2.1 hok.2.2.2.2.2.2.1 hft.2.2.2.2.2.2.1
end Pg
namespace Pg
open Go Go.Proofs.Tryz
theorem aAp [GI] (p : Prg) (ho : p.ok) (hf : p.fit) (h : AHeap) : aD prog 9 [.int .i64 0, .agg (fJ p)] h (fun v g => v = .bool (eI p) ∧ g = h) := by
  refine F9.calls (by simp) ?_
  delta F9.c0
  simp only [go_sem,seval]
  refine tcE (jL h p.name hf.1) ?_
  cases a1 : dK p.name
  all_goals simp only [go_sem,seval, Bool.not_true]
  ·
   exact .same ⟨by simp [eI, a1], rfl⟩
  ·
   refine tcE (j0 h p.before ho.before hf.2.1) ?_
   cases a2 : eU p.before
   all_goals simp only [go_sem,seval, Bool.not_true]
   ·
    exact .same ⟨by simp [eI, a1, a2], rfl⟩
   ·
    refine tcE (j0 h p.mid ho.mid hf.2.2.1) ?_
    cases a3 : eU p.mid
    all_goals simp only [go_sem,seval, Bool.not_true]
    ·
     exact .same ⟨by simp [eI, a1, a2, a3], rfl⟩
    ·
     refine tcE (j0 h p.after ho.after hf.2.2.2.1) ?_
     cases a4 : eU p.after
     all_goals simp only [go_sem,seval, Bool.not_true]
     ·
      exact .same ⟨by simp [eI, a1, a2, a3, a4], rfl⟩
     ·
      refine tcE (j0 h p.bT ho.bT hf.2.2.2.2.2.2.2.2) ?_
      cases a5 : eU p.bT
      all_goals simp only [go_sem,seval, Bool.not_true]
      ·
       exact .same ⟨by simp [eI, a1, a2, a3, a4, a5], rfl⟩
      ·
       by_cases a6 : p.recs.length ≤ 512
       ·
        simp only [go_sem,seval, show ((p.recs.length : Int) > 512) = False by first | (simp; done) | (simp; omega), Bool.not_true]
        refine aX p.recs (fun pre post e g => (p.recs.all jX = post.all jX ∧ g = h) ∧ e = [(0, .int .i64 0), (3, .ip (fJ p) 0), (5, .int .i64 pre.length)]) (aF.env ?_) ⟨⟨rfl, rfl⟩, rfl⟩ ?_ ?_
        · simp only [go_sem,seval]
        · rintro pre x post e g hp ⟨⟨hs, rfl⟩, rfl⟩
          have hx := ho.rV x (bJ hp)
          have fx := hf.2.2.2.2.1 x (bJ hp)
          simp only [go_sem,seval, bI hp, aI (aK hp) (dG x), yE]
          refine tcE (sK g x.before x.aP hx.before hx.aP fx.1 fx.2.1) ?_
          cases r1 : iH x.before x.aP
          all_goals simp only [go_sem,seval, aI (aK hp) (dG x), yE]
          ·
           refine aM.same ?_
           simp only [go_sem,seval]
           have hr : p.recs.all jX = false := by rw [hs]; simp [jX, r1]
           exact .same ⟨by simp [eI, hr], rfl⟩
          ·
           refine tcE (j0 g x.bT hx.bT fx.2.2.2.2) ?_
           cases r2 : eU x.bT
           all_goals simp only [go_sem,seval, aI (aK hp) (dG x), yE]
           ·
            refine aM.same ?_
            simp only [go_sem,seval]
            have hr : p.recs.all jX = false := by rw [hs]; simp [jX, r1, r2]
            exact .same ⟨by simp [eI, hr], rfl⟩
           ·
            refine tcE (jL g x.name fx.2.2.1) ?_
            cases r3 : dK x.name
            all_goals simp only [go_sem,seval, aI (aK hp) (dG x), yE]
            ·
             refine aM.same ?_
             simp only [go_sem,seval]
             have hr : p.recs.all jX = false := by rw [hs]; simp [jX, r1, r2, r3]
             exact .same ⟨by simp [eI, hr], rfl⟩
            ·
             by_cases r4 : ¬ x.fields.length = 0
             ·
              simp only [go_sem,seval, show ((x.fields.length : Int) = 0) = False by simpa using r4, aI (aK hp) (dG x), yE]
              by_cases r5 : x.fields.length ≤ 512
              ·
               simp only [go_sem,seval, show ((x.fields.length : Int) > 512) = False by first | (simp; done) | (simp; omega), aI (aK hp) (dG x), yE]
               refine aX x.fields (fun pre' post' e k => (x.fields.all qK = post'.all qK ∧ k = g) ∧ e = [(0, .int .i64 0), (3, .ip (fJ p) 0), (5, .int .i64 pre.length), (6, .ip (eB x) 0), (7, .int .i64 pre'.length)]) (aF.env ?_) ⟨⟨rfl, rfl⟩, rfl⟩ ?_ ?_
               · simp only [go_sem,seval]
               · rintro pre' y post' e k hp' ⟨⟨hn, rfl⟩, rfl⟩
                 have hy := hx.each y (bJ hp')
                 have fy := fx.2.2.2.1 y (bJ hp')
                 simp only [go_sem,seval, bI hp', aI (aK hp') (eC y), BP]
                 refine tcE (sK k y.before y.aP hy.before hy.aP fy.1 fy.2.1) ?_
                 cases f1 : iH y.before y.aP
                 all_goals simp only [go_sem,seval, aI (aK hp') (eC y), BP]
                 ·
                  refine aM.same ?_
                  simp only [go_sem,seval]
                  refine aM.same ?_
                  simp only [go_sem,seval]
                  have hfl : x.fields.all qK = false := by rw [hn]; simp [qK, f1]
                  have hr : p.recs.all jX = false := by rw [hs]; simp only [List.all_cons, jX, hfl, Bool.and_false, Bool.false_and]
                  exact .same ⟨by simp only [eI, hr, Bool.and_false, Bool.false_and], rfl⟩
                 ·
                  refine tcE (jL k y.name fy.2.2.1) ?_
                  cases f2 : dK y.name
                  all_goals simp only [go_sem,seval, aI (aK hp') (eC y), BP]
                  ·
                   refine aM.same ?_
                   simp only [go_sem,seval]
                   refine aM.same ?_
                   simp only [go_sem,seval]
                   have hfl : x.fields.all qK = false := by rw [hn]; simp [qK, f1, f2]
                   have hr : p.recs.all jX = false := by rw [hs]; simp only [List.all_cons, jX, hfl, Bool.and_false, Bool.false_and]
                   exact .same ⟨by simp only [eI, hr, Bool.and_false, Bool.false_and], rfl⟩
                  ·
                   by_cases f3 : 1 ≤ y.kind
                   ·
                    simp only [go_sem,seval, show (y.kind < 1) = False by first | (simp; done) | (simp; omega), aI (aK hp') (eC y), BP]
                    by_cases f4 : y.kind ≤ 3
                    ·
                     simp only [go_sem,seval, show (y.kind > 3) = False by first | (simp; done) | (simp; omega), aI (aK hp') (eC y), BP]
                     refine ⟨_, _, aF.env ?_, ⟨?_, rfl⟩, rfl⟩
                     · simp only [go_sem,seval, aQ hx.fields hp']
                     · rw [hn]; simp [qK, f1, f2, f3, f4]
                    ·
                     simp only [go_sem,seval, show (y.kind > 3) = True by first | (simp; done) | (simp; omega), aI (aK hp') (eC y), BP]
                     refine aM.same ?_
                     simp only [go_sem,seval]
                     refine aM.same ?_
                     simp only [go_sem,seval]
                     have hfl : x.fields.all qK = false := by rw [hn]; simp [qK, f1, f2, f3, f4]
                     have hr : p.recs.all jX = false := by rw [hs]; simp only [List.all_cons, jX, hfl, Bool.and_false, Bool.false_and]
                     exact .same ⟨by simp only [eI, hr, Bool.and_false, Bool.false_and], rfl⟩
                   ·
                    simp only [go_sem,seval, show (y.kind < 1) = True by first | (simp; done) | (simp; omega), aI (aK hp') (eC y), BP]
                    refine aM.same ?_
                    simp only [go_sem,seval]
                    refine aM.same ?_
                    simp only [go_sem,seval]
                    have hfl : x.fields.all qK = false := by rw [hn]; simp [qK, f1, f2, f3]
                    have hr : p.recs.all jX = false := by rw [hs]; simp only [List.all_cons, jX, hfl, Bool.and_false, Bool.false_and]
                    exact .same ⟨by simp only [eI, hr, Bool.and_false, Bool.false_and], rfl⟩
               · rintro e k ⟨⟨hn, rfl⟩, rfl⟩
                 simp only [go_sem,seval, bE]
                 refine aM.same ?_
                 simp only [go_sem,seval]
                 have hfl : x.fields.all qK = true := by rw [hn]; rfl
                 refine ⟨_, _, aF.env ?_, ⟨?_, rfl⟩, rfl⟩
                 · simp only [go_sem,seval, aQ ho.recs hp]
                 · rw [hs]; simp [jX, hfl, r1, r2, r3, r4, r5]
              ·
               simp only [go_sem,seval, show ((x.fields.length : Int) > 512) = True by first | (simp; done) | (simp; omega), aI (aK hp) (dG x), yE]
               refine aM.same ?_
               simp only [go_sem,seval]
               have hr : p.recs.all jX = false := by rw [hs]; simp [jX, r1, r2, r3, r4, r5]
               exact .same ⟨by simp [eI, hr], rfl⟩
             ·
              simp only [go_sem,seval, show ((x.fields.length : Int) = 0) = True by simpa using r4, aI (aK hp) (dG x), yE]
              refine aM.same ?_
              simp only [go_sem,seval]
              have hr : p.recs.all jX = false := by rw [hs]; simp [jX, r1, r2, r3, show x.fields.length = 0 by omega]
              exact .same ⟨by simp [eI, hr], rfl⟩
        · rintro e g ⟨⟨hs, rfl⟩, rfl⟩
          simp only [go_sem,seval, bE]
          refine aM.same ?_
          simp only [go_sem,seval]
          have hr : p.recs.all jX = true := by rw [hs]; rfl
          refine tcE (MK g p.vars ho.vars ho.FN hf.2.2.2.2.2.1) ?_
          cases e1 : jM p.vars
          all_goals simp only [go_sem,seval, Bool.not_true]
          ·
           exact .same ⟨by simp [eI, hr, a1, a2, a3, a4, a5, a6, e1], rfl⟩
          ·
           refine tcE (LL _ p.aH (Nat.le_refl _) ho.aH ho.iO hf.2.2.2.2.2.2.1 1 g (by omega) (by omega)) ?_
           cases e2 : (bN [] p.aH 1 && decide (p.aH.length ≤ 512))
           all_goals simp only [go_sem,seval, Bool.not_true]
           ·
            exact .same ⟨by simp [eI, hr, a1, a2, a3, a4, a5, a6, e1, e2], rfl⟩
           ·
            refine tcE (oS _ p.body (Nat.le_refl _) ho.body ho.rH hf.2.2.2.2.2.2.2.1 1 g (by omega) (by omega)) ?_
            cases e3 : (dA p.body 1 && decide (p.body.length ≤ 512))
            all_goals simp only [go_sem,seval, Bool.not_true]
            ·
             exact .same ⟨by simp [eI, hr, a1, a2, a3, a4, a5, a6, e1, e2, e3], rfl⟩
            ·
             exact .same ⟨by simp [eI, hr, a1, a2, a3, a4, a5, a6, e1, e2, e3], rfl⟩
       ·
        simp only [go_sem,seval, show ((p.recs.length : Int) > 512) = True by first | (simp; done) | (simp; omega), Bool.not_true]
        exact .same ⟨by simp [eI, a1, a2, a3, a4, a5, a6], rfl⟩
end Pg
