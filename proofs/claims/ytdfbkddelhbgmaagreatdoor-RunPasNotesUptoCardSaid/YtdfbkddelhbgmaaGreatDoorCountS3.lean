import Derived.Test.YtdfbkddelhbgmaaGreatDoorTreeSS3
import Derived.Test.YtdfbkddelhbgmaaGreatDoorCodeAS3
import Derived.Test.YtdfbkddelhbgmaaGreatDoorCheckSpecJS3
namespace Pg
open Go Go.Proofs.Tryz
set_option linter.all false
set_option maxHeartbeats 1000000
set_option maxRecDepth 4000
theorem K7 [GI] {h : AHeap} {full : Bool} (l : List Stmt) (hw : few l) (fid : Nat) (first captured : List AV) (p : Stmt → Bool) (hc : eD prog fid = true)
  (hf : ∀ x ∈ l, aD prog fid (first ++ [.agg (bA x)] ++ captured) h (fun v g => v = .bool (p x) ∧ g = h)) :
  aD prog 160 [.sl (l.map bA) full, .func (.func fid) first captured] h (fun v g => v = .int .i64 (match l.findIdx? p with | some i => i | none => -1) ∧ g = h) := by
 refine SK.calls (by simp) ?_
 delta SK.c0
 simp only [go_sem,seval, List.length_map]
 refine aX l (fun pre post e g => (∀ x ∈ pre, p x = false) ∧ g = h ∧ e = [(0, .sl (l.map bA) full), (1, .func (.func fid) first captured), (7, .int .i64 l.length), (8, .int .i64 pre.length)]) (aF.env ?_) ⟨by simp, rfl, rfl⟩ ?_ ?_
 ·simp only [go_sem,seval]
 ·rintro pre x post e g hl ⟨hp, rfl, rfl⟩
  simp only [go_sem,seval, bI hl, aI (aK hl) (c6 x)]
  refine ⟨hc, aW (hf x (bJ hl)) (fun v k ⟨hv, hk⟩ => ?_)⟩
  subst hv hk
  cases hpx : p x with
  | true =>
   simp only [go_sem,seval]
   refine aM.same ?_
   simp only [go_sem,seval]
   refine .same ⟨?_, rfl⟩
   have : l.findIdx? p = some pre.length := by
    subst hl
    rw [List.findIdx?_append, List.findIdx?_eq_none_iff.2 (by simpa using hp)]
    simp [List.findIdx?_cons, hpx]
   rw [this]
  | false =>
   simp only [go_sem,seval]
   refine ⟨_, _, aF.env ?_, ?_, rfl, rfl⟩
   ·simp only [go_sem,seval, aQ hw hl]
   ·intro y hy
    rcases List.mem_append.1 hy with hy | hy
    ·exact hp y hy
    ·simp at hy; subst hy; exact hpx
 ·rintro e g ⟨hp, rfl, rfl⟩
  simp only [go_sem,seval, bE]
  refine aM.same ?_
  simp only [go_sem,seval]
  refine .same ⟨?_, rfl⟩
  rw [List.findIdx?_eq_none_iff.2 (by simpa using hp)]
theorem pX [GI] {h : AHeap} {full : Bool} (l : List Stmt) (hw : few l) (fid : Nat) (first captured : List AV) (p : Stmt → Bool) (hc : eD prog fid = true)
  (hf : ∀ x ∈ l, aD prog fid (first ++ [.agg (bA x)] ++ captured) h (fun v g => v = .bool (p x) ∧ g = h)) :
  aD prog 120 [.sl (l.map bA) full, .func (.func fid) first captured] h (fun v g => v = .bool (l.any p) ∧ g = h) := by
 refine TG.calls (by simp) ?_
 delta TG.c0
 simp only [go_sem,seval]
 refine aW (K7 l hw fid first captured p hc hf) (fun v k ⟨hv, hk⟩ => ?_)
 generalize hn : (match l.findIdx? p with | some i => (i : Int) | none => -1) = n at hv
 subst hv hk
 simp only [go_sem,seval]
 refine .same ⟨?_, rfl⟩
 congr 1
 subst hn
 cases hi : l.findIdx? p with
 | none =>
  have := List.findIdx?_eq_none_iff.1 hi
  simp only [ge_iff_le]
  rw [List.any_eq_false.2 (by simpa using this)]; rfl
 | some i =>
  obtain ⟨h1, h2, _⟩ := List.findIdx?_eq_some_iff_getElem.1 hi
  rw [List.any_eq_true.2 ⟨l[i], List.getElem_mem h1, h2⟩]
  simp
theorem aBO [GI] : ∀ (n : Nat) (l : List Stmt), aZ.sz l ≤ n → few l → (∀ x ∈ l, x.ok) → ∀ (full : Bool) (h : AHeap), aD prog 140 [.sl (l.map bA) full] h (fun v g => v = .bool (kW l) ∧ g = h) := by
 intro n
 induction n with
 | zero =>
  intro l hn hw ho full h
  cases l with
  | cons x r => simp [aZ.sz] at hn
  | nil =>
   refine IV.calls (by simp) ?_
   delta IV.c0
   simp only [go_sem,seval]
   refine aW (pX [] hw 173 [] [] BT (by kernel_rfl) (by simp)) (fun v k ⟨hv, hk⟩ => ?_)
   subst hv hk
   simp only [go_sem,seval]
   exact .same ⟨rfl, rfl⟩
 | succ n ih =>
  intro l hn hw ho full h
  refine IV.calls (by simp) ?_
  delta IV.c0
  simp only [go_sem,seval]
  refine aW (pX l hw 173 [] [] BT (by kernel_rfl) ?_) (fun v k ⟨hv, hk⟩ => ?_)
  ·intro x hx
   have hz := aZ.dU hx
   have hsz := Stmt.cY x
   have hok := (Stmt.cN x).1 (ho x hx)
   have hb := ih x.body (by omega) hok.2.2.2.2.2.1 hok.2.2.2.2.2.2.1 false h
   have he := ih x.els (by omega) hok.2.2.2.2.2.2.2.1 hok.2.2.2.2.2.2.2.2.1 false h
   refine SB.calls (by simp) ?_
   delta SB.c0
   simp only [go_sem,seval]
   have fin : ∀ b, b = BT x → eE (fun v g => v = .bool (BT x) ∧ g = h) (.bool b) h := fun b hb => .same ⟨by rw [hb], rfl⟩
   repeat' (refine cP (fun hg => ?_) (fun hg => ?_) <;> simp only [go_sem,seval, hg, Bool.not_true, Bool.not_false])
   all_goals first | (refine fin _ ?_; simp_all [AB]; done) | skip
   all_goals
    refine aW hb (fun v k ⟨hv, hk⟩ => ?_)
    subst hv hk
    simp only [go_sem,seval]
    repeat' (refine cP (fun hg => ?_) (fun hg => ?_) <;> simp only [go_sem,seval, hg, Bool.not_true, Bool.not_false])
   all_goals first | (refine fin _ ?_; simp_all [AB]; done) | skip
   all_goals
    refine aW he (fun v k ⟨hv, hk⟩ => ?_)
    subst hv hk
    simp only [go_sem,seval]
   all_goals first | (refine fin _ ?_; simp_all [AB]; done) | skip
  ·subst hv hk
   simp only [go_sem,seval]
   exact .same ⟨by rw [BU], rfl⟩
theorem ZR [GI] : ∀ (n : Nat) (l : List Stmt), aZ.sz l ≤ n → few l → (∀ x ∈ l, x.ok) → ∀ (full : Bool) (h : AHeap), aD prog 83 [.sl (l.map bA) full] h (fun v g => v = .bool (kW l) ∧ g = h) := by
  intro n
  induction n with
  | zero =>
    intro l hn hw ho full h
    cases l with
    | cons x r => simp [aZ.sz] at hn
    | nil =>
      refine F83.calls (by simp) ?_
      delta F83.c0
      simp only [go_sem,seval]
      refine gR ?_
      simp only [go_sem,seval]
      exact .same ⟨rfl, rfl⟩
  | succ n ih =>
    intro l hn hw ho full h
    refine F83.calls (by simp) ?_
    delta F83.c0
    simp only [go_sem,seval]
    refine aX l (fun pre post e g => (∀ x ∈ pre, BT x = false) ∧ g = h ∧ e = [(0, .sl (l.map bA) full), (3, .int .i64 pre.length)]) (aF.env ?_) ⟨by simp, rfl, rfl⟩ ?_ ?_
    · simp only [go_sem,seval]
    · rintro pre x post e g hl ⟨hp, rfl, rfl⟩
      have hx := bJ hl
      have hz := aZ.dU hx
      have hsz := Stmt.cY x
      have hok := (Stmt.cN x).1 (ho x hx)
      have hb := ih x.body (by omega) hok.2.2.2.2.2.1 hok.2.2.2.2.2.2.1 false g
      have he := ih x.els (by omega) hok.2.2.2.2.2.2.2.1 hok.2.2.2.2.2.2.2.2.1 false g
      simp only [go_sem,seval, bI hl, aI (aK hl) (c6 x)]
      repeat' (refine cP (fun hg => ?_) (fun hg => ?_) <;> simp only [go_sem,seval, hg, Bool.not_true, Bool.not_false, aI (aK hl) (c6 x)])
      all_goals try
        refine aW hb (fun v k ⟨hv, hk⟩ => ?_)
        subst hv hk
        simp only [go_sem,seval]
        repeat' (refine cP (fun hg => ?_) (fun hg => ?_) <;> simp only [go_sem,seval, hg, Bool.not_true, Bool.not_false, aI (aK hl) (c6 x)])
      all_goals try
        refine aW he (fun v k ⟨hv, hk⟩ => ?_)
        subst hv hk
        simp only [go_sem,seval]
        repeat' (refine cP (fun hg => ?_) (fun hg => ?_) <;> simp only [go_sem,seval, hg, Bool.not_true, Bool.not_false])
      all_goals first
        | (refine aM.same ?_
           simp only [go_sem,seval]
           refine .same ⟨?_, rfl⟩
           rw [BU, List.any_eq_true.2 ⟨x, hx, ?_⟩]
           simp_all [AB]
           done)
        | skip
      all_goals
        refine ⟨_, _, aF.env ?_, ?_, rfl, rfl⟩
        · simp only [go_sem,seval, aQ hw hl]
        · intro y hy
          rcases List.mem_append.1 hy with hy | hy
          · exact hp y hy
          · simp at hy; subst hy
            simp_all [AB]
    · rintro e g ⟨hp, rfl, rfl⟩
      simp only [go_sem,seval, bE]
      refine aM.same ?_
      simp only [go_sem,seval]
      refine .same ⟨?_, rfl⟩
      rw [BU, List.any_eq_false.2 (by simpa using hp)]
end Pg
