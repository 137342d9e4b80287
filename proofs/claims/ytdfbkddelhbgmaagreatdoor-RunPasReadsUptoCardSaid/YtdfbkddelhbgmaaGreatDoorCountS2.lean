import Derived.Test.YtdfbkddelhbgmaaGreatDoorTreeSS2
import Derived.Test.YtdfbkddelhbgmaaGreatDoorCodeAS2
import Derived.Test.YtdfbkddelhbgmaaGreatDoorCheckSpecJS2
namespace Pg
open Go Go.Proofs.Tryz
set_option linter.all false
set_option maxHeartbeats 1000000
set_option maxRecDepth 4000
theorem IndexFuncS_spec [GI] {h : AHeap} {full : Bool} (l : List Stmt) (hw : few l) (fid : Nat) (first captured : List AV) (p : Stmt → Bool) (hc : callable prog fid = true)
  (hf : ∀ x ∈ l, ACalls prog fid (first ++ [.agg (eStmt x)] ++ captured) h (fun v g => v = .bool (p x) ∧ g = h)) :
  ACalls prog 160 [.sl (l.map eStmt) full, .func (.func fid) first captured] h (fun v g => v = .int .i64 (match l.findIdx? p with | some i => i | none => -1) ∧ g = h) := by
 refine F160.calls (by simp) ?_
 delta F160.c0
 simp only [go_sem,seval, List.length_map]
 refine lT_list l (fun pre post e g => (∀ x ∈ pre, p x = false) ∧ g = h ∧ e = [(0, .sl (l.map eStmt) full), (1, .func (.func fid) first captured), (7, .int .i64 l.length), (8, .int .i64 pre.length)]) (WeakE.env ?_) ⟨by simp, rfl, rfl⟩ ?_ ?_
 ·simp only [go_sem,seval]
 ·rintro pre x post e g hl ⟨hp, rfl, rfl⟩
  simp only [go_sem,seval, lt_at hl, aia_sl (map_at hl) (eStmt_len x)]
  refine ⟨hc, callT_of (hf x (mem_at hl)) (fun v k ⟨hv, hk⟩ => ?_)⟩
  subst hv hk
  cases hpx : p x with
  | true =>
   simp only [go_sem,seval]
   refine lessQ.same ?_
   simp only [go_sem,seval]
   refine .same ⟨?_, rfl⟩
   have : l.findIdx? p = some pre.length := by
    subst hl
    rw [List.findIdx?_append, List.findIdx?_eq_none_iff.2 (by simpa using hp)]
    simp [List.findIdx?_cons, hpx]
   rw [this]
  | false =>
   simp only [go_sem,seval]
   refine ⟨_, _, WeakE.env ?_, ?_, rfl, rfl⟩
   ·simp only [go_sem,seval, step_at hw hl]
   ·intro y hy
    rcases List.mem_append.1 hy with hy | hy
    ·exact hp y hy
    ·simp at hy; subst hy; exact hpx
 ·rintro e g ⟨hp, rfl, rfl⟩
  simp only [go_sem,seval, lt_end]
  refine lessQ.same ?_
  simp only [go_sem,seval]
  refine .same ⟨?_, rfl⟩
  rw [List.findIdx?_eq_none_iff.2 (by simpa using hp)]
theorem ContainsFuncS_spec [GI] {h : AHeap} {full : Bool} (l : List Stmt) (hw : few l) (fid : Nat) (first captured : List AV) (p : Stmt → Bool) (hc : callable prog fid = true)
  (hf : ∀ x ∈ l, ACalls prog fid (first ++ [.agg (eStmt x)] ++ captured) h (fun v g => v = .bool (p x) ∧ g = h)) :
  ACalls prog 120 [.sl (l.map eStmt) full, .func (.func fid) first captured] h (fun v g => v = .bool (l.any p) ∧ g = h) := by
 refine F120.calls (by simp) ?_
 delta F120.c0
 simp only [go_sem,seval]
 refine callT_of (IndexFuncS_spec l hw fid first captured p hc hf) (fun v k ⟨hv, hk⟩ => ?_)
 generalize hn : (match l.findIdx? p with | some i => (i : Int) | none => -1) = n at hv
 subst hv hk
 simp only [go_sem,seval]
 refine .same ⟨?_, rfl⟩
 congr 1
 subst hn
 cases hi : l.findIdx? p with
 | none =>
  have := List.findIdx?_eq_none_iff.1 hi
  simp only [ge_iff_le]
  rw [List.any_eq_false.2 (by simpa using this)]; rfl
 | some i =>
  obtain ⟨h1, h2, _⟩ := List.findIdx?_eq_some_iff_getElem.1 hi
  rw [List.any_eq_true.2 ⟨l[i], List.getElem_mem h1, h2⟩]
  simp
theorem Ends_spec [GI] : ∀ (n : Nat) (l : List Stmt), Stmts.sz l ≤ n → few l → (∀ x ∈ l, x.ok) → ∀ (full : Bool) (h : AHeap), ACalls prog 140 [.sl (l.map eStmt) full] h (fun v g => v = .bool (endL l) ∧ g = h) := by
 intro n
 induction n with
 | zero =>
  intro l hn hw ho full h
  cases l with
  | cons x r => simp [Stmts.sz] at hn
  | nil =>
   refine F140.calls (by simp) ?_
   delta F140.c0
   simp only [go_sem,seval]
   refine callT_of (ContainsFuncS_spec [] hw 173 [] [] endS (by kernel_rfl) (by simp)) (fun v k ⟨hv, hk⟩ => ?_)
   subst hv hk
   simp only [go_sem,seval]
   exact .same ⟨rfl, rfl⟩
 | succ n ih =>
  intro l hn hw ho full h
  refine F140.calls (by simp) ?_
  delta F140.c0
  simp only [go_sem,seval]
  refine callT_of (ContainsFuncS_spec l hw 173 [] [] endS (by kernel_rfl) ?_) (fun v k ⟨hv, hk⟩ => ?_)
  ·intro x hx
   have hz := Stmts.sz_mem hx
   have hsz := Stmt.sz_eq x
   have hok := (Stmt.ok_iff x).1 (ho x hx)
   have hb := ih x.body (by omega) hok.2.2.2.2.2.1 hok.2.2.2.2.2.2.1 false h
   have he := ih x.els (by omega) hok.2.2.2.2.2.2.2.1 hok.2.2.2.2.2.2.2.2.1 false h
   refine F173.calls (by simp) ?_
   delta F173.c0
   simp only [go_sem,seval]
   have fin : ∀ b, b = endS x → EndW (fun v g => v = .bool (endS x) ∧ g = h) (.bool b) h := fun b hb => .same ⟨by rw [hb], rfl⟩
   repeat' (refine agateT_split (fun hg => ?_) (fun hg => ?_) <;> simp only [go_sem,seval, hg, Bool.not_true, Bool.not_false])
   all_goals first | (refine fin _ ?_; simp_all [endS_eq]; done) | skip
   all_goals
    refine callT_of hb (fun v k ⟨hv, hk⟩ => ?_)
    subst hv hk
    simp only [go_sem,seval]
    repeat' (refine agateT_split (fun hg => ?_) (fun hg => ?_) <;> simp only [go_sem,seval, hg, Bool.not_true, Bool.not_false])
   all_goals first | (refine fin _ ?_; simp_all [endS_eq]; done) | skip
   all_goals
    refine callT_of he (fun v k ⟨hv, hk⟩ => ?_)
    subst hv hk
    simp only [go_sem,seval]
   all_goals first | (refine fin _ ?_; simp_all [endS_eq]; done) | skip
  ·subst hv hk
   simp only [go_sem,seval]
   exact .same ⟨by rw [endL_any], rfl⟩
end Pg
