/- What a program weighs: so many names and items it has at the most. -/
import Derived.Test.YtpebidcmkjjpnaaGreatCountSpec
import Derived.Test.YtpebidcmkjjpnaaGreatFit
namespace Pg
open Go
set_option linter.unusedVariables false
mutual
def wE : Expr → Nat
  | ⟨op, n, name, field, l⟩ => 2 + wEs l
def wEs : List Expr → Nat
  | [] => 0
  | x :: r => wE x + wEs r
end
mutual
def wS : Stmt → Nat
  | ⟨before, trail, op, name, p, e, down, more, body, els, end1, end2⟩ => 2 + wE p + wEs e + wSs body + wSs els
def wSs : List Stmt → Nat
  | [] => 0
  | x :: r => wS x + wSs r
end
def wRec (r : Rec) : Nat := 2 + r.fields.length
def wRecs (l : List Rec) : Nat := (l.map wRec).sum
mutual
def wR : Routine → Nat
  | ⟨before, trail, name, result, params, vars, inner, body, endd⟩ => 2 + name.size + 2 * params.length + 2 * vars.length + wRs inner + wSs body
def wRs : List Routine → Nat
  | [] => 0
  | x :: r => wR x + wRs r
end
def wP (p : Prg) : Nat := 1 + wRecs p.recs + 2 * p.vars.length + wRs p.routines + wSs p.body
theorem wE_eq (x : Expr) : wE x = 2 + wEs x.l := by obtain ⟨op, n, name, field, l⟩ := x; rw [wE]
theorem wS_eq (x : Stmt) : wS x = 2 + wE x.p + wEs x.e + wSs x.body + wSs x.els := by obtain ⟨before, trail, op, name, p, e, down, more, body, els, end1, end2⟩ := x; rw [wS]
theorem wR_eq (x : Routine) : wR x = 2 + x.name.size + 2 * x.params.length + 2 * x.vars.length + wRs x.inner + wSs x.body := by obtain ⟨before, trail, name, result, params, vars, inner, body, endd⟩ := x; rw [wR]
theorem wEs_map : ∀ l, wEs l = (l.map wE).sum
  | [] => rfl
  | x :: r => by simp [wEs, wEs_map r]
theorem wSs_map : ∀ l, wSs l = (l.map wS).sum
  | [] => rfl
  | x :: r => by simp [wSs, wSs_map r]
theorem wRs_map : ∀ l, wRs l = (l.map wR).sum
  | [] => rfl
  | x :: r => by simp [wRs, wRs_map r]
theorem cntL_le : ∀ (n : Nat) (l : List Stmt), Stmts.sz l ≤ n → cntL l ≤ wSs l
  | n, [], h => by simp [cntL, wSs]
  | 0, x :: r, h => by simp [Stmts.sz] at h
  | n + 1, x :: r, h => by
    have h1 := Stmt.sz_eq x
    have h2 : Stmts.sz (x :: r) = 1 + x.sz + Stmts.sz r := by simp only [Stmts.sz]
    have a := cntL_le n x.body (by omega)
    have b := cntL_le n x.els (by omega)
    have c := cntL_le n r (by omega)
    simp only [cntL, wSs, cntS_eq, wS_eq]
    omega
theorem cntRs_le : ∀ (n : Nat) (l : List Routine), Routines.sz l ≤ n → cntRs l ≤ wRs l
  | n, [], h => by simp [cntRs, wRs]
  | 0, x :: r, h => by simp [Routines.sz] at h
  | n + 1, x :: r, h => by
    have h1 := Routine.sz_eq x
    have h2 : Routines.sz (x :: r) = 1 + x.sz + Routines.sz r := by simp only [Routines.sz]
    have a := cntRs_le n x.inner (by omega)
    have b := cntL_le _ x.body (Nat.le_refl _)
    have c := cntRs_le n r (by omega)
    simp only [cntRs, wRs, cntR_eq, wR_eq]
    omega
theorem cntP_le (p : Prg) : cntP p ≤ wP p := by
  have a := cntRs_le _ p.routines (Nat.le_refl _)
  have b := cntL_le _ p.body (Nat.le_refl _)
  have c : p.recs.length ≤ wRecs p.recs := by
    unfold wRecs
    generalize p.recs = l
    induction l with
    | nil => simp
    | cons x r ih =>
      have e : wRec x = 2 + x.fields.length := rfl
      simp only [List.length_cons, List.map_cons, List.sum_cons]; omega
  simp only [cntP, wP]
  omega
theorem turnE_room : ∀ (l : List Expr), l.length ≤ wEs l
  | [] => by simp [wEs]
  | x :: r => by
    have := turnE_room r
    have := wE_eq x
    simp only [wEs, List.length_cons]; omega
theorem wEs_mem {l : List Expr} {x : Expr} (h : x ∈ l) : wE x ≤ wEs l := by
  induction l with
  | nil => cases h
  | cons y r ih =>
    simp only [wEs]
    rcases List.mem_cons.1 h with rfl | h
    · omega
    · have := ih h; omega
theorem wSs_len : ∀ l : List Stmt, l.length ≤ wSs l
  | [] => by simp [wSs]
  | x :: r => by
    have := wSs_len r
    have := wS_eq x
    simp only [wSs, List.length_cons]; omega
theorem wSs_mem {l : List Stmt} {x : Stmt} (h : x ∈ l) : wS x ≤ wSs l := by
  induction l with
  | nil => cases h
  | cons y r ih =>
    simp only [wSs]
    rcases List.mem_cons.1 h with rfl | h
    · omega
    · have := ih h; omega
theorem wRs_len : ∀ l : List Routine, l.length ≤ wRs l
  | [] => by simp [wRs]
  | x :: r => by
    have := wRs_len r
    have := wR_eq x
    simp only [wRs, List.length_cons]; omega
theorem wRs_mem {l : List Routine} {x : Routine} (h : x ∈ l) : wR x ≤ wRs l := by
  induction l with
  | nil => cases h
  | cons y r ih =>
    simp only [wRs]
    rcases List.mem_cons.1 h with rfl | h
    · omega
    · have := ih h; omega
end Pg
