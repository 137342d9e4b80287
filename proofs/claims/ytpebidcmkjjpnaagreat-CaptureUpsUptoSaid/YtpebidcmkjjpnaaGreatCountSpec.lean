/- What is said of programs in plain words: statements that end with a value, items. -/
import Derived.Test.YtpebidcmkjjpnaaGreatTree
namespace Pg
open Go
set_option linter.unusedVariables false
mutual
def endS : Stmt → Bool
  | ⟨_, _, op, _, _, _, _, more, body, els, _, _⟩ => decide (op = 9) || (decide (op = 3) && more && endL body && endL els)
def endL : List Stmt → Bool
  | [] => false
  | x :: r => endS x || endL r
end
theorem endL_any : ∀ l, endL l = l.any endS
  | [] => rfl
  | x :: r => by simp [endL, endL_any r]
theorem endS_eq (x : Stmt) : endS x = (decide (x.op = 9) || (decide (x.op = 3) && x.more && endL x.body && endL x.els)) := by
  obtain ⟨_, _, op, _, _, _, _, more, body, els, _, _⟩ := x; rfl
mutual
def cntS : Stmt → Nat
  | ⟨_, _, _, _, _, _, _, _, body, els, _, _⟩ => cntL body + cntL els
def cntL : List Stmt → Nat
  | [] => 0
  | x :: r => 1 + cntS x + cntL r
end
theorem cntS_eq (x : Stmt) : cntS x = cntL x.body + cntL x.els := by
  obtain ⟨_, _, op, _, _, _, _, more, body, els, _, _⟩ := x; rfl
theorem cntL_append : ∀ l r, cntL (l ++ r) = cntL l + cntL r
  | [], r => by simp [cntL]
  | x :: l, r => by simp [cntL, cntL_append l r]; omega
mutual
def cntR : Routine → Nat
  | ⟨_, _, _, _, _, vars, inner, body, _⟩ => vars.length + cntRs inner + cntL body
def cntRs : List Routine → Nat
  | [] => 0
  | x :: r => 1 + cntR x + cntRs r
end
theorem cntR_eq (x : Routine) : cntR x = x.vars.length + cntRs x.inner + cntL x.body := by
  obtain ⟨_, _, _, _, _, vars, inner, body, _⟩ := x; rfl
theorem cntRs_append : ∀ l r, cntRs (l ++ r) = cntRs l + cntRs r
  | [], r => by simp [cntRs]
  | x :: l, r => by simp [cntRs, cntRs_append l r]; omega
def cntP (p : Prg) : Nat := p.recs.length + p.vars.length + cntRs p.routines + cntL p.body

abbrev w64 (n : Int) : Int := IntKind.i64.wrap n
theorem w64_def (n : Int) : IntKind.i64.wrap n = (n + 9223372036854775808) % 18446744073709551616 - 9223372036854775808 := by rw [IntKind.wrap_i64]
theorem w64_w64 (n : Int) : w64 (w64 n) = w64 n := by simp only [w64, w64_def]; omega
theorem w64_add_l (a b : Int) : w64 (w64 a + b) = w64 (a + b) := by simp only [w64, w64_def]; omega
theorem w64_add_r (a b : Int) : w64 (a + w64 b) = w64 (a + b) := by simp only [w64, w64_def]; omega
theorem w64_small {n : Int} (h0 : -9223372036854775808 ≤ n) (h1 : n ≤ 9223372036854775807) : w64 n = n := wrap64 h0 h1
end Pg
