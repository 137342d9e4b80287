import Derived.Test.YtpebidcmkjjpnaaGreatTreeS
import Derived.Test.YtpebidcmkjjpnaaGreatCkY
import Derived.Test.YtpebidcmkjjpnaaGreatK4
namespace Pg
open Go
set_option linter.unusedSimpArgs false
set_option linter.unusedVariables false
set_option maxHeartbeats 4000000
set_option maxRecDepth 4000

def example1 (e : Expr) : Prg := ⟨⟨#[112]⟩, [], [], [], [], [⟨[], [], ⟨#[120]⟩, ⟨1, 0, noBytes⟩⟩], [], [⟨[], [], 1, noBytes, ⟨4, 0, ⟨#[120]⟩, noBytes, []⟩, [e], false, false, [], [], [], []⟩], []⟩
theorem few_nil {α : Type} : few ([] : List α) := by simp [few]
theorem few_one {α : Type} (x : α) : few [x] := by simp [few]
theorem leaf_ok (op n : Int) (a b : ByteArray) : Expr.ok ⟨op, n, a, b, []⟩ := (Expr.ok_iff _).2 ⟨few_nil, by simp⟩
theorem example1_ok (e : Expr) (h : e.ok) : (example1 e).ok := by
  refine ⟨few_nil, few_nil, few_nil, few_nil, by simp [example1], few_one _, ?_, few_nil, by simp [example1], few_one _, ?_, few_nil⟩
  · intro v hv
    simp only [example1, List.mem_singleton] at hv
    subst hv
    exact ⟨few_nil, few_nil⟩
  · intro s hs
    simp only [example1, List.mem_singleton] at hs
    subst hs
    exact (Stmt.ok_iff _).2 ⟨few_nil, few_nil, leaf_ok _ _ _ _, few_one _, by simpa using h, few_nil, by simp, few_nil, by simp, few_nil, few_nil⟩
theorem check_one : check (example1 ⟨2, 1, noBytes, noBytes, []⟩) = (1, 14) := by decide +kernel
theorem check_two : check (example1 ⟨1, 0, noBytes, noBytes, []⟩) = (0, 0) := by decide +kernel
def awakeArgs (b : Nat) : List AV := [.agg [.str ⟨#[112]⟩, .sl [] true, .sl [] true, .sl [] true, .sl [] true, .sl [[.sl [] true, .sl [] true, .str ⟨#[120]⟩, .int .i64 1, .int .i64 0, .str ⟨#[]⟩]] true, .sl [] true,
  .sl [[.sl [] true, .sl [] true, .int .i64 1, .str ⟨#[]⟩, .int .i64 4, .int .i64 0, .str ⟨#[120]⟩, .str ⟨#[]⟩, .sl [] true, .os b 1 1, .bool false, .bool false, .sl [] true, .sl [] true, .sl [] true, .sl [] true]] true, .sl [] true]]
theorem flat2 (x y : Int) (I J : Imm) (v : Value) (h : Rd J (.tuple [.int .i64 x, .int .i64 y]) v) : Rd I (.tuple [.int .i64 x, .int .i64 y]) v := by
  obtain ⟨vs, rfl, r⟩ := h.inv_tuple
  obtain ⟨a, vs, rfl, r1, r⟩ := r.uncons
  obtain ⟨c, vs, rfl, r2, r⟩ := r.uncons
  have := r.of_nil; subst this
  have := r1.inv_int; subst this
  have := r2.inv_int; subst this
  exact .of_tuple (.cons (.int _ _) (.cons (.int _ _) (.nil _)))
theorem check_lent (h : AHeap) (b : Nat) (hb : h b = none) (op n : Int) (fl : Bool) : ACalls Go.Proofs.Tryz.prog 28 (awakeArgs b) (h.upd b (.blk [.int .i64 op, .int .i64 n, .str ⟨#[]⟩, .str ⟨#[]⟩, .sl [] fl] 5 87))
    (fun v g => v = .tuple [.int .i64 (check (example1 ⟨op, n, noBytes, noBytes, []⟩)).1, .int .i64 (check (example1 ⟨op, n, noBytes, noBytes, []⟩)).2] ∧ g = h.upd b (.blk [.int .i64 op, .int .i64 n, .str ⟨#[]⟩, .str ⟨#[]⟩, .sl [] fl] 5 87)) := by
  refine ACalls.lend' hb rfl (Check_spec eheap (example1 ⟨op, n, noBytes, noBytes, []⟩) (example1_ok _ (leaf_ok _ _ _ _))) (by rintro v rfl I J x; exact flat2 _ _ I J x) ?_
  intro I J us le own hr h1
  have hr' : Rds J (eExpr ⟨op, n, noBytes, noBytes, []⟩) us := by
    refine AVtos.cons (.refl (Imm.le_refl _) _) (.cons (.refl (Imm.le_refl _) _) (.cons (.refl (Imm.le_refl _) _) (.cons (.refl (Imm.le_refl _) _) (.cons (.sl0 (Imm.le_refl _) _ _) (.nil _ _))))) us hr
  refine .cons (.agg ?_) (.nil _ _)
  repeat' first | exact AVtos.nil _ _ | exact AVto.os own hr' h1 | exact AVto.refl le _ | exact AVto.sl0 le _ _ | refine AVto.one le rfl ?_ | refine AVtos.cons ?_ ?_
end Pg
