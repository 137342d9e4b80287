import Derived.Test.YtlflapoljegmoaaGreatDoorTreeSD
import Derived.Test.YtlflapoljegmoaaGreatDoorCkYD
import Derived.Test.YtlflapoljegmoaaGreatDoorK4D
import Derived.Test.YtlflapoljegmoaaGreatDoorCodeBJD
import Derived.Test.YtlflapoljegmoaaGreatDoorR12aJD
import Derived.Test.YtlflapoljegmoaaGreatDoorR12LawD
import Derived.Test.YtlflapoljegmoaaGreatDoorNmXJD
namespace Pg
open Go
set_option linter.all false
set_option maxHeartbeats 4000000
set_option maxRecDepth 4000
theorem few_nil {α : Type} : few ([] : List α) := by simp [few]
theorem few_one {α : Type} (x : α) : few [x] := by simp [few]
theorem leaf_ok (op n : Int) (a b : ByteArray) : Expr.ok ⟨op, n, a, b, []⟩ := (Expr.ok_iff _).2 ⟨few_nil, by simp⟩
end Pg

namespace Pg
open Go
set_option linter.all false
set_option maxHeartbeats 4000000
set_option maxRecDepth 4000
def noExpr : Expr := ⟨0, 0, noBytes, noBytes, []⟩
def stCall (name : ByteArray) : Stmt := ⟨[], [], 2, noBytes, noExpr, [⟨7, 0, name, noBytes, []⟩], false, false, [], [], [], []⟩
def stWrite (v : ByteArray) : Stmt := ⟨[], [], 8, noBytes, noExpr, [⟨4, 0, v, noBytes, []⟩], false, false, [], [], [], []⟩
def rWrites (name v : ByteArray) : Routine := ⟨[], [], name, 0, [], [], [], [stWrite v], []⟩
def xP : Param := ⟨⟨#[120]⟩, ⟨1, 0, noBytes⟩, 2⟩
theorem stOk {name : ByteArray} {op k : Int} : Stmt.ok ⟨[], [], op, noBytes, noExpr, [⟨k, 0, name, noBytes, []⟩], false, false, [], [], [], []⟩ :=
 (Stmt.ok_iff _).2 ⟨few_nil, few_nil, leaf_ok _ _ _ _, few_one _, by simpa using leaf_ok _ _ _ _, few_nil, by simp, few_nil, by simp, few_nil, few_nil⟩
theorem stCall_ok (name : ByteArray) : (stCall name).ok := stOk
theorem stWrite_ok (name : ByteArray) : (stWrite name).ok := stOk
end Pg

namespace Pg
open Go Go.Proofs.Tryz
set_option linter.all false
set_option maxHeartbeats 4000000
set_option maxRecDepth 4000
theorem Right_spec [GI] (h : AHeap) (p : Prg) (ho : p.ok) (ht : tPrg p = true) : ACalls prog 15 [.agg (ePrg p)] h (fun v g => v = .bool (decide ((check p).2 = 0)) ∧ g = h) := by
 refine F15.calls (by simp) ?_
 delta F15.c0
 simp only [go_sem,seval, ePrg_len, prg_take]
 refine tcE (Check_spec12 p ht ho h) ?_
 simp only [go_sem,seval]
 refine .same ⟨?_, rfl⟩
 simp only [right_same ht]
end Pg
