import Derived.Test.YtlflapoljegmoaaGreatDoorTreeSA
import Derived.Test.YtlflapoljegmoaaGreatDoorCodeTA
import Derived.Test.YtlflapoljegmoaaGreatDoorCodeIJA
import Derived.Test.YtlflapoljegmoaaGreatDoorRightCJA
namespace Pg
open Go
set_option linter.unusedSimpArgs false
set_option linter.unusedVariables false
set_option maxHeartbeats 4000000
set_option maxRecDepth 4000
theorem LiftCallees_spec [GI] (hm : Max0) (h : AHeap) (p : Prg) (ho : p.ok) (hf : p.fit) (hw : wP p ≤ 1048576) (a : Int) (name : ByteArray) : ACalls Go.Proofs.Tryz.prog 7 [.agg (ePrg p), .int .i64 a, .str name] h (fun v g => v = .bool true ∧ g = h) := by
 refine F7.calls (by simp) ?_
 delta F7.c0
 simp only [↓pgPre,go_sem,seval, ePrg_len, prg_take]
 refine callT_of (tPrg_spec p ho hf h) (fun v g ⟨hv, hg⟩ => ?_)
 subst v g
 cases ht : tPrg p with
 | false =>
  simp only [↓pgPre,go_sem,seval, ePrg_len, prg_take]
  refine callT_of (LCallee_spec h p ho hw a name) (fun v g ⟨hv, hg⟩ => ?_)
  subst v g
  simp only [↓pgPre,go_sem,seval]
  refine callT_of (awakeL_spec hm h) (fun v g ⟨hv, hg⟩ => ?_)
  subst v g
  simp only [↓pgPre,go_sem,seval]
  exact .same ⟨rfl, rfl⟩
 | true =>
  obtain ⟨b1, b2⟩ := prg_bounds hw
  have hns : (nodesOf p.routines).length ≤ 1048576 := by
   show (capL 0 p.routines (-1) noBytes p.routines).length ≤ _
   rw [capL_len]
   have := rcnts_le _ p.routines (Nat.le_refl _)
   unfold wP at hw; omega
  have har : ∀ (i : Nat) n, (nodesOf p.routines)[i]? = some n → n.around < (i : Int) ∧ -1 ≤ n.around := fun i n hn => by
   have := capL_around _ p.routines (Nat.lt_succ_self _) 0 p.routines (-1) noBytes (by omega) (by omega) i n hn
   omega
  simp only [↓pgPre,go_sem,seval, ePrg_len, prg_take]
  refine callT_of (LCallee_spec h p ho hw a name) (fun v g ⟨hv, hg⟩ => ?_)
  subst v g
  simp only [↓pgPre,go_sem,seval, prg_6]
  refine callT_of (Nodes_spec _ p.routines (Nat.lt_succ_self _) ho.routines ho.eachRoutine h h (.sl [] true) [] (-1) noBytes (.nil h) (by simpa using b1) (by have : noBytes.size = 0 := rfl; omega)) (fun w g1 G1 => ?_)
  simp only [List.nil_append, List.length_nil] at G1
  change GL _ _ _ _ _ ((nodesOf p.routines).map eNd) at G1
  have hlen1 := G1.len
  rw [List.length_map] at hlen1
  simp only [↓pgPre,go_sem,seval, ePrg_len, prg_take]
  refine callT_of (Right_spec g1 p ho ht) (fun v g ⟨hv, hg⟩ => ?_)
  subst v g
  by_cases hc : (check p).2 = 0
  ·by_cases h1 : a < -1
   ·have hL : lCallee p a name = -1 := by unfold lCallee; rw [if_neg (by omega)]
    simp only [↓pgPre,go_sem,seval, hc, h1, hL]
    refine callT_of (awakeL_spec hm g1) (fun v g ⟨hv, hg⟩ => ?_)
    subst v g
    simp only [↓pgPre,go_sem,seval]
    exact .forget G1.le ⟨rfl, rfl⟩
   ·by_cases h2 : ((nodesOf p.routines).length : Int) ≤ a
    ·have hL : lCallee p a name = -1 := by unfold lCallee; rw [if_neg (by omega)]
     simp only [↓pgPre,go_sem,seval, hc, h1, hlen1, h2, hL]
     refine callT_of (awakeL_spec hm g1) (fun v g ⟨hv, hg⟩ => ?_)
     subst v g
     simp only [↓pgPre,go_sem,seval]
     exact .forget G1.le ⟨rfl, rfl⟩
    ·have hL : lCallee p a name = calleeAt (nodesOf p.routines) name (a + 2).toNat a := by unfold lCallee; rw [if_pos ⟨hc, by omega, by omega⟩]
     simp only [↓pgPre,go_sem,seval, hc, h1, hlen1, h2, hL]
     refine callT_le (Callee_spec g1 _ hns har a (by omega) (by omega) name) (.cons G1.avle (.cons (.refl _) (.cons (.refl _) .nil))) (fun v g ⟨hv, hg⟩ => ?_)
     subst v g
     simp only [↓pgPre,go_sem,seval]
     refine callT_of (awakeL_spec hm g1) (fun v g ⟨hv, hg⟩ => ?_)
     subst v g
     simp only [↓pgPre,go_sem,seval]
     exact .forget G1.le ⟨rfl, rfl⟩
  ·have hL : lCallee p a name = -1 := by unfold lCallee; rw [if_neg (fun hh => hc hh.1)]
   simp only [↓pgPre,go_sem,seval, hc, hL]
   refine callT_of (awakeL_spec hm g1) (fun v g ⟨hv, hg⟩ => ?_)
   subst v g
   simp only [↓pgPre,go_sem,seval]
   exact .forget G1.le ⟨rfl, rfl⟩
end Pg
