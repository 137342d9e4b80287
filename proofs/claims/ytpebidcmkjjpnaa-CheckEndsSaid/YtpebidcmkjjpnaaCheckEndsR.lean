/- For every input the law CheckEnds returns true, and its arguments read behind the call as they read before. No condition. -/
import Derived.Test.YtpebidcmkjjpnaaCheckEnds
import Derived.Test.YtpebidcmkjjpnaaRd
namespace Go.Proofs.Ytpebidcmkjjpnaa
open Go Go.ChangeShapes Go.WideShapes Pg
set_option linter.unusedVariables false
set_option maxRecDepth 20000

theorem params5 : Try.f5.params.toList = [26, 28] := rfl
theorem checkEnds_returns (os : Os) (started : os.Started) (H : Type) (enc : TypeId × Value → H) :
    ReturnsInHanded {} Try.checked os 5 .any (Rows.checkEndsSpec.pre6 enc Try.prog Try.f5 Rows.checkEndsRow.domain false) (Rows.checkEndsSpec.post enc Try.prog Try.f5 false true false false) := by
  refine law_returns (C := Try.checked) (tb := 4) ownT started (by kernel_rfl) Try.func5
    (ChangeSpec.witness6 (enc := enc) (C := Try.checked) false ⟨#[], #[.slice none 0 0, .agg #[.string ⟨#[]⟩, .slice none 0 0, .slice none 0 0, .slice none 0 0, .slice none 0 0, .slice none 0 0, .slice none 0 0, .slice none 0 0, .slice none 0 0]], []⟩ 8 (by kernel_rfl) (by kernel_rfl) (by kernel_rfl) (by kernel_rfl))
    laidT (by kernel_rfl) (by kernel_rfl) (by kernel_rfl) rfl ?_ ?_
  · intro ds hl
    match ds, hl with
    | [a, b], _ => rfl
  · intro W base args ds p hval0 hA0
    have hval : ∀ (j : Nat) t v, Try.f5.params[j]? = some t → args[j]? = some v → Value.okWide Try.prog W .any base t v := hval0
    have hA : DataW.TrodAll enc Try.prog W 0 (fun _ => true) true Try.f5.params.toList args.toList ds p := hA0
    rw [params5] at hA
    obtain ⟨v0, v1, d0, d1, p0, p1, h00, rfl, rfl, h0, h1⟩ := trodAll_two hA
    have e0 : args[0]? = some v0 := by rw [← Array.getElem?_toList, h00]; rfl
    have e1 : args[1]? = some v1 := by rw [← Array.getElem?_toList, h00]; rfl
    obtain ⟨a, ha, ra⟩ := arg_flat (by kernel_rfl) (hval 0 26 v0 (by kernel_rfl) e0) h0 (fun n => rdStmts)
    obtain ⟨c, hc, rc⟩ := arg_agg Try.underlying28 (hval 1 28 v1 (by kernel_rfl) e1) h1 (fun n => rdPrg)
    rw [h00]
    exact ⟨_, _, .cons ra (.cons rc (.nil _)), CheckEnds_spec eheap a ha.1 (fun x hx => (ha.2 x hx).1) c hc.1, fun v g h => h.1⟩

theorem checkEnds_holds : Rows.CheckEndsSaid :=
  OpenClaim.holds_of_wide 5 Try.f5 rfl rfl rfl rfl rfl rfl rfl ⟨rfl, rfl, rfl, rfl, rfl⟩ rfl rfl rfl rfl rfl (by kernel_rfl) Try.func5 (by kernel_rfl)
    (of_decide_eq_true (by kernel_rfl)) (by unfold Func.isWrapper; first | (rw [if_pos (by decide +kernel)]; kernel_rfl) | (rw [if_neg (by decide +kernel)]; exact ⟨rfl, rfl⟩))
    (fun os started H enc _ => checkEnds_returns os started H enc)
end Go.Proofs.Ytpebidcmkjjpnaa
#print axioms Go.Proofs.Ytpebidcmkjjpnaa.checkEnds_holds
