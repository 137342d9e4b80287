/- For every input the law CheckMore returns true, and its arguments read behind the call as they read before. No condition. -/
import Derived.Test.YtpebidcmkjjpnaaCheckMore
import Derived.Test.YtpebidcmkjjpnaaRd
namespace Go.Proofs.Ytpebidcmkjjpnaa
open Go Go.ChangeShapes Go.WideShapes Pg
set_option linter.unusedVariables false
set_option maxRecDepth 20000

theorem paramsM : Try.f6.params.toList = [28] := rfl
theorem checkMore_returns (os : Os) (started : os.Started) (H : Type) (enc : TypeId × Value → H) :
    ReturnsInHanded {} Try.checked os 6 .any (Rows.checkMoreSpec.pre6 enc Try.prog Try.f6 Rows.checkMoreRow.domain false) (Rows.checkMoreSpec.post enc Try.prog Try.f6 false true false false) := by
  refine law_returns (C := Try.checked) (tb := 4) ownT started (by kernel_rfl) Try.func6
    (ChangeSpec.witness6 (enc := enc) (C := Try.checked) false ⟨#[], #[.agg #[.string ⟨#[]⟩, .slice none 0 0, .slice none 0 0, .slice none 0 0, .slice none 0 0, .slice none 0 0, .slice none 0 0, .slice none 0 0, .slice none 0 0]], []⟩ 8 (by kernel_rfl) (by kernel_rfl) (by kernel_rfl) (by kernel_rfl))
    laidT (by kernel_rfl) (by kernel_rfl) (by kernel_rfl) rfl ?_ ?_
  · intro ds hl
    match ds, hl with
    | [a], _ => rfl
  · intro W base args ds p hval0 hA0
    have hval : ∀ (j : Nat) t v, Try.f6.params[j]? = some t → args[j]? = some v → Value.okWide Try.prog W .any base t v := hval0
    have hA : DataW.TrodAll enc Try.prog W 0 (fun _ => true) true Try.f6.params.toList args.toList ds p := hA0
    rw [paramsM] at hA
    obtain ⟨v0, d0, rfl, rfl, h0⟩ := trodAll_one hA
    obtain ⟨c, hc, rc⟩ := arg_agg Try.underlying28 (hval 0 28 v0 (by kernel_rfl) rfl) h0 (fun n => rdPrg)
    exact ⟨_, _, .cons rc (.nil _), CheckMore_spec eheap c hc.1 hc.2, fun v g h => h.1⟩

theorem checkMore_holds : Rows.CheckMoreSaid :=
  OpenClaim.holds_of_wide 6 Try.f6 rfl rfl rfl rfl rfl rfl rfl ⟨rfl, rfl, rfl, rfl, rfl⟩ rfl rfl rfl rfl rfl (by kernel_rfl) Try.func6 (by kernel_rfl)
    (of_decide_eq_true (by kernel_rfl)) (by unfold Func.isWrapper; first | (rw [if_pos (by decide +kernel)]; kernel_rfl) | (rw [if_neg (by decide +kernel)]; exact ⟨rfl, rfl⟩))
    (fun os started H enc _ => checkMore_returns os started H enc)
end Go.Proofs.Ytpebidcmkjjpnaa
#print axioms Go.Proofs.Ytpebidcmkjjpnaa.checkMore_holds
