/- For every input of bulk at most 1048576 the law CaptureCalls returns true, and its arguments read behind the call as they read before. -/
import Derived.Test.YtpebidcmkjjpnaaCalls
import Derived.Test.YtpebidcmkjjpnaaRd
namespace Go.Proofs.Ytpebidcmkjjpnaa
open Go Go.ChangeShapes Go.WideShapes Pg
set_option linter.unusedVariables false
set_option maxRecDepth 20000

theorem paramsCalls : Try.f8.params.toList = [28] := rfl
theorem captureCalls_returns (os : Os) (started : os.Started) (H : Type) (enc : TypeId × Value → H) (F : Stop.Interp) :
    ReturnsInHanded {} Try.checked os 8 .any ((Rows.OpenSpec.upto Rows.captureCallsSpec).pre6 enc Try.prog Try.f8 Rows.captureCallsUptoRow.domain false) (((Rows.OpenSpec.upto Rows.captureCallsSpec).at F).post enc Try.prog Try.f8 false true false false) := by
  refine law_returns_cond (C := Try.checked) (s := Rows.captureCallsSpec) (k := Rows.uptoSmall) (tb := 4) ownT started (by kernel_rfl) Try.func8
    (OpenSpec.witness (enc := enc) (C := Try.checked) (s := Rows.OpenSpec.upto Rows.captureCallsSpec) (k := Rows.uptoSmall) rfl false ⟨#[], #[.agg #[.string ⟨#[]⟩, .slice none 0 0, .slice none 0 0, .slice none 0 0, .slice none 0 0, .slice none 0 0, .slice none 0 0, .slice none 0 0, .slice none 0 0]], []⟩ 8 (by kernel_rfl) (by kernel_rfl) (by kernel_rfl)
      (x := ([.agg [.lit (.string []), .nil, .nil, .nil, .nil, .nil, .nil, .nil, .nil]], [], [])) (by kernel_rfl) rfl (by kernel_rfl))
    laidT (by kernel_rfl) (by kernel_rfl) (by kernel_rfl) rfl ?_ ?_
  · intro ds hl
    match ds, hl with
    | [a], _ => rfl
  · intro W base args ds p hval0 hA0 hk
    have hval : ∀ (j : Nat) t v, Try.f8.params[j]? = some t → args[j]? = some v → Value.okWide Try.prog W .any base t v := hval0
    have hA : DataW.TrodAll enc Try.prog W 0 (fun _ => true) true Try.f8.params.toList args.toList ds p := hA0
    rw [paramsCalls] at hA
    obtain ⟨v0, d0, rfl, rfl, h0⟩ := trodAll_one hA
    obtain ⟨c, hc, rc⟩ := arg_agg Try.underlying28 (hval 0 28 v0 (by kernel_rfl) rfl) h0 (fun n => rdPrg)
    have hb := of_decide_eq_true hk
    simp only [Rows.uptoBulkAll] at hb
    exact ⟨_, _, .cons rc (.nil _), CaptureCalls_spec eheap c hc.1.1 hc.1.2 (by have := hc.2; omega), fun v g h => h.1⟩

theorem captureCalls_holds : Rows.CaptureCallsUptoSaid :=
  OpenClaim.holds_of_cond 8 Try.f8 rfl rfl rfl rfl rfl rfl rfl ⟨rfl, rfl, rfl, rfl, rfl⟩ rfl rfl rfl rfl rfl (by kernel_rfl) Try.func8 (by kernel_rfl)
    (of_decide_eq_true (by kernel_rfl)) (by unfold Func.isWrapper; first | (rw [if_pos (by decide +kernel)]; kernel_rfl) | (rw [if_neg (by decide +kernel)]; exact ⟨rfl, rfl⟩))
    (fun os started H enc _ F => captureCalls_returns os started H enc F)
end Go.Proofs.Ytpebidcmkjjpnaa
#print axioms Go.Proofs.Ytpebidcmkjjpnaa.captureCalls_holds
