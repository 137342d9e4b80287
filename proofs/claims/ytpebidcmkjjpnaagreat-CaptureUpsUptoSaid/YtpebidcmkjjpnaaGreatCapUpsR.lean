/- For every input of bulk at most 1048576 the law CaptureUps returns true, and its arguments read behind the call as they read before. -/
import Derived.Test.YtpebidcmkjjpnaaGreatCapUps
import Derived.Test.YtpebidcmkjjpnaaGreatRd
namespace Go.Proofs.YtpebidcmkjjpnaaGreat
open Go Go.ChangeShapes Go.WideShapes Pg
set_option linter.unusedVariables false
set_option maxRecDepth 20000

theorem paramsCapUps : Tryz.f3.params.toList = [28] := rfl
theorem captureUps_returns (os : Os) (started : os.Started) (H : Type) (enc : TypeId × Value → H) (F : Stop.Interp) :
    ReturnsInHanded {} Tryz.checked os 3 .any ((Rows.OpenSpec.upto Rows.captureUpsSpec).pre6 enc Tryz.prog Tryz.f3 Rows.captureUpsUptoRow.domain false) (((Rows.OpenSpec.upto Rows.captureUpsSpec).at F).post enc Tryz.prog Tryz.f3 false true false false) := by
  refine law_returns_cond (C := Tryz.checked) (s := Rows.captureUpsSpec) (k := Rows.uptoSmall) (tb := 4) ownT started (by kernel_rfl) Tryz.func3
    (OpenSpec.witness (enc := enc) (C := Tryz.checked) (s := Rows.OpenSpec.upto Rows.captureUpsSpec) (k := Rows.uptoSmall) rfl false ⟨#[], #[.agg #[.string ⟨#[]⟩, .slice none 0 0, .slice none 0 0, .slice none 0 0, .slice none 0 0, .slice none 0 0, .slice none 0 0, .slice none 0 0, .slice none 0 0]], []⟩ 8 (by kernel_rfl) (by kernel_rfl) (by kernel_rfl)
      (x := ([.agg [.lit (.string []), .nil, .nil, .nil, .nil, .nil, .nil, .nil, .nil]], [], [])) (by kernel_rfl) rfl (by kernel_rfl))
    laidT (by kernel_rfl) (by kernel_rfl) (by kernel_rfl) rfl ?_ ?_
  · intro ds hl
    match ds, hl with
    | [a], _ => rfl
  · intro W base args ds p hval0 hA0 hk
    have hval : ∀ (j : Nat) t v, Tryz.f3.params[j]? = some t → args[j]? = some v → Value.okWide Tryz.prog W .any base t v := hval0
    have hA : DataW.TrodAll enc Tryz.prog W 0 (fun _ => true) true Tryz.f3.params.toList args.toList ds p := hA0
    rw [paramsCapUps] at hA
    obtain ⟨v0, d0, rfl, rfl, h0⟩ := trodAll_one hA
    obtain ⟨c, hc, rc⟩ := arg_agg Tryz.underlying28 (hval 0 28 v0 (by kernel_rfl) rfl) h0 (fun n => rdPrg)
    have hb := of_decide_eq_true hk
    simp only [Rows.uptoBulkAll] at hb
    exact ⟨_, _, .cons rc (.nil _), CaptureUps_spec eheap c hc.1.1 hc.1.2 (by have := hc.2; omega), fun v g h => h.1⟩

theorem captureUps_holds : Rows.CaptureUpsUptoSaid :=
  OpenClaim.holds_of_cond 3 Tryz.f3 rfl rfl rfl rfl rfl rfl rfl ⟨rfl, rfl, rfl, rfl, rfl⟩ rfl rfl rfl rfl rfl (by kernel_rfl) Tryz.func3 (by kernel_rfl)
    (of_decide_eq_true (by kernel_rfl)) (by unfold Func.isWrapper; first | (rw [if_pos (by decide +kernel)]; kernel_rfl) | (rw [if_neg (by decide +kernel)]; exact ⟨rfl, rfl⟩))
    (fun os started H enc _ F => captureUps_returns os started H enc F)
end Go.Proofs.YtpebidcmkjjpnaaGreat
#print axioms Go.Proofs.YtpebidcmkjjpnaaGreat.captureUps_holds
