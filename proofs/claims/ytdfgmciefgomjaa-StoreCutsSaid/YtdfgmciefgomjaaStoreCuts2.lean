import Derived.Test.YtdfgmciefgomjaaStoreCuts1
import Derived.Test.YtdfgmciefgomjaaStoreR
namespace Go.Proofs.Ytdfgmciefgomjaa
open Go Go.ChangeShapes Go.WideShapes Pg
set_option linter.unusedVariables false

theorem storeCuts_returns (os : Os) (started : os.Started) (H : Type) (enc : TypeId × Value → H) :
    ReturnsInHanded {} Try.checked os 6 .any (Rows.storeCutsSpec.pre6 enc Try.prog Try.f6 Rows.storeCutsRow.domain false) (Rows.storeCutsSpec.post enc Try.prog Try.f6 false true false false) := by
  refine law_returns (C := Try.checked) (tb := 4) ownT started (by kernel_rfl) Try.func6
    (ChangeSpec.witness6 (enc := enc) (C := Try.checked) false ⟨#[], #[.slice none 0 0, .int .u8 0], []⟩ 8 (by kernel_rfl) (by kernel_rfl) (by kernel_rfl) (by kernel_rfl))
    laidT (by kernel_rfl) (by kernel_rfl) (by kernel_rfl) rfl ?_ ?_
  · intro ds hl
    match ds, hl with
    | [a, b], _ => rfl
  · intro W base args ds p hval0 hA0
    have hval : ∀ (j : Nat) t v, Try.f6.params[j]? = some t → args[j]? = some v → Value.okWide Try.prog W .any base t v := hval0
    have hA : DataW.TrodAll enc Try.prog W 0 (fun _ => true) true Try.f6.params.toList args.toList ds p := hA0
    rw [Try.params6] at hA hval
    obtain ⟨v0, v1, d0, d1, p0, p1, rfl, rfl, rfl, h0, h1⟩ := trodAll_two hA
    obtain ⟨a, ha, ra⟩ := arg_flat (by kernel_rfl) (hval 0 22 v0 rfl rfl) h0 (fun n => rdBytes)
    obtain ⟨c, hc, rc⟩ := arg_flat (by kernel_rfl) (hval 1 5 v1 rfl rfl) h1 (fun n => rdU8)
    exact ⟨_, _, .cons ra (.cons rc (.nil _)), StoreCuts_spec a c (fun x hx => okInt_u8 (ha x hx)) (okInt_u8 hc), fun v g h => h⟩

theorem storeCuts_holds : Rows.StoreCutsSaid :=
  OpenClaim.holds_of_wide 6 Try.f6 rfl rfl rfl rfl rfl rfl rfl ⟨rfl, rfl, rfl, rfl, rfl⟩ rfl rfl rfl rfl rfl (by kernel_rfl) Try.func6 (by kernel_rfl)
    (of_decide_eq_true (by kernel_rfl)) (by unfold Func.isWrapper; first | (rw [if_pos (by decide +kernel)]; kernel_rfl) | (rw [if_neg (by decide +kernel)]; exact ⟨rfl, rfl⟩))
    (fun os started H enc _ => storeCuts_returns os started H enc)
end Go.Proofs.Ytdfgmciefgomjaa
#print axioms Go.Proofs.Ytdfgmciefgomjaa.storeCuts_holds
