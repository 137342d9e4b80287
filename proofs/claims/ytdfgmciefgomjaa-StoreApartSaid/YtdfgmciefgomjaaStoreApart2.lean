import Derived.Test.YtdfgmciefgomjaaStoreApart1
import Derived.Test.YtdfgmciefgomjaaStoreR
namespace Go.Proofs.Ytdfgmciefgomjaa
open Go Go.ChangeShapes Go.WideShapes Pg
set_option linter.unusedVariables false

theorem storeApart_returns (os : Os) (started : os.Started) (H : Type) (enc : TypeId × Value → H) :
    ReturnsInHanded {} Try.checked os 3 .any (Rows.storeApartSpec.pre6 enc Try.prog Try.f3 Rows.storeApartRow.domain false) (Rows.storeApartSpec.post enc Try.prog Try.f3 false true false false) := by
  refine law_returns (C := Try.checked) (tb := 4) ownT started (by kernel_rfl) Try.func3
    (ChangeSpec.witness6 (enc := enc) (C := Try.checked) false ⟨#[], #[.slice none 0 0, .int .i64 0, .int .i64 0], []⟩ 8 (by kernel_rfl) (by kernel_rfl) (by kernel_rfl) (by kernel_rfl))
    laidT (by kernel_rfl) (by kernel_rfl) (by kernel_rfl) rfl ?_ ?_
  · intro ds hl
    match ds, hl with
    | [a, b, c], _ => rfl
  · intro W base args ds p hval0 hA0
    have hval : ∀ (j : Nat) t v, Try.f3.params[j]? = some t → args[j]? = some v → Value.okWide Try.prog W .any base t v := hval0
    have hA : DataW.TrodAll enc Try.prog W 0 (fun _ => true) true Try.f3.params.toList args.toList ds p := hA0
    rw [Try.params3] at hA hval
    obtain ⟨v0, v1, v2, d0, d1, d2, p0, p1, p2, rfl, rfl, rfl, h0, h1, h2⟩ := trodAll_three hA
    obtain ⟨a, ha, ra⟩ := arg_flat (by kernel_rfl) (hval 0 22 v0 rfl rfl) h0 (fun n => rdBytes)
    obtain ⟨b, hb, rb⟩ := arg_flat (by kernel_rfl) (hval 1 3 v1 rfl rfl) h1 (fun n => rdInt)
    obtain ⟨c, hc, rc⟩ := arg_flat (by kernel_rfl) (hval 2 2 v2 rfl rfl) h2 (fun n => rdI64)
    exact ⟨_, _, .cons ra (.cons rb (.cons rc (.nil _))), StoreApart_spec a b c (fun x hx => okInt_u8 (ha x hx)), fun v g h => h⟩

theorem storeApart_holds : Rows.StoreApartSaid :=
  OpenClaim.holds_of_wide 3 Try.f3 rfl rfl rfl rfl rfl rfl rfl ⟨rfl, rfl, rfl, rfl, rfl⟩ rfl rfl rfl rfl rfl (by kernel_rfl) Try.func3 (by kernel_rfl)
    (of_decide_eq_true (by kernel_rfl)) (by unfold Func.isWrapper; first | (rw [if_pos (by decide +kernel)]; kernel_rfl) | (rw [if_neg (by decide +kernel)]; exact ⟨rfl, rfl⟩))
    (fun os started H enc _ => storeApart_returns os started H enc)
end Go.Proofs.Ytdfgmciefgomjaa
#print axioms Go.Proofs.Ytdfgmciefgomjaa.storeApart_holds
