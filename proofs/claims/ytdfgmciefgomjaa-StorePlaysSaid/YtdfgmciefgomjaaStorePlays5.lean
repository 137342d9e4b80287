import Derived.Test.YtdfgmciefgomjaaStorePlays4
import Derived.Test.YtdfgmciefgomjaaStoreR
namespace Go.Proofs.Ytdfgmciefgomjaa
open Go Go.ChangeShapes Go.WideShapes Pg
set_option linter.unusedVariables false

section
variable {H : Type} {enc : TypeId × Value → H} {W : World} {n : Nat}
theorem rdBool : RdN enc Try.prog W n 4 (fun x : Bool => [.bool x]) (fun _ _ => True) := (RdN.bool Try.underlying4).mono fun d x h => ⟨x, trivial, rfl⟩
theorem rdAct : RdN enc Try.prog W n 45 PAct.row (fun _ _ => True) := by
  cases n with
  | zero => exact .zero
  | succ n =>
    have h0 := RdFs.nil (enc := enc) (P := Try.prog) (W := W) (n := n) (total := 7)
    have h1 := RdFs.cons (f := { name := "Odd", type := 4, offset := 6, embedded := false, tag := "", pkgPath := "", byteOffset := 48 }) rfl (by kernel_rfl) rdBool h0
    have h2 := RdFs.cons (f := { name := "V", type := 2, offset := 5, embedded := false, tag := "", pkgPath := "", byteOffset := 40 }) rfl (by kernel_rfl) rdI64 h1
    have h3 := RdFs.cons (f := { name := "R", type := 27, offset := 3, embedded := false, tag := "", pkgPath := "", byteOffset := 24 }) rfl (by kernel_rfl) rdRef h2
    have h4 := RdFs.cons (f := { name := "I", type := 3, offset := 2, embedded := false, tag := "", pkgPath := "", byteOffset := 16 }) rfl (by kernel_rfl) rdInt h3
    have h5 := RdFs.cons (f := { name := "N", type := 3, offset := 1, embedded := false, tag := "", pkgPath := "", byteOffset := 8 }) rfl (by kernel_rfl) rdInt h4
    have h6 := RdFs.cons (f := { name := "Kind", type := 3, offset := 0, embedded := false, tag := "", pkgPath := "", byteOffset := 0 }) rfl (by kernel_rfl) rdInt h5
    refine (RdN.struct (enc := enc) (P := Try.prog) (W := W) (n := n) Try.underlying45 h6).mono ?_
    rintro d ⟨k, m, i, r, v, o, u⟩ _
    exact ⟨⟨k, m, i, r.1, r.2, v, o⟩, trivial, by simp [PAct.row, eRef]⟩
theorem rdActs : RdN enc Try.prog W n 39 (eSl PAct.row) (fun _ _ => True) := by
  cases n with
  | zero => exact .zero
  | succ n => exact (RdN.slice Try.underlying39 (by have : Try.prog.cellsOf 45 = 7 := by kernel_rfl
                                                    omega) rdAct).mono fun d x h => ⟨x, trivial, rfl⟩
end
theorem storePlays_returns (os : Os) (started : os.Started) (H : Type) (enc : TypeId × Value → H) :
    ReturnsInHanded {} Try.checked os 4 .any (Rows.storePlaysSpec.pre6 enc Try.prog Try.f4 Rows.storePlaysRow.domain false) (Rows.storePlaysSpec.post enc Try.prog Try.f4 false true false false) := by
  refine law_returns (C := Try.checked) (tb := 4) ownT started (by kernel_rfl) Try.func4
    (ChangeSpec.witness6 (enc := enc) (C := Try.checked) false ⟨#[], #[.int .i64 0, .slice none 0 0], []⟩ 8 (by kernel_rfl) (by kernel_rfl) (by kernel_rfl) (by kernel_rfl))
    laidT (by kernel_rfl) (by kernel_rfl) (by kernel_rfl) rfl ?_ ?_
  · intro ds hl
    match ds, hl with
    | [a, b], _ => rfl
  · intro W base args ds p hval0 hA0
    have hval : ∀ (j : Nat) t v, Try.f4.params[j]? = some t → args[j]? = some v → Value.okWide Try.prog W .any base t v := hval0
    have hA : DataW.TrodAll enc Try.prog W 0 (fun _ => true) true Try.f4.params.toList args.toList ds p := hA0
    rw [Try.params4] at hA hval
    obtain ⟨v0, v1, d0, d1, p0, p1, rfl, rfl, rfl, h0, h1⟩ := trodAll_two hA
    obtain ⟨a, ha, ra⟩ := arg_flat (by kernel_rfl) (hval 0 3 v0 rfl rfl) h0 (fun n => rdInt)
    obtain ⟨c, hc, rc⟩ := arg_flat (by kernel_rfl) (hval 1 39 v1 rfl rfl) h1 (fun n => rdActs)
    exact ⟨_, _, .cons ra (.cons rc (.nil _)), StorePlays_spec a c (okInt_i64 ha).1, fun v g h => h⟩

theorem storePlays_holds : Rows.StorePlaysSaid :=
  OpenClaim.holds_of_wide 4 Try.f4 rfl rfl rfl rfl rfl rfl rfl ⟨rfl, rfl, rfl, rfl, rfl⟩ rfl rfl rfl rfl rfl (by kernel_rfl) Try.func4 (by kernel_rfl)
    (of_decide_eq_true (by kernel_rfl)) (by unfold Func.isWrapper; first | (rw [if_pos (by decide +kernel)]; kernel_rfl) | (rw [if_neg (by decide +kernel)]; exact ⟨rfl, rfl⟩))
    (fun os started H enc _ => storePlays_returns os started H enc)
end Go.Proofs.Ytdfgmciefgomjaa
#print axioms Go.Proofs.Ytdfgmciefgomjaa.storePlays_holds
