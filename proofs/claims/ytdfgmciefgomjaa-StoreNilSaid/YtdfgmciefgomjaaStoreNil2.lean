import Derived.Test.YtdfgmciefgomjaaStoreNil1
import Derived.Test.YtdfgmciefgomjaaCore19
import Derived.Test.YtdfgmciefgomjaaRows
namespace Go.Proofs.Ytdfgmciefgomjaa
open Go Go.ChangeShapes Go.WideShapes Pg
set_option linter.unusedVariables false

theorem ownT : ownKnob Try.prog.godebug = none := by kernel_rfl
theorem laidT : laidOutB Try.prog = true := by kernel_rfl
section
variable {H : Type} {enc : TypeId × Value → H} {W : World} {n : Nat}
/-- A row of cells: where from, how many. -/
def eRef (x : Int × Int) : List AV := [.int .i64 x.1, .int .i64 x.2]
def okInt (k : IntKind) (x : Int) : Prop := (Lit.int k x).wf = true
theorem rdInt : RdN enc Try.prog W n 3 (fun x : Int => [.int .i64 x]) (fun _ x => okInt .i64 x) := (RdN.int Try.underlying3).mono fun d x h => ⟨x, h.2, rfl⟩
theorem rdI64 : RdN enc Try.prog W n 2 (fun x : Int => [.int .i64 x]) (fun _ x => okInt .i64 x) := (RdN.int Try.underlying2).mono fun d x h => ⟨x, h.2, rfl⟩
theorem rdRef : RdN enc Try.prog W n 27 eRef (fun _ x => okInt .i64 x.1 ∧ okInt .i64 x.2) := by
  cases n with
  | zero => exact .zero
  | succ n =>
    have h0 := RdFs.nil (enc := enc) (P := Try.prog) (W := W) (n := n) (total := 2)
    have h1 := RdFs.cons (f := { name := "Len", type := 3, offset := 1, embedded := false, tag := "", pkgPath := "", byteOffset := 8 }) rfl (by kernel_rfl) rdInt h0
    have h2 := RdFs.cons (f := { name := "From", type := 3, offset := 0, embedded := false, tag := "", pkgPath := "", byteOffset := 0 }) rfl (by kernel_rfl) rdInt h1
    have h3 := RdN.struct (enc := enc) (P := Try.prog) (W := W) (n := n) Try.underlying27 h2
    refine h3.mono ?_
    rintro d ⟨x, y, u⟩ ⟨ds, _, _, _, _, hx, _, _, _, hy, _⟩
    exact ⟨(x, y), ⟨hx, hy⟩, by simp [eRef]⟩
end
theorem storeNil_returns (os : Os) (started : os.Started) (H : Type) (enc : TypeId × Value → H) :
    ReturnsInHanded {} Try.checked os 5 .any (Rows.storeNilSpec.pre6 enc Try.prog Try.f5 Rows.storeNilRow.domain false) (Rows.storeNilSpec.post enc Try.prog Try.f5 false true false false) := by
  refine law_returns (C := Try.checked) (tb := 4) ownT started (by kernel_rfl) Try.func5
    (ChangeSpec.witness6 (enc := enc) (C := Try.checked) false ⟨#[], #[.int .i64 0, .agg #[.int .i64 0, .int .i64 0], .int .i64 0], []⟩ 8 (by kernel_rfl) (by kernel_rfl) (by kernel_rfl) (by kernel_rfl))
    laidT (by kernel_rfl) (by kernel_rfl) (by kernel_rfl) rfl ?_ ?_
  · intro ds hl
    match ds, hl with
    | [a, b, c], _ => rfl
  · intro W base args ds p hval0 hA0
    have hval : ∀ (j : Nat) t v, Try.f5.params[j]? = some t → args[j]? = some v → Value.okWide Try.prog W .any base t v := hval0
    have hA : DataW.TrodAll enc Try.prog W 0 (fun _ => true) true Try.f5.params.toList args.toList ds p := hA0
    rw [Try.params5] at hA hval
    obtain ⟨v0, v1, v2, d0, d1, d2, p0, p1, p2, rfl, rfl, rfl, h0, h1, h2⟩ := trodAll_three hA
    obtain ⟨a, -, ra⟩ := arg_flat (by kernel_rfl) (hval 0 3 v0 rfl rfl) h0 (fun n => rdInt)
    obtain ⟨b, -, rb⟩ := arg_agg Try.underlying27 (hval 1 27 v1 rfl rfl) h1 (fun n => rdRef)
    obtain ⟨c, -, rc⟩ := arg_flat (by kernel_rfl) (hval 2 2 v2 rfl rfl) h2 (fun n => rdI64)
    exact ⟨_, _, .cons ra (.cons rb (.cons rc (.nil _))), StoreNil_spec eheap a b.1 b.2 c, fun v g h => h.1⟩

theorem storeNil_holds : Rows.StoreNilSaid :=
  OpenClaim.holds_of_wide 5 Try.f5 rfl rfl rfl rfl rfl rfl rfl ⟨rfl, rfl, rfl, rfl, rfl⟩ rfl rfl rfl rfl rfl (by kernel_rfl) Try.func5 (by kernel_rfl)
    (of_decide_eq_true (by kernel_rfl)) (by unfold Func.isWrapper; first | (rw [if_pos (by decide +kernel)]; kernel_rfl) | (rw [if_neg (by decide +kernel)]; exact ⟨rfl, rfl⟩))
    (fun os started H enc _ => storeNil_returns os started H enc)
end Go.Proofs.Ytdfgmciefgomjaa
#print axioms Go.Proofs.Ytdfgmciefgomjaa.storeNil_holds
