import Derived.Test.YtdfgmciefgomjaaCore19
import Derived.Test.YtdfgmciefgomjaaRows
namespace Go.Proofs.Ytdfgmciefgomjaa
open Go Go.ChangeShapes Go.WideShapes Pg
set_option linter.unusedVariables false

theorem ownT : ownKnob Try.prog.godebug = none := by kernel_rfl
theorem laidT : laidOutB Try.prog = true := by kernel_rfl
section
variable {H : Type} {enc : TypeId × Value → H} {W : World} {n : Nat}
/-- A row of cells: where from, how many. -/
def eRef (x : Int × Int) : List AV := [.int .i64 x.1, .int .i64 x.2]
def okInt (k : IntKind) (x : Int) : Prop := (Lit.int k x).wf = true
theorem rdInt : RdN enc Try.prog W n 3 (fun x : Int => [.int .i64 x]) (fun _ x => okInt .i64 x) := (RdN.int Try.underlying3).mono fun d x h => ⟨x, h.2, rfl⟩
theorem rdI64 : RdN enc Try.prog W n 2 (fun x : Int => [.int .i64 x]) (fun _ x => okInt .i64 x) := (RdN.int Try.underlying2).mono fun d x h => ⟨x, h.2, rfl⟩
theorem rdRef : RdN enc Try.prog W n 27 eRef (fun _ x => okInt .i64 x.1 ∧ okInt .i64 x.2) := by
  cases n with
  | zero => exact .zero
  | succ n =>
    have h0 := RdFs.nil (enc := enc) (P := Try.prog) (W := W) (n := n) (total := 2)
    have h1 := RdFs.cons (f := { name := "Len", type := 3, offset := 1, embedded := false, tag := "", pkgPath := "", byteOffset := 8 }) rfl (by kernel_rfl) rdInt h0
    have h2 := RdFs.cons (f := { name := "From", type := 3, offset := 0, embedded := false, tag := "", pkgPath := "", byteOffset := 0 }) rfl (by kernel_rfl) rdInt h1
    have h3 := RdN.struct (enc := enc) (P := Try.prog) (W := W) (n := n) Try.underlying27 h2
    refine h3.mono ?_
    rintro d ⟨x, y, u⟩ ⟨ds, _, _, _, _, hx, _, _, _, hy, _⟩
    exact ⟨(x, y), ⟨hx, hy⟩, by simp [eRef]⟩
theorem rdU8 : RdN enc Try.prog W n 5 (fun x : Int => [.int .u8 x]) (fun _ x => okInt .u8 x) := (RdN.int Try.underlying5).mono fun d x h => ⟨x, h.2, rfl⟩
theorem okSl_all {X : Type} {ok : X → Prop} {d : DataW H} {xs : List X} (h : okSl (fun _ x => ok x) d xs) : ∀ x ∈ xs, ok x := by
  have key : ∀ (ds : List (DataW H)) (xs : List X), Two (fun _ x => ok x) ds xs → ∀ x ∈ xs, ok x := by
    intro ds
    induction ds with
    | nil => intro xs h; cases xs with
      | nil => simp
      | cons _ _ => exact h.elim
    | cons d ds ih => intro xs h; cases xs with
      | nil => simp
      | cons y ys =>
        intro x hx
        rcases List.mem_cons.1 hx with rfl | hx
        · exact h.1
        · exact ih ys h.2 x hx
  rcases h with ⟨_, rfl⟩ | ⟨ds, sp, _, h⟩
  · simp
  · exact key ds xs h
theorem rdBytes : RdN enc Try.prog W n 22 (eSl fun x : Int => [.int .u8 x]) (fun _ xs => ∀ x ∈ xs, okInt .u8 x) := by
  cases n with
  | zero => exact .zero
  | succ n => exact (RdN.slice Try.underlying22 (by have : Try.prog.cellsOf 5 = 1 := by kernel_rfl
                                                    omega) rdU8).mono fun d x h => ⟨x, okSl_all h, rfl⟩
theorem okInt_u8 {x : Int} (h : okInt .u8 x) : 0 ≤ x ∧ x ≤ 255 := by
  simp only [okInt, Lit.wf, Bool.and_eq_true, decide_eq_true_eq] at h
  exact h
theorem okInt_i64 {x : Int} (h : okInt .i64 x) : -9223372036854775808 ≤ x ∧ x ≤ 9223372036854775807 := by
  simp only [okInt, Lit.wf, Bool.and_eq_true, decide_eq_true_eq] at h
  exact h
end
end Go.Proofs.Ytdfgmciefgomjaa
