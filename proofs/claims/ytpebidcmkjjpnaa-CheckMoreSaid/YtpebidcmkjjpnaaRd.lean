/- What a memory gives of a program: the readers. -/
import Derived.Test.YtpebidcmkjjpnaaCore19
import Derived.Test.YtpebidcmkjjpnaaFit
import Derived.Test.YtpebidcmkjjpnaaRows
namespace Go.Proofs.Ytpebidcmkjjpnaa
open Go Go.ChangeShapes Go.WideShapes Pg
set_option linter.unusedVariables false
set_option maxRecDepth 4000

theorem ownT : ownKnob Try.prog.godebug = none := by kernel_rfl
theorem laidT : laidOutB Try.prog = true := by kernel_rfl
section
variable {H : Type} {enc : TypeId × Value → H} {W : World} {n : Nat}
theorem cells_pos {a k : Nat} (h : a = k + 1) : 0 < a := by omega
theorem wf_i64 {x : Int} (h : (Lit.int .i64 x).wf = true) : i64 x := by
  simp only [Lit.wf, Bool.and_eq_true, decide_eq_true_eq] at h
  exact h
theorem RdN.slF {P : Program} {t el : TypeId} {X : Type} {e : X → List AV} {ok : X → Prop} (ht : P.underlying t = some (.slice el)) (hc : 0 < P.cellsOf el) (h : RdN enc P W n el e (fun _ x => ok x)) : RdN enc P W (n + 1) t (eSl e) (fun _ xs => few xs ∧ ∀ x ∈ xs, ok x) := by
  intro cs d ps k
  obtain ⟨xs, h1, h2, h3⟩ := RdN.slice ht hc h cs d ps k
  refine ⟨xs, ?_, h2, h3⟩
  have all : ∀ (ds : List (DataW H)) (xs : List X), Two (fun _ x => ok x) ds xs → ∀ x ∈ xs, ok x := by
    intro ds
    induction ds with
    | nil => intro xs h; cases xs with
      | nil => simp
      | cons _ _ => exact h.elim
    | cons d ds ih => intro xs h; cases xs with
      | nil => simp
      | cons y ys =>
        intro x hx
        rcases List.mem_cons.1 hx with rfl | hx
        · exact h.1
        · exact ih ys h.2 x hx
  rcases h1 with ⟨_, rfl⟩ | ⟨ds, sp, rfl, ht2⟩
  · exact ⟨by simp [few], by simp⟩
  · refine ⟨?_, all ds xs ht2⟩
    rcases DataW.trod_slice ht k with ⟨_, hx⟩ | ⟨a, len, cap, elems, rest, m, _, _, hx, _, hb1, hb2, hl, _⟩
    · cases hx
    · have hx1 := congrArg Prod.fst hx
      simp only [DataW.slice.injEq] at hx1
      have := ht2.len
      rw [hx1.1] at this
      simp at this
      have hm : maxLen = 9223372036854775807 := by decide
      unfold few; omega
theorem RdN.slS {P : Program} {t el : TypeId} {X : Type} {e : X → List AV} {ok : X → Prop} (ht : P.underlying t = some (.slice el)) (hc : 0 < P.cellsOf el) (h : ∀ n, RdN enc P W n el e (fun _ x => ok x)) : RdN enc P W n t (eSl e) (fun _ xs => few xs ∧ ∀ x ∈ xs, ok x) := by
  cases n with
  | zero => exact .zero
  | succ n => exact RdN.slF ht hc (h n)
theorem rdInt : RdN enc Try.prog W n 3 (fun x : Int => [.int .i64 x]) (fun _ x => i64 x) := (RdN.int Try.underlying3).mono fun d x h => ⟨x, wf_i64 h.2, rfl⟩
theorem rdI64 : RdN enc Try.prog W n 2 (fun x : Int => [.int .i64 x]) (fun _ x => i64 x) := (RdN.int Try.underlying2).mono fun d x h => ⟨x, wf_i64 h.2, rfl⟩
theorem rdBool : RdN enc Try.prog W n 4 (fun x : Bool => [.bool x]) (fun _ _ => True) := (RdN.bool Try.underlying4).mono fun d x h => ⟨x, trivial, rfl⟩
theorem rdStr : RdN enc Try.prog W n 9 (fun x : ByteArray => [.str x]) (fun _ x => short x) := (RdN.str Try.underlying9).mono fun d x h => ⟨x, h.2, rfl⟩
theorem rdTexts : RdN enc Try.prog W n 22 (fun l : List ByteArray => [eTexts l]) (fun _ l => few l ∧ shorts l) := (RdN.slS Try.underlying22 (cells_pos (k := 0) (by kernel_rfl)) (fun n => rdStr)).mono fun d x h => ⟨x, h, rfl⟩
theorem rdTyp : RdN enc Try.prog W n 43 eTyp (fun _ x => x.fit) := by
  cases n with
  | zero => exact .zero
  | succ n =>
    have h3 := RdFs.nil (enc := enc) (P := Try.prog) (W := W) (n := n) (total := 3)
    have h2 := RdFs.cons (f := { name := "Name", type := 9, offset := 2, embedded := false, tag := "", pkgPath := "", byteOffset := 16 }) rfl (by kernel_rfl) rdStr h3
    have h1 := RdFs.cons (f := { name := "Size", type := 3, offset := 1, embedded := false, tag := "", pkgPath := "", byteOffset := 8 }) rfl (by kernel_rfl) rdInt h2
    have h0 := RdFs.cons (f := { name := "Kind", type := 3, offset := 0, embedded := false, tag := "", pkgPath := "", byteOffset := 0 }) rfl (by kernel_rfl) rdInt h1
    refine (RdN.struct (enc := enc) (P := Try.prog) (W := W) (n := n) Try.underlying43 h0).mono ?_
    rintro d ⟨a, b, c, u⟩ ⟨ds, _, _, _, _, k0, _, _, _, k1, _, _, _, k2, _⟩
    exact ⟨⟨a, b, c⟩, ⟨k0, k1, k2⟩, by simp [eTyp]⟩
theorem rdMarks : RdN enc Try.prog W n 45 (fun x : List ByteArray × List ByteArray => [eTexts x.1, eTexts x.2]) (fun _ x => (few x.1 ∧ shorts x.1) ∧ few x.2 ∧ shorts x.2) := by
  cases n with
  | zero => exact .zero
  | succ n =>
    have h2 := RdFs.nil (enc := enc) (P := Try.prog) (W := W) (n := n) (total := 2)
    have h1 := RdFs.cons (f := { name := "Trail", type := 22, offset := 1, embedded := false, tag := "", pkgPath := "", byteOffset := 24 }) rfl (by kernel_rfl) rdTexts h2
    have h0 := RdFs.cons (f := { name := "Before", type := 22, offset := 0, embedded := false, tag := "", pkgPath := "", byteOffset := 0 }) rfl (by kernel_rfl) rdTexts h1
    refine (RdN.struct (enc := enc) (P := Try.prog) (W := W) (n := n) Try.underlying45 h0).mono ?_
    rintro d ⟨a, b, u⟩ ⟨ds, _, _, _, _, k0, _, _, _, k1, _⟩
    exact ⟨⟨a, b⟩, ⟨k0, k1⟩, by simp [eTexts]⟩
theorem rdExpr : RdN enc Try.prog W n 53 eExpr (fun _ x => x.ok ∧ x.fit) := by
  induction n using Nat.strongRecOn with
  | _ n ih =>
  cases n with
  | zero => exact .zero
  | succ n =>
    have hr : RdN enc Try.prog W n 51 (eSl eExpr) (fun _ xs => few xs ∧ ∀ x ∈ xs, x.ok ∧ x.fit) := by
      cases n with
      | zero => exact .zero
      | succ n => exact RdN.slF Try.underlying51 (cells_pos (k := 4) (by kernel_rfl)) (ih n (by omega))
    have h5 := RdFs.nil (enc := enc) (P := Try.prog) (W := W) (n := n) (total := 5)
    have h4 := RdFs.cons (f := { name := "L", type := 51, offset := 4, embedded := false, tag := "", pkgPath := "", byteOffset := 48 }) rfl (by kernel_rfl) hr h5
    have h3 := RdFs.cons (f := { name := "Field", type := 9, offset := 3, embedded := false, tag := "", pkgPath := "", byteOffset := 32 }) rfl (by kernel_rfl) rdStr h4
    have h2 := RdFs.cons (f := { name := "Name", type := 9, offset := 2, embedded := false, tag := "", pkgPath := "", byteOffset := 16 }) rfl (by kernel_rfl) rdStr h3
    have h1 := RdFs.cons (f := { name := "N", type := 2, offset := 1, embedded := false, tag := "", pkgPath := "", byteOffset := 8 }) rfl (by kernel_rfl) rdI64 h2
    have h0 := RdFs.cons (f := { name := "Op", type := 3, offset := 0, embedded := false, tag := "", pkgPath := "", byteOffset := 0 }) rfl (by kernel_rfl) rdInt h1
    refine (RdN.struct (enc := enc) (P := Try.prog) (W := W) (n := n) Try.underlying53 h0).mono ?_
    rintro d ⟨a, b, c, d, e, u⟩ ⟨ds, _, _, _, _, k0, _, _, _, k1, _, _, _, k2, _, _, _, k3, _, _, _, k4, _⟩
    exact ⟨⟨a, b, c, d, e⟩, ⟨(Expr.ok_iff _).2 ⟨k4.1, fun x hx => (k4.2 x hx).1⟩, (Expr.fit_iff _).2 ⟨k0, k1, k2, k3, fun x hx => (k4.2 x hx).2⟩⟩, by simp [eExpr_eq, eSl]⟩
theorem rdExprs : RdN enc Try.prog W n 51 (eSl eExpr) (fun _ xs => few xs ∧ ∀ x ∈ xs, x.ok ∧ x.fit) := RdN.slS Try.underlying51 (cells_pos (k := 4) (by kernel_rfl)) (fun n => rdExpr)
theorem rdStmt : RdN enc Try.prog W n 55 eStmt (fun _ x => x.ok ∧ x.fit) := by
  induction n using Nat.strongRecOn with
  | _ n ih =>
  cases n with
  | zero => exact .zero
  | succ n =>
    have hr : RdN enc Try.prog W n 26 (eSl eStmt) (fun _ xs => few xs ∧ ∀ x ∈ xs, x.ok ∧ x.fit) := by
      cases n with
      | zero => exact .zero
      | succ n => exact RdN.slF Try.underlying26 (cells_pos (k := 15) (by kernel_rfl)) (ih n (by omega))
    have h11 := RdFs.nil (enc := enc) (P := Try.prog) (W := W) (n := n) (total := 16)
    have h10 := RdFs.cons (f := { name := "End2", type := 22, offset := 15, embedded := false, tag := "", pkgPath := "", byteOffset := 248 }) rfl (by kernel_rfl) rdTexts h11
    have h9 := RdFs.cons (f := { name := "End", type := 22, offset := 14, embedded := false, tag := "", pkgPath := "", byteOffset := 224 }) rfl (by kernel_rfl) rdTexts h10
    have h8 := RdFs.cons (f := { name := "Else", type := 26, offset := 13, embedded := false, tag := "", pkgPath := "", byteOffset := 200 }) rfl (by kernel_rfl) hr h9
    have h7 := RdFs.cons (f := { name := "Body", type := 26, offset := 12, embedded := false, tag := "", pkgPath := "", byteOffset := 176 }) rfl (by kernel_rfl) hr h8
    have h6 := RdFs.cons (f := { name := "More", type := 4, offset := 11, embedded := false, tag := "", pkgPath := "", byteOffset := 169 }) rfl (by kernel_rfl) rdBool h7
    have h5 := RdFs.cons (f := { name := "Down", type := 4, offset := 10, embedded := false, tag := "", pkgPath := "", byteOffset := 168 }) rfl (by kernel_rfl) rdBool h6
    have h4 := RdFs.cons (f := { name := "E", type := 51, offset := 9, embedded := false, tag := "", pkgPath := "", byteOffset := 144 }) rfl (by kernel_rfl) rdExprs h5
    have h3 := RdFs.cons (f := { name := "P", type := 53, offset := 4, embedded := false, tag := "", pkgPath := "", byteOffset := 72 }) rfl (by kernel_rfl) rdExpr h4
    have h2 := RdFs.cons (f := { name := "Name", type := 9, offset := 3, embedded := false, tag := "", pkgPath := "", byteOffset := 56 }) rfl (by kernel_rfl) rdStr h3
    have h1 := RdFs.cons (f := { name := "Op", type := 3, offset := 2, embedded := false, tag := "", pkgPath := "", byteOffset := 48 }) rfl (by kernel_rfl) rdInt h2
    have h0 := RdFs.cons (f := { name := "Marks", type := 45, offset := 0, embedded := true, tag := "", pkgPath := "", byteOffset := 0 }) rfl (by kernel_rfl) rdMarks h1
    refine (RdN.struct (enc := enc) (P := Try.prog) (W := W) (n := n) Try.underlying55 h0).mono ?_
    rintro d ⟨⟨a1, a2⟩, b, c, d, e, f, g, i, j, k, l, u⟩ ⟨ds, _, _, _, _, k0, _, _, _, k1, _, _, _, k2, _, _, _, k3, _, _, _, k4, _, _, _, k5, _, _, _, k6, _, _, _, k7, _, _, _, k8, _, _, _, k9, _, _, _, k10, _⟩
    exact ⟨⟨a1, a2, b, c, d, e, f, g, i, j, k, l⟩, ⟨(Stmt.ok_iff _).2 ⟨k0.1.1, k0.2.1, k3.1, k4.1, fun x hx => (k4.2 x hx).1, k7.1, fun x hx => (k7.2 x hx).1, k8.1, fun x hx => (k8.2 x hx).1, k9.1, k10.1⟩, (Stmt.fit_iff _).2 ⟨k0.1.2, k0.2.2, k1, k2, k3.2, fun x hx => (k4.2 x hx).2, fun x hx => (k7.2 x hx).2, fun x hx => (k8.2 x hx).2, k9.2, k10.2⟩⟩, by simp [eStmt_eq, eExpr_eq, eSl]⟩
theorem rdStmts : RdN enc Try.prog W n 26 (eSl eStmt) (fun _ xs => few xs ∧ ∀ x ∈ xs, x.ok ∧ x.fit) := RdN.slS Try.underlying26 (cells_pos (k := 15) (by kernel_rfl)) (fun n => rdStmt)
theorem rdFld : RdN enc Try.prog W n 77 eFld (fun _ x => x.ok ∧ x.fit) := by
  cases n with
  | zero => exact .zero
  | succ n =>
    have h3 := RdFs.nil (enc := enc) (P := Try.prog) (W := W) (n := n) (total := 4)
    have h2 := RdFs.cons (f := { name := "Kind", type := 3, offset := 3, embedded := false, tag := "", pkgPath := "", byteOffset := 64 }) rfl (by kernel_rfl) rdInt h3
    have h1 := RdFs.cons (f := { name := "Name", type := 9, offset := 2, embedded := false, tag := "", pkgPath := "", byteOffset := 48 }) rfl (by kernel_rfl) rdStr h2
    have h0 := RdFs.cons (f := { name := "Marks", type := 45, offset := 0, embedded := true, tag := "", pkgPath := "", byteOffset := 0 }) rfl (by kernel_rfl) rdMarks h1
    refine (RdN.struct (enc := enc) (P := Try.prog) (W := W) (n := n) Try.underlying77 h0).mono ?_
    rintro d ⟨⟨a1, a2⟩, b, c, u⟩ ⟨ds, _, _, _, _, k0, _, _, _, k1, _, _, _, k2, _⟩
    exact ⟨⟨a1, a2, b, c⟩, ⟨⟨k0.1.1, k0.2.1⟩, ⟨k0.1.2, k0.2.2, k1, k2⟩⟩, by simp [eFld]⟩
theorem rdFlds : RdN enc Try.prog W n 72 (eSl eFld) (fun _ xs => few xs ∧ ∀ x ∈ xs, x.ok ∧ x.fit) := RdN.slS Try.underlying72 (cells_pos (k := 3) (by kernel_rfl)) (fun n => rdFld)
theorem rdRec : RdN enc Try.prog W n 74 eRec (fun _ x => x.ok ∧ x.fit) := by
  cases n with
  | zero => exact .zero
  | succ n =>
    have h4 := RdFs.nil (enc := enc) (P := Try.prog) (W := W) (n := n) (total := 5)
    have h3 := RdFs.cons (f := { name := "End", type := 22, offset := 4, embedded := false, tag := "", pkgPath := "", byteOffset := 88 }) rfl (by kernel_rfl) rdTexts h4
    have h2 := RdFs.cons (f := { name := "Fields", type := 72, offset := 3, embedded := false, tag := "", pkgPath := "", byteOffset := 64 }) rfl (by kernel_rfl) rdFlds h3
    have h1 := RdFs.cons (f := { name := "Name", type := 9, offset := 2, embedded := false, tag := "", pkgPath := "", byteOffset := 48 }) rfl (by kernel_rfl) rdStr h2
    have h0 := RdFs.cons (f := { name := "Marks", type := 45, offset := 0, embedded := true, tag := "", pkgPath := "", byteOffset := 0 }) rfl (by kernel_rfl) rdMarks h1
    refine (RdN.struct (enc := enc) (P := Try.prog) (W := W) (n := n) Try.underlying74 h0).mono ?_
    rintro d ⟨⟨a1, a2⟩, b, c, d, u⟩ ⟨ds, _, _, _, _, k0, _, _, _, k1, _, _, _, k2, _, _, _, k3, _⟩
    exact ⟨⟨a1, a2, b, c, d⟩, ⟨⟨k0.1.1, k0.2.1, k2.1, fun x hx => (k2.2 x hx).1, k3.1⟩, ⟨k0.1.2, k0.2.2, k1, fun x hx => (k2.2 x hx).2, k3.2⟩⟩, by simp [eRec, eSl]⟩
theorem rdRecs : RdN enc Try.prog W n 23 (eSl eRec) (fun _ xs => few xs ∧ ∀ x ∈ xs, x.ok ∧ x.fit) := RdN.slS Try.underlying23 (cells_pos (k := 4) (by kernel_rfl)) (fun n => rdRec)
theorem rdVar : RdN enc Try.prog W n 47 eVar (fun _ x => x.ok ∧ x.fit) := by
  cases n with
  | zero => exact .zero
  | succ n =>
    have h3 := RdFs.nil (enc := enc) (P := Try.prog) (W := W) (n := n) (total := 6)
    have h2 := RdFs.cons (f := { name := "T", type := 43, offset := 3, embedded := false, tag := "", pkgPath := "", byteOffset := 64 }) rfl (by kernel_rfl) rdTyp h3
    have h1 := RdFs.cons (f := { name := "Name", type := 9, offset := 2, embedded := false, tag := "", pkgPath := "", byteOffset := 48 }) rfl (by kernel_rfl) rdStr h2
    have h0 := RdFs.cons (f := { name := "Marks", type := 45, offset := 0, embedded := true, tag := "", pkgPath := "", byteOffset := 0 }) rfl (by kernel_rfl) rdMarks h1
    refine (RdN.struct (enc := enc) (P := Try.prog) (W := W) (n := n) Try.underlying47 h0).mono ?_
    rintro d ⟨⟨a1, a2⟩, b, c, u⟩ ⟨ds, _, _, _, _, k0, _, _, _, k1, _, _, _, k2, _⟩
    exact ⟨⟨a1, a2, b, c⟩, ⟨⟨k0.1.1, k0.2.1⟩, ⟨k0.1.2, k0.2.2, k1, k2⟩⟩, by simp [eVar, eTyp]⟩
theorem rdVars : RdN enc Try.prog W n 24 (eSl eVar) (fun _ xs => few xs ∧ ∀ x ∈ xs, x.ok ∧ x.fit) := RdN.slS Try.underlying24 (cells_pos (k := 5) (by kernel_rfl)) (fun n => rdVar)
theorem rdParam : RdN enc Try.prog W n 66 eParam (fun _ x => True ∧ x.fit) := by
  cases n with
  | zero => exact .zero
  | succ n =>
    have h3 := RdFs.nil (enc := enc) (P := Try.prog) (W := W) (n := n) (total := 5)
    have h2 := RdFs.cons (f := { name := "Mode", type := 3, offset := 4, embedded := false, tag := "", pkgPath := "", byteOffset := 48 }) rfl (by kernel_rfl) rdInt h3
    have h1 := RdFs.cons (f := { name := "T", type := 43, offset := 1, embedded := false, tag := "", pkgPath := "", byteOffset := 16 }) rfl (by kernel_rfl) rdTyp h2
    have h0 := RdFs.cons (f := { name := "Name", type := 9, offset := 0, embedded := false, tag := "", pkgPath := "", byteOffset := 0 }) rfl (by kernel_rfl) rdStr h1
    refine (RdN.struct (enc := enc) (P := Try.prog) (W := W) (n := n) Try.underlying66 h0).mono ?_
    rintro d ⟨a, b, c, u⟩ ⟨ds, _, _, _, _, k0, _, _, _, k1, _, _, _, k2, _⟩
    exact ⟨⟨a, b, c⟩, ⟨trivial, ⟨k0, k1, k2⟩⟩, by simp [eParam, eTyp]⟩
theorem rdParams : RdN enc Try.prog W n 60 (eSl eParam) (fun _ xs => few xs ∧ ∀ x ∈ xs, True ∧ x.fit) := RdN.slS Try.underlying60 (cells_pos (k := 4) (by kernel_rfl)) (fun n => rdParam)
theorem rdRoutine : RdN enc Try.prog W n 62 eRoutine (fun _ x => x.ok ∧ x.fit) := by
  induction n using Nat.strongRecOn with
  | _ n ih =>
  cases n with
  | zero => exact .zero
  | succ n =>
    have hr : RdN enc Try.prog W n 25 (eSl eRoutine) (fun _ xs => few xs ∧ ∀ x ∈ xs, x.ok ∧ x.fit) := by
      cases n with
      | zero => exact .zero
      | succ n => exact RdN.slF Try.underlying25 (cells_pos (k := 8) (by kernel_rfl)) (ih n (by omega))
    have h8 := RdFs.nil (enc := enc) (P := Try.prog) (W := W) (n := n) (total := 9)
    have h7 := RdFs.cons (f := { name := "End", type := 22, offset := 8, embedded := false, tag := "", pkgPath := "", byteOffset := 168 }) rfl (by kernel_rfl) rdTexts h8
    have h6 := RdFs.cons (f := { name := "Body", type := 26, offset := 7, embedded := false, tag := "", pkgPath := "", byteOffset := 144 }) rfl (by kernel_rfl) rdStmts h7
    have h5 := RdFs.cons (f := { name := "Inner", type := 25, offset := 6, embedded := false, tag := "", pkgPath := "", byteOffset := 120 }) rfl (by kernel_rfl) hr h6
    have h4 := RdFs.cons (f := { name := "Vars", type := 24, offset := 5, embedded := false, tag := "", pkgPath := "", byteOffset := 96 }) rfl (by kernel_rfl) rdVars h5
    have h3 := RdFs.cons (f := { name := "Params", type := 60, offset := 4, embedded := false, tag := "", pkgPath := "", byteOffset := 72 }) rfl (by kernel_rfl) rdParams h4
    have h2 := RdFs.cons (f := { name := "Result", type := 3, offset := 3, embedded := false, tag := "", pkgPath := "", byteOffset := 64 }) rfl (by kernel_rfl) rdInt h3
    have h1 := RdFs.cons (f := { name := "Name", type := 9, offset := 2, embedded := false, tag := "", pkgPath := "", byteOffset := 48 }) rfl (by kernel_rfl) rdStr h2
    have h0 := RdFs.cons (f := { name := "Marks", type := 45, offset := 0, embedded := true, tag := "", pkgPath := "", byteOffset := 0 }) rfl (by kernel_rfl) rdMarks h1
    refine (RdN.struct (enc := enc) (P := Try.prog) (W := W) (n := n) Try.underlying62 h0).mono ?_
    rintro d ⟨⟨a1, a2⟩, b, c, d, e, f, g, i, u⟩ ⟨ds, _, _, _, _, k0, _, _, _, k1, _, _, _, k2, _, _, _, k3, _, _, _, k4, _, _, _, k5, _, _, _, k6, _, _, _, k7, _⟩
    exact ⟨⟨a1, a2, b, c, d, e, f, g, i⟩, ⟨(Routine.ok_iff _).2 ⟨k0.1.1, k0.2.1, k3.1, k4.1, fun x hx => (k4.2 x hx).1, k5.1, fun x hx => (k5.2 x hx).1, k6.1, fun x hx => (k6.2 x hx).1, k7.1⟩, (Routine.fit_iff _).2 ⟨k0.1.2, k0.2.2, k1, k2, fun x hx => (k3.2 x hx).2, fun x hx => (k4.2 x hx).2, fun x hx => (k5.2 x hx).2, fun x hx => (k6.2 x hx).2, k7.2⟩⟩, by simp [eRoutine_eq, eSl]⟩
theorem rdRoutines : RdN enc Try.prog W n 25 (eSl eRoutine) (fun _ xs => few xs ∧ ∀ x ∈ xs, x.ok ∧ x.fit) := RdN.slS Try.underlying25 (cells_pos (k := 8) (by kernel_rfl)) (fun n => rdRoutine)
theorem rdPrg : RdN enc Try.prog W n 28 ePrg (fun _ x => x.ok ∧ x.fit) := by
  cases n with
  | zero => exact .zero
  | succ n =>
    have h9 := RdFs.nil (enc := enc) (P := Try.prog) (W := W) (n := n) (total := 9)
    have h8 := RdFs.cons (f := { name := "End", type := 22, offset := 8, embedded := false, tag := "", pkgPath := "", byteOffset := 184 }) rfl (by kernel_rfl) rdTexts h9
    have h7 := RdFs.cons (f := { name := "Body", type := 26, offset := 7, embedded := false, tag := "", pkgPath := "", byteOffset := 160 }) rfl (by kernel_rfl) rdStmts h8
    have h6 := RdFs.cons (f := { name := "Routines", type := 25, offset := 6, embedded := false, tag := "", pkgPath := "", byteOffset := 136 }) rfl (by kernel_rfl) rdRoutines h7
    have h5 := RdFs.cons (f := { name := "Vars", type := 24, offset := 5, embedded := false, tag := "", pkgPath := "", byteOffset := 112 }) rfl (by kernel_rfl) rdVars h6
    have h4 := RdFs.cons (f := { name := "Recs", type := 23, offset := 4, embedded := false, tag := "", pkgPath := "", byteOffset := 88 }) rfl (by kernel_rfl) rdRecs h5
    have h3 := RdFs.cons (f := { name := "After", type := 22, offset := 3, embedded := false, tag := "", pkgPath := "", byteOffset := 64 }) rfl (by kernel_rfl) rdTexts h4
    have h2 := RdFs.cons (f := { name := "Mid", type := 22, offset := 2, embedded := false, tag := "", pkgPath := "", byteOffset := 40 }) rfl (by kernel_rfl) rdTexts h3
    have h1 := RdFs.cons (f := { name := "Before", type := 22, offset := 1, embedded := false, tag := "", pkgPath := "", byteOffset := 16 }) rfl (by kernel_rfl) rdTexts h2
    have h0 := RdFs.cons (f := { name := "Name", type := 9, offset := 0, embedded := false, tag := "", pkgPath := "", byteOffset := 0 }) rfl (by kernel_rfl) rdStr h1
    refine (RdN.struct (enc := enc) (P := Try.prog) (W := W) (n := n) Try.underlying28 h0).mono ?_
    rintro d ⟨a, b, c, d, e, f, g, i, j, u⟩ ⟨ds, _, _, _, _, k0, _, _, _, k1, _, _, _, k2, _, _, _, k3, _, _, _, k4, _, _, _, k5, _, _, _, k6, _, _, _, k7, _, _, _, k8, _⟩
    exact ⟨⟨a, b, c, d, e, f, g, i, j⟩, ⟨⟨k1.1, k2.1, k3.1, k4.1, fun x hx => (k4.2 x hx).1, k5.1, fun x hx => (k5.2 x hx).1, k6.1, fun x hx => (k6.2 x hx).1, k7.1, fun x hx => (k7.2 x hx).1, k8.1⟩, ⟨k0, k1.2, k2.2, k3.2, fun x hx => (k4.2 x hx).2, fun x hx => (k5.2 x hx).2, fun x hx => (k6.2 x hx).2, fun x hx => (k7.2 x hx).2, k8.2⟩⟩, by simp [ePrg_eq, eSl]⟩
end
end Go.Proofs.Ytpebidcmkjjpnaa
