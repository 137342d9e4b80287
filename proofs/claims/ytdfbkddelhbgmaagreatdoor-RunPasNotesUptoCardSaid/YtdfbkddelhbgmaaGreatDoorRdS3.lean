import Derived.Test.YtdfbkddelhbgmaaGreatDoorK4S3
import Derived.Test.YtdfbkddelhbgmaaGreatDoorNnXJS3
import Derived.Test.YtdfbkddelhbgmaaGreatDoorRows
namespace Go.Proofs.YtdfbkddelhbgmaaGreatDoor
open Go Go.ChangeShapes Go.WideShapes Pg
set_option linter.all false
set_option maxRecDepth 4000
theorem aF2 : ownKnob Tryz.prog.godebug = none := by kernel_rfl
theorem aFP : laidOutB Tryz.prog = true := by kernel_rfl
section
variable {H : Type} {enc : TypeId × Value → H} {W : World} {n : Nat}
theorem jJ {a k : Nat} (h : a = k + 1) : 0 < a := by omega
theorem wf_i64 {x : Int} (h : (Lit.int .i64 x).wf = true) : i64 x := by
 simp only [Lit.wf, Bool.and_eq_true, decide_eq_true_eq] at h
 exact h
theorem RdN.slF {P : Program} {t el : TypeId} {X : Type} {e : X → List AV} {ok : X → Prop} (ht : P.underlying t = some (.slice el)) (hc : 0 < P.cellsOf el) (h : RdN enc P W n el e (fun _ x => ok x)) : RdN enc P W (n + 1) t (eSl e) (fun _ xs => few xs ∧ ∀ x ∈ xs, ok x) := by
 intro cs d ps k
 obtain ⟨xs, h1, h2, h3⟩ := RdN.slice ht hc h cs d ps k
 refine ⟨xs, ?_, h2, h3⟩
 have all : ∀ (ds : List (DataW H)) (xs : List X), Two (fun _ x => ok x) ds xs → ∀ x ∈ xs, ok x := by
  intro ds
  induction ds with
  | nil => intro xs h; cases xs with
   | nil => simp
   | cons _ _ => exact h.elim
  | cons d ds ih => intro xs h; cases xs with
   | nil => simp
   | cons y ys =>
    intro x hx
    rcases List.mem_cons.1 hx with rfl | hx
    ·exact h.1
    ·exact ih ys h.2 x hx
 rcases h1 with ⟨_, rfl⟩ | ⟨ds, sp, rfl, ht2⟩
 ·exact ⟨by simp [few], by simp⟩
 ·refine ⟨?_, all ds xs ht2⟩
  rcases DataW.trod_slice ht k with ⟨_, hx⟩ | ⟨a, len, cap, elems, rest, m, _, _, hx, _, hb1, hb2, hl, _⟩
  ·cases hx
  ·have hx1 := congrArg Prod.fst hx
   simp only [DataW.slice.injEq] at hx1
   have := ht2.len
   rw [hx1.1] at this
   simp at this
   have hm : maxLen = 9223372036854775807 := by decide
   unfold few; omega
theorem bQ (d : DataW H) : 1 ≤ Rows.uptoBulk d := by
 cases d with
 | lit l => cases l <;> simp [Rows.uptoBulk]
 | _ => simp [Rows.uptoBulk]
theorem RdN.XR {P : Program} {t el : TypeId} {X : Type} {e : X → List AV} {ok : X → Prop} {w : X → Nat} (ht : P.underlying t = some (.slice el)) (hc : 0 < P.cellsOf el) (h : RdN enc P W n el e (fun d x => ok x ∧ w x ≤ Rows.uptoBulk d)) : RdN enc P W (n + 1) t (eSl e) (fun d xs => (few xs ∧ ∀ x ∈ xs, ok x) ∧ (xs.map w).sum + 1 ≤ Rows.uptoBulk d) := by
 intro cs d ps k
 obtain ⟨xs, h1, h2, h3⟩ := RdN.slice ht hc h cs d ps k
 refine ⟨xs, ?_, h2, h3⟩
 have all : ∀ (ds : List (DataW H)) (xs : List X), Two (fun d x => ok x ∧ w x ≤ Rows.uptoBulk d) ds xs → (∀ x ∈ xs, ok x) ∧ (xs.map w).sum ≤ Rows.uptoBulkAll ds := by
  intro ds
  induction ds with
  | nil => intro xs h; cases xs with
   | nil => simp [Rows.uptoBulkAll]
   | cons _ _ => exact h.elim
  | cons d ds ih => intro xs h; cases xs with
   | nil => simp
   | cons y ys =>
    have := ih ys h.2
    refine ⟨?_, ?_⟩
    ·intro x hx
     rcases List.mem_cons.1 hx with rfl | hx
     ·exact h.1.1
     ·exact this.1 x hx
    ·have a := h.1.2
     have b := this.2
     simp only [List.map_cons, List.sum_cons, Rows.uptoBulkAll]; omega
 rcases h1 with ⟨rfl, rfl⟩ | ⟨ds, sp, rfl, ht2⟩
 ·exact ⟨⟨by simp [few], by simp⟩, by simp [Rows.uptoBulk]⟩
 ·have hall := all ds xs ht2
  refine ⟨⟨?_, hall.1⟩, by simp only [Rows.uptoBulk]; omega⟩
  rcases DataW.trod_slice ht k with ⟨_, hx⟩ | ⟨a, len, cap, elems, rest, m, _, _, hx, _, hb1, hb2, hl, _⟩
  ·cases hx
  ·have hx1 := congrArg Prod.fst hx
   simp only [DataW.slice.injEq] at hx1
   have := ht2.len
   rw [hx1.1] at this
   simp at this
   have hm : maxLen = 9223372036854775807 := by decide
   unfold few; omega
theorem RdN.DM {P : Program} {t el : TypeId} {X : Type} {e : X → List AV} {ok : X → Prop} {w : X → Nat} (ht : P.underlying t = some (.slice el)) (hc : 0 < P.cellsOf el) (h : ∀ n, RdN enc P W n el e (fun d x => ok x ∧ w x ≤ Rows.uptoBulk d)) : RdN enc P W n t (eSl e) (fun d xs => (few xs ∧ ∀ x ∈ xs, ok x) ∧ (xs.map w).sum + 1 ≤ Rows.uptoBulk d) := by
 cases n with
 | zero => exact .zero
 | succ n => exact RdN.XR ht hc (h n)
theorem A6 : RdN enc Tryz.prog W n 3 (fun x : Int => [.int .i64 x]) (fun _ x => i64 x) := (RdN.int Tryz.underlying3).mono fun d x h => ⟨x, wf_i64 h.2, rfl⟩
theorem aFJ : RdN enc Tryz.prog W n 2 (fun x : Int => [.int .i64 x]) (fun _ x => i64 x) := (RdN.int Tryz.underlying2).mono fun d x h => ⟨x, wf_i64 h.2, rfl⟩
theorem rdBool : RdN enc Tryz.prog W n 4 (fun x : Bool => [.bool x]) (fun _ _ => True) := (RdN.bool Tryz.underlying4).mono fun d x h => ⟨x, trivial, rfl⟩
theorem pM : RdN enc Tryz.prog W n 9 (fun x : ByteArray => [.str x]) (fun d x => short x ∧ x.size + 1 ≤ Rows.uptoBulk d) := (RdN.str Tryz.underlying9).mono fun d x h => ⟨x, ⟨h.2, by rw [h.1]; simp [Rows.uptoBulk]⟩, rfl⟩
theorem nE : RdN enc Tryz.prog W n 22 (fun l : List ByteArray => [aE l]) (fun d l => (few l ∧ eA l) ∧ tw l + 1 ≤ Rows.uptoBulk d) := (RdN.DM Tryz.underlying22 (jJ (k := 0) (by kernel_rfl)) (fun n => pM)).mono fun d x h => ⟨x, ⟨h.1, h.2⟩, rfl⟩
theorem lU {X : Type} (f : X → Nat) (k : Nat) : ∀ l : List X, (l.map fun x => f x + k).sum = (l.map f).sum + k * l.length
 | [] => by simp
 | x :: r => by simp [lU f k r, Nat.mul_add]; omega
theorem aDq : RdN enc Tryz.prog W n 51 bV (fun d x => x.fit ∧ x.name.size + 3 ≤ Rows.uptoBulk d) := by
 cases n with
 | zero => exact .zero
 | succ n =>
  have h3 := cU.nil (enc := enc) (P := Tryz.prog) (W := W) (n := n) (total := 3)
  have h2 := cU.cons (f := { name := "Name", type := 9, offset := 2, embedded := false, tag := "", pkgPath := "", byteOffset := 16 }) rfl (by kernel_rfl) pM h3
  have h1 := cU.cons (f := { name := "Size", type := 3, offset := 1, embedded := false, tag := "", pkgPath := "", byteOffset := 8 }) rfl (by kernel_rfl) A6 h2
  have h0 := cU.cons (f := { name := "Kind", type := 3, offset := 0, embedded := false, tag := "", pkgPath := "", byteOffset := 0 }) rfl (by kernel_rfl) A6 h1
  refine (RdN.struct (enc := enc) (P := Tryz.prog) (W := W) (n := n) Tryz.underlying51 h0).mono ?_
  rintro d ⟨a, b, c, u⟩ ⟨ds, rfl, d0, _, rfl, k0, d1, _, rfl, k1, d2, _, rfl, ⟨k2, w2⟩, rfl⟩
  refine ⟨⟨a, b, c⟩, ⟨⟨k0, k1, k2⟩, ?_⟩, by simp [bV]⟩
  have p0 := bQ d0
  have p1 := bQ d1
  have p2 := bQ d2
  simp only [Rows.uptoBulk, Rows.uptoBulkAll, Nat.le_refl]
  try simp only [lU] at *
  omega
theorem zX : RdN enc Tryz.prog W n 53 (fun x : List ByteArray × List ByteArray => [aE x.1, aE x.2]) (fun d x => ((few x.1 ∧ eA x.1) ∧ few x.2 ∧ eA x.2) ∧ tw x.1 + tw x.2 + 2 ≤ Rows.uptoBulk d) := by
 cases n with
 | zero => exact .zero
 | succ n =>
  have h2 := cU.nil (enc := enc) (P := Tryz.prog) (W := W) (n := n) (total := 2)
  have h1 := cU.cons (f := { name := "Trail", type := 22, offset := 1, embedded := false, tag := "", pkgPath := "", byteOffset := 24 }) rfl (by kernel_rfl) nE h2
  have h0 := cU.cons (f := { name := "Before", type := 22, offset := 0, embedded := false, tag := "", pkgPath := "", byteOffset := 0 }) rfl (by kernel_rfl) nE h1
  refine (RdN.struct (enc := enc) (P := Tryz.prog) (W := W) (n := n) Tryz.underlying53 h0).mono ?_
  rintro d ⟨a, b, u⟩ ⟨ds, rfl, d0, _, rfl, ⟨k0, w0⟩, d1, _, rfl, ⟨k1, w1⟩, rfl⟩
  refine ⟨⟨a, b⟩, ⟨⟨k0, k1⟩, ?_⟩, by simp [aE]⟩
  have p0 := bQ d0
  have p1 := bQ d1
  simp only [Rows.uptoBulk, Rows.uptoBulkAll, Nat.le_refl]
  try simp only [lU] at *
  omega
theorem aA1 : RdN enc Tryz.prog W n 49 aO (fun d x => (x.ok ∧ x.fit) ∧ wE x ≤ Rows.uptoBulk d) := by
 induction n using Nat.strongRecOn with
 | _ n ih =>
 cases n with
 | zero => exact .zero
 | succ n =>
  have hr : RdN enc Tryz.prog W n 47 (eSl aO) (fun d xs => (few xs ∧ ∀ x ∈ xs, x.ok ∧ x.fit) ∧ (xs.map wE).sum + 1 ≤ Rows.uptoBulk d) := by
   cases n with
   | zero => exact .zero
   | succ n => exact RdN.XR Tryz.underlying47 (jJ (k := 4) (by kernel_rfl)) (ih n (by omega))
  have h5 := cU.nil (enc := enc) (P := Tryz.prog) (W := W) (n := n) (total := 5)
  have h4 := cU.cons (f := { name := "L", type := 47, offset := 4, embedded := false, tag := "", pkgPath := "", byteOffset := 48 }) rfl (by kernel_rfl) hr h5
  have h3 := cU.cons (f := { name := "Field", type := 9, offset := 3, embedded := false, tag := "", pkgPath := "", byteOffset := 32 }) rfl (by kernel_rfl) pM h4
  have h2 := cU.cons (f := { name := "Name", type := 9, offset := 2, embedded := false, tag := "", pkgPath := "", byteOffset := 16 }) rfl (by kernel_rfl) pM h3
  have h1 := cU.cons (f := { name := "N", type := 2, offset := 1, embedded := false, tag := "", pkgPath := "", byteOffset := 8 }) rfl (by kernel_rfl) aFJ h2
  have h0 := cU.cons (f := { name := "Op", type := 3, offset := 0, embedded := false, tag := "", pkgPath := "", byteOffset := 0 }) rfl (by kernel_rfl) A6 h1
  refine (RdN.struct (enc := enc) (P := Tryz.prog) (W := W) (n := n) Tryz.underlying49 h0).mono ?_
  rintro d ⟨a, b, c, d, e, u⟩ ⟨ds, rfl, d0, _, rfl, k0, d1, _, rfl, k1, d2, _, rfl, ⟨k2, w2⟩, d3, _, rfl, ⟨k3, w3⟩, d4, _, rfl, ⟨k4, w4⟩, rfl⟩
  refine ⟨⟨a, b, c, d, e⟩, ⟨⟨(Expr.cN _).2 ⟨k4.1, fun x hx => (k4.2 x hx).1⟩, (Expr.fD _).2 ⟨k0, k1, k2, k3, fun x hx => (k4.2 x hx).2⟩⟩, ?_⟩, by simp [cF, eSl]⟩
  have p0 := bQ d0
  have p1 := bQ d1
  have p2 := bQ d2
  have p3 := bQ d3
  have p4 := bQ d4
  simp only [Rows.uptoBulk, Rows.uptoBulkAll, OS, LI]
  try simp only [lU] at *
  omega
theorem aEj : RdN enc Tryz.prog W n 47 (eSl aO) (fun d xs => (few xs ∧ ∀ x ∈ xs, (x.ok ∧ x.fit)) ∧ (xs.map wE).sum + 1 ≤ Rows.uptoBulk d) := RdN.DM Tryz.underlying47 (jJ (k := 4) (by kernel_rfl)) (fun n => aA1)
theorem aE7 : RdN enc Tryz.prog W n 57 bA (fun d x => (x.ok ∧ x.fit) ∧ wS x ≤ Rows.uptoBulk d) := by
 induction n using Nat.strongRecOn with
 | _ n ih =>
 cases n with
 | zero => exact .zero
 | succ n =>
  have hr : RdN enc Tryz.prog W n 26 (eSl bA) (fun d xs => (few xs ∧ ∀ x ∈ xs, x.ok ∧ x.fit) ∧ (xs.map wS).sum + 1 ≤ Rows.uptoBulk d) := by
   cases n with
   | zero => exact .zero
   | succ n => exact RdN.XR Tryz.underlying26 (jJ (k := 15) (by kernel_rfl)) (ih n (by omega))
  have h11 := cU.nil (enc := enc) (P := Tryz.prog) (W := W) (n := n) (total := 16)
  have h10 := cU.cons (f := { name := "End2", type := 22, offset := 15, embedded := false, tag := "", pkgPath := "", byteOffset := 248 }) rfl (by kernel_rfl) nE h11
  have h9 := cU.cons (f := { name := "End", type := 22, offset := 14, embedded := false, tag := "", pkgPath := "", byteOffset := 224 }) rfl (by kernel_rfl) nE h10
  have h8 := cU.cons (f := { name := "Else", type := 26, offset := 13, embedded := false, tag := "", pkgPath := "", byteOffset := 200 }) rfl (by kernel_rfl) hr h9
  have h7 := cU.cons (f := { name := "Body", type := 26, offset := 12, embedded := false, tag := "", pkgPath := "", byteOffset := 176 }) rfl (by kernel_rfl) hr h8
  have h6 := cU.cons (f := { name := "More", type := 4, offset := 11, embedded := false, tag := "", pkgPath := "", byteOffset := 169 }) rfl (by kernel_rfl) rdBool h7
  have h5 := cU.cons (f := { name := "Down", type := 4, offset := 10, embedded := false, tag := "", pkgPath := "", byteOffset := 168 }) rfl (by kernel_rfl) rdBool h6
  have h4 := cU.cons (f := { name := "E", type := 47, offset := 9, embedded := false, tag := "", pkgPath := "", byteOffset := 144 }) rfl (by kernel_rfl) aEj h5
  have h3 := cU.cons (f := { name := "P", type := 49, offset := 4, embedded := false, tag := "", pkgPath := "", byteOffset := 72 }) rfl (by kernel_rfl) aA1 h4
  have h2 := cU.cons (f := { name := "Name", type := 9, offset := 3, embedded := false, tag := "", pkgPath := "", byteOffset := 56 }) rfl (by kernel_rfl) pM h3
  have h1 := cU.cons (f := { name := "Op", type := 3, offset := 2, embedded := false, tag := "", pkgPath := "", byteOffset := 48 }) rfl (by kernel_rfl) A6 h2
  have h0 := cU.cons (f := { name := "Marks", type := 53, offset := 0, embedded := true, tag := "", pkgPath := "", byteOffset := 0 }) rfl (by kernel_rfl) zX h1
  refine (RdN.struct (enc := enc) (P := Tryz.prog) (W := W) (n := n) Tryz.underlying57 h0).mono ?_
  rintro d ⟨⟨a1, a2⟩, b, c, d, e, f, g, i, j, k, l, u⟩ ⟨ds, rfl, d0, _, rfl, ⟨k0, w0⟩, d1, _, rfl, k1, d2, _, rfl, ⟨k2, w2⟩, d3, _, rfl, ⟨k3, w3⟩, d4, _, rfl, ⟨k4, w4⟩, d5, _, rfl, k5, d6, _, rfl, k6, d7, _, rfl, ⟨k7, w7⟩, d8, _, rfl, ⟨k8, w8⟩, d9, _, rfl, ⟨k9, w9⟩, d10, _, rfl, ⟨k10, w10⟩, rfl⟩
  refine ⟨⟨a1, a2, b, c, d, e, f, g, i, j, k, l⟩, ⟨⟨(Stmt.cN _).2 ⟨k0.1.1, k0.2.1, k3.1, k4.1, fun x hx => (k4.2 x hx).1, k7.1, fun x hx => (k7.2 x hx).1, k8.1, fun x hx => (k8.2 x hx).1, k9.1, k10.1⟩, (Stmt.fD _).2 ⟨k0.1.2, k0.2.2, k1, k2, k3.2, fun x hx => (k4.2 x hx).2, fun x hx => (k7.2 x hx).2, fun x hx => (k8.2 x hx).2, k9.2, k10.2⟩⟩, ?_⟩, by simp [dO, cF, eSl]⟩
  have p0 := bQ d0
  have p1 := bQ d1
  have p2 := bQ d2
  have p3 := bQ d3
  have p4 := bQ d4
  have p5 := bQ d5
  have p6 := bQ d6
  have p7 := bQ d7
  have p8 := bQ d8
  have p9 := bQ d9
  have p10 := bQ d10
  simp only [Rows.uptoBulk, Rows.uptoBulkAll, IY, LI, E5]
  try simp only [lU] at *
  omega
theorem WL : RdN enc Tryz.prog W n 26 (eSl bA) (fun d xs => (few xs ∧ ∀ x ∈ xs, (x.ok ∧ x.fit)) ∧ (xs.map wS).sum + 1 ≤ Rows.uptoBulk d) := RdN.DM Tryz.underlying26 (jJ (k := 15) (by kernel_rfl)) (fun n => aE7)
theorem aFK : RdN enc Tryz.prog W n 68 eFld (fun d x => (x.ok ∧ x.fit) ∧ (fun x => lF x + 1) x ≤ Rows.uptoBulk d) := by
 cases n with
 | zero => exact .zero
 | succ n =>
  have h3 := cU.nil (enc := enc) (P := Tryz.prog) (W := W) (n := n) (total := 4)
  have h2 := cU.cons (f := { name := "Kind", type := 3, offset := 3, embedded := false, tag := "", pkgPath := "", byteOffset := 64 }) rfl (by kernel_rfl) A6 h3
  have h1 := cU.cons (f := { name := "Name", type := 9, offset := 2, embedded := false, tag := "", pkgPath := "", byteOffset := 48 }) rfl (by kernel_rfl) pM h2
  have h0 := cU.cons (f := { name := "Marks", type := 53, offset := 0, embedded := true, tag := "", pkgPath := "", byteOffset := 0 }) rfl (by kernel_rfl) zX h1
  refine (RdN.struct (enc := enc) (P := Tryz.prog) (W := W) (n := n) Tryz.underlying68 h0).mono ?_
  rintro d ⟨⟨a1, a2⟩, b, c, u⟩ ⟨ds, rfl, d0, _, rfl, ⟨k0, w0⟩, d1, _, rfl, ⟨k1, w1⟩, d2, _, rfl, k2, rfl⟩
  refine ⟨⟨a1, a2, b, c⟩, ⟨⟨⟨k0.1.1, k0.2.1⟩, ⟨k0.1.2, k0.2.2, k1, k2⟩⟩, ?_⟩, by simp [eFld]⟩
  have p0 := bQ d0
  have p1 := bQ d1
  have p2 := bQ d2
  simp only [Rows.uptoBulk, Rows.uptoBulkAll, lF]
  try simp only [lU] at *
  omega
theorem aFa : RdN enc Tryz.prog W n 63 (eSl eFld) (fun d xs => (few xs ∧ ∀ x ∈ xs, (x.ok ∧ x.fit)) ∧ (xs.map (fun x => lF x + 1)).sum + 1 ≤ Rows.uptoBulk d) := RdN.DM Tryz.underlying63 (jJ (k := 3) (by kernel_rfl)) (fun n => aFK)
theorem aFH : RdN enc Tryz.prog W n 65 eB (fun d x => (x.ok ∧ x.fit) ∧ wO x ≤ Rows.uptoBulk d) := by
 cases n with
 | zero => exact .zero
 | succ n =>
  have h4 := cU.nil (enc := enc) (P := Tryz.prog) (W := W) (n := n) (total := 5)
  have h3 := cU.cons (f := { name := "End", type := 22, offset := 4, embedded := false, tag := "", pkgPath := "", byteOffset := 88 }) rfl (by kernel_rfl) nE h4
  have h2 := cU.cons (f := { name := "Fields", type := 63, offset := 3, embedded := false, tag := "", pkgPath := "", byteOffset := 64 }) rfl (by kernel_rfl) aFa h3
  have h1 := cU.cons (f := { name := "Name", type := 9, offset := 2, embedded := false, tag := "", pkgPath := "", byteOffset := 48 }) rfl (by kernel_rfl) pM h2
  have h0 := cU.cons (f := { name := "Marks", type := 53, offset := 0, embedded := true, tag := "", pkgPath := "", byteOffset := 0 }) rfl (by kernel_rfl) zX h1
  refine (RdN.struct (enc := enc) (P := Tryz.prog) (W := W) (n := n) Tryz.underlying65 h0).mono ?_
  rintro d ⟨⟨a1, a2⟩, b, c, d, u⟩ ⟨ds, rfl, d0, _, rfl, ⟨k0, w0⟩, d1, _, rfl, ⟨k1, w1⟩, d2, _, rfl, ⟨k2, w2⟩, d3, _, rfl, ⟨k3, w3⟩, rfl⟩
  refine ⟨⟨a1, a2, b, c, d⟩, ⟨⟨⟨k0.1.1, k0.2.1, k2.1, fun x hx => (k2.2 x hx).1, k3.1⟩, ⟨k0.1.2, k0.2.2, k1, fun x hx => (k2.2 x hx).2, k3.2⟩⟩, ?_⟩, by simp [eB, eSl]⟩
  have p0 := bQ d0
  have p1 := bQ d1
  have p2 := bQ d2
  have p3 := bQ d3
  simp only [Rows.uptoBulk, Rows.uptoBulkAll, wO, aFj]
  try simp only [lU] at *
  omega
theorem aE8 : RdN enc Tryz.prog W n 23 (eSl eB) (fun d xs => (few xs ∧ ∀ x ∈ xs, (x.ok ∧ x.fit)) ∧ (xs.map wO).sum + 1 ≤ Rows.uptoBulk d) := RdN.DM Tryz.underlying23 (jJ (k := 4) (by kernel_rfl)) (fun n => aFH)
theorem aFG : RdN enc Tryz.prog W n 55 dF (fun d x => (x.ok ∧ x.fit) ∧ (fun x => lV x + 2) x ≤ Rows.uptoBulk d) := by
 cases n with
 | zero => exact .zero
 | succ n =>
  have h3 := cU.nil (enc := enc) (P := Tryz.prog) (W := W) (n := n) (total := 6)
  have h2 := cU.cons (f := { name := "T", type := 51, offset := 3, embedded := false, tag := "", pkgPath := "", byteOffset := 64 }) rfl (by kernel_rfl) aDq h3
  have h1 := cU.cons (f := { name := "Name", type := 9, offset := 2, embedded := false, tag := "", pkgPath := "", byteOffset := 48 }) rfl (by kernel_rfl) pM h2
  have h0 := cU.cons (f := { name := "Marks", type := 53, offset := 0, embedded := true, tag := "", pkgPath := "", byteOffset := 0 }) rfl (by kernel_rfl) zX h1
  refine (RdN.struct (enc := enc) (P := Tryz.prog) (W := W) (n := n) Tryz.underlying55 h0).mono ?_
  rintro d ⟨⟨a1, a2⟩, b, c, u⟩ ⟨ds, rfl, d0, _, rfl, ⟨k0, w0⟩, d1, _, rfl, ⟨k1, w1⟩, d2, _, rfl, ⟨k2, w2⟩, rfl⟩
  refine ⟨⟨a1, a2, b, c⟩, ⟨⟨⟨k0.1.1, k0.2.1⟩, ⟨k0.1.2, k0.2.2, k1, k2⟩⟩, ?_⟩, by simp [dF, bV]⟩
  have p0 := bQ d0
  have p1 := bQ d1
  have p2 := bQ d2
  simp only [Rows.uptoBulk, Rows.uptoBulkAll, lV]
  try simp only [lU] at *
  omega
theorem aAZ : RdN enc Tryz.prog W n 24 (eSl dF) (fun d xs => (few xs ∧ ∀ x ∈ xs, (x.ok ∧ x.fit)) ∧ (xs.map (fun x => lV x + 2)).sum + 1 ≤ Rows.uptoBulk d) := RdN.DM Tryz.underlying24 (jJ (k := 5) (by kernel_rfl)) (fun n => aFG)
theorem aEi : RdN enc Tryz.prog W n 170 c7 (fun d x => (True ∧ x.fit) ∧ lP x + 2 ≤ Rows.uptoBulk d) := by
 cases n with
 | zero => exact .zero
 | succ n =>
  have h3 := cU.nil (enc := enc) (P := Tryz.prog) (W := W) (n := n) (total := 5)
  have h2 := cU.cons (f := { name := "Mode", type := 3, offset := 4, embedded := false, tag := "", pkgPath := "", byteOffset := 48 }) rfl (by kernel_rfl) A6 h3
  have h1 := cU.cons (f := { name := "T", type := 51, offset := 1, embedded := false, tag := "", pkgPath := "", byteOffset := 16 }) rfl (by kernel_rfl) aDq h2
  have h0 := cU.cons (f := { name := "Name", type := 9, offset := 0, embedded := false, tag := "", pkgPath := "", byteOffset := 0 }) rfl (by kernel_rfl) pM h1
  refine (RdN.struct (enc := enc) (P := Tryz.prog) (W := W) (n := n) Tryz.underlying170 h0).mono ?_
  rintro d ⟨a, b, c, u⟩ ⟨ds, rfl, d0, _, rfl, ⟨k0, w0⟩, d1, _, rfl, ⟨k1, w1⟩, d2, _, rfl, k2, rfl⟩
  refine ⟨⟨a, b, c⟩, ⟨⟨trivial, ⟨k0, k1, k2⟩⟩, ?_⟩, by simp [c7, bV]⟩
  have p0 := bQ d0
  have p1 := bQ d1
  have p2 := bQ d2
  simp only [Rows.uptoBulk, Rows.uptoBulkAll, lP]
  try simp only [lU] at *
  omega
theorem aCt : RdN enc Tryz.prog W n 112 (eSl c7) (fun d xs => (few xs ∧ ∀ x ∈ xs, (True ∧ x.fit)) ∧ (xs.map (fun x => lP x + 2)).sum + 1 ≤ Rows.uptoBulk d) := RdN.DM Tryz.underlying112 (jJ (k := 4) (by kernel_rfl)) (fun n => aEi)
theorem aA0 : RdN enc Tryz.prog W n 114 aU (fun d x => (x.ok ∧ x.fit) ∧ wR x ≤ Rows.uptoBulk d) := by
 induction n using Nat.strongRecOn with
 | _ n ih =>
 cases n with
 | zero => exact .zero
 | succ n =>
  have hr : RdN enc Tryz.prog W n 25 (eSl aU) (fun d xs => (few xs ∧ ∀ x ∈ xs, x.ok ∧ x.fit) ∧ (xs.map wR).sum + 1 ≤ Rows.uptoBulk d) := by
   cases n with
   | zero => exact .zero
   | succ n => exact RdN.XR Tryz.underlying25 (jJ (k := 8) (by kernel_rfl)) (ih n (by omega))
  have h8 := cU.nil (enc := enc) (P := Tryz.prog) (W := W) (n := n) (total := 9)
  have h7 := cU.cons (f := { name := "End", type := 22, offset := 8, embedded := false, tag := "", pkgPath := "", byteOffset := 168 }) rfl (by kernel_rfl) nE h8
  have h6 := cU.cons (f := { name := "Body", type := 26, offset := 7, embedded := false, tag := "", pkgPath := "", byteOffset := 144 }) rfl (by kernel_rfl) WL h7
  have h5 := cU.cons (f := { name := "Inner", type := 25, offset := 6, embedded := false, tag := "", pkgPath := "", byteOffset := 120 }) rfl (by kernel_rfl) hr h6
  have h4 := cU.cons (f := { name := "Vars", type := 24, offset := 5, embedded := false, tag := "", pkgPath := "", byteOffset := 96 }) rfl (by kernel_rfl) aAZ h5
  have h3 := cU.cons (f := { name := "Params", type := 112, offset := 4, embedded := false, tag := "", pkgPath := "", byteOffset := 72 }) rfl (by kernel_rfl) aCt h4
  have h2 := cU.cons (f := { name := "Result", type := 3, offset := 3, embedded := false, tag := "", pkgPath := "", byteOffset := 64 }) rfl (by kernel_rfl) A6 h3
  have h1 := cU.cons (f := { name := "Name", type := 9, offset := 2, embedded := false, tag := "", pkgPath := "", byteOffset := 48 }) rfl (by kernel_rfl) pM h2
  have h0 := cU.cons (f := { name := "Marks", type := 53, offset := 0, embedded := true, tag := "", pkgPath := "", byteOffset := 0 }) rfl (by kernel_rfl) zX h1
  refine (RdN.struct (enc := enc) (P := Tryz.prog) (W := W) (n := n) Tryz.underlying114 h0).mono ?_
  rintro d ⟨⟨a1, a2⟩, b, c, d, e, f, g, i, u⟩ ⟨ds, rfl, d0, _, rfl, ⟨k0, w0⟩, d1, _, rfl, ⟨k1, w1⟩, d2, _, rfl, k2, d3, _, rfl, ⟨k3, w3⟩, d4, _, rfl, ⟨k4, w4⟩, d5, _, rfl, ⟨k5, w5⟩, d6, _, rfl, ⟨k6, w6⟩, d7, _, rfl, ⟨k7, w7⟩, rfl⟩
  refine ⟨⟨a1, a2, b, c, d, e, f, g, i⟩, ⟨⟨(Routine.cN _).2 ⟨k0.1.1, k0.2.1, k3.1, k4.1, fun x hx => (k4.2 x hx).1, k5.1, fun x hx => (k5.2 x hx).1, k6.1, fun x hx => (k6.2 x hx).1, k7.1⟩, (Routine.fD _).2 ⟨k0.1.2, k0.2.2, k1, k2, fun x hx => (k3.2 x hx).2, fun x hx => (k4.2 x hx).2, fun x hx => (k5.2 x hx).2, fun x hx => (k6.2 x hx).2, k7.2⟩⟩, ?_⟩, by simp [dX, eSl]⟩
  have p0 := bQ d0
  have p1 := bQ d1
  have p2 := bQ d2
  have p3 := bQ d3
  have p4 := bQ d4
  have p5 := bQ d5
  have p6 := bQ d6
  have p7 := bQ d7
  simp only [Rows.uptoBulk, Rows.uptoBulkAll, IZ, LH, E5]
  try simp only [lU] at *
  omega
theorem YF : RdN enc Tryz.prog W n 25 (eSl aU) (fun d xs => (few xs ∧ ∀ x ∈ xs, (x.ok ∧ x.fit)) ∧ (xs.map wR).sum + 1 ≤ Rows.uptoBulk d) := RdN.DM Tryz.underlying25 (jJ (k := 8) (by kernel_rfl)) (fun n => aA0)
theorem aFI : RdN enc Tryz.prog W n 28 fJ (fun d x => (x.ok ∧ x.fit) ∧ wP x ≤ Rows.uptoBulk d) := by
 cases n with
 | zero => exact .zero
 | succ n =>
  have h9 := cU.nil (enc := enc) (P := Tryz.prog) (W := W) (n := n) (total := 9)
  have h8 := cU.cons (f := { name := "End", type := 22, offset := 8, embedded := false, tag := "", pkgPath := "", byteOffset := 184 }) rfl (by kernel_rfl) nE h9
  have h7 := cU.cons (f := { name := "Body", type := 26, offset := 7, embedded := false, tag := "", pkgPath := "", byteOffset := 160 }) rfl (by kernel_rfl) WL h8
  have h6 := cU.cons (f := { name := "Routines", type := 25, offset := 6, embedded := false, tag := "", pkgPath := "", byteOffset := 136 }) rfl (by kernel_rfl) YF h7
  have h5 := cU.cons (f := { name := "Vars", type := 24, offset := 5, embedded := false, tag := "", pkgPath := "", byteOffset := 112 }) rfl (by kernel_rfl) aAZ h6
  have h4 := cU.cons (f := { name := "Recs", type := 23, offset := 4, embedded := false, tag := "", pkgPath := "", byteOffset := 88 }) rfl (by kernel_rfl) aE8 h5
  have h3 := cU.cons (f := { name := "After", type := 22, offset := 3, embedded := false, tag := "", pkgPath := "", byteOffset := 64 }) rfl (by kernel_rfl) nE h4
  have h2 := cU.cons (f := { name := "Mid", type := 22, offset := 2, embedded := false, tag := "", pkgPath := "", byteOffset := 40 }) rfl (by kernel_rfl) nE h3
  have h1 := cU.cons (f := { name := "Before", type := 22, offset := 1, embedded := false, tag := "", pkgPath := "", byteOffset := 16 }) rfl (by kernel_rfl) nE h2
  have h0 := cU.cons (f := { name := "Name", type := 9, offset := 0, embedded := false, tag := "", pkgPath := "", byteOffset := 0 }) rfl (by kernel_rfl) pM h1
  refine (RdN.struct (enc := enc) (P := Tryz.prog) (W := W) (n := n) Tryz.underlying28 h0).mono ?_
  rintro d ⟨a, b, c, d, e, f, g, i, j, u⟩ ⟨ds, rfl, d0, _, rfl, ⟨k0, w0⟩, d1, _, rfl, ⟨k1, w1⟩, d2, _, rfl, ⟨k2, w2⟩, d3, _, rfl, ⟨k3, w3⟩, d4, _, rfl, ⟨k4, w4⟩, d5, _, rfl, ⟨k5, w5⟩, d6, _, rfl, ⟨k6, w6⟩, d7, _, rfl, ⟨k7, w7⟩, d8, _, rfl, ⟨k8, w8⟩, rfl⟩
  refine ⟨⟨a, b, c, d, e, f, g, i, j⟩, ⟨⟨⟨k1.1, k2.1, k3.1, k4.1, fun x hx => (k4.2 x hx).1, k5.1, fun x hx => (k5.2 x hx).1, k6.1, fun x hx => (k6.2 x hx).1, k7.1, fun x hx => (k7.2 x hx).1, k8.1⟩, ⟨k0, k1.2, k2.2, k3.2, fun x hx => (k4.2 x hx).2, fun x hx => (k5.2 x hx).2, fun x hx => (k6.2 x hx).2, fun x hx => (k7.2 x hx).2, k8.2⟩⟩, ?_⟩, by simp [gY, eSl]⟩
  have p0 := bQ d0
  have p1 := bQ d1
  have p2 := bQ d2
  have p3 := bQ d3
  have p4 := bQ d4
  have p5 := bQ d5
  have p6 := bQ d6
  have p7 := bQ d7
  have p8 := bQ d8
  simp only [Rows.uptoBulk, Rows.uptoBulkAll, wP, qX, LH, E5]
  try simp only [lU] at *
  omega
end
end Go.Proofs.YtdfbkddelhbgmaaGreatDoor
