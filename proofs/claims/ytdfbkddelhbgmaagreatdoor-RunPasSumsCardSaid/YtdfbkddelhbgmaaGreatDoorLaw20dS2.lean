import Derived.Test.YtdfbkddelhbgmaaGreatDoorTreeSS2
import Derived.Test.YtdfbkddelhbgmaaGreatDoorLaw20bS2
namespace Pg
open Go Tc Rf
set_option linter.all false
set_option maxHeartbeats 4000000
set_option maxRecDepth 4000
abbrev xE : Expr := ⟨4, 0, ⟨#[120]⟩, noBytes, []⟩
abbrev yE : Expr := ⟨4, 0, ⟨#[121]⟩, noBytes, []⟩
abbrev wrS (op : Int) : Stmt := ⟨[], [], 8, noBytes, noE, [⟨op, 0, noBytes, noBytes, [xE, yE]⟩], false, false, [], [], [], []⟩
abbrev rdS (e : Expr) : Stmt := ⟨[], [], 7, noBytes, e, [], false, false, [], [], [], []⟩
def exS : Prg := ⟨⟨#[112]⟩, [], [], [], [], [⟨[], [], ⟨#[120]⟩, ⟨1, 0, noBytes⟩⟩, ⟨[], [], ⟨#[121]⟩, ⟨1, 0, noBytes⟩⟩], [], [rdS xE, rdS yE, wrS 15, wrS 16, wrS 10, wrS 11, wrS 12], []⟩
theorem exS_check : (check exS).2 = 0 := by decide +kernel
theorem exS_t : tPrg exS = true := by decide +kernel
theorem exS_ok : exS.ok := by
 constructor <;> simp [exS, Expr.ok, Exprs.ok, Stmt.ok, Stmts.ok, Routines.ok, Pg.few]
 exact ⟨⟨by simp [Pg.few], by simp [Pg.few]⟩, by simp [Pg.few], by simp [Pg.few]⟩
abbrev nS : Nat := bigN (1 + wtRs exS.routines) exS
theorem exS_zero (a : Int) : (runP nS exS [a, 0] 100).code = 19 ∧ (runP nS exS [a, 0] 100).out = [wr (a + 0), wr (a - 0), wr (a * 0)] ∧ (runP nS exS [a, 0] 100).steps = 6 := by
 refine ⟨?_, ?_, ?_⟩ <;> kernel_rfl
theorem exS_pos (a : Int) (n : Nat) : (runP nS exS [a, Int.ofNat (n + 1)] 100).code = 0 ∧ (runP nS exS [a, Int.ofNat (n + 1)] 100).out = [wr (a + Int.ofNat (n + 1)), wr (a - Int.ofNat (n + 1)), wr (a * Int.ofNat (n + 1)), wr (a.tdiv (Int.ofNat (n + 1))), a.tmod (Int.ofNat (n + 1))] ∧ (runP nS exS [a, Int.ofNat (n + 1)] 100).steps = 7 := by
 refine ⟨?_, ?_, ?_⟩ <;> kernel_rfl
theorem exS_neg (a : Int) (n : Nat) : (runP nS exS [a, Int.negSucc n] 100).code = 0 ∧ (runP nS exS [a, Int.negSucc n] 100).out = [wr (a + Int.negSucc n), wr (a - Int.negSucc n), wr (a * Int.negSucc n), wr (a.tdiv (Int.negSucc n)), a.tmod (Int.negSucc n)] ∧ (runP nS exS [a, Int.negSucc n] 100).steps = 7 := by
 refine ⟨?_, ?_, ?_⟩ <;> kernel_rfl
theorem exS_run (a b : Int) : (b = 0 → (runP nS exS [a, b] 100).code = 19 ∧ (runP nS exS [a, b] 100).out = [wr (a + 0), wr (a - 0), wr (a * 0)] ∧ (runP nS exS [a, b] 100).steps = 6) ∧
  (b ≠ 0 → (runP nS exS [a, b] 100).code = 0 ∧ (runP nS exS [a, b] 100).out = [wr (a + b), wr (a - b), wr (a * b), wr (a.tdiv b), a.tmod b] ∧ (runP nS exS [a, b] 100).steps = 7) := by
 refine ⟨fun h => ?_, fun h => ?_⟩
 ·rw [h]; exact exS_zero a
 ·match b, h with
  | .ofNat 0, h => exact absurd rfl h
  | .ofNat (n + 1), _ => exact exS_pos a n
  | .negSucc n, _ => exact exS_neg a n
theorem write20_spec [GI] (h : AHeap) (op : Int) (x y : List AV) (hx : x.length = 5) (hy : y.length = 5) : ACalls Go.Proofs.Tryz.prog 18 [.int .i64 op, .agg x, .agg y] h (fun v g => v = .agg [.sl [] true, .sl [] true, .int .i64 8, .str noBytes, .int .i64 0, .int .i64 0, .str noBytes, .str noBytes, .sl [] true, .sl [[.int .i64 op, .int .i64 0, .str noBytes, .str noBytes, .sl [x, y] true]] true, .bool false, .bool false, .sl [] true, .sl [] true, .sl [] true, .sl [] true] ∧ g = h) := by
 match x, hx, y, hy with
 | [x0, x1, x2, x3, x4], _, [y0, y1, y2, y3, y4], _ =>
 refine F18.calls (by simp) ?_
 delta F18.c0
 simp only [go_sem,seval]
 refine afreshT_intro fun p hp => ?_
 simp only [go_sem,seval, upd_same, upd_upd]
 exact .forget (AHeap.le_upd hp) ⟨rfl, rfl⟩
theorem AVle.rows7 {a b c d e f g a' b' c' d' e' f' g' : List AV} {fl : Bool} (h1 : a.length = a'.length) (h2 : b.length = b'.length) (h3 : c.length = c'.length) (h4 : d.length = d'.length) (h5 : e.length = e'.length) (h6 : f.length = f'.length) (h7 : g.length = g'.length)
  (l1 : AVles a a') (l2 : AVles b b') (l3 : AVles c c') (l4 : AVles d d') (l5 : AVles e e') (l6 : AVles f f') (l7 : AVles g g') : AVle (.sl [a, b, c, d, e, f, g] fl) (.sl [a', b', c', d', e', f', g'] false) := by
 refine AVle.rows rfl fun i x y e1 e2 => ?_
 match i with
 | 0 => simp at e1 e2; subst e1 e2; exact ⟨h1, l1⟩
 | 1 => simp at e1 e2; subst e1 e2; exact ⟨h2, l2⟩
 | 2 => simp at e1 e2; subst e1 e2; exact ⟨h3, l3⟩
 | 3 => simp at e1 e2; subst e1 e2; exact ⟨h4, l4⟩
 | 4 => simp at e1 e2; subst e1 e2; exact ⟨h5, l5⟩
 | 5 => simp at e1 e2; subst e1 e2; exact ⟨h6, l6⟩
 | 6 => simp at e1 e2; subst e1 e2; exact ⟨h7, l7⟩
 | n + 7 => simp at e1
theorem Sums_spec [GI] (hm : Spc0) (h : AHeap) (a : Int) (ha : i64 a) (b : Int) (hb : i64 b) : ACalls Go.Proofs.Tryz.prog 6 [.int .i64 a, .int .i64 b] h (fun v g => v = .bool true ∧ g = h) := by
 have hw1 := wrap_one
 have R := fun k => run20_spec hm k exS exS_ok exS_t [a, b] (by simp [Pg.few]) true 100
 simp only [exS_check, if_true, List.map_cons, List.map_nil] at R
 refine F6.calls (by simp) ?_
 delta F6.c0
 simp only [go_sem,seval]
 refine afreshT_intro fun b1 hb1 => ?_
 simp only [go_sem,seval]
 refine afreshT_intro fun b2 hb2 => ?_
 have hne : b2 ≠ b1 := by rintro rfl; rw [upd_same] at hb2; cases hb2
 have hb2' : h b2 = none := by rwa [upd_ne _ _ _ hne] at hb2
 simp only [go_sem,seval, upd_ne _ _ _ hne, upd_ne _ _ _ hne.symm, upd_same]
 obtain ⟨k, hk⟩ : ∃ k, k = ((((h.upd b1 (AObj.blk [AV.int IntKind.i64 0, AV.int IntKind.i64 0, AV.str noBytes, AV.str noBytes, AV.sl [] true] 5 49)).upd b2 (AObj.blk [AV.int IntKind.i64 0, AV.int IntKind.i64 0, AV.str noBytes, AV.str noBytes, AV.sl [] true] 5 49)).upd b1 (AObj.blk [AV.int IntKind.i64 4, AV.int IntKind.i64 0, AV.str ⟨#[120]⟩, AV.str noBytes, AV.sl [] true] 5 49)).upd b2 (AObj.blk [AV.int IntKind.i64 4, AV.int IntKind.i64 0, AV.str ⟨#[121]⟩, AV.str noBytes, AV.sl [] true] 5 49)) := ⟨_, rfl⟩
 have k1 : k b1 = some (.blk [AV.int IntKind.i64 4, AV.int IntKind.i64 0, AV.str ⟨#[120]⟩, AV.str noBytes, AV.sl [] true] 5 49) := by rw [hk, upd_ne _ _ _ hne.symm, upd_same]
 have k2 : k b2 = some (.blk [AV.int IntKind.i64 4, AV.int IntKind.i64 0, AV.str ⟨#[121]⟩, AV.str noBytes, AV.sl [] true] 5 49) := by rw [hk, upd_same]
 have hle : h.le k := by
  intro c o e
  have h1 : c ≠ b1 := by rintro rfl; rw [hb1] at e; cases e
  have h2 : c ≠ b2 := by rintro rfl; rw [hb2'] at e; cases e
  rw [hk, upd_ne _ _ _ h2, upd_ne _ _ _ h1, upd_ne _ _ _ h2, upd_ne _ _ _ h1]; exact e
 rw [← hk]
 clear hk hb2
 refine tcE (write20_spec k 15 [.int .i64 4, .int .i64 0, .str ⟨#[120]⟩, .str ⟨#[]⟩, .sl [] true] [.int .i64 4, .int .i64 0, .str ⟨#[121]⟩, .str ⟨#[]⟩, .sl [] true] rfl rfl) ?_
 simp only [go_sem,seval, k1, k2]
 refine tcE (write20_spec k 16 [.int .i64 4, .int .i64 0, .str ⟨#[120]⟩, .str ⟨#[]⟩, .sl [] true] [.int .i64 4, .int .i64 0, .str ⟨#[121]⟩, .str ⟨#[]⟩, .sl [] true] rfl rfl) ?_
 simp only [go_sem,seval, k1, k2]
 refine tcE (write20_spec k 10 [.int .i64 4, .int .i64 0, .str ⟨#[120]⟩, .str ⟨#[]⟩, .sl [] true] [.int .i64 4, .int .i64 0, .str ⟨#[121]⟩, .str ⟨#[]⟩, .sl [] true] rfl rfl) ?_
 simp only [go_sem,seval, k1, k2]
 refine tcE (write20_spec k 11 [.int .i64 4, .int .i64 0, .str ⟨#[120]⟩, .str ⟨#[]⟩, .sl [] true] [.int .i64 4, .int .i64 0, .str ⟨#[121]⟩, .str ⟨#[]⟩, .sl [] true] rfl rfl) ?_
 simp only [go_sem,seval, k1, k2]
 refine tcE (write20_spec k 12 [.int .i64 4, .int .i64 0, .str ⟨#[120]⟩, .str ⟨#[]⟩, .sl [] true] [.int .i64 4, .int .i64 0, .str ⟨#[121]⟩, .str ⟨#[]⟩, .sl [] true] rfl rfl) ?_
 simp only [go_sem,seval, k1, k2]
 refine afreshT_intro fun b3 hb3 => ?_
 have h31 : b1 ≠ b3 := by rintro rfl; rw [k1] at hb3; cases hb3
 have h32 : b2 ≠ b3 := by rintro rfl; rw [k2] at hb3; cases hb3
 simp only [go_sem,seval, upd_upd, upd_same, upd_ne _ _ _ h31, upd_ne _ _ _ h32, k1, k2]
 rw [del_upd _ _ _ hb3]
 refine callT_le (R k) (.cons (.agg ?_) (.cons (.refl _) (.cons (.refl _) .nil))) (fun v g ⟨hv, hg⟩ => ?_)
 ·simp only [exS, ePrg, eStmts, eStmt, eExpr, eExprs, eVar, eTexts, eRoutines, List.map_cons, List.map_nil, List.cons_append, List.nil_append]
  repeat' (first | exact AVles.nil | exact AVle.refl _ | exact AVle.sl _ _ | refine AVles.cons ?_ ?_ | refine AVle.row1 rfl ?_ | refine AVle.row2 rfl ?_ rfl ?_ | refine AVle.rows7 rfl rfl rfl rfl rfl rfl rfl ?_ ?_ ?_ ?_ ?_ ?_ ?_)
 subst hv hg
 simp only [go_sem,seval]
 have F := exS_run a b
 simp only [nS] at F
 generalize (runP (bigN (1 + wtRs exS.routines) exS) exS [a, b] 100).code = c at F ⊢
 generalize (runP (bigN (1 + wtRs exS.routines) exS) exS [a, b] 100).out = o at F ⊢
 generalize (runP (bigN (1 + wtRs exS.routines) exS) exS [a, b] 100).steps = s at F ⊢
 by_cases hb0 : b = 0
 ·obtain ⟨rfl, rfl, rfl⟩ := F.1 hb0
  have w1 : wr (a + 0) = a := by rw [Int.add_zero]; exact wrap64 ha.1 ha.2
  have w2 : wr (a - 0) = a := by rw [Int.sub_zero]; exact wrap64 ha.1 ha.2
  have w3 : wr (a * 0) = 0 := by rw [Int.mul_zero]; rfl
  have S := sameO_spec g 19 [a, a, 0] 6 false true (by simp [Pg.few])
  simp only [List.map_cons, List.map_nil] at S
  simp only [go_sem,seval, hb0, w1, w2, w3]
  refine tcE (S) ?_
  simp only [go_sem,seval]
  refine tcE (awake20_spec hm g) ?_
  simp only [go_sem,seval]
  exact .forget hle ⟨rfl, rfl⟩
 ·obtain ⟨rfl, rfl, rfl⟩ := F.2 hb0
  have S := sameO_spec g 0 [wr (a + b), wr (a - b), wr (a * b), wr (a.tdiv b), a.tmod b] 7 false true (by simp [Pg.few])
  simp only [List.map_cons, List.map_nil] at S
  simp only [go_sem,seval, hb0]
  refine tcE (S) ?_
  simp only [go_sem,seval]
  refine tcE (awake20_spec hm g) ?_
  simp only [go_sem,seval]
  exact .forget hle ⟨rfl, rfl⟩
