import Derived.Test.YtpebidcmkjjpnaaGreatTreeS
import Derived.Test.YtpebidcmkjjpnaaGreatCodeI
import Derived.Test.YtpebidcmkjjpnaaGreatCapLaw
import Derived.Test.YtpebidcmkjjpnaaGreatR12Law
import Derived.Test.YtpebidcmkjjpnaaGreatNmX
import Derived.Test.YtpebidcmkjjpnaaGreatAwake
namespace Pg
open Go
set_option linter.unusedSimpArgs false
set_option linter.unusedVariables false
set_option maxHeartbeats 4000000
set_option maxRecDepth 4000
theorem AVle.rows {es es' : List (List AV)} {f : Bool} (hl : es.length = es'.length) (h : ∀ (i : Nat) e e', es[i]? = some e → es'[i]? = some e' → e.length = e'.length ∧ AVles e e') : AVle (.sl es f) (.sl es' false) := by
  intro I v r
  obtain ⟨a, cap, rfl, h1, h2, h3, h4, h5⟩ := r.inv_sl
  rcases h5 with h5 | ⟨b, o, size, vss, rfl, R⟩
  · subst h5
    have : es' = [] := by simpa using hl.symm
    subst this
    exact r.sl_open
  · have get : ∀ (i : Nat) e', es'[i]? = some e' → ∃ e, es[i]? = some e := fun i e' e1 => ⟨_, List.getElem?_eq_getElem (by
      rw [hl]
      rcases Nat.lt_or_ge i es'.length with h | h
      · exact h
      · rw [List.getElem?_eq_none h] at e1; cases e1)⟩
    rw [hl] at h1 ⊢
    refine Rd.of_rows (es := es') (vss := vss) false h1 (fun h => by cases h) ⟨by rw [← R.len]; exact hl.symm, ?_, fun i vs j v e1 e2 => R.mem i vs j v e1 e2, R.one, ?_⟩
    · intro i e' vs e1 e2
      obtain ⟨e, he⟩ := get i e' e1
      have := R.size_ i e vs he e2
      exact ⟨by rw [← (h i e e' he e1).1]; exact this.1, this.2⟩
    · intro i e' vs j c v e1 e2 e3 e4
      obtain ⟨e, he⟩ := get i e' e1
      have hs := R.size_ i e vs he e2
      exact ((h i e e' he e1).2 I vs ⟨by rw [hs.1, hs.2], fun j c v e3 e4 => R.rd i e vs j c v he e2 e3 e4⟩).at_ j c v e3 e4
theorem AVle.row1 {x y : List AV} {f : Bool} (hl : x.length = y.length) (h : AVles x y) : AVle (.sl [x] f) (.sl [y] false) := by
  refine AVle.rows rfl fun i e e' h1 h2 => ?_
  cases i with
  | zero => simp at h1 h2; subst h1 h2; exact ⟨hl, h⟩
  | succ i => simp at h1
theorem AVle.row2 {x y x' y' : List AV} {f : Bool} (hl : x.length = y.length) (h : AVles x y) (hl' : x'.length = y'.length) (h' : AVles x' y') : AVle (.sl [x, x'] f) (.sl [y, y'] false) := by
  refine AVle.rows rfl fun i e e' h1 h2 => ?_
  match i with
  | 0 => simp at h1 h2; subst h1 h2; exact ⟨hl, h⟩
  | 1 => simp at h1 h2; subst h1 h2; exact ⟨hl', h'⟩
  | i + 2 => simp at h1
def noExpr : Expr := ⟨0, 0, noBytes, noBytes, []⟩
def stCall (name : ByteArray) : Stmt := ⟨[], [], 2, noBytes, noExpr, [⟨7, 0, name, noBytes, []⟩], false, false, [], [], [], []⟩
def stWrite (v : ByteArray) : Stmt := ⟨[], [], 8, noBytes, noExpr, [⟨4, 0, v, noBytes, []⟩], false, false, [], [], [], []⟩
def rWrites (name v : ByteArray) : Routine := ⟨[], [], name, 0, [], [], [], [stWrite v], []⟩
def rH : Routine := ⟨[], [], ⟨#[104]⟩, 0, [], [], [], [stCall ⟨#[103]⟩], []⟩
def rF : Routine := ⟨[], [], ⟨#[102]⟩, 0, [], [⟨[], [], ⟨#[120]⟩, ⟨1, 0, noBytes⟩⟩], [rWrites ⟨#[103]⟩ ⟨#[120]⟩, rH], [stCall ⟨#[104]⟩], []⟩
def exC : Prg := ⟨⟨#[112]⟩, [], [], [], [], [], [rF], [], []⟩
theorem calls_spec (h : AHeap) (name : ByteArray) : ACalls Go.Proofs.Tryz.prog 16 [.str name] h (fun v g => v = .sl ([stCall name].map eStmt) false ∧ g = h) := by
  refine F16.calls (by simp) ?_
  delta F16.c0
  simp -implicitDefEqProofs only [↓pgPre,go_sem,seval]
  refine EndW.less (AVle.row1 (y := eStmt (stCall name)) rfl ?_) (AHeap.le_refl _) ⟨rfl, rfl⟩
  rw [eStmt_eq]
  simp only [stCall, noExpr]
  repeat' (first | exact AVles.nil | refine AVles.cons ?_ ?_)
  all_goals first | exact .refl _ | exact AVle.sl _ _ | refine AVle.row1 rfl ?_
  rw [eExpr_eq]
  repeat' (first | exact AVles.nil | refine AVles.cons ?_ ?_)
  all_goals first | exact .refl _ | exact AVle.sl _ _
theorem writes_spec (h : AHeap) (name v : ByteArray) : ACalls Go.Proofs.Tryz.prog 17 [.str name, .str v] h (fun w g => w = .agg (eRoutine (rWrites name v)) ∧ g = h) := by
  refine F17.calls (by simp) ?_
  delta F17.c0
  simp -implicitDefEqProofs only [↓pgPre,go_sem,seval]
  refine afreshT_intro fun b hb => ?_
  simp -implicitDefEqProofs only [↓pgPre,go_sem,seval, upd_upd]
  refine EndW.less (AVle.agg ?_) (AHeap.le_upd hb) ⟨rfl, rfl⟩
  rw [eRoutine_eq]
  simp only [rWrites]
  repeat' (first | exact AVles.nil | refine AVles.cons ?_ ?_)
  all_goals first | exact .refl _ | exact AVle.sl _ _ | refine AVle.row1 rfl ?_
  rw [eStmt_eq]
  simp only [stWrite, noExpr]
  repeat' (first | exact AVles.nil | refine AVles.cons ?_ ?_)
  all_goals first | exact .refl _ | exact AVle.sl _ _ | refine AVle.row1 rfl ?_
  rw [eExpr_eq]
  repeat' (first | exact AVles.nil | refine AVles.cons ?_ ?_)
  all_goals first | exact .refl _ | exact AVle.sl _ _
theorem sp18 (a b c d e f g h i j k l m n o p q s : AV) (x : Routine) : splice [a, b, c, d, e, f, g, h, i, j, k, l, m, n, o, p, q, s] 0 (eRoutine x) = [eTexts x.before, eTexts x.trail, .str x.name, .int .i64 x.result, .sl (x.params.map eParam) false, .sl (x.vars.map eVar) false, .sl (x.inner.map eRoutine) false, .sl (x.body.map eStmt) false, eTexts x.endd, j, k, l, m, n, o, p, q, s] := by rw [eRoutine_eq]; rfl
def xP : Param := ⟨⟨#[120]⟩, ⟨1, 0, noBytes⟩, 2⟩
theorem exC_check : (check exC).2 = 0 := by decide +kernel
theorem exC_ups : cUps exC.routines = [[], [xP], [xP]] := by
  have c1 : Caps (gra exC.routines) 1 (0, 0) := .use (by decide +kernel)
  have c2 : Caps (gra exC.routines) 2 (0, 0) := .call (k := 1) (by decide +kernel) c1 (by decide)
  have c0 : ¬ Caps (gra exC.routines) 0 (0, 0) := fun c => by
    have u := caps_up c
    cases u with
    | base h ha =>
      have : (nodesOf exC.routines)[0]? = some ⟨noBytes ++ ⟨#[102]⟩, -1, exC.routines, rF, capMap 1 [] rF.inner⟩ := rfl
      rw [this] at h; cases h; simp at ha
    | step h ha _ =>
      have : (nodesOf exC.routines)[0]? = some ⟨noBytes ++ ⟨#[102]⟩, -1, exC.routines, rF, capMap 1 [] rF.inner⟩ := rfl
      rw [this] at h; cases h; simp at ha
  have key : ∀ f : Nat → Nat → Bool, upN f 0 (gra exC.routines).ns = if f 0 0 then [xP] else [] := fun f => by
    show (if f 0 0 then [xP] else []) ++ [] ++ ([] ++ ([] ++ [])) = _
    simp
  have hn : (gra exC.routines).ns.length = 3 := rfl
  unfold cUps
  rw [hn]
  simp only [key, List.range, List.range.loop, List.map_cons, List.map_nil, c0, c1, c2, decide_true, decide_false, if_true, Bool.false_eq_true, if_false]
theorem stOk {name : ByteArray} {op k : Int} : Stmt.ok ⟨[], [], op, noBytes, noExpr, [⟨k, 0, name, noBytes, []⟩], false, false, [], [], [], []⟩ :=
  (Stmt.ok_iff _).2 ⟨few_nil, few_nil, leaf_ok _ _ _ _, few_one _, by simpa using leaf_ok _ _ _ _, few_nil, by simp, few_nil, by simp, few_nil, few_nil⟩
theorem stCall_ok (name : ByteArray) : (stCall name).ok := stOk
theorem stWrite_ok (name : ByteArray) : (stWrite name).ok := stOk
theorem exC_ok : exC.ok := by
  have hg : (rWrites ⟨#[103]⟩ ⟨#[120]⟩).ok := (Routine.ok_iff _).2 ⟨few_nil, few_nil, few_nil, few_nil, by simp [rWrites], few_nil, by simp [rWrites], few_one _, by simpa [rWrites] using stWrite_ok _, few_nil⟩
  have hh : rH.ok := (Routine.ok_iff _).2 ⟨few_nil, few_nil, few_nil, few_nil, by simp [rH], few_nil, by simp [rH], few_one _, by simpa [rH] using stCall_ok _, few_nil⟩
  have hf : rF.ok := (Routine.ok_iff _).2 ⟨few_nil, few_nil, few_nil, few_one _, by simpa [rF] using ⟨few_nil, few_nil⟩, few_small (by simp [rF]), by simpa [rF] using ⟨hg, hh⟩, few_one _, by simpa [rF] using stCall_ok _, few_nil⟩
  refine ⟨few_nil, few_nil, few_nil, few_nil, by simp [exC], few_nil, by simp [exC], few_one _, by simpa [exC] using hf, few_nil, by simp [exC], few_nil⟩
theorem awakeC_spec (h : AHeap) : ACalls Go.Proofs.Tryz.prog 6 [] h (fun v g => v = .bool true ∧ g = h) := by
  refine F6.calls (by simp) ?_
  delta F6.c0
  simp -implicitDefEqProofs only [↓pgPre,go_sem,seval]
  refine callT_of (calls_spec h ⟨#[103]⟩) (fun v g ⟨hv, hg⟩ => ?_)
  subst v g
  simp -implicitDefEqProofs only [↓pgPre,go_sem,seval]
  refine callT_of (writes_spec h ⟨#[103]⟩ ⟨#[120]⟩) (fun v g ⟨hv, hg⟩ => ?_)
  subst v g
  simp -implicitDefEqProofs only [↓pgPre,go_sem,seval, sp18]
  refine callT_of (calls_spec h ⟨#[104]⟩) (fun v g ⟨hv, hg⟩ => ?_)
  subst v g
  simp -implicitDefEqProofs only [↓pgPre,go_sem,seval]
  refine afreshT_intro fun b hb => ?_
  simp -implicitDefEqProofs only [↓pgPre,go_sem,seval, upd_upd]
  refine callT_le (Ups_good _ exC exC_ok (by decide +kernel) (by decide +kernel) exC_check) (.cons (.agg ?_) .nil) (fun v g ⟨hv, hg⟩ => ?_)
  · rw [ePrg_eq]
    simp only [exC]
    repeat' (first | exact AVles.nil | refine AVles.cons ?_ ?_)
    all_goals first | exact .refl _ | exact AVle.sl _ _ | refine AVle.row1 rfl ?_
    rw [eRoutine_eq]
    simp only [rF]
    repeat' (first | exact AVles.nil | refine AVles.cons ?_ ?_)
    all_goals first | exact .refl _ | exact AVle.sl _ _ | refine AVle.row1 rfl ?_ | refine AVle.row2 rfl ?_ (by rw [eRoutine_eq]; rfl) ?_
    · unfold eVar
      repeat' (first | exact AVles.nil | refine AVles.cons ?_ ?_)
      all_goals first | exact .refl _ | exact AVle.sl _ _
    · rw [eRoutine_eq]; exact .refl _
    · rw [eRoutine_eq]
      simp only [rH]
      repeat' (first | exact AVles.nil | refine AVles.cons ?_ ?_)
      all_goals first | exact .refl _ | exact AVle.sl _ _
  · subst v g
    rw [exC_ups]
    have i0 : aia 1 (.sl [uRow [], uRow [xP], uRow [xP]] false) (.int .i64 0) = some (.ip (uRow []) 0) := rfl
    have i1 : aia 1 (.sl [uRow [], uRow [xP], uRow [xP]] false) (.int .i64 1) = some (.ip (uRow [xP]) 0) := rfl
    have i2 : aia 1 (.sl [uRow [], uRow [xP], uRow [xP]] false) (.int .i64 2) = some (.ip (uRow [xP]) 0) := rfl
    have i3 : aia 5 (.sl [eParam xP] false) (.int .i64 0) = some (.ip (eParam xP) 0) := rfl
    have n0 : (eParam xP)[0]? = some (.str ⟨#[120]⟩) := rfl
    have n4 : (eParam xP)[4]? = some (.int .i64 2) := rfl
    simp -implicitDefEqProofs only [↓pgPre,go_sem,seval, i0, i1, i2, i3, n0, n4, del_upd _ _ _ hb]
    exact .same ⟨rfl, rfl⟩
end Pg
