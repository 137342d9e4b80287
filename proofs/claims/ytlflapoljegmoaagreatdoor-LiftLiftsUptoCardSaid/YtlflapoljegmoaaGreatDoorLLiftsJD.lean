import Derived.Test.YtlflapoljegmoaaGreatDoorK4D
import Derived.Test.YtlflapoljegmoaaGreatDoorProg
import Derived.KernelRfl
import Derived.Test.YtlflapoljegmoaaGreatDoorTreeSD
import Derived.Test.YtlflapoljegmoaaGreatDoorRefLift3JD
import Derived.Test.YtlflapoljegmoaaGreatDoorRightCJD
import Derived.Test.YtlflapoljegmoaaGreatDoorSmJD
import Derived.Test.YtlflapoljegmoaaGreatDoorRw3JD
import Derived.Test.YtlflapoljegmoaaGreatDoorNnXJD
namespace Pg
open Go Go.Proofs.Tryz
set_option maxRecDepth 100000
set_option maxHeartbeats 4000000
def F10.c0 : RCode := .seq (.reg [qr 0 (.mv (.c (.bool false)))]) (.seq (.reg [qr 6 (.build [.int .i64 0,.int .i64 0,.str ⟨#[]⟩,.str ⟨#[]⟩,.sl [] true] [(0,1,(.c (.int .i64 4))),(2,1,(.c (.str ⟨#[120]⟩)))]),qr 7 (.bsl 5 1 [.int .i64 0,.int .i64 0,.str ⟨#[]⟩,.str ⟨#[]⟩,.sl [] true] [(0,5,.t 6)]),qr 8 (.build [.sl [] true,.sl [] true,.int .i64 0,.str ⟨#[]⟩,.int .i64 0,.int .i64 0,.str ⟨#[]⟩,.str ⟨#[]⟩,.sl [] true,.sl [] true,.bool false,.bool false,.sl [] true,.sl [] true,.sl [] true,.sl [] true] [(2,1,(.c (.int .i64 8))),(9,1,.t 7)]),qr 9 (.bsl 16 1 [.sl [] true,.sl [] true,.int .i64 0,.str ⟨#[]⟩,.int .i64 0,.int .i64 0,.str ⟨#[]⟩,.str ⟨#[]⟩,.sl [] true,.sl [] true,.bool false,.bool false,.sl [] true,.sl [] true,.sl [] true,.sl [] true] [(0,16,.t 8)]),qr 10 (.build [.sl [] true,.sl [] true,.str ⟨#[]⟩,.int .i64 0,.sl [] true,.sl [] true,.sl [] true,.sl [] true,.sl [] true] [(2,1,(.c (.str ⟨#[103]⟩))),(7,1,.t 9)]),qr 1 (.bx (some 9) (.t 10))]) (.seq (.reg [qr 11 (.build [.int .i64 0,.int .i64 0,.str ⟨#[]⟩] [(0,1,(.c (.int .i64 1)))]),qr 12 (.build [.sl [] true,.sl [] true,.str ⟨#[]⟩,.int .i64 0,.int .i64 0,.str ⟨#[]⟩] [(2,1,(.c (.str ⟨#[120]⟩))),(3,3,.t 11)]),qr 13 (.bsl 6 1 [.sl [] true,.sl [] true,.str ⟨#[]⟩,.int .i64 0,.int .i64 0,.str ⟨#[]⟩] [(0,6,.t 12)]),qr 14 (.load (some 9) (.t 1)),qr 15 (.bsl 9 1 [.sl [] true,.sl [] true,.str ⟨#[]⟩,.int .i64 0,.sl [] true,.sl [] true,.sl [] true,.sl [] true,.sl [] true] [(0,9,.t 14)]),qr 16 (.build [.int .i64 0,.int .i64 0,.str ⟨#[]⟩,.str ⟨#[]⟩,.sl [] true] [(0,1,(.c (.int .i64 7))),(2,1,(.c (.str ⟨#[103]⟩)))]),qr 17 (.bsl 5 1 [.int .i64 0,.int .i64 0,.str ⟨#[]⟩,.str ⟨#[]⟩,.sl [] true] [(0,5,.t 16)]),qr 18 (.build [.sl [] true,.sl [] true,.int .i64 0,.str ⟨#[]⟩,.int .i64 0,.int .i64 0,.str ⟨#[]⟩,.str ⟨#[]⟩,.sl [] true,.sl [] true,.bool false,.bool false,.sl [] true,.sl [] true,.sl [] true,.sl [] true] [(2,1,(.c (.int .i64 2))),(9,1,.t 17)]),qr 19 (.bsl 16 1 [.sl [] true,.sl [] true,.int .i64 0,.str ⟨#[]⟩,.int .i64 0,.int .i64 0,.str ⟨#[]⟩,.str ⟨#[]⟩,.sl [] true,.sl [] true,.bool false,.bool false,.sl [] true,.sl [] true,.sl [] true,.sl [] true] [(0,16,.t 18)]),qr 20 (.build [.sl [] true,.sl [] true,.str ⟨#[]⟩,.int .i64 0,.sl [] true,.sl [] true,.sl [] true,.sl [] true,.sl [] true] [(2,1,(.c (.str ⟨#[102]⟩))),(5,1,.t 13),(6,1,.t 15),(7,1,.t 19)]),qr 2 (.bx (some 9) (.t 20))]) (.seq (.reg [qr 22 (.load (some 9) (.t 2)),qr 23 (.bsl 9 1 [.sl [] true,.sl [] true,.str ⟨#[]⟩,.int .i64 0,.sl [] true,.sl [] true,.sl [] true,.sl [] true,.sl [] true] [(0,9,.t 22)]),qr 24 (.build [.str ⟨#[]⟩,.sl [] true,.sl [] true,.sl [] true,.sl [] true,.sl [] true,.sl [] true,.sl [] true,.sl [] true] [(0,1,(.c (.str ⟨#[112]⟩))),(6,1,.t 23)]),qe 25 (.call 9 [.t 24]),qr 21 (.mv (.t 25)),qr 26 (.ext (.t 21) 0),qr 27 (.ext (.t 21) 1),qr 3 (.bx (some 9) (.t 26)),qr 4 (.mv (.t 27))]) (.seq (.seq (.reg [qr 28 (.mv (.t 4)),qr 29 (.bin .neq (.t 28) (.c (.int .i64 0))),qr 30 (.mv (.t 29)),qg 31 (.fa 6 (.t 3)) 30 false,qg 32 (.load none (.t 31)) 30 false,qg 33 (.len 1 (.t 32)) 30 false,qg 34 (.bin .neq (.t 33) (.c (.int .i64 2))) 30 false,qr 35 (.pick (.t 30) (.c (.bool true)) (.t 34)),qr 36 (.mv (.t 35)),qg 37 (.fa 6 (.t 3)) 36 false,qg 38 (.load none (.t 37)) 36 false,qg 39 (.ia 9 (.t 38) (.c (.int .i64 1))) 36 false,qg 40 (.fa 2 (.t 39)) 36 false,qg 41 (.load none (.t 40)) 36 false,qg 42 (.bin .neq (.t 41) (.c (.str ⟨#[102,36,103]⟩))) 36 false,qr 43 (.pick (.t 36) (.c (.bool true)) (.t 42)),qr 44 (.mv (.t 43)),qg 45 (.fa 6 (.t 3)) 44 false,qg 46 (.load none (.t 45)) 44 false,qg 47 (.ia 9 (.t 46) (.c (.int .i64 1))) 44 false,qg 48 (.fa 4 (.t 47)) 44 false,qg 49 (.load none (.t 48)) 44 false,qg 50 (.len 1 (.t 49)) 44 false,qg 51 (.bin .neq (.t 50) (.c (.int .i64 1))) 44 false,qr 52 (.pick (.t 44) (.c (.bool true)) (.t 51)),qr 53 (.mv (.t 52)),qg 54 (.fa 6 (.t 3)) 53 false,qg 55 (.load none (.t 54)) 53 false,qg 56 (.ia 9 (.t 55) (.c (.int .i64 0))) 53 false,qg 57 (.fa 7 (.t 56)) 53 false,qg 58 (.load none (.t 57)) 53 false,qg 59 (.len 1 (.t 58)) 53 false,qg 60 (.bin .neq (.t 59) (.c (.int .i64 1))) 53 false,qr 61 (.pick (.t 53) (.c (.bool true)) (.t 60)),qr 62 (.mv (.t 61)),qg 63 (.fa 6 (.t 3)) 62 false,qg 64 (.load none (.t 63)) 62 false,qg 65 (.ia 9 (.t 64) (.c (.int .i64 0))) 62 false,qg 66 (.fa 7 (.t 65)) 62 false,qg 67 (.load none (.t 66)) 62 false,qg 68 (.ia 16 (.t 67) (.c (.int .i64 0))) 62 false,qg 69 (.fa 9 (.t 68)) 62 false,qg 70 (.load none (.t 69)) 62 false,qg 71 (.len 1 (.t 70)) 62 false,qg 72 (.bin .neq (.t 71) (.c (.int .i64 1))) 62 false,qr 73 (.pick (.t 62) (.c (.bool true)) (.t 72))]) (.cond (.t 73) (.seq (.reg [qr 0 (.mv (.c (.bool false)))]) .ret) .skip)) (.seq (.reg [qr 74 (.fa 6 (.t 3)),qr 75 (.load none (.t 74)),qr 76 (.ia 9 (.t 75) (.c (.int .i64 0))),qr 77 (.fa 7 (.t 76)),qr 78 (.load none (.t 77)),qr 79 (.ia 16 (.t 78) (.c (.int .i64 0))),qr 80 (.fa 9 (.t 79)),qr 81 (.load none (.t 80)),qr 82 (.ia 5 (.t 81) (.c (.int .i64 0))),qr 83 (.load (some 5) (.t 82)),qr 5 (.bx (some 5) (.t 83))]) (.seq (.reg [qr 84 (.fa 2 (.t 5)),qr 85 (.load none (.t 84)),qr 86 (.bin .eql (.t 85) (.c (.str ⟨#[102,36,103]⟩))),qr 87 (.mv (.t 86)),qg 88 (.fa 4 (.t 5)) 87 true,qg 89 (.load none (.t 88)) 87 true,qg 90 (.len 1 (.t 89)) 87 true,qg 91 (.bin .eql (.t 90) (.c (.int .i64 1))) 87 true,qr 92 (.pick (.t 87) (.t 91) (.c (.bool false))),qr 93 (.mv (.t 92)),qg 94 (.fa 4 (.t 5)) 93 true,qg 95 (.load none (.t 94)) 93 true,qg 96 (.ia 5 (.t 95) (.c (.int .i64 0))) 93 true,qg 97 (.fa 0 (.t 96)) 93 true,qg 98 (.load none (.t 97)) 93 true,qg 99 (.bin .eql (.t 98) (.c (.int .i64 25))) 93 true,qr 100 (.pick (.t 93) (.t 99) (.c (.bool false))),qr 101 (.mv (.t 100)),qg 102 (.fa 4 (.t 5)) 101 true,qg 103 (.load none (.t 102)) 101 true,qg 104 (.ia 5 (.t 103) (.c (.int .i64 0))) 101 true,qg 105 (.fa 2 (.t 104)) 101 true,qg 106 (.load none (.t 105)) 101 true,qg 107 (.bin .eql (.t 106) (.c (.str ⟨#[120]⟩))) 101 true,qr 108 (.pick (.t 101) (.t 107) (.c (.bool false))),qr 0 (.mv (.t 108))]) .ret))))))
theorem F10.calls [GI] : CallsT prog 10 109 F10.c0 [.tmp 0] := acallsT [] [1,2,3,5] 109 func10 ntmps10 (by kernel_rfl) (by kernel_rfl)
end Pg

namespace Pg
open Go Go.Proofs.Tryz
set_option linter.all false
set_option maxHeartbeats 4000000
set_option maxRecDepth 4000
def rG : Routine := rWrites ⟨#[103]⟩ ⟨#[120]⟩
def rL : Routine := ⟨[], [], ⟨#[102]⟩, 0, [], [⟨[], [], ⟨#[120]⟩, ⟨1, 0, noBytes⟩⟩], [rG], [stCall ⟨#[103]⟩], []⟩
def exL : Prg := ⟨⟨#[112]⟩, [], [], [], [], [], [rL], [], []⟩
theorem exL_check : (check exL).2 = 0 := by decide +kernel
theorem exL_ups : cUps exL.routines = [[], [xP]] := by
 have c1 : Caps (gra exL.routines) 1 (0, 0) := .use (by decide +kernel)
 have c0 : ¬ Caps (gra exL.routines) 0 (0, 0) := fun c => by
  have u := caps_up c
  cases u with
  | base h ha =>
   have : (nodesOf exL.routines)[0]? = some ⟨noBytes ++ ⟨#[102]⟩, -1, exL.routines, rL, capMap 1 [] rL.inner⟩ := rfl
   rw [this] at h; cases h; simp at ha
  | step h ha _ =>
   have : (nodesOf exL.routines)[0]? = some ⟨noBytes ++ ⟨#[102]⟩, -1, exL.routines, rL, capMap 1 [] rL.inner⟩ := rfl
   rw [this] at h; cases h; simp at ha
 have key : ∀ f : Nat → Nat → Bool, upN f 0 (gra exL.routines).ns = if f 0 0 then [xP] else [] := fun f => by
  show (if f 0 0 then [xP] else []) ++ [] ++ ([] ++ []) = _
  simp
 have hn : (gra exL.routines).ns.length = 2 := rfl
 unfold cUps
 rw [hn]
 simp only [key, List.range, List.range.loop, List.map_cons, List.map_nil, c0, c1, decide_true, decide_false, if_true, Bool.false_eq_true, if_false]
def pFG : ByteArray := ⟨#[102, 36, 103]⟩
def rL1 : Routine := ⟨[], [], ⟨#[102]⟩, 0, [], [⟨[], [], ⟨#[120]⟩, ⟨1, 0, noBytes⟩⟩], [], [⟨[], [], 2, noBytes, noExpr, [⟨7, 0, pFG, noBytes, [upE xP]⟩], false, false, [], [], [], []⟩], []⟩
def rG1 : Routine := ⟨[], [], pFG, 0, [xP], [], [], [stWrite ⟨#[120]⟩], []⟩
def qL : Prg := ⟨⟨#[112]⟩, [], [], [], [], [], [rL1, rG1], [], []⟩
theorem exL_lift : liftP exL = (qL, 0) := by
 unfold liftP
 rw [exL_ups]
 rfl
theorem exL_ok : exL.ok := by
 have hg : rG.ok := (Routine.ok_iff _).2 ⟨few_nil, few_nil, few_nil, few_nil, by simp [rG, rWrites], few_nil, by simp [rG, rWrites], few_one _, by simpa [rG, rWrites] using stWrite_ok _, few_nil⟩
 have hf : rL.ok := (Routine.ok_iff _).2 ⟨few_nil, few_nil, few_nil, few_one _, by simpa [rL] using ⟨few_nil, few_nil⟩, few_one _, by simpa [rL] using hg, few_one _, by simpa [rL] using stCall_ok _, few_nil⟩
 refine ⟨few_nil, few_nil, few_nil, few_nil, by simp [exL], few_nil, by simp [exL], few_one _, by simpa [exL] using hf, few_nil, by simp [exL], few_nil⟩
theorem awakeL_spec [GI] (hm : Max0) (h : AHeap) : ACalls prog 10 [] h (fun v g => v = .bool true ∧ g = h) := by
 refine F10.calls (by simp) ?_
 delta F10.c0
 simp only [go_sem,seval]
 refine callT_le (Lift_good hm _ exL exL_ok (by decide +kernel) exL_check) (.cons (.agg ?_) .nil) (fun v g ⟨hv, hg⟩ => ?_)
 ·rw [ePrg_eq]
  simp only [exL]
  repeat' (first | exact AVles.nil | refine AVles.cons ?_ ?_)
  all_goals first | exact .refl _ | exact AVle.sl _ _ | refine AVle.row1 (by rw [eRoutine_eq]; rfl) ?_
  rw [eRoutine_eq]
  simp only [rL]
  repeat' (first | exact AVles.nil | refine AVles.cons ?_ ?_)
  all_goals first | exact .refl _ | exact AVle.sl _ _ | refine AVle.row1 (by first | rfl | (rw [eRoutine_eq]; rfl) | (rw [eStmt_eq]; rfl)) ?_
  ·unfold eVar
   repeat' (first | exact AVles.nil | refine AVles.cons ?_ ?_)
   all_goals first | exact .refl _ | exact AVle.sl _ _
  ·rw [eRoutine_eq]
   simp only [rG, rWrites]
   repeat' (first | exact AVles.nil | refine AVles.cons ?_ ?_)
   all_goals first | exact .refl _ | exact AVle.sl _ _ | refine AVle.row1 (by first | rfl | (rw [eStmt_eq]; rfl)) ?_
   rw [eStmt_eq]
   simp only [stWrite, noExpr]
   repeat' (first | exact AVles.nil | refine AVles.cons ?_ ?_)
   all_goals first | exact .refl _ | exact AVle.sl _ _ | refine AVle.row1 (by first | rfl | (rw [eExpr_eq]; rfl)) ?_
   rw [eExpr_eq]
   repeat' (first | exact AVles.nil | refine AVles.cons ?_ ?_)
   all_goals first | exact .refl _ | exact AVle.sl _ _
  ·rw [eStmt_eq]
   simp only [stCall, noExpr]
   repeat' (first | exact AVles.nil | refine AVles.cons ?_ ?_)
   all_goals first | exact .refl _ | exact AVle.sl _ _ | refine AVle.row1 (by first | rfl | (rw [eExpr_eq]; rfl)) ?_
   rw [eExpr_eq]
   repeat' (first | exact AVles.nil | refine AVles.cons ?_ ?_)
   all_goals first | exact .refl _ | exact AVle.sl _ _
 ·subst v g
  rw [exL_lift]
  have e6 : (ePrg qL)[6]? = some (.sl [eRoutine rL1, eRoutine rG1] false) := by rw [ePrg_eq]; rfl
  have i0 : aia 9 (.sl [eRoutine rL1, eRoutine rG1] false) (.int .i64 0) = some (.ip (eRoutine rL1) 0) := aia_sl (i := 0) rfl (eRoutine_len _)
  have i1 : aia 9 (.sl [eRoutine rL1, eRoutine rG1] false) (.int .i64 1) = some (.ip (eRoutine rG1) 0) := aia_sl (i := 1) rfl (eRoutine_len _)
  have n2 : (eRoutine rG1)[2]? = some (.str pFG) := by rw [eRoutine_eq]; rfl
  have n4 : (eRoutine rG1)[4]? = some (.sl [eParam xP] false) := by rw [eRoutine_eq]; rfl
  have n7 : (eRoutine rL1)[7]? = some (.sl [eStmt ⟨[], [], 2, noBytes, noExpr, [⟨7, 0, pFG, noBytes, [upE xP]⟩], false, false, [], [], [], []⟩] false) := by rw [eRoutine_eq]; rfl
  generalize hst : eStmt ⟨[], [], 2, noBytes, noExpr, [⟨7, 0, pFG, noBytes, [upE xP]⟩], false, false, [], [], [], []⟩ = st at n7
  have hsl : st.length = 16 := by rw [← hst]; exact eStmt_len _
  have j0 : aia 16 (.sl [st] false) (.int .i64 0) = some (.ip st 0) := aia_sl (i := 0) rfl hsl
  have m9 : st[9]? = some (.sl [eExpr ⟨7, 0, pFG, noBytes, [upE xP]⟩] false) := by rw [← hst, eStmt_eq]; rfl
  generalize hex : eExpr ⟨7, 0, pFG, noBytes, [upE xP]⟩ = ex at m9
  have hxl : ex.length = 5 := by rw [← hex]; exact eExpr_len _
  have hxt : List.take 5 ex = ex := List.take_of_length_le (by omega)
  have k0 : aia 5 (.sl [ex] false) (.int .i64 0) = some (.ip ex 0) := aia_sl (i := 0) rfl hxl
  have x2 : ex[2]? = some (.str pFG) := by rw [← hex, eExpr_eq]; rfl
  have x4 : ex[4]? = some (.sl [eExpr (upE xP)] false) := by rw [← hex, eExpr_eq]; rfl
  generalize huu : eExpr (upE xP) = uu at x4
  have hul : uu.length = 5 := by rw [← huu]; exact eExpr_len _
  have u0 : aia 5 (.sl [uu] false) (.int .i64 0) = some (.ip uu 0) := aia_sl (i := 0) rfl hul
  have y0 : uu[0]? = some (.int .i64 25) := by rw [← huu, eExpr_eq]; rfl
  have y2 : uu[2]? = some (.str ⟨#[120]⟩) := by rw [← huu, eExpr_eq]; rfl
  have hp : pFG = (⟨#[102, 36, 103]⟩ : ByteArray) := rfl
  simp only [go_sem,seval, ePrg_len, prg_take, e6, i0, i1, n2, n4, n7, j0, m9, k0, hxl, hxt, x2, x4, u0, y0, y2, hp]
  exact .same ⟨rfl, rfl⟩
end Pg

namespace Pg
open Go Go.Proofs.Tryz
set_option linter.all false
set_option maxHeartbeats 4000000
set_option maxRecDepth 4000
theorem tName_soft {s : ByteArray} (h : tName s = true) : soft s := by
 refine ⟨?_, tName_plain h⟩
 simp only [tName, Bool.and_eq_true, decide_eq_true_eq] at h
 have h1 := h.1
 unfold nameCode at h1
 unfold small
 by_cases h0 : s = noBytes
 ·rw [h0]; decide
 ·rw [if_neg h0] at h1
  by_cases hl : letters true (bytes s) = true
  ·rw [if_pos hl] at h1
   by_cases h2 : 32 < s.size
   ·rw [if_pos h2] at h1; simp at h1
   ·omega
  ·rw [if_neg hl] at h1; simp at h1
section
variable {ρ : ByteArray → ByteArray} (hρ : ∀ s, ρ s = s)
include hρ
mutual
theorem rnE_id : ∀ x : Expr, rnE ρ x = x
 | ⟨op, n, name, field, l⟩ => by simp only [rnE, hρ, rnEs_id l]
theorem rnEs_id : ∀ l : List Expr, rnEs ρ l = l
 | [] => rfl
 | x :: r => by simp only [rnEs, rnE_id x, rnEs_id r]
end
mutual
theorem rnS_id : ∀ x : Stmt, rnS ρ x = x
 | ⟨before, trail, op, name, p, e, down, more, body, els, end1, end2⟩ => by simp only [rnS, hρ, rnE_id hρ, rnEs_id hρ, rnSs_id body, rnSs_id els]
theorem rnSs_id : ∀ l : List Stmt, rnSs ρ l = l
 | [] => rfl
 | x :: r => by simp only [rnSs, rnS_id x, rnSs_id r]
end
theorem rnParam_id (x : Param) : rnParam ρ x = x := by simp [rnParam, rnTyp, hρ]
theorem rnVar_id (x : Var) : rnVar ρ x = x := by simp [rnVar, rnTyp, hρ]
theorem rnRec_id (x : Rec) : rnRec ρ x = x := by
 have : rnFld ρ = id := funext fun f => by simp [rnFld, hρ]
 simp [rnRec, hρ, this]
mutual
theorem rnR_id : ∀ x : Routine, rnR ρ x = x
 | ⟨before, trail, name, result, params, vars, inner, body, endd⟩ => by
  have e1 : rnParam ρ = id := funext (rnParam_id hρ)
  have e2 : rnVar ρ = id := funext (rnVar_id hρ)
  simp only [rnR, hρ, e1, e2, List.map_id, rnRs_id inner, rnSs_id hρ]
theorem rnRs_id : ∀ l : List Routine, rnRs ρ l = l
 | [] => rfl
 | x :: r => by simp only [rnRs, rnR_id x, rnRs_id r]
end
theorem rnP_id (p : Prg) : rnP ρ p = p := by
 have e2 : rnVar ρ = id := funext (rnVar_id hρ)
 have e3 : rnRec ρ = id := funext (rnRec_id hρ)
 simp only [rnP, hρ, e2, e3, List.map_id, rnRs_id hρ, rnSs_id hρ]
end
theorem turn_nil (s : ByteArray) : turn [] s = s := by unfold turn; split <;> simp [lookB]
theorem zPrg_ok : zPrg.ok := ⟨few_nil, few_nil, few_nil, few_nil, by simp [zPrg], few_nil, by simp [zPrg], few_nil, by simp [zPrg], few_nil, by simp [zPrg], few_nil⟩
theorem lift_ok' {p : Prg} (ho : p.ok) (hw : wP p ≤ 1048576) : (liftP p).1.ok := by
 by_cases h : (liftP p).2 = 0
 ·exact lift_ok ho hw h
 ·have : (liftP p).1 = zPrg := by
   unfold liftP at h ⊢
   simp only at h ⊢
   split
   ·rfl
   ·rename_i h1
    rw [if_neg h1] at h
    split
    ·rfl
    ·rename_i h2
     rw [if_neg h2] at h
     exact absurd rfl h
  rw [this]; exact zPrg_ok
theorem LiftLifts_spec [GI] (hm : Max0) (h : AHeap) (p : Prg) (ho : p.ok) (hf : p.fit) (hw : wP p ≤ 1048576) : ACalls prog 3 [.agg (ePrg p)] h (fun v g => v = .bool true ∧ g = h) := by
 refine F3.calls (by simp) ?_
 delta F3.c0
 simp only [go_sem,seval]
 refine tcE (tPrg_spec p ho hf h) ?_
 cases ht : tPrg p
 ·simp only [go_sem,seval]
  by_cases hc : (check p).2 = 0
  ·refine tcE (Lift_good hm h p ho hw hc) ?_
   simp only [go_sem,seval]
   refine tcE (awakeL_spec hm h) ?_
   simp only [go_sem,seval]
   exact .same ⟨rfl, rfl⟩
  ·refine tcE (Lift_bad h p ho hc) ?_
   simp only [go_sem,seval]
   refine tcE (awakeL_spec hm h) ?_
   simp only [go_sem,seval]
   exact .same ⟨rfl, rfl⟩
 simp only [go_sem,seval]
 refine tcE (Rename_spec (by_ := []) ⟨few_nil, by simp⟩ true p ho (tPrg_in (fun _ => tName_soft) ⟨by unfold small; decide, plain_none⟩ ht) (by omega) h) ?_
 rw [rnP_id turn_nil]
 by_cases hc : (check p).2 = 0
 ·simp only [go_sem,seval]
  refine tcE (Lift_good hm h p ho hw hc) ?_
  simp only [go_sem,seval]
  refine tcE (RLift_good h p ho ht hw hc) ?_
  simp only [go_sem,seval]
  refine tcE (Same_spec (liftP p).1 (lift_ok' ho hw) h) ?_
  simp only [go_sem,seval]
  refine tcE (Same_spec p ho h) ?_
  simp only [go_sem,seval]
  refine tcE (awakeL_spec hm h) ?_
  simp only [go_sem,seval]
  exact .same ⟨rfl, rfl⟩
 ·simp only [go_sem,seval]
  refine tcE (Lift_bad h p ho hc) ?_
  simp only [go_sem,seval]
  refine tcE (RLift_bad h p ho ht hc) ?_
  simp only [go_sem,seval]
  refine tcE (Same_spec zPrg zPrg_ok h) ?_
  simp only [go_sem,seval]
  refine tcE (Same_spec p ho h) ?_
  simp only [go_sem,seval]
  refine tcE (awakeL_spec hm h) ?_
  simp only [go_sem,seval]
  exact .same ⟨rfl, rfl⟩
end Pg
