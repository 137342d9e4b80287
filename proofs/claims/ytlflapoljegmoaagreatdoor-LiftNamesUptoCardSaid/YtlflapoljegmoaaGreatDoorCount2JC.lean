import Derived.Test.YtlflapoljegmoaaGreatDoorK4C
import Derived.Test.YtlflapoljegmoaaGreatDoorProg
import Derived.KernelRfl
import Derived.Test.YtlflapoljegmoaaGreatDoorCkWJC
import Derived.Test.YtlflapoljegmoaaGreatDoorTreeSC
import Derived.Test.YtlflapoljegmoaaGreatDoorCpWJC
import Derived.Test.YtlflapoljegmoaaGreatDoorWeighJC
import Derived.Test.YtlflapoljegmoaaGreatDoorTreeC
import Derived.Test.YtlflapoljegmoaaGreatDoorCountJC
namespace Pg
open Go
set_option maxRecDepth 100000
set_option maxHeartbeats 4000000
noncomputable def F102.c0 : CodeT Go.Proofs.Tryz.prog 24 [] [] Go.Proofs.Tryz.f102 := ⟨_, by with_unfolding_all (conv => lhs; reduce)⟩
theorem F102.calls [GI] : CallsT Go.Proofs.Tryz.prog 102 24 F102.c0.1 [.cell 4 (some 19)] := acallsT _ _ _ Go.Proofs.Tryz.func102 Go.Proofs.Tryz.ntmps102 F102.c0.2 (by kernel_rfl)
noncomputable def F103.c0 : CodeT Go.Proofs.Tryz.prog 13 [] [] Go.Proofs.Tryz.f103 := ⟨_, by with_unfolding_all (conv => lhs; reduce)⟩
theorem F103.calls [GI] : CallsT Go.Proofs.Tryz.prog 103 13 F103.c0.1 [] := acallsT _ _ _ Go.Proofs.Tryz.func103 Go.Proofs.Tryz.ntmps103 F103.c0.2 (by kernel_rfl)
noncomputable def F101.c0 : CodeT Go.Proofs.Tryz.prog 15 [] [] Go.Proofs.Tryz.f101 := ⟨_, by with_unfolding_all (conv => lhs; reduce)⟩
theorem F101.calls [GI] : CallsT Go.Proofs.Tryz.prog 101 15 F101.c0.1 [.tmp 2] := acallsT _ _ _ Go.Proofs.Tryz.func101 Go.Proofs.Tryz.ntmps101 F101.c0.2 (by kernel_rfl)
noncomputable def F104.c0 : CodeT Go.Proofs.Tryz.prog 13 [3] [] Go.Proofs.Tryz.f104 := ⟨_, by with_unfolding_all (conv => lhs; reduce)⟩
theorem F104.calls [GI] : CallsT Go.Proofs.Tryz.prog 104 13 F104.c0.1 [.tmp 4] := acallsT _ _ _ Go.Proofs.Tryz.func104 Go.Proofs.Tryz.ntmps104 F104.c0.2 (by kernel_rfl)
noncomputable def F105.c0 : CodeT Go.Proofs.Tryz.prog 19 [5] [] Go.Proofs.Tryz.f105 := ⟨_, by with_unfolding_all (conv => lhs; reduce)⟩
theorem F105.calls [GI] : CallsT Go.Proofs.Tryz.prog 105 19 F105.c0.1 [] := acallsT _ _ _ Go.Proofs.Tryz.func105 Go.Proofs.Tryz.ntmps105 F105.c0.2 (by kernel_rfl)
noncomputable def F66.c0 : CodeT Go.Proofs.Tryz.prog 79 [] [] Go.Proofs.Tryz.f66 := ⟨_, by with_unfolding_all (conv => lhs; reduce)⟩
theorem F66.calls [GI] : CallsT Go.Proofs.Tryz.prog 66 79 F66.c0.1 [.tmp 4] := acallsT _ _ _ Go.Proofs.Tryz.func66 Go.Proofs.Tryz.ntmps66 F66.c0.2 (by kernel_rfl)
noncomputable def F67.c0 : CodeT Go.Proofs.Tryz.prog 73 [] [] Go.Proofs.Tryz.f67 := ⟨_, by with_unfolding_all (conv => lhs; reduce)⟩
theorem F67.calls [GI] : CallsT Go.Proofs.Tryz.prog 67 73 F67.c0.1 [.tmp 8] := acallsT _ _ _ Go.Proofs.Tryz.func67 Go.Proofs.Tryz.ntmps67 F67.c0.2 (by kernel_rfl)
noncomputable def F70.c0 : CodeT Go.Proofs.Tryz.prog 25 [] [] Go.Proofs.Tryz.f70 := ⟨_, by with_unfolding_all (conv => lhs; reduce)⟩
theorem F70.calls [GI] : CallsT Go.Proofs.Tryz.prog 70 25 F70.c0.1 [.tmp 4] := acallsT _ _ _ Go.Proofs.Tryz.func70 Go.Proofs.Tryz.ntmps70 F70.c0.2 (by kernel_rfl)
noncomputable def F68.c0 : CodeT Go.Proofs.Tryz.prog 113 [] [8] Go.Proofs.Tryz.f68 := ⟨_, by with_unfolding_all (conv => lhs; reduce)⟩
theorem F68.calls [GI] : CallsT Go.Proofs.Tryz.prog 68 113 F68.c0.1 [] := acallsT _ _ _ Go.Proofs.Tryz.func68 Go.Proofs.Tryz.ntmps68 F68.c0.2 (by kernel_rfl)
noncomputable def F109.c0 : CodeT Go.Proofs.Tryz.prog 19 [] [7] Go.Proofs.Tryz.f109 := ⟨_, by with_unfolding_all (conv => lhs; reduce)⟩
theorem F109.calls [GI] : CallsT Go.Proofs.Tryz.prog 109 19 F109.c0.1 [.cell 6 (some 3)] := acallsT _ _ _ Go.Proofs.Tryz.func109 Go.Proofs.Tryz.ntmps109 F109.c0.2 (by kernel_rfl)
noncomputable def F107.c0 : CodeT Go.Proofs.Tryz.prog 41 [6] [9] Go.Proofs.Tryz.f107 := ⟨_, by with_unfolding_all (conv => lhs; reduce)⟩
theorem F107.calls [GI] : CallsT Go.Proofs.Tryz.prog 107 41 F107.c0.1 [.tmp 8] := acallsT _ _ _ Go.Proofs.Tryz.func107 Go.Proofs.Tryz.ntmps107 F107.c0.2 (by kernel_rfl)
noncomputable def F108.c0 : CodeT Go.Proofs.Tryz.prog 181 [6] [9,10,11] Go.Proofs.Tryz.f108 := ⟨_, by with_unfolding_all (conv => lhs; reduce)⟩
theorem F108.calls [GI] : CallsT Go.Proofs.Tryz.prog 108 181 F108.c0.1 [.cell 8 (some 3)] := acallsT _ _ _ Go.Proofs.Tryz.func108 Go.Proofs.Tryz.ntmps108 F108.c0.2 (by kernel_rfl)
def F133.c17 : RCode := .seq (.seq (.reg [qr 40 (.mv (.t 10)),qr 41 (.fa 4 (.t 6)),qr 42 (.load none (.t 41)),qr 43 (.len 1 (.t 42)),qr 44 (.bin .lss (.t 40) (.t 43)),qr 45 (.mv (.t 44)),qg 46 (.mv (.t 0)) 45 true,qg 47 (.nilc (.t 46)) 45 true,qg 48 (.fa 1 (.t 47)) 45 true,qg 49 (.load none (.t 48)) 45 true,qg 50 (.bin .eql (.t 49) (.c (.int .i64 0))) 45 true,qr 51 (.pick (.t 45) (.t 50) (.c (.bool false)))]) (.cond (.t 51) .skip (.exit 0))) (.seq (.block 1 (.seq (.reg [qr 54 (.fa 7 (.t 9)),qr 55 (.fa 4 (.t 54)),qr 56 (.load none (.t 55)),qr 57 (.mv (.t 10)),qr 58 (.ia 5 (.t 56) (.t 57)),qr 59 (.load (some 5) (.t 58)),qr 11 (.bx (some 5) (.t 59))]) (.seq (.seq (.reg [qr 60 (.fa 4 (.t 11)),qr 61 (.load none (.t 60)),qr 62 (.bin .eql (.t 61) (.c (.int .i64 0)))]) (.cond (.t 62) (.seq (.dreg [qr 63 (.mv (.t 0)),qr 64 (.mv (.t 1)),qr 65 (.fa 4 (.t 6)),qr 66 (.load none (.t 65)),qr 67 (.mv (.t 10)),qr 68 (.ia 5 (.t 66) (.t 67)),qr 69 (.load (some 5) (.t 68)),qr 70 (.fa 1 (.t 11)),qr 71 (.fa 0 (.t 70)),qr 72 (.load none (.t 71)),qe 73 (.call 107 [.t 63,.t 64,.t 69,.t 72])]) (.exit 1)) .skip)) (.seq (.seq (.reg [qr 74 (.fa 4 (.t 6)),qr 75 (.load none (.t 74)),qr 76 (.mv (.t 10)),qr 77 (.ia 5 (.t 75) (.t 76)),qr 78 (.fa 0 (.t 77)),qr 79 (.load none (.t 78)),qr 80 (.bin .lss (.t 79) (.c (.int .i64 4))),qr 81 (.mv (.t 80)),qg 82 (.fa 4 (.t 6)) 81 false,qg 83 (.load none (.t 82)) 81 false,qg 84 (.mv (.t 10)) 81 false,qg 85 (.ia 5 (.t 83) (.t 84)) 81 false,qg 86 (.fa 0 (.t 85)) 81 false,qg 87 (.load none (.t 86)) 81 false,qg 88 (.bin .gtr (.t 87) (.c (.int .i64 6))) 81 false,qr 89 (.pick (.t 81) (.c (.bool true)) (.t 88))]) (.cond (.t 89) (.reg [qr 90 (.mv (.t 0)),qe 91 (.call 103 [.t 90,(.c (.int .i64 14))])]) .skip)) (.seq (.dreg [qr 92 (.mv (.t 0)),qr 93 (.mv (.t 1)),qr 94 (.fa 4 (.t 6)),qr 95 (.load none (.t 94)),qr 96 (.mv (.t 10)),qr 97 (.ia 5 (.t 95) (.t 96)),qr 98 (.load (some 5) (.t 97)),qr 100 (.fa 1 (.t 11)),qr 101 (.load (some 3) (.t 100)),qe 99 (.call 108 [.t 92,.t 93,.t 98,(.c (.bool false))]),qr 102 (.seq true [1,1,2] (.t 99) (.t 101))]) (.cond (.t 102) (.reg [qr 103 (.mv (.t 0)),qe 104 (.call 103 [.t 103,(.c (.int .i64 14))])]) .skip)))))) (.reg [qr 52 (.mv (.t 10)),qr 53 (.bin .add (.t 52) (.c (.int .i64 1))),qr 10 (.mv (.t 53))]))
def F133.c0 : RCode := .seq (.reg [qr 6 (.bx none (.t 2)),qe 8 (.alloc 80 [.int .i64 0,.int .i64 0,.str ⟨#[]⟩])]) (.seq (.reg [qr 12 (.mv (.t 1)),qr 13 (.fa 2 (.t 6)),qr 14 (.load none (.t 13)),qe 15 (.call 102 [.t 12,.t 14]),qr 9 (.bx (some 19) (.t 15))]) (.seq (.seq (.reg [qr 16 (.fa 1 (.t 9)),qr 17 (.load none (.t 16)),qr 18 (.bin .neq (.t 17) (.c (.int .i64 2)))]) (.cond (.t 18) (.seq (.reg [qr 19 (.mv (.t 0)),qe 20 (.call 103 [.t 19,(.c (.int .i64 13))])]) (.seq (.reg [qr 21 (.build [.int .i64 0,.int .i64 0,.str ⟨#[]⟩] []),qu (.store 3 (.t 8) (.t 21))]) .ret)) .skip)) (.seq (.seq (.reg [qr 22 (.fa 7 (.t 9)),qr 23 (.fa 3 (.t 22)),qr 24 (.load none (.t 23)),qr 25 (.bin .gtr (.t 24) (.c (.int .i64 0))),qr 26 (.mv (.t 3)),qr 27 (.beq false (.t 25) (.t 26))]) (.cond (.t 27) (.reg [qr 28 (.mv (.t 0)),qe 29 (.call 103 [.t 28,(.c (.int .i64 14))])]) .skip)) (.seq (.seq (.reg [qr 30 (.fa 7 (.t 9)),qr 31 (.fa 4 (.t 30)),qr 32 (.load none (.t 31)),qr 33 (.len 1 (.t 32)),qr 34 (.fa 4 (.t 6)),qr 35 (.load none (.t 34)),qr 36 (.len 1 (.t 35)),qr 37 (.bin .neq (.t 33) (.t 36))]) (.cond (.t 37) (.reg [qr 38 (.mv (.t 0)),qe 39 (.call 103 [.t 38,(.c (.int .i64 15))])]) .skip)) (.seq (.seq (.reg [qr 10 (.mv (.c (.int .i64 0)))]) (.block 0 (.loop F133.c17))) (.seq (.reg [qr 105 (.fa 7 (.t 9)),qr 106 (.fa 3 (.t 105)),qr 107 (.load none (.t 106)),qr 108 (.build [.int .i64 0,.int .i64 0,.str ⟨#[]⟩] [(0,1,.t 107)]),qu (.store 3 (.t 8) (.t 108))]) .ret))))))
theorem F133.calls [GI] : CallsT Go.Proofs.Tryz.prog 133 109 F133.c0 [.cell 8 (some 3)] := acallsT [6] [9,11] 109 Go.Proofs.Tryz.func133 Go.Proofs.Tryz.ntmps133 (by kernel_rfl) (by kernel_rfl)
noncomputable def F69.c0 : CodeT Go.Proofs.Tryz.prog 148 [] [9,11] Go.Proofs.Tryz.f69 := ⟨_, by with_unfolding_all (conv => lhs; reduce)⟩
theorem F69.calls [GI] : CallsT Go.Proofs.Tryz.prog 69 148 F69.c0.1 [] := acallsT _ _ _ Go.Proofs.Tryz.func69 Go.Proofs.Tryz.ntmps69 F69.c0.2 (by kernel_rfl)
noncomputable def F42.c0 : CodeT Go.Proofs.Tryz.prog 45 [1] [] Go.Proofs.Tryz.f42 := ⟨_, by with_unfolding_all (conv => lhs; reduce)⟩
theorem F42.calls [GI] : CallsT Go.Proofs.Tryz.prog 42 45 F42.c0.1 [.tmp 2,.tmp 3] := acallsT _ _ _ Go.Proofs.Tryz.func42 Go.Proofs.Tryz.ntmps42 F42.c0.2 (by kernel_rfl)
end Pg

namespace Pg
open Go
set_option linter.unusedVariables false
structure Th where
 name : ByteArray
 kind : Int
 rcd : Rec
 r : Routine
 t : Typ
def noRec : Rec := ⟨[], [], noBytes, [], []⟩
def noRoutine : Routine := ⟨[], [], noBytes, 0, [], [], [], [], []⟩
def noTh : Th := ⟨noBytes, 0, noRec, noRoutine, noTyp⟩
def thVar (name : ByteArray) (t : Typ) : Th := ⟨name, 3, noRec, noRoutine, t⟩
def rFind (env : List Th) (name : ByteArray) : Th := (env.find? fun x => decide (x.name = name)).getD noTh
def rNew (env : List Th) (s : CS) (name : ByteArray) : CS := if (rFind env name).kind ≠ 0 then s.fail 12 else s
end Pg

namespace Pg
open Go
set_option linter.unusedSimpArgs false
set_option linter.unusedVariables false
set_option maxHeartbeats 4000000
set_option maxRecDepth 4000
end Pg

namespace Pg
open Go
set_option linter.unusedVariables false
def bytes (s : ByteArray) : List UInt8 := s.data.toList
def letter (c : Nat) (first : Bool) : Bool := (decide (97 ≤ c) && decide (c ≤ 122)) || (!first && (decide (c = 95) || (decide (48 ≤ c) && decide (c ≤ 57))))
def letters : Bool → List UInt8 → Bool
 | _, [] => true
 | f, c :: r => letter c.toNat f && letters false r
def nameCode (s : ByteArray) : Int := if s = noBytes then 11 else if letters true (bytes s) then (if 32 < s.size then 3 else 0) else 11
def words0 : List ByteArray := [⟨#[97, 110, 100]⟩, ⟨#[97, 114, 114, 97, 121]⟩, ⟨#[98, 101, 103, 105, 110]⟩, ⟨#[98, 111, 111, 108, 101, 97, 110]⟩, ⟨#[99, 104, 97, 114]⟩, ⟨#[100, 105, 118]⟩, ⟨#[100, 111]⟩, ⟨#[100, 111, 119, 110, 116, 111]⟩, ⟨#[101, 108, 115, 101]⟩, ⟨#[101, 110, 100]⟩, ⟨#[102, 97, 108, 115, 101]⟩, ⟨#[102, 111, 114]⟩, ⟨#[102, 111, 114, 119, 97, 114, 100]⟩, ⟨#[102, 117, 110, 99, 116, 105, 111, 110]⟩, ⟨#[105, 102]⟩, ⟨#[105, 110, 116, 101, 103, 101, 114]⟩, ⟨#[109, 111, 100]⟩, ⟨#[110, 111, 116]⟩, ⟨#[111, 102]⟩, ⟨#[111, 114]⟩, ⟨#[112, 114, 111, 99, 101, 100, 117, 114, 101]⟩, ⟨#[112, 114, 111, 103, 114, 97, 109]⟩, ⟨#[114, 101, 97, 100]⟩, ⟨#[114, 101, 99, 111, 114, 100]⟩, ⟨#[114, 101, 112, 101, 97, 116]⟩, ⟨#[114, 101, 116, 117, 114, 110]⟩, ⟨#[116, 104, 101, 110]⟩, ⟨#[116, 111]⟩, ⟨#[116, 114, 117, 101]⟩, ⟨#[116, 121, 112, 101]⟩, ⟨#[117, 110, 116, 105, 108]⟩, ⟨#[118, 97, 114]⟩, ⟨#[119, 104, 105, 108, 101]⟩, ⟨#[119, 114, 105, 116, 101]⟩]
def among (s : ByteArray) (l : List ByteArray) : Bool := l.any fun x => decide (x = s)
def tName (s : ByteArray) : Bool := decide (nameCode s = 0) && !among s words0
def noteByte (c : Nat) : Bool := decide (c = 9) || decide (c = 10) || (decide (32 ≤ c) && decide (c ≤ 126))
def tNote (s : ByteArray) : Bool := decide (s.size ≤ 1024) && (bytes s).all fun c => noteByte c.toNat
def tNotes (l : List ByteArray) : Bool := l.all tNote && decide (l.length ≤ 512)
def tMarks (before trail : List ByteArray) : Bool := tNotes before && tNotes trail
def tTyp (t : Typ) : Bool := if t.kind = 4 then decide (t.size = 0) && tName t.name else decide (1 ≤ t.kind) && decide (t.kind ≤ 3) && decide (0 ≤ t.size) && decide (t.size ≤ 64) && decide (t.name = noBytes)
mutual
def deep : Nat → Expr → Nat
 | n, ⟨op, k, name, field, l⟩ => deeps n l + 1
def deeps : Nat → List Expr → Nat
 | 0, _ => 0
 | n + 1, [] => 0
 | n + 1, x :: r => max (if x.op = 25 then 0 else deep n x) (deeps (n + 1) r)
end
def partsOk (x : Expr) : Bool :=
 (if x.op = 1 then decide (0 ≤ x.n) else if x.op = 2 then decide (x.n = 0) || decide (x.n = 1) else if x.op = 3 then decide (0 ≤ x.n) && decide (x.n ≤ 255) else decide (x.n = 0)) &&
 (if 4 ≤ x.op ∧ x.op ≤ 7 then tName x.name else decide (x.name = noBytes)) &&
 (if x.op = 6 then tName x.field else decide (x.field = noBytes)) &&
 decide ((x.l.length : Int) = if x.op = 7 then (x.l.length : Int) else if x.op = 5 ∨ x.op = 8 ∨ x.op = 9 then 1 else if 10 ≤ x.op then 2 else 0)
mutual
def form : Nat → Expr → Bool
 | 0, _ => false
 | n + 1, ⟨op, k, name, field, l⟩ => decide (l.length ≤ 512) && decide (1 ≤ op) && decide (op ≤ 24) && partsOk ⟨op, k, name, field, l⟩ && forms n l
def forms : Nat → List Expr → Bool
 | _, [] => true
 | n, x :: r => !decide (x.op = 25) && form n x && forms n r
end
def tExpr (x : Expr) : Bool := form 48 x && decide (deep 99 x ≤ 48)
def tPlace (x : Expr) : Bool := decide (4 ≤ x.op) && decide (x.op ≤ 6) && tExpr x
def tNone (x : Expr) : Bool := decide (x.op = 0) && decide (x.n = 0) && decide (x.name = noBytes) && decide (x.field = noBytes) && decide (x.l.length = 0)
def sMarks (x : Stmt) : Bool := tMarks x.before x.trail && tNotes x.end1 && tNotes x.end2 && decide (1 ≤ x.op) && decide (x.op ≤ 9)
def sCount (x : Stmt) : Bool := decide ((if x.op = 6 then 2 else if x.op = 7 then 0 else if x.op = 9 then 0 else 1) ≤ x.e.length) && decide (x.e.length ≤ if x.op = 6 then 2 else if x.op = 7 then 0 else 1)
def sExpr (x : Stmt) (y : Expr) : Bool := tExpr y && !(decide (x.op = 2) && !decide (y.op = 7))
def sPlace (x : Stmt) : Bool := if x.op = 1 ∨ x.op = 7 then tPlace x.p else tNone x.p
def sName (x : Stmt) : Bool := if x.op = 6 then tName x.name else decide (x.name = noBytes) && !x.down
def sMore (x : Stmt) : Bool := !(x.more && !decide (x.op = 3)) && !(!x.more && (decide (0 < x.els.length) || decide (0 < x.end2.length)))
def sBody (x : Stmt) : Bool := !((decide (x.op < 3) || decide (6 < x.op)) && (decide (0 < x.body.length) || decide (0 < x.end1.length)))
def tStmt1 (x : Stmt) : Bool := sMarks x && sCount x && x.e.all (sExpr x) && sPlace x && sName x && sMore x && sBody x
mutual
def tStmt : Stmt → Int → Bool
 | ⟨before, trail, op, name, p, e, down, more, body, els, end1, end2⟩, d => decide (d ≤ 48) && tStmt1 ⟨before, trail, op, name, p, e, down, more, body, els, end1, end2⟩ && (tStmts body (d + 1) && decide (body.length ≤ 512)) && (tStmts els (d + 1) && decide (els.length ≤ 512))
def tStmts : List Stmt → Int → Bool
 | [], _ => true
 | x :: r, d => tStmt x d && tStmts r d
end
def tVar (v : Var) : Bool := tMarks v.before v.trail && tName v.name && tTyp v.t
def tVars (l : List Var) : Bool := l.all tVar && decide (l.length ≤ 512)
def tParam (p : Param) : Bool :=
 tName p.name && tTyp p.t && decide (0 ≤ p.mode) && decide (p.mode ≤ 1) && !(decide (p.mode = 0) && (!decide (p.t.size = 0) || decide (p.t.kind = 4)))
def tParams (l : List Param) : Bool := l.all tParam && decide (l.length ≤ 512)
mutual
def tRoutine : List ByteArray → Routine → Int → Bool
 | ahead, ⟨before, trail, name, result, params, vars, inner, body, endd⟩, d =>
  decide (d ≤ 48) && tMarks before trail && tNotes endd && tName name && decide (0 ≤ result) && decide (result ≤ 3) && !among name ahead && tParams params && tVars vars && (tRoutines [] inner (d + 1) && decide (inner.length ≤ 512)) && (tStmts body 1 && decide (body.length ≤ 512))
def tRoutines : List ByteArray → List Routine → Int → Bool
 | _, [], _ => true
 | ahead, x :: r, d => tRoutine ahead x d && tRoutines (ahead ++ [x.name]) r d
end
def tFld (f : Fld) : Bool := tMarks f.before f.trail && tName f.name && decide (1 ≤ f.kind) && decide (f.kind ≤ 3)
def tRec (r : Rec) : Bool := tMarks r.before r.trail && tNotes r.endd && tName r.name && !decide (r.fields.length = 0) && decide (r.fields.length ≤ 512) && r.fields.all tFld
def tPrg (p : Prg) : Bool := tName p.name && tNotes p.before && tNotes p.mid && tNotes p.after && tNotes p.endd && decide (p.recs.length ≤ 512) && p.recs.all tRec && tVars p.vars && (tRoutines [] p.routines 1 && decide (p.routines.length ≤ 512)) && (tStmts p.body 1 && decide (p.body.length ≤ 512))
end Pg

namespace Pg
open Go
set_option linter.unusedSimpArgs false
set_option linter.unusedVariables false
set_option maxHeartbeats 1000000
set_option maxRecDepth 4000
end Pg
