import Derived.Test.YtdfbkddelhbgmaaGreatDoorK4S3
import Derived.Test.YtdfbkddelhbgmaaGreatDoorProg
import Derived.KernelRfl
namespace Pg
open Go Go.Proofs.Tryz
set_option maxRecDepth 100000
set_option maxHeartbeats 4000000
noncomputable def F79.c0 : aT prog 24 [] [] f79 := ⟨_, by with_unfolding_all (conv => lhs; reduce)⟩
theorem F79.calls [GI] : aJ prog 79 24 F79.c0.1 [.cell 4 (some 19)] := aG _ _ _ func79 ntmps79 F79.c0.2 (by kernel_rfl)
noncomputable def F80.c0 : aT prog 13 [] [] f80 := ⟨_, by with_unfolding_all (conv => lhs; reduce)⟩
theorem F80.calls [GI] : aJ prog 80 13 F80.c0.1 [] := aG _ _ _ func80 ntmps80 F80.c0.2 (by kernel_rfl)
noncomputable def F78.c0 : aT prog 15 [] [] f78 := ⟨_, by with_unfolding_all (conv => lhs; reduce)⟩
theorem F78.calls [GI] : aJ prog 78 15 F78.c0.1 [.tmp 2] := aG _ _ _ func78 ntmps78 F78.c0.2 (by kernel_rfl)
noncomputable def F81.c0 : aT prog 13 [3] [] f81 := ⟨_, by with_unfolding_all (conv => lhs; reduce)⟩
theorem F81.calls [GI] : aJ prog 81 13 F81.c0.1 [.tmp 4] := aG _ _ _ func81 ntmps81 F81.c0.2 (by kernel_rfl)
noncomputable def F82.c0 : aT prog 19 [5] [] f82 := ⟨_, by with_unfolding_all (conv => lhs; reduce)⟩
theorem F82.calls [GI] : aJ prog 82 19 F82.c0.1 [] := aG _ _ _ func82 ntmps82 F82.c0.2 (by kernel_rfl)
noncomputable def F33.c0 : aT prog 79 [] [] f33 := ⟨_, by with_unfolding_all (conv => lhs; reduce)⟩
theorem F33.calls [GI] : aJ prog 33 79 F33.c0.1 [.tmp 4] := aG _ _ _ func33 ntmps33 F33.c0.2 (by kernel_rfl)
noncomputable def F34.c0 : aT prog 73 [] [] f34 := ⟨_, by with_unfolding_all (conv => lhs; reduce)⟩
theorem F34.calls [GI] : aJ prog 34 73 F34.c0.1 [.tmp 8] := aG _ _ _ func34 ntmps34 F34.c0.2 (by kernel_rfl)
noncomputable def F37.c0 : aT prog 25 [] [] f37 := ⟨_, by with_unfolding_all (conv => lhs; reduce)⟩
theorem F37.calls [GI] : aJ prog 37 25 F37.c0.1 [.tmp 4] := aG _ _ _ func37 ntmps37 F37.c0.2 (by kernel_rfl)
noncomputable def F35.c0 : aT prog 113 [] [8] f35 := ⟨_, by with_unfolding_all (conv => lhs; reduce)⟩
theorem F35.calls [GI] : aJ prog 35 113 F35.c0.1 [] := aG _ _ _ func35 ntmps35 F35.c0.2 (by kernel_rfl)
noncomputable def F86.c0 : aT prog 19 [] [7] f86 := ⟨_, by with_unfolding_all (conv => lhs; reduce)⟩
theorem F86.calls [GI] : aJ prog 86 19 F86.c0.1 [.cell 6 (some 3)] := aG _ _ _ func86 ntmps86 F86.c0.2 (by kernel_rfl)
noncomputable def F84.c0 : aT prog 41 [6] [9] f84 := ⟨_, by with_unfolding_all (conv => lhs; reduce)⟩
theorem F84.calls [GI] : aJ prog 84 41 F84.c0.1 [.tmp 8] := aG _ _ _ func84 ntmps84 F84.c0.2 (by kernel_rfl)
noncomputable def F85.c0 : aT prog 181 [6] [9,10,11] f85 := ⟨_, by with_unfolding_all (conv => lhs; reduce)⟩
theorem F85.calls [GI] : aJ prog 85 181 F85.c0.1 [.cell 8 (some 3)] := aG _ _ _ func85 ntmps85 F85.c0.2 (by kernel_rfl)
def E0.c17 : RCode := .seq (.seq (.reg [qr 40 (.mv (.t 10)),qr 41 (.fa 4 (.t 6)),qr 42 (.load none (.t 41)),qr 43 (.len 1 (.t 42)),qr 44 (.bin .lss (.t 40) (.t 43)),qr 45 (.mv (.t 44)),qg 46 (.mv (.t 0)) 45 true,qg 47 (.vA (.t 46)) 45 true,qg 48 (.fa 1 (.t 47)) 45 true,qg 49 (.load none (.t 48)) 45 true,qg 50 (.bin .eql (.t 49) (.c (.int .i64 0))) 45 true,qr 51 (.pick (.t 45) (.t 50) (.c (.bool false)))]) (.cond (.t 51) .skip (.exit 0))) (.seq (.block 1 (.seq (.reg [qr 54 (.fa 7 (.t 9)),qr 55 (.fa 4 (.t 54)),qr 56 (.load none (.t 55)),qr 57 (.mv (.t 10)),qr 58 (.ia 5 (.t 56) (.t 57)),qr 59 (.load (some 5) (.t 58)),qr 11 (.bx (some 5) (.t 59))]) (.seq (.seq (.reg [qr 60 (.fa 4 (.t 11)),qr 61 (.load none (.t 60)),qr 62 (.bin .eql (.t 61) (.c (.int .i64 0)))]) (.cond (.t 62) (.seq (.nX [qr 63 (.mv (.t 0)),qr 64 (.mv (.t 1)),qr 65 (.fa 4 (.t 6)),qr 66 (.load none (.t 65)),qr 67 (.mv (.t 10)),qr 68 (.ia 5 (.t 66) (.t 67)),qr 69 (.load (some 5) (.t 68)),qr 70 (.fa 1 (.t 11)),qr 71 (.fa 0 (.t 70)),qr 72 (.load none (.t 71)),qe 73 (.call 84 [.t 63,.t 64,.t 69,.t 72])]) (.exit 1)) .skip)) (.seq (.seq (.reg [qr 74 (.fa 4 (.t 6)),qr 75 (.load none (.t 74)),qr 76 (.mv (.t 10)),qr 77 (.ia 5 (.t 75) (.t 76)),qr 78 (.fa 0 (.t 77)),qr 79 (.load none (.t 78)),qr 80 (.bin .lss (.t 79) (.c (.int .i64 4))),qr 81 (.mv (.t 80)),qg 82 (.fa 4 (.t 6)) 81 false,qg 83 (.load none (.t 82)) 81 false,qg 84 (.mv (.t 10)) 81 false,qg 85 (.ia 5 (.t 83) (.t 84)) 81 false,qg 86 (.fa 0 (.t 85)) 81 false,qg 87 (.load none (.t 86)) 81 false,qg 88 (.bin .gtr (.t 87) (.c (.int .i64 6))) 81 false,qr 89 (.pick (.t 81) (.c (.bool true)) (.t 88))]) (.cond (.t 89) (.reg [qr 90 (.mv (.t 0)),qe 91 (.call 80 [.t 90,(.c (.int .i64 14))])]) .skip)) (.seq (.nX [qr 92 (.mv (.t 0)),qr 93 (.mv (.t 1)),qr 94 (.fa 4 (.t 6)),qr 95 (.load none (.t 94)),qr 96 (.mv (.t 10)),qr 97 (.ia 5 (.t 95) (.t 96)),qr 98 (.load (some 5) (.t 97)),qr 100 (.fa 1 (.t 11)),qr 101 (.load (some 3) (.t 100)),qe 99 (.call 85 [.t 92,.t 93,.t 98,(.c (.bool false))]),qr 102 (.seq true [1,1,2] (.t 99) (.t 101))]) (.cond (.t 102) (.reg [qr 103 (.mv (.t 0)),qe 104 (.call 80 [.t 103,(.c (.int .i64 14))])]) .skip)))))) (.reg [qr 52 (.mv (.t 10)),qr 53 (.bin .add (.t 52) (.c (.int .i64 1))),qr 10 (.mv (.t 53))]))
def E0.c0 : RCode := .seq (.reg [qr 6 (.bx none (.t 2)),qe 8 (.alloc 51 [.int .i64 0,.int .i64 0,.str ⟨#[]⟩])]) (.seq (.reg [qr 12 (.mv (.t 1)),qr 13 (.fa 2 (.t 6)),qr 14 (.load none (.t 13)),qe 15 (.call 79 [.t 12,.t 14]),qr 9 (.bx (some 19) (.t 15))]) (.seq (.seq (.reg [qr 16 (.fa 1 (.t 9)),qr 17 (.load none (.t 16)),qr 18 (.bin .neq (.t 17) (.c (.int .i64 2)))]) (.cond (.t 18) (.seq (.reg [qr 19 (.mv (.t 0)),qe 20 (.call 80 [.t 19,(.c (.int .i64 13))])]) (.seq (.reg [qr 21 (.build [.int .i64 0,.int .i64 0,.str ⟨#[]⟩] []),qu (.store 3 (.t 8) (.t 21))]) .ret)) .skip)) (.seq (.seq (.reg [qr 22 (.fa 7 (.t 9)),qr 23 (.fa 3 (.t 22)),qr 24 (.load none (.t 23)),qr 25 (.bin .gtr (.t 24) (.c (.int .i64 0))),qr 26 (.mv (.t 3)),qr 27 (.beq false (.t 25) (.t 26))]) (.cond (.t 27) (.reg [qr 28 (.mv (.t 0)),qe 29 (.call 80 [.t 28,(.c (.int .i64 14))])]) .skip)) (.seq (.seq (.reg [qr 30 (.fa 7 (.t 9)),qr 31 (.fa 4 (.t 30)),qr 32 (.load none (.t 31)),qr 33 (.len 1 (.t 32)),qr 34 (.fa 4 (.t 6)),qr 35 (.load none (.t 34)),qr 36 (.len 1 (.t 35)),qr 37 (.bin .neq (.t 33) (.t 36))]) (.cond (.t 37) (.reg [qr 38 (.mv (.t 0)),qe 39 (.call 80 [.t 38,(.c (.int .i64 15))])]) .skip)) (.seq (.seq (.reg [qr 10 (.mv (.c (.int .i64 0)))]) (.block 0 (.loop E0.c17))) (.seq (.reg [qr 105 (.fa 7 (.t 9)),qr 106 (.fa 3 (.t 105)),qr 107 (.load none (.t 106)),qr 108 (.build [.int .i64 0,.int .i64 0,.str ⟨#[]⟩] [(0,1,.t 107)]),qu (.store 3 (.t 8) (.t 108))]) .ret))))))
theorem E0.calls [GI] : aJ prog 136 109 E0.c0 [.cell 8 (some 3)] := aG [6] [9,11] 109 func136 ntmps136 (by kernel_rfl) (by kernel_rfl)
noncomputable def F36.c0 : aT prog 148 [] [9,11] f36 := ⟨_, by with_unfolding_all (conv => lhs; reduce)⟩
theorem F36.calls [GI] : aJ prog 36 148 F36.c0.1 [] := aG _ _ _ func36 ntmps36 F36.c0.2 (by kernel_rfl)
noncomputable def F14.c0 : aT prog 45 [1] [] f14 := ⟨_, by with_unfolding_all (conv => lhs; reduce)⟩
theorem F14.calls [GI] : aJ prog 14 45 F14.c0.1 [.tmp 2,.tmp 3] := aG _ _ _ func14 ntmps14 F14.c0.2 (by kernel_rfl)
end Pg
