import Derived.Test.YtdfbkddelhbgmaaGreatDoorK4S3
import Derived.Test.YtdfbkddelhbgmaaGreatDoorProg
import Derived.KernelRfl
namespace Pg
open Go Go.Proofs.Tryz
set_option maxRecDepth 100000
set_option maxHeartbeats 4000000
noncomputable def F25.c0 : aT prog 69 [1] [] f25 := ⟨_, by with_unfolding_all (conv => lhs; reduce)⟩
theorem F25.calls [GI] : aJ prog 25 69 F25.c0.1 [.tmp 2,.tmp 3] := aG _ _ _ func25 ntmps25 F25.c0.2 (by kernel_rfl)
noncomputable def IV.c0 : aT prog 5 [] [] f140 := ⟨_, by with_unfolding_all (conv => lhs; reduce)⟩
theorem IV.calls [GI] : aJ prog 140 5 IV.c0.1 [.tmp 2] := aG _ _ _ func140 ntmps140 IV.c0.2 (by kernel_rfl)
noncomputable def SB.c0 : aT prog 25 [1] [] f173 := ⟨_, by with_unfolding_all (conv => lhs; reduce)⟩
theorem SB.calls [GI] : aJ prog 173 25 SB.c0.1 [.tmp 2] := aG _ _ _ func173 ntmps173 SB.c0.2 (by kernel_rfl)
noncomputable def TG.c0 : aT prog 9 [] [] f120 := ⟨_, by with_unfolding_all (conv => lhs; reduce)⟩
theorem TG.calls [GI] : aJ prog 120 9 TG.c0.1 [.tmp 4] := aG _ _ _ func120 ntmps120 TG.c0.2 (by kernel_rfl)
noncomputable def SK.c0 : aT prog 19 [] [] f160 := ⟨_, by with_unfolding_all (conv => lhs; reduce)⟩
theorem SK.calls [GI] : aJ prog 160 19 SK.c0.1 [.tmp 4] := aG _ _ _ func160 ntmps160 SK.c0.2 (by kernel_rfl)
noncomputable def F83.c0 : aT prog 47 [] [] f83 := ⟨_, by with_unfolding_all (conv => lhs; reduce)⟩
theorem F83.calls [GI] : aJ prog 83 47 F83.c0.1 [.tmp 2] := aG _ _ _ func83 ntmps83 F83.c0.2 (by kernel_rfl)
noncomputable def F55.c0 : aT prog 7 [6] [] f55 := ⟨_, by with_unfolding_all (conv => lhs; reduce)⟩
theorem F55.calls [GI] : aJ prog 55 7 F55.c0.1 [.tmp 2] := aG _ _ _ func55 ntmps55 F55.c0.2 (by kernel_rfl)
noncomputable def F56.c0 : aT prog 15 [] [] f56 := ⟨_, by with_unfolding_all (conv => lhs; reduce)⟩
theorem F56.calls [GI] : aJ prog 56 15 F56.c0.1 [.tmp 2] := aG _ _ _ func56 ntmps56 F56.c0.2 (by kernel_rfl)
noncomputable def F57.c0 : aT prog 29 [5] [6] f57 := ⟨_, by with_unfolding_all (conv => lhs; reduce)⟩
theorem F57.calls [GI] : aJ prog 57 29 F57.c0.1 [] := aG _ _ _ func57 ntmps57 F57.c0.2 (by kernel_rfl)
noncomputable def F58.c0 : aT prog 33 [1] [5,7] f58 := ⟨_, by with_unfolding_all (conv => lhs; reduce)⟩
theorem F58.calls [GI] : aJ prog 58 33 F58.c0.1 [.tmp 2] := aG _ _ _ func58 ntmps58 F58.c0.2 (by kernel_rfl)
noncomputable def F59.c0 : aT prog 13 [] [] f59 := ⟨_, by with_unfolding_all (conv => lhs; reduce)⟩
theorem F59.calls [GI] : aJ prog 59 13 F59.c0.1 [] := aG _ _ _ func59 ntmps59 F59.c0.2 (by kernel_rfl)
noncomputable def F60.c0 : aT prog 34 [] [7] f60 := ⟨_, by with_unfolding_all (conv => lhs; reduce)⟩
theorem F60.calls [GI] : aJ prog 60 34 F60.c0.1 [] := aG _ _ _ func60 ntmps60 F60.c0.2 (by kernel_rfl)
noncomputable def F97.c0 : aT prog 9 [2] [] f97 := ⟨_, by with_unfolding_all (conv => lhs; reduce)⟩
theorem F97.calls [GI] : aJ prog 97 9 F97.c0.1 [.tmp 3] := aG _ _ _ func97 ntmps97 F97.c0.2 (by kernel_rfl)
noncomputable def F61.c0 : aT prog 81 [] [8] f61 := ⟨_, by with_unfolding_all (conv => lhs; reduce)⟩
theorem F61.calls [GI] : aJ prog 61 81 F61.c0.1 [] := aG _ _ _ func61 ntmps61 F61.c0.2 (by kernel_rfl)
noncomputable def F62.c0 : aT prog 27 [] [5] f62 := ⟨_, by with_unfolding_all (conv => lhs; reduce)⟩
theorem F62.calls [GI] : aJ prog 62 27 F62.c0.1 [] := aG _ _ _ func62 ntmps62 F62.c0.2 (by kernel_rfl)
noncomputable def F95.c0 : aT prog 28 [] [7] f95 := ⟨_, by with_unfolding_all (conv => lhs; reduce)⟩
theorem F95.calls [GI] : aJ prog 95 28 F95.c0.1 [.cell 4 (some 6),.tmp 5] := aG _ _ _ func95 ntmps95 F95.c0.2 (by kernel_rfl)
noncomputable def F96.c0 : aT prog 9 [] [] f96 := ⟨_, by with_unfolding_all (conv => lhs; reduce)⟩
theorem F96.calls [GI] : aJ prog 96 9 F96.c0.1 [.tmp 4] := aG _ _ _ func96 ntmps96 F96.c0.2 (by kernel_rfl)
noncomputable def S4.c0 : aT prog 19 [] [] f139 := ⟨_, by with_unfolding_all (conv => lhs; reduce)⟩
theorem S4.calls [GI] : aJ prog 139 19 S4.c0.1 [.tmp 4] := aG _ _ _ func139 ntmps139 S4.c0.2 (by kernel_rfl)
noncomputable def F98.c0 : aT prog 28 [3] [4] f98 := ⟨_, by with_unfolding_all (conv => lhs; reduce)⟩
theorem F98.calls [GI] : aJ prog 98 28 F98.c0.1 [] := aG _ _ _ func98 ntmps98 F98.c0.2 (by kernel_rfl)
noncomputable def F99.c0 : aT prog 77 [] [5] f99 := ⟨_, by with_unfolding_all (conv => lhs; reduce)⟩
theorem F99.calls [GI] : aJ prog 99 77 F99.c0.1 [] := aG _ _ _ func99 ntmps99 F99.c0.2 (by kernel_rfl)
noncomputable def T0.c0 : aT prog 85 [3] [6,7,9] f100 := ⟨_, by with_unfolding_all (conv => lhs; reduce)⟩
theorem T0.calls [GI] : aJ prog 100 85 T0.c0.1 [] := aG _ _ _ func100 ntmps100 T0.c0.2 (by kernel_rfl)
noncomputable def S1.c0 : aT prog 11 [4] [] f141 := ⟨_, by with_unfolding_all (conv => lhs; reduce)⟩
theorem S1.calls [GI] : aJ prog 141 11 S1.c0.1 [.tmp 6] := aG _ _ _ func141 ntmps141 S1.c0.2 (by kernel_rfl)
noncomputable def S0.c0 : aT prog 20 [] [7] f142 := ⟨_, by with_unfolding_all (conv => lhs; reduce)⟩
theorem S0.calls [GI] : aJ prog 142 20 S0.c0.1 [] := aG _ _ _ func142 ntmps142 S0.c0.2 (by kernel_rfl)
noncomputable def SZ.c0 : aT prog 169 [4] [7,8] f143 := ⟨_, by with_unfolding_all (conv => lhs; reduce)⟩
theorem SZ.calls [GI] : aJ prog 143 169 SZ.c0.1 [.cell 6 (some 3)] := aG _ _ _ func143 ntmps143 SZ.c0.2 (by kernel_rfl)
noncomputable def SY.c0 : aT prog 27 [] [5] f144 := ⟨_, by with_unfolding_all (conv => lhs; reduce)⟩
theorem SY.calls [GI] : aJ prog 144 27 SY.c0.1 [.cell 4 (some 3)] := aG _ _ _ func144 ntmps144 SY.c0.2 (by kernel_rfl)
noncomputable def SX.c0 : aT prog 9 [3] [] f145 := ⟨_, by with_unfolding_all (conv => lhs; reduce)⟩
theorem SX.calls [GI] : aJ prog 145 9 SX.c0.1 [.tmp 4] := aG _ _ _ func145 ntmps145 SX.c0.2 (by kernel_rfl)
noncomputable def SW.c0 : aT prog 40 [3] [] f146 := ⟨_, by with_unfolding_all (conv => lhs; reduce)⟩
theorem SW.calls [GI] : aJ prog 146 40 SW.c0.1 [] := aG _ _ _ func146 ntmps146 SW.c0.2 (by kernel_rfl)
noncomputable def SA.c0 : aT prog 25 [4] [7] f174 := ⟨_, by with_unfolding_all (conv => lhs; reduce)⟩
theorem SA.calls [GI] : aJ prog 174 25 SA.c0.1 [.tmp 6] := aG _ _ _ func174 ntmps174 SA.c0.2 (by kernel_rfl)
noncomputable def R9.c0 : aT prog 51 [4] [7,10] f175 := ⟨_, by with_unfolding_all (conv => lhs; reduce)⟩
theorem R9.calls [GI] : aJ prog 175 51 R9.c0.1 [.tmp 6] := aG _ _ _ func175 ntmps175 R9.c0.2 (by kernel_rfl)
def EZ.c19 : RCode := .seq (.reg [qr 66 (.bin .lss (.t 65) (.t 64))]) (.seq (.cond (.t 66) .skip (.exit 1)) (.seq (.block 2 (.seq (.reg [qr 67 (.mv (.t 65)),qr 68 (.ia 5 (.t 63) (.t 65)),qr 69 (.load (some 5) (.t 68)),qr 9 (.mv (.t 67)),qr 10 (.bx (some 5) (.t 69))]) (.seq (.seq (.reg [qr 70 (.mv (.t 0)),qr 71 (.vA (.t 70)),qr 72 (.fa 2 (.t 71)),qr 73 (.load none (.t 72)),qr 74 (.bin .neq (.t 73) (.c (.int .i64 0))),qr 75 (.mv (.t 74)),qg 76 (.mv (.t 9)) 75 false,qg 77 (.fa 4 (.t 4)) 75 false,qg 78 (.load none (.t 77)) 75 false,qg 79 (.len 1 (.t 78)) 75 false,qg 80 (.bin .geq (.t 76) (.t 79)) 75 false,qr 81 (.pick (.t 75) (.c (.bool true)) (.t 80))]) (.cond (.t 81) (.exit 1) .skip)) (.seq (.seq (.reg [qr 82 (.fa 4 (.t 10)),qr 83 (.load none (.t 82)),qr 84 (.bin .eql (.t 83) (.c (.int .i64 0)))]) (.cond (.t 84) (.seq (.nX [qr 85 (.mv (.t 0)),qr 86 (.fa 4 (.t 4)),qr 87 (.load none (.t 86)),qr 88 (.mv (.t 9)),qr 89 (.ia 5 (.t 87) (.t 88)),qr 90 (.load (some 5) (.t 89)),qr 91 (.fa 1 (.t 10)),qr 92 (.fa 0 (.t 91)),qr 93 (.load none (.t 92)),qr 94 (.bsl 1 1 [.int .i64 0] [(0,1,.t 93)]),qe 95 (.call 174 [.t 85,.t 90,.t 94])]) (.exit 2)) .skip)) (.seq (.seq (.reg [qr 96 (.fa 4 (.t 4)),qr 97 (.load none (.t 96)),qr 98 (.mv (.t 9)),qr 99 (.ia 5 (.t 97) (.t 98)),qr 100 (.fa 0 (.t 99)),qr 101 (.load none (.t 100)),qr 11 (.mv (.t 101))]) (.seq (.reg [qr 102 (.mv (.t 11)),qr 103 (.bin .neq (.t 102) (.c (.int .i64 4))),qr 104 (.mv (.t 103)),qg 105 (.mv (.t 11)) 104 true,qg 106 (.bin .neq (.t 105) (.c (.int .i64 5))) 104 true,qr 107 (.pick (.t 104) (.t 106) (.c (.bool false))),qr 108 (.mv (.t 107)),qg 109 (.mv (.t 11)) 108 true,qg 110 (.bin .neq (.t 109) (.c (.int .i64 6))) 108 true,qr 111 (.pick (.t 108) (.t 110) (.c (.bool false)))]) (.cond (.t 111) (.reg [qr 112 (.mv (.t 0)),qe 113 (.call 59 [.t 112,(.c (.int .i64 14))])]) .skip))) (.seq (.reg [qr 114 (.mv (.t 0)),qr 115 (.fa 4 (.t 4)),qr 116 (.load none (.t 115)),qr 117 (.mv (.t 9)),qr 118 (.ia 5 (.t 116) (.t 117)),qr 119 (.load (some 5) (.t 118)),qe 120 (.call 143 [.t 114,.t 119,(.c (.bool false))]),qr 12 (.bx (some 3) (.t 120))]) (.seq (.reg [qr 121 (.load (some 3) (.t 12)),qr 122 (.fa 1 (.t 10)),qr 123 (.load (some 3) (.t 122)),qr 124 (.seq true [1,1,2] (.t 121) (.t 123))]) (.cond (.t 124) (.reg [qr 125 (.mv (.t 0)),qe 126 (.call 59 [.t 125,(.c (.int .i64 14))])]) .skip)))))))) (.reg [qr 127 (.bin .add (.t 65) (.c (.int .i64 1))),qr 65 (.mv (.t 127))])))
def EZ.c0 : RCode := .seq (.reg [qr 4 (.bx none (.t 1)),qe 6 (.alloc 51 [.int .i64 0,.int .i64 0,.str ⟨#[]⟩])]) (.seq (.frz (.nX [qr 14 (.mv (.t 0)),qr 15 (.vA (.t 14)),qr 16 (.fa 0 (.t 15)),qr 17 (.load none (.t 16)),qr 18 (.fa 2 (.t 4)),qr 19 (.load none (.t 18)),qe 20 (.call 95 [.t 17,.t 19]),qr 13 (.mv (.t 20)),qr 21 (.ext (.t 13) 0),qr 22 (.ext (.t 13) 1),qe 7 (.alloc 126 [.int .i64 0,.ptr none,.ptr none,.int .i64 0,.int .i64 0,.str ⟨#[]⟩]),qu (.store 6 (.t 7) (.t 21)),qr 8 (.mv (.t 22))]) [7]) (.seq (.block 0 (.seq (.reg [qr 24 (.mv (.t 8)),qr 25 (.un .not (.t 24)),qr 26 (.mv (.t 25)),qg 27 (.fa 0 (.t 7)) 26 false,qg 28 (.load none (.t 27)) 26 false,qg 29 (.bin .neq (.t 28) (.c (.int .i64 2))) 26 false,qr 30 (.pick (.t 26) (.c (.bool true)) (.t 29)),qr 23 (.mv (.t 30))]) (.cond (.t 23) (.seq (.reg [qr 31 (.mv (.t 0)),qe 32 (.call 59 [.t 31,(.c (.int .i64 13))])]) (.seq (.reg [qr 33 (.build [.int .i64 0,.int .i64 0,.str ⟨#[]⟩] []),qu (.store 3 (.t 6) (.t 33))]) .ret)) (.seq (.reg [qr 35 (.fa 2 (.t 7)),qr 36 (.load none (.t 35)),qr 37 (.vA (.t 36)),qr 38 (.fa 3 (.t 37)),qr 39 (.load none (.t 38)),qr 40 (.bin .gtr (.t 39) (.c (.int .i64 0))),qr 41 (.mv (.t 2)),qr 42 (.beq false (.t 40) (.t 41)),qr 34 (.mv (.t 42))]) (.cond (.t 34) (.reg [qr 43 (.mv (.t 0)),qe 44 (.call 59 [.t 43,(.c (.int .i64 14))])]) (.seq (.nX [qr 46 (.fa 2 (.t 7)),qr 47 (.load none (.t 46)),qr 48 (.vA (.t 47)),qr 49 (.fa 4 (.t 48)),qr 50 (.load none (.t 49)),qr 51 (.len 1 (.t 50)),qr 52 (.fa 4 (.t 4)),qr 53 (.load none (.t 52)),qr 54 (.len 1 (.t 53)),qr 55 (.bin .neq (.t 51) (.t 54)),qr 45 (.mv (.t 55))]) (.cond (.t 45) (.seq (.reg [qr 56 (.mv (.t 0)),qe 57 (.call 59 [.t 56,(.c (.int .i64 15))])]) (.seq (.reg [qr 58 (.build [.int .i64 0,.int .i64 0,.str ⟨#[]⟩] []),qu (.store 3 (.t 6) (.t 58))]) .ret)) .skip))))))) (.seq (.seq (.reg [qr 59 (.fa 2 (.t 7)),qr 60 (.load none (.t 59)),qr 61 (.vA (.t 60)),qr 62 (.fa 4 (.t 61)),qr 63 (.load none (.t 62)),qr 64 (.len 1 (.t 63)),qr 65 (.mv (.c (.int .i64 0)))]) (.block 1 (.loop EZ.c19))) (.seq (.reg [qr 128 (.fa 2 (.t 7)),qr 129 (.load none (.t 128)),qr 130 (.vA (.t 129)),qr 131 (.fa 3 (.t 130)),qr 132 (.load none (.t 131)),qr 133 (.build [.int .i64 0,.int .i64 0,.str ⟨#[]⟩] [(0,1,.t 132)]),qu (.store 3 (.t 6) (.t 133))]) .ret))))
theorem EZ.calls [GI] : aJ prog 176 134 EZ.c0 [.cell 6 (some 3)] := aG [4] [7,10,12] 134 func176 ntmps176 (by kernel_rfl) (by kernel_rfl)
noncomputable def RX.c0 : aT prog 9 [] [] f192 := ⟨_, by with_unfolding_all (conv => lhs; reduce)⟩
theorem RX.calls [GI] : aJ prog 192 9 RX.c0.1 [.tmp 4] := aG _ _ _ func192 ntmps192 RX.c0.2 (by kernel_rfl)
noncomputable def RU.c0 : aT prog 19 [] [] f202 := ⟨_, by with_unfolding_all (conv => lhs; reduce)⟩
theorem RU.calls [GI] : aJ prog 202 19 RU.c0.1 [.tmp 4] := aG _ _ _ func202 ntmps202 RU.c0.2 (by kernel_rfl)
end Pg
