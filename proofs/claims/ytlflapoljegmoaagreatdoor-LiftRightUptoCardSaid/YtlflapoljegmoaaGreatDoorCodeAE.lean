import Derived.Test.YtlflapoljegmoaaGreatDoorK4E
import Derived.Test.YtlflapoljegmoaaGreatDoorProg
import Derived.KernelRfl
namespace Pg
open Go Go.Proofs.Tryz
set_option maxRecDepth 100000
noncomputable def F55.c0 : CodeT prog 69 [1] [] f55 := ⟨_, by with_unfolding_all (conv => lhs; reduce)⟩
theorem F55.calls [GI] : CallsT prog 55 69 F55.c0.1 [.tmp 2,.tmp 3] := acallsT _ _ _ func55 ntmps55 F55.c0.2 (by kernel_rfl)
noncomputable def F135.c0 : CodeT prog 5 [] [] f135 := ⟨_, by with_unfolding_all (conv => lhs; reduce)⟩
theorem F135.calls [GI] : CallsT prog 135 5 F135.c0.1 [.tmp 2] := acallsT _ _ _ func135 ntmps135 F135.c0.2 (by kernel_rfl)
noncomputable def F150.c0 : CodeT prog 25 [1] [] f150 := ⟨_, by with_unfolding_all (conv => lhs; reduce)⟩
theorem F150.calls [GI] : CallsT prog 150 25 F150.c0.1 [.tmp 2] := acallsT _ _ _ func150 ntmps150 F150.c0.2 (by kernel_rfl)
noncomputable def F149.c0 : CodeT prog 9 [] [] f149 := ⟨_, by with_unfolding_all (conv => lhs; reduce)⟩
theorem F149.calls [GI] : CallsT prog 149 9 F149.c0.1 [.tmp 4] := acallsT _ _ _ func149 ntmps149 F149.c0.2 (by kernel_rfl)
noncomputable def F160.c0 : CodeT prog 19 [] [] f160 := ⟨_, by with_unfolding_all (conv => lhs; reduce)⟩
theorem F160.calls [GI] : CallsT prog 160 19 F160.c0.1 [.tmp 4] := acallsT _ _ _ func160 ntmps160 F160.c0.2 (by kernel_rfl)
noncomputable def F106.c0 : CodeT prog 47 [] [] f106 := ⟨_, by with_unfolding_all (conv => lhs; reduce)⟩
theorem F106.calls [GI] : CallsT prog 106 47 F106.c0.1 [.tmp 2] := acallsT _ _ _ func106 ntmps106 F106.c0.2 (by kernel_rfl)
noncomputable def F78.c0 : CodeT prog 7 [6] [] f78 := ⟨_, by with_unfolding_all (conv => lhs; reduce)⟩
theorem F78.calls [GI] : CallsT prog 78 7 F78.c0.1 [.tmp 2] := acallsT _ _ _ func78 ntmps78 F78.c0.2 (by kernel_rfl)
noncomputable def F79.c0 : CodeT prog 15 [] [] f79 := ⟨_, by with_unfolding_all (conv => lhs; reduce)⟩
theorem F79.calls [GI] : CallsT prog 79 15 F79.c0.1 [.tmp 2] := acallsT _ _ _ func79 ntmps79 F79.c0.2 (by kernel_rfl)
noncomputable def F80.c0 : CodeT prog 29 [5] [6] f80 := ⟨_, by with_unfolding_all (conv => lhs; reduce)⟩
theorem F80.calls [GI] : CallsT prog 80 29 F80.c0.1 [] := acallsT _ _ _ func80 ntmps80 F80.c0.2 (by kernel_rfl)
noncomputable def F81.c0 : CodeT prog 33 [1] [5,7] f81 := ⟨_, by with_unfolding_all (conv => lhs; reduce)⟩
theorem F81.calls [GI] : CallsT prog 81 33 F81.c0.1 [.tmp 2] := acallsT _ _ _ func81 ntmps81 F81.c0.2 (by kernel_rfl)
noncomputable def F82.c0 : CodeT prog 13 [] [] f82 := ⟨_, by with_unfolding_all (conv => lhs; reduce)⟩
theorem F82.calls [GI] : CallsT prog 82 13 F82.c0.1 [] := acallsT _ _ _ func82 ntmps82 F82.c0.2 (by kernel_rfl)
noncomputable def F83.c0 : CodeT prog 34 [] [7] f83 := ⟨_, by with_unfolding_all (conv => lhs; reduce)⟩
theorem F83.calls [GI] : CallsT prog 83 34 F83.c0.1 [] := acallsT _ _ _ func83 ntmps83 F83.c0.2 (by kernel_rfl)
noncomputable def F114.c0 : CodeT prog 9 [2] [] f114 := ⟨_, by with_unfolding_all (conv => lhs; reduce)⟩
theorem F114.calls [GI] : CallsT prog 114 9 F114.c0.1 [.tmp 3] := acallsT _ _ _ func114 ntmps114 F114.c0.2 (by kernel_rfl)
noncomputable def F84.c0 : CodeT prog 81 [] [8] f84 := ⟨_, by with_unfolding_all (conv => lhs; reduce)⟩
theorem F84.calls [GI] : CallsT prog 84 81 F84.c0.1 [] := acallsT _ _ _ func84 ntmps84 F84.c0.2 (by kernel_rfl)
noncomputable def F85.c0 : CodeT prog 27 [] [5] f85 := ⟨_, by with_unfolding_all (conv => lhs; reduce)⟩
theorem F85.calls [GI] : CallsT prog 85 27 F85.c0.1 [] := acallsT _ _ _ func85 ntmps85 F85.c0.2 (by kernel_rfl)
noncomputable def F112.c0 : CodeT prog 28 [] [7] f112 := ⟨_, by with_unfolding_all (conv => lhs; reduce)⟩
theorem F112.calls [GI] : CallsT prog 112 28 F112.c0.1 [.cell 4 (some 6),.tmp 5] := acallsT _ _ _ func112 ntmps112 F112.c0.2 (by kernel_rfl)
noncomputable def F113.c0 : CodeT prog 9 [] [] f113 := ⟨_, by with_unfolding_all (conv => lhs; reduce)⟩
theorem F113.calls [GI] : CallsT prog 113 9 F113.c0.1 [.tmp 4] := acallsT _ _ _ func113 ntmps113 F113.c0.2 (by kernel_rfl)
noncomputable def F134.c0 : CodeT prog 19 [] [] f134 := ⟨_, by with_unfolding_all (conv => lhs; reduce)⟩
theorem F134.calls [GI] : CallsT prog 134 19 F134.c0.1 [.tmp 4] := acallsT _ _ _ func134 ntmps134 F134.c0.2 (by kernel_rfl)
noncomputable def F115.c0 : CodeT prog 28 [3] [4] f115 := ⟨_, by with_unfolding_all (conv => lhs; reduce)⟩
theorem F115.calls [GI] : CallsT prog 115 28 F115.c0.1 [] := acallsT _ _ _ func115 ntmps115 F115.c0.2 (by kernel_rfl)
noncomputable def F116.c0 : CodeT prog 77 [] [5] f116 := ⟨_, by with_unfolding_all (conv => lhs; reduce)⟩
theorem F116.calls [GI] : CallsT prog 116 77 F116.c0.1 [] := acallsT _ _ _ func116 ntmps116 F116.c0.2 (by kernel_rfl)
noncomputable def F117.c0 : CodeT prog 85 [3] [6,7,9] f117 := ⟨_, by with_unfolding_all (conv => lhs; reduce)⟩
theorem F117.calls [GI] : CallsT prog 117 85 F117.c0.1 [] := acallsT _ _ _ func117 ntmps117 F117.c0.2 (by kernel_rfl)
noncomputable def F136.c0 : CodeT prog 11 [4] [] f136 := ⟨_, by with_unfolding_all (conv => lhs; reduce)⟩
theorem F136.calls [GI] : CallsT prog 136 11 F136.c0.1 [.tmp 6] := acallsT _ _ _ func136 ntmps136 F136.c0.2 (by kernel_rfl)
noncomputable def F137.c0 : CodeT prog 20 [] [7] f137 := ⟨_, by with_unfolding_all (conv => lhs; reduce)⟩
theorem F137.calls [GI] : CallsT prog 137 20 F137.c0.1 [] := acallsT _ _ _ func137 ntmps137 F137.c0.2 (by kernel_rfl)
noncomputable def F138.c0 : CodeT prog 169 [4] [7,8] f138 := ⟨_, by with_unfolding_all (conv => lhs; reduce)⟩
theorem F138.calls [GI] : CallsT prog 138 169 F138.c0.1 [.cell 6 (some 3)] := acallsT _ _ _ func138 ntmps138 F138.c0.2 (by kernel_rfl)
noncomputable def F139.c0 : CodeT prog 27 [] [5] f139 := ⟨_, by with_unfolding_all (conv => lhs; reduce)⟩
theorem F139.calls [GI] : CallsT prog 139 27 F139.c0.1 [.cell 4 (some 3)] := acallsT _ _ _ func139 ntmps139 F139.c0.2 (by kernel_rfl)
noncomputable def F140.c0 : CodeT prog 9 [3] [] f140 := ⟨_, by with_unfolding_all (conv => lhs; reduce)⟩
theorem F140.calls [GI] : CallsT prog 140 9 F140.c0.1 [.tmp 4] := acallsT _ _ _ func140 ntmps140 F140.c0.2 (by kernel_rfl)
noncomputable def F141.c0 : CodeT prog 40 [3] [] f141 := ⟨_, by with_unfolding_all (conv => lhs; reduce)⟩
theorem F141.calls [GI] : CallsT prog 141 40 F141.c0.1 [] := acallsT _ _ _ func141 ntmps141 F141.c0.2 (by kernel_rfl)
noncomputable def F151.c0 : CodeT prog 25 [4] [7] f151 := ⟨_, by with_unfolding_all (conv => lhs; reduce)⟩
theorem F151.calls [GI] : CallsT prog 151 25 F151.c0.1 [.tmp 6] := acallsT _ _ _ func151 ntmps151 F151.c0.2 (by kernel_rfl)
noncomputable def F152.c0 : CodeT prog 51 [4] [7,10] f152 := ⟨_, by with_unfolding_all (conv => lhs; reduce)⟩
theorem F152.calls [GI] : CallsT prog 152 51 F152.c0.1 [.tmp 6] := acallsT _ _ _ func152 ntmps152 F152.c0.2 (by kernel_rfl)
def F153.c19 : RCode := .seq (.reg [qr 66 (.bin .lss (.t 65) (.t 64))]) (.seq (.cond (.t 66) .skip (.exit 1)) (.seq (.block 2 (.seq (.reg [qr 67 (.mv (.t 65)),qr 68 (.ia 5 (.t 63) (.t 65)),qr 69 (.load (some 5) (.t 68)),qr 9 (.mv (.t 67)),qr 10 (.bx (some 5) (.t 69))]) (.seq (.seq (.reg [qr 70 (.mv (.t 0)),qr 71 (.nilc (.t 70)),qr 72 (.fa 2 (.t 71)),qr 73 (.load none (.t 72)),qr 74 (.bin .neq (.t 73) (.c (.int .i64 0))),qr 75 (.mv (.t 74)),qg 76 (.mv (.t 9)) 75 false,qg 77 (.fa 4 (.t 4)) 75 false,qg 78 (.load none (.t 77)) 75 false,qg 79 (.len 1 (.t 78)) 75 false,qg 80 (.bin .geq (.t 76) (.t 79)) 75 false,qr 81 (.pick (.t 75) (.c (.bool true)) (.t 80))]) (.cond (.t 81) (.exit 1) .skip)) (.seq (.seq (.reg [qr 82 (.fa 4 (.t 10)),qr 83 (.load none (.t 82)),qr 84 (.bin .eql (.t 83) (.c (.int .i64 0)))]) (.cond (.t 84) (.seq (.dreg [qr 85 (.mv (.t 0)),qr 86 (.fa 4 (.t 4)),qr 87 (.load none (.t 86)),qr 88 (.mv (.t 9)),qr 89 (.ia 5 (.t 87) (.t 88)),qr 90 (.load (some 5) (.t 89)),qr 91 (.fa 1 (.t 10)),qr 92 (.fa 0 (.t 91)),qr 93 (.load none (.t 92)),qr 94 (.bsl 1 1 [.int .i64 0] [(0,1,.t 93)]),qe 95 (.call 151 [.t 85,.t 90,.t 94])]) (.exit 2)) .skip)) (.seq (.seq (.reg [qr 96 (.fa 4 (.t 4)),qr 97 (.load none (.t 96)),qr 98 (.mv (.t 9)),qr 99 (.ia 5 (.t 97) (.t 98)),qr 100 (.fa 0 (.t 99)),qr 101 (.load none (.t 100)),qr 11 (.mv (.t 101))]) (.seq (.reg [qr 102 (.mv (.t 11)),qr 103 (.bin .neq (.t 102) (.c (.int .i64 4))),qr 104 (.mv (.t 103)),qg 105 (.mv (.t 11)) 104 true,qg 106 (.bin .neq (.t 105) (.c (.int .i64 5))) 104 true,qr 107 (.pick (.t 104) (.t 106) (.c (.bool false))),qr 108 (.mv (.t 107)),qg 109 (.mv (.t 11)) 108 true,qg 110 (.bin .neq (.t 109) (.c (.int .i64 6))) 108 true,qr 111 (.pick (.t 108) (.t 110) (.c (.bool false)))]) (.cond (.t 111) (.reg [qr 112 (.mv (.t 0)),qe 113 (.call 82 [.t 112,(.c (.int .i64 14))])]) .skip))) (.seq (.reg [qr 114 (.mv (.t 0)),qr 115 (.fa 4 (.t 4)),qr 116 (.load none (.t 115)),qr 117 (.mv (.t 9)),qr 118 (.ia 5 (.t 116) (.t 117)),qr 119 (.load (some 5) (.t 118)),qe 120 (.call 138 [.t 114,.t 119,(.c (.bool false))]),qr 12 (.bx (some 3) (.t 120))]) (.seq (.reg [qr 121 (.load (some 3) (.t 12)),qr 122 (.fa 1 (.t 10)),qr 123 (.load (some 3) (.t 122)),qr 124 (.seq true [1,1,2] (.t 121) (.t 123))]) (.cond (.t 124) (.reg [qr 125 (.mv (.t 0)),qe 126 (.call 82 [.t 125,(.c (.int .i64 14))])]) .skip)))))))) (.reg [qr 127 (.bin .add (.t 65) (.c (.int .i64 1))),qr 65 (.mv (.t 127))])))
def F153.c0 : RCode := .seq (.reg [qr 4 (.bx none (.t 1)),qe 6 (.alloc 80 [.int .i64 0,.int .i64 0,.str ⟨#[]⟩])]) (.seq (.frz (.dreg [qr 14 (.mv (.t 0)),qr 15 (.nilc (.t 14)),qr 16 (.fa 0 (.t 15)),qr 17 (.load none (.t 16)),qr 18 (.fa 2 (.t 4)),qr 19 (.load none (.t 18)),qe 20 (.call 112 [.t 17,.t 19]),qr 13 (.mv (.t 20)),qr 21 (.ext (.t 13) 0),qr 22 (.ext (.t 13) 1),qe 7 (.alloc 149 [.int .i64 0,.ptr none,.ptr none,.int .i64 0,.int .i64 0,.str ⟨#[]⟩]),qu (.store 6 (.t 7) (.t 21)),qr 8 (.mv (.t 22))]) [7]) (.seq (.block 0 (.seq (.reg [qr 24 (.mv (.t 8)),qr 25 (.un .not (.t 24)),qr 26 (.mv (.t 25)),qg 27 (.fa 0 (.t 7)) 26 false,qg 28 (.load none (.t 27)) 26 false,qg 29 (.bin .neq (.t 28) (.c (.int .i64 2))) 26 false,qr 30 (.pick (.t 26) (.c (.bool true)) (.t 29)),qr 23 (.mv (.t 30))]) (.cond (.t 23) (.seq (.reg [qr 31 (.mv (.t 0)),qe 32 (.call 82 [.t 31,(.c (.int .i64 13))])]) (.seq (.reg [qr 33 (.build [.int .i64 0,.int .i64 0,.str ⟨#[]⟩] []),qu (.store 3 (.t 6) (.t 33))]) .ret)) (.seq (.reg [qr 35 (.fa 2 (.t 7)),qr 36 (.load none (.t 35)),qr 37 (.nilc (.t 36)),qr 38 (.fa 3 (.t 37)),qr 39 (.load none (.t 38)),qr 40 (.bin .gtr (.t 39) (.c (.int .i64 0))),qr 41 (.mv (.t 2)),qr 42 (.beq false (.t 40) (.t 41)),qr 34 (.mv (.t 42))]) (.cond (.t 34) (.reg [qr 43 (.mv (.t 0)),qe 44 (.call 82 [.t 43,(.c (.int .i64 14))])]) (.seq (.dreg [qr 46 (.fa 2 (.t 7)),qr 47 (.load none (.t 46)),qr 48 (.nilc (.t 47)),qr 49 (.fa 4 (.t 48)),qr 50 (.load none (.t 49)),qr 51 (.len 1 (.t 50)),qr 52 (.fa 4 (.t 4)),qr 53 (.load none (.t 52)),qr 54 (.len 1 (.t 53)),qr 55 (.bin .neq (.t 51) (.t 54)),qr 45 (.mv (.t 55))]) (.cond (.t 45) (.seq (.reg [qr 56 (.mv (.t 0)),qe 57 (.call 82 [.t 56,(.c (.int .i64 15))])]) (.seq (.reg [qr 58 (.build [.int .i64 0,.int .i64 0,.str ⟨#[]⟩] []),qu (.store 3 (.t 6) (.t 58))]) .ret)) .skip))))))) (.seq (.seq (.reg [qr 59 (.fa 2 (.t 7)),qr 60 (.load none (.t 59)),qr 61 (.nilc (.t 60)),qr 62 (.fa 4 (.t 61)),qr 63 (.load none (.t 62)),qr 64 (.len 1 (.t 63)),qr 65 (.mv (.c (.int .i64 0)))]) (.block 1 (.loop F153.c19))) (.seq (.reg [qr 128 (.fa 2 (.t 7)),qr 129 (.load none (.t 128)),qr 130 (.nilc (.t 129)),qr 131 (.fa 3 (.t 130)),qr 132 (.load none (.t 131)),qr 133 (.build [.int .i64 0,.int .i64 0,.str ⟨#[]⟩] [(0,1,.t 132)]),qu (.store 3 (.t 6) (.t 133))]) .ret))))
theorem F153.calls [GI] : CallsT prog 153 134 F153.c0 [.cell 6 (some 3)] := acallsT [4] [7,10,12] 134 func153 ntmps153 (by kernel_rfl) (by kernel_rfl)
noncomputable def F161.c0 : CodeT prog 9 [] [] f161 := ⟨_, by with_unfolding_all (conv => lhs; reduce)⟩
theorem F161.calls [GI] : CallsT prog 161 9 F161.c0.1 [.tmp 4] := acallsT _ _ _ func161 ntmps161 F161.c0.2 (by kernel_rfl)
noncomputable def F168.c0 : CodeT prog 19 [] [] f168 := ⟨_, by with_unfolding_all (conv => lhs; reduce)⟩
theorem F168.calls [GI] : CallsT prog 168 19 F168.c0.1 [.tmp 4] := acallsT _ _ _ func168 ntmps168 F168.c0.2 (by kernel_rfl)
end Pg
