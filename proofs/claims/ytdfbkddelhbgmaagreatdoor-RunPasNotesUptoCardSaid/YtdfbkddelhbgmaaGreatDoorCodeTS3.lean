import Derived.Test.YtdfbkddelhbgmaaGreatDoorK4S3
import Derived.Test.YtdfbkddelhbgmaaGreatDoorProg
import Derived.KernelRfl
namespace Pg
open Go Go.Proofs.Tryz
set_option maxRecDepth 100000
set_option maxHeartbeats 4000000
noncomputable def RV.c0 : aT prog 32 [] [8,9] f200 := ⟨_, by with_unfolding_all (conv => lhs; reduce)⟩
theorem RV.calls [GI] : aJ prog 200 32 RV.c0.1 [.tmp 6] := aG _ _ _ func200 ntmps200 RV.c0.2 (by kernel_rfl)
noncomputable def IU.c0 : aT prog 19 [] [] f151 := ⟨_, by with_unfolding_all (conv => lhs; reduce)⟩
theorem IU.calls [GI] : aJ prog 151 19 IU.c0.1 [.tmp 4,.tmp 5] := aG _ _ _ func151 ntmps151 IU.c0.2 (by kernel_rfl)
noncomputable def SO.c0 : aT prog 17 [] [] f154 := ⟨_, by with_unfolding_all (conv => lhs; reduce)⟩
theorem SO.calls [GI] : aJ prog 154 17 SO.c0.1 [.tmp 4] := aG _ _ _ func154 ntmps154 SO.c0.2 (by kernel_rfl)
noncomputable def TW.c0 : aT prog 56 [] [6] f104 := ⟨_, by with_unfolding_all (conv => lhs; reduce)⟩
theorem TW.calls [GI] : aJ prog 104 56 TW.c0.1 [.tmp 4,.tmp 5] := aG _ _ _ func104 ntmps104 TW.c0.2 (by kernel_rfl)
def ZX.c0 : RCode := .seq (.reg [qe 2 (.alloc 232 [.str ⟨#[]⟩,.str ⟨#[]⟩,.str ⟨#[]⟩]),qr 3 (.mv (.c (.bool false)))]) (.seq (.seq (.reg [qr 4 (.mv (.t 0))]) (.block 0 (.seq (.reg [qr 6 (.bin .eql (.t 4) (.c (.int .i64 0))),qr 5 (.mv (.t 6))]) (.cond (.t 5) (.seq (.reg [qr 7 (.build [.str ⟨#[]⟩,.str ⟨#[]⟩,.str ⟨#[]⟩] [(0,1,(.c (.str ⟨#[123]⟩))),(1,1,(.c (.str ⟨#[125]⟩))),(2,1,(.c (.str ⟨#[92,125]⟩)))]),qu (.store 3 (.t 2) (.t 7)),qr 3 (.mv (.c (.bool true)))]) .ret) (.seq (.reg [qr 9 (.bin .eql (.t 4) (.c (.int .i64 1))),qr 8 (.mv (.t 9))]) (.cond (.t 8) (.seq (.reg [qr 10 (.build [.str ⟨#[]⟩,.str ⟨#[]⟩,.str ⟨#[]⟩] [(0,1,(.c (.str ⟨#[47,42]⟩))),(1,1,(.c (.str ⟨#[42,47]⟩))),(2,1,(.c (.str ⟨#[92,42]⟩)))]),qu (.store 3 (.t 2) (.t 10)),qr 3 (.mv (.c (.bool true)))]) .ret) .skip)))))) (.seq (.reg [qr 11 (.build [.str ⟨#[]⟩,.str ⟨#[]⟩,.str ⟨#[]⟩] []),qu (.store 3 (.t 2) (.t 11)),qr 3 (.mv (.c (.bool false)))]) .ret))
theorem ZX.calls [GI] : aJ prog 150 12 ZX.c0 [.cell 2 (some 3),.tmp 3] := aG [] [] 12 func150 ntmps150 (by kernel_rfl) (by kernel_rfl)
noncomputable def SS.c0 : aT prog 17 [] [] f152 := ⟨_, by with_unfolding_all (conv => lhs; reduce)⟩
theorem SS.calls [GI] : aJ prog 152 17 SS.c0.1 [.tmp 2] := aG _ _ _ func152 ntmps152 SS.c0.2 (by kernel_rfl)
noncomputable def SP.c0 : aT prog 8 [] [] f153 := ⟨_, by with_unfolding_all (conv => lhs; reduce)⟩
theorem SP.calls [GI] : aJ prog 153 8 SP.c0.1 [.tmp 4] := aG _ _ _ func153 ntmps153 SP.c0.2 (by kernel_rfl)
noncomputable def R6.c0 : aT prog 18 [] [] f181 := ⟨_, by with_unfolding_all (conv => lhs; reduce)⟩
theorem R6.calls [GI] : aJ prog 181 18 R6.c0.1 [.tmp 4] := aG _ _ _ func181 ntmps181 R6.c0.2 (by kernel_rfl)
noncomputable def TY.c0 : aT prog 15 [] [] f102 := ⟨_, by with_unfolding_all (conv => lhs; reduce)⟩
theorem TY.calls [GI] : aJ prog 102 15 TY.c0.1 [.tmp 4] := aG _ _ _ func102 ntmps102 TY.c0.2 (by kernel_rfl)
def ZY.c0 : RCode := .seq (.reg [qr 2 (.mv (.c (.sl [] true)))]) (.seq (.seq (.reg [qr 3 (.mv (.t 0))]) (.block 0 (.seq (.reg [qr 5 (.bin .eql (.t 3) (.c (.int .i64 0))),qr 4 (.mv (.t 5))]) (.cond (.t 4) (.seq (.reg [qe 6 (.call 179 [(.c (.str ⟨#[97,110,100,32,97,114,114,97,121,32,98,101,103,105,110,32,98,111,111,108,101,97,110,32,99,104,97,114,32,100,105,118,32,100,111,32,100,111,119,110,116,111,32,101,108,115,101,32,101,110,100,32,102,97,108,115,101,32,102,111,114,32,102,111,114,119,97,114,100,32,102,117,110,99,116,105,111,110,32,105,102,32,105,110,116,101,103,101,114,32,109,111,100,32,110,111,116,32,111,102,32,111,114,32,112,114,111,99,101,100,117,114,101,32,112,114,111,103,114,97,109,32,114,101,97,100,32,114,101,99,111,114,100,32,114,101,112,101,97,116,32,114,101,116,117,114,110,32,116,104,101,110,32,116,111,32,116,114,117,101,32,116,121,112,101,32,117,110,116,105,108,32,118,97,114,32,119,104,105,108,101,32,119,114,105,116,101]⟩))]),qr 2 (.mv (.t 6))]) .ret) (.seq (.reg [qr 8 (.bin .eql (.t 3) (.c (.int .i64 1))),qr 7 (.mv (.t 8))]) (.cond (.t 7) (.seq (.reg [qe 9 (.call 179 [(.c (.str ⟨#[98,111,111,108,32,99,104,97,114,32,100,111,32,100,111,119,110,116,111,32,101,108,115,101,32,102,97,108,115,101,32,102,111,114,32,103,101,116,32,105,102,32,105,110,116,32,109,97,105,110,32,112,114,111,103,114,97,109,32,112,117,116,32,114,101,116,117,114,110,32,115,116,114,117,99,116,32,116,111,32,116,114,117,101,32,117,110,116,105,108,32,117,112,32,118,111,105,100,32,119,104,105,108,101]⟩))]),qr 2 (.mv (.t 9))]) .ret) .skip)))))) (.seq (.reg [qr 2 (.mv (.c (.sl [] true)))]) .ret))
theorem ZY.calls [GI] : aJ prog 149 10 ZY.c0 [.tmp 2] := aG [] [] 10 func149 ntmps149 (by kernel_rfl) (by kernel_rfl)
noncomputable def TZ.c0 : aT prog 24 [] [] f101 := ⟨_, by with_unfolding_all (conv => lhs; reduce)⟩
theorem TZ.calls [GI] : aJ prog 101 24 TZ.c0.1 [.tmp 2] := aG _ _ _ func101 ntmps101 TZ.c0.2 (by kernel_rfl)
noncomputable def SV.c0 : aT prog 27 [] [] f147 := ⟨_, by with_unfolding_all (conv => lhs; reduce)⟩
theorem SV.calls [GI] : aJ prog 147 27 SV.c0.1 [.tmp 4] := aG _ _ _ func147 ntmps147 SV.c0.2 (by kernel_rfl)
noncomputable def SU.c0 : aT prog 54 [] [] f148 := ⟨_, by with_unfolding_all (conv => lhs; reduce)⟩
theorem SU.calls [GI] : aJ prog 148 54 SU.c0.1 [.tmp 4,.tmp 5] := aG _ _ _ func148 ntmps148 SU.c0.2 (by kernel_rfl)
noncomputable def R8.c0 : aT prog 17 [] [] f177 := ⟨_, by with_unfolding_all (conv => lhs; reduce)⟩
theorem R8.calls [GI] : aJ prog 177 17 R8.c0.1 [.tmp 4] := aG _ _ _ func177 ntmps177 R8.c0.2 (by kernel_rfl)
noncomputable def R7.c0 : aT prog 6 [] [] f178 := ⟨_, by with_unfolding_all (conv => lhs; reduce)⟩
theorem R7.calls [GI] : aJ prog 178 6 R7.c0.1 [.tmp 2] := aG _ _ _ func178 ntmps178 R7.c0.2 (by kernel_rfl)
noncomputable def RW.c0 : aT prog 6 [] [] f193 := ⟨_, by with_unfolding_all (conv => lhs; reduce)⟩
theorem RW.calls [GI] : aJ prog 193 6 RW.c0.1 [.tmp 2] := aG _ _ _ func193 ntmps193 RW.c0.2 (by kernel_rfl)
noncomputable def F26.c0 : aT prog 67 [3] [5] f26 := ⟨_, by with_unfolding_all (conv => lhs; reduce)⟩
theorem F26.calls [GI] : aJ prog 26 67 F26.c0.1 [.tmp 4] := aG _ _ _ func26 ntmps26 F26.c0.2 (by kernel_rfl)
noncomputable def F67.c0 : aT prog 8 [2] [] f67 := ⟨_, by with_unfolding_all (conv => lhs; reduce)⟩
theorem F67.calls [GI] : aJ prog 67 8 F67.c0.1 [.tmp 3] := aG _ _ _ func67 ntmps67 F67.c0.2 (by kernel_rfl)
noncomputable def F64.c0 : aT prog 33 [] [] f64 := ⟨_, by with_unfolding_all (conv => lhs; reduce)⟩
theorem F64.calls [GI] : aJ prog 64 33 F64.c0.1 [.tmp 2] := aG _ _ _ func64 ntmps64 F64.c0.2 (by kernel_rfl)
noncomputable def TQ.c0 : aT prog 9 [] [] f109 := ⟨_, by with_unfolding_all (conv => lhs; reduce)⟩
theorem TQ.calls [GI] : aJ prog 109 9 TQ.c0.1 [.tmp 2] := aG _ _ _ func109 ntmps109 TQ.c0.2 (by kernel_rfl)
noncomputable def SH.c0 : aT prog 6 [1] [] f163 := ⟨_, by with_unfolding_all (conv => lhs; reduce)⟩
theorem SH.calls [GI] : aJ prog 163 6 SH.c0.1 [.tmp 2] := aG _ _ _ func163 ntmps163 SH.c0.2 (by kernel_rfl)
noncomputable def SJ.c0 : aT prog 27 [] [] f161 := ⟨_, by with_unfolding_all (conv => lhs; reduce)⟩
theorem SJ.calls [GI] : aJ prog 161 27 SJ.c0.1 [.cell 2 (some 5),.tmp 3] := aG _ _ _ func161 ntmps161 SJ.c0.2 (by kernel_rfl)
noncomputable def R5.c0 : aT prog 38 [2,3] [] f183 := ⟨_, by with_unfolding_all (conv => lhs; reduce)⟩
theorem R5.calls [GI] : aJ prog 183 38 R5.c0.1 [.tmp 4] := aG _ _ _ func183 ntmps183 R5.c0.2 (by kernel_rfl)
noncomputable def TK.c0 : aT prog 21 [] [5] f115 := ⟨_, by with_unfolding_all (conv => lhs; reduce)⟩
theorem TK.calls [GI] : aJ prog 115 21 TK.c0.1 [.tmp 2] := aG _ _ _ func115 ntmps115 TK.c0.2 (by kernel_rfl)
noncomputable def F63.c0 : aT prog 15 [2] [] f63 := ⟨_, by with_unfolding_all (conv => lhs; reduce)⟩
theorem F63.calls [GI] : aJ prog 63 15 F63.c0.1 [.tmp 4] := aG _ _ _ func63 ntmps63 F63.c0.2 (by kernel_rfl)
noncomputable def TM.c0 : aT prog 35 [2,3] [] f113 := ⟨_, by with_unfolding_all (conv => lhs; reduce)⟩
theorem TM.calls [GI] : aJ prog 113 35 TM.c0.1 [.tmp 4] := aG _ _ _ func113 ntmps113 TM.c0.2 (by kernel_rfl)
noncomputable def SG.c0 : aT prog 156 [2,3] [] f164 := ⟨_, by with_unfolding_all (conv => lhs; reduce)⟩
theorem SG.calls [GI] : aJ prog 164 156 SG.c0.1 [.tmp 4] := aG _ _ _ func164 ntmps164 SG.c0.2 (by kernel_rfl)
noncomputable def R0.c0 : aT prog 28 [2] [7] f186 := ⟨_, by with_unfolding_all (conv => lhs; reduce)⟩
theorem R0.calls [GI] : aJ prog 186 28 R0.c0.1 [.tmp 4] := aG _ _ _ func186 ntmps186 R0.c0.2 (by kernel_rfl)
noncomputable def R3.c0 : aT prog 66 [2,3] [6] f185 := ⟨_, by with_unfolding_all (conv => lhs; reduce)⟩
theorem R3.calls [GI] : aJ prog 185 66 R3.c0.1 [.tmp 4] := aG _ _ _ func185 ntmps185 R3.c0.2 (by kernel_rfl)
noncomputable def SI.c0 : aT prog 24 [2,3] [] f162 := ⟨_, by with_unfolding_all (conv => lhs; reduce)⟩
theorem SI.calls [GI] : aJ prog 162 24 SI.c0.1 [.tmp 4] := aG _ _ _ func162 ntmps162 SI.c0.2 (by kernel_rfl)
noncomputable def TE.c0 : aT prog 180 [3,4] [7,10] f122 := ⟨_, by with_unfolding_all (conv => lhs; reduce)⟩
theorem TE.calls [GI] : aJ prog 122 180 TE.c0.1 [.tmp 6] := aG _ _ _ func122 ntmps122 TE.c0.2 (by kernel_rfl)
noncomputable def F71.c0 : aT prog 15 [3,5] [] f71 := ⟨_, by with_unfolding_all (conv => lhs; reduce)⟩
theorem F71.calls [GI] : aJ prog 71 15 F71.c0.1 [.tmp 6] := aG _ _ _ func71 ntmps71 F71.c0.2 (by kernel_rfl)
noncomputable def TF.c0 : aT prog 10 [3] [] f121 := ⟨_, by with_unfolding_all (conv => lhs; reduce)⟩
theorem TF.calls [GI] : aJ prog 121 10 TF.c0.1 [.tmp 4] := aG _ _ _ func121 ntmps121 TF.c0.2 (by kernel_rfl)
noncomputable def F69.c0 : aT prog 13 [2] [] f69 := ⟨_, by with_unfolding_all (conv => lhs; reduce)⟩
theorem F69.calls [GI] : aJ prog 69 13 F69.c0.1 [.tmp 4] := aG _ _ _ func69 ntmps69 F69.c0.2 (by kernel_rfl)
noncomputable def TN.c0 : aT prog 27 [2] [] f112 := ⟨_, by with_unfolding_all (conv => lhs; reduce)⟩
theorem TN.calls [GI] : aJ prog 112 27 TN.c0.1 [.tmp 3] := aG _ _ _ func112 ntmps112 TN.c0.2 (by kernel_rfl)
noncomputable def TI.c0 : aT prog 76 [2] [7] f118 := ⟨_, by with_unfolding_all (conv => lhs; reduce)⟩
theorem TI.calls [GI] : aJ prog 118 76 TI.c0.1 [.tmp 4] := aG _ _ _ func118 ntmps118 TI.c0.2 (by kernel_rfl)
noncomputable def F70.c0 : aT prog 19 [3,5] [] f70 := ⟨_, by with_unfolding_all (conv => lhs; reduce)⟩
theorem F70.calls [GI] : aJ prog 70 19 F70.c0.1 [.tmp 6] := aG _ _ _ func70 ntmps70 F70.c0.2 (by kernel_rfl)
noncomputable def TJ.c0 : aT prog 79 [3] [] f116 := ⟨_, by with_unfolding_all (conv => lhs; reduce)⟩
theorem TJ.calls [GI] : aJ prog 116 79 TJ.c0.1 [.tmp 4] := aG _ _ _ func116 ntmps116 TJ.c0.2 (by kernel_rfl)
def ZZ.c0 : RCode := .seq (.reg [qr 2 (.bx none (.t 0)),qe 4 (.alloc 4 [.bool false])]) (.seq (.seq (.reg [qr 6 (.fa 0 (.t 2)),qr 7 (.load none (.t 6)),qr 8 (.bin .neq (.t 7) (.c (.int .i64 1)))]) (.cond (.t 8) (.seq (.reg [qr 9 (.load (some 1) (.t 2)),qr 10 (.mv (.t 1)),qe 11 (.call 63 [.t 9,.t 10]),qu (.store 1 (.t 4) (.t 11))]) .ret) .skip)) (.seq (.seq (.reg [qr 12 (.mv (.t 1)),qe 13 (.call 158 [.t 12,(.c (.str ⟨#[36]⟩))])]) (.block 0 .bad)) (.seq (.reg [qu (.store 1 (.t 4) (.c (.bool true)))]) .ret)))
theorem ZZ.calls [GI] : aJ prog 117 19 ZZ.c0 [.cell 4 none] := aG [2] [] 19 func117 ntmps117 (by kernel_rfl) (by kernel_rfl)
noncomputable def F68.c0 : aT prog 39 [2,3] [] f68 := ⟨_, by with_unfolding_all (conv => lhs; reduce)⟩
theorem F68.calls [GI] : aJ prog 68 39 F68.c0.1 [.tmp 4] := aG _ _ _ func68 ntmps68 F68.c0.2 (by kernel_rfl)
noncomputable def TS.c0 : aT prog 26 [2] [] f108 := ⟨_, by with_unfolding_all (conv => lhs; reduce)⟩
theorem TS.calls [GI] : aJ prog 108 26 TS.c0.1 [.tmp 3] := aG _ _ _ func108 ntmps108 TS.c0.2 (by kernel_rfl)
noncomputable def TX.c0 : aT prog 6 [] [] f103 := ⟨_, by with_unfolding_all (conv => lhs; reduce)⟩
theorem TX.calls [GI] : aJ prog 103 6 TX.c0.1 [.tmp 2] := aG _ _ _ func103 ntmps103 TX.c0.2 (by kernel_rfl)
noncomputable def F65.c0 : aT prog 6 [] [] f65 := ⟨_, by with_unfolding_all (conv => lhs; reduce)⟩
theorem F65.calls [GI] : aJ prog 65 6 F65.c0.1 [.tmp 2] := aG _ _ _ func65 ntmps65 F65.c0.2 (by kernel_rfl)
noncomputable def TU.c0 : aT prog 6 [] [] f106 := ⟨_, by with_unfolding_all (conv => lhs; reduce)⟩
theorem TU.calls [GI] : aJ prog 106 6 TU.c0.1 [.tmp 2] := aG _ _ _ func106 ntmps106 TU.c0.2 (by kernel_rfl)
noncomputable def TP.c0 : aT prog 6 [] [] f110 := ⟨_, by with_unfolding_all (conv => lhs; reduce)⟩
theorem TP.calls [GI] : aJ prog 110 6 TP.c0.1 [.tmp 2] := aG _ _ _ func110 ntmps110 TP.c0.2 (by kernel_rfl)
noncomputable def TL.c0 : aT prog 6 [] [] f114 := ⟨_, by with_unfolding_all (conv => lhs; reduce)⟩
theorem TL.calls [GI] : aJ prog 114 6 TL.c0.1 [.tmp 2] := aG _ _ _ func114 ntmps114 TL.c0.2 (by kernel_rfl)
noncomputable def TH.c0 : aT prog 6 [] [] f119 := ⟨_, by with_unfolding_all (conv => lhs; reduce)⟩
theorem TH.calls [GI] : aJ prog 119 6 TH.c0.1 [.tmp 2] := aG _ _ _ func119 ntmps119 TH.c0.2 (by kernel_rfl)
noncomputable def SL.c0 : aT prog 6 [] [] f159 := ⟨_, by with_unfolding_all (conv => lhs; reduce)⟩
theorem SL.calls [GI] : aJ prog 159 6 SL.c0.1 [.tmp 2] := aG _ _ _ func159 ntmps159 SL.c0.2 (by kernel_rfl)
noncomputable def R4.c0 : aT prog 6 [] [] f184 := ⟨_, by with_unfolding_all (conv => lhs; reduce)⟩
theorem R4.calls [GI] : aJ prog 184 6 R4.c0.1 [.tmp 2] := aG _ _ _ func184 ntmps184 R4.c0.2 (by kernel_rfl)
noncomputable def F66.c0 : aT prog 9 [] [] f66 := ⟨_, by with_unfolding_all (conv => lhs; reduce)⟩
theorem F66.calls [GI] : aJ prog 66 9 F66.c0.1 [.tmp 4] := aG _ _ _ func66 ntmps66 F66.c0.2 (by kernel_rfl)
noncomputable def TV.c0 : aT prog 19 [] [] f105 := ⟨_, by with_unfolding_all (conv => lhs; reduce)⟩
theorem TV.calls [GI] : aJ prog 105 19 TV.c0.1 [.tmp 4] := aG _ _ _ func105 ntmps105 TV.c0.2 (by kernel_rfl)
noncomputable def TT.c0 : aT prog 9 [] [] f107 := ⟨_, by with_unfolding_all (conv => lhs; reduce)⟩
theorem TT.calls [GI] : aJ prog 107 9 TT.c0.1 [.tmp 4] := aG _ _ _ func107 ntmps107 TT.c0.2 (by kernel_rfl)
noncomputable def SN.c0 : aT prog 19 [] [] f156 := ⟨_, by with_unfolding_all (conv => lhs; reduce)⟩
theorem SN.calls [GI] : aJ prog 156 19 SN.c0.1 [.tmp 4] := aG _ _ _ func156 ntmps156 SN.c0.2 (by kernel_rfl)
noncomputable def TO.c0 : aT prog 9 [] [] f111 := ⟨_, by with_unfolding_all (conv => lhs; reduce)⟩
theorem TO.calls [GI] : aJ prog 111 9 TO.c0.1 [.tmp 4] := aG _ _ _ func111 ntmps111 TO.c0.2 (by kernel_rfl)
noncomputable def SM.c0 : aT prog 19 [] [] f157 := ⟨_, by with_unfolding_all (conv => lhs; reduce)⟩
theorem SM.calls [GI] : aJ prog 157 19 SM.c0.1 [.tmp 4] := aG _ _ _ func157 ntmps157 SM.c0.2 (by kernel_rfl)
end Pg
