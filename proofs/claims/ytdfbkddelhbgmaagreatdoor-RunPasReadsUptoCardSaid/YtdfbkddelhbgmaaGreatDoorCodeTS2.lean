import Derived.Test.YtdfbkddelhbgmaaGreatDoorK4S2
import Derived.Test.YtdfbkddelhbgmaaGreatDoorProg
import Derived.KernelRfl
namespace Pg
open Go Go.Proofs.Tryz
set_option maxRecDepth 100000
set_option maxHeartbeats 4000000
noncomputable def F200.c0 : CodeT prog 32 [] [8,9] f200 := ⟨_, by with_unfolding_all (conv => lhs; reduce)⟩
theorem F200.calls [GI] : CallsT prog 200 32 F200.c0.1 [.tmp 6] := acallsT _ _ _ func200 ntmps200 F200.c0.2 (by kernel_rfl)
noncomputable def F151.c0 : CodeT prog 19 [] [] f151 := ⟨_, by with_unfolding_all (conv => lhs; reduce)⟩
theorem F151.calls [GI] : CallsT prog 151 19 F151.c0.1 [.tmp 4,.tmp 5] := acallsT _ _ _ func151 ntmps151 F151.c0.2 (by kernel_rfl)
noncomputable def F154.c0 : CodeT prog 17 [] [] f154 := ⟨_, by with_unfolding_all (conv => lhs; reduce)⟩
theorem F154.calls [GI] : CallsT prog 154 17 F154.c0.1 [.tmp 4] := acallsT _ _ _ func154 ntmps154 F154.c0.2 (by kernel_rfl)
noncomputable def F104.c0 : CodeT prog 56 [] [6] f104 := ⟨_, by with_unfolding_all (conv => lhs; reduce)⟩
theorem F104.calls [GI] : CallsT prog 104 56 F104.c0.1 [.tmp 4,.tmp 5] := acallsT _ _ _ func104 ntmps104 F104.c0.2 (by kernel_rfl)
def F150.c0 : RCode := .seq (.reg [qe 2 (.alloc 232 [.str ⟨#[]⟩,.str ⟨#[]⟩,.str ⟨#[]⟩]),qr 3 (.mv (.c (.bool false)))]) (.seq (.seq (.reg [qr 4 (.mv (.t 0))]) (.block 0 (.seq (.reg [qr 6 (.bin .eql (.t 4) (.c (.int .i64 0))),qr 5 (.mv (.t 6))]) (.cond (.t 5) (.seq (.reg [qr 7 (.build [.str ⟨#[]⟩,.str ⟨#[]⟩,.str ⟨#[]⟩] [(0,1,(.c (.str ⟨#[123]⟩))),(1,1,(.c (.str ⟨#[125]⟩))),(2,1,(.c (.str ⟨#[92,125]⟩)))]),qu (.store 3 (.t 2) (.t 7)),qr 3 (.mv (.c (.bool true)))]) .ret) (.seq (.reg [qr 9 (.bin .eql (.t 4) (.c (.int .i64 1))),qr 8 (.mv (.t 9))]) (.cond (.t 8) (.seq (.reg [qr 10 (.build [.str ⟨#[]⟩,.str ⟨#[]⟩,.str ⟨#[]⟩] [(0,1,(.c (.str ⟨#[47,42]⟩))),(1,1,(.c (.str ⟨#[42,47]⟩))),(2,1,(.c (.str ⟨#[92,42]⟩)))]),qu (.store 3 (.t 2) (.t 10)),qr 3 (.mv (.c (.bool true)))]) .ret) .skip)))))) (.seq (.reg [qr 11 (.build [.str ⟨#[]⟩,.str ⟨#[]⟩,.str ⟨#[]⟩] []),qu (.store 3 (.t 2) (.t 11)),qr 3 (.mv (.c (.bool false)))]) .ret))
theorem F150.calls [GI] : CallsT prog 150 12 F150.c0 [.cell 2 (some 3),.tmp 3] := acallsT [] [] 12 func150 ntmps150 (by kernel_rfl) (by kernel_rfl)
noncomputable def F152.c0 : CodeT prog 17 [] [] f152 := ⟨_, by with_unfolding_all (conv => lhs; reduce)⟩
theorem F152.calls [GI] : CallsT prog 152 17 F152.c0.1 [.tmp 2] := acallsT _ _ _ func152 ntmps152 F152.c0.2 (by kernel_rfl)
noncomputable def F153.c0 : CodeT prog 8 [] [] f153 := ⟨_, by with_unfolding_all (conv => lhs; reduce)⟩
theorem F153.calls [GI] : CallsT prog 153 8 F153.c0.1 [.tmp 4] := acallsT _ _ _ func153 ntmps153 F153.c0.2 (by kernel_rfl)
noncomputable def F181.c0 : CodeT prog 18 [] [] f181 := ⟨_, by with_unfolding_all (conv => lhs; reduce)⟩
theorem F181.calls [GI] : CallsT prog 181 18 F181.c0.1 [.tmp 4] := acallsT _ _ _ func181 ntmps181 F181.c0.2 (by kernel_rfl)
noncomputable def F102.c0 : CodeT prog 15 [] [] f102 := ⟨_, by with_unfolding_all (conv => lhs; reduce)⟩
theorem F102.calls [GI] : CallsT prog 102 15 F102.c0.1 [.tmp 4] := acallsT _ _ _ func102 ntmps102 F102.c0.2 (by kernel_rfl)
def F149.c0 : RCode := .seq (.reg [qr 2 (.mv (.c (.sl [] true)))]) (.seq (.seq (.reg [qr 3 (.mv (.t 0))]) (.block 0 (.seq (.reg [qr 5 (.bin .eql (.t 3) (.c (.int .i64 0))),qr 4 (.mv (.t 5))]) (.cond (.t 4) (.seq (.reg [qe 6 (.call 179 [(.c (.str ⟨#[97,110,100,32,97,114,114,97,121,32,98,101,103,105,110,32,98,111,111,108,101,97,110,32,99,104,97,114,32,100,105,118,32,100,111,32,100,111,119,110,116,111,32,101,108,115,101,32,101,110,100,32,102,97,108,115,101,32,102,111,114,32,102,111,114,119,97,114,100,32,102,117,110,99,116,105,111,110,32,105,102,32,105,110,116,101,103,101,114,32,109,111,100,32,110,111,116,32,111,102,32,111,114,32,112,114,111,99,101,100,117,114,101,32,112,114,111,103,114,97,109,32,114,101,97,100,32,114,101,99,111,114,100,32,114,101,112,101,97,116,32,114,101,116,117,114,110,32,116,104,101,110,32,116,111,32,116,114,117,101,32,116,121,112,101,32,117,110,116,105,108,32,118,97,114,32,119,104,105,108,101,32,119,114,105,116,101]⟩))]),qr 2 (.mv (.t 6))]) .ret) (.seq (.reg [qr 8 (.bin .eql (.t 3) (.c (.int .i64 1))),qr 7 (.mv (.t 8))]) (.cond (.t 7) (.seq (.reg [qe 9 (.call 179 [(.c (.str ⟨#[98,111,111,108,32,99,104,97,114,32,100,111,32,100,111,119,110,116,111,32,101,108,115,101,32,102,97,108,115,101,32,102,111,114,32,103,101,116,32,105,102,32,105,110,116,32,109,97,105,110,32,112,114,111,103,114,97,109,32,112,117,116,32,114,101,116,117,114,110,32,115,116,114,117,99,116,32,116,111,32,116,114,117,101,32,117,110,116,105,108,32,117,112,32,118,111,105,100,32,119,104,105,108,101]⟩))]),qr 2 (.mv (.t 9))]) .ret) .skip)))))) (.seq (.reg [qr 2 (.mv (.c (.sl [] true)))]) .ret))
theorem F149.calls [GI] : CallsT prog 149 10 F149.c0 [.tmp 2] := acallsT [] [] 10 func149 ntmps149 (by kernel_rfl) (by kernel_rfl)
noncomputable def F101.c0 : CodeT prog 24 [] [] f101 := ⟨_, by with_unfolding_all (conv => lhs; reduce)⟩
theorem F101.calls [GI] : CallsT prog 101 24 F101.c0.1 [.tmp 2] := acallsT _ _ _ func101 ntmps101 F101.c0.2 (by kernel_rfl)
noncomputable def F147.c0 : CodeT prog 27 [] [] f147 := ⟨_, by with_unfolding_all (conv => lhs; reduce)⟩
theorem F147.calls [GI] : CallsT prog 147 27 F147.c0.1 [.tmp 4] := acallsT _ _ _ func147 ntmps147 F147.c0.2 (by kernel_rfl)
noncomputable def F148.c0 : CodeT prog 54 [] [] f148 := ⟨_, by with_unfolding_all (conv => lhs; reduce)⟩
theorem F148.calls [GI] : CallsT prog 148 54 F148.c0.1 [.tmp 4,.tmp 5] := acallsT _ _ _ func148 ntmps148 F148.c0.2 (by kernel_rfl)
noncomputable def F177.c0 : CodeT prog 17 [] [] f177 := ⟨_, by with_unfolding_all (conv => lhs; reduce)⟩
theorem F177.calls [GI] : CallsT prog 177 17 F177.c0.1 [.tmp 4] := acallsT _ _ _ func177 ntmps177 F177.c0.2 (by kernel_rfl)
noncomputable def F178.c0 : CodeT prog 6 [] [] f178 := ⟨_, by with_unfolding_all (conv => lhs; reduce)⟩
theorem F178.calls [GI] : CallsT prog 178 6 F178.c0.1 [.tmp 2] := acallsT _ _ _ func178 ntmps178 F178.c0.2 (by kernel_rfl)
noncomputable def F193.c0 : CodeT prog 6 [] [] f193 := ⟨_, by with_unfolding_all (conv => lhs; reduce)⟩
theorem F193.calls [GI] : CallsT prog 193 6 F193.c0.1 [.tmp 2] := acallsT _ _ _ func193 ntmps193 F193.c0.2 (by kernel_rfl)
noncomputable def F26.c0 : CodeT prog 67 [3] [5] f26 := ⟨_, by with_unfolding_all (conv => lhs; reduce)⟩
theorem F26.calls [GI] : CallsT prog 26 67 F26.c0.1 [.tmp 4] := acallsT _ _ _ func26 ntmps26 F26.c0.2 (by kernel_rfl)
noncomputable def F67.c0 : CodeT prog 8 [2] [] f67 := ⟨_, by with_unfolding_all (conv => lhs; reduce)⟩
theorem F67.calls [GI] : CallsT prog 67 8 F67.c0.1 [.tmp 3] := acallsT _ _ _ func67 ntmps67 F67.c0.2 (by kernel_rfl)
noncomputable def F64.c0 : CodeT prog 33 [] [] f64 := ⟨_, by with_unfolding_all (conv => lhs; reduce)⟩
theorem F64.calls [GI] : CallsT prog 64 33 F64.c0.1 [.tmp 2] := acallsT _ _ _ func64 ntmps64 F64.c0.2 (by kernel_rfl)
noncomputable def F109.c0 : CodeT prog 9 [] [] f109 := ⟨_, by with_unfolding_all (conv => lhs; reduce)⟩
theorem F109.calls [GI] : CallsT prog 109 9 F109.c0.1 [.tmp 2] := acallsT _ _ _ func109 ntmps109 F109.c0.2 (by kernel_rfl)
noncomputable def F163.c0 : CodeT prog 6 [1] [] f163 := ⟨_, by with_unfolding_all (conv => lhs; reduce)⟩
theorem F163.calls [GI] : CallsT prog 163 6 F163.c0.1 [.tmp 2] := acallsT _ _ _ func163 ntmps163 F163.c0.2 (by kernel_rfl)
noncomputable def F161.c0 : CodeT prog 27 [] [] f161 := ⟨_, by with_unfolding_all (conv => lhs; reduce)⟩
theorem F161.calls [GI] : CallsT prog 161 27 F161.c0.1 [.cell 2 (some 5),.tmp 3] := acallsT _ _ _ func161 ntmps161 F161.c0.2 (by kernel_rfl)
noncomputable def F183.c0 : CodeT prog 38 [2,3] [] f183 := ⟨_, by with_unfolding_all (conv => lhs; reduce)⟩
theorem F183.calls [GI] : CallsT prog 183 38 F183.c0.1 [.tmp 4] := acallsT _ _ _ func183 ntmps183 F183.c0.2 (by kernel_rfl)
noncomputable def F115.c0 : CodeT prog 21 [] [5] f115 := ⟨_, by with_unfolding_all (conv => lhs; reduce)⟩
theorem F115.calls [GI] : CallsT prog 115 21 F115.c0.1 [.tmp 2] := acallsT _ _ _ func115 ntmps115 F115.c0.2 (by kernel_rfl)
noncomputable def F63.c0 : CodeT prog 15 [2] [] f63 := ⟨_, by with_unfolding_all (conv => lhs; reduce)⟩
theorem F63.calls [GI] : CallsT prog 63 15 F63.c0.1 [.tmp 4] := acallsT _ _ _ func63 ntmps63 F63.c0.2 (by kernel_rfl)
noncomputable def F113.c0 : CodeT prog 35 [2,3] [] f113 := ⟨_, by with_unfolding_all (conv => lhs; reduce)⟩
theorem F113.calls [GI] : CallsT prog 113 35 F113.c0.1 [.tmp 4] := acallsT _ _ _ func113 ntmps113 F113.c0.2 (by kernel_rfl)
noncomputable def F164.c0 : CodeT prog 156 [2,3] [] f164 := ⟨_, by with_unfolding_all (conv => lhs; reduce)⟩
theorem F164.calls [GI] : CallsT prog 164 156 F164.c0.1 [.tmp 4] := acallsT _ _ _ func164 ntmps164 F164.c0.2 (by kernel_rfl)
noncomputable def F186.c0 : CodeT prog 28 [2] [7] f186 := ⟨_, by with_unfolding_all (conv => lhs; reduce)⟩
theorem F186.calls [GI] : CallsT prog 186 28 F186.c0.1 [.tmp 4] := acallsT _ _ _ func186 ntmps186 F186.c0.2 (by kernel_rfl)
noncomputable def F185.c0 : CodeT prog 66 [2,3] [6] f185 := ⟨_, by with_unfolding_all (conv => lhs; reduce)⟩
theorem F185.calls [GI] : CallsT prog 185 66 F185.c0.1 [.tmp 4] := acallsT _ _ _ func185 ntmps185 F185.c0.2 (by kernel_rfl)
noncomputable def F162.c0 : CodeT prog 24 [2,3] [] f162 := ⟨_, by with_unfolding_all (conv => lhs; reduce)⟩
theorem F162.calls [GI] : CallsT prog 162 24 F162.c0.1 [.tmp 4] := acallsT _ _ _ func162 ntmps162 F162.c0.2 (by kernel_rfl)
noncomputable def F122.c0 : CodeT prog 180 [3,4] [7,10] f122 := ⟨_, by with_unfolding_all (conv => lhs; reduce)⟩
theorem F122.calls [GI] : CallsT prog 122 180 F122.c0.1 [.tmp 6] := acallsT _ _ _ func122 ntmps122 F122.c0.2 (by kernel_rfl)
noncomputable def F71.c0 : CodeT prog 15 [3,5] [] f71 := ⟨_, by with_unfolding_all (conv => lhs; reduce)⟩
theorem F71.calls [GI] : CallsT prog 71 15 F71.c0.1 [.tmp 6] := acallsT _ _ _ func71 ntmps71 F71.c0.2 (by kernel_rfl)
noncomputable def F121.c0 : CodeT prog 10 [3] [] f121 := ⟨_, by with_unfolding_all (conv => lhs; reduce)⟩
theorem F121.calls [GI] : CallsT prog 121 10 F121.c0.1 [.tmp 4] := acallsT _ _ _ func121 ntmps121 F121.c0.2 (by kernel_rfl)
noncomputable def F69.c0 : CodeT prog 13 [2] [] f69 := ⟨_, by with_unfolding_all (conv => lhs; reduce)⟩
theorem F69.calls [GI] : CallsT prog 69 13 F69.c0.1 [.tmp 4] := acallsT _ _ _ func69 ntmps69 F69.c0.2 (by kernel_rfl)
noncomputable def F112.c0 : CodeT prog 27 [2] [] f112 := ⟨_, by with_unfolding_all (conv => lhs; reduce)⟩
theorem F112.calls [GI] : CallsT prog 112 27 F112.c0.1 [.tmp 3] := acallsT _ _ _ func112 ntmps112 F112.c0.2 (by kernel_rfl)
noncomputable def F118.c0 : CodeT prog 76 [2] [7] f118 := ⟨_, by with_unfolding_all (conv => lhs; reduce)⟩
theorem F118.calls [GI] : CallsT prog 118 76 F118.c0.1 [.tmp 4] := acallsT _ _ _ func118 ntmps118 F118.c0.2 (by kernel_rfl)
noncomputable def F70.c0 : CodeT prog 19 [3,5] [] f70 := ⟨_, by with_unfolding_all (conv => lhs; reduce)⟩
theorem F70.calls [GI] : CallsT prog 70 19 F70.c0.1 [.tmp 6] := acallsT _ _ _ func70 ntmps70 F70.c0.2 (by kernel_rfl)
noncomputable def F116.c0 : CodeT prog 79 [3] [] f116 := ⟨_, by with_unfolding_all (conv => lhs; reduce)⟩
theorem F116.calls [GI] : CallsT prog 116 79 F116.c0.1 [.tmp 4] := acallsT _ _ _ func116 ntmps116 F116.c0.2 (by kernel_rfl)
def F117.c0 : RCode := .seq (.reg [qr 2 (.bx none (.t 0)),qe 4 (.alloc 4 [.bool false])]) (.seq (.seq (.reg [qr 6 (.fa 0 (.t 2)),qr 7 (.load none (.t 6)),qr 8 (.bin .neq (.t 7) (.c (.int .i64 1)))]) (.cond (.t 8) (.seq (.reg [qr 9 (.load (some 1) (.t 2)),qr 10 (.mv (.t 1)),qe 11 (.call 63 [.t 9,.t 10]),qu (.store 1 (.t 4) (.t 11))]) .ret) .skip)) (.seq (.seq (.reg [qr 12 (.mv (.t 1)),qe 13 (.call 158 [.t 12,(.c (.str ⟨#[36]⟩))])]) (.block 0 .bad)) (.seq (.reg [qu (.store 1 (.t 4) (.c (.bool true)))]) .ret)))
theorem F117.calls [GI] : CallsT prog 117 19 F117.c0 [.cell 4 none] := acallsT [2] [] 19 func117 ntmps117 (by kernel_rfl) (by kernel_rfl)
noncomputable def F68.c0 : CodeT prog 39 [2,3] [] f68 := ⟨_, by with_unfolding_all (conv => lhs; reduce)⟩
theorem F68.calls [GI] : CallsT prog 68 39 F68.c0.1 [.tmp 4] := acallsT _ _ _ func68 ntmps68 F68.c0.2 (by kernel_rfl)
noncomputable def F108.c0 : CodeT prog 26 [2] [] f108 := ⟨_, by with_unfolding_all (conv => lhs; reduce)⟩
theorem F108.calls [GI] : CallsT prog 108 26 F108.c0.1 [.tmp 3] := acallsT _ _ _ func108 ntmps108 F108.c0.2 (by kernel_rfl)
noncomputable def F103.c0 : CodeT prog 6 [] [] f103 := ⟨_, by with_unfolding_all (conv => lhs; reduce)⟩
theorem F103.calls [GI] : CallsT prog 103 6 F103.c0.1 [.tmp 2] := acallsT _ _ _ func103 ntmps103 F103.c0.2 (by kernel_rfl)
noncomputable def F65.c0 : CodeT prog 6 [] [] f65 := ⟨_, by with_unfolding_all (conv => lhs; reduce)⟩
theorem F65.calls [GI] : CallsT prog 65 6 F65.c0.1 [.tmp 2] := acallsT _ _ _ func65 ntmps65 F65.c0.2 (by kernel_rfl)
noncomputable def F106.c0 : CodeT prog 6 [] [] f106 := ⟨_, by with_unfolding_all (conv => lhs; reduce)⟩
theorem F106.calls [GI] : CallsT prog 106 6 F106.c0.1 [.tmp 2] := acallsT _ _ _ func106 ntmps106 F106.c0.2 (by kernel_rfl)
noncomputable def F110.c0 : CodeT prog 6 [] [] f110 := ⟨_, by with_unfolding_all (conv => lhs; reduce)⟩
theorem F110.calls [GI] : CallsT prog 110 6 F110.c0.1 [.tmp 2] := acallsT _ _ _ func110 ntmps110 F110.c0.2 (by kernel_rfl)
noncomputable def F114.c0 : CodeT prog 6 [] [] f114 := ⟨_, by with_unfolding_all (conv => lhs; reduce)⟩
theorem F114.calls [GI] : CallsT prog 114 6 F114.c0.1 [.tmp 2] := acallsT _ _ _ func114 ntmps114 F114.c0.2 (by kernel_rfl)
noncomputable def F119.c0 : CodeT prog 6 [] [] f119 := ⟨_, by with_unfolding_all (conv => lhs; reduce)⟩
theorem F119.calls [GI] : CallsT prog 119 6 F119.c0.1 [.tmp 2] := acallsT _ _ _ func119 ntmps119 F119.c0.2 (by kernel_rfl)
noncomputable def F159.c0 : CodeT prog 6 [] [] f159 := ⟨_, by with_unfolding_all (conv => lhs; reduce)⟩
theorem F159.calls [GI] : CallsT prog 159 6 F159.c0.1 [.tmp 2] := acallsT _ _ _ func159 ntmps159 F159.c0.2 (by kernel_rfl)
noncomputable def F184.c0 : CodeT prog 6 [] [] f184 := ⟨_, by with_unfolding_all (conv => lhs; reduce)⟩
theorem F184.calls [GI] : CallsT prog 184 6 F184.c0.1 [.tmp 2] := acallsT _ _ _ func184 ntmps184 F184.c0.2 (by kernel_rfl)
noncomputable def F66.c0 : CodeT prog 9 [] [] f66 := ⟨_, by with_unfolding_all (conv => lhs; reduce)⟩
theorem F66.calls [GI] : CallsT prog 66 9 F66.c0.1 [.tmp 4] := acallsT _ _ _ func66 ntmps66 F66.c0.2 (by kernel_rfl)
noncomputable def F105.c0 : CodeT prog 19 [] [] f105 := ⟨_, by with_unfolding_all (conv => lhs; reduce)⟩
theorem F105.calls [GI] : CallsT prog 105 19 F105.c0.1 [.tmp 4] := acallsT _ _ _ func105 ntmps105 F105.c0.2 (by kernel_rfl)
noncomputable def F107.c0 : CodeT prog 9 [] [] f107 := ⟨_, by with_unfolding_all (conv => lhs; reduce)⟩
theorem F107.calls [GI] : CallsT prog 107 9 F107.c0.1 [.tmp 4] := acallsT _ _ _ func107 ntmps107 F107.c0.2 (by kernel_rfl)
noncomputable def F156.c0 : CodeT prog 19 [] [] f156 := ⟨_, by with_unfolding_all (conv => lhs; reduce)⟩
theorem F156.calls [GI] : CallsT prog 156 19 F156.c0.1 [.tmp 4] := acallsT _ _ _ func156 ntmps156 F156.c0.2 (by kernel_rfl)
noncomputable def F111.c0 : CodeT prog 9 [] [] f111 := ⟨_, by with_unfolding_all (conv => lhs; reduce)⟩
theorem F111.calls [GI] : CallsT prog 111 9 F111.c0.1 [.tmp 4] := acallsT _ _ _ func111 ntmps111 F111.c0.2 (by kernel_rfl)
noncomputable def F157.c0 : CodeT prog 19 [] [] f157 := ⟨_, by with_unfolding_all (conv => lhs; reduce)⟩
theorem F157.calls [GI] : CallsT prog 157 19 F157.c0.1 [.tmp 4] := acallsT _ _ _ func157 ntmps157 F157.c0.2 (by kernel_rfl)
end Pg
