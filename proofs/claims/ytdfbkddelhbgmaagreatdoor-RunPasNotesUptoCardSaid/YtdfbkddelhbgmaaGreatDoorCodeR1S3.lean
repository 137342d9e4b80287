import Derived.Test.YtdfbkddelhbgmaaGreatDoorK4S3
import Derived.Test.YtdfbkddelhbgmaaGreatDoorProg
import Derived.KernelRfl
namespace Pg
open Go Go.Proofs.Tryz
set_option maxRecDepth 100000
set_option maxHeartbeats 4000000
noncomputable def TD.c0 : aT prog 46 [] [] f123 := ⟨_, by with_unfolding_all (conv => lhs; reduce)⟩
theorem TD.calls [GI] : aJ prog 123 46 TD.c0.1 [.cell 4 (some 2),.tmp 5] := aG _ _ _ func123 ntmps123 TD.c0.2 (by kernel_rfl)
noncomputable def RZ.c0 : aT prog 40 [3] [] f187 := ⟨_, by with_unfolding_all (conv => lhs; reduce)⟩
theorem RZ.calls [GI] : aJ prog 187 40 RZ.c0.1 [.tmp 4] := aG _ _ _ func187 ntmps187 RZ.c0.2 (by kernel_rfl)
noncomputable def SF.c0 : aT prog 29 [4] [] f165 := ⟨_, by with_unfolding_all (conv => lhs; reduce)⟩
theorem SF.calls [GI] : aJ prog 165 29 SF.c0.1 [.cell 6 (some 2),.tmp 7] := aG _ _ _ func165 ntmps165 SF.c0.2 (by kernel_rfl)
noncomputable def SD.c0 : aT prog 18 [3] [] f167 := ⟨_, by with_unfolding_all (conv => lhs; reduce)⟩
theorem SD.calls [GI] : aJ prog 167 18 SD.c0.1 [.tmp 4,.tmp 5] := aG _ _ _ func167 ntmps167 SD.c0.2 (by kernel_rfl)
noncomputable def SE.c0 : aT prog 19 [4] [] f166 := ⟨_, by with_unfolding_all (conv => lhs; reduce)⟩
theorem SE.calls [GI] : aJ prog 166 19 SE.c0.1 [.tmp 6] := aG _ _ _ func166 ntmps166 SE.c0.2 (by kernel_rfl)
noncomputable def RP.c0 : aT prog 10 [] [] f233 := ⟨_, by with_unfolding_all (conv => lhs; reduce)⟩
theorem RP.calls [GI] : aJ prog 233 10 RP.c0.1 [.tmp 2] := aG _ _ _ func233 ntmps233 RP.c0.2 (by kernel_rfl)
noncomputable def RT.c0 : aT prog 25 [] [] f229 := ⟨_, by with_unfolding_all (conv => lhs; reduce)⟩
theorem RT.calls [GI] : aJ prog 229 25 RT.c0.1 [] := aG _ _ _ func229 ntmps229 RT.c0.2 (by kernel_rfl)
noncomputable def TB.c0 : aT prog 13 [] [] f125 := ⟨_, by with_unfolding_all (conv => lhs; reduce)⟩
theorem TB.calls [GI] : aJ prog 125 13 TB.c0.1 [] := aG _ _ _ func125 ntmps125 TB.c0.2 (by kernel_rfl)
noncomputable def F75.c0 : aT prog 8 [] [] f75 := ⟨_, by with_unfolding_all (conv => lhs; reduce)⟩
theorem F75.calls [GI] : aJ prog 75 8 F75.c0.1 [.tmp 2] := aG _ _ _ func75 ntmps75 F75.c0.2 (by kernel_rfl)
noncomputable def TA.c0 : aT prog 24 [] [] f126 := ⟨_, by with_unfolding_all (conv => lhs; reduce)⟩
theorem TA.calls [GI] : aJ prog 126 24 TA.c0.1 [.tmp 2] := aG _ _ _ func126 ntmps126 TA.c0.2 (by kernel_rfl)
noncomputable def TC.c0 : aT prog 35 [3] [6] f124 := ⟨_, by with_unfolding_all (conv => lhs; reduce)⟩
theorem TC.calls [GI] : aJ prog 124 35 TC.c0.1 [.tmp 4] := aG _ _ _ func124 ntmps124 TC.c0.2 (by kernel_rfl)
noncomputable def F73.c0 : aT prog 23 [3] [5] f73 := ⟨_, by with_unfolding_all (conv => lhs; reduce)⟩
theorem F73.calls [GI] : aJ prog 73 23 F73.c0.1 [.cell 4 (some 2)] := aG _ _ _ func73 ntmps73 F73.c0.2 (by kernel_rfl)
noncomputable def S9.c0 : aT prog 100 [5] [8,13,15,16] f127 := ⟨_, by with_unfolding_all (conv => lhs; reduce)⟩
theorem S9.calls [GI] : aJ prog 127 100 S9.c0.1 [.cell 6 (some 2),.cell 7 (some 3)] := aG _ _ _ func127 ntmps127 S9.c0.2 (by kernel_rfl)
noncomputable def S7.c0 : aT prog 123 [5] [7,8] f129 := ⟨_, by with_unfolding_all (conv => lhs; reduce)⟩
theorem S7.calls [GI] : aJ prog 129 123 S7.c0.1 [.tmp 6] := aG _ _ _ func129 ntmps129 S7.c0.2 (by kernel_rfl)
noncomputable def RY.c0 : aT prog 4 [] [] f188 := ⟨_, by with_unfolding_all (conv => lhs; reduce)⟩
theorem RY.calls [GI] : aJ prog 188 4 RY.c0.1 [.tmp 2] := aG _ _ _ func188 ntmps188 RY.c0.2 (by kernel_rfl)
noncomputable def SC.c0 : aT prog 80 [] [] f168 := ⟨_, by with_unfolding_all (conv => lhs; reduce)⟩
theorem SC.calls [GI] : aJ prog 168 80 SC.c0.1 [.tmp 6] := aG _ _ _ func168 ntmps168 SC.c0.2 (by kernel_rfl)
noncomputable def F29.c0 : aT prog 34 [] [9] f29 := ⟨_, by with_unfolding_all (conv => lhs; reduce)⟩
theorem F29.calls [GI] : aJ prog 29 34 F29.c0.1 [.tmp 6,.tmp 7] := aG _ _ _ func29 ntmps29 F29.c0.2 (by kernel_rfl)
noncomputable def F74.c0 : aT prog 180 [5] [8,9] f74 := ⟨_, by with_unfolding_all (conv => lhs; reduce)⟩
theorem F74.calls [GI] : aJ prog 74 180 F74.c0.1 [.tmp 6,.tmp 7] := aG _ _ _ func74 ntmps74 F74.c0.2 (by kernel_rfl)
noncomputable def S8.c0 : aT prog 15 [4] [] f128 := ⟨_, by with_unfolding_all (conv => lhs; reduce)⟩
theorem S8.calls [GI] : aJ prog 128 15 S8.c0.1 [] := aG _ _ _ func128 ntmps128 S8.c0.2 (by kernel_rfl)
noncomputable def S6.c0 : aT prog 79 [5] [10,11] f130 := ⟨_, by with_unfolding_all (conv => lhs; reduce)⟩
theorem S6.calls [GI] : aJ prog 130 79 S6.c0.1 [.tmp 6,.tmp 7] := aG _ _ _ func130 ntmps130 S6.c0.2 (by kernel_rfl)
noncomputable def S5.c0 : aT prog 50 [5] [6,7] f131 := ⟨_, by with_unfolding_all (conv => lhs; reduce)⟩
theorem S5.calls [GI] : aJ prog 131 50 S5.c0.1 [] := aG _ _ _ func131 ntmps131 S5.c0.2 (by kernel_rfl)
noncomputable def RO.c0 : aT prog 20 [] [] f234 := ⟨_, by with_unfolding_all (conv => lhs; reduce)⟩
theorem RO.calls [GI] : aJ prog 234 20 RO.c0.1 [.tmp 2] := aG _ _ _ func234 ntmps234 RO.c0.2 (by kernel_rfl)
noncomputable def F30.c0 : aT prog 16 [] [] f30 := ⟨_, by with_unfolding_all (conv => lhs; reduce)⟩
theorem F30.calls [GI] : aJ prog 30 16 F30.c0.1 [.cell 2 (some 3)] := aG _ _ _ func30 ntmps30 F30.c0.2 (by kernel_rfl)
noncomputable def F28.c0 : aT prog 32 [] [5] f28 := ⟨_, by with_unfolding_all (conv => lhs; reduce)⟩
theorem F28.calls [GI] : aJ prog 28 32 F28.c0.1 [] := aG _ _ _ func28 ntmps28 F28.c0.2 (by kernel_rfl)
noncomputable def RR.c0 : aT prog 32 [] [7] f231 := ⟨_, by with_unfolding_all (conv => lhs; reduce)⟩
theorem RR.calls [GI] : aJ prog 231 32 RR.c0.1 [.cell 4 (some 2),.cell 5 (some 3)] := aG _ _ _ func231 ntmps231 RR.c0.2 (by kernel_rfl)
noncomputable def RQ.c0 : aT prog 33 [] [8] f232 := ⟨_, by with_unfolding_all (conv => lhs; reduce)⟩
theorem RQ.calls [GI] : aJ prog 232 33 RQ.c0.1 [.cell 4 (some 9),.tmp 5] := aG _ _ _ func232 ntmps232 RQ.c0.2 (by kernel_rfl)
noncomputable def MG.c0 : aT prog 29 [] [] f235 := ⟨_, by with_unfolding_all (conv => lhs; reduce)⟩
theorem MG.calls [GI] : aJ prog 235 29 MG.c0.1 [] := aG _ _ _ func235 ntmps235 MG.c0.2 (by kernel_rfl)
end Pg
