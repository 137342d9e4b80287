import Derived.Test.YtdfbkddelhbgmaaGreatDoorK4S2
import Derived.Test.YtdfbkddelhbgmaaGreatDoorProg
import Derived.KernelRfl
namespace Pg
open Go Go.Proofs.Tryz
set_option maxRecDepth 100000
set_option maxHeartbeats 4000000
noncomputable def F123.c0 : CodeT prog 46 [] [] f123 := ⟨_, by with_unfolding_all (conv => lhs; reduce)⟩
theorem F123.calls [GI] : CallsT prog 123 46 F123.c0.1 [.cell 4 (some 2),.tmp 5] := acallsT _ _ _ func123 ntmps123 F123.c0.2 (by kernel_rfl)
noncomputable def F187.c0 : CodeT prog 40 [3] [] f187 := ⟨_, by with_unfolding_all (conv => lhs; reduce)⟩
theorem F187.calls [GI] : CallsT prog 187 40 F187.c0.1 [.tmp 4] := acallsT _ _ _ func187 ntmps187 F187.c0.2 (by kernel_rfl)
noncomputable def F165.c0 : CodeT prog 29 [4] [] f165 := ⟨_, by with_unfolding_all (conv => lhs; reduce)⟩
theorem F165.calls [GI] : CallsT prog 165 29 F165.c0.1 [.cell 6 (some 2),.tmp 7] := acallsT _ _ _ func165 ntmps165 F165.c0.2 (by kernel_rfl)
noncomputable def F167.c0 : CodeT prog 18 [3] [] f167 := ⟨_, by with_unfolding_all (conv => lhs; reduce)⟩
theorem F167.calls [GI] : CallsT prog 167 18 F167.c0.1 [.tmp 4,.tmp 5] := acallsT _ _ _ func167 ntmps167 F167.c0.2 (by kernel_rfl)
noncomputable def F166.c0 : CodeT prog 19 [4] [] f166 := ⟨_, by with_unfolding_all (conv => lhs; reduce)⟩
theorem F166.calls [GI] : CallsT prog 166 19 F166.c0.1 [.tmp 6] := acallsT _ _ _ func166 ntmps166 F166.c0.2 (by kernel_rfl)
noncomputable def F233.c0 : CodeT prog 10 [] [] f233 := ⟨_, by with_unfolding_all (conv => lhs; reduce)⟩
theorem F233.calls [GI] : CallsT prog 233 10 F233.c0.1 [.tmp 2] := acallsT _ _ _ func233 ntmps233 F233.c0.2 (by kernel_rfl)
noncomputable def F229.c0 : CodeT prog 25 [] [] f229 := ⟨_, by with_unfolding_all (conv => lhs; reduce)⟩
theorem F229.calls [GI] : CallsT prog 229 25 F229.c0.1 [] := acallsT _ _ _ func229 ntmps229 F229.c0.2 (by kernel_rfl)
noncomputable def F125.c0 : CodeT prog 13 [] [] f125 := ⟨_, by with_unfolding_all (conv => lhs; reduce)⟩
theorem F125.calls [GI] : CallsT prog 125 13 F125.c0.1 [] := acallsT _ _ _ func125 ntmps125 F125.c0.2 (by kernel_rfl)
noncomputable def F75.c0 : CodeT prog 8 [] [] f75 := ⟨_, by with_unfolding_all (conv => lhs; reduce)⟩
theorem F75.calls [GI] : CallsT prog 75 8 F75.c0.1 [.tmp 2] := acallsT _ _ _ func75 ntmps75 F75.c0.2 (by kernel_rfl)
noncomputable def F126.c0 : CodeT prog 24 [] [] f126 := ⟨_, by with_unfolding_all (conv => lhs; reduce)⟩
theorem F126.calls [GI] : CallsT prog 126 24 F126.c0.1 [.tmp 2] := acallsT _ _ _ func126 ntmps126 F126.c0.2 (by kernel_rfl)
noncomputable def F124.c0 : CodeT prog 35 [3] [6] f124 := ⟨_, by with_unfolding_all (conv => lhs; reduce)⟩
theorem F124.calls [GI] : CallsT prog 124 35 F124.c0.1 [.tmp 4] := acallsT _ _ _ func124 ntmps124 F124.c0.2 (by kernel_rfl)
noncomputable def F73.c0 : CodeT prog 23 [3] [5] f73 := ⟨_, by with_unfolding_all (conv => lhs; reduce)⟩
theorem F73.calls [GI] : CallsT prog 73 23 F73.c0.1 [.cell 4 (some 2)] := acallsT _ _ _ func73 ntmps73 F73.c0.2 (by kernel_rfl)
noncomputable def F127.c0 : CodeT prog 100 [5] [8,13,15,16] f127 := ⟨_, by with_unfolding_all (conv => lhs; reduce)⟩
theorem F127.calls [GI] : CallsT prog 127 100 F127.c0.1 [.cell 6 (some 2),.cell 7 (some 3)] := acallsT _ _ _ func127 ntmps127 F127.c0.2 (by kernel_rfl)
noncomputable def F129.c0 : CodeT prog 123 [5] [7,8] f129 := ⟨_, by with_unfolding_all (conv => lhs; reduce)⟩
theorem F129.calls [GI] : CallsT prog 129 123 F129.c0.1 [.tmp 6] := acallsT _ _ _ func129 ntmps129 F129.c0.2 (by kernel_rfl)
noncomputable def F188.c0 : CodeT prog 4 [] [] f188 := ⟨_, by with_unfolding_all (conv => lhs; reduce)⟩
theorem F188.calls [GI] : CallsT prog 188 4 F188.c0.1 [.tmp 2] := acallsT _ _ _ func188 ntmps188 F188.c0.2 (by kernel_rfl)
noncomputable def F168.c0 : CodeT prog 80 [] [] f168 := ⟨_, by with_unfolding_all (conv => lhs; reduce)⟩
theorem F168.calls [GI] : CallsT prog 168 80 F168.c0.1 [.tmp 6] := acallsT _ _ _ func168 ntmps168 F168.c0.2 (by kernel_rfl)
noncomputable def F29.c0 : CodeT prog 34 [] [9] f29 := ⟨_, by with_unfolding_all (conv => lhs; reduce)⟩
theorem F29.calls [GI] : CallsT prog 29 34 F29.c0.1 [.tmp 6,.tmp 7] := acallsT _ _ _ func29 ntmps29 F29.c0.2 (by kernel_rfl)
noncomputable def F74.c0 : CodeT prog 180 [5] [8,9] f74 := ⟨_, by with_unfolding_all (conv => lhs; reduce)⟩
theorem F74.calls [GI] : CallsT prog 74 180 F74.c0.1 [.tmp 6,.tmp 7] := acallsT _ _ _ func74 ntmps74 F74.c0.2 (by kernel_rfl)
noncomputable def F128.c0 : CodeT prog 15 [4] [] f128 := ⟨_, by with_unfolding_all (conv => lhs; reduce)⟩
theorem F128.calls [GI] : CallsT prog 128 15 F128.c0.1 [] := acallsT _ _ _ func128 ntmps128 F128.c0.2 (by kernel_rfl)
noncomputable def F130.c0 : CodeT prog 79 [5] [10,11] f130 := ⟨_, by with_unfolding_all (conv => lhs; reduce)⟩
theorem F130.calls [GI] : CallsT prog 130 79 F130.c0.1 [.tmp 6,.tmp 7] := acallsT _ _ _ func130 ntmps130 F130.c0.2 (by kernel_rfl)
noncomputable def F131.c0 : CodeT prog 50 [5] [6,7] f131 := ⟨_, by with_unfolding_all (conv => lhs; reduce)⟩
theorem F131.calls [GI] : CallsT prog 131 50 F131.c0.1 [] := acallsT _ _ _ func131 ntmps131 F131.c0.2 (by kernel_rfl)
noncomputable def F234.c0 : CodeT prog 20 [] [] f234 := ⟨_, by with_unfolding_all (conv => lhs; reduce)⟩
theorem F234.calls [GI] : CallsT prog 234 20 F234.c0.1 [.tmp 2] := acallsT _ _ _ func234 ntmps234 F234.c0.2 (by kernel_rfl)
noncomputable def F30.c0 : CodeT prog 16 [] [] f30 := ⟨_, by with_unfolding_all (conv => lhs; reduce)⟩
theorem F30.calls [GI] : CallsT prog 30 16 F30.c0.1 [.cell 2 (some 3)] := acallsT _ _ _ func30 ntmps30 F30.c0.2 (by kernel_rfl)
noncomputable def F28.c0 : CodeT prog 32 [] [5] f28 := ⟨_, by with_unfolding_all (conv => lhs; reduce)⟩
theorem F28.calls [GI] : CallsT prog 28 32 F28.c0.1 [] := acallsT _ _ _ func28 ntmps28 F28.c0.2 (by kernel_rfl)
noncomputable def F231.c0 : CodeT prog 32 [] [7] f231 := ⟨_, by with_unfolding_all (conv => lhs; reduce)⟩
theorem F231.calls [GI] : CallsT prog 231 32 F231.c0.1 [.cell 4 (some 2),.cell 5 (some 3)] := acallsT _ _ _ func231 ntmps231 F231.c0.2 (by kernel_rfl)
noncomputable def F232.c0 : CodeT prog 33 [] [8] f232 := ⟨_, by with_unfolding_all (conv => lhs; reduce)⟩
theorem F232.calls [GI] : CallsT prog 232 33 F232.c0.1 [.cell 4 (some 9),.tmp 5] := acallsT _ _ _ func232 ntmps232 F232.c0.2 (by kernel_rfl)
noncomputable def F235.c0 : CodeT prog 29 [] [] f235 := ⟨_, by with_unfolding_all (conv => lhs; reduce)⟩
theorem F235.calls [GI] : CallsT prog 235 29 F235.c0.1 [] := acallsT _ _ _ func235 ntmps235 F235.c0.2 (by kernel_rfl)
end Pg
