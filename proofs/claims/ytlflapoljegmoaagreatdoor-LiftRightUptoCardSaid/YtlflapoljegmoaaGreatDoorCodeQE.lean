import Derived.Test.YtlflapoljegmoaaGreatDoorK4E
import Derived.Test.YtlflapoljegmoaaGreatDoorProg
import Derived.KernelRfl
namespace Pg
open Go Go.Proofs.Tryz
set_option maxRecDepth 100000
set_option maxHeartbeats 4000000
noncomputable def F28.c0 : CodeT prog 9 [2,3] [] f28 := ⟨_, by with_unfolding_all (conv => lhs; reduce)⟩
theorem F28.calls [GI] : CallsT prog 28 9 F28.c0.1 [.cell 4 (some 9)] := acallsT _ _ _ func28 ntmps28 F28.c0.2 (by kernel_rfl)
noncomputable def F58.c0 : CodeT prog 20 [] [5] f58 := ⟨_, by with_unfolding_all (conv => lhs; reduce)⟩
theorem F58.calls [GI] : CallsT prog 58 20 F58.c0.1 [.tmp 3] := acallsT _ _ _ func58 ntmps58 F58.c0.2 (by kernel_rfl)
noncomputable def F59.c0 : CodeT prog 51 [2] [] f59 := ⟨_, by with_unfolding_all (conv => lhs; reduce)⟩
theorem F59.calls [GI] : CallsT prog 59 51 F59.c0.1 [.cell 4 (some 9)] := acallsT _ _ _ func59 ntmps59 F59.c0.2 (by kernel_rfl)
def F87.c0 : RCode := .seq (.reg [qr 2 (.bx none (.t 0)),qr 4 (.mv (.c (.str ⟨#[]⟩)))]) (.seq (.seq (.reg [qr 8 (.mv (.t 1)),qr 9 (.bin .eql (.t 8) (.c (.str ⟨#[]⟩)))]) (.cond (.t 9) (.seq (.reg [qr 4 (.mv (.c (.str ⟨#[]⟩)))]) .ret) .skip)) (.seq (.reg [qr 10 (.mv (.t 1)),qe 11 (.call 121 [.t 10,(.c (.str ⟨#[36]⟩))]),qr 5 (.mv (.t 11))]) (.seq (.seq (.reg [qr 12 (.mv (.t 5)),qr 13 (.len 1 (.t 12)),qr 14 (.mv (.c (.int .i64 0)))]) (.block 0 (.loop (.seq (.reg [qr 15 (.bin .lss (.t 14) (.t 13))]) (.seq (.cond (.t 15) .skip (.exit 0)) (.seq (.block 1 (.seq (.reg [qr 16 (.mv (.t 14)),qr 17 (.ia 1 (.t 12) (.t 14)),qr 18 (.load none (.t 17)),qr 6 (.mv (.t 16)),qr 7 (.mv (.t 18))]) (.seq (.reg [qr 19 (.mv (.t 7)),qr 20 (.bin .neq (.t 19) (.c (.str ⟨#[]⟩)))]) (.cond (.t 20) (.reg [qr 21 (.mv (.t 5)),qr 22 (.mv (.t 6)),qr 23 (.fa 0 (.t 2)),qr 24 (.load none (.t 23)),qr 25 (.mv (.t 7)),qe 26 (.callv (.t 24) [.t 25]),qr 27 (.ia 1 (.t 21) (.t 22)),qu (.store 1 (.t 27) (.t 26))]) .skip)))) (.reg [qr 28 (.bin .add (.t 14) (.c (.int .i64 1))),qr 14 (.mv (.t 28))]))))))) (.seq (.reg [qr 29 (.mv (.t 5)),qe 30 (.call 122 [.t 29,(.c (.str ⟨#[36]⟩))]),qr 4 (.mv (.t 30))]) .ret))))
theorem F87.calls [GI] : CallsT prog 87 31 F87.c0 [.tmp 4] := acallsT [2] [] 31 func87 ntmps87 (by kernel_rfl) (by kernel_rfl)
noncomputable def F90.c0 : CodeT prog 25 [2] [] f90 := ⟨_, by with_unfolding_all (conv => lhs; reduce)⟩
theorem F90.calls [GI] : CallsT prog 90 25 F90.c0.1 [.cell 4 (some 5)] := acallsT _ _ _ func90 ntmps90 F90.c0.2 (by kernel_rfl)
noncomputable def F125.c0 : CodeT prog 15 [] [] f125 := ⟨_, by with_unfolding_all (conv => lhs; reduce)⟩
theorem F125.calls [GI] : CallsT prog 125 15 F125.c0.1 [.cell 3 (some 4)] := acallsT _ _ _ func125 ntmps125 F125.c0.2 (by kernel_rfl)
noncomputable def F92.c0 : CodeT prog 21 [2] [] f92 := ⟨_, by with_unfolding_all (conv => lhs; reduce)⟩
theorem F92.calls [GI] : CallsT prog 92 21 F92.c0.1 [.cell 4 (some 6)] := acallsT _ _ _ func92 ntmps92 F92.c0.2 (by kernel_rfl)
noncomputable def F126.c0 : CodeT prog 11 [2] [] f126 := ⟨_, by with_unfolding_all (conv => lhs; reduce)⟩
theorem F126.calls [GI] : CallsT prog 126 11 F126.c0.1 [.cell 4 (some 3)] := acallsT _ _ _ func126 ntmps126 F126.c0.2 (by kernel_rfl)
noncomputable def F94.c0 : CodeT prog 43 [2] [] f94 := ⟨_, by with_unfolding_all (conv => lhs; reduce)⟩
theorem F94.calls [GI] : CallsT prog 94 43 F94.c0.1 [.cell 4 (some 9)] := acallsT _ _ _ func94 ntmps94 F94.c0.2 (by kernel_rfl)
noncomputable def F128.c0 : CodeT prog 15 [] [] f128 := ⟨_, by with_unfolding_all (conv => lhs; reduce)⟩
theorem F128.calls [GI] : CallsT prog 128 15 F128.c0.1 [.cell 3 (some 5)] := acallsT _ _ _ func128 ntmps128 F128.c0.2 (by kernel_rfl)
noncomputable def F96.c0 : CodeT prog 47 [2] [] f96 := ⟨_, by with_unfolding_all (conv => lhs; reduce)⟩
theorem F96.calls [GI] : CallsT prog 96 47 F96.c0.1 [.cell 4 (some 16)] := acallsT _ _ _ func96 ntmps96 F96.c0.2 (by kernel_rfl)
noncomputable def F123.c0 : CodeT prog 12 [2,3] [] f123 := ⟨_, by with_unfolding_all (conv => lhs; reduce)⟩
theorem F123.calls [GI] : CallsT prog 123 12 F123.c0.1 [.cell 4 (some 2)] := acallsT _ _ _ func123 ntmps123 F123.c0.2 (by kernel_rfl)
noncomputable def F129.c0 : CodeT prog 22 [2] [] f129 := ⟨_, by with_unfolding_all (conv => lhs; reduce)⟩
theorem F129.calls [GI] : CallsT prog 129 22 F129.c0.1 [.cell 4 (some 5)] := acallsT _ _ _ func129 ntmps129 F129.c0.2 (by kernel_rfl)
noncomputable def F130.c0 : CodeT prog 22 [] [7] f130 := ⟨_, by with_unfolding_all (conv => lhs; reduce)⟩
theorem F130.calls [GI] : CallsT prog 130 22 F130.c0.1 [.tmp 4] := acallsT _ _ _ func130 ntmps130 F130.c0.2 (by kernel_rfl)
noncomputable def F95.c0 : CodeT prog 22 [] [7] f95 := ⟨_, by with_unfolding_all (conv => lhs; reduce)⟩
theorem F95.calls [GI] : CallsT prog 95 22 F95.c0.1 [.tmp 4] := acallsT _ _ _ func95 ntmps95 F95.c0.2 (by kernel_rfl)
noncomputable def F124.c0 : CodeT prog 22 [] [7] f124 := ⟨_, by with_unfolding_all (conv => lhs; reduce)⟩
theorem F124.calls [GI] : CallsT prog 124 22 F124.c0.1 [.tmp 4] := acallsT _ _ _ func124 ntmps124 F124.c0.2 (by kernel_rfl)
noncomputable def F127.c0 : CodeT prog 22 [] [7] f127 := ⟨_, by with_unfolding_all (conv => lhs; reduce)⟩
theorem F127.calls [GI] : CallsT prog 127 22 F127.c0.1 [.tmp 4] := acallsT _ _ _ func127 ntmps127 F127.c0.2 (by kernel_rfl)
noncomputable def F91.c0 : CodeT prog 22 [] [7] f91 := ⟨_, by with_unfolding_all (conv => lhs; reduce)⟩
theorem F91.calls [GI] : CallsT prog 91 22 F91.c0.1 [.tmp 4] := acallsT _ _ _ func91 ntmps91 F91.c0.2 (by kernel_rfl)
noncomputable def F93.c0 : CodeT prog 22 [] [7] f93 := ⟨_, by with_unfolding_all (conv => lhs; reduce)⟩
theorem F93.calls [GI] : CallsT prog 93 22 F93.c0.1 [.tmp 4] := acallsT _ _ _ func93 ntmps93 F93.c0.2 (by kernel_rfl)
noncomputable def F89.c0 : CodeT prog 22 [] [7] f89 := ⟨_, by with_unfolding_all (conv => lhs; reduce)⟩
theorem F89.calls [GI] : CallsT prog 89 22 F89.c0.1 [.tmp 4] := acallsT _ _ _ func89 ntmps89 F89.c0.2 (by kernel_rfl)
end Pg
