import Derived.Test.YtdfbkddelhbgmaaGreatDoorK4S3
import Derived.Test.YtdfbkddelhbgmaaGreatDoorProg
import Derived.KernelRfl
namespace Pg
open Go Go.Proofs.Tryz
set_option maxRecDepth 100000
set_option maxHeartbeats 4000000
def F44.c0 : RCode := .seq (.reg [qr 4 (.mv (.c (.str ⟨#[]⟩)))]) (.seq (.reg [qr 10 (.mv (.t 0)),qe 11 (.call 38 [.t 10]),qr 5 (.mv (.t 11))]) (.seq (.reg [qr 6 (.mv (.c (.str ⟨#[]⟩)))]) (.seq (.seq (.reg [qr 7 (.mv (.c (.int .i64 0)))]) (.block 0 (.loop (.seq (.seq (.reg [qr 12 (.mv (.t 7)),qr 13 (.mv (.t 5)),qr 14 (.len 1 (.t 13)),qr 15 (.bin .lss (.t 12) (.t 14))]) (.cond (.t 15) .skip (.exit 0))) (.seq (.block 1 (.seq (.reg [qr 18 (.mv (.t 5)),qr 19 (.mv (.t 7)),qr 20 (.ia 1 (.t 18) (.t 19)),qr 21 (.load none (.t 20)),qr 8 (.mv (.t 21))]) (.seq (.seq (.reg [qr 9 (.mv (.c (.int .i64 0)))]) (.block 2 (.loop (.seq (.seq (.reg [qr 22 (.mv (.t 9)),qr 23 (.mv (.t 1)),qr 24 (.len 1 (.t 23)),qr 25 (.bin .lss (.t 22) (.t 24)),qr 26 (.mv (.t 25)),qg 27 (.mv (.t 5)) 26 true,qg 28 (.mv (.t 7)) 26 true,qg 29 (.ia 1 (.t 27) (.t 28)) 26 true,qg 30 (.load none (.t 29)) 26 true,qg 31 (.bin .neq (.t 30) (.c (.str ⟨#[]⟩))) 26 true,qr 32 (.pick (.t 26) (.t 31) (.c (.bool false)))]) (.cond (.t 32) .skip (.exit 2))) (.seq (.block 3 (.seq (.nX [qr 35 (.mv (.t 1)),qr 36 (.mv (.t 9)),qr 37 (.ia 2 (.t 35) (.t 36)),qr 38 (.fa 0 (.t 37)),qr 39 (.load none (.t 38)),qr 40 (.mv (.t 5)),qr 41 (.mv (.t 7)),qr 42 (.ia 1 (.t 40) (.t 41)),qr 43 (.load none (.t 42)),qr 44 (.bin .eql (.t 39) (.t 43))]) (.cond (.t 44) (.seq (.reg [qr 45 (.mv (.t 1)),qr 46 (.mv (.t 9)),qr 47 (.ia 2 (.t 45) (.t 46)),qr 48 (.fa 1 (.t 47)),qr 49 (.load none (.t 48)),qr 8 (.mv (.t 49))]) (.exit 2)) .skip))) (.reg [qr 33 (.mv (.t 9)),qr 34 (.bin .add (.t 33) (.c (.int .i64 1))),qr 9 (.mv (.t 34))])))))) (.seq (.seq (.reg [qr 50 (.mv (.t 7)),qr 51 (.bin .gtr (.t 50) (.c (.int .i64 0)))]) (.cond (.t 51) (.reg [qr 52 (.mv (.t 6)),qr 53 (.bin .add (.t 52) (.c (.str ⟨#[36]⟩))),qr 6 (.mv (.t 53))]) .skip)) (.reg [qr 54 (.mv (.t 6)),qr 55 (.mv (.t 8)),qr 56 (.bin .add (.t 54) (.t 55)),qr 6 (.mv (.t 56))]))))) (.reg [qr 16 (.mv (.t 7)),qr 17 (.bin .add (.t 16) (.c (.int .i64 1))),qr 7 (.mv (.t 17))])))))) (.seq (.reg [qr 57 (.mv (.t 6)),qr 4 (.mv (.t 57))]) .ret))))
theorem F44.calls [GI] : aJ prog 44 58 F44.c0 [.tmp 4] := aG [] [] 58 func44 ntmps44 (by kernel_rfl) (by kernel_rfl)
noncomputable def F88.c0 : aT prog 40 [2] [] f88 := ⟨_, by with_unfolding_all (conv => lhs; reduce)⟩
theorem F88.calls [GI] : aJ prog 88 40 F88.c0.1 [.cell 4 (some 5)] := aG _ _ _ func88 ntmps88 F88.c0.2 (by kernel_rfl)
noncomputable def F47.c0 : aT prog 64 [] [] f47 := ⟨_, by with_unfolding_all (conv => lhs; reduce)⟩
theorem F47.calls [GI] : aJ prog 47 64 F47.c0.1 [.tmp 4] := aG _ _ _ func47 ntmps47 F47.c0.2 (by kernel_rfl)
noncomputable def F45.c0 : aT prog 35 [] [] f45 := ⟨_, by with_unfolding_all (conv => lhs; reduce)⟩
theorem F45.calls [GI] : aJ prog 45 35 F45.c0.1 [.tmp 4] := aG _ _ _ func45 ntmps45 F45.c0.2 (by kernel_rfl)
noncomputable def F46.c0 : aT prog 76 [] [] f46 := ⟨_, by with_unfolding_all (conv => lhs; reduce)⟩
theorem F46.calls [GI] : aJ prog 46 76 F46.c0.1 [.tmp 4] := aG _ _ _ func46 ntmps46 F46.c0.2 (by kernel_rfl)
noncomputable def F17.c0 : aT prog 80 [2] [] f17 := ⟨_, by with_unfolding_all (conv => lhs; reduce)⟩
theorem F17.calls [GI] : aJ prog 17 80 F17.c0.1 [.cell 4 (some 9)] := aG _ _ _ func17 ntmps17 F17.c0.2 (by kernel_rfl)
def F43.c0 : RCode := .seq (.reg [qr 2 (.mv (.c (.str ⟨#[]⟩)))]) (.seq (.seq (.reg [qr 3 (.mv (.t 0)),qr 4 (.bin .lss (.t 3) (.c (.int .u64 10)))]) (.cond (.t 4) (.seq (.reg [qr 5 (.mv (.t 0)),qr 6 (.mv (.t 0)),qr 7 (.bin .add (.t 6) (.c (.int .u64 1))),qr 8 (.slice true 0 (.c (.str ⟨#[48,49,50,51,52,53,54,55,56,57]⟩)) (some (.t 5)) (some (.t 7))),qr 2 (.mv (.t 8))]) .ret) .skip)) (.seq (.nX [qr 9 (.mv (.t 0)),qr 10 (.bin .quo (.t 9) (.c (.int .u64 10))),qr 12 (.mv (.t 0)),qr 13 (.bin .rem (.t 12) (.c (.int .u64 10))),qr 14 (.mv (.t 0)),qr 15 (.bin .rem (.t 14) (.c (.int .u64 10))),qr 16 (.bin .add (.t 15) (.c (.int .u64 1))),qr 17 (.slice true 0 (.c (.str ⟨#[48,49,50,51,52,53,54,55,56,57]⟩)) (some (.t 13)) (some (.t 16))),qe 11 (.call 43 [.t 10]),qr 18 (.bin .add (.t 11) (.t 17)),qr 2 (.mv (.t 18))]) .ret))
theorem F43.calls [GI] : aJ prog 43 19 F43.c0 [.tmp 2] := aG [] [] 19 func43 ntmps43 (by kernel_rfl) (by kernel_rfl)
def F16.c0 : RCode := .seq (.reg [qr 2 (.mv (.c (.str ⟨#[]⟩)))]) (.seq (.seq (.reg [qr 3 (.mv (.t 0)),qr 4 (.bin .lss (.t 3) (.c (.int .i64 0)))]) (.cond (.t 4) (.seq (.reg [qr 5 (.mv (.t 0)),qr 6 (.conv .u64 (.t 5)),qr 7 (.bin .sub (.c (.int .u64 0)) (.t 6)),qe 8 (.call 43 [.t 7]),qr 9 (.bin .add (.c (.str ⟨#[45]⟩)) (.t 8)),qr 2 (.mv (.t 9))]) .ret) .skip)) (.seq (.reg [qr 10 (.mv (.t 0)),qr 11 (.conv .u64 (.t 10)),qe 12 (.call 43 [.t 11]),qr 2 (.mv (.t 12))]) .ret))
theorem F16.calls [GI] : aJ prog 16 13 F16.c0 [.tmp 2] := aG [] [] 13 func16 ntmps16 (by kernel_rfl) (by kernel_rfl)
end Pg

namespace Pg
open Go Go.Proofs.Tryz
set_option maxRecDepth 100000
set_option maxHeartbeats 4000000
noncomputable def F38.c0 : aT prog 32 [] [] f38 := ⟨_, by with_unfolding_all (conv => lhs; reduce)⟩
theorem F38.calls [GI] : aJ prog 38 32 F38.c0.1 [.tmp 2] := aG _ _ _ func38 ntmps38 F38.c0.2 (by kernel_rfl)
noncomputable def F87.c0 : aT prog 28 [1] [] f87 := ⟨_, by with_unfolding_all (conv => lhs; reduce)⟩
theorem F87.calls [GI] : aJ prog 87 28 F87.c0.1 [.tmp 2] := aG _ _ _ func87 ntmps87 F87.c0.2 (by kernel_rfl)
noncomputable def F41.c0 : aT prog 66 [] [] f41 := ⟨_, by with_unfolding_all (conv => lhs; reduce)⟩
theorem F41.calls [GI] : aJ prog 41 66 F41.c0.1 [.tmp 2] := aG _ _ _ func41 ntmps41 F41.c0.2 (by kernel_rfl)
noncomputable def F39.c0 : aT prog 29 [] [] f39 := ⟨_, by with_unfolding_all (conv => lhs; reduce)⟩
theorem F39.calls [GI] : aJ prog 39 29 F39.c0.1 [.tmp 2] := aG _ _ _ func39 ntmps39 F39.c0.2 (by kernel_rfl)
noncomputable def F40.c0 : aT prog 64 [] [5] f40 := ⟨_, by with_unfolding_all (conv => lhs; reduce)⟩
theorem F40.calls [GI] : aJ prog 40 64 F40.c0.1 [.tmp 2] := aG _ _ _ func40 ntmps40 F40.c0.2 (by kernel_rfl)
noncomputable def F15.c0 : aT prog 94 [1] [] f15 := ⟨_, by with_unfolding_all (conv => lhs; reduce)⟩
theorem F15.calls [GI] : aJ prog 15 94 F15.c0.1 [.tmp 2] := aG _ _ _ func15 ntmps15 F15.c0.2 (by kernel_rfl)
end Pg
