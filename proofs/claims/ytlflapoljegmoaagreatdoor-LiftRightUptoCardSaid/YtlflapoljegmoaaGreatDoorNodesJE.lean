import Derived.Test.YtlflapoljegmoaaGreatDoorK4E
import Derived.Test.YtlflapoljegmoaaGreatDoorProg
import Derived.KernelRfl
import Derived.Test.YtlflapoljegmoaaGreatDoorTreeSE
import Derived.Test.YtlflapoljegmoaaGreatDoorCpWE
namespace Pg
open Go Go.Proofs.Tryz
set_option maxRecDepth 100000
set_option maxHeartbeats 4000000
noncomputable def F100.c0 : CodeT prog 45 [] [] f100 := ⟨_, by with_unfolding_all (conv => lhs; reduce)⟩
theorem F100.calls [GI] : CallsT prog 100 45 F100.c0.1 [.tmp 2] := acallsT _ _ _ func100 ntmps100 F100.c0.2 (by kernel_rfl)
noncomputable def F132.c0 : CodeT prog 34 [] [] f132 := ⟨_, by with_unfolding_all (conv => lhs; reduce)⟩
theorem F132.calls [GI] : CallsT prog 132 34 F132.c0.1 [.tmp 2] := acallsT _ _ _ func132 ntmps132 F132.c0.2 (by kernel_rfl)
noncomputable def F20.c0 : CodeT prog 39 [] [] f20 := ⟨_, by with_unfolding_all (conv => lhs; reduce)⟩
theorem F20.calls [GI] : CallsT prog 20 39 F20.c0.1 [.tmp 6] := acallsT _ _ _ func20 ntmps20 F20.c0.2 (by kernel_rfl)
end Pg

namespace Pg
open Go Go.Proofs.Tryz
set_option maxRecDepth 100000
set_option maxHeartbeats 4000000
def F19.c0 : RCode := .seq (.reg [qr 8 (.mv (.c (.sl [] true)))]) (.seq (.seq (.reg [qr 9 (.mv (.c (.int .i64 0)))]) (.block 0 (.loop (.seq (.seq (.reg [qr 14 (.mv (.t 9)),qr 15 (.mv (.t 1)),qr 16 (.len 1 (.t 15)),qr 17 (.bin .lss (.t 14) (.t 16))]) (.cond (.t 17) .skip (.exit 0))) (.seq (.block 1 (.seq (.dreg [qr 20 (.mv (.t 3)),qr 21 (.mv (.t 1)),qr 22 (.mv (.t 9)),qr 23 (.ia 9 (.t 21) (.t 22)),qr 24 (.fa 2 (.t 23)),qr 25 (.load none (.t 24)),qr 26 (.bin .add (.t 20) (.t 25)),qr 27 (.mv (.t 2)),qr 28 (.mv (.t 1)),qr 29 (.mv (.t 9)),qr 30 (.ia 9 (.t 28) (.t 29)),qr 31 (.load (some 9) (.t 30)),qr 32 (.build [.str ⟨#[]⟩,.int .i64 0,.sl [] true,.sl [] true,.str ⟨#[]⟩,.int .i64 0,.sl [] true,.sl [] true,.sl [] true,.sl [] true,.sl [] true,.sl [] true] [(0,1,.t 26),(1,1,.t 27),(2,9,.t 31)]),qe 10 (.alloc 90 [.str ⟨#[]⟩,.int .i64 0,.sl [] true,.sl [] true,.str ⟨#[]⟩,.int .i64 0,.sl [] true,.sl [] true,.sl [] true,.sl [] true,.sl [] true,.sl [] true]),qu (.store 12 (.t 10) (.t 32))]) (.seq (.seq (.reg [qr 11 (.mv (.c (.int .i64 0)))]) (.block 2 (.loop (.seq (.seq (.reg [qr 33 (.mv (.t 11)),qr 34 (.mv (.t 1)),qr 35 (.mv (.t 9)),qr 36 (.ia 9 (.t 34) (.t 35)),qr 37 (.fa 4 (.t 36)),qr 38 (.load none (.t 37)),qr 39 (.len 1 (.t 38)),qr 40 (.bin .lss (.t 33) (.t 39))]) (.cond (.t 40) .skip (.exit 2))) (.seq (.block 3 (.dreg [qr 43 (.fa 11 (.t 10)),qr 44 (.load none (.t 43)),qr 45 (.mv (.t 1)),qr 46 (.mv (.t 9)),qr 47 (.ia 9 (.t 45) (.t 46)),qr 48 (.fa 4 (.t 47)),qr 49 (.load none (.t 48)),qr 50 (.mv (.t 11)),qr 51 (.ia 5 (.t 49) (.t 50)),qr 52 (.fa 0 (.t 51)),qr 53 (.load none (.t 52)),qr 54 (.mv (.t 1)),qr 55 (.mv (.t 9)),qr 56 (.ia 9 (.t 54) (.t 55)),qr 57 (.fa 4 (.t 56)),qr 58 (.load none (.t 57)),qr 59 (.mv (.t 11)),qr 60 (.ia 5 (.t 58) (.t 59)),qr 61 (.fa 1 (.t 60)),qr 62 (.load (some 3) (.t 61)),qr 63 (.build [.str ⟨#[]⟩,.int .i64 0,.int .i64 0,.str ⟨#[]⟩,.int .i64 0] [(0,1,.t 53),(1,3,.t 62),(4,1,(.c (.int .i64 2)))]),qr 64 (.bsl 5 1 [.str ⟨#[]⟩,.int .i64 0,.int .i64 0,.str ⟨#[]⟩,.int .i64 0] [(0,5,.t 63)]),qe 65 (.append 105 5 56 (.t 44) (.t 64)),qr 66 (.fa 11 (.t 10)),qu (.store 1 (.t 66) (.t 65))])) (.reg [qr 41 (.mv (.t 11)),qr 42 (.bin .add (.t 41) (.c (.int .i64 1))),qr 11 (.mv (.t 42))])))))) (.seq (.seq (.reg [qr 12 (.mv (.c (.int .i64 0)))]) (.block 4 (.loop (.seq (.seq (.reg [qr 67 (.mv (.t 12)),qr 68 (.mv (.t 1)),qr 69 (.mv (.t 9)),qr 70 (.ia 9 (.t 68) (.t 69)),qr 71 (.fa 5 (.t 70)),qr 72 (.load none (.t 71)),qr 73 (.len 1 (.t 72)),qr 74 (.bin .lss (.t 67) (.t 73))]) (.cond (.t 74) .skip (.exit 4))) (.seq (.block 5 (.dreg [qr 77 (.fa 11 (.t 10)),qr 78 (.load none (.t 77)),qr 79 (.mv (.t 1)),qr 80 (.mv (.t 9)),qr 81 (.ia 9 (.t 79) (.t 80)),qr 82 (.fa 5 (.t 81)),qr 83 (.load none (.t 82)),qr 84 (.mv (.t 12)),qr 85 (.ia 6 (.t 83) (.t 84)),qr 86 (.fa 2 (.t 85)),qr 87 (.load none (.t 86)),qr 88 (.mv (.t 1)),qr 89 (.mv (.t 9)),qr 90 (.ia 9 (.t 88) (.t 89)),qr 91 (.fa 5 (.t 90)),qr 92 (.load none (.t 91)),qr 93 (.mv (.t 12)),qr 94 (.ia 6 (.t 92) (.t 93)),qr 95 (.fa 3 (.t 94)),qr 96 (.load (some 3) (.t 95)),qr 97 (.build [.str ⟨#[]⟩,.int .i64 0,.int .i64 0,.str ⟨#[]⟩,.int .i64 0] [(0,1,.t 87),(1,3,.t 96),(4,1,(.c (.int .i64 2)))]),qr 98 (.bsl 5 1 [.str ⟨#[]⟩,.int .i64 0,.int .i64 0,.str ⟨#[]⟩,.int .i64 0] [(0,5,.t 97)]),qe 99 (.append 105 5 56 (.t 78) (.t 98)),qr 100 (.fa 11 (.t 10)),qu (.store 1 (.t 100) (.t 99))])) (.reg [qr 75 (.mv (.t 12)),qr 76 (.bin .add (.t 75) (.c (.int .i64 1))),qr 12 (.mv (.t 76))])))))) (.seq (.reg [qr 101 (.mv (.t 0)),qr 102 (.len 1 (.t 101)),qr 13 (.mv (.t 102))]) (.seq (.reg [qr 103 (.mv (.t 0)),qr 104 (.load (some 12) (.t 10)),qr 105 (.bsl 12 1 [.str ⟨#[]⟩,.int .i64 0,.sl [] true,.sl [] true,.str ⟨#[]⟩,.int .i64 0,.sl [] true,.sl [] true,.sl [] true,.sl [] true,.sl [] true,.sl [] true] [(0,12,.t 104)]),qe 106 (.append 90 12 240 (.t 103) (.t 105)),qr 0 (.mv (.t 106))]) (.dreg [qr 107 (.mv (.t 0)),qr 108 (.mv (.t 1)),qr 109 (.mv (.t 9)),qr 110 (.ia 9 (.t 108) (.t 109)),qr 111 (.fa 6 (.t 110)),qr 112 (.load none (.t 111)),qr 113 (.mv (.t 13)),qr 114 (.mv (.t 3)),qr 115 (.mv (.t 1)),qr 116 (.mv (.t 9)),qr 117 (.ia 9 (.t 115) (.t 116)),qr 118 (.fa 2 (.t 117)),qr 119 (.load none (.t 118)),qr 120 (.bin .add (.t 114) (.t 119)),qr 121 (.bin .add (.t 120) (.c (.str ⟨#[36]⟩))),qe 122 (.call 19 [.t 107,.t 112,.t 113,.t 121]),qr 0 (.mv (.t 122))]))))))) (.reg [qr 18 (.mv (.t 9)),qr 19 (.bin .add (.t 18) (.c (.int .i64 1))),qr 9 (.mv (.t 19))])))))) (.seq (.reg [qr 123 (.mv (.t 0)),qr 8 (.mv (.t 123))]) .ret))
theorem F19.calls [GI] : CallsT prog 19 124 F19.c0 [.tmp 8] := acallsT [] [] 124 func19 ntmps19 (by kernel_rfl) (by kernel_rfl)
end Pg

namespace Pg
open Go
set_option linter.all false
set_option maxHeartbeats 4000000
set_option maxRecDepth 4000
end Pg
