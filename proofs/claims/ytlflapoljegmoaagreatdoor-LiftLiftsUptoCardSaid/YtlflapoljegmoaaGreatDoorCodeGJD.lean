import Derived.Test.YtlflapoljegmoaaGreatDoorK4D
import Derived.Test.YtlflapoljegmoaaGreatDoorProg
import Derived.KernelRfl
namespace Pg
open Go Go.Proofs.Tryz
set_option maxRecDepth 100000
set_option maxHeartbeats 4000000
noncomputable def F63.c0 : CodeT prog 75 [7] [] f63 := ⟨_, by with_unfolding_all (conv => lhs; reduce)⟩
theorem F63.calls [GI] : CallsT prog 63 75 F63.c0.1 [.cell 8 (some 5)] := acallsT _ _ _ func63 ntmps63 F63.c0.2 (by kernel_rfl)
noncomputable def F36.c0 : CodeT prog 71 [] [] f36 := ⟨_, by with_unfolding_all (conv => lhs; reduce)⟩
theorem F36.calls [GI] : CallsT prog 36 71 F36.c0.1 [.tmp 8] := acallsT _ _ _ func36 ntmps36 F36.c0.2 (by kernel_rfl)
noncomputable def F12.c0 : CodeT prog 79 [1] [] f12 := ⟨_, by with_unfolding_all (conv => lhs; reduce)⟩
theorem F12.calls [GI] : CallsT prog 12 79 F12.c0.1 [.cell 2 (some 9),.tmp 3] := acallsT _ _ _ func12 ntmps12 F12.c0.2 (by kernel_rfl)
noncomputable def F3.c0 : CodeT prog 42 [1] [3,4,6] f3 := ⟨_, by with_unfolding_all (conv => lhs; reduce)⟩
theorem F3.calls [GI] : CallsT prog 3 42 F3.c0.1 [.tmp 2] := acallsT _ _ _ func3 ntmps3 F3.c0.2 (by kernel_rfl)
end Pg

namespace Pg
open Go Go.Proofs.Tryz
set_option maxRecDepth 100000
set_option maxHeartbeats 4000000
noncomputable def F98.c0 : CodeT prog 23 [] [] f98 := ⟨_, by with_unfolding_all (conv => lhs; reduce)⟩
theorem F98.calls [GI] : CallsT prog 98 23 F98.c0.1 [.tmp 6] := acallsT _ _ _ func98 ntmps98 F98.c0.2 (by kernel_rfl)
noncomputable def F131.c0 : CodeT prog 34 [2] [] f131 := ⟨_, by with_unfolding_all (conv => lhs; reduce)⟩
theorem F131.calls [GI] : CallsT prog 131 34 F131.c0.1 [.tmp 4] := acallsT _ _ _ func131 ntmps131 F131.c0.2 (by kernel_rfl)
noncomputable def F99.c0 : CodeT prog 75 [] [] f99 := ⟨_, by with_unfolding_all (conv => lhs; reduce)⟩
theorem F99.calls [GI] : CallsT prog 99 75 F99.c0.1 [.tmp 4] := acallsT _ _ _ func99 ntmps99 F99.c0.2 (by kernel_rfl)
noncomputable def F62.c0 : CodeT prog 95 [] [] f62 := ⟨_, by with_unfolding_all (conv => lhs; reduce)⟩
theorem F62.calls [GI] : CallsT prog 62 95 F62.c0.1 [.tmp 6] := acallsT _ _ _ func62 ntmps62 F62.c0.2 (by kernel_rfl)
noncomputable def F35.c0 : CodeT prog 71 [1] [] f35 := ⟨_, by with_unfolding_all (conv => lhs; reduce)⟩
theorem F35.calls [GI] : CallsT prog 35 71 F35.c0.1 [.tmp 2] := acallsT _ _ _ func35 ntmps35 F35.c0.2 (by kernel_rfl)
end Pg

namespace Pg
open Go Go.Proofs.Tryz
set_option maxRecDepth 100000
set_option maxHeartbeats 4000000
noncomputable def F100.c0 : CodeT prog 45 [] [] f100 := ⟨_, by with_unfolding_all (conv => lhs; reduce)⟩
theorem F100.calls [GI] : CallsT prog 100 45 F100.c0.1 [.tmp 2] := acallsT _ _ _ func100 ntmps100 F100.c0.2 (by kernel_rfl)
noncomputable def F132.c0 : CodeT prog 34 [] [] f132 := ⟨_, by with_unfolding_all (conv => lhs; reduce)⟩
theorem F132.calls [GI] : CallsT prog 132 34 F132.c0.1 [.tmp 2] := acallsT _ _ _ func132 ntmps132 F132.c0.2 (by kernel_rfl)
noncomputable def F20.c0 : CodeT prog 39 [] [] f20 := ⟨_, by with_unfolding_all (conv => lhs; reduce)⟩
theorem F20.calls [GI] : CallsT prog 20 39 F20.c0.1 [.tmp 6] := acallsT _ _ _ func20 ntmps20 F20.c0.2 (by kernel_rfl)
end Pg

namespace Pg
open Go Go.Proofs.Tryz
set_option maxRecDepth 100000
set_option maxHeartbeats 4000000
def F19.c0 : RCode := .seq (.reg [qr 8 (.mv (.c (.sl [] true)))]) (.seq (.seq (.reg [qr 9 (.mv (.c (.int .i64 0)))]) (.block 0 (.loop (.seq (.seq (.reg [qr 14 (.mv (.t 9)),qr 15 (.mv (.t 1)),qr 16 (.len 1 (.t 15)),qr 17 (.bin .lss (.t 14) (.t 16))]) (.cond (.t 17) .skip (.exit 0))) (.seq (.block 1 (.seq (.dreg [qr 20 (.mv (.t 3)),qr 21 (.mv (.t 1)),qr 22 (.mv (.t 9)),qr 23 (.ia 9 (.t 21) (.t 22)),qr 24 (.fa 2 (.t 23)),qr 25 (.load none (.t 24)),qr 26 (.bin .add (.t 20) (.t 25)),qr 27 (.mv (.t 2)),qr 28 (.mv (.t 1)),qr 29 (.mv (.t 9)),qr 30 (.ia 9 (.t 28) (.t 29)),qr 31 (.load (some 9) (.t 30)),qr 32 (.build [.str ⟨#[]⟩,.int .i64 0,.sl [] true,.sl [] true,.str ⟨#[]⟩,.int .i64 0,.sl [] true,.sl [] true,.sl [] true,.sl [] true,.sl [] true,.sl [] true] [(0,1,.t 26),(1,1,.t 27),(2,9,.t 31)]),qe 10 (.alloc 90 [.str ⟨#[]⟩,.int .i64 0,.sl [] true,.sl [] true,.str ⟨#[]⟩,.int .i64 0,.sl [] true,.sl [] true,.sl [] true,.sl [] true,.sl [] true,.sl [] true]),qu (.store 12 (.t 10) (.t 32))]) (.seq (.seq (.reg [qr 11 (.mv (.c (.int .i64 0)))]) (.block 2 (.loop (.seq (.seq (.reg [qr 33 (.mv (.t 11)),qr 34 (.mv (.t 1)),qr 35 (.mv (.t 9)),qr 36 (.ia 9 (.t 34) (.t 35)),qr 37 (.fa 4 (.t 36)),qr 38 (.load none (.t 37)),qr 39 (.len 1 (.t 38)),qr 40 (.bin .lss (.t 33) (.t 39))]) (.cond (.t 40) .skip (.exit 2))) (.seq (.block 3 (.dreg [qr 43 (.fa 11 (.t 10)),qr 44 (.load none (.t 43)),qr 45 (.mv (.t 1)),qr 46 (.mv (.t 9)),qr 47 (.ia 9 (.t 45) (.t 46)),qr 48 (.fa 4 (.t 47)),qr 49 (.load none (.t 48)),qr 50 (.mv (.t 11)),qr 51 (.ia 5 (.t 49) (.t 50)),qr 52 (.fa 0 (.t 51)),qr 53 (.load none (.t 52)),qr 54 (.mv (.t 1)),qr 55 (.mv (.t 9)),qr 56 (.ia 9 (.t 54) (.t 55)),qr 57 (.fa 4 (.t 56)),qr 58 (.load none (.t 57)),qr 59 (.mv (.t 11)),qr 60 (.ia 5 (.t 58) (.t 59)),qr 61 (.fa 1 (.t 60)),qr 62 (.load (some 3) (.t 61)),qr 63 (.build [.str ⟨#[]⟩,.int .i64 0,.int .i64 0,.str ⟨#[]⟩,.int .i64 0] [(0,1,.t 53),(1,3,.t 62),(4,1,(.c (.int .i64 2)))]),qr 64 (.bsl 5 1 [.str ⟨#[]⟩,.int .i64 0,.int .i64 0,.str ⟨#[]⟩,.int .i64 0] [(0,5,.t 63)]),qe 65 (.append 105 5 56 (.t 44) (.t 64)),qr 66 (.fa 11 (.t 10)),qu (.store 1 (.t 66) (.t 65))])) (.reg [qr 41 (.mv (.t 11)),qr 42 (.bin .add (.t 41) (.c (.int .i64 1))),qr 11 (.mv (.t 42))])))))) (.seq (.seq (.reg [qr 12 (.mv (.c (.int .i64 0)))]) (.block 4 (.loop (.seq (.seq (.reg [qr 67 (.mv (.t 12)),qr 68 (.mv (.t 1)),qr 69 (.mv (.t 9)),qr 70 (.ia 9 (.t 68) (.t 69)),qr 71 (.fa 5 (.t 70)),qr 72 (.load none (.t 71)),qr 73 (.len 1 (.t 72)),qr 74 (.bin .lss (.t 67) (.t 73))]) (.cond (.t 74) .skip (.exit 4))) (.seq (.block 5 (.dreg [qr 77 (.fa 11 (.t 10)),qr 78 (.load none (.t 77)),qr 79 (.mv (.t 1)),qr 80 (.mv (.t 9)),qr 81 (.ia 9 (.t 79) (.t 80)),qr 82 (.fa 5 (.t 81)),qr 83 (.load none (.t 82)),qr 84 (.mv (.t 12)),qr 85 (.ia 6 (.t 83) (.t 84)),qr 86 (.fa 2 (.t 85)),qr 87 (.load none (.t 86)),qr 88 (.mv (.t 1)),qr 89 (.mv (.t 9)),qr 90 (.ia 9 (.t 88) (.t 89)),qr 91 (.fa 5 (.t 90)),qr 92 (.load none (.t 91)),qr 93 (.mv (.t 12)),qr 94 (.ia 6 (.t 92) (.t 93)),qr 95 (.fa 3 (.t 94)),qr 96 (.load (some 3) (.t 95)),qr 97 (.build [.str ⟨#[]⟩,.int .i64 0,.int .i64 0,.str ⟨#[]⟩,.int .i64 0] [(0,1,.t 87),(1,3,.t 96),(4,1,(.c (.int .i64 2)))]),qr 98 (.bsl 5 1 [.str ⟨#[]⟩,.int .i64 0,.int .i64 0,.str ⟨#[]⟩,.int .i64 0] [(0,5,.t 97)]),qe 99 (.append 105 5 56 (.t 78) (.t 98)),qr 100 (.fa 11 (.t 10)),qu (.store 1 (.t 100) (.t 99))])) (.reg [qr 75 (.mv (.t 12)),qr 76 (.bin .add (.t 75) (.c (.int .i64 1))),qr 12 (.mv (.t 76))])))))) (.seq (.reg [qr 101 (.mv (.t 0)),qr 102 (.len 1 (.t 101)),qr 13 (.mv (.t 102))]) (.seq (.reg [qr 103 (.mv (.t 0)),qr 104 (.load (some 12) (.t 10)),qr 105 (.bsl 12 1 [.str ⟨#[]⟩,.int .i64 0,.sl [] true,.sl [] true,.str ⟨#[]⟩,.int .i64 0,.sl [] true,.sl [] true,.sl [] true,.sl [] true,.sl [] true,.sl [] true] [(0,12,.t 104)]),qe 106 (.append 90 12 240 (.t 103) (.t 105)),qr 0 (.mv (.t 106))]) (.dreg [qr 107 (.mv (.t 0)),qr 108 (.mv (.t 1)),qr 109 (.mv (.t 9)),qr 110 (.ia 9 (.t 108) (.t 109)),qr 111 (.fa 6 (.t 110)),qr 112 (.load none (.t 111)),qr 113 (.mv (.t 13)),qr 114 (.mv (.t 3)),qr 115 (.mv (.t 1)),qr 116 (.mv (.t 9)),qr 117 (.ia 9 (.t 115) (.t 116)),qr 118 (.fa 2 (.t 117)),qr 119 (.load none (.t 118)),qr 120 (.bin .add (.t 114) (.t 119)),qr 121 (.bin .add (.t 120) (.c (.str ⟨#[36]⟩))),qe 122 (.call 19 [.t 107,.t 112,.t 113,.t 121]),qr 0 (.mv (.t 122))]))))))) (.reg [qr 18 (.mv (.t 9)),qr 19 (.bin .add (.t 18) (.c (.int .i64 1))),qr 9 (.mv (.t 19))])))))) (.seq (.reg [qr 123 (.mv (.t 0)),qr 8 (.mv (.t 123))]) .ret))
theorem F19.calls [GI] : CallsT prog 19 124 F19.c0 [.tmp 8] := acallsT [] [] 124 func19 ntmps19 (by kernel_rfl) (by kernel_rfl)
end Pg

namespace Pg
open Go Go.Proofs.Tryz
set_option maxRecDepth 100000
set_option maxHeartbeats 4000000
noncomputable def F142.c0 : CodeT prog 5 [] [] f142 := ⟨_, by with_unfolding_all (conv => lhs; reduce)⟩
theorem F142.calls [GI] : CallsT prog 142 5 F142.c0.1 [.tmp 2] := acallsT _ _ _ func142 ntmps142 F142.c0.2 (by kernel_rfl)
def F118.c0 : RCode := .seq (.reg [qr 8 (.mv (.c (.map none)))]) (.seq (.reg [qe 18 (.mkmap),qr 9 (.mv (.t 18))]) (.seq (.seq (.reg [qr 19 (.mv (.t 1)),qr 20 (.len 1 (.t 19)),qr 21 (.mv (.c (.int .i64 0)))]) (.block 0 (.loop (.seq (.reg [qr 22 (.bin .lss (.t 21) (.t 20))]) (.seq (.cond (.t 22) .skip (.exit 0)) (.seq (.block 1 (.seq (.reg [qr 23 (.ia 9 (.t 19) (.t 21)),qr 24 (.load (some 9) (.t 23)),qr 11 (.bx (some 9) (.t 24))]) (.seq (.reg [qr 25 (.mv (.t 0)),qr 26 (.nilc (.t 25)),qr 27 (.fa 0 (.t 26)),qr 28 (.load none (.t 27)),qr 29 (.len 1 (.t 28)),qr 12 (.mv (.t 29))]) (.seq (.reg [qr 30 (.mv (.t 9)),qr 31 (.fa 2 (.t 11)),qr 32 (.load none (.t 31)),qr 33 (.mv (.t 12)),qu (.mapup [2] (.t 30) (.t 32) (.t 33))]) (.seq (.dreg [qr 34 (.mv (.t 3)),qr 35 (.fa 2 (.t 11)),qr 36 (.load none (.t 35)),qr 37 (.bsl 1 2 [.str ⟨#[]⟩,.str ⟨#[]⟩] [(0,1,.t 34),(1,1,.t 36)]),qr 39 (.mv (.t 2)),qr 40 (.mv (.t 1)),qr 42 (.load (some 9) (.t 11)),qe 38 (.call 142 [.t 37]),qr 41 (.build [.str ⟨#[]⟩,.int .i64 0,.sl [] true] [(0,1,.t 38),(1,1,.t 39),(2,1,.t 40)]),qe 43 (.mkmap),qr 44 (.build [.str ⟨#[]⟩,.int .i64 0,.sl [] true,.sl [] true,.sl [] true,.str ⟨#[]⟩,.int .i64 0,.sl [] true,.sl [] true,.sl [] true,.sl [] true,.sl [] true,.sl [] true,.map none,.sl [] true,.map none] [(0,3,.t 41),(3,9,.t 42),(15,1,.t 43)]),qe 45 (.box 166 (.t 44)),qr 13 (.mv (.t 45))]) (.seq (.seq (.reg [qr 46 (.fa 4 (.t 11)),qr 47 (.load none (.t 46)),qr 48 (.len 1 (.t 47)),qr 49 (.mv (.c (.int .i64 0)))]) (.block 2 (.loop (.seq (.reg [qr 50 (.bin .lss (.t 49) (.t 48))]) (.seq (.cond (.t 50) .skip (.exit 2)) (.seq (.block 3 (.seq (.reg [qr 51 (.ia 5 (.t 47) (.t 49)),qr 52 (.load (some 5) (.t 51)),qr 15 (.bx (some 5) (.t 52))]) (.dreg [qr 53 (.mv (.t 13)),qr 54 (.mv (.t 13)),qr 55 (.nilc (.t 54)),qr 56 (.fa 12 (.t 55)),qr 57 (.load none (.t 56)),qr 58 (.fa 0 (.t 15)),qr 59 (.load none (.t 58)),qr 60 (.fa 1 (.t 15)),qr 61 (.load (some 3) (.t 60)),qr 62 (.build [.str ⟨#[]⟩,.int .i64 0,.int .i64 0,.str ⟨#[]⟩,.int .i64 0] [(0,1,.t 59),(1,3,.t 61),(4,1,(.c (.int .i64 2)))]),qr 63 (.bsl 5 1 [.str ⟨#[]⟩,.int .i64 0,.int .i64 0,.str ⟨#[]⟩,.int .i64 0] [(0,5,.t 62)]),qe 64 (.append 105 5 56 (.t 57) (.t 63)),qr 65 (.nilc (.t 53)),qr 66 (.fa 12 (.t 65)),qu (.store 1 (.t 66) (.t 64))]))) (.reg [qr 67 (.bin .add (.t 49) (.c (.int .i64 1))),qr 49 (.mv (.t 67))]))))))) (.seq (.seq (.reg [qr 68 (.fa 5 (.t 11)),qr 69 (.load none (.t 68)),qr 70 (.len 1 (.t 69)),qr 71 (.mv (.c (.int .i64 0)))]) (.block 4 (.loop (.seq (.reg [qr 72 (.bin .lss (.t 71) (.t 70))]) (.seq (.cond (.t 72) .skip (.exit 4)) (.seq (.block 5 (.seq (.reg [qr 73 (.ia 6 (.t 69) (.t 71)),qr 74 (.load (some 6) (.t 73)),qr 17 (.bx (some 6) (.t 74))]) (.dreg [qr 75 (.mv (.t 13)),qr 76 (.mv (.t 13)),qr 77 (.nilc (.t 76)),qr 78 (.fa 12 (.t 77)),qr 79 (.load none (.t 78)),qr 80 (.fa 2 (.t 17)),qr 81 (.load none (.t 80)),qr 82 (.fa 3 (.t 17)),qr 83 (.load (some 3) (.t 82)),qr 84 (.build [.str ⟨#[]⟩,.int .i64 0,.int .i64 0,.str ⟨#[]⟩,.int .i64 0] [(0,1,.t 81),(1,3,.t 83),(4,1,(.c (.int .i64 2)))]),qr 85 (.bsl 5 1 [.str ⟨#[]⟩,.int .i64 0,.int .i64 0,.str ⟨#[]⟩,.int .i64 0] [(0,5,.t 84)]),qe 86 (.append 105 5 56 (.t 79) (.t 85)),qr 87 (.nilc (.t 75)),qr 88 (.fa 12 (.t 87)),qu (.store 1 (.t 88) (.t 86))]))) (.reg [qr 89 (.bin .add (.t 71) (.c (.int .i64 1))),qr 71 (.mv (.t 89))]))))))) (.seq (.reg [qr 90 (.mv (.t 0)),qr 91 (.mv (.t 0)),qr 92 (.nilc (.t 91)),qr 93 (.fa 0 (.t 92)),qr 94 (.load none (.t 93)),qr 95 (.mv (.t 13)),qr 96 (.bsl 1 1 [.ptr none] [(0,1,.t 95)]),qe 97 (.append 161 1 8 (.t 94) (.t 96)),qr 98 (.nilc (.t 90)),qr 99 (.fa 0 (.t 98)),qu (.store 1 (.t 99) (.t 97))]) (.dreg [qr 100 (.mv (.t 13)),qr 101 (.mv (.t 0)),qr 102 (.fa 6 (.t 11)),qr 103 (.load none (.t 102)),qr 104 (.mv (.t 12)),qr 105 (.mv (.t 3)),qr 106 (.fa 2 (.t 11)),qr 107 (.load none (.t 106)),qr 108 (.bsl 1 3 [.str ⟨#[]⟩,.str ⟨#[]⟩,.str ⟨#[]⟩] [(0,1,.t 105),(1,1,.t 107),(2,1,(.c (.str ⟨#[36]⟩)))]),qe 109 (.call 142 [.t 108]),qe 110 (.call 118 [.t 101,.t 103,.t 104,.t 109]),qr 111 (.nilc (.t 100)),qr 112 (.fa 13 (.t 111)),qu (.store 1 (.t 112) (.t 110))]))))))))) (.reg [qr 113 (.bin .add (.t 21) (.c (.int .i64 1))),qr 21 (.mv (.t 113))]))))))) (.seq (.reg [qr 114 (.mv (.t 9)),qr 8 (.mv (.t 114))]) .ret)))
theorem F118.calls [GI] : CallsT prog 118 115 F118.c0 [.tmp 8] := acallsT [] [11,15,17] 115 func118 ntmps118 (by kernel_rfl) (by kernel_rfl)
noncomputable def F143.c0 : CodeT prog 60 [] [8] f143 := ⟨_, by with_unfolding_all (conv => lhs; reduce)⟩
theorem F143.calls [GI] : CallsT prog 143 60 F143.c0.1 [] := acallsT _ _ _ func143 ntmps143 F143.c0.2 (by kernel_rfl)
noncomputable def F154.c0 : CodeT prog 55 [] [] f154 := ⟨_, by with_unfolding_all (conv => lhs; reduce)⟩
theorem F154.calls [GI] : CallsT prog 154 55 F154.c0.1 [.tmp 6,.tmp 7] := acallsT _ _ _ func154 ntmps154 F154.c0.2 (by kernel_rfl)
noncomputable def F144.c0 : CodeT prog 66 [] [7] f144 := ⟨_, by with_unfolding_all (conv => lhs; reduce)⟩
theorem F144.calls [GI] : CallsT prog 144 66 F144.c0.1 [] := acallsT _ _ _ func144 ntmps144 F144.c0.2 (by kernel_rfl)
noncomputable def F119.c0 : CodeT prog 44 [] [7] f119 := ⟨_, by with_unfolding_all (conv => lhs; reduce)⟩
theorem F119.calls [GI] : CallsT prog 119 44 F119.c0.1 [] := acallsT _ _ _ func119 ntmps119 F119.c0.2 (by kernel_rfl)
noncomputable def F120.c0 : CodeT prog 63 [] [7] f120 := ⟨_, by with_unfolding_all (conv => lhs; reduce)⟩
theorem F120.calls [GI] : CallsT prog 120 63 F120.c0.1 [] := acallsT _ _ _ func120 ntmps120 F120.c0.2 (by kernel_rfl)
noncomputable def F86.c0 : CodeT prog 46 [1] [] f86 := ⟨_, by with_unfolding_all (conv => lhs; reduce)⟩
theorem F86.calls [GI] : CallsT prog 86 46 F86.c0.1 [.tmp 2] := acallsT _ _ _ func86 ntmps86 F86.c0.2 (by kernel_rfl)
noncomputable def F57.c0 : CodeT prog 65 [1] [11] f57 := ⟨_, by with_unfolding_all (conv => lhs; reduce)⟩
theorem F57.calls [GI] : CallsT prog 57 65 F57.c0.1 [.tmp 2] := acallsT _ _ _ func57 ntmps57 F57.c0.2 (by kernel_rfl)
noncomputable def F56.c0 : CodeT prog 30 [1] [] f56 := ⟨_, by with_unfolding_all (conv => lhs; reduce)⟩
theorem F56.calls [GI] : CallsT prog 56 30 F56.c0.1 [.tmp 2] := acallsT _ _ _ func56 ntmps56 F56.c0.2 (by kernel_rfl)
end Pg
