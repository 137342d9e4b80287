import Derived.Test.YtlflapoljegmoaaGreatDoorK4A
import Derived.Test.YtlflapoljegmoaaGreatDoorProg
import Derived.KernelRfl
import Derived.Test.YtlflapoljegmoaaGreatDoorTreeSA
import Derived.Test.YtlflapoljegmoaaGreatDoorCpWJA
namespace Pg
open Go
set_option maxRecDepth 100000
set_option maxHeartbeats 4000000
noncomputable def F100.c0 : CodeT Go.Proofs.Tryz.prog 45 [] [] Go.Proofs.Tryz.f100 := ⟨_, by with_unfolding_all (conv => lhs; reduce)⟩
theorem F100.calls [GI] : CallsT Go.Proofs.Tryz.prog 100 45 F100.c0.1 [.tmp 2] := acallsT _ _ _ Go.Proofs.Tryz.func100 Go.Proofs.Tryz.ntmps100 F100.c0.2 (by kernel_rfl)
noncomputable def F132.c0 : CodeT Go.Proofs.Tryz.prog 34 [] [] Go.Proofs.Tryz.f132 := ⟨_, by with_unfolding_all (conv => lhs; reduce)⟩
theorem F132.calls [GI] : CallsT Go.Proofs.Tryz.prog 132 34 F132.c0.1 [.tmp 2] := acallsT _ _ _ Go.Proofs.Tryz.func132 Go.Proofs.Tryz.ntmps132 F132.c0.2 (by kernel_rfl)
noncomputable def F20.c0 : CodeT Go.Proofs.Tryz.prog 39 [] [] Go.Proofs.Tryz.f20 := ⟨_, by with_unfolding_all (conv => lhs; reduce)⟩
theorem F20.calls [GI] : CallsT Go.Proofs.Tryz.prog 20 39 F20.c0.1 [.tmp 6] := acallsT _ _ _ Go.Proofs.Tryz.func20 Go.Proofs.Tryz.ntmps20 F20.c0.2 (by kernel_rfl)
end Pg

namespace Pg
open Go
set_option maxRecDepth 100000
set_option maxHeartbeats 4000000
def F19.c0 : RCode := .seq (.reg [qr 8 (.mv (.c (.sl [] true)))]) (.seq (.seq (.reg [qr 9 (.mv (.c (.int .i64 0)))]) (.block 0 (.loop (.seq (.seq (.reg [qr 14 (.mv (.t 9)),qr 15 (.mv (.t 1)),qr 16 (.len 1 (.t 15)),qr 17 (.bin .lss (.t 14) (.t 16))]) (.cond (.t 17) .skip (.exit 0))) (.seq (.block 1 (.seq (.dreg [qr 20 (.mv (.t 3)),qr 21 (.mv (.t 1)),qr 22 (.mv (.t 9)),qr 23 (.ia 9 (.t 21) (.t 22)),qr 24 (.fa 2 (.t 23)),qr 25 (.load none (.t 24)),qr 26 (.bin .add (.t 20) (.t 25)),qr 27 (.mv (.t 2)),qr 28 (.mv (.t 1)),qr 29 (.mv (.t 9)),qr 30 (.ia 9 (.t 28) (.t 29)),qr 31 (.load (some 9) (.t 30)),qr 32 (.build [.str ⟨#[]⟩,.int .i64 0,.sl [] true,.sl [] true,.str ⟨#[]⟩,.int .i64 0,.sl [] true,.sl [] true,.sl [] true,.sl [] true,.sl [] true,.sl [] true] [(0,1,.t 26),(1,1,.t 27),(2,9,.t 31)]),qe 10 (.alloc 90 [.str ⟨#[]⟩,.int .i64 0,.sl [] true,.sl [] true,.str ⟨#[]⟩,.int .i64 0,.sl [] true,.sl [] true,.sl [] true,.sl [] true,.sl [] true,.sl [] true]),qu (.store 12 (.t 10) (.t 32))]) (.seq (.seq (.reg [qr 11 (.mv (.c (.int .i64 0)))]) (.block 2 (.loop (.seq (.seq (.reg [qr 33 (.mv (.t 11)),qr 34 (.mv (.t 1)),qr 35 (.mv (.t 9)),qr 36 (.ia 9 (.t 34) (.t 35)),qr 37 (.fa 4 (.t 36)),qr 38 (.load none (.t 37)),qr 39 (.len 1 (.t 38)),qr 40 (.bin .lss (.t 33) (.t 39))]) (.cond (.t 40) .skip (.exit 2))) (.seq (.block 3 (.dreg [qr 43 (.fa 11 (.t 10)),qr 44 (.load none (.t 43)),qr 45 (.mv (.t 1)),qr 46 (.mv (.t 9)),qr 47 (.ia 9 (.t 45) (.t 46)),qr 48 (.fa 4 (.t 47)),qr 49 (.load none (.t 48)),qr 50 (.mv (.t 11)),qr 51 (.ia 5 (.t 49) (.t 50)),qr 52 (.fa 0 (.t 51)),qr 53 (.load none (.t 52)),qr 54 (.mv (.t 1)),qr 55 (.mv (.t 9)),qr 56 (.ia 9 (.t 54) (.t 55)),qr 57 (.fa 4 (.t 56)),qr 58 (.load none (.t 57)),qr 59 (.mv (.t 11)),qr 60 (.ia 5 (.t 58) (.t 59)),qr 61 (.fa 1 (.t 60)),qr 62 (.load (some 3) (.t 61)),qr 63 (.build [.str ⟨#[]⟩,.int .i64 0,.int .i64 0,.str ⟨#[]⟩,.int .i64 0] [(0,1,.t 53),(1,3,.t 62),(4,1,(.c (.int .i64 2)))]),qr 64 (.bsl 5 1 [.str ⟨#[]⟩,.int .i64 0,.int .i64 0,.str ⟨#[]⟩,.int .i64 0] [(0,5,.t 63)]),qe 65 (.append 105 5 56 (.t 44) (.t 64)),qr 66 (.fa 11 (.t 10)),qu (.store 1 (.t 66) (.t 65))])) (.reg [qr 41 (.mv (.t 11)),qr 42 (.bin .add (.t 41) (.c (.int .i64 1))),qr 11 (.mv (.t 42))])))))) (.seq (.seq (.reg [qr 12 (.mv (.c (.int .i64 0)))]) (.block 4 (.loop (.seq (.seq (.reg [qr 67 (.mv (.t 12)),qr 68 (.mv (.t 1)),qr 69 (.mv (.t 9)),qr 70 (.ia 9 (.t 68) (.t 69)),qr 71 (.fa 5 (.t 70)),qr 72 (.load none (.t 71)),qr 73 (.len 1 (.t 72)),qr 74 (.bin .lss (.t 67) (.t 73))]) (.cond (.t 74) .skip (.exit 4))) (.seq (.block 5 (.dreg [qr 77 (.fa 11 (.t 10)),qr 78 (.load none (.t 77)),qr 79 (.mv (.t 1)),qr 80 (.mv (.t 9)),qr 81 (.ia 9 (.t 79) (.t 80)),qr 82 (.fa 5 (.t 81)),qr 83 (.load none (.t 82)),qr 84 (.mv (.t 12)),qr 85 (.ia 6 (.t 83) (.t 84)),qr 86 (.fa 2 (.t 85)),qr 87 (.load none (.t 86)),qr 88 (.mv (.t 1)),qr 89 (.mv (.t 9)),qr 90 (.ia 9 (.t 88) (.t 89)),qr 91 (.fa 5 (.t 90)),qr 92 (.load none (.t 91)),qr 93 (.mv (.t 12)),qr 94 (.ia 6 (.t 92) (.t 93)),qr 95 (.fa 3 (.t 94)),qr 96 (.load (some 3) (.t 95)),qr 97 (.build [.str ⟨#[]⟩,.int .i64 0,.int .i64 0,.str ⟨#[]⟩,.int .i64 0] [(0,1,.t 87),(1,3,.t 96),(4,1,(.c (.int .i64 2)))]),qr 98 (.bsl 5 1 [.str ⟨#[]⟩,.int .i64 0,.int .i64 0,.str ⟨#[]⟩,.int .i64 0] [(0,5,.t 97)]),qe 99 (.append 105 5 56 (.t 78) (.t 98)),qr 100 (.fa 11 (.t 10)),qu (.store 1 (.t 100) (.t 99))])) (.reg [qr 75 (.mv (.t 12)),qr 76 (.bin .add (.t 75) (.c (.int .i64 1))),qr 12 (.mv (.t 76))])))))) (.seq (.reg [qr 101 (.mv (.t 0)),qr 102 (.len 1 (.t 101)),qr 13 (.mv (.t 102))]) (.seq (.reg [qr 103 (.mv (.t 0)),qr 104 (.load (some 12) (.t 10)),qr 105 (.bsl 12 1 [.str ⟨#[]⟩,.int .i64 0,.sl [] true,.sl [] true,.str ⟨#[]⟩,.int .i64 0,.sl [] true,.sl [] true,.sl [] true,.sl [] true,.sl [] true,.sl [] true] [(0,12,.t 104)]),qe 106 (.append 90 12 240 (.t 103) (.t 105)),qr 0 (.mv (.t 106))]) (.dreg [qr 107 (.mv (.t 0)),qr 108 (.mv (.t 1)),qr 109 (.mv (.t 9)),qr 110 (.ia 9 (.t 108) (.t 109)),qr 111 (.fa 6 (.t 110)),qr 112 (.load none (.t 111)),qr 113 (.mv (.t 13)),qr 114 (.mv (.t 3)),qr 115 (.mv (.t 1)),qr 116 (.mv (.t 9)),qr 117 (.ia 9 (.t 115) (.t 116)),qr 118 (.fa 2 (.t 117)),qr 119 (.load none (.t 118)),qr 120 (.bin .add (.t 114) (.t 119)),qr 121 (.bin .add (.t 120) (.c (.str ⟨#[36]⟩))),qe 122 (.call 19 [.t 107,.t 112,.t 113,.t 121]),qr 0 (.mv (.t 122))]))))))) (.reg [qr 18 (.mv (.t 9)),qr 19 (.bin .add (.t 18) (.c (.int .i64 1))),qr 9 (.mv (.t 19))])))))) (.seq (.reg [qr 123 (.mv (.t 0)),qr 8 (.mv (.t 123))]) .ret))
theorem F19.calls [GI] : CallsT Go.Proofs.Tryz.prog 19 124 F19.c0 [.tmp 8] := acallsT [] [] 124 Go.Proofs.Tryz.func19 Go.Proofs.Tryz.ntmps19 (by kernel_rfl) (by kernel_rfl)
end Pg

namespace Pg
open Go
set_option linter.unusedSimpArgs false
set_option linter.unusedVariables false
set_option maxHeartbeats 4000000
set_option maxRecDepth 4000
abbrev cNd (path : ByteArray) (around : Int) (r : Routine) (locals : AV) : List AV :=
 [.str path, .int .i64 around, eTexts r.before, eTexts r.trail, .str r.name, .int .i64 r.result, .sl (r.params.map eParam) false, .sl (r.vars.map eVar) false, .sl (r.inner.map eRoutine) false, .sl (r.body.map eStmt) false, eTexts r.endd, locals]
def eNd (n : CN) : List AV := cNd n.path n.around n.r (.sl ((locs n.r).map eParam) false)
theorem eNd_len (n : CN) : (eNd n).length = 12 := rfl
abbrev oNd (path : ByteArray) (around : Int) (r : Routine) (locals : AV) : AObj := .blk (cNd path around r locals) 12 90
theorem sp10 (a b c d e f g h i j : AV) (x : Routine) : splice [a, b, c, d, e, f, g, h, i, j] 0 (eRoutine x) = [eTexts x.before, eTexts x.trail, .str x.name, .int .i64 x.result, .sl (x.params.map eParam) false, .sl (x.vars.map eVar) false, .sl (x.inner.map eRoutine) false, .sl (x.body.map eStmt) false, eTexts x.endd, j] := by rw [eRoutine_eq]; rfl
theorem weak_nd {path : ByteArray} {around : Int} {r : Routine} {v v' : AV} (h : AVle v v') : ObjLe (oNd path around r v) (oNd path around r v') := by
 refine ⟨rfl, rfl, rfl, ?_⟩
 iterate 11 refine AVles.cons (.refl _) ?_
 exact AVles.cons h (.refl _)
theorem cat_ok {a b : ByteArray} (h : a.size + b.size ≤ 1099511627776) : (((a.size + b.size : Nat) : Int) > IntKind.i64.max) = False := by
 have m : IntKind.i64.max = 9223372036854775807 := by decide
 rw [m]; simp; omega
theorem Nodes_spec [GI] : ∀ (N : Nat) (l : List Routine), Routines.sz l < N → few l → (∀ x ∈ l, x.ok) → ∀ (h0 g : AHeap) (v : AV) (old : List (List AV)) (around : Int) (path : ByteArray),
  GL 90 12 h0 g v old → old.length + wRs l ≤ 274877906944 → path.size + nwRs l ≤ 274877906944 →
  ACalls Go.Proofs.Tryz.prog 19 [v, .sl (l.map eRoutine) false, .int .i64 around, .str path] g (fun w g' => GL 90 12 h0 g' w (old ++ (capL old.length l around path l).map eNd)) := by
 intro N
 induction N with
 | zero => intro l hN; omega
 | succ N ih =>
  intro l hN hl hok h0 g v old around path G hw hpn
  refine F19.calls (by simp) ?_
  delta F19.c0
  simp only [↓pgPre,go_sem,seval]
  refine lT_list l (fun pre post e g' => ∃ v', GL 90 12 h0 g' v' (old ++ (capL old.length l around path pre).map eNd) ∧ e = [(0, v'), (1, .sl (l.map eRoutine) false), (2, .int .i64 around), (3, .str path), (9, .int .i64 pre.length)]) (WeakE.env ?_) ⟨v, by simpa [capL] using G, rfl⟩ ?_ ?_
  ·skip
   repeat' (first | exact EnvLe.nil _ | refine EnvLe.cons ?_ ?_)
   all_goals (simp only [↓pgPre,go_sem,seval]; try first | exact AVle.refl _ | exact AVle.sl _ _ | exact AVle.gs _ _ _ | assumption)
  ·rintro pre x post e g' hp ⟨v', G', rfl⟩
   have hx := mem_at hp
   have hxz := Routines.sz_mem hx
   have hz := Routine.sz_eq x
   have hxo := (Routine.ok_iff x).1 (hok x hx)
   have hww := wRs_at hp
   have hnw := nwRs_at hp
   have hwx := wR_eq x
   have hnx := nwR_eq x
   have hrc := rcnts_le _ pre (Nat.le_refl _)
   have hrow : (old ++ (capL old.length l around path pre).map eNd).length = old.length + rcnts pre := by rw [List.length_append, List.length_map, capL_len]
   have hcat := cat_ok (a := path) (b := x.name) (by omega)
   simp only [↓pgPre,go_sem,seval, lt_at hp, aia_sl (map_at hp) (eRoutine_len x), routine_2, hcat, eRoutine_len, routine_take]
   refine afreshT_intro fun b hb => ?_
   simp only [↓pgPre,go_sem,seval, sp10, upd_upd]
   refine lT_list x.params (fun pre2 post2 e k => ∃ lv, GL 105 5 (g'.upd b (oNd (path ++ x.name) around x lv)) k lv ((pre2.map upP).map eParam) ∧ e = [(0, v'), (1, .sl (l.map eRoutine) false), (2, .int .i64 around), (3, .str path), (9, .int .i64 pre.length), (10, .ptr (some ⟨b, 0, none⟩)), (11, .int .i64 pre2.length)]) (WeakE.env ?_) ⟨.sl [] true, .nil _, rfl⟩ ?_ ?_
   ·skip
    repeat' (first | exact EnvLe.nil _ | refine EnvLe.cons ?_ ?_)
    all_goals (simp only [↓pgPre,go_sem,seval]; try first | exact AVle.refl _ | exact AVle.sl _ _ | exact AVle.gs _ _ _ | assumption)
   ·rintro pre2 y post2 e k hp2 ⟨lv, E, rfl⟩
    have hpl2 := (at_pre hp2).2
    have hkp : k b = some (oNd (path ++ x.name) around x lv) := E.at (upd_same _ _ _)
    have tk : ((eParam y).drop 1).take 3 = eTyp y.t := rfl
    simp only [↓pgPre,go_sem,seval, lt_at hp2, aia_sl (map_at hp) (eRoutine_len x), routine_4, aia_sl (map_at hp2) (eParam_len y), eParam_len, param_0, hkp, tk, sp4]
    refine E.append1 (xs := eParam (upP y)) (bytes := 56) rfl (by unfold roomFor; simp; omega) (fun lv' k' E' => ?_)
    have hkp' : k' b = some (oNd (path ++ x.name) around x lv) := E'.at (upd_same _ _ _)
    simp only [↓pgPre,go_sem,seval, hkp', E'.cells]
    have E2 := E'.upd (upd_same _ _ _) (oNd (path ++ x.name) around x lv')
    rw [upd_upd] at E2
    refine ⟨.inr (by decide), _, _, WeakE.env ?_, lv', ?_, rfl⟩
    ·skip
     repeat' (first | exact EnvLe.nil _ | refine EnvLe.cons ?_ ?_)
     all_goals (simp only [↓pgPre,go_sem,seval, step_at hxo.2.2.1 hp2]; try first | exact AVle.refl _ | exact AVle.sl _ _ | exact AVle.gs _ _ _ | assumption)
    ·simpa using E2
   ·rintro e k ⟨lv, E, rfl⟩
    simp only [↓pgPre,go_sem,seval, aia_sl (map_at hp) (eRoutine_len x), routine_4, lt_end]
    refine lessQ.same ?_
    simp only [↓pgPre,go_sem,seval]
    refine lT_list x.vars (fun pre2 post2 e k => ∃ lv, GL 105 5 (g'.upd b (oNd (path ++ x.name) around x lv)) k lv ((x.params.map upP ++ pre2.map upV).map eParam) ∧ e = [(0, v'), (1, .sl (l.map eRoutine) false), (2, .int .i64 around), (3, .str path), (9, .int .i64 pre.length), (10, .ptr (some ⟨b, 0, none⟩)), (12, .int .i64 pre2.length)]) (WeakE.env ?_) ⟨lv, by rw [List.map_nil, List.append_nil]; exact E, rfl⟩ ?_ ?_
    ·skip
     repeat' (first | exact EnvLe.nil _ | refine EnvLe.cons ?_ ?_)
     all_goals (simp only [↓pgPre,go_sem,seval]; try first | exact AVle.refl _ | exact AVle.sl _ _ | exact AVle.gs _ _ _ | assumption)
    ·rintro pre2 y post2 e k hp2 ⟨lv, E, rfl⟩
     have hpl2 := (at_pre hp2).2
     have hkp : k b = some (oNd (path ++ x.name) around x lv) := E.at (upd_same _ _ _)
     have tk : ((eVar y).drop 3).take 3 = eTyp y.t := rfl
     simp only [↓pgPre,go_sem,seval, lt_at hp2, aia_sl (map_at hp) (eRoutine_len x), routine_5, aia_sl (map_at hp2) (eVar_len y), eVar_len, var_2, hkp, tk, sp4]
     refine E.append1 (xs := eParam (upV y)) (bytes := 56) rfl (by unfold roomFor; simp; omega) (fun lv' k' E' => ?_)
     have hkp' : k' b = some (oNd (path ++ x.name) around x lv) := E'.at (upd_same _ _ _)
     simp only [↓pgPre,go_sem,seval, hkp', E'.cells]
     have E2 := E'.upd (upd_same _ _ _) (oNd (path ++ x.name) around x lv')
     rw [upd_upd] at E2
     refine ⟨.inr (by decide), _, _, WeakE.env ?_, lv', ?_, rfl⟩
     ·skip
      repeat' (first | exact EnvLe.nil _ | refine EnvLe.cons ?_ ?_)
      all_goals (simp only [↓pgPre,go_sem,seval, step_at hxo.2.2.2.1 hp2]; try first | exact AVle.refl _ | exact AVle.sl _ _ | exact AVle.gs _ _ _ | assumption)
     ·simpa using E2
    ·rintro e k ⟨lv, E, rfl⟩
     simp only [↓pgPre,go_sem,seval, aia_sl (map_at hp) (eRoutine_len x), routine_5, lt_end]
     rw [← locs_eq] at E
     refine lessQ.to (e' := [(0, v'), (1, .sl (l.map eRoutine) false), (2, .int .i64 around), (3, .str path), (9, .int .i64 pre.length), (10, .ptr (some ⟨b, 0, none⟩))]) (g := g'.upd b (oNd (path ++ x.name) around x (.sl ((locs x).map eParam) false))) (WeakE.of ?_ (weak_cell E.le (weak_nd E.avle))) ?_
     ·skip
      repeat' (first | exact EnvLe.nil _ | refine EnvLe.cons ?_ ?_)
      all_goals (simp only [↓pgPre,go_sem,seval]; try first | exact AVle.refl _ | exact AVle.sl _ _ | exact AVle.gs _ _ _ | assumption)
     clear E
     have hh0b : h0 b = none := none_le G'.le hb
     have G1 := G'.fresh hb (oNd (path ++ x.name) around x (.sl ((locs x).map eParam) false))
     have hk1 : (g'.upd b (oNd (path ++ x.name) around x (.sl ((locs x).map eParam) false))) b = some (oNd (path ++ x.name) around x (.sl ((locs x).map eParam) false)) := upd_same _ _ _
     generalize g'.upd b (oNd (path ++ x.name) around x (.sl ((locs x).map eParam) false)) = g1 at G1 hk1
     simp only [↓pgPre,go_sem,seval, G1.len, hk1, hrow]
     refine G1.append1 (xs := cNd (path ++ x.name) around x (.sl ((locs x).map eParam) false)) (bytes := 240) rfl (by unfold roomFor; rw [hrow]; omega) (fun v2 g2 G2 => ?_)
     have hcat2 : (((path.size + x.name.size + (#[36] : Array UInt8).size : Nat) : Int) > IntKind.i64.max) = False := by
      have m : IntKind.i64.max = 9223372036854775807 := by decide
      have k : (#[36] : Array UInt8).size = 1 := rfl
      rw [m, k]; simp; omega
     have hps : (path ++ x.name ++ dollar).size = path.size + x.name.size + 1 := by rw [ByteArray.size_append, ByteArray.size_append]; rfl
     have hrow' : (old ++ (capL old.length l around path pre).map eNd ++ [cNd (path ++ x.name) around x (.sl ((locs x).map eParam) false)]).length = old.length + rcnts pre + 1 := by rw [List.length_append, hrow]; rfl
     simp only [↓pgPre,go_sem,seval, aia_sl (map_at hp) (eRoutine_len x), routine_6, routine_2, hcat, hcat2]
     refine callT_of (ih x.inner (by omega) hxo.2.2.2.2.2.1 hxo.2.2.2.2.2.2.1 _ g2 v2 _ ((old.length + rcnts pre : Nat) : Int) (path ++ x.name ++ dollar) G2 (by rw [hrow']; omega) (by rw [hps]; omega)) (fun w g3 G3 => ?_)
     rw [hrow'] at G3
     simp only [↓pgPre,go_sem,seval]
     obtain ⟨h3, G4, le3⟩ := G3.rebase (h0 := h0) (AHeap.le_upd hh0b)
     refine ⟨_, h3, WeakE.of ?_ (.of_le le3), w, ?_, rfl⟩
     ·skip
      repeat' (first | exact EnvLe.nil _ | refine EnvLe.cons ?_ ?_)
      all_goals (simp only [↓pgPre,go_sem,seval, step_at hl hp]; try first | exact AVle.refl _ | exact AVle.sl _ _ | exact AVle.gs _ _ _ | assumption)
     ·rw [capL_snoc, capR_eq]
      simpa [List.append_assoc, eNd] using G4
  ·rintro e g' ⟨v', G', rfl⟩
   simp only [↓pgPre,go_sem,seval, lt_end]
   refine lessQ.same ?_
   simp only [↓pgPre,go_sem,seval]
   exact .same G'
end Pg
