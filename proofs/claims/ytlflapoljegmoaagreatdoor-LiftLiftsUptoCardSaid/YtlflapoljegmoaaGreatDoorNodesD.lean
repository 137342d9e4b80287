import Derived.Test.YtlflapoljegmoaaGreatDoorTreeSD
import Derived.Test.YtlflapoljegmoaaGreatDoorCodeGJD
import Derived.Test.YtlflapoljegmoaaGreatDoorCpWD
namespace Pg
open Go Go.Proofs.Tryz
set_option linter.all false
set_option maxHeartbeats 4000000
set_option maxRecDepth 4000
abbrev cNd (path : ByteArray) (around : Int) (r : Routine) (locals : AV) : List AV :=
 [.str path, .int .i64 around, eTexts r.before, eTexts r.trail, .str r.name, .int .i64 r.result, .sl (r.params.map eParam) false, .sl (r.vars.map eVar) false, .sl (r.inner.map eRoutine) false, .sl (r.body.map eStmt) false, eTexts r.endd, locals]
def eNd (n : CN) : List AV := cNd n.path n.around n.r (.sl ((locs n.r).map eParam) false)
theorem eNd_len (n : CN) : (eNd n).length = 12 := rfl
abbrev oNd (path : ByteArray) (around : Int) (r : Routine) (locals : AV) : AObj := .blk (cNd path around r locals) 12 90
theorem sp10 (a b c d e f g h i j : AV) (x : Routine) : splice [a, b, c, d, e, f, g, h, i, j] 0 (eRoutine x) = [eTexts x.before, eTexts x.trail, .str x.name, .int .i64 x.result, .sl (x.params.map eParam) false, .sl (x.vars.map eVar) false, .sl (x.inner.map eRoutine) false, .sl (x.body.map eStmt) false, eTexts x.endd, j] := by rw [eRoutine_eq]; rfl
theorem weak_nd {path : ByteArray} {around : Int} {r : Routine} {v v' : AV} (h : AVle v v') : ObjLe (oNd path around r v) (oNd path around r v') := by
 refine ⟨rfl, rfl, rfl, ?_⟩
 iterate 11 refine AVles.cons (.refl _) ?_
 exact AVles.cons h (.refl _)
theorem cat_ok {a b : ByteArray} (h : a.size + b.size ≤ 1099511627776) : (((a.size + b.size : Nat) : Int) > IntKind.i64.max) = False := by
 have m : IntKind.i64.max = 9223372036854775807 := by decide
 rw [m]; simp; omega
theorem Nodes_spec [GI] : ∀ (N : Nat) (l : List Routine), Routines.sz l < N → few l → (∀ x ∈ l, x.ok) → ∀ (h0 g : AHeap) (v : AV) (old : List (List AV)) (around : Int) (path : ByteArray),
  GL 90 12 h0 g v old → old.length + wRs l ≤ 274877906944 → path.size + nwRs l ≤ 274877906944 →
  ACalls prog 19 [v, .sl (l.map eRoutine) false, .int .i64 around, .str path] g (fun w g' => GL 90 12 h0 g' w (old ++ (capL old.length l around path l).map eNd)) := by
 intro N
 induction N with
 | zero => intro l hN; omega
 | succ N ih =>
  intro l hN hl hok h0 g v old around path G hw hpn
  refine F19.calls (by simp) ?_
  delta F19.c0
  simp only [go_sem,seval]
  refine lT_list l (fun pre post e g' => ∃ v', GL 90 12 h0 g' v' (old ++ (capL old.length l around path pre).map eNd) ∧ e = [(0, v'), (1, .sl (l.map eRoutine) false), (2, .int .i64 around), (3, .str path), (9, .int .i64 pre.length)]) (WeakE.env ?_) ⟨v, by simpa [capL] using G, rfl⟩ ?_ ?_
  ·simp only [go_sem,seval]
  ·rintro pre x post e g' hp ⟨v', G', rfl⟩
   have hx := mem_at hp
   have hxz := Routines.sz_mem hx
   have hz := Routine.sz_eq x
   have hxo := (Routine.ok_iff x).1 (hok x hx)
   have hww := wRs_at hp
   have hnw := nwRs_at hp
   have hwx := wR_eq x
   have hnx := nwR_eq x
   have hrc := rcnts_le _ pre (Nat.le_refl _)
   have hrow : (old ++ (capL old.length l around path pre).map eNd).length = old.length + rcnts pre := by rw [List.length_append, List.length_map, capL_len]
   have hcat := cat_ok (a := path) (b := x.name) (by omega)
   simp only [go_sem,seval, lt_at hp, aia_sl (map_at hp) (eRoutine_len x), routine_2, hcat, eRoutine_len, routine_take]
   refine afreshT_intro fun b hb => ?_
   simp only [go_sem,seval, sp10, upd_upd]
   refine lT_list x.params (fun pre2 post2 e k => ∃ lv, GL 105 5 (g'.upd b (oNd (path ++ x.name) around x lv)) k lv ((pre2.map upP).map eParam) ∧ e = [(0, v'), (1, .sl (l.map eRoutine) false), (2, .int .i64 around), (3, .str path), (9, .int .i64 pre.length), (10, .ptr (some ⟨b, 0, none⟩)), (11, .int .i64 pre2.length)]) (WeakE.env ?_) ⟨.sl [] true, .nil _, rfl⟩ ?_ ?_
   ·simp only [go_sem,seval]
   ·rintro pre2 y post2 e k hp2 ⟨lv, E, rfl⟩
    have hpl2 := (at_pre hp2).2
    have hkp : k b = some (oNd (path ++ x.name) around x lv) := E.at (upd_same _ _ _)
    have tk : ((eParam y).drop 1).take 3 = eTyp y.t := rfl
    simp only [go_sem,seval, lt_at hp2, aia_sl (map_at hp) (eRoutine_len x), routine_4, aia_sl (map_at hp2) (eParam_len y), eParam_len, param_0, hkp, tk, sp4]
    refine E.append1 (xs := eParam (upP y)) (bytes := 56) rfl (by unfold roomFor; simp; omega) (fun lv' k' E' => ?_)
    have hkp' : k' b = some (oNd (path ++ x.name) around x lv) := E'.at (upd_same _ _ _)
    simp only [go_sem,seval, hkp', E'.cells]
    have E2 := E'.upd (upd_same _ _ _) (oNd (path ++ x.name) around x lv')
    rw [upd_upd] at E2
    refine ⟨.inr (by decide), _, _, WeakE.env ?_, lv', ?_, rfl⟩
    ·simp only [go_sem,seval, step_at hxo.2.2.1 hp2]
    ·simpa using E2
   ·rintro e k ⟨lv, E, rfl⟩
    simp only [go_sem,seval, aia_sl (map_at hp) (eRoutine_len x), routine_4, lt_end]
    refine lessQ.same ?_
    simp only [go_sem,seval]
    refine lT_list x.vars (fun pre2 post2 e k => ∃ lv, GL 105 5 (g'.upd b (oNd (path ++ x.name) around x lv)) k lv ((x.params.map upP ++ pre2.map upV).map eParam) ∧ e = [(0, v'), (1, .sl (l.map eRoutine) false), (2, .int .i64 around), (3, .str path), (9, .int .i64 pre.length), (10, .ptr (some ⟨b, 0, none⟩)), (12, .int .i64 pre2.length)]) (WeakE.env ?_) ⟨lv, by rw [List.map_nil, List.append_nil]; exact E, rfl⟩ ?_ ?_
    ·simp only [go_sem,seval]
    ·rintro pre2 y post2 e k hp2 ⟨lv, E, rfl⟩
     have hpl2 := (at_pre hp2).2
     have hkp : k b = some (oNd (path ++ x.name) around x lv) := E.at (upd_same _ _ _)
     have tk : ((eVar y).drop 3).take 3 = eTyp y.t := rfl
     simp only [go_sem,seval, lt_at hp2, aia_sl (map_at hp) (eRoutine_len x), routine_5, aia_sl (map_at hp2) (eVar_len y), eVar_len, var_2, hkp, tk, sp4]
     refine E.append1 (xs := eParam (upV y)) (bytes := 56) rfl (by unfold roomFor; simp; omega) (fun lv' k' E' => ?_)
     have hkp' : k' b = some (oNd (path ++ x.name) around x lv) := E'.at (upd_same _ _ _)
     simp only [go_sem,seval, hkp', E'.cells]
     have E2 := E'.upd (upd_same _ _ _) (oNd (path ++ x.name) around x lv')
     rw [upd_upd] at E2
     refine ⟨.inr (by decide), _, _, WeakE.env ?_, lv', ?_, rfl⟩
     ·simp only [go_sem,seval, step_at hxo.2.2.2.1 hp2]
     ·simpa using E2
    ·rintro e k ⟨lv, E, rfl⟩
     simp only [go_sem,seval, aia_sl (map_at hp) (eRoutine_len x), routine_5, lt_end]
     rw [← locs_eq] at E
     refine lessQ.to (e' := [(0, v'), (1, .sl (l.map eRoutine) false), (2, .int .i64 around), (3, .str path), (9, .int .i64 pre.length), (10, .ptr (some ⟨b, 0, none⟩))]) (g := g'.upd b (oNd (path ++ x.name) around x (.sl ((locs x).map eParam) false))) (WeakE.of ?_ (weak_cell E.le (weak_nd E.avle))) ?_
     ·simp only [go_sem,seval]
     clear E
     have hh0b : h0 b = none := none_le G'.le hb
     have G1 := G'.fresh hb (oNd (path ++ x.name) around x (.sl ((locs x).map eParam) false))
     have hk1 : (g'.upd b (oNd (path ++ x.name) around x (.sl ((locs x).map eParam) false))) b = some (oNd (path ++ x.name) around x (.sl ((locs x).map eParam) false)) := upd_same _ _ _
     generalize g'.upd b (oNd (path ++ x.name) around x (.sl ((locs x).map eParam) false)) = g1 at G1 hk1
     simp only [go_sem,seval, G1.len, hk1, hrow]
     refine G1.append1 (xs := cNd (path ++ x.name) around x (.sl ((locs x).map eParam) false)) (bytes := 240) rfl (by unfold roomFor; rw [hrow]; omega) (fun v2 g2 G2 => ?_)
     have hcat2 : (((path.size + x.name.size + (#[36] : Array UInt8).size : Nat) : Int) > IntKind.i64.max) = False := by
      have m : IntKind.i64.max = 9223372036854775807 := by decide
      have k : (#[36] : Array UInt8).size = 1 := rfl
      rw [m, k]; simp; omega
     have hps : (path ++ x.name ++ dollar).size = path.size + x.name.size + 1 := by rw [ByteArray.size_append, ByteArray.size_append]; rfl
     have hrow' : (old ++ (capL old.length l around path pre).map eNd ++ [cNd (path ++ x.name) around x (.sl ((locs x).map eParam) false)]).length = old.length + rcnts pre + 1 := by rw [List.length_append, hrow]; rfl
     simp only [go_sem,seval, aia_sl (map_at hp) (eRoutine_len x), routine_6, routine_2, hcat, hcat2]
     refine callT_of (ih x.inner (by omega) hxo.2.2.2.2.2.1 hxo.2.2.2.2.2.2.1 _ g2 v2 _ ((old.length + rcnts pre : Nat) : Int) (path ++ x.name ++ dollar) G2 (by rw [hrow']; omega) (by rw [hps]; omega)) (fun w g3 G3 => ?_)
     rw [hrow'] at G3
     simp only [go_sem,seval]
     obtain ⟨h3, G4, le3⟩ := G3.rebase (h0 := h0) (AHeap.le_upd hh0b)
     refine ⟨_, h3, WeakE.of ?_ (.of_le le3), w, ?_, rfl⟩
     ·simp only [go_sem,seval, step_at hl hp]
     ·rw [capL_snoc, capR_eq]
      simpa [List.append_assoc, eNd] using G4
  ·rintro e g' ⟨v', G', rfl⟩
   simp only [go_sem,seval, lt_end]
   refine lessQ.same ?_
   simp only [go_sem,seval]
   exact .same G'
end Pg
