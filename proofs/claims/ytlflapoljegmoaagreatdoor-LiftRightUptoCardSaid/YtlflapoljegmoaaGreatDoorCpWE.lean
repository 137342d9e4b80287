import Derived.Test.YtlflapoljegmoaaGreatDoorTreeSE
import Derived.Test.YtlflapoljegmoaaGreatDoorCodeGE
import Derived.Test.YtlflapoljegmoaaGreatDoorLiftSpecJE
import Derived.Test.YtlflapoljegmoaaGreatDoorJnE
import Derived.Test.YtlflapoljegmoaaGreatDoorHpE
set_option linter.all false
set_option maxHeartbeats 4000000
set_option maxRecDepth 4000
namespace Pg
open Go Go.Proofs.Tryz
def eIx (p : ByteArray × Nat) : AV × AV := (.str p.1, .int .i64 p.2)
theorem afind_ix (name : ByteArray) : ∀ f : List (ByteArray × Nat), afind [2] (.str name) (f.map eIx) = some ((lookN name f).map fun x => .int .i64 x)
 | [] => rfl
 | (n, y) :: f => by
  have hk : keyEq [2] (.str name) (.str n) = some (decide (name = n)) := rfl
  simp only [List.map_cons, eIx, afind, hk, lookN, List.find?_cons]
  by_cases h : name = n
  ·simp [h]
  ·simp only [h, decide_false]
   exact afind_ix name f
theorem aset_ix (name : ByteArray) (x : Nat) : ∀ f : List (ByteArray × Nat), aset [2] (.str name) (.int .i64 x) (f.map eIx) = some ((mapIn name x f).map eIx)
 | [] => rfl
 | (n, y) :: f => by
  have hk : keyEq [2] (.str name) (.str n) = some (decide (name = n)) := rfl
  simp only [List.map_cons, eIx, aset, hk, mapIn]
  by_cases h : name = n
  ·simp [h, eIx]
  ·simp only [h, decide_false, if_false]
   rw [aset_ix name x f]; simp [eIx]
structure NB where
 p : Nat
 mi : Nat
 mh : Nat
def NB.ids (b : NB) : List Nat := [b.p, b.mi, b.mh]
def ids (bs : List NB) : List Nat := bs.flatMap NB.ids
abbrev cNode (path : ByteArray) (around : Int) (list : List Routine) (r : Routine) (locals inner calls has : AV) : List AV :=
 [.str path, .int .i64 around, .sl (list.map eRoutine) false, eTexts r.before, eTexts r.trail, .str r.name, .int .i64 r.result, .sl (r.params.map eParam) false, .sl (r.vars.map eVar) false, .sl (r.inner.map eRoutine) false, .sl (r.body.map eStmt) false, eTexts r.endd, locals, inner, calls, has]
abbrev oNode (path : ByteArray) (around : Int) (list : List Routine) (r : Routine) (locals inner calls has : AV) : AObj := .blk (cNode path around list r locals inner calls has) 16 166
def nodeO (n : CN) (calls : AV) (b : NB) : AObj := oNode n.path n.around n.list n.r (.sl ((locs n.r).map eParam) false) (.map (some b.mi)) calls (.map (some b.mh))
def NodeAt (h : AHeap) (b : NB) (n : CN) : Prop := h b.p = some (nodeO n (.sl [] true) b) ∧ h b.mi = some (.mp (n.inner.map eIx)) ∧ h b.mh = some (.mp [])
def NodesAt (h : AHeap) : List NB → List CN → Prop
 | [], [] => True
 | b :: bs, n :: ns => NodeAt h b n ∧ NodesAt h bs ns
 | _, _ => False
theorem NodesAt.length {h : AHeap} : ∀ {bs : List NB} {ns : List CN}, NodesAt h bs ns → bs.length = ns.length
 | [], [], _ => rfl
 | b :: bs, n :: ns, ⟨_, k⟩ => by simp [NodesAt.length k]
 | [], _ :: _, k => k.elim
 | _ :: _, [], k => k.elim
theorem NodesAt.to {h g : AHeap} : ∀ {bs : List NB} {ns : List CN}, NodesAt h bs ns → (∀ x ∈ ids bs, ∀ o, h x = some o → g x = some o) → NodesAt g bs ns
 | [], [], _, _ => trivial
 | b :: bs, n :: ns, ⟨⟨k1, k2, k3⟩, k⟩, e => by
  have e1 : ∀ x ∈ b.ids, ∀ o, h x = some o → g x = some o := fun x hx => e x (by simp [ids, hx])
  exact ⟨⟨e1 _ (by simp [NB.ids]) _ k1, e1 _ (by simp [NB.ids]) _ k2, e1 _ (by simp [NB.ids]) _ k3⟩, k.to fun x hx => e x (by simp only [ids, List.flatMap_cons, List.mem_append]; exact .inr hx)⟩
 | [], _ :: _, k, _ => k.elim
 | _ :: _, [], k, _ => k.elim
theorem NodesAt.of_le {h g : AHeap} {bs : List NB} {ns : List CN} (k : NodesAt h bs ns) (le : h.le g) : NodesAt g bs ns := k.to fun x _ o e => le x o e
theorem NodesAt.upd {h : AHeap} {bs : List NB} {ns : List CN} (k : NodesAt h bs ns) {p : Nat} (hp : p ∉ ids bs) (o : AObj) : NodesAt (h.upd p o) bs ns :=
 k.to fun x hx o' e => by
  have hx' : x ≠ p := by intro hh; subst hh; exact hp hx
  rw [upd_ne _ _ _ hx']; exact e
theorem NodesAt.mem {h : AHeap} : ∀ {bs : List NB} {ns : List CN}, NodesAt h bs ns → ∀ x ∈ ids bs, ∃ o, h x = some o
 | [], [], _, x, hx => by simp [ids] at hx
 | b :: bs, n :: ns, ⟨⟨k1, k2, k3⟩, k⟩, x, hx => by
  simp only [ids, List.flatMap_cons, List.mem_append] at hx
  rcases hx with hx | hx
  ·simp only [NB.ids, List.mem_cons, List.not_mem_nil, or_false] at hx
   rcases hx with rfl | rfl | rfl
   ·exact ⟨_, k1⟩
   ·exact ⟨_, k2⟩
   ·exact ⟨_, k3⟩
  ·exact k.mem x hx
 | [], _ :: _, k, _, _ => k.elim
 | _ :: _, [], k, _, _ => k.elim
theorem NodesAt.append {h : AHeap} : ∀ {bs : List NB} {ns : List CN} {cs : List NB} {ms : List CN}, NodesAt h bs ns → NodesAt h cs ms → NodesAt h (bs ++ cs) (ns ++ ms)
 | [], [], _, _, _, k => k
 | b :: bs, n :: ns, _, _, ⟨k1, k⟩, k' => ⟨k1, k.append k'⟩
 | [], _ :: _, _, _, k, _ => k.elim
 | _ :: _, [], _, _, k, _ => k.elim
abbrev pRow (b : NB) : List AV := [.ptr (some ⟨b.p, 0, none⟩)]
theorem capL_snoc (whole : List Routine) (around : Int) (path : ByteArray) (x : Routine) : ∀ (pre : List Routine) (k : Nat), capL k whole around path (pre ++ [x]) = capL k whole around path pre ++ capR (k + rcnts pre) whole around path x
 | [], k => by simp [capL, rcnts]
 | r :: l, k => by
  simp only [List.cons_append, capL, rcnts]
  rw [capL_snoc whole around path x l, List.append_assoc, Nat.add_assoc]
theorem capMap_snoc (x : Routine) : ∀ (pre : List Routine) (k : Nat) (m : List (ByteArray × Nat)), capMap k m (pre ++ [x]) = mapIn x.name (k + rcnts pre) (capMap k m pre)
 | [], k, m => by simp [capMap, rcnts]
 | r :: l, k, m => by
  simp only [List.cons_append, capMap, rcnts]
  rw [capMap_snoc x l, Nat.add_assoc]
theorem rcnts_le : ∀ (n : Nat) (l : List Routine), Routines.sz l ≤ n → rcnts l ≤ wRs l
 | n, [], h => by simp [rcnts, wRs]
 | 0, x :: r, h => by simp [Routines.sz] at h
 | n + 1, x :: r, h => by
  have hz := Routine.sz_eq x
  simp only [Routines.sz] at h
  have h1 := rcnts_le n x.inner (by omega)
  have h2 := rcnts_le n r (by omega)
  simp only [rcnts, wRs, rcnt_eq, wR_eq]
  omega
theorem wRs_at {l pre post : List Routine} {x : Routine} (h : l = pre ++ x :: post) : wRs l = wRs pre + wR x + wRs post := by
 subst h; rw [wRs_map, wRs_map, wRs_map]; simp; omega
theorem nwRs_map : ∀ l, nwRs l = (l.map nwR).sum
 | [] => by simp [nwRs]
 | x :: r => by simp [nwRs, nwRs_map r]
theorem nwRs_at {l pre post : List Routine} {x : Routine} (h : l = pre ++ x :: post) : nwRs l = nwRs pre + nwR x + nwRs post := by
 subst h; rw [nwRs_map, nwRs_map, nwRs_map]; simp; omega
def upP (p : Param) : Param := ⟨p.name, p.t, 2⟩
def upV (v : Var) : Param := ⟨v.name, v.t, 2⟩
theorem locs_eq (r : Routine) : locs r = r.params.map upP ++ r.vars.map upV := rfl
theorem sp4 (a b c d : AV) (t : Typ) : splice [a, b, c, d] 0 (eTyp t) = [.int .i64 t.kind, .int .i64 t.size, .str t.name, d] := rfl
theorem sp13 (a b c d e f g h i j k l m : AV) (x : Routine) : splice [a, b, c, d, e, f, g, h, i, j, k, l, m] 0 (eRoutine x) = [eTexts x.before, eTexts x.trail, .str x.name, .int .i64 x.result, .sl (x.params.map eParam) false, .sl (x.vars.map eVar) false, .sl (x.inner.map eRoutine) false, .sl (x.body.map eStmt) false, eTexts x.endd, j, k, l, m] := by rw [eRoutine_eq]; rfl
theorem weak_cell {k H0 : AHeap} {p : Nat} {o o' : AObj} (le : (H0.upd p o).le k) (ho : ObjLe o o') : HeapLe k (H0.upd p o') := by
 intro b x e
 by_cases hb : b = p
 ·subst hb; rw [upd_same] at e; cases e; exact ⟨o, le _ _ (upd_same _ _ _), ho⟩
 ·rw [upd_ne _ _ _ hb] at e; exact ⟨x, le _ _ (by rw [upd_ne _ _ _ hb]; exact e), .refl _⟩
theorem weak_locals {path : ByteArray} {around : Int} {list : List Routine} {r : Routine} {v v' inner calls has : AV} (h : AVle v v') : ObjLe (oNode path around list r v inner calls has) (oNode path around list r v' inner calls has) := by
 refine ⟨rfl, rfl, rfl, ?_⟩
 iterate 12 refine AVles.cons (.refl _) ?_
 exact AVles.cons h (.refl _)
abbrev gBlk (v top : AV) : AObj := .blk [v, top] 2 160
theorem add_spec [GI] : ∀ (N : Nat) (l : List Routine), Routines.sz l < N → few l → (∀ x ∈ l, x.ok) → ∀ (B g : AHeap) (gb : Nat) (v : AV) (old : List (List AV)) (around : Int) (path : ByteArray),
  GL 161 1 (B.upd gb (gBlk v (.map none))) g v old → old.length + wRs l ≤ 274877906944 → path.size + nwRs l ≤ 274877906944 →
  ACalls prog 118 [.ptr (some ⟨gb, 0, none⟩), .sl (l.map eRoutine) false, .int .i64 around, .str path] g (fun w g' => ∃ v' B' bs m, w = .map (some m) ∧ GL 161 1 (B'.upd gb (gBlk v' (.map none))) g' v' (old ++ bs.map pRow) ∧ B.le B' ∧ NodesAt B' bs (capL old.length l around path l) ∧ B' m = some (.mp ((capMap old.length [] l).map eIx)) ∧ (m :: ids bs).Nodup ∧ ∀ x ∈ m :: ids bs, B x = none ∧ x ≠ gb) := by
 intro N
 induction N with
 | zero =>
  intro l hN; omega
 | succ N ih =>
  intro l hN hl hok B g gb v old around path G hw hp
  refine F118.calls (by simp) ?_
  delta F118.c0
  simp only [go_sem,seval]
  refine afreshT_intro fun m hm => ?_
  simp only [go_sem,seval]
  have hgb : g gb = some (gBlk v (.map none)) := G.at (upd_same _ _ _)
  have hmg : m ≠ gb := (none_ne hm hgb).symm
  have G0 : GL 161 1 ((B.upd m (.mp [])).upd gb (gBlk v (.map none))) (g.upd m (.mp [])) v old := by
   have := G.fresh hm (.mp [])
   rwa [upd_comm _ _ _ hmg.symm] at this
  have hBm : B m = none := by
   have := none_le G.le hm
   rwa [upd_ne _ _ _ hmg] at this
  clear G
  refine lT_list l (fun pre post e g' => ∃ v' B' bs, GL 161 1 (B'.upd gb (gBlk v' (.map none))) g' v' (old ++ bs.map pRow) ∧ B.le B' ∧ NodesAt B' bs (capL old.length l around path pre) ∧ B' m = some (.mp ((capMap old.length [] pre).map eIx)) ∧ (m :: ids bs).Nodup ∧ (∀ x ∈ m :: ids bs, B x = none ∧ x ≠ gb) ∧ e = [(0, .ptr (some ⟨gb, 0, none⟩)), (1, .sl (l.map eRoutine) false), (2, .int .i64 around), (3, .str path), (9, .map (some m)), (19, .sl (l.map eRoutine) false), (20, .int .i64 l.length), (21, .int .i64 pre.length)]) (WeakE.env ?_) ⟨v, _, [], by rw [List.map_nil, List.append_nil]; exact G0, AHeap.le_upd hBm, trivial, upd_same _ _ _, by simp [ids], fun y hy => by simp [ids] at hy; subst hy; exact ⟨hBm, hmg⟩, rfl⟩ ?_ ?_
  ·simp only [go_sem,seval]
  ·rintro pre x post e g' hp' ⟨v', B', bs, G', le, NA, hm', nd, fr, rfl⟩
   have hx := mem_at hp'
   have hxz := Routines.sz_mem hx
   have hz := Routine.sz_eq x
   have hxo := (Routine.ok_iff x).1 (hok x hx)
   have hww := wRs_at hp'
   have hnw := nwRs_at hp'
   have hwx := wR_eq x
   have hnx := nwR_eq x
   have hlen : bs.length = rcnts pre := by rw [NA.length, capL_len]
   have hrc := rcnts_le _ pre (Nat.le_refl _)
   have hrow : (old ++ bs.map pRow).length = old.length + rcnts pre := by simp [hlen]
   have hgb' : g' gb = some (gBlk v' (.map none)) := G'.at (upd_same _ _ _)
   have hm'' : g' m = some (.mp ((capMap old.length [] pre).map eIx)) := G'.at (by rw [upd_ne _ _ _ hmg]; exact hm')
   simp only [go_sem,seval, lt_at hp', aia_sl (map_at hp') (eRoutine_len x), eRoutine_len, routine_take, hgb', G'.len, hrow]
   refine mapupT_of hm'' (aset_ix x.name (old.length + rcnts pre) _) rfl ?_
   have hcm := capMap_snoc x pre old.length []
   rw [← hcm]
   have hmB : (B'.upd gb (gBlk v' (.map none))) m = some (.mp ((capMap old.length [] pre).map eIx)) := by rw [upd_ne _ _ _ hmg]; exact hm'
   have G1 := G'.upd hmB (.mp ((capMap old.length [] (pre ++ [x])).map eIx))
   rw [upd_comm _ _ _ hmg.symm] at G1
   have NA1 : NodesAt (B'.upd m (.mp ((capMap old.length [] (pre ++ [x])).map eIx))) bs (capL old.length l around path pre) := NA.upd (List.nodup_cons.1 nd).1 _
   have hm1 : (B'.upd m (.mp ((capMap old.length [] (pre ++ [x])).map eIx))) m = some (.mp ((capMap old.length [] (pre ++ [x])).map eIx)) := upd_same _ _ _
   have le1 : B.le (B'.upd m (.mp ((capMap old.length [] (pre ++ [x])).map eIx))) := le_upd_of hBm le _
   generalize B'.upd m (.mp ((capMap old.length [] (pre ++ [x])).map eIx)) = B1 at G1 NA1 hm1 le1
   generalize g'.upd m (.mp ((capMap old.length [] (pre ++ [x])).map eIx)) = g1 at G1
   clear G' le NA hm' hmB hm'' hgb'
   simp only [go_sem,seval, routine_2, eRoutine_len, routine_take]
   have hj2 := Join_spec g1 [path, x.name] true (by simp) (by simp [Go.Lib.join, List.intercalate]; have h1 : path.data.size = path.size := rfl; have h2 : x.name.data.size = x.name.size := rfl; omega)
   rw [joinB_two] at hj2
   refine tcE hj2 ?_
   simp only [go_sem,seval, eRoutine_len, routine_take]
   refine afreshT_intro fun mh hmh => ?_
   simp only [go_sem,seval, sp13]
   refine afreshT_intro fun p hpp => ?_
   simp only [go_sem,seval]
   generalize hH0 : g1.upd mh (.mp []) = H0 at hpp
   refine lT_list x.params (fun pre2 post2 e k => ∃ lv, GL 105 5 (H0.upd p (oNode (path ++ x.name) around l x lv (.map none) (.sl [] true) (.map (some mh)))) k lv ((pre2.map upP).map eParam) ∧ e = [(0, .ptr (some ⟨gb, 0, none⟩)), (1, .sl (l.map eRoutine) false), (2, .int .i64 around), (3, .str path), (9, .map (some m)), (11, .ip (eRoutine x) 0), (12, .int .i64 ((old.length + rcnts pre : Nat) : Int)), (13, .ptr (some ⟨p, 0, none⟩)), (19, .sl (l.map eRoutine) false), (20, .int .i64 l.length), (21, .int .i64 pre.length), (47, .sl (x.params.map eParam) false), (48, .int .i64 x.params.length), (49, .int .i64 pre2.length)]) (WeakE.env ?_) ⟨.sl [] true, .nil _, rfl⟩ ?_ ?_
   ·simp only [go_sem,seval]
   ·rintro pre2 y post2 e k hp2 ⟨lv, E, rfl⟩
    have hpl2 := (at_pre hp2).2
    have hkp : k p = some (oNode (path ++ x.name) around l x lv (.map none) (.sl [] true) (.map (some mh))) := E.at (upd_same _ _ _)
    have tk : ((eParam y).drop 1).take 3 = eTyp y.t := rfl
    simp only [go_sem,seval, lt_at hp2, aia_sl (map_at hp2) (eParam_len y), eParam_len, param_take]
    simp only [go_sem,seval, hkp, tk, param_0, sp4]
    refine E.append1 (xs := eParam (upP y)) (bytes := 56) rfl (by unfold roomFor; simp; omega) (fun lv' k' E' => ?_)
    have hkp' : k' p = some (oNode (path ++ x.name) around l x lv (.map none) (.sl [] true) (.map (some mh))) := E'.at (upd_same _ _ _)
    simp only [go_sem,seval, hkp', E'.cells]
    have E2 := E'.upd (upd_same _ _ _) (oNode (path ++ x.name) around l x  lv' (.map none) (.sl [] true) (.map (some mh)))
    rw [upd_upd] at E2
    refine ⟨.inr (by decide), _, _, WeakE.env ?_, lv', ?_, rfl⟩
    ·simp only [go_sem,seval, step_at hxo.2.2.1 hp2]
    ·simpa using E2
   ·rintro e k ⟨lv, E, rfl⟩
    simp only [go_sem,seval, lt_end]
    refine lessQ.same ?_
    simp only [go_sem,seval, routine_5]
    refine lT_list x.vars (fun pre2 post2 e k => ∃ lv, GL 105 5 (H0.upd p (oNode (path ++ x.name) around l x lv (.map none) (.sl [] true) (.map (some mh)))) k lv ((x.params.map upP ++ pre2.map upV).map eParam) ∧ e = [(0, .ptr (some ⟨gb, 0, none⟩)), (1, .sl (l.map eRoutine) false), (2, .int .i64 around), (3, .str path), (9, .map (some m)), (11, .ip (eRoutine x) 0), (12, .int .i64 ((old.length + rcnts pre : Nat) : Int)), (13, .ptr (some ⟨p, 0, none⟩)), (19, .sl (l.map eRoutine) false), (20, .int .i64 l.length), (21, .int .i64 pre.length), (69, .sl (x.vars.map eVar) false), (70, .int .i64 x.vars.length), (71, .int .i64 pre2.length)]) (WeakE.env ?_) ⟨lv, by rw [List.map_nil, List.append_nil]; exact E, rfl⟩ ?_ ?_
    ·simp only [go_sem,seval]
    ·rintro pre2 y post2 e k hp2 ⟨lv, E, rfl⟩
     have hpl2 := (at_pre hp2).2
     have hkp : k p = some (oNode (path ++ x.name) around l x lv (.map none) (.sl [] true) (.map (some mh))) := E.at (upd_same _ _ _)
     have tk : ((eVar y).drop 3).take 3 = eTyp y.t := rfl
     simp only [go_sem,seval, lt_at hp2, aia_sl (map_at hp2) (eVar_len y), eVar_len, var_take]
     simp only [go_sem,seval, hkp, tk, var_2, sp4]
     refine E.append1 (xs := eParam (upV y)) (bytes := 56) rfl (by unfold roomFor; simp; omega) (fun lv' k' E' => ?_)
     have hkp' : k' p = some (oNode (path ++ x.name) around l x lv (.map none) (.sl [] true) (.map (some mh))) := E'.at (upd_same _ _ _)
     simp only [go_sem,seval, hkp', E'.cells]
     have E2 := E'.upd (upd_same _ _ _) (oNode (path ++ x.name) around l x  lv' (.map none) (.sl [] true) (.map (some mh)))
     rw [upd_upd] at E2
     refine ⟨.inr (by decide), _, _, WeakE.env ?_, lv', ?_, rfl⟩
     ·simp only [go_sem,seval, step_at hxo.2.2.2.1 hp2]
     ·simpa using E2
    ·rintro e k ⟨lv, E, rfl⟩
     simp only [go_sem,seval, lt_end]
     rw [← locs_eq] at E
     refine lessQ.to (e' := [(0, .ptr (some ⟨gb, 0, none⟩)), (1, .sl (l.map eRoutine) false), (2, .int .i64 around), (3, .str path), (9, .map (some m)), (11, .ip (eRoutine x) 0), (12, .int .i64 ((old.length + rcnts pre : Nat) : Int)), (13, .ptr (some ⟨p, 0, none⟩)), (19, .sl (l.map eRoutine) false), (20, .int .i64 l.length), (21, .int .i64 pre.length)]) (g := H0.upd p (oNode (path ++ x.name) around l x (.sl ((locs x).map eParam) false) (.map none) (.sl [] true) (.map (some mh)))) (WeakE.of ?_ (weak_cell E.le (weak_locals E.avle))) ?_
     ·simp only [go_sem,seval]
     clear E
     have hgb1 : g1 gb = some (gBlk v' (.map none)) := G1.at (upd_same _ _ _)
     have hmhg := none_ne hmh hgb1
     have hpg : gb ≠ p := by
      have : H0 gb = some (gBlk v' (.map none)) := by rw [← hH0, upd_ne _ _ _ hmhg]; exact hgb1
      exact none_ne hpp this
     have hpm : p ≠ mh := by intro hh; rw [← hH0, hh, upd_same] at hpp; cases hpp
     have G3 := (G1.fresh hmh (.mp []))
     rw [hH0] at G3
     have G3 := G3.fresh hpp (oNode (path ++ x.name) around l x (.sl ((locs x).map eParam) false) (.map none) (.sl [] true) (.map (some mh)))
     rw [upd_comm _ _ _ hmhg, upd_comm _ _ _ hpg] at G3
     have hB1h : B1 mh = none := by have := none_le G1.le hmh; rwa [upd_ne _ _ _ hmhg.symm] at this
     have hB1p : B1 p = none := by
      have : g1 p = none := by rw [← hH0, upd_ne _ _ _ hpm] at hpp; exact hpp
      have := none_le G1.le this
      rwa [upd_ne _ _ _ hpg.symm] at this
     have le2 : B1.le ((B1.upd mh (.mp [])).upd p (oNode (path ++ x.name) around l x (.sl ((locs x).map eParam) false) (.map none) (.sl [] true) (.map (some mh)))) := le_upd_of hB1p (AHeap.le_upd hB1h) _
     have h2p : ((B1.upd mh (.mp [])).upd p (oNode (path ++ x.name) around l x (.sl ((locs x).map eParam) false) (.map none) (.sl [] true) (.map (some mh)))) p = some (oNode (path ++ x.name) around l x (.sl ((locs x).map eParam) false) (.map none) (.sl [] true) (.map (some mh))) := upd_same _ _ _
     have h2h : ((B1.upd mh (.mp [])).upd p (oNode (path ++ x.name) around l x (.sl ((locs x).map eParam) false) (.map none) (.sl [] true) (.map (some mh)))) mh = some (.mp []) := by rw [upd_ne _ _ _ hpm.symm, upd_same]
     generalize (B1.upd mh (.mp [])).upd p (oNode (path ++ x.name) around l x (.sl ((locs x).map eParam) false) (.map none) (.sl [] true) (.map (some mh))) = B2 at G3 le2 h2p h2h
     generalize H0.upd p (oNode (path ++ x.name) around l x (.sl ((locs x).map eParam) false) (.map none) (.sl [] true) (.map (some mh))) = g2 at G3
     have hgb2 : g2 gb = some (gBlk v' (.map none)) := G3.at (upd_same _ _ _)
     simp only [go_sem,seval, hgb2]
     refine G3.append1 (xs := pRow ⟨p, 0, mh⟩) (bytes := 8) rfl (by unfold roomFor; rw [hrow]; omega) (fun v3 g3 G4 => ?_)
     have hgb3 : g3 gb = some (gBlk v' (.map none)) := G4.at (upd_same _ _ _)
     simp only [go_sem,seval, hgb3, G4.cells]
     have G5 := G4.upd (upd_same _ _ _) (gBlk v3 (.map none))
     rw [upd_upd] at G5
     generalize g3.upd gb (gBlk v3 (.map none)) = g4 at G5
     have hj3 := Join_spec g4 [path, x.name, dollar] true (by simp) (by simp [Go.Lib.join, List.intercalate]; have h1 : path.data.size = path.size := rfl; have h2 : x.name.data.size = x.name.size := rfl; have h3 : dollar.size = 1 := rfl; omega)
     rw [joinB_three] at hj3
     refine tcE hj3 ?_
     simp only [go_sem,seval]
     have hrow' : (old ++ bs.map pRow ++ [pRow ⟨p, 0, mh⟩]).length = old.length + rcnts pre + 1 := by rw [List.length_append, hrow]; rfl
     have hps : (path ++ x.name ++ dollar).size = path.size + x.name.size + 1 := by rw [ByteArray.size_append, ByteArray.size_append]; rfl
     refine callT_of (ih x.inner (by omega) hxo.2.2.2.2.2.1 hxo.2.2.2.2.2.2.1 B2 g4 gb v3 _ ((old.length + rcnts pre : Nat) : Int) (path ++ x.name ++ dollar) G5 (by rw [hrow']; omega) (by rw [hps]; omega)) (fun w g5 hw5 => ?_)
     obtain ⟨v5, B3, bsi, mi, rfl, G6, le3, NA3, hmi, nd3, fr3⟩ := hw5
     rw [hrow'] at NA3 hmi
     have h3p : B3 p = some (oNode (path ++ x.name) around l x (.sl ((locs x).map eParam) false) (.map none) (.sl [] true) (.map (some mh))) := le3 _ _ h2p
     have h5p : g5 p = some (oNode (path ++ x.name) around l x (.sl ((locs x).map eParam) false) (.map none) (.sl [] true) (.map (some mh))) := G6.at (by rw [upd_ne _ _ _ hpg.symm]; exact h3p)
     simp only [go_sem,seval, h5p]
     have hpm' : p ≠ m := none_ne hB1p hm1 |>.symm
     refine ⟨_, _, WeakE.env ?_, v5, B3.upd p (oNode (path ++ x.name) around l x (.sl ((locs x).map eParam) false) (.map (some mi)) (.sl [] true) (.map (some mh))), bs ++ ⟨p, mi, mh⟩ :: bsi, ?_, ?_, ?_, ?_, ?_, ?_, rfl⟩
     ·simp only [go_sem,seval, step_at hl hp']
     ·have G7 := G6.upd (p := p) (by rw [upd_ne _ _ _ hpg.symm]; exact h3p) (oNode (path ++ x.name) around l x (.sl ((locs x).map eParam) false) (.map (some mi)) (.sl [] true) (.map (some mh)))
      rw [upd_comm _ _ _ hpg] at G7
      simpa [List.append_assoc] using G7
     ·exact le_upd_of (none_le le1 hB1p) (AHeap.le_trans le1 (AHeap.le_trans le2 le3)) _
     ·rw [capL_snoc, capR_eq]
      refine NodesAt.append (((NA1.of_le le2).of_le le3).upd ?_ _) ⟨⟨upd_same _ _ _, ?_, ?_⟩, NA3.upd ?_ _⟩
      ·intro hh
       obtain ⟨o, ho⟩ := NA1.mem _ hh
       rw [hB1p] at ho; cases ho
      ·have hmp : mi ≠ p := by intro hh; have := (fr3 mi (by simp)).1; rw [hh, h2p] at this; cases this
       rw [upd_ne _ _ _ hmp]
       exact hmi
      ·rw [upd_ne _ _ _ hpm.symm]; exact le3 _ _ h2h
      ·intro hh
       have := (fr3 p (by simp [hh])).1
       rw [h2p] at this; cases this
     ·rw [upd_ne _ _ _ hpm'.symm]; exact le3 _ _ (le2 _ _ hm1)
     ·have old1 : ∀ y ∈ m :: ids bs, ∃ o, B1 y = some o := fun y hy => by
       rcases List.mem_cons.1 hy with rfl | hy
       ·exact ⟨_, hm1⟩
       ·exact NA1.mem y hy
      have new1 : ∀ y ∈ p :: mh :: mi :: ids bsi, B1 y = none := fun y hy => by
       rcases List.mem_cons.1 hy with rfl | hy
       ·exact hB1p
       rcases List.mem_cons.1 hy with rfl | hy
       ·exact hB1h
       exact none_le le2 (fr3 y hy).1
      have p3 : ∀ y ∈ mi :: ids bsi, y ≠ p ∧ y ≠ mh := fun y hy => by
       have := (fr3 y hy).1
       exact ⟨fun hh => (by rw [hh, h2p] at this; cases this), fun hh => (by rw [hh, h2h] at this; cases this)⟩
      have e : m :: ids (bs ++ ⟨p, mi, mh⟩ :: bsi) = (m :: ids bs) ++ (p :: mi :: mh :: ids bsi) := by simp [ids, NB.ids]
      rw [e]
      refine List.nodup_append.2 ⟨nd, ?_, ?_⟩
      ·have nd4 := List.nodup_cons.1 nd3
       refine List.nodup_cons.2 ⟨?_, List.nodup_cons.2 ⟨?_, List.nodup_cons.2 ⟨?_, nd4.2⟩⟩⟩
       ·intro hh
        simp only [List.mem_cons] at hh
        rcases hh with hh | hh | hh
        ·exact (p3 mi (by simp)).1 hh.symm
        ·exact hpm hh
        ·exact (p3 p (by simp [hh])).1 rfl
       ·intro hh
        rcases List.mem_cons.1 hh with hh | hh
        ·exact (p3 mi (by simp)).2 hh
        ·exact nd4.1 hh
       ·intro hh
        exact (p3 mh (by simp [hh])).2 rfl
      ·intro a ha b hb hab
       subst hab
       obtain ⟨o, ho⟩ := old1 a ha
       rw [new1 a (by simp only [List.mem_cons] at hb ⊢; rcases hb with h | h | h | h <;> simp [h])] at ho; cases ho
     ·have hgB : ∀ y, B2 y = none → y ≠ gb ∨ y = gb := fun y _ => by omega
      have e : m :: ids (bs ++ ⟨p, mi, mh⟩ :: bsi) = (m :: ids bs) ++ (p :: mi :: mh :: ids bsi) := by simp [ids, NB.ids]
      intro y hy
      rw [e] at hy
      rcases List.mem_append.1 hy with hy | hy
      ·exact fr y hy
      simp only [List.mem_cons] at hy
      have fin : ∀ y ∈ mi :: ids bsi, B y = none ∧ y ≠ gb := fun y hy => ⟨none_le le1 (none_le le2 (fr3 y hy).1), (fr3 y hy).2⟩
      rcases hy with rfl | rfl | rfl | hy
      ·exact ⟨none_le le1 hB1p, hpg.symm⟩
      ·exact fin _ (by simp)
      ·exact ⟨none_le le1 hB1h, hmhg.symm⟩
      ·exact fin y (by simp [hy])
  ·rintro e g' ⟨v', B', bs, G', le, NA, hm', nd, fr, rfl⟩
   simp only [go_sem,seval, lt_end]
   refine lessQ.same ?_
   simp only [go_sem,seval]
   exact .same ⟨v', B', bs, m, rfl, G', le, NA, hm', nd, fr⟩
end Pg
namespace Pg
open Go Go.Proofs.Tryz
def ePk (x : Nat × Nat) : AV := .agg [.int .i64 x.1, .int .i64 x.2]
def ePr (x : Nat × Nat) : AV × AV := (ePk x, .bool true)
theorem keyEq_pair (x y : Nat × Nat) : keyEq [3, 1, 1] (ePk x) (ePk y) = some (decide (x = y)) := by
 obtain ⟨a, b⟩ := x
 obtain ⟨c, d⟩ := y
 simp only [ePk, keyEq, cellsEq, cellEq, if_true]
 congr 1
 by_cases h1 : a = c <;> by_cases h2 : b = d <;> simp [h1, h2] <;> omega
theorem afind_pair (x : Nat × Nat) : ∀ hs : Pairs, afind [3, 1, 1] (ePk x) (hs.map ePr) = some (if x ∈ hs then some (.bool true) else none)
 | [] => rfl
 | y :: r => by
  simp only [List.map_cons, ePr, afind, keyEq_pair]
  by_cases h : x = y
  ·simp [h]
  ·simp only [h, decide_false, List.mem_cons, false_or]
   exact afind_pair x r
theorem aset_pair (x : Nat × Nat) : ∀ hs : Pairs, aset [3, 1, 1] (ePk x) (.bool true) (hs.map ePr) = some ((hadd hs x).map ePr)
 | [] => by simp [aset, hadd, ePr]
 | y :: r => by
  simp only [List.map_cons, ePr, aset, keyEq_pair]
  by_cases h : x = y
  ·subst h; simp [hadd, ePr]
  ·simp only [h, decide_false]
   have e := aset_pair x r
   rw [e]
   simp only [hadd, List.mem_cons, h, false_or]
   by_cases hr : x ∈ r <;> simp [hr, ePr]
structure Gra where
 gb : Nat
 mt : Nat
 bs : List NB
 ns : List CN
 top : List (ByteArray × Nat)
structure Gra.ok (G : Gra) : Prop where
 len : G.bs.length = G.ns.length
 nodup : (G.gb :: G.mt :: ids G.bs).Nodup
 around : ∀ (i : Nat) n, G.ns[i]? = some n → n.around < i ∧ -1 ≤ n.around
 room : G.ns.length ≤ 1099511627776
 locs : ∀ n ∈ G.ns, (locs n.r).length ≤ 1099511627776
structure Stat (G : Gra) (h : AHeap) : Prop where
 g : h G.gb = some (gBlk (.sl (G.bs.map pRow) false) (.map (some G.mt)))
 top : h G.mt = some (.mp (G.top.map eIx))
 node : ∀ (i : Nat) b n, G.bs[i]? = some b → G.ns[i]? = some n → ∃ calls, h b.p = some (oNode n.path n.around n.list n.r (.sl ((Pg.locs n.r).map eParam) false) (.map (some b.mi)) calls (.map (some b.mh)))
 inner : ∀ (i : Nat) b n, G.bs[i]? = some b → G.ns[i]? = some n → h b.mi = some (.mp (n.inner.map eIx))
theorem Stat.of_le {G : Gra} {h g : AHeap} (s : Stat G h) (le : h.le g) : Stat G g :=
 ⟨le _ _ s.g, le _ _ s.top, fun i b n hb hn => let ⟨c, hc⟩ := s.node i b n hb hn; ⟨c, le _ _ hc⟩, fun i b n hb hn => le _ _ (s.inner i b n hb hn)⟩
theorem names_spec [GI] {G : Gra} (ok : G.ok) {h : AHeap} (s : Stat G h) {j : Nat} {bj : NB} (hj : G.bs[j]? = some bj) {hs : Pairs} (hh : h bj.mh = some (.mp (hs.map ePr))) (name : ByteArray) :
  ACalls prog 143 [.ptr (some ⟨G.gb, 0, none⟩), .int .i64 (j : Int), .str name] h (fun v g => v = .tuple [] ∧ g = h.upd bj.mh (.mp ((useAt G.ns j hs name).map ePr))) := by
 have hjl : j < G.ns.length := by
  rw [← ok.len]
  rcases Nat.lt_or_ge j G.bs.length with h | h
  ·exact h
  ·rw [List.getElem?_eq_none h] at hj; cases hj
 have hroom := ok.room
 refine F143.calls (by simp) ?_
 delta F143.c0
 simp only [go_sem,seval]
 refine lT_inv2 (fun m e k => ∃ (i : Int) (f : Nat), m = (i + 1).toNat ∧ -1 ≤ i ∧ i ≤ j ∧ (i + 1).toNat ≤ f ∧ nameAt G.ns name (j + 1) j = nameAt G.ns name f i ∧ e = [(0, .ptr (some ⟨G.gb, 0, none⟩)), (1, .int .i64 (j : Int)), (2, .str name), (6, .int .i64 i)] ∧ k = h) (j + 1) (WeakE.env ?_) ⟨j, j + 1, by omega, by omega, by omega, by omega, rfl, rfl, rfl⟩ ?_
 ·simp only [go_sem,seval]
 ·rintro m e k ⟨i, f, rfl, hi1, hi2, hf, hN, rfl, rfl⟩
  by_cases hi : i < 0
  ·have hi' : (i ≥ 0) = False := by simp; omega
   simp only [go_sem,seval, hi']
   refine lessQ.same ?_
   simp only [go_sem,seval]
   refine .same ⟨rfl, ?_⟩
   have : nameAt G.ns name f i = none := by cases f <;> simp [nameAt, hi]
   rw [upd_self (by rw [hh]; simp [useAt, hN, this])]
  ·obtain ⟨a, rfl⟩ := Int.eq_ofNat_of_zero_le (by omega : 0 ≤ i)
   have ha : a ≤ j := by omega
   obtain ⟨n, hn⟩ : ∃ n, G.ns[a]? = some n := ⟨_, List.getElem?_eq_getElem (by omega)⟩
   obtain ⟨b, hb⟩ : ∃ b, G.bs[a]? = some b := ⟨_, List.getElem?_eq_getElem (by rw [ok.len]; omega)⟩
   obtain ⟨calls, hc⟩ := s.node a b n hb hn
   have hrow : (G.bs.map pRow)[a]? = some (pRow b) := by simp [hb]
   have hloc := ok.locs n (List.mem_of_getElem? hn)
   have har := ok.around a n hn
   have hi' : ((a : Int) ≥ 0) = True := by simp
   have hsg := s.g
   obtain ⟨f, rfl⟩ : ∃ f', f = f' + 1 := ⟨f - 1, by omega⟩
   have hNa : nameAt G.ns name (f + 1) a = match (locs n.r).findIdx? (fun p => decide (p.name = name)) with
     | some k => some (a, k)
     | none => nameAt G.ns name f n.around := by
    simp only [nameAt]
    rw [if_neg (by omega)]
    simp only [Int.toNat_natCast, hn]
    cases (locs n.r).findIdx? (fun p => decide (p.name = name)) <;> rfl
   simp only [go_sem,seval, hi', hsg, aia_sl (size := 1) hrow rfl, hc]
   generalize hLL : locs n.r = L at hloc hNa
   refine lT_list L (fun pre post e k' => L.findIdx? (fun p => decide (p.name = name)) = (post.findIdx? (fun p => decide (p.name = name))).map (· + pre.length) ∧ k' = k ∧ e = [(0, .ptr (some ⟨G.gb, 0, none⟩)), (1, .int .i64 (j : Int)), (2, .str name), (6, .int .i64 a), (32, .sl (L.map eParam) false), (33, .int .i64 L.length), (34, .int .i64 pre.length)]) (WeakE.env ?_) ⟨by simp, rfl, rfl⟩ ?_ ?_
   ·simp only [go_sem,seval]
   ·rintro pre x post e k' hp ⟨hk, rfl, rfl⟩
    by_cases he : x.name = name
    ·have hfi : nameAt G.ns name (f + 1) a = some (a, pre.length) := by rw [hNa, hk]; simp [List.findIdx?_cons, he]
     simp only [go_sem,seval, lt_at hp, aia_sl (map_at hp) (eParam_len x), eParam_len, param_take, param_0, he]
     by_cases haj : a = j
     ·have haj' : ((a : Int) = (j : Int)) = True := by simp [haj]
      simp only [go_sem,seval, haj']
      refine lessQ.same ?_
      simp only [go_sem,seval]
      refine lessQ.same ?_
      simp only [go_sem,seval]
      refine .same ⟨rfl, ?_⟩
      rw [upd_self (by rw [hh]; unfold useAt; rw [hN, hfi]; simp [haj])]
     ·have haj' : ((a : Int) = (j : Int)) = False := by simp; omega
      obtain ⟨nj, hnj⟩ : ∃ n, G.ns[j]? = some n := ⟨_, List.getElem?_eq_getElem hjl⟩
      obtain ⟨cj, hcj⟩ := s.node j bj nj hj hnj
      have hrowj : (G.bs.map pRow)[j]? = some (pRow bj) := by simp [hj]
      simp only [go_sem,seval, haj', hsg, aia_sl (size := 1) hrowj rfl, hcj]
      refine mapupT_of hh (aset_pair (a, pre.length) hs) rfl ?_
      simp only [go_sem,seval]
      refine lessQ.same ?_
      simp only [go_sem,seval]
      refine lessQ.same ?_
      simp only [go_sem,seval]
      refine .same ⟨rfl, ?_⟩
      simp [useAt, hN, hfi, haj]
    ·simp only [go_sem,seval, lt_at hp, aia_sl (map_at hp) (eParam_len x), eParam_len, param_take, param_0, he]
     refine ⟨_, _, WeakE.env ?_, ?_, rfl, rfl⟩
     ·simp only [go_sem,seval, step_at (l := L) (by unfold few; omega) hp]
     ·rw [hk]; simp [List.findIdx?_cons, he]
      cases post.findIdx? (fun p => decide (p.name = name)) <;> simp
      omega
   ·rintro e k' ⟨hk, rfl, rfl⟩
    simp only [go_sem,seval, lt_end]
    refine lessQ.same ?_
    simp only [go_sem,seval, hsg, aia_sl (size := 1) hrow rfl, hc]
    refine lessI.to (n.around + 1).toNat _ _ (by omega) (WeakE.env ?_) ⟨n.around, f, rfl, by omega, by omega, by omega, ?_, rfl, rfl⟩
    ·simp only [go_sem,seval]
    ·rw [hN, hNa, hk]; simp
theorem routine_spec13 [GI] {G : Gra} (ok : G.ok) {h : AHeap} (s : Stat G h) {j : Nat} (hjl : j < G.ns.length) (name : ByteArray) :
  ACalls prog 154 [.ptr (some ⟨G.gb, 0, none⟩), .int .i64 (j : Int), .str name] h (fun v g => v = .tuple [.int .i64 (((routAt G.ns G.top name (j + 1) j).getD 0 : Nat) : Int), .bool (routAt G.ns G.top name (j + 1) j).isSome] ∧ g = h) := by
 have hroom := ok.room
 have hsg := s.g
 have hst := s.top
 refine F154.calls (by simp) ?_
 delta F154.c0
 simp only [go_sem,seval]
 refine lT_inv2 (fun m e k => ∃ (i : Int) (f : Nat), m = (i + 1).toNat ∧ -1 ≤ i ∧ i ≤ j ∧ (i + 1).toNat ≤ f ∧ routAt G.ns G.top name (j + 1) j = routAt G.ns G.top name f i ∧ e = [(0, .ptr (some ⟨G.gb, 0, none⟩)), (1, .int .i64 (j : Int)), (2, .str name), (8, .int .i64 i)] ∧ k = h) (j + 1) (WeakE.env ?_) ⟨j, j + 1, by omega, by omega, by omega, by omega, rfl, rfl, rfl⟩ ?_
 ·simp only [go_sem,seval]
 ·rintro m e k ⟨i, f, rfl, hi1, hi2, hf, hN, rfl, rfl⟩
  by_cases hi : i < 0
  ·have hi' : (i ≥ 0) = False := by simp; omega
   have hT : routAt G.ns G.top name (j + 1) j = lookN name G.top := by rw [hN]; cases f <;> simp [routAt, hi]
   simp only [go_sem,seval, hi']
   refine lessQ.same ?_
   simp only [go_sem,seval, hsg, hst, alookup, amapOf, keyFits, afind_ix]
   rw [hT]
   cases lookN name G.top with
   | none =>
    simp only [go_sem,seval]
    exact .same ⟨rfl, rfl⟩
   | some x =>
    simp only [go_sem,seval]
    exact .same ⟨rfl, rfl⟩
  ·obtain ⟨a, rfl⟩ := Int.eq_ofNat_of_zero_le (by omega : 0 ≤ i)
   have ha : a ≤ j := by omega
   obtain ⟨n, hn⟩ : ∃ n, G.ns[a]? = some n := ⟨_, List.getElem?_eq_getElem (by omega)⟩
   obtain ⟨b, hb⟩ : ∃ b, G.bs[a]? = some b := ⟨_, List.getElem?_eq_getElem (by rw [ok.len]; omega)⟩
   obtain ⟨calls, hc⟩ := s.node a b n hb hn
   have hin := s.inner a b n hb hn
   have hrow : (G.bs.map pRow)[a]? = some (pRow b) := by simp [hb]
   have har := ok.around a n hn
   have hi' : ((a : Int) ≥ 0) = True := by simp
   obtain ⟨f, rfl⟩ : ∃ f', f = f' + 1 := ⟨f - 1, by omega⟩
   have hNa : routAt G.ns G.top name (f + 1) a = match lookN name n.inner with
     | some k => some k
     | none => routAt G.ns G.top name f n.around := by
    simp only [routAt]
    rw [if_neg (by omega)]
    simp only [Int.toNat_natCast, hn]
    cases lookN name n.inner <;> rfl
   simp only [go_sem,seval, hi', hsg, aia_sl (size := 1) hrow rfl, hc, hin, alookup, amapOf, keyFits, afind_ix]
   cases hl : lookN name n.inner with
   | some x =>
    rw [hl] at hNa
    simp only [go_sem,seval]
    refine lessQ.same ?_
    simp only [go_sem,seval]
    exact .same ⟨by rw [hN, hNa]; rfl, rfl⟩
   | none =>
    rw [hl] at hNa
    simp only [go_sem,seval, hsg, aia_sl (size := 1) hrow rfl, hc]
    refine lessI.to (n.around + 1).toNat _ _ (by omega) (WeakE.env ?_) ⟨n.around, f, rfl, by omega, by omega, by omega, ?_, rfl, rfl⟩
    ·simp only [go_sem,seval]
    ·rw [hN, hNa]
end Pg
