import Derived.Test.YtdfbkddelhbgmaaGreatDoorTreeSS2
import Derived.Test.YtdfbkddelhbgmaaGreatDoorRun8JS2
import Derived.Test.YtdfbkddelhbgmaaGreatDoorCodeYS2
namespace Pg
open Go Go.Proofs.Tryz
set_option linter.all false
set_option maxHeartbeats 4000000
set_option maxRecDepth 4000
theorem GL.join {ty : TypeId} {size : Nat} {h0 h l : AHeap} {v : AV} {rows : List (List AV)} (g : GL ty size h0 h v rows) (a : h.apart l) : GL ty size (h0.join l) (h.join l) v rows := by
 refine ⟨g.1, ?_⟩
 rcases g.2 with ⟨h1, h2⟩ | ⟨b, cap, h1, h2, h3, h4⟩
 ·exact .inl ⟨h1, by rw [h2]⟩
 ·have hl : l b = none := a b _ (by rw [h4]; exact upd_same _ _ _)
  exact .inr ⟨b, cap, by rw [join_right h1]; exact hl, h2, h3, by rw [h4, join_upd_left]⟩
theorem GL.part {ty : TypeId} {size : Nat} {h0 h l : AHeap} {v : AV} {rows : List (List AV)} (g : GL ty size (h0.join l) h v rows) (a : h0.apart l) : ∃ S, h = S.join l ∧ S.apart l ∧ GL ty size h0 S v rows := by
 rcases g.2 with ⟨h1, h2⟩ | ⟨b, cap, h1, h2, h3, h4⟩
 ·exact ⟨h0, h2, a, g.1, .inl ⟨h1, rfl⟩⟩
 ·obtain ⟨k1, k2⟩ := join_none h1
  exact ⟨_, by rw [h4, join_upd_left], apart_upd_left a _ k2, g.1, .inr ⟨b, cap, k1, h2, h3, rfl⟩⟩
theorem GL.upd0 {ty : TypeId} {size : Nat} {h0 h : AHeap} {v : AV} {rows : List (List AV)} (g : GL ty size h0 h v rows) {p : Nat} {o : AObj} (hp : h0 p = some o) (x : AObj) : GL ty size (h0.upd p x) (h.upd p x) v rows := by
 refine ⟨g.1, ?_⟩
 rcases g.2 with ⟨h1, h2⟩ | ⟨b, cap, h1, h2, h3, h4⟩
 ·exact .inl ⟨h1, by rw [h2]⟩
 ·have hpb : b ≠ p := by intro hh; subst hh; rw [h1] at hp; cases hp
  exact .inr ⟨b, cap, by rw [upd_ne _ _ _ hpb]; exact h1, h2, h3, by rw [h4, upd_comm _ _ _ hpb]⟩
theorem frmV_cells (mm : AV) (ch : Chn) : (frmV mm ch).cells? = some [frmV mm ch] := by cases ch <;> rfl
theorem del_del {H : AHeap} {p q : Nat} (hp : H p = none) (hq : H q = none) (n : p ≠ q) (o1 o2 : AObj) : (((H.upd p o1).upd q o2).del p).del q = H := by
 funext b
 simp only [AHeap.del, AHeap.upd]
 by_cases h1 : b = q
 ·subst h1; simp [hq]
 ·by_cases h2 : b = p
  ·subst h2; simp [h1, hp]
  ·simp [h1, h2]
theorem callM_en (c : Cfg) (n : Nat) (m : Mc (Int × Bool)) (s : MSt) : callM c n m s = (let q := enterM c s; if q.1 = true then (let r := m q.2; (r.1.1, { r.2 with cells := r.2.cells.take n, deep := r.2.deep - 1 })) else (0, q.2)) := by
 unfold callM
 rw [bind_ap]
 simp only
 split <;> rfl
theorem callF_eq (c : Cfg) (o : Ops) (ch : List Frm) (e : Expr) (x : MSt) : callF c o ch e x = (let a := argsF o ch (routOf e.name ch).1.params e.l [] [] x; callM c x.cells.length (bodyF c o (routOf e.name ch).1 (routOf e.name ch).2 a.1.1 a.1.2) a.2) := rfl
theorem bodyF_eq (c : Cfg) (o : Ops) (r : Routine) (around : List Frm) (names : Names) (vs : List Int) (x : MSt) : bodyF c o r around names vs x = (let a := laysP c r.params vs names x; let b := laysV c r.vars a.1 a.2; o.run (⟨b.1, r.inner⟩ :: around) r.body b.2) := rfl
theorem mok_enter {c : Cfg} {x : MSt} (h : MOk c x) : MOk c (enterM c x).2 ∧ ((enterM c x).1 = true → 1 ≤ (enterM c x).2.deep ∧ left c (enterM c x).2 + 1 = left c x) := by
 have he : enterM c x = (if (stepM c x).1 = true then deeperM (stepM c x).2 else (false, (stepM c x).2)) := by
  unfold enterM; rw [bind_ap]; cases (stepM c x).1 <;> rfl
 rw [he]
 have k := (kept_step c x).ok h
 split
 ·rename_i hs
  have hl := step_left h hs
  unfold deeperM
  split
  ·exact ⟨(Kept.fail _ 22 (fun _ h => absurd h (by decide))).ok k, fun hh => by cases hh⟩
  ·rename_i hd
   have h1 := k.deep; have h0 := k.deep0
   exact ⟨⟨k.fuel, k.cells, k.steps0, k.steps, k.out, by simp only; omega, by simp only; omega, k.input⟩, fun _ => ⟨by simp only; omega, hl⟩⟩
 ·rename_i hs
  exact ⟨k, fun hh => by cases hh⟩
theorem Call_step [GI] {c : Cfg} {C M st N : Nat} (L : Lv c C M st N) {s l : AHeap} {ch : Chn} {x : MSt} {e : Expr} (h : Here c C M st s l ch x) (he : EOk (scs ch) e) (ho : e.op = 7) (hN : left c x * C + (4 * e.sz + 1) ≤ N + 1) :
  ACalls prog 230 [frmV (.ip [.ptr (some ⟨M, 0, none⟩)] 0) ch, .agg (eExpr e)] (s.join l) (To c M st s (.int .i64 ((ops c (N + 1)).call (frms ch) e x).1) ((ops c (N + 1)).call (frms ch) e x).2) := by
 have hR : (ops c (N + 1)).call (frms ch) e x = callF c (ops c N) (frms ch) e x := rfl
 generalize (ops c (N + 1)).call (frms ch) e x = R at hR ⊢
 rw [callF_eq] at hR
 have he0 := he
 cases he with
 | mk _ hl hop h1 h2 hcl sub =>
 obtain ⟨r, rsc, hr1, hr2⟩ := hcl ho
 obtain ⟨rch, hr3, rfl, fq, q', hq', hmem⟩ := routCh_sc hr1
 obtain ⟨hr4, pre0, hch⟩ := routCh_of _ hr3
 rw [hr4] at hR
 have hsc : ScOk C (scs rch) := by
  have := h.sc
  rw [hch] at this
  simp only [scs, List.map_append] at this
  exact ScOk.sub this
 have hRtOk : RtOk C (scs rch) r := by
  have := hsc
  rw [hq'] at this ⊢
  exact this.2.1 r hmem
 cases hRtOk with
 | mk _ _ hb hC g1 g2 g3 g4 hm hi =>
 obtain ⟨fn0, hf0⟩ : ∃ q, ch = q :: ch.tail := by
  cases ch with
  | nil => simp [routCh] at hr3
  | cons q t => exact ⟨q, rfl⟩
 have hfv : frmV (.ip [.ptr (some ⟨M, 0, none⟩)] 0) ch = .ip [.ip [.ptr (some ⟨M, 0, none⟩)] 0, .map (some fn0.1), .sl (fn0.2.routines.map eRoutine) false, frmV (.ip [.ptr (some ⟨M, 0, none⟩)] 0) ch.tail] 0 := by
  rw [hf0]; rfl
 have hfn : ∀ (nm : Nat) (F : Frm), frmV (.ip [.ptr (some ⟨M, 0, none⟩)] 0) ((nm, F) :: rch) = .ip [.ip [.ptr (some ⟨M, 0, none⟩)] 0, .map (some nm), .sl (F.routines.map eRoutine) false, frmV (.ip [.ptr (some ⟨M, 0, none⟩)] 0) rch] 0 := fun _ _ => rfl
 obtain ⟨cv, ov, f, mm⟩ := h.m
 have hM := mm.hMj h.a
 refine F230.calls (by simp) ?_
 delta F230.s0
 simp only [go_sem,seval, expr_2]
 have hrs := routine_spec (H := s.join l) (h.names.le (AHeap.le_join s l)) h.sc.few (.ip [.ptr (some ⟨M, 0, none⟩)] 0) e.name hr3
 refine tcE (hrs) ?_
 simp only [go_sem,seval, hfv, eRoutine_len, routine_take, routine_6]
 refine afreshT_intro fun nm hnm => ?_
 obtain ⟨hn1, hn2⟩ := join_none hnm
 rw [join_upd_left]
 have aN := fun o => apart_upd_left h.a o hn2
 have hMn := fun o => mm.hMj (aN o)
 simp only [go_sem,seval, hMn, hfv, frmV_cells]
 refine tcE (Len_spec (aN _) h.m) ?_
 simp only [go_sem,seval, param_4]
 have hvl : e.l.length ≤ 512 := by omega
 refine lT_list r.params (fun pre post e' g => ∃ names' vs x' l' S v, argsF (ops c N) (frms ch) r.params e.l [] [] x = argsF (ops c N) (frms ch) post (e.l.drop pre.length) names' vs x' ∧ vs.length = pre.length ∧ GL 2 1 (s.upd nm (.mp (names'.map eNm))) S v (vs.map eInt) ∧ Here c C M st S l' ch x' ∧ left c x' * C ≤ left c x * C ∧ g = S.join l' ∧ e' = [(0, frmV (.ip [.ptr (some ⟨M, 0, none⟩)] 0) ch), (3, .ip (eExpr e) 0), (4, .int .i64 0), (5, .ip (eRoutine r) 0), (7, frmV (.ip [.ptr (some ⟨M, 0, none⟩)] 0) ((nm, ⟨[], r.inner⟩) :: rch)), (8, .int .i64 x.cells.length), (9, v), (48, .sl (r.params.map eParam) false), (49, .int .i64 r.params.length), (50, .int .i64 pre.length)]) (WeakE.env ?_) ⟨[], [], x, l, _, _, rfl, rfl, GL.nil _, h.up (.mp []) hn1 hn2, Nat.le_refl _, rfl, rfl⟩ ?_ ?_
 ·simp only [go_sem,seval, hfv, frmV]
 ·rintro pre p post e' g hp ⟨names', vs, x', l', S, v, hA, hvs, G, h', hl', rfl, rfl⟩
  have hpl := (at_pre hp).2
  obtain ⟨y, hy, hay, hky, hzy⟩ := he0.at (i := pre.length) (by omega)
  have hdr : e.l.drop pre.length = y :: e.l.drop (pre.length + 1) := by
   rw [List.drop_eq_getElem_cons (by omega)]
   congr 1
   rw [List.getElem?_eq_getElem (by omega)] at hy
   exact Option.some.inj hy
  rw [hdr] at hA
  obtain ⟨cv', ov', f', mm'⟩ := h'.m
  have hM' := mm'.hMj h'.a
  simp only [go_sem,seval, lt_at hp, aia_sl (map_at hp) (eParam_len p), param_4, eParam_len, param_take]
  have hnmS : S nm = some (.mp (names'.map eNm)) := G.at (upd_same _ _ _)
  have les : ∀ (o : AObj) (S2 : AHeap) v2 rows2, GL 2 1 (s.upd nm o) S2 v2 rows2 → s.le S2 := fun o S2 v2 rows2 G2 => AHeap.le_trans (AHeap.le_upd hn1) G2.le
  have hvs5 : vs.length + 1 ≤ 513 := by omega
  have hroom : roomFor ((vs.map eInt).length + 1) 8 := by unfold roomFor; simp; omega
  by_cases hmo : p.mode = 1
  ·have hA2 : argsF (ops c N) (frms ch) (p :: post) (y :: e.l.drop (pre.length + 1)) names' vs x' = (let q := (ops c N).place (frms ch) y x'; argsF (ops c N) (frms ch) post (e.l.drop (pre.length + 1)) (nset p.name ⟨q.1.1.1, q.1.1.2, q.1.2⟩ names') (vs ++ [0]) q.2) := by
    simp only [argsF, hmo, if_true, List.headD_cons, List.tail_cons]; rfl
   rw [hA2] at hA
   have lP := L.place h' hky (by omega)
   have kP := (ops_kept c N).1 (frms ch) y x'
   generalize (ops c N).place (frms ch) y x' = P at hA lP kP
   obtain ⟨⟨rr, tt⟩, x2⟩ := P
   simp only at hA lP kP
   simp only [go_sem,seval, hmo, hfv, expr_4, aia_lit hy, eExpr_len, expr_take]
   rw [← hfv]
   refine tcM lP fun l2 a2 m2 => ?_
   have hl2 := Nat.mul_le_mul_right C kP.left
   simp only [go_sem,seval]
   refine afreshT_intro fun p1 hp1 => ?_
   simp only [go_sem,seval]
   refine afreshT_intro fun p2 hp2 => ?_
   have hpp := fresh_ne hp2
   have hup : ∀ (H : AHeap) o1 o2, ((H.upd p1 o1).upd p2 o2) p1 = some o1 := fun H o1 o2 => by rw [upd_ne _ _ _ hpp, upd_same]
   have hcm : ∀ (H : AHeap) o1 o2 o3, ((H.upd p1 o1).upd p2 o2).upd p1 o3 = (H.upd p1 o3).upd p2 o2 := fun H o1 o2 o3 => by rw [upd_comm _ _ _ hpp.symm, upd_upd]
   have hd2 : ∀ (H : AHeap) o1 o2, (((H.upd p1 o1).upd p2 o2).del p1) p2 = some o2 := fun H o1 o2 => by rw [del_ne _ _ hpp.symm, upd_same]
   have hdd := fun o1 o2 => del_del (H := S.join l2) hp1 (fresh_of hp2) hpp o1 o2
   simp only [go_sem,seval, upd_same, hup, hcm, upd_upd, splT, hd2, hdd, eTyp_len, typ_take, hfn]
   have hl2nm : l2 nm = none := a2 nm _ hnmS
   refine mapupT_of (join_left hnmS) (set_nm p.name ⟨rr.1, rr.2, tt⟩ names') rfl ?_
   rw [join_upd_left]
   generalize nset p.name ⟨rr.1, rr.2, tt⟩ names' = names2 at hA ⊢
   have G2 := G.upd0 (upd_same _ _ _) (.mp (names2.map eNm))
   rw [upd_upd] at G2
   have aS2 : (S.upd nm (.mp (names2.map eNm))).apart l2 := apart_upd_left a2 _ hl2nm
   simp only [go_sem,seval]
   refine (G2.join aS2).append1 rfl hroom fun v2 h2 G3 => ?_
   obtain ⟨S2, rfl, aS3, G4⟩ := G3.part (apart_sub aS2 G2.le)
   simp only [go_sem,seval]
   have hvm : vs.map eInt ++ [[AV.int .i64 0]] = (vs ++ [0]).map eInt := by simp
   rw [hvm] at G4
   refine ⟨_, _, WeakE.env ?_, names2, vs ++ [0], x2, l2, S2, v2, by rw [hA]; simp, by simp [hvs], G4, ⟨aS3, m2, kP.ok h'.ok, h.names.le (les _ _ _ _ G4), h.sc, h.recs, h.flds, h.C1⟩, by omega, rfl, rfl⟩
   have hw5 : few r.params := by unfold few; omega
   simp only [go_sem,seval, step_at hw5 hp, hfv, hfn]
  ·have hm0 : p.mode = 0 := (hm p (mem_at hp)).resolve_right hmo
   have hA2 : argsF (ops c N) (frms ch) (p :: post) (y :: e.l.drop (pre.length + 1)) names' vs x' = (let q := (ops c N).eval (frms ch) y x'; argsF (ops c N) (frms ch) post (e.l.drop (pre.length + 1)) names' (vs ++ [q.1]) q.2) := by
    simp only [argsF, hmo, if_false, List.headD_cons, List.tail_cons]; rfl
   rw [hA2] at hA
   have lP := L.eval h' hky (by omega)
   have kP := (ops_kept c N).2.1 (frms ch) y x'
   generalize (ops c N).eval (frms ch) y x' = P at hA lP kP
   obtain ⟨n, x2⟩ := P
   simp only at hA lP kP
   simp only [go_sem,seval, hmo, hfv, expr_4, aia_lit hy, eExpr_len, expr_take]
   rw [← hfv]
   refine tcM lP fun l2 a2 m2 => ?_
   have hl2 := Nat.mul_le_mul_right C kP.left
   simp only [go_sem,seval]
   refine (G.join a2).append1 rfl hroom fun v2 h2 G3 => ?_
   obtain ⟨S2, rfl, aS3, G4⟩ := G3.part (apart_sub a2 G.le)
   simp only [go_sem,seval]
   have hvm : vs.map eInt ++ [[AV.int .i64 n]] = (vs ++ [n]).map eInt := by simp
   rw [hvm] at G4
   refine ⟨_, _, WeakE.env ?_, names', vs ++ [n], x2, l2, S2, v2, by rw [hA]; simp, by simp [hvs], G4, ⟨aS3, m2, kP.ok h'.ok, h.names.le (les _ _ _ _ G4), h.sc, h.recs, h.flds, h.C1⟩, by omega, rfl, rfl⟩
   have hw5 : few r.params := by unfold few; omega
   simp only [go_sem,seval, step_at hw5 hp, hfv, hfn]
 ·rintro e' g ⟨names', vs, x', l', S, v, hA, hvs, G, h', hl', rfl, rfl⟩
  have hA2 : argsF (ops c N) (frms ch) r.params e.l [] [] x = ((names', vs), x') := hA
  rw [hA2] at hR
  simp only at hR
  rw [callM_en] at hR
  simp only at hR
  have les0 : ∀ (o : AObj) (S2 : AHeap) v2 rows2, GL 2 1 (s.upd nm o) S2 v2 rows2 → s.le S2 := fun o S2 v2 rows2 G2 => AHeap.le_trans (AHeap.le_upd hn1) G2.le
  obtain ⟨cv', ov', f', mm'⟩ := h'.m
  simp only [go_sem,seval, lt_end]
  refine lessQ.same ?_
  simp only [go_sem,seval, hfv]
  refine tcM (Enter_spec h'.a h'.m h'.ok) fun l2 a2 m2 => ?_
  obtain ⟨hk2, hd2⟩ := mok_enter h'.ok
  by_cases hs : (enterM c x').1 = true
  case neg =>
   rw [if_neg hs] at hR
   have hsf := Bool.eq_false_iff.2 hs
   simp only [go_sem,seval, hsf, t_dMid_ret]
   have leS := les0 _ _ _ _ G
   exact .forget (join_le_l leS a2) ⟨by rw [hR], l2, rfl, apart_sub a2 leS, by rw [hR]; exact m2⟩
  rw [if_pos hs] at hR
  obtain ⟨hd3, hl3⟩ := hd2 hs
  generalize (enterM c x').2 = x2 at hR m2 hk2 hd3 hl3
  have hmul : left c x2 * C + C = left c x' * C := by rw [← hl3, Nat.add_mul, Nat.one_mul]
  simp only [go_sem,seval, hs, t_dMid_normal, param_4]
  refine lT_list r.params (fun pre post e' g => ∃ names2 x3 l3 S3, laysP c r.params vs names' x2 = laysP c post (vs.drop pre.length) names2 x3 ∧ GL 2 1 (s.upd nm (.mp (names2.map eNm))) S3 v (vs.map eInt) ∧ S3.apart l3 ∧ Mem l3 M st c x3 ∧ Kept c x2 x3 ∧ g = S3.join l3 ∧ e' = [(0, frmV (.ip [.ptr (some ⟨M, 0, none⟩)] 0) ch), (5, .ip (eRoutine r) 0), (7, frmV (.ip [.ptr (some ⟨M, 0, none⟩)] 0) ((nm, ⟨[], r.inner⟩) :: rch)), (9, v), (119, .sl (r.params.map eParam) false), (120, .int .i64 r.params.length), (121, .int .i64 pre.length)]) (WeakE.env ?_) ⟨names', x2, l2, S, rfl, G, a2, m2, .refl _ _, rfl, rfl⟩ ?_ ?_
  ·simp only [go_sem,seval, hfv, hfn]
  ·rintro pre p post e' g hp ⟨names2, x3, l3, S3, hLP, G3, a3, m3, k3, rfl, rfl⟩
   have hpl := (at_pre hp).2
   have hi3 : pre.length < vs.length := by omega
   have hdr : vs.drop pre.length = vs[pre.length] :: vs.drop (pre.length + 1) := List.drop_eq_getElem_cons hi3
   have hat : (vs.map eInt)[pre.length]? = some [.int .i64 vs[pre.length]] := by simp [hi3]
   rw [hdr] at hLP
   generalize vs[pre.length] = n at hLP hat
   have hnmS : S3 nm = some (.mp (names2.map eNm)) := G3.at (upd_same _ _ _)
   simp only [go_sem,seval, lt_at hp, aia_sl (map_at hp) (eParam_len p), param_4, eParam_len, param_take]
   have hw5 : few r.params := by unfold few; omega
   by_cases hm0 : p.mode = 0
   case neg =>
    have hL2 : laysP c (p :: post) (n :: vs.drop (pre.length + 1)) names2 x3 = laysP c post (vs.drop (pre.length + 1)) names2 x3 := by
     simp only [laysP, hm0, if_false, List.tail_cons]
    rw [hL2] at hLP
    simp only [go_sem,seval, hm0]
    refine ⟨_, _, WeakE.env ?_, names2, x3, l3, S3, by rw [hLP]; simp, G3, a3, m3, k3, rfl, rfl⟩
    simp only [go_sem,seval, step_at hw5 hp, hfv, hfn]
   have hL2 : laysP c (p :: post) (n :: vs.drop (pre.length + 1)) names2 x3 = (let q := layM c p.t x3; laysP c post (vs.drop (pre.length + 1)) (nset p.name ⟨q.1.1, q.1.2, p.t⟩ names2) (setM q.1 n q.2).2) := by
    simp only [laysP, hm0, if_true, List.tail_cons, List.headD_cons]; rfl
   rw [hL2] at hLP
   have lLa := Lay_spec a3 m3 (k3.ok hk2) h.recs p.t
   have kLa := kept_lay c p.t x3
   generalize layM c p.t x3 = Q at hLP lLa kLa
   obtain ⟨rr, x4⟩ := Q
   simp only at hLP lLa kLa
   simp only [go_sem,seval, hm0, hfv, param_t]
   refine tcM lLa fun l4 a4 m4 => ?_
   simp only [go_sem,seval]
   refine afreshT_intro fun p1 hp1 => ?_
   have hdel := fun o => del_upd _ p1 o hp1
   have hk4 := kLa.ok (k3.ok hk2)
   simp only [go_sem,seval, upd_same, upd_upd, hdel, hfn]
   have hl4nm : l4 nm = none := a4 nm _ hnmS
   refine mapupT_of (join_left hnmS) (set_nm p.name ⟨rr.1, rr.2, p.t⟩ names2) rfl ?_
   rw [join_upd_left]
   generalize nset p.name ⟨rr.1, rr.2, p.t⟩ names2 = names4 at hLP ⊢
   have G4 := G3.upd0 (upd_same _ _ _) (.mp (names4.map eNm))
   rw [upd_upd] at G4
   have aS4 : (S3.upd nm (.mp (names4.map eNm))).apart l4 := apart_upd_left a4 _ hl4nm
   obtain ⟨cv4, ov4, f4, mm4⟩ := m4
   have hM4 := mm4.hMj aS4
   simp only [go_sem,seval, hM4, G4.aia .i64 hat]
   refine tcM (Set_spec aS4 ⟨cv4, ov4, f4, mm4⟩ hk4 rr n) fun l5 a5 m5 => ?_
   obtain ⟨cv5, ov5, f5, mm5⟩ := m5
   have hM5 := mm5.hMj a5
   simp only [go_sem,seval, hM5]
   refine ⟨_, _, WeakE.env ?_, names4, (setM rr n x4).2, l5, S3.upd nm (.mp (names4.map eNm)), by rw [hLP]; simp, G4, a5, ⟨cv5, ov5, f5, mm5⟩, (k3.trans kLa).trans (kept_set c rr n x4), rfl, rfl⟩
   simp only [go_sem,seval, step_at hw5 hp, hfv, hfn]
  ·rintro e' g ⟨names2, x3, l3, S3, hLP, G3, a3, m3, k3, rfl, rfl⟩
   have hLP2 : laysP c r.params vs names' x2 = (names2, x3) := hLP
   rw [bodyF_eq, hLP2] at hR
   simp only at hR
   simp only [go_sem,seval, lt_end]
   refine lessQ.same ?_
   simp only [go_sem,seval, routine_5, hfn]
   have hnmS : S3 nm = some (.mp (names2.map eNm)) := G3.at (upd_same _ _ _)
   have hS3 : S3.upd nm (.mp (names2.map eNm)) = S3 := upd_self hnmS
   have hk3 := k3.ok hk2
   have fl := flay_spec (nm := nm) (s := S3) (M := M) (st := st) h.recs r.vars g2 false rch ⟨[], r.inner⟩ names2 (l := l3) (x := x3) (by rw [hS3]; exact a3) m3 hk3
   rw [hS3, hfn] at fl
   have kV : Kept c x3 (laysV c r.vars names2 x3).2 := (kept_sim c).laysV r.vars names2 x3
   generalize laysV c r.vars names2 x3 = V at hR fl kV
   obtain ⟨names5, x5⟩ := V
   simp only at hR fl kV
   refine callT_of fl fun w g hg => ?_
   obtain ⟨rfl, l5, rfl, a5, m5⟩ := hg
   obtain ⟨cv5, ov5, f5, mm5⟩ := m5
   have m5 : Mem l5 M st c x5 := ⟨cv5, ov5, f5, mm5⟩
   have hM5 := mm5.hMj a5
   have leS : s.le (S3.upd nm (.mp (names5.map eNm))) := by
    have G5 := G3.upd0 (upd_same _ _ _) (.mp (names5.map eNm))
    rw [upd_upd] at G5
    exact les0 _ _ _ _ G5
   have hrch : Ch s rch := by have := h.names; rw [hch] at this; exact this.sub
   have k5 := k3.trans kV
   have H5 : Here c C M st (S3.upd nm (.mp (names5.map eNm))) l5 ((nm, ⟨names5, r.inner⟩) :: rch) x5 := ⟨a5, m5, k5.ok hk2, fun q hq => by
    rcases List.mem_cons.1 hq with rfl | hq
    ·exact upd_same _ _ _
    ·exact leS _ _ (hrch q hq), ⟨g3, hi, hsc⟩, h.recs, h.flds, h.C1⟩
   have hl5 := Nat.mul_le_mul_right C k5.left
   have hC1 := h.C1
   have lr := L.run (fl := false) H5 g4 hb (by omega)
   have kr := (ops_kept c N).2.2.2.1 (⟨names5, r.inner⟩ :: frms rch) r.body x5
   change R = ((((ops c N).run (⟨names5, r.inner⟩ :: frms rch) r.body x5).1.1, _) : Int × MSt) at hR
   change ACalls _ _ _ _ (To c M st _ (.tuple [.int .i64 ((ops c N).run (⟨names5, r.inner⟩ :: frms rch) r.body x5).1.1, .bool ((ops c N).run (⟨names5, r.inner⟩ :: frms rch) r.body x5).1.2]) ((ops c N).run (⟨names5, r.inner⟩ :: frms rch) r.body x5).2) at lr
   generalize (ops c N).run (⟨names5, r.inner⟩ :: frms rch) r.body x5 = Q at hR lr kr
   obtain ⟨⟨n, bk⟩, x6⟩ := Q
   simp only at hR lr kr
   simp only [go_sem,seval, hfv, hfn, routine_7]
   refine tcM lr fun l6 a6 m6 => ?_
   have hk6 := kr.ok H5.ok
   have hd6 : x6.deep = x2.deep := by rw [kr.deep, k5.deep]
   simp only [go_sem,seval, t_dEnd_ret]
   delta F235.c0
   obtain ⟨cv6, ov6, f6, mm6⟩ := m6
   have hM6 := mm6.hMj a6
   simp only [go_sem,seval, hM6]
   refine tcM (Cut_spec a6 ⟨cv6, ov6, f6, mm6⟩ x.cells.length) fun l7 a7 m7 => ?_
   obtain ⟨cv7, ov7, f7, mm7⟩ := m7
   have hM7 := mm7.hMj a7
   have hs7 := apart_at a7 mm7.hM
   have hd7 : IntKind.i64.wrap (x6.deep - 1) = x6.deep - 1 := by
    have := hk6.deep
    exact wrap64 (by omega) (by omega)
   simp only [go_sem,seval, hM7, hd7, t_dLast_normal]
   rw [join_upd_right _ _ hs7]
   have mm8 := mm7.turn (y := { x6 with cells := x6.cells.take x.cells.length, deep := x6.deep - 1 }) (f' := f7) rfl rfl
   subst hR
   exact .forget (join_le_l leS (apart_upd_right a7 _ hs7)) ⟨rfl, _, rfl, apart_sub (apart_upd_right a7 _ hs7) leS, cv7, ov7, f7, mm8⟩
theorem lv_all [GI] {c : Cfg} {C M st : Nat} : ∀ N, Lv c C M st N := by
 intro N
 induction N using Nat.strongRecOn with
 | _ N ih =>
  cases N with
  | zero => exact ⟨fun _ _ h => by omega, fun _ _ h => by omega, fun _ _ _ h => by omega, fun {s l ch x b fl} _ _ _ h => by cases b <;> simp only [Stmts.wt] at h <;> omega, fun {s l ch x y} _ _ h => by have := y.wt_eq; omega⟩
  | succ N =>
   have L : ∀ n, n ≤ N → Lv c C M st n := fun n hn => ih n (by omega)
   have LN := L N (Nat.le_refl _)
   exact ⟨fun h he hn => Place_step LN h he hn, fun h he hn => Eval_step LN h he hn, fun h he ho hn => Call_step LN h he ho hn, fun h hw hb hn => Run_step L h hw hb hn, fun h hy hn => stmt_step L h hy hn⟩
end Pg
