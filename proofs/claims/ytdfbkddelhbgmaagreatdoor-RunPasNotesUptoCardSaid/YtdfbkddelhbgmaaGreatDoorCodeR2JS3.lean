import Derived.Test.YtdfbkddelhbgmaaGreatDoorTreeSS3
import Derived.Test.YtdfbkddelhbgmaaGreatDoorRun8JS3
import Derived.Test.YtdfbkddelhbgmaaGreatDoorCodeYS3
import Derived.Test.YtdfbkddelhbgmaaGreatDoorK4S3
import Derived.Test.YtdfbkddelhbgmaaGreatDoorProg
import Derived.KernelRfl
namespace Pg
open Go Go.Proofs.Tryz
set_option linter.all false
set_option maxHeartbeats 4000000
set_option maxRecDepth 4000
theorem GL.join {ty : TypeId} {size : Nat} {h0 h l : AHeap} {v : AV} {rows : List (List AV)} (g : GL ty size h0 h v rows) (a : h.apart l) : GL ty size (h0.join l) (h.join l) v rows := by
 refine ⟨g.1, ?_⟩
 rcases g.2 with ⟨h1, h2⟩ | ⟨b, cap, h1, h2, h3, h4⟩
 ·exact .inl ⟨h1, by rw [h2]⟩
 ·have hl : l b = none := a b _ (by rw [h4]; exact aA _ _ _)
  exact .inr ⟨b, cap, by rw [sO h1]; exact hl, h2, h3, by rw [h4, bZ]⟩
theorem GL.part {ty : TypeId} {size : Nat} {h0 h l : AHeap} {v : AV} {rows : List (List AV)} (g : GL ty size (h0.join l) h v rows) (a : h0.apart l) : ∃ S, h = S.join l ∧ S.apart l ∧ GL ty size h0 S v rows := by
 rcases g.2 with ⟨h1, h2⟩ | ⟨b, cap, h1, h2, h3, h4⟩
 ·exact ⟨h0, h2, a, g.1, .inl ⟨h1, rfl⟩⟩
 ·obtain ⟨k1, k2⟩ := join_none h1
  exact ⟨_, by rw [h4, bZ], gO a _ k2, g.1, .inr ⟨b, cap, k1, h2, h3, rfl⟩⟩
theorem GL.aBY {ty : TypeId} {size : Nat} {h0 h : AHeap} {v : AV} {rows : List (List AV)} (g : GL ty size h0 h v rows) {p : Nat} {o : AObj} (hp : h0 p = some o) (x : AObj) : GL ty size (h0.upd p x) (h.upd p x) v rows := by
 refine ⟨g.1, ?_⟩
 rcases g.2 with ⟨h1, h2⟩ | ⟨b, cap, h1, h2, h3, h4⟩
 ·exact .inl ⟨h1, by rw [h2]⟩
 ·have hpb : b ≠ p := by intro hh; subst hh; rw [h1] at hp; cases hp
  exact .inr ⟨b, cap, by rw [aC _ _ _ hpb]; exact h1, h2, h3, by rw [h4, bH _ _ _ hpb]⟩
theorem Y1 (mm : AV) (ch : Chn) : (hJ mm ch).cells? = some [hJ mm ch] := by cases ch <;> rfl
theorem aEz {H : AHeap} {p q : Nat} (hp : H p = none) (hq : H q = none) (n : p ≠ q) (o1 o2 : AObj) : (((H.upd p o1).upd q o2).del p).del q = H := by
 funext b
 simp only [AHeap.del, AHeap.upd]
 by_cases h1 : b = q
 ·subst h1; simp [hq]
 ·by_cases h2 : b = p
  ·subst h2; simp [h1, hp]
  ·simp [h1, h2]
theorem aCX (c : Cfg) (n : Nat) (m : Mc (Int × Bool)) (s : MSt) : sW c n m s = (let q := iV c s; if q.1 = true then (let r := m q.2; (r.1.1, { r.2 with cells := r.2.cells.take n, deep := r.2.deep - 1 })) else (0, q.2)) := by
 unfold sW
 rw [b6]
 simp only
 split <;> rfl
theorem aCY (c : Cfg) (o : Ops) (ch : List Frm) (e : Expr) (x : MSt) : uH c o ch e x = (let a := jR o ch (jT e.name ch).1.params e.l [] [] x; sW c x.cells.length (FQ c o (jT e.name ch).1 (jT e.name ch).2 a.1.1 a.1.2) a.2) := rfl
theorem aCZ (c : Cfg) (o : Ops) (r : Routine) (around : List Frm) (names : Names) (vs : List Int) (x : MSt) : FQ c o r around names vs x = (let a := jQ c r.params vs names x; let b := gU c r.vars a.1 a.2; o.run (⟨b.1, r.inner⟩ :: around) r.body b.2) := rfl
theorem aBg {c : Cfg} {x : MSt} (h : MOk c x) : MOk c (iV c x).2 ∧ ((iV c x).1 = true → 1 ≤ (iV c x).2.deep ∧ left c (iV c x).2 + 1 = left c x) := by
 have he : iV c x = (if (cD c x).1 = true then qI (cD c x).2 else (false, (cD c x).2)) := by
  unfold iV; rw [b6]; cases (cD c x).1 <;> rfl
 rw [he]
 have k := (mW c x).ok h
 split
 ·rename_i hs
  have hl := uM h hs
  unfold qI
  split
  ·exact ⟨(Kept.fail _ 22 (fun _ h => absurd h (by decide))).ok k, fun hh => by cases hh⟩
  ·rename_i hd
   have h1 := k.deep; have h0 := k.sT
   exact ⟨⟨k.fuel, k.cells, k.nS, k.steps, k.out, by simp only; omega, by simp only; omega, k.input⟩, fun _ => ⟨by simp only; omega, hl⟩⟩
 ·rename_i hs
  exact ⟨k, fun hh => by cases hh⟩
theorem aBQ [GI] {c : Cfg} {C M st N : Nat} (L : Lv c C M st N) {s l : AHeap} {ch : Chn} {x : MSt} {e : Expr} (h : jA c C M st s l ch x) (he : EOk (scs ch) e) (ho : e.op = 7) (hN : left c x * C + (4 * e.sz + 1) ≤ N + 1) :
  aD prog 230 [hJ (.ip [.ptr (some ⟨M, 0, none⟩)] 0) ch, .agg (aO e)] (s.join l) (To c M st s (.int .i64 ((ops c (N + 1)).call (bG ch) e x).1) ((ops c (N + 1)).call (bG ch) e x).2) := by
 have hR : (ops c (N + 1)).call (bG ch) e x = uH c (ops c N) (bG ch) e x := rfl
 generalize (ops c (N + 1)).call (bG ch) e x = R at hR ⊢
 rw [aCY] at hR
 have he0 := he
 cases he with
 | mk _ hl hop h1 h2 hcl sub =>
 obtain ⟨r, rsc, hr1, hr2⟩ := hcl ho
 obtain ⟨rch, hr3, rfl, fq, q', hq', hmem⟩ := NA hr1
 obtain ⟨hr4, pre0, hch⟩ := NB _ hr3
 rw [hr4] at hR
 have hsc : vI C (scs rch) := by
  have := h.sc
  rw [hch] at this
  simp only [scs, List.map_append] at this
  exact vI.sub this
 have hRtOk : RL C (scs rch) r := by
  have := hsc
  rw [hq'] at this ⊢
  exact this.2.1 r hmem
 cases hRtOk with
 | mk _ _ hb hC g1 g2 g3 g4 hm hi =>
 obtain ⟨fn0, hf0⟩ : ∃ q, ch = q :: ch.tail := by
  cases ch with
  | nil => simp [nU] at hr3
  | cons q t => exact ⟨q, rfl⟩
 have hfv : hJ (.ip [.ptr (some ⟨M, 0, none⟩)] 0) ch = .ip [.ip [.ptr (some ⟨M, 0, none⟩)] 0, .map (some fn0.1), .sl (fn0.2.aH.map aU) false, hJ (.ip [.ptr (some ⟨M, 0, none⟩)] 0) ch.tail] 0 := by
  rw [hf0]; rfl
 have hfn : ∀ (nm : Nat) (F : Frm), hJ (.ip [.ptr (some ⟨M, 0, none⟩)] 0) ((nm, F) :: rch) = .ip [.ip [.ptr (some ⟨M, 0, none⟩)] 0, .map (some nm), .sl (F.aH.map aU) false, hJ (.ip [.ptr (some ⟨M, 0, none⟩)] 0) rch] 0 := fun _ _ => rfl
 obtain ⟨cv, ov, f, mm⟩ := h.m
 have hM := mm.hMj h.a
 refine RS.calls (by simp) ?_
 delta RS.s0
 simp only [go_sem,seval, xR]
 have hrs := PQ (H := s.join l) (h.names.le (AHeap.rT s l)) h.sc.few (.ip [.ptr (some ⟨M, 0, none⟩)] 0) e.name hr3
 refine tcE (hrs) ?_
 simp only [go_sem,seval, hfv, bL, lZ, DR]
 refine aS fun nm hnm => ?_
 obtain ⟨hn1, hn2⟩ := join_none hnm
 rw [bZ]
 have aN := fun o => gO h.a o hn2
 have hMn := fun o => mm.hMj (aN o)
 simp only [go_sem,seval, hMn, hfv, Y1]
 refine tcE (aC5 (aN _) h.m) ?_
 simp only [go_sem,seval, wH]
 have hvl : e.l.length ≤ 512 := by omega
 refine aX r.params (fun pre post e' g => ∃ names' vs x' l' S v, jR (ops c N) (bG ch) r.params e.l [] [] x = jR (ops c N) (bG ch) post (e.l.drop pre.length) names' vs x' ∧ vs.length = pre.length ∧ GL 2 1 (s.upd nm (.mp (names'.map eNm))) S v (vs.map eInt) ∧ jA c C M st S l' ch x' ∧ left c x' * C ≤ left c x * C ∧ g = S.join l' ∧ e' = [(0, hJ (.ip [.ptr (some ⟨M, 0, none⟩)] 0) ch), (3, .ip (aO e) 0), (4, .int .i64 0), (5, .ip (aU r) 0), (7, hJ (.ip [.ptr (some ⟨M, 0, none⟩)] 0) ((nm, ⟨[], r.inner⟩) :: rch)), (8, .int .i64 x.cells.length), (9, v), (48, .sl (r.params.map c7) false), (49, .int .i64 r.params.length), (50, .int .i64 pre.length)]) (aF.env ?_) ⟨[], [], x, l, _, _, rfl, rfl, GL.nil _, h.up (.mp []) hn1 hn2, Nat.le_refl _, rfl, rfl⟩ ?_ ?_
 ·simp only [go_sem,seval, hfv, hJ]
 ·rintro pre p post e' g hp ⟨names', vs, x', l', S, v, hA, hvs, G, h', hl', rfl, rfl⟩
  have hpl := (gE hp).2
  obtain ⟨y, hy, hay, hky, hzy⟩ := he0.at (i := pre.length) (by omega)
  have hdr : e.l.drop pre.length = y :: e.l.drop (pre.length + 1) := by
   rw [List.drop_eq_getElem_cons (by omega)]
   congr 1
   rw [List.getElem?_eq_getElem (by omega)] at hy
   exact Option.some.inj hy
  rw [hdr] at hA
  obtain ⟨cv', ov', f', mm'⟩ := h'.m
  have hM' := mm'.hMj h'.a
  simp only [go_sem,seval, bI hp, aI (aK hp) (bP p), wH, bP, vU]
  have hnmS : S nm = some (.mp (names'.map eNm)) := G.at (aA _ _ _)
  have les : ∀ (o : AObj) (S2 : AHeap) v2 rows2, GL 2 1 (s.upd nm o) S2 v2 rows2 → s.le S2 := fun o S2 v2 rows2 G2 => AHeap.le_trans (AHeap.b8 hn1) G2.le
  have hvs5 : vs.length + 1 ≤ 513 := by omega
  have hroom : roomFor ((vs.map eInt).length + 1) 8 := by unfold roomFor; simp; omega
  by_cases hmo : p.mode = 1
  ·have hA2 : jR (ops c N) (bG ch) (p :: post) (y :: e.l.drop (pre.length + 1)) names' vs x' = (let q := (ops c N).place (bG ch) y x'; jR (ops c N) (bG ch) post (e.l.drop (pre.length + 1)) (sJ p.name ⟨q.1.1.1, q.1.1.2, q.1.2⟩ names') (vs ++ [0]) q.2) := by
    simp only [jR, hmo, if_true, List.headD_cons, List.tail_cons]; rfl
   rw [hA2] at hA
   have lP := L.place h' hky (by omega)
   have kP := (fG c N).1 (bG ch) y x'
   generalize (ops c N).place (bG ch) y x' = P at hA lP kP
   obtain ⟨⟨rr, tt⟩, x2⟩ := P
   simp only at hA lP kP
   simp only [go_sem,seval, hmo, hfv, hO, FT hy, aR, bO]
   rw [← hfv]
   refine tcM lP fun l2 a2 m2 => ?_
   have hl2 := Nat.mul_le_mul_right C kP.left
   simp only [go_sem,seval]
   refine aS fun p1 hp1 => ?_
   simp only [go_sem,seval]
   refine aS fun p2 hp2 => ?_
   have hpp := iF hp2
   have hup : ∀ (H : AHeap) o1 o2, ((H.upd p1 o1).upd p2 o2) p1 = some o1 := fun H o1 o2 => by rw [aC _ _ _ hpp, aA]
   have hcm : ∀ (H : AHeap) o1 o2 o3, ((H.upd p1 o1).upd p2 o2).upd p1 o3 = (H.upd p1 o3).upd p2 o2 := fun H o1 o2 o3 => by rw [bH _ _ _ hpp.symm, aB]
   have hd2 : ∀ (H : AHeap) o1 o2, (((H.upd p1 o1).upd p2 o2).del p1) p2 = some o2 := fun H o1 o2 => by rw [pT _ _ hpp.symm, aA]
   have hdd := fun o1 o2 => aEz (H := S.join l2) hp1 (fT hp2) hpp o1 o2
   simp only [go_sem,seval, aA, hup, hcm, aB, iB, hd2, hdd, b9, cE, hfn]
   have hl2nm : l2 nm = none := a2 nm _ hnmS
   refine rS (fP hnmS) (JL p.name ⟨rr.1, rr.2, tt⟩ names') rfl ?_
   rw [bZ]
   generalize sJ p.name ⟨rr.1, rr.2, tt⟩ names' = names2 at hA ⊢
   have G2 := G.aBY (aA _ _ _) (.mp (names2.map eNm))
   rw [aB] at G2
   have aS2 : (S.upd nm (.mp (names2.map eNm))).apart l2 := gO a2 _ hl2nm
   simp only [go_sem,seval]
   refine (G2.join aS2).mS rfl hroom fun v2 h2 G3 => ?_
   obtain ⟨S2, rfl, aS3, G4⟩ := G3.part (kJ aS2 G2.le)
   simp only [go_sem,seval]
   have hvm : vs.map eInt ++ [[AV.int .i64 0]] = (vs ++ [0]).map eInt := by simp
   rw [hvm] at G4
   refine ⟨_, _, aF.env ?_, names2, vs ++ [0], x2, l2, S2, v2, by rw [hA]; simp, by simp [hvs], G4, ⟨aS3, m2, kP.ok h'.ok, h.names.le (les _ _ _ _ G4), h.sc, h.recs, h.BO, h.C1⟩, by omega, rfl, rfl⟩
   have hw5 : few r.params := by unfold few; omega
   simp only [go_sem,seval, aQ hw5 hp, hfv, hfn]
  ·have hm0 : p.mode = 0 := (hm p (bJ hp)).resolve_right hmo
   have hA2 : jR (ops c N) (bG ch) (p :: post) (y :: e.l.drop (pre.length + 1)) names' vs x' = (let q := (ops c N).eval (bG ch) y x'; jR (ops c N) (bG ch) post (e.l.drop (pre.length + 1)) names' (vs ++ [q.1]) q.2) := by
    simp only [jR, hmo, if_false, List.headD_cons, List.tail_cons]; rfl
   rw [hA2] at hA
   have lP := L.eval h' hky (by omega)
   have kP := (fG c N).2.1 (bG ch) y x'
   generalize (ops c N).eval (bG ch) y x' = P at hA lP kP
   obtain ⟨n, x2⟩ := P
   simp only at hA lP kP
   simp only [go_sem,seval, hmo, hfv, hO, FT hy, aR, bO]
   rw [← hfv]
   refine tcM lP fun l2 a2 m2 => ?_
   have hl2 := Nat.mul_le_mul_right C kP.left
   simp only [go_sem,seval]
   refine (G.join a2).mS rfl hroom fun v2 h2 G3 => ?_
   obtain ⟨S2, rfl, aS3, G4⟩ := G3.part (kJ a2 G.le)
   simp only [go_sem,seval]
   have hvm : vs.map eInt ++ [[AV.int .i64 n]] = (vs ++ [n]).map eInt := by simp
   rw [hvm] at G4
   refine ⟨_, _, aF.env ?_, names', vs ++ [n], x2, l2, S2, v2, by rw [hA]; simp, by simp [hvs], G4, ⟨aS3, m2, kP.ok h'.ok, h.names.le (les _ _ _ _ G4), h.sc, h.recs, h.BO, h.C1⟩, by omega, rfl, rfl⟩
   have hw5 : few r.params := by unfold few; omega
   simp only [go_sem,seval, aQ hw5 hp, hfv, hfn]
 ·rintro e' g ⟨names', vs, x', l', S, v, hA, hvs, G, h', hl', rfl, rfl⟩
  have hA2 : jR (ops c N) (bG ch) r.params e.l [] [] x = ((names', vs), x') := hA
  rw [hA2] at hR
  simp only at hR
  rw [aCX] at hR
  simp only at hR
  have les0 : ∀ (o : AObj) (S2 : AHeap) v2 rows2, GL 2 1 (s.upd nm o) S2 v2 rows2 → s.le S2 := fun o S2 v2 rows2 G2 => AHeap.le_trans (AHeap.b8 hn1) G2.le
  obtain ⟨cv', ov', f', mm'⟩ := h'.m
  simp only [go_sem,seval, bE]
  refine aM.same ?_
  simp only [go_sem,seval, hfv]
  refine tcM (Z0 h'.a h'.m h'.ok) fun l2 a2 m2 => ?_
  obtain ⟨hk2, hd2⟩ := aBg h'.ok
  by_cases hs : (iV c x').1 = true
  case neg =>
   rw [if_neg hs] at hR
   have hsf := Bool.eq_false_iff.2 hs
   simp only [go_sem,seval, hsf, XH]
   have leS := les0 _ _ _ _ G
   exact .forget (n8 leS a2) ⟨by rw [hR], l2, rfl, kJ a2 leS, by rw [hR]; exact m2⟩
  rw [if_pos hs] at hR
  obtain ⟨hd3, hl3⟩ := hd2 hs
  generalize (iV c x').2 = x2 at hR m2 hk2 hd3 hl3
  have hmul : left c x2 * C + C = left c x' * C := by rw [← hl3, Nat.add_mul, Nat.one_mul]
  simp only [go_sem,seval, hs, OH, wH]
  refine aX r.params (fun pre post e' g => ∃ names2 x3 l3 S3, jQ c r.params vs names' x2 = jQ c post (vs.drop pre.length) names2 x3 ∧ GL 2 1 (s.upd nm (.mp (names2.map eNm))) S3 v (vs.map eInt) ∧ S3.apart l3 ∧ Mem l3 M st c x3 ∧ Kept c x2 x3 ∧ g = S3.join l3 ∧ e' = [(0, hJ (.ip [.ptr (some ⟨M, 0, none⟩)] 0) ch), (5, .ip (aU r) 0), (7, hJ (.ip [.ptr (some ⟨M, 0, none⟩)] 0) ((nm, ⟨[], r.inner⟩) :: rch)), (9, v), (119, .sl (r.params.map c7) false), (120, .int .i64 r.params.length), (121, .int .i64 pre.length)]) (aF.env ?_) ⟨names', x2, l2, S, rfl, G, a2, m2, .refl _ _, rfl, rfl⟩ ?_ ?_
  ·simp only [go_sem,seval, hfv, hfn]
  ·rintro pre p post e' g hp ⟨names2, x3, l3, S3, hLP, G3, a3, m3, k3, rfl, rfl⟩
   have hpl := (gE hp).2
   have hi3 : pre.length < vs.length := by omega
   have hdr : vs.drop pre.length = vs[pre.length] :: vs.drop (pre.length + 1) := List.drop_eq_getElem_cons hi3
   have hat : (vs.map eInt)[pre.length]? = some [.int .i64 vs[pre.length]] := by simp [hi3]
   rw [hdr] at hLP
   generalize vs[pre.length] = n at hLP hat
   have hnmS : S3 nm = some (.mp (names2.map eNm)) := G3.at (aA _ _ _)
   simp only [go_sem,seval, bI hp, aI (aK hp) (bP p), wH, bP, vU]
   have hw5 : few r.params := by unfold few; omega
   by_cases hm0 : p.mode = 0
   case neg =>
    have hL2 : jQ c (p :: post) (n :: vs.drop (pre.length + 1)) names2 x3 = jQ c post (vs.drop (pre.length + 1)) names2 x3 := by
     simp only [jQ, hm0, if_false, List.tail_cons]
    rw [hL2] at hLP
    simp only [go_sem,seval, hm0]
    refine ⟨_, _, aF.env ?_, names2, x3, l3, S3, by rw [hLP]; simp, G3, a3, m3, k3, rfl, rfl⟩
    simp only [go_sem,seval, aQ hw5 hp, hfv, hfn]
   have hL2 : jQ c (p :: post) (n :: vs.drop (pre.length + 1)) names2 x3 = (let q := mI c p.t x3; jQ c post (vs.drop (pre.length + 1)) (sJ p.name ⟨q.1.1, q.1.2, p.t⟩ names2) (rE q.1 n q.2).2) := by
    simp only [jQ, hm0, if_true, List.tail_cons, List.headD_cons]; rfl
   rw [hL2] at hLP
   have lLa := RN a3 m3 (k3.ok hk2) h.recs p.t
   have kLa := ID c p.t x3
   generalize mI c p.t x3 = Q at hLP lLa kLa
   obtain ⟨rr, x4⟩ := Q
   simp only at hLP lLa kLa
   simp only [go_sem,seval, hm0, hfv, gX]
   refine tcM lLa fun l4 a4 m4 => ?_
   simp only [go_sem,seval]
   refine aS fun p1 hp1 => ?_
   have hdel := fun o => fE _ p1 o hp1
   have hk4 := kLa.ok (k3.ok hk2)
   simp only [go_sem,seval, aA, aB, hdel, hfn]
   have hl4nm : l4 nm = none := a4 nm _ hnmS
   refine rS (fP hnmS) (JL p.name ⟨rr.1, rr.2, p.t⟩ names2) rfl ?_
   rw [bZ]
   generalize sJ p.name ⟨rr.1, rr.2, p.t⟩ names2 = names4 at hLP ⊢
   have G4 := G3.aBY (aA _ _ _) (.mp (names4.map eNm))
   rw [aB] at G4
   have aS4 : (S3.upd nm (.mp (names4.map eNm))).apart l4 := gO a4 _ hl4nm
   obtain ⟨cv4, ov4, f4, mm4⟩ := m4
   have hM4 := mm4.hMj aS4
   simp only [go_sem,seval, hM4, G4.aia .i64 hat]
   refine tcM (RJ aS4 ⟨cv4, ov4, f4, mm4⟩ hk4 rr n) fun l5 a5 m5 => ?_
   obtain ⟨cv5, ov5, f5, mm5⟩ := m5
   have hM5 := mm5.hMj a5
   simp only [go_sem,seval, hM5]
   refine ⟨_, _, aF.env ?_, names4, (rE rr n x4).2, l5, S3.upd nm (.mp (names4.map eNm)), by rw [hLP]; simp, G4, a5, ⟨cv5, ov5, f5, mm5⟩, (k3.trans kLa).trans (BK c rr n x4), rfl, rfl⟩
   simp only [go_sem,seval, aQ hw5 hp, hfv, hfn]
  ·rintro e' g ⟨names2, x3, l3, S3, hLP, G3, a3, m3, k3, rfl, rfl⟩
   have hLP2 : jQ c r.params vs names' x2 = (names2, x3) := hLP
   rw [aCZ, hLP2] at hR
   simp only at hR
   simp only [go_sem,seval, bE]
   refine aM.same ?_
   simp only [go_sem,seval, DS, hfn]
   have hnmS : S3 nm = some (.mp (names2.map eNm)) := G3.at (aA _ _ _)
   have hS3 : S3.upd nm (.mp (names2.map eNm)) = S3 := dQ hnmS
   have hk3 := k3.ok hk2
   have fl := NW (nm := nm) (s := S3) (M := M) (st := st) h.recs r.vars g2 false rch ⟨[], r.inner⟩ names2 (l := l3) (x := x3) (by rw [hS3]; exact a3) m3 hk3
   rw [hS3, hfn] at fl
   have kV : Kept c x3 (gU c r.vars names2 x3).2 := (IC c).gU r.vars names2 x3
   generalize gU c r.vars names2 x3 = V at hR fl kV
   obtain ⟨names5, x5⟩ := V
   simp only at hR fl kV
   refine aW fl fun w g hg => ?_
   obtain ⟨rfl, l5, rfl, a5, m5⟩ := hg
   obtain ⟨cv5, ov5, f5, mm5⟩ := m5
   have m5 : Mem l5 M st c x5 := ⟨cv5, ov5, f5, mm5⟩
   have hM5 := mm5.hMj a5
   have leS : s.le (S3.upd nm (.mp (names5.map eNm))) := by
    have G5 := G3.aBY (aA _ _ _) (.mp (names5.map eNm))
    rw [aB] at G5
    exact les0 _ _ _ _ G5
   have hrch : Ch s rch := by have := h.names; rw [hch] at this; exact this.sub
   have k5 := k3.trans kV
   have H5 : jA c C M st (S3.upd nm (.mp (names5.map eNm))) l5 ((nm, ⟨names5, r.inner⟩) :: rch) x5 := ⟨a5, m5, k5.ok hk2, fun q hq => by
    rcases List.mem_cons.1 hq with rfl | hq
    ·exact aA _ _ _
    ·exact leS _ _ (hrch q hq), ⟨g3, hi, hsc⟩, h.recs, h.BO, h.C1⟩
   have hl5 := Nat.mul_le_mul_right C k5.left
   have hC1 := h.C1
   have lr := L.run (fl := false) H5 g4 hb (by omega)
   have kr := (fG c N).2.2.2.1 (⟨names5, r.inner⟩ :: bG rch) r.body x5
   change R = ((((ops c N).run (⟨names5, r.inner⟩ :: bG rch) r.body x5).1.1, _) : Int × MSt) at hR
   change aD _ _ _ _ (To c M st _ (.tuple [.int .i64 ((ops c N).run (⟨names5, r.inner⟩ :: bG rch) r.body x5).1.1, .bool ((ops c N).run (⟨names5, r.inner⟩ :: bG rch) r.body x5).1.2]) ((ops c N).run (⟨names5, r.inner⟩ :: bG rch) r.body x5).2) at lr
   generalize (ops c N).run (⟨names5, r.inner⟩ :: bG rch) r.body x5 = Q at hR lr kr
   obtain ⟨⟨n, bk⟩, x6⟩ := Q
   simp only at hR lr kr
   simp only [go_sem,seval, hfv, hfn, DQ]
   refine tcM lr fun l6 a6 m6 => ?_
   have hk6 := kr.ok H5.ok
   have hd6 : x6.deep = x2.deep := by rw [kr.deep, k5.deep]
   simp only [go_sem,seval, XI]
   delta MG.c0
   obtain ⟨cv6, ov6, f6, mm6⟩ := m6
   have hM6 := mm6.hMj a6
   simp only [go_sem,seval, hM6]
   refine tcM (aC7 a6 ⟨cv6, ov6, f6, mm6⟩ x.cells.length) fun l7 a7 m7 => ?_
   obtain ⟨cv7, ov7, f7, mm7⟩ := m7
   have hM7 := mm7.hMj a7
   have hs7 := kX a7 mm7.hM
   have hd7 : IntKind.i64.wrap (x6.deep - 1) = x6.deep - 1 := by
    have := hk6.deep
    exact wrap64 (by omega) (by omega)
   simp only [go_sem,seval, hM7, hd7, LM]
   rw [eL _ _ hs7]
   have mm8 := mm7.bX (y := { x6 with cells := x6.cells.take x.cells.length, deep := x6.deep - 1 }) (f' := f7) rfl rfl
   subst hR
   exact .forget (n8 leS (dH a7 _ hs7)) ⟨rfl, _, rfl, kJ (dH a7 _ hs7) leS, cv7, ov7, f7, mm8⟩
theorem aFi [GI] {c : Cfg} {C M st : Nat} : ∀ N, Lv c C M st N := by
 intro N
 induction N using Nat.strongRecOn with
 | _ N ih =>
  cases N with
  | zero => exact ⟨fun _ _ h => by omega, fun _ _ h => by omega, fun _ _ _ h => by omega, fun {s l ch x b fl} _ _ _ h => by cases b <;> simp only [aZ.wt] at h <;> omega, fun {s l ch x y} _ _ h => by have := y.OR; omega⟩
  | succ N =>
   have L : ∀ n, n ≤ N → Lv c C M st n := fun n hn => ih n (by omega)
   have LN := L N (Nat.le_refl _)
   exact ⟨fun h he hn => ZS LN h he hn, fun h he hn => aBN LN h he hn, fun h he ho hn => aBQ LN h he ho hn, fun h hw hb hn => aC4 L h hw hb hn, fun h hy hn => aAr L h hy hn⟩
end Pg

namespace Pg
open Go Go.Proofs.Tryz
set_option maxRecDepth 100000
set_option maxHeartbeats 4000000
noncomputable def F72.c0 : aT prog 6 [] [] f72 := ⟨_, by with_unfolding_all (conv => lhs; reduce)⟩
theorem F72.calls [GI] : aJ prog 72 6 F72.c0.1 [.tmp 2] := aG _ _ _ func72 ntmps72 F72.c0.2 (by kernel_rfl)
noncomputable def F27.c0 : aT prog 15 [] [] f27 := ⟨_, by with_unfolding_all (conv => lhs; reduce)⟩
theorem F27.calls [GI] : aJ prog 27 15 F27.c0.1 [.tmp 6] := aG _ _ _ func27 ntmps27 F27.c0.2 (by kernel_rfl)
noncomputable def F11.c0 : aT prog 55 [3,30,36] [] f11 := ⟨_, by with_unfolding_all (conv => lhs; reduce)⟩
theorem F11.calls [GI] : aJ prog 11 55 F11.c0.1 [.cell 6 (some 3)] := aG _ _ _ func11 ntmps11 F11.c0.2 (by kernel_rfl)
end Pg
