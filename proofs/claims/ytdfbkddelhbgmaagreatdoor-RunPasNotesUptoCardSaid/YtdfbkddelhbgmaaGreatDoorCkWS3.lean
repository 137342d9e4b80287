import Derived.Test.YtdfbkddelhbgmaaGreatDoorTreeSS3
import Derived.Test.YtdfbkddelhbgmaaGreatDoorCodeAS3
import Derived.Test.YtdfbkddelhbgmaaGreatDoorCheckSpecJS3
set_option linter.all false
set_option maxHeartbeats 4000000
set_option maxRecDepth 4000
namespace Pg
open Go Go.Proofs.Tryz
def dM : Thing → List AV
 | .var t => [.int .i64 0, .ptr none, .ptr none, .int .i64 t.kind, .int .i64 t.size, .str t.name]
 | .rcd r => [.int .i64 1, .ip (eB r) 0, .ptr none, .int .i64 0, .int .i64 0, .str ⟨#[]⟩]
 | .bU r => [.int .i64 2, .ptr none, .ip (aU r) 0, .int .i64 0, .int .i64 0, .str ⟨#[]⟩]
theorem mX (x : Thing) : (dM x).length = 6 := by cases x <;> rfl
theorem zH (x : Thing) : List.take 6 (dM x) = dM x := List.take_of_length_le (by rw [mX]; exact Nat.le_refl _)
def kI (p : ByteArray × Thing) : AV × AV := (.str p.1, .agg (dM p.2))
theorem HL (name : ByteArray) : ∀ f : Scope, s9 [2] (.str name) (f.map kI) = some ((look f name).map fun x => .agg (dM x))
 | [] => rfl
 | (n, y) :: f => by
  have hk : oI [2] (.str name) (.str n) = some (decide (name = n)) := rfl
  simp only [List.map_cons, kI, s9, hk, look, List.find?_cons]
  by_cases h : name = n
  ·simp [h]
  ·simp only [h, decide_false]
   exact HL name f
theorem B9 (name : ByteArray) (x : Thing) : ∀ f : Scope, tR [2] (.str name) (.agg (dM x)) (f.map kI) = some ((q7 name x f).map kI)
 | [] => rfl
 | (n, y) :: f => by
  have hk : oI [2] (.str name) (.str n) = some (decide (name = n)) := rfl
  simp only [List.map_cons, kI, tR, hk, q7]
  by_cases h : name = n
  ·simp [h, kI]
  ·simp only [h, decide_false, if_false]
   rw [B9 name x f]; simp [kI]
def eS (h : AHeap) : AV → List Scope → List Nat → Prop
 | sp, [], bs => sp = .ptr none ∧ bs = []
 | sp, f :: fs, bs => ∃ m par bs', bs = m :: bs' ∧ sp = .ip [par, .map (some m)] 0 ∧ h m = some (.mp (f.map kI)) ∧ eS h par fs bs'
theorem eS.of_le {h g : AHeap} (le : h.le g) : ∀ {fs : List Scope} {sp : AV} {bs : List Nat}, eS h sp fs bs → eS g sp fs bs
 | [], _, _, c => c
 | f :: fs, _, _, ⟨m, par, bs', h1, h2, h4, h5⟩ => ⟨m, par, bs', h1, h2, le _ _ h4, h5.of_le le⟩
theorem eS.upd {h : AHeap} {p : Nat} (o : AObj) : ∀ {fs : List Scope} {sp : AV} {bs : List Nat}, p ∉ bs → eS h sp fs bs → eS (h.upd p o) sp fs bs
 | [], _, _, _, c => c
 | f :: fs, _, _, hp, ⟨m, par, bs', h1, h2, h4, h5⟩ => by
  subst h1
  simp only [List.mem_cons, not_or] at hp
  exact ⟨m, par, bs', rfl, h2, by rw [aC _ _ _ (Ne.symm hp.1)]; exact h4, h5.upd o hp.2⟩
theorem eS.mem {h : AHeap} : ∀ {fs : List Scope} {sp : AV} {bs : List Nat}, eS h sp fs bs → ∀ b ∈ bs, h b ≠ none
 | [], _, _, ⟨_, h2⟩, b, hb => by subst h2; simp at hb
 | f :: fs, _, _, ⟨m, par, bs', h1, h2, h4, h5⟩, b, hb => by
  subst h1
  simp only [List.mem_cons] at hb
  rcases hb with rfl | hb
  ·rw [h4]; simp
  ·exact h5.mem b hb
theorem eS.fresh {h : AHeap} {fs : List Scope} {sp : AV} {bs : List Nat} (c : eS h sp fs bs) {p : Nat} (hp : h p = none) : p ∉ bs := fun hh => c.mem p hh hp
theorem eS.top {h : AHeap} {fs : List Scope} {sp : AV} {bs : List Nat} {f : Scope} (c : eS h sp (f :: fs) bs) : ∃ m par, sp = .ip [par, .map (some m)] 0 ∧ h m = some (.mp (f.map kI)) := by
 obtain ⟨m, par, bs', h1, h2, h4, h5⟩ := c
 exact ⟨m, par, h2, h4⟩
theorem XP {α : Type} {a b c d e f : α} {l : List α} (h : l.length = 6) : bM [a, b, c, d, e, f] 0 l = l := by
 simp [bM, h]
theorem find_spec [GI] {h : AHeap} {sp : AV} {fs : List Scope} {bs : List Nat} (c : eS h sp fs bs) (name : ByteArray) :
  aD prog 95 [sp, .str name] h (fun v g => v = .tuple [.agg (match bD fs name with | some x => dM x | none => [.int .i64 0, .ptr none, .ptr none, .int .i64 0, .int .i64 0, .str ⟨#[]⟩]), .bool (bD fs name).isSome] ∧ g = h) := by
 refine F95.calls (by simp) ?_
 delta F95.c0
 simp only [go_sem,seval]
 refine aS fun p hp => ?_
 simp only [go_sem,seval]
 generalize hg : h.upd p _ = g
 have c' : eS g sp fs bs := by rw [← hg]; exact c.of_le (r9 hp)
 refine qE (fun n e k => ∃ fs' sp' bs', fs'.length = n ∧ eS g sp' fs' bs' ∧ bD fs name = bD fs' name ∧ k = g ∧ e = [(1, .str name), (4, .ptr (some ⟨p, 0, none⟩)), (6, sp')]) fs.length (aF.env ?_) ⟨fs, sp, bs, rfl, c', rfl, rfl, rfl⟩ ?_
 ·simp only [go_sem,seval]
 ·rintro n e k ⟨fs', sp', bs', hn, c2, hf, rfl, rfl⟩
  cases fs' with
  | nil =>
   obtain ⟨rfl, rfl⟩ := c2
   simp only [go_sem,seval]
   refine aM.same ?_
   subst hg
   simp only [go_sem,seval, aB]
   refine .forget (r9 hp) ⟨?_, rfl⟩
   rw [hf]; rfl
  | cons f fs' =>
   obtain ⟨m, par, bs', rfl, rfl, h4, h5⟩ := c2
   simp only [go_sem,seval, h4, tS, pU, mM, HL]
   cases hl : look f name with
   | some x =>
    subst hg
    simp only [go_sem,seval, mX, zH, XP (mX x), aB]
    refine aM.same ?_
    simp only [go_sem,seval, mX, zH, aB]
    refine .forget (r9 hp) ⟨?_, rfl⟩
    rw [hf]; simp [bD, hl]
   | none =>
    simp only [go_sem,seval]
    refine yL.to fs'.length _ _ (by simp at hn; omega) (aF.env ?_) ⟨fs', par, bs', rfl, h5, ?_, rfl, rfl⟩
    ·simp only [go_sem,seval]
    ·rw [hf]; simp [bD, hl]
def bW (sp : AV) (s : CS) (inp : AV) : AObj := .blk [sp, .int .i64 s.item, .int .i64 s.bad, inp] 4 122
theorem cL [GI] {h : AHeap} {c : Nat} {sp inp : AV} {s : CS} (hc : h c = some (bW sp s inp)) (e : Int) : aD prog 59 [.ptr (some ⟨c, 0, none⟩), .int .i64 e] h (fun v g => v = .tuple [] ∧ g = h.upd c (bW sp (s.fail e) inp)) := by
 unfold bW at hc
 refine F59.calls (by simp) ?_
 delta F59.c0
 simp only [go_sem,seval, hc]
 by_cases hb : s.bad = 0
 ·simp only [go_sem,seval, hb, hc]
  exact .same ⟨rfl, by simp [CS.fail, hb, bW]⟩
 ·simp only [go_sem,seval, hb]
  refine .same ⟨rfl, ?_⟩
  rw [dQ (by rw [hc]; simp [CS.fail, hb, bW])]
theorem yK [GI] {h : AHeap} {c : Nat} {sp inp : AV} {s : CS} (hc : h c = some (bW sp s inp)) : aD prog 56 [.ptr (some ⟨c, 0, none⟩)] h (fun v g => v = .bool (decide (s.bad = 0)) ∧ g = h.upd c (bW sp (if s.bad = 0 then s.step else s) inp)) := by
 unfold bW at hc
 refine F56.calls (by simp) ?_
 delta F56.c0
 simp only [go_sem,seval, hc]
 by_cases hb : s.bad = 0
 ·simp only [go_sem,seval, hb, hc]
  exact .same ⟨rfl, by simp [CS.step, hb, bW]⟩
 ·simp only [go_sem,seval, hb]
  refine .same ⟨rfl, ?_⟩
  rw [dQ (by rw [hc]; simp [hb, bW])]
theorem eS.cells {h : AHeap} {fs : List Scope} {sp : AV} {bs : List Nat} (c : eS h sp fs bs) : sp.cells? = some [sp] := by
 cases fs with
 | nil => obtain ⟨rfl, _⟩ := c; rfl
 | cons f fs => obtain ⟨m, par, bs', _, rfl, _⟩ := c; rfl
theorem uC [GI] {h : AHeap} {sp : AV} (hs : sp.cells? = some [sp]) : aD prog 55 [sp] h (fun v g => ∃ m, h m = none ∧ v = .ip [sp, .map (some m)] 0 ∧ g = h.upd m (.mp [])) := by
 refine F55.calls (by simp) ?_
 delta F55.c0
 simp only [go_sem,seval]
 refine aS fun m hm => ?_
 simp only [go_sem,seval, hs]
 exact .same ⟨m, hm, rfl, rfl⟩
theorem CS.aCN (s : CS) (e : Int) (h : s.bad ≠ 0) : s.fail e = s := by simp [CS.fail, h]
theorem aCG [GI] {h : AHeap} {c : Nat} {sp inp : AV} {s : CS} {f : Scope} {fs : List Scope} {m : Nat} {bs' : List Nat} (hc : h c = some (bW sp s inp)) (ch : eS h sp (f :: fs) (m :: bs')) (hn : c ∉ m :: bs') (hd : (m :: bs').Nodup) (name : ByteArray) (x : Thing) :
  aD prog 57 [.ptr (some ⟨c, 0, none⟩), .str name, .agg (dM x)] h (fun v g => v = .tuple [] ∧ g = (h.upd m (.mp (((cR (f :: fs) s name x).1.headD []).map kI))).upd c (bW sp (cR (f :: fs) s name x).2 inp) ∧ eS g sp (cR (f :: fs) s name x).1 (m :: bs')) := by
 obtain ⟨m', par, bs2, hb, rfl, hm, hch⟩ := ch
 obtain ⟨rfl, rfl⟩ := List.cons.inj hb
 have ch : eS h (.ip [par, .map (some m)] 0) (f :: fs) (m :: bs') := ⟨m, par, bs', rfl, rfl, hm, hch⟩
 simp only [List.mem_cons, not_or, List.nodup_cons] at hn hd
 have hc' := hc
 unfold bW at hc'
 refine F57.calls (by simp) ?_
 delta F57.c0
 simp only [go_sem,seval, hc']
 refine aW (find_spec ch name) (fun v g ⟨hv, hg⟩ => ?_)
 subst hv hg
 simp only [go_sem,seval]
 have key : ∀ y : Thing, (abx (some 6) (.agg (dM y)) = some (.ip (dM y) 0)) := fun y => by simp [abx, AV.cells?, mX]
 cases hf : bD (f :: fs) name with
 | some y =>
  simp only [go_sem,seval, mX]
  refine aW (cL hc 12) (fun v k ⟨hv, hk⟩ => ?_)
  subst hv hk
  simp only [go_sem,seval]
  refine .same ⟨rfl, ?_, ?_⟩
  ·simp only [cR, hf, List.headD_cons]
   rw [dQ hm]
  ·simp only [cR, hf]
   exact ch.upd _ (by simp [hn])
 | none =>
  simp only [go_sem,seval, hc', mX, zH]
  refine rS hm (B9 name x f) rfl ?_
  simp only [go_sem,seval, hc', aC _ _ _ hn.1]
  refine .same ⟨rfl, ?_, ?_⟩
  ·simp only [cR, hf, j8, List.headD_cons]
   exact (dQ (by rw [aC _ _ _ hn.1]; exact hc)).symm
  ·simp only [cR, hf, j8]
   exact ⟨m, par, bs', rfl, rfl, aA _ _ _, hch.upd _ hd.1⟩
theorem HQ [GI] {h : AHeap} {c : Nat} {sp inp : AV} {s : CS} {fs : List Scope} {bs : List Nat} (hc : h c = some (bW sp s inp)) (ch : eS h sp fs bs) (t : Typ) :
  aD prog 98 [.ptr (some ⟨c, 0, none⟩), .agg (bV t)] h (fun v g => v = .tuple [] ∧ g = h.upd c (bW sp (iW fs s t) inp)) := by
 have hc' := hc
 unfold bW at hc'
 refine F98.calls (by simp) ?_
 delta F98.c0
 simp only [go_sem,seval]
 by_cases hk : t.kind = 4
 ·simp only [go_sem,seval, hk, hc']
  refine aW (find_spec ch t.name) (fun v g ⟨hv, hg⟩ => ?_)
  subst hv hg
  simp only [go_sem,seval, hc']
  refine aS fun q hq => ?_
  cases hf : bD fs t.name with
  | none =>
   simp only [go_sem,seval, hc', fE _ _ _ hq, aB, aC _ _ _ (show c ≠ q by intro hh; subst hh; rw [hc] at hq; cases hq)]
   refine aW (cL hc 13) (fun v k ⟨hv, hk⟩ => ?_)
   subst hv hk
   simp only [go_sem,seval]
   exact .same ⟨rfl, by simp [iW, hk, hf]⟩
  | some y =>
   cases y with
   | rcd r =>
    simp only [go_sem,seval, dM, hc', fE _ _ _ hq, aB, aC _ _ _ (show c ≠ q by intro hh; subst hh; rw [hc] at hq; cases hq)]
    exact .same ⟨rfl, by simp [iW, hk, hf]; rw [dQ hc]⟩
   | var t' =>
    simp only [go_sem,seval, dM, hc', fE _ _ _ hq, aB, aC _ _ _ (show c ≠ q by intro hh; subst hh; rw [hc] at hq; cases hq)]
    refine aW (cL hc 13) (fun v k ⟨hv, hk⟩ => ?_)
    subst hv hk
    simp only [go_sem,seval]
    exact .same ⟨rfl, by simp [iW, hk, hf]⟩
   | bU r =>
    simp only [go_sem,seval, dM, hc', fE _ _ _ hq, aB, aC _ _ _ (show c ≠ q by intro hh; subst hh; rw [hc] at hq; cases hq)]
    refine aW (cL hc 13) (fun v k ⟨hv, hk⟩ => ?_)
    subst hv hk
    simp only [go_sem,seval]
    exact .same ⟨rfl, by simp [iW, hk, hf]⟩
 ·simp only [go_sem,seval, hk]
  exact .same ⟨rfl, by simp [iW, hk]; rw [dQ hc]⟩
end Pg
namespace Pg
open Go Go.Proofs.Tryz
structure eN (h : AHeap) (c : Nat) (sp inp : AV) (s : CS) (fs : List Scope) (bs : List Nat) : Prop where
 hc : h c = some (bW sp s inp)
 ch : eS h sp fs bs
 hn : c ∉ bs
theorem eN.next {h : AHeap} {c : Nat} {sp inp : AV} {s : CS} {fs : List Scope} {bs : List Nat} (k : eN h c sp inp s fs bs) (s' : CS) : eN (h.upd c (bW sp s' inp)) c sp inp s' fs bs := ⟨aA _ _ _, k.ch.upd _ k.hn, k.hn⟩
theorem eN.ne {h : AHeap} {c : Nat} {sp inp : AV} {s : CS} {fs : List Scope} {bs : List Nat} (k : eN h c sp inp s fs bs) {p : Nat} (hp : h p = none) : c ≠ p := by intro hh; subst hh; rw [k.hc] at hp; cases hp
theorem eN.fresh {h : AHeap} {c : Nat} {sp inp : AV} {s : CS} {fs : List Scope} {bs : List Nat} (k : eN h c sp inp s fs bs) {p : Nat} (hp : h p = none) (o : AObj) : eN (h.upd p o) c sp inp s fs bs :=
 ⟨by rw [aC _ _ _ (k.ne hp)]; exact k.hc, k.ch.upd _ (k.ch.fresh hp), k.hn⟩
theorem eN.cell {h : AHeap} {c : Nat} {sp inp : AV} {s : CS} {fs : List Scope} {bs : List Nat} (k : eN h c sp inp s fs bs) : h c = some (.blk [sp, .int .i64 s.item, .int .i64 s.bad, inp] 4 122) := k.hc
def iZ [GI] (f : Nat) (args : List AV) (h : AHeap) (c : Nat) (sp inp : AV) (v : AV) (s : CS) : Prop := aD prog f args h (fun r g => r = v ∧ g = h.upd c (bW sp s inp))
theorem qY [GI] {h : AHeap} {c : Nat} {sp inp : AV} {s : CS} {fs : List Scope} {bs : List Nat} (k : eN h c sp inp s fs bs) (name : ByteArray) :
  iZ 144 [.ptr (some ⟨c, 0, none⟩), .str name] h c sp inp (.agg (bV (bK fs s name).1)) (bK fs s name).2 := by
 unfold iZ
 have hcl := k.cell
 refine SY.calls (by simp) ?_
 delta SY.c0
 simp only [go_sem,seval]
 refine aS fun p hp => ?_
 have hne := k.ne hp
 have hne' := hne.symm
 simp only [go_sem,seval, hcl, aC _ _ _ hne]
 refine aW (find_spec (k.fresh hp _).ch name) (fun v g ⟨hv, hg⟩ => ?_)
 subst hv hg
 have fin : ∀ t s', (t, s') = bK fs s name → eE (fun r g => r = .agg (bV (bK fs s name).1) ∧ g = h.upd c (bW sp (bK fs s name).2 inp)) (.agg [.int .i64 t.kind, .int .i64 t.size, .str t.name]) ((h.upd p (.blk [.int .i64 t.kind, .int .i64 t.size, .str t.name] 3 51)).upd c (bW sp s' inp)) := by
  intro t s' e
  rw [← e]
  exact .forget (oH (r9 hp) _ _) ⟨rfl, rfl⟩
 cases hf : bD fs name with
 | none =>
  simp only [go_sem,seval]
  refine aW (cL (k.fresh hp _).hc 13) (fun v g ⟨hv, hg⟩ => ?_)
  subst hv hg
  simp only [go_sem,seval, aC _ _ _ hne', bH _ _ _ hne, aB]
  exact fin noTyp _ (by simp [bK, hf])
 | some y =>
  cases y with
  | var t =>
   simp only [go_sem,seval, dM, aC _ _ _ hne', aB]
   have := fin t s (by simp [bK, hf])
   rwa [dQ (h := h.upd p _) (b := c) (by rw [aC _ _ _ hne]; exact k.hc)] at this
  | rcd r =>
   simp only [go_sem,seval, dM]
   refine aW (cL (k.fresh hp _).hc 13) (fun v g ⟨hv, hg⟩ => ?_)
   subst hv hg
   simp only [go_sem,seval, aC _ _ _ hne', bH _ _ _ hne, aB]
   exact fin noTyp _ (by simp [bK, hf])
  | bU r =>
   simp only [go_sem,seval, dM]
   refine aW (cL (k.fresh hp _).hc 13) (fun v g ⟨hv, hg⟩ => ?_)
   subst hv hg
   simp only [go_sem,seval, aC _ _ _ hne', bH _ _ _ hne, aB]
   exact fin noTyp _ (by simp [bK, hf])
theorem eN.self {h : AHeap} {c : Nat} {sp inp : AV} {s : CS} {fs : List Scope} {bs : List Nat} (k : eN h c sp inp s fs bs) : h.upd c (bW sp s inp) = h := dQ k.hc
theorem Y3 [GI] {h : AHeap} {c : Nat} {sp inp : AV} {s : CS} {fs : List Scope} {bs : List Nat} (k : eN h c sp inp s fs bs) (t : Typ) (name : ByteArray) (hw : ∀ r, bD fs t.name = some (.rcd r) → few r.fields) :
  iZ 175 [.ptr (some ⟨c, 0, none⟩), .agg (bV t), .str name] h c sp inp (.int .i64 (dV fs s t name).1) (dV fs s t name).2 := by
 unfold iZ
 have hcl := k.cell
 refine R9.calls (by simp) ?_
 delta R9.c0
 simp only [go_sem,seval]
 by_cases hk : t.kind = 4
 ·simp only [go_sem,seval, hk, hcl]
  refine tcE (find_spec k.ch t.name) ?_
  simp only [go_sem,seval, hcl]
  refine aS fun q hq => ?_
  have hne := k.ne hq
  cases hf : bD fs t.name with
  | none =>
   simp only [go_sem,seval, hcl, aC _ _ _ hne, fE _ _ _ hq, aB]
   refine tcE (cL k.hc 13) ?_
   simp only [go_sem,seval]
   exact .same ⟨by simp [dV, hk, hf], by simp [dV, hk, hf]⟩
  | some y =>
   cases y with
   | var t' =>
    simp only [go_sem,seval, dM, hcl, aC _ _ _ hne, fE _ _ _ hq, aB]
    refine tcE (cL k.hc 13) ?_
    simp only [go_sem,seval]
    exact .same ⟨by simp [dV, hk, hf], by simp [dV, hk, hf]⟩
   | bU r =>
    simp only [go_sem,seval, dM, hcl, aC _ _ _ hne, fE _ _ _ hq, aB]
    refine tcE (cL k.hc 13) ?_
    simp only [go_sem,seval]
    exact .same ⟨by simp [dV, hk, hf], by simp [dV, hk, hf]⟩
   | rcd r =>
    have hw := hw r hf
    simp only [go_sem,seval, dM, hcl, aC _ _ _ hne, fE _ _ _ hq, aB]
    refine aX r.fields (fun pre post e g => (∀ f ∈ pre, ¬ f.name = name) ∧ g = h ∧ e = [(0, .ptr (some ⟨c, 0, none⟩)), (2, .str name), (6, .int .i64 0), (36, .sl (r.fields.map eFld) false), (37, .int .i64 r.fields.length), (38, .int .i64 pre.length)]) (aF.env ?_) ⟨by simp, rfl, rfl⟩ ?_ ?_
    ·simp only [go_sem,seval]
    ·rintro pre x post e g hl ⟨hp, rfl, rfl⟩
     simp only [go_sem,seval, bI hl, aI (aK hl) (eC x)]
     by_cases hx : x.name = name
     ·simp only [go_sem,seval, hx]
      refine aM.same ?_
      simp only [go_sem,seval]
      have : r.fields.find? (fun f => decide (f.name = name)) = some x := by
       rw [hl, List.find?_append, List.find?_eq_none.2 (by simpa using hp)]
       simp [hx]
      exact .same ⟨by simp [dV, hk, hf, this], by simp [dV, hk, hf, this, k.self]⟩
     ·simp only [go_sem,seval, hx]
      refine ⟨_, _, aF.env ?_, ?_, rfl, rfl⟩
      ·simp only [go_sem,seval, aQ hw hl]
      ·intro y hy
       rcases List.mem_append.1 hy with hy | hy
       ·exact hp y hy
       ·simp at hy; subst hy; exact hx
    ·rintro e g ⟨hp, rfl, rfl⟩
     simp only [go_sem,seval, bE]
     refine aM.same ?_
     simp only [go_sem,seval]
     refine tcE (cL k.hc 13) ?_
     simp only [go_sem,seval]
     have : r.fields.find? (fun f => decide (f.name = name)) = none := List.find?_eq_none.2 (by simpa using hp)
     exact .same ⟨by simp [dV, hk, hf, this], by simp [dV, hk, hf, this]⟩
 ·simp only [go_sem,seval, hk]
  refine tcE (cL k.hc 14) ?_
  simp only [go_sem,seval]
  exact .same ⟨by simp [dV, hk], by simp [dV, hk]⟩
def KO (l : List Int) : List (List AV) := l.map fun n => [.int .i64 n]
theorem VE [GI] (h : AHeap) (l : List Int) (hw : few l) (full : Bool) (n : Int) : aD prog 202 [.sl (KO l) full, .int .i64 n] h (fun v g => v = .int .i64 (match l.findIdx? (fun x => decide (n = x)) with | some i => i | none => -1) ∧ g = h) := by
 unfold KO
 refine RU.calls (by simp) ?_
 delta RU.c0
 simp only [go_sem,seval]
 refine aX l (fun pre post e g => (∀ x ∈ pre, ¬ n = x) ∧ g = h ∧ e = [(0, .sl (l.map fun n => [.int .i64 n]) full), (1, .int .i64 n), (7, .int .i64 l.length), (8, .int .i64 pre.length)]) (aF.env ?_) ⟨by simp, rfl, rfl⟩ ?_ ?_
 ·simp only [go_sem,seval]
 ·rintro pre x post e g hl ⟨hp, rfl, rfl⟩
  simp only [go_sem,seval, bI hl, aI (aK (e := fun n => [AV.int .i64 n]) hl) (show _ = 1 from rfl)]
  by_cases hx : n = x
  ·subst hx
   simp only [go_sem,seval]
   refine aM.same ?_
   simp only [go_sem,seval]
   have : l.findIdx? (fun x => decide (n = x)) = some pre.length := by
    subst hl
    rw [List.findIdx?_append, List.findIdx?_eq_none_iff.2 (by simpa using hp)]
    simp [List.findIdx?_cons]
   refine .same ⟨?_, rfl⟩
   rw [this]
  ·simp only [go_sem,seval, hx]
   refine ⟨_, _, aF.env ?_, ?_, rfl, rfl⟩
   ·simp only [go_sem,seval, aQ hw hl]
   ·intro y hy
    rcases List.mem_append.1 hy with hy | hy
    ·exact hp y hy
    ·simp at hy; subst hy; exact hx
 ·rintro e g ⟨hp, rfl, rfl⟩
  simp only [go_sem,seval, bE]
  refine aM.same ?_
  simp only [go_sem,seval]
  refine .same ⟨?_, rfl⟩
  rw [List.findIdx?_eq_none_iff.2 (by simpa using hp)]
theorem MH [GI] (h : AHeap) (l : List Int) (hw : few l) (full : Bool) (n : Int) : aD prog 192 [.sl (KO l) full, .int .i64 n] h (fun v g => v = .bool (decide (n ∈ l)) ∧ g = h) := by
 refine RX.calls (by simp) ?_
 delta RX.c0
 simp only [go_sem,seval]
 refine aW (VE h l hw full n) (fun v k ⟨hv, hk⟩ => ?_)
 generalize hm : (match l.findIdx? (fun x => decide (n = x)) with | some i => (i : Int) | none => -1) = m at hv
 subst hv hk
 simp only [go_sem,seval]
 refine .same ⟨?_, rfl⟩
 congr 1
 subst hm
 cases hi : l.findIdx? (fun x => decide (n = x)) with
 | none =>
  have := List.findIdx?_eq_none_iff.1 hi
  have hn : ¬ n ∈ l := fun hh => by have := this n hh; simp at this
  simp [hn]
 | some i =>
  obtain ⟨h1, h2, _⟩ := List.findIdx?_eq_some_iff_getElem.1 hi
  have : n ∈ l := by rw [of_decide_eq_true h2]; exact List.getElem_mem h1
  simp [this]
end Pg
namespace Pg
open Go Go.Proofs.Tryz
structure tD (fs : List Scope) : Prop where
 rcd : ∀ name r, bD fs name = some (.rcd r) → few r.fields
 bU : ∀ name r, bD fs name = some (.bU r) → few r.params
def nC [GI] (x : Expr) (stmt : Bool) : Prop := ∀ {h : AHeap} {c : Nat} {sp inp : AV} {s : CS} {fs : List Scope} {bs : List Nat}, eN h c sp inp s fs bs → tD fs →
 iZ 143 [.ptr (some ⟨c, 0, none⟩), .agg (aO x), .bool stmt] h c sp inp (.agg (bV (bY fs s x stmt).1)) (bY fs s x stmt).2
theorem cX {α : Type} {l : List α} (h : l.length ≤ 1000) : few l := by unfold few; omega
section
variable {h : AHeap} {c : Nat} {sp inp : AV} {s : CS} {fs : List Scope} {bs : List Nat}
theorem rC [GI] (x : Expr) (hx : nC x false) (k : eN h c sp inp s fs bs) (fw : tD fs) (kinds : List Int) (hk : few kinds) (full : Bool) :
  iZ 174 [.ptr (some ⟨c, 0, none⟩), .agg (aO x), .sl (KO kinds) full] h c sp inp (.int .i64 (c8 kinds (bY fs s x false)).1) (c8 kinds (bY fs s x false)).2 := by
 unfold iZ
 have kn := k.next (bY fs s x false).2
 refine SA.calls (by simp) ?_
 delta SA.c0
 simp only [go_sem,seval]
 refine tcE (hx k fw) ?_
 simp only [go_sem,seval]
 repeat' (refine cP (fun hg => ?_) (fun hg => ?_) <;> simp only [go_sem,seval, hg, Bool.not_true, Bool.not_false])
 ·refine tcE (MH _ kinds hk full _) ?_
  simp only [go_sem,seval]
  by_cases hm : (bY fs s x false).1.kind ∈ kinds
  ·simp only [go_sem,seval, hm]
   refine .same ⟨rfl, ?_⟩
   have : ¬ 0 < (bY fs s x false).1.size := of_decide_eq_false hg
   simp [c8, this, hm]
  ·simp only [go_sem,seval, hm]
   refine tcE (cL kn.hc 14) ?_
   simp only [go_sem,seval, aB]
   refine .same ⟨rfl, ?_⟩
   simp [c8, hm]
 ·refine tcE (cL kn.hc 14) ?_
  simp only [go_sem,seval, aB]
  refine .same ⟨rfl, ?_⟩
  have : 0 < (bY fs s x false).1.size := of_decide_eq_true hg
  simp [c8, this]
theorem oW [GI] (l : List Expr) (hl : few l) (he : ∀ x ∈ l, nC x false) (k : eN h c sp inp s fs bs) (fw : tD fs) (n : Int) (full : Bool) :
  iZ 142 [.ptr (some ⟨c, 0, none⟩), .sl (l.map aO) full, .int .i64 n] h c sp inp (.tuple []) (cC fs s l n) := by
 unfold iZ
 refine S0.calls (by simp) ?_
 delta S0.c0
 simp only [go_sem,seval]
 refine aX l (fun pre post e g => (∃ s', cC fs s l n = cC fs s' post n ∧ g = h.upd c (bW sp s' inp)) ∧ e = [(0, .ptr (some ⟨c, 0, none⟩)), (2, .int .i64 n), (8, .sl (l.map aO) full), (9, .int .i64 l.length), (10, .int .i64 pre.length)]) (aF.env ?_) ⟨⟨s, rfl, k.self.symm⟩, rfl⟩ ?_ ?_
 ·simp only [go_sem,seval]
 ·rintro pre x post e g hl' ⟨⟨s', hs, rfl⟩, rfl⟩
  simp only [go_sem,seval, bI hl', aI (aK hl') (aR x)]
  refine tcE (rC x (he x (bJ hl')) (k.next s') fw [n] (cX (by simp)) true) ?_
  simp only [go_sem,seval, aB]
  refine ⟨_, _, aF.env ?_, ⟨_, ?_, rfl⟩, rfl⟩
  ·simp only [go_sem,seval, aQ hl hl']
  ·rw [hs]; simp only [cC]
 ·rintro e g ⟨⟨s', hs, rfl⟩, rfl⟩
  simp only [go_sem,seval, bE]
  refine aM.same ?_
  simp only [go_sem,seval]
  exact .same ⟨rfl, by rw [hs]; simp only [cC]⟩
theorem aBG [GI] (x : Expr) (hx : nC x false) (k : eN h c sp inp s fs bs) (fw : tD fs) :
  iZ 145 [.ptr (some ⟨c, 0, none⟩), .agg (aO x)] h c sp inp (.int .i64 (B1 fs s x).1) (B1 fs s x).2 := by
 unfold iZ
 refine SX.calls (by simp) ?_
 delta SX.c0
 simp only [go_sem,seval]
 refine tcE (rC x hx k fw [1, 2, 3] (cX (by simp)) true) ?_
 simp only [go_sem,seval]
 exact .same ⟨rfl, rfl⟩
theorem aAH [GI] (x : Expr) (hx : nC x false) (k : eN h c sp inp s fs bs) (fw : tD fs) (kinds : List Int) (hk : few kinds) (full : Bool) :
  iZ 141 [.ptr (some ⟨c, 0, none⟩), .agg (aO x), .sl (KO kinds) full] h c sp inp (.int .i64 (c8 kinds (bY fs s x false)).1) (c8 kinds (bY fs s x false)).2 := by
 unfold iZ
 refine S1.calls (by simp) ?_
 delta S1.c0
 simp only [go_sem,seval]
 refine tcE (rC x hx k fw kinds hk full) ?_
 simp only [go_sem,seval]
 exact .same ⟨rfl, rfl⟩
end
end Pg
