import Derived.Test.YtdfbkddelhbgmaaGreatDoorTreeSS2
import Derived.Test.YtdfbkddelhbgmaaGreatDoorCodeAS2
import Derived.Test.YtdfbkddelhbgmaaGreatDoorCheckSpecJS2
set_option linter.all false
set_option maxHeartbeats 4000000
set_option maxRecDepth 4000
namespace Pg
open Go Go.Proofs.Tryz
def eThing : Thing → List AV
 | .var t => [.int .i64 0, .ptr none, .ptr none, .int .i64 t.kind, .int .i64 t.size, .str t.name]
 | .rcd r => [.int .i64 1, .ip (eRec r) 0, .ptr none, .int .i64 0, .int .i64 0, .str ⟨#[]⟩]
 | .routine r => [.int .i64 2, .ptr none, .ip (eRoutine r) 0, .int .i64 0, .int .i64 0, .str ⟨#[]⟩]
theorem eThing_len (x : Thing) : (eThing x).length = 6 := by cases x <;> rfl
theorem eThing_take (x : Thing) : List.take 6 (eThing x) = eThing x := List.take_of_length_le (by rw [eThing_len]; exact Nat.le_refl _)
def eEntry (p : ByteArray × Thing) : AV × AV := (.str p.1, .agg (eThing p.2))
theorem afind_scope (name : ByteArray) : ∀ f : Scope, afind [2] (.str name) (f.map eEntry) = some ((look f name).map fun x => .agg (eThing x))
 | [] => rfl
 | (n, y) :: f => by
  have hk : keyEq [2] (.str name) (.str n) = some (decide (name = n)) := rfl
  simp only [List.map_cons, eEntry, afind, hk, look, List.find?_cons]
  by_cases h : name = n
  ·simp [h]
  ·simp only [h, decide_false]
   exact afind_scope name f
theorem aset_scope (name : ByteArray) (x : Thing) : ∀ f : Scope, aset [2] (.str name) (.agg (eThing x)) (f.map eEntry) = some ((setIn name x f).map eEntry)
 | [] => rfl
 | (n, y) :: f => by
  have hk : keyEq [2] (.str name) (.str n) = some (decide (name = n)) := rfl
  simp only [List.map_cons, eEntry, aset, hk, setIn]
  by_cases h : name = n
  ·simp [h, eEntry]
  ·simp only [h, decide_false, if_false]
   rw [aset_scope name x f]; simp [eEntry]
def Chain (h : AHeap) : AV → List Scope → List Nat → Prop
 | sp, [], bs => sp = .ptr none ∧ bs = []
 | sp, f :: fs, bs => ∃ m par bs', bs = m :: bs' ∧ sp = .ip [par, .map (some m)] 0 ∧ h m = some (.mp (f.map eEntry)) ∧ Chain h par fs bs'
theorem Chain.of_le {h g : AHeap} (le : h.le g) : ∀ {fs : List Scope} {sp : AV} {bs : List Nat}, Chain h sp fs bs → Chain g sp fs bs
 | [], _, _, c => c
 | f :: fs, _, _, ⟨m, par, bs', h1, h2, h4, h5⟩ => ⟨m, par, bs', h1, h2, le _ _ h4, h5.of_le le⟩
theorem Chain.upd {h : AHeap} {p : Nat} (o : AObj) : ∀ {fs : List Scope} {sp : AV} {bs : List Nat}, p ∉ bs → Chain h sp fs bs → Chain (h.upd p o) sp fs bs
 | [], _, _, _, c => c
 | f :: fs, _, _, hp, ⟨m, par, bs', h1, h2, h4, h5⟩ => by
  subst h1
  simp only [List.mem_cons, not_or] at hp
  exact ⟨m, par, bs', rfl, h2, by rw [upd_ne _ _ _ (Ne.symm hp.1)]; exact h4, h5.upd o hp.2⟩
theorem Chain.mem {h : AHeap} : ∀ {fs : List Scope} {sp : AV} {bs : List Nat}, Chain h sp fs bs → ∀ b ∈ bs, h b ≠ none
 | [], _, _, ⟨_, h2⟩, b, hb => by subst h2; simp at hb
 | f :: fs, _, _, ⟨m, par, bs', h1, h2, h4, h5⟩, b, hb => by
  subst h1
  simp only [List.mem_cons] at hb
  rcases hb with rfl | hb
  ·rw [h4]; simp
  ·exact h5.mem b hb
theorem Chain.fresh {h : AHeap} {fs : List Scope} {sp : AV} {bs : List Nat} (c : Chain h sp fs bs) {p : Nat} (hp : h p = none) : p ∉ bs := fun hh => c.mem p hh hp
theorem Chain.top {h : AHeap} {fs : List Scope} {sp : AV} {bs : List Nat} {f : Scope} (c : Chain h sp (f :: fs) bs) : ∃ m par, sp = .ip [par, .map (some m)] 0 ∧ h m = some (.mp (f.map eEntry)) := by
 obtain ⟨m, par, bs', h1, h2, h4, h5⟩ := c
 exact ⟨m, par, h2, h4⟩
theorem splice_all {α : Type} {a b c d e f : α} {l : List α} (h : l.length = 6) : splice [a, b, c, d, e, f] 0 l = l := by
 simp [splice, h]
theorem find_spec [GI] {h : AHeap} {sp : AV} {fs : List Scope} {bs : List Nat} (c : Chain h sp fs bs) (name : ByteArray) :
  ACalls prog 95 [sp, .str name] h (fun v g => v = .tuple [.agg (match findIn fs name with | some x => eThing x | none => [.int .i64 0, .ptr none, .ptr none, .int .i64 0, .int .i64 0, .str ⟨#[]⟩]), .bool (findIn fs name).isSome] ∧ g = h) := by
 refine F95.calls (by simp) ?_
 delta F95.c0
 simp only [go_sem,seval]
 refine afreshT_intro fun p hp => ?_
 simp only [go_sem,seval]
 generalize hg : h.upd p _ = g
 have c' : Chain g sp fs bs := by rw [← hg]; exact c.of_le (upd_le hp)
 refine lT_inv2 (fun n e k => ∃ fs' sp' bs', fs'.length = n ∧ Chain g sp' fs' bs' ∧ findIn fs name = findIn fs' name ∧ k = g ∧ e = [(1, .str name), (4, .ptr (some ⟨p, 0, none⟩)), (6, sp')]) fs.length (WeakE.env ?_) ⟨fs, sp, bs, rfl, c', rfl, rfl, rfl⟩ ?_
 ·simp only [go_sem,seval]
 ·rintro n e k ⟨fs', sp', bs', hn, c2, hf, rfl, rfl⟩
  cases fs' with
  | nil =>
   obtain ⟨rfl, rfl⟩ := c2
   simp only [go_sem,seval]
   refine lessQ.same ?_
   subst hg
   simp only [go_sem,seval, upd_upd]
   refine .forget (upd_le hp) ⟨?_, rfl⟩
   rw [hf]; rfl
  | cons f fs' =>
   obtain ⟨m, par, bs', rfl, rfl, h4, h5⟩ := c2
   simp only [go_sem,seval, h4, alookup, amapOf, keyFits, afind_scope]
   cases hl : look f name with
   | some x =>
    subst hg
    simp only [go_sem,seval, eThing_len, eThing_take, splice_all (eThing_len x), upd_upd]
    refine lessQ.same ?_
    simp only [go_sem,seval, eThing_len, eThing_take, upd_upd]
    refine .forget (upd_le hp) ⟨?_, rfl⟩
    rw [hf]; simp [findIn, hl]
   | none =>
    simp only [go_sem,seval]
    refine lessI.to fs'.length _ _ (by simp at hn; omega) (WeakE.env ?_) ⟨fs', par, bs', rfl, h5, ?_, rfl, rfl⟩
    ·simp only [go_sem,seval]
    ·rw [hf]; simp [findIn, hl]
def ckBlk (sp : AV) (s : CS) (inp : AV) : AObj := .blk [sp, .int .i64 s.item, .int .i64 s.bad, inp] 4 122
theorem fail_spec [GI] {h : AHeap} {c : Nat} {sp inp : AV} {s : CS} (hc : h c = some (ckBlk sp s inp)) (e : Int) : ACalls prog 59 [.ptr (some ⟨c, 0, none⟩), .int .i64 e] h (fun v g => v = .tuple [] ∧ g = h.upd c (ckBlk sp (s.fail e) inp)) := by
 unfold ckBlk at hc
 refine F59.calls (by simp) ?_
 delta F59.c0
 simp only [go_sem,seval, hc]
 by_cases hb : s.bad = 0
 ·simp only [go_sem,seval, hb, hc]
  exact .same ⟨rfl, by simp [CS.fail, hb, ckBlk]⟩
 ·simp only [go_sem,seval, hb]
  refine .same ⟨rfl, ?_⟩
  rw [upd_self (by rw [hc]; simp [CS.fail, hb, ckBlk])]
theorem next_spec [GI] {h : AHeap} {c : Nat} {sp inp : AV} {s : CS} (hc : h c = some (ckBlk sp s inp)) : ACalls prog 56 [.ptr (some ⟨c, 0, none⟩)] h (fun v g => v = .bool (decide (s.bad = 0)) ∧ g = h.upd c (ckBlk sp (if s.bad = 0 then s.step else s) inp)) := by
 unfold ckBlk at hc
 refine F56.calls (by simp) ?_
 delta F56.c0
 simp only [go_sem,seval, hc]
 by_cases hb : s.bad = 0
 ·simp only [go_sem,seval, hb, hc]
  exact .same ⟨rfl, by simp [CS.step, hb, ckBlk]⟩
 ·simp only [go_sem,seval, hb]
  refine .same ⟨rfl, ?_⟩
  rw [upd_self (by rw [hc]; simp [hb, ckBlk])]
theorem Chain.cells {h : AHeap} {fs : List Scope} {sp : AV} {bs : List Nat} (c : Chain h sp fs bs) : sp.cells? = some [sp] := by
 cases fs with
 | nil => obtain ⟨rfl, _⟩ := c; rfl
 | cons f fs => obtain ⟨m, par, bs', _, rfl, _⟩ := c; rfl
theorem deeper_spec [GI] {h : AHeap} {sp : AV} (hs : sp.cells? = some [sp]) : ACalls prog 55 [sp] h (fun v g => ∃ m, h m = none ∧ v = .ip [sp, .map (some m)] 0 ∧ g = h.upd m (.mp [])) := by
 refine F55.calls (by simp) ?_
 delta F55.c0
 simp only [go_sem,seval]
 refine afreshT_intro fun m hm => ?_
 simp only [go_sem,seval, hs]
 exact .same ⟨m, hm, rfl, rfl⟩
theorem lay_spec [GI] {h : AHeap} {c : Nat} {sp inp : AV} {s : CS} {f : Scope} {fs : List Scope} {m : Nat} {bs' : List Nat} (hc : h c = some (ckBlk sp s inp)) (ch : Chain h sp (f :: fs) (m :: bs')) (hn : c ∉ m :: bs') (hd : (m :: bs').Nodup) (name : ByteArray) (x : Thing) :
  ACalls prog 57 [.ptr (some ⟨c, 0, none⟩), .str name, .agg (eThing x)] h (fun v g => v = .tuple [] ∧ g = (h.upd m (.mp (((ckLay (f :: fs) s name x).1.headD []).map eEntry))).upd c (ckBlk sp (ckLay (f :: fs) s name x).2 inp) ∧ Chain g sp (ckLay (f :: fs) s name x).1 (m :: bs')) := by
 obtain ⟨m', par, bs2, hb, rfl, hm, hch⟩ := ch
 obtain ⟨rfl, rfl⟩ := List.cons.inj hb
 have ch : Chain h (.ip [par, .map (some m)] 0) (f :: fs) (m :: bs') := ⟨m, par, bs', rfl, rfl, hm, hch⟩
 simp only [List.mem_cons, not_or, List.nodup_cons] at hn hd
 have hc' := hc
 unfold ckBlk at hc'
 refine F57.calls (by simp) ?_
 delta F57.c0
 simp only [go_sem,seval, hc']
 refine callT_of (find_spec ch name) (fun v g ⟨hv, hg⟩ => ?_)
 subst hv hg
 simp only [go_sem,seval]
 have key : ∀ y : Thing, (abx (some 6) (.agg (eThing y)) = some (.ip (eThing y) 0)) := fun y => by simp [abx, AV.cells?, eThing_len]
 cases hf : findIn (f :: fs) name with
 | some y =>
  simp only [go_sem,seval, eThing_len]
  refine callT_of (fail_spec hc 12) (fun v k ⟨hv, hk⟩ => ?_)
  subst hv hk
  simp only [go_sem,seval]
  refine .same ⟨rfl, ?_, ?_⟩
  ·simp only [ckLay, hf, List.headD_cons]
   rw [upd_self hm]
  ·simp only [ckLay, hf]
   exact ch.upd _ (by simp [hn])
 | none =>
  simp only [go_sem,seval, hc', eThing_len, eThing_take]
  refine mapupT_of hm (aset_scope name x f) rfl ?_
  simp only [go_sem,seval, hc', upd_ne _ _ _ hn.1]
  refine .same ⟨rfl, ?_, ?_⟩
  ·simp only [ckLay, hf, setTop, List.headD_cons]
   exact (upd_self (by rw [upd_ne _ _ _ hn.1]; exact hc)).symm
  ·simp only [ckLay, hf, setTop]
   exact ⟨m, par, bs', rfl, rfl, upd_same _ _ _, hch.upd _ hd.1⟩
theorem typ_spec [GI] {h : AHeap} {c : Nat} {sp inp : AV} {s : CS} {fs : List Scope} {bs : List Nat} (hc : h c = some (ckBlk sp s inp)) (ch : Chain h sp fs bs) (t : Typ) :
  ACalls prog 98 [.ptr (some ⟨c, 0, none⟩), .agg (eTyp t)] h (fun v g => v = .tuple [] ∧ g = h.upd c (ckBlk sp (ckTyp fs s t) inp)) := by
 have hc' := hc
 unfold ckBlk at hc'
 refine F98.calls (by simp) ?_
 delta F98.c0
 simp only [go_sem,seval]
 by_cases hk : t.kind = 4
 ·simp only [go_sem,seval, hk, hc']
  refine callT_of (find_spec ch t.name) (fun v g ⟨hv, hg⟩ => ?_)
  subst hv hg
  simp only [go_sem,seval, hc']
  refine afreshT_intro fun q hq => ?_
  cases hf : findIn fs t.name with
  | none =>
   simp only [go_sem,seval, hc', del_upd _ _ _ hq, upd_upd, upd_ne _ _ _ (show c ≠ q by intro hh; subst hh; rw [hc] at hq; cases hq)]
   refine callT_of (fail_spec hc 13) (fun v k ⟨hv, hk⟩ => ?_)
   subst hv hk
   simp only [go_sem,seval]
   exact .same ⟨rfl, by simp [ckTyp, hk, hf]⟩
  | some y =>
   cases y with
   | rcd r =>
    simp only [go_sem,seval, eThing, hc', del_upd _ _ _ hq, upd_upd, upd_ne _ _ _ (show c ≠ q by intro hh; subst hh; rw [hc] at hq; cases hq)]
    exact .same ⟨rfl, by simp [ckTyp, hk, hf]; rw [upd_self hc]⟩
   | var t' =>
    simp only [go_sem,seval, eThing, hc', del_upd _ _ _ hq, upd_upd, upd_ne _ _ _ (show c ≠ q by intro hh; subst hh; rw [hc] at hq; cases hq)]
    refine callT_of (fail_spec hc 13) (fun v k ⟨hv, hk⟩ => ?_)
    subst hv hk
    simp only [go_sem,seval]
    exact .same ⟨rfl, by simp [ckTyp, hk, hf]⟩
   | routine r =>
    simp only [go_sem,seval, eThing, hc', del_upd _ _ _ hq, upd_upd, upd_ne _ _ _ (show c ≠ q by intro hh; subst hh; rw [hc] at hq; cases hq)]
    refine callT_of (fail_spec hc 13) (fun v k ⟨hv, hk⟩ => ?_)
    subst hv hk
    simp only [go_sem,seval]
    exact .same ⟨rfl, by simp [ckTyp, hk, hf]⟩
 ·simp only [go_sem,seval, hk]
  exact .same ⟨rfl, by simp [ckTyp, hk]; rw [upd_self hc]⟩
end Pg
namespace Pg
open Go Go.Proofs.Tryz
structure CkIn (h : AHeap) (c : Nat) (sp inp : AV) (s : CS) (fs : List Scope) (bs : List Nat) : Prop where
 hc : h c = some (ckBlk sp s inp)
 ch : Chain h sp fs bs
 hn : c ∉ bs
theorem CkIn.next {h : AHeap} {c : Nat} {sp inp : AV} {s : CS} {fs : List Scope} {bs : List Nat} (k : CkIn h c sp inp s fs bs) (s' : CS) : CkIn (h.upd c (ckBlk sp s' inp)) c sp inp s' fs bs := ⟨upd_same _ _ _, k.ch.upd _ k.hn, k.hn⟩
theorem CkIn.ne {h : AHeap} {c : Nat} {sp inp : AV} {s : CS} {fs : List Scope} {bs : List Nat} (k : CkIn h c sp inp s fs bs) {p : Nat} (hp : h p = none) : c ≠ p := by intro hh; subst hh; rw [k.hc] at hp; cases hp
theorem CkIn.fresh {h : AHeap} {c : Nat} {sp inp : AV} {s : CS} {fs : List Scope} {bs : List Nat} (k : CkIn h c sp inp s fs bs) {p : Nat} (hp : h p = none) (o : AObj) : CkIn (h.upd p o) c sp inp s fs bs :=
 ⟨by rw [upd_ne _ _ _ (k.ne hp)]; exact k.hc, k.ch.upd _ (k.ch.fresh hp), k.hn⟩
theorem CkIn.cell {h : AHeap} {c : Nat} {sp inp : AV} {s : CS} {fs : List Scope} {bs : List Nat} (k : CkIn h c sp inp s fs bs) : h c = some (.blk [sp, .int .i64 s.item, .int .i64 s.bad, inp] 4 122) := k.hc
def Turns [GI] (f : Nat) (args : List AV) (h : AHeap) (c : Nat) (sp inp : AV) (v : AV) (s : CS) : Prop := ACalls prog f args h (fun r g => r = v ∧ g = h.upd c (ckBlk sp s inp))
theorem variable_spec [GI] {h : AHeap} {c : Nat} {sp inp : AV} {s : CS} {fs : List Scope} {bs : List Nat} (k : CkIn h c sp inp s fs bs) (name : ByteArray) :
  Turns 144 [.ptr (some ⟨c, 0, none⟩), .str name] h c sp inp (.agg (eTyp (ckVariable fs s name).1)) (ckVariable fs s name).2 := by
 unfold Turns
 have hcl := k.cell
 refine F144.calls (by simp) ?_
 delta F144.c0
 simp only [go_sem,seval]
 refine afreshT_intro fun p hp => ?_
 have hne := k.ne hp
 have hne' := hne.symm
 simp only [go_sem,seval, hcl, upd_ne _ _ _ hne]
 refine callT_of (find_spec (k.fresh hp _).ch name) (fun v g ⟨hv, hg⟩ => ?_)
 subst hv hg
 have fin : ∀ t s', (t, s') = ckVariable fs s name → EndW (fun r g => r = .agg (eTyp (ckVariable fs s name).1) ∧ g = h.upd c (ckBlk sp (ckVariable fs s name).2 inp)) (.agg [.int .i64 t.kind, .int .i64 t.size, .str t.name]) ((h.upd p (.blk [.int .i64 t.kind, .int .i64 t.size, .str t.name] 3 51)).upd c (ckBlk sp s' inp)) := by
  intro t s' e
  rw [← e]
  exact .forget (le_upd_upd (upd_le hp) _ _) ⟨rfl, rfl⟩
 cases hf : findIn fs name with
 | none =>
  simp only [go_sem,seval]
  refine callT_of (fail_spec (k.fresh hp _).hc 13) (fun v g ⟨hv, hg⟩ => ?_)
  subst hv hg
  simp only [go_sem,seval, upd_ne _ _ _ hne', upd_comm _ _ _ hne, upd_upd]
  exact fin noTyp _ (by simp [ckVariable, hf])
 | some y =>
  cases y with
  | var t =>
   simp only [go_sem,seval, eThing, upd_ne _ _ _ hne', upd_upd]
   have := fin t s (by simp [ckVariable, hf])
   rwa [upd_self (h := h.upd p _) (b := c) (by rw [upd_ne _ _ _ hne]; exact k.hc)] at this
  | rcd r =>
   simp only [go_sem,seval, eThing]
   refine callT_of (fail_spec (k.fresh hp _).hc 13) (fun v g ⟨hv, hg⟩ => ?_)
   subst hv hg
   simp only [go_sem,seval, upd_ne _ _ _ hne', upd_comm _ _ _ hne, upd_upd]
   exact fin noTyp _ (by simp [ckVariable, hf])
  | routine r =>
   simp only [go_sem,seval, eThing]
   refine callT_of (fail_spec (k.fresh hp _).hc 13) (fun v g ⟨hv, hg⟩ => ?_)
   subst hv hg
   simp only [go_sem,seval, upd_ne _ _ _ hne', upd_comm _ _ _ hne, upd_upd]
   exact fin noTyp _ (by simp [ckVariable, hf])
theorem CkIn.self {h : AHeap} {c : Nat} {sp inp : AV} {s : CS} {fs : List Scope} {bs : List Nat} (k : CkIn h c sp inp s fs bs) : h.upd c (ckBlk sp s inp) = h := upd_self k.hc
theorem field_spec [GI] {h : AHeap} {c : Nat} {sp inp : AV} {s : CS} {fs : List Scope} {bs : List Nat} (k : CkIn h c sp inp s fs bs) (t : Typ) (name : ByteArray) (hw : ∀ r, findIn fs t.name = some (.rcd r) → few r.fields) :
  Turns 175 [.ptr (some ⟨c, 0, none⟩), .agg (eTyp t), .str name] h c sp inp (.int .i64 (ckField fs s t name).1) (ckField fs s t name).2 := by
 unfold Turns
 have hcl := k.cell
 refine F175.calls (by simp) ?_
 delta F175.c0
 simp only [go_sem,seval]
 by_cases hk : t.kind = 4
 ·simp only [go_sem,seval, hk, hcl]
  refine tcE (find_spec k.ch t.name) ?_
  simp only [go_sem,seval, hcl]
  refine afreshT_intro fun q hq => ?_
  have hne := k.ne hq
  cases hf : findIn fs t.name with
  | none =>
   simp only [go_sem,seval, hcl, upd_ne _ _ _ hne, del_upd _ _ _ hq, upd_upd]
   refine tcE (fail_spec k.hc 13) ?_
   simp only [go_sem,seval]
   exact .same ⟨by simp [ckField, hk, hf], by simp [ckField, hk, hf]⟩
  | some y =>
   cases y with
   | var t' =>
    simp only [go_sem,seval, eThing, hcl, upd_ne _ _ _ hne, del_upd _ _ _ hq, upd_upd]
    refine tcE (fail_spec k.hc 13) ?_
    simp only [go_sem,seval]
    exact .same ⟨by simp [ckField, hk, hf], by simp [ckField, hk, hf]⟩
   | routine r =>
    simp only [go_sem,seval, eThing, hcl, upd_ne _ _ _ hne, del_upd _ _ _ hq, upd_upd]
    refine tcE (fail_spec k.hc 13) ?_
    simp only [go_sem,seval]
    exact .same ⟨by simp [ckField, hk, hf], by simp [ckField, hk, hf]⟩
   | rcd r =>
    have hw := hw r hf
    simp only [go_sem,seval, eThing, hcl, upd_ne _ _ _ hne, del_upd _ _ _ hq, upd_upd]
    refine lT_list r.fields (fun pre post e g => (∀ f ∈ pre, ¬ f.name = name) ∧ g = h ∧ e = [(0, .ptr (some ⟨c, 0, none⟩)), (2, .str name), (6, .int .i64 0), (36, .sl (r.fields.map eFld) false), (37, .int .i64 r.fields.length), (38, .int .i64 pre.length)]) (WeakE.env ?_) ⟨by simp, rfl, rfl⟩ ?_ ?_
    ·simp only [go_sem,seval]
    ·rintro pre x post e g hl ⟨hp, rfl, rfl⟩
     simp only [go_sem,seval, lt_at hl, aia_sl (map_at hl) (eFld_len x)]
     by_cases hx : x.name = name
     ·simp only [go_sem,seval, hx]
      refine lessQ.same ?_
      simp only [go_sem,seval]
      have : r.fields.find? (fun f => decide (f.name = name)) = some x := by
       rw [hl, List.find?_append, List.find?_eq_none.2 (by simpa using hp)]
       simp [hx]
      exact .same ⟨by simp [ckField, hk, hf, this], by simp [ckField, hk, hf, this, k.self]⟩
     ·simp only [go_sem,seval, hx]
      refine ⟨_, _, WeakE.env ?_, ?_, rfl, rfl⟩
      ·simp only [go_sem,seval, step_at hw hl]
      ·intro y hy
       rcases List.mem_append.1 hy with hy | hy
       ·exact hp y hy
       ·simp at hy; subst hy; exact hx
    ·rintro e g ⟨hp, rfl, rfl⟩
     simp only [go_sem,seval, lt_end]
     refine lessQ.same ?_
     simp only [go_sem,seval]
     refine tcE (fail_spec k.hc 13) ?_
     simp only [go_sem,seval]
     have : r.fields.find? (fun f => decide (f.name = name)) = none := List.find?_eq_none.2 (by simpa using hp)
     exact .same ⟨by simp [ckField, hk, hf, this], by simp [ckField, hk, hf, this]⟩
 ·simp only [go_sem,seval, hk]
  refine tcE (fail_spec k.hc 14) ?_
  simp only [go_sem,seval]
  exact .same ⟨by simp [ckField, hk], by simp [ckField, hk]⟩
def eInts (l : List Int) : List (List AV) := l.map fun n => [.int .i64 n]
theorem IndexI_spec [GI] (h : AHeap) (l : List Int) (hw : few l) (full : Bool) (n : Int) : ACalls prog 202 [.sl (eInts l) full, .int .i64 n] h (fun v g => v = .int .i64 (match l.findIdx? (fun x => decide (n = x)) with | some i => i | none => -1) ∧ g = h) := by
 unfold eInts
 refine F202.calls (by simp) ?_
 delta F202.c0
 simp only [go_sem,seval]
 refine lT_list l (fun pre post e g => (∀ x ∈ pre, ¬ n = x) ∧ g = h ∧ e = [(0, .sl (l.map fun n => [.int .i64 n]) full), (1, .int .i64 n), (7, .int .i64 l.length), (8, .int .i64 pre.length)]) (WeakE.env ?_) ⟨by simp, rfl, rfl⟩ ?_ ?_
 ·simp only [go_sem,seval]
 ·rintro pre x post e g hl ⟨hp, rfl, rfl⟩
  simp only [go_sem,seval, lt_at hl, aia_sl (map_at (e := fun n => [AV.int .i64 n]) hl) (show _ = 1 from rfl)]
  by_cases hx : n = x
  ·subst hx
   simp only [go_sem,seval]
   refine lessQ.same ?_
   simp only [go_sem,seval]
   have : l.findIdx? (fun x => decide (n = x)) = some pre.length := by
    subst hl
    rw [List.findIdx?_append, List.findIdx?_eq_none_iff.2 (by simpa using hp)]
    simp [List.findIdx?_cons]
   refine .same ⟨?_, rfl⟩
   rw [this]
  ·simp only [go_sem,seval, hx]
   refine ⟨_, _, WeakE.env ?_, ?_, rfl, rfl⟩
   ·simp only [go_sem,seval, step_at hw hl]
   ·intro y hy
    rcases List.mem_append.1 hy with hy | hy
    ·exact hp y hy
    ·simp at hy; subst hy; exact hx
 ·rintro e g ⟨hp, rfl, rfl⟩
  simp only [go_sem,seval, lt_end]
  refine lessQ.same ?_
  simp only [go_sem,seval]
  refine .same ⟨?_, rfl⟩
  rw [List.findIdx?_eq_none_iff.2 (by simpa using hp)]
theorem ContainsI_spec [GI] (h : AHeap) (l : List Int) (hw : few l) (full : Bool) (n : Int) : ACalls prog 192 [.sl (eInts l) full, .int .i64 n] h (fun v g => v = .bool (decide (n ∈ l)) ∧ g = h) := by
 refine F192.calls (by simp) ?_
 delta F192.c0
 simp only [go_sem,seval]
 refine callT_of (IndexI_spec h l hw full n) (fun v k ⟨hv, hk⟩ => ?_)
 generalize hm : (match l.findIdx? (fun x => decide (n = x)) with | some i => (i : Int) | none => -1) = m at hv
 subst hv hk
 simp only [go_sem,seval]
 refine .same ⟨?_, rfl⟩
 congr 1
 subst hm
 cases hi : l.findIdx? (fun x => decide (n = x)) with
 | none =>
  have := List.findIdx?_eq_none_iff.1 hi
  have hn : ¬ n ∈ l := fun hh => by have := this n hh; simp at this
  simp [hn]
 | some i =>
  obtain ⟨h1, h2, _⟩ := List.findIdx?_eq_some_iff_getElem.1 hi
  have : n ∈ l := by rw [of_decide_eq_true h2]; exact List.getElem_mem h1
  simp [this]
end Pg
namespace Pg
open Go Go.Proofs.Tryz
structure FewIn (fs : List Scope) : Prop where
 rcd : ∀ name r, findIn fs name = some (.rcd r) → few r.fields
 routine : ∀ name r, findIn fs name = some (.routine r) → few r.params
def ExprC [GI] (x : Expr) (stmt : Bool) : Prop := ∀ {h : AHeap} {c : Nat} {sp inp : AV} {s : CS} {fs : List Scope} {bs : List Nat}, CkIn h c sp inp s fs bs → FewIn fs →
 Turns 143 [.ptr (some ⟨c, 0, none⟩), .agg (eExpr x), .bool stmt] h c sp inp (.agg (eTyp (ckExpr fs s x stmt).1)) (ckExpr fs s x stmt).2
theorem few_small {α : Type} {l : List α} (h : l.length ≤ 1000) : few l := by unfold few; omega
section
variable {h : AHeap} {c : Nat} {sp inp : AV} {s : CS} {fs : List Scope} {bs : List Nat}
theorem value_of [GI] (x : Expr) (hx : ExprC x false) (k : CkIn h c sp inp s fs bs) (fw : FewIn fs) (kinds : List Int) (hk : few kinds) (full : Bool) :
  Turns 174 [.ptr (some ⟨c, 0, none⟩), .agg (eExpr x), .sl (eInts kinds) full] h c sp inp (.int .i64 (ckKind kinds (ckExpr fs s x false)).1) (ckKind kinds (ckExpr fs s x false)).2 := by
 unfold Turns
 have kn := k.next (ckExpr fs s x false).2
 refine F174.calls (by simp) ?_
 delta F174.c0
 simp only [go_sem,seval]
 refine tcE (hx k fw) ?_
 simp only [go_sem,seval]
 repeat' (refine agateT_split (fun hg => ?_) (fun hg => ?_) <;> simp only [go_sem,seval, hg, Bool.not_true, Bool.not_false])
 ·refine tcE (ContainsI_spec _ kinds hk full _) ?_
  simp only [go_sem,seval]
  by_cases hm : (ckExpr fs s x false).1.kind ∈ kinds
  ·simp only [go_sem,seval, hm]
   refine .same ⟨rfl, ?_⟩
   have : ¬ 0 < (ckExpr fs s x false).1.size := of_decide_eq_false hg
   simp [ckKind, this, hm]
  ·simp only [go_sem,seval, hm]
   refine tcE (fail_spec kn.hc 14) ?_
   simp only [go_sem,seval, upd_upd]
   refine .same ⟨rfl, ?_⟩
   simp [ckKind, hm]
 ·refine tcE (fail_spec kn.hc 14) ?_
  simp only [go_sem,seval, upd_upd]
  refine .same ⟨rfl, ?_⟩
  have : 0 < (ckExpr fs s x false).1.size := of_decide_eq_true hg
  simp [ckKind, this]
theorem pair_of [GI] (l : List Expr) (hl : few l) (he : ∀ x ∈ l, ExprC x false) (k : CkIn h c sp inp s fs bs) (fw : FewIn fs) (n : Int) (full : Bool) :
  Turns 142 [.ptr (some ⟨c, 0, none⟩), .sl (l.map eExpr) full, .int .i64 n] h c sp inp (.tuple []) (ckPair fs s l n) := by
 unfold Turns
 refine F142.calls (by simp) ?_
 delta F142.c0
 simp only [go_sem,seval]
 refine lT_list l (fun pre post e g => (∃ s', ckPair fs s l n = ckPair fs s' post n ∧ g = h.upd c (ckBlk sp s' inp)) ∧ e = [(0, .ptr (some ⟨c, 0, none⟩)), (2, .int .i64 n), (8, .sl (l.map eExpr) full), (9, .int .i64 l.length), (10, .int .i64 pre.length)]) (WeakE.env ?_) ⟨⟨s, rfl, k.self.symm⟩, rfl⟩ ?_ ?_
 ·simp only [go_sem,seval]
 ·rintro pre x post e g hl' ⟨⟨s', hs, rfl⟩, rfl⟩
  simp only [go_sem,seval, lt_at hl', aia_sl (map_at hl') (eExpr_len x)]
  refine tcE (value_of x (he x (mem_at hl')) (k.next s') fw [n] (few_small (by simp)) true) ?_
  simp only [go_sem,seval, upd_upd]
  refine ⟨_, _, WeakE.env ?_, ⟨_, ?_, rfl⟩, rfl⟩
  ·simp only [go_sem,seval, step_at hl hl']
  ·rw [hs]; simp only [ckPair]
 ·rintro e g ⟨⟨s', hs, rfl⟩, rfl⟩
  simp only [go_sem,seval, lt_end]
  refine lessQ.same ?_
  simp only [go_sem,seval]
  exact .same ⟨rfl, by rw [hs]; simp only [ckPair]⟩
theorem any_of [GI] (x : Expr) (hx : ExprC x false) (k : CkIn h c sp inp s fs bs) (fw : FewIn fs) :
  Turns 145 [.ptr (some ⟨c, 0, none⟩), .agg (eExpr x)] h c sp inp (.int .i64 (ckAny fs s x).1) (ckAny fs s x).2 := by
 unfold Turns
 refine F145.calls (by simp) ?_
 delta F145.c0
 simp only [go_sem,seval]
 refine tcE (value_of x hx k fw [1, 2, 3] (few_small (by simp)) true) ?_
 simp only [go_sem,seval]
 exact .same ⟨rfl, rfl⟩
theorem set_of [GI] (x : Expr) (hx : ExprC x false) (k : CkIn h c sp inp s fs bs) (fw : FewIn fs) (kinds : List Int) (hk : few kinds) (full : Bool) :
  Turns 141 [.ptr (some ⟨c, 0, none⟩), .agg (eExpr x), .sl (eInts kinds) full] h c sp inp (.int .i64 (ckKind kinds (ckExpr fs s x false)).1) (ckKind kinds (ckExpr fs s x false)).2 := by
 unfold Turns
 refine F141.calls (by simp) ?_
 delta F141.c0
 simp only [go_sem,seval]
 refine tcE (value_of x hx k fw kinds hk full) ?_
 simp only [go_sem,seval]
 exact .same ⟨rfl, rfl⟩
end
end Pg
