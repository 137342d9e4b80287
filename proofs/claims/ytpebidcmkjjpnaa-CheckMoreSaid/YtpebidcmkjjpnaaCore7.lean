/- The core, seventh part: operations that write, make or call. -/
import Derived.Test.YtpebidcmkjjpnaaCore6
namespace Pg
open Go
set_option linter.unusedSimpArgs false
set_option linter.unusedVariables false

/-- What a call comes to, over abstract values: it returns; what isn't owned stays. -/
def ACalls (P : Program) (f : FuncId) (args : List AV) (h : AHeap) (K : AV → AHeap → Prop) : Prop :=
  ∀ (I : Imm) (w : World) (vs : List Value), Rds I args vs → Sat w I h →
    Calls P f vs.toArray w fun e w' => ∃ v, e = .returned v ∧ ∃ J r g, K r g ∧ Rd J r v ∧ Sat w' J g ∧ Ext h w w' ∧ New w I J h g

theorem ACalls.mono {P : Program} {f : FuncId} {args : List AV} {h : AHeap} {K K' : AV → AHeap → Prop} (c : ACalls P f args h K) (m : ∀ r g, K r g → K' r g) : ACalls P f args h K' :=
  fun I w vs r s => (c I w vs r s).mono fun e w' ⟨v, he, J, a, g, k, rest⟩ => ⟨v, he, J, a, g, m _ _ k, rest⟩

/-- The frame rule. -/
theorem ACalls.frame {P : Program} {f : FuncId} {args : List AV} {h g : AHeap} {K : AV → AHeap → Prop} (c : ACalls P f args h K) (a : h.apart g) : ACalls P f args (h.join g) (fun r k => ∃ h', k = h'.join g ∧ h'.apart g ∧ K r h') := by
  intro I w vs r s
  refine (c I w vs r (s.forget (AHeap.le_join h g))).mono ?_
  rintro e w' ⟨v, he, J, x, h', k, rd, s', ex, n⟩
  obtain ⟨t1, t2, t3, t4⟩ := Sat.frame s a s' ex n
  exact ⟨v, he, J, x, h'.join g, ⟨h', rfl, t2, k⟩, rd, t1, t3, t4⟩

/-- The operations that do more than read. -/
inductive REff where
  | store (size : Nat) (x v : ROpd)
  | box (ty : TypeId) (x : ROpd)
  | alloc (ty : TypeId) (zero : List AV)
  | mkmap
  | bsle (ty : TypeId) (size len : Nat) (zero : List AV) (parts : List (Nat × Nat × ROpd))
  | append (ty : TypeId) (size bytes : Nat) (s x : ROpd)
  | appendz (ty : TypeId) (bytes : Nat) (zero : AV) (s n : ROpd)
  | mksl (ty : TypeId) (bytes : Nat) (zero : AV) (len cap : ROpd)
  | mapup (ks : List Nat) (m k v : ROpd)
  | call (f : FuncId) (args : List ROpd)
  | callv (f : ROpd) (args : List ROpd)
  deriving Inhabited

/-- A fresh block. -/
def afresh (h : AHeap) (K : Nat → Prop) : Prop := ∀ b, h b = none → K b

def astore (h : AHeap) (size : Nat) (p v : AV) : Option AHeap :=
  match p, v.cells? with
  | .ptr (some ⟨b, o, none⟩), some ds =>
    match h b with
    | some (.blk cs total ty) => if ds.length = size ∧ o + size ≤ cs.length then some (h.upd b (.blk (splice cs o ds) total ty)) else none
    | _ => none
  | _, _ => none

def okOr (o : Option AHeap) (K : AHeap → Prop) : Prop := match o with | some h => K h | none => False
def okCells (o : Option (List AV)) (K : List AV → Prop) : Prop := match o with | some h => K h | none => False
@[simp] theorem okOr_some (h : AHeap) (K : AHeap → Prop) : okOr (some h) K = K h := rfl
@[simp] theorem okCells_some (h : List AV) (K : List AV → Prop) : okCells (some h) K = K h := rfl

/-- The elements of a slice, one behind the other. -/
def aelems (h : AHeap) (size : Nat) : AV → Option (Nat × List AV)
  | .sl es _ => some (es.length, es.flatten)
  | .gs es _ _ => some (es.length, es.flatten)
  | .os b n _ => match h b with
    | some (.blk cs _ _) => if n * size ≤ cs.length then some (n, cs.take (n * size)) else none
    | _ => none
  | _ => none
def okElems (o : Option (Nat × List AV)) (K : Nat → List AV → Prop) : Prop := match o with | some (n, l) => K n l | none => False
@[simp] theorem okElems_some (n : Nat) (l : List AV) (K : Nat → List AV → Prop) : okElems (some (n, l)) K = K n l := rfl

/-- The rows of an immutable slice are of the element's size. -/
def elemsFit (size : Nat) : AV → Prop
  | .sl es _ => ∀ e ∈ es, e.length = size
  | .gs es _ _ => ∀ e ∈ es, e.length = size
  | _ => True
/-- Room for what an append makes. -/
def roomFor (n bytes : Nat) : Prop := (2 * n + 1024) * bytes ≤ 2 ^ 48

/-- append of m elements (cells xs). -/
def aappend (h : AHeap) (ty : TypeId) (size bytes : Nat) (s : AV) (m : Nat) (xs : List AV) (K : AV → AHeap → Prop) : Prop :=
  match s with
  | .sl es full =>
    (m = 0 → K s h) ∧ (m ≠ 0 → full = true ∧ roomFor (es.length + m) bytes ∧ (∀ e ∈ es, e.length = size) ∧ ((∀ b cap, h b = none → es.length + m ≤ cap → K (.os b (es.length + m) cap) (h.upd b (.blk (es.flatten ++ xs) (cap * size) ty))) ∨
      (∀ b cap, h b = none → es.length + m ≤ cap → K (.gs (es ++ chunks size m xs) b cap) (h.upd b (.tail ((es.length + m) * size) (cap * size) ty)))))
  | .gs es b cap =>
    match h b with
    | some (.tail q total ty') => ty' = ty ∧ total = cap * size ∧ q = es.length * size ∧ es.length ≤ cap ∧ (∀ e ∈ es, e.length = size) ∧ roomFor (es.length + m) bytes ∧
        ∀ b' cap', h.del b b' = none → es.length + m ≤ cap' → K (.gs (es ++ chunks size m xs) b' cap') ((h.del b).upd b' (.tail ((es.length + m) * size) (cap' * size) ty))
    | _ => False
  | .os b n cap =>
    match h b with
    | some (.blk cs total ty') => ty' = ty ∧ total = cap * size ∧ n ≤ cap ∧ n * size ≤ cs.length ∧ roomFor (n + m) bytes ∧
        ∀ b' cap', h.del b b' = none → n + m ≤ cap' → K (.os b' (n + m) cap') ((h.del b).upd b' (.blk (cs.take (n * size) ++ xs) (cap' * size) ty))
    | _ => False
  | _ => False

def callable (P : Program) (f : FuncId) : Bool :=
  match P.funcs[f]? with
  | some fn => fn.name != "runtime.NumGoroutine" && fn.body.isSome
  | none => false

theorem run_callFunc {P : Program} {f : FuncId} (h : callable P f = true) (args : Array Value) (w : World) : (callFunc f args).run P w = .ok (.enter f args) w := by
  unfold callable at h
  split at h
  · rename_i fn hf
    simp only [Bool.and_eq_true, bne_iff_ne] at h
    obtain ⟨h1, h2⟩ := h
    cases hb : fn.body with
    | none => rw [hb] at h2; cases h2
    | some c => simp [callFunc, hf, h1, hb]
  · cases h

/-- A map with one entry laid. -/
def aset (ks : List Nat) (k v : AV) : List (AV × AV) → Option (List (AV × AV))
  | [] => some [(k, v)]
  | (x, u) :: r => match keyEq ks k x with
    | some true => some ((k, v) :: r)
    | some false => (aset ks k v r).map ((x, u) :: ·)
    | none => none

/-- How an effect goes on. -/
def aeff (P : Program) (va : ROpd → AV) (h : AHeap) (K : AV → AHeap → Prop) : REff → Prop
  | .store size x v => okOr (astore h size (va x) (va v)) (K .any)
  | .box ty x => okCells (va x).cells? fun ds => afresh h fun b => K (.ptr (some ⟨b, 0, none⟩)) (h.upd b (.blk ds ds.length ty))
  | .alloc ty zero => afresh h fun b => K (.ptr (some ⟨b, 0, none⟩)) (h.upd b (.blk zero zero.length ty))
  | .mkmap => afresh h fun b => K (.map (some b)) (h.upd b (.mp []))
  | .bsle ty size len zero parts => okCells (afill zero (evParts va parts)) fun cs => afresh h fun b => K (.os b len len) (h.upd b (.blk cs cs.length ty))
  | .append ty size bytes s x => okElems (aelems h size (va x)) fun m xs => elemsFit size (va x) ∧ aappend h ty size bytes (va s) m xs K
  | .appendz ty bytes zero s n => match va n with
    | .int .i64 m => 0 ≤ m ∧ m ≤ 9223372036854775807 ∧ m * bytes ≤ 2 ^ 48 ∧ aappend h ty 1 bytes (va s) m.toNat (List.replicate m.toNat zero) K
    | _ => False
  | .mksl ty bytes zero len cap => match va len, va cap with
    | .int .i64 l, .int .i64 c => l = c ∧ 0 ≤ l ∧ l ≤ 9223372036854775807 ∧ (bytes : Int) * l ≤ 2 ^ 48 ∧ afresh h fun b => K (.os b l.toNat l.toNat) (h.upd b (.blk (List.replicate l.toNat zero) l.toNat ty))
    | _, _ => False
  | .mapup ks m k v => match va m with
    | .map (some r) => match h r with
      | some (.mp es) => match aset ks (va k) (va v) es with
        | some es' => keyFits ks (va k) = true ∧ K .any (h.upd r (.mp es'))
        | none => False
      | _ => False
    | _ => False
  | .call f args => ACalls P f (args.map va) h K
  | .callv f args => match va f with
    | .func (.func f) first captured => callable P f = true ∧ ACalls P f (first ++ args.map va ++ captured) h K
    | _ => False

/-- What an operation must do, to be that effect. -/
def SimEff (P : Program) (o : Oper) (r : REff) : Prop :=
  ∀ (I : Imm) (w : World) (h : AHeap) (a : Act) (va : ROpd → AV) (K : AV → AHeap → Prop), ValSat I va a → Sat w I h → aeff P va h K r →
    ∀ (next : Act → World → Prop) (Q : Exit → Act → World → Prop),
      (∀ v J w' av g, K av g → Rd J av v → Sat w' J g → Ext h w w' → New w I J h g → next (a.put o.dst v) w') → o.wp P a w next Q

theorem simEff_call {P : Program} {o : Oper} {f : FuncId} {args : Array Operand} {tt : Array TypeId} {rs : List ROpd} (ho : o.op = .call { callee := .value (.func f), args := args, argTypes := tt }) (hf : callable P f = true) (hr : ropds args.toList = some rs) : SimEff P o (.call f rs) := by
  intro I w h a va K s t k next Q H
  have h1 := ropds_rds s hr
  have hexec : (execOp a.eval o).run P w = .ok (.enter f (args.toList.map a.eval).toArray) w := by
    simp only [execOp, ho, resolve, Act.eval, Deferred.ofValue, Sem.run_bind, Sem.run_pure, Result.andThen_ok, invoke, run_callFunc hf]
    congr 2
    apply Array.ext'
    simp
  unfold Oper.wp
  rw [hexec, Oper.upon_enter]
  refine (k I w _ h1 t).mono ?_
  rintro _ w' ⟨v, rfl, J, r, g, kk, rd, s', ex, n⟩
  exact H v J w' r g kk rd s' ex n

theorem simEff_callv {P : Program} {o : Oper} {x : Operand} {rx : ROpd} {args : Array Operand} {tt : Array TypeId} {rs : List ROpd} (ho : o.op = .call { callee := .value x, args := args, argTypes := tt }) (hx : ropd x = some rx) (hr : ropds args.toList = some rs) : SimEff P o (.callv rx rs) := by
  intro I w h a va K s t k next Q H
  have h1 := ropds_rds s hr
  have h2 := ropd_rd s hx
  simp only [aeff] at k
  generalize va rx = p at h2 k
  generalize hv : a.eval x = v at h2
  split at k
  · rename_i f first captured
    obtain ⟨fs, cs, rfl, r1, r2⟩ := h2.inv_func
    have hexec : (execOp a.eval o).run P w = .ok (.enter f (fs ++ args.toList.map a.eval ++ cs).toArray) w := by
      simp only [execOp, ho, resolve, hv, Deferred.ofValue, Sem.run_bind, Sem.run_pure, Result.andThen_ok, invoke, run_callFunc k.1]
      congr 2
      apply Array.ext'
      simp
    unfold Oper.wp
    rw [hexec, Oper.upon_enter]
    refine (k.2 I w _ ((r1.append h1).append r2) t).mono ?_
    rintro _ w' ⟨v, rfl, J, r, g, kk, rd, s', ex, n⟩
    exact H v J w' r g kk rd s' ex n
  · exact k.elim

/-- A new owned object. -/
theorem alloc_sat {w : World} {I : Imm} {h : AHeap} (s : Sat w I h) (ob : Obj) (x : AObj) (hx : ObjSat I (w.alloc ob) w.heap.size x) :
    h w.heap.size = none ∧ Sat (w.alloc ob) I (h.upd w.heap.size x) ∧ Ext h w (w.alloc ob) ∧ New w I I h (h.upd w.heap.size x) := by
  have hold : ∀ k, k < w.heap.size → (w.alloc ob).heap[k]? = w.heap[k]? := by
    intro k hk
    show (w.heap.push _)[k]? = _
    rw [Array.getElem?_push, if_neg (by omega)]
  have hnone : h w.heap.size = none := by
    cases hh : h w.heap.size with
    | none => rfl
    | some x => have := s.lt hh; omega
  refine ⟨hnone, ⟨?_, ?_, ?_⟩, ⟨rfl, rfl, rfl, by simp, fun k hk _ => hold k hk⟩, ⟨Imm.le_refl I, ?_, fun b o v hb => .inl hb⟩⟩
  · intro b o hb
    by_cases hbb : b = w.heap.size
    · subst hbb; rw [upd_same] at hb; cases hb; exact hx
    · rw [upd_ne _ _ _ hbb] at hb; exact (s.obj b o hb).mono (Imm.le_refl I) (hold b (s.lt hb))
  · intro b o v hb
    rw [World.cell?_alloc_lt _ _ _ (s.imm_lt hb)]
    exact s.imm b o v hb
  · intro b o v hb
    have := s.imm_lt hb
    rw [upd_ne _ _ _ (by omega)]
    exact s.dis b o v hb
  · intro b o hb
    by_cases hbb : b = w.heap.size
    · exact .inr (by omega)
    · rw [upd_ne _ _ _ hbb] at hb; exact .inl (by rw [hb]; simp)

theorem alloc_get (w : World) (ob : Obj) : (w.alloc ob).heap[w.heap.size]? = some ob := by
  show (w.heap.push ob)[w.heap.size]? = _
  rw [Array.getElem?_push, if_pos rfl]
theorem objSat_new {I : Imm} {w : World} {cs : List AV} {vs : List Value} (ty : TypeId) (r : Rds I cs vs) (h1 : Ones vs) : ObjSat I (w.alloc (.cells vs.toArray ty)) w.heap.size (.blk cs cs.length ty) := by
  refine ⟨vs, alloc_get _ _, by rw [r.len], Nat.le_refl _, ?_, ?_⟩
  · rw [r.len, List.take_length]; exact r
  · rw [r.len, List.take_length]; exact h1

theorem simEff_box {P : Program} {o : Oper} {ty : TypeId} {x : Operand} {rx : ROpd} (ho : o.op = .box ty x) (hx : ropd x = some rx) : SimEff P o (.box ty rx) := by
  intro I w h a va K s t k next Q H
  have h1 := ropd_rd s hx
  simp only [aeff] at k
  cases hc : (va rx).cells? with
  | none => simp [hc, okCells] at k
  | some ds =>
    simp only [hc, okCells, afresh] at k
    obtain ⟨vs, hv, r, r1⟩ := cells_rds h1 hc
    obtain ⟨g1, g2, g3, g4⟩ := alloc_sat t (.cells vs.toArray ty) (.blk ds ds.length ty) (objSat_new ty r r1)
    have hexec : (execOp a.eval o).run P w = .ok (.value (.pointer (some ⟨w.heap.size, 0, none⟩))) (w.alloc (.cells vs.toArray ty)) := by
      simp [execOp, ho, Instr.box, newVar, newRow, hv]
    unfold Oper.wp
    rw [hexec, Oper.upon_value]
    exact H _ I _ _ _ (k _ g1) (.ptr _) g2 g3 g4

theorem simEff_alloc {P : Program} {o : Oper} {ty : TypeId} {it : TypeInfo} {z : Value} {zs : List AV} (ho : o.op = .alloc ty) (hi : P.info? ty = some it) (hz : it.zero = some z) (hzs : ofVs z.cells.toList = some zs) : SimEff P o (.alloc ty zs) := by
  intro I w h a va K s t k next Q H
  simp only [aeff, afresh] at k
  obtain ⟨g1, g2, g3, g4⟩ := alloc_sat t (.cells z.cells.toList.toArray ty) (.blk zs zs.length ty) (objSat_new ty (ofVs_rds I hzs) (ofVs_ones hzs))
  have hexec : (execOp a.eval o).run P w = .ok (.value (.pointer (some ⟨w.heap.size, 0, none⟩))) (w.alloc (.cells z.cells.toList.toArray ty)) := by
    simp [execOp, ho, Instr.alloc, zeroValue, typeInfo, hi, hz, newVar, newRow]
  unfold Oper.wp
  rw [hexec, Oper.upon_value]
  exact H _ I _ _ _ (k _ g1) (.ptr _) g2 g3 g4

theorem simEff_bsle {P : Program} {o : Oper} {t el : TypeId} {ie : TypeInfo} {z : Value} {len : Nat} {parts : Array (Nat × Operand)} {zs : List AV} {ps : List (Nat × Nat × ROpd)} (ho : o.op = .buildSlice t len parts) (hu : P.underlying t = some (.slice el)) (hie : P.info? el = some ie) (hz : ie.zero = some z)
    (hsmall : ¬ len * ie.size > 2 ^ 24) (hzs : ofVs (bslZero (if len * ie.size = 0 then #[] else z.cells) (len * ie.size)) = some zs) (hps : rparts (fun i => some (i * ie.size, ie.size)) parts.toList = some ps) : SimEff P o (.bsle el ie.size len zs ps) := by
  intro I w h a va K s t' k next Q H
  simp only [aeff] at k
  cases hcs : afill zs (evParts va ps) with
  | none => simp [hcs, okCells] at k
  | some cs =>
    simp only [hcs, okCells, afresh] at k
    obtain ⟨res, hrun, hrd, hone, hlen⟩ := bsl_run (P := P) (w := w) s hu hie hz hsmall hzs hps hcs
    obtain ⟨g1, g2, g3, g4⟩ := alloc_sat t' (.cells res.toList.toArray el) (.blk cs cs.length el) (objSat_new el hrd hone)
    have hexec : (execOp a.eval o).run P w = .ok (.value (.slice (some ⟨w.heap.size, 0, none⟩) len len)) (w.alloc (.cells res.toList.toArray el)) := by
      simp only [execOp, ho, Sem.run_bind, hrun, Result.andThen_ok, Sem.run_pure, Array.toArray_toList]
    unfold Oper.wp
    rw [hexec, Oper.upon_value]
    exact H _ I _ _ _ (k _ g1) (.os _ _ _) g2 g3 g4

theorem simEff_mkmap {P : Program} {o : Oper} {ty : TypeId} (ho : o.op = .makeMap ty none) : SimEff P o .mkmap := by
  intro I w h a va K s t k next Q H
  simp only [aeff, afresh] at k
  obtain ⟨g1, g2, g3, g4⟩ := alloc_sat t (.map #[] 0) (.mp []) ⟨#[], 0, alloc_get _ _, by simpa using Rds.nil I, by simpa using Rds.nil I, by simp, by simp⟩
  have hexec : (execOp a.eval o).run P w = .ok (.value (.map (some w.heap.size))) (w.alloc (.map #[] 0)) := by
    simp [execOp, ho, Instr.makeMap]
  unfold Oper.wp
  rw [hexec, Oper.upon_value]
  exact H _ I _ _ _ (k _ g1) (.map _) g2 g3 g4

/-- A store into an owned block. -/
theorem setRow_sat {w : World} {I : Imm} {h : AHeap} (s : Sat w I h) {b total : Nat} {ty : TypeId} {cs : List AV} (hb : h b = some (.blk cs total ty)) {vs us : List Value} (hw : w.heap[b]? = some (.cells vs.toArray ty (0, 0))) (hl : us.length = total)
    {ds : List AV} (hd : ds.length ≤ total) (r : Rds I ds (us.take ds.length)) (h1 : Ones (us.take ds.length)) :
    let w' := w.setRow b us.toArray
    Sat w' I (h.upd b (.blk ds total ty)) ∧ Ext h w w' ∧ New w I I h (h.upd b (.blk ds total ty)) := by
  intro w'
  refine ⟨⟨?_, ?_, ?_⟩, ⟨rfl, rfl, rfl, by simp [w'], ?_⟩, ⟨Imm.le_refl I, ?_, fun b o v hb => .inl hb⟩⟩
  · intro c o hc
    by_cases hcb : c = b
    · subst hcb
      rw [upd_same] at hc; cases hc
      exact ⟨us, setRow_heap w c _ _ _ _ hw, hl, hd, r, h1⟩
    · rw [upd_ne _ _ _ hcb] at hc
      exact (s.obj c o hc).mono (Imm.le_refl I) (setRow_other w b c _ hcb)
  · intro c o v hc
    have hcb : c ≠ b := by
      intro hh; subst hh
      have := s.dis c o v hc; rw [hb] at this; cases this
    rw [cell_setRow_other w b _ ⟨c, o, none⟩ hcb]
    exact s.imm c o v hc
  · intro c o v hc
    have hcb : c ≠ b := by
      intro hh; subst hh
      have := s.dis c o v hc; rw [hb] at this; cases this
    rw [upd_ne _ _ _ hcb]
    exact s.dis c o v hc
  · intro k hk hn
    exact setRow_other w b k _ (by intro hh; subst hh; rw [hb] at hn; cases hn)
  · intro c o hc
    by_cases hcb : c = b
    · subst hcb; exact .inl (by rw [hb]; simp)
    · rw [upd_ne _ _ _ hcb] at hc; exact .inl (by rw [hc]; simp)

theorem simEff_store {P : Program} {o : Oper} {ty : TypeId} {i : TypeInfo} {x y : Operand} {rx ry : ROpd} (ho : o.op = .store ty x y) (hi : P.info? ty = some i) (hx : ropd x = some rx) (hy : ropd y = some ry) : SimEff P o (.store i.size rx ry) := by
  intro I w h a va K s t k next Q H
  have h1 := ropd_rd s hx
  have h2 := ropd_rd s hy
  simp only [aeff] at k
  generalize va rx = p at h1 k
  generalize va ry = q at h2 k
  generalize hvx : a.eval x = vx at h1
  generalize hvy : a.eval y = vy at h2
  cases hst : astore h i.size p q with
  | none => simp [hst, okOr] at k
  | some g =>
    simp only [hst, okOr] at k
    unfold astore at hst
    split at hst
    · rename_i b o' ds hds
      have := h1.inv_ptr; subst this
      cases hb : h b with
      | none => simp [hb] at hst
      | some ob =>
        cases ob with
        | mp es => simp [hb] at hst
        | tail _ _ _ => simp [hb] at hst
        | blk cs total tb =>
          simp only [hb] at hst
          split at hst
          · rename_i hc
            simp only [Option.some.injEq] at hst; subst hst
            obtain ⟨us, hu, r, r1⟩ := cells_rds h2 hds
            obtain ⟨vs, g1, g2, g3, g4, g5⟩ := t.obj _ _ hb
            have hlen : us.length = i.size := by rw [← r.len]; exact hc.1
            have hle : o' + us.length ≤ vs.length := by rw [hlen]; have := hc.2; omega
            have hrun := run_storeCells_at (P := P) b o' tb us 0 vs.toArray w g1 (by simpa using hle) r1.mem
            have hsp : (splice vs o' us).length = total := by rw [splice_length _ _ _ hle, g2]
            have htake : (splice vs o' us).take cs.length = splice (vs.take cs.length) o' us := by
              have e1 : o' + us.length ≤ cs.length := by rw [hlen]; exact hc.2
              unfold splice
              rw [List.take_append, List.take_append]
              simp only [List.length_take]
              rw [List.take_take, Nat.min_eq_left (show o' ≤ vs.length by omega), List.take_of_length_le (show us.length ≤ cs.length - o' by omega), List.take_take, Nat.min_comm cs.length o', List.drop_take]
              congr 3
              omega
            have hset := setRow_sat t hb g1 hsp (ds := splice cs o' ds) (by rw [splice_length]; exact g3; rw [hc.1]; exact hc.2)
              (by rw [splice_length _ _ _ (by rw [hc.1]; exact hc.2), htake]; exact g4.splice r o')
              (by rw [splice_length _ _ _ (by rw [hc.1]; exact hc.2), htake]; exact g5.splice r1 o')
            obtain ⟨k1, k2, k3⟩ := hset
            have hexec : (execOp a.eval o).run P w = .ok .skip (w.setRow b (splice vs o' us).toArray) := by
              have hsz : (Go.sizeOf ty).run P w = .ok i.size w := by simp [Go.sizeOf, typeInfo, hi]
              have hne : ¬ vy.cells.size ≠ i.size := by rw [hu]; simp [hlen]
              simp only [execOp, ho, hvx, hvy, Instr.storeAt, Instr.sureAddr, storeVar, Sem.run_bind, Sem.run_pure, Result.andThen_ok, hsz]
              rw [if_neg hne, hu]
              simp only [hrun, Result.andThen_ok]
              simp [splice]
            unfold Oper.wp
            rw [hexec, Oper.upon_skip]
            exact H undef I _ _ _ k (.any _) k1 k2 k3
          · cases hst
    · cases hst

end Pg
