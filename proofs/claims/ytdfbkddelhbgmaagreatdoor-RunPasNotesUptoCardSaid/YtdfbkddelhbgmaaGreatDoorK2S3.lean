import Derived.Test.YtdfbkddelhbgmaaGreatDoorK1S3
import Derived.IntWalk
set_option linter.all false
namespace Pg
open Go
def aD [GI] (P : Program) (f : FuncId) (args : List AV) (h : AHeap) (K : AV → AHeap → Prop) : Prop :=
 ∀ (I : Imm) (w : World) (vs : List Value), Rds I args vs → Sat w I h →
  Calls P f vs.toArray w fun e w' => ∃ v, e = .returned v ∧ ∃ J r g, K r g ∧ Rd J r v ∧ Sat w' J g ∧ Ext h w w' ∧ New w I J h g
theorem aD.mono [GI] {P : Program} {f : FuncId} {args : List AV} {h : AHeap} {K K' : AV → AHeap → Prop} (c : aD P f args h K) (m : ∀ r g, K r g → K' r g) : aD P f args h K' :=
 fun I w vs r s => (c I w vs r s).mono fun e w' ⟨v, he, J, a, g, k, rest⟩ => ⟨v, he, J, a, g, m _ _ k, rest⟩
theorem aD.frame [GI] {P : Program} {f : FuncId} {args : List AV} {h g : AHeap} {K : AV → AHeap → Prop} (c : aD P f args h K) (a : h.apart g) : aD P f args (h.join g) (fun r k => ∃ h', k = h'.join g ∧ h'.apart g ∧ K r h') := by
 intro I w vs r s
 refine (c I w vs r (s.forget (AHeap.rT h g))).mono ?_
 rintro e w' ⟨v, he, J, x, h', k, rd, s', ex, n⟩
 obtain ⟨t1, t2, t3, t4⟩ := Sat.frame s a s' ex n
 exact ⟨v, he, J, x, h'.join g, ⟨h', rfl, t2, k⟩, rd, t1, t3, t4⟩
inductive REff where
 | store (size : Nat) (x v : aV)
 | box (ty : TypeId) (x : aV)
 | alloc (ty : TypeId) (zero : List AV)
 | q9
 | vG (ty : TypeId) (size len : Nat) (zero : List AV) (parts : List (Nat × Nat × aV))
 | append (ty : TypeId) (size bytes : Nat) (s x : aV)
 | r6 (ty : TypeId) (bytes : Nat) (zero : AV) (s n : aV)
 | D4 (ty : TypeId) (bytes : Nat) (zero : AV) (len cap : aV)
 | BJ (ks : List Nat) (m k v : aV)
 | call (f : FuncId) (args : List aV)
 | yU (f : aV) (args : List aV)
 | inv (name : String) (x : aV) (args : List aV)
 | rng (x : aV)
 | DT (x : aV)
 | D1 (x : aV)
 | nxt (x : aV)
 deriving Inhabited
def iY (h : AHeap) (K : Nat → Prop) : Prop := ∀ b, h b = none → K b
def mB (h : AHeap) (size : Nat) (p v : AV) : Option AHeap :=
 match p, v.cells? with
 | .ptr (some ⟨b, o, none⟩), some ds =>
  match h b with
  | some (.blk cs total ty) => if ds.length = size ∧ o + size ≤ cs.length then some (h.upd b (.blk (bM cs o ds) total ty)) else none
  | _ => none
 | _, _ => none
def sH (o : Option AHeap) (K : AHeap → Prop) : Prop := match o with | some h => K h | none => False
def gJ (o : Option (List AV)) (K : List AV → Prop) : Prop := match o with | some h => K h | none => False
def XO (s : ByteArray) : List AV := s.data.toList.map fun b => .int .u8 b.toNat
def lG (h : AHeap) (size : Nat) : AV → Option (Nat × List AV)
 | .sl es _ => some (es.length, es.flatten)
 | .gs es _ _ => some (es.length, es.flatten)
 | .os b n _ => match h b with
  | some (.blk cs _ _) => if n * size ≤ cs.length then some (n, cs.take (n * size)) else none
  | _ => none
 | .str s => if size = 1 then some (s.size, XO s) else none
 | _ => none
def rP (o : Option (Nat × List AV)) (K : Nat → List AV → Prop) : Prop := match o with | some (n, l) => K n l | none => False
def rG (size : Nat) : AV → Prop
 | .sl es _ => ∀ e ∈ es, e.length = size
 | .gs es _ _ => ∀ e ∈ es, e.length = size
 | _ => True
def roomFor (n bytes : Nat) : Prop := (2 * n + 1024) * bytes ≤ 2 ^ 48
def gZ (h : AHeap) (ty : TypeId) (size bytes : Nat) (s : AV) (m : Nat) (xs : List AV) (K : AV → AHeap → Prop) : Prop :=
 match s with
 | .sl es full =>
  (m = 0 → K s h) ∧ (m ≠ 0 → full = true ∧ roomFor (es.length + m) bytes ∧ (∀ e ∈ es, e.length = size) ∧ ((∀ b cap, h b = none → es.length + m ≤ cap → K (.os b (es.length + m) cap) (h.upd b (.blk (es.flatten ++ xs) (cap * size) ty))) ∨
   (∀ b cap, h b = none → es.length + m ≤ cap → K (.gs (es ++ chunks size m xs) b cap) (h.upd b (.tail ((es.length + m) * size) (cap * size) ty)))))
 | .gs es b cap =>
  match h b with
  | some (.tail q total ty') => ty' = ty ∧ total = cap * size ∧ q = es.length * size ∧ es.length ≤ cap ∧ (∀ e ∈ es, e.length = size) ∧ roomFor (es.length + m) bytes ∧
    ∀ b' cap', h.del b b' = none → es.length + m ≤ cap' → K (.gs (es ++ chunks size m xs) b' cap') ((h.del b).upd b' (.tail ((es.length + m) * size) (cap' * size) ty))
  | _ => False
 | .os b n cap =>
  match h b with
  | some (.blk cs total ty') => ty' = ty ∧ total = cap * size ∧ n ≤ cap ∧ n * size ≤ cs.length ∧ roomFor (n + m) bytes ∧
    ∀ b' cap', h.del b b' = none → n + m ≤ cap' → K (.os b' (n + m) cap') ((h.del b).upd b' (.blk (cs.take (n * size) ++ xs) (cap' * size) ty))
  | _ => False
 | _ => False
def eD (P : Program) (f : FuncId) : Bool :=
 match P.funcs[f]? with
 | some fn => fn.name != "runtime.NumGoroutine" && fn.body.isSome
 | none => false
theorem sF {P : Program} {f : FuncId} (h : eD P f = true) (args : Array Value) (w : World) : (callFunc f args).run P w = .ok (.enter f args) w := by
 unfold eD at h
 split at h
 ·rename_i fn hf
  simp only [Bool.and_eq_true, bne_iff_ne] at h
  obtain ⟨h1, h2⟩ := h
  cases hb : fn.body with
  | none => rw [hb] at h2; cases h2
  | some c => simp [callFunc, hf, h1, hb]
 ·cases h
def tR (ks : List Nat) (k v : AV) : List (AV × AV) → Option (List (AV × AV))
 | [] => some [(k, v)]
 | (x, u) :: r => match oI ks k x with
  | some true => some ((k, v) :: r)
  | some false => (tR ks k v r).map ((x, u) :: ·)
  | none => none
def RB (h : AHeap) (x : AV) (K : AV → AHeap → Prop) : Prop := match x with
 | .map none => iY h fun b => K (.ptr (some ⟨b, 0, none⟩)) (h.upd b (.it none 0 [] 0))
 | .map (some m) => match h m with
  | some (.mp es) => ∀ (bs : List Nat) (clock : Nat), bs.length = es.length → bs.Nodup → (∀ s ∈ bs, s < clock) → iY h fun b => K (.ptr (some ⟨b, 0, none⟩)) ((h.upd m (.mpc es bs clock)).upd b (.it (some m) clock [] clock))
  | _ => False
 | _ => False
def RF (h : AHeap) (x : AV) (K : AV → AHeap → Prop) : Prop := match x with
 | .ptr (some ⟨b, 0, none⟩) => match h b with
  | some (.it none _ _ _) => K (.tuple [.bool false]) h
  | some (.it (some m) since seen last) => match h m with
   | some (.mpc es bs clock) => (∀ s ∈ bs, s < since) ∧ since ≤ last ∧
    (∀ (i : Nat) (e : AV × AV) (s : Nat), es[i]? = some e → bs[i]? = some s → s ∉ seen → K (.tuple [.bool true, e.1, e.2]) (h.upd b (.it (some m) since (seen ++ [s]) clock))) ∧ ((∀ s ∈ bs, s ∈ seen) → K (.tuple [.bool false]) h)
   | _ => False
  | _ => False
 | _ => False
def KZ (h : AHeap) (x : AV) (K : AV → AHeap → Prop) : Prop := match x with
 | .str s => iY h fun b => K (.ptr (some ⟨b, 0, none⟩)) (h.upd b (.sit s 0))
 | _ => False
def CB (h : AHeap) (x : AV) (K : AV → AHeap → Prop) : Prop := match x with
 | .ptr (some ⟨b, 0, none⟩) => match h b with
  | some (.sit s pos) => if pos < s.size then ∀ wd : Nat, ((s.get! pos).toNat < 128 → wd = 1) → K (.tuple [.bool true, .int .i64 pos, .any]) (h.upd b (.sit s (pos + wd))) else K (.tuple [.bool false]) h
  | _ => False
 | _ => False
def AD (P : Program) (t : TypeId) (name : String) : Option FuncId := match P.info? t with
 | some it => match it.methods.find? (·.name == name) with
  | some m => if m.path.isEmpty then match m.func, P.underlying t with
   | some (f, true), some (.pointer _) => some f
   | some (f, false), some (.struct _) => some f
   | _, _ => none else none
  | none => none
 | none => none
def eY [GI] (P : Program) (va : aV → AV) (h : AHeap) (K : AV → AHeap → Prop) : REff → Prop
 | .store size x v => sH (mB h size (va x) (va v)) (K .any)
 | .box ty x => gJ (va x).cells? fun ds => iY h fun b => K (.ptr (some ⟨b, 0, none⟩)) (h.upd b (.blk ds ds.length ty))
 | .alloc ty zero => iY h fun b => K (.ptr (some ⟨b, 0, none⟩)) (h.upd b (.blk zero zero.length ty))
 | .q9 => iY h fun b => K (.map (some b)) (h.upd b (.mp []))
 | .vG ty size len zero parts => gJ (mE zero (fO va parts)) fun cs => iY h fun b => K (.os b len len) (h.upd b (.blk cs cs.length ty))
 | .append ty size bytes s x => rP (lG h size (va x)) fun m xs => rG size (va x) ∧ gZ h ty size bytes (va s) m xs K
 | .r6 ty bytes zero s n => match va n with
  | .int .i64 m => 0 ≤ m ∧ m ≤ 9223372036854775807 ∧ m * bytes ≤ 2 ^ 48 ∧ gZ h ty 1 bytes (va s) m.toNat (List.replicate m.toNat zero) K
  | _ => False
 | .D4 ty bytes zero len cap => match va len, va cap with
  | .int .i64 l, .int .i64 c => l = c ∧ 0 ≤ l ∧ l ≤ 9223372036854775807 ∧ (bytes : Int) * l ≤ 2 ^ 48 ∧ iY h fun b => K (.os b l.toNat l.toNat) (h.upd b (.blk (List.replicate l.toNat zero) l.toNat ty))
  | _, _ => False
 | .BJ ks m k v => match va m with
  | .map (some r) => match h r with
   | some (.mp es) => match tR ks (va k) (va v) es with
    | some es' => mM ks (va k) = true ∧ K .any (h.upd r (.mp es'))
    | none => False
   | _ => False
  | _ => False
 | .call f args => aD P f (args.map va) h K
 | .yU f args => match va f with
  | .func (.func f) first captured => eD P f = true ∧ aD P f (first ++ args.map va ++ captured) h K
  | _ => False
 | .inv name x args => match va x with
  | .iface t v => match AD P t name with
   | some f => eD P f = true ∧ aD P f (v :: args.map va) h K
   | none => False
  | _ => False
 | .rng x => RB h (va x) K
 | .DT x => KZ h (va x) K
 | .D1 x => CB h (va x) K
 | .nxt x => RF h (va x) K
def kK [GI] (P : Program) (o : Oper) (r : REff) : Prop :=
 ∀ (I : Imm) (w : World) (h : AHeap) (a : Act) (va : aV → AV) (K : AV → AHeap → Prop), qU I va a → Sat w I h → eY P va h K r →
  ∀ (next : Act → World → Prop) (Q : Exit → Act → World → Prop),
   (∀ v J w' av g, K av g → Rd J av v → Sat w' J g → Ext h w w' → New w I J h g → next (a.put o.dst v) w') → o.wp P a w next Q
theorem UG [GI] {P : Program} {o : Oper} {f : FuncId} {args : Array Operand} {tt : Array TypeId} {rs : List aV} (ho : o.op = .call { callee := .value (.func f), args := args, argTypes := tt }) (hf : eD P f = true) (hr : mU args.toList = some rs) : kK P o (.call f rs) := by
 intro I w h a va K s t k next Q H
 have h1 := pK s hr
 have hexec : (execOp a.eval o).run P w = .ok (.enter f (args.toList.map a.eval).toArray) w := by
  simp only [execOp, ho, resolve, Act.eval, Deferred.ofValue, Sem.run_bind, Sem.run_pure, Result.andThen_ok, invoke, sF hf]
  congr 2
  apply Array.ext'
  simp
 unfold Oper.wp
 rw [hexec, Oper.upon_enter]
 refine (k I w _ h1 t).mono ?_
 rintro _ w' ⟨v, rfl, J, r, g, kk, rd, s', ex, n⟩
 exact H v J w' r g kk rd s' ex n
theorem PI [GI] {P : Program} {o : Oper} {x : Operand} {rx : aV} {args : Array Operand} {tt : Array TypeId} {rs : List aV} (ho : o.op = .call { callee := .value x, args := args, argTypes := tt }) (hx : bF x = some rx) (hr : mU args.toList = some rs) : kK P o (.yU rx rs) := by
 intro I w h a va K s t k next Q H
 have h1 := pK s hr
 have h2 := bR s hx
 simp only [eY] at k
 generalize va rx = p at h2 k
 generalize hv : a.eval x = v at h2
 split at k
 ·rename_i f first captured
  obtain ⟨fs, cs, rfl, r1, r2⟩ := h2.aCK
  have hexec : (execOp a.eval o).run P w = .ok (.enter f (fs ++ args.toList.map a.eval ++ cs).toArray) w := by
   simp only [execOp, ho, resolve, hv, Deferred.ofValue, Sem.run_bind, Sem.run_pure, Result.andThen_ok, invoke, sF k.1]
   congr 2
   apply Array.ext'
   simp
  unfold Oper.wp
  rw [hexec, Oper.upon_enter]
  refine (k.2 I w _ ((r1.append h1).append r2) t).mono ?_
  rintro _ w' ⟨v, rfl, J, r, g, kk, rd, s', ex, n⟩
  exact H v J w' r g kk rd s' ex n
 ·exact k.elim
theorem X2 {P : Program} {t : TypeId} {name : String} {f : FuncId} (h : AD P t name = some f) (d : Nat) (v : Value) (w : World) : (method (d + 1) t v name).run P w = .ok (f, v) w := by
 unfold AD at h
 split at h
 ·rename_i it hi
  split at h
  ·rename_i m hm
   split at h
   ·rename_i hp
    have hp' : m.path.toList = [] := by simpa using hp
    split at h
    ·rename_i g el hf hu
     cases h
     simp [method, typeInfo, hi, hm, hp', follow, hf, receiverAt, run_underlying hu, Place.get]
    ·rename_i g fs hf hu
     cases h
     simp [method, typeInfo, hi, hm, hp', follow, hf, receiverAt, run_underlying hu, Place.get]
    ·cases h
   ·cases h
  ·cases h
 ·cases h
theorem XZ [GI] {P : Program} {o : Oper} {x : Operand} {rx : aV} {name : String} {args : Array Operand} {tt : Array TypeId} {rs : List aV} (ho : o.op = .call { callee := .invoke x name, args := args, argTypes := tt }) (hx : bF x = some rx) (hr : mU args.toList = some rs) : kK P o (.inv name rx rs) := by
 intro I w h a va K s t k next Q H
 have h1 := pK s hr
 have h2 := bR s hx
 simp only [eY] at k
 generalize va rx = p at h2 k
 generalize hv : a.eval x = v at h2
 split at k
 ·rename_i ty av
  split at k
  ·rename_i f hf
   obtain ⟨u, rfl, r⟩ := h2.NP
   have hexec : (execOp a.eval o).run P w = .ok (.enter f (u :: args.toList.map a.eval).toArray) w := by
    have hm := X2 hf (P.types.size + 99) u w
    have hx : (#[Value.iface ty u] ++ args.map a.eval).extract 1 (#[Value.iface ty u] ++ args.map a.eval).size = args.map a.eval := by
     apply Array.ext'
     simp
     exact List.take_of_length_le (by simp)
    have h0 : (#[Value.iface ty u] ++ args.map a.eval)[0]? = some (.iface ty u) := by rw [Array.getElem?_append_left (by simp)]; rfl
    simp only [execOp, ho, resolve, hv, Sem.run_bind, Sem.run_pure, Result.andThen_ok, invoke, h0, callMethod, hx, run_program]
    rw [show P.types.size + Made.depth = P.types.size + 99 + 1 from rfl, hm]
    simp only [Result.andThen_ok, sF k.1]
    congr 2
    apply Array.ext'
    simp
   unfold Oper.wp
   rw [hexec, Oper.upon_enter]
   refine (k.2 I w _ (.cons r h1) t).mono ?_
   rintro _ w' ⟨v, rfl, J, r, g, kk, rd, s', ex, n⟩
   exact H v J w' r g kk rd s' ex n
  ·exact k.elim
 ·exact k.elim
theorem lQ [GI] {w : World} {I : Imm} {h : AHeap} (s : Sat w I h) (ob : Obj) (x : AObj) (hx : tB I (w.alloc ob) w.heap.size x) :
  h w.heap.size = none ∧ Sat (w.alloc ob) I (h.upd w.heap.size x) ∧ Ext h w (w.alloc ob) ∧ New w I I h (h.upd w.heap.size x) := by
 have hold : ∀ k, k < w.heap.size → (w.alloc ob).heap[k]? = w.heap[k]? := by
  intro k hk
  show (w.heap.push _)[k]? = _
  rw [Array.getElem?_push, if_neg (by omega)]
 have hnone : h w.heap.size = none := by
  cases hh : h w.heap.size with
  | none => rfl
  | some x => have := s.lt hh; omega
 refine ⟨hnone, ⟨s.pD, ?_, ?_, ?_⟩, ⟨rfl, rfl, rfl, by simp, fun k hk _ => hold k hk⟩, ⟨Imm.le_refl I, ?_, fun b o v hb => .inl hb⟩⟩
 ·intro b o hb
  by_cases hbb : b = w.heap.size
  ·subst hbb; rw [aA] at hb; cases hb; exact hx
  ·rw [aC _ _ _ hbb] at hb; exact (s.obj b o hb).mono (Imm.le_refl I) (hold b (s.lt hb))
 ·intro b o v hb
  rw [World.cell?_alloc_lt _ _ _ (s.z6 hb)]
  exact s.imm b o v hb
 ·intro b o v hb
  have := s.z6 hb
  rw [aC _ _ _ (by omega)]
  exact s.dis b o v hb
 ·intro b o hb
  by_cases hbb : b = w.heap.size
  ·exact .inr (by omega)
  ·rw [aC _ _ _ hbb] at hb; exact .inl (by rw [hb]; simp)
theorem pV (w : World) (ob : Obj) : (w.alloc ob).heap[w.heap.size]? = some ob := by
 show (w.heap.push ob)[w.heap.size]? = _
 rw [Array.getElem?_push, if_pos rfl]
theorem sI {I : Imm} {w : World} {cs : List AV} {vs : List Value} (ty : TypeId) (r : Rds I cs vs) (h1 : cV vs) : tB I (w.alloc (.cells vs.toArray ty)) w.heap.size (.blk cs cs.length ty) := by
 refine ⟨vs, pV _ _, by rw [r.len], Nat.le_refl _, ?_, ?_⟩
 ·rw [r.len, List.take_length]; exact r
 ·rw [r.len, List.take_length]; exact h1
theorem X0 [GI] {P : Program} {o : Oper} {ty : TypeId} {x : Operand} {rx : aV} (ho : o.op = .box ty x) (hx : bF x = some rx) : kK P o (.box ty rx) := by
 intro I w h a va K s t k next Q H
 have h1 := bR s hx
 simp only [eY] at k
 cases hc : (va rx).cells? with
 | none => simp [hc, gJ] at k
 | some ds =>
  simp only [hc, gJ, iY] at k
  obtain ⟨vs, hv, r, r1⟩ := yS h1 hc
  obtain ⟨g1, g2, g3, g4⟩ := lQ t (.cells vs.toArray ty) (.blk ds ds.length ty) (sI ty r r1)
  have hexec : (execOp a.eval o).run P w = .ok (.value (.pointer (some ⟨w.heap.size, 0, none⟩))) (w.alloc (.cells vs.toArray ty)) := by
   simp [execOp, ho, Instr.box, newVar, newRow, hv]
  unfold Oper.wp
  rw [hexec, Oper.upon_value]
  exact H _ I _ _ _ (k _ g1) (.ptr _) g2 g3 g4
theorem PJ [GI] {P : Program} {o : Oper} {ty : TypeId} {it : TypeInfo} {z : Value} {zs : List AV} (ho : o.op = .alloc ty) (hi : P.info? ty = some it) (hz : it.zero = some z) (hzs : qM z.cells.toList = some zs) : kK P o (.alloc ty zs) := by
 intro I w h a va K s t k next Q H
 simp only [eY, iY] at k
 obtain ⟨g1, g2, g3, g4⟩ := lQ t (.cells z.cells.toList.toArray ty) (.blk zs zs.length ty) (sI ty (tN I hzs) (rR hzs))
 have hexec : (execOp a.eval o).run P w = .ok (.value (.pointer (some ⟨w.heap.size, 0, none⟩))) (w.alloc (.cells z.cells.toList.toArray ty)) := by
  simp [execOp, ho, Instr.alloc, zeroValue, typeInfo, hi, hz, newVar, newRow]
 unfold Oper.wp
 rw [hexec, Oper.upon_value]
 exact H _ I _ _ _ (k _ g1) (.ptr _) g2 g3 g4
theorem UH [GI] {P : Program} {o : Oper} {t el : TypeId} {ie : TypeInfo} {z : Value} {len : Nat} {parts : Array (Nat × Operand)} {zs : List AV} {ps : List (Nat × Nat × aV)} (ho : o.op = .buildSlice t len parts) (hu : P.underlying t = some (.slice el)) (hie : P.info? el = some ie) (hz : ie.zero = some z)
  (hsmall : ¬ len * ie.size > 2 ^ 24) (hzs : qM (wJ (if len * ie.size = 0 then #[] else z.cells) (len * ie.size)) = some zs) (hps : qN (fun i => some (i * ie.size, ie.size)) parts.toList = some ps) : kK P o (.vG el ie.size len zs ps) := by
 intro I w h a va K s t' k next Q H
 simp only [eY] at k
 cases hcs : mE zs (fO va ps) with
 | none => simp [hcs, gJ] at k
 | some cs =>
  simp only [hcs, gJ, iY] at k
  obtain ⟨res, hrun, hrd, hone, hlen⟩ := W2 (P := P) (w := w) s hu hie hz hsmall hzs hps hcs
  obtain ⟨g1, g2, g3, g4⟩ := lQ t' (.cells res.toList.toArray el) (.blk cs cs.length el) (sI el hrd hone)
  have hexec : (execOp a.eval o).run P w = .ok (.value (.slice (some ⟨w.heap.size, 0, none⟩) len len)) (w.alloc (.cells res.toList.toArray el)) := by
   simp only [execOp, ho, Sem.run_bind, hrun, Result.andThen_ok, Sem.run_pure, Array.toArray_toList]
  unfold Oper.wp
  rw [hexec, Oper.upon_value]
  exact H _ I _ _ _ (k _ g1) (.os _ _ _) g2 g3 g4
theorem PH [GI] {P : Program} {o : Oper} {ty : TypeId} (ho : o.op = .makeMap ty none) : kK P o .q9 := by
 intro I w h a va K s t k next Q H
 simp only [eY, iY] at k
 obtain ⟨g1, g2, g3, g4⟩ := lQ t (.map #[] 0) (.mp []) ⟨#[], 0, pV _ _, by simpa using Rds.nil I, by simpa using Rds.nil I, by simp, by simp⟩
 have hexec : (execOp a.eval o).run P w = .ok (.value (.map (some w.heap.size))) (w.alloc (.map #[] 0)) := by
  simp [execOp, ho, Instr.makeMap]
 unfold Oper.wp
 rw [hexec, Oper.upon_value]
 exact H _ I _ _ _ (k _ g1) (.map _) g2 g3 g4
theorem AX [GI] {w : World} {I : Imm} {h : AHeap} (s : Sat w I h) {b total : Nat} {ty : TypeId} {cs : List AV} (hb : h b = some (.blk cs total ty)) {vs us : List Value} (hw : w.heap[b]? = some (.cells vs.toArray ty (0, 0))) (hl : us.length = total)
  {ds : List AV} (hd : ds.length ≤ total) (r : Rds I ds (us.take ds.length)) (h1 : cV (us.take ds.length)) :
  let w' := w.setRow b us.toArray
  Sat w' I (h.upd b (.blk ds total ty)) ∧ Ext h w w' ∧ New w I I h (h.upd b (.blk ds total ty)) := by
 intro w'
 refine ⟨⟨s.pD, ?_, ?_, ?_⟩, ⟨rfl, rfl, rfl, by simp [w'], ?_⟩, ⟨Imm.le_refl I, ?_, fun b o v hb => .inl hb⟩⟩
 ·intro c o hc
  by_cases hcb : c = b
  ·subst hcb
   rw [aA] at hc; cases hc
   exact ⟨us, setRow_heap w c _ _ _ _ hw, hl, hd, r, h1⟩
  ·rw [aC _ _ _ hcb] at hc
   exact (s.obj c o hc).mono (Imm.le_refl I) (setRow_other w b c _ hcb)
 ·intro c o v hc
  have hcb : c ≠ b := by
   intro hh; subst hh
   have := s.dis c o v hc; rw [hb] at this; cases this
  rw [cell_setRow_other w b _ ⟨c, o, none⟩ hcb]
  exact s.imm c o v hc
 ·intro c o v hc
  have hcb : c ≠ b := by
   intro hh; subst hh
   have := s.dis c o v hc; rw [hb] at this; cases this
  rw [aC _ _ _ hcb]
  exact s.dis c o v hc
 ·intro k hk hn
  exact setRow_other w b k _ (by intro hh; subst hh; rw [hb] at hn; cases hn)
 ·intro c o hc
  by_cases hcb : c = b
  ·subst hcb; exact .inl (by rw [hb]; simp)
  ·rw [aC _ _ _ hcb] at hc; exact .inl (by rw [hc]; simp)
theorem PG [GI] {P : Program} {o : Oper} {ty : TypeId} {i : TypeInfo} {x y : Operand} {rx ry : aV} (ho : o.op = .store ty x y) (hi : P.info? ty = some i) (hx : bF x = some rx) (hy : bF y = some ry) : kK P o (.store i.size rx ry) := by
 intro I w h a va K s t k next Q H
 have h1 := bR s hx
 have h2 := bR s hy
 simp only [eY] at k
 generalize va rx = p at h1 k
 generalize va ry = q at h2 k
 generalize hvx : a.eval x = vx at h1
 generalize hvy : a.eval y = vy at h2
 cases hst : mB h i.size p q with
 | none => simp [hst, sH] at k
 | some g =>
  simp only [hst, sH] at k
  unfold mB at hst
  split at hst
  ·rename_i b o' ds hds
   have := h1.gL; subst this
   cases hb : h b with
   | none => simp [hb] at hst
   | some ob =>
    cases ob with
    | mp es => simp [hb] at hst
    | mpc _ _ _ => simp [hb] at hst
    | it _ _ _ _ => simp [hb] at hst
    | sit _ _ => simp [hb] at hst
    | tail _ _ _ => simp [hb] at hst
    | blk cs total tb =>
     simp only [hb] at hst
     split at hst
     ·rename_i hc
      simp only [Option.some.injEq] at hst; subst hst
      obtain ⟨us, hu, r, r1⟩ := yS h2 hds
      obtain ⟨vs, g1, g2, g3, g4, g5⟩ := t.obj _ _ hb
      have hlen : us.length = i.size := by rw [← r.len]; exact hc.1
      have hle : o' + us.length ≤ vs.length := by rw [hlen]; have := hc.2; omega
      have hrun := run_storeCells_at (P := P) b o' tb us 0 vs.toArray w g1 (by simpa using hle) r1.mem
      have hsp : (bM vs o' us).length = total := by rw [jG _ _ _ hle, g2]
      have htake : (bM vs o' us).take cs.length = bM (vs.take cs.length) o' us := by
       have e1 : o' + us.length ≤ cs.length := by rw [hlen]; exact hc.2
       unfold bM
       rw [List.take_append, List.take_append]
       simp only [List.length_take]
       rw [List.take_take, Nat.min_eq_left (show o' ≤ vs.length by omega), List.take_of_length_le (show us.length ≤ cs.length - o' by omega), List.take_take, Nat.min_comm cs.length o', List.drop_take]
       congr 3
       omega
      have hset := AX t hb g1 hsp (ds := bM cs o' ds) (by rw [jG]; exact g3; rw [hc.1]; exact hc.2)
       (by rw [jG _ _ _ (by rw [hc.1]; exact hc.2), htake]; exact g4.bM r o')
       (by rw [jG _ _ _ (by rw [hc.1]; exact hc.2), htake]; exact g5.bM r1 o')
      obtain ⟨k1, k2, k3⟩ := hset
      have hexec : (execOp a.eval o).run P w = .ok .skip (w.setRow b (bM vs o' us).toArray) := by
       have hsz : (Go.sizeOf ty).run P w = .ok i.size w := by simp [Go.sizeOf, typeInfo, hi]
       have hne : ¬ vy.cells.size ≠ i.size := by rw [hu]; simp [hlen]
       simp only [execOp, ho, hvx, hvy, Instr.storeAt, Instr.sureAddr, storeVar, Sem.run_bind, Sem.run_pure, Result.andThen_ok, hsz]
       rw [if_neg hne, hu]
       simp only [hrun, Result.andThen_ok]
       simp [bM]
      unfold Oper.wp
      rw [hexec, Oper.upon_skip]
      exact H undef I _ _ _ k (.any _) k1 k2 k3
     ·cases hst
  ·cases hst
end Pg
namespace Pg
open Go
theorem Rds.set {I : Imm} {cs : List AV} {vs : List Value} (r : Rds I cs vs) (j : Nat) {c : AV} {v : Value} (h : Rd I c v) : Rds I (cs.set j c) (vs.set j v) := by
 refine ⟨by simp [r.len], ?_⟩
 intro i c' v' e1 e2
 rw [List.getElem?_set] at e1 e2
 by_cases hij : j = i
 ·subst hij
  simp only [if_true] at e1 e2
  split at e1
  ·rename_i hl
   rw [r.len] at hl
   rw [if_pos hl] at e2
   cases e1; cases e2; exact h
  ·cases e1
 ·rw [if_neg hij] at e1 e2; exact r.at_ i c' v' e1 e2
theorem jH {P : Program} {w : World} {r : Nat} {es : Array MapEntry} {clock : Nat} (hb : w.heap[r]? = some (.map es clock)) : (getObj r).run P w = .ok (.map es clock) w := by
 simp [getObj, Sem.run, hb]
theorem CO {P : Program} {w : World} {r : Nat} {es : Array MapEntry} {clock : Nat} (o : Obj) (hb : w.heap[r]? = some (.map es clock)) : (setObj r o).run P w = .ok () { w with heap := w.heap.setIfInBounds r o } := by
 simp [setObj, Sem.run, hb]
def pW (ks : List Nat) (k : AV) : List (AV × AV) → Option (Option Nat)
 | [] => some none
 | (x, _) :: r => match oI ks k x with
  | some true => some (some 0)
  | some false => (pW ks k r).map fun i => i.map (· + 1)
  | none => none
theorem OB {ks : List Nat} {k : AV} : ∀ {es : List (AV × AV)} {r : Option AV}, s9 ks k es = some r → ∃ i, pW ks k es = some i ∧ r = i.bind fun j => es[j]?.map (·.2)
 | [], r, h => by simp only [s9, Option.some.injEq] at h; subst h; exact ⟨none, rfl, rfl⟩
 | (x, u) :: es, r, h => by
  simp only [s9] at h
  split at h
  ·rename_i hk; simp only [Option.some.injEq] at h; subst h; exact ⟨some 0, by simp [pW, hk], by simp⟩
  ·rename_i hk
   obtain ⟨i, h1, h2⟩ := OB h
   refine ⟨i.map (· + 1), by simp [pW, hk, h1], ?_⟩
   rw [h2]; cases i <;> simp
  ·cases h
theorem Q9 {ks : List Nat} {k v : AV} : ∀ {es es' : List (AV × AV)}, tR ks k v es = some es' → ∃ i, pW ks k es = some i ∧ es' = match i with | none => es ++ [(k, v)] | some j => es.set j (k, v)
 | [], es', h => by simp only [tR, Option.some.injEq] at h; subst h; exact ⟨none, rfl, rfl⟩
 | (x, u) :: es, es', h => by
  simp only [tR] at h
  split at h
  ·rename_i hk; simp only [Option.some.injEq] at h; subst h; exact ⟨some 0, by simp [pW, hk], by simp⟩
  ·rename_i hk
   simp only [Option.map_eq_some_iff] at h
   obtain ⟨l, hl, rfl⟩ := h
   obtain ⟨i, h1, h2⟩ := Q9 hl
   refine ⟨i.map (· + 1), by simp [pW, hk, h1], ?_⟩
   rw [h2]; cases i <;> simp
  ·cases h
theorem MD {ks : List Nat} {k : AV} : ∀ {es : List (AV × AV)} {j : Nat}, pW ks k es = some (some j) → ∃ x, es[j]? = some x ∧ oI ks k x.1 = some true
 | [], j, h => by simp [pW] at h
 | (x, u) :: es, j, h => by
  simp only [pW] at h
  split at h
  ·rename_i hk; simp only [Option.some.injEq] at h; subst h; exact ⟨(x, u), rfl, hk⟩
  ·simp only [Option.map_eq_some_iff] at h
   obtain ⟨i, h1, h2⟩ := h
   obtain ⟨j', rfl, rfl⟩ := h2
   obtain ⟨y, h3, h4⟩ := MD h1
   exact ⟨y, by simpa using h3, h4⟩
  ·cases h
def DU (P : Program) (kt : TypeId) : Option (List Nat) :=
 match P.underlying kt with
 | some .bool => some [0]
 | some (.int _) => some [1]
 | some .string => some [2]
 | some (.struct _) => (kH P 10000 kt).map (3 :: ·)
 | _ => none
def E8 (k : Nat) (d : TypeDesc) : Prop := (k = 0 ∧ d = .bool) ∨ (k = 1 ∧ ∃ j, d = .int j) ∨ (k = 2 ∧ d = .string)
theorem A4 {P : Program} {kt : TypeId} {ks : List Nat} (h : DU P kt = some ks) : (∃ k d, ks = [k] ∧ P.underlying kt = some d ∧ E8 k d) ∨ (∃ fs l, ks = 3 :: l ∧ P.underlying kt = some (.struct fs) ∧ kH P 10000 kt = some l) := by
 unfold DU at h
 split at h
 ·rename_i hu; simp only [Option.some.injEq] at h; exact .inl ⟨0, _, h.symm, hu, .inl ⟨rfl, rfl⟩⟩
 ·rename_i j hu; simp only [Option.some.injEq] at h; exact .inl ⟨1, _, h.symm, hu, .inr (.inl ⟨rfl, _, rfl⟩)⟩
 ·rename_i hu; simp only [Option.some.injEq] at h; exact .inl ⟨2, _, h.symm, hu, .inr (.inr ⟨rfl, rfl⟩)⟩
 ·rename_i fs hu
  simp only [Option.map_eq_some_iff] at h
  obtain ⟨l, hl, rfl⟩ := h
  exact .inr ⟨fs, l, rfl, hu, hl⟩
 ·cases h
theorem xO {k : Nat} {a b : AV} {r : Bool} (hk : k ≠ 3) (h : oI [k] a b = some r) : l9 k a b = some r := by
 unfold oI at h
 split at h
 ·rename_i heq; cases heq; exact absurd rfl hk
 ·rename_i k' he hne; cases he; exact h
 ·cases h
theorem AY {k : Nat} {d : TypeDesc} (h : E8 k d) : k ≠ 3 := by
 rcases h with ⟨rfl, _⟩ | ⟨rfl, _⟩ | ⟨rfl, _⟩ <;> decide
theorem xN {l : List Nat} {a b : AV} {r : Bool} (h : oI (3 :: l) a b = some r) : (∃ x y, a = .agg x ∧ b = .agg y ∧ dI l x y = some r) := by
 unfold oI at h
 split at h
 ·rename_i heq; cases heq; exact ⟨_, _, rfl, rfl, h⟩
 ·rename_i k' he hne
  cases he
  unfold l9 at h
  split at h <;> simp_all
 ·cases h
theorem GH {P : Program} {I : Imm} {k : Nat} {d : TypeDesc} {a b : AV} {va vb : Value} {r : Bool} (hd : E8 k d) (h : l9 k a b = some r) (ha : Rd I a va) (hb : Rd I b vb) : Instr.sameNow d va vb = some r := by
 rcases B3 (P := P) h ha hb with ⟨rfl, m, n, rfl, rfl, rfl⟩ | ⟨rfl, j, m, n, rfl, rfl, rfl⟩ | ⟨rfl, m, n, rfl, rfl, rfl⟩ <;>
  rcases hd with ⟨hk, hd⟩ | ⟨hk, j', hd⟩ | ⟨hk, hd⟩ <;> first | (cases hk; done) | (subst hd; simp [Instr.sameNow])
theorem G9 {P : Program} {I : Imm} {k : Nat} {d : TypeDesc} (hd : E8 k d) {a : AV} {va : Value} (ha : Rd I a va) : ∀ {es : List (AV × AV)} {ms : List MapEntry} {i : Option Nat}, Rds I (es.map (·.1)) (ms.map (·.key)) → pW [k] a es = some i → ∀ s : Nat,
  ∃ res, Instr.findNow d va ms s = some res ∧ (i = none → res = none) ∧ ∀ j, i = some j → ∃ e, ms[j]? = some e ∧ res = some (s + j, e.val)
 | [], ms, i, r, h, s => by
  have := r.of_nil
  simp only [List.map_eq_nil_iff] at this; subst this
  simp only [pW, Option.some.injEq] at h; subst h
  exact ⟨none, rfl, fun _ => rfl, fun j hj => by cases hj⟩
 | (x, u) :: es, ms, i, r, h, s => by
  obtain ⟨v, vs, hv, r1, r2⟩ := r.dN
  cases ms with
  | nil => simp at hv
  | cons e ms =>
   simp only [List.map_cons, List.cons.injEq] at hv
   obtain ⟨rfl, rfl⟩ := hv
   simp only [pW] at h
   split at h
   ·rename_i hk
    simp only [Option.some.injEq] at h; subst h
    have := GH (P := P) hd (xO (AY hd) hk) ha r1
    exact ⟨some (s, e.val), by simp [Instr.findNow, this], (fun hh => by cases hh), fun j hj => by cases hj; exact ⟨e, rfl, by simp⟩⟩
   ·rename_i hk
    simp only [Option.map_eq_some_iff] at h
    obtain ⟨i', h1, rfl⟩ := h
    have := GH (P := P) hd (xO (AY hd) hk) ha r1
    obtain ⟨res, q1, q2, q3⟩ := G9 (P := P) hd ha r2 h1 (s + 1)
    refine ⟨res, by simp [Instr.findNow, this, q1], ?_, ?_⟩
    ·intro hh; cases i' with
     | none => exact q2 rfl
     | some j => cases hh
    ·intro j hj
     cases i' with
     | none => cases hj
     | some j' =>
      simp only [Option.map_some, Option.some.injEq] at hj; subst hj
      obtain ⟨e', h3, h4⟩ := q3 j' rfl
      exact ⟨e', by simpa using h3, by rw [h4]; congr 2; omega⟩
   ·cases h
theorem EJ {P : Program} {I : Imm} {kt : TypeId} {fs : Array Field} {l : List Nat} (hu : P.underlying kt = some (.struct fs)) (hf : kH P 10000 kt = some l) {x y : List AV} {va vb : Value} {r : Bool} (h : dI l x y = some r) (ha : Rd I (.agg x) va) (hb : Rd I (.agg y) vb) (w : World) : (Op.equal kt va vb).run P w = .ok r w := by
 obtain ⟨vx, rfl, rx, _⟩ := ha.mO
 obtain ⟨vy, rfl, ry, _⟩ := hb.mO
 have := EK 10000 kt l hf I w x y vx vy r rx ry h
 simp only [kQ, hu] at this
 exact this
theorem AA {P : Program} {I : Imm} {kt : TypeId} {fs : Array Field} {l : List Nat} (hu : P.underlying kt = some (.struct fs)) (hf : kH P 10000 kt = some l) (w : World) {a : AV} {va : Value} (ha : Rd I a va) : ∀ {es : List (AV × AV)} {ms : List MapEntry} {i : Option Nat}, Rds I (es.map (·.1)) (ms.map (·.key)) → pW (3 :: l) a es = some i → ∀ s : Nat,
  ∃ res, (Instr.findAsking kt va ms s).run P w = .ok res w ∧ (i = none → res = none) ∧ ∀ j, i = some j → ∃ e, ms[j]? = some e ∧ res = some (s + j, e.val)
 | [], ms, i, r, h, s => by
  have := r.of_nil
  simp only [List.map_eq_nil_iff] at this; subst this
  simp only [pW, Option.some.injEq] at h; subst h
  exact ⟨none, by simp [Instr.findAsking], fun _ => rfl, fun j hj => by cases hj⟩
 | (x, u) :: es, ms, i, r, h, s => by
  obtain ⟨v, vs, hv, r1, r2⟩ := r.dN
  cases ms with
  | nil => simp at hv
  | cons e ms =>
   simp only [List.map_cons, List.cons.injEq] at hv
   obtain ⟨rfl, rfl⟩ := hv
   simp only [pW] at h
   split at h
   ·rename_i hk
    simp only [Option.some.injEq] at h; subst h
    obtain ⟨p, q, rfl, rfl, hc⟩ := xN hk
    have := EJ hu hf hc ha r1 w
    exact ⟨some (s, e.val), by simp [Instr.findAsking, this], (fun hh => by cases hh), fun j hj => by cases hj; exact ⟨e, rfl, by simp⟩⟩
   ·rename_i hk
    simp only [Option.map_eq_some_iff] at h
    obtain ⟨i', h1, rfl⟩ := h
    obtain ⟨p, q, rfl, rfl, hc⟩ := xN hk
    have := EJ hu hf hc ha r1 w
    obtain ⟨res, q1, q2, q3⟩ := AA hu hf w ha r2 h1 (s + 1)
    refine ⟨res, by simp [Instr.findAsking, this, q1], ?_, ?_⟩
    ·intro hh; cases i' with
     | none => exact q2 rfl
     | some j => cases hh
    ·intro j hj
     cases i' with
     | none => cases hj
     | some j' =>
      simp only [Option.map_some, Option.some.injEq] at hj; subst hj
      obtain ⟨e', h3, h4⟩ := q3 j' rfl
      exact ⟨e', by simpa using h3, by rw [h4]; congr 2; omega⟩
   ·cases h
theorem HA {P : Program} {I : Imm} {kt : TypeId} {ks : List Nat} (hk : DU P kt = some ks) (w : World) {a : AV} {va : Value} (ha : Rd I a va) {es : List (AV × AV)} {ms : List MapEntry} {i : Option Nat} (r : Rds I (es.map (·.1)) (ms.map (·.key))) (h : pW ks a es = some i) :
  ∃ res, (Instr.findKey kt va ms).run P w = .ok res w ∧ (i = none → res = none) ∧ ∀ j, i = some j → ∃ e, ms[j]? = some e ∧ res = some (j, e.val) := by
 rcases A4 hk with ⟨k, d, rfl, hu, hd⟩ | ⟨fs, l, rfl, hu, hf⟩
 ·obtain ⟨res, q1, q2, q3⟩ := G9 (P := P) hd ha r h 0
  refine ⟨res, by simp [Instr.findKey, run_underlying hu, q1], q2, fun j hj => ?_⟩
  obtain ⟨e, h1, h2⟩ := q3 j hj
  exact ⟨e, h1, by simpa using h2⟩
 ·obtain ⟨res, q1, q2, q3⟩ := AA hu hf w ha r h 0
  cases ms with
  | nil =>
   refine ⟨none, by simp [Instr.findKey, run_underlying hu, Instr.findNow], fun _ => rfl, fun j hj => ?_⟩
   obtain ⟨e, h1, _⟩ := q3 j hj
   simp at h1
  | cons m ms =>
   refine ⟨res, ?_, q2, fun j hj => ?_⟩
   ·have : ∀ x y : Value, Instr.sameNow (.struct fs) x y = none := by intro x y; unfold Instr.sameNow; split <;> simp_all
    simp only [Instr.findKey, Sem.run_bind, run_underlying hu, Result.andThen_ok, Instr.findNow, this]
    exact q1
   ·obtain ⟨e, h1, h2⟩ := q3 j hj
    exact ⟨e, h1, by simpa using h2⟩
theorem N1 {P : Program} (em : Bool) (w : World) : ∀ (d : Nat) (t : TypeId) (l : List Nat), kH P d t = some l → ∀ vs : List Value, vs.length = l.length → (Instr.checkKey em d t (kQ P t vs)).run P w = .ok () w
 | 0, t, l, h => by simp [kH] at h
 | d + 1, t, l, h => by
  intro vs hl
  have h0 := h
  simp only [kH] at h
  split at h
  ·rename_i hu; rw [Instr.checkKey]; simp [run_underlying hu]
  ·rename_i j hu; rw [Instr.checkKey]; simp [run_underlying hu]
  ·rename_i hu; rw [Instr.checkKey]; simp [run_underlying hu]
  ·rename_i fs hu
   split at h
   ·cases h
   ·have e1 : kQ P t vs = .agg vs.toArray := by simp [kQ, hu]
    rw [e1, Instr.checkKey]
    simp only [Sem.run_bind, run_underlying hu, Result.andThen_ok]
    rw [← Array.forIn_toList]
    have hbig : 0 + l.length ≤ vs.length := by omega
    clear h0 e1 hl
    generalize 0 = off at h hbig
    generalize fs.toList = L at h
    induction L generalizing off l with
    | nil => simp
    | cons f L ih =>
     simp only [qG] at h
     split at h
     ·cases h
     ·rename_i hname
      split at h
      ·rename_i ks1 i h1 h2
       split at h
       ·rename_i hsz
        simp only [Option.map_eq_some_iff] at h
        obtain ⟨ks2, h3, rfl⟩ := h
        have hn : f.name ≠ "_" ∧ f.offset = off := by simpa using hname
        have hs : i.size = ks1.length ∧ ¬ ks1 = [] := by simpa using hsz
        simp only [List.length_append] at hbig
        have p1 := HT ks1 d h1 h2 hs.1 w vs off (by omega)
        have p2 := N1 em w d f.type ks1 h1 ((vs.drop off).take ks1.length) (by simp; omega)
        simp only [List.forIn_cons, Sem.run_bind, hn.1, hn.2, ne_eq, not_false_eq_true, if_true, Result.andThen_ok, p1, p2, Sem.run_pure]
        exact ih ks2 (off + ks1.length) (by omega) h3
       ·cases h
      ·cases h
  ·cases h
theorem EP {P : Program} {I : Imm} {kt : TypeId} {ks : List Nat} (hk : DU P kt = some ks) (em : Bool) (w : World) {a : AV} {va : Value} (ha : Rd I a va) (hf : mM ks a = true) : (Instr.checkKey em 10000 kt va).run P w = .ok () w := by
 rcases A4 hk with ⟨k, d, rfl, hu, hd⟩ | ⟨fs, l, rfl, hu, hfl⟩
 ·show (Instr.checkKey em (9999 + 1) kt va).run P w = .ok () w
  rw [Instr.checkKey]
  rcases hd with ⟨_, rfl⟩ | ⟨_, j, rfl⟩ | ⟨_, rfl⟩ <;> simp [run_underlying hu]
 ·cases a with
  | agg x =>
   simp only [mM] at hf
   obtain ⟨vs, rfl, r, _⟩ := ha.mO
   have := N1 em w 10000 kt l hfl vs (by rw [← r.len]; simpa using hf)
   simp only [kQ, hu] at this
   exact this
  | _ =>
   cases l with
   | cons _ _ => simp [mM] at hf
   | nil => simp [mM] at hf
theorem HG {P : Program} {I : Imm} {k : Nat} {a b : AV} {va vb : Value} (h : l9 k a b = some true) (ha : Rd I a va) (hb : Rd I b vb) : va = vb ∧ ∀ n, Instr.sameBits n va vb = true := by
 rcases B3 (P := P) h ha hb with ⟨rfl, m, n, rfl, rfl, hh⟩ | ⟨rfl, j, m, n, rfl, rfl, hh⟩ | ⟨rfl, m, n, rfl, rfl, hh⟩ <;>
  (first
   | (have := of_decide_eq_true ((yV m n).symm.trans hh.symm); subst this; exact ⟨rfl, fun n => by cases n <;> simp only [Instr.sameBits] <;> exact hh.symm⟩)
   | (have := (beq_iff_eq.1 hh.symm); subst this; exact ⟨rfl, fun n => by cases n <;> simp [Instr.sameBits]⟩))
theorem ER {P : Program} {I : Imm} : ∀ {l : List Nat} {X Y : List AV} {VX VY : List Value}, dI l X Y = some true → Rds I X VX → Rds I Y VY → VX = VY ∧ ∀ n, ((VX.zip VY).all fun p => Instr.sameBits n p.1 p.2) = true
 | [], [], [], VX, VY, _, rx, ry => by have := rx.of_nil; have := ry.of_nil; subst_vars; simp
 | [], [], _ :: _, _, _, h, _, _ => by simp [dI] at h
 | [], _ :: _, _, _, _, h, _, _ => by simp [dI] at h
 | _ :: _, [], _, _, _, h, _, _ => by simp [dI] at h
 | _ :: _, _ :: _, [], _, _, h, _, _ => by simp [dI] at h
 | k :: l, x :: X, y :: Y, VX, VY, h, rx, ry => by
  obtain ⟨vx, VX', rfl, hx, rx'⟩ := rx.dN
  obtain ⟨vy, VY', rfl, hy, ry'⟩ := ry.dN
  simp only [dI] at h
  split at h
  ·rename_i p q h1 h2
   simp only [Option.some.injEq, Bool.and_eq_true] at h
   obtain ⟨rfl, rfl⟩ := h
   obtain ⟨rfl, h3⟩ := HG (P := P) h1 hx hy
   obtain ⟨rfl, h4⟩ := ER (P := P) h2 rx' ry'
   exact ⟨rfl, fun n => by simp only [List.zip_cons_cons, List.all_cons, h3 n, h4 n, Bool.and_self]⟩
  ·cases h
theorem YT {P : Program} {I : Imm} {kt : TypeId} {ks : List Nat} (hk : DU P kt = some ks) {a b : AV} {va vb : Value} (h : oI ks a b = some true) (ha : Rd I a va) (hb : Rd I b vb) : va = vb ∧ Instr.sameBits 10000 vb va = true := by
 rcases A4 hk with ⟨k, d, rfl, hu, hd⟩ | ⟨fs, l, rfl, hu, hfl⟩
 ·obtain ⟨rfl, h2⟩ := HG (P := P) (xO (AY hd) h) ha hb
  exact ⟨rfl, h2 _⟩
 ·obtain ⟨x, y, rfl, rfl, hc⟩ := xN h
  obtain ⟨vx, rfl, rx, _⟩ := ha.mO
  obtain ⟨vy, rfl, ry, _⟩ := hb.mO
  obtain ⟨rfl, h2⟩ := ER (P := P) hc rx ry
  refine ⟨rfl, ?_⟩
  show Instr.sameBits (9999 + 1) _ _ = true
  rw [Instr.sameBits]
  simp [h2]
def LZ (P : Program) (t : TypeId) (ok : Bool) (m k : aV) : Option RRead :=
 match P.underlying t with
 | some (.map kt et) => match DU P kt, P.info? et with
  | some ks, some ie => match ie.zero with
   | some (.agg zs) => (qM zs.toList).map fun l => .lookup ks (.agg l) ok m k
   | some z => (ofV z).map fun z => .lookup ks z ok m k
   | none => none
  | _, _ => none
 | _ => none
theorem ZJ [GI] {P : Program} {w : World} {I : Imm} {h : AHeap} (t : Sat w I h) {m : AV} {vm : Value} (r : Rd I m vm) {es : List (AV × AV)} (k : pU h m = some es) :
  ∃ ms : Array MapEntry, (vm = .map none ∧ ms = #[] ∨ ∃ b clock, vm = .map (some b) ∧ w.heap[b]? = some (.map ms clock)) ∧ Rds I (es.map (·.1)) (ms.toList.map (·.key)) ∧ Rds I (es.map (·.2)) (ms.toList.map (·.val)) := by
 unfold pU at k
 split at k
 ·have := r.rU; subst this
  simp only [Option.some.injEq] at k; subst k
  exact ⟨#[], .inl ⟨rfl, rfl⟩, by simpa using Rds.nil I, by simpa using Rds.nil I⟩
 ·rename_i b
  have := r.rU; subst this
  cases hb : h b with
  | none => simp [hb] at k
  | some ob =>
   cases ob with
   | blk _ _ _ => simp [hb] at k
   | tail _ _ _ => simp [hb] at k
   | it _ _ _ _ => simp [hb] at k
   | sit _ _ => simp [hb] at k
   | mpc es' bs c =>
    simp only [hb, Option.some.injEq] at k; subst k
    obtain ⟨ms, g1, g2, g3, g4⟩ := t.obj _ _ hb
    exact ⟨ms, .inr ⟨b, c, rfl, g1⟩, g2, g3⟩
   | mp es' =>
    simp only [hb, Option.some.injEq] at k; subst k
    obtain ⟨ms, c, g1, g2, g3, g4⟩ := t.obj _ _ hb
    exact ⟨ms, .inr ⟨b, c, rfl, g1⟩, g2, g3⟩
 ·cases k
theorem XU [GI] {P : Program} {o : Oper} {t : TypeId} {ok : Bool} {x y : Operand} {rx ry : aV} {r : RRead} (ho : o.op = .lookup t x y ok) (hx : bF x = some rx) (hy : bF y = some ry) (hr : LZ P t ok rx ry = some r) : eH P o r := by
 have key : ∀ (kt et : TypeId) (ks : List Nat) (ie : TypeInfo) (z : Value) (za : AV), P.underlying t = some (.map kt et) → DU P kt = some ks → P.info? et = some ie → ie.zero = some z → (∀ I, Rd I za z) → r = .lookup ks za ok rx ry → eH P o r := by
  intro kt et ks ie z za hu hk hie hz hza hr
  subst hr
  refine .pure fun I w h a va av s t' k => ?_
  have h1 := bR s hx
  have h2 := bR s hy
  simp only [bS] at k
  unfold tS at k
  split at k
  ·rename_i hfit
   split at k
   ·rename_i es hes
    simp only [Option.map_eq_some_iff] at k
    obtain ⟨f, hf, rfl⟩ := k
    obtain ⟨ms, hm, r1, r2⟩ := ZJ (P := P) t' h1 hes
    obtain ⟨i, hi, hfi⟩ := OB hf
    have hck := fun em => EP hk em w h2 hfit
    obtain ⟨res, q1, q2, q3⟩ := HA hk w h2 r1 hi
    have hzv : (zeroValue et).run P w = .ok z w := by simp [zeroValue, typeInfo, hie, hz]
    have hrun : ∃ u, Rd I (match f with | some v => v | none => za) u ∧ (Instr.lookup t (a.eval x) (a.eval y) ok).run P w = .ok (if ok then .tuple #[u, .bool f.isSome] else u) w := by
     cases i with
     | none =>
      have := q2 rfl; subst this
      simp only [Option.bind_none] at hfi; subst hfi
      refine ⟨z, hza I, ?_⟩
      rcases hm with ⟨e1, rfl⟩ | ⟨b, c, e1, e2⟩
      ·simp only [Instr.lookup, Sem.run_bind, run_underlying hu, Result.andThen_ok, e1, Sem.run_pure, hck, q1, hzv]
       cases ok <;> rfl
      ·simp only [Instr.lookup, Sem.run_bind, run_underlying hu, Result.andThen_ok, e1, jH e2, Sem.run_pure, hck, q1, hzv]
       cases ok <;> rfl
     | some j =>
      obtain ⟨e, e1, rfl⟩ := q3 j rfl
      obtain ⟨x', e2, e3⟩ := MD hi
      simp only [Option.bind_some, e2, Option.map_some] at hfi; subst hfi
      refine ⟨e.val, r2.at_ j _ _ (by simp [e2]) (by simp at e1 ⊢; simp [e1]), ?_⟩
      rcases hm with ⟨e1', rfl⟩ | ⟨b, c, e1', e2'⟩
      ·simp at e1
      ·simp only [Instr.lookup, Sem.run_bind, run_underlying hu, Result.andThen_ok, e1', jH e2', Sem.run_pure, hck, q1]
       cases ok <;> rfl
    obtain ⟨u, hu1, hu2⟩ := hrun
    refine ⟨_, by simp only [execOp, ho, Sem.run_bind, hu2, Result.andThen_ok, Sem.run_pure]; rfl, ?_⟩
    cases ok with
    | false => cases f <;> simpa using hu1
    | true =>
     cases f with
     | none => exact .iU (.cons (by simpa using hu1) (.cons (.bool _) (.nil I)))
     | some v => exact .iU (.cons (by simpa using hu1) (.cons (.bool _) (.nil I)))
   ·cases k
  ·cases k
 unfold LZ at hr
 split at hr
 ·rename_i kt et hu
  split at hr
  ·rename_i ks ie hk hie
   split at hr
   ·rename_i zs hz
    simp only [Option.map_eq_some_iff] at hr
    obtain ⟨l, hl, rfl⟩ := hr
    exact key kt et ks ie _ (.agg l) hu hk hie hz (fun I => by have := Rd.qP (tN I hl) (rR hl); simpa using this) rfl
   ·rename_i z hz0 hz
    simp only [Option.map_eq_some_iff] at hr
    obtain ⟨l, hl, rfl⟩ := hr
    exact key kt et ks ie _ l hu hk hie hz (fun I => D0 I hl) rfl
   ·cases hr
  ·cases hr
 ·cases hr
theorem X1 [GI] {w : World} {I : Imm} {h : AHeap} (s : Sat w I h) {b : Nat} {es : List (AV × AV)} (hb : h b = some (.mp es)) {ms : Array MapEntry} {c : Nat} (hw : w.heap[b]? = some (.map ms c)) {ms' : Array MapEntry} {c' : Nat} {es' : List (AV × AV)}
  (r1 : Rds I (es'.map (·.1)) (ms'.toList.map (·.key))) (r2 : Rds I (es'.map (·.2)) (ms'.toList.map (·.val))) (hn : (ms'.toList.map (·.born)).Nodup) (hc : ∀ e ∈ ms'.toList, e.born < c') :
  let w' : World := { w with heap := w.heap.setIfInBounds b (.map ms' c') }
  Sat w' I (h.upd b (.mp es')) ∧ Ext h w w' ∧ New w I I h (h.upd b (.mp es')) := by
 intro w'
 have hlt : b < w.heap.size := s.lt hb
 have hget : w'.heap[b]? = some (.map ms' c') := by
  show (w.heap.setIfInBounds b _)[b]? = _
  rw [Array.getElem?_setIfInBounds]; simp [hlt]
 have hoth : ∀ k, k ≠ b → w'.heap[k]? = w.heap[k]? := by
  intro k hk
  show (w.heap.setIfInBounds b _)[k]? = _
  rw [Array.getElem?_setIfInBounds, if_neg (Ne.symm hk)]
 refine ⟨⟨s.pD, ?_, ?_, ?_⟩, ⟨rfl, rfl, rfl, by simp [w'], ?_⟩, ⟨Imm.le_refl I, ?_, fun b o v hb => .inl hb⟩⟩
 ·intro k o hk
  by_cases hkb : k = b
  ·subst hkb; rw [aA] at hk; cases hk; exact ⟨ms', c', hget, r1, r2, hn, hc⟩
  ·rw [aC _ _ _ hkb] at hk; exact (s.obj k o hk).mono (Imm.le_refl I) (hoth k hkb)
 ·intro k o v hk
  have hkb : k ≠ b := by intro hh; subst hh; have := s.dis k o v hk; rw [hb] at this; exact this
  have := s.imm k o v hk
  simp only [World.cell?] at this ⊢
  rw [hoth k hkb]; exact this
 ·intro k o v hk
  have hkb : k ≠ b := by intro hh; subst hh; have := s.dis k o v hk; rw [hb] at this; exact this
  rw [aC _ _ _ hkb]; exact s.dis k o v hk
 ·intro k hk hn'
  exact hoth k (by intro hh; subst hh; rw [hb] at hn'; cases hn')
 ·intro k o hk
  by_cases hkb : k = b
  ·subst hkb; exact .inl (by rw [hb]; simp)
  ·rw [aC _ _ _ hkb] at hk; exact .inl (by rw [hk]; simp)
def PW (P : Program) (t : TypeId) (m k v : aV) : Option REff :=
 match P.underlying t with
 | some (.map kt _) => (DU P kt).map fun ks => .BJ ks m k v
 | _ => none
theorem DN [GI] {P : Program} {o : Oper} {t : TypeId} {m k v : Operand} {rm rk rv : aV} {r : REff} (ho : o.op = .mapUpdate t m k v ∨ o.op = .insert t m k v) (hm : bF m = some rm) (hk : bF k = some rk) (hv : bF v = some rv) (hr : PW P t rm rk rv = some r) : kK P o r := by
 unfold PW at hr
 split at hr
 ·rename_i kt et hu
  simp only [Option.map_eq_some_iff] at hr
  obtain ⟨ks, hks, rfl⟩ := hr
  intro I w h a va K s t' kk next Q H
  have h1 := bR s hm
  have h2 := bR s hk
  have h3 := bR s hv
  simp only [eY] at kk
  split at kk
  ·rename_i b hb
   rw [hb] at h1
   have hvm := h1.rU
   split at kk
   ·rename_i es hes
    split at kk
    ·rename_i es' hset
     obtain ⟨hfit, kk⟩ := kk
     obtain ⟨i, hi, hes'⟩ := Q9 hset
     obtain ⟨ms, c, g1, g2, g3, g4, g5⟩ := t'.obj _ _ hes
     have hck := EP hks false w h2 hfit
     obtain ⟨res, q1, q2, q3⟩ := HA hks w h2 g2 hi
     have hfin : ∀ (ms' : Array MapEntry) (c' : Nat), Rds I (es'.map (·.1)) (ms'.toList.map (·.key)) → Rds I (es'.map (·.2)) (ms'.toList.map (·.val)) → (ms'.toList.map (·.born)).Nodup → (∀ e ∈ ms'.toList, e.born < c') →
       (Instr.mapUpdate t (a.eval m) (a.eval k) (a.eval v)).run P w = .ok () { w with heap := w.heap.setIfInBounds b (.map ms' c') } → o.wp P a w next Q := by
      intro ms' c' r1 r2 hn hc hrun
      obtain ⟨k1, k2, k3⟩ := X1 t' hes g1 r1 r2 hn hc
      have hexec : (execOp a.eval o).run P w = .ok .skip { w with heap := w.heap.setIfInBounds b (.map ms' c') } := by
       rcases ho with ho | ho <;> simp only [execOp, ho, Sem.run_bind, hrun, Result.andThen_ok, Sem.run_pure]
      unfold Oper.wp
      rw [hexec, Oper.upon_skip]
      exact H undef I _ _ _ kk (.any _) k1 k2 k3
     cases i with
     | none =>
      have := q2 rfl; subst this
      simp only at hes'; subst hes'
      refine hfin (ms.push { key := a.eval k, val := a.eval v, born := c }) (c + 1) ?_ ?_ ?_ ?_ ?_
      ·simpa using g2.append (.cons h2 (.nil I))
      ·simpa using g3.append (.cons h3 (.nil I))
      ·simp only [Array.toList_push, List.map_append, List.map_cons, List.map_nil]
       rw [List.nodup_append]
       refine ⟨g4, by simp, ?_⟩
       intro x hx y hy
       simp only [List.mem_singleton] at hy; subst hy
       obtain ⟨e, he, rfl⟩ := List.mem_map.1 hx
       have := g5 e he
       omega
      ·intro e he
       simp only [Array.toList_push, List.mem_append, List.mem_singleton] at he
       rcases he with he | rfl
       ·have := g5 e he; omega
       ·simp
      ·simp only [Instr.mapUpdate, Sem.run_bind, run_underlying hu, Result.andThen_ok, hvm, jH g1, hck, q1, CO _ g1]
     | some j =>
      obtain ⟨e, e1, rfl⟩ := q3 j rfl
      obtain ⟨x', e2, e3⟩ := MD hi
      simp only at hes'; subst hes'
      have hkey : Rd I x'.1 e.key := g2.at_ j _ _ (by simp [e2]) (by simp at e1 ⊢; simp [e1])
      obtain ⟨e4, e5⟩ := YT hks e3 h2 hkey
      have hstays : (Instr.keyThatStays (((ms[j]?).map (·.key)).getD (a.eval k)) (a.eval k)).run P w = .ok (a.eval k) w := by
       have : ms[j]? = some e := by simpa using e1
       rw [this]
       simp only [Option.map_some, Option.getD_some, Instr.keyThatStays, e5, if_true, Sem.run_pure]
      have hl : (ms.modify j fun e => { e with key := a.eval k, val := a.eval v }).toList = ms.toList.set j { key := a.eval k, val := a.eval v, born := e.born } := by
       apply List.ext_getElem?
       intro n
       rw [Array.getElem?_toList, Array.getElem?_modify, List.getElem?_set]
       by_cases hjn : j = n
       ·subst hjn
        have hj : ms[j]? = some e := by simpa using e1
        have hlt : j < ms.toList.length := by
         rcases Nat.lt_or_ge j ms.toList.length with h' | h'
         ·exact h'
         ·rw [List.getElem?_eq_none h'] at e1; cases e1
        simp only [if_true, hj, Option.map_some, hlt]
       ·simp [hjn]
      have hbl : (ms.toList.set j { key := a.eval k, val := a.eval v, born := e.born }).map (·.born) = ms.toList.map (·.born) := by
       rw [List.map_set]
       apply List.ext_getElem?
       intro n
       rw [List.getElem?_set]
       split
       ·rename_i hjn; subst hjn
        split
        ·simp at e1; simp [e1]
        ·rename_i hlt; rw [List.getElem?_eq_none (by omega)]
       ·rfl
      refine hfin (ms.modify j fun e => { e with key := a.eval k, val := a.eval v }) c ?_ ?_ ?_ ?_ ?_
      ·rw [hl, List.map_set, List.map_set]; exact g2.set j h2
      ·rw [hl, List.map_set, List.map_set]; exact g3.set j h3
      ·rw [hl, hbl]; exact g4
      ·intro e' he'
       rw [hl] at he'
       rcases List.mem_or_eq_of_mem_set he' with he' | rfl
       ·exact g5 e' he'
       ·exact g5 e (List.mem_of_getElem? e1)
      ·simp only [Instr.mapUpdate, Sem.run_bind, run_underlying hu, Result.andThen_ok, hvm, jH g1, hck, q1, hstays, CO _ g1]
    ·exact kk.elim
   ·exact kk.elim
  ·exact kk.elim
 ·cases hr
end Pg
namespace Pg
open Go
theorem q8 {P : Program} {w : World} {r : Nat} {m : Option Nat} {a : Nat} {s : Array Nat} {l : Nat} (hb : w.heap[r]? = some (.mapIter m a s l)) : (getObj r).run P w = .ok (.mapIter m a s l) w := by
 simp [getObj, Sem.run, hb]
theorem OJ {P : Program} {w : World} {r : Nat} {m : Option Nat} {a : Nat} {s : Array Nat} {l : Nat} (o : Obj) (hb : w.heap[r]? = some (.mapIter m a s l)) : (setObj r o).run P w = .ok () { w with heap := w.heap.setIfInBounds r o } := by
 simp [setObj, Sem.run, hb]
theorem HC {I : Imm} : ∀ {es : List (AV × AV)} {ms : List MapEntry} {s : Nat} {e : AV × AV}, Rds I (es.map (·.1)) (ms.map (·.key)) → Rds I (es.map (·.2)) (ms.map (·.val)) → tP es (ms.map (·.born)) s = some e →
  ∃ x, ms.find? (·.born == s) = some x ∧ Rd I e.1 x.key ∧ Rd I e.2 x.val
 | [], ms, s, e, r1, r2, h => by simp [tP] at h
 | a :: es, [], s, e, r1, r2, h => by simp [tP] at h
 | a :: es, m :: ms, s, e, r1, r2, h => by
  simp only [List.map_cons] at r1 r2 h
  obtain ⟨v, vs, hv, q1, q2⟩ := r1.dN
  obtain ⟨u, us, hu, p1, p2⟩ := r2.dN
  simp only [List.cons.injEq] at hv hu
  obtain ⟨rfl, rfl⟩ := hv
  obtain ⟨rfl, rfl⟩ := hu
  simp only [tP] at h
  by_cases hb : m.born = s
  ·rw [if_pos hb] at h; cases h
   exact ⟨m, by simp [hb], q1, p1⟩
  ·rw [if_neg hb] at h
   obtain ⟨x, x1, x2⟩ := HC q2 p2 h
   have hbf : (m.born == s) = false := by simp [hb]
   exact ⟨x, by rw [List.find?_cons, hbf]; exact x1, x2⟩
theorem aAE [GI] {P : Program} {o : Oper} {x : Operand} {rx : aV} (ho : o.op = .entry x) (hx : bF x = some rx) : eH P o (.entry rx) := by
 refine .pure fun I w h a va av s t k => ?_
 have h1 := bR s hx
 simp only [bS] at k
 generalize va rx = p at h1 k
 generalize hv : a.eval x = v at h1
 unfold AI at k
 split at k
 ·rename_i b
  have := h1.gL; subst this
  cases hb : h b with
  | none => simp [hb] at k
  | some ob =>
   rw [hb] at k
   try simp only at k
   split at k
   ·rename_i m since seen last heq
    cases heq
    have hit : w.heap[b]? = some (.mapIter (some m) since seen.toArray last) := t.obj _ _ hb
    split at k
    ·rename_i es bs clock s' hm hl
     obtain ⟨ms, g1, g2, g3, g4, g5, g6⟩ := t.obj _ _ hm
     split at k
     ·rename_i hc
      subst hc
      simp only [Option.map_eq_some_iff] at k
      obtain ⟨e, he, rfl⟩ := k
      rw [← g4] at he
      obtain ⟨y, y1, y2, y3⟩ := HC g2 g3 he
      have hfind : ms.find? (·.born == s') = some y := by rw [← Array.find?_toList]; exact y1
      have hback : seen.toArray.back? = some s' := by simp [hl]
      refine ⟨.tuple #[y.key, y.val], ?_, ?_⟩
      ·simp only [execOp, ho, hv, Instr.entry, Sem.run_bind, q8 hit, Result.andThen_ok, hback, jH g1, hfind, bne_self_eq_false, Bool.false_eq_true, if_false, Sem.run_pure]
      ·have := Rd.iU (Rds.cons y2 (.cons y3 (.nil I)))
       simpa using this
     ·cases k
    ·cases k
   ·cases k
 ·cases k
theorem aCx [GI] {w : World} {I : Imm} {h : AHeap} (s : Sat w I h) {m : Nat} {es : List (AV × AV)} (hm : h m = some (.mp es)) :
  ∃ (ms : Array MapEntry) (clock : Nat), w.heap[m]? = some (.map ms clock) ∧ (ms.toList.map (·.born)).length = es.length ∧ (ms.toList.map (·.born)).Nodup ∧ (∀ x ∈ ms.toList.map (·.born), x < clock) ∧ Sat w I (h.upd m (.mpc es (ms.toList.map (·.born)) clock)) := by
 obtain ⟨ms, clock, g1, g2, g3, g4, g5⟩ := s.obj _ _ hm
 have g5' : ∀ x ∈ ms.toList.map (·.born), x < clock := by
  intro x hx
  obtain ⟨e, he, rfl⟩ := List.mem_map.1 hx
  exact g5 e he
 refine ⟨ms, clock, g1, ?_, g4, g5', ⟨s.pD, ?_, s.imm, ?_⟩⟩
 ·have := g2.len; simp at this ⊢; omega
 ·intro b o hb
  by_cases hbm : b = m
  ·subst hbm; rw [aA] at hb; cases hb; exact ⟨ms, g1, g2, g3, rfl, g4, g5'⟩
  ·rw [aC _ _ _ hbm] at hb; exact s.obj b o hb
 ·intro b o v hb
  by_cases hbm : b = m
  ·subst hbm; have := s.dis b o v hb; rw [hm] at this; exact this.elim
  ·rw [aC _ _ _ hbm]; exact s.dis b o v hb
theorem XX [GI] {P : Program} {o : Oper} {t k e : TypeId} {x : Operand} {rx : aV} (ho : o.op = .range t x) (hu : P.underlying t = some (.map k e)) (hx : bF x = some rx) : kK P o (.rng rx) := by
 intro I w h a va K s t' kk next Q H
 have h1 := bR s hx
 simp only [eY] at kk
 generalize va rx = p at h1 kk
 generalize hv : a.eval x = v at h1
 unfold RB at kk
 split at kk
 ·have := h1.rU; subst this
  obtain ⟨g1, g2, g3, g4⟩ := lQ t' (.mapIter none 0 #[] 0) (.it none 0 [] 0) (pV _ _)
  have hexec : (execOp a.eval o).run P w = .ok (.value (.pointer (some ⟨w.heap.size, 0, none⟩))) (w.alloc (.mapIter none 0 #[] 0)) := by
   simp [execOp, ho, hv, Instr.range, run_underlying hu]
  unfold Oper.wp
  rw [hexec, Oper.upon_value]
  exact H _ I _ _ _ (kk _ g1) (.ptr _) g2 g3 g4
 ·rename_i m
  have := h1.rU; subst this
  cases hm : h m with
  | none => simp [hm] at kk
  | some ob =>
   rw [hm] at kk
   try simp only at kk
   split at kk
   ·rename_i es heq
    cases heq
    obtain ⟨ms, clock, q1, q2, q3, q4, q5⟩ := aCx t' hm
    obtain ⟨g1, g2, g3, g4⟩ := lQ q5 (.mapIter (some m) clock #[] clock) (.it (some m) clock [] clock) (pV _ _)
    have hexec : (execOp a.eval o).run P w = .ok (.value (.pointer (some ⟨w.heap.size, 0, none⟩))) (w.alloc (.mapIter (some m) clock #[] clock)) := by
     simp [execOp, ho, hv, Instr.range, run_underlying hu, jH q1]
    unfold Oper.wp
    rw [hexec, Oper.upon_value]
    have hn : h w.heap.size = none := by
     cases hh : h w.heap.size with
     | none => rfl
     | some y => have := t'.lt hh; omega
    refine H _ I _ _ _ (kk _ _ q2 q3 q4 _ hn) (.ptr _) g2 ⟨g3.os, g3.tape, g3.output, g3.size, ?_⟩ ⟨g4.imm, ?_, ?_⟩
    ·intro c hc hcn
     refine g3.block c hc ?_
     have : c ≠ m := by intro hh; subst hh; rw [hm] at hcn; cases hcn
     rw [aC _ _ _ this]; exact hcn
    ·intro c y hc
     rcases g4.heap c y hc with g | g
     ·by_cases hcm : c = m
      ·subst hcm; exact .inl (by rw [hm]; simp)
      ·rw [aC _ _ _ hcm] at g; exact .inl g
     ·exact .inr g
    ·intro c i v hc; exact .inl hc
   ·exact kk.elim
 ·exact kk.elim
theorem aBe {seen : Array Nat} {es : Array MapEntry} {since last : Nat} (hold : ∀ x ∈ es.toList, x.born < since) (hl : since ≤ last) : (!seen.isEmpty && !es.isEmpty && es.all (fun x => decide (x.born ≥ last))) = false := by
 cases he : es.isEmpty with
 | true => simp
 | false =>
  have hall : es.all (fun x => decide (x.born ≥ last)) = false := by
   rw [Bool.eq_false_iff]
   intro h
   rw [Array.all_eq_true_iff_forall_mem] at h
   have h0 : 0 < es.size := by
    rcases Nat.eq_zero_or_pos es.size with h0 | h0
    ·simp [Array.isEmpty, h0] at he
    ·exact h0
   have h1 := h _ (Array.getElem_mem h0)
   have h2 := hold es[0] (by simp)
   simp at h1
   omega
  simp [hall]
theorem aE6 {I : Imm} {es : List (AV × AV)} {ms : List MapEntry} (r1 : Rds I (es.map (·.1)) (ms.map (·.key))) (r2 : Rds I (es.map (·.2)) (ms.map (·.val))) {i : Nat} {x : MapEntry} (h : ms[i]? = some x) :
  ∃ e, es[i]? = some e ∧ Rd I e.1 x.key ∧ Rd I e.2 x.val := by
 have hl : es.length = ms.length := by have := r1.len; simpa using this
 have hi : i < ms.length := by
  rcases Nat.lt_or_ge i ms.length with h' | h'
  ·exact h'
  ·rw [List.getElem?_eq_none h'] at h; cases h
 have he : es[i]? = some es[i] := List.getElem?_eq_getElem (by omega)
 refine ⟨_, he, r1.at_ i _ _ (by simp [he]) (by simp [h]), r2.at_ i _ _ (by simp [he]) (by simp [h])⟩
theorem UD [GI] {P : Program} {o : Oper} {t : TypeId} {x : Operand} {rx : aV} (ho : o.op = .range t x) (hu : P.underlying t = some .string) (hx : bF x = some rx) : kK P o (.DT rx) := by
 intro I w h a va K s t' kk next Q H
 have h1 := bR s hx
 simp only [eY] at kk
 generalize va rx = p at h1 kk
 generalize hv : a.eval x = v at h1
 unfold KZ at kk
 split at kk
 ·rename_i str
  have := h1.mN; subst this
  obtain ⟨g1, g2, g3, g4⟩ := lQ t' (.stringIter str 0) (.sit str 0) (pV _ _)
  have hexec : (execOp a.eval o).run P w = .ok (.value (.pointer (some ⟨w.heap.size, 0, none⟩))) (w.alloc (.stringIter str 0)) := by
   simp [execOp, ho, hv, Instr.range, run_underlying hu]
  unfold Oper.wp
  rw [hexec, Oper.upon_value]
  exact H _ I _ _ _ (kk _ g1) (.ptr _) g2 g3 g4
 ·exact kk.elim
theorem aBW (s : ByteArray) (i : Nat) (h : (s.get! i).toNat < 128) : (Utf8.decode s i).2 = 1 := by
 unfold Utf8.decode
 simp only [Nat.add_zero]
 rw [if_pos h]
theorem zT {P : Program} {w : World} {b : Nat} {s : ByteArray} {pos : Nat} (h : w.heap[b]? = some (.stringIter s pos)) : (getObj b).run P w = .ok (.stringIter s pos) w := by
 simp [getObj, Sem.run, h]
theorem UE [GI] {P : Program} {o : Oper} {x : Operand} {rx : aV} (ho : o.op = .next x true) (hx : bF x = some rx) : kK P o (.D1 rx) := by
 intro I w h a va K s t' kk next Q H
 have h1 := bR s hx
 simp only [eY] at kk
 generalize va rx = p at h1 kk
 generalize hv : a.eval x = v at h1
 unfold CB at kk
 split at kk
 ·rename_i b
  have := h1.gL; subst this
  cases hb : h b with
  | none => simp [hb] at kk
  | some ob =>
   rw [hb] at kk
   try simp only at kk
   split at kk
   ·rename_i str pos heq
    cases heq
    have hit : w.heap[b]? = some (.stringIter str pos) := t'.obj _ _ hb
    split at kk
    ·rename_i hp
     have hdec : (str.get! pos).toNat < 128 → (Utf8.decode str pos).2 = 1 := aBW str pos
     generalize hq : Utf8.decode str pos = q at hdec
     obtain ⟨c, wd⟩ := q
     have hset : ∀ o', (setObj b o').run P w = .ok () { w with heap := w.heap.setIfInBounds b o' } := fun o' => by simp [setObj, Sem.run, hit]
     have hexec : (execOp a.eval o).run P w = .ok (.value (.tuple #[.bool true, .int .i64 pos, .int .i32 c])) { w with heap := w.heap.setIfInBounds b (.stringIter str (pos + wd)) } := by
      simp only [execOp, ho, hv, Instr.next, Sem.run_bind, zT hit, Result.andThen_ok, hp, if_true, hq, hset, Sem.run_pure, goInt]
     unfold Oper.wp
     rw [hexec, Oper.upon_value]
     have hlt : b < w.heap.size := t'.lt hb
     have hoth : ∀ c, c ≠ b → (w.heap.setIfInBounds b (.stringIter str (pos + wd)))[c]? = w.heap[c]? := by
      intro c hc
      rw [Array.getElem?_setIfInBounds, if_neg (Ne.symm hc)]
     have hthe : (w.heap.setIfInBounds b (.stringIter str (pos + wd)))[b]? = some (.stringIter str (pos + wd)) := by
      rw [Array.getElem?_setIfInBounds]; simp [hlt]
     have hr : Rd I (.tuple [.bool true, .int .i64 pos, .any]) (.tuple #[.bool true, .int .i64 pos, .int .i32 c]) := by
      have := Rd.iU (Rds.cons (.bool true) (.cons (.int .i64 (pos : Int)) (.cons (.any (.int .i32 c)) (.nil I)))); simpa using this
     refine H _ I _ _ _ (kk wd hdec) hr ⟨t'.pD, ?_, ?_, ?_⟩ ⟨rfl, rfl, rfl, ?_, ?_⟩ ⟨Imm.le_refl I, ?_, fun c i v hc => .inl hc⟩
     ·intro c y hc
      by_cases hcb : c = b
      ·subst hcb; rw [aA] at hc; cases hc; exact hthe
      ·rw [aC _ _ _ hcb] at hc; exact (t'.obj c y hc).mono (Imm.le_refl I) (hoth c hcb)
     ·intro c i v hc
      have hcb : c ≠ b := by intro hh; subst hh; have := t'.dis c i v hc; rw [hb] at this; exact this
      have := t'.imm c i v hc
      simp only [World.cell?] at this ⊢
      rw [hoth c hcb]; exact this
     ·intro c i v hc
      have hcb : c ≠ b := by intro hh; subst hh; have := t'.dis c i v hc; rw [hb] at this; exact this
      rw [aC _ _ _ hcb]; exact t'.dis c i v hc
     ·simp
     ·intro c hc hcn
      have hcb : c ≠ b := by intro hh; subst hh; rw [hb] at hcn; cases hcn
      exact hoth c hcb
     ·intro c y hc
      by_cases hcb : c = b
      ·subst hcb; exact .inl (by rw [hb]; simp)
      ·rw [aC _ _ _ hcb] at hc; exact .inl (by rw [hc]; simp)
    ·rename_i hp
     have hexec : (execOp a.eval o).run P w = .ok (.value (.tuple #[.bool false])) w := by
      simp [execOp, ho, hv, Instr.next, zT hit, hp]
     unfold Oper.wp
     rw [hexec, Oper.upon_value]
     have hr : Rd I (.tuple [.bool false]) (.tuple #[.bool false]) := by
      have := Rd.iU (Rds.cons (.bool false) (.nil I)); simpa using this
     exact H _ I _ _ _ kk hr t' (.refl h w) (.refl w I h)
   ·exact kk.elim
 ·exact kk.elim
theorem XY [GI] {P : Program} {o : Oper} {x : Operand} {rx : aV} (ho : o.op = .next x false) (hx : bF x = some rx) : kK P o (.nxt rx) := by
 intro I w h a va K s t' kk next Q H
 have h1 := bR s hx
 simp only [eY] at kk
 generalize va rx = p at h1 kk
 generalize hv : a.eval x = v at h1
 unfold RF at kk
 split at kk
 ·rename_i b
  have := h1.gL; subst this
  cases hb : h b with
  | none => simp [hb] at kk
  | some ob =>
   rw [hb] at kk
   simp only at kk
   split at kk
   ·rename_i since seen last heq
    cases heq
    have hit : w.heap[b]? = some (.mapIter none since seen.toArray last) := t'.obj _ _ hb
    have hexec : (execOp a.eval o).run P w = .ok (.value (.tuple #[.bool false])) w := by
     simp [execOp, ho, hv, Instr.next, q8 hit]
    unfold Oper.wp
    rw [hexec, Oper.upon_value]
    have hr : Rd I (.tuple [.bool false]) (.tuple #[.bool false]) := by
     have := Rd.iU (Rds.cons (.bool false) (.nil I)); simpa using this
    exact H _ I _ _ _ kk hr t' (.refl h w) (.refl w I h)
   ·rename_i m since seen last heq
    cases heq
    have hit : w.heap[b]? = some (.mapIter (some m) since seen.toArray last) := t'.obj _ _ hb
    cases hm : h m with
    | none => simp [hm] at kk
    | some om =>
     rw [hm] at kk
     try simp only at kk
     split at kk
     ·rename_i es bs clock heq
      cases heq
      obtain ⟨kk1, kk2, kk3, kk4⟩ := kk
      obtain ⟨ms, g1, g2, g3, g4, g5, g6⟩ := t'.obj _ _ hm
      have hold : ∀ y ∈ ms.toList, y.born < since := fun y hy => kk1 _ (by rw [← g4]; exact List.mem_map.2 ⟨y, hy, rfl⟩)
      have test := aBe (seen := seen.toArray) hold kk2
      generalize hL : ms.filter (fun e => !seen.toArray.contains e.born) = L
      have hmemL : ∀ y ∈ L.toList, y ∈ ms.toList ∧ y.born ∉ seen := by
       intro y hy
       rw [← hL] at hy
       simp at hy
       exact ⟨by simpa using hy.1, by simpa using hy.2⟩
      have e1 : L.filter (fun y => decide (y.born < since)) = L := Array.filter_eq_self.2 (fun y hy => by simpa using hold y (hmemL y (by simpa using hy)).1)
      have e2 : L.filter (fun y => decide (y.born ≥ since)) = #[] := by
       rw [Array.filter_eq_empty_iff]
       intro y hy
       have := hold y (hmemL y (by simpa using hy)).1
       simp
       omega
      by_cases h0 : L.size = 0
      ·have hLe : L = #[] := Array.eq_empty_of_size_eq_zero h0
       have hall : ∀ s' ∈ bs, s' ∈ seen := by
        intro s' hs'
        rw [← g4] at hs'
        obtain ⟨y, hy, rfl⟩ := List.mem_map.1 hs'
        by_cases hin : y.born ∈ seen
        ·exact hin
        ·exfalso
         have : y ∈ L := by rw [← hL]; simp; exact ⟨by simpa using hy, hin⟩
         rw [hLe] at this; simp at this
       have hexec : (execOp a.eval o).run P w = .ok (.value (.tuple #[.bool false])) w := by
        simp only [execOp, ho, hv, Instr.next, Sem.run_bind, q8 hit, jH g1, Result.andThen_ok, test, Bool.false_eq_true, if_false, hL, e1, e2, hLe]
        simp [choose, Sem.run, Question.forced]
       unfold Oper.wp
       rw [hexec, Oper.upon_value]
       have hr : Rd I (.tuple [.bool false]) (.tuple #[.bool false]) := by
        have := Rd.iU (Rds.cons (.bool false) (.nil I)); simpa using this
       exact H _ I _ _ _ (kk4 hall) hr t' (.refl h w) (.refl w I h)
      ·have hne : L.isEmpty = false := by simp [Array.isEmpty, h0]
       have hch : ∃ (j : Nat) (w1 : World), j < L.size ∧ (w1 = w ∨ w1 = w.drew) ∧ (choose (Question.mapNext L.size)).run P w = .ok j w1 := by
        by_cases hf : L.size ≤ 1
        ·exact ⟨0, w, by omega, .inl rfl, by simp [choose, Sem.run, Question.forced, hf]⟩
        ·exact ⟨_, w.drew, Nat.mod_lt _ (by omega), .inr rfl, by
          simp only [choose, Sem.run, Question.forced, decide_eq_true_eq, hf, if_false, Question.cut]
          rfl⟩
       obtain ⟨j, w1, hj, hw1, hrun⟩ := hch
       have hheap : w1.heap = w.heap := by rcases hw1 with rfl | rfl <;> rfl
       have hit1 : w1.heap[b]? = some (.mapIter (some m) since seen.toArray last) := by rw [hheap]; exact hit
       have hjm := hmemL L[j] (by simp)
       obtain ⟨i, hi⟩ := List.getElem?_of_mem hjm.1
       obtain ⟨e, he, r1, r2⟩ := aE6 g2 g3 hi
       have hbi : bs[i]? = some L[j].born := by rw [← g4]; simp [hi]
       have hexec : (execOp a.eval o).run P w = .ok (.value (.tuple #[.bool true, L[j].key, L[j].val])) { w1 with heap := w1.heap.setIfInBounds b (.mapIter (some m) since (seen.toArray.push L[j].born) clock) } := by
        simp only [execOp, ho, hv, Instr.next, Sem.run_bind, q8 hit, jH g1, Result.andThen_ok, test, Bool.false_eq_true, if_false, hL, e1, e2, Array.append_empty, hne, Array.empty_append, Array.size_map, hrun, Array.getElem?_map, Array.getElem?_eq_getElem hj, Option.map_some, OJ _ hit1, Sem.run_pure]
       unfold Oper.wp
       rw [hexec, Oper.upon_value]
       have hlt : b < w.heap.size := t'.lt hb
       have hoth : ∀ c, c ≠ b → (w1.heap.setIfInBounds b (.mapIter (some m) since (seen.toArray.push L[j].born) clock))[c]? = w.heap[c]? := by
        intro c hc
        rw [hheap, Array.getElem?_setIfInBounds, if_neg (Ne.symm hc)]
       have hthe : (w1.heap.setIfInBounds b (.mapIter (some m) since (seen.toArray.push L[j].born) clock))[b]? = some (.mapIter (some m) since (seen ++ [L[j].born]).toArray clock) := by
        rw [hheap, Array.getElem?_setIfInBounds]; simp [hlt]
       have hr : Rd I (.tuple [.bool true, e.1, e.2]) (.tuple #[.bool true, L[j].key, L[j].val]) := by
        have := Rd.iU (Rds.cons (.bool true) (.cons r1 (.cons r2 (.nil I)))); simpa using this
       refine H _ I _ _ _ (kk3 i e _ he hbi hjm.2) hr ⟨t'.pD, ?_, ?_, ?_⟩ ⟨?_, ?_, ?_, ?_, ?_⟩ ⟨Imm.le_refl I, ?_, fun c i v hc => .inl hc⟩
       ·intro c y hc
        by_cases hcb : c = b
        ·subst hcb; rw [aA] at hc; cases hc; exact hthe
        ·rw [aC _ _ _ hcb] at hc; exact (t'.obj c y hc).mono (Imm.le_refl I) (hoth c hcb)
       ·intro c i v hc
        have hcb : c ≠ b := by intro hh; subst hh; have := t'.dis c i v hc; rw [hb] at this; exact this
        have := t'.imm c i v hc
        simp only [World.cell?] at this ⊢
        rw [hoth c hcb]; exact this
       ·intro c i v hc
        have hcb : c ≠ b := by intro hh; subst hh; have := t'.dis c i v hc; rw [hb] at this; exact this
        rw [aC _ _ _ hcb]; exact t'.dis c i v hc
       ·rcases hw1 with rfl | rfl <;> rfl
       ·rcases hw1 with rfl | rfl <;> rfl
       ·rcases hw1 with rfl | rfl <;> rfl
       ·simp [hheap]
       ·intro c hc hcn
        have hcb : c ≠ b := by intro hh; subst hh; rw [hb] at hcn; cases hcn
        exact hoth c hcb
       ·intro c y hc
        by_cases hcb : c = b
        ·subst hcb; exact .inl (by rw [hb]; simp)
        ·rw [aC _ _ _ hcb] at hc; exact .inl (by rw [hc]; simp)
     ·exact kk.elim
   ·exact kk.elim
 ·exact kk.elim
end Pg
namespace Pg
open Go
theorem zG {α : Type} (size : Nat) : ∀ (xss : List (List α)), (∀ xs ∈ xss, xs.length = size) → ∀ (k : Nat) (v : α), xss.flatten[k]? = some v → ∃ i j xs, xss[i]? = some xs ∧ xs[j]? = some v ∧ k = i * size + j
 | [], _, k, v, h => by simp at h
 | xs :: r, hl, k, v, h => by
  simp only [List.flatten_cons] at h
  rw [List.getElem?_append] at h
  split at h
  ·exact ⟨0, k, xs, by simp, h, by simp⟩
  ·rename_i hk
   obtain ⟨i, j, ys, h1, h2, h3⟩ := zG size r (fun ys hy => hl ys (by simp [hy])) _ v h
   have := hl xs (by simp)
   exact ⟨i + 1, j, ys, by simpa using h1, h2, by rw [Nat.add_mul]; omega⟩
theorem fM {α : Type} (size : Nat) : ∀ (xss : List (List α)), (∀ xs ∈ xss, xs.length = size) → xss.flatten.length = xss.length * size
 | [], _ => by simp
 | xs :: r, hl => by
  simp only [List.flatten_cons, List.length_append, List.length_cons]
  rw [fM size r (fun ys hy => hl ys (by simp [hy])), hl xs (by simp), Nat.add_mul]; omega
theorem zB {I : Imm} : ∀ (es : List (List AV)) (vss : List (List Value)), es.length = vss.length → (∀ (i : Nat) (e : List AV) (vs : List Value), es[i]? = some e → vss[i]? = some vs → Rds I e vs) → Rds I es.flatten vss.flatten
 | [], [], _, _ => by simpa using Rds.nil I
 | [], _ :: _, h, _ => by simp at h
 | _ :: _, [], h, _ => by simp at h
 | e :: es, vs :: vss, h, H => by
  simp only [List.flatten_cons]
  exact (H 0 e vs (by simp) (by simp)).append (zB es vss (by simpa using h) fun i e' vs' h1 h2 => H (i + 1) e' vs' (by simpa using h1) (by simpa using h2))
theorem xI : ∀ (vss : List (List Value)), (∀ (i : Nat) (vs : List Value), vss[i]? = some vs → cV vs) → cV vss.flatten
 | [], _ => by simpa using cV.nil
 | vs :: vss, H => by
  simp only [List.flatten_cons]
  exact (H 0 vs (by simp)).append (xI vss fun i vs' h => H (i + 1) vs' (by simpa using h))
theorem cell_of_heap {w w0 : World} (he : w0.heap = w.heap) (a : Addr) : w0.cell? a = w.cell? a := by simp only [World.cell?, he]
theorem zU [GI] {P : Program} {w : World} {I : Imm} {h : AHeap} (s : Sat w I h) {size m : Nat} {x : AV} {v : Value} {xs : List AV} (r : Rd I x v) (k : lG h size x = some (m, xs)) (fit : rG size x) (hns : ∀ t, x ≠ .str t) :
  ∃ (a : Option Addr) (cap : Nat) (us : List Value), v = .slice a m cap ∧ (∀ w0 : World, w0.heap = w.heap → (Builtin.firstCells size m v).run P w0 = .ok us.toArray w0) ∧ Rds I xs us ∧ cV us ∧ us.length = m * size := by
 have key : ∀ (es : List (List AV)) (full : Bool), Rd I (.sl es full) v → lG h size (.sl es full) = some (m, xs) → rG size (.sl es full) →
   ∃ (a : Option Addr) (cap : Nat) (us : List Value), v = .slice a m cap ∧ (∀ w0 : World, w0.heap = w.heap → (Builtin.firstCells size m v).run P w0 = .ok us.toArray w0) ∧ Rds I xs us ∧ cV us ∧ us.length = m * size := by
  intro es full r k fit
  obtain ⟨a, cap, rfl, hc, hf, hsp, hn, hes⟩ := r.uS
  simp only [lG, Option.some.injEq, Prod.mk.injEq] at k
  obtain ⟨rfl, rfl⟩ := k
  rcases hes with rfl | ⟨b, o, size', vss, rfl, R⟩
  ·refine ⟨a, cap, [], rfl, ?_, by simpa using Rds.nil I, .nil, by simp⟩
   intro w0 he
   cases a with
   | none => simp [Builtin.firstCells]
   | some a => simp [Builtin.firstCells, loadCells, loadCellsFrom]
  ·by_cases hempty : es = []
   ·subst hempty
    refine ⟨_, cap, [], rfl, fun w0 he => by simp [Builtin.firstCells, loadCells, loadCellsFrom], by simpa using Rds.nil I, .nil, by simp⟩
   ·have hpos : 0 < es.length := List.length_pos_iff.2 hempty
    have hvl : 0 < vss.length := R.len ▸ hpos
    have hsz : size' = size := by
     have h1 := (R.oC 0 es[0] vss[0] (List.getElem?_eq_getElem hpos) (List.getElem?_eq_getElem hvl)).1
     have h2 := fit es[0] (List.getElem_mem hpos)
     omega
    subst hsz
    have hall : ∀ vs ∈ vss, vs.length = size' := by
     intro vs hv
     obtain ⟨i, hi⟩ := List.getElem?_of_mem hv
     have hlt : i < vss.length := by
      rcases Nat.lt_or_ge i vss.length with h' | h'
      ·exact h'
      ·rw [List.getElem?_eq_none h'] at hi; cases hi
     have hlt' : i < es.length := by rw [R.len]; exact hlt
     exact (R.oC i es[i] vs (List.getElem?_eq_getElem hlt') hi).2
    have hfl := fM size' vss hall
    refine ⟨_, cap, vss.flatten, rfl, ?_, zB es vss R.len (fun i e vs h1 h2 => ⟨by have := R.oC i e vs h1 h2; omega, fun j c v e1 e2 => R.rd i e vs j c v h1 h2 e1 e2⟩), xI vss R.one, by rw [hfl, R.len]⟩
    intro w0 he
    have hload := run_loadCells_list (P := P) w0 ⟨b, o, none⟩ vss.flatten (fun j v hj => by
     rw [cell_of_heap he]
     obtain ⟨i, jj, vs, h1, h2, rfl⟩ := zG size' vss hall j v hj
     rw [nI, ← Nat.add_assoc]
     exact s.imm _ _ _ (R.mem i vs jj v h1 h2))
    rw [hfl, ← R.len] at hload
    simpa [Builtin.firstCells] using hload
 cases x with
 | sl es full => exact key es full r k fit
 | gs es b cap => exact key es false r.OU k fit
 | os b n cap =>
  have := r.pQ; subst this
  simp only [lG] at k
  cases hb : h b with
  | none => simp [hb] at k
  | some ob =>
   cases ob with
   | mp _ => simp [hb] at k
   | mpc _ _ _ => simp [hb] at k
   | it _ _ _ _ => simp [hb] at k
   | sit _ _ => simp [hb] at k
   | tail _ _ _ => simp [hb] at k
   | blk cs total ty =>
    simp only [hb] at k
    split at k
    ·rename_i hle
     simp only [Option.some.injEq, Prod.mk.injEq] at k
     obtain ⟨rfl, rfl⟩ := k
     obtain ⟨vs, g1, g2, g3, g4, g5⟩ := s.obj _ _ hb
     have hlen : ((vs.take cs.length).take (n * size)).length = n * size := by simp; omega
     refine ⟨_, cap, (vs.take cs.length).take (n * size), rfl, ?_, g4.take _, g5.take _, hlen⟩
     intro w0 he
     have hload := run_loadCells_list (P := P) w0 ⟨b, 0, none⟩ ((vs.take cs.length).take (n * size)) (fun j v hj => by
      rw [cell_of_heap he, nI, Nat.zero_add]
      rw [List.getElem?_take] at hj
      split at hj
      ·rw [List.getElem?_take] at hj
       split at hj
       ·simp only [World.cell?, g1]; simpa using hj
       ·cases hj
      ·cases hj)
     rw [hlen] at hload
     simpa [Builtin.firstCells] using hload
    ·cases k
 | str t => exact absurd rfl (hns t)
 | _ => simp [lG] at k
theorem PE (I : Imm) (s : ByteArray) : Rds I (XO s) (s.data.toList.map fun b => Value.int .u8 b.toNat) ∧ cV (s.data.toList.map fun b => Value.int .u8 b.toNat) := by
 unfold XO
 generalize s.data.toList = l
 induction l with
 | nil => exact ⟨.nil I, .nil⟩
 | cons x l ih => exact ⟨.cons (.int _ _) ih.1, .cons rfl ih.2⟩
theorem JN [GI] {P : Program} {w : World} {I : Imm} {h : AHeap} (s : Sat w I h) {size m : Nat} {x : AV} {v : Value} {xs : List AV} (r : Rd I x v) (k : lG h size x = some (m, xs)) (fit : rG size x) :
  ∃ us : List Value, (∀ w0 : World, (Builtin.lenOf v).run P w0 = .ok m w0) ∧ (∀ w0 : World, w0.heap = w.heap → (Builtin.firstCells size m v).run P w0 = .ok us.toArray w0) ∧ Rds I xs us ∧ cV us ∧ us.length = m * size := by
 by_cases hs : ∃ t, x = .str t
 ·obtain ⟨t, rfl⟩ := hs
  have := r.mN; subst this
  simp only [lG] at k
  split at k
  ·rename_i h1
   subst h1
   simp only [Option.some.injEq, Prod.mk.injEq] at k
   obtain ⟨rfl, rfl⟩ := k
   refine ⟨_, fun w0 => rfl, fun w0 he => ?_, (PE I t).1, (PE I t).2, by simp⟩
   simp only [Builtin.firstCells, ByteArray.extract_zero_size, Sem.run_pure]
   congr 1
   exact Array.ext' (by simp)
  ·cases k
 ·obtain ⟨a, cap, us, rfl, e1, e2, e3, e4⟩ := zU (P := P) s r k fit (fun t e => hs ⟨t, e⟩)
  exact ⟨us, fun w0 => rfl, e1, e2, e3, e4⟩
theorem X5 [GI] {P : Program} {w : World} {I : Imm} {h : AHeap} (s : Sat w I h) {b o size' size : Nat} {es : List (List AV)} {vss : List (List Value)} (R : Rows I b o size' es vss) (fit : ∀ e ∈ es, e.length = size) (cap : Nat) :
  (∀ w0 : World, w0.heap = w.heap → (Builtin.firstCells size es.length (.slice (some ⟨b, o, none⟩) es.length cap)).run P w0 = .ok vss.flatten.toArray w0) ∧ Rds I es.flatten vss.flatten ∧ cV vss.flatten ∧ vss.flatten.length = es.length * size ∧
   ∀ (j : Nat) (v : Value), vss.flatten[j]? = some v → I b (o + j) = some v := by
 by_cases hempty : es = []
 ·subst hempty
  have : vss = [] := List.eq_nil_of_length_eq_zero (by rw [← R.len]; rfl)
  subst this
  exact ⟨fun w0 he => by simp [Builtin.firstCells, loadCells, loadCellsFrom], by simpa using Rds.nil I, by simpa using cV.nil, by simp, by simp⟩
 ·have hpos : 0 < es.length := List.length_pos_iff.2 hempty
  have hvl : 0 < vss.length := R.len ▸ hpos
  have hsz : size' = size := by
   have h1 := (R.oC 0 es[0] vss[0] (List.getElem?_eq_getElem hpos) (List.getElem?_eq_getElem hvl)).1
   have h2 := fit es[0] (List.getElem_mem hpos)
   omega
  subst hsz
  have hall : ∀ vs ∈ vss, vs.length = size' := by
   intro vs hv
   obtain ⟨i, hi⟩ := List.getElem?_of_mem hv
   have hlt : i < vss.length := by
    rcases Nat.lt_or_ge i vss.length with h' | h'
    ·exact h'
    ·rw [List.getElem?_eq_none h'] at hi; cases hi
   have hlt' : i < es.length := by rw [R.len]; exact hlt
   exact (R.oC i es[i] vs (List.getElem?_eq_getElem hlt') hi).2
  have hfl := fM size' vss hall
  have himm : ∀ (j : Nat) (v : Value), vss.flatten[j]? = some v → I b (o + j) = some v := by
   intro j v hj
   obtain ⟨i, jj, vs, h1, h2, rfl⟩ := zG size' vss hall j v hj
   rw [← Nat.add_assoc]
   exact R.mem i vs jj v h1 h2
  refine ⟨?_, zB es vss R.len (fun i e vs h1 h2 => ⟨by have := R.oC i e vs h1 h2; omega, fun j c v e1 e2 => R.rd i e vs j c v h1 h2 e1 e2⟩), xI vss R.one, by rw [hfl, R.len], himm⟩
  intro w0 he
  have hload := run_loadCells_list (P := P) w0 ⟨b, o, none⟩ vss.flatten (fun j v hj => by
   rw [cell_of_heap he, nI]
   exact s.imm _ _ _ (himm j v hj))
  rw [hfl, ← R.len] at hload
  simpa [Builtin.firstCells] using hload
theorem NS : ∀ (rounds c need : Nat), c ≤ need → Builtin.growBy need rounds c ≤ 2 * need + 192
 | 0, c, need, h => by simp only [Builtin.growBy]; omega
 | r + 1, c, need, h => by
  simp only [Builtin.growBy]
  split
  ·omega
  ·by_cases h2 : c + (c + 768) / 4 ≤ need
   ·exact NS r _ need h2
   ·cases r with
    | zero => simp only [Builtin.growBy]; omega
    | succ r => simp only [Builtin.growBy]; rw [if_pos (by omega)]; omega
theorem nextslicecap_le (need cap : Nat) (h : cap < need) : Builtin.nextslicecap need cap ≤ 2 * need + 1024 := by
 unfold Builtin.nextslicecap
 split
 ·omega
 ·split
  ·omega
  ·have := NS 4 cap need (by omega); omega
theorem LF (z : Array Value) (n : Nat) : (Builtin.zeroCells z n).size = n * z.size := by simp [Builtin.zeroCells]
theorem CP {P : Program} (w : World) (need old : Nat) (t : TypeId) (h : need < 2 ^ 63) : ∃ c, (choose (.appendCap need old t)).run P w = .ok c w.drew ∧ need ≤ c := by
 refine ⟨(Question.appendCap need old t).cut (w.tape w.drawn (.appendCap need old t)), ?_, ?_⟩
 ·rw [run_choose, if_neg (by simp [Question.forced])]; rfl
 ·simp only [Question.cut]; omega
theorem HS [GI] {w : World} {I : Imm} {h : AHeap} (s : Sat w I h) : Sat w.drew I h := ⟨s.pD, fun b o hb => (s.obj b o hb).mono (Imm.le_refl I) rfl, fun b o v hb => s.imm b o v hb, s.dis⟩
theorem QV (w : World) (h : AHeap) : Ext h w w.drew := ⟨rfl, rfl, rfl, Nat.le_refl _, fun _ _ _ => rfl⟩
theorem aBa : ∀ d : TypeDesc, (∀ k, d ≠ .int k) → (match d with | .int _ => true | _ => false) = false := by
 intro d h
 cases d <;> first | rfl | (exfalso; exact h _ rfl)
def pA (P : Program) (w : World) (k : Nat) (new : List Value) (w' : World) : Option Addr → Prop
 | some p => (storeCells (p.add k) new).run P w = .ok () w'
 | none => w' = w
section
variable {P : Program} {sty xty oty el : TypeId} {ie : TypeInfo} {z : Value} {d : TypeDesc} {w : World} {base : Option Addr} {n cap m : Nat} {xv : Value} {old new : List Value}
theorem LX (hu : P.underlying sty = some (.slice el)) (hx : P.underlying xty = some d) (hd : ∀ k, d ≠ .int k) (hie : P.info? el = some ie)
  (hlen : (Builtin.lenOf xv).run P w = .ok m w) (hnew : (Builtin.firstCells ie.size m xv).run P w = .ok new.toArray w) (hfit : n + m ≤ cap) {w' : World}
  (hst : pA P w (n * ie.size) new w' base) :
  (Builtin.append_ #[sty, xty] oty #[.slice base n cap, xv]).run P w = .ok (.slice base (n + m) cap) w' := by
 have hm := aBa d hd
 have hsz : (Go.sizeOf el).run P w = .ok ie.size w := by simp [Go.sizeOf, typeInfo, hie]
 cases base with
 | none =>
  simp only [pA] at hst
  subst hst
  simp only [Builtin.append_, List.getElem?_toArray, List.getElem?_cons_zero, List.getElem?_cons_succ, Sem.run_bind, run_underlying hu, Result.andThen_ok, hsz]
  simp only [run_underlying hx, hm, Sem.run_bind, Sem.run_pure, Result.andThen_ok, Bool.false_eq_true, if_false, Bool.not_false, if_true, hlen]
  rw [if_pos hfit]
  simp only [Sem.run_bind, hnew, Result.andThen_ok, Sem.run_pure]
 | some p =>
  simp only [pA] at hst
  simp only [Builtin.append_, List.getElem?_toArray, List.getElem?_cons_zero, List.getElem?_cons_succ, Sem.run_bind, run_underlying hu, Result.andThen_ok, hsz]
  simp only [run_underlying hx, hm, Sem.run_bind, Sem.run_pure, Result.andThen_ok, Bool.false_eq_true, if_false, Bool.not_false, if_true, hlen]
  rw [if_pos hfit]
  simp only [Sem.run_bind, hnew, Result.andThen_ok, Sem.run_pure, hst]
theorem run_append_grow (hu : P.underlying sty = some (.slice el)) (hx : P.underlying xty = some d) (hd : ∀ k, d ≠ .int k) (hie : P.info? el = some ie) (hz : ie.zero = some z) (hzs : z.cells.size = ie.size) (hby : ie.bytes ≠ 0)
  (hlen : (Builtin.lenOf xv).run P w = .ok m w) (hnew : ∀ w0 : World, w0.heap = w.heap → (Builtin.firstCells ie.size m xv).run P w0 = .ok new.toArray w0) (hold : ∀ w0 : World, w0.heap = w.heap → (Builtin.firstCells ie.size n (.slice base n cap)).run P w0 = .ok old.toArray w0)
  (hgrow : cap < n + m) (hroom : roomFor (n + m) ie.bytes) :
  ∃ c rest, n + m ≤ c ∧ rest.length = (c - (n + m)) * ie.size ∧
   (Builtin.append_ #[sty, xty] oty #[.slice base n cap, xv]).run P w = .ok (.slice (some ⟨w.heap.size, 0, none⟩) (n + m) c) (w.drew.alloc (.cells (old ++ new ++ rest).toArray el)) := by
 have hm := aBa d hd
 have hsz : (Go.sizeOf el).run P w = .ok ie.size w := by simp [Go.sizeOf, typeInfo, hie]
 have hti : ∀ w0 : World, (typeInfo el).run P w0 = .ok ie w0 := fun w0 => by simp [typeInfo, hie]
 have hzv : ∀ w0 : World, (zeroValue el).run P w0 = .ok z w0 := fun w0 => by simp [zeroValue, typeInfo, hie, hz]
 have hpos : 1 ≤ ie.bytes := by omega
 have hfew : n + m < 2 ^ 63 := by
  unfold roomFor at hroom
  have : 2 * (n + m) + 1024 ≤ (2 * (n + m) + 1024) * ie.bytes := Nat.le_mul_of_pos_right _ hpos
  omega
 have hcapb : ¬ Builtin.nextslicecap (n + m) cap * ie.bytes > 2 ^ 48 := by
  have h1 := nextslicecap_le (n + m) cap hgrow
  have h2 : Builtin.nextslicecap (n + m) cap * ie.bytes ≤ (2 * (n + m) + 1024) * ie.bytes := Nat.mul_le_mul_right _ h1
  unfold roomFor at hroom
  omega
 obtain ⟨c, hc, hcn⟩ := CP (P := P) w (n + m) cap el hfew
 refine ⟨c, (Builtin.zeroCells z.cells (c - (n + m))).toList, hcn, by rw [Array.length_toList, LF, hzs], ?_⟩
 have hfirst : ¬ (((n + m : Nat) : Int) > IntKind.i64.max ∧ (False ∨ ie.bytes = 0)) := by
  intro hh; rcases hh.2 with hf | hf
  ·exact hf
  ·exact hby hf
 simp only [Builtin.append_, List.getElem?_toArray, List.getElem?_cons_zero, List.getElem?_cons_succ, Sem.run_bind, run_underlying hu, Result.andThen_ok, hsz]
 simp only [run_underlying hx, hm, Sem.run_bind, Sem.run_pure, Result.andThen_ok, Bool.false_eq_true, if_false, Bool.not_false, if_true, hlen]
 rw [if_neg (by omega)]
 simp only [Sem.run_bind, hti, Result.andThen_ok]
 rw [if_neg hfirst]
 simp only [Sem.run_bind, hti, Result.andThen_ok]
 rw [if_neg hcapb]
 simp only [Sem.run_bind, hc, hti, run_askRoom, Result.andThen_ok, hold w.drew rfl, hnew w.drew rfl, hzv, newRow, run_newObj, Sem.run_pure]
 have hcells : (old.toArray ++ new.toArray ++ Builtin.zeroCells z.cells (c - (n + m))) = (old ++ new ++ (Builtin.zeroCells z.cells (c - (n + m))).toList).toArray := by apply Array.ext'; simp
 rw [hcells]
 rfl
end
end Pg
namespace Pg
open Go
theorem LG (k : Int) (h0 : -9223372036854775808 ≤ k) (h1 : k ≤ 9223372036854775807) : IntKind.i64.wrap k = k := by
 exact IntWalk.i64_in k ⟨h0, h1⟩
theorem qW (v : Value) (n : Nat) : Builtin.zeroCells #[v] n = (List.replicate n v).toArray := by
 apply Array.ext'
 simp only [Builtin.zeroCells, Array.toList_map]
 apply List.ext_getElem?
 intro j
 simp only [List.getElem?_map, List.getElem?_replicate, Array.toList_range, List.size_toArray, List.length_cons, List.length_nil, Nat.mul_one]
 by_cases hj : j < n
 ·rw [List.getElem?_range (by omega)]
  have h0 : j % 1 = 0 := Nat.mod_one j
  have h1 : ∀ i, i = 0 → (#[v] : Array Value)[i]! = v := by rintro i rfl; rfl
  simp only [hj, if_true, Option.map_some, Nat.zero_add]
  rw [h1 _ h0]
 ·rw [if_neg hj, List.getElem?_eq_none (by simp; omega)]
  rfl
section
variable {P : Program} {sty xty oty el : TypeId} {ie : TypeInfo} {z : Value} {kd : IntKind} {w : World} {base : Option Addr} {n cap : Nat} {k : Int} {old : List Value}
theorem JO (hu : P.underlying sty = some (.slice el)) (hx : P.underlying xty = some (.int kd)) (hie : P.info? el = some ie) (hz : ie.zero = some z) (hzs : z.cells = #[z]) (h1 : ie.size = 1)
  (hk : 0 ≤ k ∧ k ≤ 9223372036854775807) (hb : k * ie.bytes ≤ 2 ^ 48) (hfit : n + k.toNat ≤ cap) {w' : World}
  (hst : pA P w n (List.replicate k.toNat z) w' base) :
  (Builtin.append_ #[sty, xty] oty #[.slice base n cap, .int .i64 k]).run P w = .ok (.slice base (n + k.toNat) cap) w' := by
 have hsz : (Go.sizeOf el).run P w = .ok 1 w := by simp [Go.sizeOf, typeInfo, hie, h1]
 have hti : ∀ w0 : World, (typeInfo el).run P w0 = .ok ie w0 := fun w0 => by simp [typeInfo, hie]
 have hzv : ∀ w0 : World, (zeroValue el).run P w0 = .ok z w0 := fun w0 => by simp [zeroValue, typeInfo, hie, hz]
 have hw : IntKind.i64.wrap k = k := LG k (by omega) hk.2
 have ha : (asInt (.int .i64 k)).run P w = .ok k w := rfl
 have hnew : ((if k.toNat * 1 = 0 then pure #[] else do pure (Builtin.zeroCells (← zeroValue el).cells k.toNat)) : Sem (Array Value)).run P w = .ok (List.replicate k.toNat z).toArray w := by
  by_cases h0 : k.toNat = 0
  ·rw [h0]; rfl
  ·rw [if_neg (by omega)]
   simp only [Sem.run_bind, hzv, Result.andThen_ok, hzs, qW, Sem.run_pure]
 cases base with
 | none =>
  simp only [pA] at hst
  subst hst
  simp only [Builtin.append_, List.getElem?_toArray, List.getElem?_cons_zero, List.getElem?_cons_succ, Sem.run_bind, run_underlying hu, Result.andThen_ok, hsz]
  simp only [run_underlying hx, Sem.run_bind, Sem.run_pure, Result.andThen_ok, if_true, ha, hw]
  rw [if_neg (by omega)]
  simp only [Sem.run_bind, hti, Result.andThen_ok]
  rw [if_neg (by omega)]
  simp only [Sem.run_bind, Sem.run_pure, Result.andThen_ok, Bool.not_true, Bool.false_eq_true, if_false]
  rw [if_pos hfit]
  simp only [Sem.run_bind, hnew, Result.andThen_ok, Sem.run_pure]
 | some p =>
  simp only [pA] at hst
  simp only [Builtin.append_, List.getElem?_toArray, List.getElem?_cons_zero, List.getElem?_cons_succ, Sem.run_bind, run_underlying hu, Result.andThen_ok, hsz]
  simp only [run_underlying hx, Sem.run_bind, Sem.run_pure, Result.andThen_ok, if_true, ha, hw]
  rw [if_neg (by omega)]
  simp only [Sem.run_bind, hti, Result.andThen_ok]
  rw [if_neg (by omega)]
  simp only [Sem.run_bind, Sem.run_pure, Result.andThen_ok, Bool.not_true, Bool.false_eq_true, if_false]
  rw [if_pos hfit]
  simp only [Sem.run_bind, hnew, Result.andThen_ok]
  rw [Nat.mul_one, hst]
  simp only [Result.andThen_ok, Sem.run_pure]
theorem HU (hu : P.underlying sty = some (.slice el)) (hx : P.underlying xty = some (.int kd)) (hie : P.info? el = some ie) (hz : ie.zero = some z) (hzs : z.cells = #[z]) (h1 : ie.size = 1) (hby : ie.bytes ≠ 0)
  (hk : 0 ≤ k ∧ k ≤ 9223372036854775807) (hb : k * ie.bytes ≤ 2 ^ 48) (hold : ∀ w0 : World, w0.heap = w.heap → (Builtin.firstCells 1 n (.slice base n cap)).run P w0 = .ok old.toArray w0)
  (hgrow : cap < n + k.toNat) (hroom : roomFor (n + k.toNat) ie.bytes) :
  ∃ c rest, n + k.toNat ≤ c ∧ rest.length = c - (n + k.toNat) ∧
   (Builtin.append_ #[sty, xty] oty #[.slice base n cap, .int .i64 k]).run P w = .ok (.slice (some ⟨w.heap.size, 0, none⟩) (n + k.toNat) c) (w.drew.alloc (.cells (old ++ List.replicate k.toNat z ++ rest).toArray el)) := by
 have hsz : (Go.sizeOf el).run P w = .ok 1 w := by simp [Go.sizeOf, typeInfo, hie, h1]
 have hti : ∀ w0 : World, (typeInfo el).run P w0 = .ok ie w0 := fun w0 => by simp [typeInfo, hie]
 have hzv : ∀ w0 : World, (zeroValue el).run P w0 = .ok z w0 := fun w0 => by simp [zeroValue, typeInfo, hie, hz]
 have hw : IntKind.i64.wrap k = k := LG k (by omega) hk.2
 have ha : (asInt (.int .i64 k)).run P w = .ok k w := rfl
 have hpos : 1 ≤ ie.bytes := by omega
 have hfew : n + k.toNat < 2 ^ 63 := by
  unfold roomFor at hroom
  have : 2 * (n + k.toNat) + 1024 ≤ (2 * (n + k.toNat) + 1024) * ie.bytes := Nat.le_mul_of_pos_right _ hpos
  omega
 have hfew' : ((n + k.toNat : Nat) : Int) ≤ IntKind.i64.max := by
  have : IntKind.i64.max = 9223372036854775807 := by rfl
  rw [this]; omega
 have hcapb : ¬ Builtin.nextslicecap (n + k.toNat) cap * ie.bytes > 2 ^ 48 := by
  have h1 := nextslicecap_le (n + k.toNat) cap hgrow
  have h2 : Builtin.nextslicecap (n + k.toNat) cap * ie.bytes ≤ (2 * (n + k.toNat) + 1024) * ie.bytes := Nat.mul_le_mul_right _ h1
  unfold roomFor at hroom
  omega
 have hnew : ∀ w0 : World, ((if k.toNat * 1 = 0 then pure #[] else do pure (Builtin.zeroCells (← zeroValue el).cells k.toNat)) : Sem (Array Value)).run P w0 = .ok (List.replicate k.toNat z).toArray w0 := by
  intro w0
  by_cases h0 : k.toNat = 0
  ·rw [h0]; rfl
  ·rw [if_neg (by omega)]
   simp only [Sem.run_bind, hzv, Result.andThen_ok, hzs, qW, Sem.run_pure]
 obtain ⟨c, hc, hcn⟩ := CP (P := P) w (n + k.toNat) cap el hfew
 refine ⟨c, List.replicate (c - (n + k.toNat)) z, hcn, by simp, ?_⟩
 have hfirst : ¬ (((n + k.toNat : Nat) : Int) > IntKind.i64.max ∧ (True ∨ ie.bytes = 0)) := by
  intro hh; omega
 simp only [Builtin.append_, List.getElem?_toArray, List.getElem?_cons_zero, List.getElem?_cons_succ, Sem.run_bind, run_underlying hu, Result.andThen_ok, hsz]
 simp only [run_underlying hx, Sem.run_bind, Sem.run_pure, Result.andThen_ok, if_true, ha, hw]
 rw [if_neg (by omega)]
 simp only [Sem.run_bind, hti, Result.andThen_ok]
 rw [if_neg (by omega)]
 simp only [Sem.run_bind, Sem.run_pure, Result.andThen_ok, Bool.not_true, Bool.false_eq_true, if_false]
 rw [if_neg (by omega)]
 simp only [Sem.run_bind, hti, Result.andThen_ok]
 rw [if_neg hfirst]
 simp only [Sem.run_bind, hti, Result.andThen_ok]
 rw [if_neg hcapb]
 simp only [Sem.run_bind, hc, hti, run_askRoom, Result.andThen_ok, hold w.drew rfl, hnew w.drew, hzv, hzs, qW, newRow, run_newObj, Sem.run_pure]
 have hcells : (old.toArray ++ (List.replicate k.toNat z).toArray ++ (List.replicate (c - (n + k.toNat)) z).toArray) = (old ++ List.replicate k.toNat z ++ List.replicate (c - (n + k.toNat)) z).toArray := by apply Array.ext'; simp
 rw [hcells]
 rfl
end
theorem NR [GI] {w : World} {I : Imm} {h : AHeap} (s : Sat w I h) (cs : List AV) (vs rest : List Value) (total : Nat) (ty : TypeId) (r : Rds I cs vs) (h1 : cV vs) (hl : vs.length + rest.length = total) (g : AHeap) (hg : g.le h) :
  g w.heap.size = none ∧ Sat (w.drew.alloc (.cells (vs ++ rest).toArray ty)) I (g.upd w.heap.size (.blk cs total ty)) ∧ Ext h w (w.drew.alloc (.cells (vs ++ rest).toArray ty)) ∧ New w I I h (g.upd w.heap.size (.blk cs total ty)) := by
 have s' := HS (s.forget hg)
 obtain ⟨g1, g2, g3, g4⟩ := lQ s' (.cells (vs ++ rest).toArray ty) (.blk cs total ty) (by
  refine ⟨vs ++ rest, pV _ _, by simp [hl], by rw [r.len]; omega, ?_, ?_⟩
  ·rw [r.len]; simpa using r
  ·rw [r.len]; simpa using h1)
 refine ⟨g1, g2, ⟨g3.os, g3.tape, g3.output, g3.size, ?_⟩, ⟨Imm.le_refl I, ?_, fun b o v hb => .inl hb⟩⟩
 ·intro k hk hn
  refine g3.block k hk ?_
  cases hgk : g k with
  | none => rfl
  | some x => have := hg k x hgk; rw [hn] at this; cases this
 ·intro b o hb
  rcases g4.heap b o hb with h2 | h2
  ·cases hgk : g b with
   | none => exact absurd hgk h2
   | some x => exact .inl (by rw [hg b x hgk]; simp)
  ·exact .inr h2
theorem KQ (h : AHeap) (b : Nat) : (h.del b).le h := fun c o e => by
 by_cases hc : c = b
 ·subst hc; rw [oM] at e; cases e
 ·rwa [pT _ _ hc] at e
theorem chunks_flatten {α : Type} {size : Nat} : ∀ {m : Nat} {xs : List α}, xs.length = m * size → (chunks size m xs).flatten = xs
 | 0, xs, h => by
  have : xs = [] := List.eq_nil_of_length_eq_zero (by omega)
  subst this; rfl
 | m + 1, xs, h => by
  simp only [chunks, List.flatten_cons]
  rw [chunks_flatten (xs := xs.drop size) (by rw [List.length_drop, h, Nat.add_mul]; omega), List.take_append_drop]
theorem zK {α : Type} {size : Nat} : ∀ {m : Nat} {xs : List α}, xs.length = m * size → ∀ e ∈ chunks size m xs, e.length = size
 | 0, xs, h, e, he => by simp [chunks] at he
 | m + 1, xs, h, e, he => by
  simp only [chunks, List.mem_cons] at he
  have hm : (m + 1) * size = m * size + size := by rw [Nat.add_mul, Nat.one_mul]
  rcases he with rfl | he
  ·rw [List.length_take, h]; omega
  ·exact zK (xs := xs.drop size) (by rw [List.length_drop, h]; omega) e he
def Imm.rK (I : Imm) (b : Nat) (vs : List Value) : Imm := fun c o => if c = b then vs[o]? else I c o
theorem M4 {I : Imm} {b size : Nat} {es : List (List AV)} {vs : List Value} (r : Rds I es.flatten vs) (h1 : cV vs) (hs : ∀ e ∈ es, e.length = size) (hm : ∀ (j : Nat) (v : Value), vs[j]? = some v → I b j = some v) : ∃ vss, Rows I b 0 size es vss := by
 have hfl := fM (α := AV) size es hs
 refine ⟨chunks size es.length vs, ?_⟩
 have := tH (b := b) (len := es.length) r h1 hfl hm
 have hch : chunks size es.length es.flatten = es := by
  clear this hfl r
  induction es with
  | nil => rfl
  | cons e es ih =>
   have he := hs e (by simp)
   simp only [List.length_cons, chunks, List.flatten_cons]
   rw [List.take_left' he, List.drop_left' he, ih (fun x hx => hs x (by simp [hx]))]
 rw [hch] at this
 exact this
theorem KE [GI] {w : World} {I : Imm} {h : AHeap} (s : Sat w I h) {es : List (List AV)} {size : Nat} {vs : List Value} (rest : List Value) (total : Nat) (ty : TypeId) (r : Rds I es.flatten vs) (h1 : cV vs) (hs : ∀ e ∈ es, e.length = size) (hl : vs.length + rest.length = total) (g : AHeap) (hg : g.le h) :
  ∃ J, g w.heap.size = none ∧ Sat (w.drew.alloc (.cells (vs ++ rest).toArray ty)) J (g.upd w.heap.size (.tail (es.length * size) total ty)) ∧ Ext h w (w.drew.alloc (.cells (vs ++ rest).toArray ty)) ∧ New w I J h (g.upd w.heap.size (.tail (es.length * size) total ty)) ∧
   ∀ cap, es.length ≤ cap → Rd J (.gs es w.heap.size cap) (.slice (some ⟨w.heap.size, 0, none⟩) es.length cap) := by
 have hfl := fM (α := AV) size es hs
 have hvl : vs.length = es.length * size := by rw [← r.len, hfl]
 have s' := HS (s.forget hg)
 let w' := w.drew.alloc (.cells (vs ++ rest).toArray ty)
 let J := I.rK w.heap.size vs
 have hIJ : I.le J := by
  intro b o v hb
  have := s.z6 hb
  simp only [J, Imm.rK]; rw [if_neg (by omega)]; exact hb
 have hold : ∀ k, k < w.heap.size → w'.heap[k]? = w.heap[k]? := by
  intro k hk
  show (w.heap.push _)[k]? = _
  rw [Array.getElem?_push, if_neg (by omega)]
 have hget : w'.heap[w.heap.size]? = some (.cells (vs ++ rest).toArray ty (0, 0)) := pV w.drew _
 have hgn : g w.heap.size = none := by
  cases hh : g w.heap.size with
  | none => rfl
  | some x => have := s.lt (hg _ _ hh); omega
 refine ⟨J, hgn, ⟨Imm.le_trans s.pD hIJ, ?_, ?_, ?_⟩, ⟨rfl, rfl, rfl, by show w.heap.size ≤ (w.heap.push _).size; simp, fun k hk _ => hold k hk⟩, ⟨hIJ, ?_, ?_⟩, ?_⟩
 ·intro b o hb
  by_cases hbb : b = w.heap.size
  ·subst hbb; rw [aA] at hb; cases hb
   exact ⟨vs ++ rest, hget, by simp [hl], by rw [← hvl]; omega⟩
  ·rw [aC _ _ _ hbb] at hb
   exact (s.obj b o (hg _ _ hb)).mono hIJ (hold b (s.lt (hg _ _ hb)))
 ·intro b o v hb
  simp only [J, Imm.rK] at hb
  split at hb
  ·rename_i hbb; subst hbb
   have ho : o < vs.length := by
    rcases Nat.lt_or_ge o vs.length with h' | h'
    ·exact h'
    ·rw [List.getElem?_eq_none h'] at hb; cases hb
   show w'.cell? ⟨w.heap.size, o, none⟩ = some v
   simp only [World.cell?, hget]
   simp [List.getElem?_append_left ho, hb]
  ·have hlt := s.z6 hb
   show w'.cell? ⟨b, o, none⟩ = some v
   have := s.imm b o v hb
   simp only [World.cell?] at this ⊢
   rw [hold b hlt]; exact this
 ·intro b o v hb
  simp only [J, Imm.rK] at hb
  split at hb
  ·rename_i hbb; subst hbb
   rw [aA]
   show o < es.length * size
   rcases Nat.lt_or_ge o vs.length with h' | h'
   ·omega
   ·rw [List.getElem?_eq_none h'] at hb; cases hb
  ·rename_i hbb
   rw [aC _ _ _ hbb]
   exact (s.forget hg).dis b o v hb
 ·intro b o hb
  by_cases hbb : b = w.heap.size
  ·exact .inr (by omega)
  ·rw [aC _ _ _ hbb] at hb; exact .inl (by rw [hg _ _ hb]; simp)
 ·intro b o v hb
  simp only [J, Imm.rK] at hb
  split at hb
  ·rename_i hbb; exact .inr (.inr (by omega))
  ·exact .inl hb
 ·intro cap hcap
  obtain ⟨vss, R⟩ := M4 (b := w.heap.size) (r.mono hIJ) h1 hs (fun j v hj => by simp only [J, Imm.rK, if_true]; exact hj)
  exact Rd.aDz hcap R
theorem aB3 [GI] {w : World} {I : Imm} {h : AHeap} (s : Sat w I h) {b q total size : Nat} {ty : TypeId} {es es2 : List (List AV)} {vs us new : List Value} (hb : h b = some (.tail q total ty)) (g1 : w.heap[b]? = some (.cells vs.toArray ty (0, 0))) (g2 : vs.length = total) (hq : q = es.length * size)
  (r : Rds I es2.flatten (us ++ new)) (h1 : cV (us ++ new)) (hs : ∀ e ∈ es2, e.length = size) (hI : ∀ (j : Nat) (v : Value), us[j]? = some v → I b j = some v) (hfit : es2.length * size ≤ total) (hle : es.length * size + new.length ≤ vs.length) (hu : us.length = es.length * size) :
  ∃ J, Sat (w.setRow b (bM vs (es.length * size) new).toArray) J (h.upd b (.tail (es2.length * size) total ty)) ∧ Ext h w (w.setRow b (bM vs (es.length * size) new).toArray) ∧ New w I J h (h.upd b (.tail (es2.length * size) total ty)) ∧
   ∀ cap, es2.length ≤ cap → Rd J (.gs es2 b cap) (.slice (some ⟨b, 0, none⟩) es2.length cap) := by
 subst hq
 have hsp : (bM vs (es.length * size) new).length = total := by rw [jG _ _ _ hle, g2]
 have hfl2 := fM (α := AV) size es2 hs
 have hlen2 : us.length + new.length = es2.length * size := by rw [← hfl2, r.len, List.length_append]
 let J : Imm := fun c o => if c = b ∧ es.length * size ≤ o then (if o < es2.length * size then (bM vs (es.length * size) new)[o]? else none) else I c o
 have hIJ : I.le J := by
  intro c o v hv
  simp only [J]
  rw [if_neg]
  ·exact hv
  ·rintro ⟨rfl, ho⟩
   have := s.dis c o v hv; rw [hb] at this
   have : o < es.length * size := this
   omega
 have hnew : ∀ (j : Nat) (v : Value), (us ++ new)[j]? = some v → es.length * size ≤ j → J b j = some v := by
  intro j v hj hge
  have hjl : j < us.length + new.length := by
   rcases Nat.lt_or_ge j (us ++ new).length with h' | h'
   ·simpa using h'
   ·rw [List.getElem?_eq_none h'] at hj; cases hj
  simp only [J]
  rw [if_pos (by first | exact ⟨rfl, hge⟩ | exact ⟨trivial, hge⟩), if_pos (by omega)]
  unfold bM
  rw [List.getElem?_append_right (by simp; omega), List.getElem?_append_left (by simp; omega)]
  rw [List.getElem?_append_right (by omega)] at hj
  rw [List.length_take, Nat.min_eq_left (by omega), ← hj, hu]
 have hget := setRow_heap w b _ (bM vs (es.length * size) new).toArray _ _ g1
 refine ⟨J, ⟨Imm.le_trans s.pD hIJ, ?_, ?_, ?_⟩, ⟨rfl, rfl, rfl, by simp, fun k hk hn => setRow_other w b k _ (by intro hh; subst hh; rw [hb] at hn; cases hn)⟩, ⟨hIJ, ?_, ?_⟩, ?_⟩
 ·intro c o hc
  by_cases hcb : c = b
  ·subst hcb; rw [aA] at hc; cases hc
   exact ⟨_, hget, hsp, hfit⟩
  ·rw [aC _ _ _ hcb] at hc
   exact (s.obj c o hc).mono hIJ (setRow_other w b c _ hcb)
 ·intro c o v hc
  simp only [J] at hc
  split at hc
  ·rename_i hcond
   obtain ⟨rfl, ho⟩ := hcond
   split at hc
   ·simp only [World.cell?, hget]; simpa using hc
   ·cases hc
  ·rename_i hcond
   by_cases hcb : c = b
   ·subst hcb
    have ho : o < es.length * size := by
     rcases Nat.lt_or_ge o (es.length * size) with h' | h'
     ·exact h'
     ·exact absurd (by first | exact ⟨rfl, h'⟩ | exact ⟨trivial, h'⟩) hcond
    have h0 := s.imm c o v hc
    simp only [World.cell?, g1] at h0
    simp only [World.cell?, hget]
    simp only [Option.isSome_none, Bool.false_eq_true, if_false, List.getElem?_toArray] at h0 ⊢
    unfold bM
    rw [List.getElem?_append_left (by simp; omega), List.getElem?_take, if_pos ho]; exact h0
   ·rw [cell_setRow_other w b _ ⟨c, o, none⟩ hcb]; exact s.imm c o v hc
 ·intro c o v hc
  by_cases hcb : c = b
  ·subst hcb
   rw [aA]
   show o < es2.length * size
   simp only [J] at hc
   split at hc
   ·split at hc
    ·assumption
    ·cases hc
   ·rename_i hcond
    have ho : o < es.length * size := by
     rcases Nat.lt_or_ge o (es.length * size) with h' | h'
     ·exact h'
     ·exact absurd (by first | exact ⟨rfl, h'⟩ | exact ⟨trivial, h'⟩) hcond
    omega
  ·rw [aC _ _ _ hcb]
   simp only [J] at hc
   rw [if_neg (fun hh => hcb hh.1)] at hc
   exact s.dis c o v hc
 ·intro c o hc
  by_cases hcb : c = b
  ·subst hcb; exact .inl (by rw [hb]; simp)
  ·rw [aC _ _ _ hcb] at hc; exact .inl (by rw [hc]; simp)
 ·intro c o v hc
  simp only [J] at hc
  split at hc
  ·rename_i hcond; rw [hcond.1]; exact .inr (.inl (by rw [hb]; simp))
  ·exact .inl hc
 ·intro cap' hcap
  obtain ⟨vss, R2⟩ := M4 (b := b) (size := size) (r.mono hIJ) h1 hs (fun j v hj => by
   rcases Nat.lt_or_ge j (es.length * size) with hjl | hjl
   ·rw [List.getElem?_append_left (by omega)] at hj
    exact hIJ _ _ _ (hI j v hj)
   ·exact hnew j v hj hjl)
  exact Rd.aDz hcap R2
theorem K0 [GI] {P : Program} {o : Oper} {a : Act} {ty : TypeId} {size bytes m : Nat} {w : World} {I : Imm} {h : AHeap} {K : AV → AHeap → Prop} {sv : AV} {svv : Value} {xs : List AV} {new : List Value} (t : Sat w I h) (hs : Rd I sv svv)
  (rn : Rds I xs new) (n1 : cV new) (ln : new.length = m * size) (k : gZ h ty size bytes sv m xs K)
  (fit : ∀ (base : Option Addr) (n cap : Nat) (w' : World), svv = .slice base n cap → n + m ≤ cap → pA P w (n * size) new w' base → (execOp a.eval o).run P w = .ok (.value (.slice base (n + m) cap)) w')
  (grow : ∀ (base : Option Addr) (n cap : Nat) (old : List Value), svv = .slice base n cap → cap < n + m → roomFor (n + m) bytes → (∀ w0 : World, w0.heap = w.heap → (Builtin.firstCells size n (.slice base n cap)).run P w0 = .ok old.toArray w0) →
   ∃ (c : Nat) (rest : List Value), n + m ≤ c ∧ rest.length = (c - (n + m)) * size ∧ (execOp a.eval o).run P w = .ok (.value (.slice (some ⟨w.heap.size, 0, none⟩) (n + m) c)) (w.drew.alloc (.cells (old ++ new ++ rest).toArray ty)))
  (next : Act → World → Prop) (Q : Exit → Act → World → Prop) (H : ∀ v J w' av g, K av g → Rd J av v → Sat w' J g → Ext h w w' → New w I J h g → next (a.put o.dst v) w') : o.wp P a w next Q := by
 have satw : ∀ w0 : World, w0.heap = w.heap → Sat w0 I h := by
  intro w0 he
  refine ⟨t.pD, fun b o hb => (t.obj b o hb).mono (Imm.le_refl I) (by rw [he]), fun b o v hb => ?_, t.dis⟩
  have := t.imm b o v hb
  simp only [World.cell?, he] at this ⊢; exact this
 have mulc : ∀ n c : Nat, n + m ≤ c → n * size + m * size + (c - (n + m)) * size = c * size := by
  intro n c hc
  rw [← Nat.add_mul, ← Nat.add_mul]; congr 1; omega
 cases sv with
 | sl es full =>
  obtain ⟨base, cap, rfl, hc, hf, hsp, hn, hes⟩ := hs.uS
  simp only [gZ] at k
  by_cases hm : m = 0
  ·subst hm
   have hnil : new = [] := List.eq_nil_of_length_eq_zero (by omega)
   subst hnil
   unfold Oper.wp
   rw [fit base es.length cap w rfl (by omega) (by cases base <;> simp [pA, storeCells])]
   rw [Oper.upon_value]
   exact H _ I _ _ _ (k.1 rfl) (by simpa using hs) t (.refl h w) (.refl w I h)
  ·obtain ⟨hfull, hroom, hlen, hK⟩ := k.2 hm
   have hcap := hf hfull
   obtain ⟨ca, cc, us, e1, hold, e3, e4, e5⟩ := zU (P := P) t (size := size) (m := es.length) (xs := es.flatten) hs rfl hlen (fun t e => by cases e)
   obtain ⟨c, rest, hcn, hrest, hrun⟩ := grow base es.length cap us rfl (by omega) hroom hold
   unfold Oper.wp
   rw [hrun, Oper.upon_value]
   rcases hK with hK | hK
   ·obtain ⟨g1, g2, g3, g4⟩ := NR t (es.flatten ++ xs) (us ++ new) rest (c * size) ty (e3.append rn) (e4.append n1) (by rw [List.length_append, e5, ln, hrest]; exact mulc _ _ hcn) h (AHeap.le_refl h)
    exact H _ I _ _ _ (hK _ _ g1 hcn) (.os _ _ _) g2 g3 g4
   ·have hfl := fM (α := AV) size es hlen
    obtain ⟨J, g1, g2, g3, g4, R⟩ := KE t (es := es ++ chunks size m xs) (vs := us ++ new) rest (c * size) ty (by rw [List.flatten_append, chunks_flatten (by rw [rn.len, ln])]; exact e3.append rn) (e4.append n1)
     (by intro e he; rcases List.mem_append.1 he with he | he; exact hlen e he; exact zK (by rw [rn.len, ln]) e he) (by rw [List.length_append, e5, ln, hrest]; exact mulc _ _ hcn) h (AHeap.le_refl h)
    have hl2 : (es ++ chunks size m xs).length = es.length + m := by rw [List.length_append, mR]
    rw [hl2] at g2 g4 R
    exact H _ J _ _ _ (hK _ _ g1 hcn) (R c hcn) g2 g3 g4
 | gs es b cap =>
  obtain ⟨size', vss, rfl, hcap, R⟩ := hs.KB
  simp only [gZ] at k
  cases hb : h b with
  | none => simp [hb] at k
  | some ob =>
   cases ob with
   | mp _ => simp [hb] at k
   | mpc _ _ _ => simp [hb] at k
   | it _ _ _ _ => simp [hb] at k
   | sit _ _ => simp [hb] at k
   | blk _ _ _ => simp [hb] at k
   | tail q total ty' =>
    simp only [hb] at k
    obtain ⟨rfl, htot, hq, hnc, hlen, hroom, hK⟩ := k
    obtain ⟨vs, g1, g2, g3⟩ := t.obj _ _ hb
    obtain ⟨hold, e3, e4, e5, hI⟩ := X5 (P := P) t R hlen cap
    simp only [Nat.zero_add] at hI
    generalize vss.flatten = us at hold e3 e4 e5 hI
    have hl2 : (es ++ chunks size m xs).length = es.length + m := by rw [List.length_append, mR]
    have hfit2 : ∀ e ∈ es ++ chunks size m xs, e.length = size := by intro e he; rcases List.mem_append.1 he with he | he; exact hlen e he; exact zK (by rw [rn.len, ln]) e he
    have hrd : Rds I (es ++ chunks size m xs).flatten (us ++ new) := by rw [List.flatten_append, chunks_flatten (by rw [rn.len, ln])]; exact e3.append rn
    by_cases hfit : es.length + m ≤ cap
    ·have hsum := mulc es.length cap hfit
     have hle2 : es.length * size + new.length ≤ vs.length := by rw [ln, g2, htot]; omega
     have hst := run_storeCells_at (P := P) b (es.length * size) ty' new 0 vs.toArray w g1 (by simpa using hle2) n1.mem
     obtain ⟨J, k1, k2, k3, R'⟩ := aB3 t hb g1 g2 hq hrd (e4.append n1) hfit2 hI (by rw [hl2]; rw [← Nat.add_mul] at hsum; omega) hle2 e5
     rw [hl2] at k1 k3 R'
     unfold Oper.wp
     rw [fit _ es.length cap (w.setRow b (bM vs (es.length * size) new).toArray) rfl hfit (by
      simp only [pA, nI, Nat.zero_add]
      rw [hst]
      simp [bM])]
     rw [Oper.upon_value]
     have hup : h.upd b (.tail ((es.length + m) * size) total ty') = (h.del b).upd b (.tail ((es.length + m) * size) (cap * size) ty') := by
      rw [← htot]; funext c; simp only [AHeap.upd, AHeap.del]; split <;> rfl
     rw [hup] at k1 k3
     exact H _ J _ _ _ (hK b cap (oM h b) hfit) (R' cap hfit) k1 k2 k3
    ·obtain ⟨c, rest, hcn, hrest, hrun⟩ := grow _ es.length cap us rfl (by omega) hroom hold
     unfold Oper.wp
     rw [hrun, Oper.upon_value]
     obtain ⟨J, q1, q2, q3, q4, R'⟩ := KE t (es := es ++ chunks size m xs) (vs := us ++ new) rest (c * size) ty' hrd (e4.append n1) hfit2 (by rw [List.length_append, e5, ln, hrest]; exact mulc _ _ hcn) (h.del b) (KQ h b)
     rw [hl2] at q2 q4 R'
     exact H _ J _ _ _ (hK _ _ q1 hcn) (R' c hcn) q2 q3 q4
 | os b n cap =>
  have := hs.pQ; subst this
  simp only [gZ] at k
  cases hb : h b with
  | none => simp [hb] at k
  | some ob =>
   cases ob with
   | mp _ => simp [hb] at k
   | mpc _ _ _ => simp [hb] at k
   | it _ _ _ _ => simp [hb] at k
   | sit _ _ => simp [hb] at k
   | tail _ _ _ => simp [hb] at k
   | blk cs total ty' =>
    simp only [hb] at k
    obtain ⟨rfl, htot, hnc, hle, hroom, hK⟩ := k
    obtain ⟨vs, g1, g2, g3, g4, g5⟩ := t.obj _ _ hb
    by_cases hfit : n + m ≤ cap
    ·have hsum := mulc n cap hfit
     have hle2 : n * size + new.length ≤ vs.length := by rw [ln, g2, htot]; omega
     have hst := run_storeCells_at (P := P) b (n * size) ty' new 0 vs.toArray w g1 (by simpa using hle2) n1.mem
     have hsp : (bM vs (n * size) new).length = total := by rw [jG _ _ _ hle2, g2]
     have htk : (bM vs (n * size) new).take (cs.take (n * size) ++ xs).length = (vs.take cs.length).take (n * size) ++ new := by
      have l1 : (cs.take (n * size) ++ xs).length = n * size + new.length := by simp [rn.len]; omega
      rw [l1]
      unfold bM
      rw [List.take_append, List.take_append]
      simp only [List.length_take]
      rw [Nat.min_eq_left (show n * size ≤ vs.length by omega), List.take_take, Nat.min_eq_right (by omega), List.take_of_length_le (show new.length ≤ n * size + new.length - n * size by omega), List.take_take, Nat.min_eq_left hle]
      simp
     have hset := AX t hb g1 hsp (ds := cs.take (n * size) ++ xs) (by simp [rn.len]; rw [← g2]; omega)
      (by rw [htk]; exact (g4.take _).append rn) (by rw [htk]; exact (g5.take _).append n1)
     obtain ⟨k1, k2, k3⟩ := hset
     unfold Oper.wp
     rw [fit _ n cap (w.setRow b (bM vs (n * size) new).toArray) rfl hfit (by
      simp only [pA, nI, Nat.zero_add]
      rw [hst]
      simp [bM])]
     rw [Oper.upon_value]
     have hup : h.upd b (.blk (cs.take (n * size) ++ xs) total ty') = (h.del b).upd b (.blk (cs.take (n * size) ++ xs) (cap * size) ty') := by
      rw [← htot]; funext c; simp only [AHeap.upd, AHeap.del]; split <;> rfl
     rw [hup] at k1 k3
     exact H _ I _ _ _ (hK b cap (oM h b) hfit) (.os _ _ _) k1 k2 k3
    ·have hlen : ((vs.take cs.length).take (n * size)).length = n * size := by simp; omega
     obtain ⟨c, rest, hcn, hrest, hrun⟩ := grow _ n cap ((vs.take cs.length).take (n * size)) rfl (by omega) hroom (by
      intro w0 he
      have hload := run_loadCells_list (P := P) w0 ⟨b, 0, none⟩ ((vs.take cs.length).take (n * size)) (fun j v hj => by
       rw [nI, Nat.zero_add]
       rw [List.getElem?_take] at hj
       split at hj
       ·rw [List.getElem?_take] at hj
        split at hj
        ·simp only [World.cell?, he, g1]; simpa using hj
        ·cases hj
       ·cases hj)
      rw [hlen] at hload
      simpa [Builtin.firstCells] using hload)
     unfold Oper.wp
     rw [hrun, Oper.upon_value]
     obtain ⟨q1, q2, q3, q4⟩ := NR t (cs.take (n * size) ++ xs) ((vs.take cs.length).take (n * size) ++ new) rest (c * size) ty' ((g4.take _).append rn) ((g5.take _).append n1) (by rw [List.length_append, hlen, ln, hrest]; exact mulc _ _ hcn) (h.del b) (KQ h b)
     exact H _ I _ _ _ (hK _ _ q1 hcn) (.os _ _ _) q2 q3 q4
 | _ => simp [gZ] at k
end Pg
namespace Pg
open Go
theorem OI [GI] {P : Program} {o : Oper} {sty xty el : TypeId} {ie : TypeInfo} {z : Value} {d : TypeDesc} {s x : Operand} {rs rx : aV} (ho : o.op = .call { callee := .builtin .append, args := #[s, x], argTypes := #[sty, xty] })
  (hu : P.underlying sty = some (.slice el)) (hx : P.underlying xty = some d) (hd : ∀ k, d ≠ .int k) (hie : P.info? el = some ie) (hz : ie.zero = some z) (hzs : z.cells.size = ie.size) (hby : ie.bytes ≠ 0) (hs : bF s = some rs) (hxr : bF x = some rx) :
  kK P o (.append el ie.size ie.bytes rs rx) := by
 intro I w h a va K st t k next Q H
 have h1 := bR st hs
 have h2 := bR st hxr
 simp only [eY] at k
 cases hel : lG h ie.size (va rx) with
 | none => simp [hel, rP] at k
 | some p =>
  obtain ⟨m, xs⟩ := p
  simp only [hel, rP] at k
  obtain ⟨kfit, k⟩ := k
  obtain ⟨new, hlen0, hfc, rn, n1, ln⟩ := JN (P := P) t h2 hel kfit
  have hlen : (Builtin.lenOf (a.eval x)).run P w = .ok m w := hlen0 w
  have exec : ∀ (v : Value) (w' : World), (Builtin.append_ #[sty, xty] o.type #[a.eval s, a.eval x]).run P w = .ok v w' → (execOp a.eval o).run P w = .ok (.value v) w' := by
   intro v w' hr
   simp only [execOp, ho, resolve, invoke, builtin, Sem.run_bind, Sem.run_pure, Result.andThen_ok, List.map_toArray, List.map_cons, List.map_nil, hr]
  refine K0 t h1 rn n1 ln k ?_ ?_ next Q H
  ·intro base n cap w' hb hfit hst
   exact exec _ _ (by rw [hb]; exact LX hu hx hd hie hlen (hfc w rfl) hfit hst)
  ·intro base n cap old hb hg hroom hold
   obtain ⟨c, rest, q1, q2, q3⟩ := run_append_grow (oty := o.type) hu hx hd hie hz hzs hby hlen hfc hold hg hroom
   exact ⟨c, rest, q1, q2, exec _ _ (by rw [hb]; exact q3)⟩
theorem u7 {I : Imm} {x : AV} {v : Value} (r : Rd I x v) (h1 : v.oneCell' = true) : ∀ n, Rds I (List.replicate n x) (List.replicate n v) ∧ cV (List.replicate n v)
 | 0 => ⟨by simpa using Rds.nil I, by simpa using cV.nil⟩
 | n + 1 => by
  obtain ⟨a, b⟩ := u7 r h1 n
  simp only [List.replicate_succ]
  exact ⟨.cons r a, .cons h1 b⟩
theorem xU {v : Value} {x : AV} (h : ofV v = some x) : v.cells = #[v] := by
 unfold ofV at h
 split at h <;> first | rfl | cases h
theorem LW [GI] {P : Program} {o : Oper} {sty xty el : TypeId} {ie : TypeInfo} {z : Value} {kd : IntKind} {zx : AV} {s x : Operand} {rs rx : aV} (ho : o.op = .call { callee := .builtin .append, args := #[s, x], argTypes := #[sty, xty] })
  (hu : P.underlying sty = some (.slice el)) (hx : P.underlying xty = some (.int kd)) (hie : P.info? el = some ie) (hz : ie.zero = some z) (hzx : ofV z = some zx) (h1s : ie.size = 1) (hby : ie.bytes ≠ 0) (hs : bF s = some rs) (hxr : bF x = some rx) :
  kK P o (.r6 el ie.bytes zx rs rx) := by
 intro I w h a va K st t k next Q H
 have h1 := bR st hs
 have h2 := bR st hxr
 simp only [eY] at k
 generalize va rx = q at h2 k
 generalize hxv : a.eval x = xv at h2
 split at k
 ·rename_i m
  have := h2.gM; subst this
  obtain ⟨k0, k1, k2, k⟩ := k
  have exec : ∀ (v : Value) (w' : World), (Builtin.append_ #[sty, xty] o.type #[a.eval s, a.eval x]).run P w = .ok v w' → (execOp a.eval o).run P w = .ok (.value v) w' := by
   intro v w' hr
   simp only [execOp, ho, resolve, invoke, builtin, Sem.run_bind, Sem.run_pure, Result.andThen_ok, List.map_toArray, List.map_cons, List.map_nil, hr]
  obtain ⟨rn, n1⟩ := u7 (D0 I hzx) (L3 hzx) m.toNat
  refine K0 (size := 1) t h1 rn n1 (by simp) k ?_ ?_ next Q H
  ·intro base n cap w' hb hfit hst
   exact exec _ _ (by rw [hb, hxv]; exact JO hu hx hie hz (xU hzx) h1s ⟨k0, k1⟩ k2 hfit (by simpa using hst))
  ·intro base n cap old hb hg hroom hold
   obtain ⟨c, rest, q1, q2, q3⟩ := HU (oty := o.type) hu hx hie hz (xU hzx) h1s hby ⟨k0, k1⟩ k2 hold hg hroom
   exact ⟨c, rest, q1, by rw [q2]; simp, exec _ _ (by rw [hb, hxv]; exact q3)⟩
 ·exact k.elim
theorem UF [GI] {P : Program} {o : Oper} {t el : TypeId} {ie : TypeInfo} {z : Value} {zx : AV} {l c : Operand} {rl rc : aV} (ho : o.op = .makeSlice t l c)
  (hu : P.underlying t = some (.slice el)) (hie : P.info? el = some ie) (hz : ie.zero = some z) (hzx : ofV z = some zx) (h1s : ie.size = 1) (hl : bF l = some rl) (hc : bF c = some rc) : kK P o (.D4 el ie.bytes zx rl rc) := by
 intro I w h a va K st tt k next Q H
 have h1 := bR st hl
 have h2 := bR st hc
 simp only [eY] at k
 generalize va rl = q1 at h1 k
 generalize va rc = q2 at h2 k
 generalize hlv : a.eval l = lv at h1
 generalize hcv : a.eval c = cv at h2
 split at k
 ·rename_i m m'
  have := h1.gM; subst this
  have := h2.gM; subst this
  obtain ⟨rfl, k0, k1, k2, k⟩ := k
  have hw : IntKind.i64.wrap m = m := LG m (by omega) k1
  have hti : ∀ w0 : World, (typeInfo el).run P w0 = .ok ie w0 := fun w0 => by simp [typeInfo, hie]
  have hzv : ∀ w0 : World, (zeroValue el).run P w0 = .ok z w0 := fun w0 => by simp [zeroValue, typeInfo, hie, hz]
  have hsz : ∀ w0 : World, (Go.sizeOf el).run P w0 = .ok 1 w0 := fun w0 => by simp [Go.sizeOf, typeInfo, hie, h1s]
  have ha : (asInt (.int .i64 m)).run P w = .ok m w := rfl
  obtain ⟨rn, n1⟩ := u7 (D0 I hzx) (L3 hzx) m.toNat
  have hos := sI (w := w) el rn n1
  simp only [List.length_replicate] at hos
  obtain ⟨g1, g2, g3, g4⟩ := lQ tt (.cells (List.replicate m.toNat z).toArray el) (.blk (List.replicate m.toNat zx) m.toNat el) hos
  have hcells : ((Array.range m.toNat).map (z.cells[· % z.cells.size]!)) = (List.replicate m.toNat z).toArray := by
   rw [xU hzx, ← qW]; simp [Builtin.zeroCells]
  have hexec : (execOp a.eval o).run P w = .ok (.value (.slice (some ⟨w.heap.size, 0, none⟩) m.toNat m.toNat)) (w.alloc (.cells (List.replicate m.toNat z).toArray el)) := by
   simp only [execOp, ho, hlv, hcv, Instr.makeSlice, Sem.run_bind, run_underlying hu, Result.andThen_ok, ha, hti, hw]
   have hlarge : (decide (m < 0) || decide ((ie.bytes : Int) * m > 2 ^ 48)) = false := by simp; omega
   have hcond : ¬ ((decide (m < 0) || decide ((ie.bytes : Int) * m > 2 ^ 48) || decide (m < 0) || decide (m > m)) = true) := by rw [hlarge]; simp; omega
   rw [if_neg hcond]
   simp only [Sem.run_bind, run_askRoom, Result.andThen_ok, hsz, Nat.mul_one]
   by_cases h0 : m.toNat = 0
   ·rw [if_pos h0, h0]
    have hz0 : ∀ f : Nat → Value, (Array.range 0).map f = #[] := fun f => by simp
    simp only [Sem.run_pure, Result.andThen_ok, newRow, Sem.run_bind, run_newObj, hz0]
    rfl
   ·rw [if_neg h0]
    simp only [Sem.run_bind, hzv, Sem.run_pure, Result.andThen_ok, newRow, run_newObj, hcells]
    rfl
  unfold Oper.wp
  rw [hexec, Oper.upon_value]
  exact H _ I _ _ _ (k _ g1) (.os _ _ _) g2 g3 g4
 ·exact k.elim
inductive ROp where
 | rd (r : RRead)
 | ef (r : REff)
 deriving Inhabited
def ZP [GI] (P : Program) (o : Oper) : ROp → Prop
 | .rd r => eH P o r
 | .ef r => kK P o r
def two (rx ry : Option aV) (f : aV → aV → RRead) : Option RRead := match rx, ry with | some x, some y => some (f x y) | _, _ => none
def JW (P : Program) (neg : Bool) (t : TypeId) (x y : aV) : Option RRead :=
 match P.underlying t with
 | some .bool => some (.beq neg x y)
 | some (.pointer _) => some (.peq neg x y)
 | some (.struct _) => if P.eqGuardType P.depth t then none else (kH P 10000 t).map fun ks => .seq neg ks x y
 | some (.int _) | some .string => some (.bin (if neg then .neq else .eql) x y)
 | _ => none
def aCu (P : Program) (op : BinOp) (t : TypeId) (x y : aV) : Option RRead :=
 match op with
 | .eql => JW P false t x y
 | .neq => JW P true t x y
 | .shl => none
 | op => some (.bin op x y)
theorem aCd [GI] {P : Program} {o : Oper} {op : BinOp} {t u : TypeId} {x y : Operand} {rx ry : aV} {r : RRead} (ho : o.op = .binOp op t x y u) (hx : bF x = some rx) (hy : bF y = some ry) (h : aCu P op t rx ry = some r) : eH P o r := by
 have eq : ∀ neg : Bool, op = (if neg then .neq else .eql) → JW P neg t rx ry = some r → eH P o r := by
  intro neg hop h
  unfold JW at h
  split at h
  ·rename_i hu; simp only [Option.some.injEq] at h; subst h; exact aDY ho hop hu hx hy
  ·rename_i el hu; simp only [Option.some.injEq] at h; subst h; exact aDS ho hop hu hx hy
  ·rename_i fs hu
   split at h
   ·cases h
   ·rename_i hg
    simp only [Option.map_eq_some_iff] at h
    obtain ⟨ks, hk, rfl⟩ := h
    exact aDR ho hop hu hk (by simpa using hg) hx hy
  ·simp only [Option.some.injEq] at h; subst h; subst hop; exact LV ho hx hy
  ·simp only [Option.some.injEq] at h; subst h; subst hop; exact LV ho hx hy
  ·cases h
 unfold aCu at h
 split at h
 ·exact eq false rfl h
 ·exact eq true rfl h
 ·cases h
 ·simp only [Option.some.injEq] at h; subst h; exact LV ho hx hy
def aDr (P : Program) (src dst : TypeId) (x : aV) : Option RRead :=
 match P.underlying src, P.underlying dst with
 | some _, some (.int k) => some (.conv k x)
 | some _, some .string => some (.Q0 x)
 | _, _ => none
def rfa (P : Program) (t : TypeId) (f : Nat) (x : aV) : Option RRead :=
 match P.underlying t with
 | some (.struct fs) => match fs[f]? with
  | some fd => match P.info? fd.type with
   | some i => if i.size = 0 then none else some (.fa fd.offset x)
   | none => none
  | none => none
 | _ => none
def ria (P : Program) (t : TypeId) (x y : aV) : Option RRead :=
 match P.underlying t with
 | some (.slice el) => (P.info? el).map fun i => .ia i.size x y
 | _ => none
def aEY (P : Program) (t : TypeId) (x y : aV) : Option RRead :=
 match P.underlying t with
 | some .string => some (.six x y)
 | _ => none
def aAO (P : Program) (t : TypeId) (x : aV) (lo hi : Option aV) : Option RRead :=
 match P.underlying t with
 | some .string => some (.slice true 0 x lo hi)
 | some (.slice el) => (P.info? el).map fun i => .slice false i.size x lo hi
 | _ => none
def aE5 (P : Program) (t : TypeId) (x : aV) : Option RRead :=
 match P.underlying t with
 | some .string => some (.len 0 x)
 | some (.slice _) => some (.len 1 x)
 | some (.map _ _) => some (.len 2 x)
 | _ => none
def aE4 (P : Program) (t : TypeId) (x : aV) : Option RRead :=
 match P.underlying t with
 | some (.interface _) => none
 | some _ => some (.mkI t x)
 | none => none
def aFb (P : Program) (t : TypeId) (len : Nat) (parts : List (Nat × Operand)) : Option RRead :=
 match P.underlying t with
 | some (.slice el) => match P.info? el with
  | some ie => match ie.zero with
   | some z => if len * ie.size > 2 ^ 24 then none else
    match qM (wJ (if len * ie.size = 0 then #[] else z.cells) (len * ie.size)), qN (fun i => some (i * ie.size, ie.size)) parts with
    | some zs, some ps => some (.bsl ie.size len zs ps)
    | _, _ => none
   | none => none
  | none => none
 | _ => none
def aDs (P : Program) (t : TypeId) (len : Nat) (parts : List (Nat × Operand)) : Option REff :=
 match P.underlying t with
 | some (.slice el) => match P.info? el with
  | some ie => match ie.zero with
   | some z => if len * ie.size > 2 ^ 24 then none else
    match qM (wJ (if len * ie.size = 0 then #[] else z.cells) (len * ie.size)), qN (fun i => some (i * ie.size, ie.size)) parts with
    | some zs, some ps => some (.vG el ie.size len zs ps)
    | _, _ => none
   | none => none
  | none => none
 | _ => none
def WM (P : Program) (sty xty : TypeId) (s x : aV) : Option REff :=
 match P.underlying sty, P.underlying xty with
 | some (.slice el), some (.int _) => match P.info? el with
  | some ie => match ie.zero with
   | some z => match ofV z with
    | some zx => if ie.size = 1 ∧ ie.bytes ≠ 0 then some (.r6 el ie.bytes zx s x) else none
    | none => none
   | none => none
  | none => none
 | some (.slice el), some _ => match P.info? el with
  | some ie => match ie.zero with
   | some z => if z.cells.size = ie.size ∧ ie.bytes ≠ 0 then some (.append el ie.size ie.bytes s x) else none
   | none => none
  | none => none
 | _, _ => none
def aDo (P : Program) (t : TypeId) (l c : aV) : Option REff :=
 match P.underlying t with
 | some (.slice el) => match P.info? el with
  | some ie => match ie.zero with
   | some z => match ofV z with
    | some zx => if ie.size = 1 then some (.D4 el ie.bytes zx l c) else none
    | none => none
   | none => none
  | none => none
 | _ => none
def P2 (P : Program) (t : TypeId) : Option REff :=
 match P.info? t with
 | some it => match it.zero with
  | some z => (qM z.cells.toList).map fun zs => .alloc t zs
  | none => none
 | none => none
def YG (P : Program) (c : Call) : Option ROp :=
 match c.callee, c.args.toList, c.argTypes.toList with
 | .builtin .len, [x], [t] => match bF x with | some x => (aE5 P t x).map .rd | none => none
 | .builtin .append, [s, x], [sty, xty] => match bF s, bF x with | some s, some x => (WM P sty xty s x).map .ef | _, _ => none
 | .builtin .max, [x, y], _ => (two (bF x) (bF y) .mx).map .rd
 | .builtin .min, [x, y], _ => (two (bF x) (bF y) .mn).map .rd
 | .value (.func f), args, _ => if eD P f then (mU args).map fun rs => .ef (.call f rs) else none
 | .value x, args, _ => match bF x, mU args with | some rx, some rs => some (.ef (.yU rx rs)) | _, _ => none
 | .invoke x name, args, _ => match bF x, mU args with | some rx, some rs => some (.ef (.inv name rx rs)) | _, _ => none
 | _, _, _ => none
def rop (P : Program) : Op → Option ROp
 | .move x | .assign x => (bF x).map fun x => .rd (.mv x)
 | .pick c a b => match bF c, bF a, bF b with | some c, some a, some b => some (.rd (.pick c a b)) | _, _, _ => none
 | .alloc t => (P2 P t).map .ef
 | .box t x => (bF x).map fun x => .ef (.box t x)
 | .build t parts => (P1 P t parts.toList).map .rd
 | .buildSlice t len parts => (aFb P t len parts.toList).map .rd
 | .load t x => match bF x with | some x => (YA P t x).map .rd | none => none
 | .store t x v => match bF x, bF v, P.info? t with | some x, some v, some i => some (.ef (.store i.size x v)) | _, _, _ => none
 | .nilCheck x => (bF x).map fun x => .rd (.vA x)
 | .binOp op t x y _ => match bF x, bF y with | some x, some y => (aCu P op t x y).map .rd | _, _ => none
 | .unOp op _ x => (bF x).map fun x => .rd (.un op x)
 | .convert src dst x => match bF x with | some x => (aDr P src dst x).map .rd | none => none
 | .makeInterface t x => match bF x with | some x => (aE4 P t x).map .rd | none => none
 | .makeFunc fn f c => match mU f.toList, mU c.toList with | some f, some c => some (.rd (.mkF fn f c)) | _, _ => none
 | .makeMap _ none => some (.ef .q9)
 | .makeSlice t l c => match bF l, bF c with | some l, some c => (aDo P t l c).map .ef | _, _ => none
 | .slice t x lo hi none => match bF x, A1 lo, A1 hi with | some x, some lo, some hi => (aAO P t x lo hi).map .rd | _, _, _ => none
 | .fieldAddr t x f => match bF x with | some x => (rfa P t f x).map .rd | none => none
 | .indexAddr t x i => match bF x, bF i with | some x, some i => (ria P t x i).map .rd | _, _ => none
 | .index t x i => match bF x, bF i with | some x, some i => (aEY P t x i).map .rd | _, _ => none
 | .extract x i => (bF x).map fun x => .rd (.ext x i)
 | .field t x f => match bF x with | some x => (PX P t f x).map .rd | none => none
 | .lookup t x i ok => match bF x, bF i with | some x, some i => (LZ P t ok x i).map .rd | _, _ => none
 | .mapUpdate t m k v | .insert t m k v => match bF m, bF k, bF v with | some m, some k, some v => (PW P t m k v).map .ef | _, _, _ => none
 | .call c => YG P c
 | .range t x => match bF x, P.underlying t with | some x, some (.map _ _) => some (.ef (.rng x)) | some x, some .string => some (.ef (.DT x)) | _, _ => none
 | .next x s => match s, bF x with | false, some x => some (.ef (.nxt x)) | true, some x => some (.ef (.D1 x)) | _, _ => none
 | .entry x => (bF x).map fun x => .rd (.entry x)
 | _ => none
theorem XV [GI] {P : Program} {o : Oper} {c : Call} {r : ROp} (ho : o.op = .call c) (h : YG P c = some r) : ZP P o r := by
 obtain ⟨callee, args, tys⟩ := c
 unfold YG at h
 split at h
 ·rename_i x t hc ha ht
  simp only at hc ha ht
  have ea : args = #[x] := by rw [← Array.toArray_toList (xs := args), ha]
  have et : tys = #[t] := by rw [← Array.toArray_toList (xs := tys), ht]
  subst hc ea et
  cases hx : bF x with
  | none => simp [hx] at h
  | some rx =>
   simp only [hx, Option.map_eq_some_iff] at h
   obtain ⟨q, hq, rfl⟩ := h
   unfold aE5 at hq
   split at hq
   ·rename_i hu; simp only [Option.some.injEq] at hq; subst hq; exact LU ho hu trivial hx
   ·rename_i el hu; simp only [Option.some.injEq] at hq; subst hq; exact LU ho hu trivial hx
   ·rename_i k el hu; simp only [Option.some.injEq] at hq; subst hq; exact LU ho hu trivial hx
   ·cases hq
 ·rename_i s x sty xty hc ha ht
  simp only at hc ha ht
  have ea : args = #[s, x] := by rw [← Array.toArray_toList (xs := args), ha]
  have et : tys = #[sty, xty] := by rw [← Array.toArray_toList (xs := tys), ht]
  subst hc ea et
  cases hs : bF s with
  | none => simp [hs] at h
  | some rs =>
   cases hx : bF x with
   | none => simp [hs, hx] at h
   | some rx =>
    simp only [hs, hx, Option.map_eq_some_iff] at h
    obtain ⟨q, hq, rfl⟩ := h
    unfold WM at hq
    split at hq
    ·rename_i el kd hu1 hu2
     split at hq
     ·rename_i ie hie
      split at hq
      ·rename_i z hz
       split at hq
       ·rename_i zx hzx
        split at hq
        ·rename_i hcond
         simp only [Option.some.injEq] at hq; subst hq
         exact LW ho hu1 hu2 hie hz hzx hcond.1 hcond.2 hs hx
        ·cases hq
       ·cases hq
      ·cases hq
     ·cases hq
    ·rename_i el d hnot hu1 hu2
     split at hq
     ·rename_i ie hie
      split at hq
      ·rename_i z hz
       split at hq
       ·rename_i hcond
        simp only [Option.some.injEq] at hq; subst hq
        exact OI ho hu1 hu2 (by intro k hk; subst hk; exact hnot k rfl) hie hz hcond.1 hcond.2 hs hx
       ·cases hq
      ·cases hq
     ·cases hq
    ·cases hq
 ·rename_i x y hc ha
  simp only at hc ha
  have ea : args = #[x, y] := by rw [← Array.toArray_toList (xs := args), ha]
  subst hc ea
  simp only [Option.map_eq_some_iff] at h
  obtain ⟨q, hq, rfl⟩ := h
  unfold two at hq
  split at hq
  ·rename_i rx ry hx hy; simp only [Option.some.injEq] at hq; subst hq; exact aES ho hx hy
  ·cases hq
 ·rename_i x y hc ha
  simp only at hc ha
  have ea : args = #[x, y] := by rw [← Array.toArray_toList (xs := args), ha]
  subst hc ea
  simp only [Option.map_eq_some_iff] at h
  obtain ⟨q, hq, rfl⟩ := h
  unfold two at hq
  split at hq
  ·rename_i rx ry hx hy; simp only [Option.some.injEq] at hq; subst hq; exact aET ho hx hy
  ·cases hq
 ·rename_i f hc
  simp only at hc
  subst hc
  split at h
  ·rename_i hcall
   simp only [Option.map_eq_some_iff] at h
   obtain ⟨rs, hrs, rfl⟩ := h
   exact UG ho hcall hrs
  ·cases h
 ·rename_i x hnot hc
  simp only at hc
  subst hc
  cases hx : bF x with
  | none => simp [hx] at h
  | some rx =>
   cases ha : mU args.toList with
   | none => simp [hx, ha] at h
   | some rs =>
    simp only [hx, ha, Option.some.injEq] at h; subst h
    exact PI ho hx ha
 ·rename_i x name hc
  simp only at hc
  subst hc
  cases hx : bF x with
  | none => simp [hx] at h
  | some rx =>
   cases ha : mU args.toList with
   | none => simp [hx, ha] at h
   | some rs =>
    simp only [hx, ha, Option.some.injEq] at h; subst h
    exact XZ ho hx ha
 ·cases h
theorem XW [GI] {P : Program} {o : Oper} {r : ROp} (h : rop P o.op = some r) : ZP P o r := by
 cases ho : o.op <;> rw [ho] at h <;> simp only [rop] at h <;> try (cases h; done)
 case move x =>
  simp only [Option.map_eq_some_iff] at h
  obtain ⟨rx, hx, rfl⟩ := h
  exact aAD (.inl ho) hx
 case assign x =>
  simp only [Option.map_eq_some_iff] at h
  obtain ⟨rx, hx, rfl⟩ := h
  exact aAD (.inr ho) hx
 case pick c x y =>
  split at h
  ·rename_i rc rx ry hc hx hy; simp only [Option.some.injEq] at h; subst h; exact aB8 ho hc hx hy
  ·cases h
 case alloc t =>
  simp only [Option.map_eq_some_iff] at h
  obtain ⟨q, hq, rfl⟩ := h
  unfold P2 at hq
  split at hq
  ·rename_i it hi
   split at hq
   ·rename_i z hz
    simp only [Option.map_eq_some_iff] at hq
    obtain ⟨zs, hzs, rfl⟩ := hq
    exact PJ ho hi hz hzs
   ·cases hq
  ·cases hq
 case box t x =>
  simp only [Option.map_eq_some_iff] at h
  obtain ⟨rx, hx, rfl⟩ := h
  exact X0 ho hx
 case build t parts =>
  simp only [Option.map_eq_some_iff] at h
  obtain ⟨q, hq, rfl⟩ := h
  exact aAF ho hq
 case buildSlice t len parts =>
  simp only [Option.map_eq_some_iff] at h
  obtain ⟨q, hq, rfl⟩ := h
  unfold aFb at hq
  split at hq
  ·rename_i el hu
   split at hq
   ·rename_i ie hie
    split at hq
    ·rename_i z hz
     split at hq
     ·cases hq
     ·rename_i hsmall
      split at hq
      ·rename_i zs ps hzs hps; simp only [Option.some.injEq] at hq; subst hq; exact aDX ho hu hie hz hsmall hzs hps
      ·cases hq
    ·cases hq
   ·cases hq
  ·cases hq
 case load t x =>
  cases hx : bF x with
  | none => simp [hx] at h
  | some rx =>
   simp only [hx, Option.map_eq_some_iff] at h
   obtain ⟨q, hq, rfl⟩ := h
   exact aCa ho hx hq
 case store t x v =>
  split at h
  ·rename_i rx rv i hx hv hi; simp only [Option.some.injEq] at h; subst h; exact PG ho hi hx hv
  ·cases h
 case nilCheck x =>
  simp only [Option.map_eq_some_iff] at h
  obtain ⟨rx, hx, rfl⟩ := h
  exact aB9 ho hx
 case binOp op t x y u =>
  split at h
  ·rename_i rx ry hx hy
   simp only [Option.map_eq_some_iff] at h
   obtain ⟨q, hq, rfl⟩ := h
   exact aCd ho hx hy hq
  ·cases h
 case unOp op t x =>
  simp only [Option.map_eq_some_iff] at h
  obtain ⟨rx, hx, rfl⟩ := h
  exact aER ho hx
 case convert src dst x =>
  cases hx : bF x with
  | none => simp [hx] at h
  | some rx =>
   simp only [hx, Option.map_eq_some_iff] at h
   obtain ⟨q, hq, rfl⟩ := h
   unfold aDr at hq
   split at hq
   ·rename_i d k hs hd; simp only [Option.some.injEq] at hq; subst hq; exact aCc ho hs hd hx
   ·rename_i d hs hd; simp only [Option.some.injEq] at hq; subst hq; exact aCb ho hs hd hx
   ·cases hq
 case makeInterface t x =>
  cases hx : bF x with
  | none => simp [hx] at h
  | some rx =>
   simp only [hx, Option.map_eq_some_iff] at h
   obtain ⟨q, hq, rfl⟩ := h
   unfold aE4 at hq
   split at hq
   ·cases hq
   ·rename_i d hnot hd; simp only [Option.some.injEq] at hq; subst hq; exact aDT ho hd (by intro ms hm; subst hm; exact hnot ms rfl) hx
   ·cases hq
 case makeFunc fn f c =>
  split at h
  ·rename_i rf rc hf hc; simp only [Option.some.injEq] at h; subst h; exact aDU ho hf hc
  ·cases h
 case makeMap t r =>
  cases r with
  | none => simp only [Option.some.injEq] at h; subst h; exact PH ho
  | some r => cases h
 case makeSlice t l c =>
  split at h
  ·rename_i rl rc hl hc
   simp only [Option.map_eq_some_iff] at h
   obtain ⟨q, hq, rfl⟩ := h
   unfold aDo at hq
   split at hq
   ·rename_i el hu
    split at hq
    ·rename_i ie hie
     split at hq
     ·rename_i z hz
      split at hq
      ·rename_i zx hzx
       split at hq
       ·rename_i hcond; simp only [Option.some.injEq] at hq; subst hq; exact UF ho hu hie hz hzx hcond hl hc
       ·cases hq
      ·cases hq
     ·cases hq
    ·cases hq
   ·cases hq
  ·cases h
 case slice t x lo hi mx =>
  cases mx with
  | some m => cases h
  | none =>
   simp only at h
   split at h
   ·rename_i rx rlo rhi hx hlo hhi
    simp only [Option.map_eq_some_iff] at h
    obtain ⟨q, hq, rfl⟩ := h
    unfold aAO at hq
    split at hq
    ·rename_i hu; simp only [Option.some.injEq] at hq; subst hq; exact XS 0 ho hu hx hlo hhi
    ·rename_i el hu
     simp only [Option.map_eq_some_iff] at hq
     obtain ⟨i, hi', rfl⟩ := hq
     exact XT ho hu hi' hx hlo hhi
    ·cases hq
   ·cases h
 case fieldAddr t x f =>
  cases hx : bF x with
  | none => simp [hx] at h
  | some rx =>
   simp only [hx, Option.map_eq_some_iff] at h
   obtain ⟨q, hq, rfl⟩ := h
   unfold rfa at hq
   split at hq
   ·rename_i fs hu
    split at hq
    ·rename_i fd hf
     split at hq
     ·rename_i i hi
      split at hq
      ·cases hq
      ·rename_i hz; simp only [Option.some.injEq] at hq; subst hq; exact aEV ho hu hf hi hz hx
     ·cases hq
    ·cases hq
   ·cases hq
 case indexAddr t x y =>
  split at h
  ·rename_i rx ry hx hy
   simp only [Option.map_eq_some_iff] at h
   obtain ⟨q, hq, rfl⟩ := h
   unfold ria at hq
   split at hq
   ·rename_i el hu
    simp only [Option.map_eq_some_iff] at hq
    obtain ⟨i, hi, rfl⟩ := hq
    exact aEU ho hu hi hx hy
   ·cases hq
  ·cases h
 case index t x y =>
  split at h
  ·rename_i rx ry hx hy
   simp only [Option.map_eq_some_iff] at h
   obtain ⟨q, hq, rfl⟩ := h
   unfold aEY at hq
   split at hq
   ·rename_i hu; simp only [Option.some.injEq] at hq; subst hq; exact aDQ ho hu hx hy
   ·cases hq
  ·cases h
 case extract x i =>
  simp only [Option.map_eq_some_iff] at h
  obtain ⟨rx, hx, rfl⟩ := h
  exact aDW ho hx
 case field t x f =>
  cases hx : bF x with
  | none => simp [hx] at h
  | some rx =>
   simp only [hx, Option.map_eq_some_iff] at h
   obtain ⟨q, hq, rfl⟩ := h
   exact aDV ho hx hq
 case lookup t x y ok =>
  split at h
  ·rename_i rx ry hx hy
   simp only [Option.map_eq_some_iff] at h
   obtain ⟨q, hq, rfl⟩ := h
   exact XU ho hx hy hq
  ·cases h
 case mapUpdate t m k v =>
  split at h
  ·rename_i rm rk rv hm hk hv
   simp only [Option.map_eq_some_iff] at h
   obtain ⟨q, hq, rfl⟩ := h
   exact DN (.inl ho) hm hk hv hq
  ·cases h
 case insert t m k v =>
  split at h
  ·rename_i rm rk rv hm hk hv
   simp only [Option.map_eq_some_iff] at h
   obtain ⟨q, hq, rfl⟩ := h
   exact DN (.inr ho) hm hk hv hq
  ·cases h
 case call c => exact XV ho h
 case range t x =>
  split at h
  ·rename_i rx k e hx hu; simp only [Option.some.injEq] at h; subst h; exact XX ho hu hx
  ·rename_i rx hx hu; simp only [Option.some.injEq] at h; subst h; exact UD ho hu hx
  ·cases h
 case next x s =>
  split at h
  ·rename_i rx hx; simp only [Option.some.injEq] at h; subst h; exact XY ho hx
  ·rename_i rx hx; simp only [Option.some.injEq] at h; subst h; exact UE ho hx
  ·cases h
 case entry x =>
  simp only [Option.map_eq_some_iff] at h
  obtain ⟨rx, hx, rfl⟩ := h
  exact aAE ho hx
def tJ (P : Program) (B : List Nat) (o : Oper) : Option ROp :=
 match o.op, o.dst with
 | .box t x, some d => if B.contains d then (bF x).map fun x => .rd (.bx none x) else rop P o.op
 | .buildSlice t len parts, some d => if B.contains d then (aDs P t len parts.toList).map .ef else rop P o.op
 | _, _ => rop P o.op
theorem aAG [GI] {P : Program} {B : List Nat} {o : Oper} {r : ROp} (h : tJ P B o = some r) : ZP P o r := by
 unfold tJ at h
 split at h
 ·rename_i t x d ho hd
  split at h
  ·simp only [Option.map_eq_some_iff] at h
   obtain ⟨rx, hx, rfl⟩ := h
   exact aEW ho hx
  ·exact XW h
 ·rename_i t len parts d ho hd
  split at h
  ·simp only [Option.map_eq_some_iff] at h
   obtain ⟨q, hq, rfl⟩ := h
   unfold aDs at hq
   split at hq
   ·rename_i el hu
    split at hq
    ·rename_i ie hie
     split at hq
     ·rename_i z hz
      split at hq
      ·cases hq
      ·rename_i hsmall
       split at hq
       ·rename_i zs ps hzs hps; simp only [Option.some.injEq] at hq; subst hq; exact UH ho hu hie hz hsmall hzs hps
       ·cases hq
     ·cases hq
    ·cases hq
   ·cases hq
  ·exact XW h
 ·exact XW h
end Pg
