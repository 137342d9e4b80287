/- The core, tenth part: append and make as effects; operations resolved. -/
import Derived.Test.YtpebidcmkjjpnaaCore9
import Derived.Test.YtpebidcmkjjpnaaCoreM
namespace Pg
open Go
set_option linter.unusedSimpArgs false
set_option linter.unusedVariables false

theorem simEff_append {P : Program} {o : Oper} {sty xty el : TypeId} {ie : TypeInfo} {z : Value} {d : TypeDesc} {s x : Operand} {rs rx : ROpd} (ho : o.op = .call { callee := .builtin .append, args := #[s, x], argTypes := #[sty, xty] })
    (hu : P.underlying sty = some (.slice el)) (hx : P.underlying xty = some d) (hd : ∀ k, d ≠ .int k) (hie : P.info? el = some ie) (hz : ie.zero = some z) (hzs : z.cells.size = ie.size) (hby : ie.bytes ≠ 0) (hs : ropd s = some rs) (hxr : ropd x = some rx) :
    SimEff P o (.append el ie.size ie.bytes rs rx) := by
  intro I w h a va K st t k next Q H
  have h1 := ropd_rd st hs
  have h2 := ropd_rd st hxr
  simp only [aeff] at k
  cases hel : aelems h ie.size (va rx) with
  | none => simp [hel, okElems] at k
  | some p =>
    obtain ⟨m, xs⟩ := p
    simp only [hel, okElems] at k
    obtain ⟨kfit, k⟩ := k
    obtain ⟨xa, xc, new, hv, hfc, rn, n1, ln⟩ := run_firstCells (P := P) t h2 hel kfit
    have hlen : (Builtin.lenOf (a.eval x)).run P w = .ok m w := by rw [hv]; rfl
    have exec : ∀ (v : Value) (w' : World), (Builtin.append_ #[sty, xty] o.type #[a.eval s, a.eval x]).run P w = .ok v w' → (execOp a.eval o).run P w = .ok (.value v) w' := by
      intro v w' hr
      simp only [execOp, ho, resolve, invoke, builtin, Sem.run_bind, Sem.run_pure, Result.andThen_ok, List.map_toArray, List.map_cons, List.map_nil, hr]
    refine append_sim t h1 rn n1 ln k ?_ ?_ next Q H
    · intro base n cap w' hb hfit hst
      exact exec _ _ (by rw [hb]; exact run_append_fit hu hx hd hie hlen (hfc w rfl) hfit hst)
    · intro base n cap old hb hg hroom hold
      obtain ⟨c, rest, q1, q2, q3⟩ := run_append_grow (oty := o.type) hu hx hd hie hz hzs hby hlen hfc hold hg hroom
      exact ⟨c, rest, q1, q2, exec _ _ (by rw [hb]; exact q3)⟩

theorem rds_replicate {I : Imm} {x : AV} {v : Value} (r : Rd I x v) (h1 : v.oneCell' = true) : ∀ n, Rds I (List.replicate n x) (List.replicate n v) ∧ Ones (List.replicate n v)
  | 0 => ⟨by simpa using Rds.nil I, by simpa using Ones.nil⟩
  | n + 1 => by
    obtain ⟨a, b⟩ := rds_replicate r h1 n
    simp only [List.replicate_succ]
    exact ⟨.cons r a, .cons h1 b⟩

theorem cells_one_of {v : Value} {x : AV} (h : ofV v = some x) : v.cells = #[v] := by
  unfold ofV at h
  split at h <;> first | rfl | cases h

theorem simEff_appendz {P : Program} {o : Oper} {sty xty el : TypeId} {ie : TypeInfo} {z : Value} {kd : IntKind} {zx : AV} {s x : Operand} {rs rx : ROpd} (ho : o.op = .call { callee := .builtin .append, args := #[s, x], argTypes := #[sty, xty] })
    (hu : P.underlying sty = some (.slice el)) (hx : P.underlying xty = some (.int kd)) (hie : P.info? el = some ie) (hz : ie.zero = some z) (hzx : ofV z = some zx) (h1s : ie.size = 1) (hby : ie.bytes ≠ 0) (hs : ropd s = some rs) (hxr : ropd x = some rx) :
    SimEff P o (.appendz el ie.bytes zx rs rx) := by
  intro I w h a va K st t k next Q H
  have h1 := ropd_rd st hs
  have h2 := ropd_rd st hxr
  simp only [aeff] at k
  generalize va rx = q at h2 k
  generalize hxv : a.eval x = xv at h2
  split at k
  · rename_i m
    have := h2.inv_int; subst this
    obtain ⟨k0, k1, k2, k⟩ := k
    have exec : ∀ (v : Value) (w' : World), (Builtin.append_ #[sty, xty] o.type #[a.eval s, a.eval x]).run P w = .ok v w' → (execOp a.eval o).run P w = .ok (.value v) w' := by
      intro v w' hr
      simp only [execOp, ho, resolve, invoke, builtin, Sem.run_bind, Sem.run_pure, Result.andThen_ok, List.map_toArray, List.map_cons, List.map_nil, hr]
    obtain ⟨rn, n1⟩ := rds_replicate (ofV_rd I hzx) (ofV_one hzx) m.toNat
    refine append_sim (size := 1) t h1 rn n1 (by simp) k ?_ ?_ next Q H
    · intro base n cap w' hb hfit hst
      exact exec _ _ (by rw [hb, hxv]; exact run_appendz_fit hu hx hie hz (cells_one_of hzx) h1s ⟨k0, k1⟩ k2 hfit (by simpa using hst))
    · intro base n cap old hb hg hroom hold
      obtain ⟨c, rest, q1, q2, q3⟩ := run_appendz_grow (oty := o.type) hu hx hie hz (cells_one_of hzx) h1s hby ⟨k0, k1⟩ k2 hold hg hroom
      exact ⟨c, rest, q1, by rw [q2]; simp, exec _ _ (by rw [hb, hxv]; exact q3)⟩
  · exact k.elim

theorem simEff_mksl {P : Program} {o : Oper} {t el : TypeId} {ie : TypeInfo} {z : Value} {zx : AV} {l c : Operand} {rl rc : ROpd} (ho : o.op = .makeSlice t l c)
    (hu : P.underlying t = some (.slice el)) (hie : P.info? el = some ie) (hz : ie.zero = some z) (hzx : ofV z = some zx) (h1s : ie.size = 1) (hl : ropd l = some rl) (hc : ropd c = some rc) : SimEff P o (.mksl el ie.bytes zx rl rc) := by
  intro I w h a va K st tt k next Q H
  have h1 := ropd_rd st hl
  have h2 := ropd_rd st hc
  simp only [aeff] at k
  generalize va rl = q1 at h1 k
  generalize va rc = q2 at h2 k
  generalize hlv : a.eval l = lv at h1
  generalize hcv : a.eval c = cv at h2
  split at k
  · rename_i m m'
    have := h1.inv_int; subst this
    have := h2.inv_int; subst this
    obtain ⟨rfl, k0, k1, k2, k⟩ := k
    have hw : IntKind.i64.wrap m = m := wrap_in m (by omega) k1
    have hti : ∀ w0 : World, (typeInfo el).run P w0 = .ok ie w0 := fun w0 => by simp [typeInfo, hie]
    have hzv : ∀ w0 : World, (zeroValue el).run P w0 = .ok z w0 := fun w0 => by simp [zeroValue, typeInfo, hie, hz]
    have hsz : ∀ w0 : World, (Go.sizeOf el).run P w0 = .ok 1 w0 := fun w0 => by simp [Go.sizeOf, typeInfo, hie, h1s]
    have ha : (asInt (.int .i64 m)).run P w = .ok m w := rfl
    obtain ⟨rn, n1⟩ := rds_replicate (ofV_rd I hzx) (ofV_one hzx) m.toNat
    have hos := objSat_new (w := w) el rn n1
    simp only [List.length_replicate] at hos
    obtain ⟨g1, g2, g3, g4⟩ := alloc_sat tt (.cells (List.replicate m.toNat z).toArray el) (.blk (List.replicate m.toNat zx) m.toNat el) hos
    have hcells : ((Array.range m.toNat).map (z.cells[· % z.cells.size]!)) = (List.replicate m.toNat z).toArray := by
      rw [cells_one_of hzx, ← zeroCells_one]; simp [Builtin.zeroCells]
    have hexec : (execOp a.eval o).run P w = .ok (.value (.slice (some ⟨w.heap.size, 0, none⟩) m.toNat m.toNat)) (w.alloc (.cells (List.replicate m.toNat z).toArray el)) := by
      simp only [execOp, ho, hlv, hcv, Instr.makeSlice, Sem.run_bind, run_underlying hu, Result.andThen_ok, ha, hti, hw]
      have hlarge : (decide (m < 0) || decide ((ie.bytes : Int) * m > 2 ^ 48)) = false := by simp; omega
      have hcond : ¬ ((decide (m < 0) || decide ((ie.bytes : Int) * m > 2 ^ 48) || decide (m < 0) || decide (m > m)) = true) := by rw [hlarge]; simp; omega
      rw [if_neg hcond]
      simp only [Sem.run_bind, run_askRoom, Result.andThen_ok, hsz, Nat.mul_one]
      by_cases h0 : m.toNat = 0
      · rw [if_pos h0, h0]
        have hz0 : ∀ f : Nat → Value, (Array.range 0).map f = #[] := fun f => by simp
        simp only [Sem.run_pure, Result.andThen_ok, newRow, Sem.run_bind, run_newObj, hz0]
        rfl
      · rw [if_neg h0]
        simp only [Sem.run_bind, hzv, Sem.run_pure, Result.andThen_ok, newRow, run_newObj, hcells]
        rfl
    unfold Oper.wp
    rw [hexec, Oper.upon_value]
    exact H _ I _ _ _ (k _ g1) (.os _ _ _) g2 g3 g4
  · exact k.elim

/-- A resolved operation. -/
inductive ROp where
  | rd (r : RRead)
  | ef (r : REff)
  deriving Inhabited

def SimOp (P : Program) (o : Oper) : ROp → Prop
  | .rd r => SimRd P o r
  | .ef r => SimEff P o r

def two (rx ry : Option ROpd) (f : ROpd → ROpd → RRead) : Option RRead := match rx, ry with | some x, some y => some (f x y) | _, _ => none

/-- Comparisons by == and != and what they compare. -/
def requal (P : Program) (neg : Bool) (t : TypeId) (x y : ROpd) : Option RRead :=
  match P.underlying t with
  | some .bool => some (.beq neg x y)
  | some (.pointer _) => some (.peq neg x y)
  | some (.struct _) => if P.eqGuardType P.depth t then none else (flatAt P 10000 t).map fun ks => .seq neg ks x y
  | some (.int _) | some .string => some (.bin (if neg then .neq else .eql) x y)
  | _ => none

def rbin (P : Program) (op : BinOp) (t : TypeId) (x y : ROpd) : Option RRead :=
  match op with
  | .eql => requal P false t x y
  | .neq => requal P true t x y
  | .shl | .shr => none
  | op => some (.bin op x y)

theorem sim_bin' {P : Program} {o : Oper} {op : BinOp} {t u : TypeId} {x y : Operand} {rx ry : ROpd} {r : RRead} (ho : o.op = .binOp op t x y u) (hx : ropd x = some rx) (hy : ropd y = some ry) (h : rbin P op t rx ry = some r) : SimRd P o r := by
  have eq : ∀ neg : Bool, op = (if neg then .neq else .eql) → requal P neg t rx ry = some r → SimRd P o r := by
    intro neg hop h
    unfold requal at h
    split at h
    · rename_i hu; simp only [Option.some.injEq] at h; subst h; exact sim_beq ho hop hu hx hy
    · rename_i el hu; simp only [Option.some.injEq] at h; subst h; exact sim_peq ho hop hu hx hy
    · rename_i fs hu
      split at h
      · cases h
      · rename_i hg
        simp only [Option.map_eq_some_iff] at h
        obtain ⟨ks, hk, rfl⟩ := h
        exact sim_seq ho hop hu hk (by simpa using hg) hx hy
    · simp only [Option.some.injEq] at h; subst h; subst hop; exact sim_bin ho hx hy
    · simp only [Option.some.injEq] at h; subst h; subst hop; exact sim_bin ho hx hy
    · cases h
  unfold rbin at h
  split at h
  · exact eq false rfl h
  · exact eq true rfl h
  · cases h
  · cases h
  · simp only [Option.some.injEq] at h; subst h; exact sim_bin ho hx hy

def rconv (P : Program) (src dst : TypeId) (x : ROpd) : Option RRead :=
  match P.underlying src, P.underlying dst with
  | some _, some (.int k) => some (.conv k x)
  | some _, some .string => some (.cstr x)
  | _, _ => none
def rfa (P : Program) (t : TypeId) (f : Nat) (x : ROpd) : Option RRead :=
  match P.underlying t with
  | some (.struct fs) => match fs[f]? with
    | some fd => match P.info? fd.type with
      | some i => if i.size = 0 then none else some (.fa fd.offset x)
      | none => none
    | none => none
  | _ => none
def ria (P : Program) (t : TypeId) (x y : ROpd) : Option RRead :=
  match P.underlying t with
  | some (.slice el) => (P.info? el).map fun i => .ia i.size x y
  | _ => none
def rsix (P : Program) (t : TypeId) (x y : ROpd) : Option RRead :=
  match P.underlying t with
  | some .string => some (.six x y)
  | _ => none
def rslice (P : Program) (t : TypeId) (x : ROpd) (lo hi : Option ROpd) : Option RRead :=
  match P.underlying t with
  | some .string => some (.slice true 0 x lo hi)
  | some (.slice el) => (P.info? el).map fun i => .slice false i.size x lo hi
  | _ => none
def rlen (P : Program) (t : TypeId) (x : ROpd) : Option RRead :=
  match P.underlying t with
  | some .string => some (.len 0 x)
  | some (.slice _) => some (.len 1 x)
  | some (.map _ _) => some (.len 2 x)
  | _ => none
def rmkI (P : Program) (t : TypeId) (x : ROpd) : Option RRead :=
  match P.underlying t with
  | some (.interface _) => none
  | some _ => some (.mkI t x)
  | none => none
def rbsl (P : Program) (t : TypeId) (len : Nat) (parts : List (Nat × Operand)) : Option RRead :=
  match P.underlying t with
  | some (.slice el) => match P.info? el with
    | some ie => match ie.zero with
      | some z => if len * ie.size > 2 ^ 24 then none else
        match ofVs (bslZero (if len * ie.size = 0 then #[] else z.cells) (len * ie.size)), rparts (fun i => some (i * ie.size, ie.size)) parts with
        | some zs, some ps => some (.bsl ie.size len zs ps)
        | _, _ => none
      | none => none
    | none => none
  | _ => none
def rbsle (P : Program) (t : TypeId) (len : Nat) (parts : List (Nat × Operand)) : Option REff :=
  match P.underlying t with
  | some (.slice el) => match P.info? el with
    | some ie => match ie.zero with
      | some z => if len * ie.size > 2 ^ 24 then none else
        match ofVs (bslZero (if len * ie.size = 0 then #[] else z.cells) (len * ie.size)), rparts (fun i => some (i * ie.size, ie.size)) parts with
        | some zs, some ps => some (.bsle el ie.size len zs ps)
        | _, _ => none
      | none => none
    | none => none
  | _ => none
def rappend (P : Program) (sty xty : TypeId) (s x : ROpd) : Option REff :=
  match P.underlying sty, P.underlying xty with
  | some (.slice el), some (.int _) => match P.info? el with
    | some ie => match ie.zero with
      | some z => match ofV z with
        | some zx => if ie.size = 1 ∧ ie.bytes ≠ 0 then some (.appendz el ie.bytes zx s x) else none
        | none => none
      | none => none
    | none => none
  | some (.slice el), some _ => match P.info? el with
    | some ie => match ie.zero with
      | some z => if z.cells.size = ie.size ∧ ie.bytes ≠ 0 then some (.append el ie.size ie.bytes s x) else none
      | none => none
    | none => none
  | _, _ => none
def rmksl (P : Program) (t : TypeId) (l c : ROpd) : Option REff :=
  match P.underlying t with
  | some (.slice el) => match P.info? el with
    | some ie => match ie.zero with
      | some z => match ofV z with
        | some zx => if ie.size = 1 then some (.mksl el ie.bytes zx l c) else none
        | none => none
      | none => none
    | none => none
  | _ => none
def ralloc (P : Program) (t : TypeId) : Option REff :=
  match P.info? t with
  | some it => match it.zero with
    | some z => (ofVs z.cells.toList).map fun zs => .alloc t zs
    | none => none
  | none => none

def rcall (P : Program) (c : Call) : Option ROp :=
  match c.callee, c.args.toList, c.argTypes.toList with
  | .builtin .len, [x], [t] => match ropd x with | some x => (rlen P t x).map .rd | none => none
  | .builtin .append, [s, x], [sty, xty] => match ropd s, ropd x with | some s, some x => (rappend P sty xty s x).map .ef | _, _ => none
  | .builtin .max, [x, y], _ => (two (ropd x) (ropd y) .mx).map .rd
  | .builtin .min, [x, y], _ => (two (ropd x) (ropd y) .mn).map .rd
  | .value (.func f), args, _ => if callable P f then (ropds args).map fun rs => .ef (.call f rs) else none
  | .value x, args, _ => match ropd x, ropds args with | some rx, some rs => some (.ef (.callv rx rs)) | _, _ => none
  | _, _, _ => none

def rop (P : Program) : Op → Option ROp
  | .move x | .assign x => (ropd x).map fun x => .rd (.mv x)
  | .pick c a b => match ropd c, ropd a, ropd b with | some c, some a, some b => some (.rd (.pick c a b)) | _, _, _ => none
  | .alloc t => (ralloc P t).map .ef
  | .box t x => (ropd x).map fun x => .ef (.box t x)
  | .build t parts => (rbuild P t parts.toList).map .rd
  | .buildSlice t len parts => (rbsl P t len parts.toList).map .rd
  | .load t x => match ropd x with | some x => (rload P t x).map .rd | none => none
  | .store t x v => match ropd x, ropd v, P.info? t with | some x, some v, some i => some (.ef (.store i.size x v)) | _, _, _ => none
  | .nilCheck x => (ropd x).map fun x => .rd (.nilc x)
  | .binOp op t x y _ => match ropd x, ropd y with | some x, some y => (rbin P op t x y).map .rd | _, _ => none
  | .unOp op _ x => (ropd x).map fun x => .rd (.un op x)
  | .convert src dst x => match ropd x with | some x => (rconv P src dst x).map .rd | none => none
  | .makeInterface t x => match ropd x with | some x => (rmkI P t x).map .rd | none => none
  | .makeFunc fn f c => match ropds f.toList, ropds c.toList with | some f, some c => some (.rd (.mkF fn f c)) | _, _ => none
  | .makeMap _ none => some (.ef .mkmap)
  | .makeSlice t l c => match ropd l, ropd c with | some l, some c => (rmksl P t l c).map .ef | _, _ => none
  | .slice t x lo hi none => match ropd x, ropt lo, ropt hi with | some x, some lo, some hi => (rslice P t x lo hi).map .rd | _, _, _ => none
  | .fieldAddr t x f => match ropd x with | some x => (rfa P t f x).map .rd | none => none
  | .indexAddr t x i => match ropd x, ropd i with | some x, some i => (ria P t x i).map .rd | _, _ => none
  | .index t x i => match ropd x, ropd i with | some x, some i => (rsix P t x i).map .rd | _, _ => none
  | .extract x i => (ropd x).map fun x => .rd (.ext x i)
  | .field t x f => match ropd x with | some x => (rfield P t f x).map .rd | none => none
  | .lookup t x i ok => match ropd x, ropd i with | some x, some i => (rlookup P t ok x i).map .rd | _, _ => none
  | .mapUpdate t m k v | .insert t m k v => match ropd m, ropd k, ropd v with | some m, some k, some v => (rmapup P t m k v).map .ef | _, _, _ => none
  | .call c => rcall P c
  | _ => none

theorem simOp_call {P : Program} {o : Oper} {c : Call} {r : ROp} (ho : o.op = .call c) (h : rcall P c = some r) : SimOp P o r := by
  obtain ⟨callee, args, tys⟩ := c
  unfold rcall at h
  split at h
  · rename_i x t hc ha ht
    simp only at hc ha ht
    have ea : args = #[x] := by rw [← Array.toArray_toList (xs := args), ha]
    have et : tys = #[t] := by rw [← Array.toArray_toList (xs := tys), ht]
    subst hc ea et
    cases hx : ropd x with
    | none => simp [hx] at h
    | some rx =>
      simp only [hx, Option.map_eq_some_iff] at h
      obtain ⟨q, hq, rfl⟩ := h
      unfold rlen at hq
      split at hq
      · rename_i hu; simp only [Option.some.injEq] at hq; subst hq; exact sim_len ho hu trivial hx
      · rename_i el hu; simp only [Option.some.injEq] at hq; subst hq; exact sim_len ho hu trivial hx
      · rename_i k el hu; simp only [Option.some.injEq] at hq; subst hq; exact sim_len ho hu trivial hx
      · cases hq
  · rename_i s x sty xty hc ha ht
    simp only at hc ha ht
    have ea : args = #[s, x] := by rw [← Array.toArray_toList (xs := args), ha]
    have et : tys = #[sty, xty] := by rw [← Array.toArray_toList (xs := tys), ht]
    subst hc ea et
    cases hs : ropd s with
    | none => simp [hs] at h
    | some rs =>
      cases hx : ropd x with
      | none => simp [hs, hx] at h
      | some rx =>
        simp only [hs, hx, Option.map_eq_some_iff] at h
        obtain ⟨q, hq, rfl⟩ := h
        unfold rappend at hq
        split at hq
        · rename_i el kd hu1 hu2
          split at hq
          · rename_i ie hie
            split at hq
            · rename_i z hz
              split at hq
              · rename_i zx hzx
                split at hq
                · rename_i hcond
                  simp only [Option.some.injEq] at hq; subst hq
                  exact simEff_appendz ho hu1 hu2 hie hz hzx hcond.1 hcond.2 hs hx
                · cases hq
              · cases hq
            · cases hq
          · cases hq
        · rename_i el d hnot hu1 hu2
          split at hq
          · rename_i ie hie
            split at hq
            · rename_i z hz
              split at hq
              · rename_i hcond
                simp only [Option.some.injEq] at hq; subst hq
                exact simEff_append ho hu1 hu2 (by intro k hk; subst hk; exact hnot k rfl) hie hz hcond.1 hcond.2 hs hx
              · cases hq
            · cases hq
          · cases hq
        · cases hq
  · rename_i x y hc ha
    simp only at hc ha
    have ea : args = #[x, y] := by rw [← Array.toArray_toList (xs := args), ha]
    subst hc ea
    simp only [Option.map_eq_some_iff] at h
    obtain ⟨q, hq, rfl⟩ := h
    unfold two at hq
    split at hq
    · rename_i rx ry hx hy; simp only [Option.some.injEq] at hq; subst hq; exact sim_mx ho hx hy
    · cases hq
  · rename_i x y hc ha
    simp only at hc ha
    have ea : args = #[x, y] := by rw [← Array.toArray_toList (xs := args), ha]
    subst hc ea
    simp only [Option.map_eq_some_iff] at h
    obtain ⟨q, hq, rfl⟩ := h
    unfold two at hq
    split at hq
    · rename_i rx ry hx hy; simp only [Option.some.injEq] at hq; subst hq; exact sim_mn ho hx hy
    · cases hq
  · rename_i f hc
    simp only at hc
    subst hc
    split at h
    · rename_i hcall
      simp only [Option.map_eq_some_iff] at h
      obtain ⟨rs, hrs, rfl⟩ := h
      exact simEff_call ho hcall hrs
    · cases h
  · rename_i x hnot hc
    simp only at hc
    subst hc
    cases hx : ropd x with
    | none => simp [hx] at h
    | some rx =>
      cases ha : ropds args.toList with
      | none => simp [hx, ha] at h
      | some rs =>
        simp only [hx, ha, Option.some.injEq] at h; subst h
        exact simEff_callv ho hx ha
  · cases h

theorem simOp {P : Program} {o : Oper} {r : ROp} (h : rop P o.op = some r) : SimOp P o r := by
  cases ho : o.op <;> rw [ho] at h <;> simp only [rop] at h <;> try (cases h; done)
  case move x =>
    simp only [Option.map_eq_some_iff] at h
    obtain ⟨rx, hx, rfl⟩ := h
    exact sim_mv (.inl ho) hx
  case assign x =>
    simp only [Option.map_eq_some_iff] at h
    obtain ⟨rx, hx, rfl⟩ := h
    exact sim_mv (.inr ho) hx
  case pick c x y =>
    split at h
    · rename_i rc rx ry hc hx hy; simp only [Option.some.injEq] at h; subst h; exact sim_pick ho hc hx hy
    · cases h
  case alloc t =>
    simp only [Option.map_eq_some_iff] at h
    obtain ⟨q, hq, rfl⟩ := h
    unfold ralloc at hq
    split at hq
    · rename_i it hi
      split at hq
      · rename_i z hz
        simp only [Option.map_eq_some_iff] at hq
        obtain ⟨zs, hzs, rfl⟩ := hq
        exact simEff_alloc ho hi hz hzs
      · cases hq
    · cases hq
  case box t x =>
    simp only [Option.map_eq_some_iff] at h
    obtain ⟨rx, hx, rfl⟩ := h
    exact simEff_box ho hx
  case build t parts =>
    simp only [Option.map_eq_some_iff] at h
    obtain ⟨q, hq, rfl⟩ := h
    exact sim_build ho hq
  case buildSlice t len parts =>
    simp only [Option.map_eq_some_iff] at h
    obtain ⟨q, hq, rfl⟩ := h
    unfold rbsl at hq
    split at hq
    · rename_i el hu
      split at hq
      · rename_i ie hie
        split at hq
        · rename_i z hz
          split at hq
          · cases hq
          · rename_i hsmall
            split at hq
            · rename_i zs ps hzs hps; simp only [Option.some.injEq] at hq; subst hq; exact sim_bsl ho hu hie hz hsmall hzs hps
            · cases hq
        · cases hq
      · cases hq
    · cases hq
  case load t x =>
    cases hx : ropd x with
    | none => simp [hx] at h
    | some rx =>
      simp only [hx, Option.map_eq_some_iff] at h
      obtain ⟨q, hq, rfl⟩ := h
      exact sim_load ho hx hq
  case store t x v =>
    split at h
    · rename_i rx rv i hx hv hi; simp only [Option.some.injEq] at h; subst h; exact simEff_store ho hi hx hv
    · cases h
  case nilCheck x =>
    simp only [Option.map_eq_some_iff] at h
    obtain ⟨rx, hx, rfl⟩ := h
    exact sim_nilc ho hx
  case binOp op t x y u =>
    split at h
    · rename_i rx ry hx hy
      simp only [Option.map_eq_some_iff] at h
      obtain ⟨q, hq, rfl⟩ := h
      exact sim_bin' ho hx hy hq
    · cases h
  case unOp op t x =>
    simp only [Option.map_eq_some_iff] at h
    obtain ⟨rx, hx, rfl⟩ := h
    exact sim_un ho hx
  case convert src dst x =>
    cases hx : ropd x with
    | none => simp [hx] at h
    | some rx =>
      simp only [hx, Option.map_eq_some_iff] at h
      obtain ⟨q, hq, rfl⟩ := h
      unfold rconv at hq
      split at hq
      · rename_i d k hs hd; simp only [Option.some.injEq] at hq; subst hq; exact sim_conv ho hs hd hx
      · rename_i d hs hd; simp only [Option.some.injEq] at hq; subst hq; exact sim_cstr ho hs hd hx
      · cases hq
  case makeInterface t x =>
    cases hx : ropd x with
    | none => simp [hx] at h
    | some rx =>
      simp only [hx, Option.map_eq_some_iff] at h
      obtain ⟨q, hq, rfl⟩ := h
      unfold rmkI at hq
      split at hq
      · cases hq
      · rename_i d hnot hd; simp only [Option.some.injEq] at hq; subst hq; exact sim_mkI ho hd (by intro ms hm; subst hm; exact hnot ms rfl) hx
      · cases hq
  case makeFunc fn f c =>
    split at h
    · rename_i rf rc hf hc; simp only [Option.some.injEq] at h; subst h; exact sim_mkF ho hf hc
    · cases h
  case makeMap t r =>
    cases r with
    | none => simp only [Option.some.injEq] at h; subst h; exact simEff_mkmap ho
    | some r => cases h
  case makeSlice t l c =>
    split at h
    · rename_i rl rc hl hc
      simp only [Option.map_eq_some_iff] at h
      obtain ⟨q, hq, rfl⟩ := h
      unfold rmksl at hq
      split at hq
      · rename_i el hu
        split at hq
        · rename_i ie hie
          split at hq
          · rename_i z hz
            split at hq
            · rename_i zx hzx
              split at hq
              · rename_i hcond; simp only [Option.some.injEq] at hq; subst hq; exact simEff_mksl ho hu hie hz hzx hcond hl hc
              · cases hq
            · cases hq
          · cases hq
        · cases hq
      · cases hq
    · cases h
  case slice t x lo hi mx =>
    cases mx with
    | some m => cases h
    | none =>
      simp only at h
      split at h
      · rename_i rx rlo rhi hx hlo hhi
        simp only [Option.map_eq_some_iff] at h
        obtain ⟨q, hq, rfl⟩ := h
        unfold rslice at hq
        split at hq
        · rename_i hu; simp only [Option.some.injEq] at hq; subst hq; exact sim_sliceS 0 ho hu hx hlo hhi
        · rename_i el hu
          simp only [Option.map_eq_some_iff] at hq
          obtain ⟨i, hi', rfl⟩ := hq
          exact sim_sliceL ho hu hi' hx hlo hhi
        · cases hq
      · cases h
  case fieldAddr t x f =>
    cases hx : ropd x with
    | none => simp [hx] at h
    | some rx =>
      simp only [hx, Option.map_eq_some_iff] at h
      obtain ⟨q, hq, rfl⟩ := h
      unfold rfa at hq
      split at hq
      · rename_i fs hu
        split at hq
        · rename_i fd hf
          split at hq
          · rename_i i hi
            split at hq
            · cases hq
            · rename_i hz; simp only [Option.some.injEq] at hq; subst hq; exact sim_fa ho hu hf hi hz hx
          · cases hq
        · cases hq
      · cases hq
  case indexAddr t x y =>
    split at h
    · rename_i rx ry hx hy
      simp only [Option.map_eq_some_iff] at h
      obtain ⟨q, hq, rfl⟩ := h
      unfold ria at hq
      split at hq
      · rename_i el hu
        simp only [Option.map_eq_some_iff] at hq
        obtain ⟨i, hi, rfl⟩ := hq
        exact sim_ia ho hu hi hx hy
      · cases hq
    · cases h
  case index t x y =>
    split at h
    · rename_i rx ry hx hy
      simp only [Option.map_eq_some_iff] at h
      obtain ⟨q, hq, rfl⟩ := h
      unfold rsix at hq
      split at hq
      · rename_i hu; simp only [Option.some.injEq] at hq; subst hq; exact sim_six ho hu hx hy
      · cases hq
    · cases h
  case extract x i =>
    simp only [Option.map_eq_some_iff] at h
    obtain ⟨rx, hx, rfl⟩ := h
    exact sim_ext ho hx
  case field t x f =>
    cases hx : ropd x with
    | none => simp [hx] at h
    | some rx =>
      simp only [hx, Option.map_eq_some_iff] at h
      obtain ⟨q, hq, rfl⟩ := h
      exact sim_fld ho hx hq
  case lookup t x y ok =>
    split at h
    · rename_i rx ry hx hy
      simp only [Option.map_eq_some_iff] at h
      obtain ⟨q, hq, rfl⟩ := h
      exact sim_lookup ho hx hy hq
    · cases h
  case mapUpdate t m k v =>
    split at h
    · rename_i rm rk rv hm hk hv
      simp only [Option.map_eq_some_iff] at h
      obtain ⟨q, hq, rfl⟩ := h
      exact simEff_mapup (.inl ho) hm hk hv hq
    · cases h
  case insert t m k v =>
    split at h
    · rename_i rm rk rv hm hk hv
      simp only [Option.map_eq_some_iff] at h
      obtain ⟨q, hq, rfl⟩ := h
      exact simEff_mapup (.inr ho) hm hk hv hq
    · cases h
  case call c => exact simOp_call ho h

/-- The same; the boxes of some slots never turn. -/
def ropB (P : Program) (B : List Nat) (o : Oper) : Option ROp :=
  match o.op, o.dst with
  | .box t x, some d => if B.contains d then (ropd x).map fun x => .rd (.bx none x) else rop P o.op
  | .buildSlice t len parts, some d => if B.contains d then (rbsle P t len parts.toList).map .ef else rop P o.op
  | _, _ => rop P o.op
theorem simOpB {P : Program} {B : List Nat} {o : Oper} {r : ROp} (h : ropB P B o = some r) : SimOp P o r := by
  unfold ropB at h
  split at h
  · rename_i t x d ho hd
    split at h
    · simp only [Option.map_eq_some_iff] at h
      obtain ⟨rx, hx, rfl⟩ := h
      exact sim_bx ho hx
    · exact simOp h
  · rename_i t len parts d ho hd
    split at h
    · simp only [Option.map_eq_some_iff] at h
      obtain ⟨q, hq, rfl⟩ := h
      unfold rbsle at hq
      split at hq
      · rename_i el hu
        split at hq
        · rename_i ie hie
          split at hq
          · rename_i z hz
            split at hq
            · cases hq
            · rename_i hsmall
              split at hq
              · rename_i zs ps hzs hps; simp only [Option.some.injEq] at hq; subst hq; exact simEff_bsle ho hu hie hz hsmall hzs hps
              · cases hq
          · cases hq
        · cases hq
      · cases hq
    · exact simOp h
  · exact simOp h

end Pg
