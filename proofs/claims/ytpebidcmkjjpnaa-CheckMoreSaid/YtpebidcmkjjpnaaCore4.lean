/- The core, fourth part: the other reading operations. -/
import Derived.Test.YtpebidcmkjjpnaaCore3
import Derived.Laws.StructEq
namespace Pg
open Go
set_option linter.unusedSimpArgs false
set_option linter.unusedVariables false

theorem beq_bytes (a b : ByteArray) : (a == b) = decide (a = b) := by
  rw [beq_toListBytes, ByteArray.toList_eq, ByteArray.toList_eq, Bool.eq_iff_iff]
  obtain ⟨⟨x⟩⟩ := a
  obtain ⟨⟨y⟩⟩ := b
  simp
theorem beq_int (a b : Int) : (a == b) = decide (a = b) := by rw [Bool.eq_iff_iff]; simp
theorem bne_int (a b : Int) : (a != b) = !decide (a = b) := by rw [Bool.eq_iff_iff]; simp
theorem beq_bool' (a b : Bool) : (a == b) = decide (a = b) := by cases a <;> cases b <;> rfl

theorem sim_bin {P : Program} {o : Oper} {op : BinOp} {t u : TypeId} {x y : Operand} {rx ry : ROpd} (ho : o.op = .binOp op t x y u) (hx : ropd x = some rx) (hy : ropd y = some ry) : SimRd P o (.bin op rx ry) := by
  refine .pure fun I w h a va av s t' k => ?_
  have h1 := ropd_rd s hx
  have h2 := ropd_rd s hy
  simp only [aread] at k
  generalize va rx = p at h1 k
  generalize va ry = q at h2 k
  generalize hvx : a.eval x = vx at h1
  generalize hvy : a.eval y = vy at h2
  cases p with
  | int k1 m =>
    cases q with
    | int k2 n =>
      have := h1.inv_int; subst this
      have := h2.inv_int; subst this
      simp only [abin] at k
      split at k
      · rename_i hk; subst hk
        cases op <;> simp only [Option.some.injEq, reduceCtorEq] at k
        case quo =>
          split at k
          · cases k
          · rename_i hn; simp only [Option.some.injEq] at k; subst k; exact ⟨_, by simp [execOp, ho, hvx, hvy, eqGuard, binOp, Op.intDiv, hn], .int _ _⟩
        case rem =>
          split at k
          · cases k
          · rename_i hn; simp only [Option.some.injEq] at k; subst k; exact ⟨_, by simp [execOp, ho, hvx, hvy, eqGuard, binOp, Op.intDiv, hn], .int _ _⟩
        all_goals subst k
        case add => exact ⟨_, by simp [execOp, ho, hvx, hvy, eqGuard, binOp, Op.intArith], .int _ _⟩
        case sub => exact ⟨_, by simp [execOp, ho, hvx, hvy, eqGuard, binOp, Op.intArith], .int _ _⟩
        case mul => exact ⟨_, by simp [execOp, ho, hvx, hvy, eqGuard, binOp, Op.intArith], .int _ _⟩
        case and => exact ⟨_, by simp [execOp, ho, hvx, hvy, eqGuard, binOp, Op.intBits], .int _ _⟩
        case or => exact ⟨_, by simp [execOp, ho, hvx, hvy, eqGuard, binOp, Op.intBits], .int _ _⟩
        case eql => exact ⟨.bool (m == n), by simp [execOp, ho, hvx, hvy, eqGuard, binOp, Op.intCmp], by rw [beq_int]; exact .bool _⟩
        case neq => exact ⟨.bool (m != n), by simp [execOp, ho, hvx, hvy, eqGuard, binOp, Op.intCmp], by rw [bne_int]; exact .bool _⟩
        case lss => exact ⟨_, by simp [execOp, ho, hvx, hvy, eqGuard, binOp, Op.intCmp], .bool _⟩
        case leq => exact ⟨_, by simp [execOp, ho, hvx, hvy, eqGuard, binOp, Op.intCmp], .bool _⟩
        case gtr => exact ⟨_, by simp [execOp, ho, hvx, hvy, eqGuard, binOp, Op.intCmp], .bool _⟩
        case geq => exact ⟨_, by simp [execOp, ho, hvx, hvy, eqGuard, binOp, Op.intCmp], .bool _⟩
      · cases k
    | _ => simp [abin] at k
  | str m =>
    cases q with
    | str n =>
      have := h1.inv_str; subst this
      have := h2.inv_str; subst this
      simp only [abin] at k
      cases op <;> simp only [Option.some.injEq, reduceCtorEq] at k
      case add =>
        split at k
        · cases k
        · rename_i hn; simp only [Option.some.injEq] at k; subst k; exact ⟨.string (m ++ n), by simp only [execOp, ho, hvx, hvy, eqGuard, binOp, Op.stringOp, Sem.run_bind, Sem.run_ite, hn, if_false, Sem.run_pure, Result.andThen_ok]; simp [hn], .str _⟩
      case eql => subst k; exact ⟨.bool (m == n), by simp [execOp, ho, hvx, hvy, eqGuard, binOp, Op.stringOp, beq_toListBytes], by rw [beq_bytes]; exact .bool _⟩
      case neq => subst k; exact ⟨.bool (!(m == n)), by simp [execOp, ho, hvx, hvy, eqGuard, binOp, Op.stringOp, beq_toListBytes], by rw [beq_bytes]; exact .bool _⟩
    | _ => simp [abin] at k
  | _ => simp [abin] at k

theorem sim_beq {P : Program} {o : Oper} {op : BinOp} {t u : TypeId} {x y : Operand} {rx ry : ROpd} {neg : Bool} (ho : o.op = .binOp op t x y u) (hop : op = if neg then .neq else .eql) (hu : P.underlying t = some .bool) (hx : ropd x = some rx) (hy : ropd y = some ry) :
    SimRd P o (.beq neg rx ry) := by
  refine .pure fun I w h a va av s t' k => ?_
  have h1 := ropd_rd s hx
  have h2 := ropd_rd s hy
  simp only [aread] at k
  generalize va rx = p at h1 k
  generalize va ry = q at h2 k
  generalize hvx : a.eval x = vx at h1
  generalize hvy : a.eval y = vy at h2
  cases p with
  | bool m =>
    cases q with
    | bool n =>
      have := h1.inv_bool; subst this
      have := h2.inv_bool; subst this
      simp only [abeq, Option.some.injEq] at k; subst k
      have hb : (Op.equal t (.bool m) (.bool n)).run P w = .ok (decide (m = n)) w := by rw [← beq_bool']; exact run_equalIn_bool w 9999 t m n hu
      have he : (eqGuard op t x y (.bool m) (.bool n)).run P w = .ok () w := by cases op <;> rfl
      cases neg <;> simp only [Bool.false_eq_true, if_true, if_false] at hop <;> subst hop
      · have hbin : binOp .eql t (.bool m) (.bool n) = (do pure (.bool (← Op.equal t (.bool m) (.bool n)))) := rfl
        refine ⟨.bool (boolNeg false (decide (m = n))), ?_, .bool _⟩
        simp only [execOp, ho, hvx, hvy, hbin, Sem.run_bind, he, hb, Result.andThen_ok, Sem.run_pure, boolNeg, Bool.false_eq_true, if_false]
      · have hbin : binOp .neq t (.bool m) (.bool n) = (do pure (.bool (!(← Op.equal t (.bool m) (.bool n))))) := rfl
        refine ⟨.bool (boolNeg true (decide (m = n))), ?_, .bool _⟩
        simp only [execOp, ho, hvx, hvy, hbin, Sem.run_bind, he, hb, Result.andThen_ok, Sem.run_pure, boolNeg, if_true]
    | _ => simp [abeq] at k
  | _ => simp [abeq] at k

theorem sim_peq {P : Program} {o : Oper} {op : BinOp} {t u el : TypeId} {x y : Operand} {rx ry : ROpd} {neg : Bool} (ho : o.op = .binOp op t x y u) (hop : op = if neg then .neq else .eql) (hu : P.underlying t = some (.pointer el)) (hx : ropd x = some rx) (hy : ropd y = some ry) :
    SimRd P o (.peq neg rx ry) := by
  refine .pure fun I w h a va av s t' k => ?_
  have h1 := ropd_rd s hx
  have h2 := ropd_rd s hy
  simp only [aread] at k
  generalize va rx = p at h1 k
  generalize va ry = q at h2 k
  generalize hvx : a.eval x = vx at h1
  generalize hvy : a.eval y = vy at h2
  have fin : ∀ (b : Bool), vx = .pointer none ∨ vy = .pointer none → (∃ pa pb, vx = .pointer pa ∧ vy = .pointer pb ∧ b = (pa.isNone && pb.isNone)) → av = .bool (boolNeg neg b) → ∃ v, (execOp a.eval o).run P w = .ok (.value v) w ∧ Rd I av v := by
    rintro b hn ⟨pa, pb, rfl, rfl, rfl⟩ rfl
    have hb : (Op.equal t (.pointer pa) (.pointer pb)).run P w = .ok (pa.isNone && pb.isNone) w := by
      show (Op.equalIn (9999 + 1) t (.pointer pa) (.pointer pb)).run P w = _
      rw [Op.equalIn]
      rcases pa with _ | pa
      · simp [run_underlying hu]
      · rcases pb with _ | pb
        · simp [run_underlying hu]
        · simp at hn
    have he : (eqGuard op t x y (.pointer pa) (.pointer pb)).run P w = .ok () w := by cases op <;> rfl
    cases neg <;> simp only [Bool.false_eq_true, if_true, if_false] at hop <;> subst hop
    · have hbin : binOp .eql t (.pointer pa) (.pointer pb) = (do pure (.bool (← Op.equal t (.pointer pa) (.pointer pb)))) := by cases pa <;> cases pb <;> rfl
      refine ⟨.bool (boolNeg false (pa.isNone && pb.isNone)), ?_, .bool _⟩
      simp only [execOp, ho, hvx, hvy, hbin, Sem.run_bind, he, hb, Result.andThen_ok, Sem.run_pure, boolNeg, Bool.false_eq_true, if_false]
    · have hbin : binOp .neq t (.pointer pa) (.pointer pb) = (do pure (.bool (!(← Op.equal t (.pointer pa) (.pointer pb))))) := by cases pa <;> cases pb <;> rfl
      refine ⟨.bool (boolNeg true (pa.isNone && pb.isNone)), ?_, .bool _⟩
      simp only [execOp, ho, hvx, hvy, hbin, Sem.run_bind, he, hb, Result.andThen_ok, Sem.run_pure, boolNeg, if_true]
  cases p with
  | ptr pa =>
    have := h1.inv_ptr; subst this
    cases q with
    | ptr pb =>
      have := h2.inv_ptr; subst this
      cases pa with
      | none => simp only [apeq, Option.some.injEq] at k; exact fin pb.isNone (.inl rfl) ⟨_, _, rfl, rfl, by simp⟩ k.symm
      | some pa =>
        cases pb with
        | none => simp only [apeq, Option.some.injEq] at k; exact fin false (.inr rfl) ⟨_, _, rfl, rfl, by simp⟩ k.symm
        | some pb => simp [apeq] at k
    | ip cells off =>
      obtain ⟨b, o', vs, rfl, _⟩ := h2.inv_ip
      cases pa with
      | none => simp only [apeq, Option.some.injEq] at k; exact fin false (.inl rfl) ⟨_, _, rfl, rfl, by simp⟩ k.symm
      | some pa => simp [apeq] at k
    | _ => cases pa <;> simp [apeq] at k
  | ip cells off =>
    obtain ⟨b, o', vs, rfl, _⟩ := h1.inv_ip
    cases q with
    | ptr pb =>
      have := h2.inv_ptr; subst this
      cases pb with
      | none => simp only [apeq, Option.some.injEq] at k; exact fin false (.inr rfl) ⟨_, _, rfl, rfl, by simp⟩ k.symm
      | some pb => simp [apeq] at k
    | _ => simp [apeq] at k
  | _ => simp [apeq] at k

/-- Struct types whose values are equal just if their cells are: their cells' kinds. -/
def flatFields (P : Program) (fl : TypeId → Option (List Nat)) : Nat → List Field → Option (List Nat)
  | _, [] => some []
  | off, f :: r =>
    if f.name == "_" || f.offset != off then none else
    match fl f.type, P.info? f.type with
    | some ks, some i => if i.size == ks.length && ks.length != 0 then (flatFields P fl (off + ks.length) r).map (ks ++ ·) else none
    | _, _ => none
def flatAt (P : Program) : Nat → TypeId → Option (List Nat)
  | 0, _ => none
  | d + 1, t =>
    match P.underlying t with
    | some .bool => some [0]
    | some (.int _) => some [1]
    | some .string => some [2]
    | some (.struct fs) => if P.stoodInHeld t then none else flatFields P (flatAt P d) 0 fs.toList
    | _ => none

def asVal (P : Program) (t : TypeId) (vs : List Value) : Value :=
  match P.underlying t with
  | some (.struct _) => .agg vs.toArray
  | _ => vs.headD undef

def EqFlat (P : Program) (d : Nat) (t : TypeId) (ks : List Nat) : Prop :=
  ∀ (I : Imm) (w : World) (X Y : List AV) (VX VY : List Value) (b : Bool), Rds I X VX → Rds I Y VY → cellsEq ks X Y = some b → (Op.equalIn d t (asVal P t VX) (asVal P t VY)).run P w = .ok b w

theorem cellsEq_length : ∀ (ks : List Nat) (X Y : List AV) (b : Bool), cellsEq ks X Y = some b → X.length = ks.length ∧ Y.length = ks.length
  | [], [], [], _, _ => ⟨rfl, rfl⟩
  | [], [], _ :: _, _, h => by simp [cellsEq] at h
  | [], _ :: _, _, _, h => by simp [cellsEq] at h
  | _ :: _, [], _, _, h => by simp [cellsEq] at h
  | _ :: _, _ :: _, [], _, h => by simp [cellsEq] at h
  | k :: ks, x :: X, y :: Y, b, h => by
    simp only [cellsEq] at h
    split at h
    · rename_i p q h1 h2; have := cellsEq_length ks X Y q h2; simp [this]
    · cases h
theorem cellsEq_append : ∀ (ks ls : List Nat) (X Y : List AV) (b : Bool), cellsEq (ks ++ ls) X Y = some b →
    ∃ b1 b2, cellsEq ks (X.take ks.length) (Y.take ks.length) = some b1 ∧ cellsEq ls (X.drop ks.length) (Y.drop ks.length) = some b2 ∧ b = (b1 && b2)
  | [], ls, X, Y, b, h => ⟨true, b, by simp [cellsEq], by simpa using h, by simp⟩
  | k :: ks, ls, [], Y, b, h => by simp [cellsEq] at h
  | k :: ks, ls, x :: X, [], b, h => by simp [cellsEq] at h
  | k :: ks, ls, x :: X, y :: Y, b, h => by
    simp only [List.cons_append, cellsEq] at h
    split at h
    · rename_i p q h1 h2
      simp only [Option.some.injEq] at h; subst h
      obtain ⟨b1, b2, e1, e2, rfl⟩ := cellsEq_append ks ls X Y q h2
      exact ⟨p && b1, b2, by simp [cellsEq, h1, e1], by simpa using e2, by cases p <;> simp⟩
    · cases h
theorem cellEq_run {P : Program} {I : Imm} {k : Nat} {x y : AV} {vx vy : Value} {b : Bool} (h : cellEq k x y = some b) (hx : Rd I x vx) (hy : Rd I y vy) :
    (k = 0 ∧ ∃ m n, vx = .bool m ∧ vy = .bool n ∧ b = (m == n)) ∨ (k = 1 ∧ ∃ j m n, vx = .int j m ∧ vy = .int j n ∧ b = (m == n)) ∨ (k = 2 ∧ ∃ m n, vx = .string m ∧ vy = .string n ∧ b = (m == n)) := by
  unfold cellEq at h
  split at h
  · split at h
    · rename_i k1 m k2 n hk
      subst hk
      simp only [Option.some.injEq] at h; subst h
      exact .inr (.inl ⟨rfl, k1, m, n, hx.inv_int, hy.inv_int, (beq_int m n).symm⟩)
    · cases h
  · rename_i m n
    simp only [Option.some.injEq] at h; subst h
    exact .inr (.inr ⟨rfl, m, n, hx.inv_str, hy.inv_str, (beq_bytes m n).symm⟩)
  · rename_i m n
    simp only [Option.some.injEq] at h; subst h
    exact .inl ⟨rfl, m, n, hx.inv_bool, hy.inv_bool, (beq_bool' m n).symm⟩
  · cases h

theorem eqFlat_scalar {P : Program} {d : Nat} {t : TypeId} {k : Nat} (hu : (k = 0 ∧ P.underlying t = some .bool) ∨ (k = 1 ∧ ∃ j, P.underlying t = some (.int j)) ∨ (k = 2 ∧ P.underlying t = some .string)) : EqFlat P (d + 1) t [k] := by
  intro I w X Y VX VY b rX rY h
  obtain ⟨lX, lY⟩ := cellsEq_length _ _ _ _ h
  match X, Y, lX, lY with
  | [x], [y], _, _ =>
    obtain ⟨vx, _, rfl, hx, r1⟩ := rX.uncons
    have := r1.of_nil; subst this
    obtain ⟨vy, _, rfl, hy, r2⟩ := rY.uncons
    have := r2.of_nil; subst this
    simp only [cellsEq] at h
    cases hc : cellEq k x y with
    | none => simp [hc] at h
    | some c =>
      simp only [hc, Bool.and_true, Option.some.injEq] at h; subst h
      have ha : asVal P t [vx] = vx := by rcases hu with ⟨_, h⟩ | ⟨_, k, h⟩ | ⟨_, h⟩ <;> simp [asVal, h]
      have hb : asVal P t [vy] = vy := by rcases hu with ⟨_, h⟩ | ⟨_, k, h⟩ | ⟨_, h⟩ <;> simp [asVal, h]
      rw [ha, hb]
      rcases cellEq_run (P := P) hc hx hy with ⟨rfl, m, n, rfl, rfl, rfl⟩ | ⟨rfl, j, m, n, rfl, rfl, rfl⟩ | ⟨rfl, m, n, rfl, rfl, rfl⟩ <;> rcases hu with ⟨hk, h⟩ | ⟨hk, j', h⟩ | ⟨hk, h⟩ <;>
        first | (cases hk; done) | simp [Op.equalIn, run_underlying h]

theorem run_part {P : Program} {t : TypeId} {i : TypeInfo} (ks : List Nat) (d : Nat) (hf : flatAt P d t = some ks) (hi : P.info? t = some i) (hs : i.size = ks.length) (w : World) (vs : List Value) (off : Nat) (hl : off + ks.length ≤ vs.length) :
    (part t vs.toArray off).run P w = .ok (asVal P t ((vs.drop off).take ks.length)) w := by
  cases d with
  | zero => simp [flatAt] at hf
  | succ d =>
    simp only [flatAt] at hf
    have one : ∀ d', P.underlying t = some d' → aggD d' = false → ks.length = 1 → (part t vs.toArray off).run P w = .ok (asVal P t ((vs.drop off).take ks.length)) w := by
      intro d' hu hd h1
      have hagg : (isAgg t).run P w = .ok false w := by
        simp only [isAgg, Sem.run_bind, run_underlying hu, Result.andThen_ok]
        cases d' <;> simp_all [aggD]
      have ho : off < vs.length := by omega
      have hv : asVal P t ((vs.drop off).take ks.length) = vs[off] := by
        unfold asVal; rw [hu, h1]
        have h2 : ((vs.drop off).take 1).headD undef = vs[off] := by
          rw [List.drop_eq_getElem_cons ho]; rfl
        cases d' <;> first | (simp [aggD] at hd; done) | exact h2
      rw [hv]
      simp only [part, Sem.run_bind, hagg, Result.andThen_ok, Bool.false_eq_true, if_false]
      simp [ho]
    split at hf
    · rename_i hu; simp only [Option.some.injEq] at hf; exact one _ hu rfl (by rw [← hf]; rfl)
    · rename_i j hu; simp only [Option.some.injEq] at hf; exact one _ hu rfl (by rw [← hf]; rfl)
    · rename_i hu; simp only [Option.some.injEq] at hf; exact one _ hu rfl (by rw [← hf]; rfl)
    · rename_i fs hu
      have hagg : (isAgg t).run P w = .ok true w := by
        simp only [isAgg, Sem.run_bind, run_underlying hu, Result.andThen_ok]
        rfl
      simp only [part, Sem.run_bind, hagg, Result.andThen_ok, if_true, Go.sizeOf, typeInfo, run_program, hi, Sem.run_pure, hs, asVal, hu]
      congr 2
      apply Array.ext'
      simp [List.take_drop]
    · cases hf

theorem eqFields_flat {P : Program} {d : Nat} {fl : TypeId → Option (List Nat)} (hfl : ∀ t ks, fl t = some ks → flatAt P d t = some ks ∧ EqFlat P d t ks) : ∀ (fs : List Field) (off : Nat) (ks : List Nat), flatFields P fl off fs = some ks →
    ∀ (I : Imm) (w : World) (X Y : List AV) (VX VY : List Value) (b : Bool), Rds I X VX → Rds I Y VY → cellsEq ks (X.drop off) (Y.drop off) = some b → (Op.eqFields d VX.toArray VY.toArray fs).run P w = .ok b w
  | [], off, ks, h, I, w, X, Y, VX, VY, b, rX, rY, he => by
    simp only [flatFields, Option.some.injEq] at h; subst h
    obtain ⟨lX, lY⟩ := cellsEq_length _ _ _ _ he
    cases hx : X.drop off with
    | cons _ _ => rw [hx] at lX; simp at lX
    | nil =>
      cases hy : Y.drop off with
      | cons _ _ => rw [hy] at lY; simp at lY
      | nil => rw [hx, hy] at he; simp only [cellsEq, Option.some.injEq] at he; subst he; simp [Op.eqFields]
  | f :: r, off, ks, h, I, w, X, Y, VX, VY, b, rX, rY, he => by
    simp only [flatFields] at h
    split at h
    · cases h
    · rename_i hname
      split at h
      · rename_i ks1 i h1 h2
        split at h
        · rename_i hsz
          simp only [Option.map_eq_some_iff] at h
          obtain ⟨ks2, h3, rfl⟩ := h
          have hn : f.name ≠ "_" ∧ f.offset = off := by simpa using hname
          have hs : i.size = ks1.length ∧ ¬ ks1 = [] := by simpa using hsz
          have hpos : 0 < ks1.length := by
            cases ks1 with
            | nil => exact absurd rfl hs.2
            | cons => simp
          obtain ⟨g1, g2⟩ := hfl _ _ h1
          obtain ⟨lX, lY⟩ := cellsEq_length _ _ _ _ he
          simp only [List.length_drop, List.length_append] at lX lY
          obtain ⟨b1, b2, e1, e2, rfl⟩ := cellsEq_append _ _ _ _ _ he
          have ih := eqFields_flat hfl r (off + ks1.length) ks2 h3 I w X Y VX VY b2 rX rY (by simpa [List.drop_drop, Nat.add_comm] using e2)
          have hlx := rX.len
          have hly := rY.len
          have p1 := run_part ks1 d g1 h2 hs.1 w VX off (by omega)
          have p2 := run_part ks1 d g1 h2 hs.1 w VY off (by omega)
          have p3 := g2 I w _ _ _ _ b1 ((rX.drop off).take ks1.length) ((rY.drop off).take ks1.length) e1
          rw [Op.eqFields, if_pos hn.1, hn.2]
          simp only [Sem.run_bind, p1, p2, p3, Result.andThen_ok]
          cases b1
          · simp
          · simpa using ih
        · cases h
      · cases h

theorem eqFlat_at {P : Program} : ∀ (d : Nat) (t : TypeId) (ks : List Nat), flatAt P d t = some ks → EqFlat P d t ks
  | 0, t, ks, h => by simp [flatAt] at h
  | d + 1, t, ks, h => by
    have h0 := h
    simp only [flatAt] at h
    split at h
    · rename_i hu; simp only [Option.some.injEq] at h; subst h; exact eqFlat_scalar (.inl ⟨rfl, hu⟩)
    · rename_i j hu; simp only [Option.some.injEq] at h; subst h; exact eqFlat_scalar (.inr (.inl ⟨rfl, j, hu⟩))
    · rename_i hu; simp only [Option.some.injEq] at h; subst h; exact eqFlat_scalar (.inr (.inr ⟨rfl, hu⟩))
    · rename_i fs hu
      split at h
      · cases h
      · rename_i hp
        intro I w X Y VX VY b rX rY he
        have hf : P.fieldsOf t = fs := by simp [Program.fieldsOf, hu]
        have e1 : ∀ V : List Value, asVal P t V = .agg V.toArray := fun V => by simp [asVal, hu]
        rw [e1, e1, run_equalIn_struct (P := P) w d t _ _ (by rw [hf]; exact hu) (by simpa using hp), hf]
        exact eqFields_flat (fun t ks hk => ⟨hk, eqFlat_at d t ks hk⟩) fs.toList 0 ks h I w X Y VX VY b rX rY (by simpa using he)
    · cases h

end Pg
