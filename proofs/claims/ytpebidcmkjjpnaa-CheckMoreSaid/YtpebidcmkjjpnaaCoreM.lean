/- The core, part M: maps: an entry is found, laid. -/
import Derived.Test.YtpebidcmkjjpnaaCore7
namespace Pg
open Go
set_option linter.unusedSimpArgs false
set_option linter.unusedVariables false

theorem Rds.set {I : Imm} {cs : List AV} {vs : List Value} (r : Rds I cs vs) (j : Nat) {c : AV} {v : Value} (h : Rd I c v) : Rds I (cs.set j c) (vs.set j v) := by
  refine ⟨by simp [r.len], ?_⟩
  intro i c' v' e1 e2
  rw [List.getElem?_set] at e1 e2
  by_cases hij : j = i
  · subst hij
    simp only [if_true] at e1 e2
    split at e1
    · rename_i hl
      rw [r.len] at hl
      rw [if_pos hl] at e2
      cases e1; cases e2; exact h
    · cases e1
  · rw [if_neg hij] at e1 e2; exact r.at_ i c' v' e1 e2

theorem run_getObj_mp {P : Program} {w : World} {r : Nat} {es : Array MapEntry} {clock : Nat} (hb : w.heap[r]? = some (.map es clock)) : (getObj r).run P w = .ok (.map es clock) w := by
  simp [getObj, Sem.run, hb]
theorem run_setObj_mp {P : Program} {w : World} {r : Nat} {es : Array MapEntry} {clock : Nat} (o : Obj) (hb : w.heap[r]? = some (.map es clock)) : (setObj r o).run P w = .ok () { w with heap := w.heap.setIfInBounds r o } := by
  simp [setObj, Sem.run, hb]

/-- The place of an entry. -/
def aidx (ks : List Nat) (k : AV) : List (AV × AV) → Option (Option Nat)
  | [] => some none
  | (x, _) :: r => match keyEq ks k x with
    | some true => some (some 0)
    | some false => (aidx ks k r).map fun i => i.map (· + 1)
    | none => none
theorem afind_idx {ks : List Nat} {k : AV} : ∀ {es : List (AV × AV)} {r : Option AV}, afind ks k es = some r → ∃ i, aidx ks k es = some i ∧ r = i.bind fun j => es[j]?.map (·.2)
  | [], r, h => by simp only [afind, Option.some.injEq] at h; subst h; exact ⟨none, rfl, rfl⟩
  | (x, u) :: es, r, h => by
    simp only [afind] at h
    split at h
    · rename_i hk; simp only [Option.some.injEq] at h; subst h; exact ⟨some 0, by simp [aidx, hk], by simp⟩
    · rename_i hk
      obtain ⟨i, h1, h2⟩ := afind_idx h
      refine ⟨i.map (· + 1), by simp [aidx, hk, h1], ?_⟩
      rw [h2]; cases i <;> simp
    · cases h
theorem aset_idx {ks : List Nat} {k v : AV} : ∀ {es es' : List (AV × AV)}, aset ks k v es = some es' → ∃ i, aidx ks k es = some i ∧ es' = match i with | none => es ++ [(k, v)] | some j => es.set j (k, v)
  | [], es', h => by simp only [aset, Option.some.injEq] at h; subst h; exact ⟨none, rfl, rfl⟩
  | (x, u) :: es, es', h => by
    simp only [aset] at h
    split at h
    · rename_i hk; simp only [Option.some.injEq] at h; subst h; exact ⟨some 0, by simp [aidx, hk], by simp⟩
    · rename_i hk
      simp only [Option.map_eq_some_iff] at h
      obtain ⟨l, hl, rfl⟩ := h
      obtain ⟨i, h1, h2⟩ := aset_idx hl
      refine ⟨i.map (· + 1), by simp [aidx, hk, h1], ?_⟩
      rw [h2]; cases i <;> simp
    · cases h
theorem aidx_at {ks : List Nat} {k : AV} : ∀ {es : List (AV × AV)} {j : Nat}, aidx ks k es = some (some j) → ∃ x, es[j]? = some x ∧ keyEq ks k x.1 = some true
  | [], j, h => by simp [aidx] at h
  | (x, u) :: es, j, h => by
    simp only [aidx] at h
    split at h
    · rename_i hk; simp only [Option.some.injEq] at h; subst h; exact ⟨(x, u), rfl, hk⟩
    · simp only [Option.map_eq_some_iff] at h
      obtain ⟨i, h1, h2⟩ := h
      obtain ⟨j', rfl, rfl⟩ := h2
      obtain ⟨y, h3, h4⟩ := aidx_at h1
      exact ⟨y, by simpa using h3, h4⟩
    · cases h

/-- Key types: the kinds of their cells. -/
def rkey (P : Program) (kt : TypeId) : Option (List Nat) :=
  match P.underlying kt with
  | some .bool => some [0]
  | some (.int _) => some [1]
  | some .string => some [2]
  | some (.struct _) => (flatAt P 10000 kt).map (3 :: ·)
  | _ => none

def scalarD (k : Nat) (d : TypeDesc) : Prop := (k = 0 ∧ d = .bool) ∨ (k = 1 ∧ ∃ j, d = .int j) ∨ (k = 2 ∧ d = .string)
theorem rkey_cases {P : Program} {kt : TypeId} {ks : List Nat} (h : rkey P kt = some ks) : (∃ k d, ks = [k] ∧ P.underlying kt = some d ∧ scalarD k d) ∨ (∃ fs l, ks = 3 :: l ∧ P.underlying kt = some (.struct fs) ∧ flatAt P 10000 kt = some l) := by
  unfold rkey at h
  split at h
  · rename_i hu; simp only [Option.some.injEq] at h; exact .inl ⟨0, _, h.symm, hu, .inl ⟨rfl, rfl⟩⟩
  · rename_i j hu; simp only [Option.some.injEq] at h; exact .inl ⟨1, _, h.symm, hu, .inr (.inl ⟨rfl, _, rfl⟩)⟩
  · rename_i hu; simp only [Option.some.injEq] at h; exact .inl ⟨2, _, h.symm, hu, .inr (.inr ⟨rfl, rfl⟩)⟩
  · rename_i fs hu
    simp only [Option.map_eq_some_iff] at h
    obtain ⟨l, hl, rfl⟩ := h
    exact .inr ⟨fs, l, rfl, hu, hl⟩
  · cases h
theorem keyEq_scalar {k : Nat} {a b : AV} {r : Bool} (hk : k ≠ 3) (h : keyEq [k] a b = some r) : cellEq k a b = some r := by
  unfold keyEq at h
  split at h
  · rename_i heq; cases heq; exact absurd rfl hk
  · rename_i k' he hne; cases he; exact h
  · cases h
theorem scalarD_ne {k : Nat} {d : TypeDesc} (h : scalarD k d) : k ≠ 3 := by
  rcases h with ⟨rfl, _⟩ | ⟨rfl, _⟩ | ⟨rfl, _⟩ <;> decide
theorem keyEq_struct {l : List Nat} {a b : AV} {r : Bool} (h : keyEq (3 :: l) a b = some r) : (∃ x y, a = .agg x ∧ b = .agg y ∧ cellsEq l x y = some r) := by
  unfold keyEq at h
  split at h
  · rename_i heq; cases heq; exact ⟨_, _, rfl, rfl, h⟩
  · rename_i k' he hne
    cases he
    unfold cellEq at h
    split at h <;> simp_all
  · cases h

theorem sameNow_sim {P : Program} {I : Imm} {k : Nat} {d : TypeDesc} {a b : AV} {va vb : Value} {r : Bool} (hd : scalarD k d) (h : cellEq k a b = some r) (ha : Rd I a va) (hb : Rd I b vb) : Instr.sameNow d va vb = some r := by
  rcases cellEq_run (P := P) h ha hb with ⟨rfl, m, n, rfl, rfl, rfl⟩ | ⟨rfl, j, m, n, rfl, rfl, rfl⟩ | ⟨rfl, m, n, rfl, rfl, rfl⟩ <;>
    rcases hd with ⟨hk, hd⟩ | ⟨hk, j', hd⟩ | ⟨hk, hd⟩ <;> first | (cases hk; done) | (subst hd; simp [Instr.sameNow])

theorem findNow_sim {P : Program} {I : Imm} {k : Nat} {d : TypeDesc} (hd : scalarD k d) {a : AV} {va : Value} (ha : Rd I a va) : ∀ {es : List (AV × AV)} {ms : List MapEntry} {i : Option Nat}, Rds I (es.map (·.1)) (ms.map (·.key)) → aidx [k] a es = some i → ∀ s : Nat,
    ∃ res, Instr.findNow d va ms s = some res ∧ (i = none → res = none) ∧ ∀ j, i = some j → ∃ e, ms[j]? = some e ∧ res = some (s + j, e.val)
  | [], ms, i, r, h, s => by
    have := r.of_nil
    simp only [List.map_eq_nil_iff] at this; subst this
    simp only [aidx, Option.some.injEq] at h; subst h
    exact ⟨none, rfl, fun _ => rfl, fun j hj => by cases hj⟩
  | (x, u) :: es, ms, i, r, h, s => by
    obtain ⟨v, vs, hv, r1, r2⟩ := r.uncons
    cases ms with
    | nil => simp at hv
    | cons e ms =>
      simp only [List.map_cons, List.cons.injEq] at hv
      obtain ⟨rfl, rfl⟩ := hv
      simp only [aidx] at h
      split at h
      · rename_i hk
        simp only [Option.some.injEq] at h; subst h
        have := sameNow_sim (P := P) hd (keyEq_scalar (scalarD_ne hd) hk) ha r1
        exact ⟨some (s, e.val), by simp [Instr.findNow, this], (fun hh => by cases hh), fun j hj => by cases hj; exact ⟨e, rfl, by simp⟩⟩
      · rename_i hk
        simp only [Option.map_eq_some_iff] at h
        obtain ⟨i', h1, rfl⟩ := h
        have := sameNow_sim (P := P) hd (keyEq_scalar (scalarD_ne hd) hk) ha r1
        obtain ⟨res, q1, q2, q3⟩ := findNow_sim (P := P) hd ha r2 h1 (s + 1)
        refine ⟨res, by simp [Instr.findNow, this, q1], ?_, ?_⟩
        · intro hh; cases i' with
          | none => exact q2 rfl
          | some j => cases hh
        · intro j hj
          cases i' with
          | none => cases hj
          | some j' =>
            simp only [Option.map_some, Option.some.injEq] at hj; subst hj
            obtain ⟨e', h3, h4⟩ := q3 j' rfl
            exact ⟨e', by simpa using h3, by rw [h4]; congr 2; omega⟩
      · cases h

theorem equal_struct {P : Program} {I : Imm} {kt : TypeId} {fs : Array Field} {l : List Nat} (hu : P.underlying kt = some (.struct fs)) (hf : flatAt P 10000 kt = some l) {x y : List AV} {va vb : Value} {r : Bool} (h : cellsEq l x y = some r) (ha : Rd I (.agg x) va) (hb : Rd I (.agg y) vb) (w : World) : (Op.equal kt va vb).run P w = .ok r w := by
  obtain ⟨vx, rfl, rx, _⟩ := ha.inv_agg
  obtain ⟨vy, rfl, ry, _⟩ := hb.inv_agg
  have := eqFlat_at 10000 kt l hf I w x y vx vy r rx ry h
  simp only [asVal, hu] at this
  exact this

theorem findAsking_sim {P : Program} {I : Imm} {kt : TypeId} {fs : Array Field} {l : List Nat} (hu : P.underlying kt = some (.struct fs)) (hf : flatAt P 10000 kt = some l) (w : World) {a : AV} {va : Value} (ha : Rd I a va) : ∀ {es : List (AV × AV)} {ms : List MapEntry} {i : Option Nat}, Rds I (es.map (·.1)) (ms.map (·.key)) → aidx (3 :: l) a es = some i → ∀ s : Nat,
    ∃ res, (Instr.findAsking kt va ms s).run P w = .ok res w ∧ (i = none → res = none) ∧ ∀ j, i = some j → ∃ e, ms[j]? = some e ∧ res = some (s + j, e.val)
  | [], ms, i, r, h, s => by
    have := r.of_nil
    simp only [List.map_eq_nil_iff] at this; subst this
    simp only [aidx, Option.some.injEq] at h; subst h
    exact ⟨none, by simp [Instr.findAsking], fun _ => rfl, fun j hj => by cases hj⟩
  | (x, u) :: es, ms, i, r, h, s => by
    obtain ⟨v, vs, hv, r1, r2⟩ := r.uncons
    cases ms with
    | nil => simp at hv
    | cons e ms =>
      simp only [List.map_cons, List.cons.injEq] at hv
      obtain ⟨rfl, rfl⟩ := hv
      simp only [aidx] at h
      split at h
      · rename_i hk
        simp only [Option.some.injEq] at h; subst h
        obtain ⟨p, q, rfl, rfl, hc⟩ := keyEq_struct hk
        have := equal_struct hu hf hc ha r1 w
        exact ⟨some (s, e.val), by simp [Instr.findAsking, this], (fun hh => by cases hh), fun j hj => by cases hj; exact ⟨e, rfl, by simp⟩⟩
      · rename_i hk
        simp only [Option.map_eq_some_iff] at h
        obtain ⟨i', h1, rfl⟩ := h
        obtain ⟨p, q, rfl, rfl, hc⟩ := keyEq_struct hk
        have := equal_struct hu hf hc ha r1 w
        obtain ⟨res, q1, q2, q3⟩ := findAsking_sim hu hf w ha r2 h1 (s + 1)
        refine ⟨res, by simp [Instr.findAsking, this, q1], ?_, ?_⟩
        · intro hh; cases i' with
          | none => exact q2 rfl
          | some j => cases hh
        · intro j hj
          cases i' with
          | none => cases hj
          | some j' =>
            simp only [Option.map_some, Option.some.injEq] at hj; subst hj
            obtain ⟨e', h3, h4⟩ := q3 j' rfl
            exact ⟨e', by simpa using h3, by rw [h4]; congr 2; omega⟩
      · cases h

theorem findKey_sim {P : Program} {I : Imm} {kt : TypeId} {ks : List Nat} (hk : rkey P kt = some ks) (w : World) {a : AV} {va : Value} (ha : Rd I a va) {es : List (AV × AV)} {ms : List MapEntry} {i : Option Nat} (r : Rds I (es.map (·.1)) (ms.map (·.key))) (h : aidx ks a es = some i) :
    ∃ res, (Instr.findKey kt va ms).run P w = .ok res w ∧ (i = none → res = none) ∧ ∀ j, i = some j → ∃ e, ms[j]? = some e ∧ res = some (j, e.val) := by
  rcases rkey_cases hk with ⟨k, d, rfl, hu, hd⟩ | ⟨fs, l, rfl, hu, hf⟩
  · obtain ⟨res, q1, q2, q3⟩ := findNow_sim (P := P) hd ha r h 0
    refine ⟨res, by simp [Instr.findKey, run_underlying hu, q1], q2, fun j hj => ?_⟩
    obtain ⟨e, h1, h2⟩ := q3 j hj
    exact ⟨e, h1, by simpa using h2⟩
  · obtain ⟨res, q1, q2, q3⟩ := findAsking_sim hu hf w ha r h 0
    cases ms with
    | nil =>
      refine ⟨none, by simp [Instr.findKey, run_underlying hu, Instr.findNow], fun _ => rfl, fun j hj => ?_⟩
      obtain ⟨e, h1, _⟩ := q3 j hj
      simp at h1
    | cons m ms =>
      refine ⟨res, ?_, q2, fun j hj => ?_⟩
      · have : ∀ x y : Value, Instr.sameNow (.struct fs) x y = none := by intro x y; unfold Instr.sameNow; split <;> simp_all
        simp only [Instr.findKey, Sem.run_bind, run_underlying hu, Result.andThen_ok, Instr.findNow, this]
        exact q1
      · obtain ⟨e, h1, h2⟩ := q3 j hj
        exact ⟨e, h1, by simpa using h2⟩

/-! ### Keys -/
theorem checkFlat {P : Program} (em : Bool) (w : World) : ∀ (d : Nat) (t : TypeId) (l : List Nat), flatAt P d t = some l → ∀ vs : List Value, vs.length = l.length → (Instr.checkKey em d t (asVal P t vs)).run P w = .ok () w
  | 0, t, l, h => by simp [flatAt] at h
  | d + 1, t, l, h => by
    intro vs hl
    have h0 := h
    simp only [flatAt] at h
    split at h
    · rename_i hu; rw [Instr.checkKey]; simp [run_underlying hu]
    · rename_i j hu; rw [Instr.checkKey]; simp [run_underlying hu]
    · rename_i hu; rw [Instr.checkKey]; simp [run_underlying hu]
    · rename_i fs hu
      split at h
      · cases h
      · have e1 : asVal P t vs = .agg vs.toArray := by simp [asVal, hu]
        rw [e1, Instr.checkKey]
        simp only [Sem.run_bind, run_underlying hu, Result.andThen_ok]
        rw [← Array.forIn_toList]
        have hbig : 0 + l.length ≤ vs.length := by omega
        clear h0 e1 hl
        generalize 0 = off at h hbig
        generalize fs.toList = L at h
        induction L generalizing off l with
        | nil => simp
        | cons f L ih =>
          simp only [flatFields] at h
          split at h
          · cases h
          · rename_i hname
            split at h
            · rename_i ks1 i h1 h2
              split at h
              · rename_i hsz
                simp only [Option.map_eq_some_iff] at h
                obtain ⟨ks2, h3, rfl⟩ := h
                have hn : f.name ≠ "_" ∧ f.offset = off := by simpa using hname
                have hs : i.size = ks1.length ∧ ¬ ks1 = [] := by simpa using hsz
                simp only [List.length_append] at hbig
                have p1 := run_part ks1 d h1 h2 hs.1 w vs off (by omega)
                have p2 := checkFlat em w d f.type ks1 h1 ((vs.drop off).take ks1.length) (by simp; omega)
                simp only [List.forIn_cons, Sem.run_bind, hn.1, hn.2, ne_eq, not_false_eq_true, if_true, Result.andThen_ok, p1, p2, Sem.run_pure]
                exact ih ks2 (off + ks1.length) (by omega) h3
              · cases h
            · cases h
    · cases h

theorem checkKey_sim {P : Program} {I : Imm} {kt : TypeId} {ks : List Nat} (hk : rkey P kt = some ks) (em : Bool) (w : World) {a : AV} {va : Value} (ha : Rd I a va) (hf : keyFits ks a = true) : (Instr.checkKey em 10000 kt va).run P w = .ok () w := by
  rcases rkey_cases hk with ⟨k, d, rfl, hu, hd⟩ | ⟨fs, l, rfl, hu, hfl⟩
  · show (Instr.checkKey em (9999 + 1) kt va).run P w = .ok () w
    rw [Instr.checkKey]
    rcases hd with ⟨_, rfl⟩ | ⟨_, j, rfl⟩ | ⟨_, rfl⟩ <;> simp [run_underlying hu]
  · cases a with
    | agg x =>
      simp only [keyFits] at hf
      obtain ⟨vs, rfl, r, _⟩ := ha.inv_agg
      have := checkFlat em w 10000 kt l hfl vs (by rw [← r.len]; simpa using hf)
      simp only [asVal, hu] at this
      exact this
    | _ =>
      cases l with
      | cons _ _ => simp [keyFits] at hf
      | nil => simp [keyFits] at hf

theorem cellEq_same {P : Program} {I : Imm} {k : Nat} {a b : AV} {va vb : Value} (h : cellEq k a b = some true) (ha : Rd I a va) (hb : Rd I b vb) : va = vb ∧ ∀ n, Instr.sameBits n va vb = true := by
  rcases cellEq_run (P := P) h ha hb with ⟨rfl, m, n, rfl, rfl, hh⟩ | ⟨rfl, j, m, n, rfl, rfl, hh⟩ | ⟨rfl, m, n, rfl, rfl, hh⟩ <;>
    (first
      | (have := of_decide_eq_true ((beq_bytes m n).symm.trans hh.symm); subst this; exact ⟨rfl, fun n => by cases n <;> simp only [Instr.sameBits] <;> exact hh.symm⟩)
      | (have := (beq_iff_eq.1 hh.symm); subst this; exact ⟨rfl, fun n => by cases n <;> simp [Instr.sameBits]⟩))
theorem cellsEq_same {P : Program} {I : Imm} : ∀ {l : List Nat} {X Y : List AV} {VX VY : List Value}, cellsEq l X Y = some true → Rds I X VX → Rds I Y VY → VX = VY ∧ ∀ n, ((VX.zip VY).all fun p => Instr.sameBits n p.1 p.2) = true
  | [], [], [], VX, VY, _, rx, ry => by have := rx.of_nil; have := ry.of_nil; subst_vars; simp
  | [], [], _ :: _, _, _, h, _, _ => by simp [cellsEq] at h
  | [], _ :: _, _, _, _, h, _, _ => by simp [cellsEq] at h
  | _ :: _, [], _, _, _, h, _, _ => by simp [cellsEq] at h
  | _ :: _, _ :: _, [], _, _, h, _, _ => by simp [cellsEq] at h
  | k :: l, x :: X, y :: Y, VX, VY, h, rx, ry => by
    obtain ⟨vx, VX', rfl, hx, rx'⟩ := rx.uncons
    obtain ⟨vy, VY', rfl, hy, ry'⟩ := ry.uncons
    simp only [cellsEq] at h
    split at h
    · rename_i p q h1 h2
      simp only [Option.some.injEq, Bool.and_eq_true] at h
      obtain ⟨rfl, rfl⟩ := h
      obtain ⟨rfl, h3⟩ := cellEq_same (P := P) h1 hx hy
      obtain ⟨rfl, h4⟩ := cellsEq_same (P := P) h2 rx' ry'
      exact ⟨rfl, fun n => by simp only [List.zip_cons_cons, List.all_cons, h3 n, h4 n, Bool.and_self]⟩
    · cases h
theorem keyEq_same {P : Program} {I : Imm} {kt : TypeId} {ks : List Nat} (hk : rkey P kt = some ks) {a b : AV} {va vb : Value} (h : keyEq ks a b = some true) (ha : Rd I a va) (hb : Rd I b vb) : va = vb ∧ Instr.sameBits 10000 vb va = true := by
  rcases rkey_cases hk with ⟨k, d, rfl, hu, hd⟩ | ⟨fs, l, rfl, hu, hfl⟩
  · obtain ⟨rfl, h2⟩ := cellEq_same (P := P) (keyEq_scalar (scalarD_ne hd) h) ha hb
    exact ⟨rfl, h2 _⟩
  · obtain ⟨x, y, rfl, rfl, hc⟩ := keyEq_struct h
    obtain ⟨vx, rfl, rx, _⟩ := ha.inv_agg
    obtain ⟨vy, rfl, ry, _⟩ := hb.inv_agg
    obtain ⟨rfl, h2⟩ := cellsEq_same (P := P) hc rx ry
    refine ⟨rfl, ?_⟩
    show Instr.sameBits (9999 + 1) _ _ = true
    rw [Instr.sameBits]
    simp [h2]

/-! ### The operations -/
def rlookup (P : Program) (t : TypeId) (ok : Bool) (m k : ROpd) : Option RRead :=
  match P.underlying t with
  | some (.map kt et) => match rkey P kt, P.info? et with
    | some ks, some ie => match ie.zero with
      | some (.agg zs) => (ofVs zs.toList).map fun l => .lookup ks (.agg l) ok m k
      | some z => (ofV z).map fun z => .lookup ks z ok m k
      | none => none
    | _, _ => none
  | _ => none

theorem amapOf_run {P : Program} {w : World} {I : Imm} {h : AHeap} (t : Sat w I h) {m : AV} {vm : Value} (r : Rd I m vm) {es : List (AV × AV)} (k : amapOf h m = some es) :
    ∃ ms : Array MapEntry, (vm = .map none ∧ ms = #[] ∨ ∃ b clock, vm = .map (some b) ∧ w.heap[b]? = some (.map ms clock)) ∧ Rds I (es.map (·.1)) (ms.toList.map (·.key)) ∧ Rds I (es.map (·.2)) (ms.toList.map (·.val)) := by
  unfold amapOf at k
  split at k
  · have := r.inv_map; subst this
    simp only [Option.some.injEq] at k; subst k
    exact ⟨#[], .inl ⟨rfl, rfl⟩, by simpa using Rds.nil I, by simpa using Rds.nil I⟩
  · rename_i b
    have := r.inv_map; subst this
    cases hb : h b with
    | none => simp [hb] at k
    | some ob =>
      cases ob with
      | blk _ _ _ => simp [hb] at k
      | tail _ _ _ => simp [hb] at k
      | mp es' =>
        simp only [hb, Option.some.injEq] at k; subst k
        obtain ⟨ms, c, g1, g2, g3, g4⟩ := t.obj _ _ hb
        exact ⟨ms, .inr ⟨b, c, rfl, g1⟩, g2, g3⟩
  · cases k

theorem sim_lookup {P : Program} {o : Oper} {t : TypeId} {ok : Bool} {x y : Operand} {rx ry : ROpd} {r : RRead} (ho : o.op = .lookup t x y ok) (hx : ropd x = some rx) (hy : ropd y = some ry) (hr : rlookup P t ok rx ry = some r) : SimRd P o r := by
  have key : ∀ (kt et : TypeId) (ks : List Nat) (ie : TypeInfo) (z : Value) (za : AV), P.underlying t = some (.map kt et) → rkey P kt = some ks → P.info? et = some ie → ie.zero = some z → (∀ I, Rd I za z) → r = .lookup ks za ok rx ry → SimRd P o r := by
    intro kt et ks ie z za hu hk hie hz hza hr
    subst hr
    refine .pure fun I w h a va av s t' k => ?_
    have h1 := ropd_rd s hx
    have h2 := ropd_rd s hy
    simp only [aread] at k
    unfold alookup at k
    split at k
    · rename_i hfit
      split at k
      · rename_i es hes
        simp only [Option.map_eq_some_iff] at k
        obtain ⟨f, hf, rfl⟩ := k
        obtain ⟨ms, hm, r1, r2⟩ := amapOf_run (P := P) t' h1 hes
        obtain ⟨i, hi, hfi⟩ := afind_idx hf
        have hck := fun em => checkKey_sim hk em w h2 hfit
        obtain ⟨res, q1, q2, q3⟩ := findKey_sim hk w h2 r1 hi
        have hzv : (zeroValue et).run P w = .ok z w := by simp [zeroValue, typeInfo, hie, hz]
        have hrun : ∃ u, Rd I (match f with | some v => v | none => za) u ∧ (Instr.lookup t (a.eval x) (a.eval y) ok).run P w = .ok (if ok then .tuple #[u, .bool f.isSome] else u) w := by
          cases i with
          | none =>
            have := q2 rfl; subst this
            simp only [Option.bind_none] at hfi; subst hfi
            refine ⟨z, hza I, ?_⟩
            rcases hm with ⟨e1, rfl⟩ | ⟨b, c, e1, e2⟩
            · simp only [Instr.lookup, Sem.run_bind, run_underlying hu, Result.andThen_ok, e1, Sem.run_pure, hck, q1, hzv]
              cases ok <;> rfl
            · simp only [Instr.lookup, Sem.run_bind, run_underlying hu, Result.andThen_ok, e1, run_getObj_mp e2, Sem.run_pure, hck, q1, hzv]
              cases ok <;> rfl
          | some j =>
            obtain ⟨e, e1, rfl⟩ := q3 j rfl
            obtain ⟨x', e2, e3⟩ := aidx_at hi
            simp only [Option.bind_some, e2, Option.map_some] at hfi; subst hfi
            refine ⟨e.val, r2.at_ j _ _ (by simp [e2]) (by simp at e1 ⊢; simp [e1]), ?_⟩
            rcases hm with ⟨e1', rfl⟩ | ⟨b, c, e1', e2'⟩
            · simp at e1
            · simp only [Instr.lookup, Sem.run_bind, run_underlying hu, Result.andThen_ok, e1', run_getObj_mp e2', Sem.run_pure, hck, q1]
              cases ok <;> rfl
        obtain ⟨u, hu1, hu2⟩ := hrun
        refine ⟨_, by simp only [execOp, ho, Sem.run_bind, hu2, Result.andThen_ok, Sem.run_pure]; rfl, ?_⟩
        cases ok with
        | false => cases f <;> simpa using hu1
        | true =>
          cases f with
          | none => exact .of_tuple (.cons (by simpa using hu1) (.cons (.bool _) (.nil I)))
          | some v => exact .of_tuple (.cons (by simpa using hu1) (.cons (.bool _) (.nil I)))
      · cases k
    · cases k
  unfold rlookup at hr
  split at hr
  · rename_i kt et hu
    split at hr
    · rename_i ks ie hk hie
      split at hr
      · rename_i zs hz
        simp only [Option.map_eq_some_iff] at hr
        obtain ⟨l, hl, rfl⟩ := hr
        exact key kt et ks ie _ (.agg l) hu hk hie hz (fun I => by have := Rd.of_agg (ofVs_rds I hl) (ofVs_ones hl); simpa using this) rfl
      · rename_i z hz0 hz
        simp only [Option.map_eq_some_iff] at hr
        obtain ⟨l, hl, rfl⟩ := hr
        exact key kt et ks ie _ l hu hk hie hz (fun I => ofV_rd I hl) rfl
      · cases hr
    · cases hr
  · cases hr

theorem setObj_sat {w : World} {I : Imm} {h : AHeap} (s : Sat w I h) {b : Nat} {es : List (AV × AV)} (hb : h b = some (.mp es)) {ms : Array MapEntry} {c : Nat} (hw : w.heap[b]? = some (.map ms c)) {ms' : Array MapEntry} {c' : Nat} {es' : List (AV × AV)}
    (r1 : Rds I (es'.map (·.1)) (ms'.toList.map (·.key))) (r2 : Rds I (es'.map (·.2)) (ms'.toList.map (·.val))) (hn : (ms'.toList.map (·.born)).Nodup) (hc : ∀ e ∈ ms'.toList, e.born < c') :
    let w' : World := { w with heap := w.heap.setIfInBounds b (.map ms' c') }
    Sat w' I (h.upd b (.mp es')) ∧ Ext h w w' ∧ New w I I h (h.upd b (.mp es')) := by
  intro w'
  have hlt : b < w.heap.size := s.lt hb
  have hget : w'.heap[b]? = some (.map ms' c') := by
    show (w.heap.setIfInBounds b _)[b]? = _
    rw [Array.getElem?_setIfInBounds]; simp [hlt]
  have hoth : ∀ k, k ≠ b → w'.heap[k]? = w.heap[k]? := by
    intro k hk
    show (w.heap.setIfInBounds b _)[k]? = _
    rw [Array.getElem?_setIfInBounds, if_neg (Ne.symm hk)]
  refine ⟨⟨?_, ?_, ?_⟩, ⟨rfl, rfl, rfl, by simp [w'], ?_⟩, ⟨Imm.le_refl I, ?_, fun b o v hb => .inl hb⟩⟩
  · intro k o hk
    by_cases hkb : k = b
    · subst hkb; rw [upd_same] at hk; cases hk; exact ⟨ms', c', hget, r1, r2, hn, hc⟩
    · rw [upd_ne _ _ _ hkb] at hk; exact (s.obj k o hk).mono (Imm.le_refl I) (hoth k hkb)
  · intro k o v hk
    have hkb : k ≠ b := by intro hh; subst hh; have := s.dis k o v hk; rw [hb] at this; exact this
    have := s.imm k o v hk
    simp only [World.cell?] at this ⊢
    rw [hoth k hkb]; exact this
  · intro k o v hk
    have hkb : k ≠ b := by intro hh; subst hh; have := s.dis k o v hk; rw [hb] at this; exact this
    rw [upd_ne _ _ _ hkb]; exact s.dis k o v hk
  · intro k hk hn'
    exact hoth k (by intro hh; subst hh; rw [hb] at hn'; cases hn')
  · intro k o hk
    by_cases hkb : k = b
    · subst hkb; exact .inl (by rw [hb]; simp)
    · rw [upd_ne _ _ _ hkb] at hk; exact .inl (by rw [hk]; simp)

def rmapup (P : Program) (t : TypeId) (m k v : ROpd) : Option REff :=
  match P.underlying t with
  | some (.map kt _) => (rkey P kt).map fun ks => .mapup ks m k v
  | _ => none

theorem simEff_mapup {P : Program} {o : Oper} {t : TypeId} {m k v : Operand} {rm rk rv : ROpd} {r : REff} (ho : o.op = .mapUpdate t m k v ∨ o.op = .insert t m k v) (hm : ropd m = some rm) (hk : ropd k = some rk) (hv : ropd v = some rv) (hr : rmapup P t rm rk rv = some r) : SimEff P o r := by
  unfold rmapup at hr
  split at hr
  · rename_i kt et hu
    simp only [Option.map_eq_some_iff] at hr
    obtain ⟨ks, hks, rfl⟩ := hr
    intro I w h a va K s t' kk next Q H
    have h1 := ropd_rd s hm
    have h2 := ropd_rd s hk
    have h3 := ropd_rd s hv
    simp only [aeff] at kk
    split at kk
    · rename_i b hb
      rw [hb] at h1
      have hvm := h1.inv_map
      split at kk
      · rename_i es hes
        split at kk
        · rename_i es' hset
          obtain ⟨hfit, kk⟩ := kk
          obtain ⟨i, hi, hes'⟩ := aset_idx hset
          obtain ⟨ms, c, g1, g2, g3, g4, g5⟩ := t'.obj _ _ hes
          have hck := checkKey_sim hks false w h2 hfit
          obtain ⟨res, q1, q2, q3⟩ := findKey_sim hks w h2 g2 hi
          have hfin : ∀ (ms' : Array MapEntry) (c' : Nat), Rds I (es'.map (·.1)) (ms'.toList.map (·.key)) → Rds I (es'.map (·.2)) (ms'.toList.map (·.val)) → (ms'.toList.map (·.born)).Nodup → (∀ e ∈ ms'.toList, e.born < c') →
              (Instr.mapUpdate t (a.eval m) (a.eval k) (a.eval v)).run P w = .ok () { w with heap := w.heap.setIfInBounds b (.map ms' c') } → o.wp P a w next Q := by
            intro ms' c' r1 r2 hn hc hrun
            obtain ⟨k1, k2, k3⟩ := setObj_sat t' hes g1 r1 r2 hn hc
            have hexec : (execOp a.eval o).run P w = .ok .skip { w with heap := w.heap.setIfInBounds b (.map ms' c') } := by
              rcases ho with ho | ho <;> simp only [execOp, ho, Sem.run_bind, hrun, Result.andThen_ok, Sem.run_pure]
            unfold Oper.wp
            rw [hexec, Oper.upon_skip]
            exact H undef I _ _ _ kk (.any _) k1 k2 k3
          cases i with
          | none =>
            have := q2 rfl; subst this
            simp only at hes'; subst hes'
            refine hfin (ms.push { key := a.eval k, val := a.eval v, born := c }) (c + 1) ?_ ?_ ?_ ?_ ?_
            · simpa using g2.append (.cons h2 (.nil I))
            · simpa using g3.append (.cons h3 (.nil I))
            · simp only [Array.toList_push, List.map_append, List.map_cons, List.map_nil]
              rw [List.nodup_append]
              refine ⟨g4, by simp, ?_⟩
              intro x hx y hy
              simp only [List.mem_singleton] at hy; subst hy
              obtain ⟨e, he, rfl⟩ := List.mem_map.1 hx
              have := g5 e he
              omega
            · intro e he
              simp only [Array.toList_push, List.mem_append, List.mem_singleton] at he
              rcases he with he | rfl
              · have := g5 e he; omega
              · simp
            · simp only [Instr.mapUpdate, Sem.run_bind, run_underlying hu, Result.andThen_ok, hvm, run_getObj_mp g1, hck, q1, run_setObj_mp _ g1]
          | some j =>
            obtain ⟨e, e1, rfl⟩ := q3 j rfl
            obtain ⟨x', e2, e3⟩ := aidx_at hi
            simp only at hes'; subst hes'
            have hkey : Rd I x'.1 e.key := g2.at_ j _ _ (by simp [e2]) (by simp at e1 ⊢; simp [e1])
            obtain ⟨e4, e5⟩ := keyEq_same hks e3 h2 hkey
            have hstays : (Instr.keyThatStays (((ms[j]?).map (·.key)).getD (a.eval k)) (a.eval k)).run P w = .ok (a.eval k) w := by
              have : ms[j]? = some e := by simpa using e1
              rw [this]
              simp only [Option.map_some, Option.getD_some, Instr.keyThatStays, e5, if_true, Sem.run_pure]
            have hl : (ms.modify j fun e => { e with key := a.eval k, val := a.eval v }).toList = ms.toList.set j { key := a.eval k, val := a.eval v, born := e.born } := by
              apply List.ext_getElem?
              intro n
              rw [Array.getElem?_toList, Array.getElem?_modify, List.getElem?_set]
              by_cases hjn : j = n
              · subst hjn
                have hj : ms[j]? = some e := by simpa using e1
                have hlt : j < ms.toList.length := by
                  rcases Nat.lt_or_ge j ms.toList.length with h' | h'
                  · exact h'
                  · rw [List.getElem?_eq_none h'] at e1; cases e1
                simp only [if_true, hj, Option.map_some, hlt]
              · simp [hjn]
            have hbl : (ms.toList.set j { key := a.eval k, val := a.eval v, born := e.born }).map (·.born) = ms.toList.map (·.born) := by
              rw [List.map_set]
              apply List.ext_getElem?
              intro n
              rw [List.getElem?_set]
              split
              · rename_i hjn; subst hjn
                split
                · simp at e1; simp [e1]
                · rename_i hlt; rw [List.getElem?_eq_none (by omega)]
              · rfl
            refine hfin (ms.modify j fun e => { e with key := a.eval k, val := a.eval v }) c ?_ ?_ ?_ ?_ ?_
            · rw [hl, List.map_set, List.map_set]; exact g2.set j h2
            · rw [hl, List.map_set, List.map_set]; exact g3.set j h3
            · rw [hl, hbl]; exact g4
            · intro e' he'
              rw [hl] at he'
              rcases List.mem_or_eq_of_mem_set he' with he' | rfl
              · exact g5 e' he'
              · exact g5 e (List.mem_of_getElem? e1)
            · simp only [Instr.mapUpdate, Sem.run_bind, run_underlying hu, Result.andThen_ok, hvm, run_getObj_mp g1, hck, q1, hstays, run_setObj_mp _ g1]
        · exact kk.elim
      · exact kk.elim
    · exact kk.elim
  · cases hr

end Pg
