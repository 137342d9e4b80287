import Derived.Test.YtlflapoljegmoaaGreatDoorCapLawC
import Derived.Test.YtlflapoljegmoaaGreatDoorR12LawC
set_option linter.unusedSimpArgs false
set_option linter.unusedVariables false
set_option maxHeartbeats 4000000
set_option maxRecDepth 4000
namespace Pg
open Go
theorem upL_mem {f : Nat → Nat → Bool} {i : Nat} {x : Param} : ∀ {l : List Param} {k : Nat}, x ∈ upL f i k l → ∃ j, l[j]? = some x ∧ f i (k + j) = true
 | [], k, h => by simp [upL] at h
 | p :: r, k, h => by
  simp only [upL, List.mem_append] at h
  rcases h with h | h
  ·split at h
   ·simp only [List.mem_cons, List.not_mem_nil, or_false] at h
    subst h
    exact ⟨0, rfl, by simpa⟩
   ·simp at h
  ·obtain ⟨j, h1, h2⟩ := upL_mem h
   exact ⟨j + 1, by simpa using h1, by rw [← h2]; congr 1; omega⟩
theorem upN_mem {f : Nat → Nat → Bool} {x : Param} : ∀ {ns : List CN} {i : Nat}, x ∈ upN f i ns → ∃ j n k, ns[j]? = some n ∧ (locs n.r)[k]? = some x ∧ f (i + j) k = true
 | [], i, h => by simp [upN] at h
 | n :: ns, i, h => by
  simp only [upN, List.mem_append] at h
  rcases h with h | h
  ·obtain ⟨k, h1, h2⟩ := upL_mem h
   exact ⟨0, n, k, rfl, h1, by simpa using h2⟩
  ·obtain ⟨j, m, k, h1, h2, h3⟩ := upN_mem h
   exact ⟨j + 1, m, k, by simpa using h1, h2, by rw [← h3]; congr 1; omega⟩
end Pg
namespace Pg
open Go
theorem bytes_append (a b : ByteArray) : bytes (a ++ b) = bytes a ++ bytes b := by
 simp [bytes, ByteArray.data_append]
end Pg
namespace Pg
open Go
def Seen (fs : List Scope) (name : ByteArray) : Prop := ∃ r, findIn fs name = some (.routine r)
structure Held2 (fs : List Scope) (V : ByteArray → Prop) (L : List ByteArray) : Prop where
 ne : fs ≠ []
 nodup : L.Nodup
 there : ∀ m ∈ L, findIn fs m ≠ none
 seen : ∀ m, Seen fs m → V m
theorem ckLay_zero {fs : List Scope} {s : CS} {name : ByteArray} {x : Thing} (h : (ckLay fs s name x).2.bad = 0) : findIn fs name = none ∧ s.bad = 0 ∧ (ckLay fs s name x).1 = setTop name x fs := by
 unfold ckLay at h ⊢
 cases hf : findIn fs name with
 | some y => rw [hf] at h; exact absurd h (fail_yes _ (by decide))
 | none => rw [hf] at h; exact ⟨rfl, h, rfl⟩
theorem Held2.lay {fs : List Scope} {V : ByteArray → Prop} {L : List ByteArray} (o : Held2 fs V L) {s : CS} {name : ByteArray} {t : Typ} (h : (ckLay fs s name (.var t)).2.bad = 0) : Held2 (ckLay fs s name (.var t)).1 V (L ++ [name]) := by
 obtain ⟨h1, h2, h3⟩ := ckLay_zero h
 rw [h3]
 have hn : name ∉ L := fun hh => o.there name hh h1
 refine ⟨?_, ?_, fun m hm => ?_, fun m ⟨r, hr⟩ => ?_⟩
 ·have := o.ne
  cases fs with
  | nil => exact absurd rfl this
  | cons f fs => simp [setTop]
 ·refine List.nodup_append.2 ⟨o.nodup, by simp, ?_⟩
  intro a ha b hb hab
  simp only [List.mem_cons, List.not_mem_nil, or_false] at hb
  subst hb hab
  exact hn ha
 ·rw [findIn_setTop name _ o.ne]
  by_cases hmn : m = name
  ·rw [if_pos hmn]; simp
  ·rw [if_neg hmn]
   rcases List.mem_append.1 hm with hm | hm
   ·exact o.there m hm
   ·simp at hm; exact absurd hm hmn
 ·rw [findIn_setTop name _ o.ne] at hr
  split at hr
  ·simp at hr
  ·exact o.seen m ⟨r, hr⟩
theorem Held2.params {V : ByteArray → Prop} : ∀ (l : List Param) {fs : List Scope} {L : List ByteArray} {s : CS}, Held2 fs V L → (ckParams fs s l).2.bad = 0 → Held2 (ckParams fs s l).1 V (L ++ l.map (·.name)) ∧ s.bad = 0
 | [], fs, L, s, o, h => ⟨by simpa [ckParams] using o, h⟩
 | v :: l, fs, L, s, o, h => by
  simp only [ckParams] at h ⊢
  have h1 : (ckLay fs s v.name (.var v.t)).2.bad = 0 := by
   refine Decidable.byContradiction fun hb => ?_
   rw [ckTyp_bad _ hb, ckParams_bad hb] at h
   exact hb h
  have o1 := o.lay h1
  obtain ⟨o2, _⟩ := Held2.params l o1 h
  refine ⟨by simpa [List.append_assoc] using o2, (ckLay_zero h1).2.1⟩
theorem Held2.vars {V : ByteArray → Prop} (behind : List Routine) : ∀ (l : List Var) {fs : List Scope} {L : List ByteArray} {s : CS}, Held2 fs V L → (ckVars fs s l behind).2.bad = 0 → Held2 (ckVars fs s l behind).1 V (L ++ l.map (·.name)) ∧ s.bad = 0
 | [], fs, L, s, o, h => ⟨by simpa [ckVars] using o, h⟩
 | v :: l, fs, L, s, o, h => by
  have hs : s.bad = 0 := Decidable.byContradiction fun hb => by rw [ckVars_bad hb] at h; exact hb h
  simp only [ckVars, hs, if_true] at h ⊢
  generalize (if (behind.any fun x => decide (x.name = v.name)) = true then s.step.fail 12 else s.step) = s1 at h ⊢
  have h1 : (ckLay fs s1 v.name (.var v.t)).2.bad = 0 := by
   refine Decidable.byContradiction fun hb => ?_
   rw [ckTyp_bad _ hb, ckVars_bad hb] at h
   exact hb h
  have o1 := o.lay h1
  obtain ⟨o2, _⟩ := Held2.vars behind l o1 h
  exact ⟨by simpa [List.append_assoc] using o2, trivial⟩
theorem Held2.recs {V : ByteArray → Prop} : ∀ (l : List Rec) {fs : List Scope} {s : CS}, fs ≠ [] → (∀ m, ¬ Seen fs m) → (ckRecs fs s l).2.bad = 0 → (ckRecs fs s l).1 ≠ [] ∧ (∀ m, ¬ Seen (ckRecs fs s l).1 m) ∧ s.bad = 0
 | [], fs, s, hne, o, h => ⟨by simpa [ckRecs] using hne, by simpa [ckRecs] using o, h⟩
 | r :: l, fs, s, hne, o, h => by
  have hs : s.bad = 0 := Decidable.byContradiction fun hb => by simp [ckRecs, hb] at h
  simp only [ckRecs, hs, if_true] at h ⊢
  have recs_bad : ∀ (l : List Rec) (fs : List Scope) (s : CS), s.bad ≠ 0 → (ckRecs fs s l).2 = s := fun l fs s hb => by
   cases l <;> simp [ckRecs, hb]
  have h1 : (ckLay fs s.step r.name (.rcd r)).2.bad = 0 := by
   refine Decidable.byContradiction fun hb => ?_
   rw [recs_bad _ _ _ (by split; exact fail_yes _ (by decide); exact hb)] at h
   split at h
   ·exact fail_yes _ (by decide) h
   ·exact hb h
  obtain ⟨h2, h3, h4⟩ := ckLay_zero h1
  refine ⟨?_, ?_, trivial⟩
  ·refine (Held2.recs (V := V) l ?_ ?_ h).1
   ·rw [h4]; cases fs with
    | nil => exact absurd rfl hne
    | cons f fs => simp [setTop]
   ·intro m ⟨x, hx⟩
    rw [h4, findIn_setTop _ _ hne] at hx
    split at hx
    ·simp at hx
    ·exact o m ⟨x, hx⟩
  ·refine (Held2.recs (V := V) l ?_ ?_ h).2.1
   ·rw [h4]; cases fs with
    | nil => exact absurd rfl hne
    | cons f fs => simp [setTop]
   ·intro m ⟨x, hx⟩
    rw [h4, findIn_setTop _ _ hne] at hx
    split at hx
    ·simp at hx
    ·exact o m ⟨x, hx⟩
theorem Held2.deeper {fs : List Scope} {V : ByteArray → Prop} {L : List ByteArray} (o : Held2 fs V L) : Held2 ([] :: fs) V L :=
 ⟨by simp, o.nodup, fun m hm => by simpa [findIn, look] using o.there m hm, fun m ⟨r, hr⟩ => o.seen m ⟨r, by simpa [findIn, look] using hr⟩⟩
end Pg
namespace Pg
open Go
def calleeAt (ns : List CN) (name : ByteArray) : Nat → Int → Int
 | 0, _ => -1
 | f + 1, a => match ns.findIdx? (fun n => decide (n.around = a) && decide (n.r.name = name)) with
  | some i => i
  | none => if a < 0 then -1 else match ns[a.toNat]? with
   | some n => calleeAt ns name f n.around
   | none => -1
end Pg
