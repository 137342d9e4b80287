import Derived.Test.YtdfbkddelhbgmaaGreatDoorK4S3
namespace Pg
open Go
theorem GL.zV {ty : TypeId} {size : Nat} {h0 k h : AHeap} {v : AV} {rows : List (List AV)} (g : GL ty size k h v rows) (le : h0.le k) : ∃ h', GL ty size h0 h' v rows ∧ h'.le h := by
 obtain ⟨g1, g2⟩ := g
 rcases g2 with ⟨rfl, rfl⟩ | ⟨b, cap, hb, hc, rfl, rfl⟩
 ·exact ⟨h0, ⟨g1, .inl ⟨rfl, rfl⟩⟩, le⟩
 ·have hn : h0 b = none := by
   cases hh : h0 b with
   | none => rfl
   | some x => rw [le b x hh] at hb; cases hb
  refine ⟨_, ⟨g1, .inr ⟨b, cap, hn, hc, rfl, rfl⟩⟩, ?_⟩
  intro c o e
  by_cases hcb : c = b
  ·subst hcb; rw [aA] at e ⊢; exact e
  ·rw [aC _ _ _ hcb] at e ⊢; exact le c o e
theorem yM {h k : AHeap} {b : Nat} (hb : h b = none) (le : h.le k) (o : AObj) : h.le (k.upd b o) := by
 intro c x e
 have hc : c ≠ b := by intro hh; subst hh; rw [hb] at e; cases e
 rw [aC _ _ _ hc]; exact le c x e
theorem P8 {h : AHeap} {b c : Nat} {o : AObj} (hc : (h.upd b o) c = none) : c ≠ b ∧ h c = none := by
 have hne : c ≠ b := by intro hh; subst hh; rw [aA] at hc; cases hc
 exact ⟨hne, by rw [aC _ _ _ hne] at hc; exact hc⟩
theorem oU {α : Type} {l m : List α} (h : l.length = m.length) : bM l 0 m = m := by
 unfold bM; rw [← h]; simp
theorem none_le {h g : AHeap} (le : h.le g) {b : Nat} (hb : g b = none) : h b = none := by
 cases hh : h b with
 | none => rfl
 | some o => rw [le b o hh] at hb; cases hb
theorem FF {h : AHeap} {b c : Nat} {o : AObj} (hb : h b = none) (hc : h c = some o) : c ≠ b := by
 intro hh; subst hh; rw [hb] at hc; cases hc
theorem aEq {h : AHeap} {b c : Nat} {o x : AObj} (hb : h b = none) (hc : h c = some o) (y z : AObj) : (h.upd c x).le (((h.upd b y).upd c x).upd b z) :=
 yM (by rw [aC _ _ _ (FF hb hc).symm]; exact hb) (oH (AHeap.b8 hb) c x) z
abbrev txt (l : List ByteArray) : List (List AV) := l.map fun s => [.str s]
theorem VO (l : List ByteArray) : ∀ e ∈ txt l, e.length = 1 := by
 intro e he; obtain ⟨s, _, rfl⟩ := List.mem_map.1 he; rfl
theorem GL.nD {ty : TypeId} {h0 h : AHeap} {v : AV} {l m : List ByteArray} (g : GL ty 1 h0 h v (txt l)) (room : l.length + m.length ≤ 2199023255552) {K : AV → AHeap → Tok → Prop} (k : ∀ v' h', GL ty 1 h0 h' v' (txt (l ++ m)) → K v' h' .go) :
  (∀ e ∈ txt m, e.length = 1) ∧ jZ .go h ty 1 16 v m.length (txt m).flatten K := by
 refine ⟨VO m, g.append (new := txt m) (by simp) rfl (VO m) ?_ fun v' h' G => k v' h' ?_⟩
 ·unfold roomFor; simp; omega
 ·rw [← List.map_append] at G; exact G
theorem GL.aB0 {ty : TypeId} {h0 h : AHeap} {v : AV} {l : List ByteArray} (g : GL ty 1 h0 h v (txt l)) {s : ByteArray} (room : l.length + 1 ≤ 2199023255552) {K : AV → AHeap → Tok → Prop} (k : ∀ v' h', GL ty 1 h0 h' v' (txt (l ++ [s])) → K v' h' .go) :
  jZ .go h ty 1 16 v 1 [.str s] K := (g.nD (m := [s]) room k).2
end Pg
