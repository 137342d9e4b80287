import Derived.Test.YtlflapoljegmoaaGreatDoorK4E
namespace Pg
open Go
theorem le_upd_of {h k : AHeap} {b : Nat} (hb : h b = none) (le : h.le k) (o : AObj) : h.le (k.upd b o) := by
 intro c x e
 have hc : c ≠ b := by intro hh; subst hh; rw [hb] at e; cases e
 rw [upd_ne _ _ _ hc]; exact le c x e
theorem none_upd {h : AHeap} {b c : Nat} {o : AObj} (hc : (h.upd b o) c = none) : c ≠ b ∧ h c = none := by
 have hne : c ≠ b := by intro hh; subst hh; rw [upd_same] at hc; cases hc
 exact ⟨hne, by rw [upd_ne _ _ _ hne] at hc; exact hc⟩
theorem splice_same {α : Type} {l m : List α} (h : l.length = m.length) : splice l 0 m = m := by
 unfold splice; rw [← h]; simp
theorem none_le {h g : AHeap} (le : h.le g) {b : Nat} (hb : g b = none) : h b = none := by
 cases hh : h b with
 | none => rfl
 | some o => rw [le b o hh] at hb; cases hb
theorem none_ne {h : AHeap} {b c : Nat} {o : AObj} (hb : h b = none) (hc : h c = some o) : c ≠ b := by
 intro hh; subst hh; rw [hb] at hc; cases hc
abbrev txt (l : List ByteArray) : List (List AV) := l.map fun s => [.str s]
theorem txt_one (l : List ByteArray) : ∀ e ∈ txt l, e.length = 1 := by
 intro e he; obtain ⟨s, _, rfl⟩ := List.mem_map.1 he; rfl
theorem GL.txts {ty : TypeId} {h0 h : AHeap} {v : AV} {l m : List ByteArray} (g : GL ty 1 h0 h v (txt l)) (room : l.length + m.length ≤ 2199023255552) {K : AV → AHeap → Tok → Prop} (k : ∀ v' h', GL ty 1 h0 h' v' (txt (l ++ m)) → K v' h' .go) :
  (∀ e ∈ txt m, e.length = 1) ∧ appendT .go h ty 1 16 v m.length (txt m).flatten K := by
 refine ⟨txt_one m, g.append (new := txt m) (by simp) rfl (txt_one m) ?_ fun v' h' G => k v' h' ?_⟩
 ·unfold roomFor; simp; omega
 ·rw [← List.map_append] at G; exact G
theorem GL.txt1 {ty : TypeId} {h0 h : AHeap} {v : AV} {l : List ByteArray} (g : GL ty 1 h0 h v (txt l)) {s : ByteArray} (room : l.length + 1 ≤ 2199023255552) {K : AV → AHeap → Tok → Prop} (k : ∀ v' h', GL ty 1 h0 h' v' (txt (l ++ [s])) → K v' h' .go) :
  appendT .go h ty 1 16 v 1 [.str s] K := (g.txts (m := [s]) room k).2
end Pg
