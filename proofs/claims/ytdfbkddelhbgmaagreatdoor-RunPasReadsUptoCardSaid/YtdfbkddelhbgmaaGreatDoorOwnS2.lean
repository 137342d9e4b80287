import Derived.Test.YtdfbkddelhbgmaaGreatDoorK4S2
namespace Pg
open Go
set_option linter.all false
theorem EndW.own [GI] {K : AV → AHeap → Prop} {b n cap total size : Nat} {ty : TypeId} {es : List (List AV)} {cs : List AV} {h : AHeap} (hn : n = es.length) (hb : h b = some (.blk cs total ty)) (hcs : es.flatten = cs.take (es.length * size)) (hs : ∀ e ∈ es, e.length = size) (hc : es.length ≤ cap) (k : K (.sl es false) (h.del b)) : EndW K (.os b n cap) h := by
 subst hn
 refine ⟨_, _, ?_, k⟩
 intro I w us r s
 obtain ⟨J, n, s', hv⟩ := freeze_sat s hb hcs hs
 obtain ⟨u, us', rfl, r1, r2⟩ := r.uncons
 have := r2.of_nil; subst this
 have := r1.inv_os; subst this
 exact ⟨J, n, .cons (hv cap hc) (.nil J), s'⟩
theorem WeakE.own [GI] {e : Env} {b n cap total size : Nat} {ty : TypeId} {es : List (List AV)} {cs : List AV} {h : AHeap} (s : Nat) (hv : e.get s = .os b n cap) (hb : h b = some (.blk cs total ty)) (hcs : es.flatten = cs.take (es.length * size)) (hs : ∀ e ∈ es, e.length = size) (hn : n = es.length) (hc : es.length ≤ cap) : WeakE e h [(s, .sl es false)] (h.del b) := by
 subst hn
 intro I w N tmps es sat
 obtain ⟨J, n, s', hr⟩ := freeze_sat sat hb hcs hs
 have h1 := es.at_ s
 rw [hv] at h1
 have h2 := h1.inv_os
 refine ⟨J, n, ⟨es.size, fun t => ?_⟩, s'⟩
 simp only [Env.get]
 split
 ·rename_i ht
  subst ht
  rw [h2]; exact hr cap hc
 ·exact .any _
theorem EndW.heap [GI] {K : AV → AHeap → Prop} {v : AV} {g g' : AHeap} (le : HeapLe g g') (k : EndW K v g') : EndW K v g := by
 obtain ⟨v', g'', wk, k⟩ := k
 exact ⟨v', g'', WeakV.trans (fun I w us r s => ⟨I, le.new w I, r, le.sat s⟩) wk, k⟩
end Pg
