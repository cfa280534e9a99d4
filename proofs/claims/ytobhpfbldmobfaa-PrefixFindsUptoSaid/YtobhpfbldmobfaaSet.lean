/-
  A store into a slice of one's own: one cell of one element is turned. Conditions: the element is there.
-/
import Derived.Test.YtobhpfbldmobfaaSl
namespace Go.Proofs.Ytobhpfbldmobfaa.Base
open Go.RowKit Go.Proofs.YtobhpfbldmobfaaW.PrintWords

section
variable {w : World} {base e sz : Nat}
theorem q_set {g o n c j : Nat} {xs : List Value} (h : QRow w base e sz (.slice (some ⟨g, o, none⟩) n c) n xs) (hj : j < xs.length) (u : Value) :
    QRow (w.setCell ⟨g, o + j, none⟩ u) base e sz (.slice (some ⟨g, o, none⟩) n c) n (xs.set j u) := by
  obtain ⟨h1, h2⟩ := h
  refine ⟨by rw [List.length_set]; exact h1, ?_⟩
  rcases h2 with ⟨h0, A, he, hA⟩ | ⟨g', off, cap, cur, he, hb, hh, hnc, hcm, hcs, ht⟩
  · subst h0
    rw [Nat.zero_mul] at h1
    omega
  · injection he with ha _ hc
    injection ha with ha
    injection ha with hg ho _
    subst hg ho hc
    refine .inr ⟨g, off, c, cur.setIfInBounds (off * sz + j) u, rfl, hb, blk_put hh _ _ rfl, hnc, hcm, by rw [Array.size_setIfInBounds]; exact hcs, ?_⟩
    rw [Array.toList_setIfInBounds, ← ht, List.drop_set, if_neg (by omega), Nat.add_sub_cancel_left, List.take_set]
theorem Sl.set {α : Type} {f : α → List Value} {g o n c j : Nat} {l l' : List α} (h : Sl w base e sz f (.slice (some ⟨g, o, none⟩) n c) l) (hlen : l'.length = l.length) (u : Value) (hj : j < (l.flatMap f).length) (hl : l'.flatMap f = (l.flatMap f).set j u) :
    Sl (w.setCell ⟨g, o + j, none⟩ u) base e sz f (.slice (some ⟨g, o, none⟩) n c) l' := by
  obtain ⟨A', c', he, _⟩ := h.form
  injection he with e1 e2 e3
  subst e2
  have := q_set h hj u
  unfold Sl
  rw [hlen, hl]
  exact this
/-- Elements of one cell. -/
theorem Sl.set1 {α : Type} {f : α → Value} {g o n c i : Nat} {l : List α} (h : Sl w base e 1 (fun x => [f x]) (.slice (some ⟨g, o, none⟩) n c) l) (hi : i < l.length) (x : α) :
    Sl (w.setCell ⟨g, o + i, none⟩ (f x)) base e 1 (fun x => [f x]) (.slice (some ⟨g, o, none⟩) n c) (l.set i x) := by
  have e0 : ∀ l : List α, l.flatMap (fun x => [f x]) = l.map f := fun l => by induction l <;> simp_all [List.flatMap_cons]
  refine h.set (by simp) _ (by rw [e0]; simpa using hi) ?_
  rw [e0, e0, List.map_set]
theorem Upd.setOwn {S : Nat → Prop} {a : World} {g i : Nat} (h : Upd S a w) (hg : S g ∨ a.heap.size ≤ g) (u : Value) : Upd S a (w.setCell ⟨g, i, none⟩ u) := h.set (p := ⟨g, i, none⟩) hg u
end
end Go.Proofs.Ytobhpfbldmobfaa.Base
