/-
  Levelling, in plain Lean: what trades keep. Conditions: each lemma's own.
-/
import Derived.Test.YtenhimaclecdpaaLevelP
namespace Go.Proofs.Ytenhimaclecdpaa.Level
set_option linter.unusedVariables false
set_option linter.unusedSimpArgs false
def castL (l : List (Nat × Nat)) : List (Int × Int) := l.map fun p => ((p.1 : Int), (p.2 : Int))
theorem after_append (l l2 : List (Int × Int)) : ∀ (a b x y : List Int), after a b l = some (x, y) → after a b (l ++ l2) = after x y l2 := by
  induction l with
  | nil =>
    intro a b x y h
    simp only [after] at h
    injection h with h
    injection h with e1 e2
    subst e1 e2
    rfl
  | cons p l ih =>
    intro a b x y h
    obtain ⟨i, k⟩ := p
    simp only [after, List.cons_append] at h ⊢
    split at h
    · cases h
    · rename_i hc
      rw [if_neg hc]
      exact ih _ _ _ _ h
theorem after_len (l : List (Int × Int)) : ∀ (a b x y : List Int), after a b l = some (x, y) → x.length = a.length ∧ y.length = b.length := by
  induction l with
  | nil =>
    intro a b x y h
    simp only [after] at h
    injection h with h
    injection h with e1 e2
    subst e1 e2
    exact ⟨rfl, rfl⟩
  | cons p l ih =>
    intro a b x y h
    obtain ⟨i, k⟩ := p
    simp only [after] at h
    split at h
    · cases h
    · have := ih _ _ _ _ h
      simpa using this
theorem after_one {x y : List Int} {i k : Nat} (hi : i < x.length) (hk : k < y.length) : after x y [((i : Int), (k : Int))] = some (x.set i (y.getD k 0), y.set k (x.getD i 0)) := by
  simp only [after]
  rw [if_neg (by omega)]
  simp
def cnt (v : Int) (x y : List Int) : Nat := x.count v + y.count v
theorem cnt_swap (v : Int) {x y : List Int} {i k : Nat} (hi : i < x.length) (hk : k < y.length) : cnt v (x.set i (y.getD k 0)) (y.set k (x.getD i 0)) = cnt v x y := by
  unfold cnt
  rw [gD hi, gD hk, List.count_set hi, List.count_set hk]
  have h1 : x[i] = v → 0 < x.count v := fun e => List.count_pos_iff.2 (by rw [← e]; exact List.getElem_mem hi)
  have h2 : y[k] = v → 0 < y.count v := fun e => List.count_pos_iff.2 (by rw [← e]; exact List.getElem_mem hk)
  by_cases e1 : x[i] = v <;> by_cases e2 : y[k] = v <;> simp [e1, e2] <;> (first | (have := h1 e1; have := h2 e2; omega) | (have := h1 e1; omega) | (have := h2 e2; omega) | omega)
theorem row_set (x : List Int) (i : Nat) (v : Int) : (row x).set i (cl v) = row (x.set i v) := by
  unfold row
  rw [List.map_set]
theorem row_getD {x : List Int} {i : Nat} (hi : i < x.length) : (row x).getD i 0 = cl (x.getD i 0) := by
  unfold row
  rw [gD (by simpa using hi), gD hi, List.getElem_map]
def Marked (out : List (Nat × Nat)) (s t : List Bool) : Prop := (∀ p ∈ out, s.getD p.1 false = true ∧ t.getD p.2 false = true) ∧ out.Pairwise (fun p q => p.1 ≠ q.1 ∧ p.2 ≠ q.2)
theorem getD_set {s : List Bool} (i j : Nat) (h : s.getD j false = true) : (s.set i true).getD j false = true := by
  rw [List.getD_eq_getElem?_getD, List.getElem?_set]
  rw [List.getD_eq_getElem?_getD] at h
  split
  · rename_i e
    subst e
    split
    · rfl
    · rename_i hl
      rw [List.getElem?_eq_none (by omega)] at h
      cases h
  · exact h
theorem getD_set_self {s : List Bool} {i : Nat} (hi : i < s.length) : (s.set i true).getD i false = true := by
  rw [gD (by simpa using hi)]
  simp
theorem marked_more {out : List (Nat × Nat)} {s t : List Bool} {i k : Nat} (h : Marked out s t) (hi : i < s.length) (hk : k < t.length) (hs : s.getD i false = false) (ht : t.getD k false = false) : Marked (out ++ [(i, k)]) (s.set i true) (t.set k true) := by
  refine ⟨fun p hp => ?_, ?_⟩
  · rcases List.mem_append.1 hp with hp | hp
    · exact ⟨getD_set _ _ (h.1 p hp).1, getD_set _ _ (h.1 p hp).2⟩
    · obtain rfl : p = (i, k) := by simpa using hp
      exact ⟨getD_set_self hi, getD_set_self hk⟩
  · rw [List.pairwise_append]
    refine ⟨h.2, List.pairwise_singleton _ _, fun p hp q hq => ?_⟩
    obtain rfl : q = (i, k) := by simpa using hq
    obtain ⟨h1, h2⟩ := h.1 p hp
    refine ⟨fun e => ?_, fun e => ?_⟩
    · have e : p.1 = i := e
      rw [e, hs] at h1
      cases h1
    · have e : p.2 = k := e
      rw [e, ht] at h2
      cases h2
structure Kept (a b : List Int) (limit : Int) (r : List (Nat × Nat) × Bool) (x y : List Int) : Prop where
  after : after a b (castL r.1) = some (x, y)
  lx : x.length = a.length
  ly : y.length = b.length
  cnt : ∀ v, cnt v x y = cnt v a b
  dist : r.1.Pairwise (fun p q => p.1 ≠ q.1 ∧ p.2 ≠ q.2)
  within : r.2 = true → spread (row x ++ row y) ≤ limit
theorem plan_kept (a b : List Int) (limit : Int) : ∀ (f : Nat) (x y : List Int) (s t : List Bool) (out : List (Nat × Nat)), s.length = x.length → t.length = y.length → after a b (castL out) = some (x, y) → (∀ v, cnt v x y = cnt v a b) → Marked out s t →
    ∃ x' y', Kept a b limit (plan limit f (row x) (row y) s t out) x' y' := by
  intro f
  induction f with
  | zero =>
    intro x y s t out hs ht ha hc hm
    exact ⟨x, y, ha, (after_len _ _ _ _ _ ha).1, (after_len _ _ _ _ _ ha).2, hc, hm.2, fun h => by cases h⟩
  | succ f ih =>
    intro x y s t out hs ht ha hc hm
    simp only [plan]
    split
    · rename_i h
      exact ⟨x, y, ha, (after_len _ _ _ _ _ ha).1, (after_len _ _ _ _ _ ha).2, hc, hm.2, fun _ => h⟩
    · split
      · exact ⟨x, y, ha, (after_len _ _ _ _ _ ha).1, (after_len _ _ _ _ _ ha).2, hc, hm.2, fun h => by cases h⟩
      · rename_i i k htr
        obtain ⟨h1, h2, h3, h4⟩ := trade_lt htr
        have hi : i < x.length := by simpa [row] using h1
        have hk : k < y.length := by simpa [row] using h2
        rw [row_getD hi, row_getD hk, row_set, row_set]
        refine ih _ _ _ _ _ (by simpa using hs) (by simpa using ht) ?_ (fun v => (cnt_swap v hi hk).trans (hc v)) (marked_more hm (by omega) (by omega) h3 h4)
        rw [show castL (out ++ [(i, k)]) = castL out ++ [((i : Int), (k : Int))] by simp [castL], after_append _ _ _ _ _ _ ha]
        exact after_one hi hk
theorem planOf_kept (a b : List Int) (limit : Int) : ∃ x y, Kept a b limit (planOf a b limit) x y := by
  unfold planOf
  split
  · exact ⟨a, b, rfl, rfl, rfl, fun _ => rfl, List.Pairwise.nil, fun h => by cases h⟩
  · exact plan_kept a b limit _ _ _ _ _ _ (by simp) (by simp) rfl (fun _ => rfl) ⟨fun p hp => by simp at hp, List.Pairwise.nil⟩
end Go.Proofs.Ytenhimaclecdpaa.Level
