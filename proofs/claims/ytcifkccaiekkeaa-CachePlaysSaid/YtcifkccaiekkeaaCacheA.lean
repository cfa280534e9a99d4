/-
  The cache's ring in memory: a node is cut out, a node is put first. Conditions: what the cells hold.
-/
import Derived.Test.YtcifkccaiekkeaaCacheM
import Derived.Test.YtcifkccaiekkeaaLexW
namespace Go.Proofs.Ytcifkccaiekkeaa.Cache
open Go.RowKit Go.Proofs.Ytcifkccaiekkeaa.Base Go.Maps Go.Proofs.Ytcifkccaiekkeaa.Ints
set_option linter.unusedVariables false
set_option linter.unusedSimpArgs false
theorem ofDrew {S : Nat → Prop} {w w' : World} (h : Upd S w w') : Upd S w.drew w' := ⟨h.os, h.output, h.size, h.block⟩
/-- A world in which the heap is this one's, and the streams, too. -/
def Like (W w' : World) : Prop := w'.heap = W.heap ∧ w'.os = W.os ∧ w'.output = W.output
def Two (p q : Nat) : Nat → Prop := fun x => x = p ∨ x = q
theorem set_cell_same {w : World} {b i : Nat} {u : Value} (v : Value) (h : w.cell? ⟨b, i, none⟩ = some u) : (w.setCell ⟨b, i, none⟩ v).cell? ⟨b, i, none⟩ = some v := by
  unfold World.cell? World.setCell at *
  rw [Array.getElem?_modify]
  cases hb : w.heap[b]? with
  | none => simp [hb] at h
  | some o =>
    simp only [hb, if_true, Option.map_some] at h ⊢
    cases o <;> simp at h ⊢
    have := (Array.getElem?_eq_some_iff.1 h).1
    simp [this]
theorem set_cell_other {w : World} {b i b' i' : Nat} (v : Value) (h : ¬ (b' = b ∧ i' = i)) : (w.setCell ⟨b, i, none⟩ v).cell? ⟨b', i', none⟩ = w.cell? ⟨b', i', none⟩ := by
  unfold World.cell? World.setCell
  rw [Array.getElem?_modify]
  by_cases e : b = b'
  · subst e
    simp only [if_true]
    cases hb : w.heap[b]? with
    | none => rfl
    | some o =>
      cases o <;> simp
      have : i ≠ i' := fun e => h ⟨rfl, e.symm⟩
      rw [Array.getElem?_setIfInBounds_ne this]
  · rw [if_neg e]
theorem set_frozen {w : World} {b i b' i' : Nat} (v : Value) : (w.setCell ⟨b, i, none⟩ v).frozen? ⟨b', i', none⟩ = w.frozen? ⟨b', i', none⟩ := by
  unfold World.frozen? World.setCell
  rw [Array.getElem?_modify]
  by_cases e : b = b'
  · subst e
    simp only [if_true]
    cases hb : w.heap[b]? with
    | none => rfl
    | some o => cases o <;> rfl
  · rw [if_neg e]
set_option maxRecDepth 100000 in
theorem cut (n p i q j : Nat) (W : World) (h3 : W.cell? ⟨n, 3, none⟩ = some (.pointer (some ⟨p, i, none⟩))) (h4 : W.cell? ⟨n, 4, none⟩ = some (.pointer (some ⟨q, j, none⟩)))
    (u1 u2 : Value) (hp : W.cell? ⟨p, i + 4, none⟩ = some u1) (fp : W.frozen? ⟨p, i + 4, none⟩ = false) (hq : W.cell? ⟨q, j + 3, none⟩ = some u2) (fq : W.frozen? ⟨q, j + 3, none⟩ = false) :
    Calls Try.prog 73 #[.pointer (some ⟨n, 0, none⟩)] W fun e w' => e = .returned (.tuple #[]) ∧ Like ((W.setCell ⟨p, i + 4, none⟩ (.pointer (some ⟨q, j, none⟩))).setCell ⟨q, j + 3, none⟩ (.pointer (some ⟨p, i, none⟩))) w' := by
  obtain ⟨u3, hq2⟩ : ∃ u, (W.setCell ⟨p, i + 4, none⟩ (.pointer (some ⟨q, j, none⟩))).cell? ⟨q, j + 3, none⟩ = some u := by
    by_cases e : q = p ∧ j + 3 = i + 4
    · rw [e.1, e.2]
      exact ⟨_, set_cell_same _ hp⟩
    · rw [set_cell_other _ e]
      exact ⟨_, hq⟩
  have fq2 : (W.setCell ⟨p, i + 4, none⟩ (.pointer (some ⟨q, j, none⟩))).frozen? ⟨q, j + 3, none⟩ = false := by rw [set_frozen]; exact fq
  have hU1 : ∀ v, Upd (Two p q) W (W.setCell ⟨p, i + 4, none⟩ v) := fun v => (Upd.refl _ W).set (p := ⟨p, i + 4, none⟩) (.inl (.inl rfl)) v
  have hU2 : ∀ v v', Upd (Two p q) W ((W.setCell ⟨p, i + 4, none⟩ v).setCell ⟨q, j + 3, none⟩ v') := fun v v' => (hU1 v).set (p := ⟨q, j + 3, none⟩) (.inl (.inr rfl)) v'
  have hU3 : ∀ v v', Upd (Two p q) (W.setCell ⟨p, i + 4, none⟩ v) ((W.setCell ⟨p, i + 4, none⟩ v).setCell ⟨q, j + 3, none⟩ v') := fun v v' => (Upd.refl _ _).set (p := ⟨q, j + 3, none⟩) (.inl (.inr rfl)) v'
  go_enter Try.func73, Try.ntmps73
  go_wp2_with fail
  refine wp_region_lexW (Upd (Two p q)) (fun _ => Upd.refl _ _) (fun _ _ _ h k => h.tr k) [(0, true), (1, true), (2, true), (3, true), (4, false), (5, false), (6, false), (7, true), (8, true), (9, true), (10, true), (11, true), (12, false), (13, false), (14, false), (15, true), (16, false), (17, true), (18, false), (19, false), (20, false), (21, false)] (by kernel_rfl) (by kernel_rfl) rfl (by kernel_rfl) (by kernel_rfl) ?_
  simp only [inOrderW, List.filterMap_cons, List.filterMap_nil, List.getElem?_cons_zero, List.getElem?_cons_succ, Option.map_some]
  try simp only [Act.put, List.setIfInBounds_toArray, List.set_cons_zero, List.set_cons_succ]
  repeat
    first
    | (refine lexW_sure (v := ?_) rfl rfl ?_ ?_
       rotate_left
       · go_simp
         try with_reducible rfl
       try simp only [Act.put, List.setIfInBounds_toArray, List.set_cons_zero, List.set_cons_succ])
    | (refine lexW_pure (v := ?_) rfl rfl ?_ ?_
       rotate_left
       · intro w' hU'
         go_simp
         try with_reducible rfl
       try simp only [Act.put, List.setIfInBounds_toArray, List.set_cons_zero, List.set_cons_succ])
    | (refine lexW_skip rfl ?_
       try simp only [Act.put, List.setIfInBounds_toArray, List.set_cons_zero, List.set_cons_succ])
  try simp only [Act.put, List.setIfInBounds_toArray, List.set_cons_zero, List.set_cons_succ]
  repeat
    first
    | (refine lexW_sure (v := ?_) rfl rfl ?_ ?_
       rotate_left
       · go_simp
         try with_reducible rfl
       try simp only [Act.put, List.setIfInBounds_toArray, List.set_cons_zero, List.set_cons_succ])
    | (refine lexW_pure (v := ?_) rfl rfl ?_ ?_
       rotate_left
       · intro w' hU'
         go_simp
         try with_reducible rfl
       try simp only [Act.put, List.setIfInBounds_toArray, List.set_cons_zero, List.set_cons_succ])
    | (refine lexW_skip rfl ?_
       try simp only [Act.put, List.setIfInBounds_toArray, List.set_cons_zero, List.set_cons_succ])
  refine lexW_store (w' := (W.setCell ⟨p, i + 4, none⟩ (.pointer (some ⟨q, j, none⟩))).drew) rfl rfl (by go_simp) (ofDrew (hU1 _).drew) ?_
  try simp only [Act.put, List.setIfInBounds_toArray, List.set_cons_zero, List.set_cons_succ]
  repeat
    first
    | (refine lexW_sure (v := ?_) rfl rfl ?_ ?_
       rotate_left
       · go_simp
         try with_reducible rfl
       try simp only [Act.put, List.setIfInBounds_toArray, List.set_cons_zero, List.set_cons_succ])
    | (refine lexW_pure (v := ?_) rfl rfl ?_ ?_
       rotate_left
       · intro w' hU'
         go_simp
         try with_reducible rfl
       try simp only [Act.put, List.setIfInBounds_toArray, List.set_cons_zero, List.set_cons_succ])
    | (refine lexW_skip rfl ?_
       try simp only [Act.put, List.setIfInBounds_toArray, List.set_cons_zero, List.set_cons_succ])
  refine lexW_store (w' := ((W.setCell ⟨p, i + 4, none⟩ (.pointer (some ⟨q, j, none⟩))).setCell ⟨q, j + 3, none⟩ (.pointer (some ⟨p, i, none⟩))).drew) rfl rfl (by go_simp) (ofDrew (hU3 _ _).drew) ?_
  try simp only [Act.put, List.setIfInBounds_toArray, List.set_cons_zero, List.set_cons_succ]
  repeat
    first
    | (refine lexW_sure (v := ?_) rfl rfl ?_ ?_
       rotate_left
       · go_simp
         try with_reducible rfl
       try simp only [Act.put, List.setIfInBounds_toArray, List.set_cons_zero, List.set_cons_succ])
    | (refine lexW_pure (v := ?_) rfl rfl ?_ ?_
       rotate_left
       · intro w' hU'
         go_simp
         try with_reducible rfl
       try simp only [Act.put, List.setIfInBounds_toArray, List.set_cons_zero, List.set_cons_succ])
    | (refine lexW_skip rfl ?_
       try simp only [Act.put, List.setIfInBounds_toArray, List.set_cons_zero, List.set_cons_succ])
  refine lexW_done ?_
  go_wp2_with fail
  first | go_end0 | (simp only [Exit.inBlock, Exit.then]; refine bodyPost_ret (results_none rfl _ _ _) rfl ?_) | refine bodyPost_ret (results_none rfl _ _ _) rfl ?_
  exact ⟨rfl, rfl, rfl, rfl⟩
set_option maxRecDepth 100000 in
/-- A node is put behind the ring's begin. -/
theorem first (c n q j : Nat) (W : World) (hnc : n ≠ c) (hqn : q ≠ n) (u1 u2 u3 : Value) (h6 : W.cell? ⟨c, 6, none⟩ = some (.pointer (some ⟨q, j, none⟩))) (f6 : W.frozen? ⟨c, 6, none⟩ = false)
    (h3 : W.cell? ⟨n, 3, none⟩ = some u1) (f3 : W.frozen? ⟨n, 3, none⟩ = false) (h4 : W.cell? ⟨n, 4, none⟩ = some u2) (f4 : W.frozen? ⟨n, 4, none⟩ = false) (hq : W.cell? ⟨q, j + 3, none⟩ = some u3) (fq : W.frozen? ⟨q, j + 3, none⟩ = false) :
    Calls Try.prog 71 #[.pointer (some ⟨c, 2, none⟩), .pointer (some ⟨n, 0, none⟩)] W fun e w' => e = .returned (.tuple #[]) ∧
      Like ((((W.setCell ⟨n, 3, none⟩ (.pointer (some ⟨c, 2, none⟩))).setCell ⟨n, 4, none⟩ (.pointer (some ⟨q, j, none⟩))).setCell ⟨c, 6, none⟩ (.pointer (some ⟨n, 0, none⟩))).setCell ⟨q, j + 3, none⟩ (.pointer (some ⟨n, 0, none⟩))) w' := by
  have e1 : (W.setCell ⟨n, 3, none⟩ (.pointer (some ⟨c, 2, none⟩))).cell? ⟨n, 4, none⟩ = some u2 := by rw [set_cell_other _ (by omega)]; exact h4
  have g1 : (W.setCell ⟨n, 3, none⟩ (.pointer (some ⟨c, 2, none⟩))).frozen? ⟨n, 4, none⟩ = false := by rw [set_frozen]; exact f4
  generalize hw1 : (W.setCell ⟨n, 3, none⟩ (.pointer (some ⟨c, 2, none⟩))) = W1 at e1 g1 ⊢
  have k3 : W1.cell? ⟨n, 3, none⟩ = some (.pointer (some ⟨c, 2, none⟩)) := by rw [← hw1]; exact set_cell_same _ h3
  have k6 : W1.cell? ⟨c, 6, none⟩ = some (.pointer (some ⟨q, j, none⟩)) := by rw [← hw1, set_cell_other _ (by omega)]; exact h6
  have p6 : W1.frozen? ⟨c, 6, none⟩ = false := by rw [← hw1, set_frozen]; exact f6
  have kq : W1.cell? ⟨q, j + 3, none⟩ = some u3 := by rw [← hw1, set_cell_other _ (by omega)]; exact hq
  have pq : W1.frozen? ⟨q, j + 3, none⟩ = false := by rw [← hw1, set_frozen]; exact fq
  generalize hw2 : (W1.setCell ⟨n, 4, none⟩ (.pointer (some ⟨q, j, none⟩))) = W2
  have l3 : W2.cell? ⟨n, 3, none⟩ = some (.pointer (some ⟨c, 2, none⟩)) := by rw [← hw2, set_cell_other _ (by omega)]; exact k3
  have l4 : W2.cell? ⟨n, 4, none⟩ = some (.pointer (some ⟨q, j, none⟩)) := by rw [← hw2]; exact set_cell_same _ e1
  have l6 : W2.cell? ⟨c, 6, none⟩ = some (.pointer (some ⟨q, j, none⟩)) := by rw [← hw2, set_cell_other _ (by omega)]; exact k6
  have m6 : W2.frozen? ⟨c, 6, none⟩ = false := by rw [← hw2, set_frozen]; exact p6
  have lq : W2.cell? ⟨q, j + 3, none⟩ = some u3 := by rw [← hw2, set_cell_other _ (by omega)]; exact kq
  have mq : W2.frozen? ⟨q, j + 3, none⟩ = false := by rw [← hw2, set_frozen]; exact pq
  have hU1 : Upd (Only n) W W1 := by rw [← hw1]; exact (Upd.refl _ W).set1 _
  have hU2 : Upd (Only n) W1 W2 := by rw [← hw2]; exact (Upd.refl _ W1).set1 _
  generalize hw3 : (W2.setCell ⟨c, 6, none⟩ (.pointer (some ⟨n, 0, none⟩))) = W3
  obtain ⟨u5, lq3⟩ : ∃ u, W3.cell? ⟨q, j + 3, none⟩ = some u := by
    rw [← hw3]
    by_cases e : q = c ∧ j + 3 = 6
    · rw [e.1, e.2]
      exact ⟨_, set_cell_same _ l6⟩
    · rw [set_cell_other _ e]
      exact ⟨_, lq⟩
  have mq3 : W3.frozen? ⟨q, j + 3, none⟩ = false := by rw [← hw3, set_frozen]; exact mq
  have hU3 : Upd (Two c q) W2 W3 := by rw [← hw3]; exact (Upd.refl _ W2).set (p := ⟨c, 6, none⟩) (.inl (.inl rfl)) _
  generalize hw4 : (W3.setCell ⟨q, j + 3, none⟩ (.pointer (some ⟨n, 0, none⟩))) = W4
  have hU4 : Upd (Two c q) W3 W4 := by rw [← hw4]; exact (Upd.refl _ W3).set (p := ⟨q, j + 3, none⟩) (.inl (.inr rfl)) _
  replace hw1 := Lib.hid hw1
  replace hw2 := Lib.hid hw2
  replace hw3 := Lib.hid hw3
  replace hw4 := Lib.hid hw4
  go_enter Try.func71, Try.ntmps71
  go_wp2_with fail
  refine wp_region_lexW (Upd (Only n)) (fun _ => Upd.refl _ _) (fun _ _ _ h k => h.tr k) [(0, true), (1, false), (2, true), (3, true), (4, true), (5, false), (6, false), (7, false), (8, false), (9, true), (10, false), (11, true), (12, false), (13, false), (14, false), (15, false)] (by kernel_rfl) (by kernel_rfl) rfl (by kernel_rfl) (by kernel_rfl) ?_
  simp only [inOrderW, List.filterMap_cons, List.filterMap_nil, List.getElem?_cons_zero, List.getElem?_cons_succ, Option.map_some]
  try simp only [Act.put, List.setIfInBounds_toArray, List.set_cons_zero, List.set_cons_succ]
  repeat
    first
    | (refine lexW_sure (v := ?_) rfl rfl ?_ ?_
       rotate_left
       · go_simp
         try with_reducible rfl
       try simp only [Act.put, List.setIfInBounds_toArray, List.set_cons_zero, List.set_cons_succ])
    | (refine lexW_pure (v := ?_) rfl rfl ?_ ?_
       rotate_left
       · intro w' hU'
         go_simp
         try with_reducible rfl
       try simp only [Act.put, List.setIfInBounds_toArray, List.set_cons_zero, List.set_cons_succ])
    | (refine lexW_skip rfl ?_
       try simp only [Act.put, List.setIfInBounds_toArray, List.set_cons_zero, List.set_cons_succ])
  try simp only [Act.put, List.setIfInBounds_toArray, List.set_cons_zero, List.set_cons_succ]
  repeat
    first
    | (refine lexW_sure (v := ?_) rfl rfl ?_ ?_
       rotate_left
       · go_simp
         try with_reducible rfl
       try simp only [Act.put, List.setIfInBounds_toArray, List.set_cons_zero, List.set_cons_succ])
    | (refine lexW_pure (v := ?_) rfl rfl ?_ ?_
       rotate_left
       · intro w' hU'
         go_simp
         try with_reducible rfl
       try simp only [Act.put, List.setIfInBounds_toArray, List.set_cons_zero, List.set_cons_succ])
    | (refine lexW_skip rfl ?_
       try simp only [Act.put, List.setIfInBounds_toArray, List.set_cons_zero, List.set_cons_succ])
  refine lexW_store (w' := W1.drew) rfl rfl (by rw [← hw1.out]; go_simp) (ofDrew hU1.drew) ?_
  try simp only [Act.put, List.setIfInBounds_toArray, List.set_cons_zero, List.set_cons_succ]
  repeat
    first
    | (refine lexW_sure (v := ?_) rfl rfl ?_ ?_
       rotate_left
       · go_simp
         try with_reducible rfl
       try simp only [Act.put, List.setIfInBounds_toArray, List.set_cons_zero, List.set_cons_succ])
    | (refine lexW_pure (v := ?_) rfl rfl ?_ ?_
       rotate_left
       · intro w' hU'
         go_simp
         try with_reducible rfl
       try simp only [Act.put, List.setIfInBounds_toArray, List.set_cons_zero, List.set_cons_succ])
    | (refine lexW_skip rfl ?_
       try simp only [Act.put, List.setIfInBounds_toArray, List.set_cons_zero, List.set_cons_succ])
  refine lexW_store (w' := W2.drew) rfl rfl (by rw [← hw2.out]; go_simp) (ofDrew hU2.drew) ?_
  try simp only [Act.put, List.setIfInBounds_toArray, List.set_cons_zero, List.set_cons_succ]
  repeat
    first
    | (refine lexW_sure (v := ?_) rfl rfl ?_ ?_
       rotate_left
       · go_simp
         try with_reducible rfl
       try simp only [Act.put, List.setIfInBounds_toArray, List.set_cons_zero, List.set_cons_succ])
    | (refine lexW_pure (v := ?_) rfl rfl ?_ ?_
       rotate_left
       · intro w' hU'
         go_simp
         try with_reducible rfl
       try simp only [Act.put, List.setIfInBounds_toArray, List.set_cons_zero, List.set_cons_succ])
    | (refine lexW_skip rfl ?_
       try simp only [Act.put, List.setIfInBounds_toArray, List.set_cons_zero, List.set_cons_succ])
  refine lexW_done ?_
  go_wp2_with fail
  refine wp_region_lexW (Upd (Two c q)) (fun _ => Upd.refl _ _) (fun _ _ _ h k => h.tr k) [(0, true), (1, true), (2, true), (3, true), (4, false), (5, false), (6, false), (7, true), (8, true), (9, false), (10, false), (11, true), (12, false), (13, false), (14, false), (15, false)] (by kernel_rfl) (by kernel_rfl) rfl (by kernel_rfl) (by kernel_rfl) ?_
  simp only [inOrderW, List.filterMap_cons, List.filterMap_nil, List.getElem?_cons_zero, List.getElem?_cons_succ, Option.map_some]
  try simp only [Act.put, List.setIfInBounds_toArray, List.set_cons_zero, List.set_cons_succ]
  repeat
    first
    | (refine lexW_sure (v := ?_) rfl rfl ?_ ?_
       rotate_left
       · go_simp
         try with_reducible rfl
       try simp only [Act.put, List.setIfInBounds_toArray, List.set_cons_zero, List.set_cons_succ])
    | (refine lexW_pure (v := ?_) rfl rfl ?_ ?_
       rotate_left
       · intro w' hU'
         go_simp
         try with_reducible rfl
       try simp only [Act.put, List.setIfInBounds_toArray, List.set_cons_zero, List.set_cons_succ])
    | (refine lexW_skip rfl ?_
       try simp only [Act.put, List.setIfInBounds_toArray, List.set_cons_zero, List.set_cons_succ])
  try simp only [Act.put, List.setIfInBounds_toArray, List.set_cons_zero, List.set_cons_succ]
  repeat
    first
    | (refine lexW_sure (v := ?_) rfl rfl ?_ ?_
       rotate_left
       · go_simp
         try with_reducible rfl
       try simp only [Act.put, List.setIfInBounds_toArray, List.set_cons_zero, List.set_cons_succ])
    | (refine lexW_pure (v := ?_) rfl rfl ?_ ?_
       rotate_left
       · intro w' hU'
         go_simp
         try with_reducible rfl
       try simp only [Act.put, List.setIfInBounds_toArray, List.set_cons_zero, List.set_cons_succ])
    | (refine lexW_skip rfl ?_
       try simp only [Act.put, List.setIfInBounds_toArray, List.set_cons_zero, List.set_cons_succ])
  refine lexW_store (w' := W3.drew.drew) rfl rfl (by rw [← hw3.out]; go_simp) (ofDrew (ofDrew hU3.drew.drew)) ?_
  try simp only [Act.put, List.setIfInBounds_toArray, List.set_cons_zero, List.set_cons_succ]
  repeat
    first
    | (refine lexW_sure (v := ?_) rfl rfl ?_ ?_
       rotate_left
       · go_simp
         try with_reducible rfl
       try simp only [Act.put, List.setIfInBounds_toArray, List.set_cons_zero, List.set_cons_succ])
    | (refine lexW_pure (v := ?_) rfl rfl ?_ ?_
       rotate_left
       · intro w' hU'
         go_simp
         try with_reducible rfl
       try simp only [Act.put, List.setIfInBounds_toArray, List.set_cons_zero, List.set_cons_succ])
    | (refine lexW_skip rfl ?_
       try simp only [Act.put, List.setIfInBounds_toArray, List.set_cons_zero, List.set_cons_succ])
  refine lexW_store (w' := W4.drew.drew) rfl rfl (by rw [← hw4.out]; go_simp) (ofDrew (ofDrew hU4.drew.drew)) ?_
  try simp only [Act.put, List.setIfInBounds_toArray, List.set_cons_zero, List.set_cons_succ]
  repeat
    first
    | (refine lexW_sure (v := ?_) rfl rfl ?_ ?_
       rotate_left
       · go_simp
         try with_reducible rfl
       try simp only [Act.put, List.setIfInBounds_toArray, List.set_cons_zero, List.set_cons_succ])
    | (refine lexW_pure (v := ?_) rfl rfl ?_ ?_
       rotate_left
       · intro w' hU'
         go_simp
         try with_reducible rfl
       try simp only [Act.put, List.setIfInBounds_toArray, List.set_cons_zero, List.set_cons_succ])
    | (refine lexW_skip rfl ?_
       try simp only [Act.put, List.setIfInBounds_toArray, List.set_cons_zero, List.set_cons_succ])
  refine lexW_done ?_
  go_wp2_with fail
  first | go_end0 | (simp only [Exit.inBlock, Exit.then]; refine bodyPost_ret (results_none rfl _ _ _) rfl ?_) | refine bodyPost_ret (results_none rfl _ _ _) rfl ?_
  exact ⟨rfl, rfl, rfl, rfl⟩
end Go.Proofs.Ytcifkccaiekkeaa.Cache
