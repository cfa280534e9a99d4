/-
  The cache: New, Put. Conditions: what the cache holds.
-/
import Derived.Test.YtcifkccaiekkeaaCacheD
namespace Go.Proofs.Ytcifkccaiekkeaa.Cache
open Go.RowKit Go.Proofs.Ytcifkccaiekkeaa.Base Go.Maps Go.Proofs.Ytcifkccaiekkeaa.Ints
set_option linter.unusedVariables false
set_option linter.unusedSimpArgs false
def More (F : Nat → Prop) (a b : Nat) : Nat → Prop := fun x => F x ∨ (a ≤ x ∧ x < b)
theorem drop_last {V : Type} {l : List (Key × V)} {r : Key × V} (h : Apart (l ++ [r])) : dropK (l ++ [r]) r.1 = l := by
  unfold Apart Keys at h
  rw [List.map_append, List.nodup_append] at h
  unfold dropK
  rw [List.filter_append]
  have h1 : l.filter (fun x => x.1 != r.1) = l := by
    rw [List.filter_eq_self]
    intro a ha
    simp only [bne_iff_ne, ne_eq]
    exact h.2.2 a.1 (List.mem_map_of_mem ha) r.1 (by simp)
  rw [h1]
  simp
theorem rows_last {ns : List Nat} (hne : ns ≠ []) (K : Nat → Key) (V : Nat → ByteArray) {z : Nat} (hz : z = ns.getLast hne) : rowsOf ns K V = (rowsOf ns K V).dropLast ++ [(K z, V z)] := by
  subst hz
  unfold rowsOf
  rw [← List.map_dropLast]
  conv => lhs; rw [← List.dropLast_concat_getLast hne]
  simp
theorem new_nil (room : Int) (hr : room < 0 ∨ 1024 < room) (w : World) : Calls Try.prog 30 #[.int .i64 room] w fun e w' => e = .returned (.pointer none) ∧ w = w' := by
  by_cases h : room < 0
  · go_enter Try.func30, Try.ntmps30
    go_wp2_with fail
    go_ret
    exact ⟨rfl, rfl⟩
  · have h2 : 1024 < room := by omega
    go_enter Try.func30, Try.ntmps30
    go_wp2_with fail
    go_ret
    exact ⟨rfl, rfl⟩
def NewR (room : Int) (w : World) (e : Ending) (w' : World) : Prop := ∃ c M f g, e = .returned (.pointer (some ⟨c, 0, none⟩)) ∧ Cx (fun x => w.heap.size ≤ x ∧ x < w'.heap.size) w' c M room [] (fun _ => (0, 0)) (fun _ => ⟨#[]⟩) f g 0 0 ∧ Upd Nil w w'
set_option maxRecDepth 100000 in
theorem new (room : Int) (hr : 0 ≤ room ∧ room ≤ 1024) (w : World) : Calls Try.prog 30 #[.int .i64 room] w (NewR room w) := by
  have hmm := @run_makeMap Try.prog
  have n1 : ¬ room < 0 := by omega
  have n2 : ¬ 1024 < room := by omega
  have hm := MapP.new w
  have u1 := (Upd.refl Nil w).alloc (.map #[] 0)
  go_enter Try.func30, Try.ntmps30
  go_wp2_with fail
  have hb : ((w.alloc (.map #[] 0)).alloc (.cells #[.int .i64 room, .map (some w.heap.size), .int .i64 0, .int .i64 0, .string ⟨#[]⟩, .pointer none, .pointer none, .int .i64 0, .int .i64 0] 125)).heap[w.heap.size + 1]? = some (.cells #[.int .i64 room, .map (some w.heap.size), .int .i64 0, .int .i64 0, .string ⟨#[]⟩, .pointer none, .pointer none, .int .i64 0, .int .i64 0] 125 (0, 0)) := by
    have := blk_new (w.alloc (.map #[] 0)) (.cells #[.int .i64 room, .map (some w.heap.size), .int .i64 0, .int .i64 0, .string ⟨#[]⟩, .pointer none, .pointer none, .int .i64 0, .int .i64 0] 125)
    simpa using this
  have u2 := u1.alloc (.cells #[.int .i64 room, .map (some w.heap.size), .int .i64 0, .int .i64 0, .string ⟨#[]⟩, .pointer none, .pointer none, .int .i64 0, .int .i64 0] 125)
  have hm2 := hm.upd ((Upd.refl Nil _).alloc (.cells #[.int .i64 room, .map (some w.heap.size), .int .i64 0, .int .i64 0, .string ⟨#[]⟩, .pointer none, .pointer none, .int .i64 0, .int .i64 0] 125)) (fun h => h)
  have hM : w.heap.size ≤ w.heap.size ∧ w.heap.size ≠ w.heap.size + 1 := ⟨Nat.le_refl _, by omega⟩
  have hc : w.heap.size ≤ w.heap.size + 1 := by omega
  clear hm u1
  generalize (w.alloc (.map #[] 0)).alloc (.cells #[.int .i64 room, .map (some w.heap.size), .int .i64 0, .int .i64 0, .string ⟨#[]⟩, .pointer none, .pointer none, .int .i64 0, .int .i64 0] 125) = W at *
  generalize w.heap.size + 1 = c at *
  generalize hMM : w.heap.size = M at *
  have hMH := Lib.hid hMM
  clear hMM
  have c5 := blk_cell hb 5
  have c6 := blk_cell hb 6
  have f5 := blk_frozen hb 5
  have f6 := blk_frozen hb 6
  simp only [List.getElem?_toArray, List.getElem?_cons_zero, List.getElem?_cons_succ] at c5 c6
  have d6 := set_cell_other (w := W) (b := c) (i := 5) (b' := c) (i' := 6) (.pointer (some ⟨c, 2, none⟩)) (by omega)
  rw [c6] at d6
  have g6 := set_frozen (w := W) (b := c) (i := 5) (b' := c) (i' := 6) (.pointer (some ⟨c, 2, none⟩))
  rw [f6] at g6
  have v1 := (Upd.refl (Only c) W).set1 (i := 5) (.pointer (some ⟨c, 2, none⟩))
  have hb1 := blk_put hb 5 (.pointer (some ⟨c, 2, none⟩)) rfl
  generalize hW1 : W.setCell ⟨c, 5, none⟩ (.pointer (some ⟨c, 2, none⟩)) = W1 at *
  have v2 := (Upd.refl (Only c) W1).set1 (i := 6) (.pointer (some ⟨c, 2, none⟩))
  have hb2 := blk_put hb1 6 (.pointer (some ⟨c, 2, none⟩)) rfl
  generalize hW2 : W1.setCell ⟨c, 6, none⟩ (.pointer (some ⟨c, 2, none⟩)) = W2 at *
  have hW1H := Lib.hid hW1
  have hW2H := Lib.hid hW2
  clear hW1 hW2
  refine wp_region_lexW (Upd (Only c)) (fun _ => Upd.refl _ _) (fun _ _ _ h k => h.tr k) [(0, true), (1, false), (2, true), (3, true), (4, true), (5, true), (6, false), (7, false), (8, false), (9, false), (10, false), (11, false), (12, false), (13, true), (14, false), (15, false), (16, false), (17, false), (18, false), (19, false)] (by kernel_rfl) (by kernel_rfl) rfl (by kernel_rfl) (by kernel_rfl) ?_
  simp only [inOrderW, List.filterMap_cons, List.filterMap_nil, List.getElem?_cons_zero, List.getElem?_cons_succ, Option.map_some]
  try simp only [Act.put, List.setIfInBounds_toArray, List.set_cons_zero, List.set_cons_succ]
  repeat
    first
    | (refine lexW_sure (v := ?_) rfl rfl ?_ ?_
       rotate_left
       · go_simp
         try with_reducible rfl
       try simp only [Act.put, List.setIfInBounds_toArray, List.set_cons_zero, List.set_cons_succ])
    | (refine lexW_pure (v := ?_) rfl rfl ?_ ?_
       rotate_left
       · intro w' hU'
         go_simp
         try with_reducible rfl
       try simp only [Act.put, List.setIfInBounds_toArray, List.set_cons_zero, List.set_cons_succ])
    | (refine lexW_skip rfl ?_
       try simp only [Act.put, List.setIfInBounds_toArray, List.set_cons_zero, List.set_cons_succ])
  refine lexW_store (w' := W1.drew) rfl rfl (by rw [← hW1H.out]; go_simp) (ofDrew v1.drew) ?_
  try simp only [Act.put, List.setIfInBounds_toArray, List.set_cons_zero, List.set_cons_succ]
  repeat
    first
    | (refine lexW_sure (v := ?_) rfl rfl ?_ ?_
       rotate_left
       · go_simp
         try with_reducible rfl
       try simp only [Act.put, List.setIfInBounds_toArray, List.set_cons_zero, List.set_cons_succ])
    | (refine lexW_pure (v := ?_) rfl rfl ?_ ?_
       rotate_left
       · intro w' hU'
         go_simp
         try with_reducible rfl
       try simp only [Act.put, List.setIfInBounds_toArray, List.set_cons_zero, List.set_cons_succ])
    | (refine lexW_skip rfl ?_
       try simp only [Act.put, List.setIfInBounds_toArray, List.set_cons_zero, List.set_cons_succ])
  refine lexW_store (w' := W2.drew) rfl rfl (by rw [← hW2H.out]; go_simp) (ofDrew v2.drew) ?_
  try simp only [Act.put, List.setIfInBounds_toArray, List.set_cons_zero, List.set_cons_succ]
  repeat
    first
    | (refine lexW_sure (v := ?_) rfl rfl ?_ ?_
       rotate_left
       · go_simp
         try with_reducible rfl
       try simp only [Act.put, List.setIfInBounds_toArray, List.set_cons_zero, List.set_cons_succ])
    | (refine lexW_pure (v := ?_) rfl rfl ?_ ?_
       rotate_left
       · intro w' hU'
         go_simp
         try with_reducible rfl
       try simp only [Act.put, List.setIfInBounds_toArray, List.set_cons_zero, List.set_cons_succ])
    | (refine lexW_skip rfl ?_
       try simp only [Act.put, List.setIfInBounds_toArray, List.set_cons_zero, List.set_cons_succ])
  refine lexW_done ?_
  go_wp2_with fail
  go_ret
  have hpc : pv c c = .pointer (some ⟨c, 2, none⟩) := by unfold pv; rw [off_c]
  have hsz : c < W2.heap.size := blk_lt hb2
  have hm3 : MapP W2.drew M (fun _ => 0) 0 := (hm2.upd (v1.tr v2) (fun e => hM.2 e)).upd ((Upd.refl Nil W2).drew) (fun h => h)
  refine ⟨c, M, fun _ => c, fun _ => c, rfl, ⟨⟨⟨?_, fun b hb => by simp at hb, by simp⟩, ⟨rfl, rfl⟩, List.nodup_nil⟩, hm3, fun b hb => by simp at hb, List.nodup_nil, fun x hx => ?_, n1, n2⟩, (u2.trans (v1.tr v2) (fun x hx => .inr (by cases hx; rw [hMH.out]; exact hc))).drew⟩
  · show W2.heap[c]? = _
    rw [hb2, hpc]
    rfl
  · have hl := hm3.lt
    rw [hMH.out]
    simp at hx
    rcases hx with rfl | rfl
    · exact ⟨hc, hsz⟩
    · exact ⟨Nat.le_refl _, hl⟩
end Go.Proofs.Ytcifkccaiekkeaa.Cache
