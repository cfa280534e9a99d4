/-
  How many groups bytes have, and each of them. Conditions: what the argument's slice holds.
-/
import Derived.Test.YtenhimaclecdpaaDoorEccI
import Derived.Test.YtenhimaclecdpaaDoorLex
import Derived.Test.YtenhimaclecdpaaDoorConv
import Derived.Laws.CopyRow
namespace Go.Proofs.YtenhimaclecdpaaDoor.Ecc
open Go.RowKit Go.Proofs.YtenhimaclecdpaaDoor.Base
set_option linter.unusedVariables false
set_option linter.unusedSimpArgs false
set_option maxRecDepth 100000
theorem groupsC (n : Nat) (hn : n ≤ 1000000000000) (w : World) : Calls Tryd.prog 24 #[.int .i64 n] w fun e w' => e = .returned (.int .i64 ((n + 7) / 8 : Nat)) ∧ w' = w := by
  have h1 : Int.tdiv ((n : Int) + 8 - 1) 8 = (((n + 7) / 8 : Nat) : Int) := by rw [Int.tdiv_eq_ediv_of_nonneg (by omega)]; omega
  go_enter Tryd.func24, Tryd.ntmps24
  go_wp2_with fail
  go_ret
  exact ⟨rfl, rfl⟩
/-- A group's bytes, filled up. -/
def grp (b : List UInt8) (i : Nat) : List Nat := (((b.drop (8 * i)).map UInt8.toNat) ++ List.replicate 8 0).take 8
theorem grp_len (b : List UInt8) (i : Nat) : (grp b i).length = 8 := by
  unfold grp
  rw [List.length_take, List.length_append, List.length_replicate]
  omega
theorem grp_lt (b : List UInt8) (i : Nat) : ∀ a ∈ grp b i, a < 256 := by
  intro a ha
  unfold grp at ha
  have ha := List.mem_of_mem_take ha
  rcases List.mem_append.1 ha with h | h
  · obtain ⟨x, _, rfl⟩ := List.mem_map.1 h
    exact x.toNat_lt
  · have := List.eq_of_mem_replicate h
    omega
/-- What is copied. -/
def cpy (b : List UInt8) (i : Nat) : List Value := ((b.drop (8 * i)).take 8).map fun x => Value.int .u8 (x.toNat : Nat)
theorem cpy_row (b : List UInt8) (i : Nat) : ((gC z8).toList.take 0 ++ cpy b i ++ (gC z8).toList.drop (0 + (cpy b i).length)).toArray = gC (grp b i) := by
  unfold gC grp cpy z8
  simp only [List.take_zero, List.nil_append, Nat.zero_add, List.length_map]
  congr 1
  generalize b.drop (8 * i) = l
  rw [List.map_take (l := List.map UInt8.toNat l ++ List.replicate 8 0), List.map_append, List.map_map, List.map_replicate, List.take_append, List.map_take, List.length_map, List.take_replicate, List.drop_replicate]
  congr 1
  rw [List.length_take]
  congr 1
  omega
theorem cpy_len (b : List UInt8) (i : Nat) : (cpy b i).length = Nat.min (b.length - 8 * i) 8 := by
  unfold cpy
  rw [List.length_map, List.length_take, List.length_drop]
  exact Nat.min_comm _ _
theorem cpy_one (b : List UInt8) (i : Nat) : ∀ v ∈ cpy b i, v.oneCell' = true := by
  intro v hv
  obtain ⟨x, _, rfl⟩ := List.mem_map.1 hv
  rfl
theorem cpy_src {w : World} {A : Option Addr} {b : List UInt8} (h : Arg w A 1 bc b) {i : Nat} (hi : 8 * i < b.length) : ∃ g o, A = some ⟨g, o, none⟩ ∧ g < w.heap.size ∧ ∀ j v, (cpy b i)[j]? = some v → w.cell? ((⟨g, o + 8 * i, none⟩ : Addr).add j) = some v := by
  rcases h with rfl | ⟨g, o, rfl, hg, h3⟩
  · simp at hi
  · refine ⟨g, o, rfl, hg, fun j v hv => ?_⟩
    have hj : j < (cpy b i).length := (List.getElem?_eq_some_iff.1 hv).1
    have hl := cpy_len b i
    have hjb : 8 * i + j < b.length := by rw [hl] at hj; have := Nat.lt_of_lt_of_le hj (Nat.min_le_left (b.length - 8 * i) 8); omega
    have h4 := h3 (8 * i + j) hjb 0 (by omega)
    rw [Addr.add_lit, Nat.add_assoc]
    rw [Nat.mul_one, Nat.add_zero] at h4
    rw [h4, ← hv]
    have hj8 : j < 8 := by rw [hl] at hj; exact Nat.lt_of_lt_of_le hj (Nat.min_le_right (b.length - 8 * i) 8)
    unfold cpy bc
    rw [List.getElem?_map, List.getElem?_take, if_pos hj8, List.getElem?_drop, List.getElem?_eq_getElem hjb]
    rfl
set_option maxHeartbeats 4000000 in
theorem groupC (A : Option Addr) (c : Nat) (b : List UInt8) (i : Nat) (w : World) (hA : Arg w A 1 bc b) (hc : b.length ≤ c) (hcm : c ≤ 9223372036854775807) (hi : 8 * i < b.length) (hi2 : i ≤ 1000000) :
    Calls Tryd.prog 25 #[.slice A b.length c, .int .i64 i] w fun e w' => e = .returned (.agg (gC (grp b i))) ∧ Upd Nil w w' := by
  have hb0 : ((w.alloc (.cells (gC z8) 22)).alloc (.cells (gC z8) 22)).heap[w.heap.size]? = some (.cells (gC z8) 22 (0, 0)) := heap_alloc2_old w _ _
  have hb1 : ((w.alloc (.cells (gC z8) 22)).alloc (.cells (gC z8) 22)).heap[w.heap.size + 1]? = some (.cells (gC z8) 22 (0, 0)) := heap_alloc2_new w _ _
  have hU0 := ((Upd.refl Nil w).alloc (.cells (gC z8) 22)).alloc (.cells (gC z8) 22)
  have hA0 := hA.upd hU0
  have hgs : (gC (grp b i)).size = 8 := by rw [gC_size, grp_len]
  have hiG : (Tryd.prog.info? 22).map (·.size) = some (gC (grp b i)).size := by rw [hgs]; kernel_rfl
  have hsz : (gC z8).size = (gC (grp b i)).size := by rw [hgs, gC_size]; rfl
  have hone := gC_one (grp b i)
  have hrow := cpy_row b i
  have hlen := cpy_len b i
  have hones := cpy_one b i
  obtain ⟨ga, oa, rfl, hga, hsrc⟩ := cpy_src hA0 hi
  obtain ⟨k, hk⟩ : ∃ k, k = 8 * i := ⟨_, rfl⟩
  rw [← hk] at hsrc hlen hi
  have hne : ¬ c = k := by omega
  have hw : IntKind.i64.wrap ((i : Int) * 8) = (k : Int) := by rw [IntKind.wrap_i64]; omega
  have hbH := Lib.hid (And.intro hgs hrow)
  clear hgs hrow hk hi2
  generalize cpy b i = cs at *
  generalize grp b i = G at *
  obtain ⟨W, hW⟩ : ∃ W, W = (w.alloc (.cells (gC z8) 22)).alloc (.cells (gC z8) 22) := ⟨_, rfl⟩
  rw [← hW] at hb0 hb1 hU0 hA0 hga hsrc
  go_enter Tryd.func25, Tryd.ntmps25
  go_upto_region 2 with fail
  rw [show (w.alloc (.cells #[.int .u8 0, .int .u8 0, .int .u8 0, .int .u8 0, .int .u8 0, .int .u8 0, .int .u8 0, .int .u8 0] 22)).alloc (.cells #[.int .u8 0, .int .u8 0, .int .u8 0, .int .u8 0, .int .u8 0, .int .u8 0, .int .u8 0, .int .u8 0] 22) = W by rw [hW]; rfl]
  clear hW
  refine wp_region_lex (Only (w.heap.size + 1)) [0, 1, 2, 3, 4, 5] (by kernel_rfl) (by kernel_rfl) rfl (by kernel_rfl) ?_
  simp only [inOrder, List.filterMap_cons, List.filterMap_nil, List.getElem?_cons_zero, List.getElem?_cons_succ]
  try simp only [Act.put, List.setIfInBounds_toArray, List.set_cons_zero, List.set_cons_succ]
  repeat
    first
    | (refine lex_pure (v := ?_) rfl rfl ?_ ?_
       rotate_left
       · intro w' hU'
         go_simp
         try with_reducible rfl
       try simp only [Act.put, List.setIfInBounds_toArray, List.set_cons_zero, List.set_cons_succ])
    | (refine lex_skip rfl ?_
       try simp only [Act.put, List.setIfInBounds_toArray, List.set_cons_zero, List.set_cons_succ])
  refine lex_pure (v := .slice (some ⟨ga, oa + k, none⟩) (b.length - k) (c - k)) rfl rfl ?_ ?_
  · intro w' u
    have h1 : k ≤ b.length := by omega
    have h2 : k ≤ c := by omega
    have h3 : (k : Int) ≤ (b.length : Int) := by omega
    go_simp
  try simp only [Act.put, List.setIfInBounds_toArray, List.set_cons_zero, List.set_cons_succ]
  have hl8 : cs.length ≤ 8 := by rw [hlen]; exact Nat.min_le_right _ _
  have hrun := run_copy_row (P := Tryd.prog) W.drew 31 31 3 5 (w.heap.size + 1) 0 8 8 ⟨ga, oa + k, none⟩ (b.length - k) (c - k) (gC z8) 22 cs Tryd.underlying31 (by kernel_rfl) (blk_drew hb1) hlen hsrc (by rw [gC_size]; show 0 + cs.length ≤ 8; omega) hones
  rw [hbH.out.2] at hrun
  have hUc := updRow (Upd.refl (Only (w.heap.size + 1)) W.drew) (.inl rfl) (gC G)
  refine lex_run (v := goInt cs.length) rfl rfl (by simp [execOp, resolve, invoke, builtin, Act.eval, hrun]) hUc ?_
  try simp only [Act.put, List.setIfInBounds_toArray, List.set_cons_zero, List.set_cons_succ]
  repeat
    first
    | (refine lex_pure (v := ?_) rfl rfl ?_ ?_
       rotate_left
       · intro w' hU'
         go_simp
         try with_reducible rfl
       try simp only [Act.put, List.setIfInBounds_toArray, List.set_cons_zero, List.set_cons_succ])
    | (refine lex_skip rfl ?_
       try simp only [Act.put, List.setIfInBounds_toArray, List.set_cons_zero, List.set_cons_succ])
  refine lex_done ?_
  have hb2 : (W.drew.setRow (w.heap.size + 1) (gC G)).heap[w.heap.size + 1]? = some (.cells (gC G) 22 (0, 0)) := setRow_heap _ _ _ _ _ _ (blk_drew hb1)
  have hr2 : (W.drew.setRow (w.heap.size + 1) (gC G)).heap[w.heap.size]? = some (.cells (gC z8) 22 (0, 0)) := (setRow_other _ _ _ _ (by omega)).trans (blk_drew hb0)
  have hV2 := updRow hU0.drew (.inr (Nat.le_succ w.heap.size)) (gC G)
  have hbz := setRow_heap _ w.heap.size _ (gC G) _ _ hr2
  have hVz := updRow hV2 (.inr (Nat.le_refl w.heap.size)) (gC G)
  generalize W.drew.setRow (w.heap.size + 1) (gC G) = Wc at *
  go_wp2_with (first
    | (refine wpList_load_row rfl 22 (.tmp 5) rfl (w.heap.size + 1) rfl 22 (gC G) (0, 0) _ hb2 Tryd.underlying22 rfl hiG ?_)
    | (refine wpList_store_row rfl 22 (.tmp 4) (.tmp 12) rfl w.heap.size (gC G) rfl rfl 22 (gC z8) hr2 hiG hsz hone ?_))
  exact bodyPost_ret (v := .agg (gC G)) (results_cell_row Tryd.results25 _ _ w.heap.size 22 _ (0, 0) _ rfl hbz Tryd.underlying22 rfl hiG) rfl ⟨rfl, hVz⟩
end Go.Proofs.YtenhimaclecdpaaDoor.Ecc
