/-
  The walks of almshouselaw02.fixed, SumTells, SumGoesOn and SumTurns. Conditions: what the argument's slice holds.
-/
import Derived.Test.YtcifkccaiekkeaaSumB
import Derived.Test.YtcifkccaiekkeaaLex
import Derived.Lib.SlBytesConst
namespace Go.Proofs.Ytcifkccaiekkeaa.Sum
open Go.RowKit Go.Proofs.Ytcifkccaiekkeaa.Base Go.Proofs.Ytcifkccaiekkeaa.Once
set_option linter.unusedVariables false
set_option linter.unusedSimpArgs false
theorem arg_litF {w : World} {g t : Nat} {cs : Array Value} {fr : Nat × Nat} {l : List UInt8} (hb : w.heap[g]? = some (.cells cs t fr)) (hcs : cs.toList = l.flatMap bc) : Arg w (some ⟨g, 0, none⟩) 1 bc l := by
  refine .inr ⟨g, 0, rfl, blk_lt hb, fun i hi j hj => ?_⟩
  have h2 := flat_get bc_len l i j hi hj
  rw [← hcs, Array.getElem?_toList] at h2
  rw [Nat.zero_add, ← h2]
  simp [World.cell?, hb]
theorem ret_true {a b : Bool} (h : a = b) : Ending.returned (.bool a) = .returned (.bool b) := by rw [h]
theorem f1 : onL 0 [49, 50, 51, 52, 53, 54, 55, 56, 57] = 3808858755 := by decide +kernel
theorem f2 : onL 0 [] = 0 := by decide +kernel
theorem f3 : onL (onL 0 [49, 50, 51, 52]) [53, 54, 55, 56, 57] = 3808858755 := by decide +kernel
set_option maxHeartbeats 4000000 in
set_option maxRecDepth 100000 in
theorem fixed (w : World) : Calls Try.prog 61 #[] w (RetB true w) := by
  have kc := fun (w : World) (C : Array Value) (n c : Nat) => Lib.run_convert_bytes_const (P := Try.prog) w 50 5 C n c Try.underlying50 Try.underlying5
  go_enter Try.func61, Try.ntmps61
  go_wp2_with fail
  refine (Of (some ⟨w.heap.size, 0, none⟩) 9 [49, 50, 51, 52, 53, 54, 55, 56, 57] _ (arg_litF (blk_new _ _) rfl) (by unfold maxLen; simp)).mono ?_
  rw [f1]
  rintro e w1 ⟨rfl, hU1⟩
  have hU01 : Upd Nil w w1 := ((Upd.refl _ _).alloc _).tr hU1
  clear hU1
  go_wp2_with fail
  refine (Of none 0 [] _ (.inl rfl) (by unfold maxLen; simp)).mono ?_
  rw [f2]
  rintro e w2 ⟨rfl, hU2⟩
  have hU02 := hU01.tr hU2
  clear hU2 hU01
  go_wp2_with fail
  refine (Of (some ⟨w2.heap.size, 0, none⟩) 4 [49, 50, 51, 52] _ (arg_litF (blk_new _ _) rfl) (by unfold maxLen; simp)).mono ?_
  rintro e w3 ⟨rfl, hU3⟩
  have hU03 : Upd Nil w w3 := (hU02.alloc _).tr hU3
  have hf3 := Lib.hid f3
  have hlt := onL_lt 0 [49, 50, 51, 52]
  generalize onL 0 [49, 50, 51, 52] = z at *
  have hltH := Lib.hid hlt
  clear hU3 hU02 hlt
  go_wp2_with fail
  refine (On (some ⟨w3.heap.size, 0, none⟩) 5 z [53, 54, 55, 56, 57] _ (arg_litF (blk_new _ _) rfl) hltH.out (by unfold maxLen; simp)).mono ?_
  rw [hf3.out]
  rintro e w4 ⟨rfl, hU4⟩
  have hU04 : Upd Nil w w4 := (hU03.alloc _).tr hU4
  go_wp2_with fail
  go_ret
  exact ⟨rfl, hU04⟩
set_option maxHeartbeats 4000000 in
set_option maxRecDepth 100000 in
theorem tells (A : Option Addr) (c : Nat) (l : List UInt8) (w : World) (hA : Arg w A 1 bc l) (hl : l.length ≤ maxLen) :
    Calls Try.prog 11 #[.slice A l.length c] w (RetB true w) := by
  have hlm := Lib.hid hl
  unfold maxLen at hl
  by_cases h2 : 2000 < l.length
  · go_enter Try.func11, Try.ntmps11
    go_wp2_with (go_at_call 61; refine (fixed _).mono ?_; rintro e w1 ⟨rfl, hU1⟩)
    go_ret
    exact ⟨rfl, hU1⟩
  · go_enter Try.func11, Try.ntmps11
    go_wp2_with fail
    refine (fixed _).mono ?_
    rintro e w1 ⟨rfl, hU1⟩
    go_wp2_with fail
    refine (Of A c l _ (hA.upd hU1) hlm.out).mono ?_
    rintro e w2 ⟨rfl, hU2⟩
    have hU02 := hU1.tr hU2
    go_wp2_with fail
    refine (rOf A c l _ (hA.upd hU02) hlm.out).mono ?_
    rintro e w3 ⟨rfl, hU3⟩
    go_wp2_with fail
    go_ret
    exact ⟨ret_true (by simp), hU02.tr hU3⟩
set_option maxHeartbeats 4000000 in
set_option maxRecDepth 100000 in
theorem goesOn (A : Option Addr) (c : Nat) (l : List UInt8) (a : Int) (w : World) (hA : Arg w A 1 bc l) (hc : l.length ≤ c) (hcm : c ≤ 140737488351232) (a0 : 0 ≤ a) (a1 : a ≤ 65535) :
    Calls Try.prog 12 #[.slice A l.length c, .int .u16 a] w (RetB true w) := by
  have hlm : Hid (l.length ≤ maxLen) := by show _ ≤ _; unfold maxLen; omega
  obtain ⟨n, hn, hnl⟩ : ∃ n : Nat, a % ((l.length : Int) + 1) = n ∧ n ≤ l.length := by
    refine ⟨(a % ((l.length : Int) + 1)).toNat, ?_, ?_⟩
    · have := Int.emod_nonneg a (b := (l.length : Int) + 1) (by omega); omega
    · have := Int.emod_lt_of_pos a (b := (l.length : Int) + 1) (by omega); omega
  have hnc : n ≤ c := by omega
  have hadd : A.map (fun x => x.add 0) = A := by cases A <;> rfl
  by_cases h5 : 5000 < l.length
  · have hd5 : decide ((5000 : Int) < (l.length : Int)) = true := decide_eq_true (by omega)
    go_enter Try.func12, Try.ntmps12
    go_wp2_with fail
    refine (fixed _).mono ?_
    rintro e w1 ⟨rfl, hU1⟩
    have hU1d := hU1.drew
    clear hU1 hA
    go_wp2_with fail
    refine wp_region_lex Nil [0, 1, 2, 3, 4, 5, 6, 8, 9, 10, 12, 7, 11, 13, 14, 15, 16] (by kernel_rfl) (by kernel_rfl) rfl (by kernel_rfl) ?_
    simp only [inOrder, List.filterMap_cons, List.filterMap_nil, List.getElem?_cons_zero, List.getElem?_cons_succ]
    try simp only [Act.put, List.setIfInBounds_toArray, List.set_cons_zero, List.set_cons_succ]
    repeat
      first
      | (refine lex_pure (v := ?_) rfl rfl ?_ ?_
         rotate_left
         · intro w' hU'
           go_simp
           try with_reducible rfl
         try simp only [Act.put, List.setIfInBounds_toArray, List.set_cons_zero, List.set_cons_succ])
      | (refine lex_skip rfl ?_
         try simp only [Act.put, List.setIfInBounds_toArray, List.set_cons_zero, List.set_cons_succ])
    refine lex_done ?_
    go_wp2
    go_ret
    exact ⟨rfl, hU1d⟩
  · have hd5 : decide ((5000 : Int) < (l.length : Int)) = false := decide_eq_false (by omega)
    have hD := Lib.hid (arg_drop hA n c hc hnl)
    have hT := arg_take hA n
    have htl : (l.take n).length = n := List.length_take_of_le hnl
    have hdl : (l.drop n).length = l.length - n := List.length_drop
    have kOf1 : ∀ w', Upd Nil w w' → Calls Try.prog 62 #[.slice A n c] w' (SumR (onL 0 (l.take n)) w') := fun w' u => by
      have := Of A c (l.take n) w' (hT.upd u) (by unfold maxLen; omega)
      rwa [htl] at this
    have kOf2 : ∀ w', Upd Nil w w' → Calls Try.prog 62 #[.slice A l.length c] w' (SumR (onL 0 l) w') := fun w' u => Of A c l w' (hA.upd u) hlm.out
    have kOn : ∀ w', Upd Nil w w' → Calls Try.prog 64 #[.int .u32 (onL 0 (l.take n) : Nat), .slice (if c = n then A else A.map (fun x => x.add n)) (l.length - n) (c - n)] w' (SumR (onL 0 l) w') := fun w' u => by
      have h1 := hD.out
      rw [Nat.mul_one] at h1
      have := On (if c = n then A else A.map (fun x => x.add n)) (c - n) (onL 0 (l.take n)) (l.drop n) w' (h1.upd u) (onL_lt _ _) (by unfold maxLen; omega)
      rwa [hdl, onL_append, List.take_append_drop] at this
    clear htl hdl hT hD
    by_cases hcn : c = n
    · rw [if_pos hcn] at kOn
      have hz1 : l.length - n = 0 := by omega
      have hz2 : c - n = 0 := by omega
      rw [hz1, hz2] at kOn
      subst hcn
      clear hz1 hz2
      go_enter Try.func12, Try.ntmps12
      go_wp2_with fail
      refine (fixed _).mono ?_
      rintro e w1 ⟨rfl, hU1⟩
      have hU1d := hU1.drew
      clear hU1 hA
      go_wp2_with fail
      refine wp_region_lex Nil [0, 1, 2, 3, 4, 5, 6, 8, 9, 10, 12, 7, 11, 13, 14, 15, 16] (by kernel_rfl) (by kernel_rfl) rfl (by kernel_rfl) ?_
      simp only [inOrder, List.filterMap_cons, List.filterMap_nil, List.getElem?_cons_zero, List.getElem?_cons_succ]
      try simp only [Act.put, List.setIfInBounds_toArray, List.set_cons_zero, List.set_cons_succ]
      repeat
        first
        | (refine lex_pure (v := ?_) rfl rfl ?_ ?_
           rotate_left
           · intro w' hU'
             go_simp
             try with_reducible rfl
           try simp only [Act.put, List.setIfInBounds_toArray, List.set_cons_zero, List.set_cons_succ])
        | (refine lex_skip rfl ?_
           try simp only [Act.put, List.setIfInBounds_toArray, List.set_cons_zero, List.set_cons_succ])
      refine lex_fn (f := 62) (args := #[.slice A c c]) rfl rfl (by go_simp) ((kOf1 _ hU1d).mono ?_)
      rintro e w2 ⟨rfl, hU2⟩
      refine ⟨_, rfl, hU2, ?_⟩
      try simp only [Act.put, List.setIfInBounds_toArray, List.set_cons_zero, List.set_cons_succ]
      repeat
        first
        | (refine lex_pure (v := ?_) rfl rfl ?_ ?_
           rotate_left
           · intro w' hU'
             go_simp
             try with_reducible rfl
           try simp only [Act.put, List.setIfInBounds_toArray, List.set_cons_zero, List.set_cons_succ])
        | (refine lex_skip rfl ?_
           try simp only [Act.put, List.setIfInBounds_toArray, List.set_cons_zero, List.set_cons_succ])
      refine lex_fn (f := 64) (args := #[.int .u32 (onL 0 (l.take c) : Nat), .slice A 0 0]) rfl rfl (by go_simp) ((kOn _ (hU1d.tr hU2)).mono ?_)
      rintro e w3 ⟨rfl, hU3⟩
      refine ⟨_, rfl, hU3, ?_⟩
      try simp only [Act.put, List.setIfInBounds_toArray, List.set_cons_zero, List.set_cons_succ]
      repeat
        first
        | (refine lex_pure (v := ?_) rfl rfl ?_ ?_
           rotate_left
           · intro w' hU'
             go_simp
             try with_reducible rfl
           try simp only [Act.put, List.setIfInBounds_toArray, List.set_cons_zero, List.set_cons_succ])
        | (refine lex_skip rfl ?_
           try simp only [Act.put, List.setIfInBounds_toArray, List.set_cons_zero, List.set_cons_succ])
      refine lex_fn (f := 62) (args := #[.slice A l.length c]) rfl rfl (by go_simp) ((kOf2 _ ((hU1d.tr hU2).tr hU3)).mono ?_)
      rintro e w4 ⟨rfl, hU4⟩
      refine ⟨_, rfl, hU4, ?_⟩
      try simp only [Act.put, List.setIfInBounds_toArray, List.set_cons_zero, List.set_cons_succ]
      repeat
        first
        | (refine lex_pure (v := ?_) rfl rfl ?_ ?_
           rotate_left
           · intro w' hU'
             go_simp
             try with_reducible rfl
           try simp only [Act.put, List.setIfInBounds_toArray, List.set_cons_zero, List.set_cons_succ])
        | (refine lex_skip rfl ?_
           try simp only [Act.put, List.setIfInBounds_toArray, List.set_cons_zero, List.set_cons_succ])
      refine lex_done ?_
      go_wp2
      go_ret
      exact ⟨ret_true (by simp), ((hU1d.tr hU2).tr hU3).tr hU4⟩
    · rw [if_neg hcn] at kOn
      go_enter Try.func12, Try.ntmps12
      go_wp2_with fail
      refine (fixed _).mono ?_
      rintro e w1 ⟨rfl, hU1⟩
      have hU1d := hU1.drew
      clear hU1 hA
      go_wp2_with fail
      refine wp_region_lex Nil [0, 1, 2, 3, 4, 5, 6, 8, 9, 10, 12, 7, 11, 13, 14, 15, 16] (by kernel_rfl) (by kernel_rfl) rfl (by kernel_rfl) ?_
      simp only [inOrder, List.filterMap_cons, List.filterMap_nil, List.getElem?_cons_zero, List.getElem?_cons_succ]
      try simp only [Act.put, List.setIfInBounds_toArray, List.set_cons_zero, List.set_cons_succ]
      repeat
        first
        | (refine lex_pure (v := ?_) rfl rfl ?_ ?_
           rotate_left
           · intro w' hU'
             go_simp
             try with_reducible rfl
           try simp only [Act.put, List.setIfInBounds_toArray, List.set_cons_zero, List.set_cons_succ])
        | (refine lex_skip rfl ?_
           try simp only [Act.put, List.setIfInBounds_toArray, List.set_cons_zero, List.set_cons_succ])
      refine lex_fn (f := 62) (args := #[.slice A n c]) rfl rfl (by go_simp) ((kOf1 _ hU1d).mono ?_)
      rintro e w2 ⟨rfl, hU2⟩
      refine ⟨_, rfl, hU2, ?_⟩
      try simp only [Act.put, List.setIfInBounds_toArray, List.set_cons_zero, List.set_cons_succ]
      repeat
        first
        | (refine lex_pure (v := ?_) rfl rfl ?_ ?_
           rotate_left
           · intro w' hU'
             go_simp
             try with_reducible rfl
           try simp only [Act.put, List.setIfInBounds_toArray, List.set_cons_zero, List.set_cons_succ])
        | (refine lex_skip rfl ?_
           try simp only [Act.put, List.setIfInBounds_toArray, List.set_cons_zero, List.set_cons_succ])
      refine lex_fn (f := 64) (args := #[.int .u32 (onL 0 (l.take n) : Nat), .slice (A.map (fun x => x.add n)) (l.length - n) (c - n)]) rfl rfl (by go_simp) ((kOn _ (hU1d.tr hU2)).mono ?_)
      rintro e w3 ⟨rfl, hU3⟩
      refine ⟨_, rfl, hU3, ?_⟩
      try simp only [Act.put, List.setIfInBounds_toArray, List.set_cons_zero, List.set_cons_succ]
      repeat
        first
        | (refine lex_pure (v := ?_) rfl rfl ?_ ?_
           rotate_left
           · intro w' hU'
             go_simp
             try with_reducible rfl
           try simp only [Act.put, List.setIfInBounds_toArray, List.set_cons_zero, List.set_cons_succ])
        | (refine lex_skip rfl ?_
           try simp only [Act.put, List.setIfInBounds_toArray, List.set_cons_zero, List.set_cons_succ])
      refine lex_fn (f := 62) (args := #[.slice A l.length c]) rfl rfl (by go_simp) ((kOf2 _ ((hU1d.tr hU2).tr hU3)).mono ?_)
      rintro e w4 ⟨rfl, hU4⟩
      refine ⟨_, rfl, hU4, ?_⟩
      try simp only [Act.put, List.setIfInBounds_toArray, List.set_cons_zero, List.set_cons_succ]
      repeat
        first
        | (refine lex_pure (v := ?_) rfl rfl ?_ ?_
           rotate_left
           · intro w' hU'
             go_simp
             try with_reducible rfl
           try simp only [Act.put, List.setIfInBounds_toArray, List.set_cons_zero, List.set_cons_succ])
        | (refine lex_skip rfl ?_
           try simp only [Act.put, List.setIfInBounds_toArray, List.set_cons_zero, List.set_cons_succ])
      refine lex_done ?_
      go_wp2
      go_ret
      exact ⟨ret_true (by simp), ((hU1d.tr hU2).tr hU3).tr hU4⟩
end Go.Proofs.Ytcifkccaiekkeaa.Sum
