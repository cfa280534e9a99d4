/-
  Levelling: the walk of trade. Conditions: what the rows hold.
-/
import Derived.Test.YtenhimaclecdpaaLevelF
namespace Go.Proofs.Ytenhimaclecdpaa.Level
open Go.RowKit Go.Proofs.Ytenhimaclecdpaa.Base Go.Proofs.Ytenhimaclecdpaa.Ints
set_option linter.unusedVariables false
set_option linter.unusedSimpArgs false
def trOf (o : Option (Nat × Nat)) : Value := .tuple #[(match o with | some (i, k) => .agg #[.int .i64 i, .int .i64 k] | none => .agg #[.int .i64 0, .int .i64 0]), .bool o.isSome]
def TradeR (o : Option (Nat × Nat)) (w : World) (e : Ending) (w' : World) : Prop := e = .returned (trOf o) ∧ Upd Nil w w'
set_option maxHeartbeats 4000000 in
set_option maxRecDepth 100000 in
theorem tradeC (F G : Nat → Prop) (b1 b2 : Nat) (a b : List Int) (s t : List Bool) (X S Y T : Value) (w : World) (hx : Lane F w b1 a s X S) (hy : Lane G w b2 b t Y T) (hs : s.length = a.length) (ht : t.length = b.length) (ha : a.length ≤ 1000) (hb : b.length ≤ 1000) :
    Calls Try.prog 45 #[.pointer (some ⟨b1, 0, none⟩), .pointer (some ⟨b2, 0, none⟩)] w (TradeR (trade a b s t) w) := by
  obtain ⟨A, cA, hX, hcA⟩ := hx.sx.form
  obtain ⟨B, cB, hY, hcB⟩ := hy.sx.form
  subst hX hY
  have hxs := hx.sx.cells ic_len (by omega)
  have hys := hy.sx.cells ic_len (by omega)
  have hU0 : Upd Nil w (w.alloc (.cells #[.int .i64 0, .int .i64 0] 33)).drew := ((Upd.refl Nil w).alloc _).drew
  have hw1 : ∀ w', Upd Nil (w.alloc (.cells #[.int .i64 0, .int .i64 0] 33)).drew w' → w'.cell? ⟨b1, 0, none⟩ = some (.slice A a.length cA) := fun w' u => blk_cell (hx.upd0 (hU0.tr u)).blk 0
  have hw2 : ∀ w', Upd Nil (w.alloc (.cells #[.int .i64 0, .int .i64 0] 33)).drew w' → w'.cell? ⟨b2, 0, none⟩ = some (.slice B b.length cB) := fun w' u => blk_cell (hy.upd0 (hU0.tr u)).blk 0
  by_cases hs1 : sum a < sum b
  · skip
    have hft : decide (sum b ≤ sum a) = false := by simp; omega
    have htr : trade a b s t = match pick a s false, pick b t true with | some i, some k => if beat false (a.getD i 0) (b.getD k 0) then some (i, k) else none | _, _ => none := by unfold trade; rw [hft]; rfl
    rw [htr]
    clear htr hft
    rcases hp1 : pick a s false with _ | i
    · rw [show (match (none : Option Nat), pick b t true with | some i, some k => if beat false (a.getD i 0) (b.getD k 0) then some (i, k) else none | _, _ => none) = none by cases pick b t true <;> rfl]
      go_enter Try.func45, Try.ntmps45
      go_wp2_with fail
      refine wp_region_lex Nil [0, 1, 2, 3, 5, 6, 7, 8, 4, 9, 10] (by kernel_rfl) (by kernel_rfl) rfl (by kernel_rfl) ?_
      simp only [inOrder, List.filterMap_cons, List.filterMap_nil, List.getElem?_cons_zero, List.getElem?_cons_succ]
      try simp only [Act.put, List.setIfInBounds_toArray, List.set_cons_zero, List.set_cons_succ]
      repeat
        first
        | (refine lex_pure (v := ?_) rfl rfl ?_ ?_
           rotate_left
           · intro w' hU'
             go_simp
             try with_reducible rfl
           try simp only [Act.put, List.setIfInBounds_toArray, List.set_cons_zero, List.set_cons_succ])
        | (refine lex_skip rfl ?_
           try simp only [Act.put, List.setIfInBounds_toArray, List.set_cons_zero, List.set_cons_succ])
      refine lex_fn (f := 15) (args := _) rfl rfl (by go_simp) ((sumC _ cA a _ (hxs.upd hU0) ha).mono ?_)
      rintro e w' ⟨rfl, rfl⟩
      refine ⟨_, rfl, Upd.refl _ _, ?_⟩
      try simp only [Act.put, List.setIfInBounds_toArray, List.set_cons_zero, List.set_cons_succ]
      repeat
        first
        | (refine lex_pure (v := ?_) rfl rfl ?_ ?_
           rotate_left
           · intro w' hU'
             go_simp
             try with_reducible rfl
           try simp only [Act.put, List.setIfInBounds_toArray, List.set_cons_zero, List.set_cons_succ])
        | (refine lex_skip rfl ?_
           try simp only [Act.put, List.setIfInBounds_toArray, List.set_cons_zero, List.set_cons_succ])
      refine lex_fn (f := 15) (args := _) rfl rfl (by go_simp) ((sumC _ cB b _ (hys.upd hU0) hb).mono ?_)
      rintro e w' ⟨rfl, rfl⟩
      refine ⟨_, rfl, Upd.refl _ _, ?_⟩
      try simp only [Act.put, List.setIfInBounds_toArray, List.set_cons_zero, List.set_cons_succ]
      repeat
        first
        | (refine lex_pure (v := ?_) rfl rfl ?_ ?_
           rotate_left
           · intro w' hU'
             go_simp
             try with_reducible rfl
           try simp only [Act.put, List.setIfInBounds_toArray, List.set_cons_zero, List.set_cons_succ])
        | (refine lex_skip rfl ?_
           try simp only [Act.put, List.setIfInBounds_toArray, List.set_cons_zero, List.set_cons_succ])
      refine lex_done ?_
      go_wp2_with fail
      refine (bestC F b1 a s _ _ _ (hx.upd0 hU0) hs ha false).mono ?_
      rintro e w' ⟨rfl, rfl⟩
      go_wp2_with fail
      refine (bestC G b2 b t _ _ _ (hy.upd0 hU0) ht hb true).mono ?_
      rintro e w' ⟨rfl, rfl⟩
      rw [show optI none = -1 from rfl]
      generalize optI (pick b t true) = kk
      have hbt : (((w.alloc (.cells #[.int .i64 0, .int .i64 0] 33)).alloc (.cells #[.int .i64 (-1), .int .i64 kk] 33)).drew.drew).heap[w.heap.size + 1]? = some (.cells #[.int .i64 (-1), .int .i64 kk] 33 (0, 0)) := by
        have := blk_new (w.alloc (.cells #[.int .i64 0, .int .i64 0] 33)) (.cells #[.int .i64 (-1), .int .i64 kk] 33)
        rw [show (w.alloc (.cells #[.int .i64 0, .int .i64 0] 33)).heap.size = w.heap.size + 1 by simp] at this
        exact this
      have hU2 : Upd Nil w (((w.alloc (.cells #[.int .i64 0, .int .i64 0] 33)).alloc (.cells #[.int .i64 (-1), .int .i64 kk] 33)).drew.drew) := (((Upd.refl Nil w).alloc _).alloc _).drew.drew
      have t0 : ∀ w', Upd Nil (((w.alloc (.cells #[.int .i64 0, .int .i64 0] 33)).alloc (.cells #[.int .i64 (-1), .int .i64 kk] 33)).drew.drew) w' → w'.cell? ⟨w.heap.size + 1, 0, none⟩ = some (.int .i64 (-1)) := fun w' u => blk_cell (u.blk hbt (fun h => h)) 0
      have t1 : ∀ w', Upd Nil (((w.alloc (.cells #[.int .i64 0, .int .i64 0] 33)).alloc (.cells #[.int .i64 (-1), .int .i64 kk] 33)).drew.drew) w' → w'.cell? ⟨w.heap.size + 1, 1, none⟩ = some (.int .i64 kk) := fun w' u => blk_cell (u.blk hbt (fun h => h)) 1
      have hbz : (((w.alloc (.cells #[.int .i64 0, .int .i64 0] 33)).alloc (.cells #[.int .i64 (-1), .int .i64 kk] 33)).drew.drew).heap[w.heap.size]? = some (.cells #[.int .i64 0, .int .i64 0] 33 (0, 0)) := blk_alloc (blk_new w (.cells #[.int .i64 0, .int .i64 0] 33)) _
      have z0 := blk_cell hbz 0
      have z1 := blk_cell hbz 1
      simp only [List.getElem?_toArray, List.getElem?_cons_zero, List.getElem?_cons_succ] at z0 z1
      go_wp2_with fail
      refine wp_region_lex Nil [0, 1, 2, 3, 4, 5, 6, 7, 8, 9, 10, 11, 12, 13, 14, 15, 16, 17, 18, 19, 20, 21, 22, 23, 24, 25, 26, 27, 28] (by kernel_rfl) (by kernel_rfl) rfl (by kernel_rfl) ?_
      simp only [inOrder, List.filterMap_cons, List.filterMap_nil, List.getElem?_cons_zero, List.getElem?_cons_succ]
      try simp only [Act.put, List.setIfInBounds_toArray, List.set_cons_zero, List.set_cons_succ]
      repeat
        first
        | (refine lex_pure (v := ?_) rfl rfl ?_ ?_
           rotate_left
           · intro w' hU'
             go_simp
             try with_reducible rfl
           try simp only [Act.put, List.setIfInBounds_toArray, List.set_cons_zero, List.set_cons_succ])
        | (refine lex_skip rfl ?_
           try simp only [Act.put, List.setIfInBounds_toArray, List.set_cons_zero, List.set_cons_succ])
      refine lex_done ?_
      go_wp2_with fail
      exact bodyPost_ret (v := trOf none) (by simp [results, Try.results45, go_sem, trOf, z0, z1]) rfl ⟨rfl, hU2⟩
    · rcases hp2 : pick b t true with _ | k
      · rw [show (match some i, (none : Option Nat) with | some i, some k => if beat false (a.getD i 0) (b.getD k 0) then some (i, k) else none | _, _ => none) = none from rfl]
        go_enter Try.func45, Try.ntmps45
        go_wp2_with fail
        refine wp_region_lex Nil [0, 1, 2, 3, 5, 6, 7, 8, 4, 9, 10] (by kernel_rfl) (by kernel_rfl) rfl (by kernel_rfl) ?_
        simp only [inOrder, List.filterMap_cons, List.filterMap_nil, List.getElem?_cons_zero, List.getElem?_cons_succ]
        try simp only [Act.put, List.setIfInBounds_toArray, List.set_cons_zero, List.set_cons_succ]
        repeat
          first
          | (refine lex_pure (v := ?_) rfl rfl ?_ ?_
             rotate_left
             · intro w' hU'
               go_simp
               try with_reducible rfl
             try simp only [Act.put, List.setIfInBounds_toArray, List.set_cons_zero, List.set_cons_succ])
          | (refine lex_skip rfl ?_
             try simp only [Act.put, List.setIfInBounds_toArray, List.set_cons_zero, List.set_cons_succ])
        refine lex_fn (f := 15) (args := _) rfl rfl (by go_simp) ((sumC _ cA a _ (hxs.upd hU0) ha).mono ?_)
        rintro e w' ⟨rfl, rfl⟩
        refine ⟨_, rfl, Upd.refl _ _, ?_⟩
        try simp only [Act.put, List.setIfInBounds_toArray, List.set_cons_zero, List.set_cons_succ]
        repeat
          first
          | (refine lex_pure (v := ?_) rfl rfl ?_ ?_
             rotate_left
             · intro w' hU'
               go_simp
               try with_reducible rfl
             try simp only [Act.put, List.setIfInBounds_toArray, List.set_cons_zero, List.set_cons_succ])
          | (refine lex_skip rfl ?_
             try simp only [Act.put, List.setIfInBounds_toArray, List.set_cons_zero, List.set_cons_succ])
        refine lex_fn (f := 15) (args := _) rfl rfl (by go_simp) ((sumC _ cB b _ (hys.upd hU0) hb).mono ?_)
        rintro e w' ⟨rfl, rfl⟩
        refine ⟨_, rfl, Upd.refl _ _, ?_⟩
        try simp only [Act.put, List.setIfInBounds_toArray, List.set_cons_zero, List.set_cons_succ]
        repeat
          first
          | (refine lex_pure (v := ?_) rfl rfl ?_ ?_
             rotate_left
             · intro w' hU'
               go_simp
               try with_reducible rfl
             try simp only [Act.put, List.setIfInBounds_toArray, List.set_cons_zero, List.set_cons_succ])
          | (refine lex_skip rfl ?_
             try simp only [Act.put, List.setIfInBounds_toArray, List.set_cons_zero, List.set_cons_succ])
        refine lex_done ?_
        go_wp2_with fail
        refine (bestC F b1 a s _ _ _ (hx.upd0 hU0) hs ha false).mono ?_
        rintro e w' ⟨rfl, rfl⟩
        go_wp2_with fail
        refine (bestC G b2 b t _ _ _ (hy.upd0 hU0) ht hb true).mono ?_
        rintro e w' ⟨rfl, rfl⟩
        try rw [hp1]
        try rw [hp2]
        rw [show optI none = -1 from rfl, show optI (some i) = (i : Int) from rfl]
        have hbt : (((w.alloc (.cells #[.int .i64 0, .int .i64 0] 33)).alloc (.cells #[.int .i64 i, .int .i64 (-1)] 33)).drew.drew).heap[w.heap.size + 1]? = some (.cells #[.int .i64 i, .int .i64 (-1)] 33 (0, 0)) := by
          have := blk_new (w.alloc (.cells #[.int .i64 0, .int .i64 0] 33)) (.cells #[.int .i64 i, .int .i64 (-1)] 33)
          rw [show (w.alloc (.cells #[.int .i64 0, .int .i64 0] 33)).heap.size = w.heap.size + 1 by simp] at this
          exact this
        have hU2 : Upd Nil w (((w.alloc (.cells #[.int .i64 0, .int .i64 0] 33)).alloc (.cells #[.int .i64 i, .int .i64 (-1)] 33)).drew.drew) := (((Upd.refl Nil w).alloc _).alloc _).drew.drew
        have t0 : ∀ w', Upd Nil (((w.alloc (.cells #[.int .i64 0, .int .i64 0] 33)).alloc (.cells #[.int .i64 i, .int .i64 (-1)] 33)).drew.drew) w' → w'.cell? ⟨w.heap.size + 1, 0, none⟩ = some (.int .i64 i) := fun w' u => blk_cell (u.blk hbt (fun h => h)) 0
        have t1 : ∀ w', Upd Nil (((w.alloc (.cells #[.int .i64 0, .int .i64 0] 33)).alloc (.cells #[.int .i64 i, .int .i64 (-1)] 33)).drew.drew) w' → w'.cell? ⟨w.heap.size + 1, 1, none⟩ = some (.int .i64 (-1)) := fun w' u => blk_cell (u.blk hbt (fun h => h)) 1
        have hbz : (((w.alloc (.cells #[.int .i64 0, .int .i64 0] 33)).alloc (.cells #[.int .i64 i, .int .i64 (-1)] 33)).drew.drew).heap[w.heap.size]? = some (.cells #[.int .i64 0, .int .i64 0] 33 (0, 0)) := blk_alloc (blk_new w (.cells #[.int .i64 0, .int .i64 0] 33)) _
        have z0 := blk_cell hbz 0
        have z1 := blk_cell hbz 1
        simp only [List.getElem?_toArray, List.getElem?_cons_zero, List.getElem?_cons_succ] at z0 z1
        have hin : ((i : Int) == -1) = false := by simp
        go_wp2_with fail
        refine wp_region_lex Nil [0, 1, 2, 3, 4, 5, 6, 7, 8, 9, 10, 11, 12, 13, 14, 15, 16, 17, 18, 19, 20, 21, 22, 23, 24, 25, 26, 27, 28] (by kernel_rfl) (by kernel_rfl) rfl (by kernel_rfl) ?_
        simp only [inOrder, List.filterMap_cons, List.filterMap_nil, List.getElem?_cons_zero, List.getElem?_cons_succ]
        try simp only [Act.put, List.setIfInBounds_toArray, List.set_cons_zero, List.set_cons_succ]
        repeat
          first
          | (refine lex_pure (v := ?_) rfl rfl ?_ ?_
             rotate_left
             · intro w' hU'
               go_simp
               try with_reducible rfl
             try simp only [Act.put, List.setIfInBounds_toArray, List.set_cons_zero, List.set_cons_succ])
          | (refine lex_skip rfl ?_
             try simp only [Act.put, List.setIfInBounds_toArray, List.set_cons_zero, List.set_cons_succ])
        refine lex_done ?_
        go_wp2_with fail
        exact bodyPost_ret (v := trOf none) (by simp [results, Try.results45, go_sem, trOf, z0, z1]) rfl ⟨rfl, hU2⟩
      · have hi := (pickN_lt _ _ _ _ _ hp1).1
        have hk := (pickN_lt _ _ _ _ _ hp2).1
        rw [show (match some i, some k with | some i, some k => if beat false (a.getD i 0) (b.getD k 0) then some (i, k) else none | _, _ => none) = if beat false (a.getD i 0) (b.getD k 0) then some (i, k) else none from rfl, gD hi, gD hk]
        have q := lessC a[i] b[k]
        obtain ⟨g, o, hA, hg, c0⟩ := ic_cell hxs hi
        obtain ⟨g2, o2, hB, hg2, c1⟩ := ic_cell hys hk
        subst hA hB
        generalize beat false a[i] b[k] = r at *
        generalize a[i] = vi at *
        generalize b[k] = vk at *
        cases r with
        | true =>
          rw [if_pos rfl]
          go_enter Try.func45, Try.ntmps45
          go_wp2_with fail
          refine wp_region_lex Nil [0, 1, 2, 3, 5, 6, 7, 8, 4, 9, 10] (by kernel_rfl) (by kernel_rfl) rfl (by kernel_rfl) ?_
          simp only [inOrder, List.filterMap_cons, List.filterMap_nil, List.getElem?_cons_zero, List.getElem?_cons_succ]
          try simp only [Act.put, List.setIfInBounds_toArray, List.set_cons_zero, List.set_cons_succ]
          repeat
            first
            | (refine lex_pure (v := ?_) rfl rfl ?_ ?_
               rotate_left
               · intro w' hU'
                 go_simp
                 try with_reducible rfl
               try simp only [Act.put, List.setIfInBounds_toArray, List.set_cons_zero, List.set_cons_succ])
            | (refine lex_skip rfl ?_
               try simp only [Act.put, List.setIfInBounds_toArray, List.set_cons_zero, List.set_cons_succ])
          refine lex_fn (f := 15) (args := _) rfl rfl (by go_simp) ((sumC _ cA a _ (hxs.upd hU0) ha).mono ?_)
          rintro e w' ⟨rfl, rfl⟩
          refine ⟨_, rfl, Upd.refl _ _, ?_⟩
          try simp only [Act.put, List.setIfInBounds_toArray, List.set_cons_zero, List.set_cons_succ]
          repeat
            first
            | (refine lex_pure (v := ?_) rfl rfl ?_ ?_
               rotate_left
               · intro w' hU'
                 go_simp
                 try with_reducible rfl
               try simp only [Act.put, List.setIfInBounds_toArray, List.set_cons_zero, List.set_cons_succ])
            | (refine lex_skip rfl ?_
               try simp only [Act.put, List.setIfInBounds_toArray, List.set_cons_zero, List.set_cons_succ])
          refine lex_fn (f := 15) (args := _) rfl rfl (by go_simp) ((sumC _ cB b _ (hys.upd hU0) hb).mono ?_)
          rintro e w' ⟨rfl, rfl⟩
          refine ⟨_, rfl, Upd.refl _ _, ?_⟩
          try simp only [Act.put, List.setIfInBounds_toArray, List.set_cons_zero, List.set_cons_succ]
          repeat
            first
            | (refine lex_pure (v := ?_) rfl rfl ?_ ?_
               rotate_left
               · intro w' hU'
                 go_simp
                 try with_reducible rfl
               try simp only [Act.put, List.setIfInBounds_toArray, List.set_cons_zero, List.set_cons_succ])
            | (refine lex_skip rfl ?_
               try simp only [Act.put, List.setIfInBounds_toArray, List.set_cons_zero, List.set_cons_succ])
          refine lex_done ?_
          go_wp2_with fail
          refine (bestC F b1 a s _ _ _ (hx.upd0 hU0) hs ha false).mono ?_
          rintro e w' ⟨rfl, rfl⟩
          go_wp2_with fail
          refine (bestC G b2 b t _ _ _ (hy.upd0 hU0) ht hb true).mono ?_
          rintro e w' ⟨rfl, rfl⟩
          try rw [hp1]
          try rw [hp2]
          rw [show optI (some k) = (k : Int) from rfl, show optI (some i) = (i : Int) from rfl]
          have hbt : (((w.alloc (.cells #[.int .i64 0, .int .i64 0] 33)).alloc (.cells #[.int .i64 i, .int .i64 k] 33)).drew.drew).heap[w.heap.size + 1]? = some (.cells #[.int .i64 i, .int .i64 k] 33 (0, 0)) := by
            have := blk_new (w.alloc (.cells #[.int .i64 0, .int .i64 0] 33)) (.cells #[.int .i64 i, .int .i64 k] 33)
            rw [show (w.alloc (.cells #[.int .i64 0, .int .i64 0] 33)).heap.size = w.heap.size + 1 by simp] at this
            exact this
          have hU2 : Upd Nil w (((w.alloc (.cells #[.int .i64 0, .int .i64 0] 33)).alloc (.cells #[.int .i64 i, .int .i64 k] 33)).drew.drew) := (((Upd.refl Nil w).alloc _).alloc _).drew.drew
          have t0 : ∀ w', Upd Nil (((w.alloc (.cells #[.int .i64 0, .int .i64 0] 33)).alloc (.cells #[.int .i64 i, .int .i64 k] 33)).drew.drew) w' → w'.cell? ⟨w.heap.size + 1, 0, none⟩ = some (.int .i64 i) := fun w' u => blk_cell (u.blk hbt (fun h => h)) 0
          have t1 : ∀ w', Upd Nil (((w.alloc (.cells #[.int .i64 0, .int .i64 0] 33)).alloc (.cells #[.int .i64 i, .int .i64 k] 33)).drew.drew) w' → w'.cell? ⟨w.heap.size + 1, 1, none⟩ = some (.int .i64 k) := fun w' u => blk_cell (u.blk hbt (fun h => h)) 1
          have hbz : (((w.alloc (.cells #[.int .i64 0, .int .i64 0] 33)).alloc (.cells #[.int .i64 i, .int .i64 k] 33)).drew.drew).heap[w.heap.size]? = some (.cells #[.int .i64 0, .int .i64 0] 33 (0, 0)) := blk_alloc (blk_new w (.cells #[.int .i64 0, .int .i64 0] 33)) _
          have z0 := blk_cell hbz 0
          have z1 := blk_cell hbz 1
          simp only [List.getElem?_toArray, List.getElem?_cons_zero, List.getElem?_cons_succ] at z0 z1
          have hin : ((i : Int) == -1) = false := by simp
          have hkn : ((k : Int) == -1) = false := by simp
          have hi1 : (i : Int) < (a.length : Int) := by omega
          have hk1 : (k : Int) < (b.length : Int) := by omega
          have hc0 := fun w' (u : Upd Nil _ w') => ((hU2.tr u).cell (p := ⟨g, o + i, none⟩) hg (fun h => h)).trans c0
          have hc1 := fun w' (u : Upd Nil _ w') => ((hU2.tr u).cell (p := ⟨g2, o2 + k, none⟩) hg2 (fun h => h)).trans c1
          have hv1 := fun w' (u : Upd Nil _ w') => blk_cell (hx.upd0 (hU2.tr u)).blk 0
          have hv2 := fun w' (u : Upd Nil _ w') => blk_cell (hy.upd0 (hU2.tr u)).blk 0
          simp only [List.getElem?_toArray, List.getElem?_cons_zero, List.getElem?_cons_succ] at hv1 hv2
          clear hw1 hw2
          have t0' := t0 _ (Upd.refl _ _)
          have t1' := t1 _ (Upd.refl _ _)
          go_wp2_with fail
          refine wp_region_lex Nil [0, 1, 2, 3, 4, 5, 6, 7, 8, 9, 10, 11, 12, 13, 14, 15, 16, 17, 18, 19, 20, 21, 22, 23, 24, 25, 26, 27, 28] (by kernel_rfl) (by kernel_rfl) rfl (by kernel_rfl) ?_
          simp only [inOrder, List.filterMap_cons, List.filterMap_nil, List.getElem?_cons_zero, List.getElem?_cons_succ]
          try simp only [Act.put, List.setIfInBounds_toArray, List.set_cons_zero, List.set_cons_succ]
          repeat
            first
            | (refine lex_pure (v := ?_) rfl rfl ?_ ?_
               rotate_left
               · intro w' hU'
                 go_simp
                 try with_reducible rfl
               try simp only [Act.put, List.setIfInBounds_toArray, List.set_cons_zero, List.set_cons_succ])
            | (refine lex_skip rfl ?_
               try simp only [Act.put, List.setIfInBounds_toArray, List.set_cons_zero, List.set_cons_succ])
          refine lex_fn (f := 78) (args := _) rfl rfl (by go_simp) ((q _).mono ?_)
          rintro e w' ⟨rfl, rfl⟩
          refine ⟨_, rfl, Upd.refl _ _, ?_⟩
          try simp only [Act.put, List.setIfInBounds_toArray, List.set_cons_zero, List.set_cons_succ]
          repeat
            first
            | (refine lex_pure (v := ?_) rfl rfl ?_ ?_
               rotate_left
               · intro w' hU'
                 go_simp
                 try with_reducible rfl
               try simp only [Act.put, List.setIfInBounds_toArray, List.set_cons_zero, List.set_cons_succ])
            | (refine lex_skip rfl ?_
               try simp only [Act.put, List.setIfInBounds_toArray, List.set_cons_zero, List.set_cons_succ])
          refine lex_done ?_
          go_wp2_with fail
          have hbz2 := blk_put (blk_put hbz 0 (.int .i64 i) rfl) 1 (.int .i64 k) rfl
          have y0 : World.cell? _ ⟨w.heap.size, 0, none⟩ = some (.int .i64 i) := blk_cell hbz2 0
          have y1 : World.cell? _ ⟨w.heap.size, 1, none⟩ = some (.int .i64 k) := blk_cell hbz2 1
          exact bodyPost_ret (v := trOf (some (i, k))) (by simp [results, Try.results45, go_sem, trOf, y0, y1]) rfl ⟨rfl, (((Upd.refl Nil w).alloc _).alloc _).drew.drew⟩
        | false =>
          rw [if_neg (by simp)]
          go_enter Try.func45, Try.ntmps45
          go_wp2_with fail
          refine wp_region_lex Nil [0, 1, 2, 3, 5, 6, 7, 8, 4, 9, 10] (by kernel_rfl) (by kernel_rfl) rfl (by kernel_rfl) ?_
          simp only [inOrder, List.filterMap_cons, List.filterMap_nil, List.getElem?_cons_zero, List.getElem?_cons_succ]
          try simp only [Act.put, List.setIfInBounds_toArray, List.set_cons_zero, List.set_cons_succ]
          repeat
            first
            | (refine lex_pure (v := ?_) rfl rfl ?_ ?_
               rotate_left
               · intro w' hU'
                 go_simp
                 try with_reducible rfl
               try simp only [Act.put, List.setIfInBounds_toArray, List.set_cons_zero, List.set_cons_succ])
            | (refine lex_skip rfl ?_
               try simp only [Act.put, List.setIfInBounds_toArray, List.set_cons_zero, List.set_cons_succ])
          refine lex_fn (f := 15) (args := _) rfl rfl (by go_simp) ((sumC _ cA a _ (hxs.upd hU0) ha).mono ?_)
          rintro e w' ⟨rfl, rfl⟩
          refine ⟨_, rfl, Upd.refl _ _, ?_⟩
          try simp only [Act.put, List.setIfInBounds_toArray, List.set_cons_zero, List.set_cons_succ]
          repeat
            first
            | (refine lex_pure (v := ?_) rfl rfl ?_ ?_
               rotate_left
               · intro w' hU'
                 go_simp
                 try with_reducible rfl
               try simp only [Act.put, List.setIfInBounds_toArray, List.set_cons_zero, List.set_cons_succ])
            | (refine lex_skip rfl ?_
               try simp only [Act.put, List.setIfInBounds_toArray, List.set_cons_zero, List.set_cons_succ])
          refine lex_fn (f := 15) (args := _) rfl rfl (by go_simp) ((sumC _ cB b _ (hys.upd hU0) hb).mono ?_)
          rintro e w' ⟨rfl, rfl⟩
          refine ⟨_, rfl, Upd.refl _ _, ?_⟩
          try simp only [Act.put, List.setIfInBounds_toArray, List.set_cons_zero, List.set_cons_succ]
          repeat
            first
            | (refine lex_pure (v := ?_) rfl rfl ?_ ?_
               rotate_left
               · intro w' hU'
                 go_simp
                 try with_reducible rfl
               try simp only [Act.put, List.setIfInBounds_toArray, List.set_cons_zero, List.set_cons_succ])
            | (refine lex_skip rfl ?_
               try simp only [Act.put, List.setIfInBounds_toArray, List.set_cons_zero, List.set_cons_succ])
          refine lex_done ?_
          go_wp2_with fail
          refine (bestC F b1 a s _ _ _ (hx.upd0 hU0) hs ha false).mono ?_
          rintro e w' ⟨rfl, rfl⟩
          go_wp2_with fail
          refine (bestC G b2 b t _ _ _ (hy.upd0 hU0) ht hb true).mono ?_
          rintro e w' ⟨rfl, rfl⟩
          try rw [hp1]
          try rw [hp2]
          rw [show optI (some k) = (k : Int) from rfl, show optI (some i) = (i : Int) from rfl]
          have hbt : (((w.alloc (.cells #[.int .i64 0, .int .i64 0] 33)).alloc (.cells #[.int .i64 i, .int .i64 k] 33)).drew.drew).heap[w.heap.size + 1]? = some (.cells #[.int .i64 i, .int .i64 k] 33 (0, 0)) := by
            have := blk_new (w.alloc (.cells #[.int .i64 0, .int .i64 0] 33)) (.cells #[.int .i64 i, .int .i64 k] 33)
            rw [show (w.alloc (.cells #[.int .i64 0, .int .i64 0] 33)).heap.size = w.heap.size + 1 by simp] at this
            exact this
          have hU2 : Upd Nil w (((w.alloc (.cells #[.int .i64 0, .int .i64 0] 33)).alloc (.cells #[.int .i64 i, .int .i64 k] 33)).drew.drew) := (((Upd.refl Nil w).alloc _).alloc _).drew.drew
          have t0 : ∀ w', Upd Nil (((w.alloc (.cells #[.int .i64 0, .int .i64 0] 33)).alloc (.cells #[.int .i64 i, .int .i64 k] 33)).drew.drew) w' → w'.cell? ⟨w.heap.size + 1, 0, none⟩ = some (.int .i64 i) := fun w' u => blk_cell (u.blk hbt (fun h => h)) 0
          have t1 : ∀ w', Upd Nil (((w.alloc (.cells #[.int .i64 0, .int .i64 0] 33)).alloc (.cells #[.int .i64 i, .int .i64 k] 33)).drew.drew) w' → w'.cell? ⟨w.heap.size + 1, 1, none⟩ = some (.int .i64 k) := fun w' u => blk_cell (u.blk hbt (fun h => h)) 1
          have hbz : (((w.alloc (.cells #[.int .i64 0, .int .i64 0] 33)).alloc (.cells #[.int .i64 i, .int .i64 k] 33)).drew.drew).heap[w.heap.size]? = some (.cells #[.int .i64 0, .int .i64 0] 33 (0, 0)) := blk_alloc (blk_new w (.cells #[.int .i64 0, .int .i64 0] 33)) _
          have z0 := blk_cell hbz 0
          have z1 := blk_cell hbz 1
          simp only [List.getElem?_toArray, List.getElem?_cons_zero, List.getElem?_cons_succ] at z0 z1
          have hin : ((i : Int) == -1) = false := by simp
          have hkn : ((k : Int) == -1) = false := by simp
          have hi1 : (i : Int) < (a.length : Int) := by omega
          have hk1 : (k : Int) < (b.length : Int) := by omega
          have hc0 := fun w' (u : Upd Nil _ w') => ((hU2.tr u).cell (p := ⟨g, o + i, none⟩) hg (fun h => h)).trans c0
          have hc1 := fun w' (u : Upd Nil _ w') => ((hU2.tr u).cell (p := ⟨g2, o2 + k, none⟩) hg2 (fun h => h)).trans c1
          have hv1 := fun w' (u : Upd Nil _ w') => blk_cell (hx.upd0 (hU2.tr u)).blk 0
          have hv2 := fun w' (u : Upd Nil _ w') => blk_cell (hy.upd0 (hU2.tr u)).blk 0
          simp only [List.getElem?_toArray, List.getElem?_cons_zero, List.getElem?_cons_succ] at hv1 hv2
          clear hw1 hw2
          have t0' := t0 _ (Upd.refl _ _)
          have t1' := t1 _ (Upd.refl _ _)
          go_wp2_with fail
          refine wp_region_lex Nil [0, 1, 2, 3, 4, 5, 6, 7, 8, 9, 10, 11, 12, 13, 14, 15, 16, 17, 18, 19, 20, 21, 22, 23, 24, 25, 26, 27, 28] (by kernel_rfl) (by kernel_rfl) rfl (by kernel_rfl) ?_
          simp only [inOrder, List.filterMap_cons, List.filterMap_nil, List.getElem?_cons_zero, List.getElem?_cons_succ]
          try simp only [Act.put, List.setIfInBounds_toArray, List.set_cons_zero, List.set_cons_succ]
          repeat
            first
            | (refine lex_pure (v := ?_) rfl rfl ?_ ?_
               rotate_left
               · intro w' hU'
                 go_simp
                 try with_reducible rfl
               try simp only [Act.put, List.setIfInBounds_toArray, List.set_cons_zero, List.set_cons_succ])
            | (refine lex_skip rfl ?_
               try simp only [Act.put, List.setIfInBounds_toArray, List.set_cons_zero, List.set_cons_succ])
          refine lex_fn (f := 78) (args := _) rfl rfl (by go_simp) ((q _).mono ?_)
          rintro e w' ⟨rfl, rfl⟩
          refine ⟨_, rfl, Upd.refl _ _, ?_⟩
          try simp only [Act.put, List.setIfInBounds_toArray, List.set_cons_zero, List.set_cons_succ]
          repeat
            first
            | (refine lex_pure (v := ?_) rfl rfl ?_ ?_
               rotate_left
               · intro w' hU'
                 go_simp
                 try with_reducible rfl
               try simp only [Act.put, List.setIfInBounds_toArray, List.set_cons_zero, List.set_cons_succ])
            | (refine lex_skip rfl ?_
               try simp only [Act.put, List.setIfInBounds_toArray, List.set_cons_zero, List.set_cons_succ])
          refine lex_done ?_
          go_wp2_with fail
          exact bodyPost_ret (v := trOf none) (by simp [results, Try.results45, go_sem, trOf, z0, z1]) rfl ⟨rfl, hU2⟩
  · skip
    have hft : decide (sum b ≤ sum a) = true := by simp; omega
    have htr : trade a b s t = match pick a s true, pick b t false with | some i, some k => if beat true (a.getD i 0) (b.getD k 0) then some (i, k) else none | _, _ => none := by unfold trade; rw [hft]; rfl
    rw [htr]
    clear htr hft
    rcases hp1 : pick a s true with _ | i
    · rw [show (match (none : Option Nat), pick b t false with | some i, some k => if beat true (a.getD i 0) (b.getD k 0) then some (i, k) else none | _, _ => none) = none by cases pick b t false <;> rfl]
      go_enter Try.func45, Try.ntmps45
      go_wp2_with fail
      refine wp_region_lex Nil [0, 1, 2, 3, 5, 6, 7, 8, 4, 9, 10] (by kernel_rfl) (by kernel_rfl) rfl (by kernel_rfl) ?_
      simp only [inOrder, List.filterMap_cons, List.filterMap_nil, List.getElem?_cons_zero, List.getElem?_cons_succ]
      try simp only [Act.put, List.setIfInBounds_toArray, List.set_cons_zero, List.set_cons_succ]
      repeat
        first
        | (refine lex_pure (v := ?_) rfl rfl ?_ ?_
           rotate_left
           · intro w' hU'
             go_simp
             try with_reducible rfl
           try simp only [Act.put, List.setIfInBounds_toArray, List.set_cons_zero, List.set_cons_succ])
        | (refine lex_skip rfl ?_
           try simp only [Act.put, List.setIfInBounds_toArray, List.set_cons_zero, List.set_cons_succ])
      refine lex_fn (f := 15) (args := _) rfl rfl (by go_simp) ((sumC _ cA a _ (hxs.upd hU0) ha).mono ?_)
      rintro e w' ⟨rfl, rfl⟩
      refine ⟨_, rfl, Upd.refl _ _, ?_⟩
      try simp only [Act.put, List.setIfInBounds_toArray, List.set_cons_zero, List.set_cons_succ]
      repeat
        first
        | (refine lex_pure (v := ?_) rfl rfl ?_ ?_
           rotate_left
           · intro w' hU'
             go_simp
             try with_reducible rfl
           try simp only [Act.put, List.setIfInBounds_toArray, List.set_cons_zero, List.set_cons_succ])
        | (refine lex_skip rfl ?_
           try simp only [Act.put, List.setIfInBounds_toArray, List.set_cons_zero, List.set_cons_succ])
      refine lex_fn (f := 15) (args := _) rfl rfl (by go_simp) ((sumC _ cB b _ (hys.upd hU0) hb).mono ?_)
      rintro e w' ⟨rfl, rfl⟩
      refine ⟨_, rfl, Upd.refl _ _, ?_⟩
      try simp only [Act.put, List.setIfInBounds_toArray, List.set_cons_zero, List.set_cons_succ]
      repeat
        first
        | (refine lex_pure (v := ?_) rfl rfl ?_ ?_
           rotate_left
           · intro w' hU'
             go_simp
             try with_reducible rfl
           try simp only [Act.put, List.setIfInBounds_toArray, List.set_cons_zero, List.set_cons_succ])
        | (refine lex_skip rfl ?_
           try simp only [Act.put, List.setIfInBounds_toArray, List.set_cons_zero, List.set_cons_succ])
      refine lex_done ?_
      go_wp2_with fail
      refine (bestC F b1 a s _ _ _ (hx.upd0 hU0) hs ha true).mono ?_
      rintro e w' ⟨rfl, rfl⟩
      go_wp2_with fail
      refine (bestC G b2 b t _ _ _ (hy.upd0 hU0) ht hb false).mono ?_
      rintro e w' ⟨rfl, rfl⟩
      rw [show optI none = -1 from rfl]
      generalize optI (pick b t false) = kk
      have hbt : (((w.alloc (.cells #[.int .i64 0, .int .i64 0] 33)).alloc (.cells #[.int .i64 (-1), .int .i64 kk] 33)).drew.drew).heap[w.heap.size + 1]? = some (.cells #[.int .i64 (-1), .int .i64 kk] 33 (0, 0)) := by
        have := blk_new (w.alloc (.cells #[.int .i64 0, .int .i64 0] 33)) (.cells #[.int .i64 (-1), .int .i64 kk] 33)
        rw [show (w.alloc (.cells #[.int .i64 0, .int .i64 0] 33)).heap.size = w.heap.size + 1 by simp] at this
        exact this
      have hU2 : Upd Nil w (((w.alloc (.cells #[.int .i64 0, .int .i64 0] 33)).alloc (.cells #[.int .i64 (-1), .int .i64 kk] 33)).drew.drew) := (((Upd.refl Nil w).alloc _).alloc _).drew.drew
      have t0 : ∀ w', Upd Nil (((w.alloc (.cells #[.int .i64 0, .int .i64 0] 33)).alloc (.cells #[.int .i64 (-1), .int .i64 kk] 33)).drew.drew) w' → w'.cell? ⟨w.heap.size + 1, 0, none⟩ = some (.int .i64 (-1)) := fun w' u => blk_cell (u.blk hbt (fun h => h)) 0
      have t1 : ∀ w', Upd Nil (((w.alloc (.cells #[.int .i64 0, .int .i64 0] 33)).alloc (.cells #[.int .i64 (-1), .int .i64 kk] 33)).drew.drew) w' → w'.cell? ⟨w.heap.size + 1, 1, none⟩ = some (.int .i64 kk) := fun w' u => blk_cell (u.blk hbt (fun h => h)) 1
      have hbz : (((w.alloc (.cells #[.int .i64 0, .int .i64 0] 33)).alloc (.cells #[.int .i64 (-1), .int .i64 kk] 33)).drew.drew).heap[w.heap.size]? = some (.cells #[.int .i64 0, .int .i64 0] 33 (0, 0)) := blk_alloc (blk_new w (.cells #[.int .i64 0, .int .i64 0] 33)) _
      have z0 := blk_cell hbz 0
      have z1 := blk_cell hbz 1
      simp only [List.getElem?_toArray, List.getElem?_cons_zero, List.getElem?_cons_succ] at z0 z1
      go_wp2_with fail
      refine wp_region_lex Nil [0, 1, 2, 3, 4, 5, 6, 7, 8, 9, 10, 11, 12, 13, 14, 15, 16, 17, 18, 19, 20, 21, 22, 23, 24, 25, 26, 27, 28] (by kernel_rfl) (by kernel_rfl) rfl (by kernel_rfl) ?_
      simp only [inOrder, List.filterMap_cons, List.filterMap_nil, List.getElem?_cons_zero, List.getElem?_cons_succ]
      try simp only [Act.put, List.setIfInBounds_toArray, List.set_cons_zero, List.set_cons_succ]
      repeat
        first
        | (refine lex_pure (v := ?_) rfl rfl ?_ ?_
           rotate_left
           · intro w' hU'
             go_simp
             try with_reducible rfl
           try simp only [Act.put, List.setIfInBounds_toArray, List.set_cons_zero, List.set_cons_succ])
        | (refine lex_skip rfl ?_
           try simp only [Act.put, List.setIfInBounds_toArray, List.set_cons_zero, List.set_cons_succ])
      refine lex_done ?_
      go_wp2_with fail
      exact bodyPost_ret (v := trOf none) (by simp [results, Try.results45, go_sem, trOf, z0, z1]) rfl ⟨rfl, hU2⟩
    · rcases hp2 : pick b t false with _ | k
      · rw [show (match some i, (none : Option Nat) with | some i, some k => if beat true (a.getD i 0) (b.getD k 0) then some (i, k) else none | _, _ => none) = none from rfl]
        go_enter Try.func45, Try.ntmps45
        go_wp2_with fail
        refine wp_region_lex Nil [0, 1, 2, 3, 5, 6, 7, 8, 4, 9, 10] (by kernel_rfl) (by kernel_rfl) rfl (by kernel_rfl) ?_
        simp only [inOrder, List.filterMap_cons, List.filterMap_nil, List.getElem?_cons_zero, List.getElem?_cons_succ]
        try simp only [Act.put, List.setIfInBounds_toArray, List.set_cons_zero, List.set_cons_succ]
        repeat
          first
          | (refine lex_pure (v := ?_) rfl rfl ?_ ?_
             rotate_left
             · intro w' hU'
               go_simp
               try with_reducible rfl
             try simp only [Act.put, List.setIfInBounds_toArray, List.set_cons_zero, List.set_cons_succ])
          | (refine lex_skip rfl ?_
             try simp only [Act.put, List.setIfInBounds_toArray, List.set_cons_zero, List.set_cons_succ])
        refine lex_fn (f := 15) (args := _) rfl rfl (by go_simp) ((sumC _ cA a _ (hxs.upd hU0) ha).mono ?_)
        rintro e w' ⟨rfl, rfl⟩
        refine ⟨_, rfl, Upd.refl _ _, ?_⟩
        try simp only [Act.put, List.setIfInBounds_toArray, List.set_cons_zero, List.set_cons_succ]
        repeat
          first
          | (refine lex_pure (v := ?_) rfl rfl ?_ ?_
             rotate_left
             · intro w' hU'
               go_simp
               try with_reducible rfl
             try simp only [Act.put, List.setIfInBounds_toArray, List.set_cons_zero, List.set_cons_succ])
          | (refine lex_skip rfl ?_
             try simp only [Act.put, List.setIfInBounds_toArray, List.set_cons_zero, List.set_cons_succ])
        refine lex_fn (f := 15) (args := _) rfl rfl (by go_simp) ((sumC _ cB b _ (hys.upd hU0) hb).mono ?_)
        rintro e w' ⟨rfl, rfl⟩
        refine ⟨_, rfl, Upd.refl _ _, ?_⟩
        try simp only [Act.put, List.setIfInBounds_toArray, List.set_cons_zero, List.set_cons_succ]
        repeat
          first
          | (refine lex_pure (v := ?_) rfl rfl ?_ ?_
             rotate_left
             · intro w' hU'
               go_simp
               try with_reducible rfl
             try simp only [Act.put, List.setIfInBounds_toArray, List.set_cons_zero, List.set_cons_succ])
          | (refine lex_skip rfl ?_
             try simp only [Act.put, List.setIfInBounds_toArray, List.set_cons_zero, List.set_cons_succ])
        refine lex_done ?_
        go_wp2_with fail
        refine (bestC F b1 a s _ _ _ (hx.upd0 hU0) hs ha true).mono ?_
        rintro e w' ⟨rfl, rfl⟩
        go_wp2_with fail
        refine (bestC G b2 b t _ _ _ (hy.upd0 hU0) ht hb false).mono ?_
        rintro e w' ⟨rfl, rfl⟩
        try rw [hp1]
        try rw [hp2]
        rw [show optI none = -1 from rfl, show optI (some i) = (i : Int) from rfl]
        have hbt : (((w.alloc (.cells #[.int .i64 0, .int .i64 0] 33)).alloc (.cells #[.int .i64 i, .int .i64 (-1)] 33)).drew.drew).heap[w.heap.size + 1]? = some (.cells #[.int .i64 i, .int .i64 (-1)] 33 (0, 0)) := by
          have := blk_new (w.alloc (.cells #[.int .i64 0, .int .i64 0] 33)) (.cells #[.int .i64 i, .int .i64 (-1)] 33)
          rw [show (w.alloc (.cells #[.int .i64 0, .int .i64 0] 33)).heap.size = w.heap.size + 1 by simp] at this
          exact this
        have hU2 : Upd Nil w (((w.alloc (.cells #[.int .i64 0, .int .i64 0] 33)).alloc (.cells #[.int .i64 i, .int .i64 (-1)] 33)).drew.drew) := (((Upd.refl Nil w).alloc _).alloc _).drew.drew
        have t0 : ∀ w', Upd Nil (((w.alloc (.cells #[.int .i64 0, .int .i64 0] 33)).alloc (.cells #[.int .i64 i, .int .i64 (-1)] 33)).drew.drew) w' → w'.cell? ⟨w.heap.size + 1, 0, none⟩ = some (.int .i64 i) := fun w' u => blk_cell (u.blk hbt (fun h => h)) 0
        have t1 : ∀ w', Upd Nil (((w.alloc (.cells #[.int .i64 0, .int .i64 0] 33)).alloc (.cells #[.int .i64 i, .int .i64 (-1)] 33)).drew.drew) w' → w'.cell? ⟨w.heap.size + 1, 1, none⟩ = some (.int .i64 (-1)) := fun w' u => blk_cell (u.blk hbt (fun h => h)) 1
        have hbz : (((w.alloc (.cells #[.int .i64 0, .int .i64 0] 33)).alloc (.cells #[.int .i64 i, .int .i64 (-1)] 33)).drew.drew).heap[w.heap.size]? = some (.cells #[.int .i64 0, .int .i64 0] 33 (0, 0)) := blk_alloc (blk_new w (.cells #[.int .i64 0, .int .i64 0] 33)) _
        have z0 := blk_cell hbz 0
        have z1 := blk_cell hbz 1
        simp only [List.getElem?_toArray, List.getElem?_cons_zero, List.getElem?_cons_succ] at z0 z1
        have hin : ((i : Int) == -1) = false := by simp
        go_wp2_with fail
        refine wp_region_lex Nil [0, 1, 2, 3, 4, 5, 6, 7, 8, 9, 10, 11, 12, 13, 14, 15, 16, 17, 18, 19, 20, 21, 22, 23, 24, 25, 26, 27, 28] (by kernel_rfl) (by kernel_rfl) rfl (by kernel_rfl) ?_
        simp only [inOrder, List.filterMap_cons, List.filterMap_nil, List.getElem?_cons_zero, List.getElem?_cons_succ]
        try simp only [Act.put, List.setIfInBounds_toArray, List.set_cons_zero, List.set_cons_succ]
        repeat
          first
          | (refine lex_pure (v := ?_) rfl rfl ?_ ?_
             rotate_left
             · intro w' hU'
               go_simp
               try with_reducible rfl
             try simp only [Act.put, List.setIfInBounds_toArray, List.set_cons_zero, List.set_cons_succ])
          | (refine lex_skip rfl ?_
             try simp only [Act.put, List.setIfInBounds_toArray, List.set_cons_zero, List.set_cons_succ])
        refine lex_done ?_
        go_wp2_with fail
        exact bodyPost_ret (v := trOf none) (by simp [results, Try.results45, go_sem, trOf, z0, z1]) rfl ⟨rfl, hU2⟩
      · have hi := (pickN_lt _ _ _ _ _ hp1).1
        have hk := (pickN_lt _ _ _ _ _ hp2).1
        rw [show (match some i, some k with | some i, some k => if beat true (a.getD i 0) (b.getD k 0) then some (i, k) else none | _, _ => none) = if beat true (a.getD i 0) (b.getD k 0) then some (i, k) else none from rfl, gD hi, gD hk]
        have q := moreC a[i] b[k]
        obtain ⟨g, o, hA, hg, c0⟩ := ic_cell hxs hi
        obtain ⟨g2, o2, hB, hg2, c1⟩ := ic_cell hys hk
        subst hA hB
        generalize beat true a[i] b[k] = r at *
        generalize a[i] = vi at *
        generalize b[k] = vk at *
        cases r with
        | true =>
          rw [if_pos rfl]
          go_enter Try.func45, Try.ntmps45
          go_wp2_with fail
          refine wp_region_lex Nil [0, 1, 2, 3, 5, 6, 7, 8, 4, 9, 10] (by kernel_rfl) (by kernel_rfl) rfl (by kernel_rfl) ?_
          simp only [inOrder, List.filterMap_cons, List.filterMap_nil, List.getElem?_cons_zero, List.getElem?_cons_succ]
          try simp only [Act.put, List.setIfInBounds_toArray, List.set_cons_zero, List.set_cons_succ]
          repeat
            first
            | (refine lex_pure (v := ?_) rfl rfl ?_ ?_
               rotate_left
               · intro w' hU'
                 go_simp
                 try with_reducible rfl
               try simp only [Act.put, List.setIfInBounds_toArray, List.set_cons_zero, List.set_cons_succ])
            | (refine lex_skip rfl ?_
               try simp only [Act.put, List.setIfInBounds_toArray, List.set_cons_zero, List.set_cons_succ])
          refine lex_fn (f := 15) (args := _) rfl rfl (by go_simp) ((sumC _ cA a _ (hxs.upd hU0) ha).mono ?_)
          rintro e w' ⟨rfl, rfl⟩
          refine ⟨_, rfl, Upd.refl _ _, ?_⟩
          try simp only [Act.put, List.setIfInBounds_toArray, List.set_cons_zero, List.set_cons_succ]
          repeat
            first
            | (refine lex_pure (v := ?_) rfl rfl ?_ ?_
               rotate_left
               · intro w' hU'
                 go_simp
                 try with_reducible rfl
               try simp only [Act.put, List.setIfInBounds_toArray, List.set_cons_zero, List.set_cons_succ])
            | (refine lex_skip rfl ?_
               try simp only [Act.put, List.setIfInBounds_toArray, List.set_cons_zero, List.set_cons_succ])
          refine lex_fn (f := 15) (args := _) rfl rfl (by go_simp) ((sumC _ cB b _ (hys.upd hU0) hb).mono ?_)
          rintro e w' ⟨rfl, rfl⟩
          refine ⟨_, rfl, Upd.refl _ _, ?_⟩
          try simp only [Act.put, List.setIfInBounds_toArray, List.set_cons_zero, List.set_cons_succ]
          repeat
            first
            | (refine lex_pure (v := ?_) rfl rfl ?_ ?_
               rotate_left
               · intro w' hU'
                 go_simp
                 try with_reducible rfl
               try simp only [Act.put, List.setIfInBounds_toArray, List.set_cons_zero, List.set_cons_succ])
            | (refine lex_skip rfl ?_
               try simp only [Act.put, List.setIfInBounds_toArray, List.set_cons_zero, List.set_cons_succ])
          refine lex_done ?_
          go_wp2_with fail
          refine (bestC F b1 a s _ _ _ (hx.upd0 hU0) hs ha true).mono ?_
          rintro e w' ⟨rfl, rfl⟩
          go_wp2_with fail
          refine (bestC G b2 b t _ _ _ (hy.upd0 hU0) ht hb false).mono ?_
          rintro e w' ⟨rfl, rfl⟩
          try rw [hp1]
          try rw [hp2]
          rw [show optI (some k) = (k : Int) from rfl, show optI (some i) = (i : Int) from rfl]
          have hbt : (((w.alloc (.cells #[.int .i64 0, .int .i64 0] 33)).alloc (.cells #[.int .i64 i, .int .i64 k] 33)).drew.drew).heap[w.heap.size + 1]? = some (.cells #[.int .i64 i, .int .i64 k] 33 (0, 0)) := by
            have := blk_new (w.alloc (.cells #[.int .i64 0, .int .i64 0] 33)) (.cells #[.int .i64 i, .int .i64 k] 33)
            rw [show (w.alloc (.cells #[.int .i64 0, .int .i64 0] 33)).heap.size = w.heap.size + 1 by simp] at this
            exact this
          have hU2 : Upd Nil w (((w.alloc (.cells #[.int .i64 0, .int .i64 0] 33)).alloc (.cells #[.int .i64 i, .int .i64 k] 33)).drew.drew) := (((Upd.refl Nil w).alloc _).alloc _).drew.drew
          have t0 : ∀ w', Upd Nil (((w.alloc (.cells #[.int .i64 0, .int .i64 0] 33)).alloc (.cells #[.int .i64 i, .int .i64 k] 33)).drew.drew) w' → w'.cell? ⟨w.heap.size + 1, 0, none⟩ = some (.int .i64 i) := fun w' u => blk_cell (u.blk hbt (fun h => h)) 0
          have t1 : ∀ w', Upd Nil (((w.alloc (.cells #[.int .i64 0, .int .i64 0] 33)).alloc (.cells #[.int .i64 i, .int .i64 k] 33)).drew.drew) w' → w'.cell? ⟨w.heap.size + 1, 1, none⟩ = some (.int .i64 k) := fun w' u => blk_cell (u.blk hbt (fun h => h)) 1
          have hbz : (((w.alloc (.cells #[.int .i64 0, .int .i64 0] 33)).alloc (.cells #[.int .i64 i, .int .i64 k] 33)).drew.drew).heap[w.heap.size]? = some (.cells #[.int .i64 0, .int .i64 0] 33 (0, 0)) := blk_alloc (blk_new w (.cells #[.int .i64 0, .int .i64 0] 33)) _
          have z0 := blk_cell hbz 0
          have z1 := blk_cell hbz 1
          simp only [List.getElem?_toArray, List.getElem?_cons_zero, List.getElem?_cons_succ] at z0 z1
          have hin : ((i : Int) == -1) = false := by simp
          have hkn : ((k : Int) == -1) = false := by simp
          have hi1 : (i : Int) < (a.length : Int) := by omega
          have hk1 : (k : Int) < (b.length : Int) := by omega
          have hc0 := fun w' (u : Upd Nil _ w') => ((hU2.tr u).cell (p := ⟨g, o + i, none⟩) hg (fun h => h)).trans c0
          have hc1 := fun w' (u : Upd Nil _ w') => ((hU2.tr u).cell (p := ⟨g2, o2 + k, none⟩) hg2 (fun h => h)).trans c1
          have hv1 := fun w' (u : Upd Nil _ w') => blk_cell (hx.upd0 (hU2.tr u)).blk 0
          have hv2 := fun w' (u : Upd Nil _ w') => blk_cell (hy.upd0 (hU2.tr u)).blk 0
          simp only [List.getElem?_toArray, List.getElem?_cons_zero, List.getElem?_cons_succ] at hv1 hv2
          clear hw1 hw2
          have t0' := t0 _ (Upd.refl _ _)
          have t1' := t1 _ (Upd.refl _ _)
          go_wp2_with fail
          refine wp_region_lex Nil [0, 1, 2, 3, 4, 5, 6, 7, 8, 9, 10, 11, 12, 13, 14, 15, 16, 17, 18, 19, 20, 21, 22, 23, 24, 25, 26, 27, 28] (by kernel_rfl) (by kernel_rfl) rfl (by kernel_rfl) ?_
          simp only [inOrder, List.filterMap_cons, List.filterMap_nil, List.getElem?_cons_zero, List.getElem?_cons_succ]
          try simp only [Act.put, List.setIfInBounds_toArray, List.set_cons_zero, List.set_cons_succ]
          repeat
            first
            | (refine lex_pure (v := ?_) rfl rfl ?_ ?_
               rotate_left
               · intro w' hU'
                 go_simp
                 try with_reducible rfl
               try simp only [Act.put, List.setIfInBounds_toArray, List.set_cons_zero, List.set_cons_succ])
            | (refine lex_skip rfl ?_
               try simp only [Act.put, List.setIfInBounds_toArray, List.set_cons_zero, List.set_cons_succ])
          refine lex_fn (f := 77) (args := _) rfl rfl (by go_simp) ((q _).mono ?_)
          rintro e w' ⟨rfl, rfl⟩
          refine ⟨_, rfl, Upd.refl _ _, ?_⟩
          try simp only [Act.put, List.setIfInBounds_toArray, List.set_cons_zero, List.set_cons_succ]
          repeat
            first
            | (refine lex_pure (v := ?_) rfl rfl ?_ ?_
               rotate_left
               · intro w' hU'
                 go_simp
                 try with_reducible rfl
               try simp only [Act.put, List.setIfInBounds_toArray, List.set_cons_zero, List.set_cons_succ])
            | (refine lex_skip rfl ?_
               try simp only [Act.put, List.setIfInBounds_toArray, List.set_cons_zero, List.set_cons_succ])
          refine lex_done ?_
          go_wp2_with fail
          have hbz2 := blk_put (blk_put hbz 0 (.int .i64 i) rfl) 1 (.int .i64 k) rfl
          have y0 : World.cell? _ ⟨w.heap.size, 0, none⟩ = some (.int .i64 i) := blk_cell hbz2 0
          have y1 : World.cell? _ ⟨w.heap.size, 1, none⟩ = some (.int .i64 k) := blk_cell hbz2 1
          exact bodyPost_ret (v := trOf (some (i, k))) (by simp [results, Try.results45, go_sem, trOf, y0, y1]) rfl ⟨rfl, (((Upd.refl Nil w).alloc _).alloc _).drew.drew⟩
        | false =>
          rw [if_neg (by simp)]
          go_enter Try.func45, Try.ntmps45
          go_wp2_with fail
          refine wp_region_lex Nil [0, 1, 2, 3, 5, 6, 7, 8, 4, 9, 10] (by kernel_rfl) (by kernel_rfl) rfl (by kernel_rfl) ?_
          simp only [inOrder, List.filterMap_cons, List.filterMap_nil, List.getElem?_cons_zero, List.getElem?_cons_succ]
          try simp only [Act.put, List.setIfInBounds_toArray, List.set_cons_zero, List.set_cons_succ]
          repeat
            first
            | (refine lex_pure (v := ?_) rfl rfl ?_ ?_
               rotate_left
               · intro w' hU'
                 go_simp
                 try with_reducible rfl
               try simp only [Act.put, List.setIfInBounds_toArray, List.set_cons_zero, List.set_cons_succ])
            | (refine lex_skip rfl ?_
               try simp only [Act.put, List.setIfInBounds_toArray, List.set_cons_zero, List.set_cons_succ])
          refine lex_fn (f := 15) (args := _) rfl rfl (by go_simp) ((sumC _ cA a _ (hxs.upd hU0) ha).mono ?_)
          rintro e w' ⟨rfl, rfl⟩
          refine ⟨_, rfl, Upd.refl _ _, ?_⟩
          try simp only [Act.put, List.setIfInBounds_toArray, List.set_cons_zero, List.set_cons_succ]
          repeat
            first
            | (refine lex_pure (v := ?_) rfl rfl ?_ ?_
               rotate_left
               · intro w' hU'
                 go_simp
                 try with_reducible rfl
               try simp only [Act.put, List.setIfInBounds_toArray, List.set_cons_zero, List.set_cons_succ])
            | (refine lex_skip rfl ?_
               try simp only [Act.put, List.setIfInBounds_toArray, List.set_cons_zero, List.set_cons_succ])
          refine lex_fn (f := 15) (args := _) rfl rfl (by go_simp) ((sumC _ cB b _ (hys.upd hU0) hb).mono ?_)
          rintro e w' ⟨rfl, rfl⟩
          refine ⟨_, rfl, Upd.refl _ _, ?_⟩
          try simp only [Act.put, List.setIfInBounds_toArray, List.set_cons_zero, List.set_cons_succ]
          repeat
            first
            | (refine lex_pure (v := ?_) rfl rfl ?_ ?_
               rotate_left
               · intro w' hU'
                 go_simp
                 try with_reducible rfl
               try simp only [Act.put, List.setIfInBounds_toArray, List.set_cons_zero, List.set_cons_succ])
            | (refine lex_skip rfl ?_
               try simp only [Act.put, List.setIfInBounds_toArray, List.set_cons_zero, List.set_cons_succ])
          refine lex_done ?_
          go_wp2_with fail
          refine (bestC F b1 a s _ _ _ (hx.upd0 hU0) hs ha true).mono ?_
          rintro e w' ⟨rfl, rfl⟩
          go_wp2_with fail
          refine (bestC G b2 b t _ _ _ (hy.upd0 hU0) ht hb false).mono ?_
          rintro e w' ⟨rfl, rfl⟩
          try rw [hp1]
          try rw [hp2]
          rw [show optI (some k) = (k : Int) from rfl, show optI (some i) = (i : Int) from rfl]
          have hbt : (((w.alloc (.cells #[.int .i64 0, .int .i64 0] 33)).alloc (.cells #[.int .i64 i, .int .i64 k] 33)).drew.drew).heap[w.heap.size + 1]? = some (.cells #[.int .i64 i, .int .i64 k] 33 (0, 0)) := by
            have := blk_new (w.alloc (.cells #[.int .i64 0, .int .i64 0] 33)) (.cells #[.int .i64 i, .int .i64 k] 33)
            rw [show (w.alloc (.cells #[.int .i64 0, .int .i64 0] 33)).heap.size = w.heap.size + 1 by simp] at this
            exact this
          have hU2 : Upd Nil w (((w.alloc (.cells #[.int .i64 0, .int .i64 0] 33)).alloc (.cells #[.int .i64 i, .int .i64 k] 33)).drew.drew) := (((Upd.refl Nil w).alloc _).alloc _).drew.drew
          have t0 : ∀ w', Upd Nil (((w.alloc (.cells #[.int .i64 0, .int .i64 0] 33)).alloc (.cells #[.int .i64 i, .int .i64 k] 33)).drew.drew) w' → w'.cell? ⟨w.heap.size + 1, 0, none⟩ = some (.int .i64 i) := fun w' u => blk_cell (u.blk hbt (fun h => h)) 0
          have t1 : ∀ w', Upd Nil (((w.alloc (.cells #[.int .i64 0, .int .i64 0] 33)).alloc (.cells #[.int .i64 i, .int .i64 k] 33)).drew.drew) w' → w'.cell? ⟨w.heap.size + 1, 1, none⟩ = some (.int .i64 k) := fun w' u => blk_cell (u.blk hbt (fun h => h)) 1
          have hbz : (((w.alloc (.cells #[.int .i64 0, .int .i64 0] 33)).alloc (.cells #[.int .i64 i, .int .i64 k] 33)).drew.drew).heap[w.heap.size]? = some (.cells #[.int .i64 0, .int .i64 0] 33 (0, 0)) := blk_alloc (blk_new w (.cells #[.int .i64 0, .int .i64 0] 33)) _
          have z0 := blk_cell hbz 0
          have z1 := blk_cell hbz 1
          simp only [List.getElem?_toArray, List.getElem?_cons_zero, List.getElem?_cons_succ] at z0 z1
          have hin : ((i : Int) == -1) = false := by simp
          have hkn : ((k : Int) == -1) = false := by simp
          have hi1 : (i : Int) < (a.length : Int) := by omega
          have hk1 : (k : Int) < (b.length : Int) := by omega
          have hc0 := fun w' (u : Upd Nil _ w') => ((hU2.tr u).cell (p := ⟨g, o + i, none⟩) hg (fun h => h)).trans c0
          have hc1 := fun w' (u : Upd Nil _ w') => ((hU2.tr u).cell (p := ⟨g2, o2 + k, none⟩) hg2 (fun h => h)).trans c1
          have hv1 := fun w' (u : Upd Nil _ w') => blk_cell (hx.upd0 (hU2.tr u)).blk 0
          have hv2 := fun w' (u : Upd Nil _ w') => blk_cell (hy.upd0 (hU2.tr u)).blk 0
          simp only [List.getElem?_toArray, List.getElem?_cons_zero, List.getElem?_cons_succ] at hv1 hv2
          clear hw1 hw2
          have t0' := t0 _ (Upd.refl _ _)
          have t1' := t1 _ (Upd.refl _ _)
          go_wp2_with fail
          refine wp_region_lex Nil [0, 1, 2, 3, 4, 5, 6, 7, 8, 9, 10, 11, 12, 13, 14, 15, 16, 17, 18, 19, 20, 21, 22, 23, 24, 25, 26, 27, 28] (by kernel_rfl) (by kernel_rfl) rfl (by kernel_rfl) ?_
          simp only [inOrder, List.filterMap_cons, List.filterMap_nil, List.getElem?_cons_zero, List.getElem?_cons_succ]
          try simp only [Act.put, List.setIfInBounds_toArray, List.set_cons_zero, List.set_cons_succ]
          repeat
            first
            | (refine lex_pure (v := ?_) rfl rfl ?_ ?_
               rotate_left
               · intro w' hU'
                 go_simp
                 try with_reducible rfl
               try simp only [Act.put, List.setIfInBounds_toArray, List.set_cons_zero, List.set_cons_succ])
            | (refine lex_skip rfl ?_
               try simp only [Act.put, List.setIfInBounds_toArray, List.set_cons_zero, List.set_cons_succ])
          refine lex_fn (f := 77) (args := _) rfl rfl (by go_simp) ((q _).mono ?_)
          rintro e w' ⟨rfl, rfl⟩
          refine ⟨_, rfl, Upd.refl _ _, ?_⟩
          try simp only [Act.put, List.setIfInBounds_toArray, List.set_cons_zero, List.set_cons_succ]
          repeat
            first
            | (refine lex_pure (v := ?_) rfl rfl ?_ ?_
               rotate_left
               · intro w' hU'
                 go_simp
                 try with_reducible rfl
               try simp only [Act.put, List.setIfInBounds_toArray, List.set_cons_zero, List.set_cons_succ])
            | (refine lex_skip rfl ?_
               try simp only [Act.put, List.setIfInBounds_toArray, List.set_cons_zero, List.set_cons_succ])
          refine lex_done ?_
          go_wp2_with fail
          exact bodyPost_ret (v := trOf none) (by simp [results, Try.results45, go_sem, trOf, z0, z1]) rfl ⟨rfl, hU2⟩
end Go.Proofs.Ytenhimaclecdpaa.Level
