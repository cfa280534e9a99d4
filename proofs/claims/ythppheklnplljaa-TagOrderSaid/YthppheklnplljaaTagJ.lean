/-
  Tags: the walk of the law TagOrder. Conditions: none.
-/
import Derived.Test.YthppheklnplljaaTagH
namespace Go.Proofs.Ythppheklnplljaa.Tag
open Go.RowKit Go.Proofs.Ythppheklnplljaa.Base Go.Proofs.Ythppheklnplljaa.Word Go.Proofs.Ythppheklnplljaa.Frame
set_option linter.unusedVariables false
set_option linter.unusedSimpArgs false
set_option maxHeartbeats 16000000 in
set_option maxRecDepth 100000 in
theorem order_law (a b c : Tg) (w : World) : Calls Try.prog 8 #[tgV a, tgV b, tgV c] w (RetB true w) := by
  have f1 := newB_not a b
  have f2 := newB_trans a b c
  have f3 := newB_some a b
  have k1 := fun w => newer a b w
  have k2 := fun w => newer b a w
  have k3 := fun w => newer b c w
  have k4 := fun w => newer a c w
  have k5 := fun w => newer a a w
  rw [newB_self] at k5
  generalize newB a b = ab at *
  generalize newB b a = ba at *
  generalize newB b c = nbc at *
  generalize newB a c = ac at *
  obtain ⟨a0, a1, a2, a3, a4, a5⟩ := a
  obtain ⟨b0, b1, b2, b3, b4, b5⟩ := b
  obtain ⟨c0, c1, c2, c3, c4, c5⟩ := c
  unfold tgV at *
  simp only at f3
  by_cases h : a3 = b3
  · subst h
    cases a5
    · cases b5
      · obtain ⟨rfl, rfl⟩ : ab = false ∧ ba = false := by revert f1 f3; cases ab <;> cases ba <;> simp
        go_enter Try.func8, Try.ntmps8
        go_wp2_with fail
        refine (fixed _).mono ?_
        rintro e w1 ⟨rfl, hU1⟩
        have hx := hU1.block w.heap.size (by simp; omega) (fun h => h)
        rw [blk_alloc (blk_alloc (blk_new _ _) _) _] at hx
        have hy := hU1.block (w.heap.size + 1) (by simp) (fun h => h)
        rw [blk_alloc (b := w.heap.size + 1) (o := .cells #[.int .i64 b0, .int .i64 b1, .int .i64 b2, .int .i64 a3, .int .i64 b4, .bool false] 35) (by have h := blk_new (w.alloc (.cells #[.int .i64 a0, .int .i64 a1, .int .i64 a2, .int .i64 a3, .int .i64 a4, .bool false] 35)) (.cells #[.int .i64 b0, .int .i64 b1, .int .i64 b2, .int .i64 a3, .int .i64 b4, .bool false] 35); simpa using h) _] at hy
        have hz := hU1.block (w.heap.size + 1 + 1) (by simp) (fun h => h)
        rw [show ∀ o1 o2 o3 : Obj, (((w.alloc o1).alloc o2).alloc o3).heap[w.heap.size + 1 + 1]? = some o3 by intro o1 o2 o3; have h := blk_new ((w.alloc o1).alloc o2) o3; simpa using h] at hz
        have hV1 := ((((Upd.refl Nil w).alloc _).alloc _).alloc _).tr hU1
        go_wp2_with fail
        have x0 : ∀ w', Upd Nil w1.drew w' → w'.cell? ⟨w.heap.size, 0, none⟩ = some (.int .i64 a0) := fun w' u => blk_cell (u.blk hx (fun h => h)) 0
        have x1 : ∀ w', Upd Nil w1.drew w' → w'.cell? ⟨w.heap.size, 1, none⟩ = some (.int .i64 a1) := fun w' u => blk_cell (u.blk hx (fun h => h)) 1
        have x2 : ∀ w', Upd Nil w1.drew w' → w'.cell? ⟨w.heap.size, 2, none⟩ = some (.int .i64 a2) := fun w' u => blk_cell (u.blk hx (fun h => h)) 2
        have x3 : ∀ w', Upd Nil w1.drew w' → w'.cell? ⟨w.heap.size, 3, none⟩ = some (.int .i64 a3) := fun w' u => blk_cell (u.blk hx (fun h => h)) 3
        have x4 : ∀ w', Upd Nil w1.drew w' → w'.cell? ⟨w.heap.size, 4, none⟩ = some (.int .i64 a4) := fun w' u => blk_cell (u.blk hx (fun h => h)) 4
        have x5 : ∀ w', Upd Nil w1.drew w' → w'.cell? ⟨w.heap.size, 5, none⟩ = some (.bool false) := fun w' u => blk_cell (u.blk hx (fun h => h)) 5
        have y0 : ∀ w', Upd Nil w1.drew w' → w'.cell? ⟨w.heap.size + 1, 0, none⟩ = some (.int .i64 b0) := fun w' u => blk_cell (u.blk hy (fun h => h)) 0
        have y1 : ∀ w', Upd Nil w1.drew w' → w'.cell? ⟨w.heap.size + 1, 1, none⟩ = some (.int .i64 b1) := fun w' u => blk_cell (u.blk hy (fun h => h)) 1
        have y2 : ∀ w', Upd Nil w1.drew w' → w'.cell? ⟨w.heap.size + 1, 2, none⟩ = some (.int .i64 b2) := fun w' u => blk_cell (u.blk hy (fun h => h)) 2
        have y3 : ∀ w', Upd Nil w1.drew w' → w'.cell? ⟨w.heap.size + 1, 3, none⟩ = some (.int .i64 a3) := fun w' u => blk_cell (u.blk hy (fun h => h)) 3
        have y4 : ∀ w', Upd Nil w1.drew w' → w'.cell? ⟨w.heap.size + 1, 4, none⟩ = some (.int .i64 b4) := fun w' u => blk_cell (u.blk hy (fun h => h)) 4
        have y5 : ∀ w', Upd Nil w1.drew w' → w'.cell? ⟨w.heap.size + 1, 5, none⟩ = some (.bool false) := fun w' u => blk_cell (u.blk hy (fun h => h)) 5
        have z0 : ∀ w', Upd Nil w1.drew w' → w'.cell? ⟨w.heap.size + 1 + 1, 0, none⟩ = some (.int .i64 c0) := fun w' u => blk_cell (u.blk hz (fun h => h)) 0
        have z1 : ∀ w', Upd Nil w1.drew w' → w'.cell? ⟨w.heap.size + 1 + 1, 1, none⟩ = some (.int .i64 c1) := fun w' u => blk_cell (u.blk hz (fun h => h)) 1
        have z2 : ∀ w', Upd Nil w1.drew w' → w'.cell? ⟨w.heap.size + 1 + 1, 2, none⟩ = some (.int .i64 c2) := fun w' u => blk_cell (u.blk hz (fun h => h)) 2
        have z3 : ∀ w', Upd Nil w1.drew w' → w'.cell? ⟨w.heap.size + 1 + 1, 3, none⟩ = some (.int .i64 c3) := fun w' u => blk_cell (u.blk hz (fun h => h)) 3
        have z4 : ∀ w', Upd Nil w1.drew w' → w'.cell? ⟨w.heap.size + 1 + 1, 4, none⟩ = some (.int .i64 c4) := fun w' u => blk_cell (u.blk hz (fun h => h)) 4
        have z5 : ∀ w', Upd Nil w1.drew w' → w'.cell? ⟨w.heap.size + 1 + 1, 5, none⟩ = some (.bool c5) := fun w' u => blk_cell (u.blk hz (fun h => h)) 5
        clear hU1 f1 f2 f3
        refine wp_region_lex Nil [0, 1, 3, 4, 6, 7, 9, 10, 2, 5, 8, 11, 12, 13, 14, 15] (by kernel_rfl) (by kernel_rfl) rfl (by kernel_rfl) ?_
        simp only [inOrder, List.filterMap_cons, List.filterMap_nil, List.getElem?_cons_zero, List.getElem?_cons_succ]
        try simp only [Act.put, List.setIfInBounds_toArray, List.set_cons_zero, List.set_cons_succ]
        repeat
          first
          | (refine lex_pure (v := ?_) rfl rfl ?_ ?_
             rotate_left
             · intro w' hU'
               go_simp
               try with_reducible rfl
             try simp only [Act.put, List.setIfInBounds_toArray, List.set_cons_zero, List.set_cons_succ])
          | (refine lex_skip rfl ?_
             try simp only [Act.put, List.setIfInBounds_toArray, List.set_cons_zero, List.set_cons_succ])
        refine lex_fn (f := 25) (args := _) rfl rfl (by go_simp) ((k1 _).mono ?_)
        rintro e w2 ⟨rfl, hU2⟩
        refine ⟨_, rfl, hU2, ?_⟩
        try simp only [Act.put, List.setIfInBounds_toArray, List.set_cons_zero, List.set_cons_succ]
        repeat
          first
          | (refine lex_pure (v := ?_) rfl rfl ?_ ?_
             rotate_left
             · intro w' hU'
               go_simp
               try with_reducible rfl
             try simp only [Act.put, List.setIfInBounds_toArray, List.set_cons_zero, List.set_cons_succ])
          | (refine lex_skip rfl ?_
             try simp only [Act.put, List.setIfInBounds_toArray, List.set_cons_zero, List.set_cons_succ])
        refine lex_fn (f := 25) (args := _) rfl rfl (by go_simp) ((k2 _).mono ?_)
        rintro e w3 ⟨rfl, hU3⟩
        refine ⟨_, rfl, hU3, ?_⟩
        try simp only [Act.put, List.setIfInBounds_toArray, List.set_cons_zero, List.set_cons_succ]
        repeat
          first
          | (refine lex_pure (v := ?_) rfl rfl ?_ ?_
             rotate_left
             · intro w' hU'
               go_simp
               try with_reducible rfl
             try simp only [Act.put, List.setIfInBounds_toArray, List.set_cons_zero, List.set_cons_succ])
          | (refine lex_skip rfl ?_
             try simp only [Act.put, List.setIfInBounds_toArray, List.set_cons_zero, List.set_cons_succ])
        refine lex_fn (f := 25) (args := _) rfl rfl (by go_simp) ((k3 _).mono ?_)
        rintro e w4 ⟨rfl, hU4⟩
        refine ⟨_, rfl, hU4, ?_⟩
        try simp only [Act.put, List.setIfInBounds_toArray, List.set_cons_zero, List.set_cons_succ]
        repeat
          first
          | (refine lex_pure (v := ?_) rfl rfl ?_ ?_
             rotate_left
             · intro w' hU'
               go_simp
               try with_reducible rfl
             try simp only [Act.put, List.setIfInBounds_toArray, List.set_cons_zero, List.set_cons_succ])
          | (refine lex_skip rfl ?_
             try simp only [Act.put, List.setIfInBounds_toArray, List.set_cons_zero, List.set_cons_succ])
        refine lex_fn (f := 25) (args := _) rfl rfl (by go_simp) ((k4 _).mono ?_)
        rintro e w5 ⟨rfl, hU5⟩
        refine ⟨_, rfl, hU5, ?_⟩
        try simp only [Act.put, List.setIfInBounds_toArray, List.set_cons_zero, List.set_cons_succ]
        repeat
          first
          | (refine lex_pure (v := ?_) rfl rfl ?_ ?_
             rotate_left
             · intro w' hU'
               go_simp
               try with_reducible rfl
             try simp only [Act.put, List.setIfInBounds_toArray, List.set_cons_zero, List.set_cons_succ])
          | (refine lex_skip rfl ?_
             try simp only [Act.put, List.setIfInBounds_toArray, List.set_cons_zero, List.set_cons_succ])
        refine lex_done ?_
        have hd5 : Upd Nil w1 w5 := (((Upd.refl Nil w1).drew.tr hU2).tr hU3).tr (hU4.tr hU5)
        have hx5 := hd5.blk hx (fun h => h)
        have hy5 := hd5.blk hy (fun h => h)
        clear x0 x1 x2 x3 x4 x5 y0 y1 y2 y3 y4 y5 z0 z1 z2 z3 z4 z5 hU2 hU3 hU4 hU5 k1 k2 k3 k4 hz
        have hx5c0 : (w5).cell? ⟨w.heap.size, 0, none⟩ = some (.int .i64 a0) := Base.blk_cell hx5 0
        have hx5z0 : (w5).frozen? ⟨w.heap.size, 0, none⟩ = false := Base.blk_frozen hx5 0
        have hx5c1 : (w5).cell? ⟨w.heap.size, 1, none⟩ = some (.int .i64 a1) := Base.blk_cell hx5 1
        have hx5z1 : (w5).frozen? ⟨w.heap.size, 1, none⟩ = false := Base.blk_frozen hx5 1
        have hx5c2 : (w5).cell? ⟨w.heap.size, 2, none⟩ = some (.int .i64 a2) := Base.blk_cell hx5 2
        have hx5z2 : (w5).frozen? ⟨w.heap.size, 2, none⟩ = false := Base.blk_frozen hx5 2
        have hx5c3 : (w5).cell? ⟨w.heap.size, 3, none⟩ = some (.int .i64 a3) := Base.blk_cell hx5 3
        have hx5z3 : (w5).frozen? ⟨w.heap.size, 3, none⟩ = false := Base.blk_frozen hx5 3
        have hx5c4 : (w5).cell? ⟨w.heap.size, 4, none⟩ = some (.int .i64 a4) := Base.blk_cell hx5 4
        have hx5z4 : (w5).frozen? ⟨w.heap.size, 4, none⟩ = false := Base.blk_frozen hx5 4
        have hx5c5 : (w5).cell? ⟨w.heap.size, 5, none⟩ = some (.bool false) := Base.blk_cell hx5 5
        have hx5z5 : (w5).frozen? ⟨w.heap.size, 5, none⟩ = false := Base.blk_frozen hx5 5
        go_wp2_with fail
        refine (k5 _).mono ?_
        rintro e w6 ⟨rfl, hU6⟩
        have hx6 := hU6.blk hx5 (fun h => h)
        have hy6 := hU6.blk hy5 (fun h => h)
        clear hx5c0 hx5c1 hx5c2 hx5c3 hx5c4 hx5c5 hx5z0 hx5z1 hx5z2 hx5z3 hx5z4 hx5z5 hx5 hy5
        have hx6c0 : (w6).cell? ⟨w.heap.size, 0, none⟩ = some (.int .i64 a0) := Base.blk_cell hx6 0
        have hx6z0 : (w6).frozen? ⟨w.heap.size, 0, none⟩ = false := Base.blk_frozen hx6 0
        have hx6c1 : (w6).cell? ⟨w.heap.size, 1, none⟩ = some (.int .i64 a1) := Base.blk_cell hx6 1
        have hx6z1 : (w6).frozen? ⟨w.heap.size, 1, none⟩ = false := Base.blk_frozen hx6 1
        have hx6c2 : (w6).cell? ⟨w.heap.size, 2, none⟩ = some (.int .i64 a2) := Base.blk_cell hx6 2
        have hx6z2 : (w6).frozen? ⟨w.heap.size, 2, none⟩ = false := Base.blk_frozen hx6 2
        have hx6c3 : (w6).cell? ⟨w.heap.size, 3, none⟩ = some (.int .i64 a3) := Base.blk_cell hx6 3
        have hx6z3 : (w6).frozen? ⟨w.heap.size, 3, none⟩ = false := Base.blk_frozen hx6 3
        have hx6c4 : (w6).cell? ⟨w.heap.size, 4, none⟩ = some (.int .i64 a4) := Base.blk_cell hx6 4
        have hx6z4 : (w6).frozen? ⟨w.heap.size, 4, none⟩ = false := Base.blk_frozen hx6 4
        have hx6c5 : (w6).cell? ⟨w.heap.size, 5, none⟩ = some (.bool false) := Base.blk_cell hx6 5
        have hx6z5 : (w6).frozen? ⟨w.heap.size, 5, none⟩ = false := Base.blk_frozen hx6 5
        have hy6c0 : (w6).cell? ⟨(w.heap.size + 1), 0, none⟩ = some (.int .i64 b0) := Base.blk_cell hy6 0
        have hy6z0 : (w6).frozen? ⟨(w.heap.size + 1), 0, none⟩ = false := Base.blk_frozen hy6 0
        have hy6c1 : (w6).cell? ⟨(w.heap.size + 1), 1, none⟩ = some (.int .i64 b1) := Base.blk_cell hy6 1
        have hy6z1 : (w6).frozen? ⟨(w.heap.size + 1), 1, none⟩ = false := Base.blk_frozen hy6 1
        have hy6c2 : (w6).cell? ⟨(w.heap.size + 1), 2, none⟩ = some (.int .i64 b2) := Base.blk_cell hy6 2
        have hy6z2 : (w6).frozen? ⟨(w.heap.size + 1), 2, none⟩ = false := Base.blk_frozen hy6 2
        have hy6c3 : (w6).cell? ⟨(w.heap.size + 1), 3, none⟩ = some (.int .i64 a3) := Base.blk_cell hy6 3
        have hy6z3 : (w6).frozen? ⟨(w.heap.size + 1), 3, none⟩ = false := Base.blk_frozen hy6 3
        have hy6c4 : (w6).cell? ⟨(w.heap.size + 1), 4, none⟩ = some (.int .i64 b4) := Base.blk_cell hy6 4
        have hy6z4 : (w6).frozen? ⟨(w.heap.size + 1), 4, none⟩ = false := Base.blk_frozen hy6 4
        have hy6c5 : (w6).cell? ⟨(w.heap.size + 1), 5, none⟩ = some (.bool false) := Base.blk_cell hy6 5
        have hy6z5 : (w6).frozen? ⟨(w.heap.size + 1), 5, none⟩ = false := Base.blk_frozen hy6 5
        go_wp2_with fail
        go_ret
        exact ⟨ret_b (by simp), (hV1.tr hd5).tr hU6⟩
      · cases ab
        · obtain rfl : ba = true := by revert f1 f3; cases ba <;> simp
          go_enter Try.func8, Try.ntmps8
          go_wp2_with fail
          refine (fixed _).mono ?_
          rintro e w1 ⟨rfl, hU1⟩
          have hx := hU1.block w.heap.size (by simp; omega) (fun h => h)
          rw [blk_alloc (blk_alloc (blk_new _ _) _) _] at hx
          have hy := hU1.block (w.heap.size + 1) (by simp) (fun h => h)
          rw [blk_alloc (b := w.heap.size + 1) (o := .cells #[.int .i64 b0, .int .i64 b1, .int .i64 b2, .int .i64 a3, .int .i64 b4, .bool true] 35) (by have h := blk_new (w.alloc (.cells #[.int .i64 a0, .int .i64 a1, .int .i64 a2, .int .i64 a3, .int .i64 a4, .bool false] 35)) (.cells #[.int .i64 b0, .int .i64 b1, .int .i64 b2, .int .i64 a3, .int .i64 b4, .bool true] 35); simpa using h) _] at hy
          have hz := hU1.block (w.heap.size + 1 + 1) (by simp) (fun h => h)
          rw [show ∀ o1 o2 o3 : Obj, (((w.alloc o1).alloc o2).alloc o3).heap[w.heap.size + 1 + 1]? = some o3 by intro o1 o2 o3; have h := blk_new ((w.alloc o1).alloc o2) o3; simpa using h] at hz
          have hV1 := ((((Upd.refl Nil w).alloc _).alloc _).alloc _).tr hU1
          go_wp2_with fail
          have x0 : ∀ w', Upd Nil w1.drew w' → w'.cell? ⟨w.heap.size, 0, none⟩ = some (.int .i64 a0) := fun w' u => blk_cell (u.blk hx (fun h => h)) 0
          have x1 : ∀ w', Upd Nil w1.drew w' → w'.cell? ⟨w.heap.size, 1, none⟩ = some (.int .i64 a1) := fun w' u => blk_cell (u.blk hx (fun h => h)) 1
          have x2 : ∀ w', Upd Nil w1.drew w' → w'.cell? ⟨w.heap.size, 2, none⟩ = some (.int .i64 a2) := fun w' u => blk_cell (u.blk hx (fun h => h)) 2
          have x3 : ∀ w', Upd Nil w1.drew w' → w'.cell? ⟨w.heap.size, 3, none⟩ = some (.int .i64 a3) := fun w' u => blk_cell (u.blk hx (fun h => h)) 3
          have x4 : ∀ w', Upd Nil w1.drew w' → w'.cell? ⟨w.heap.size, 4, none⟩ = some (.int .i64 a4) := fun w' u => blk_cell (u.blk hx (fun h => h)) 4
          have x5 : ∀ w', Upd Nil w1.drew w' → w'.cell? ⟨w.heap.size, 5, none⟩ = some (.bool false) := fun w' u => blk_cell (u.blk hx (fun h => h)) 5
          have y0 : ∀ w', Upd Nil w1.drew w' → w'.cell? ⟨w.heap.size + 1, 0, none⟩ = some (.int .i64 b0) := fun w' u => blk_cell (u.blk hy (fun h => h)) 0
          have y1 : ∀ w', Upd Nil w1.drew w' → w'.cell? ⟨w.heap.size + 1, 1, none⟩ = some (.int .i64 b1) := fun w' u => blk_cell (u.blk hy (fun h => h)) 1
          have y2 : ∀ w', Upd Nil w1.drew w' → w'.cell? ⟨w.heap.size + 1, 2, none⟩ = some (.int .i64 b2) := fun w' u => blk_cell (u.blk hy (fun h => h)) 2
          have y3 : ∀ w', Upd Nil w1.drew w' → w'.cell? ⟨w.heap.size + 1, 3, none⟩ = some (.int .i64 a3) := fun w' u => blk_cell (u.blk hy (fun h => h)) 3
          have y4 : ∀ w', Upd Nil w1.drew w' → w'.cell? ⟨w.heap.size + 1, 4, none⟩ = some (.int .i64 b4) := fun w' u => blk_cell (u.blk hy (fun h => h)) 4
          have y5 : ∀ w', Upd Nil w1.drew w' → w'.cell? ⟨w.heap.size + 1, 5, none⟩ = some (.bool true) := fun w' u => blk_cell (u.blk hy (fun h => h)) 5
          have z0 : ∀ w', Upd Nil w1.drew w' → w'.cell? ⟨w.heap.size + 1 + 1, 0, none⟩ = some (.int .i64 c0) := fun w' u => blk_cell (u.blk hz (fun h => h)) 0
          have z1 : ∀ w', Upd Nil w1.drew w' → w'.cell? ⟨w.heap.size + 1 + 1, 1, none⟩ = some (.int .i64 c1) := fun w' u => blk_cell (u.blk hz (fun h => h)) 1
          have z2 : ∀ w', Upd Nil w1.drew w' → w'.cell? ⟨w.heap.size + 1 + 1, 2, none⟩ = some (.int .i64 c2) := fun w' u => blk_cell (u.blk hz (fun h => h)) 2
          have z3 : ∀ w', Upd Nil w1.drew w' → w'.cell? ⟨w.heap.size + 1 + 1, 3, none⟩ = some (.int .i64 c3) := fun w' u => blk_cell (u.blk hz (fun h => h)) 3
          have z4 : ∀ w', Upd Nil w1.drew w' → w'.cell? ⟨w.heap.size + 1 + 1, 4, none⟩ = some (.int .i64 c4) := fun w' u => blk_cell (u.blk hz (fun h => h)) 4
          have z5 : ∀ w', Upd Nil w1.drew w' → w'.cell? ⟨w.heap.size + 1 + 1, 5, none⟩ = some (.bool c5) := fun w' u => blk_cell (u.blk hz (fun h => h)) 5
          clear hU1 f1 f2 f3
          refine wp_region_lex Nil [0, 1, 3, 4, 6, 7, 9, 10, 2, 5, 8, 11, 12, 13, 14, 15] (by kernel_rfl) (by kernel_rfl) rfl (by kernel_rfl) ?_
          simp only [inOrder, List.filterMap_cons, List.filterMap_nil, List.getElem?_cons_zero, List.getElem?_cons_succ]
          try simp only [Act.put, List.setIfInBounds_toArray, List.set_cons_zero, List.set_cons_succ]
          repeat
            first
            | (refine lex_pure (v := ?_) rfl rfl ?_ ?_
               rotate_left
               · intro w' hU'
                 go_simp
                 try with_reducible rfl
               try simp only [Act.put, List.setIfInBounds_toArray, List.set_cons_zero, List.set_cons_succ])
            | (refine lex_skip rfl ?_
               try simp only [Act.put, List.setIfInBounds_toArray, List.set_cons_zero, List.set_cons_succ])
          refine lex_fn (f := 25) (args := _) rfl rfl (by go_simp) ((k1 _).mono ?_)
          rintro e w2 ⟨rfl, hU2⟩
          refine ⟨_, rfl, hU2, ?_⟩
          try simp only [Act.put, List.setIfInBounds_toArray, List.set_cons_zero, List.set_cons_succ]
          repeat
            first
            | (refine lex_pure (v := ?_) rfl rfl ?_ ?_
               rotate_left
               · intro w' hU'
                 go_simp
                 try with_reducible rfl
               try simp only [Act.put, List.setIfInBounds_toArray, List.set_cons_zero, List.set_cons_succ])
            | (refine lex_skip rfl ?_
               try simp only [Act.put, List.setIfInBounds_toArray, List.set_cons_zero, List.set_cons_succ])
          refine lex_fn (f := 25) (args := _) rfl rfl (by go_simp) ((k2 _).mono ?_)
          rintro e w3 ⟨rfl, hU3⟩
          refine ⟨_, rfl, hU3, ?_⟩
          try simp only [Act.put, List.setIfInBounds_toArray, List.set_cons_zero, List.set_cons_succ]
          repeat
            first
            | (refine lex_pure (v := ?_) rfl rfl ?_ ?_
               rotate_left
               · intro w' hU'
                 go_simp
                 try with_reducible rfl
               try simp only [Act.put, List.setIfInBounds_toArray, List.set_cons_zero, List.set_cons_succ])
            | (refine lex_skip rfl ?_
               try simp only [Act.put, List.setIfInBounds_toArray, List.set_cons_zero, List.set_cons_succ])
          refine lex_fn (f := 25) (args := _) rfl rfl (by go_simp) ((k3 _).mono ?_)
          rintro e w4 ⟨rfl, hU4⟩
          refine ⟨_, rfl, hU4, ?_⟩
          try simp only [Act.put, List.setIfInBounds_toArray, List.set_cons_zero, List.set_cons_succ]
          repeat
            first
            | (refine lex_pure (v := ?_) rfl rfl ?_ ?_
               rotate_left
               · intro w' hU'
                 go_simp
                 try with_reducible rfl
               try simp only [Act.put, List.setIfInBounds_toArray, List.set_cons_zero, List.set_cons_succ])
            | (refine lex_skip rfl ?_
               try simp only [Act.put, List.setIfInBounds_toArray, List.set_cons_zero, List.set_cons_succ])
          refine lex_fn (f := 25) (args := _) rfl rfl (by go_simp) ((k4 _).mono ?_)
          rintro e w5 ⟨rfl, hU5⟩
          refine ⟨_, rfl, hU5, ?_⟩
          try simp only [Act.put, List.setIfInBounds_toArray, List.set_cons_zero, List.set_cons_succ]
          repeat
            first
            | (refine lex_pure (v := ?_) rfl rfl ?_ ?_
               rotate_left
               · intro w' hU'
                 go_simp
                 try with_reducible rfl
               try simp only [Act.put, List.setIfInBounds_toArray, List.set_cons_zero, List.set_cons_succ])
            | (refine lex_skip rfl ?_
               try simp only [Act.put, List.setIfInBounds_toArray, List.set_cons_zero, List.set_cons_succ])
          refine lex_done ?_
          have hd5 : Upd Nil w1 w5 := (((Upd.refl Nil w1).drew.tr hU2).tr hU3).tr (hU4.tr hU5)
          have hx5 := hd5.blk hx (fun h => h)
          have hy5 := hd5.blk hy (fun h => h)
          clear x0 x1 x2 x3 x4 x5 y0 y1 y2 y3 y4 y5 z0 z1 z2 z3 z4 z5 hU2 hU3 hU4 hU5 k1 k2 k3 k4 hz
          have hx5c0 : (w5).cell? ⟨w.heap.size, 0, none⟩ = some (.int .i64 a0) := Base.blk_cell hx5 0
          have hx5z0 : (w5).frozen? ⟨w.heap.size, 0, none⟩ = false := Base.blk_frozen hx5 0
          have hx5c1 : (w5).cell? ⟨w.heap.size, 1, none⟩ = some (.int .i64 a1) := Base.blk_cell hx5 1
          have hx5z1 : (w5).frozen? ⟨w.heap.size, 1, none⟩ = false := Base.blk_frozen hx5 1
          have hx5c2 : (w5).cell? ⟨w.heap.size, 2, none⟩ = some (.int .i64 a2) := Base.blk_cell hx5 2
          have hx5z2 : (w5).frozen? ⟨w.heap.size, 2, none⟩ = false := Base.blk_frozen hx5 2
          have hx5c3 : (w5).cell? ⟨w.heap.size, 3, none⟩ = some (.int .i64 a3) := Base.blk_cell hx5 3
          have hx5z3 : (w5).frozen? ⟨w.heap.size, 3, none⟩ = false := Base.blk_frozen hx5 3
          have hx5c4 : (w5).cell? ⟨w.heap.size, 4, none⟩ = some (.int .i64 a4) := Base.blk_cell hx5 4
          have hx5z4 : (w5).frozen? ⟨w.heap.size, 4, none⟩ = false := Base.blk_frozen hx5 4
          have hx5c5 : (w5).cell? ⟨w.heap.size, 5, none⟩ = some (.bool false) := Base.blk_cell hx5 5
          have hx5z5 : (w5).frozen? ⟨w.heap.size, 5, none⟩ = false := Base.blk_frozen hx5 5
          go_wp2_with fail
          refine (k5 _).mono ?_
          rintro e w6 ⟨rfl, hU6⟩
          have hx6 := hU6.blk hx5 (fun h => h)
          have hy6 := hU6.blk hy5 (fun h => h)
          clear hx5c0 hx5c1 hx5c2 hx5c3 hx5c4 hx5c5 hx5z0 hx5z1 hx5z2 hx5z3 hx5z4 hx5z5 hx5 hy5
          have hx6c0 : (w6).cell? ⟨w.heap.size, 0, none⟩ = some (.int .i64 a0) := Base.blk_cell hx6 0
          have hx6z0 : (w6).frozen? ⟨w.heap.size, 0, none⟩ = false := Base.blk_frozen hx6 0
          have hx6c1 : (w6).cell? ⟨w.heap.size, 1, none⟩ = some (.int .i64 a1) := Base.blk_cell hx6 1
          have hx6z1 : (w6).frozen? ⟨w.heap.size, 1, none⟩ = false := Base.blk_frozen hx6 1
          have hx6c2 : (w6).cell? ⟨w.heap.size, 2, none⟩ = some (.int .i64 a2) := Base.blk_cell hx6 2
          have hx6z2 : (w6).frozen? ⟨w.heap.size, 2, none⟩ = false := Base.blk_frozen hx6 2
          have hx6c3 : (w6).cell? ⟨w.heap.size, 3, none⟩ = some (.int .i64 a3) := Base.blk_cell hx6 3
          have hx6z3 : (w6).frozen? ⟨w.heap.size, 3, none⟩ = false := Base.blk_frozen hx6 3
          have hx6c4 : (w6).cell? ⟨w.heap.size, 4, none⟩ = some (.int .i64 a4) := Base.blk_cell hx6 4
          have hx6z4 : (w6).frozen? ⟨w.heap.size, 4, none⟩ = false := Base.blk_frozen hx6 4
          have hx6c5 : (w6).cell? ⟨w.heap.size, 5, none⟩ = some (.bool false) := Base.blk_cell hx6 5
          have hx6z5 : (w6).frozen? ⟨w.heap.size, 5, none⟩ = false := Base.blk_frozen hx6 5
          have hy6c0 : (w6).cell? ⟨(w.heap.size + 1), 0, none⟩ = some (.int .i64 b0) := Base.blk_cell hy6 0
          have hy6z0 : (w6).frozen? ⟨(w.heap.size + 1), 0, none⟩ = false := Base.blk_frozen hy6 0
          have hy6c1 : (w6).cell? ⟨(w.heap.size + 1), 1, none⟩ = some (.int .i64 b1) := Base.blk_cell hy6 1
          have hy6z1 : (w6).frozen? ⟨(w.heap.size + 1), 1, none⟩ = false := Base.blk_frozen hy6 1
          have hy6c2 : (w6).cell? ⟨(w.heap.size + 1), 2, none⟩ = some (.int .i64 b2) := Base.blk_cell hy6 2
          have hy6z2 : (w6).frozen? ⟨(w.heap.size + 1), 2, none⟩ = false := Base.blk_frozen hy6 2
          have hy6c3 : (w6).cell? ⟨(w.heap.size + 1), 3, none⟩ = some (.int .i64 a3) := Base.blk_cell hy6 3
          have hy6z3 : (w6).frozen? ⟨(w.heap.size + 1), 3, none⟩ = false := Base.blk_frozen hy6 3
          have hy6c4 : (w6).cell? ⟨(w.heap.size + 1), 4, none⟩ = some (.int .i64 b4) := Base.blk_cell hy6 4
          have hy6z4 : (w6).frozen? ⟨(w.heap.size + 1), 4, none⟩ = false := Base.blk_frozen hy6 4
          have hy6c5 : (w6).cell? ⟨(w.heap.size + 1), 5, none⟩ = some (.bool true) := Base.blk_cell hy6 5
          have hy6z5 : (w6).frozen? ⟨(w.heap.size + 1), 5, none⟩ = false := Base.blk_frozen hy6 5
          go_wp2_with fail
          go_ret
          exact ⟨ret_b (by simp), (hV1.tr hd5).tr hU6⟩
        · obtain rfl : ba = false := by revert f1 f3; cases ba <;> simp
          cases nbc
          · skip
            go_enter Try.func8, Try.ntmps8
            go_wp2_with fail
            refine (fixed _).mono ?_
            rintro e w1 ⟨rfl, hU1⟩
            have hx := hU1.block w.heap.size (by simp; omega) (fun h => h)
            rw [blk_alloc (blk_alloc (blk_new _ _) _) _] at hx
            have hy := hU1.block (w.heap.size + 1) (by simp) (fun h => h)
            rw [blk_alloc (b := w.heap.size + 1) (o := .cells #[.int .i64 b0, .int .i64 b1, .int .i64 b2, .int .i64 a3, .int .i64 b4, .bool true] 35) (by have h := blk_new (w.alloc (.cells #[.int .i64 a0, .int .i64 a1, .int .i64 a2, .int .i64 a3, .int .i64 a4, .bool false] 35)) (.cells #[.int .i64 b0, .int .i64 b1, .int .i64 b2, .int .i64 a3, .int .i64 b4, .bool true] 35); simpa using h) _] at hy
            have hz := hU1.block (w.heap.size + 1 + 1) (by simp) (fun h => h)
            rw [show ∀ o1 o2 o3 : Obj, (((w.alloc o1).alloc o2).alloc o3).heap[w.heap.size + 1 + 1]? = some o3 by intro o1 o2 o3; have h := blk_new ((w.alloc o1).alloc o2) o3; simpa using h] at hz
            have hV1 := ((((Upd.refl Nil w).alloc _).alloc _).alloc _).tr hU1
            go_wp2_with fail
            have x0 : ∀ w', Upd Nil w1.drew w' → w'.cell? ⟨w.heap.size, 0, none⟩ = some (.int .i64 a0) := fun w' u => blk_cell (u.blk hx (fun h => h)) 0
            have x1 : ∀ w', Upd Nil w1.drew w' → w'.cell? ⟨w.heap.size, 1, none⟩ = some (.int .i64 a1) := fun w' u => blk_cell (u.blk hx (fun h => h)) 1
            have x2 : ∀ w', Upd Nil w1.drew w' → w'.cell? ⟨w.heap.size, 2, none⟩ = some (.int .i64 a2) := fun w' u => blk_cell (u.blk hx (fun h => h)) 2
            have x3 : ∀ w', Upd Nil w1.drew w' → w'.cell? ⟨w.heap.size, 3, none⟩ = some (.int .i64 a3) := fun w' u => blk_cell (u.blk hx (fun h => h)) 3
            have x4 : ∀ w', Upd Nil w1.drew w' → w'.cell? ⟨w.heap.size, 4, none⟩ = some (.int .i64 a4) := fun w' u => blk_cell (u.blk hx (fun h => h)) 4
            have x5 : ∀ w', Upd Nil w1.drew w' → w'.cell? ⟨w.heap.size, 5, none⟩ = some (.bool false) := fun w' u => blk_cell (u.blk hx (fun h => h)) 5
            have y0 : ∀ w', Upd Nil w1.drew w' → w'.cell? ⟨w.heap.size + 1, 0, none⟩ = some (.int .i64 b0) := fun w' u => blk_cell (u.blk hy (fun h => h)) 0
            have y1 : ∀ w', Upd Nil w1.drew w' → w'.cell? ⟨w.heap.size + 1, 1, none⟩ = some (.int .i64 b1) := fun w' u => blk_cell (u.blk hy (fun h => h)) 1
            have y2 : ∀ w', Upd Nil w1.drew w' → w'.cell? ⟨w.heap.size + 1, 2, none⟩ = some (.int .i64 b2) := fun w' u => blk_cell (u.blk hy (fun h => h)) 2
            have y3 : ∀ w', Upd Nil w1.drew w' → w'.cell? ⟨w.heap.size + 1, 3, none⟩ = some (.int .i64 a3) := fun w' u => blk_cell (u.blk hy (fun h => h)) 3
            have y4 : ∀ w', Upd Nil w1.drew w' → w'.cell? ⟨w.heap.size + 1, 4, none⟩ = some (.int .i64 b4) := fun w' u => blk_cell (u.blk hy (fun h => h)) 4
            have y5 : ∀ w', Upd Nil w1.drew w' → w'.cell? ⟨w.heap.size + 1, 5, none⟩ = some (.bool true) := fun w' u => blk_cell (u.blk hy (fun h => h)) 5
            have z0 : ∀ w', Upd Nil w1.drew w' → w'.cell? ⟨w.heap.size + 1 + 1, 0, none⟩ = some (.int .i64 c0) := fun w' u => blk_cell (u.blk hz (fun h => h)) 0
            have z1 : ∀ w', Upd Nil w1.drew w' → w'.cell? ⟨w.heap.size + 1 + 1, 1, none⟩ = some (.int .i64 c1) := fun w' u => blk_cell (u.blk hz (fun h => h)) 1
            have z2 : ∀ w', Upd Nil w1.drew w' → w'.cell? ⟨w.heap.size + 1 + 1, 2, none⟩ = some (.int .i64 c2) := fun w' u => blk_cell (u.blk hz (fun h => h)) 2
            have z3 : ∀ w', Upd Nil w1.drew w' → w'.cell? ⟨w.heap.size + 1 + 1, 3, none⟩ = some (.int .i64 c3) := fun w' u => blk_cell (u.blk hz (fun h => h)) 3
            have z4 : ∀ w', Upd Nil w1.drew w' → w'.cell? ⟨w.heap.size + 1 + 1, 4, none⟩ = some (.int .i64 c4) := fun w' u => blk_cell (u.blk hz (fun h => h)) 4
            have z5 : ∀ w', Upd Nil w1.drew w' → w'.cell? ⟨w.heap.size + 1 + 1, 5, none⟩ = some (.bool c5) := fun w' u => blk_cell (u.blk hz (fun h => h)) 5
            clear hU1 f1 f2 f3
            refine wp_region_lex Nil [0, 1, 3, 4, 6, 7, 9, 10, 2, 5, 8, 11, 12, 13, 14, 15] (by kernel_rfl) (by kernel_rfl) rfl (by kernel_rfl) ?_
            simp only [inOrder, List.filterMap_cons, List.filterMap_nil, List.getElem?_cons_zero, List.getElem?_cons_succ]
            try simp only [Act.put, List.setIfInBounds_toArray, List.set_cons_zero, List.set_cons_succ]
            repeat
              first
              | (refine lex_pure (v := ?_) rfl rfl ?_ ?_
                 rotate_left
                 · intro w' hU'
                   go_simp
                   try with_reducible rfl
                 try simp only [Act.put, List.setIfInBounds_toArray, List.set_cons_zero, List.set_cons_succ])
              | (refine lex_skip rfl ?_
                 try simp only [Act.put, List.setIfInBounds_toArray, List.set_cons_zero, List.set_cons_succ])
            refine lex_fn (f := 25) (args := _) rfl rfl (by go_simp) ((k1 _).mono ?_)
            rintro e w2 ⟨rfl, hU2⟩
            refine ⟨_, rfl, hU2, ?_⟩
            try simp only [Act.put, List.setIfInBounds_toArray, List.set_cons_zero, List.set_cons_succ]
            repeat
              first
              | (refine lex_pure (v := ?_) rfl rfl ?_ ?_
                 rotate_left
                 · intro w' hU'
                   go_simp
                   try with_reducible rfl
                 try simp only [Act.put, List.setIfInBounds_toArray, List.set_cons_zero, List.set_cons_succ])
              | (refine lex_skip rfl ?_
                 try simp only [Act.put, List.setIfInBounds_toArray, List.set_cons_zero, List.set_cons_succ])
            refine lex_fn (f := 25) (args := _) rfl rfl (by go_simp) ((k2 _).mono ?_)
            rintro e w3 ⟨rfl, hU3⟩
            refine ⟨_, rfl, hU3, ?_⟩
            try simp only [Act.put, List.setIfInBounds_toArray, List.set_cons_zero, List.set_cons_succ]
            repeat
              first
              | (refine lex_pure (v := ?_) rfl rfl ?_ ?_
                 rotate_left
                 · intro w' hU'
                   go_simp
                   try with_reducible rfl
                 try simp only [Act.put, List.setIfInBounds_toArray, List.set_cons_zero, List.set_cons_succ])
              | (refine lex_skip rfl ?_
                 try simp only [Act.put, List.setIfInBounds_toArray, List.set_cons_zero, List.set_cons_succ])
            refine lex_fn (f := 25) (args := _) rfl rfl (by go_simp) ((k3 _).mono ?_)
            rintro e w4 ⟨rfl, hU4⟩
            refine ⟨_, rfl, hU4, ?_⟩
            try simp only [Act.put, List.setIfInBounds_toArray, List.set_cons_zero, List.set_cons_succ]
            repeat
              first
              | (refine lex_pure (v := ?_) rfl rfl ?_ ?_
                 rotate_left
                 · intro w' hU'
                   go_simp
                   try with_reducible rfl
                 try simp only [Act.put, List.setIfInBounds_toArray, List.set_cons_zero, List.set_cons_succ])
              | (refine lex_skip rfl ?_
                 try simp only [Act.put, List.setIfInBounds_toArray, List.set_cons_zero, List.set_cons_succ])
            refine lex_fn (f := 25) (args := _) rfl rfl (by go_simp) ((k4 _).mono ?_)
            rintro e w5 ⟨rfl, hU5⟩
            refine ⟨_, rfl, hU5, ?_⟩
            try simp only [Act.put, List.setIfInBounds_toArray, List.set_cons_zero, List.set_cons_succ]
            repeat
              first
              | (refine lex_pure (v := ?_) rfl rfl ?_ ?_
                 rotate_left
                 · intro w' hU'
                   go_simp
                   try with_reducible rfl
                 try simp only [Act.put, List.setIfInBounds_toArray, List.set_cons_zero, List.set_cons_succ])
              | (refine lex_skip rfl ?_
                 try simp only [Act.put, List.setIfInBounds_toArray, List.set_cons_zero, List.set_cons_succ])
            refine lex_done ?_
            have hd5 : Upd Nil w1 w5 := (((Upd.refl Nil w1).drew.tr hU2).tr hU3).tr (hU4.tr hU5)
            have hx5 := hd5.blk hx (fun h => h)
            have hy5 := hd5.blk hy (fun h => h)
            clear x0 x1 x2 x3 x4 x5 y0 y1 y2 y3 y4 y5 z0 z1 z2 z3 z4 z5 hU2 hU3 hU4 hU5 k1 k2 k3 k4 hz
            have hx5c0 : (w5).cell? ⟨w.heap.size, 0, none⟩ = some (.int .i64 a0) := Base.blk_cell hx5 0
            have hx5z0 : (w5).frozen? ⟨w.heap.size, 0, none⟩ = false := Base.blk_frozen hx5 0
            have hx5c1 : (w5).cell? ⟨w.heap.size, 1, none⟩ = some (.int .i64 a1) := Base.blk_cell hx5 1
            have hx5z1 : (w5).frozen? ⟨w.heap.size, 1, none⟩ = false := Base.blk_frozen hx5 1
            have hx5c2 : (w5).cell? ⟨w.heap.size, 2, none⟩ = some (.int .i64 a2) := Base.blk_cell hx5 2
            have hx5z2 : (w5).frozen? ⟨w.heap.size, 2, none⟩ = false := Base.blk_frozen hx5 2
            have hx5c3 : (w5).cell? ⟨w.heap.size, 3, none⟩ = some (.int .i64 a3) := Base.blk_cell hx5 3
            have hx5z3 : (w5).frozen? ⟨w.heap.size, 3, none⟩ = false := Base.blk_frozen hx5 3
            have hx5c4 : (w5).cell? ⟨w.heap.size, 4, none⟩ = some (.int .i64 a4) := Base.blk_cell hx5 4
            have hx5z4 : (w5).frozen? ⟨w.heap.size, 4, none⟩ = false := Base.blk_frozen hx5 4
            have hx5c5 : (w5).cell? ⟨w.heap.size, 5, none⟩ = some (.bool false) := Base.blk_cell hx5 5
            have hx5z5 : (w5).frozen? ⟨w.heap.size, 5, none⟩ = false := Base.blk_frozen hx5 5
            go_wp2_with fail
            refine (k5 _).mono ?_
            rintro e w6 ⟨rfl, hU6⟩
            have hx6 := hU6.blk hx5 (fun h => h)
            have hy6 := hU6.blk hy5 (fun h => h)
            clear hx5c0 hx5c1 hx5c2 hx5c3 hx5c4 hx5c5 hx5z0 hx5z1 hx5z2 hx5z3 hx5z4 hx5z5 hx5 hy5
            have hx6c0 : (w6).cell? ⟨w.heap.size, 0, none⟩ = some (.int .i64 a0) := Base.blk_cell hx6 0
            have hx6z0 : (w6).frozen? ⟨w.heap.size, 0, none⟩ = false := Base.blk_frozen hx6 0
            have hx6c1 : (w6).cell? ⟨w.heap.size, 1, none⟩ = some (.int .i64 a1) := Base.blk_cell hx6 1
            have hx6z1 : (w6).frozen? ⟨w.heap.size, 1, none⟩ = false := Base.blk_frozen hx6 1
            have hx6c2 : (w6).cell? ⟨w.heap.size, 2, none⟩ = some (.int .i64 a2) := Base.blk_cell hx6 2
            have hx6z2 : (w6).frozen? ⟨w.heap.size, 2, none⟩ = false := Base.blk_frozen hx6 2
            have hx6c3 : (w6).cell? ⟨w.heap.size, 3, none⟩ = some (.int .i64 a3) := Base.blk_cell hx6 3
            have hx6z3 : (w6).frozen? ⟨w.heap.size, 3, none⟩ = false := Base.blk_frozen hx6 3
            have hx6c4 : (w6).cell? ⟨w.heap.size, 4, none⟩ = some (.int .i64 a4) := Base.blk_cell hx6 4
            have hx6z4 : (w6).frozen? ⟨w.heap.size, 4, none⟩ = false := Base.blk_frozen hx6 4
            have hx6c5 : (w6).cell? ⟨w.heap.size, 5, none⟩ = some (.bool false) := Base.blk_cell hx6 5
            have hx6z5 : (w6).frozen? ⟨w.heap.size, 5, none⟩ = false := Base.blk_frozen hx6 5
            have hy6c0 : (w6).cell? ⟨(w.heap.size + 1), 0, none⟩ = some (.int .i64 b0) := Base.blk_cell hy6 0
            have hy6z0 : (w6).frozen? ⟨(w.heap.size + 1), 0, none⟩ = false := Base.blk_frozen hy6 0
            have hy6c1 : (w6).cell? ⟨(w.heap.size + 1), 1, none⟩ = some (.int .i64 b1) := Base.blk_cell hy6 1
            have hy6z1 : (w6).frozen? ⟨(w.heap.size + 1), 1, none⟩ = false := Base.blk_frozen hy6 1
            have hy6c2 : (w6).cell? ⟨(w.heap.size + 1), 2, none⟩ = some (.int .i64 b2) := Base.blk_cell hy6 2
            have hy6z2 : (w6).frozen? ⟨(w.heap.size + 1), 2, none⟩ = false := Base.blk_frozen hy6 2
            have hy6c3 : (w6).cell? ⟨(w.heap.size + 1), 3, none⟩ = some (.int .i64 a3) := Base.blk_cell hy6 3
            have hy6z3 : (w6).frozen? ⟨(w.heap.size + 1), 3, none⟩ = false := Base.blk_frozen hy6 3
            have hy6c4 : (w6).cell? ⟨(w.heap.size + 1), 4, none⟩ = some (.int .i64 b4) := Base.blk_cell hy6 4
            have hy6z4 : (w6).frozen? ⟨(w.heap.size + 1), 4, none⟩ = false := Base.blk_frozen hy6 4
            have hy6c5 : (w6).cell? ⟨(w.heap.size + 1), 5, none⟩ = some (.bool true) := Base.blk_cell hy6 5
            have hy6z5 : (w6).frozen? ⟨(w.heap.size + 1), 5, none⟩ = false := Base.blk_frozen hy6 5
            go_wp2_with fail
            go_ret
            exact ⟨ret_b (by simp), (hV1.tr hd5).tr hU6⟩
          · obtain rfl : ac = true := f2 rfl rfl
            go_enter Try.func8, Try.ntmps8
            go_wp2_with fail
            refine (fixed _).mono ?_
            rintro e w1 ⟨rfl, hU1⟩
            have hx := hU1.block w.heap.size (by simp; omega) (fun h => h)
            rw [blk_alloc (blk_alloc (blk_new _ _) _) _] at hx
            have hy := hU1.block (w.heap.size + 1) (by simp) (fun h => h)
            rw [blk_alloc (b := w.heap.size + 1) (o := .cells #[.int .i64 b0, .int .i64 b1, .int .i64 b2, .int .i64 a3, .int .i64 b4, .bool true] 35) (by have h := blk_new (w.alloc (.cells #[.int .i64 a0, .int .i64 a1, .int .i64 a2, .int .i64 a3, .int .i64 a4, .bool false] 35)) (.cells #[.int .i64 b0, .int .i64 b1, .int .i64 b2, .int .i64 a3, .int .i64 b4, .bool true] 35); simpa using h) _] at hy
            have hz := hU1.block (w.heap.size + 1 + 1) (by simp) (fun h => h)
            rw [show ∀ o1 o2 o3 : Obj, (((w.alloc o1).alloc o2).alloc o3).heap[w.heap.size + 1 + 1]? = some o3 by intro o1 o2 o3; have h := blk_new ((w.alloc o1).alloc o2) o3; simpa using h] at hz
            have hV1 := ((((Upd.refl Nil w).alloc _).alloc _).alloc _).tr hU1
            go_wp2_with fail
            have x0 : ∀ w', Upd Nil w1.drew w' → w'.cell? ⟨w.heap.size, 0, none⟩ = some (.int .i64 a0) := fun w' u => blk_cell (u.blk hx (fun h => h)) 0
            have x1 : ∀ w', Upd Nil w1.drew w' → w'.cell? ⟨w.heap.size, 1, none⟩ = some (.int .i64 a1) := fun w' u => blk_cell (u.blk hx (fun h => h)) 1
            have x2 : ∀ w', Upd Nil w1.drew w' → w'.cell? ⟨w.heap.size, 2, none⟩ = some (.int .i64 a2) := fun w' u => blk_cell (u.blk hx (fun h => h)) 2
            have x3 : ∀ w', Upd Nil w1.drew w' → w'.cell? ⟨w.heap.size, 3, none⟩ = some (.int .i64 a3) := fun w' u => blk_cell (u.blk hx (fun h => h)) 3
            have x4 : ∀ w', Upd Nil w1.drew w' → w'.cell? ⟨w.heap.size, 4, none⟩ = some (.int .i64 a4) := fun w' u => blk_cell (u.blk hx (fun h => h)) 4
            have x5 : ∀ w', Upd Nil w1.drew w' → w'.cell? ⟨w.heap.size, 5, none⟩ = some (.bool false) := fun w' u => blk_cell (u.blk hx (fun h => h)) 5
            have y0 : ∀ w', Upd Nil w1.drew w' → w'.cell? ⟨w.heap.size + 1, 0, none⟩ = some (.int .i64 b0) := fun w' u => blk_cell (u.blk hy (fun h => h)) 0
            have y1 : ∀ w', Upd Nil w1.drew w' → w'.cell? ⟨w.heap.size + 1, 1, none⟩ = some (.int .i64 b1) := fun w' u => blk_cell (u.blk hy (fun h => h)) 1
            have y2 : ∀ w', Upd Nil w1.drew w' → w'.cell? ⟨w.heap.size + 1, 2, none⟩ = some (.int .i64 b2) := fun w' u => blk_cell (u.blk hy (fun h => h)) 2
            have y3 : ∀ w', Upd Nil w1.drew w' → w'.cell? ⟨w.heap.size + 1, 3, none⟩ = some (.int .i64 a3) := fun w' u => blk_cell (u.blk hy (fun h => h)) 3
            have y4 : ∀ w', Upd Nil w1.drew w' → w'.cell? ⟨w.heap.size + 1, 4, none⟩ = some (.int .i64 b4) := fun w' u => blk_cell (u.blk hy (fun h => h)) 4
            have y5 : ∀ w', Upd Nil w1.drew w' → w'.cell? ⟨w.heap.size + 1, 5, none⟩ = some (.bool true) := fun w' u => blk_cell (u.blk hy (fun h => h)) 5
            have z0 : ∀ w', Upd Nil w1.drew w' → w'.cell? ⟨w.heap.size + 1 + 1, 0, none⟩ = some (.int .i64 c0) := fun w' u => blk_cell (u.blk hz (fun h => h)) 0
            have z1 : ∀ w', Upd Nil w1.drew w' → w'.cell? ⟨w.heap.size + 1 + 1, 1, none⟩ = some (.int .i64 c1) := fun w' u => blk_cell (u.blk hz (fun h => h)) 1
            have z2 : ∀ w', Upd Nil w1.drew w' → w'.cell? ⟨w.heap.size + 1 + 1, 2, none⟩ = some (.int .i64 c2) := fun w' u => blk_cell (u.blk hz (fun h => h)) 2
            have z3 : ∀ w', Upd Nil w1.drew w' → w'.cell? ⟨w.heap.size + 1 + 1, 3, none⟩ = some (.int .i64 c3) := fun w' u => blk_cell (u.blk hz (fun h => h)) 3
            have z4 : ∀ w', Upd Nil w1.drew w' → w'.cell? ⟨w.heap.size + 1 + 1, 4, none⟩ = some (.int .i64 c4) := fun w' u => blk_cell (u.blk hz (fun h => h)) 4
            have z5 : ∀ w', Upd Nil w1.drew w' → w'.cell? ⟨w.heap.size + 1 + 1, 5, none⟩ = some (.bool c5) := fun w' u => blk_cell (u.blk hz (fun h => h)) 5
            clear hU1 f1 f2 f3
            refine wp_region_lex Nil [0, 1, 3, 4, 6, 7, 9, 10, 2, 5, 8, 11, 12, 13, 14, 15] (by kernel_rfl) (by kernel_rfl) rfl (by kernel_rfl) ?_
            simp only [inOrder, List.filterMap_cons, List.filterMap_nil, List.getElem?_cons_zero, List.getElem?_cons_succ]
            try simp only [Act.put, List.setIfInBounds_toArray, List.set_cons_zero, List.set_cons_succ]
            repeat
              first
              | (refine lex_pure (v := ?_) rfl rfl ?_ ?_
                 rotate_left
                 · intro w' hU'
                   go_simp
                   try with_reducible rfl
                 try simp only [Act.put, List.setIfInBounds_toArray, List.set_cons_zero, List.set_cons_succ])
              | (refine lex_skip rfl ?_
                 try simp only [Act.put, List.setIfInBounds_toArray, List.set_cons_zero, List.set_cons_succ])
            refine lex_fn (f := 25) (args := _) rfl rfl (by go_simp) ((k1 _).mono ?_)
            rintro e w2 ⟨rfl, hU2⟩
            refine ⟨_, rfl, hU2, ?_⟩
            try simp only [Act.put, List.setIfInBounds_toArray, List.set_cons_zero, List.set_cons_succ]
            repeat
              first
              | (refine lex_pure (v := ?_) rfl rfl ?_ ?_
                 rotate_left
                 · intro w' hU'
                   go_simp
                   try with_reducible rfl
                 try simp only [Act.put, List.setIfInBounds_toArray, List.set_cons_zero, List.set_cons_succ])
              | (refine lex_skip rfl ?_
                 try simp only [Act.put, List.setIfInBounds_toArray, List.set_cons_zero, List.set_cons_succ])
            refine lex_fn (f := 25) (args := _) rfl rfl (by go_simp) ((k2 _).mono ?_)
            rintro e w3 ⟨rfl, hU3⟩
            refine ⟨_, rfl, hU3, ?_⟩
            try simp only [Act.put, List.setIfInBounds_toArray, List.set_cons_zero, List.set_cons_succ]
            repeat
              first
              | (refine lex_pure (v := ?_) rfl rfl ?_ ?_
                 rotate_left
                 · intro w' hU'
                   go_simp
                   try with_reducible rfl
                 try simp only [Act.put, List.setIfInBounds_toArray, List.set_cons_zero, List.set_cons_succ])
              | (refine lex_skip rfl ?_
                 try simp only [Act.put, List.setIfInBounds_toArray, List.set_cons_zero, List.set_cons_succ])
            refine lex_fn (f := 25) (args := _) rfl rfl (by go_simp) ((k3 _).mono ?_)
            rintro e w4 ⟨rfl, hU4⟩
            refine ⟨_, rfl, hU4, ?_⟩
            try simp only [Act.put, List.setIfInBounds_toArray, List.set_cons_zero, List.set_cons_succ]
            repeat
              first
              | (refine lex_pure (v := ?_) rfl rfl ?_ ?_
                 rotate_left
                 · intro w' hU'
                   go_simp
                   try with_reducible rfl
                 try simp only [Act.put, List.setIfInBounds_toArray, List.set_cons_zero, List.set_cons_succ])
              | (refine lex_skip rfl ?_
                 try simp only [Act.put, List.setIfInBounds_toArray, List.set_cons_zero, List.set_cons_succ])
            refine lex_fn (f := 25) (args := _) rfl rfl (by go_simp) ((k4 _).mono ?_)
            rintro e w5 ⟨rfl, hU5⟩
            refine ⟨_, rfl, hU5, ?_⟩
            try simp only [Act.put, List.setIfInBounds_toArray, List.set_cons_zero, List.set_cons_succ]
            repeat
              first
              | (refine lex_pure (v := ?_) rfl rfl ?_ ?_
                 rotate_left
                 · intro w' hU'
                   go_simp
                   try with_reducible rfl
                 try simp only [Act.put, List.setIfInBounds_toArray, List.set_cons_zero, List.set_cons_succ])
              | (refine lex_skip rfl ?_
                 try simp only [Act.put, List.setIfInBounds_toArray, List.set_cons_zero, List.set_cons_succ])
            refine lex_done ?_
            have hd5 : Upd Nil w1 w5 := (((Upd.refl Nil w1).drew.tr hU2).tr hU3).tr (hU4.tr hU5)
            have hx5 := hd5.blk hx (fun h => h)
            have hy5 := hd5.blk hy (fun h => h)
            clear x0 x1 x2 x3 x4 x5 y0 y1 y2 y3 y4 y5 z0 z1 z2 z3 z4 z5 hU2 hU3 hU4 hU5 k1 k2 k3 k4 hz
            have hx5c0 : (w5).cell? ⟨w.heap.size, 0, none⟩ = some (.int .i64 a0) := Base.blk_cell hx5 0
            have hx5z0 : (w5).frozen? ⟨w.heap.size, 0, none⟩ = false := Base.blk_frozen hx5 0
            have hx5c1 : (w5).cell? ⟨w.heap.size, 1, none⟩ = some (.int .i64 a1) := Base.blk_cell hx5 1
            have hx5z1 : (w5).frozen? ⟨w.heap.size, 1, none⟩ = false := Base.blk_frozen hx5 1
            have hx5c2 : (w5).cell? ⟨w.heap.size, 2, none⟩ = some (.int .i64 a2) := Base.blk_cell hx5 2
            have hx5z2 : (w5).frozen? ⟨w.heap.size, 2, none⟩ = false := Base.blk_frozen hx5 2
            have hx5c3 : (w5).cell? ⟨w.heap.size, 3, none⟩ = some (.int .i64 a3) := Base.blk_cell hx5 3
            have hx5z3 : (w5).frozen? ⟨w.heap.size, 3, none⟩ = false := Base.blk_frozen hx5 3
            have hx5c4 : (w5).cell? ⟨w.heap.size, 4, none⟩ = some (.int .i64 a4) := Base.blk_cell hx5 4
            have hx5z4 : (w5).frozen? ⟨w.heap.size, 4, none⟩ = false := Base.blk_frozen hx5 4
            have hx5c5 : (w5).cell? ⟨w.heap.size, 5, none⟩ = some (.bool false) := Base.blk_cell hx5 5
            have hx5z5 : (w5).frozen? ⟨w.heap.size, 5, none⟩ = false := Base.blk_frozen hx5 5
            go_wp2_with fail
            refine (k5 _).mono ?_
            rintro e w6 ⟨rfl, hU6⟩
            have hx6 := hU6.blk hx5 (fun h => h)
            have hy6 := hU6.blk hy5 (fun h => h)
            clear hx5c0 hx5c1 hx5c2 hx5c3 hx5c4 hx5c5 hx5z0 hx5z1 hx5z2 hx5z3 hx5z4 hx5z5 hx5 hy5
            have hx6c0 : (w6).cell? ⟨w.heap.size, 0, none⟩ = some (.int .i64 a0) := Base.blk_cell hx6 0
            have hx6z0 : (w6).frozen? ⟨w.heap.size, 0, none⟩ = false := Base.blk_frozen hx6 0
            have hx6c1 : (w6).cell? ⟨w.heap.size, 1, none⟩ = some (.int .i64 a1) := Base.blk_cell hx6 1
            have hx6z1 : (w6).frozen? ⟨w.heap.size, 1, none⟩ = false := Base.blk_frozen hx6 1
            have hx6c2 : (w6).cell? ⟨w.heap.size, 2, none⟩ = some (.int .i64 a2) := Base.blk_cell hx6 2
            have hx6z2 : (w6).frozen? ⟨w.heap.size, 2, none⟩ = false := Base.blk_frozen hx6 2
            have hx6c3 : (w6).cell? ⟨w.heap.size, 3, none⟩ = some (.int .i64 a3) := Base.blk_cell hx6 3
            have hx6z3 : (w6).frozen? ⟨w.heap.size, 3, none⟩ = false := Base.blk_frozen hx6 3
            have hx6c4 : (w6).cell? ⟨w.heap.size, 4, none⟩ = some (.int .i64 a4) := Base.blk_cell hx6 4
            have hx6z4 : (w6).frozen? ⟨w.heap.size, 4, none⟩ = false := Base.blk_frozen hx6 4
            have hx6c5 : (w6).cell? ⟨w.heap.size, 5, none⟩ = some (.bool false) := Base.blk_cell hx6 5
            have hx6z5 : (w6).frozen? ⟨w.heap.size, 5, none⟩ = false := Base.blk_frozen hx6 5
            have hy6c0 : (w6).cell? ⟨(w.heap.size + 1), 0, none⟩ = some (.int .i64 b0) := Base.blk_cell hy6 0
            have hy6z0 : (w6).frozen? ⟨(w.heap.size + 1), 0, none⟩ = false := Base.blk_frozen hy6 0
            have hy6c1 : (w6).cell? ⟨(w.heap.size + 1), 1, none⟩ = some (.int .i64 b1) := Base.blk_cell hy6 1
            have hy6z1 : (w6).frozen? ⟨(w.heap.size + 1), 1, none⟩ = false := Base.blk_frozen hy6 1
            have hy6c2 : (w6).cell? ⟨(w.heap.size + 1), 2, none⟩ = some (.int .i64 b2) := Base.blk_cell hy6 2
            have hy6z2 : (w6).frozen? ⟨(w.heap.size + 1), 2, none⟩ = false := Base.blk_frozen hy6 2
            have hy6c3 : (w6).cell? ⟨(w.heap.size + 1), 3, none⟩ = some (.int .i64 a3) := Base.blk_cell hy6 3
            have hy6z3 : (w6).frozen? ⟨(w.heap.size + 1), 3, none⟩ = false := Base.blk_frozen hy6 3
            have hy6c4 : (w6).cell? ⟨(w.heap.size + 1), 4, none⟩ = some (.int .i64 b4) := Base.blk_cell hy6 4
            have hy6z4 : (w6).frozen? ⟨(w.heap.size + 1), 4, none⟩ = false := Base.blk_frozen hy6 4
            have hy6c5 : (w6).cell? ⟨(w.heap.size + 1), 5, none⟩ = some (.bool true) := Base.blk_cell hy6 5
            have hy6z5 : (w6).frozen? ⟨(w.heap.size + 1), 5, none⟩ = false := Base.blk_frozen hy6 5
            go_wp2_with fail
            go_ret
            exact ⟨ret_b (by simp), (hV1.tr hd5).tr hU6⟩
    · cases b5
      · cases ab
        · obtain rfl : ba = true := by revert f1 f3; cases ba <;> simp
          go_enter Try.func8, Try.ntmps8
          go_wp2_with fail
          refine (fixed _).mono ?_
          rintro e w1 ⟨rfl, hU1⟩
          have hx := hU1.block w.heap.size (by simp; omega) (fun h => h)
          rw [blk_alloc (blk_alloc (blk_new _ _) _) _] at hx
          have hy := hU1.block (w.heap.size + 1) (by simp) (fun h => h)
          rw [blk_alloc (b := w.heap.size + 1) (o := .cells #[.int .i64 b0, .int .i64 b1, .int .i64 b2, .int .i64 a3, .int .i64 b4, .bool false] 35) (by have h := blk_new (w.alloc (.cells #[.int .i64 a0, .int .i64 a1, .int .i64 a2, .int .i64 a3, .int .i64 a4, .bool true] 35)) (.cells #[.int .i64 b0, .int .i64 b1, .int .i64 b2, .int .i64 a3, .int .i64 b4, .bool false] 35); simpa using h) _] at hy
          have hz := hU1.block (w.heap.size + 1 + 1) (by simp) (fun h => h)
          rw [show ∀ o1 o2 o3 : Obj, (((w.alloc o1).alloc o2).alloc o3).heap[w.heap.size + 1 + 1]? = some o3 by intro o1 o2 o3; have h := blk_new ((w.alloc o1).alloc o2) o3; simpa using h] at hz
          have hV1 := ((((Upd.refl Nil w).alloc _).alloc _).alloc _).tr hU1
          go_wp2_with fail
          have x0 : ∀ w', Upd Nil w1.drew w' → w'.cell? ⟨w.heap.size, 0, none⟩ = some (.int .i64 a0) := fun w' u => blk_cell (u.blk hx (fun h => h)) 0
          have x1 : ∀ w', Upd Nil w1.drew w' → w'.cell? ⟨w.heap.size, 1, none⟩ = some (.int .i64 a1) := fun w' u => blk_cell (u.blk hx (fun h => h)) 1
          have x2 : ∀ w', Upd Nil w1.drew w' → w'.cell? ⟨w.heap.size, 2, none⟩ = some (.int .i64 a2) := fun w' u => blk_cell (u.blk hx (fun h => h)) 2
          have x3 : ∀ w', Upd Nil w1.drew w' → w'.cell? ⟨w.heap.size, 3, none⟩ = some (.int .i64 a3) := fun w' u => blk_cell (u.blk hx (fun h => h)) 3
          have x4 : ∀ w', Upd Nil w1.drew w' → w'.cell? ⟨w.heap.size, 4, none⟩ = some (.int .i64 a4) := fun w' u => blk_cell (u.blk hx (fun h => h)) 4
          have x5 : ∀ w', Upd Nil w1.drew w' → w'.cell? ⟨w.heap.size, 5, none⟩ = some (.bool true) := fun w' u => blk_cell (u.blk hx (fun h => h)) 5
          have y0 : ∀ w', Upd Nil w1.drew w' → w'.cell? ⟨w.heap.size + 1, 0, none⟩ = some (.int .i64 b0) := fun w' u => blk_cell (u.blk hy (fun h => h)) 0
          have y1 : ∀ w', Upd Nil w1.drew w' → w'.cell? ⟨w.heap.size + 1, 1, none⟩ = some (.int .i64 b1) := fun w' u => blk_cell (u.blk hy (fun h => h)) 1
          have y2 : ∀ w', Upd Nil w1.drew w' → w'.cell? ⟨w.heap.size + 1, 2, none⟩ = some (.int .i64 b2) := fun w' u => blk_cell (u.blk hy (fun h => h)) 2
          have y3 : ∀ w', Upd Nil w1.drew w' → w'.cell? ⟨w.heap.size + 1, 3, none⟩ = some (.int .i64 a3) := fun w' u => blk_cell (u.blk hy (fun h => h)) 3
          have y4 : ∀ w', Upd Nil w1.drew w' → w'.cell? ⟨w.heap.size + 1, 4, none⟩ = some (.int .i64 b4) := fun w' u => blk_cell (u.blk hy (fun h => h)) 4
          have y5 : ∀ w', Upd Nil w1.drew w' → w'.cell? ⟨w.heap.size + 1, 5, none⟩ = some (.bool false) := fun w' u => blk_cell (u.blk hy (fun h => h)) 5
          have z0 : ∀ w', Upd Nil w1.drew w' → w'.cell? ⟨w.heap.size + 1 + 1, 0, none⟩ = some (.int .i64 c0) := fun w' u => blk_cell (u.blk hz (fun h => h)) 0
          have z1 : ∀ w', Upd Nil w1.drew w' → w'.cell? ⟨w.heap.size + 1 + 1, 1, none⟩ = some (.int .i64 c1) := fun w' u => blk_cell (u.blk hz (fun h => h)) 1
          have z2 : ∀ w', Upd Nil w1.drew w' → w'.cell? ⟨w.heap.size + 1 + 1, 2, none⟩ = some (.int .i64 c2) := fun w' u => blk_cell (u.blk hz (fun h => h)) 2
          have z3 : ∀ w', Upd Nil w1.drew w' → w'.cell? ⟨w.heap.size + 1 + 1, 3, none⟩ = some (.int .i64 c3) := fun w' u => blk_cell (u.blk hz (fun h => h)) 3
          have z4 : ∀ w', Upd Nil w1.drew w' → w'.cell? ⟨w.heap.size + 1 + 1, 4, none⟩ = some (.int .i64 c4) := fun w' u => blk_cell (u.blk hz (fun h => h)) 4
          have z5 : ∀ w', Upd Nil w1.drew w' → w'.cell? ⟨w.heap.size + 1 + 1, 5, none⟩ = some (.bool c5) := fun w' u => blk_cell (u.blk hz (fun h => h)) 5
          clear hU1 f1 f2 f3
          refine wp_region_lex Nil [0, 1, 3, 4, 6, 7, 9, 10, 2, 5, 8, 11, 12, 13, 14, 15] (by kernel_rfl) (by kernel_rfl) rfl (by kernel_rfl) ?_
          simp only [inOrder, List.filterMap_cons, List.filterMap_nil, List.getElem?_cons_zero, List.getElem?_cons_succ]
          try simp only [Act.put, List.setIfInBounds_toArray, List.set_cons_zero, List.set_cons_succ]
          repeat
            first
            | (refine lex_pure (v := ?_) rfl rfl ?_ ?_
               rotate_left
               · intro w' hU'
                 go_simp
                 try with_reducible rfl
               try simp only [Act.put, List.setIfInBounds_toArray, List.set_cons_zero, List.set_cons_succ])
            | (refine lex_skip rfl ?_
               try simp only [Act.put, List.setIfInBounds_toArray, List.set_cons_zero, List.set_cons_succ])
          refine lex_fn (f := 25) (args := _) rfl rfl (by go_simp) ((k1 _).mono ?_)
          rintro e w2 ⟨rfl, hU2⟩
          refine ⟨_, rfl, hU2, ?_⟩
          try simp only [Act.put, List.setIfInBounds_toArray, List.set_cons_zero, List.set_cons_succ]
          repeat
            first
            | (refine lex_pure (v := ?_) rfl rfl ?_ ?_
               rotate_left
               · intro w' hU'
                 go_simp
                 try with_reducible rfl
               try simp only [Act.put, List.setIfInBounds_toArray, List.set_cons_zero, List.set_cons_succ])
            | (refine lex_skip rfl ?_
               try simp only [Act.put, List.setIfInBounds_toArray, List.set_cons_zero, List.set_cons_succ])
          refine lex_fn (f := 25) (args := _) rfl rfl (by go_simp) ((k2 _).mono ?_)
          rintro e w3 ⟨rfl, hU3⟩
          refine ⟨_, rfl, hU3, ?_⟩
          try simp only [Act.put, List.setIfInBounds_toArray, List.set_cons_zero, List.set_cons_succ]
          repeat
            first
            | (refine lex_pure (v := ?_) rfl rfl ?_ ?_
               rotate_left
               · intro w' hU'
                 go_simp
                 try with_reducible rfl
               try simp only [Act.put, List.setIfInBounds_toArray, List.set_cons_zero, List.set_cons_succ])
            | (refine lex_skip rfl ?_
               try simp only [Act.put, List.setIfInBounds_toArray, List.set_cons_zero, List.set_cons_succ])
          refine lex_fn (f := 25) (args := _) rfl rfl (by go_simp) ((k3 _).mono ?_)
          rintro e w4 ⟨rfl, hU4⟩
          refine ⟨_, rfl, hU4, ?_⟩
          try simp only [Act.put, List.setIfInBounds_toArray, List.set_cons_zero, List.set_cons_succ]
          repeat
            first
            | (refine lex_pure (v := ?_) rfl rfl ?_ ?_
               rotate_left
               · intro w' hU'
                 go_simp
                 try with_reducible rfl
               try simp only [Act.put, List.setIfInBounds_toArray, List.set_cons_zero, List.set_cons_succ])
            | (refine lex_skip rfl ?_
               try simp only [Act.put, List.setIfInBounds_toArray, List.set_cons_zero, List.set_cons_succ])
          refine lex_fn (f := 25) (args := _) rfl rfl (by go_simp) ((k4 _).mono ?_)
          rintro e w5 ⟨rfl, hU5⟩
          refine ⟨_, rfl, hU5, ?_⟩
          try simp only [Act.put, List.setIfInBounds_toArray, List.set_cons_zero, List.set_cons_succ]
          repeat
            first
            | (refine lex_pure (v := ?_) rfl rfl ?_ ?_
               rotate_left
               · intro w' hU'
                 go_simp
                 try with_reducible rfl
               try simp only [Act.put, List.setIfInBounds_toArray, List.set_cons_zero, List.set_cons_succ])
            | (refine lex_skip rfl ?_
               try simp only [Act.put, List.setIfInBounds_toArray, List.set_cons_zero, List.set_cons_succ])
          refine lex_done ?_
          have hd5 : Upd Nil w1 w5 := (((Upd.refl Nil w1).drew.tr hU2).tr hU3).tr (hU4.tr hU5)
          have hx5 := hd5.blk hx (fun h => h)
          have hy5 := hd5.blk hy (fun h => h)
          clear x0 x1 x2 x3 x4 x5 y0 y1 y2 y3 y4 y5 z0 z1 z2 z3 z4 z5 hU2 hU3 hU4 hU5 k1 k2 k3 k4 hz
          have hx5c0 : (w5).cell? ⟨w.heap.size, 0, none⟩ = some (.int .i64 a0) := Base.blk_cell hx5 0
          have hx5z0 : (w5).frozen? ⟨w.heap.size, 0, none⟩ = false := Base.blk_frozen hx5 0
          have hx5c1 : (w5).cell? ⟨w.heap.size, 1, none⟩ = some (.int .i64 a1) := Base.blk_cell hx5 1
          have hx5z1 : (w5).frozen? ⟨w.heap.size, 1, none⟩ = false := Base.blk_frozen hx5 1
          have hx5c2 : (w5).cell? ⟨w.heap.size, 2, none⟩ = some (.int .i64 a2) := Base.blk_cell hx5 2
          have hx5z2 : (w5).frozen? ⟨w.heap.size, 2, none⟩ = false := Base.blk_frozen hx5 2
          have hx5c3 : (w5).cell? ⟨w.heap.size, 3, none⟩ = some (.int .i64 a3) := Base.blk_cell hx5 3
          have hx5z3 : (w5).frozen? ⟨w.heap.size, 3, none⟩ = false := Base.blk_frozen hx5 3
          have hx5c4 : (w5).cell? ⟨w.heap.size, 4, none⟩ = some (.int .i64 a4) := Base.blk_cell hx5 4
          have hx5z4 : (w5).frozen? ⟨w.heap.size, 4, none⟩ = false := Base.blk_frozen hx5 4
          have hx5c5 : (w5).cell? ⟨w.heap.size, 5, none⟩ = some (.bool true) := Base.blk_cell hx5 5
          have hx5z5 : (w5).frozen? ⟨w.heap.size, 5, none⟩ = false := Base.blk_frozen hx5 5
          go_wp2_with fail
          refine (k5 _).mono ?_
          rintro e w6 ⟨rfl, hU6⟩
          have hx6 := hU6.blk hx5 (fun h => h)
          have hy6 := hU6.blk hy5 (fun h => h)
          clear hx5c0 hx5c1 hx5c2 hx5c3 hx5c4 hx5c5 hx5z0 hx5z1 hx5z2 hx5z3 hx5z4 hx5z5 hx5 hy5
          have hx6c0 : (w6).cell? ⟨w.heap.size, 0, none⟩ = some (.int .i64 a0) := Base.blk_cell hx6 0
          have hx6z0 : (w6).frozen? ⟨w.heap.size, 0, none⟩ = false := Base.blk_frozen hx6 0
          have hx6c1 : (w6).cell? ⟨w.heap.size, 1, none⟩ = some (.int .i64 a1) := Base.blk_cell hx6 1
          have hx6z1 : (w6).frozen? ⟨w.heap.size, 1, none⟩ = false := Base.blk_frozen hx6 1
          have hx6c2 : (w6).cell? ⟨w.heap.size, 2, none⟩ = some (.int .i64 a2) := Base.blk_cell hx6 2
          have hx6z2 : (w6).frozen? ⟨w.heap.size, 2, none⟩ = false := Base.blk_frozen hx6 2
          have hx6c3 : (w6).cell? ⟨w.heap.size, 3, none⟩ = some (.int .i64 a3) := Base.blk_cell hx6 3
          have hx6z3 : (w6).frozen? ⟨w.heap.size, 3, none⟩ = false := Base.blk_frozen hx6 3
          have hx6c4 : (w6).cell? ⟨w.heap.size, 4, none⟩ = some (.int .i64 a4) := Base.blk_cell hx6 4
          have hx6z4 : (w6).frozen? ⟨w.heap.size, 4, none⟩ = false := Base.blk_frozen hx6 4
          have hx6c5 : (w6).cell? ⟨w.heap.size, 5, none⟩ = some (.bool true) := Base.blk_cell hx6 5
          have hx6z5 : (w6).frozen? ⟨w.heap.size, 5, none⟩ = false := Base.blk_frozen hx6 5
          have hy6c0 : (w6).cell? ⟨(w.heap.size + 1), 0, none⟩ = some (.int .i64 b0) := Base.blk_cell hy6 0
          have hy6z0 : (w6).frozen? ⟨(w.heap.size + 1), 0, none⟩ = false := Base.blk_frozen hy6 0
          have hy6c1 : (w6).cell? ⟨(w.heap.size + 1), 1, none⟩ = some (.int .i64 b1) := Base.blk_cell hy6 1
          have hy6z1 : (w6).frozen? ⟨(w.heap.size + 1), 1, none⟩ = false := Base.blk_frozen hy6 1
          have hy6c2 : (w6).cell? ⟨(w.heap.size + 1), 2, none⟩ = some (.int .i64 b2) := Base.blk_cell hy6 2
          have hy6z2 : (w6).frozen? ⟨(w.heap.size + 1), 2, none⟩ = false := Base.blk_frozen hy6 2
          have hy6c3 : (w6).cell? ⟨(w.heap.size + 1), 3, none⟩ = some (.int .i64 a3) := Base.blk_cell hy6 3
          have hy6z3 : (w6).frozen? ⟨(w.heap.size + 1), 3, none⟩ = false := Base.blk_frozen hy6 3
          have hy6c4 : (w6).cell? ⟨(w.heap.size + 1), 4, none⟩ = some (.int .i64 b4) := Base.blk_cell hy6 4
          have hy6z4 : (w6).frozen? ⟨(w.heap.size + 1), 4, none⟩ = false := Base.blk_frozen hy6 4
          have hy6c5 : (w6).cell? ⟨(w.heap.size + 1), 5, none⟩ = some (.bool false) := Base.blk_cell hy6 5
          have hy6z5 : (w6).frozen? ⟨(w.heap.size + 1), 5, none⟩ = false := Base.blk_frozen hy6 5
          go_wp2_with fail
          go_ret
          exact ⟨ret_b (by simp), (hV1.tr hd5).tr hU6⟩
        · obtain rfl : ba = false := by revert f1 f3; cases ba <;> simp
          cases nbc
          · skip
            go_enter Try.func8, Try.ntmps8
            go_wp2_with fail
            refine (fixed _).mono ?_
            rintro e w1 ⟨rfl, hU1⟩
            have hx := hU1.block w.heap.size (by simp; omega) (fun h => h)
            rw [blk_alloc (blk_alloc (blk_new _ _) _) _] at hx
            have hy := hU1.block (w.heap.size + 1) (by simp) (fun h => h)
            rw [blk_alloc (b := w.heap.size + 1) (o := .cells #[.int .i64 b0, .int .i64 b1, .int .i64 b2, .int .i64 a3, .int .i64 b4, .bool false] 35) (by have h := blk_new (w.alloc (.cells #[.int .i64 a0, .int .i64 a1, .int .i64 a2, .int .i64 a3, .int .i64 a4, .bool true] 35)) (.cells #[.int .i64 b0, .int .i64 b1, .int .i64 b2, .int .i64 a3, .int .i64 b4, .bool false] 35); simpa using h) _] at hy
            have hz := hU1.block (w.heap.size + 1 + 1) (by simp) (fun h => h)
            rw [show ∀ o1 o2 o3 : Obj, (((w.alloc o1).alloc o2).alloc o3).heap[w.heap.size + 1 + 1]? = some o3 by intro o1 o2 o3; have h := blk_new ((w.alloc o1).alloc o2) o3; simpa using h] at hz
            have hV1 := ((((Upd.refl Nil w).alloc _).alloc _).alloc _).tr hU1
            go_wp2_with fail
            have x0 : ∀ w', Upd Nil w1.drew w' → w'.cell? ⟨w.heap.size, 0, none⟩ = some (.int .i64 a0) := fun w' u => blk_cell (u.blk hx (fun h => h)) 0
            have x1 : ∀ w', Upd Nil w1.drew w' → w'.cell? ⟨w.heap.size, 1, none⟩ = some (.int .i64 a1) := fun w' u => blk_cell (u.blk hx (fun h => h)) 1
            have x2 : ∀ w', Upd Nil w1.drew w' → w'.cell? ⟨w.heap.size, 2, none⟩ = some (.int .i64 a2) := fun w' u => blk_cell (u.blk hx (fun h => h)) 2
            have x3 : ∀ w', Upd Nil w1.drew w' → w'.cell? ⟨w.heap.size, 3, none⟩ = some (.int .i64 a3) := fun w' u => blk_cell (u.blk hx (fun h => h)) 3
            have x4 : ∀ w', Upd Nil w1.drew w' → w'.cell? ⟨w.heap.size, 4, none⟩ = some (.int .i64 a4) := fun w' u => blk_cell (u.blk hx (fun h => h)) 4
            have x5 : ∀ w', Upd Nil w1.drew w' → w'.cell? ⟨w.heap.size, 5, none⟩ = some (.bool true) := fun w' u => blk_cell (u.blk hx (fun h => h)) 5
            have y0 : ∀ w', Upd Nil w1.drew w' → w'.cell? ⟨w.heap.size + 1, 0, none⟩ = some (.int .i64 b0) := fun w' u => blk_cell (u.blk hy (fun h => h)) 0
            have y1 : ∀ w', Upd Nil w1.drew w' → w'.cell? ⟨w.heap.size + 1, 1, none⟩ = some (.int .i64 b1) := fun w' u => blk_cell (u.blk hy (fun h => h)) 1
            have y2 : ∀ w', Upd Nil w1.drew w' → w'.cell? ⟨w.heap.size + 1, 2, none⟩ = some (.int .i64 b2) := fun w' u => blk_cell (u.blk hy (fun h => h)) 2
            have y3 : ∀ w', Upd Nil w1.drew w' → w'.cell? ⟨w.heap.size + 1, 3, none⟩ = some (.int .i64 a3) := fun w' u => blk_cell (u.blk hy (fun h => h)) 3
            have y4 : ∀ w', Upd Nil w1.drew w' → w'.cell? ⟨w.heap.size + 1, 4, none⟩ = some (.int .i64 b4) := fun w' u => blk_cell (u.blk hy (fun h => h)) 4
            have y5 : ∀ w', Upd Nil w1.drew w' → w'.cell? ⟨w.heap.size + 1, 5, none⟩ = some (.bool false) := fun w' u => blk_cell (u.blk hy (fun h => h)) 5
            have z0 : ∀ w', Upd Nil w1.drew w' → w'.cell? ⟨w.heap.size + 1 + 1, 0, none⟩ = some (.int .i64 c0) := fun w' u => blk_cell (u.blk hz (fun h => h)) 0
            have z1 : ∀ w', Upd Nil w1.drew w' → w'.cell? ⟨w.heap.size + 1 + 1, 1, none⟩ = some (.int .i64 c1) := fun w' u => blk_cell (u.blk hz (fun h => h)) 1
            have z2 : ∀ w', Upd Nil w1.drew w' → w'.cell? ⟨w.heap.size + 1 + 1, 2, none⟩ = some (.int .i64 c2) := fun w' u => blk_cell (u.blk hz (fun h => h)) 2
            have z3 : ∀ w', Upd Nil w1.drew w' → w'.cell? ⟨w.heap.size + 1 + 1, 3, none⟩ = some (.int .i64 c3) := fun w' u => blk_cell (u.blk hz (fun h => h)) 3
            have z4 : ∀ w', Upd Nil w1.drew w' → w'.cell? ⟨w.heap.size + 1 + 1, 4, none⟩ = some (.int .i64 c4) := fun w' u => blk_cell (u.blk hz (fun h => h)) 4
            have z5 : ∀ w', Upd Nil w1.drew w' → w'.cell? ⟨w.heap.size + 1 + 1, 5, none⟩ = some (.bool c5) := fun w' u => blk_cell (u.blk hz (fun h => h)) 5
            clear hU1 f1 f2 f3
            refine wp_region_lex Nil [0, 1, 3, 4, 6, 7, 9, 10, 2, 5, 8, 11, 12, 13, 14, 15] (by kernel_rfl) (by kernel_rfl) rfl (by kernel_rfl) ?_
            simp only [inOrder, List.filterMap_cons, List.filterMap_nil, List.getElem?_cons_zero, List.getElem?_cons_succ]
            try simp only [Act.put, List.setIfInBounds_toArray, List.set_cons_zero, List.set_cons_succ]
            repeat
              first
              | (refine lex_pure (v := ?_) rfl rfl ?_ ?_
                 rotate_left
                 · intro w' hU'
                   go_simp
                   try with_reducible rfl
                 try simp only [Act.put, List.setIfInBounds_toArray, List.set_cons_zero, List.set_cons_succ])
              | (refine lex_skip rfl ?_
                 try simp only [Act.put, List.setIfInBounds_toArray, List.set_cons_zero, List.set_cons_succ])
            refine lex_fn (f := 25) (args := _) rfl rfl (by go_simp) ((k1 _).mono ?_)
            rintro e w2 ⟨rfl, hU2⟩
            refine ⟨_, rfl, hU2, ?_⟩
            try simp only [Act.put, List.setIfInBounds_toArray, List.set_cons_zero, List.set_cons_succ]
            repeat
              first
              | (refine lex_pure (v := ?_) rfl rfl ?_ ?_
                 rotate_left
                 · intro w' hU'
                   go_simp
                   try with_reducible rfl
                 try simp only [Act.put, List.setIfInBounds_toArray, List.set_cons_zero, List.set_cons_succ])
              | (refine lex_skip rfl ?_
                 try simp only [Act.put, List.setIfInBounds_toArray, List.set_cons_zero, List.set_cons_succ])
            refine lex_fn (f := 25) (args := _) rfl rfl (by go_simp) ((k2 _).mono ?_)
            rintro e w3 ⟨rfl, hU3⟩
            refine ⟨_, rfl, hU3, ?_⟩
            try simp only [Act.put, List.setIfInBounds_toArray, List.set_cons_zero, List.set_cons_succ]
            repeat
              first
              | (refine lex_pure (v := ?_) rfl rfl ?_ ?_
                 rotate_left
                 · intro w' hU'
                   go_simp
                   try with_reducible rfl
                 try simp only [Act.put, List.setIfInBounds_toArray, List.set_cons_zero, List.set_cons_succ])
              | (refine lex_skip rfl ?_
                 try simp only [Act.put, List.setIfInBounds_toArray, List.set_cons_zero, List.set_cons_succ])
            refine lex_fn (f := 25) (args := _) rfl rfl (by go_simp) ((k3 _).mono ?_)
            rintro e w4 ⟨rfl, hU4⟩
            refine ⟨_, rfl, hU4, ?_⟩
            try simp only [Act.put, List.setIfInBounds_toArray, List.set_cons_zero, List.set_cons_succ]
            repeat
              first
              | (refine lex_pure (v := ?_) rfl rfl ?_ ?_
                 rotate_left
                 · intro w' hU'
                   go_simp
                   try with_reducible rfl
                 try simp only [Act.put, List.setIfInBounds_toArray, List.set_cons_zero, List.set_cons_succ])
              | (refine lex_skip rfl ?_
                 try simp only [Act.put, List.setIfInBounds_toArray, List.set_cons_zero, List.set_cons_succ])
            refine lex_fn (f := 25) (args := _) rfl rfl (by go_simp) ((k4 _).mono ?_)
            rintro e w5 ⟨rfl, hU5⟩
            refine ⟨_, rfl, hU5, ?_⟩
            try simp only [Act.put, List.setIfInBounds_toArray, List.set_cons_zero, List.set_cons_succ]
            repeat
              first
              | (refine lex_pure (v := ?_) rfl rfl ?_ ?_
                 rotate_left
                 · intro w' hU'
                   go_simp
                   try with_reducible rfl
                 try simp only [Act.put, List.setIfInBounds_toArray, List.set_cons_zero, List.set_cons_succ])
              | (refine lex_skip rfl ?_
                 try simp only [Act.put, List.setIfInBounds_toArray, List.set_cons_zero, List.set_cons_succ])
            refine lex_done ?_
            have hd5 : Upd Nil w1 w5 := (((Upd.refl Nil w1).drew.tr hU2).tr hU3).tr (hU4.tr hU5)
            have hx5 := hd5.blk hx (fun h => h)
            have hy5 := hd5.blk hy (fun h => h)
            clear x0 x1 x2 x3 x4 x5 y0 y1 y2 y3 y4 y5 z0 z1 z2 z3 z4 z5 hU2 hU3 hU4 hU5 k1 k2 k3 k4 hz
            have hx5c0 : (w5).cell? ⟨w.heap.size, 0, none⟩ = some (.int .i64 a0) := Base.blk_cell hx5 0
            have hx5z0 : (w5).frozen? ⟨w.heap.size, 0, none⟩ = false := Base.blk_frozen hx5 0
            have hx5c1 : (w5).cell? ⟨w.heap.size, 1, none⟩ = some (.int .i64 a1) := Base.blk_cell hx5 1
            have hx5z1 : (w5).frozen? ⟨w.heap.size, 1, none⟩ = false := Base.blk_frozen hx5 1
            have hx5c2 : (w5).cell? ⟨w.heap.size, 2, none⟩ = some (.int .i64 a2) := Base.blk_cell hx5 2
            have hx5z2 : (w5).frozen? ⟨w.heap.size, 2, none⟩ = false := Base.blk_frozen hx5 2
            have hx5c3 : (w5).cell? ⟨w.heap.size, 3, none⟩ = some (.int .i64 a3) := Base.blk_cell hx5 3
            have hx5z3 : (w5).frozen? ⟨w.heap.size, 3, none⟩ = false := Base.blk_frozen hx5 3
            have hx5c4 : (w5).cell? ⟨w.heap.size, 4, none⟩ = some (.int .i64 a4) := Base.blk_cell hx5 4
            have hx5z4 : (w5).frozen? ⟨w.heap.size, 4, none⟩ = false := Base.blk_frozen hx5 4
            have hx5c5 : (w5).cell? ⟨w.heap.size, 5, none⟩ = some (.bool true) := Base.blk_cell hx5 5
            have hx5z5 : (w5).frozen? ⟨w.heap.size, 5, none⟩ = false := Base.blk_frozen hx5 5
            go_wp2_with fail
            refine (k5 _).mono ?_
            rintro e w6 ⟨rfl, hU6⟩
            have hx6 := hU6.blk hx5 (fun h => h)
            have hy6 := hU6.blk hy5 (fun h => h)
            clear hx5c0 hx5c1 hx5c2 hx5c3 hx5c4 hx5c5 hx5z0 hx5z1 hx5z2 hx5z3 hx5z4 hx5z5 hx5 hy5
            have hx6c0 : (w6).cell? ⟨w.heap.size, 0, none⟩ = some (.int .i64 a0) := Base.blk_cell hx6 0
            have hx6z0 : (w6).frozen? ⟨w.heap.size, 0, none⟩ = false := Base.blk_frozen hx6 0
            have hx6c1 : (w6).cell? ⟨w.heap.size, 1, none⟩ = some (.int .i64 a1) := Base.blk_cell hx6 1
            have hx6z1 : (w6).frozen? ⟨w.heap.size, 1, none⟩ = false := Base.blk_frozen hx6 1
            have hx6c2 : (w6).cell? ⟨w.heap.size, 2, none⟩ = some (.int .i64 a2) := Base.blk_cell hx6 2
            have hx6z2 : (w6).frozen? ⟨w.heap.size, 2, none⟩ = false := Base.blk_frozen hx6 2
            have hx6c3 : (w6).cell? ⟨w.heap.size, 3, none⟩ = some (.int .i64 a3) := Base.blk_cell hx6 3
            have hx6z3 : (w6).frozen? ⟨w.heap.size, 3, none⟩ = false := Base.blk_frozen hx6 3
            have hx6c4 : (w6).cell? ⟨w.heap.size, 4, none⟩ = some (.int .i64 a4) := Base.blk_cell hx6 4
            have hx6z4 : (w6).frozen? ⟨w.heap.size, 4, none⟩ = false := Base.blk_frozen hx6 4
            have hx6c5 : (w6).cell? ⟨w.heap.size, 5, none⟩ = some (.bool true) := Base.blk_cell hx6 5
            have hx6z5 : (w6).frozen? ⟨w.heap.size, 5, none⟩ = false := Base.blk_frozen hx6 5
            have hy6c0 : (w6).cell? ⟨(w.heap.size + 1), 0, none⟩ = some (.int .i64 b0) := Base.blk_cell hy6 0
            have hy6z0 : (w6).frozen? ⟨(w.heap.size + 1), 0, none⟩ = false := Base.blk_frozen hy6 0
            have hy6c1 : (w6).cell? ⟨(w.heap.size + 1), 1, none⟩ = some (.int .i64 b1) := Base.blk_cell hy6 1
            have hy6z1 : (w6).frozen? ⟨(w.heap.size + 1), 1, none⟩ = false := Base.blk_frozen hy6 1
            have hy6c2 : (w6).cell? ⟨(w.heap.size + 1), 2, none⟩ = some (.int .i64 b2) := Base.blk_cell hy6 2
            have hy6z2 : (w6).frozen? ⟨(w.heap.size + 1), 2, none⟩ = false := Base.blk_frozen hy6 2
            have hy6c3 : (w6).cell? ⟨(w.heap.size + 1), 3, none⟩ = some (.int .i64 a3) := Base.blk_cell hy6 3
            have hy6z3 : (w6).frozen? ⟨(w.heap.size + 1), 3, none⟩ = false := Base.blk_frozen hy6 3
            have hy6c4 : (w6).cell? ⟨(w.heap.size + 1), 4, none⟩ = some (.int .i64 b4) := Base.blk_cell hy6 4
            have hy6z4 : (w6).frozen? ⟨(w.heap.size + 1), 4, none⟩ = false := Base.blk_frozen hy6 4
            have hy6c5 : (w6).cell? ⟨(w.heap.size + 1), 5, none⟩ = some (.bool false) := Base.blk_cell hy6 5
            have hy6z5 : (w6).frozen? ⟨(w.heap.size + 1), 5, none⟩ = false := Base.blk_frozen hy6 5
            go_wp2_with fail
            go_ret
            exact ⟨ret_b (by simp), (hV1.tr hd5).tr hU6⟩
          · obtain rfl : ac = true := f2 rfl rfl
            go_enter Try.func8, Try.ntmps8
            go_wp2_with fail
            refine (fixed _).mono ?_
            rintro e w1 ⟨rfl, hU1⟩
            have hx := hU1.block w.heap.size (by simp; omega) (fun h => h)
            rw [blk_alloc (blk_alloc (blk_new _ _) _) _] at hx
            have hy := hU1.block (w.heap.size + 1) (by simp) (fun h => h)
            rw [blk_alloc (b := w.heap.size + 1) (o := .cells #[.int .i64 b0, .int .i64 b1, .int .i64 b2, .int .i64 a3, .int .i64 b4, .bool false] 35) (by have h := blk_new (w.alloc (.cells #[.int .i64 a0, .int .i64 a1, .int .i64 a2, .int .i64 a3, .int .i64 a4, .bool true] 35)) (.cells #[.int .i64 b0, .int .i64 b1, .int .i64 b2, .int .i64 a3, .int .i64 b4, .bool false] 35); simpa using h) _] at hy
            have hz := hU1.block (w.heap.size + 1 + 1) (by simp) (fun h => h)
            rw [show ∀ o1 o2 o3 : Obj, (((w.alloc o1).alloc o2).alloc o3).heap[w.heap.size + 1 + 1]? = some o3 by intro o1 o2 o3; have h := blk_new ((w.alloc o1).alloc o2) o3; simpa using h] at hz
            have hV1 := ((((Upd.refl Nil w).alloc _).alloc _).alloc _).tr hU1
            go_wp2_with fail
            have x0 : ∀ w', Upd Nil w1.drew w' → w'.cell? ⟨w.heap.size, 0, none⟩ = some (.int .i64 a0) := fun w' u => blk_cell (u.blk hx (fun h => h)) 0
            have x1 : ∀ w', Upd Nil w1.drew w' → w'.cell? ⟨w.heap.size, 1, none⟩ = some (.int .i64 a1) := fun w' u => blk_cell (u.blk hx (fun h => h)) 1
            have x2 : ∀ w', Upd Nil w1.drew w' → w'.cell? ⟨w.heap.size, 2, none⟩ = some (.int .i64 a2) := fun w' u => blk_cell (u.blk hx (fun h => h)) 2
            have x3 : ∀ w', Upd Nil w1.drew w' → w'.cell? ⟨w.heap.size, 3, none⟩ = some (.int .i64 a3) := fun w' u => blk_cell (u.blk hx (fun h => h)) 3
            have x4 : ∀ w', Upd Nil w1.drew w' → w'.cell? ⟨w.heap.size, 4, none⟩ = some (.int .i64 a4) := fun w' u => blk_cell (u.blk hx (fun h => h)) 4
            have x5 : ∀ w', Upd Nil w1.drew w' → w'.cell? ⟨w.heap.size, 5, none⟩ = some (.bool true) := fun w' u => blk_cell (u.blk hx (fun h => h)) 5
            have y0 : ∀ w', Upd Nil w1.drew w' → w'.cell? ⟨w.heap.size + 1, 0, none⟩ = some (.int .i64 b0) := fun w' u => blk_cell (u.blk hy (fun h => h)) 0
            have y1 : ∀ w', Upd Nil w1.drew w' → w'.cell? ⟨w.heap.size + 1, 1, none⟩ = some (.int .i64 b1) := fun w' u => blk_cell (u.blk hy (fun h => h)) 1
            have y2 : ∀ w', Upd Nil w1.drew w' → w'.cell? ⟨w.heap.size + 1, 2, none⟩ = some (.int .i64 b2) := fun w' u => blk_cell (u.blk hy (fun h => h)) 2
            have y3 : ∀ w', Upd Nil w1.drew w' → w'.cell? ⟨w.heap.size + 1, 3, none⟩ = some (.int .i64 a3) := fun w' u => blk_cell (u.blk hy (fun h => h)) 3
            have y4 : ∀ w', Upd Nil w1.drew w' → w'.cell? ⟨w.heap.size + 1, 4, none⟩ = some (.int .i64 b4) := fun w' u => blk_cell (u.blk hy (fun h => h)) 4
            have y5 : ∀ w', Upd Nil w1.drew w' → w'.cell? ⟨w.heap.size + 1, 5, none⟩ = some (.bool false) := fun w' u => blk_cell (u.blk hy (fun h => h)) 5
            have z0 : ∀ w', Upd Nil w1.drew w' → w'.cell? ⟨w.heap.size + 1 + 1, 0, none⟩ = some (.int .i64 c0) := fun w' u => blk_cell (u.blk hz (fun h => h)) 0
            have z1 : ∀ w', Upd Nil w1.drew w' → w'.cell? ⟨w.heap.size + 1 + 1, 1, none⟩ = some (.int .i64 c1) := fun w' u => blk_cell (u.blk hz (fun h => h)) 1
            have z2 : ∀ w', Upd Nil w1.drew w' → w'.cell? ⟨w.heap.size + 1 + 1, 2, none⟩ = some (.int .i64 c2) := fun w' u => blk_cell (u.blk hz (fun h => h)) 2
            have z3 : ∀ w', Upd Nil w1.drew w' → w'.cell? ⟨w.heap.size + 1 + 1, 3, none⟩ = some (.int .i64 c3) := fun w' u => blk_cell (u.blk hz (fun h => h)) 3
            have z4 : ∀ w', Upd Nil w1.drew w' → w'.cell? ⟨w.heap.size + 1 + 1, 4, none⟩ = some (.int .i64 c4) := fun w' u => blk_cell (u.blk hz (fun h => h)) 4
            have z5 : ∀ w', Upd Nil w1.drew w' → w'.cell? ⟨w.heap.size + 1 + 1, 5, none⟩ = some (.bool c5) := fun w' u => blk_cell (u.blk hz (fun h => h)) 5
            clear hU1 f1 f2 f3
            refine wp_region_lex Nil [0, 1, 3, 4, 6, 7, 9, 10, 2, 5, 8, 11, 12, 13, 14, 15] (by kernel_rfl) (by kernel_rfl) rfl (by kernel_rfl) ?_
            simp only [inOrder, List.filterMap_cons, List.filterMap_nil, List.getElem?_cons_zero, List.getElem?_cons_succ]
            try simp only [Act.put, List.setIfInBounds_toArray, List.set_cons_zero, List.set_cons_succ]
            repeat
              first
              | (refine lex_pure (v := ?_) rfl rfl ?_ ?_
                 rotate_left
                 · intro w' hU'
                   go_simp
                   try with_reducible rfl
                 try simp only [Act.put, List.setIfInBounds_toArray, List.set_cons_zero, List.set_cons_succ])
              | (refine lex_skip rfl ?_
                 try simp only [Act.put, List.setIfInBounds_toArray, List.set_cons_zero, List.set_cons_succ])
            refine lex_fn (f := 25) (args := _) rfl rfl (by go_simp) ((k1 _).mono ?_)
            rintro e w2 ⟨rfl, hU2⟩
            refine ⟨_, rfl, hU2, ?_⟩
            try simp only [Act.put, List.setIfInBounds_toArray, List.set_cons_zero, List.set_cons_succ]
            repeat
              first
              | (refine lex_pure (v := ?_) rfl rfl ?_ ?_
                 rotate_left
                 · intro w' hU'
                   go_simp
                   try with_reducible rfl
                 try simp only [Act.put, List.setIfInBounds_toArray, List.set_cons_zero, List.set_cons_succ])
              | (refine lex_skip rfl ?_
                 try simp only [Act.put, List.setIfInBounds_toArray, List.set_cons_zero, List.set_cons_succ])
            refine lex_fn (f := 25) (args := _) rfl rfl (by go_simp) ((k2 _).mono ?_)
            rintro e w3 ⟨rfl, hU3⟩
            refine ⟨_, rfl, hU3, ?_⟩
            try simp only [Act.put, List.setIfInBounds_toArray, List.set_cons_zero, List.set_cons_succ]
            repeat
              first
              | (refine lex_pure (v := ?_) rfl rfl ?_ ?_
                 rotate_left
                 · intro w' hU'
                   go_simp
                   try with_reducible rfl
                 try simp only [Act.put, List.setIfInBounds_toArray, List.set_cons_zero, List.set_cons_succ])
              | (refine lex_skip rfl ?_
                 try simp only [Act.put, List.setIfInBounds_toArray, List.set_cons_zero, List.set_cons_succ])
            refine lex_fn (f := 25) (args := _) rfl rfl (by go_simp) ((k3 _).mono ?_)
            rintro e w4 ⟨rfl, hU4⟩
            refine ⟨_, rfl, hU4, ?_⟩
            try simp only [Act.put, List.setIfInBounds_toArray, List.set_cons_zero, List.set_cons_succ]
            repeat
              first
              | (refine lex_pure (v := ?_) rfl rfl ?_ ?_
                 rotate_left
                 · intro w' hU'
                   go_simp
                   try with_reducible rfl
                 try simp only [Act.put, List.setIfInBounds_toArray, List.set_cons_zero, List.set_cons_succ])
              | (refine lex_skip rfl ?_
                 try simp only [Act.put, List.setIfInBounds_toArray, List.set_cons_zero, List.set_cons_succ])
            refine lex_fn (f := 25) (args := _) rfl rfl (by go_simp) ((k4 _).mono ?_)
            rintro e w5 ⟨rfl, hU5⟩
            refine ⟨_, rfl, hU5, ?_⟩
            try simp only [Act.put, List.setIfInBounds_toArray, List.set_cons_zero, List.set_cons_succ]
            repeat
              first
              | (refine lex_pure (v := ?_) rfl rfl ?_ ?_
                 rotate_left
                 · intro w' hU'
                   go_simp
                   try with_reducible rfl
                 try simp only [Act.put, List.setIfInBounds_toArray, List.set_cons_zero, List.set_cons_succ])
              | (refine lex_skip rfl ?_
                 try simp only [Act.put, List.setIfInBounds_toArray, List.set_cons_zero, List.set_cons_succ])
            refine lex_done ?_
            have hd5 : Upd Nil w1 w5 := (((Upd.refl Nil w1).drew.tr hU2).tr hU3).tr (hU4.tr hU5)
            have hx5 := hd5.blk hx (fun h => h)
            have hy5 := hd5.blk hy (fun h => h)
            clear x0 x1 x2 x3 x4 x5 y0 y1 y2 y3 y4 y5 z0 z1 z2 z3 z4 z5 hU2 hU3 hU4 hU5 k1 k2 k3 k4 hz
            have hx5c0 : (w5).cell? ⟨w.heap.size, 0, none⟩ = some (.int .i64 a0) := Base.blk_cell hx5 0
            have hx5z0 : (w5).frozen? ⟨w.heap.size, 0, none⟩ = false := Base.blk_frozen hx5 0
            have hx5c1 : (w5).cell? ⟨w.heap.size, 1, none⟩ = some (.int .i64 a1) := Base.blk_cell hx5 1
            have hx5z1 : (w5).frozen? ⟨w.heap.size, 1, none⟩ = false := Base.blk_frozen hx5 1
            have hx5c2 : (w5).cell? ⟨w.heap.size, 2, none⟩ = some (.int .i64 a2) := Base.blk_cell hx5 2
            have hx5z2 : (w5).frozen? ⟨w.heap.size, 2, none⟩ = false := Base.blk_frozen hx5 2
            have hx5c3 : (w5).cell? ⟨w.heap.size, 3, none⟩ = some (.int .i64 a3) := Base.blk_cell hx5 3
            have hx5z3 : (w5).frozen? ⟨w.heap.size, 3, none⟩ = false := Base.blk_frozen hx5 3
            have hx5c4 : (w5).cell? ⟨w.heap.size, 4, none⟩ = some (.int .i64 a4) := Base.blk_cell hx5 4
            have hx5z4 : (w5).frozen? ⟨w.heap.size, 4, none⟩ = false := Base.blk_frozen hx5 4
            have hx5c5 : (w5).cell? ⟨w.heap.size, 5, none⟩ = some (.bool true) := Base.blk_cell hx5 5
            have hx5z5 : (w5).frozen? ⟨w.heap.size, 5, none⟩ = false := Base.blk_frozen hx5 5
            go_wp2_with fail
            refine (k5 _).mono ?_
            rintro e w6 ⟨rfl, hU6⟩
            have hx6 := hU6.blk hx5 (fun h => h)
            have hy6 := hU6.blk hy5 (fun h => h)
            clear hx5c0 hx5c1 hx5c2 hx5c3 hx5c4 hx5c5 hx5z0 hx5z1 hx5z2 hx5z3 hx5z4 hx5z5 hx5 hy5
            have hx6c0 : (w6).cell? ⟨w.heap.size, 0, none⟩ = some (.int .i64 a0) := Base.blk_cell hx6 0
            have hx6z0 : (w6).frozen? ⟨w.heap.size, 0, none⟩ = false := Base.blk_frozen hx6 0
            have hx6c1 : (w6).cell? ⟨w.heap.size, 1, none⟩ = some (.int .i64 a1) := Base.blk_cell hx6 1
            have hx6z1 : (w6).frozen? ⟨w.heap.size, 1, none⟩ = false := Base.blk_frozen hx6 1
            have hx6c2 : (w6).cell? ⟨w.heap.size, 2, none⟩ = some (.int .i64 a2) := Base.blk_cell hx6 2
            have hx6z2 : (w6).frozen? ⟨w.heap.size, 2, none⟩ = false := Base.blk_frozen hx6 2
            have hx6c3 : (w6).cell? ⟨w.heap.size, 3, none⟩ = some (.int .i64 a3) := Base.blk_cell hx6 3
            have hx6z3 : (w6).frozen? ⟨w.heap.size, 3, none⟩ = false := Base.blk_frozen hx6 3
            have hx6c4 : (w6).cell? ⟨w.heap.size, 4, none⟩ = some (.int .i64 a4) := Base.blk_cell hx6 4
            have hx6z4 : (w6).frozen? ⟨w.heap.size, 4, none⟩ = false := Base.blk_frozen hx6 4
            have hx6c5 : (w6).cell? ⟨w.heap.size, 5, none⟩ = some (.bool true) := Base.blk_cell hx6 5
            have hx6z5 : (w6).frozen? ⟨w.heap.size, 5, none⟩ = false := Base.blk_frozen hx6 5
            have hy6c0 : (w6).cell? ⟨(w.heap.size + 1), 0, none⟩ = some (.int .i64 b0) := Base.blk_cell hy6 0
            have hy6z0 : (w6).frozen? ⟨(w.heap.size + 1), 0, none⟩ = false := Base.blk_frozen hy6 0
            have hy6c1 : (w6).cell? ⟨(w.heap.size + 1), 1, none⟩ = some (.int .i64 b1) := Base.blk_cell hy6 1
            have hy6z1 : (w6).frozen? ⟨(w.heap.size + 1), 1, none⟩ = false := Base.blk_frozen hy6 1
            have hy6c2 : (w6).cell? ⟨(w.heap.size + 1), 2, none⟩ = some (.int .i64 b2) := Base.blk_cell hy6 2
            have hy6z2 : (w6).frozen? ⟨(w.heap.size + 1), 2, none⟩ = false := Base.blk_frozen hy6 2
            have hy6c3 : (w6).cell? ⟨(w.heap.size + 1), 3, none⟩ = some (.int .i64 a3) := Base.blk_cell hy6 3
            have hy6z3 : (w6).frozen? ⟨(w.heap.size + 1), 3, none⟩ = false := Base.blk_frozen hy6 3
            have hy6c4 : (w6).cell? ⟨(w.heap.size + 1), 4, none⟩ = some (.int .i64 b4) := Base.blk_cell hy6 4
            have hy6z4 : (w6).frozen? ⟨(w.heap.size + 1), 4, none⟩ = false := Base.blk_frozen hy6 4
            have hy6c5 : (w6).cell? ⟨(w.heap.size + 1), 5, none⟩ = some (.bool false) := Base.blk_cell hy6 5
            have hy6z5 : (w6).frozen? ⟨(w.heap.size + 1), 5, none⟩ = false := Base.blk_frozen hy6 5
            go_wp2_with fail
            go_ret
            exact ⟨ret_b (by simp), (hV1.tr hd5).tr hU6⟩
      · obtain ⟨rfl, rfl⟩ : ab = false ∧ ba = false := by revert f1 f3; cases ab <;> cases ba <;> simp
        go_enter Try.func8, Try.ntmps8
        go_wp2_with fail
        refine (fixed _).mono ?_
        rintro e w1 ⟨rfl, hU1⟩
        have hx := hU1.block w.heap.size (by simp; omega) (fun h => h)
        rw [blk_alloc (blk_alloc (blk_new _ _) _) _] at hx
        have hy := hU1.block (w.heap.size + 1) (by simp) (fun h => h)
        rw [blk_alloc (b := w.heap.size + 1) (o := .cells #[.int .i64 b0, .int .i64 b1, .int .i64 b2, .int .i64 a3, .int .i64 b4, .bool true] 35) (by have h := blk_new (w.alloc (.cells #[.int .i64 a0, .int .i64 a1, .int .i64 a2, .int .i64 a3, .int .i64 a4, .bool true] 35)) (.cells #[.int .i64 b0, .int .i64 b1, .int .i64 b2, .int .i64 a3, .int .i64 b4, .bool true] 35); simpa using h) _] at hy
        have hz := hU1.block (w.heap.size + 1 + 1) (by simp) (fun h => h)
        rw [show ∀ o1 o2 o3 : Obj, (((w.alloc o1).alloc o2).alloc o3).heap[w.heap.size + 1 + 1]? = some o3 by intro o1 o2 o3; have h := blk_new ((w.alloc o1).alloc o2) o3; simpa using h] at hz
        have hV1 := ((((Upd.refl Nil w).alloc _).alloc _).alloc _).tr hU1
        go_wp2_with fail
        have x0 : ∀ w', Upd Nil w1.drew w' → w'.cell? ⟨w.heap.size, 0, none⟩ = some (.int .i64 a0) := fun w' u => blk_cell (u.blk hx (fun h => h)) 0
        have x1 : ∀ w', Upd Nil w1.drew w' → w'.cell? ⟨w.heap.size, 1, none⟩ = some (.int .i64 a1) := fun w' u => blk_cell (u.blk hx (fun h => h)) 1
        have x2 : ∀ w', Upd Nil w1.drew w' → w'.cell? ⟨w.heap.size, 2, none⟩ = some (.int .i64 a2) := fun w' u => blk_cell (u.blk hx (fun h => h)) 2
        have x3 : ∀ w', Upd Nil w1.drew w' → w'.cell? ⟨w.heap.size, 3, none⟩ = some (.int .i64 a3) := fun w' u => blk_cell (u.blk hx (fun h => h)) 3
        have x4 : ∀ w', Upd Nil w1.drew w' → w'.cell? ⟨w.heap.size, 4, none⟩ = some (.int .i64 a4) := fun w' u => blk_cell (u.blk hx (fun h => h)) 4
        have x5 : ∀ w', Upd Nil w1.drew w' → w'.cell? ⟨w.heap.size, 5, none⟩ = some (.bool true) := fun w' u => blk_cell (u.blk hx (fun h => h)) 5
        have y0 : ∀ w', Upd Nil w1.drew w' → w'.cell? ⟨w.heap.size + 1, 0, none⟩ = some (.int .i64 b0) := fun w' u => blk_cell (u.blk hy (fun h => h)) 0
        have y1 : ∀ w', Upd Nil w1.drew w' → w'.cell? ⟨w.heap.size + 1, 1, none⟩ = some (.int .i64 b1) := fun w' u => blk_cell (u.blk hy (fun h => h)) 1
        have y2 : ∀ w', Upd Nil w1.drew w' → w'.cell? ⟨w.heap.size + 1, 2, none⟩ = some (.int .i64 b2) := fun w' u => blk_cell (u.blk hy (fun h => h)) 2
        have y3 : ∀ w', Upd Nil w1.drew w' → w'.cell? ⟨w.heap.size + 1, 3, none⟩ = some (.int .i64 a3) := fun w' u => blk_cell (u.blk hy (fun h => h)) 3
        have y4 : ∀ w', Upd Nil w1.drew w' → w'.cell? ⟨w.heap.size + 1, 4, none⟩ = some (.int .i64 b4) := fun w' u => blk_cell (u.blk hy (fun h => h)) 4
        have y5 : ∀ w', Upd Nil w1.drew w' → w'.cell? ⟨w.heap.size + 1, 5, none⟩ = some (.bool true) := fun w' u => blk_cell (u.blk hy (fun h => h)) 5
        have z0 : ∀ w', Upd Nil w1.drew w' → w'.cell? ⟨w.heap.size + 1 + 1, 0, none⟩ = some (.int .i64 c0) := fun w' u => blk_cell (u.blk hz (fun h => h)) 0
        have z1 : ∀ w', Upd Nil w1.drew w' → w'.cell? ⟨w.heap.size + 1 + 1, 1, none⟩ = some (.int .i64 c1) := fun w' u => blk_cell (u.blk hz (fun h => h)) 1
        have z2 : ∀ w', Upd Nil w1.drew w' → w'.cell? ⟨w.heap.size + 1 + 1, 2, none⟩ = some (.int .i64 c2) := fun w' u => blk_cell (u.blk hz (fun h => h)) 2
        have z3 : ∀ w', Upd Nil w1.drew w' → w'.cell? ⟨w.heap.size + 1 + 1, 3, none⟩ = some (.int .i64 c3) := fun w' u => blk_cell (u.blk hz (fun h => h)) 3
        have z4 : ∀ w', Upd Nil w1.drew w' → w'.cell? ⟨w.heap.size + 1 + 1, 4, none⟩ = some (.int .i64 c4) := fun w' u => blk_cell (u.blk hz (fun h => h)) 4
        have z5 : ∀ w', Upd Nil w1.drew w' → w'.cell? ⟨w.heap.size + 1 + 1, 5, none⟩ = some (.bool c5) := fun w' u => blk_cell (u.blk hz (fun h => h)) 5
        clear hU1 f1 f2 f3
        refine wp_region_lex Nil [0, 1, 3, 4, 6, 7, 9, 10, 2, 5, 8, 11, 12, 13, 14, 15] (by kernel_rfl) (by kernel_rfl) rfl (by kernel_rfl) ?_
        simp only [inOrder, List.filterMap_cons, List.filterMap_nil, List.getElem?_cons_zero, List.getElem?_cons_succ]
        try simp only [Act.put, List.setIfInBounds_toArray, List.set_cons_zero, List.set_cons_succ]
        repeat
          first
          | (refine lex_pure (v := ?_) rfl rfl ?_ ?_
             rotate_left
             · intro w' hU'
               go_simp
               try with_reducible rfl
             try simp only [Act.put, List.setIfInBounds_toArray, List.set_cons_zero, List.set_cons_succ])
          | (refine lex_skip rfl ?_
             try simp only [Act.put, List.setIfInBounds_toArray, List.set_cons_zero, List.set_cons_succ])
        refine lex_fn (f := 25) (args := _) rfl rfl (by go_simp) ((k1 _).mono ?_)
        rintro e w2 ⟨rfl, hU2⟩
        refine ⟨_, rfl, hU2, ?_⟩
        try simp only [Act.put, List.setIfInBounds_toArray, List.set_cons_zero, List.set_cons_succ]
        repeat
          first
          | (refine lex_pure (v := ?_) rfl rfl ?_ ?_
             rotate_left
             · intro w' hU'
               go_simp
               try with_reducible rfl
             try simp only [Act.put, List.setIfInBounds_toArray, List.set_cons_zero, List.set_cons_succ])
          | (refine lex_skip rfl ?_
             try simp only [Act.put, List.setIfInBounds_toArray, List.set_cons_zero, List.set_cons_succ])
        refine lex_fn (f := 25) (args := _) rfl rfl (by go_simp) ((k2 _).mono ?_)
        rintro e w3 ⟨rfl, hU3⟩
        refine ⟨_, rfl, hU3, ?_⟩
        try simp only [Act.put, List.setIfInBounds_toArray, List.set_cons_zero, List.set_cons_succ]
        repeat
          first
          | (refine lex_pure (v := ?_) rfl rfl ?_ ?_
             rotate_left
             · intro w' hU'
               go_simp
               try with_reducible rfl
             try simp only [Act.put, List.setIfInBounds_toArray, List.set_cons_zero, List.set_cons_succ])
          | (refine lex_skip rfl ?_
             try simp only [Act.put, List.setIfInBounds_toArray, List.set_cons_zero, List.set_cons_succ])
        refine lex_fn (f := 25) (args := _) rfl rfl (by go_simp) ((k3 _).mono ?_)
        rintro e w4 ⟨rfl, hU4⟩
        refine ⟨_, rfl, hU4, ?_⟩
        try simp only [Act.put, List.setIfInBounds_toArray, List.set_cons_zero, List.set_cons_succ]
        repeat
          first
          | (refine lex_pure (v := ?_) rfl rfl ?_ ?_
             rotate_left
             · intro w' hU'
               go_simp
               try with_reducible rfl
             try simp only [Act.put, List.setIfInBounds_toArray, List.set_cons_zero, List.set_cons_succ])
          | (refine lex_skip rfl ?_
             try simp only [Act.put, List.setIfInBounds_toArray, List.set_cons_zero, List.set_cons_succ])
        refine lex_fn (f := 25) (args := _) rfl rfl (by go_simp) ((k4 _).mono ?_)
        rintro e w5 ⟨rfl, hU5⟩
        refine ⟨_, rfl, hU5, ?_⟩
        try simp only [Act.put, List.setIfInBounds_toArray, List.set_cons_zero, List.set_cons_succ]
        repeat
          first
          | (refine lex_pure (v := ?_) rfl rfl ?_ ?_
             rotate_left
             · intro w' hU'
               go_simp
               try with_reducible rfl
             try simp only [Act.put, List.setIfInBounds_toArray, List.set_cons_zero, List.set_cons_succ])
          | (refine lex_skip rfl ?_
             try simp only [Act.put, List.setIfInBounds_toArray, List.set_cons_zero, List.set_cons_succ])
        refine lex_done ?_
        have hd5 : Upd Nil w1 w5 := (((Upd.refl Nil w1).drew.tr hU2).tr hU3).tr (hU4.tr hU5)
        have hx5 := hd5.blk hx (fun h => h)
        have hy5 := hd5.blk hy (fun h => h)
        clear x0 x1 x2 x3 x4 x5 y0 y1 y2 y3 y4 y5 z0 z1 z2 z3 z4 z5 hU2 hU3 hU4 hU5 k1 k2 k3 k4 hz
        have hx5c0 : (w5).cell? ⟨w.heap.size, 0, none⟩ = some (.int .i64 a0) := Base.blk_cell hx5 0
        have hx5z0 : (w5).frozen? ⟨w.heap.size, 0, none⟩ = false := Base.blk_frozen hx5 0
        have hx5c1 : (w5).cell? ⟨w.heap.size, 1, none⟩ = some (.int .i64 a1) := Base.blk_cell hx5 1
        have hx5z1 : (w5).frozen? ⟨w.heap.size, 1, none⟩ = false := Base.blk_frozen hx5 1
        have hx5c2 : (w5).cell? ⟨w.heap.size, 2, none⟩ = some (.int .i64 a2) := Base.blk_cell hx5 2
        have hx5z2 : (w5).frozen? ⟨w.heap.size, 2, none⟩ = false := Base.blk_frozen hx5 2
        have hx5c3 : (w5).cell? ⟨w.heap.size, 3, none⟩ = some (.int .i64 a3) := Base.blk_cell hx5 3
        have hx5z3 : (w5).frozen? ⟨w.heap.size, 3, none⟩ = false := Base.blk_frozen hx5 3
        have hx5c4 : (w5).cell? ⟨w.heap.size, 4, none⟩ = some (.int .i64 a4) := Base.blk_cell hx5 4
        have hx5z4 : (w5).frozen? ⟨w.heap.size, 4, none⟩ = false := Base.blk_frozen hx5 4
        have hx5c5 : (w5).cell? ⟨w.heap.size, 5, none⟩ = some (.bool true) := Base.blk_cell hx5 5
        have hx5z5 : (w5).frozen? ⟨w.heap.size, 5, none⟩ = false := Base.blk_frozen hx5 5
        go_wp2_with fail
        refine (k5 _).mono ?_
        rintro e w6 ⟨rfl, hU6⟩
        have hx6 := hU6.blk hx5 (fun h => h)
        have hy6 := hU6.blk hy5 (fun h => h)
        clear hx5c0 hx5c1 hx5c2 hx5c3 hx5c4 hx5c5 hx5z0 hx5z1 hx5z2 hx5z3 hx5z4 hx5z5 hx5 hy5
        have hx6c0 : (w6).cell? ⟨w.heap.size, 0, none⟩ = some (.int .i64 a0) := Base.blk_cell hx6 0
        have hx6z0 : (w6).frozen? ⟨w.heap.size, 0, none⟩ = false := Base.blk_frozen hx6 0
        have hx6c1 : (w6).cell? ⟨w.heap.size, 1, none⟩ = some (.int .i64 a1) := Base.blk_cell hx6 1
        have hx6z1 : (w6).frozen? ⟨w.heap.size, 1, none⟩ = false := Base.blk_frozen hx6 1
        have hx6c2 : (w6).cell? ⟨w.heap.size, 2, none⟩ = some (.int .i64 a2) := Base.blk_cell hx6 2
        have hx6z2 : (w6).frozen? ⟨w.heap.size, 2, none⟩ = false := Base.blk_frozen hx6 2
        have hx6c3 : (w6).cell? ⟨w.heap.size, 3, none⟩ = some (.int .i64 a3) := Base.blk_cell hx6 3
        have hx6z3 : (w6).frozen? ⟨w.heap.size, 3, none⟩ = false := Base.blk_frozen hx6 3
        have hx6c4 : (w6).cell? ⟨w.heap.size, 4, none⟩ = some (.int .i64 a4) := Base.blk_cell hx6 4
        have hx6z4 : (w6).frozen? ⟨w.heap.size, 4, none⟩ = false := Base.blk_frozen hx6 4
        have hx6c5 : (w6).cell? ⟨w.heap.size, 5, none⟩ = some (.bool true) := Base.blk_cell hx6 5
        have hx6z5 : (w6).frozen? ⟨w.heap.size, 5, none⟩ = false := Base.blk_frozen hx6 5
        have hy6c0 : (w6).cell? ⟨(w.heap.size + 1), 0, none⟩ = some (.int .i64 b0) := Base.blk_cell hy6 0
        have hy6z0 : (w6).frozen? ⟨(w.heap.size + 1), 0, none⟩ = false := Base.blk_frozen hy6 0
        have hy6c1 : (w6).cell? ⟨(w.heap.size + 1), 1, none⟩ = some (.int .i64 b1) := Base.blk_cell hy6 1
        have hy6z1 : (w6).frozen? ⟨(w.heap.size + 1), 1, none⟩ = false := Base.blk_frozen hy6 1
        have hy6c2 : (w6).cell? ⟨(w.heap.size + 1), 2, none⟩ = some (.int .i64 b2) := Base.blk_cell hy6 2
        have hy6z2 : (w6).frozen? ⟨(w.heap.size + 1), 2, none⟩ = false := Base.blk_frozen hy6 2
        have hy6c3 : (w6).cell? ⟨(w.heap.size + 1), 3, none⟩ = some (.int .i64 a3) := Base.blk_cell hy6 3
        have hy6z3 : (w6).frozen? ⟨(w.heap.size + 1), 3, none⟩ = false := Base.blk_frozen hy6 3
        have hy6c4 : (w6).cell? ⟨(w.heap.size + 1), 4, none⟩ = some (.int .i64 b4) := Base.blk_cell hy6 4
        have hy6z4 : (w6).frozen? ⟨(w.heap.size + 1), 4, none⟩ = false := Base.blk_frozen hy6 4
        have hy6c5 : (w6).cell? ⟨(w.heap.size + 1), 5, none⟩ = some (.bool true) := Base.blk_cell hy6 5
        have hy6z5 : (w6).frozen? ⟨(w.heap.size + 1), 5, none⟩ = false := Base.blk_frozen hy6 5
        go_wp2_with fail
        go_ret
        exact ⟨ret_b (by simp), (hV1.tr hd5).tr hU6⟩
  · have hb : (a3 != b3) = true := by simpa using h
    rw [hb] at f3
    cases ab
    · obtain rfl : ba = true := by revert f1 f3; cases ba <;> simp
      go_enter Try.func8, Try.ntmps8
      go_wp2_with fail
      refine (fixed _).mono ?_
      rintro e w1 ⟨rfl, hU1⟩
      have hx := hU1.block w.heap.size (by simp; omega) (fun h => h)
      rw [blk_alloc (blk_alloc (blk_new _ _) _) _] at hx
      have hy := hU1.block (w.heap.size + 1) (by simp) (fun h => h)
      rw [blk_alloc (b := w.heap.size + 1) (o := .cells #[.int .i64 b0, .int .i64 b1, .int .i64 b2, .int .i64 b3, .int .i64 b4, .bool b5] 35) (by have h := blk_new (w.alloc (.cells #[.int .i64 a0, .int .i64 a1, .int .i64 a2, .int .i64 a3, .int .i64 a4, .bool a5] 35)) (.cells #[.int .i64 b0, .int .i64 b1, .int .i64 b2, .int .i64 b3, .int .i64 b4, .bool b5] 35); simpa using h) _] at hy
      have hz := hU1.block (w.heap.size + 1 + 1) (by simp) (fun h => h)
      rw [show ∀ o1 o2 o3 : Obj, (((w.alloc o1).alloc o2).alloc o3).heap[w.heap.size + 1 + 1]? = some o3 by intro o1 o2 o3; have h := blk_new ((w.alloc o1).alloc o2) o3; simpa using h] at hz
      have hV1 := ((((Upd.refl Nil w).alloc _).alloc _).alloc _).tr hU1
      go_wp2_with fail
      have x0 : ∀ w', Upd Nil w1.drew w' → w'.cell? ⟨w.heap.size, 0, none⟩ = some (.int .i64 a0) := fun w' u => blk_cell (u.blk hx (fun h => h)) 0
      have x1 : ∀ w', Upd Nil w1.drew w' → w'.cell? ⟨w.heap.size, 1, none⟩ = some (.int .i64 a1) := fun w' u => blk_cell (u.blk hx (fun h => h)) 1
      have x2 : ∀ w', Upd Nil w1.drew w' → w'.cell? ⟨w.heap.size, 2, none⟩ = some (.int .i64 a2) := fun w' u => blk_cell (u.blk hx (fun h => h)) 2
      have x3 : ∀ w', Upd Nil w1.drew w' → w'.cell? ⟨w.heap.size, 3, none⟩ = some (.int .i64 a3) := fun w' u => blk_cell (u.blk hx (fun h => h)) 3
      have x4 : ∀ w', Upd Nil w1.drew w' → w'.cell? ⟨w.heap.size, 4, none⟩ = some (.int .i64 a4) := fun w' u => blk_cell (u.blk hx (fun h => h)) 4
      have x5 : ∀ w', Upd Nil w1.drew w' → w'.cell? ⟨w.heap.size, 5, none⟩ = some (.bool a5) := fun w' u => blk_cell (u.blk hx (fun h => h)) 5
      have y0 : ∀ w', Upd Nil w1.drew w' → w'.cell? ⟨w.heap.size + 1, 0, none⟩ = some (.int .i64 b0) := fun w' u => blk_cell (u.blk hy (fun h => h)) 0
      have y1 : ∀ w', Upd Nil w1.drew w' → w'.cell? ⟨w.heap.size + 1, 1, none⟩ = some (.int .i64 b1) := fun w' u => blk_cell (u.blk hy (fun h => h)) 1
      have y2 : ∀ w', Upd Nil w1.drew w' → w'.cell? ⟨w.heap.size + 1, 2, none⟩ = some (.int .i64 b2) := fun w' u => blk_cell (u.blk hy (fun h => h)) 2
      have y3 : ∀ w', Upd Nil w1.drew w' → w'.cell? ⟨w.heap.size + 1, 3, none⟩ = some (.int .i64 b3) := fun w' u => blk_cell (u.blk hy (fun h => h)) 3
      have y4 : ∀ w', Upd Nil w1.drew w' → w'.cell? ⟨w.heap.size + 1, 4, none⟩ = some (.int .i64 b4) := fun w' u => blk_cell (u.blk hy (fun h => h)) 4
      have y5 : ∀ w', Upd Nil w1.drew w' → w'.cell? ⟨w.heap.size + 1, 5, none⟩ = some (.bool b5) := fun w' u => blk_cell (u.blk hy (fun h => h)) 5
      have z0 : ∀ w', Upd Nil w1.drew w' → w'.cell? ⟨w.heap.size + 1 + 1, 0, none⟩ = some (.int .i64 c0) := fun w' u => blk_cell (u.blk hz (fun h => h)) 0
      have z1 : ∀ w', Upd Nil w1.drew w' → w'.cell? ⟨w.heap.size + 1 + 1, 1, none⟩ = some (.int .i64 c1) := fun w' u => blk_cell (u.blk hz (fun h => h)) 1
      have z2 : ∀ w', Upd Nil w1.drew w' → w'.cell? ⟨w.heap.size + 1 + 1, 2, none⟩ = some (.int .i64 c2) := fun w' u => blk_cell (u.blk hz (fun h => h)) 2
      have z3 : ∀ w', Upd Nil w1.drew w' → w'.cell? ⟨w.heap.size + 1 + 1, 3, none⟩ = some (.int .i64 c3) := fun w' u => blk_cell (u.blk hz (fun h => h)) 3
      have z4 : ∀ w', Upd Nil w1.drew w' → w'.cell? ⟨w.heap.size + 1 + 1, 4, none⟩ = some (.int .i64 c4) := fun w' u => blk_cell (u.blk hz (fun h => h)) 4
      have z5 : ∀ w', Upd Nil w1.drew w' → w'.cell? ⟨w.heap.size + 1 + 1, 5, none⟩ = some (.bool c5) := fun w' u => blk_cell (u.blk hz (fun h => h)) 5
      clear hU1 f1 f2 f3
      refine wp_region_lex Nil [0, 1, 3, 4, 6, 7, 9, 10, 2, 5, 8, 11, 12, 13, 14, 15] (by kernel_rfl) (by kernel_rfl) rfl (by kernel_rfl) ?_
      simp only [inOrder, List.filterMap_cons, List.filterMap_nil, List.getElem?_cons_zero, List.getElem?_cons_succ]
      try simp only [Act.put, List.setIfInBounds_toArray, List.set_cons_zero, List.set_cons_succ]
      repeat
        first
        | (refine lex_pure (v := ?_) rfl rfl ?_ ?_
           rotate_left
           · intro w' hU'
             go_simp
             try with_reducible rfl
           try simp only [Act.put, List.setIfInBounds_toArray, List.set_cons_zero, List.set_cons_succ])
        | (refine lex_skip rfl ?_
           try simp only [Act.put, List.setIfInBounds_toArray, List.set_cons_zero, List.set_cons_succ])
      refine lex_fn (f := 25) (args := _) rfl rfl (by go_simp) ((k1 _).mono ?_)
      rintro e w2 ⟨rfl, hU2⟩
      refine ⟨_, rfl, hU2, ?_⟩
      try simp only [Act.put, List.setIfInBounds_toArray, List.set_cons_zero, List.set_cons_succ]
      repeat
        first
        | (refine lex_pure (v := ?_) rfl rfl ?_ ?_
           rotate_left
           · intro w' hU'
             go_simp
             try with_reducible rfl
           try simp only [Act.put, List.setIfInBounds_toArray, List.set_cons_zero, List.set_cons_succ])
        | (refine lex_skip rfl ?_
           try simp only [Act.put, List.setIfInBounds_toArray, List.set_cons_zero, List.set_cons_succ])
      refine lex_fn (f := 25) (args := _) rfl rfl (by go_simp) ((k2 _).mono ?_)
      rintro e w3 ⟨rfl, hU3⟩
      refine ⟨_, rfl, hU3, ?_⟩
      try simp only [Act.put, List.setIfInBounds_toArray, List.set_cons_zero, List.set_cons_succ]
      repeat
        first
        | (refine lex_pure (v := ?_) rfl rfl ?_ ?_
           rotate_left
           · intro w' hU'
             go_simp
             try with_reducible rfl
           try simp only [Act.put, List.setIfInBounds_toArray, List.set_cons_zero, List.set_cons_succ])
        | (refine lex_skip rfl ?_
           try simp only [Act.put, List.setIfInBounds_toArray, List.set_cons_zero, List.set_cons_succ])
      refine lex_fn (f := 25) (args := _) rfl rfl (by go_simp) ((k3 _).mono ?_)
      rintro e w4 ⟨rfl, hU4⟩
      refine ⟨_, rfl, hU4, ?_⟩
      try simp only [Act.put, List.setIfInBounds_toArray, List.set_cons_zero, List.set_cons_succ]
      repeat
        first
        | (refine lex_pure (v := ?_) rfl rfl ?_ ?_
           rotate_left
           · intro w' hU'
             go_simp
             try with_reducible rfl
           try simp only [Act.put, List.setIfInBounds_toArray, List.set_cons_zero, List.set_cons_succ])
        | (refine lex_skip rfl ?_
           try simp only [Act.put, List.setIfInBounds_toArray, List.set_cons_zero, List.set_cons_succ])
      refine lex_fn (f := 25) (args := _) rfl rfl (by go_simp) ((k4 _).mono ?_)
      rintro e w5 ⟨rfl, hU5⟩
      refine ⟨_, rfl, hU5, ?_⟩
      try simp only [Act.put, List.setIfInBounds_toArray, List.set_cons_zero, List.set_cons_succ]
      repeat
        first
        | (refine lex_pure (v := ?_) rfl rfl ?_ ?_
           rotate_left
           · intro w' hU'
             go_simp
             try with_reducible rfl
           try simp only [Act.put, List.setIfInBounds_toArray, List.set_cons_zero, List.set_cons_succ])
        | (refine lex_skip rfl ?_
           try simp only [Act.put, List.setIfInBounds_toArray, List.set_cons_zero, List.set_cons_succ])
      refine lex_done ?_
      have hd5 : Upd Nil w1 w5 := (((Upd.refl Nil w1).drew.tr hU2).tr hU3).tr (hU4.tr hU5)
      have hx5 := hd5.blk hx (fun h => h)
      have hy5 := hd5.blk hy (fun h => h)
      clear x0 x1 x2 x3 x4 x5 y0 y1 y2 y3 y4 y5 z0 z1 z2 z3 z4 z5 hU2 hU3 hU4 hU5 k1 k2 k3 k4 hz
      have hx5c0 : (w5).cell? ⟨w.heap.size, 0, none⟩ = some (.int .i64 a0) := Base.blk_cell hx5 0
      have hx5z0 : (w5).frozen? ⟨w.heap.size, 0, none⟩ = false := Base.blk_frozen hx5 0
      have hx5c1 : (w5).cell? ⟨w.heap.size, 1, none⟩ = some (.int .i64 a1) := Base.blk_cell hx5 1
      have hx5z1 : (w5).frozen? ⟨w.heap.size, 1, none⟩ = false := Base.blk_frozen hx5 1
      have hx5c2 : (w5).cell? ⟨w.heap.size, 2, none⟩ = some (.int .i64 a2) := Base.blk_cell hx5 2
      have hx5z2 : (w5).frozen? ⟨w.heap.size, 2, none⟩ = false := Base.blk_frozen hx5 2
      have hx5c3 : (w5).cell? ⟨w.heap.size, 3, none⟩ = some (.int .i64 a3) := Base.blk_cell hx5 3
      have hx5z3 : (w5).frozen? ⟨w.heap.size, 3, none⟩ = false := Base.blk_frozen hx5 3
      have hx5c4 : (w5).cell? ⟨w.heap.size, 4, none⟩ = some (.int .i64 a4) := Base.blk_cell hx5 4
      have hx5z4 : (w5).frozen? ⟨w.heap.size, 4, none⟩ = false := Base.blk_frozen hx5 4
      have hx5c5 : (w5).cell? ⟨w.heap.size, 5, none⟩ = some (.bool a5) := Base.blk_cell hx5 5
      have hx5z5 : (w5).frozen? ⟨w.heap.size, 5, none⟩ = false := Base.blk_frozen hx5 5
      go_wp2_with fail
      refine (k5 _).mono ?_
      rintro e w6 ⟨rfl, hU6⟩
      have hx6 := hU6.blk hx5 (fun h => h)
      have hy6 := hU6.blk hy5 (fun h => h)
      clear hx5c0 hx5c1 hx5c2 hx5c3 hx5c4 hx5c5 hx5z0 hx5z1 hx5z2 hx5z3 hx5z4 hx5z5 hx5 hy5
      have hx6c0 : (w6).cell? ⟨w.heap.size, 0, none⟩ = some (.int .i64 a0) := Base.blk_cell hx6 0
      have hx6z0 : (w6).frozen? ⟨w.heap.size, 0, none⟩ = false := Base.blk_frozen hx6 0
      have hx6c1 : (w6).cell? ⟨w.heap.size, 1, none⟩ = some (.int .i64 a1) := Base.blk_cell hx6 1
      have hx6z1 : (w6).frozen? ⟨w.heap.size, 1, none⟩ = false := Base.blk_frozen hx6 1
      have hx6c2 : (w6).cell? ⟨w.heap.size, 2, none⟩ = some (.int .i64 a2) := Base.blk_cell hx6 2
      have hx6z2 : (w6).frozen? ⟨w.heap.size, 2, none⟩ = false := Base.blk_frozen hx6 2
      have hx6c3 : (w6).cell? ⟨w.heap.size, 3, none⟩ = some (.int .i64 a3) := Base.blk_cell hx6 3
      have hx6z3 : (w6).frozen? ⟨w.heap.size, 3, none⟩ = false := Base.blk_frozen hx6 3
      have hx6c4 : (w6).cell? ⟨w.heap.size, 4, none⟩ = some (.int .i64 a4) := Base.blk_cell hx6 4
      have hx6z4 : (w6).frozen? ⟨w.heap.size, 4, none⟩ = false := Base.blk_frozen hx6 4
      have hx6c5 : (w6).cell? ⟨w.heap.size, 5, none⟩ = some (.bool a5) := Base.blk_cell hx6 5
      have hx6z5 : (w6).frozen? ⟨w.heap.size, 5, none⟩ = false := Base.blk_frozen hx6 5
      have hy6c0 : (w6).cell? ⟨(w.heap.size + 1), 0, none⟩ = some (.int .i64 b0) := Base.blk_cell hy6 0
      have hy6z0 : (w6).frozen? ⟨(w.heap.size + 1), 0, none⟩ = false := Base.blk_frozen hy6 0
      have hy6c1 : (w6).cell? ⟨(w.heap.size + 1), 1, none⟩ = some (.int .i64 b1) := Base.blk_cell hy6 1
      have hy6z1 : (w6).frozen? ⟨(w.heap.size + 1), 1, none⟩ = false := Base.blk_frozen hy6 1
      have hy6c2 : (w6).cell? ⟨(w.heap.size + 1), 2, none⟩ = some (.int .i64 b2) := Base.blk_cell hy6 2
      have hy6z2 : (w6).frozen? ⟨(w.heap.size + 1), 2, none⟩ = false := Base.blk_frozen hy6 2
      have hy6c3 : (w6).cell? ⟨(w.heap.size + 1), 3, none⟩ = some (.int .i64 b3) := Base.blk_cell hy6 3
      have hy6z3 : (w6).frozen? ⟨(w.heap.size + 1), 3, none⟩ = false := Base.blk_frozen hy6 3
      have hy6c4 : (w6).cell? ⟨(w.heap.size + 1), 4, none⟩ = some (.int .i64 b4) := Base.blk_cell hy6 4
      have hy6z4 : (w6).frozen? ⟨(w.heap.size + 1), 4, none⟩ = false := Base.blk_frozen hy6 4
      have hy6c5 : (w6).cell? ⟨(w.heap.size + 1), 5, none⟩ = some (.bool b5) := Base.blk_cell hy6 5
      have hy6z5 : (w6).frozen? ⟨(w.heap.size + 1), 5, none⟩ = false := Base.blk_frozen hy6 5
      go_wp2_with fail
      go_ret
      exact ⟨ret_b (by simp), (hV1.tr hd5).tr hU6⟩
    · obtain rfl : ba = false := by revert f1 f3; cases ba <;> simp
      cases nbc
      · skip
        go_enter Try.func8, Try.ntmps8
        go_wp2_with fail
        refine (fixed _).mono ?_
        rintro e w1 ⟨rfl, hU1⟩
        have hx := hU1.block w.heap.size (by simp; omega) (fun h => h)
        rw [blk_alloc (blk_alloc (blk_new _ _) _) _] at hx
        have hy := hU1.block (w.heap.size + 1) (by simp) (fun h => h)
        rw [blk_alloc (b := w.heap.size + 1) (o := .cells #[.int .i64 b0, .int .i64 b1, .int .i64 b2, .int .i64 b3, .int .i64 b4, .bool b5] 35) (by have h := blk_new (w.alloc (.cells #[.int .i64 a0, .int .i64 a1, .int .i64 a2, .int .i64 a3, .int .i64 a4, .bool a5] 35)) (.cells #[.int .i64 b0, .int .i64 b1, .int .i64 b2, .int .i64 b3, .int .i64 b4, .bool b5] 35); simpa using h) _] at hy
        have hz := hU1.block (w.heap.size + 1 + 1) (by simp) (fun h => h)
        rw [show ∀ o1 o2 o3 : Obj, (((w.alloc o1).alloc o2).alloc o3).heap[w.heap.size + 1 + 1]? = some o3 by intro o1 o2 o3; have h := blk_new ((w.alloc o1).alloc o2) o3; simpa using h] at hz
        have hV1 := ((((Upd.refl Nil w).alloc _).alloc _).alloc _).tr hU1
        go_wp2_with fail
        have x0 : ∀ w', Upd Nil w1.drew w' → w'.cell? ⟨w.heap.size, 0, none⟩ = some (.int .i64 a0) := fun w' u => blk_cell (u.blk hx (fun h => h)) 0
        have x1 : ∀ w', Upd Nil w1.drew w' → w'.cell? ⟨w.heap.size, 1, none⟩ = some (.int .i64 a1) := fun w' u => blk_cell (u.blk hx (fun h => h)) 1
        have x2 : ∀ w', Upd Nil w1.drew w' → w'.cell? ⟨w.heap.size, 2, none⟩ = some (.int .i64 a2) := fun w' u => blk_cell (u.blk hx (fun h => h)) 2
        have x3 : ∀ w', Upd Nil w1.drew w' → w'.cell? ⟨w.heap.size, 3, none⟩ = some (.int .i64 a3) := fun w' u => blk_cell (u.blk hx (fun h => h)) 3
        have x4 : ∀ w', Upd Nil w1.drew w' → w'.cell? ⟨w.heap.size, 4, none⟩ = some (.int .i64 a4) := fun w' u => blk_cell (u.blk hx (fun h => h)) 4
        have x5 : ∀ w', Upd Nil w1.drew w' → w'.cell? ⟨w.heap.size, 5, none⟩ = some (.bool a5) := fun w' u => blk_cell (u.blk hx (fun h => h)) 5
        have y0 : ∀ w', Upd Nil w1.drew w' → w'.cell? ⟨w.heap.size + 1, 0, none⟩ = some (.int .i64 b0) := fun w' u => blk_cell (u.blk hy (fun h => h)) 0
        have y1 : ∀ w', Upd Nil w1.drew w' → w'.cell? ⟨w.heap.size + 1, 1, none⟩ = some (.int .i64 b1) := fun w' u => blk_cell (u.blk hy (fun h => h)) 1
        have y2 : ∀ w', Upd Nil w1.drew w' → w'.cell? ⟨w.heap.size + 1, 2, none⟩ = some (.int .i64 b2) := fun w' u => blk_cell (u.blk hy (fun h => h)) 2
        have y3 : ∀ w', Upd Nil w1.drew w' → w'.cell? ⟨w.heap.size + 1, 3, none⟩ = some (.int .i64 b3) := fun w' u => blk_cell (u.blk hy (fun h => h)) 3
        have y4 : ∀ w', Upd Nil w1.drew w' → w'.cell? ⟨w.heap.size + 1, 4, none⟩ = some (.int .i64 b4) := fun w' u => blk_cell (u.blk hy (fun h => h)) 4
        have y5 : ∀ w', Upd Nil w1.drew w' → w'.cell? ⟨w.heap.size + 1, 5, none⟩ = some (.bool b5) := fun w' u => blk_cell (u.blk hy (fun h => h)) 5
        have z0 : ∀ w', Upd Nil w1.drew w' → w'.cell? ⟨w.heap.size + 1 + 1, 0, none⟩ = some (.int .i64 c0) := fun w' u => blk_cell (u.blk hz (fun h => h)) 0
        have z1 : ∀ w', Upd Nil w1.drew w' → w'.cell? ⟨w.heap.size + 1 + 1, 1, none⟩ = some (.int .i64 c1) := fun w' u => blk_cell (u.blk hz (fun h => h)) 1
        have z2 : ∀ w', Upd Nil w1.drew w' → w'.cell? ⟨w.heap.size + 1 + 1, 2, none⟩ = some (.int .i64 c2) := fun w' u => blk_cell (u.blk hz (fun h => h)) 2
        have z3 : ∀ w', Upd Nil w1.drew w' → w'.cell? ⟨w.heap.size + 1 + 1, 3, none⟩ = some (.int .i64 c3) := fun w' u => blk_cell (u.blk hz (fun h => h)) 3
        have z4 : ∀ w', Upd Nil w1.drew w' → w'.cell? ⟨w.heap.size + 1 + 1, 4, none⟩ = some (.int .i64 c4) := fun w' u => blk_cell (u.blk hz (fun h => h)) 4
        have z5 : ∀ w', Upd Nil w1.drew w' → w'.cell? ⟨w.heap.size + 1 + 1, 5, none⟩ = some (.bool c5) := fun w' u => blk_cell (u.blk hz (fun h => h)) 5
        clear hU1 f1 f2 f3
        refine wp_region_lex Nil [0, 1, 3, 4, 6, 7, 9, 10, 2, 5, 8, 11, 12, 13, 14, 15] (by kernel_rfl) (by kernel_rfl) rfl (by kernel_rfl) ?_
        simp only [inOrder, List.filterMap_cons, List.filterMap_nil, List.getElem?_cons_zero, List.getElem?_cons_succ]
        try simp only [Act.put, List.setIfInBounds_toArray, List.set_cons_zero, List.set_cons_succ]
        repeat
          first
          | (refine lex_pure (v := ?_) rfl rfl ?_ ?_
             rotate_left
             · intro w' hU'
               go_simp
               try with_reducible rfl
             try simp only [Act.put, List.setIfInBounds_toArray, List.set_cons_zero, List.set_cons_succ])
          | (refine lex_skip rfl ?_
             try simp only [Act.put, List.setIfInBounds_toArray, List.set_cons_zero, List.set_cons_succ])
        refine lex_fn (f := 25) (args := _) rfl rfl (by go_simp) ((k1 _).mono ?_)
        rintro e w2 ⟨rfl, hU2⟩
        refine ⟨_, rfl, hU2, ?_⟩
        try simp only [Act.put, List.setIfInBounds_toArray, List.set_cons_zero, List.set_cons_succ]
        repeat
          first
          | (refine lex_pure (v := ?_) rfl rfl ?_ ?_
             rotate_left
             · intro w' hU'
               go_simp
               try with_reducible rfl
             try simp only [Act.put, List.setIfInBounds_toArray, List.set_cons_zero, List.set_cons_succ])
          | (refine lex_skip rfl ?_
             try simp only [Act.put, List.setIfInBounds_toArray, List.set_cons_zero, List.set_cons_succ])
        refine lex_fn (f := 25) (args := _) rfl rfl (by go_simp) ((k2 _).mono ?_)
        rintro e w3 ⟨rfl, hU3⟩
        refine ⟨_, rfl, hU3, ?_⟩
        try simp only [Act.put, List.setIfInBounds_toArray, List.set_cons_zero, List.set_cons_succ]
        repeat
          first
          | (refine lex_pure (v := ?_) rfl rfl ?_ ?_
             rotate_left
             · intro w' hU'
               go_simp
               try with_reducible rfl
             try simp only [Act.put, List.setIfInBounds_toArray, List.set_cons_zero, List.set_cons_succ])
          | (refine lex_skip rfl ?_
             try simp only [Act.put, List.setIfInBounds_toArray, List.set_cons_zero, List.set_cons_succ])
        refine lex_fn (f := 25) (args := _) rfl rfl (by go_simp) ((k3 _).mono ?_)
        rintro e w4 ⟨rfl, hU4⟩
        refine ⟨_, rfl, hU4, ?_⟩
        try simp only [Act.put, List.setIfInBounds_toArray, List.set_cons_zero, List.set_cons_succ]
        repeat
          first
          | (refine lex_pure (v := ?_) rfl rfl ?_ ?_
             rotate_left
             · intro w' hU'
               go_simp
               try with_reducible rfl
             try simp only [Act.put, List.setIfInBounds_toArray, List.set_cons_zero, List.set_cons_succ])
          | (refine lex_skip rfl ?_
             try simp only [Act.put, List.setIfInBounds_toArray, List.set_cons_zero, List.set_cons_succ])
        refine lex_fn (f := 25) (args := _) rfl rfl (by go_simp) ((k4 _).mono ?_)
        rintro e w5 ⟨rfl, hU5⟩
        refine ⟨_, rfl, hU5, ?_⟩
        try simp only [Act.put, List.setIfInBounds_toArray, List.set_cons_zero, List.set_cons_succ]
        repeat
          first
          | (refine lex_pure (v := ?_) rfl rfl ?_ ?_
             rotate_left
             · intro w' hU'
               go_simp
               try with_reducible rfl
             try simp only [Act.put, List.setIfInBounds_toArray, List.set_cons_zero, List.set_cons_succ])
          | (refine lex_skip rfl ?_
             try simp only [Act.put, List.setIfInBounds_toArray, List.set_cons_zero, List.set_cons_succ])
        refine lex_done ?_
        have hd5 : Upd Nil w1 w5 := (((Upd.refl Nil w1).drew.tr hU2).tr hU3).tr (hU4.tr hU5)
        have hx5 := hd5.blk hx (fun h => h)
        have hy5 := hd5.blk hy (fun h => h)
        clear x0 x1 x2 x3 x4 x5 y0 y1 y2 y3 y4 y5 z0 z1 z2 z3 z4 z5 hU2 hU3 hU4 hU5 k1 k2 k3 k4 hz
        have hx5c0 : (w5).cell? ⟨w.heap.size, 0, none⟩ = some (.int .i64 a0) := Base.blk_cell hx5 0
        have hx5z0 : (w5).frozen? ⟨w.heap.size, 0, none⟩ = false := Base.blk_frozen hx5 0
        have hx5c1 : (w5).cell? ⟨w.heap.size, 1, none⟩ = some (.int .i64 a1) := Base.blk_cell hx5 1
        have hx5z1 : (w5).frozen? ⟨w.heap.size, 1, none⟩ = false := Base.blk_frozen hx5 1
        have hx5c2 : (w5).cell? ⟨w.heap.size, 2, none⟩ = some (.int .i64 a2) := Base.blk_cell hx5 2
        have hx5z2 : (w5).frozen? ⟨w.heap.size, 2, none⟩ = false := Base.blk_frozen hx5 2
        have hx5c3 : (w5).cell? ⟨w.heap.size, 3, none⟩ = some (.int .i64 a3) := Base.blk_cell hx5 3
        have hx5z3 : (w5).frozen? ⟨w.heap.size, 3, none⟩ = false := Base.blk_frozen hx5 3
        have hx5c4 : (w5).cell? ⟨w.heap.size, 4, none⟩ = some (.int .i64 a4) := Base.blk_cell hx5 4
        have hx5z4 : (w5).frozen? ⟨w.heap.size, 4, none⟩ = false := Base.blk_frozen hx5 4
        have hx5c5 : (w5).cell? ⟨w.heap.size, 5, none⟩ = some (.bool a5) := Base.blk_cell hx5 5
        have hx5z5 : (w5).frozen? ⟨w.heap.size, 5, none⟩ = false := Base.blk_frozen hx5 5
        go_wp2_with fail
        refine (k5 _).mono ?_
        rintro e w6 ⟨rfl, hU6⟩
        have hx6 := hU6.blk hx5 (fun h => h)
        have hy6 := hU6.blk hy5 (fun h => h)
        clear hx5c0 hx5c1 hx5c2 hx5c3 hx5c4 hx5c5 hx5z0 hx5z1 hx5z2 hx5z3 hx5z4 hx5z5 hx5 hy5
        have hx6c0 : (w6).cell? ⟨w.heap.size, 0, none⟩ = some (.int .i64 a0) := Base.blk_cell hx6 0
        have hx6z0 : (w6).frozen? ⟨w.heap.size, 0, none⟩ = false := Base.blk_frozen hx6 0
        have hx6c1 : (w6).cell? ⟨w.heap.size, 1, none⟩ = some (.int .i64 a1) := Base.blk_cell hx6 1
        have hx6z1 : (w6).frozen? ⟨w.heap.size, 1, none⟩ = false := Base.blk_frozen hx6 1
        have hx6c2 : (w6).cell? ⟨w.heap.size, 2, none⟩ = some (.int .i64 a2) := Base.blk_cell hx6 2
        have hx6z2 : (w6).frozen? ⟨w.heap.size, 2, none⟩ = false := Base.blk_frozen hx6 2
        have hx6c3 : (w6).cell? ⟨w.heap.size, 3, none⟩ = some (.int .i64 a3) := Base.blk_cell hx6 3
        have hx6z3 : (w6).frozen? ⟨w.heap.size, 3, none⟩ = false := Base.blk_frozen hx6 3
        have hx6c4 : (w6).cell? ⟨w.heap.size, 4, none⟩ = some (.int .i64 a4) := Base.blk_cell hx6 4
        have hx6z4 : (w6).frozen? ⟨w.heap.size, 4, none⟩ = false := Base.blk_frozen hx6 4
        have hx6c5 : (w6).cell? ⟨w.heap.size, 5, none⟩ = some (.bool a5) := Base.blk_cell hx6 5
        have hx6z5 : (w6).frozen? ⟨w.heap.size, 5, none⟩ = false := Base.blk_frozen hx6 5
        have hy6c0 : (w6).cell? ⟨(w.heap.size + 1), 0, none⟩ = some (.int .i64 b0) := Base.blk_cell hy6 0
        have hy6z0 : (w6).frozen? ⟨(w.heap.size + 1), 0, none⟩ = false := Base.blk_frozen hy6 0
        have hy6c1 : (w6).cell? ⟨(w.heap.size + 1), 1, none⟩ = some (.int .i64 b1) := Base.blk_cell hy6 1
        have hy6z1 : (w6).frozen? ⟨(w.heap.size + 1), 1, none⟩ = false := Base.blk_frozen hy6 1
        have hy6c2 : (w6).cell? ⟨(w.heap.size + 1), 2, none⟩ = some (.int .i64 b2) := Base.blk_cell hy6 2
        have hy6z2 : (w6).frozen? ⟨(w.heap.size + 1), 2, none⟩ = false := Base.blk_frozen hy6 2
        have hy6c3 : (w6).cell? ⟨(w.heap.size + 1), 3, none⟩ = some (.int .i64 b3) := Base.blk_cell hy6 3
        have hy6z3 : (w6).frozen? ⟨(w.heap.size + 1), 3, none⟩ = false := Base.blk_frozen hy6 3
        have hy6c4 : (w6).cell? ⟨(w.heap.size + 1), 4, none⟩ = some (.int .i64 b4) := Base.blk_cell hy6 4
        have hy6z4 : (w6).frozen? ⟨(w.heap.size + 1), 4, none⟩ = false := Base.blk_frozen hy6 4
        have hy6c5 : (w6).cell? ⟨(w.heap.size + 1), 5, none⟩ = some (.bool b5) := Base.blk_cell hy6 5
        have hy6z5 : (w6).frozen? ⟨(w.heap.size + 1), 5, none⟩ = false := Base.blk_frozen hy6 5
        go_wp2_with fail
        go_ret
        exact ⟨ret_b (by simp), (hV1.tr hd5).tr hU6⟩
      · obtain rfl : ac = true := f2 rfl rfl
        go_enter Try.func8, Try.ntmps8
        go_wp2_with fail
        refine (fixed _).mono ?_
        rintro e w1 ⟨rfl, hU1⟩
        have hx := hU1.block w.heap.size (by simp; omega) (fun h => h)
        rw [blk_alloc (blk_alloc (blk_new _ _) _) _] at hx
        have hy := hU1.block (w.heap.size + 1) (by simp) (fun h => h)
        rw [blk_alloc (b := w.heap.size + 1) (o := .cells #[.int .i64 b0, .int .i64 b1, .int .i64 b2, .int .i64 b3, .int .i64 b4, .bool b5] 35) (by have h := blk_new (w.alloc (.cells #[.int .i64 a0, .int .i64 a1, .int .i64 a2, .int .i64 a3, .int .i64 a4, .bool a5] 35)) (.cells #[.int .i64 b0, .int .i64 b1, .int .i64 b2, .int .i64 b3, .int .i64 b4, .bool b5] 35); simpa using h) _] at hy
        have hz := hU1.block (w.heap.size + 1 + 1) (by simp) (fun h => h)
        rw [show ∀ o1 o2 o3 : Obj, (((w.alloc o1).alloc o2).alloc o3).heap[w.heap.size + 1 + 1]? = some o3 by intro o1 o2 o3; have h := blk_new ((w.alloc o1).alloc o2) o3; simpa using h] at hz
        have hV1 := ((((Upd.refl Nil w).alloc _).alloc _).alloc _).tr hU1
        go_wp2_with fail
        have x0 : ∀ w', Upd Nil w1.drew w' → w'.cell? ⟨w.heap.size, 0, none⟩ = some (.int .i64 a0) := fun w' u => blk_cell (u.blk hx (fun h => h)) 0
        have x1 : ∀ w', Upd Nil w1.drew w' → w'.cell? ⟨w.heap.size, 1, none⟩ = some (.int .i64 a1) := fun w' u => blk_cell (u.blk hx (fun h => h)) 1
        have x2 : ∀ w', Upd Nil w1.drew w' → w'.cell? ⟨w.heap.size, 2, none⟩ = some (.int .i64 a2) := fun w' u => blk_cell (u.blk hx (fun h => h)) 2
        have x3 : ∀ w', Upd Nil w1.drew w' → w'.cell? ⟨w.heap.size, 3, none⟩ = some (.int .i64 a3) := fun w' u => blk_cell (u.blk hx (fun h => h)) 3
        have x4 : ∀ w', Upd Nil w1.drew w' → w'.cell? ⟨w.heap.size, 4, none⟩ = some (.int .i64 a4) := fun w' u => blk_cell (u.blk hx (fun h => h)) 4
        have x5 : ∀ w', Upd Nil w1.drew w' → w'.cell? ⟨w.heap.size, 5, none⟩ = some (.bool a5) := fun w' u => blk_cell (u.blk hx (fun h => h)) 5
        have y0 : ∀ w', Upd Nil w1.drew w' → w'.cell? ⟨w.heap.size + 1, 0, none⟩ = some (.int .i64 b0) := fun w' u => blk_cell (u.blk hy (fun h => h)) 0
        have y1 : ∀ w', Upd Nil w1.drew w' → w'.cell? ⟨w.heap.size + 1, 1, none⟩ = some (.int .i64 b1) := fun w' u => blk_cell (u.blk hy (fun h => h)) 1
        have y2 : ∀ w', Upd Nil w1.drew w' → w'.cell? ⟨w.heap.size + 1, 2, none⟩ = some (.int .i64 b2) := fun w' u => blk_cell (u.blk hy (fun h => h)) 2
        have y3 : ∀ w', Upd Nil w1.drew w' → w'.cell? ⟨w.heap.size + 1, 3, none⟩ = some (.int .i64 b3) := fun w' u => blk_cell (u.blk hy (fun h => h)) 3
        have y4 : ∀ w', Upd Nil w1.drew w' → w'.cell? ⟨w.heap.size + 1, 4, none⟩ = some (.int .i64 b4) := fun w' u => blk_cell (u.blk hy (fun h => h)) 4
        have y5 : ∀ w', Upd Nil w1.drew w' → w'.cell? ⟨w.heap.size + 1, 5, none⟩ = some (.bool b5) := fun w' u => blk_cell (u.blk hy (fun h => h)) 5
        have z0 : ∀ w', Upd Nil w1.drew w' → w'.cell? ⟨w.heap.size + 1 + 1, 0, none⟩ = some (.int .i64 c0) := fun w' u => blk_cell (u.blk hz (fun h => h)) 0
        have z1 : ∀ w', Upd Nil w1.drew w' → w'.cell? ⟨w.heap.size + 1 + 1, 1, none⟩ = some (.int .i64 c1) := fun w' u => blk_cell (u.blk hz (fun h => h)) 1
        have z2 : ∀ w', Upd Nil w1.drew w' → w'.cell? ⟨w.heap.size + 1 + 1, 2, none⟩ = some (.int .i64 c2) := fun w' u => blk_cell (u.blk hz (fun h => h)) 2
        have z3 : ∀ w', Upd Nil w1.drew w' → w'.cell? ⟨w.heap.size + 1 + 1, 3, none⟩ = some (.int .i64 c3) := fun w' u => blk_cell (u.blk hz (fun h => h)) 3
        have z4 : ∀ w', Upd Nil w1.drew w' → w'.cell? ⟨w.heap.size + 1 + 1, 4, none⟩ = some (.int .i64 c4) := fun w' u => blk_cell (u.blk hz (fun h => h)) 4
        have z5 : ∀ w', Upd Nil w1.drew w' → w'.cell? ⟨w.heap.size + 1 + 1, 5, none⟩ = some (.bool c5) := fun w' u => blk_cell (u.blk hz (fun h => h)) 5
        clear hU1 f1 f2 f3
        refine wp_region_lex Nil [0, 1, 3, 4, 6, 7, 9, 10, 2, 5, 8, 11, 12, 13, 14, 15] (by kernel_rfl) (by kernel_rfl) rfl (by kernel_rfl) ?_
        simp only [inOrder, List.filterMap_cons, List.filterMap_nil, List.getElem?_cons_zero, List.getElem?_cons_succ]
        try simp only [Act.put, List.setIfInBounds_toArray, List.set_cons_zero, List.set_cons_succ]
        repeat
          first
          | (refine lex_pure (v := ?_) rfl rfl ?_ ?_
             rotate_left
             · intro w' hU'
               go_simp
               try with_reducible rfl
             try simp only [Act.put, List.setIfInBounds_toArray, List.set_cons_zero, List.set_cons_succ])
          | (refine lex_skip rfl ?_
             try simp only [Act.put, List.setIfInBounds_toArray, List.set_cons_zero, List.set_cons_succ])
        refine lex_fn (f := 25) (args := _) rfl rfl (by go_simp) ((k1 _).mono ?_)
        rintro e w2 ⟨rfl, hU2⟩
        refine ⟨_, rfl, hU2, ?_⟩
        try simp only [Act.put, List.setIfInBounds_toArray, List.set_cons_zero, List.set_cons_succ]
        repeat
          first
          | (refine lex_pure (v := ?_) rfl rfl ?_ ?_
             rotate_left
             · intro w' hU'
               go_simp
               try with_reducible rfl
             try simp only [Act.put, List.setIfInBounds_toArray, List.set_cons_zero, List.set_cons_succ])
          | (refine lex_skip rfl ?_
             try simp only [Act.put, List.setIfInBounds_toArray, List.set_cons_zero, List.set_cons_succ])
        refine lex_fn (f := 25) (args := _) rfl rfl (by go_simp) ((k2 _).mono ?_)
        rintro e w3 ⟨rfl, hU3⟩
        refine ⟨_, rfl, hU3, ?_⟩
        try simp only [Act.put, List.setIfInBounds_toArray, List.set_cons_zero, List.set_cons_succ]
        repeat
          first
          | (refine lex_pure (v := ?_) rfl rfl ?_ ?_
             rotate_left
             · intro w' hU'
               go_simp
               try with_reducible rfl
             try simp only [Act.put, List.setIfInBounds_toArray, List.set_cons_zero, List.set_cons_succ])
          | (refine lex_skip rfl ?_
             try simp only [Act.put, List.setIfInBounds_toArray, List.set_cons_zero, List.set_cons_succ])
        refine lex_fn (f := 25) (args := _) rfl rfl (by go_simp) ((k3 _).mono ?_)
        rintro e w4 ⟨rfl, hU4⟩
        refine ⟨_, rfl, hU4, ?_⟩
        try simp only [Act.put, List.setIfInBounds_toArray, List.set_cons_zero, List.set_cons_succ]
        repeat
          first
          | (refine lex_pure (v := ?_) rfl rfl ?_ ?_
             rotate_left
             · intro w' hU'
               go_simp
               try with_reducible rfl
             try simp only [Act.put, List.setIfInBounds_toArray, List.set_cons_zero, List.set_cons_succ])
          | (refine lex_skip rfl ?_
             try simp only [Act.put, List.setIfInBounds_toArray, List.set_cons_zero, List.set_cons_succ])
        refine lex_fn (f := 25) (args := _) rfl rfl (by go_simp) ((k4 _).mono ?_)
        rintro e w5 ⟨rfl, hU5⟩
        refine ⟨_, rfl, hU5, ?_⟩
        try simp only [Act.put, List.setIfInBounds_toArray, List.set_cons_zero, List.set_cons_succ]
        repeat
          first
          | (refine lex_pure (v := ?_) rfl rfl ?_ ?_
             rotate_left
             · intro w' hU'
               go_simp
               try with_reducible rfl
             try simp only [Act.put, List.setIfInBounds_toArray, List.set_cons_zero, List.set_cons_succ])
          | (refine lex_skip rfl ?_
             try simp only [Act.put, List.setIfInBounds_toArray, List.set_cons_zero, List.set_cons_succ])
        refine lex_done ?_
        have hd5 : Upd Nil w1 w5 := (((Upd.refl Nil w1).drew.tr hU2).tr hU3).tr (hU4.tr hU5)
        have hx5 := hd5.blk hx (fun h => h)
        have hy5 := hd5.blk hy (fun h => h)
        clear x0 x1 x2 x3 x4 x5 y0 y1 y2 y3 y4 y5 z0 z1 z2 z3 z4 z5 hU2 hU3 hU4 hU5 k1 k2 k3 k4 hz
        have hx5c0 : (w5).cell? ⟨w.heap.size, 0, none⟩ = some (.int .i64 a0) := Base.blk_cell hx5 0
        have hx5z0 : (w5).frozen? ⟨w.heap.size, 0, none⟩ = false := Base.blk_frozen hx5 0
        have hx5c1 : (w5).cell? ⟨w.heap.size, 1, none⟩ = some (.int .i64 a1) := Base.blk_cell hx5 1
        have hx5z1 : (w5).frozen? ⟨w.heap.size, 1, none⟩ = false := Base.blk_frozen hx5 1
        have hx5c2 : (w5).cell? ⟨w.heap.size, 2, none⟩ = some (.int .i64 a2) := Base.blk_cell hx5 2
        have hx5z2 : (w5).frozen? ⟨w.heap.size, 2, none⟩ = false := Base.blk_frozen hx5 2
        have hx5c3 : (w5).cell? ⟨w.heap.size, 3, none⟩ = some (.int .i64 a3) := Base.blk_cell hx5 3
        have hx5z3 : (w5).frozen? ⟨w.heap.size, 3, none⟩ = false := Base.blk_frozen hx5 3
        have hx5c4 : (w5).cell? ⟨w.heap.size, 4, none⟩ = some (.int .i64 a4) := Base.blk_cell hx5 4
        have hx5z4 : (w5).frozen? ⟨w.heap.size, 4, none⟩ = false := Base.blk_frozen hx5 4
        have hx5c5 : (w5).cell? ⟨w.heap.size, 5, none⟩ = some (.bool a5) := Base.blk_cell hx5 5
        have hx5z5 : (w5).frozen? ⟨w.heap.size, 5, none⟩ = false := Base.blk_frozen hx5 5
        go_wp2_with fail
        refine (k5 _).mono ?_
        rintro e w6 ⟨rfl, hU6⟩
        have hx6 := hU6.blk hx5 (fun h => h)
        have hy6 := hU6.blk hy5 (fun h => h)
        clear hx5c0 hx5c1 hx5c2 hx5c3 hx5c4 hx5c5 hx5z0 hx5z1 hx5z2 hx5z3 hx5z4 hx5z5 hx5 hy5
        have hx6c0 : (w6).cell? ⟨w.heap.size, 0, none⟩ = some (.int .i64 a0) := Base.blk_cell hx6 0
        have hx6z0 : (w6).frozen? ⟨w.heap.size, 0, none⟩ = false := Base.blk_frozen hx6 0
        have hx6c1 : (w6).cell? ⟨w.heap.size, 1, none⟩ = some (.int .i64 a1) := Base.blk_cell hx6 1
        have hx6z1 : (w6).frozen? ⟨w.heap.size, 1, none⟩ = false := Base.blk_frozen hx6 1
        have hx6c2 : (w6).cell? ⟨w.heap.size, 2, none⟩ = some (.int .i64 a2) := Base.blk_cell hx6 2
        have hx6z2 : (w6).frozen? ⟨w.heap.size, 2, none⟩ = false := Base.blk_frozen hx6 2
        have hx6c3 : (w6).cell? ⟨w.heap.size, 3, none⟩ = some (.int .i64 a3) := Base.blk_cell hx6 3
        have hx6z3 : (w6).frozen? ⟨w.heap.size, 3, none⟩ = false := Base.blk_frozen hx6 3
        have hx6c4 : (w6).cell? ⟨w.heap.size, 4, none⟩ = some (.int .i64 a4) := Base.blk_cell hx6 4
        have hx6z4 : (w6).frozen? ⟨w.heap.size, 4, none⟩ = false := Base.blk_frozen hx6 4
        have hx6c5 : (w6).cell? ⟨w.heap.size, 5, none⟩ = some (.bool a5) := Base.blk_cell hx6 5
        have hx6z5 : (w6).frozen? ⟨w.heap.size, 5, none⟩ = false := Base.blk_frozen hx6 5
        have hy6c0 : (w6).cell? ⟨(w.heap.size + 1), 0, none⟩ = some (.int .i64 b0) := Base.blk_cell hy6 0
        have hy6z0 : (w6).frozen? ⟨(w.heap.size + 1), 0, none⟩ = false := Base.blk_frozen hy6 0
        have hy6c1 : (w6).cell? ⟨(w.heap.size + 1), 1, none⟩ = some (.int .i64 b1) := Base.blk_cell hy6 1
        have hy6z1 : (w6).frozen? ⟨(w.heap.size + 1), 1, none⟩ = false := Base.blk_frozen hy6 1
        have hy6c2 : (w6).cell? ⟨(w.heap.size + 1), 2, none⟩ = some (.int .i64 b2) := Base.blk_cell hy6 2
        have hy6z2 : (w6).frozen? ⟨(w.heap.size + 1), 2, none⟩ = false := Base.blk_frozen hy6 2
        have hy6c3 : (w6).cell? ⟨(w.heap.size + 1), 3, none⟩ = some (.int .i64 b3) := Base.blk_cell hy6 3
        have hy6z3 : (w6).frozen? ⟨(w.heap.size + 1), 3, none⟩ = false := Base.blk_frozen hy6 3
        have hy6c4 : (w6).cell? ⟨(w.heap.size + 1), 4, none⟩ = some (.int .i64 b4) := Base.blk_cell hy6 4
        have hy6z4 : (w6).frozen? ⟨(w.heap.size + 1), 4, none⟩ = false := Base.blk_frozen hy6 4
        have hy6c5 : (w6).cell? ⟨(w.heap.size + 1), 5, none⟩ = some (.bool b5) := Base.blk_cell hy6 5
        have hy6z5 : (w6).frozen? ⟨(w.heap.size + 1), 5, none⟩ = false := Base.blk_frozen hy6 5
        go_wp2_with fail
        go_ret
        exact ⟨ret_b (by simp), (hV1.tr hd5).tr hU6⟩
end Go.Proofs.Ythppheklnplljaa.Tag
