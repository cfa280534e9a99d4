/-
  Tags: the walk of the reference's Bytes. Conditions: none.
-/
import Derived.Test.YthppheklnplljaaTagC
namespace Go.Proofs.Ythppheklnplljaa.Tag
open Go.RowKit Go.Proofs.Ythppheklnplljaa.Base Go.Proofs.Ythppheklnplljaa.Word Go.Proofs.Ythppheklnplljaa.Frame
set_option linter.unusedVariables false
set_option linter.unusedSimpArgs false
theorem rbytes_no (t : Tg) (w : World) (h : rightB t = false) : Calls Try.prog 22 #[tgV t] w (MkR (bytesB t) w) := by
  have hr : Hid (bytesB t = ([], 1)) := by show _ = _; unfold bytesB; rw [h]; rfl
  rw [hr.out]
  have hk := fun w => rright t w
  obtain ⟨t0, t1, t2, t3, t4, t5⟩ := t
  unfold tgV at *
  rw [h] at hk
  go_enter Try.func22, Try.ntmps22
  go_wp2_with fail
  refine (hk _).mono ?_
  rintro e w1 ⟨rfl, hU1⟩
  go_wp2_with fail
  exact bodyPost_ret (v := .tuple #[.slice none 0 0, .int .i64 1]) (by simp [results, Try.results22, go_sem]) rfl ⟨_, rfl, Sl.nil _ _ _ _ _, ((Upd.refl _ _).alloc _).tr hU1⟩
set_option maxHeartbeats 4000000 in
set_option maxRecDepth 100000 in
theorem rbytes_yes (t : Tg) (w : World) (h : rightB t = true) : Calls Try.prog 22 #[tgV t] w (MkR (bytesB t) w) := by
  have hr : Hid (bytesB t = mk 84 (bodyL t)) := by show _ = _; unfold bytesB; rw [h]; rfl
  rw [hr.out]
  have hk := fun w => rright t w
  obtain ⟨t0, t1, t2, t3, t4, t5⟩ := t
  have hbo : Hid (bodyL ⟨t0, t1, t2, t3, t4, t5⟩ = putL (putL (putL (putL (putL (putL [] t0 1) t1 4) t2 1) t3 4) t4 1) (c01 t5) 1) := Lib.hid rfl
  unfold tgV at *
  rw [h] at hk
  clear hr h
  go_enter Try.func22, Try.ntmps22
  go_wp2_with fail
  refine (hk _).mono ?_
  rintro e w1 ⟨rfl, hU1⟩
  have hbx := hU1.block w.heap.size (by simp) (fun h => h)
  rw [blk_new] at hbx
  have hU01 := ((Upd.refl Nil w).alloc _).tr hU1
  clear hk hU1
  go_wp2_with fail
  have x0 : ∀ w', Upd Nil w1.drew w' → w'.cell? ⟨w.heap.size, 0, none⟩ = some (.int .i64 t0) := fun w' u => blk_cell (u.blk hbx (fun h => h)) 0
  have x1 : ∀ w', Upd Nil w1.drew w' → w'.cell? ⟨w.heap.size, 1, none⟩ = some (.int .i64 t1) := fun w' u => blk_cell (u.blk hbx (fun h => h)) 1
  have x2 : ∀ w', Upd Nil w1.drew w' → w'.cell? ⟨w.heap.size, 2, none⟩ = some (.int .i64 t2) := fun w' u => blk_cell (u.blk hbx (fun h => h)) 2
  refine wp_region_lex Nil [0, 1, 3, 4, 6, 7, 2, 5, 8, 9] (by kernel_rfl) (by kernel_rfl) rfl (by kernel_rfl) ?_
  simp only [inOrder, List.filterMap_cons, List.filterMap_nil, List.getElem?_cons_zero, List.getElem?_cons_succ]
  try simp only [Act.put, List.setIfInBounds_toArray, List.set_cons_zero, List.set_cons_succ]
  repeat
    first
    | (refine lex_pure (v := ?_) rfl rfl ?_ ?_
       rotate_left
       · intro w' hU'
         go_simp
         try with_reducible rfl
       try simp only [Act.put, List.setIfInBounds_toArray, List.set_cons_zero, List.set_cons_succ])
    | (refine lex_skip rfl ?_
       try simp only [Act.put, List.setIfInBounds_toArray, List.set_cons_zero, List.set_cons_succ])
  refine lex_fn (f := 47) (args := #[.slice none 0 0, .int .i64 t0, .int .i64 1]) rfl rfl (by go_simp) ((rput none 0 ([]) t0 1 _ (.inl rfl) (by first | omega | simp)).mono ?_)
  rintro e w2 ⟨x2, rfl, hx2, hU2⟩
  refine ⟨_, rfl, hU2, ?_⟩
  obtain ⟨A2, c2, rfl, hc2⟩ := hx2.form
  have hA2 := hx2.cells bc_len (by omega)
  have hl2 := (putL_len ([]) t0 1).2
  try simp only [List.length_nil] at hl2
  clear hx2
  try simp only [Act.put, List.setIfInBounds_toArray, List.set_cons_zero, List.set_cons_succ]
  repeat
    first
    | (refine lex_pure (v := ?_) rfl rfl ?_ ?_
       rotate_left
       · intro w' hU'
         go_simp
         try with_reducible rfl
       try simp only [Act.put, List.setIfInBounds_toArray, List.set_cons_zero, List.set_cons_succ])
    | (refine lex_skip rfl ?_
       try simp only [Act.put, List.setIfInBounds_toArray, List.set_cons_zero, List.set_cons_succ])
  refine lex_fn (f := 47) (args := #[.slice A2 (putL [] t0 1).length c2, .int .i64 t1, .int .i64 4]) rfl rfl (by go_simp) ((rput A2 c2 (putL [] t0 1) t1 4 _ hA2 (by first | omega | simp)).mono ?_)
  rintro e w3 ⟨x3, rfl, hx3, hU3⟩
  refine ⟨_, rfl, hU3, ?_⟩
  obtain ⟨A3, c3, rfl, hc3⟩ := hx3.form
  have hA3 := hx3.cells bc_len (by omega)
  have hl3 := (putL_len (putL [] t0 1) t1 4).2
  try simp only [List.length_nil] at hl3
  clear hx3
  try simp only [Act.put, List.setIfInBounds_toArray, List.set_cons_zero, List.set_cons_succ]
  repeat
    first
    | (refine lex_pure (v := ?_) rfl rfl ?_ ?_
       rotate_left
       · intro w' hU'
         go_simp
         try with_reducible rfl
       try simp only [Act.put, List.setIfInBounds_toArray, List.set_cons_zero, List.set_cons_succ])
    | (refine lex_skip rfl ?_
       try simp only [Act.put, List.setIfInBounds_toArray, List.set_cons_zero, List.set_cons_succ])
  refine lex_fn (f := 47) (args := #[.slice A3 (putL (putL [] t0 1) t1 4).length c3, .int .i64 t2, .int .i64 1]) rfl rfl (by go_simp) ((rput A3 c3 (putL (putL [] t0 1) t1 4) t2 1 _ hA3 (by first | omega | simp)).mono ?_)
  rintro e w4 ⟨x4, rfl, hx4, hU4⟩
  refine ⟨_, rfl, hU4, ?_⟩
  obtain ⟨A4, c4, rfl, hc4⟩ := hx4.form
  have hA4 := hx4.cells bc_len (by omega)
  have hl4 := (putL_len (putL (putL [] t0 1) t1 4) t2 1).2
  try simp only [List.length_nil] at hl4
  clear hx4
  try simp only [Act.put, List.setIfInBounds_toArray, List.set_cons_zero, List.set_cons_succ]
  repeat
    first
    | (refine lex_pure (v := ?_) rfl rfl ?_ ?_
       rotate_left
       · intro w' hU'
         go_simp
         try with_reducible rfl
       try simp only [Act.put, List.setIfInBounds_toArray, List.set_cons_zero, List.set_cons_succ])
    | (refine lex_skip rfl ?_
       try simp only [Act.put, List.setIfInBounds_toArray, List.set_cons_zero, List.set_cons_succ])
  refine lex_done ?_
  have hU4d := (((hU01.drew.tr hU2).tr hU3).tr hU4)
  have hV4 := (((Upd.refl Nil w1).drew.tr hU2).tr hU3).tr hU4
  have hb4 := hV4.blk hbx (fun h => h)
  clear x0 x1 x2 hA2 hA3 hU2 hU3 hU4
  generalize putL (putL (putL [] t0 1) t1 4) t2 1 = L at *
  go_wp2_with fail
  have x3 : ∀ w', Upd Nil w4.drew w' → w'.cell? ⟨w.heap.size, 3, none⟩ = some (.int .i64 t3) := fun w' u => blk_cell (u.blk hb4 (fun h => h)) 3
  have x4 : ∀ w', Upd Nil w4.drew w' → w'.cell? ⟨w.heap.size, 4, none⟩ = some (.int .i64 t4) := fun w' u => blk_cell (u.blk hb4 (fun h => h)) 4
  refine wp_region_lex Nil [0, 1, 2, 4, 5, 3, 6, 7] (by kernel_rfl) (by kernel_rfl) rfl (by kernel_rfl) ?_
  simp only [inOrder, List.filterMap_cons, List.filterMap_nil, List.getElem?_cons_zero, List.getElem?_cons_succ]
  try simp only [Act.put, List.setIfInBounds_toArray, List.set_cons_zero, List.set_cons_succ]
  repeat
    first
    | (refine lex_pure (v := ?_) rfl rfl ?_ ?_
       rotate_left
       · intro w' hU'
         go_simp
         try with_reducible rfl
       try simp only [Act.put, List.setIfInBounds_toArray, List.set_cons_zero, List.set_cons_succ])
    | (refine lex_skip rfl ?_
       try simp only [Act.put, List.setIfInBounds_toArray, List.set_cons_zero, List.set_cons_succ])
  refine lex_fn (f := 47) (args := #[.slice A4 L.length c4, .int .i64 t3, .int .i64 4]) rfl rfl (by go_simp) ((rput A4 c4 (L) t3 4 _ (hA4.upd (Upd.refl _ _).drew) (by first | omega | simp)).mono ?_)
  rintro e w5 ⟨x5, rfl, hx5, hU5⟩
  refine ⟨_, rfl, hU5, ?_⟩
  obtain ⟨A5, c5, rfl, hc5⟩ := hx5.form
  have hA5 := hx5.cells bc_len (by omega)
  have hl5 := (putL_len (L) t3 4).2
  try simp only [List.length_nil] at hl5
  clear hx5
  try simp only [Act.put, List.setIfInBounds_toArray, List.set_cons_zero, List.set_cons_succ]
  repeat
    first
    | (refine lex_pure (v := ?_) rfl rfl ?_ ?_
       rotate_left
       · intro w' hU'
         go_simp
         try with_reducible rfl
       try simp only [Act.put, List.setIfInBounds_toArray, List.set_cons_zero, List.set_cons_succ])
    | (refine lex_skip rfl ?_
       try simp only [Act.put, List.setIfInBounds_toArray, List.set_cons_zero, List.set_cons_succ])
  refine lex_fn (f := 47) (args := #[.slice A5 (putL L t3 4).length c5, .int .i64 t4, .int .i64 1]) rfl rfl (by go_simp) ((rput A5 c5 (putL L t3 4) t4 1 _ hA5 (by first | omega | simp)).mono ?_)
  rintro e w6 ⟨x6, rfl, hx6, hU6⟩
  refine ⟨_, rfl, hU6, ?_⟩
  obtain ⟨A6, c6, rfl, hc6⟩ := hx6.form
  have hA6 := hx6.cells bc_len (by omega)
  have hl6 := (putL_len (putL L t3 4) t4 1).2
  try simp only [List.length_nil] at hl6
  clear hx6
  try simp only [Act.put, List.setIfInBounds_toArray, List.set_cons_zero, List.set_cons_succ]
  repeat
    first
    | (refine lex_pure (v := ?_) rfl rfl ?_ ?_
       rotate_left
       · intro w' hU'
         go_simp
         try with_reducible rfl
       try simp only [Act.put, List.setIfInBounds_toArray, List.set_cons_zero, List.set_cons_succ])
    | (refine lex_skip rfl ?_
       try simp only [Act.put, List.setIfInBounds_toArray, List.set_cons_zero, List.set_cons_succ])
  refine lex_done ?_
  have hU6d := (hU4d.drew.tr hU5).tr hU6
  have hV6 := ((Upd.refl Nil w4).drew.tr hU5).tr hU6
  have hb6 := hV6.blk hb4 (fun h => h)
  clear x3 x4 hA4 hA5 hU5 hU6
  have z5 := blk_cell hb6 5
  simp only [List.getElem?_toArray, List.getElem?_cons_zero, List.getElem?_cons_succ] at z5
  generalize putL (putL L t3 4) t4 1 = L6 at *
  have kp := fun w' (u : Upd Nil w6 w') => rput A6 c6 L6 (c01 t5) 1 w' (hA6.upd u) (by omega)
  have hpl := (putL_len L6 (c01 t5) 1).2
  clear hb6 hb4 hbx hA6
  cases t5
  all_goals
    go_wp2_with fail
    refine (kp _ (Upd.refl _ _)).mono ?_
    rintro e w7 ⟨x, rfl, hx, hU7⟩
    obtain ⟨A', c', rfl, hc'⟩ := hx.form
    have hA' := hx.cells bc_len (by omega)
    have km := rmake 84 A' c' _ w7 hA' (by unfold maxLen; omega)
    clear hx kp
    go_wp2_with fail
    refine km.mono ?_
    rintro e w8 ⟨v, rfl, hv, hU8⟩
    go_wp2_with fail
    go_ret2
    rw [hbo.out]
    exact ⟨_, rfl, hv.lower (Nat.le_trans hU6d.size hU7.size), (hU6d.tr hU7).tr hU8⟩
theorem rbytes (t : Tg) (w : World) : Calls Try.prog 22 #[tgV t] w (MkR (bytesB t) w) := by
  cases h : rightB t
  · exact rbytes_no t w h
  · exact rbytes_yes t w h
end Go.Proofs.Ythppheklnplljaa.Tag
