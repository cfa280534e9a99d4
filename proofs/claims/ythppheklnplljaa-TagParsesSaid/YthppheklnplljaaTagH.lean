/-
  Tags: the walks of the laws' fixed, TagBytes, TagParses, TagOrder. Conditions: what the argument's slice holds.
-/
import Derived.Test.YthppheklnplljaaTagF
import Derived.Test.YthppheklnplljaaTagG
namespace Go.Proofs.Ythppheklnplljaa.Tag
open Go.RowKit Go.Proofs.Ythppheklnplljaa.Base Go.Proofs.Ythppheklnplljaa.Word Go.Proofs.Ythppheklnplljaa.Frame
set_option linter.unusedVariables false
set_option linter.unusedSimpArgs false
set_option maxHeartbeats 4000000 in
set_option maxRecDepth 100000 in
theorem fixed (w : World) : Calls Try.prog 20 #[] w (RetB true w) := by
  have hrt : rightB ⟨1, 2, 3, 4, 2, true⟩ = true := rfl
  have kB := fun w => bytes ⟨1, 2, 3, 4, 2, true⟩ w
  have kB0 := fun w => bytes ⟨0, 0, 0, 0, 0, false⟩ w
  have kR := fun w => right ⟨1, 2, 3, 4, 2, true⟩ w
  have kN := fun w => newer ⟨0, 0, 0, 5, 0, false⟩ ⟨1, 2, 3, 4, 2, true⟩ w
  have hb : bytesB ⟨1, 2, 3, 4, 2, true⟩ = ((bytesB ⟨1, 2, 3, 4, 2, true⟩).1, 0) := by rw [bytes_right hrt]
  have hb0 : bytesB ⟨0, 0, 0, 0, 0, false⟩ = ([], 1) := rfl
  have hl := bytes_len hrt
  have hp := parse_right hrt
  rw [hb] at kB
  rw [hb0] at kB0
  rw [hrt] at kR
  have hn : newB ⟨0, 0, 0, 5, 0, false⟩ ⟨1, 2, 3, 4, 2, true⟩ = true := rfl
  rw [hn] at kN
  generalize (bytesB ⟨1, 2, 3, 4, 2, true⟩).1 = L at *
  have hlH := Lib.hid hl
  have hpH := Lib.hid hp
  clear hl hp hb hb0 hrt hn
  unfold tgV at kB kB0 kR kN
  go_enter Try.func20, Try.ntmps20
  go_wp2_with fail
  refine (kB _).mono ?_
  rintro e w1 ⟨x, rfl, hx, hU1⟩
  have hbx := hU1.block w.heap.size (by simp) (fun h => h)
  rw [blk_new] at hbx
  have hV1 := ((Upd.refl Nil w).alloc _).tr hU1
  obtain ⟨A1, c1, rfl, hc1⟩ := hx.form
  have hA1 := hx.cells bc_len (by omega)
  have hcm1 := hx.capMax
  have hlI : (L.length : Int) = 19 := by rw [hlH.out]; rfl
  have kP := parse A1 c1 L w1 hA1 hc1 (by unfold maxLen; omega) (by rw [hlH.out]; omega)
  rw [hpH.out] at kP
  rw [hlH.out] at kP
  simp only [hlH.out]
  clear hx kB hlI hc1
  go_wp2_with fail
  refine kP.mono ?_
  rintro e w2 ⟨rfl, hU2⟩
  have hb2 := hU2.blk hbx (fun h => h)
  have hV2 := hV1.tr hU2
  unfold tgV
  clear kP hA1 hbx hU1 hU2 hV1
  go_wp2_with fail
  refine (kB0 _).mono ?_
  rintro e w3 ⟨x3, rfl, hx3, hU3⟩
  have hb3 := hU3.blk (blk_alloc hb2 _) (fun h => h)
  have hc3 := hU3.blk (blk_new _ _) (fun h => h)
  have hV3 := (hV2.alloc _).tr hU3
  have hb3c0 : (w3).cell? ⟨w.heap.size, 0, none⟩ = some (.int .i64 1) := Base.blk_cell hb3 0
  have hb3z0 : (w3).frozen? ⟨w.heap.size, 0, none⟩ = false := Base.blk_frozen hb3 0
  have hb3c1 : (w3).cell? ⟨w.heap.size, 1, none⟩ = some (.int .i64 2) := Base.blk_cell hb3 1
  have hb3z1 : (w3).frozen? ⟨w.heap.size, 1, none⟩ = false := Base.blk_frozen hb3 1
  have hb3c2 : (w3).cell? ⟨w.heap.size, 2, none⟩ = some (.int .i64 3) := Base.blk_cell hb3 2
  have hb3z2 : (w3).frozen? ⟨w.heap.size, 2, none⟩ = false := Base.blk_frozen hb3 2
  have hb3c3 : (w3).cell? ⟨w.heap.size, 3, none⟩ = some (.int .i64 4) := Base.blk_cell hb3 3
  have hb3z3 : (w3).frozen? ⟨w.heap.size, 3, none⟩ = false := Base.blk_frozen hb3 3
  have hb3c4 : (w3).cell? ⟨w.heap.size, 4, none⟩ = some (.int .i64 2) := Base.blk_cell hb3 4
  have hb3z4 : (w3).frozen? ⟨w.heap.size, 4, none⟩ = false := Base.blk_frozen hb3 4
  have hb3c5 : (w3).cell? ⟨w.heap.size, 5, none⟩ = some (.bool true) := Base.blk_cell hb3 5
  have hb3z5 : (w3).frozen? ⟨w.heap.size, 5, none⟩ = false := Base.blk_frozen hb3 5
  have hc3c0 : (w3).cell? ⟨w2.heap.size, 0, none⟩ = some (.int .i64 1) := Base.blk_cell hc3 0
  have hc3z0 : (w3).frozen? ⟨w2.heap.size, 0, none⟩ = false := Base.blk_frozen hc3 0
  have hc3c1 : (w3).cell? ⟨w2.heap.size, 1, none⟩ = some (.int .i64 2) := Base.blk_cell hc3 1
  have hc3z1 : (w3).frozen? ⟨w2.heap.size, 1, none⟩ = false := Base.blk_frozen hc3 1
  have hc3c2 : (w3).cell? ⟨w2.heap.size, 2, none⟩ = some (.int .i64 3) := Base.blk_cell hc3 2
  have hc3z2 : (w3).frozen? ⟨w2.heap.size, 2, none⟩ = false := Base.blk_frozen hc3 2
  have hc3c3 : (w3).cell? ⟨w2.heap.size, 3, none⟩ = some (.int .i64 4) := Base.blk_cell hc3 3
  have hc3z3 : (w3).frozen? ⟨w2.heap.size, 3, none⟩ = false := Base.blk_frozen hc3 3
  have hc3c4 : (w3).cell? ⟨w2.heap.size, 4, none⟩ = some (.int .i64 2) := Base.blk_cell hc3 4
  have hc3z4 : (w3).frozen? ⟨w2.heap.size, 4, none⟩ = false := Base.blk_frozen hc3 4
  have hc3c5 : (w3).cell? ⟨w2.heap.size, 5, none⟩ = some (.bool true) := Base.blk_cell hc3 5
  have hc3z5 : (w3).frozen? ⟨w2.heap.size, 5, none⟩ = false := Base.blk_frozen hc3 5
  clear kB0 hx3 hU3 hV2 hb2
  go_wp2_with fail
  refine (kR _).mono ?_
  rintro e w4 ⟨rfl, hU4⟩
  have hb4 := hU4.blk hb3 (fun h => h)
  have hb4c0 : (w4).cell? ⟨w.heap.size, 0, none⟩ = some (.int .i64 1) := Base.blk_cell hb4 0
  have hb4z0 : (w4).frozen? ⟨w.heap.size, 0, none⟩ = false := Base.blk_frozen hb4 0
  have hb4c1 : (w4).cell? ⟨w.heap.size, 1, none⟩ = some (.int .i64 2) := Base.blk_cell hb4 1
  have hb4z1 : (w4).frozen? ⟨w.heap.size, 1, none⟩ = false := Base.blk_frozen hb4 1
  have hb4c2 : (w4).cell? ⟨w.heap.size, 2, none⟩ = some (.int .i64 3) := Base.blk_cell hb4 2
  have hb4z2 : (w4).frozen? ⟨w.heap.size, 2, none⟩ = false := Base.blk_frozen hb4 2
  have hb4c3 : (w4).cell? ⟨w.heap.size, 3, none⟩ = some (.int .i64 4) := Base.blk_cell hb4 3
  have hb4z3 : (w4).frozen? ⟨w.heap.size, 3, none⟩ = false := Base.blk_frozen hb4 3
  have hb4c4 : (w4).cell? ⟨w.heap.size, 4, none⟩ = some (.int .i64 2) := Base.blk_cell hb4 4
  have hb4z4 : (w4).frozen? ⟨w.heap.size, 4, none⟩ = false := Base.blk_frozen hb4 4
  have hb4c5 : (w4).cell? ⟨w.heap.size, 5, none⟩ = some (.bool true) := Base.blk_cell hb4 5
  have hb4z5 : (w4).frozen? ⟨w.heap.size, 5, none⟩ = false := Base.blk_frozen hb4 5
  go_wp2_with fail
  refine (kN _).mono ?_
  rintro e w5 ⟨rfl, hU5⟩
  go_wp2_with fail
  go_ret
  exact ⟨rfl, (hV3.tr hU4).tr hU5⟩
set_option maxHeartbeats 8000000 in
set_option maxRecDepth 100000 in
theorem bytes_law_no (t o : Tg) (w : World) (hrt : rightB t = false) : Calls Try.prog 6 #[tgV t, tgV o] w (RetB true w) := by
  have hb : bytesB t = ([], 1) := by unfold bytesB; rw [hrt]; rfl
  obtain ⟨t0, t1, t2, t3, t4, t5⟩ := t
  obtain ⟨o0, o1, o2, o3, o4, o5⟩ := o
  have kR := fun w => right ⟨t0, t1, t2, t3, t4, t5⟩ w
  have kQ := fun w => rright ⟨t0, t1, t2, t3, t4, t5⟩ w
  have kN := fun w => newer ⟨t0, t1, t2, t3, t4, t5⟩ ⟨o0, o1, o2, o3, o4, o5⟩ w
  have kM := fun w => rnewer ⟨t0, t1, t2, t3, t4, t5⟩ ⟨o0, o1, o2, o3, o4, o5⟩ w
  have kB := fun w => bytes ⟨t0, t1, t2, t3, t4, t5⟩ w
  have kC := fun w => rbytes ⟨t0, t1, t2, t3, t4, t5⟩ w
  rw [hrt] at kR kQ
  generalize newB ⟨t0, t1, t2, t3, t4, t5⟩ ⟨o0, o1, o2, o3, o4, o5⟩ = nb at *
  rw [hb] at kB kC
  skip
  unfold tgV at *
  clear hb
  go_enter Try.func6, Try.ntmps6
  go_wp2_with fail
  refine (fixed _).mono ?_
  rintro e w1 ⟨rfl, hU1⟩
  have hbx := hU1.block w.heap.size (by simp; omega) (fun h => h)
  rw [blk_alloc (blk_new _ _)] at hbx
  have hby := hU1.block (w.heap.size + 1) (by simp) (fun h => h)
  rw [show w.heap.size + 1 = (w.alloc (.cells #[.int .i64 t0, .int .i64 t1, .int .i64 t2, .int .i64 t3, .int .i64 t4, .bool t5] 35)).heap.size by simp, blk_new] at hby
  have hlt1 := blk_lt hby
  simp at hby
  have hV1 := (((Upd.refl Nil w).alloc _).alloc _).tr hU1
  clear hU1
  have hbxc0 : (w1).cell? ⟨w.heap.size, 0, none⟩ = some (.int .i64 t0) := Base.blk_cell hbx 0
  have hbxz0 : (w1).frozen? ⟨w.heap.size, 0, none⟩ = false := Base.blk_frozen hbx 0
  have hbxc1 : (w1).cell? ⟨w.heap.size, 1, none⟩ = some (.int .i64 t1) := Base.blk_cell hbx 1
  have hbxz1 : (w1).frozen? ⟨w.heap.size, 1, none⟩ = false := Base.blk_frozen hbx 1
  have hbxc2 : (w1).cell? ⟨w.heap.size, 2, none⟩ = some (.int .i64 t2) := Base.blk_cell hbx 2
  have hbxz2 : (w1).frozen? ⟨w.heap.size, 2, none⟩ = false := Base.blk_frozen hbx 2
  have hbxc3 : (w1).cell? ⟨w.heap.size, 3, none⟩ = some (.int .i64 t3) := Base.blk_cell hbx 3
  have hbxz3 : (w1).frozen? ⟨w.heap.size, 3, none⟩ = false := Base.blk_frozen hbx 3
  have hbxc4 : (w1).cell? ⟨w.heap.size, 4, none⟩ = some (.int .i64 t4) := Base.blk_cell hbx 4
  have hbxz4 : (w1).frozen? ⟨w.heap.size, 4, none⟩ = false := Base.blk_frozen hbx 4
  have hbxc5 : (w1).cell? ⟨w.heap.size, 5, none⟩ = some (.bool t5) := Base.blk_cell hbx 5
  have hbxz5 : (w1).frozen? ⟨w.heap.size, 5, none⟩ = false := Base.blk_frozen hbx 5
  go_wp2_with fail
  refine (kB _).mono ?_
  rintro e w2 ⟨x, rfl, hx, hU2⟩
  obtain ⟨A2, c2, rfl, hc2⟩ := hx.form
  have hA2 := hx.cells bc_len (by omega)
  have hcm2 := hx.capMax
  have hb2 := hU2.blk hbx (fun h => h)
  have hy2 := hU2.blk hby (fun h => h)
  have hV2 := hV1.tr hU2
  clear hx hbxc0 hbxc1 hbxc2 hbxc3 hbxc4 hbxc5 hbxz0 hbxz1 hbxz2 hbxz3 hbxz4 hbxz5 hbx hby hU2 hV1
  have hb2c0 : (w2).cell? ⟨w.heap.size, 0, none⟩ = some (.int .i64 t0) := Base.blk_cell hb2 0
  have hb2z0 : (w2).frozen? ⟨w.heap.size, 0, none⟩ = false := Base.blk_frozen hb2 0
  have hb2c1 : (w2).cell? ⟨w.heap.size, 1, none⟩ = some (.int .i64 t1) := Base.blk_cell hb2 1
  have hb2z1 : (w2).frozen? ⟨w.heap.size, 1, none⟩ = false := Base.blk_frozen hb2 1
  have hb2c2 : (w2).cell? ⟨w.heap.size, 2, none⟩ = some (.int .i64 t2) := Base.blk_cell hb2 2
  have hb2z2 : (w2).frozen? ⟨w.heap.size, 2, none⟩ = false := Base.blk_frozen hb2 2
  have hb2c3 : (w2).cell? ⟨w.heap.size, 3, none⟩ = some (.int .i64 t3) := Base.blk_cell hb2 3
  have hb2z3 : (w2).frozen? ⟨w.heap.size, 3, none⟩ = false := Base.blk_frozen hb2 3
  have hb2c4 : (w2).cell? ⟨w.heap.size, 4, none⟩ = some (.int .i64 t4) := Base.blk_cell hb2 4
  have hb2z4 : (w2).frozen? ⟨w.heap.size, 4, none⟩ = false := Base.blk_frozen hb2 4
  have hb2c5 : (w2).cell? ⟨w.heap.size, 5, none⟩ = some (.bool t5) := Base.blk_cell hb2 5
  have hb2z5 : (w2).frozen? ⟨w.heap.size, 5, none⟩ = false := Base.blk_frozen hb2 5
  go_wp2_with fail
  refine (kC _).mono ?_
  rintro e w3 ⟨x, rfl, hx, hU3⟩
  obtain ⟨A3, c3, rfl, hc3⟩ := hx.form
  have hA3 := hx.cells bc_len (by omega)
  have hb3 := hU3.blk hb2 (fun h => h)
  have hy3 := hU3.blk hy2 (fun h => h)
  have hV3 := hV2.tr hU3
  have hA23 := hA2.upd hU3
  clear hx hb2c0 hb2c1 hb2c2 hb2c3 hb2c4 hb2c5 hb2z0 hb2z1 hb2z2 hb2z3 hb2z4 hb2z5 hb2 hy2 hU3 hV2 hA2
  go_wp2_with fail
  have kc1 : ∀ w', Upd Nil w3.drew w' → (convert 22 9 (.slice A2 ([]).length c2)).run Try.prog w' = .ok (.string ⟨([]).toArray⟩) w' := fun w' u => cv ((hA23.upd (Upd.refl Nil w3).drew).upd u) c2
  have kc2 : ∀ w', Upd Nil w3.drew w' → (convert 22 9 (.slice A3 ([]).length c3)).run Try.prog w' = .ok (.string ⟨([]).toArray⟩) w' := fun w' u => cv ((hA3.upd (Upd.refl Nil w3).drew).upd u) c3
  try simp only [List.length_nil] at kc1 kc2
  have x0 : ∀ w', Upd Nil w3.drew w' → w'.cell? ⟨w.heap.size, 0, none⟩ = some (.int .i64 t0) := fun w' u => blk_cell (u.blk hb3 (fun h => h)) 0
  have x1 : ∀ w', Upd Nil w3.drew w' → w'.cell? ⟨w.heap.size, 1, none⟩ = some (.int .i64 t1) := fun w' u => blk_cell (u.blk hb3 (fun h => h)) 1
  have x2 : ∀ w', Upd Nil w3.drew w' → w'.cell? ⟨w.heap.size, 2, none⟩ = some (.int .i64 t2) := fun w' u => blk_cell (u.blk hb3 (fun h => h)) 2
  have x3 : ∀ w', Upd Nil w3.drew w' → w'.cell? ⟨w.heap.size, 3, none⟩ = some (.int .i64 t3) := fun w' u => blk_cell (u.blk hb3 (fun h => h)) 3
  have x4 : ∀ w', Upd Nil w3.drew w' → w'.cell? ⟨w.heap.size, 4, none⟩ = some (.int .i64 t4) := fun w' u => blk_cell (u.blk hb3 (fun h => h)) 4
  have x5 : ∀ w', Upd Nil w3.drew w' → w'.cell? ⟨w.heap.size, 5, none⟩ = some (.bool t5) := fun w' u => blk_cell (u.blk hb3 (fun h => h)) 5
  have y0 : ∀ w', Upd Nil w3.drew w' → w'.cell? ⟨w.heap.size + 1, 0, none⟩ = some (.int .i64 o0) := fun w' u => blk_cell (u.blk hy3 (fun h => h)) 0
  have y1 : ∀ w', Upd Nil w3.drew w' → w'.cell? ⟨w.heap.size + 1, 1, none⟩ = some (.int .i64 o1) := fun w' u => blk_cell (u.blk hy3 (fun h => h)) 1
  have y2 : ∀ w', Upd Nil w3.drew w' → w'.cell? ⟨w.heap.size + 1, 2, none⟩ = some (.int .i64 o2) := fun w' u => blk_cell (u.blk hy3 (fun h => h)) 2
  have y3 : ∀ w', Upd Nil w3.drew w' → w'.cell? ⟨w.heap.size + 1, 3, none⟩ = some (.int .i64 o3) := fun w' u => blk_cell (u.blk hy3 (fun h => h)) 3
  have y4 : ∀ w', Upd Nil w3.drew w' → w'.cell? ⟨w.heap.size + 1, 4, none⟩ = some (.int .i64 o4) := fun w' u => blk_cell (u.blk hy3 (fun h => h)) 4
  have y5 : ∀ w', Upd Nil w3.drew w' → w'.cell? ⟨w.heap.size + 1, 5, none⟩ = some (.bool o5) := fun w' u => blk_cell (u.blk hy3 (fun h => h)) 5
  refine wp_region_lex Nil [0, 1, 2, 3, 4, 5, 6, 7, 8, 9, 10, 11, 13, 12, 14, 15, 16, 17, 18, 19, 21, 22, 20, 23, 24, 25] (by kernel_rfl) (by kernel_rfl) rfl (by kernel_rfl) ?_
  simp only [inOrder, List.filterMap_cons, List.filterMap_nil, List.getElem?_cons_zero, List.getElem?_cons_succ]
  try simp only [Act.put, List.setIfInBounds_toArray, List.set_cons_zero, List.set_cons_succ]
  repeat
    first
    | (refine lex_pure (v := ?_) rfl rfl ?_ ?_
       rotate_left
       · intro w' hU'
         go_simp
         try with_reducible rfl
       try simp only [Act.put, List.setIfInBounds_toArray, List.set_cons_zero, List.set_cons_succ])
    | (refine lex_skip rfl ?_
       try simp only [Act.put, List.setIfInBounds_toArray, List.set_cons_zero, List.set_cons_succ])
  refine lex_fn (f := 23) (args := #[.agg #[.int .i64 t0, .int .i64 t1, .int .i64 t2, .int .i64 t3, .int .i64 t4, .bool t5]]) rfl rfl (by go_simp) ((kR _).mono ?_)
  rintro e w4 ⟨rfl, hU4⟩
  refine ⟨_, rfl, hU4, ?_⟩
  have hd4 := (Upd.refl Nil w3).drew.tr hU4
  try simp only [Act.put, List.setIfInBounds_toArray, List.set_cons_zero, List.set_cons_succ]
  repeat
    first
    | (refine lex_pure (v := ?_) rfl rfl ?_ ?_
       rotate_left
       · intro w' hU'
         go_simp
         try with_reducible rfl
       try simp only [Act.put, List.setIfInBounds_toArray, List.set_cons_zero, List.set_cons_succ])
    | (refine lex_skip rfl ?_
       try simp only [Act.put, List.setIfInBounds_toArray, List.set_cons_zero, List.set_cons_succ])
  refine lex_fn (f := 24) (args := #[.agg #[.int .i64 t0, .int .i64 t1, .int .i64 t2, .int .i64 t3, .int .i64 t4, .bool t5]]) rfl rfl (by go_simp) ((kQ _).mono ?_)
  rintro e w5 ⟨rfl, hU5⟩
  refine ⟨_, rfl, hU5, ?_⟩
  have hd5 : Upd Nil w3.drew w5 := hU4.tr hU5
  replace x0 : ∀ w', Upd Nil w5 w' → w'.cell? ⟨w.heap.size, 0, none⟩ = some (.int .i64 t0) := fun w' u => x0 w' (hd5.tr u)
  replace x1 : ∀ w', Upd Nil w5 w' → w'.cell? ⟨w.heap.size, 1, none⟩ = some (.int .i64 t1) := fun w' u => x1 w' (hd5.tr u)
  replace x2 : ∀ w', Upd Nil w5 w' → w'.cell? ⟨w.heap.size, 2, none⟩ = some (.int .i64 t2) := fun w' u => x2 w' (hd5.tr u)
  replace x3 : ∀ w', Upd Nil w5 w' → w'.cell? ⟨w.heap.size, 3, none⟩ = some (.int .i64 t3) := fun w' u => x3 w' (hd5.tr u)
  replace x4 : ∀ w', Upd Nil w5 w' → w'.cell? ⟨w.heap.size, 4, none⟩ = some (.int .i64 t4) := fun w' u => x4 w' (hd5.tr u)
  replace x5 : ∀ w', Upd Nil w5 w' → w'.cell? ⟨w.heap.size, 5, none⟩ = some (.bool t5) := fun w' u => x5 w' (hd5.tr u)
  replace y0 : ∀ w', Upd Nil w5 w' → w'.cell? ⟨w.heap.size + 1, 0, none⟩ = some (.int .i64 o0) := fun w' u => y0 w' (hd5.tr u)
  replace y1 : ∀ w', Upd Nil w5 w' → w'.cell? ⟨w.heap.size + 1, 1, none⟩ = some (.int .i64 o1) := fun w' u => y1 w' (hd5.tr u)
  replace y2 : ∀ w', Upd Nil w5 w' → w'.cell? ⟨w.heap.size + 1, 2, none⟩ = some (.int .i64 o2) := fun w' u => y2 w' (hd5.tr u)
  replace y3 : ∀ w', Upd Nil w5 w' → w'.cell? ⟨w.heap.size + 1, 3, none⟩ = some (.int .i64 o3) := fun w' u => y3 w' (hd5.tr u)
  replace y4 : ∀ w', Upd Nil w5 w' → w'.cell? ⟨w.heap.size + 1, 4, none⟩ = some (.int .i64 o4) := fun w' u => y4 w' (hd5.tr u)
  replace y5 : ∀ w', Upd Nil w5 w' → w'.cell? ⟨w.heap.size + 1, 5, none⟩ = some (.bool o5) := fun w' u => y5 w' (hd5.tr u)
  try simp only [Act.put, List.setIfInBounds_toArray, List.set_cons_zero, List.set_cons_succ]
  repeat
    first
    | (refine lex_pure (v := ?_) rfl rfl ?_ ?_
       rotate_left
       · intro w' hU'
         go_simp
         try with_reducible rfl
       try simp only [Act.put, List.setIfInBounds_toArray, List.set_cons_zero, List.set_cons_succ])
    | (refine lex_skip rfl ?_
       try simp only [Act.put, List.setIfInBounds_toArray, List.set_cons_zero, List.set_cons_succ])
  refine lex_fn (f := 25) (args := #[.agg #[.int .i64 t0, .int .i64 t1, .int .i64 t2, .int .i64 t3, .int .i64 t4, .bool t5], .agg #[.int .i64 o0, .int .i64 o1, .int .i64 o2, .int .i64 o3, .int .i64 o4, .bool o5]]) rfl rfl (by go_simp) ((kN _).mono ?_)
  rintro e w6 ⟨rfl, hU6⟩
  refine ⟨_, rfl, hU6, ?_⟩
  try simp only [Act.put, List.setIfInBounds_toArray, List.set_cons_zero, List.set_cons_succ]
  repeat
    first
    | (refine lex_pure (v := ?_) rfl rfl ?_ ?_
       rotate_left
       · intro w' hU'
         go_simp
         try with_reducible rfl
       try simp only [Act.put, List.setIfInBounds_toArray, List.set_cons_zero, List.set_cons_succ])
    | (refine lex_skip rfl ?_
       try simp only [Act.put, List.setIfInBounds_toArray, List.set_cons_zero, List.set_cons_succ])
  refine lex_fn (f := 26) (args := #[.agg #[.int .i64 t0, .int .i64 t1, .int .i64 t2, .int .i64 t3, .int .i64 t4, .bool t5], .agg #[.int .i64 o0, .int .i64 o1, .int .i64 o2, .int .i64 o3, .int .i64 o4, .bool o5]]) rfl rfl (by go_simp) ((kM _).mono ?_)
  rintro e w7 ⟨rfl, hU7⟩
  refine ⟨_, rfl, hU7, ?_⟩
  try simp only [Act.put, List.setIfInBounds_toArray, List.set_cons_zero, List.set_cons_succ]
  repeat
    first
    | (refine lex_pure (v := ?_) rfl rfl ?_ ?_
       rotate_left
       · intro w' hU'
         go_simp
         try with_reducible rfl
       try simp only [Act.put, List.setIfInBounds_toArray, List.set_cons_zero, List.set_cons_succ])
    | (refine lex_skip rfl ?_
       try simp only [Act.put, List.setIfInBounds_toArray, List.set_cons_zero, List.set_cons_succ])
  refine lex_done ?_
  have hd7 : Upd Nil w3 w7 := ((Upd.refl Nil w3).drew.tr hd5).tr (hU6.tr hU7)
  have hV7 := hV3.tr hd7
  go_wp2_with fail
  go_ret
  exact ⟨rfl, hV7⟩
set_option maxHeartbeats 8000000 in
set_option maxRecDepth 100000 in
theorem bytes_law_yes (t o : Tg) (w : World) (hrt : rightB t = true) : Calls Try.prog 6 #[tgV t, tgV o] w (RetB true w) := by
  have hb : bytesB t = ((bytesB t).1, 0) := by rw [bytes_right hrt]
  have hlH := Lib.hid (bytes_len hrt)
  have hpH := Lib.hid (parse_right hrt)
  obtain ⟨t0, t1, t2, t3, t4, t5⟩ := t
  obtain ⟨o0, o1, o2, o3, o4, o5⟩ := o
  have kR := fun w => right ⟨t0, t1, t2, t3, t4, t5⟩ w
  have kQ := fun w => rright ⟨t0, t1, t2, t3, t4, t5⟩ w
  have kN := fun w => newer ⟨t0, t1, t2, t3, t4, t5⟩ ⟨o0, o1, o2, o3, o4, o5⟩ w
  have kM := fun w => rnewer ⟨t0, t1, t2, t3, t4, t5⟩ ⟨o0, o1, o2, o3, o4, o5⟩ w
  have kB := fun w => bytes ⟨t0, t1, t2, t3, t4, t5⟩ w
  have kC := fun w => rbytes ⟨t0, t1, t2, t3, t4, t5⟩ w
  rw [hrt] at kR kQ
  generalize newB ⟨t0, t1, t2, t3, t4, t5⟩ ⟨o0, o1, o2, o3, o4, o5⟩ = nb at *
  rw [hb] at kB kC
  generalize (bytesB ⟨t0, t1, t2, t3, t4, t5⟩).1 = L at *
  unfold tgV at *
  clear hb
  go_enter Try.func6, Try.ntmps6
  go_wp2_with fail
  refine (fixed _).mono ?_
  rintro e w1 ⟨rfl, hU1⟩
  have hbx := hU1.block w.heap.size (by simp; omega) (fun h => h)
  rw [blk_alloc (blk_new _ _)] at hbx
  have hby := hU1.block (w.heap.size + 1) (by simp) (fun h => h)
  rw [show w.heap.size + 1 = (w.alloc (.cells #[.int .i64 t0, .int .i64 t1, .int .i64 t2, .int .i64 t3, .int .i64 t4, .bool t5] 35)).heap.size by simp, blk_new] at hby
  have hlt1 := blk_lt hby
  simp at hby
  have hV1 := (((Upd.refl Nil w).alloc _).alloc _).tr hU1
  clear hU1
  have hbxc0 : (w1).cell? ⟨w.heap.size, 0, none⟩ = some (.int .i64 t0) := Base.blk_cell hbx 0
  have hbxz0 : (w1).frozen? ⟨w.heap.size, 0, none⟩ = false := Base.blk_frozen hbx 0
  have hbxc1 : (w1).cell? ⟨w.heap.size, 1, none⟩ = some (.int .i64 t1) := Base.blk_cell hbx 1
  have hbxz1 : (w1).frozen? ⟨w.heap.size, 1, none⟩ = false := Base.blk_frozen hbx 1
  have hbxc2 : (w1).cell? ⟨w.heap.size, 2, none⟩ = some (.int .i64 t2) := Base.blk_cell hbx 2
  have hbxz2 : (w1).frozen? ⟨w.heap.size, 2, none⟩ = false := Base.blk_frozen hbx 2
  have hbxc3 : (w1).cell? ⟨w.heap.size, 3, none⟩ = some (.int .i64 t3) := Base.blk_cell hbx 3
  have hbxz3 : (w1).frozen? ⟨w.heap.size, 3, none⟩ = false := Base.blk_frozen hbx 3
  have hbxc4 : (w1).cell? ⟨w.heap.size, 4, none⟩ = some (.int .i64 t4) := Base.blk_cell hbx 4
  have hbxz4 : (w1).frozen? ⟨w.heap.size, 4, none⟩ = false := Base.blk_frozen hbx 4
  have hbxc5 : (w1).cell? ⟨w.heap.size, 5, none⟩ = some (.bool t5) := Base.blk_cell hbx 5
  have hbxz5 : (w1).frozen? ⟨w.heap.size, 5, none⟩ = false := Base.blk_frozen hbx 5
  go_wp2_with fail
  refine (kB _).mono ?_
  rintro e w2 ⟨x, rfl, hx, hU2⟩
  obtain ⟨A2, c2, rfl, hc2⟩ := hx.form
  have hA2 := hx.cells bc_len (by omega)
  have hcm2 := hx.capMax
  have hb2 := hU2.blk hbx (fun h => h)
  have hy2 := hU2.blk hby (fun h => h)
  have hV2 := hV1.tr hU2
  clear hx hbxc0 hbxc1 hbxc2 hbxc3 hbxc4 hbxc5 hbxz0 hbxz1 hbxz2 hbxz3 hbxz4 hbxz5 hbx hby hU2 hV1
  have hb2c0 : (w2).cell? ⟨w.heap.size, 0, none⟩ = some (.int .i64 t0) := Base.blk_cell hb2 0
  have hb2z0 : (w2).frozen? ⟨w.heap.size, 0, none⟩ = false := Base.blk_frozen hb2 0
  have hb2c1 : (w2).cell? ⟨w.heap.size, 1, none⟩ = some (.int .i64 t1) := Base.blk_cell hb2 1
  have hb2z1 : (w2).frozen? ⟨w.heap.size, 1, none⟩ = false := Base.blk_frozen hb2 1
  have hb2c2 : (w2).cell? ⟨w.heap.size, 2, none⟩ = some (.int .i64 t2) := Base.blk_cell hb2 2
  have hb2z2 : (w2).frozen? ⟨w.heap.size, 2, none⟩ = false := Base.blk_frozen hb2 2
  have hb2c3 : (w2).cell? ⟨w.heap.size, 3, none⟩ = some (.int .i64 t3) := Base.blk_cell hb2 3
  have hb2z3 : (w2).frozen? ⟨w.heap.size, 3, none⟩ = false := Base.blk_frozen hb2 3
  have hb2c4 : (w2).cell? ⟨w.heap.size, 4, none⟩ = some (.int .i64 t4) := Base.blk_cell hb2 4
  have hb2z4 : (w2).frozen? ⟨w.heap.size, 4, none⟩ = false := Base.blk_frozen hb2 4
  have hb2c5 : (w2).cell? ⟨w.heap.size, 5, none⟩ = some (.bool t5) := Base.blk_cell hb2 5
  have hb2z5 : (w2).frozen? ⟨w.heap.size, 5, none⟩ = false := Base.blk_frozen hb2 5
  go_wp2_with fail
  refine (kC _).mono ?_
  rintro e w3 ⟨x, rfl, hx, hU3⟩
  obtain ⟨A3, c3, rfl, hc3⟩ := hx.form
  have hA3 := hx.cells bc_len (by omega)
  have hb3 := hU3.blk hb2 (fun h => h)
  have hy3 := hU3.blk hy2 (fun h => h)
  have hV3 := hV2.tr hU3
  have hA23 := hA2.upd hU3
  clear hx hb2c0 hb2c1 hb2c2 hb2c3 hb2c4 hb2c5 hb2z0 hb2z1 hb2z2 hb2z3 hb2z4 hb2z5 hb2 hy2 hU3 hV2 hA2
  go_wp2_with fail
  have kc1 : ∀ w', Upd Nil w3.drew w' → (convert 22 9 (.slice A2 (L).length c2)).run Try.prog w' = .ok (.string ⟨(L).toArray⟩) w' := fun w' u => cv ((hA23.upd (Upd.refl Nil w3).drew).upd u) c2
  have kc2 : ∀ w', Upd Nil w3.drew w' → (convert 22 9 (.slice A3 (L).length c3)).run Try.prog w' = .ok (.string ⟨(L).toArray⟩) w' := fun w' u => cv ((hA3.upd (Upd.refl Nil w3).drew).upd u) c3
  try simp only [List.length_nil] at kc1 kc2
  have x0 : ∀ w', Upd Nil w3.drew w' → w'.cell? ⟨w.heap.size, 0, none⟩ = some (.int .i64 t0) := fun w' u => blk_cell (u.blk hb3 (fun h => h)) 0
  have x1 : ∀ w', Upd Nil w3.drew w' → w'.cell? ⟨w.heap.size, 1, none⟩ = some (.int .i64 t1) := fun w' u => blk_cell (u.blk hb3 (fun h => h)) 1
  have x2 : ∀ w', Upd Nil w3.drew w' → w'.cell? ⟨w.heap.size, 2, none⟩ = some (.int .i64 t2) := fun w' u => blk_cell (u.blk hb3 (fun h => h)) 2
  have x3 : ∀ w', Upd Nil w3.drew w' → w'.cell? ⟨w.heap.size, 3, none⟩ = some (.int .i64 t3) := fun w' u => blk_cell (u.blk hb3 (fun h => h)) 3
  have x4 : ∀ w', Upd Nil w3.drew w' → w'.cell? ⟨w.heap.size, 4, none⟩ = some (.int .i64 t4) := fun w' u => blk_cell (u.blk hb3 (fun h => h)) 4
  have x5 : ∀ w', Upd Nil w3.drew w' → w'.cell? ⟨w.heap.size, 5, none⟩ = some (.bool t5) := fun w' u => blk_cell (u.blk hb3 (fun h => h)) 5
  have y0 : ∀ w', Upd Nil w3.drew w' → w'.cell? ⟨w.heap.size + 1, 0, none⟩ = some (.int .i64 o0) := fun w' u => blk_cell (u.blk hy3 (fun h => h)) 0
  have y1 : ∀ w', Upd Nil w3.drew w' → w'.cell? ⟨w.heap.size + 1, 1, none⟩ = some (.int .i64 o1) := fun w' u => blk_cell (u.blk hy3 (fun h => h)) 1
  have y2 : ∀ w', Upd Nil w3.drew w' → w'.cell? ⟨w.heap.size + 1, 2, none⟩ = some (.int .i64 o2) := fun w' u => blk_cell (u.blk hy3 (fun h => h)) 2
  have y3 : ∀ w', Upd Nil w3.drew w' → w'.cell? ⟨w.heap.size + 1, 3, none⟩ = some (.int .i64 o3) := fun w' u => blk_cell (u.blk hy3 (fun h => h)) 3
  have y4 : ∀ w', Upd Nil w3.drew w' → w'.cell? ⟨w.heap.size + 1, 4, none⟩ = some (.int .i64 o4) := fun w' u => blk_cell (u.blk hy3 (fun h => h)) 4
  have y5 : ∀ w', Upd Nil w3.drew w' → w'.cell? ⟨w.heap.size + 1, 5, none⟩ = some (.bool o5) := fun w' u => blk_cell (u.blk hy3 (fun h => h)) 5
  refine wp_region_lex Nil [0, 1, 2, 3, 4, 5, 6, 7, 8, 9, 10, 11, 13, 12, 14, 15, 16, 17, 18, 19, 21, 22, 20, 23, 24, 25] (by kernel_rfl) (by kernel_rfl) rfl (by kernel_rfl) ?_
  simp only [inOrder, List.filterMap_cons, List.filterMap_nil, List.getElem?_cons_zero, List.getElem?_cons_succ]
  try simp only [Act.put, List.setIfInBounds_toArray, List.set_cons_zero, List.set_cons_succ]
  repeat
    first
    | (refine lex_pure (v := ?_) rfl rfl ?_ ?_
       rotate_left
       · intro w' hU'
         go_simp
         try with_reducible rfl
       try simp only [Act.put, List.setIfInBounds_toArray, List.set_cons_zero, List.set_cons_succ])
    | (refine lex_skip rfl ?_
       try simp only [Act.put, List.setIfInBounds_toArray, List.set_cons_zero, List.set_cons_succ])
  refine lex_fn (f := 23) (args := #[.agg #[.int .i64 t0, .int .i64 t1, .int .i64 t2, .int .i64 t3, .int .i64 t4, .bool t5]]) rfl rfl (by go_simp) ((kR _).mono ?_)
  rintro e w4 ⟨rfl, hU4⟩
  refine ⟨_, rfl, hU4, ?_⟩
  have hd4 := (Upd.refl Nil w3).drew.tr hU4
  try simp only [Act.put, List.setIfInBounds_toArray, List.set_cons_zero, List.set_cons_succ]
  repeat
    first
    | (refine lex_pure (v := ?_) rfl rfl ?_ ?_
       rotate_left
       · intro w' hU'
         go_simp
         try with_reducible rfl
       try simp only [Act.put, List.setIfInBounds_toArray, List.set_cons_zero, List.set_cons_succ])
    | (refine lex_skip rfl ?_
       try simp only [Act.put, List.setIfInBounds_toArray, List.set_cons_zero, List.set_cons_succ])
  refine lex_fn (f := 24) (args := #[.agg #[.int .i64 t0, .int .i64 t1, .int .i64 t2, .int .i64 t3, .int .i64 t4, .bool t5]]) rfl rfl (by go_simp) ((kQ _).mono ?_)
  rintro e w5 ⟨rfl, hU5⟩
  refine ⟨_, rfl, hU5, ?_⟩
  have hd5 : Upd Nil w3.drew w5 := hU4.tr hU5
  replace x0 : ∀ w', Upd Nil w5 w' → w'.cell? ⟨w.heap.size, 0, none⟩ = some (.int .i64 t0) := fun w' u => x0 w' (hd5.tr u)
  replace x1 : ∀ w', Upd Nil w5 w' → w'.cell? ⟨w.heap.size, 1, none⟩ = some (.int .i64 t1) := fun w' u => x1 w' (hd5.tr u)
  replace x2 : ∀ w', Upd Nil w5 w' → w'.cell? ⟨w.heap.size, 2, none⟩ = some (.int .i64 t2) := fun w' u => x2 w' (hd5.tr u)
  replace x3 : ∀ w', Upd Nil w5 w' → w'.cell? ⟨w.heap.size, 3, none⟩ = some (.int .i64 t3) := fun w' u => x3 w' (hd5.tr u)
  replace x4 : ∀ w', Upd Nil w5 w' → w'.cell? ⟨w.heap.size, 4, none⟩ = some (.int .i64 t4) := fun w' u => x4 w' (hd5.tr u)
  replace x5 : ∀ w', Upd Nil w5 w' → w'.cell? ⟨w.heap.size, 5, none⟩ = some (.bool t5) := fun w' u => x5 w' (hd5.tr u)
  replace y0 : ∀ w', Upd Nil w5 w' → w'.cell? ⟨w.heap.size + 1, 0, none⟩ = some (.int .i64 o0) := fun w' u => y0 w' (hd5.tr u)
  replace y1 : ∀ w', Upd Nil w5 w' → w'.cell? ⟨w.heap.size + 1, 1, none⟩ = some (.int .i64 o1) := fun w' u => y1 w' (hd5.tr u)
  replace y2 : ∀ w', Upd Nil w5 w' → w'.cell? ⟨w.heap.size + 1, 2, none⟩ = some (.int .i64 o2) := fun w' u => y2 w' (hd5.tr u)
  replace y3 : ∀ w', Upd Nil w5 w' → w'.cell? ⟨w.heap.size + 1, 3, none⟩ = some (.int .i64 o3) := fun w' u => y3 w' (hd5.tr u)
  replace y4 : ∀ w', Upd Nil w5 w' → w'.cell? ⟨w.heap.size + 1, 4, none⟩ = some (.int .i64 o4) := fun w' u => y4 w' (hd5.tr u)
  replace y5 : ∀ w', Upd Nil w5 w' → w'.cell? ⟨w.heap.size + 1, 5, none⟩ = some (.bool o5) := fun w' u => y5 w' (hd5.tr u)
  try simp only [Act.put, List.setIfInBounds_toArray, List.set_cons_zero, List.set_cons_succ]
  repeat
    first
    | (refine lex_pure (v := ?_) rfl rfl ?_ ?_
       rotate_left
       · intro w' hU'
         go_simp
         try with_reducible rfl
       try simp only [Act.put, List.setIfInBounds_toArray, List.set_cons_zero, List.set_cons_succ])
    | (refine lex_skip rfl ?_
       try simp only [Act.put, List.setIfInBounds_toArray, List.set_cons_zero, List.set_cons_succ])
  refine lex_fn (f := 25) (args := #[.agg #[.int .i64 t0, .int .i64 t1, .int .i64 t2, .int .i64 t3, .int .i64 t4, .bool t5], .agg #[.int .i64 o0, .int .i64 o1, .int .i64 o2, .int .i64 o3, .int .i64 o4, .bool o5]]) rfl rfl (by go_simp) ((kN _).mono ?_)
  rintro e w6 ⟨rfl, hU6⟩
  refine ⟨_, rfl, hU6, ?_⟩
  try simp only [Act.put, List.setIfInBounds_toArray, List.set_cons_zero, List.set_cons_succ]
  repeat
    first
    | (refine lex_pure (v := ?_) rfl rfl ?_ ?_
       rotate_left
       · intro w' hU'
         go_simp
         try with_reducible rfl
       try simp only [Act.put, List.setIfInBounds_toArray, List.set_cons_zero, List.set_cons_succ])
    | (refine lex_skip rfl ?_
       try simp only [Act.put, List.setIfInBounds_toArray, List.set_cons_zero, List.set_cons_succ])
  refine lex_fn (f := 26) (args := #[.agg #[.int .i64 t0, .int .i64 t1, .int .i64 t2, .int .i64 t3, .int .i64 t4, .bool t5], .agg #[.int .i64 o0, .int .i64 o1, .int .i64 o2, .int .i64 o3, .int .i64 o4, .bool o5]]) rfl rfl (by go_simp) ((kM _).mono ?_)
  rintro e w7 ⟨rfl, hU7⟩
  refine ⟨_, rfl, hU7, ?_⟩
  try simp only [Act.put, List.setIfInBounds_toArray, List.set_cons_zero, List.set_cons_succ]
  repeat
    first
    | (refine lex_pure (v := ?_) rfl rfl ?_ ?_
       rotate_left
       · intro w' hU'
         go_simp
         try with_reducible rfl
       try simp only [Act.put, List.setIfInBounds_toArray, List.set_cons_zero, List.set_cons_succ])
    | (refine lex_skip rfl ?_
       try simp only [Act.put, List.setIfInBounds_toArray, List.set_cons_zero, List.set_cons_succ])
  refine lex_done ?_
  have hd7 : Upd Nil w3 w7 := ((Upd.refl Nil w3).drew.tr hd5).tr (hU6.tr hU7)
  have hV7 := hV3.tr hd7
  have kP := parse A2 c2 L w7 (hA23.upd hd7) hc2 (by unfold maxLen; omega) (by rw [hlH.out]; omega)
  rw [hpH.out] at kP
  clear kc1 kc2 x0 x1 x2 x3 x4 x5 y0 y1 y2 y3 y4 y5 kR kQ kN kM
  have hlI : decide ((L.length : Int) ≤ 32) = true := by rw [hlH.out]; rfl
  go_wp2_with fail
  refine kP.mono ?_
  rintro e w8 ⟨rfl, hU8⟩
  have hb8 := (hd7.tr hU8).blk hb3 (fun h => h)
  have hb9 := blk_alloc hb8 (.cells #[.int .i64 t0, .int .i64 t1, .int .i64 t2, .int .i64 t3, .int .i64 t4, .bool t5] 35)
  have hb9c0 : (w8.alloc (.cells #[.int .i64 t0, .int .i64 t1, .int .i64 t2, .int .i64 t3, .int .i64 t4, .bool t5] 35)).cell? ⟨w.heap.size, 0, none⟩ = some (.int .i64 t0) := Base.blk_cell hb9 0
  have hb9z0 : (w8.alloc (.cells #[.int .i64 t0, .int .i64 t1, .int .i64 t2, .int .i64 t3, .int .i64 t4, .bool t5] 35)).frozen? ⟨w.heap.size, 0, none⟩ = false := Base.blk_frozen hb9 0
  have hb9c1 : (w8.alloc (.cells #[.int .i64 t0, .int .i64 t1, .int .i64 t2, .int .i64 t3, .int .i64 t4, .bool t5] 35)).cell? ⟨w.heap.size, 1, none⟩ = some (.int .i64 t1) := Base.blk_cell hb9 1
  have hb9z1 : (w8.alloc (.cells #[.int .i64 t0, .int .i64 t1, .int .i64 t2, .int .i64 t3, .int .i64 t4, .bool t5] 35)).frozen? ⟨w.heap.size, 1, none⟩ = false := Base.blk_frozen hb9 1
  have hb9c2 : (w8.alloc (.cells #[.int .i64 t0, .int .i64 t1, .int .i64 t2, .int .i64 t3, .int .i64 t4, .bool t5] 35)).cell? ⟨w.heap.size, 2, none⟩ = some (.int .i64 t2) := Base.blk_cell hb9 2
  have hb9z2 : (w8.alloc (.cells #[.int .i64 t0, .int .i64 t1, .int .i64 t2, .int .i64 t3, .int .i64 t4, .bool t5] 35)).frozen? ⟨w.heap.size, 2, none⟩ = false := Base.blk_frozen hb9 2
  have hb9c3 : (w8.alloc (.cells #[.int .i64 t0, .int .i64 t1, .int .i64 t2, .int .i64 t3, .int .i64 t4, .bool t5] 35)).cell? ⟨w.heap.size, 3, none⟩ = some (.int .i64 t3) := Base.blk_cell hb9 3
  have hb9z3 : (w8.alloc (.cells #[.int .i64 t0, .int .i64 t1, .int .i64 t2, .int .i64 t3, .int .i64 t4, .bool t5] 35)).frozen? ⟨w.heap.size, 3, none⟩ = false := Base.blk_frozen hb9 3
  have hb9c4 : (w8.alloc (.cells #[.int .i64 t0, .int .i64 t1, .int .i64 t2, .int .i64 t3, .int .i64 t4, .bool t5] 35)).cell? ⟨w.heap.size, 4, none⟩ = some (.int .i64 t4) := Base.blk_cell hb9 4
  have hb9z4 : (w8.alloc (.cells #[.int .i64 t0, .int .i64 t1, .int .i64 t2, .int .i64 t3, .int .i64 t4, .bool t5] 35)).frozen? ⟨w.heap.size, 4, none⟩ = false := Base.blk_frozen hb9 4
  have hb9c5 : (w8.alloc (.cells #[.int .i64 t0, .int .i64 t1, .int .i64 t2, .int .i64 t3, .int .i64 t4, .bool t5] 35)).cell? ⟨w.heap.size, 5, none⟩ = some (.bool t5) := Base.blk_cell hb9 5
  have hb9z5 : (w8.alloc (.cells #[.int .i64 t0, .int .i64 t1, .int .i64 t2, .int .i64 t3, .int .i64 t4, .bool t5] 35)).frozen? ⟨w.heap.size, 5, none⟩ = false := Base.blk_frozen hb9 5
  clear hb8 hb9 hb3 hy3 kP
  unfold tgV
  go_wp2_with fail
  go_ret
  exact ⟨ret_b (by simp), (hV7.tr hU8).alloc _⟩
theorem bytes_law (t o : Tg) (w : World) : Calls Try.prog 6 #[tgV t, tgV o] w (RetB true w) := by
  cases h : rightB t
  · exact bytes_law_no t o w h
  · exact bytes_law_yes t o w h
end Go.Proofs.Ythppheklnplljaa.Tag
