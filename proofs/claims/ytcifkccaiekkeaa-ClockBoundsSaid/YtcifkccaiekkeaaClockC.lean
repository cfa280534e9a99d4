/-
  The clock: geometries, the program's Check, Blocks and Split at one that may be, the reference's Check. Conditions: each lemma's own.
-/
import Derived.Test.YtcifkccaiekkeaaClockB
namespace Go.Proofs.Ytcifkccaiekkeaa.Clock
open Go.RowKit Go.Proofs.Ytcifkccaiekkeaa.Base Go.Maps Go.Proofs.Ytcifkccaiekkeaa.Maps Go.Proofs.Ytcifkccaiekkeaa.Ints
set_option linter.unusedVariables false
set_option linter.unusedSimpArgs false
/-- A geometry that may be. -/
structure GV (C D B P : Int) : Prop where
  c : 1 ≤ C ∧ C ≤ 64
  d : 1 ≤ D ∧ D ≤ 64
  b : 1 ≤ B ∧ B ≤ 64
  p : 2 ≤ P ∧ P ≤ 16
  n : 3 ≤ C * D * B ∧ C * D * B ≤ 64
def gC (C D B P : Int) : Value := .agg #[.int .i64 C, .int .i64 D, .int .i64 B, .int .i64 P]
theorem prod_bd {a b m n : Int} (ha : 0 ≤ a) (ha' : a ≤ m) (hb : 0 ≤ b) (hb' : b ≤ n) : 0 ≤ a * b ∧ a * b ≤ m * n :=
  ⟨Int.mul_nonneg ha hb, Int.le_trans (Int.mul_le_mul_of_nonneg_right ha' hb) (Int.mul_le_mul_of_nonneg_left hb' (by omega))⟩
theorem wrap_cd {C D : Int} (hc : 1 ≤ C ∧ C ≤ 64) (hd : 1 ≤ D ∧ D ≤ 64) : wrap64 (C * D) = C * D := by
  have h1 := prod_bd (a := C) (b := D) (m := 64) (n := 64) (by omega) hc.2 (by omega) hd.2
  exact wr2 (by omega)
theorem wrap_cdb {C D B : Int} (hc : 1 ≤ C ∧ C ≤ 64) (hd : 1 ≤ D ∧ D ≤ 64) (hb : 1 ≤ B ∧ B ≤ 64) : wrap64 (C * D * B) = C * D * B := by
  have h1 := prod_bd (a := C) (b := D) (m := 64) (n := 64) (by omega) hc.2 (by omega) hd.2
  have h2 := prod_bd (a := C * D) (b := B) (m := 64 * 64) (n := 64) h1.1 h1.2 (by omega) hb.2
  exact wr2 (by omega)
def ErrR (v : Int) (w : World) (e : Ending) (w' : World) : Prop := e = .returned (.int .i64 v) ∧ Upd Nil w w'
set_option maxHeartbeats 4000000 in
set_option maxRecDepth 100000 in
theorem rcheck (C D B P : Int) (w : World) : ∃ e : Int, Calls Try.prog 80 #[gC C D B P] w (ErrR e w) ∧ (e = 0 ∧ GV C D B P ∨ e ≠ 0 ∧ ¬ GV C D B P) := by
  unfold gC
  by_cases a1 : C < 1
  · skip
    refine ⟨1, ?_, .inr ⟨by decide, fun h => by have h1 := h.c; have h2 := h.d; have h3 := h.b; have h4 := h.p; have h5 := h.n; omega⟩⟩
    go_enter Try.func80, Try.ntmps80
    go_wp2_with fail
    go_ret
    exact ⟨rfl, (Upd.refl _ _).alloc _⟩
  by_cases a2 : D < 1
  · skip
    refine ⟨1, ?_, .inr ⟨by decide, fun h => by have h1 := h.c; have h2 := h.d; have h3 := h.b; have h4 := h.p; have h5 := h.n; omega⟩⟩
    go_enter Try.func80, Try.ntmps80
    go_wp2_with fail
    go_ret
    exact ⟨rfl, (Upd.refl _ _).alloc _⟩
  by_cases a3 : B < 1
  · skip
    refine ⟨1, ?_, .inr ⟨by decide, fun h => by have h1 := h.c; have h2 := h.d; have h3 := h.b; have h4 := h.p; have h5 := h.n; omega⟩⟩
    go_enter Try.func80, Try.ntmps80
    go_wp2_with fail
    go_ret
    exact ⟨rfl, (Upd.refl _ _).alloc _⟩
  by_cases a4 : P < 2
  · skip
    refine ⟨1, ?_, .inr ⟨by decide, fun h => by have h1 := h.c; have h2 := h.d; have h3 := h.b; have h4 := h.p; have h5 := h.n; omega⟩⟩
    go_enter Try.func80, Try.ntmps80
    go_wp2_with fail
    go_ret
    exact ⟨rfl, (Upd.refl _ _).alloc _⟩
  by_cases b1 : 64 < C
  · skip
    refine ⟨4, ?_, .inr ⟨by decide, fun h => by have h1 := h.c; have h2 := h.d; have h3 := h.b; have h4 := h.p; have h5 := h.n; omega⟩⟩
    go_enter Try.func80, Try.ntmps80
    go_wp2_with fail
    go_ret
    exact ⟨rfl, (Upd.refl _ _).alloc _⟩
  by_cases b2 : 64 < D
  · skip
    refine ⟨4, ?_, .inr ⟨by decide, fun h => by have h1 := h.c; have h2 := h.d; have h3 := h.b; have h4 := h.p; have h5 := h.n; omega⟩⟩
    go_enter Try.func80, Try.ntmps80
    go_wp2_with fail
    go_ret
    exact ⟨rfl, (Upd.refl _ _).alloc _⟩
  by_cases b3 : 64 < B
  · skip
    refine ⟨4, ?_, .inr ⟨by decide, fun h => by have h1 := h.c; have h2 := h.d; have h3 := h.b; have h4 := h.p; have h5 := h.n; omega⟩⟩
    go_enter Try.func80, Try.ntmps80
    go_wp2_with fail
    go_ret
    exact ⟨rfl, (Upd.refl _ _).alloc _⟩
  by_cases b4 : 16 < P
  · skip
    refine ⟨4, ?_, .inr ⟨by decide, fun h => by have h1 := h.c; have h2 := h.d; have h3 := h.b; have h4 := h.p; have h5 := h.n; omega⟩⟩
    go_enter Try.func80, Try.ntmps80
    go_wp2_with fail
    go_ret
    exact ⟨rfl, (Upd.refl _ _).alloc _⟩
  have v1 := wrap_cd (C := C) (D := D) (by omega) (by omega)
  have v2 := wrap_cdb (C := C) (D := D) (B := B) (by omega) (by omega) (by omega)
  by_cases n1 : C * D * B < 3
  · skip
    refine ⟨1, ?_, .inr ⟨by decide, fun h => by have h1 := h.c; have h2 := h.d; have h3 := h.b; have h4 := h.p; have h5 := h.n; omega⟩⟩
    go_enter Try.func80, Try.ntmps80
    go_wp2_with fail
    go_ret
    exact ⟨rfl, (Upd.refl _ _).alloc _⟩
  by_cases n2 : 64 < C * D * B
  · skip
    refine ⟨4, ?_, .inr ⟨by decide, fun h => by have h1 := h.c; have h2 := h.d; have h3 := h.b; have h4 := h.p; have h5 := h.n; omega⟩⟩
    go_enter Try.func80, Try.ntmps80
    go_wp2_with fail
    go_ret
    exact ⟨rfl, (Upd.refl _ _).alloc _⟩
  have hV : GV C D B P := ⟨by omega, by omega, by omega, by omega, by omega⟩
  refine ⟨0, ?_, .inl ⟨rfl, hV⟩⟩
  clear hV
  go_enter Try.func80, Try.ntmps80
  go_wp2_with fail
  go_ret
  exact ⟨rfl, (Upd.refl _ _).alloc _⟩
set_option maxHeartbeats 2000000 in
set_option maxRecDepth 100000 in
theorem check {C D B P : Int} (h : GV C D B P) (w : World) : Calls Try.prog 81 #[gC C D B P] w (ErrR 0 w) := by
  obtain ⟨hc, hd, hb, hp, hn⟩ := h
  have w1 := wrap_cd hc hd
  have w2 := wrap_cdb hc hd hb
  obtain ⟨m1, e1⟩ : ∃ m, (if D < C then D else C) = m := ⟨_, rfl⟩
  obtain ⟨lo, e2⟩ : ∃ m, (if B < m1 then B else m1) = m := ⟨_, rfl⟩
  obtain ⟨m2, e3⟩ : ∃ m, (if C < D then D else C) = m := ⟨_, rfl⟩
  obtain ⟨hi, e4⟩ : ∃ m, (if m2 < B then B else m2) = m := ⟨_, rfl⟩
  have hlo : ¬ lo < 1 := by subst e2; subst e1; split <;> (try split) <;> omega
  have hhi : ¬ 64 < hi := by subst e4; subst e3; split <;> (try split) <;> omega
  have hp1 : ¬ P < 2 := by omega
  have hp2 : ¬ 16 < P := by omega
  have hn1 : ¬ C * D * B ≤ 2 := by omega
  have hn2 : ¬ 64 < C * D * B := by omega
  clear hc hd hb hp hn
  unfold gC
  go_enter Try.func81, Try.ntmps81
  go_wp2_with fail
  go_ret
  exact ⟨rfl, (Upd.refl _ _).alloc _⟩
set_option maxHeartbeats 2000000 in
set_option maxRecDepth 100000 in
theorem blocks {C D B P : Int} (h : GV C D B P) (w : World) : Calls Try.prog 83 #[gC C D B P] w (ErrR (C * D * B) w) := by
  have q := check h
  have w1 := wrap_cd h.c h.d
  have w2 := wrap_cdb h.c h.d h.b
  clear h
  unfold gC at *
  have hb := blk_new w (.cells #[.int .i64 C, .int .i64 D, .int .i64 B, .int .i64 P] 99)
  go_enter Try.func83, Try.ntmps83
  go_wp2_with fail
  refine (q _).mono ?_
  rintro e w1 ⟨rfl, hU⟩
  have hb1 := hU.blk hb (fun h => h)
  have x0 := blk_cell hb1 0
  have x1 := blk_cell hb1 1
  have x2 := blk_cell hb1 2
  simp only [List.getElem?_toArray, List.getElem?_cons_zero, List.getElem?_cons_succ] at x0 x1 x2
  go_wp2_with fail
  go_ret
  exact ⟨ret_i w2, ((Upd.refl _ _).alloc _).tr hU⟩
theorem tdv {a b : Int} (ha : 0 ≤ a) (hb : 1 ≤ b) : 0 ≤ a.tdiv b ∧ a.tdiv b ≤ a := by
  rw [Int.tdiv_eq_ediv_of_nonneg ha]
  exact ⟨Int.ediv_nonneg ha (by omega), Int.ediv_le_self _ ha⟩
def SplitR (c d : Int) (w : World) (e : Ending) (w' : World) : Prop := ∃ x y, e = .returned (.tuple #[.agg #[.int .i64 c, .int .i64 d, .int .i64 x, .int .i64 y], .int .i64 0]) ∧ Upd Nil w w'
set_option maxHeartbeats 4000000 in
set_option maxRecDepth 100000 in
theorem split {C D B P : Int} (h : GV C D B P) (k nn : Int) (hk : 0 ≤ k ∧ k < C * D * B) (hnn : nn = k * P) (w : World) : Calls Try.prog 84 #[gC C D B P, .int .i64 nn] w (SplitR (k.tmod C) ((k.tdiv C).tmod D) w) := by
  have q := check h
  have qb := blocks h
  have hkn : 0 ≤ k * P ∧ k * P ≤ 64 * 16 := prod_bd hk.1 (by have := h.n; omega) (by have := h.p; omega) (by have := h.p; omega)
  have hnb : 0 ≤ C * D * B * P ∧ C * D * B * P ≤ 64 * 16 := prod_bd (by have := h.n; omega) (by have := h.n; omega) (by have := h.p; omega) (by have := h.p; omega)
  have hlt : ¬ C * D * B * P ≤ nn := by
    have h1 : (k + 1) * P ≤ C * D * B * P := Int.mul_le_mul_of_nonneg_right (by omega) (by have := h.p; omega)
    rw [Int.add_mul] at h1
    have := h.p
    omega
  have hw : wrap64 (C * D * B * P) = C * D * B * P := wr2 (by omega)
  have hw' : IntKind.i64.wrap (C * D * B * P) = C * D * B * P := wr1 (by omega)
  have hk1 : wrap64 k = k := wr2 (by have := h.n; omega)
  have t1 := tdv hk.1 h.c.1
  have t2 := tdv t1.1 h.d.1
  have hk2 : IntKind.i64.wrap (k.tdiv C) = k.tdiv C := wr1 (by have := h.n; omega)
  have hk3 : IntKind.i64.wrap ((k.tdiv C).tdiv D) = (k.tdiv C).tdiv D := wr1 (by have := h.n; omega)
  clear t1 t2
  have hn0 : decide (nn < 0) = false := by simp; omega
  have hlt2 : decide (C * D * B * P ≤ nn) = false := by simp; omega
  have hdv : nn.tdiv P = k := by rw [hnn]; exact Int.mul_tdiv_cancel _ (by have := h.p; omega)
  have hP : (P == 0) = false := by have := h.p; simp; omega
  have hC : (C == 0) = false := by have := h.c; simp; omega
  have hD : (D == 0) = false := by have := h.d; simp; omega
  have hP' : P ≠ 0 := by have := h.p; omega
  have hC' : C ≠ 0 := by have := h.c; omega
  have hD' : D ≠ 0 := by have := h.d; omega
  clear h hk hnn hkn hnb
  generalize C * D * B = N at *
  unfold gC at *
  have hb := blk_new w (.cells #[.int .i64 C, .int .i64 D, .int .i64 B, .int .i64 P] 99)
  go_enter Try.func84, Try.ntmps84
  go_wp2_with fail
  refine (q _).mono ?_
  rintro e w1 ⟨rfl, hU⟩
  have hV := ((((Upd.refl Nil w).alloc (.cells #[.int .i64 C, .int .i64 D, .int .i64 B, .int .i64 P] 99)).alloc (.cells #[.int .i64 0, .int .i64 0, .int .i64 0, .int .i64 0] 155)).tr hU)
  have hb1 := hU.blk (blk_alloc hb (.cells #[.int .i64 0, .int .i64 0, .int .i64 0, .int .i64 0] 155)) (fun h => h)
  have hz : ((w.alloc (.cells #[.int .i64 C, .int .i64 D, .int .i64 B, .int .i64 P] 99)).alloc (.cells #[.int .i64 0, .int .i64 0, .int .i64 0, .int .i64 0] 155)).heap[w.heap.size + 1]? = some (.cells #[.int .i64 0, .int .i64 0, .int .i64 0, .int .i64 0] 155 (0, 0)) := by
    have := blk_new (w.alloc (.cells #[.int .i64 C, .int .i64 D, .int .i64 B, .int .i64 P] 99)) (.cells #[.int .i64 0, .int .i64 0, .int .i64 0, .int .i64 0] 155)
    rw [show (w.alloc (.cells #[.int .i64 C, .int .i64 D, .int .i64 B, .int .i64 P] 99)).heap.size = w.heap.size + 1 by simp] at this
    exact this
  have hz1 := hU.blk hz (fun h => h)
  have hle : w.heap.size ≤ w.heap.size + 1 := by omega
  clear hU hz hb q
  generalize w.heap.size + 1 = nz at *
  have x0 := fun w' (u : Upd Nil w1.drew w') => blk_cell (u.blk (blk_drew hb1) (fun h => h)) 0
  have x1 := fun w' (u : Upd Nil w1.drew w') => blk_cell (u.blk (blk_drew hb1) (fun h => h)) 1
  have x2 := fun w' (u : Upd Nil w1.drew w') => blk_cell (u.blk (blk_drew hb1) (fun h => h)) 2
  have x3 := fun w' (u : Upd Nil w1.drew w') => blk_cell (u.blk (blk_drew hb1) (fun h => h)) 3
  simp only [List.getElem?_toArray, List.getElem?_cons_zero, List.getElem?_cons_succ] at x0 x1 x2 x3
  go_wp2_with fail
  refine wp_region_lexW (Upd Nil) (fun _ => Upd.refl _ _) (fun _ _ _ h k => h.tr k) [(0, false), (1, false), (2, true), (3, false), (4, true), (6, false), (7, false), (5, false), (8, false), (9, false), (10, false)] (by kernel_rfl) (by kernel_rfl) rfl (by kernel_rfl) (by kernel_rfl) ?_
  simp only [inOrderW, List.filterMap_cons, List.filterMap_nil, List.getElem?_cons_zero, List.getElem?_cons_succ, Option.map_some]
  try simp only [Act.put, List.setIfInBounds_toArray, List.set_cons_zero, List.set_cons_succ]
  repeat
    first
    | (refine lexW_sure (v := ?_) rfl rfl ?_ ?_
       rotate_left
       · go_simp
         try with_reducible rfl
       try simp only [Act.put, List.setIfInBounds_toArray, List.set_cons_zero, List.set_cons_succ])
    | (refine lexW_pure (v := ?_) rfl rfl ?_ ?_
       rotate_left
       · intro w' hU'
         go_simp
         try with_reducible rfl
       try simp only [Act.put, List.setIfInBounds_toArray, List.set_cons_zero, List.set_cons_succ])
    | (refine lexW_skip rfl ?_
       try simp only [Act.put, List.setIfInBounds_toArray, List.set_cons_zero, List.set_cons_succ])
  refine lexW_fn (f := 83) (args := _) rfl rfl (by go_simp) ((qb _).mono ?_)
  rintro e w2 ⟨rfl, hU2⟩
  refine ⟨_, rfl, hU2, ?_⟩
  try simp only [Act.put, List.setIfInBounds_toArray, List.set_cons_zero, List.set_cons_succ]
  repeat
    first
    | (refine lexW_sure (v := ?_) rfl rfl ?_ ?_
       rotate_left
       · go_simp
         try with_reducible rfl
       try simp only [Act.put, List.setIfInBounds_toArray, List.set_cons_zero, List.set_cons_succ])
    | (refine lexW_pure (v := ?_) rfl rfl ?_ ?_
       rotate_left
       · intro w' hU'
         go_simp
         try with_reducible rfl
       try simp only [Act.put, List.setIfInBounds_toArray, List.set_cons_zero, List.set_cons_succ])
    | (refine lexW_skip rfl ?_
       try simp only [Act.put, List.setIfInBounds_toArray, List.set_cons_zero, List.set_cons_succ])
  refine lexW_done ?_
  replace hV := hV.drew.tr hU2
  have hb2 := hU2.blk (blk_drew hb1) (fun h => h)
  have hz2 := hU2.blk (blk_drew hz1) (fun h => h)
  clear x0 x1 x2 x3 hb1 hz1 hU2 qb
  have x0 := blk_cell hb2 0
  have x1 := blk_cell hb2 1
  have x2 := blk_cell hb2 2
  have x3 := blk_cell hb2 3
  have z0 := blk_cell hz2 0
  have z1 := blk_cell hz2 1
  have z2 := blk_cell hz2 2
  have z3 := blk_cell hz2 3
  have f0 := blk_frozen hz2 0
  have f1 := blk_frozen hz2 1
  have f2 := blk_frozen hz2 2
  have f3 := blk_frozen hz2 3
  simp only [List.getElem?_toArray, List.getElem?_cons_zero, List.getElem?_cons_succ] at x0 x1 x2 x3 z0 z1 z2 z3
  go_wp2_with fail
  refine wp_region_lexW (Upd (Only nz)) (fun _ => Upd.refl _ _) (fun _ _ _ h k => h.tr k) [(0, true), (1, true), (2, true), (3, true), (4, true), (5, true), (6, true), (7, true), (8, true), (9, true), (10, true), (11, true), (12, true), (13, true), (14, true), (15, true), (16, true), (17, true), (18, true), (19, true), (20, true), (21, true), (22, true), (23, false), (24, false)] (by kernel_rfl) (by kernel_rfl) rfl (by kernel_rfl) (by kernel_rfl) ?_
  simp only [inOrderW, List.filterMap_cons, List.filterMap_nil, List.getElem?_cons_zero, List.getElem?_cons_succ, Option.map_some]
  try simp only [Act.put, List.setIfInBounds_toArray, List.set_cons_zero, List.set_cons_succ]
  repeat
    first
    | (refine lexW_sure (v := ?_) rfl rfl ?_ ?_
       rotate_left
       · go_simp
         try with_reducible rfl
       try simp only [Act.put, List.setIfInBounds_toArray, List.set_cons_zero, List.set_cons_succ])
    | (refine lexW_pure (v := ?_) rfl rfl ?_ ?_
       rotate_left
       · intro w' hU'
         go_simp
         try with_reducible rfl
       try simp only [Act.put, List.setIfInBounds_toArray, List.set_cons_zero, List.set_cons_succ])
    | (refine lexW_skip rfl ?_
       try simp only [Act.put, List.setIfInBounds_toArray, List.set_cons_zero, List.set_cons_succ])
  have hU5 : Upd (Only nz) w2.drew ((((w2.setCell ⟨nz, 0, none⟩ (.int .i64 (k.tmod C))).setCell ⟨nz, 1, none⟩ (.int .i64 ((k.tdiv C).tmod D))).setCell ⟨nz, 2, none⟩ (.int .i64 ((k.tdiv C).tdiv D))).setCell ⟨nz, 3, none⟩ (.int .i64 (nn.tmod P))).drew := Upd.ofDrew (((((Upd.refl _ w2).set1 _).set1 _).set1 _).set1 _).drew
  refine lexW_store (w' := ((((w2.setCell ⟨nz, 0, none⟩ (.int .i64 (k.tmod C))).setCell ⟨nz, 1, none⟩ (.int .i64 ((k.tdiv C).tmod D))).setCell ⟨nz, 2, none⟩ (.int .i64 ((k.tdiv C).tdiv D))).setCell ⟨nz, 3, none⟩ (.int .i64 (nn.tmod P))).drew) rfl rfl (by go_simp) hU5 ?_
  try simp only [Act.put, List.setIfInBounds_toArray, List.set_cons_zero, List.set_cons_succ]
  repeat
    first
    | (refine lexW_sure (v := ?_) rfl rfl ?_ ?_
       rotate_left
       · go_simp
         try with_reducible rfl
       try simp only [Act.put, List.setIfInBounds_toArray, List.set_cons_zero, List.set_cons_succ])
    | (refine lexW_pure (v := ?_) rfl rfl ?_ ?_
       rotate_left
       · intro w' hU'
         go_simp
         try with_reducible rfl
       try simp only [Act.put, List.setIfInBounds_toArray, List.set_cons_zero, List.set_cons_succ])
    | (refine lexW_skip rfl ?_
       try simp only [Act.put, List.setIfInBounds_toArray, List.set_cons_zero, List.set_cons_succ])
  refine lexW_done ?_
  have hz5 := blk_put (blk_put (blk_put (blk_put hz2 0 (.int .i64 (k.tmod C)) rfl) 1 (.int .i64 ((k.tdiv C).tmod D)) rfl) 2 (.int .i64 ((k.tdiv C).tdiv D)) rfl) 3 (.int .i64 (nn.tmod P)) rfl
  have z5 : World.cell? _ ⟨nz, 0, none⟩ = some (.int .i64 (k.tmod C)) := blk_cell hz5 0
  have z6 : World.cell? _ ⟨nz, 1, none⟩ = some (.int .i64 ((k.tdiv C).tmod D)) := blk_cell hz5 1
  have z7 : World.cell? _ ⟨nz, 2, none⟩ = some (.int .i64 ((k.tdiv C).tdiv D)) := blk_cell hz5 2
  have z8 : World.cell? _ ⟨nz, 3, none⟩ = some (.int .i64 (nn.tmod P)) := blk_cell hz5 3
  clear hU5
  go_wp2_with fail
  exact bodyPost_ret (v := .tuple #[.agg #[.int .i64 (k.tmod C), .int .i64 ((k.tdiv C).tmod D), .int .i64 ((k.tdiv C).tdiv D), .int .i64 (nn.tmod P)], .int .i64 0]) (by simp [results, Try.results84, go_sem, z5, z6, z7, z8]) rfl ⟨_, _, rfl, ((((hV.setNew hle _).setNew hle _).setNew hle _).setNew hle _).drew⟩
end Go.Proofs.Ytcifkccaiekkeaa.Clock
