/-
  Levelling: the walks of the laws' fixed and few, and of LevelPlans. Conditions: what the slices hold.
-/
import Derived.Test.YtenhimaclecdpaaLevelJ
namespace Go.Proofs.Ytenhimaclecdpaa.Level
open Go.RowKit Go.Proofs.Ytenhimaclecdpaa.Base Go.Proofs.Ytenhimaclecdpaa.Ints
set_option linter.unusedVariables false
set_option linter.unusedSimpArgs false
theorem arg_cast {w : World} {A : Option Addr} {l : List (Nat × Nat)} (h : Arg w A 2 trC l) : Arg w A 2 tiC (castL l) := by
  rcases h with rfl | ⟨b, off, rfl, h2, h3⟩
  · exact .inl rfl
  · refine .inr ⟨b, off, rfl, h2, fun i hi j hj => ?_⟩
    have hi2 : i < l.length := by simpa [castL] using hi
    rw [h3 i hi2 j hj]
    simp [castL, trC, tiC]
theorem cast_len (l : List (Nat × Nat)) : (castL l).length = l.length := by simp [castL]
theorem lit2 (w : World) (cx cy : Array Value) (xs ys : List Int) (hx : cx.toList = xs.flatMap ic) (hy : cy.toList = ys.flatMap ic) : Arg ((w.alloc (.cells cx 3)).alloc (.cells cy 3)) (some ⟨w.heap.size, 0, none⟩) 1 ic xs ∧ Arg ((w.alloc (.cells cx 3)).alloc (.cells cy 3)) (some ⟨w.heap.size + 1, 0, none⟩) 1 ic ys ∧ Upd Nil w ((w.alloc (.cells cx 3)).alloc (.cells cy 3)) := by
  have h2 := blk_new (w.alloc (.cells cx 3)) (.cells cy 3)
  rw [show (w.alloc (.cells cx 3)).heap.size = w.heap.size + 1 by simp] at h2
  exact ⟨arg_lit ic_len (blk_alloc (blk_new w (.cells cx 3)) _) hx, arg_lit ic_len h2 hy, ((Upd.refl _ _).alloc _).alloc _⟩
set_option maxHeartbeats 4000000 in
set_option maxRecDepth 100000 in
theorem fixed (w : World) : Calls Try.prog 11 #[] w (RetB true w) := by
  have k1 := fun (w : World) => planC (some ⟨w.heap.size, 0, none⟩) (some ⟨w.heap.size + 1, 0, none⟩) 2 2 [9, 2] [1, 3] 8 _ (lit2 w #[.int .i64 9, .int .i64 2] #[.int .i64 1, .int .i64 3] [9, 2] [1, 3] rfl rfl).1 (lit2 w #[.int .i64 9, .int .i64 2] #[.int .i64 1, .int .i64 3] [9, 2] [1, 3] rfl rfl).2.1 (by simp) (by simp)
  have k2 := fun (w : World) => planC (some ⟨w.heap.size, 0, none⟩) (some ⟨w.heap.size + 1, 0, none⟩) 1 1 [9] [1] 0 _ (lit2 w #[.int .i64 9] #[.int .i64 1] [9] [1] rfl rfl).1 (lit2 w #[.int .i64 9] #[.int .i64 1] [9] [1] rfl rfl).2.1 (by simp) (by simp)
  have e1 : planOf [9, 2] [1, 3] 8 = ([], true) := by decide +kernel
  have e2 : planOf [9] [1] 0 = ([(0, 0)], false) := by decide +kernel
  have e3 : after [9] [1] [(0, 0)] = some ([1], [9]) := by decide +kernel
  have e4 : after [] [] [(0, 0)] = none := by decide +kernel
  have e5 : sum [3, -1, 4] = 7 := by decide +kernel
  rw [e1] at k1
  rw [e2] at k2
  go_enter Try.func11, Try.ntmps11
  go_wp2_with fail
  refine (k1 w).mono ?_
  rintro e w1 ⟨v1, rfl, hv1, hU1⟩
  have hV1 := (lit2 w #[.int .i64 9, .int .i64 2] #[.int .i64 1, .int .i64 3] [9, 2] [1, 3] rfl rfl).2.2.tr hU1
  obtain ⟨A1, c1, rfl, -⟩ := hv1.form
  go_wp2_with fail
  refine (k2 w1).mono ?_
  rintro e w2 ⟨v2, rfl, hv2, hU2⟩
  have hV2 := hV1.tr ((lit2 w1 #[.int .i64 9] #[.int .i64 1] [9] [1] rfl rfl).2.2.tr hU2)
  obtain ⟨A2, c2, rfl, -⟩ := hv2.form
  have l3 := lit2 w2 #[.int .i64 9] #[.int .i64 1] [9] [1] rfl rfl
  have k3 := afterC (some ⟨w2.heap.size, 0, none⟩) (some ⟨w2.heap.size + 1, 0, none⟩) A2 1 1 c2 [9] [1] [(0, 0)] _ l3.1 l3.2.1 (arg_cast ((hv2.upd0 l3.2.2).cells trC_len (by omega))) (by simp) (by simp) (by simp)
  rw [e3] at k3
  clear k1 k2 e1 e2 e3
  go_wp2_with fail
  refine k3.mono ?_
  rintro e w3 ⟨X, Y, x, y, rfl, hX, hY, hU3, hr⟩
  have hV3 := hV2.tr (l3.2.2.tr hU3)
  obtain ⟨rfl, rfl⟩ : [1] = x ∧ [9] = y := by
    rcases hr with hr | ⟨hr, _⟩
    · injection hr with hr
      injection hr with e1 e2
      exact ⟨e1, e2⟩
    · cases hr
  obtain ⟨AX, cX, rfl, -⟩ := hX.form
  obtain ⟨AY, cY, rfl, -⟩ := hY.form
  have hba : Arg (w3.alloc (.cells #[.int .i64 0, .int .i64 0] 33)) (some ⟨w3.heap.size, 0, none⟩) 2 tiC [(0, 0)] := arg_lit (fun _ => rfl) (blk_new _ _) rfl
  have k4 := afterC none none (some ⟨w3.heap.size, 0, none⟩) 0 0 1 [] [] [(0, 0)] _ (.inl rfl) (.inl rfl) hba (by simp) (by simp) (by simp)
  rw [e4] at k4
  clear k3 hr
  go_wp2_with fail
  refine k4.mono ?_
  rintro e w4 ⟨X4, Y4, x4, y4, rfl, hX4, hY4, hU4, hr⟩
  have hU4' := ((Upd.refl Nil w3).alloc (.cells #[.int .i64 0, .int .i64 0] 33)).tr hU4
  have hV4 := hV3.tr hU4'
  obtain ⟨g, o, hA, _, c0⟩ := ic_cell ((hX.upd0 hU4').cells ic_len (by omega)) (i := 0) (by simp)
  obtain ⟨g2, o2, hA2, _, c02⟩ := ic_cell ((hY.upd0 hU4').cells ic_len (by omega)) (i := 0) (by simp)
  subst hA hA2
  simp only [List.getElem_cons_zero, Nat.add_zero] at c0 c02
  have k5 := fun cs (h : cs = #[Value.int .i64 3, .int .i64 (-1), .int .i64 4]) => sumC (some ⟨w4.heap.size, 0, none⟩) 3 [3, -1, 4] (w4.alloc (.cells cs 3)) (arg_lit ic_len (blk_new _ _) (by rw [h]; rfl)) (by simp)
  rw [e5] at k5
  clear k4 hr
  go_wp2_with fail
  refine (k5 _ rfl).mono ?_
  rintro e w' ⟨rfl, rfl⟩
  go_wp2_with fail
  go_ret
  exact ⟨rfl, hV4.alloc _⟩
def fewB (n m : Nat) : Bool := decide (n ≤ 30) && decide (m ≤ 30)
set_option maxHeartbeats 4000000 in
set_option maxRecDepth 100000 in
theorem fewC (A B : Option Addr) (cA cB n m : Nat) (g : Nat) (w : World) (hg : w.heap[g]? = some (.cells #[.slice A n cA, .slice B m cB] 22 (0, 0))) : Calls Try.prog 12 #[.slice (some ⟨g, 0, none⟩) 2 2] w fun e w' => e = .returned (.bool (fewB n m)) ∧ w = w' := by
  have g0 := blk_cell hg 0
  have g1 := blk_cell hg 1
  simp only [List.getElem?_toArray, List.getElem?_cons_zero, List.getElem?_cons_succ] at g0 g1
  go_enter Try.func12, Try.ntmps12
  go_wp2_with fail
  go_loopw [7] (fun s7 wr => ∃ j : Nat, j ≤ 2 ∧ s7 = .int .i64 j ∧ (0 < j → n ≤ 30) ∧ (1 < j → m ≤ 30) ∧ w = wr) (fun s7 _ => 2 - (intOf s7).toNat)
  case atStart => exact ⟨0, by omega, rfl, by omega, by omega, rfl⟩
  case round =>
    obtain ⟨j, hj, rfl, h1, h2, rfl⟩ := hrel
    obtain rfl | rfl | rfl : j = 0 ∨ j = 1 ∨ j = 2 := by omega
    · clear h1 h2
      by_cases hn : n ≤ 30
      · have hn2 : ¬ (30 : Int) < (n : Int) := by omega
        go_wp2_with fail
        go_roundw
        case measure => simp [intOf]
        case rel => exact ⟨1, by omega, rfl, fun _ => hn, by omega, trivial⟩
      · have hn2 : (30 : Int) < (n : Int) := by omega
        go_wp2_with fail
        go_ret
        exact ⟨ret_b (show false = fewB n m by unfold fewB; simp; omega), rfl⟩
    · have h1 := h1 (by omega)
      clear h2
      by_cases hn : m ≤ 30
      · have hn2 : ¬ (30 : Int) < (m : Int) := by omega
        go_wp2_with fail
        go_roundw
        case measure => simp [intOf]
        case rel => exact ⟨2, by omega, rfl, fun _ => h1, fun _ => hn, trivial⟩
      · have hn2 : (30 : Int) < (m : Int) := by omega
        go_wp2_with fail
        go_ret
        exact ⟨ret_b (show false = fewB n m by unfold fewB; simp; omega), rfl⟩
    · have h1 := h1 (by omega)
      have h2 := h2 (by omega)
      go_wp2_with fail
      go_ret
      exact ⟨ret_b (show true = fewB n m by unfold fewB; simp; omega), rfl⟩
theorem few_lit (w : World) (A B : Option Addr) (cA cB n m : Nat) : Calls Try.prog 12 #[.slice (some ⟨w.heap.size, 0, none⟩) 2 2] (w.alloc (.cells #[.slice A n cA, .slice B m cB] 22)) fun e w' => e = .returned (.bool (fewB n m)) ∧ (w.alloc (.cells #[.slice A n cA, .slice B m cB] 22)) = w' := fewC A B cA cB n m _ _ (blk_new _ _)
set_option maxHeartbeats 4000000 in
set_option maxRecDepth 100000 in
theorem plans (A B : Option Addr) (cA cB : Nat) (a b : List Int) (limit : Int) (w : World) (hA : Arg w A 1 ic a) (hB : Arg w B 1 ic b) : Calls Try.prog 3 #[.slice A a.length cA, .slice B b.length cB, .int .i64 limit] w (RetB true w) := by
  have kf := fun w => few_lit w A B cA cB a.length b.length
  go_enter Try.func3, Try.ntmps3
  go_wp2_with fail
  refine (fixed _).mono ?_
  rintro e w1 ⟨rfl, hU1⟩
  go_wp2_with fail
  refine (kf _).mono ?_
  rintro e w' ⟨rfl, rfl⟩
  have hU2 := hU1.alloc (.cells #[.slice A a.length cA, .slice B b.length cB] 22)
  by_cases hf : fewB a.length b.length = true
  · have hab : a.length ≤ 30 ∧ b.length ≤ 30 := by unfold fewB at hf; simpa using hf
    obtain ⟨ha, hb⟩ := hab
    rw [hf]
    generalize w1.alloc (.cells #[.slice A a.length cA, .slice B b.length cB] 22) = w2 at *
    clear hf kf
    have k1 := planC A B cA cB a b limit w2 (hA.upd hU2) (hB.upd hU2) (by omega) (by omega)
    have k2 := fun w' (u : Upd Nil w2 w') => rplanC A B cA cB a b limit w' (hA.upd (hU2.tr u)) (hB.upd (hU2.tr u)) (by omega) (by omega)
    have k3 := fun w' (u : Upd Nil w2 w') => sumC A cA a w' (hA.upd (hU2.tr u)) (by omega)
    have k4 := fun w' (u : Upd Nil w2 w') => rsumC A cA a w' (hA.upd (hU2.tr u)) (by omega)
    generalize planOf a b limit = r at *
    obtain ⟨l, ok⟩ := r
    generalize sum a = sm at *
    go_wp2_with fail
    refine k1.mono ?_
    rintro e w3 ⟨v, rfl, hv, hU3⟩
    obtain ⟨A1, c1, rfl, -⟩ := hv.form
    go_wp2_with fail
    refine (k2 _ hU3).mono ?_
    rintro e w4 ⟨v2, rfl, hv2, hU4⟩
    obtain ⟨A2, c2, rfl, -⟩ := hv2.form
    have hU := hU3.tr hU4
    have hc1 := (hv.upd0 hU4).cells trC_len (by omega)
    have hc2 := hv2.cells trC_len (by omega)
    simp only at hv hv2 hc1 hc2
    have hlm : l.length ≤ 9223372036854775807 := hv.max
    clear hv hv2 k1 k2
    go_wp2_with fail
    refine (k3 _ hU).mono ?_
    rintro e w' ⟨rfl, rfl⟩
    go_wp2_with fail
    refine (k4 _ hU).mono ?_
    rintro e w' ⟨rfl, rfl⟩
    go_wp2_with fail
    have hUw := hU2.tr hU
    go_loopw [53] (fun s53 wr => ∃ j : Nat, j ≤ l.length ∧ s53 = .int .i64 j ∧ Upd Nil w4 wr) (fun s53 _ => l.length - (intOf s53).toNat)
    case atStart => exact ⟨0, by omega, rfl, Upd.refl _ _⟩
    case round =>
      rename World => wr
      obtain ⟨j, hj, rfl, hUr⟩ := hrel
      by_cases hlt : j < l.length
      · have hjc : j < (castL l).length := by rw [cast_len]; exact hlt
        obtain ⟨g, o, hA1, p0, p1⟩ := ti_cell (arg_cast (hc1.upd hUr)) hjc
        obtain ⟨g2, o2, hA2, q0, q1⟩ := ti_cell (arg_cast (hc2.upd (hUr.alloc (.cells #[.int .i64 (castL l)[j].1, .int .i64 (castL l)[j].2] 33)))) hjc
        subst hA1 hA2
        have hbt := blk_new wr (.cells #[.int .i64 (castL l)[j].1, .int .i64 (castL l)[j].2] 33)
        have hUa := hUr.alloc (.cells #[.int .i64 (castL l)[j].1, .int .i64 (castL l)[j].2] 33)
        generalize (castL l)[j].1 = i at *
        generalize (castL l)[j].2 = k at *
        have t0 := blk_cell hbt 0
        have t1 := blk_cell hbt 1
        simp only [List.getElem?_toArray, List.getElem?_cons_zero, List.getElem?_cons_succ] at t0 t1
        have hj1 : (j : Int) < (l.length : Int) := by omega
        have hj2 : (j : Int) < ((castL l).length : Int) := by rw [cast_len]; omega
        go_wp2_with fail
        generalize wr.alloc (.cells #[.int .i64 i, .int .i64 k] 33) = W at *
        refine wp_region_lexW (Upd Nil) (fun _ => Upd.refl _ _) (fun _ _ _ h k => h.tr k) [(0, true), (1, true), (2, true), (3, true), (4, true), (5, true), (6, true), (7, true), (8, true), (9, true), (10, true), (11, true), (12, true), (13, true), (14, true), (15, true), (16, true), (17, true)] (by kernel_rfl) (by kernel_rfl) rfl (by kernel_rfl) (by kernel_rfl) ?_
        simp only [inOrderW, List.filterMap_cons, List.filterMap_nil, List.getElem?_cons_zero, List.getElem?_cons_succ, Option.map_some]
        try simp only [Act.put, List.setIfInBounds_toArray, List.set_cons_zero, List.set_cons_succ]
        repeat
          first
          | (refine lexW_sure (v := ?_) rfl rfl ?_ ?_
             rotate_left
             · go_simp
               try with_reducible rfl
             try simp only [Act.put, List.setIfInBounds_toArray, List.set_cons_zero, List.set_cons_succ])
          | (refine lexW_pure (v := ?_) rfl rfl ?_ ?_
             rotate_left
             · intro w' hU'
               go_simp
               try with_reducible rfl
             try simp only [Act.put, List.setIfInBounds_toArray, List.set_cons_zero, List.set_cons_succ])
          | (refine lexW_skip rfl ?_
             try simp only [Act.put, List.setIfInBounds_toArray, List.set_cons_zero, List.set_cons_succ])
        refine lexW_done ?_
        go_wp2_with fail
        go_roundw
        case measure => simp [intOf]; omega
        case rel => exact ⟨j + 1, by omega, by go_num, hUa.drew⟩
      · obtain rfl : j = l.length := by omega
        go_wp2_with fail
        go_ret
        exact ⟨rfl, hUw.tr hUr⟩
  · have hf : fewB a.length b.length = false := by simpa using hf
    rw [hf]
    go_wp2_with fail
    go_ret
    exact ⟨rfl, hU2⟩
end Go.Proofs.Ytenhimaclecdpaa.Level
