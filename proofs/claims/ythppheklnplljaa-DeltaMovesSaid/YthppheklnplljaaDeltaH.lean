/-
  DeltaRecords: both sides' records are one. Conditions: what the argument's slice holds.
-/
import Derived.Test.YthppheklnplljaaDeltaG
import Derived.Test.YthppheklnplljaaDeltaC
namespace Go.Proofs.Ythppheklnplljaa.Delta
open Go.RowKit Go.Proofs.Ythppheklnplljaa.Base Go.Proofs.Ythppheklnplljaa.Word Go.Proofs.Ythppheklnplljaa.Frame
set_option linter.unusedVariables false
set_option linter.unusedSimpArgs false
set_option maxHeartbeats 4000000 in
set_option maxRecDepth 100000 in
theorem records (number : Int) (A : Option Addr) (c : Nat) (l : List Mv) (w : World) (hA : Arg w A 4 mvC l) :
    Calls Try.prog 9 #[.int .i64 number, .slice A l.length c] w (RetB true w) := by
  by_cases h60 : 60 < l.length
  · have hI : (60 : Int) < (l.length : Int) := by omega
    go_enter Try.func9, Try.ntmps9
    go_wp2_with fail
    refine (fixedD _).mono ?_
    rintro e w1 ⟨rfl, hU1⟩
    go_wp2_with fail
    go_ret
    exact ⟨rfl, hU1⟩
  · have hI : ¬ (60 : Int) < (l.length : Int) := by omega
    have q1 := fun (w' : World) (u : Upd Nil w w') => record number A c l w' (hA.upd u) (by omega)
    have q2 := fun (w' : World) (u : Upd Nil w w') => movesC A c l w' (hA.upd u) (by omega)
    unfold MkR at q1
    go_enter Try.func9, Try.ntmps9
    go_wp2_with fail
    refine (fixedD _).mono ?_
    rintro e w1 ⟨rfl, hU1⟩
    go_wp2_with fail
    go_loopw [18] (fun s18 wr => ∃ (i : Nat), i ≤ l.length ∧ s18 = .int .i64 (i : Int) ∧ Upd Nil w wr) (fun s18 _ => l.length - (intOf s18).toNat)
    case atStart => exact ⟨0, by omega, rfl, hU1⟩
    case round =>
      obtain ⟨i, hi, rfl, hU⟩ := hrel
      by_cases hlt : i < l.length
      · obtain ⟨g, o, rfl, _, y0, y1, y2, y3⟩ := mv_cell (hA.upd hU) hlt
        generalize l[i] = m at *
        obtain ⟨p, q, s, gn⟩ := m
        have ua := (Upd.refl Nil wr).alloc (.cells #[.int .i64 p, .int .i64 q, .int .i64 s, .bool gn] 45)
        have hV := hU.tr ua
        have hb := blk_new wr (.cells #[.int .i64 p, .int .i64 q, .int .i64 s, .bool gn] 45)
        go_wp2_with fail
        generalize wr.alloc (.cells #[.int .i64 p, .int .i64 q, .int .i64 s, .bool gn] 45) = wa at *
        generalize wr.heap.size = n at *
        have z0 : ∀ w', Upd Nil wa.drew w' → w'.cell? ⟨n, 0, none⟩ = some (.int .i64 p) := fun w' u => blk_cell (u.blk (blk_drew hb) (fun h => h)) 0
        have z1 : ∀ w', Upd Nil wa.drew w' → w'.cell? ⟨n, 1, none⟩ = some (.int .i64 q) := fun w' u => blk_cell (u.blk (blk_drew hb) (fun h => h)) 1
        have z2 : ∀ w', Upd Nil wa.drew w' → w'.cell? ⟨n, 2, none⟩ = some (.int .i64 s) := fun w' u => blk_cell (u.blk (blk_drew hb) (fun h => h)) 2
        have z3 : ∀ w', Upd Nil wa.drew w' → w'.cell? ⟨n, 3, none⟩ = some (.bool gn) := fun w' u => blk_cell (u.blk (blk_drew hb) (fun h => h)) 3
        refine wp_region_lex Nil [0, 2, 3, 4, 5, 6, 7, 8, 9, 10, 1, 11, 12] (by kernel_rfl) (by kernel_rfl) rfl (by kernel_rfl) ?_
        simp only [inOrder, List.filterMap_cons, List.filterMap_nil, List.getElem?_cons_zero, List.getElem?_cons_succ]
        try simp only [Act.put, List.setIfInBounds_toArray, List.set_cons_zero, List.set_cons_succ]
        repeat
          first
          | (refine lex_pure (v := ?_) rfl rfl ?_ ?_
             rotate_left
             · intro w' hU'
               go_simp
               try with_reducible rfl
             try simp only [Act.put, List.setIfInBounds_toArray, List.set_cons_zero, List.set_cons_succ])
          | (refine lex_skip rfl ?_
             try simp only [Act.put, List.setIfInBounds_toArray, List.set_cons_zero, List.set_cons_succ])
        refine lex_fn (f := 30) (args := #[.agg #[.int .i64 p, .int .i64 q, .int .i64 s, .bool gn]]) rfl rfl (by go_simp) ((right ⟨p, q, s, gn⟩ _).mono ?_)
        rintro e w3 ⟨rfl, hU3⟩
        refine ⟨_, rfl, hU3, ?_⟩
        try simp only [Act.put, List.setIfInBounds_toArray, List.set_cons_zero, List.set_cons_succ]
        repeat
          first
          | (refine lex_pure (v := ?_) rfl rfl ?_ ?_
             rotate_left
             · intro w' hU'
               go_simp
               try with_reducible rfl
             try simp only [Act.put, List.setIfInBounds_toArray, List.set_cons_zero, List.set_cons_succ])
          | (refine lex_skip rfl ?_
             try simp only [Act.put, List.setIfInBounds_toArray, List.set_cons_zero, List.set_cons_succ])
        refine lex_fn (f := 31) (args := #[.agg #[.int .i64 p, .int .i64 q, .int .i64 s, .bool gn]]) rfl rfl (by go_simp) ((rright ⟨p, q, s, gn⟩ _).mono ?_)
        rintro e w4 ⟨rfl, hU4⟩
        refine ⟨_, rfl, hU4, ?_⟩
        generalize rightM ⟨p, q, s, gn⟩ = rb at *
        have hbn : (rb != rb) = false := by simp
        try simp only [Act.put, List.setIfInBounds_toArray, List.set_cons_zero, List.set_cons_succ]
        repeat
          first
          | (refine lex_pure (v := ?_) rfl rfl ?_ ?_
             rotate_left
             · intro w' hU'
               go_simp
               try with_reducible rfl
             try simp only [Act.put, List.setIfInBounds_toArray, List.set_cons_zero, List.set_cons_succ])
          | (refine lex_skip rfl ?_
             try simp only [Act.put, List.setIfInBounds_toArray, List.set_cons_zero, List.set_cons_succ])
        refine lex_done ?_
        have hUz := (hV.drew.tr hU3).tr hU4
        go_wp2_with fail
        go_roundw
        case measure => simp [intOf]; omega
        case rel => exact ⟨i + 1, by omega, by go_num, hUz⟩
      · obtain rfl : i = l.length := by omega
        go_wp2_with fail
        refine (q1 _ hU).mono ?_
        rintro e w2 ⟨v2, rfl, hv2, hU2⟩
        have hU02 := hU.tr hU2
        go_wp2_with fail
        refine (q2 _ hU02).mono ?_
        rintro e w3 ⟨v3, rfl, hv3, hU3⟩
        obtain ⟨A3, c3, rfl, hc3⟩ := hv3.form
        have hU03 := hU02.tr hU3
        have q3 := rrecord number A3 c3 l w3 (hv3.cells mvC_len (by omega)) (by omega)
        unfold MkR at q3
        generalize recB number l = r at *
        obtain ⟨r1, r2⟩ := r
        simp only at q3 hv2
        go_wp2_with fail
        refine q3.mono ?_
        rintro e w4 ⟨v4, rfl, hv4, hU4⟩
        obtain ⟨A2, c2, rfl, hc2⟩ := hv2.form
        obtain ⟨A4, c4, rfl, hc4⟩ := hv4.form
        have hU04 := hU03.tr hU4
        have kc1 := cv (((hv2.cells bc_len (by omega)).upd hU3).upd hU4) c2
        have kc2 := cv (hv4.cells bc_len (by omega)) c4
        clear q1 q2 q3 hv2 hv3 hv4
        go_wp2_with fail
        go_ret
        exact ⟨rfl, hU04⟩
end Go.Proofs.Ythppheklnplljaa.Delta
