/-
  DeltaReads: the walk. Conditions: what the argument's slice holds.
-/
import Derived.Test.YthppheklnplljaaDeltaK
namespace Go.Proofs.Ythppheklnplljaa.Delta
open Go.RowKit Go.Proofs.Ythppheklnplljaa.Base Go.Proofs.Ythppheklnplljaa.Word Go.Proofs.Ythppheklnplljaa.Frame
set_option linter.unusedVariables false
set_option linter.unusedSimpArgs false
set_option maxHeartbeats 4000000 in
set_option maxRecDepth 100000 in
theorem reads (A : Option Addr) (c : Nat) (b : List UInt8) (first : Int) (w : World) (hA : Arg w A 1 bc b) (hc : b.length ≤ c) (hcm : c ≤ maxLen) :
    Calls Try.prog 10 #[.slice A b.length c, .int .i64 first] w (RetB true w) := by
  by_cases h1 : 600 < b.length
  · have hI : (600 : Int) < (b.length : Int) := by omega
    go_enter Try.func10, Try.ntmps10
    go_wp2_with fail
    refine (fixedD _).mono ?_
    rintro e w1 ⟨rfl, hU1⟩
    go_wp2_with fail
    go_ret
    exact ⟨rfl, hU1⟩
  have hI : ¬ (600 : Int) < (b.length : Int) := by omega
  by_cases h2 : first < -1099511627776
  · skip
    go_enter Try.func10, Try.ntmps10
    go_wp2_with fail
    refine (fixedD _).mono ?_
    rintro e w1 ⟨rfl, hU1⟩
    go_wp2_with fail
    go_ret
    exact ⟨rfl, hU1⟩
  by_cases h3 : 1099511627776 < first
  · skip
    go_enter Try.func10, Try.ntmps10
    go_wp2_with fail
    refine (fixedD _).mono ?_
    rintro e w1 ⟨rfl, hU1⟩
    go_wp2_with fail
    go_ret
    exact ⟨rfl, hU1⟩
  have q1 := fun (w' : World) (u : Upd Nil w w') => readC A c b first w' (hA.upd u) hc hcm (by omega) (by omega)
  have q2 := fun (w' : World) (u : Upd Nil w w') => rreadC A c b first w' (hA.upd u) hc hcm (by omega) (by omega)
  have q3 := fun (w' : World) (u : Upd Nil w w') => whole A c b first w' (hA.upd u) hc hcm (by omega) (by omega)
  have hle := readV_le b first
  have hfew := readV_few b first
  unfold ReadsR at q1
  unfold RReadsR at q2
  generalize readV b first = r at *
  obtain ⟨recs, n⟩ := r
  simp only at q1 q2 q3 hle hfew
  go_enter Try.func10, Try.ntmps10
  go_wp2_with fail
  refine (fixedD _).mono ?_
  rintro e w1 ⟨rfl, hU1⟩
  go_wp2_with fail
  refine (q1 _ hU1).mono ?_
  rintro e w2 ⟨v2, rfl, ⟨xs, hS, hxl, hrr⟩, hU2⟩
  obtain ⟨AX, cX, rfl, _⟩ := hS.form
  have hxlH := Lib.hid hxl
  clear hxl
  have hU02 := hU1.tr hU2
  go_wp2_with fail
  refine (q2 _ hU02).mono ?_
  rintro e w3 ⟨v3, rfl, ⟨ys, hS2, hyl, hrr2⟩, hU3⟩
  obtain ⟨AY, cY, rfl, _⟩ := hS2.form
  have hU03 := hU02.tr hU3
  have hS1 := hS.upd0 hU3
  have hrr1 := fun i h h2 => (hrr i h h2).upd0 hU3
  have hxy : xs.length = ys.length := by rw [hxlH.out, hyl]
  have hxyb : ((xs.length : Int) != (ys.length : Int)) = false := by rw [hxy]; simp
  have q3' := fun w' u => q3 w' (hU03.tr u)
  have hpk := Lib.hid (And.intro hxlH.out (And.intro hyl (And.intro hfew (And.intro hle hxy))))
  clear q1 q2 q3 hxlH hyl hfew hU1 hU2 hU02 hxy
  go_wp2_with fail
  go_loopw [9, 49] (fun s9 s49 wr => ∃ i : Nat, i ≤ xs.length ∧ s49 = .int .i64 (i : Int) ∧ Upd Nil w3 wr) (fun _ s49 _ => xs.length - (intOf s49).toNat)
  case atStart => exact ⟨0, by omega, rfl, Upd.refl _ _⟩
  case round =>
    obtain ⟨i, hi, rfl, hUr⟩ := hrel
    by_cases hlt : i < xs.length
    · obtain ⟨hxl, hyl, hfew, _, hxy⟩ := hpk.out
      have hlt2 : i < ys.length := by omega
      have hlt3 : i < recs.length := by omega
      obtain ⟨gA, oA, hCe, hgA, y0⟩ := sv_cell ((hS1.upd0 hUr).cells sv_len (by omega)) hlt
      obtain ⟨gB, oB, hGe, hgB, z0⟩ := sv_cell ((hS2.upd0 hUr).cells sv_len (by omega)) hlt2
      have p1 := (hrr1 i hlt hlt3).upd0 hUr
      have p2 := (hrr2 i hlt2 hlt3).upd0 hUr
      have hl := hfew _ (List.getElem_mem hlt3)
      generalize recs[i] = rec at *
      generalize xs[i] = x at *
      generalize ys[i] = y at *
      obtain ⟨Ax, nx, cx⟩ := x
      obtain ⟨Ay, ny, cy⟩ := y
      obtain ⟨Ax', cx', ex, _⟩ := p1.form
      obtain ⟨Ay', cy', ey, _⟩ := p2.form
      injection ex with ex1 ex2 ex3
      injection ey with ey1 ey2 ey3
      simp only at ex1 ex2 ex3 ey1 ey2 ey3
      subst ex1 ex2 ex3 ey1 ey2 ey3
      subst hCe hGe
      clear hxl hyl hfew hxy
      have hs : ∀ w', Upd Nil wr.drew w' → Calls Try.prog 37 #[.slice Ax rec.length cx, .slice Ay rec.length cy] w' (RetB true w') := fun w' u => by
        by_cases hr0 : rec = []
        · exact sameC Ax Ay cx cy rec w' (.inl hr0) (.inl hr0) (by omega)
        · exact sameC Ax Ay cx cy rec w' ((p1.drew.cells mvC_len (by omega)).upd u) ((p2.drew.cells mvC_len (by omega)).upd u) (by omega)
      clear p1 p2 hrr1 hrr2
      go_wp2_with fail
      have y1 : ∀ w', Upd Nil wr.drew w' → w'.cell? ⟨gA, oA + i, none⟩ = some (.slice Ax rec.length cx) := fun w' u => by rw [u.cell (by assumption) (fun h => h)]; exact y0
      have z1 : ∀ w', Upd Nil wr.drew w' → w'.cell? ⟨gB, oB + i, none⟩ = some (.slice Ay rec.length cy) := fun w' u => by rw [u.cell (by assumption) (fun h => h)]; exact z0
      refine wp_region_lex Nil [0, 1, 2, 3, 4, 5, 6, 7, 8, 9] (by kernel_rfl) (by kernel_rfl) rfl (by kernel_rfl) ?_
      simp only [inOrder, List.filterMap_cons, List.filterMap_nil, List.getElem?_cons_zero, List.getElem?_cons_succ]
      try simp only [Act.put, List.setIfInBounds_toArray, List.set_cons_zero, List.set_cons_succ]
      repeat
        first
        | (refine lex_pure (v := ?_) rfl rfl ?_ ?_
           rotate_left
           · intro w' hU'
             go_simp
             try with_reducible rfl
           try simp only [Act.put, List.setIfInBounds_toArray, List.set_cons_zero, List.set_cons_succ])
        | (refine lex_skip rfl ?_
           try simp only [Act.put, List.setIfInBounds_toArray, List.set_cons_zero, List.set_cons_succ])
      refine lex_fn (f := 37) (args := _) rfl rfl (by go_simp) ((hs _ (Upd.refl _ _)).mono ?_)
      rintro e w4 ⟨rfl, hU4⟩
      refine ⟨_, rfl, hU4, ?_⟩
      try simp only [Act.put, List.setIfInBounds_toArray, List.set_cons_zero, List.set_cons_succ]
      repeat
        first
        | (refine lex_pure (v := ?_) rfl rfl ?_ ?_
           rotate_left
           · intro w' hU'
             go_simp
             try with_reducible rfl
           try simp only [Act.put, List.setIfInBounds_toArray, List.set_cons_zero, List.set_cons_succ])
        | (refine lex_skip rfl ?_
           try simp only [Act.put, List.setIfInBounds_toArray, List.set_cons_zero, List.set_cons_succ])
      refine lex_done ?_
      have hUz := hUr.drew.tr hU4
      have hmx := hS1.max
      go_wp2_with fail
      go_roundw
      case measure => simp [intOf]; omega
      case rel => exact ⟨i + 1, by omega, by go_num, hUz⟩
    · obtain rfl : i = xs.length := by omega
      have hle := hpk.out.2.2.2.1
      have hUz := hU03.tr hUr
      by_cases hn : n < b.length
      · have hnb : ((n : Int) == (b.length : Int)) = false := by simp; omega
        have q4 := q3' wr hUr
        rw [if_pos hn] at q4
        go_wp2_with fail
        refine q4.mono ?_
        rintro e w5 ⟨⟨v, rfl⟩, hU5⟩
        have hUe := hUz.tr hU5
        go_wp2_with fail
        go_ret
        exact ⟨rfl, hUe⟩
      · have hnb : ((n : Int) == (b.length : Int)) = true := by simp; omega
        have q4 := q3' wr hUr
        rw [if_neg hn] at q4
        go_wp2_with fail
        refine q4.mono ?_
        rintro e w5 ⟨⟨v, rfl⟩, hU5⟩
        have hUe := hUz.tr hU5
        go_wp2_with fail
        go_ret
        exact ⟨rfl, hUe⟩
end Go.Proofs.Ythppheklnplljaa.Delta
