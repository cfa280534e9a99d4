/-
  Tags: the walks of the laws' TagParses and TagOrder. Conditions: what the argument's slice holds.
-/
import Derived.Test.YthppheklnplljaaTagH
namespace Go.Proofs.Ythppheklnplljaa.Tag
open Go.RowKit Go.Proofs.Ythppheklnplljaa.Base Go.Proofs.Ythppheklnplljaa.Word Go.Proofs.Ythppheklnplljaa.Frame
set_option linter.unusedVariables false
set_option linter.unusedSimpArgs false
set_option maxHeartbeats 8000000 in
set_option maxRecDepth 100000 in
theorem parses_law (A : Option Addr) (c : Nat) (b : List UInt8) (k : Int) (f : Bool) (w : World) (hA : Arg w A 1 bc b) (hc : b.length ≤ c) (hcm : c ≤ maxLen) :
    Calls Try.prog 7 #[.slice A b.length c, .int .i64 k, .bool f] w (RetB true w) := by
  unfold maxLen at hcm
  by_cases h2 : 200 < b.length
  · have h2I : (200 : Int) < b.length := by omega
    go_enter Try.func7, Try.ntmps7
    go_wp2_with (go_at_call 20; refine (fixed _).mono ?_; rintro e w1 ⟨rfl, hU1⟩)
    go_ret
    exact ⟨rfl, hU1⟩
  · cases f
    · go_enter Try.func7, Try.ntmps7
      go_wp2_with fail
      refine (fixed _).mono ?_
      rintro e w1 ⟨rfl, hU1⟩
      have hA1 := hA.upd hU1
      have kQ := fun w' (u : Upd Nil w1 w') => rparse A c b w' (hA1.upd u) hc (by unfold maxLen; omega) (by omega)
      have kP := fun w' (u : Upd Nil w1 w') => parse A c b w' (hA1.upd u) hc (by unfold maxLen; omega) (by omega)
      generalize parseT b = q at *
      obtain ⟨⟨p0, p1, p2, p3, p4, p5⟩, pe⟩ := q
      go_wp2_with fail
      refine (kP _ (Upd.refl _ _)).mono ?_
      rintro e w5 ⟨rfl, hU5⟩
      unfold tgV at *
      go_wp2_with fail
      refine (kQ _ (hU5.alloc _)).mono ?_
      rintro e w6 ⟨rfl, hU6⟩
      have hb6 := hU6.blk (blk_new _ _) (fun h => h)
      have hb7 := blk_alloc hb6 (.cells #[.int .i64 p0, .int .i64 p1, .int .i64 p2, .int .i64 p3, .int .i64 p4, .bool p5] 35)
      have hb7c0 : (w6.alloc (.cells #[.int .i64 p0, .int .i64 p1, .int .i64 p2, .int .i64 p3, .int .i64 p4, .bool p5] 35)).cell? ⟨w5.heap.size, 0, none⟩ = some (.int .i64 p0) := Base.blk_cell hb7 0
      have hb7z0 : (w6.alloc (.cells #[.int .i64 p0, .int .i64 p1, .int .i64 p2, .int .i64 p3, .int .i64 p4, .bool p5] 35)).frozen? ⟨w5.heap.size, 0, none⟩ = false := Base.blk_frozen hb7 0
      have hb7c1 : (w6.alloc (.cells #[.int .i64 p0, .int .i64 p1, .int .i64 p2, .int .i64 p3, .int .i64 p4, .bool p5] 35)).cell? ⟨w5.heap.size, 1, none⟩ = some (.int .i64 p1) := Base.blk_cell hb7 1
      have hb7z1 : (w6.alloc (.cells #[.int .i64 p0, .int .i64 p1, .int .i64 p2, .int .i64 p3, .int .i64 p4, .bool p5] 35)).frozen? ⟨w5.heap.size, 1, none⟩ = false := Base.blk_frozen hb7 1
      have hb7c2 : (w6.alloc (.cells #[.int .i64 p0, .int .i64 p1, .int .i64 p2, .int .i64 p3, .int .i64 p4, .bool p5] 35)).cell? ⟨w5.heap.size, 2, none⟩ = some (.int .i64 p2) := Base.blk_cell hb7 2
      have hb7z2 : (w6.alloc (.cells #[.int .i64 p0, .int .i64 p1, .int .i64 p2, .int .i64 p3, .int .i64 p4, .bool p5] 35)).frozen? ⟨w5.heap.size, 2, none⟩ = false := Base.blk_frozen hb7 2
      have hb7c3 : (w6.alloc (.cells #[.int .i64 p0, .int .i64 p1, .int .i64 p2, .int .i64 p3, .int .i64 p4, .bool p5] 35)).cell? ⟨w5.heap.size, 3, none⟩ = some (.int .i64 p3) := Base.blk_cell hb7 3
      have hb7z3 : (w6.alloc (.cells #[.int .i64 p0, .int .i64 p1, .int .i64 p2, .int .i64 p3, .int .i64 p4, .bool p5] 35)).frozen? ⟨w5.heap.size, 3, none⟩ = false := Base.blk_frozen hb7 3
      have hb7c4 : (w6.alloc (.cells #[.int .i64 p0, .int .i64 p1, .int .i64 p2, .int .i64 p3, .int .i64 p4, .bool p5] 35)).cell? ⟨w5.heap.size, 4, none⟩ = some (.int .i64 p4) := Base.blk_cell hb7 4
      have hb7z4 : (w6.alloc (.cells #[.int .i64 p0, .int .i64 p1, .int .i64 p2, .int .i64 p3, .int .i64 p4, .bool p5] 35)).frozen? ⟨w5.heap.size, 4, none⟩ = false := Base.blk_frozen hb7 4
      have hb7c5 : (w6.alloc (.cells #[.int .i64 p0, .int .i64 p1, .int .i64 p2, .int .i64 p3, .int .i64 p4, .bool p5] 35)).cell? ⟨w5.heap.size, 5, none⟩ = some (.bool p5) := Base.blk_cell hb7 5
      have hb7z5 : (w6.alloc (.cells #[.int .i64 p0, .int .i64 p1, .int .i64 p2, .int .i64 p3, .int .i64 p4, .bool p5] 35)).frozen? ⟨w5.heap.size, 5, none⟩ = false := Base.blk_frozen hb7 5
      clear hb6 hb7 kP kQ
      unfold tgV
      go_wp2_with fail
      go_ret
      exact ⟨ret_b (by simp), ((hU1.tr (hU5.alloc _)).tr hU6).alloc _⟩
    · have km := fun w' (u : Upd Nil w w') => rmake k A c b w' (hA.upd u) (by unfold maxLen; omega)
      have hml : (mk k b).1.length ≤ 7 + b.length := by
        unfold mk
        split
        · simp
        · split
          · simp
          · simp [frameL_len]
      generalize mk k b = r at *
      obtain ⟨rl, re⟩ := r
      simp only at hml
      by_cases he : re = 0
      · subst he
        go_enter Try.func7, Try.ntmps7
        go_wp2_with fail
        refine (fixed _).mono ?_
        rintro e w1 ⟨rfl, hU1⟩
        go_wp2_with fail
        refine (km _ hU1).mono ?_
        rintro e w2 ⟨x, rfl, hx, hU2⟩
        obtain ⟨A2, c2, rfl, hc2⟩ := hx.form
        have hA2 := hx.cells bc_len (by omega)
        have hcm2 := hx.capMax
        have hU02 := hU1.tr hU2
        clear hx km
        have kQ := fun w' (u : Upd Nil w2 w') => rparse A2 c2 rl w' (hA2.upd u) hc2 (by unfold maxLen; omega) (by omega)
        have kP := fun w' (u : Upd Nil w2 w') => parse A2 c2 rl w' (hA2.upd u) hc2 (by unfold maxLen; omega) (by omega)
        generalize parseT rl = q at *
        obtain ⟨⟨p0, p1, p2, p3, p4, p5⟩, pe⟩ := q
        go_wp2_with fail
        refine (kP _ (Upd.refl _ _)).mono ?_
        rintro e w5 ⟨rfl, hU5⟩
        unfold tgV at *
        go_wp2_with fail
        refine (kQ _ (hU5.alloc _)).mono ?_
        rintro e w6 ⟨rfl, hU6⟩
        have hb6 := hU6.blk (blk_new _ _) (fun h => h)
        have hb7 := blk_alloc hb6 (.cells #[.int .i64 p0, .int .i64 p1, .int .i64 p2, .int .i64 p3, .int .i64 p4, .bool p5] 35)
        have hb7c0 : (w6.alloc (.cells #[.int .i64 p0, .int .i64 p1, .int .i64 p2, .int .i64 p3, .int .i64 p4, .bool p5] 35)).cell? ⟨w5.heap.size, 0, none⟩ = some (.int .i64 p0) := Base.blk_cell hb7 0
        have hb7z0 : (w6.alloc (.cells #[.int .i64 p0, .int .i64 p1, .int .i64 p2, .int .i64 p3, .int .i64 p4, .bool p5] 35)).frozen? ⟨w5.heap.size, 0, none⟩ = false := Base.blk_frozen hb7 0
        have hb7c1 : (w6.alloc (.cells #[.int .i64 p0, .int .i64 p1, .int .i64 p2, .int .i64 p3, .int .i64 p4, .bool p5] 35)).cell? ⟨w5.heap.size, 1, none⟩ = some (.int .i64 p1) := Base.blk_cell hb7 1
        have hb7z1 : (w6.alloc (.cells #[.int .i64 p0, .int .i64 p1, .int .i64 p2, .int .i64 p3, .int .i64 p4, .bool p5] 35)).frozen? ⟨w5.heap.size, 1, none⟩ = false := Base.blk_frozen hb7 1
        have hb7c2 : (w6.alloc (.cells #[.int .i64 p0, .int .i64 p1, .int .i64 p2, .int .i64 p3, .int .i64 p4, .bool p5] 35)).cell? ⟨w5.heap.size, 2, none⟩ = some (.int .i64 p2) := Base.blk_cell hb7 2
        have hb7z2 : (w6.alloc (.cells #[.int .i64 p0, .int .i64 p1, .int .i64 p2, .int .i64 p3, .int .i64 p4, .bool p5] 35)).frozen? ⟨w5.heap.size, 2, none⟩ = false := Base.blk_frozen hb7 2
        have hb7c3 : (w6.alloc (.cells #[.int .i64 p0, .int .i64 p1, .int .i64 p2, .int .i64 p3, .int .i64 p4, .bool p5] 35)).cell? ⟨w5.heap.size, 3, none⟩ = some (.int .i64 p3) := Base.blk_cell hb7 3
        have hb7z3 : (w6.alloc (.cells #[.int .i64 p0, .int .i64 p1, .int .i64 p2, .int .i64 p3, .int .i64 p4, .bool p5] 35)).frozen? ⟨w5.heap.size, 3, none⟩ = false := Base.blk_frozen hb7 3
        have hb7c4 : (w6.alloc (.cells #[.int .i64 p0, .int .i64 p1, .int .i64 p2, .int .i64 p3, .int .i64 p4, .bool p5] 35)).cell? ⟨w5.heap.size, 4, none⟩ = some (.int .i64 p4) := Base.blk_cell hb7 4
        have hb7z4 : (w6.alloc (.cells #[.int .i64 p0, .int .i64 p1, .int .i64 p2, .int .i64 p3, .int .i64 p4, .bool p5] 35)).frozen? ⟨w5.heap.size, 4, none⟩ = false := Base.blk_frozen hb7 4
        have hb7c5 : (w6.alloc (.cells #[.int .i64 p0, .int .i64 p1, .int .i64 p2, .int .i64 p3, .int .i64 p4, .bool p5] 35)).cell? ⟨w5.heap.size, 5, none⟩ = some (.bool p5) := Base.blk_cell hb7 5
        have hb7z5 : (w6.alloc (.cells #[.int .i64 p0, .int .i64 p1, .int .i64 p2, .int .i64 p3, .int .i64 p4, .bool p5] 35)).frozen? ⟨w5.heap.size, 5, none⟩ = false := Base.blk_frozen hb7 5
        clear hb6 hb7 kP kQ
        unfold tgV
        go_wp2_with fail
        go_ret
        exact ⟨ret_b (by simp), ((hU02.tr (hU5.alloc _)).tr hU6).alloc _⟩
      · have heb : (re == 0) = false := beq_eq_false_iff_ne.mpr he
        go_enter Try.func7, Try.ntmps7
        go_wp2_with fail
        refine (fixed _).mono ?_
        rintro e w1 ⟨rfl, hU1⟩
        go_wp2_with fail
        refine (km _ hU1).mono ?_
        rintro e w2 ⟨x, rfl, hx, hU2⟩
        have hU02 := hU1.tr hU2
        have hA2 := hA.upd hU02
        clear hx km
        have kQ := fun w' (u : Upd Nil w2 w') => rparse A c b w' (hA2.upd u) hc (by unfold maxLen; omega) (by omega)
        have kP := fun w' (u : Upd Nil w2 w') => parse A c b w' (hA2.upd u) hc (by unfold maxLen; omega) (by omega)
        generalize parseT b = q at *
        obtain ⟨⟨p0, p1, p2, p3, p4, p5⟩, pe⟩ := q
        go_wp2_with fail
        refine (kP _ (Upd.refl _ _)).mono ?_
        rintro e w5 ⟨rfl, hU5⟩
        unfold tgV at *
        go_wp2_with fail
        refine (kQ _ (hU5.alloc _)).mono ?_
        rintro e w6 ⟨rfl, hU6⟩
        have hb6 := hU6.blk (blk_new _ _) (fun h => h)
        have hb7 := blk_alloc hb6 (.cells #[.int .i64 p0, .int .i64 p1, .int .i64 p2, .int .i64 p3, .int .i64 p4, .bool p5] 35)
        have hb7c0 : (w6.alloc (.cells #[.int .i64 p0, .int .i64 p1, .int .i64 p2, .int .i64 p3, .int .i64 p4, .bool p5] 35)).cell? ⟨w5.heap.size, 0, none⟩ = some (.int .i64 p0) := Base.blk_cell hb7 0
        have hb7z0 : (w6.alloc (.cells #[.int .i64 p0, .int .i64 p1, .int .i64 p2, .int .i64 p3, .int .i64 p4, .bool p5] 35)).frozen? ⟨w5.heap.size, 0, none⟩ = false := Base.blk_frozen hb7 0
        have hb7c1 : (w6.alloc (.cells #[.int .i64 p0, .int .i64 p1, .int .i64 p2, .int .i64 p3, .int .i64 p4, .bool p5] 35)).cell? ⟨w5.heap.size, 1, none⟩ = some (.int .i64 p1) := Base.blk_cell hb7 1
        have hb7z1 : (w6.alloc (.cells #[.int .i64 p0, .int .i64 p1, .int .i64 p2, .int .i64 p3, .int .i64 p4, .bool p5] 35)).frozen? ⟨w5.heap.size, 1, none⟩ = false := Base.blk_frozen hb7 1
        have hb7c2 : (w6.alloc (.cells #[.int .i64 p0, .int .i64 p1, .int .i64 p2, .int .i64 p3, .int .i64 p4, .bool p5] 35)).cell? ⟨w5.heap.size, 2, none⟩ = some (.int .i64 p2) := Base.blk_cell hb7 2
        have hb7z2 : (w6.alloc (.cells #[.int .i64 p0, .int .i64 p1, .int .i64 p2, .int .i64 p3, .int .i64 p4, .bool p5] 35)).frozen? ⟨w5.heap.size, 2, none⟩ = false := Base.blk_frozen hb7 2
        have hb7c3 : (w6.alloc (.cells #[.int .i64 p0, .int .i64 p1, .int .i64 p2, .int .i64 p3, .int .i64 p4, .bool p5] 35)).cell? ⟨w5.heap.size, 3, none⟩ = some (.int .i64 p3) := Base.blk_cell hb7 3
        have hb7z3 : (w6.alloc (.cells #[.int .i64 p0, .int .i64 p1, .int .i64 p2, .int .i64 p3, .int .i64 p4, .bool p5] 35)).frozen? ⟨w5.heap.size, 3, none⟩ = false := Base.blk_frozen hb7 3
        have hb7c4 : (w6.alloc (.cells #[.int .i64 p0, .int .i64 p1, .int .i64 p2, .int .i64 p3, .int .i64 p4, .bool p5] 35)).cell? ⟨w5.heap.size, 4, none⟩ = some (.int .i64 p4) := Base.blk_cell hb7 4
        have hb7z4 : (w6.alloc (.cells #[.int .i64 p0, .int .i64 p1, .int .i64 p2, .int .i64 p3, .int .i64 p4, .bool p5] 35)).frozen? ⟨w5.heap.size, 4, none⟩ = false := Base.blk_frozen hb7 4
        have hb7c5 : (w6.alloc (.cells #[.int .i64 p0, .int .i64 p1, .int .i64 p2, .int .i64 p3, .int .i64 p4, .bool p5] 35)).cell? ⟨w5.heap.size, 5, none⟩ = some (.bool p5) := Base.blk_cell hb7 5
        have hb7z5 : (w6.alloc (.cells #[.int .i64 p0, .int .i64 p1, .int .i64 p2, .int .i64 p3, .int .i64 p4, .bool p5] 35)).frozen? ⟨w5.heap.size, 5, none⟩ = false := Base.blk_frozen hb7 5
        clear hb6 hb7 kP kQ
        unfold tgV
        go_wp2_with fail
        go_ret
        exact ⟨ret_b (by simp), ((hU02.tr (hU5.alloc _)).tr hU6).alloc _⟩
end Go.Proofs.Ythppheklnplljaa.Tag
