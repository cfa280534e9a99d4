/-
  The walk of 'almshouselaw04.GeomPlaces': it returns true and turns nothing that there was. Conditions: none.
-/
import Derived.Test.YtobhpfbldmobfaaGeomP
import Derived.Test.YtobhpfbldmobfaaBridge
import Derived.Lib.Hide
namespace Go.Proofs.Ytobhpfbldmobfaa.GeomL
open Go.RowKit Go.Proofs.Ytobhpfbldmobfaa.Base Go.Proofs.Ytobhpfbldmobfaa.PGeomPlaces Go.Proofs.Ytobhpfbldmobfaa.GeomP
open Go.Proofs.YtobhpfbldmobfaaW.PrintWords (Kd)
set_option linter.unusedVariables false
def s48Cells (x : S48) : List Value := [.int .i64 x.f0, .int .i64 x.f1, .int .i64 x.f2, .int .i64 x.f3]
/-- The geometry's and the place's blocks. -/
def Two (w : World) (b : Nat) (C D B P p0 p1 p2 p3 : Int) : Prop :=
  w.heap[b]? = some (.cells #[.int .i64 C, .int .i64 D, .int .i64 B, .int .i64 P] 46 (0, 0)) ∧ w.heap[b + 1]? = some (.cells #[.int .i64 p0, .int .i64 p1, .int .i64 p2, .int .i64 p3] 48 (0, 0))
theorem Two.below {w w1 : World} {b : Nat} {C D B P p0 p1 p2 p3 : Int} (h : Two w b C D B P p0 p1 p2 p3) (hb : Below w.heap.size w w1) : Two w1 b C D B P p0 p1 p2 p3 := ⟨blk_below h.1 hb, blk_below h.2 hb⟩
theorem Two.alloc {w : World} {b : Nat} {C D B P p0 p1 p2 p3 : Int} (h : Two w b C D B P p0 p1 p2 p3) (o : Obj) : Two (w.alloc o) b C D B P p0 p1 p2 p3 := ⟨blk_alloc h.1 o, blk_alloc h.2 o⟩
theorem two_new (w : World) (C D B P p0 p1 p2 p3 : Int) : Two ((w.alloc (.cells #[.int .i64 C, .int .i64 D, .int .i64 B, .int .i64 P] 46)).alloc (.cells #[.int .i64 p0, .int .i64 p1, .int .i64 p2, .int .i64 p3] 48)) w.heap.size C D B P p0 p1 p2 p3 :=
  ⟨blk_alloc (blk_new _ _) _, by have := blk_new (w.alloc (.cells #[.int .i64 C, .int .i64 D, .int .i64 B, .int .i64 P] 46)) (.cells #[.int .i64 p0, .int .i64 p1, .int .i64 p2, .int .i64 p3] 48); simpa using this⟩

theorem neq_ways {p0 p1 p2 p3 : Int} {y : S48} (h : y ≠ ⟨p0, p1, p2, p3⟩) : (((p0 == y.f0) = false ∧ (p0 = y.f0) = False)) ∨ (((p0 == y.f0) = true ∧ (p0 = y.f0) = True) ∧ ((p1 == y.f1) = false ∧ (p1 = y.f1) = False)) ∨ (((p0 == y.f0) = true ∧ (p0 = y.f0) = True) ∧ ((p1 == y.f1) = true ∧ (p1 = y.f1) = True) ∧ ((p2 == y.f2) = false ∧ (p2 = y.f2) = False)) ∨
          (((p0 == y.f0) = true ∧ (p0 = y.f0) = True) ∧ ((p1 == y.f1) = true ∧ (p1 = y.f1) = True) ∧ ((p2 == y.f2) = true ∧ (p2 = y.f2) = True) ∧ ((p3 == y.f3) = false ∧ (p3 = y.f3) = False)) := by
  obtain ⟨y0, y1, y2, y3⟩ := y
  by_cases a : p0 = y0
  · by_cases b : p1 = y1
    · by_cases c : p2 = y2
      · by_cases d : p3 = y3
        · subst a b c d; exact absurd rfl h
        · simp [a, b, c, d]
      · simp [a, b, c]
    · simp [a, b]
  · simp [a]
theorem found {C D B P p0 p1 p2 p3 k : Int} (h : V C D B P) (h0 : 0 ≤ k) (h1 : k < tot C D B P) (e : plc C D P k = ⟨p0, p1, p2, p3⟩) :
    Hid ((inB C D B ⟨p0, p1, p2, p3⟩ ∧ 0 ≤ p3 ∧ p3 < P) ∧ idx C D P p2 p1 p0 p3 = k ∧ (p2 * D + p1) * C + p0 = k / P) := by
  obtain ⟨a, b, c, d⟩ := plc_in h h0 h1
  unfold plc at e
  injection e with e0 e1 e2 e3
  subst e0 e1 e2 e3
  refine ⟨⟨⟨c, b, a⟩, d⟩, idx_plc, ?_⟩
  rw [Int.ediv_mul_add_emod, Int.ediv_mul_add_emod]

set_option maxHeartbeats 8000000 in
set_option maxRecDepth 100000 in
theorem places (C D B P n p0 p1 p2 p3 : Int) (w : World) :
    Calls Try.prog 9 #[.agg #[.int .i64 C, .int .i64 D, .int .i64 B, .int .i64 P], .int .i64 n, .agg #[.int .i64 p0, .int .i64 p1, .int .i64 p2, .int .i64 p3]] w (RetB true w) := by
  obtain ⟨rc, hrc, hv, hv'⟩ := refcheck 0 C D B P
  have hT := two_new w C D B P p0 p1 p2 p3
  have hU := ((Upd.refl Nil w).alloc (.cells #[.int .i64 C, .int .i64 D, .int .i64 B, .int .i64 P] 46)).alloc (.cells #[.int .i64 p0, .int .i64 p1, .int .i64 p2, .int .i64 p3] 48)
  go_enter Try.func9, Try.ntmps9
  go_wp2_with fail
  refine (almshouselaw04_fixed.calls _ true _ (fixed_ok 0)).mono ?_
  rintro e w1 ⟨rfl, hb1⟩
  replace hT := hT.below hb1
  replace hU := hU.below_step hb1
  clear hb1
  obtain ⟨hG, hQ⟩ := id hT
  have hGc0 : (w1).cell? ⟨w.heap.size, 0, none⟩ = some (.int .i64 C) := Base.blk_cell hG 0
  have hGz0 : (w1).frozen? ⟨w.heap.size, 0, none⟩ = false := Base.blk_frozen hG 0
  have hGc1 : (w1).cell? ⟨w.heap.size, 1, none⟩ = some (.int .i64 D) := Base.blk_cell hG 1
  have hGz1 : (w1).frozen? ⟨w.heap.size, 1, none⟩ = false := Base.blk_frozen hG 1
  have hGc2 : (w1).cell? ⟨w.heap.size, 2, none⟩ = some (.int .i64 B) := Base.blk_cell hG 2
  have hGz2 : (w1).frozen? ⟨w.heap.size, 2, none⟩ = false := Base.blk_frozen hG 2
  have hGc3 : (w1).cell? ⟨w.heap.size, 3, none⟩ = some (.int .i64 P) := Base.blk_cell hG 3
  have hGz3 : (w1).frozen? ⟨w.heap.size, 3, none⟩ = false := Base.blk_frozen hG 3
  go_wp2_with fail
  refine (almshouseref04_Check.calls _ C D B P rc _ hrc).mono ?_
  rintro e w2 ⟨rfl, hb2⟩
  replace hT := hT.below hb2
  replace hU := hU.below_step hb2
  clear hb2 hGc0 hGc1 hGc2 hGc3 hGz0 hGz1 hGz2 hGz3 hG hQ
  by_cases h0 : rc = 0
  · have hV := hv h0
    have h0b : (rc != 0) = false := by simp [h0]
    clear hv hv' hrc
    obtain ⟨hG, hQ⟩ := id hT
    have hGc0 : (w2).cell? ⟨w.heap.size, 0, none⟩ = some (.int .i64 C) := Base.blk_cell hG 0
    have hGz0 : (w2).frozen? ⟨w.heap.size, 0, none⟩ = false := Base.blk_frozen hG 0
    have hGc1 : (w2).cell? ⟨w.heap.size, 1, none⟩ = some (.int .i64 D) := Base.blk_cell hG 1
    have hGz1 : (w2).frozen? ⟨w.heap.size, 1, none⟩ = false := Base.blk_frozen hG 1
    have hGc2 : (w2).cell? ⟨w.heap.size, 2, none⟩ = some (.int .i64 B) := Base.blk_cell hG 2
    have hGz2 : (w2).frozen? ⟨w.heap.size, 2, none⟩ = false := Base.blk_frozen hG 2
    have hGc3 : (w2).cell? ⟨w.heap.size, 3, none⟩ = some (.int .i64 P) := Base.blk_cell hG 3
    have hGz3 : (w2).frozen? ⟨w.heap.size, 3, none⟩ = false := Base.blk_frozen hG 3
    obtain ⟨ka, hka⟩ := all_ok hV
    go_wp2_with fail
    refine (almshouseref04_All.calls ka C D B P _ _ hka).mono ?_
    rintro e w3 ⟨va, rfl, hR, hb3⟩
    obtain ⟨A, cap, rfl, hcap, hC⟩ := Kd.R_reads hR
    have hA : Arg w3 A 4 s48Cells (lst C D P (tot C D B P).toNat) := arg_of_C (f := s48Cells) rfl (by omega) (fun x cs h => k48_open h) hC
    have ht := tot_bd hV
    have hlen : ((lst C D P (tot C D B P).toNat).length : Int) = tot C D B P := by rw [lst_len]; omega
    have hget : ∀ i (hi : i < (lst C D P (tot C D B P).toNat).length), (lst C D P (tot C D B P).toNat)[i] = plc C D P (i : Nat) := fun i hi => lst_get _ _ _ _ _ hi
    clear hka hR hC
    generalize lst C D P (tot C D B P).toNat = L at *
    have hT3 := hT.below hb3
    have hU3 := hU.below_step hb3
    clear hb3 hGc0 hGc1 hGc2 hGc3 hGz0 hGz1 hGz2 hGz3 hG hQ hT hU
    by_cases hin : 0 ≤ n ∧ n < tot C D B P
    · obtain ⟨hn0, hn1⟩ := hin
      have hsp := split_in hV 0 n hn0 hn1
      obtain ⟨hG, hQ⟩ := id hT3
      have hGc0 : (w3).cell? ⟨w.heap.size, 0, none⟩ = some (.int .i64 C) := Base.blk_cell hG 0
      have hGz0 : (w3).frozen? ⟨w.heap.size, 0, none⟩ = false := Base.blk_frozen hG 0
      have hGc1 : (w3).cell? ⟨w.heap.size, 1, none⟩ = some (.int .i64 D) := Base.blk_cell hG 1
      have hGz1 : (w3).frozen? ⟨w.heap.size, 1, none⟩ = false := Base.blk_frozen hG 1
      have hGc2 : (w3).cell? ⟨w.heap.size, 2, none⟩ = some (.int .i64 B) := Base.blk_cell hG 2
      have hGz2 : (w3).frozen? ⟨w.heap.size, 2, none⟩ = false := Base.blk_frozen hG 2
      have hGc3 : (w3).cell? ⟨w.heap.size, 3, none⟩ = some (.int .i64 P) := Base.blk_cell hG 3
      have hGz3 : (w3).frozen? ⟨w.heap.size, 3, none⟩ = false := Base.blk_frozen hG 3
      go_wp2_with fail
      refine (geom_Split.calls _ C D B P n _ _ _ _ _ _ hsp).mono ?_
      rintro e w4 ⟨rfl, hb4⟩
      have hA4 := hA.upd (((Upd.refl Nil w3).below_step hb4).alloc (.cells #[.int .i64 (plc C D P n).f0, .int .i64 (plc C D P n).f1, .int .i64 (plc C D P n).f2, .int .i64 (plc C D P n).f3] 48))
      have hT4 := (hT3.below hb4).alloc (.cells #[.int .i64 (plc C D P n).f0, .int .i64 (plc C D P n).f1, .int .i64 (plc C D P n).f2, .int .i64 (plc C D P n).f3] 48)
      have hU4 := (hU3.below_step hb4).alloc (.cells #[.int .i64 (plc C D P n).f0, .int .i64 (plc C D P n).f1, .int .i64 (plc C D P n).f2, .int .i64 (plc C D P n).f3] 48)
      obtain ⟨ab, off, rfl, hab, hcell⟩ := id (hA4.resolve_left (fun e => by rw [e] at hlen; simp at hlen; omega))
      have hnl : n.toNat < L.length := by omega
      have hLn : L[n.toNat] = plc C D P n := by rw [hget]; congr 1; omega
      have e0 := hcell n.toNat hnl 0 (by omega)
      have e1 := hcell n.toNat hnl 1 (by omega)
      have e2 := hcell n.toNat hnl 2 (by omega)
      have e3 := hcell n.toNat hnl 3 (by omega)
      rw [hLn] at e0 e1 e2 e3
      simp only [s48Cells, List.getElem?_cons_zero, List.getElem?_cons_succ, Nat.add_zero] at e0 e1 e2 e3
      clear hLn hcell hsp hGc0 hGc1 hGc2 hGc3 hGz0 hGz1 hGz2 hGz3 hG hQ
      obtain ⟨hG, hQ⟩ := id hT4
      have hGc0 : (w4.alloc (.cells #[.int .i64 (plc C D P n).f0, .int .i64 (plc C D P n).f1, .int .i64 (plc C D P n).f2, .int .i64 (plc C D P n).f3] 48)).cell? ⟨w.heap.size, 0, none⟩ = some (.int .i64 C) := Base.blk_cell hG 0
      have hGz0 : (w4.alloc (.cells #[.int .i64 (plc C D P n).f0, .int .i64 (plc C D P n).f1, .int .i64 (plc C D P n).f2, .int .i64 (plc C D P n).f3] 48)).frozen? ⟨w.heap.size, 0, none⟩ = false := Base.blk_frozen hG 0
      have hGc1 : (w4.alloc (.cells #[.int .i64 (plc C D P n).f0, .int .i64 (plc C D P n).f1, .int .i64 (plc C D P n).f2, .int .i64 (plc C D P n).f3] 48)).cell? ⟨w.heap.size, 1, none⟩ = some (.int .i64 D) := Base.blk_cell hG 1
      have hGz1 : (w4.alloc (.cells #[.int .i64 (plc C D P n).f0, .int .i64 (plc C D P n).f1, .int .i64 (plc C D P n).f2, .int .i64 (plc C D P n).f3] 48)).frozen? ⟨w.heap.size, 1, none⟩ = false := Base.blk_frozen hG 1
      have hGc2 : (w4.alloc (.cells #[.int .i64 (plc C D P n).f0, .int .i64 (plc C D P n).f1, .int .i64 (plc C D P n).f2, .int .i64 (plc C D P n).f3] 48)).cell? ⟨w.heap.size, 2, none⟩ = some (.int .i64 B) := Base.blk_cell hG 2
      have hGz2 : (w4.alloc (.cells #[.int .i64 (plc C D P n).f0, .int .i64 (plc C D P n).f1, .int .i64 (plc C D P n).f2, .int .i64 (plc C D P n).f3] 48)).frozen? ⟨w.heap.size, 2, none⟩ = false := Base.blk_frozen hG 2
      have hGc3 : (w4.alloc (.cells #[.int .i64 (plc C D P n).f0, .int .i64 (plc C D P n).f1, .int .i64 (plc C D P n).f2, .int .i64 (plc C D P n).f3] 48)).cell? ⟨w.heap.size, 3, none⟩ = some (.int .i64 P) := Base.blk_cell hG 3
      have hGz3 : (w4.alloc (.cells #[.int .i64 (plc C D P n).f0, .int .i64 (plc C D P n).f1, .int .i64 (plc C D P n).f2, .int .i64 (plc C D P n).f3] 48)).frozen? ⟨w.heap.size, 3, none⟩ = false := Base.blk_frozen hG 3
      have hQc0 : (w4.alloc (.cells #[.int .i64 (plc C D P n).f0, .int .i64 (plc C D P n).f1, .int .i64 (plc C D P n).f2, .int .i64 (plc C D P n).f3] 48)).cell? ⟨w.heap.size + 1, 0, none⟩ = some (.int .i64 p0) := Base.blk_cell hQ 0
      have hQz0 : (w4.alloc (.cells #[.int .i64 (plc C D P n).f0, .int .i64 (plc C D P n).f1, .int .i64 (plc C D P n).f2, .int .i64 (plc C D P n).f3] 48)).frozen? ⟨w.heap.size + 1, 0, none⟩ = false := Base.blk_frozen hQ 0
      have hQc1 : (w4.alloc (.cells #[.int .i64 (plc C D P n).f0, .int .i64 (plc C D P n).f1, .int .i64 (plc C D P n).f2, .int .i64 (plc C D P n).f3] 48)).cell? ⟨w.heap.size + 1, 1, none⟩ = some (.int .i64 p1) := Base.blk_cell hQ 1
      have hQz1 : (w4.alloc (.cells #[.int .i64 (plc C D P n).f0, .int .i64 (plc C D P n).f1, .int .i64 (plc C D P n).f2, .int .i64 (plc C D P n).f3] 48)).frozen? ⟨w.heap.size + 1, 1, none⟩ = false := Base.blk_frozen hQ 1
      have hQc2 : (w4.alloc (.cells #[.int .i64 (plc C D P n).f0, .int .i64 (plc C D P n).f1, .int .i64 (plc C D P n).f2, .int .i64 (plc C D P n).f3] 48)).cell? ⟨w.heap.size + 1, 2, none⟩ = some (.int .i64 p2) := Base.blk_cell hQ 2
      have hQz2 : (w4.alloc (.cells #[.int .i64 (plc C D P n).f0, .int .i64 (plc C D P n).f1, .int .i64 (plc C D P n).f2, .int .i64 (plc C D P n).f3] 48)).frozen? ⟨w.heap.size + 1, 2, none⟩ = false := Base.blk_frozen hQ 2
      have hQc3 : (w4.alloc (.cells #[.int .i64 (plc C D P n).f0, .int .i64 (plc C D P n).f1, .int .i64 (plc C D P n).f2, .int .i64 (plc C D P n).f3] 48)).cell? ⟨w.heap.size + 1, 3, none⟩ = some (.int .i64 p3) := Base.blk_cell hQ 3
      have hQz3 : (w4.alloc (.cells #[.int .i64 (plc C D P n).f0, .int .i64 (plc C D P n).f1, .int .i64 (plc C D P n).f2, .int .i64 (plc C D P n).f3] 48)).frozen? ⟨w.heap.size + 1, 3, none⟩ = false := Base.blk_frozen hQ 3
      generalize plc C D P n = x at *
      have hnlen : n < (L.length : Int) := by omega
      go_wp2_with fail
      go_quiet (fail)
      have hTx := hT4
      have hUx := hU4.drewN nq
      have hAx := hA4
      replace hTx : Two ((w4.alloc (.cells #[.int .i64 x.f0, .int .i64 x.f1, .int .i64 x.f2, .int .i64 x.f3] 48)).drewN nq) w.heap.size C D B P p0 p1 p2 p3 := hTx
      replace hAx : Arg ((w4.alloc (.cells #[.int .i64 x.f0, .int .i64 x.f1, .int .i64 x.f2, .int .i64 x.f3] 48)).drewN nq) (some ⟨ab, off, none⟩) 4 s48Cells L := hAx
      clear hT4 hU4 hA4 hA hT3 hU3 hb4 e0 e1 e2 e3 hGc0 hGc1 hGc2 hGc3 hGz0 hGz1 hGz2 hGz3 hQc0 hQc1 hQc2 hQc3 hQz0 hQz1 hQz2 hQz3 hG hQ
      generalize (w4.alloc (.cells #[.int .i64 x.f0, .int .i64 x.f1, .int .i64 x.f2, .int .i64 x.f3] 48)).drewN nq = wx at *
      obtain ⟨hG, hQ⟩ := id hTx
      have hGc0 : (wx).cell? ⟨w.heap.size, 0, none⟩ = some (.int .i64 C) := Base.blk_cell hG 0
      have hGz0 : (wx).frozen? ⟨w.heap.size, 0, none⟩ = false := Base.blk_frozen hG 0
      have hGc1 : (wx).cell? ⟨w.heap.size, 1, none⟩ = some (.int .i64 D) := Base.blk_cell hG 1
      have hGz1 : (wx).frozen? ⟨w.heap.size, 1, none⟩ = false := Base.blk_frozen hG 1
      have hGc2 : (wx).cell? ⟨w.heap.size, 2, none⟩ = some (.int .i64 B) := Base.blk_cell hG 2
      have hGz2 : (wx).frozen? ⟨w.heap.size, 2, none⟩ = false := Base.blk_frozen hG 2
      have hGc3 : (wx).cell? ⟨w.heap.size, 3, none⟩ = some (.int .i64 P) := Base.blk_cell hG 3
      have hGz3 : (wx).frozen? ⟨w.heap.size, 3, none⟩ = false := Base.blk_frozen hG 3
      have hQc0 : (wx).cell? ⟨w.heap.size + 1, 0, none⟩ = some (.int .i64 p0) := Base.blk_cell hQ 0
      have hQz0 : (wx).frozen? ⟨w.heap.size + 1, 0, none⟩ = false := Base.blk_frozen hQ 0
      have hQc1 : (wx).cell? ⟨w.heap.size + 1, 1, none⟩ = some (.int .i64 p1) := Base.blk_cell hQ 1
      have hQz1 : (wx).frozen? ⟨w.heap.size + 1, 1, none⟩ = false := Base.blk_frozen hQ 1
      have hQc2 : (wx).cell? ⟨w.heap.size + 1, 2, none⟩ = some (.int .i64 p2) := Base.blk_cell hQ 2
      have hQz2 : (wx).frozen? ⟨w.heap.size + 1, 2, none⟩ = false := Base.blk_frozen hQ 2
      have hQc3 : (wx).cell? ⟨w.heap.size + 1, 3, none⟩ = some (.int .i64 p3) := Base.blk_cell hQ 3
      have hQz3 : (wx).frozen? ⟨w.heap.size + 1, 3, none⟩ = false := Base.blk_frozen hQ 3
      obtain ⟨m, f, hJ, hmf⟩ : ∃ m f, geom_Join.f (0 + 1) C D B P p0 p1 p2 p3 = some (m, f) ∧ Hid (((inB C D B ⟨p0, p1, p2, p3⟩ ∧ 0 ≤ p3 ∧ p3 < P) → m = idx C D P p2 p1 p0 p3 ∧ f = 0) ∧ (¬ (inB C D B ⟨p0, p1, p2, p3⟩ ∧ 0 ≤ p3 ∧ p3 < P) → m = 0 ∧ f = 5)) := by
        by_cases hin2 : inB C D B ⟨p0, p1, p2, p3⟩ ∧ 0 ≤ p3 ∧ p3 < P
        · exact ⟨_, _, join_in hV 0 ⟨p0, p1, p2, p3⟩ hin2.1 hin2.2, fun _ => ⟨rfl, rfl⟩, fun h => absurd hin2 h⟩
        · exact ⟨_, _, join_out hV 0 ⟨p0, p1, p2, p3⟩ hin2, fun h => absurd h hin2, fun _ => ⟨rfl, rfl⟩⟩
      try (go_wp2_with fail)
      refine (geom_Join.calls _ C D B P p0 p1 p2 p3 _ _ _ hJ).mono ?_
      clear hJ
      rintro e w6 ⟨rfl, hb6⟩
      have hT6 := hTx.below hb6
      have hU6 := hUx.below_step hb6
      have hA6 := hAx.upd ((Upd.refl Nil _).below_step hb6)
      clear hb6 hTx hUx hAx hGc0 hGc1 hGc2 hGc3 hGz0 hGz1 hGz2 hGz3 hQc0 hQc1 hQc2 hQc3 hQz0 hQz1 hQz2 hQz3 hG hQ
      go_wp2_with fail
      go_loopw [62] (fun i wr => ∃ k : Nat, k ≤ L.length ∧ i = .int .i64 k ∧ Two wr w.heap.size C D B P p0 p1 p2 p3 ∧ Upd Nil w wr ∧ Arg wr (some ⟨ab, off, none⟩) 4 s48Cells L ∧ Hid (∀ j (hj : j < L.length), j < k → L[j] ≠ ⟨p0, p1, p2, p3⟩)) (fun i _ => L.length - (intOf i).toNat)
      case atStart => exact ⟨0, Nat.zero_le _, rfl, hT6, hU6, hA6, fun j _ hj => absurd hj (by omega)⟩
      case round =>
        clear hT6 hU6 hA6
        obtain ⟨k, hk, rfl, hTk, hUk, hAk, hno⟩ := hrel
        by_cases hlt : k < L.length
        · obtain ⟨ab2, off2, hab2, hab, hcell⟩ := id (hAk.resolve_left (fun e => by rw [e] at hlt; simp at hlt))
          injection hab2 with hab2
          injection hab2 with hx1 hx2 _
          subst hx1 hx2
          have e0 := hcell k hlt 0 (by omega)
          have e1 := hcell k hlt 1 (by omega)
          have e2 := hcell k hlt 2 (by omega)
          have e3 := hcell k hlt 3 (by omega)
          simp only [s48Cells, List.getElem?_cons_zero, List.getElem?_cons_succ, Nat.add_zero] at e0 e1 e2 e3
          clear hcell
          obtain ⟨hG, hQ⟩ := id hTk
          have hGc0 : (wr).cell? ⟨w.heap.size, 0, none⟩ = some (.int .i64 C) := Base.blk_cell hG 0
          have hGz0 : (wr).frozen? ⟨w.heap.size, 0, none⟩ = false := Base.blk_frozen hG 0
          have hGc1 : (wr).cell? ⟨w.heap.size, 1, none⟩ = some (.int .i64 D) := Base.blk_cell hG 1
          have hGz1 : (wr).frozen? ⟨w.heap.size, 1, none⟩ = false := Base.blk_frozen hG 1
          have hGc2 : (wr).cell? ⟨w.heap.size, 2, none⟩ = some (.int .i64 B) := Base.blk_cell hG 2
          have hGz2 : (wr).frozen? ⟨w.heap.size, 2, none⟩ = false := Base.blk_frozen hG 2
          have hGc3 : (wr).cell? ⟨w.heap.size, 3, none⟩ = some (.int .i64 P) := Base.blk_cell hG 3
          have hGz3 : (wr).frozen? ⟨w.heap.size, 3, none⟩ = false := Base.blk_frozen hG 3
          have hQc0 : (wr).cell? ⟨w.heap.size + 1, 0, none⟩ = some (.int .i64 p0) := Base.blk_cell hQ 0
          have hQz0 : (wr).frozen? ⟨w.heap.size + 1, 0, none⟩ = false := Base.blk_frozen hQ 0
          have hQc1 : (wr).cell? ⟨w.heap.size + 1, 1, none⟩ = some (.int .i64 p1) := Base.blk_cell hQ 1
          have hQz1 : (wr).frozen? ⟨w.heap.size + 1, 1, none⟩ = false := Base.blk_frozen hQ 1
          have hQc2 : (wr).cell? ⟨w.heap.size + 1, 2, none⟩ = some (.int .i64 p2) := Base.blk_cell hQ 2
          have hQz2 : (wr).frozen? ⟨w.heap.size + 1, 2, none⟩ = false := Base.blk_frozen hQ 2
          have hQc3 : (wr).cell? ⟨w.heap.size + 1, 3, none⟩ = some (.int .i64 p3) := Base.blk_cell hQ 3
          have hQz3 : (wr).frozen? ⟨w.heap.size + 1, 3, none⟩ = false := Base.blk_frozen hQ 3
          have hy : Hid (L[k] = plc C D P k) := hget k hlt
          have hys : ∀ y : S48, L[k] = y → Hid (L[k] = y) := fun y h => h
          by_cases hX : L[k] = ⟨p0, p1, p2, p3⟩
          · have hXX := Lib.hid hX
            rw [hX] at e0 e1 e2 e3
            clear hX
            have hin3 : Hid ((inB C D B ⟨p0, p1, p2, p3⟩ ∧ 0 ≤ p3 ∧ p3 < P) ∧ idx C D P p2 p1 p0 p3 = k ∧ (p2 * D + p1) * C + p0 = (k : Int) / P) := found hV (by omega) (by omega) (hy.out.symm.trans hXX.out)
            obtain ⟨hm1, hf1⟩ := hmf.out.1 hin3.out.1
            rw [hin3.out.2.1] at hm1
            subst hm1 hf1
            have hB := block_in hV 0 ⟨p0, p1, p2, p3⟩ hin3.out.1.1
            simp only at hB
            rw [hin3.out.2.2] at hB
            have hTz := hTk.alloc (.cells #[.int .i64 p0, .int .i64 p1, .int .i64 p2, .int .i64 p3] 48)
            have hUz := hUk.alloc (.cells #[.int .i64 p0, .int .i64 p1, .int .i64 p2, .int .i64 p3] 48)
            obtain ⟨hG3, hQ3⟩ := id hTz
            have hG3c0 : (wr.alloc (.cells #[.int .i64 p0, .int .i64 p1, .int .i64 p2, .int .i64 p3] 48)).cell? ⟨w.heap.size, 0, none⟩ = some (.int .i64 C) := Base.blk_cell hG3 0
            have hG3z0 : (wr.alloc (.cells #[.int .i64 p0, .int .i64 p1, .int .i64 p2, .int .i64 p3] 48)).frozen? ⟨w.heap.size, 0, none⟩ = false := Base.blk_frozen hG3 0
            have hG3c1 : (wr.alloc (.cells #[.int .i64 p0, .int .i64 p1, .int .i64 p2, .int .i64 p3] 48)).cell? ⟨w.heap.size, 1, none⟩ = some (.int .i64 D) := Base.blk_cell hG3 1
            have hG3z1 : (wr.alloc (.cells #[.int .i64 p0, .int .i64 p1, .int .i64 p2, .int .i64 p3] 48)).frozen? ⟨w.heap.size, 1, none⟩ = false := Base.blk_frozen hG3 1
            have hG3c2 : (wr.alloc (.cells #[.int .i64 p0, .int .i64 p1, .int .i64 p2, .int .i64 p3] 48)).cell? ⟨w.heap.size, 2, none⟩ = some (.int .i64 B) := Base.blk_cell hG3 2
            have hG3z2 : (wr.alloc (.cells #[.int .i64 p0, .int .i64 p1, .int .i64 p2, .int .i64 p3] 48)).frozen? ⟨w.heap.size, 2, none⟩ = false := Base.blk_frozen hG3 2
            have hG3c3 : (wr.alloc (.cells #[.int .i64 p0, .int .i64 p1, .int .i64 p2, .int .i64 p3] 48)).cell? ⟨w.heap.size, 3, none⟩ = some (.int .i64 P) := Base.blk_cell hG3 3
            have hG3z3 : (wr.alloc (.cells #[.int .i64 p0, .int .i64 p1, .int .i64 p2, .int .i64 p3] 48)).frozen? ⟨w.heap.size, 3, none⟩ = false := Base.blk_frozen hG3 3
            have hQ3c0 : (wr.alloc (.cells #[.int .i64 p0, .int .i64 p1, .int .i64 p2, .int .i64 p3] 48)).cell? ⟨w.heap.size + 1, 0, none⟩ = some (.int .i64 p0) := Base.blk_cell hQ3 0
            have hQ3z0 : (wr.alloc (.cells #[.int .i64 p0, .int .i64 p1, .int .i64 p2, .int .i64 p3] 48)).frozen? ⟨w.heap.size + 1, 0, none⟩ = false := Base.blk_frozen hQ3 0
            have hQ3c1 : (wr.alloc (.cells #[.int .i64 p0, .int .i64 p1, .int .i64 p2, .int .i64 p3] 48)).cell? ⟨w.heap.size + 1, 1, none⟩ = some (.int .i64 p1) := Base.blk_cell hQ3 1
            have hQ3z1 : (wr.alloc (.cells #[.int .i64 p0, .int .i64 p1, .int .i64 p2, .int .i64 p3] 48)).frozen? ⟨w.heap.size + 1, 1, none⟩ = false := Base.blk_frozen hQ3 1
            have hQ3c2 : (wr.alloc (.cells #[.int .i64 p0, .int .i64 p1, .int .i64 p2, .int .i64 p3] 48)).cell? ⟨w.heap.size + 1, 2, none⟩ = some (.int .i64 p2) := Base.blk_cell hQ3 2
            have hQ3z2 : (wr.alloc (.cells #[.int .i64 p0, .int .i64 p1, .int .i64 p2, .int .i64 p3] 48)).frozen? ⟨w.heap.size + 1, 2, none⟩ = false := Base.blk_frozen hQ3 2
            have hQ3c3 : (wr.alloc (.cells #[.int .i64 p0, .int .i64 p1, .int .i64 p2, .int .i64 p3] 48)).cell? ⟨w.heap.size + 1, 3, none⟩ = some (.int .i64 p3) := Base.blk_cell hQ3 3
            have hQ3z3 : (wr.alloc (.cells #[.int .i64 p0, .int .i64 p1, .int .i64 p2, .int .i64 p3] 48)).frozen? ⟨w.heap.size + 1, 3, none⟩ = false := Base.blk_frozen hQ3 3
            clear hmf hno hget hy hys hTk hUk hAk hG hQ hin3 hXX
            go_wp2_with fail
            refine (geom_Block.calls _ C D B P p0 p1 p2 p3 _ _ _ hB).mono ?_
            rintro e w7 ⟨rfl, hb7⟩
            have hT7 := hTz.below hb7
            have hU7 := hUz.below_step hb7
            clear hG3c0 hG3c1 hG3c2 hG3c3 hG3z0 hG3z1 hG3z2 hG3z3 hQ3c0 hQ3c1 hQ3c2 hQ3c3 hQ3z0 hQ3z1 hQ3z2 hQ3z3 hG3 hQ3
            obtain ⟨hG3, hQ3⟩ := id hT7
            have hG3c0 : (w7).cell? ⟨w.heap.size, 0, none⟩ = some (.int .i64 C) := Base.blk_cell hG3 0
            have hG3z0 : (w7).frozen? ⟨w.heap.size, 0, none⟩ = false := Base.blk_frozen hG3 0
            have hG3c1 : (w7).cell? ⟨w.heap.size, 1, none⟩ = some (.int .i64 D) := Base.blk_cell hG3 1
            have hG3z1 : (w7).frozen? ⟨w.heap.size, 1, none⟩ = false := Base.blk_frozen hG3 1
            have hG3c2 : (w7).cell? ⟨w.heap.size, 2, none⟩ = some (.int .i64 B) := Base.blk_cell hG3 2
            have hG3z2 : (w7).frozen? ⟨w.heap.size, 2, none⟩ = false := Base.blk_frozen hG3 2
            have hG3c3 : (w7).cell? ⟨w.heap.size, 3, none⟩ = some (.int .i64 P) := Base.blk_cell hG3 3
            have hG3z3 : (w7).frozen? ⟨w.heap.size, 3, none⟩ = false := Base.blk_frozen hG3 3
            clear hb7 hB hTz hUz hT7
            have hP0 : ¬ P = 0 := by have := hV.p; omega
            have hkp : ((k : Int) / P == wrap64 ((k : Int) / P)) = true := by
              have hq0 : 0 ≤ (k : Int) / P := Int.ediv_nonneg (by omega) (by have := hV.p; omega)
              have hq1 : (k : Int) / P ≤ k := Int.ediv_le_self _ (by omega)
              rw [GeomP.wrap_small (by omega) (by omega)]; simp
            go_wp2_with fail
            go_ret
            exact ⟨rfl, hU7⟩
          · have hX' := Lib.hid hX
            clear hX
            generalize hyy : L[k] = y at e0 e1 e2 e3 hX'
            have hyy' := Lib.hid hyy
            clear hyy
            have hTz := hTk.alloc (.cells #[.int .i64 y.f0, .int .i64 y.f1, .int .i64 y.f2, .int .i64 y.f3] 48)
            obtain ⟨hG3, hQ3⟩ := id hTz
            have hQ3c0 : (wr.alloc (.cells #[.int .i64 y.f0, .int .i64 y.f1, .int .i64 y.f2, .int .i64 y.f3] 48)).cell? ⟨w.heap.size + 1, 0, none⟩ = some (.int .i64 p0) := Base.blk_cell hQ3 0
            have hQ3z0 : (wr.alloc (.cells #[.int .i64 y.f0, .int .i64 y.f1, .int .i64 y.f2, .int .i64 y.f3] 48)).frozen? ⟨w.heap.size + 1, 0, none⟩ = false := Base.blk_frozen hQ3 0
            have hQ3c1 : (wr.alloc (.cells #[.int .i64 y.f0, .int .i64 y.f1, .int .i64 y.f2, .int .i64 y.f3] 48)).cell? ⟨w.heap.size + 1, 1, none⟩ = some (.int .i64 p1) := Base.blk_cell hQ3 1
            have hQ3z1 : (wr.alloc (.cells #[.int .i64 y.f0, .int .i64 y.f1, .int .i64 y.f2, .int .i64 y.f3] 48)).frozen? ⟨w.heap.size + 1, 1, none⟩ = false := Base.blk_frozen hQ3 1
            have hQ3c2 : (wr.alloc (.cells #[.int .i64 y.f0, .int .i64 y.f1, .int .i64 y.f2, .int .i64 y.f3] 48)).cell? ⟨w.heap.size + 1, 2, none⟩ = some (.int .i64 p2) := Base.blk_cell hQ3 2
            have hQ3z2 : (wr.alloc (.cells #[.int .i64 y.f0, .int .i64 y.f1, .int .i64 y.f2, .int .i64 y.f3] 48)).frozen? ⟨w.heap.size + 1, 2, none⟩ = false := Base.blk_frozen hQ3 2
            have hQ3c3 : (wr.alloc (.cells #[.int .i64 y.f0, .int .i64 y.f1, .int .i64 y.f2, .int .i64 y.f3] 48)).cell? ⟨w.heap.size + 1, 3, none⟩ = some (.int .i64 p3) := Base.blk_cell hQ3 3
            have hQ3z3 : (wr.alloc (.cells #[.int .i64 y.f0, .int .i64 y.f1, .int .i64 y.f2, .int .i64 y.f3] 48)).frozen? ⟨w.heap.size + 1, 3, none⟩ = false := Base.blk_frozen hQ3 3
            have hd : (((p0 == y.f0) = false ∧ (p0 = y.f0) = False)) ∨ (((p0 == y.f0) = true ∧ (p0 = y.f0) = True) ∧ ((p1 == y.f1) = false ∧ (p1 = y.f1) = False)) ∨ (((p0 == y.f0) = true ∧ (p0 = y.f0) = True) ∧ ((p1 == y.f1) = true ∧ (p1 = y.f1) = True) ∧ ((p2 == y.f2) = false ∧ (p2 = y.f2) = False)) ∨
                (((p0 == y.f0) = true ∧ (p0 = y.f0) = True) ∧ ((p1 == y.f1) = true ∧ (p1 = y.f1) = True) ∧ ((p2 == y.f2) = true ∧ (p2 = y.f2) = True) ∧ ((p3 == y.f3) = false ∧ (p3 = y.f3) = False)) := neq_ways hX'.out
            have hno2 : Hid (∀ j (hj : j < L.length), j < k + 1 → L[j] ≠ ⟨p0, p1, p2, p3⟩) := fun j hj hjk => by
              by_cases e : j = k
              · subst e; rw [hyy'.out]; exact hX'.out
              · exact hno.out j hj (by omega)
            have hUz := hUk.alloc (.cells #[.int .i64 y.f0, .int .i64 y.f1, .int .i64 y.f2, .int .i64 y.f3] 48)
            have hAz := hAk.upd ((Upd.refl Nil _).alloc (.cells #[.int .i64 y.f0, .int .i64 y.f1, .int .i64 y.f2, .int .i64 y.f3] 48))
            clear hX' hyy' hno hget hy hys hTk hUk hAk hmf hG hQ hG3 hQ3
            rcases hd with ⟨d1, d2⟩ | ⟨⟨d1, d2⟩, d3, d4⟩ | ⟨⟨d1, d2⟩, ⟨d3, d4⟩, d5, d6⟩ | ⟨⟨d1, d2⟩, ⟨d3, d4⟩, ⟨d5, d6⟩, d7, d8⟩
            all_goals
              go_wp2_with fail
              go_roundw
              case rel => exact ⟨k + 1, by omega, by go_num, hTz, hUz, hAz, hno2⟩
              case measure => simp [intOf]; omega
        · obtain rfl : k = L.length := by omega
          have hnot : ¬ (inB C D B ⟨p0, p1, p2, p3⟩ ∧ 0 ≤ p3 ∧ p3 < P) := fun hc => by
            have hi := idx_bd (B := B) hc.1.2.2 hc.1.2.1 hc.1.1 hc.2
            have hj : (idx C D P p2 p1 p0 p3).toNat < L.length := by simp only at hi; omega
            refine hno.out _ hj hj ?_
            rw [hget]
            have : (((idx C D P p2 p1 p0 p3).toNat : Nat) : Int) = idx C D P p2 p1 p0 p3 := by simp only at hi; omega
            rw [this]
            exact plc_idx hc.1.2.1 hc.1.1 hc.2
          obtain ⟨rfl, rfl⟩ := hmf.out.2 hnot
          clear hmf hno hget hnot
          go_wp2_with fail
          go_ret
          exact ⟨rfl, hUk⟩
    · have hout : n < 0 ∨ tot C D B P ≤ n := by omega
      have hsp := split_out hV 0 n hout
      obtain ⟨hG, hQ⟩ := id hT3
      have hGc0 : (w3).cell? ⟨w.heap.size, 0, none⟩ = some (.int .i64 C) := Base.blk_cell hG 0
      have hGz0 : (w3).frozen? ⟨w.heap.size, 0, none⟩ = false := Base.blk_frozen hG 0
      have hGc1 : (w3).cell? ⟨w.heap.size, 1, none⟩ = some (.int .i64 D) := Base.blk_cell hG 1
      have hGz1 : (w3).frozen? ⟨w.heap.size, 1, none⟩ = false := Base.blk_frozen hG 1
      have hGc2 : (w3).cell? ⟨w.heap.size, 2, none⟩ = some (.int .i64 B) := Base.blk_cell hG 2
      have hGz2 : (w3).frozen? ⟨w.heap.size, 2, none⟩ = false := Base.blk_frozen hG 2
      have hGc3 : (w3).cell? ⟨w.heap.size, 3, none⟩ = some (.int .i64 P) := Base.blk_cell hG 3
      have hGz3 : (w3).frozen? ⟨w.heap.size, 3, none⟩ = false := Base.blk_frozen hG 3
      obtain ⟨ab, off, rfl, _, _⟩ := id (hA.resolve_left (fun e => by rw [e] at hlen; simp at hlen; omega))
      have hnin : (n < 0) = True ∨ ((n < 0) = False ∧ (tot C D B P ≤ n) = True) := by
        by_cases e : n < 0
        · exact .inl (eq_true e)
        · exact .inr ⟨eq_false e, eq_true (by omega)⟩
      rcases hnin with hnb | ⟨hnb, hnc⟩
      all_goals
        go_wp2_with fail
        refine (geom_Split.calls _ C D B P n _ _ _ _ _ _ hsp).mono ?_
        rintro e w4 ⟨rfl, hb4⟩
        have hAx := hA.upd (((Upd.refl Nil w3).below_step hb4).alloc (.cells #[.int .i64 0, .int .i64 0, .int .i64 0, .int .i64 0] 48))
        have hTx := (hT3.below hb4).alloc (.cells #[.int .i64 0, .int .i64 0, .int .i64 0, .int .i64 0] 48)
        have hUx := (hU3.below_step hb4).alloc (.cells #[.int .i64 0, .int .i64 0, .int .i64 0, .int .i64 0] 48)
        have hZ := blk_new w4 (.cells #[.int .i64 0, .int .i64 0, .int .i64 0, .int .i64 0] 48)
        have hZc0 : (w4.alloc (.cells #[.int .i64 0, .int .i64 0, .int .i64 0, .int .i64 0] 48)).cell? ⟨w4.heap.size, 0, none⟩ = some (.int .i64 0) := Base.blk_cell hZ 0
        have hZz0 : (w4.alloc (.cells #[.int .i64 0, .int .i64 0, .int .i64 0, .int .i64 0] 48)).frozen? ⟨w4.heap.size, 0, none⟩ = false := Base.blk_frozen hZ 0
        have hZc1 : (w4.alloc (.cells #[.int .i64 0, .int .i64 0, .int .i64 0, .int .i64 0] 48)).cell? ⟨w4.heap.size, 1, none⟩ = some (.int .i64 0) := Base.blk_cell hZ 1
        have hZz1 : (w4.alloc (.cells #[.int .i64 0, .int .i64 0, .int .i64 0, .int .i64 0] 48)).frozen? ⟨w4.heap.size, 1, none⟩ = false := Base.blk_frozen hZ 1
        have hZc2 : (w4.alloc (.cells #[.int .i64 0, .int .i64 0, .int .i64 0, .int .i64 0] 48)).cell? ⟨w4.heap.size, 2, none⟩ = some (.int .i64 0) := Base.blk_cell hZ 2
        have hZz2 : (w4.alloc (.cells #[.int .i64 0, .int .i64 0, .int .i64 0, .int .i64 0] 48)).frozen? ⟨w4.heap.size, 2, none⟩ = false := Base.blk_frozen hZ 2
        have hZc3 : (w4.alloc (.cells #[.int .i64 0, .int .i64 0, .int .i64 0, .int .i64 0] 48)).cell? ⟨w4.heap.size, 3, none⟩ = some (.int .i64 0) := Base.blk_cell hZ 3
        have hZz3 : (w4.alloc (.cells #[.int .i64 0, .int .i64 0, .int .i64 0, .int .i64 0] 48)).frozen? ⟨w4.heap.size, 3, none⟩ = false := Base.blk_frozen hZ 3
        obtain ⟨hG4, hQ4⟩ := id hTx
        have hG4c0 : (w4.alloc (.cells #[.int .i64 0, .int .i64 0, .int .i64 0, .int .i64 0] 48)).cell? ⟨w.heap.size, 0, none⟩ = some (.int .i64 C) := Base.blk_cell hG4 0
        have hG4z0 : (w4.alloc (.cells #[.int .i64 0, .int .i64 0, .int .i64 0, .int .i64 0] 48)).frozen? ⟨w.heap.size, 0, none⟩ = false := Base.blk_frozen hG4 0
        have hG4c1 : (w4.alloc (.cells #[.int .i64 0, .int .i64 0, .int .i64 0, .int .i64 0] 48)).cell? ⟨w.heap.size, 1, none⟩ = some (.int .i64 D) := Base.blk_cell hG4 1
        have hG4z1 : (w4.alloc (.cells #[.int .i64 0, .int .i64 0, .int .i64 0, .int .i64 0] 48)).frozen? ⟨w.heap.size, 1, none⟩ = false := Base.blk_frozen hG4 1
        have hG4c2 : (w4.alloc (.cells #[.int .i64 0, .int .i64 0, .int .i64 0, .int .i64 0] 48)).cell? ⟨w.heap.size, 2, none⟩ = some (.int .i64 B) := Base.blk_cell hG4 2
        have hG4z2 : (w4.alloc (.cells #[.int .i64 0, .int .i64 0, .int .i64 0, .int .i64 0] 48)).frozen? ⟨w.heap.size, 2, none⟩ = false := Base.blk_frozen hG4 2
        have hG4c3 : (w4.alloc (.cells #[.int .i64 0, .int .i64 0, .int .i64 0, .int .i64 0] 48)).cell? ⟨w.heap.size, 3, none⟩ = some (.int .i64 P) := Base.blk_cell hG4 3
        have hG4z3 : (w4.alloc (.cells #[.int .i64 0, .int .i64 0, .int .i64 0, .int .i64 0] 48)).frozen? ⟨w.heap.size, 3, none⟩ = false := Base.blk_frozen hG4 3
        have hQ4c0 : (w4.alloc (.cells #[.int .i64 0, .int .i64 0, .int .i64 0, .int .i64 0] 48)).cell? ⟨w.heap.size + 1, 0, none⟩ = some (.int .i64 p0) := Base.blk_cell hQ4 0
        have hQ4z0 : (w4.alloc (.cells #[.int .i64 0, .int .i64 0, .int .i64 0, .int .i64 0] 48)).frozen? ⟨w.heap.size + 1, 0, none⟩ = false := Base.blk_frozen hQ4 0
        have hQ4c1 : (w4.alloc (.cells #[.int .i64 0, .int .i64 0, .int .i64 0, .int .i64 0] 48)).cell? ⟨w.heap.size + 1, 1, none⟩ = some (.int .i64 p1) := Base.blk_cell hQ4 1
        have hQ4z1 : (w4.alloc (.cells #[.int .i64 0, .int .i64 0, .int .i64 0, .int .i64 0] 48)).frozen? ⟨w.heap.size + 1, 1, none⟩ = false := Base.blk_frozen hQ4 1
        have hQ4c2 : (w4.alloc (.cells #[.int .i64 0, .int .i64 0, .int .i64 0, .int .i64 0] 48)).cell? ⟨w.heap.size + 1, 2, none⟩ = some (.int .i64 p2) := Base.blk_cell hQ4 2
        have hQ4z2 : (w4.alloc (.cells #[.int .i64 0, .int .i64 0, .int .i64 0, .int .i64 0] 48)).frozen? ⟨w.heap.size + 1, 2, none⟩ = false := Base.blk_frozen hQ4 2
        have hQ4c3 : (w4.alloc (.cells #[.int .i64 0, .int .i64 0, .int .i64 0, .int .i64 0] 48)).cell? ⟨w.heap.size + 1, 3, none⟩ = some (.int .i64 p3) := Base.blk_cell hQ4 3
        have hQ4z3 : (w4.alloc (.cells #[.int .i64 0, .int .i64 0, .int .i64 0, .int .i64 0] 48)).frozen? ⟨w.heap.size + 1, 3, none⟩ = false := Base.blk_frozen hQ4 3
        go_wp2_with fail
        clear hZ hZc0 hZc1 hZc2 hZc3 hZz0 hZz1 hZz2 hZz3 hb4 hsp hA hT3 hU3 hG hQ hGc0 hGc1 hGc2 hGc3 hGz0 hGz1 hGz2 hGz3 hG4c0 hG4c1 hG4c2 hG4c3 hG4z0 hG4z1 hG4z2 hG4z3 hQ4c0 hQ4c1 hQ4c2 hQ4c3 hQ4z0 hQ4z1 hQ4z2 hQ4z3 hG4 hQ4
        generalize w4.alloc (.cells #[.int .i64 0, .int .i64 0, .int .i64 0, .int .i64 0] 48) = wx at *
        obtain ⟨hG, hQ⟩ := id hTx
        have hGc0 : (wx).cell? ⟨w.heap.size, 0, none⟩ = some (.int .i64 C) := Base.blk_cell hG 0
        have hGz0 : (wx).frozen? ⟨w.heap.size, 0, none⟩ = false := Base.blk_frozen hG 0
        have hGc1 : (wx).cell? ⟨w.heap.size, 1, none⟩ = some (.int .i64 D) := Base.blk_cell hG 1
        have hGz1 : (wx).frozen? ⟨w.heap.size, 1, none⟩ = false := Base.blk_frozen hG 1
        have hGc2 : (wx).cell? ⟨w.heap.size, 2, none⟩ = some (.int .i64 B) := Base.blk_cell hG 2
        have hGz2 : (wx).frozen? ⟨w.heap.size, 2, none⟩ = false := Base.blk_frozen hG 2
        have hGc3 : (wx).cell? ⟨w.heap.size, 3, none⟩ = some (.int .i64 P) := Base.blk_cell hG 3
        have hGz3 : (wx).frozen? ⟨w.heap.size, 3, none⟩ = false := Base.blk_frozen hG 3
        have hQc0 : (wx).cell? ⟨w.heap.size + 1, 0, none⟩ = some (.int .i64 p0) := Base.blk_cell hQ 0
        have hQz0 : (wx).frozen? ⟨w.heap.size + 1, 0, none⟩ = false := Base.blk_frozen hQ 0
        have hQc1 : (wx).cell? ⟨w.heap.size + 1, 1, none⟩ = some (.int .i64 p1) := Base.blk_cell hQ 1
        have hQz1 : (wx).frozen? ⟨w.heap.size + 1, 1, none⟩ = false := Base.blk_frozen hQ 1
        have hQc2 : (wx).cell? ⟨w.heap.size + 1, 2, none⟩ = some (.int .i64 p2) := Base.blk_cell hQ 2
        have hQz2 : (wx).frozen? ⟨w.heap.size + 1, 2, none⟩ = false := Base.blk_frozen hQ 2
        have hQc3 : (wx).cell? ⟨w.heap.size + 1, 3, none⟩ = some (.int .i64 p3) := Base.blk_cell hQ 3
        have hQz3 : (wx).frozen? ⟨w.heap.size + 1, 3, none⟩ = false := Base.blk_frozen hQ 3
        obtain ⟨m, f, hJ, hmf⟩ : ∃ m f, geom_Join.f (0 + 1) C D B P p0 p1 p2 p3 = some (m, f) ∧ Hid (((inB C D B ⟨p0, p1, p2, p3⟩ ∧ 0 ≤ p3 ∧ p3 < P) → m = idx C D P p2 p1 p0 p3 ∧ f = 0) ∧ (¬ (inB C D B ⟨p0, p1, p2, p3⟩ ∧ 0 ≤ p3 ∧ p3 < P) → m = 0 ∧ f = 5)) := by
          by_cases hin2 : inB C D B ⟨p0, p1, p2, p3⟩ ∧ 0 ≤ p3 ∧ p3 < P
          · exact ⟨_, _, join_in hV 0 ⟨p0, p1, p2, p3⟩ hin2.1 hin2.2, fun _ => ⟨rfl, rfl⟩, fun h => absurd hin2 h⟩
          · exact ⟨_, _, join_out hV 0 ⟨p0, p1, p2, p3⟩ hin2, fun h => absurd h hin2, fun _ => ⟨rfl, rfl⟩⟩
        try (go_wp2_with fail)
        refine (geom_Join.calls _ C D B P p0 p1 p2 p3 _ _ _ hJ).mono ?_
        clear hJ
        rintro e w6 ⟨rfl, hb6⟩
        have hT6 := hTx.below hb6
        have hU6 := hUx.below_step hb6
        have hA6 := hAx.upd ((Upd.refl Nil _).below_step hb6)
        clear hb6 hTx hUx hAx hGc0 hGc1 hGc2 hGc3 hGz0 hGz1 hGz2 hGz3 hQc0 hQc1 hQc2 hQc3 hQz0 hQz1 hQz2 hQz3 hG hQ
        go_wp2_with fail
        go_loopw [62] (fun i wr => ∃ k : Nat, k ≤ L.length ∧ i = .int .i64 k ∧ Two wr w.heap.size C D B P p0 p1 p2 p3 ∧ Upd Nil w wr ∧ Arg wr (some ⟨ab, off, none⟩) 4 s48Cells L ∧ Hid (∀ j (hj : j < L.length), j < k → L[j] ≠ ⟨p0, p1, p2, p3⟩)) (fun i _ => L.length - (intOf i).toNat)
        case atStart => exact ⟨0, Nat.zero_le _, rfl, hT6, hU6, hA6, fun j _ hj => absurd hj (by omega)⟩
        case round =>
          clear hT6 hU6 hA6
          obtain ⟨k, hk, rfl, hTk, hUk, hAk, hno⟩ := hrel
          by_cases hlt : k < L.length
          · obtain ⟨ab2, off2, hab2, hab, hcell⟩ := id (hAk.resolve_left (fun e => by rw [e] at hlt; simp at hlt))
            injection hab2 with hab2
            injection hab2 with hx1 hx2 _
            subst hx1 hx2
            have e0 := hcell k hlt 0 (by omega)
            have e1 := hcell k hlt 1 (by omega)
            have e2 := hcell k hlt 2 (by omega)
            have e3 := hcell k hlt 3 (by omega)
            simp only [s48Cells, List.getElem?_cons_zero, List.getElem?_cons_succ, Nat.add_zero] at e0 e1 e2 e3
            clear hcell
            obtain ⟨hG, hQ⟩ := id hTk
            have hGc0 : (wr).cell? ⟨w.heap.size, 0, none⟩ = some (.int .i64 C) := Base.blk_cell hG 0
            have hGz0 : (wr).frozen? ⟨w.heap.size, 0, none⟩ = false := Base.blk_frozen hG 0
            have hGc1 : (wr).cell? ⟨w.heap.size, 1, none⟩ = some (.int .i64 D) := Base.blk_cell hG 1
            have hGz1 : (wr).frozen? ⟨w.heap.size, 1, none⟩ = false := Base.blk_frozen hG 1
            have hGc2 : (wr).cell? ⟨w.heap.size, 2, none⟩ = some (.int .i64 B) := Base.blk_cell hG 2
            have hGz2 : (wr).frozen? ⟨w.heap.size, 2, none⟩ = false := Base.blk_frozen hG 2
            have hGc3 : (wr).cell? ⟨w.heap.size, 3, none⟩ = some (.int .i64 P) := Base.blk_cell hG 3
            have hGz3 : (wr).frozen? ⟨w.heap.size, 3, none⟩ = false := Base.blk_frozen hG 3
            have hQc0 : (wr).cell? ⟨w.heap.size + 1, 0, none⟩ = some (.int .i64 p0) := Base.blk_cell hQ 0
            have hQz0 : (wr).frozen? ⟨w.heap.size + 1, 0, none⟩ = false := Base.blk_frozen hQ 0
            have hQc1 : (wr).cell? ⟨w.heap.size + 1, 1, none⟩ = some (.int .i64 p1) := Base.blk_cell hQ 1
            have hQz1 : (wr).frozen? ⟨w.heap.size + 1, 1, none⟩ = false := Base.blk_frozen hQ 1
            have hQc2 : (wr).cell? ⟨w.heap.size + 1, 2, none⟩ = some (.int .i64 p2) := Base.blk_cell hQ 2
            have hQz2 : (wr).frozen? ⟨w.heap.size + 1, 2, none⟩ = false := Base.blk_frozen hQ 2
            have hQc3 : (wr).cell? ⟨w.heap.size + 1, 3, none⟩ = some (.int .i64 p3) := Base.blk_cell hQ 3
            have hQz3 : (wr).frozen? ⟨w.heap.size + 1, 3, none⟩ = false := Base.blk_frozen hQ 3
            have hy : Hid (L[k] = plc C D P k) := hget k hlt
            have hys : ∀ y : S48, L[k] = y → Hid (L[k] = y) := fun y h => h
            by_cases hX : L[k] = ⟨p0, p1, p2, p3⟩
            · have hXX := Lib.hid hX
              rw [hX] at e0 e1 e2 e3
              clear hX
              have hin3 : Hid ((inB C D B ⟨p0, p1, p2, p3⟩ ∧ 0 ≤ p3 ∧ p3 < P) ∧ idx C D P p2 p1 p0 p3 = k ∧ (p2 * D + p1) * C + p0 = (k : Int) / P) := found hV (by omega) (by omega) (hy.out.symm.trans hXX.out)
              obtain ⟨hm1, hf1⟩ := hmf.out.1 hin3.out.1
              rw [hin3.out.2.1] at hm1
              subst hm1 hf1
              have hB := block_in hV 0 ⟨p0, p1, p2, p3⟩ hin3.out.1.1
              simp only at hB
              rw [hin3.out.2.2] at hB
              have hTz := hTk.alloc (.cells #[.int .i64 p0, .int .i64 p1, .int .i64 p2, .int .i64 p3] 48)
              have hUz := hUk.alloc (.cells #[.int .i64 p0, .int .i64 p1, .int .i64 p2, .int .i64 p3] 48)
              obtain ⟨hG3, hQ3⟩ := id hTz
              have hG3c0 : (wr.alloc (.cells #[.int .i64 p0, .int .i64 p1, .int .i64 p2, .int .i64 p3] 48)).cell? ⟨w.heap.size, 0, none⟩ = some (.int .i64 C) := Base.blk_cell hG3 0
              have hG3z0 : (wr.alloc (.cells #[.int .i64 p0, .int .i64 p1, .int .i64 p2, .int .i64 p3] 48)).frozen? ⟨w.heap.size, 0, none⟩ = false := Base.blk_frozen hG3 0
              have hG3c1 : (wr.alloc (.cells #[.int .i64 p0, .int .i64 p1, .int .i64 p2, .int .i64 p3] 48)).cell? ⟨w.heap.size, 1, none⟩ = some (.int .i64 D) := Base.blk_cell hG3 1
              have hG3z1 : (wr.alloc (.cells #[.int .i64 p0, .int .i64 p1, .int .i64 p2, .int .i64 p3] 48)).frozen? ⟨w.heap.size, 1, none⟩ = false := Base.blk_frozen hG3 1
              have hG3c2 : (wr.alloc (.cells #[.int .i64 p0, .int .i64 p1, .int .i64 p2, .int .i64 p3] 48)).cell? ⟨w.heap.size, 2, none⟩ = some (.int .i64 B) := Base.blk_cell hG3 2
              have hG3z2 : (wr.alloc (.cells #[.int .i64 p0, .int .i64 p1, .int .i64 p2, .int .i64 p3] 48)).frozen? ⟨w.heap.size, 2, none⟩ = false := Base.blk_frozen hG3 2
              have hG3c3 : (wr.alloc (.cells #[.int .i64 p0, .int .i64 p1, .int .i64 p2, .int .i64 p3] 48)).cell? ⟨w.heap.size, 3, none⟩ = some (.int .i64 P) := Base.blk_cell hG3 3
              have hG3z3 : (wr.alloc (.cells #[.int .i64 p0, .int .i64 p1, .int .i64 p2, .int .i64 p3] 48)).frozen? ⟨w.heap.size, 3, none⟩ = false := Base.blk_frozen hG3 3
              have hQ3c0 : (wr.alloc (.cells #[.int .i64 p0, .int .i64 p1, .int .i64 p2, .int .i64 p3] 48)).cell? ⟨w.heap.size + 1, 0, none⟩ = some (.int .i64 p0) := Base.blk_cell hQ3 0
              have hQ3z0 : (wr.alloc (.cells #[.int .i64 p0, .int .i64 p1, .int .i64 p2, .int .i64 p3] 48)).frozen? ⟨w.heap.size + 1, 0, none⟩ = false := Base.blk_frozen hQ3 0
              have hQ3c1 : (wr.alloc (.cells #[.int .i64 p0, .int .i64 p1, .int .i64 p2, .int .i64 p3] 48)).cell? ⟨w.heap.size + 1, 1, none⟩ = some (.int .i64 p1) := Base.blk_cell hQ3 1
              have hQ3z1 : (wr.alloc (.cells #[.int .i64 p0, .int .i64 p1, .int .i64 p2, .int .i64 p3] 48)).frozen? ⟨w.heap.size + 1, 1, none⟩ = false := Base.blk_frozen hQ3 1
              have hQ3c2 : (wr.alloc (.cells #[.int .i64 p0, .int .i64 p1, .int .i64 p2, .int .i64 p3] 48)).cell? ⟨w.heap.size + 1, 2, none⟩ = some (.int .i64 p2) := Base.blk_cell hQ3 2
              have hQ3z2 : (wr.alloc (.cells #[.int .i64 p0, .int .i64 p1, .int .i64 p2, .int .i64 p3] 48)).frozen? ⟨w.heap.size + 1, 2, none⟩ = false := Base.blk_frozen hQ3 2
              have hQ3c3 : (wr.alloc (.cells #[.int .i64 p0, .int .i64 p1, .int .i64 p2, .int .i64 p3] 48)).cell? ⟨w.heap.size + 1, 3, none⟩ = some (.int .i64 p3) := Base.blk_cell hQ3 3
              have hQ3z3 : (wr.alloc (.cells #[.int .i64 p0, .int .i64 p1, .int .i64 p2, .int .i64 p3] 48)).frozen? ⟨w.heap.size + 1, 3, none⟩ = false := Base.blk_frozen hQ3 3
              clear hmf hno hget hy hys hTk hUk hAk hG hQ hin3 hXX
              go_wp2_with fail
              refine (geom_Block.calls _ C D B P p0 p1 p2 p3 _ _ _ hB).mono ?_
              rintro e w7 ⟨rfl, hb7⟩
              have hT7 := hTz.below hb7
              have hU7 := hUz.below_step hb7
              clear hG3c0 hG3c1 hG3c2 hG3c3 hG3z0 hG3z1 hG3z2 hG3z3 hQ3c0 hQ3c1 hQ3c2 hQ3c3 hQ3z0 hQ3z1 hQ3z2 hQ3z3 hG3 hQ3
              obtain ⟨hG3, hQ3⟩ := id hT7
              have hG3c0 : (w7).cell? ⟨w.heap.size, 0, none⟩ = some (.int .i64 C) := Base.blk_cell hG3 0
              have hG3z0 : (w7).frozen? ⟨w.heap.size, 0, none⟩ = false := Base.blk_frozen hG3 0
              have hG3c1 : (w7).cell? ⟨w.heap.size, 1, none⟩ = some (.int .i64 D) := Base.blk_cell hG3 1
              have hG3z1 : (w7).frozen? ⟨w.heap.size, 1, none⟩ = false := Base.blk_frozen hG3 1
              have hG3c2 : (w7).cell? ⟨w.heap.size, 2, none⟩ = some (.int .i64 B) := Base.blk_cell hG3 2
              have hG3z2 : (w7).frozen? ⟨w.heap.size, 2, none⟩ = false := Base.blk_frozen hG3 2
              have hG3c3 : (w7).cell? ⟨w.heap.size, 3, none⟩ = some (.int .i64 P) := Base.blk_cell hG3 3
              have hG3z3 : (w7).frozen? ⟨w.heap.size, 3, none⟩ = false := Base.blk_frozen hG3 3
              clear hb7 hB hTz hUz hT7
              have hP0 : ¬ P = 0 := by have := hV.p; omega
              have hkp : ((k : Int) / P == wrap64 ((k : Int) / P)) = true := by
                have hq0 : 0 ≤ (k : Int) / P := Int.ediv_nonneg (by omega) (by have := hV.p; omega)
                have hq1 : (k : Int) / P ≤ k := Int.ediv_le_self _ (by omega)
                rw [GeomP.wrap_small (by omega) (by omega)]; simp
              go_wp2_with fail
              go_ret
              exact ⟨rfl, hU7⟩
            · have hX' := Lib.hid hX
              clear hX
              generalize hyy : L[k] = y at e0 e1 e2 e3 hX'
              have hyy' := Lib.hid hyy
              clear hyy
              have hTz := hTk.alloc (.cells #[.int .i64 y.f0, .int .i64 y.f1, .int .i64 y.f2, .int .i64 y.f3] 48)
              obtain ⟨hG3, hQ3⟩ := id hTz
              have hQ3c0 : (wr.alloc (.cells #[.int .i64 y.f0, .int .i64 y.f1, .int .i64 y.f2, .int .i64 y.f3] 48)).cell? ⟨w.heap.size + 1, 0, none⟩ = some (.int .i64 p0) := Base.blk_cell hQ3 0
              have hQ3z0 : (wr.alloc (.cells #[.int .i64 y.f0, .int .i64 y.f1, .int .i64 y.f2, .int .i64 y.f3] 48)).frozen? ⟨w.heap.size + 1, 0, none⟩ = false := Base.blk_frozen hQ3 0
              have hQ3c1 : (wr.alloc (.cells #[.int .i64 y.f0, .int .i64 y.f1, .int .i64 y.f2, .int .i64 y.f3] 48)).cell? ⟨w.heap.size + 1, 1, none⟩ = some (.int .i64 p1) := Base.blk_cell hQ3 1
              have hQ3z1 : (wr.alloc (.cells #[.int .i64 y.f0, .int .i64 y.f1, .int .i64 y.f2, .int .i64 y.f3] 48)).frozen? ⟨w.heap.size + 1, 1, none⟩ = false := Base.blk_frozen hQ3 1
              have hQ3c2 : (wr.alloc (.cells #[.int .i64 y.f0, .int .i64 y.f1, .int .i64 y.f2, .int .i64 y.f3] 48)).cell? ⟨w.heap.size + 1, 2, none⟩ = some (.int .i64 p2) := Base.blk_cell hQ3 2
              have hQ3z2 : (wr.alloc (.cells #[.int .i64 y.f0, .int .i64 y.f1, .int .i64 y.f2, .int .i64 y.f3] 48)).frozen? ⟨w.heap.size + 1, 2, none⟩ = false := Base.blk_frozen hQ3 2
              have hQ3c3 : (wr.alloc (.cells #[.int .i64 y.f0, .int .i64 y.f1, .int .i64 y.f2, .int .i64 y.f3] 48)).cell? ⟨w.heap.size + 1, 3, none⟩ = some (.int .i64 p3) := Base.blk_cell hQ3 3
              have hQ3z3 : (wr.alloc (.cells #[.int .i64 y.f0, .int .i64 y.f1, .int .i64 y.f2, .int .i64 y.f3] 48)).frozen? ⟨w.heap.size + 1, 3, none⟩ = false := Base.blk_frozen hQ3 3
              have hd : (((p0 == y.f0) = false ∧ (p0 = y.f0) = False)) ∨ (((p0 == y.f0) = true ∧ (p0 = y.f0) = True) ∧ ((p1 == y.f1) = false ∧ (p1 = y.f1) = False)) ∨ (((p0 == y.f0) = true ∧ (p0 = y.f0) = True) ∧ ((p1 == y.f1) = true ∧ (p1 = y.f1) = True) ∧ ((p2 == y.f2) = false ∧ (p2 = y.f2) = False)) ∨
                  (((p0 == y.f0) = true ∧ (p0 = y.f0) = True) ∧ ((p1 == y.f1) = true ∧ (p1 = y.f1) = True) ∧ ((p2 == y.f2) = true ∧ (p2 = y.f2) = True) ∧ ((p3 == y.f3) = false ∧ (p3 = y.f3) = False)) := neq_ways hX'.out
              have hno2 : Hid (∀ j (hj : j < L.length), j < k + 1 → L[j] ≠ ⟨p0, p1, p2, p3⟩) := fun j hj hjk => by
                by_cases e : j = k
                · subst e; rw [hyy'.out]; exact hX'.out
                · exact hno.out j hj (by omega)
              have hUz := hUk.alloc (.cells #[.int .i64 y.f0, .int .i64 y.f1, .int .i64 y.f2, .int .i64 y.f3] 48)
              have hAz := hAk.upd ((Upd.refl Nil _).alloc (.cells #[.int .i64 y.f0, .int .i64 y.f1, .int .i64 y.f2, .int .i64 y.f3] 48))
              clear hX' hyy' hno hget hy hys hTk hUk hAk hmf hG hQ hG3 hQ3
              rcases hd with ⟨d1, d2⟩ | ⟨⟨d1, d2⟩, d3, d4⟩ | ⟨⟨d1, d2⟩, ⟨d3, d4⟩, d5, d6⟩ | ⟨⟨d1, d2⟩, ⟨d3, d4⟩, ⟨d5, d6⟩, d7, d8⟩
              all_goals
                go_wp2_with fail
                go_roundw
                case rel => exact ⟨k + 1, by omega, by go_num, hTz, hUz, hAz, hno2⟩
                case measure => simp [intOf]; omega
          · obtain rfl : k = L.length := by omega
            have hnot : ¬ (inB C D B ⟨p0, p1, p2, p3⟩ ∧ 0 ≤ p3 ∧ p3 < P) := fun hc => by
              have hi := idx_bd (B := B) hc.1.2.2 hc.1.2.1 hc.1.1 hc.2
              have hj : (idx C D P p2 p1 p0 p3).toNat < L.length := by simp only at hi; omega
              refine hno.out _ hj hj ?_
              rw [hget]
              have : (((idx C D P p2 p1 p0 p3).toNat : Nat) : Int) = idx C D P p2 p1 p0 p3 := by simp only at hi; omega
              rw [this]
              exact plc_idx hc.1.2.1 hc.1.1 hc.2
            obtain ⟨rfl, rfl⟩ := hmf.out.2 hnot
            clear hmf hno hget hnot
            go_wp2_with fail
            go_ret
            exact ⟨rfl, hUk⟩
  · have h0b : (rc != 0) = true := by simp [h0]
    go_wp2_with fail
    go_ret
    exact ⟨rfl, hU⟩
end Go.Proofs.Ytobhpfbldmobfaa.GeomL
