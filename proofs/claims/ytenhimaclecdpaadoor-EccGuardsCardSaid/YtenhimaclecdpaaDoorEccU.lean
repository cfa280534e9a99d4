/-
  The reference's Mend. Conditions: none.
-/
import Derived.Test.YtenhimaclecdpaaDoorEccT
namespace Go.Proofs.YtenhimaclecdpaaDoor.Ecc
open Go.RowKit Go.Proofs.YtenhimaclecdpaaDoor.Base Go.Proofs.YtenhimaclecdpaaDoor.Ints
set_option linter.unusedVariables false
set_option linter.unusedSimpArgs false
set_option maxRecDepth 100000
theorem xor_eq {a b : Nat} : a = b ↔ a ^^^ b = 0 := by
  constructor
  · rintro rfl; exact Nat.xor_self a
  · intro h
    have : (a ^^^ b) ^^^ b = 0 ^^^ b := by rw [h]
    rwa [Nat.xor_assoc, Nat.xor_self, Nat.xor_zero, Nat.zero_xor] at this
theorem mendV_zero {G : List Nat} {c : Nat} (h : chk (wdN G) = c) : mendV G c = (G, 0, true) := by
  unfold mendV way
  rw [xor_eq.1 h]
  rfl
theorem mendV_at {G : List UInt8} (hG : G.length = 8) {c : UInt8} (h0 : chk (wdN (G.map UInt8.toNat)) ≠ c.toNat) {i : Nat} (hi : i < 72) (hn : ∀ j, j < i → chk (wdN ((turnG G c j).map UInt8.toNat)) ≠ (turnC G c j).toNat) (h : chk (wdN ((turnG G c i).map UInt8.toNat)) = (turnC G c i).toNat) :
    mendV (G.map UInt8.toNat) c.toNat = ((turnG G c i).map UInt8.toNat, 1, true) := by
  have ho : chk (wdN (G.map UInt8.toNat)) ^^^ c.toNat ≠ 0 := fun e => h0 (xor_eq.2 e)
  have key : ∀ j, j < 72 → ((chk (wdN ((turnG G c j).map UInt8.toNat)) = (turnC G c j).toNat) ↔ tn j = chk (wdN (G.map UInt8.toNat)) ^^^ c.toNat) := fun j hj => by
    rw [xor_eq, turn_odd hG c hj, ← xor_eq]
    exact ⟨fun h => h.symm, fun h => h.symm⟩
  have hf : (List.range 72).find? (fun i => tn i == chk (wdN (G.map UInt8.toNat)) ^^^ c.toNat) = some i :=
    find_at hi (by simpa using (key i hi).1 h) (fun j hj => by
      have := fun e => hn j hj ((key j (by omega)).2 e)
      simpa using this)
  unfold mendV way
  rw [if_neg ho, hf]
  simp only [Option.map_some]
  rcases Nat.lt_or_ge i 64 with h64 | h64
  · rw [if_pos h64, (turn_low hG c h64).1]
  · rw [if_neg (by omega), (turn_high hG c h64 hi).1]
theorem mendV_no {G : List UInt8} (hG : G.length = 8) {c : UInt8} (h0 : chk (wdN (G.map UInt8.toNat)) ≠ c.toNat) (hn : ∀ j, j < 72 → chk (wdN ((turnG G c j).map UInt8.toNat)) ≠ (turnC G c j).toNat) :
    mendV (G.map UInt8.toNat) c.toNat = (z8, 0, false) := by
  have ho : chk (wdN (G.map UInt8.toNat)) ^^^ c.toNat ≠ 0 := fun e => h0 (xor_eq.2 e)
  have hf : (List.range 72).find? (fun i => tn i == chk (wdN (G.map UInt8.toNat)) ^^^ c.toNat) = none :=
    find_no (fun j hj => by
      have := hn j hj
      rw [ne_eq, xor_eq, turn_odd hG c hj, ← xor_eq] at this
      simpa using fun e => this e.symm)
  unfold mendV way
  rw [if_neg ho, hf]
  rfl
set_option maxHeartbeats 8000000 in
theorem rmendC (G : List UInt8) (hG : G.length = 8) (c : UInt8) (w : World) : Calls Tryd.prog 9 #[.agg (gC (G.map UInt8.toNat)), .int .u8 (c.toNat : Nat)] w (MendR (mendV (G.map UInt8.toNat) c.toNat) w) := by
  have hb0 : ((w.alloc (.cells (gC (G.map UInt8.toNat)) 22)).alloc (.cells (gC z8) 22)).heap[w.heap.size]? = some (.cells (gC (G.map UInt8.toNat)) 22 (0, 0)) := heap_alloc2_old w _ _
  have hr0 : ((w.alloc (.cells (gC (G.map UInt8.toNat)) 22)).alloc (.cells (gC z8) 22)).heap[w.heap.size + 1]? = some (.cells (gC z8) 22 (0, 0)) := heap_alloc2_new w _ _
  have hU0 := ((Upd.refl Nil w).alloc (.cells (gC (G.map UInt8.toNat)) 22)).alloc (.cells (gC z8) 22)
  have hml : (G.map UInt8.toNat).length = 8 := by rw [List.length_map, hG]
  have hsG : (gC (G.map UInt8.toNat)).size = 8 := by rw [gC_size, hml]
  have hiG : (Tryd.prog.info? 22).map (·.size) = some (gC (G.map UInt8.toNat)).size := by rw [hsG]; kernel_rfl
  have hszG : (gC z8).size = (gC (G.map UInt8.toNat)).size := by rw [hsG]; rfl
  have hiZ : (Tryd.prog.info? 22).map (·.size) = some (gC z8).size := by rw [show (gC z8).size = 8 from rfl]; kernel_rfl
  have honeG := gC_one (G.map UInt8.toNat)
  have honeZ := gC_one z8
  have k1 := fun w => rcheckC G hG w
  obtain ⟨r, hr⟩ : ∃ r, r = mendV (G.map UInt8.toNat) c.toNat := ⟨_, rfl⟩
  rw [← hr]
  have hrH := Lib.hid hr
  clear hr hml hsG
  by_cases h0 : chk (wdN (G.map UInt8.toNat)) = c.toNat
  · have hz := Lib.hid (show r = (G.map UInt8.toNat, 0, true) by rw [hrH.out, mendV_zero h0])
    have hzM : MendR (G.map UInt8.toNat, 0, true) w = MendR r w := by rw [hz.out]
    rw [← hzM]
    clear hzM hz hrH
    rw [h0] at k1
    clear h0
    unfold MendR
    simp only
    generalize gC (G.map UInt8.toNat) = cG at *
    generalize c.toNat = cn at *
    go_enter Tryd.func9, Tryd.ntmps9
    go_wp2_with (refine wpList_load_row rfl 22 (.tmp 2) rfl w.heap.size rfl 22 cG (0, 0) _ hb0 Tryd.underlying22 rfl hiG ?_)
    refine (k1 _).mono ?_
    rintro e w1 ⟨rfl, hU1⟩
    have hV1 := hU0.tr hU1
    have hb1 := hU1.blk hb0 (fun h => h)
    have hr1 := hU1.blk hr0 (fun h => h)
    clear hU0 hb0 hr0 hU1
    go_wp2_with (first
      | (refine wpList_load_row rfl 22 (.tmp 2) rfl w.heap.size rfl 22 cG (0, 0) _ hb1 Tryd.underlying22 rfl hiG ?_)
      | (refine wpList_store_row rfl 22 (.tmp 4) (.tmp 14) rfl (w.heap.size + 1) cG rfl rfl 22 (gC z8) hr1 hiG hszG honeG ?_))
    have hbz := setRow_heap w1 (w.heap.size + 1) _ cG _ _ hr1
    have hUz := updRow hV1 (.inr (Nat.le_succ w.heap.size)) cG
    exact bodyPost_ret (v := .tuple #[.agg cG, .int .i64 0, .bool true]) (by simp [results, Tryd.results9, asAddr, run_loadVar_row _ _ 22 22 _ (0, 0) _ hbz Tryd.underlying22 rfl hiG]) rfl ⟨rfl, hUz⟩
  · have h0I : ¬ ((chk (wdN (G.map UInt8.toNat)) : Nat) : Int) = (c.toNat : Int) := fun e => h0 (by omega)
    have kT := fun i (hi : i < 72) w => turnedC G hG c i hi w
    unfold TurnR at kT
    have kT' : ∀ (i : Nat), i < 72 → ∀ w, Calls Tryd.prog 12 #[.agg (gC (G.map UInt8.toNat)), .int .u8 (c.toNat : Nat), .int .i64 i] w (fun e w' => e = .returned (.tuple #[.agg (gC ((turnG G c i).map UInt8.toNat)), .int .u8 ((turnC G c i).toNat : Nat)]) ∧ Upd Nil w w') := kT
    have kC := fun i w => rcheckC (turnG G c i) (turnG_len hG c i) w
    have hat : Hid (∀ i, i < 72 → (∀ j, j < i → chk (wdN ((turnG G c j).map UInt8.toNat)) ≠ (turnC G c j).toNat) → chk (wdN ((turnG G c i).map UInt8.toNat)) = (turnC G c i).toNat → r = ((turnG G c i).map UInt8.toNat, 1, true)) := Lib.hid (fun i hi hn h => by rw [hrH.out, mendV_at hG h0 hi hn h])
    have hno : Hid ((∀ j, j < 72 → chk (wdN ((turnG G c j).map UInt8.toNat)) ≠ (turnC G c j).toNat) → r = (z8, 0, false)) := Lib.hid (fun hn => by rw [hrH.out, mendV_no hG h0 hn])
    have hsX : Hid (∀ i, (gC ((turnG G c i).map UInt8.toNat)).size = 8) := Lib.hid (fun i => by rw [gC_size, List.length_map, turnG_len hG])
    clear hrH h0 kT
    have hckb : (((chk (wdN (G.map UInt8.toNat)) : Nat) : Int) == (c.toNat : Int)) = false := by simpa using h0I
    generalize chk (wdN (G.map UInt8.toNat)) = ck at *
    generalize hcG : gC (G.map UInt8.toNat) = cG at *
    clear hcG
    go_enter Tryd.func9, Tryd.ntmps9
    go_wp2_with (refine wpList_load_row rfl 22 (.tmp 2) rfl w.heap.size rfl 22 cG (0, 0) _ hb0 Tryd.underlying22 rfl hiG ?_)
    refine (k1 _).mono ?_
    rintro e w1 ⟨rfl, hU1⟩
    have hV1 := hU0.tr hU1
    have hb1 := hU1.blk hb0 (fun h => h)
    have hr1 := hU1.blk hr0 (fun h => h)
    clear hU0 hb0 hr0 hU1 k1
    go_upto_region 4 with fail
    try rw [hckb]
    clear hckb h0I
    go_loopw [7] (fun s7 wr => ∃ (i : Nat), i ≤ 72 ∧ s7 = .int .i64 (i : Int) ∧ Hid (∀ j, j < i → chk (wdN ((turnG G c j).map UInt8.toNat)) ≠ (turnC G c j).toNat) ∧ wr.heap[w.heap.size]? = some (.cells cG 22 (0, 0)) ∧ wr.heap[w.heap.size + 1]? = some (.cells (gC z8) 22 (0, 0)) ∧ Upd Nil w wr) (fun s7 _ => 72 - (intOf s7).toNat)
    case atStart => exact ⟨0, by omega, rfl, Lib.hid (fun j h => absurd h (by omega)), hb1, hr1, hV1⟩
    case round =>
      clear hb1 hr1 hV1
      obtain ⟨i, hi, rfl, hnone, hb1, hr1, hV1⟩ := hrel
      by_cases hlt : i < 72
      · have hI : (i : Int) < 72 := by omega
        have kt := kT' i hlt wr
        have kc := kC i
        have hati := Lib.hid (hat.out i hlt hnone.out)
        have hstep : Hid (chk (wdN ((turnG G c i).map UInt8.toNat)) ≠ (turnC G c i).toNat → ∀ j, j < i + 1 → chk (wdN ((turnG G c j).map UInt8.toNat)) ≠ (turnC G c j).toNat) := Lib.hid (fun h j hj => by
          rcases Nat.lt_or_ge j i with h3 | h3
          · exact hnone.out j h3
          · obtain rfl : j = i := by omega
            exact h)
        have hsX8 := hsX.out i
        have honeX := gC_one ((turnG G c i).map UInt8.toNat)
        have hiX : (Tryd.prog.info? 22).map (·.size) = some (gC ((turnG G c i).map UInt8.toNat)).size := by rw [hsX8]; kernel_rfl
        have hszX : (gC z8).size = (gC ((turnG G c i).map UInt8.toNat)).size := by rw [hsX8]; rfl
        clear hnone hsX8
        generalize hX : (turnG G c i).map UInt8.toNat = X at *
        clear hX
        generalize hxk : chk (wdN X) = xk at *
        generalize hxc : (turnC G c i).toNat = xc at *
        clear hxk hxc
        go_wp2_with (refine wpList_load_row rfl 22 (.tmp 2) rfl w.heap.size rfl 22 cG (0, 0) _ hb1 Tryd.underlying22 rfl hiG ?_)
        refine kt.mono ?_
        rintro e w2 ⟨rfl, hU2⟩
        have hV2 := hV1.tr hU2
        have hb2 := hU2.blk hb1 (fun h => h)
        have hr2 := hU2.blk hr1 (fun h => h)
        have hV3 := hV2.alloc (.cells (gC z8) 22)
        have hb3 := blk_alloc hb2 (.cells (gC z8) 22)
        have hr3 := blk_alloc hr2 (.cells (gC z8) 22)
        have hz3 := blk_new w2 (.cells (gC z8) 22)
        have hn3 : ¬ w.heap.size = w2.heap.size := fun e => by have := blk_lt hb2; omega
        have hm3 : ¬ w.heap.size + 1 = w2.heap.size := fun e => by have := blk_lt hr2; omega
        have hx4 := setRow_heap _ w2.heap.size _ (gC X) _ _ hz3
        have hb4 := (setRow_other _ w2.heap.size w.heap.size (gC X) hn3).trans hb3
        have hr4 := (setRow_other _ w2.heap.size (w.heap.size + 1) (gC X) hm3).trans hr3
        have hV4 := updRow hV3 (.inr hV2.size) (gC X)
        clear hb2 hr2 hb3 hr3 hU2 kt hb1 hr1 hV1
        go_upto_region 7 with (refine wpList_store_row rfl 22 (.tmp 8) (.tmp 24) rfl w2.heap.size (gC X) rfl rfl 22 (gC z8) hz3 hiX hszX honeX ?_)
        obtain ⟨w4, hw4⟩ : ∃ W, W = (w2.alloc (.cells (gC z8) 22)).setRow w2.heap.size (gC X) := ⟨_, rfl⟩
        rw [← hw4] at hx4 hb4 hr4 hV4
        rw [show (w2.alloc (.cells #[.int .u8 0, .int .u8 0, .int .u8 0, .int .u8 0, .int .u8 0, .int .u8 0, .int .u8 0, .int .u8 0] 22)).setRow w2.heap.size (gC X) = w4 by rw [hw4]; rfl]
        clear hw4 hz3 hV3 hn3 hm3 hV2
        generalize w2.heap.size = b2 at *
        have kcs := kc w4
        by_cases hq : xk = xc
        · have hqI : (xk : Int) = (xc : Int) := by rw [hq]
          have hz := hati.out hq
          have hzM : MendR (X, 1, true) w = MendR r w := by rw [hz]
          have hzH := Lib.hid hzM
          clear hz hzM hq hati hstep hat hno
          go_wp2_with (refine wpList_load_row rfl 22 (.tmp 8) rfl b2 rfl 22 (gC X) (0, 0) _ hx4 Tryd.underlying22 rfl hiX ?_)
          refine kcs.mono ?_
          rintro e w5 ⟨rfl, hU5⟩
          have hV5 := hV4.tr hU5
          have hx5 := hU5.blk hx4 (fun h => h)
          have hr5 := hU5.blk hr4 (fun h => h)
          clear hx4 hr4 hb4 hU5 hV4
          go_wp2_with (first
            | (refine wpList_load_row rfl 22 (.tmp 8) rfl b2 rfl 22 (gC X) (0, 0) _ hx5 Tryd.underlying22 rfl hiX ?_)
            | (refine wpList_store_row rfl 22 (.tmp 4) (.tmp 30) rfl (w.heap.size + 1) (gC X) rfl rfl 22 (gC z8) hr5 hiX hszX honeX ?_))
          have hbz := setRow_heap w5 (w.heap.size + 1) _ (gC X) _ _ hr5
          have hUz := updRow hV5 (.inr (Nat.le_succ w.heap.size)) (gC X)
          exact bodyPost_ret (v := .tuple #[.agg (gC X), .int .i64 1, .bool true]) (by simp [results, Tryd.results9, asAddr, run_loadVar_row _ _ 22 22 _ (0, 0) _ hbz Tryd.underlying22 rfl hiX]) rfl (by rw [← hzH.out]; exact ⟨rfl, hUz⟩)
        · have hqI : ¬ (xk : Int) = (xc : Int) := by omega
          have hnx := Lib.hid (hstep.out hq)
          clear hq hati hstep hat hno
          go_wp2_with (refine wpList_load_row rfl 22 (.tmp 8) rfl b2 rfl 22 (gC X) (0, 0) _ hx4 Tryd.underlying22 rfl hiX ?_)
          refine kcs.mono ?_
          rintro e w5 ⟨rfl, hU5⟩
          have hV5 := hV4.tr hU5
          have hb5 := hU5.blk hb4 (fun h => h)
          have hr5 := hU5.blk hr4 (fun h => h)
          clear hx4 hr4 hb4 hU5 hV4
          go_wp2_with fail
          go_roundw
          case measure => simp [intOf]; omega
          case rel => exact ⟨i + 1, by omega, by go_num, Lib.hid hnx.out, hb5, hr5, hV5⟩
      · obtain rfl : i = 72 := by omega
        have hz := hno.out hnone.out
        have hzM : MendR (z8, 0, false) w = MendR r w := by rw [hz]
        have hzH := Lib.hid hzM
        clear hz hzM hat hno hnone
        go_wp2_with (refine wpList_store_row rfl 22 (.tmp 4) (.tmp 31) rfl (w.heap.size + 1) (gC z8) rfl rfl 22 (gC z8) hr1 hiZ rfl honeZ ?_)
        have hbz := setRow_heap wr (w.heap.size + 1) _ (gC z8) _ _ hr1
        have hUz := updRow hV1 (.inr (Nat.le_succ w.heap.size)) (gC z8)
        exact bodyPost_ret (v := .tuple #[.agg (gC z8), .int .i64 0, .bool false]) (by simp [results, Tryd.results9, asAddr, run_loadVar_row _ _ 22 22 _ (0, 0) _ hbz Tryd.underlying22 rfl hiZ]) rfl (by rw [← hzH.out]; exact ⟨rfl, hUz⟩)
end Go.Proofs.YtenhimaclecdpaaDoor.Ecc
