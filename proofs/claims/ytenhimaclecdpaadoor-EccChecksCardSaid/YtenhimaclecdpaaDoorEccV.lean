/-
  Any group's check and mending: the walk. Conditions: the table of Go's library is as it was laid.
-/
import Derived.Test.YtenhimaclecdpaaDoorEccU
namespace Go.Proofs.YtenhimaclecdpaaDoor.Ecc
open Go.RowKit Go.Proofs.YtenhimaclecdpaaDoor.Base
set_option linter.unusedVariables false
set_option linter.unusedSimpArgs false
set_option maxRecDepth 100000
set_option maxHeartbeats 8000000 in
theorem checksC (G : List UInt8) (hG : G.length = 8) (c : UInt8) (w : World) (hT : Tab w) : Calls Tryd.prog 3 #[.agg (gC (G.map UInt8.toNat)), .int .u8 (c.toNat : Nat)] w (RetB true w) := by
  have hml : (G.map UInt8.toNat).length = 8 := by rw [List.length_map, hG]
  have kC := fun w h => checkC (G.map UInt8.toNat) hml (map_lt G) w h
  have kR := fun w => rcheckC G hG w
  have kM := fun w h => mendC (G.map UInt8.toNat) hml (map_lt G) c.toNat c.toNat_lt w h
  have kS := fun w => rmendC G hG c w
  have hok := mend_ok hml (map_lt G) c.toNat
  have hq := eq8 _ hok.1
  unfold MendR at kM kS
  have hsG : (gC (G.map UInt8.toNat)).size = 8 := by rw [gC_size, hml]
  have hsX : (gC (mendV (G.map UInt8.toNat) c.toNat).1).size = 8 := by rw [gC_size, hok.1]
  have honeX := gC_one (mendV (G.map UInt8.toNat) c.toNat).1
  have hF := fun w hT => fixedC w hT
  generalize (mendV (G.map UInt8.toNat) c.toNat).2.1 = nn at *
  generalize (mendV (G.map UInt8.toNat) c.toNat).2.2 = ok at *
  generalize gC (mendV (G.map UInt8.toNat) c.toNat).1 = cX at *
  generalize gC (G.map UInt8.toNat) = cG at *
  generalize chk (wdN (G.map UInt8.toNat)) = ck at *
  generalize c.toNat = cn at *
  have hiG : (Tryd.prog.info? 22).map (·.size) = some cG.size := by rw [hsG]; kernel_rfl
  have hiX : (Tryd.prog.info? 22).map (·.size) = some cX.size := by rw [hsX]; kernel_rfl
  have hszX : (gC z8).size = cX.size := by rw [hsX]; rfl
  have heg : Tryd.prog.eqGuardType Tryd.prog.depth 22 = false := by kernel_rfl
  clear hsG hsX hok hml hG
  have hU0 := (Upd.refl Nil w).alloc (.cells cG 22)
  have hb0 := blk_new w (.cells cG 22)
  have hF0 := hF _ (hT.upd hU0)
  clear hF
  go_enter Tryd.func3, Tryd.ntmps3
  go_upto_region 1 with fail
  generalize w.alloc (.cells cG 22) = w0 at *
  go_wp2_with fail
  refine hF0.mono ?_
  rintro e w1 ⟨rfl, hU1⟩
  have hV1 := hU0.tr hU1
  have hb1 := hU1.blk hb0 (fun h => h)
  clear hF0 hU0 hU1 hb0
  have kM1 := kM w1 (hT.upd hV1)
  clear kM
  go_wp2_with (refine wpList_load_row rfl 22 (.tmp 2) rfl w.heap.size rfl 22 cG (0, 0) _ hb1 Tryd.underlying22 rfl hiG ?_)
  refine kM1.mono ?_
  rintro e w2 ⟨rfl, hU2⟩
  have hV2 := hV1.tr hU2
  have hb2 := hU2.blk hb1 (fun h => h)
  have hV3 := hV2.alloc (.cells (gC z8) 22)
  have hb3 := blk_alloc hb2 (.cells (gC z8) 22)
  have hz3 := blk_new w2 (.cells (gC z8) 22)
  have hn3 : ¬ w.heap.size = w2.heap.size := fun e => by have := blk_lt hb2; omega
  have hx4 := setRow_heap _ w2.heap.size _ cX _ _ hz3
  have hb4 := (setRow_other _ w2.heap.size w.heap.size cX hn3).trans hb3
  have hV4 := updRow hV3 (.inr hV2.size) cX
  clear hb1 hb2 hb3 hU2 kM1 hV1
  go_upto_region 4 with (refine wpList_store_row rfl 22 (.tmp 5) (.tmp 17) rfl w2.heap.size cX rfl rfl 22 (gC z8) hz3 hiX hszX honeX ?_)
  obtain ⟨w4, hw4⟩ : ∃ W, W = (w2.alloc (.cells (gC z8) 22)).setRow w2.heap.size cX := ⟨_, rfl⟩
  rw [← hw4] at hx4 hb4 hV4
  rw [show (w2.alloc (.cells #[.int .u8 0, .int .u8 0, .int .u8 0, .int .u8 0, .int .u8 0, .int .u8 0, .int .u8 0, .int .u8 0] 22)).setRow w2.heap.size cX = w4 by rw [hw4]; rfl]
  clear hw4 hz3 hV3 hn3 hV2
  generalize w2.heap.size = b2 at *
  go_wp2_with (refine wpList_load_row rfl 22 (.tmp 2) rfl w.heap.size rfl 22 cG (0, 0) _ hb4 Tryd.underlying22 rfl hiG ?_)
  refine (kS w4).mono ?_
  rintro e w5 ⟨rfl, hU5⟩
  have hV5 := hV4.tr hU5
  have hb5 := hU5.blk hb4 (fun h => h)
  have hx5 := hU5.blk hx4 (fun h => h)
  have hV6 := hV5.alloc (.cells (gC z8) 22)
  have hb6 := blk_alloc hb5 (.cells (gC z8) 22)
  have hx6 := blk_alloc hx5 (.cells (gC z8) 22)
  have hz6 := blk_new w5 (.cells (gC z8) 22)
  have hn6 : ¬ w.heap.size = w5.heap.size := fun e => by have := blk_lt hb5; omega
  have hm6 : ¬ b2 = w5.heap.size := fun e => by have := blk_lt hx5; omega
  have hy7 := setRow_heap _ w5.heap.size _ cX _ _ hz6
  have hb7 := (setRow_other _ w5.heap.size w.heap.size cX hn6).trans hb6
  have hx7 := (setRow_other _ w5.heap.size b2 cX hm6).trans hx6
  have hV7 := updRow hV6 (.inr hV5.size) cX
  clear hb4 hx4 hV4 hU5 hb5 hx5 hb6 hx6 kS
  go_upto_region 5 with (refine wpList_store_row rfl 22 (.tmp 8) (.tmp 24) rfl w5.heap.size cX rfl rfl 22 (gC z8) hz6 hiX hszX honeX ?_)
  obtain ⟨w7, hw7⟩ : ∃ W, W = (w5.alloc (.cells (gC z8) 22)).setRow w5.heap.size cX := ⟨_, rfl⟩
  rw [← hw7] at hy7 hb7 hx7 hV7
  rw [show (w5.alloc (.cells #[.int .u8 0, .int .u8 0, .int .u8 0, .int .u8 0, .int .u8 0, .int .u8 0, .int .u8 0, .int .u8 0] 22)).setRow w5.heap.size cX = w7 by rw [hw7]; rfl]
  clear hw7 hz6 hV6 hn6 hm6 hV5
  generalize w5.heap.size = b5 at *
  have hld : ∀ w', Upd Nil w7.drew w' → (loadVar 22 ⟨w.heap.size, 0, none⟩).run Tryd.prog w' = .ok (.agg cG) w' := fun w' u => run_loadVar_row w' w.heap.size 22 22 cG (0, 0) _ (u.blk (blk_drew hb7) (fun h => h)) Tryd.underlying22 rfl hiG
  have hlx : ∀ w', Upd Nil w7.drew w' → (loadVar 22 ⟨b2, 0, none⟩).run Tryd.prog w' = .ok (.agg cX) w' := fun w' u => run_loadVar_row w' b2 22 22 cX (0, 0) _ (u.blk (blk_drew hx7) (fun h => h)) Tryd.underlying22 rfl hiX
  have hly : ∀ w', Upd Nil w7.drew w' → (loadVar 22 ⟨b5, 0, none⟩).run Tryd.prog w' = .ok (.agg cX) w' := fun w' u => run_loadVar_row w' b5 22 22 cX (0, 0) _ (u.blk (blk_drew hy7) (fun h => h)) Tryd.underlying22 rfl hiX
  clear hb7 hx7 hy7
  refine wp_region_lexF Nil ((.step 0 (.step 2 (.step 1 (.step 3 (.step 4 (.step 5 (.step 6 (.step 7 (.step 8 (.step 9 (.step 10 (.step 11 (.step 12 (.step 13 (.step 14 (.step 15 (.step 16 (.step 17 (.step 18 (.step 19 (.step 20 .done)))))))))))))))))))))) (by kernel_rfl) (by kernel_rfl) rfl (by kernel_rfl) ?_
  simp only [toO, List.getElem?_cons_zero, List.getElem?_cons_succ]
  try simp only [Act.put, List.setIfInBounds_toArray, List.set_cons_zero, List.set_cons_succ]
  repeat
    first
    | (refine lexF_pure (v := ?_) rfl rfl ?_ ?_
       rotate_left
       · intro w' hU'
         go_simp
         try with_reducible rfl
       try simp only [Act.put, List.setIfInBounds_toArray, List.set_cons_zero, List.set_cons_succ])
    | (refine lexF_skip rfl ?_
       try simp only [Act.put, List.setIfInBounds_toArray, List.set_cons_zero, List.set_cons_succ])
  refine lexF_pure (v := .agg cG) rfl rfl (fun w' u => by simp [execOp, Act.eval, Instr.loadAt, Instr.sureAddr, hld w' u]) ?_
  try simp only [Act.put, List.setIfInBounds_toArray, List.set_cons_zero, List.set_cons_succ]
  refine lexF_pure (v := .agg cG) rfl rfl (fun w' u => by simp [execOp, Act.eval, Instr.loadAt, Instr.sureAddr, hld w' u]) ?_
  try simp only [Act.put, List.setIfInBounds_toArray, List.set_cons_zero, List.set_cons_succ]
  repeat
    first
    | (refine lexF_pure (v := ?_) rfl rfl ?_ ?_
       rotate_left
       · intro w' hU'
         go_simp
         try with_reducible rfl
       try simp only [Act.put, List.setIfInBounds_toArray, List.set_cons_zero, List.set_cons_succ])
    | (refine lexF_skip rfl ?_
       try simp only [Act.put, List.setIfInBounds_toArray, List.set_cons_zero, List.set_cons_succ])
  have hW7 := (Upd.refl Nil w7).drew
  refine lexF_step ?_
  refine lexF_fn (f := 10) (args := _) rfl rfl (by go_simp) ((kC _ (hT.upd (hV7.tr hW7))).mono ?_)
  rintro e w8 ⟨rfl, hU8⟩
  refine ⟨_, rfl, hU8, ?_⟩
  try simp only [Act.put, List.setIfInBounds_toArray, List.set_cons_zero, List.set_cons_succ]
  repeat
    first
    | (refine lexF_pure (v := ?_) rfl rfl ?_ ?_
       rotate_left
       · intro w' hU'
         go_simp
         try with_reducible rfl
       try simp only [Act.put, List.setIfInBounds_toArray, List.set_cons_zero, List.set_cons_succ])
    | (refine lexF_skip rfl ?_
       try simp only [Act.put, List.setIfInBounds_toArray, List.set_cons_zero, List.set_cons_succ])
  refine lexF_step ?_
  refine lexF_fn (f := 11) (args := _) rfl rfl (by go_simp) ((kR _).mono ?_)
  rintro e w9 ⟨rfl, hU9⟩
  refine ⟨_, rfl, hU9, ?_⟩
  have hU89 := hU8.tr hU9
  have hV9 := (hV7.tr hW7).tr hU89
  have hlx9 := fun w' (u : Upd Nil w9 w') => hlx w' (hU89.tr u)
  have hly9 := fun w' (u : Upd Nil w9 w') => hly w' (hU89.tr u)
  try simp only [Act.put, List.setIfInBounds_toArray, List.set_cons_zero, List.set_cons_succ]
  repeat
    first
    | (refine lexF_pure (v := ?_) rfl rfl ?_ ?_
       rotate_left
       · intro w' hU'
         go_simp
         try with_reducible rfl
       try simp only [Act.put, List.setIfInBounds_toArray, List.set_cons_zero, List.set_cons_succ])
    | (refine lexF_skip rfl ?_
       try simp only [Act.put, List.setIfInBounds_toArray, List.set_cons_zero, List.set_cons_succ])
  refine lexF_pure (v := .agg cX) rfl rfl (fun w' u => by simp [execOp, Act.eval, Instr.loadAt, Instr.sureAddr, hlx9 w' u]) ?_
  try simp only [Act.put, List.setIfInBounds_toArray, List.set_cons_zero, List.set_cons_succ]
  refine lexF_pure (v := .agg cX) rfl rfl (fun w' u => by simp [execOp, Act.eval, Instr.loadAt, Instr.sureAddr, hly9 w' u]) ?_
  try simp only [Act.put, List.setIfInBounds_toArray, List.set_cons_zero, List.set_cons_succ]
  repeat
    first
    | (refine lexF_pure (v := ?_) rfl rfl ?_ ?_
       rotate_left
       · intro w' hU'
         go_simp
         try with_reducible rfl
       try simp only [Act.put, List.setIfInBounds_toArray, List.set_cons_zero, List.set_cons_succ])
    | (refine lexF_skip rfl ?_
       try simp only [Act.put, List.setIfInBounds_toArray, List.set_cons_zero, List.set_cons_succ])
  refine lexF_done ?_
  go_wp2_with fail
  go_ret
  exact ⟨rfl, hV9⟩
end Go.Proofs.YtenhimaclecdpaaDoor.Ecc
