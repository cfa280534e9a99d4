/-
  One bit is turned back, two are told: the walk. Conditions: the table of Go's library is as it was laid.
-/
import Derived.Test.YtenhimaclecdpaaDoorEccQ
namespace Go.Proofs.YtenhimaclecdpaaDoor.Ecc
open Go.RowKit Go.Proofs.YtenhimaclecdpaaDoor.Base
set_option linter.unusedVariables false
set_option linter.unusedSimpArgs false
set_option maxRecDepth 100000
theorem eq8 (L : List Nat) (h : L.length = 8) (w : World) : (Op.equalIn 10000 22 (.agg (gC L)) (.agg (gC L))).run Tryd.prog w = .ok true w := by
  obtain ⟨a0, a1, a2, a3, a4, a5, a6, a7, rfl⟩ := len8 L h
  show (Op.equalIn (9998 + 1 + 1) _ _ _).run Tryd.prog w = _
  rw [Op.equalIn]
  have hk : ∀ (d : Nat) (a : Nat), (Op.equalIn (d + 1) 5 (.int .u8 a) (.int .u8 a)).run Tryd.prog w = .ok true w := fun d a => by
    rw [run_equalIn_int w d 5 .u8 .u8 a a Tryd.underlying5]
    simp
  generalize hd : 9998 + 1 = d
  have hk' : ∀ a : Nat, (Op.equalIn d 5 (.int .u8 a) (.int .u8 a)).run Tryd.prog w = .ok true w := fun a => hd ▸ hk 9998 a
  simp [run_underlying Tryd.underlying22, gC]
  simp [List.range', go_sem, hk']
set_option maxHeartbeats 8000000 in
theorem mendsC (G : List UInt8) (hG : G.length = 8) (i k : Nat) (hi : i < 256) (hk : k < 256) (w : World) (hT : Tab w) : Calls Tryd.prog 4 #[.agg (gC (G.map UInt8.toNat)), .int .u8 i, .int .u8 k] w (RetB true w) := by
  obtain ⟨a, ha⟩ : ∃ a, a = i % 72 := ⟨_, rfl⟩
  obtain ⟨b, hb⟩ : ∃ b, b = k % 72 := ⟨_, rfl⟩
  have ha72 : a < 72 := by omega
  have hb72 : b < 72 := by omega
  have hta : Int.tmod (i : Int) 72 = (a : Int) := by rw [Int.tmod_eq_emod_of_nonneg (by omega)]; omega
  have htb : Int.tmod (k : Int) 72 = (b : Int) := by rw [Int.tmod_eq_emod_of_nonneg (by omega)]; omega
  have hwa : IntKind.u8.wrap (a : Int) = (a : Int) := by simp [IntKind.wrap, IntKind.bits, IntKind.signed]; omega
  have hwb : IntKind.u8.wrap (b : Int) = (b : Int) := by simp [IntKind.wrap, IntKind.bits, IntKind.signed]; omega
  have hwa2 : IntKind.i64.wrap (a : Int) = (a : Int) := by rw [IntKind.wrap_i64]; omega
  have hwb2 : IntKind.i64.wrap (b : Int) = (b : Int) := by rw [IntKind.wrap_i64]; omega
  have hml : (G.map UInt8.toNat).length = 8 := by rw [List.length_map, hG]
  have hG1 := turnG_len hG (ckB G) a
  have hml1 : ((turnG G (ckB G) a).map UInt8.toNat).length = 8 := by rw [List.length_map, hG1]
  have hG2 := turnG_len hG1 (turnC G (ckB G) a) b
  have hml2 : ((turnG (turnG G (ckB G) a) (turnC G (ckB G) a) b).map UInt8.toNat).length = 8 := by rw [List.length_map, hG2]
  have kF := fun w hT => fixedC w hT
  have kC : ∀ w, Tab w → Calls Tryd.prog 10 #[.agg (gC (G.map UInt8.toNat))] w fun e w' => e = .returned (.int .u8 ((ckB G).toNat : Nat)) ∧ Upd Nil w w' := fun w h => by rw [ckB_nat]; exact checkC _ hml (map_lt G) w h
  have kT := fun w => turnedC G hG (ckB G) a ha72 w
  have kM := fun w h => mendC ((turnG G (ckB G) a).map UInt8.toNat) hml1 (map_lt _) (turnC G (ckB G) a).toNat (turnC G (ckB G) a).toNat_lt w h
  rw [mend_one hG ha72] at kM
  have kT2 := fun w => turnedC (turnG G (ckB G) a) hG1 (turnC G (ckB G) a) b hb72 w
  have kM2 : a ≠ b → ∀ w, Tab w → Calls Tryd.prog 8 #[.agg (gC ((turnG (turnG G (ckB G) a) (turnC G (ckB G) a) b).map UInt8.toNat)), .int .u8 (turnC (turnG G (ckB G) a) (turnC G (ckB G) a) b).toNat] w (MendR (z8, 0, false) w) := fun hab w h => by
    rw [← mend_two hG ha72 hb72 hab]
    exact mendC _ hml2 (map_lt _) _ (turnC (turnG G (ckB G) a) (turnC G (ckB G) a) b).toNat_lt w h
  unfold TurnR at kT kT2
  unfold MendR at kM kM2
  change ∀ w, Calls Tryd.prog 12 #[.agg (gC (G.map UInt8.toNat)), .int .u8 ((ckB G).toNat : Nat), .int .i64 a] w (fun e w' => e = .returned (.tuple #[.agg (gC ((turnG G (ckB G) a).map UInt8.toNat)), .int .u8 ((turnC G (ckB G) a).toNat : Nat)]) ∧ Upd Nil w w') at kT
  change ∀ w, Calls Tryd.prog 12 #[.agg (gC ((turnG G (ckB G) a).map UInt8.toNat)), .int .u8 ((turnC G (ckB G) a).toNat : Nat), .int .i64 b] w (fun e w' => e = .returned (.tuple #[.agg (gC ((turnG (turnG G (ckB G) a) (turnC G (ckB G) a) b).map UInt8.toNat)), .int .u8 ((turnC (turnG G (ckB G) a) (turnC G (ckB G) a) b).toNat : Nat)]) ∧ Upd Nil w w') at kT2
  have hqG := eq8 _ hml
  have hqZ : ∀ w, (Op.equalIn 10000 22 (.agg (gC z8)) (.agg #[.int .u8 0, .int .u8 0, .int .u8 0, .int .u8 0, .int .u8 0, .int .u8 0, .int .u8 0, .int .u8 0])).run Tryd.prog w = .ok true w := eq8 z8 rfl
  have hsG : (gC (G.map UInt8.toNat)).size = 8 := by rw [gC_size, hml]
  have hsH : (gC ((turnG G (ckB G) a).map UInt8.toNat)).size = 8 := by rw [gC_size, hml1]
  have hsK : (gC ((turnG (turnG G (ckB G) a) (turnC G (ckB G) a) b).map UInt8.toNat)).size = 8 := by rw [gC_size, hml2]
  have honeG := gC_one (G.map UInt8.toNat)
  have honeH := gC_one ((turnG G (ckB G) a).map UInt8.toNat)
  have honeK := gC_one ((turnG (turnG G (ckB G) a) (turnC G (ckB G) a) b).map UInt8.toNat)
  have honeZ := gC_one z8
  have hsZ : (gC z8).size = 8 := rfl
  clear hG1 hG2 hml hml1 hml2 ha hb hi hk
  generalize gC ((turnG (turnG G (ckB G) a) (turnC G (ckB G) a) b).map UInt8.toNat) = cK at *
  generalize (turnC (turnG G (ckB G) a) (turnC G (ckB G) a) b).toNat = en at *
  generalize gC ((turnG G (ckB G) a).map UInt8.toNat) = cH at *
  generalize (turnC G (ckB G) a).toNat = dn at *
  generalize gC (G.map UInt8.toNat) = cG at *
  generalize (ckB G).toNat = ck at *
  have hiG : (Tryd.prog.info? 22).map (·.size) = some cG.size := by rw [hsG]; kernel_rfl
  have hiH : (Tryd.prog.info? 22).map (·.size) = some cH.size := by rw [hsH]; kernel_rfl
  have hiK : (Tryd.prog.info? 22).map (·.size) = some cK.size := by rw [hsK]; kernel_rfl
  have hiZ : (Tryd.prog.info? 22).map (·.size) = some (gC z8).size := by rw [hsZ]; kernel_rfl
  have hszG : (gC z8).size = cG.size := by rw [hsG, hsZ]
  have hszH : (gC z8).size = cH.size := by rw [hsH, hsZ]
  have hszK : (gC z8).size = cK.size := by rw [hsK, hsZ]
  have heg : Tryd.prog.eqGuardType Tryd.prog.depth 22 = false := by kernel_rfl
  clear hsH hsK hsZ hG
  have hU0 := (Upd.refl Nil w).alloc (.cells cG 22)
  have hb0 := blk_new w (.cells cG 22)
  have hF := kF _ (hT.upd hU0)
  clear kF
  go_enter Tryd.func4, Tryd.ntmps4
  go_upto_region 1 with fail
  generalize w.alloc (.cells cG 22) = w0 at *
  go_wp2_with fail
  refine hF.mono ?_
  rintro e wr ⟨rfl, hU1⟩
  have hU := hU0.tr hU1
  have hgb := hU1.blk hb0 (fun h => h)
  have hTr := hT.upd hU
  have hgr : w.heap.size < wr.heap.size := blk_lt hgb
  clear hF hU0 hU1 hb0
  go_upto_region 4 with fail
  have hld : ∀ w', Upd (From wr.heap.size) wr.drew w' → (loadVar 22 ⟨w.heap.size, 0, none⟩).run Tryd.prog w' = .ok (.agg cG) w' := fun w' u => run_loadVar_row w' w.heap.size 22 22 cG (0, 0) _ (u.blk (blk_drew hgb) (fun h => by have h : wr.heap.size ≤ w.heap.size := h; omega)) Tryd.underlying22 rfl hiG
  refine wp_region_lexF (From wr.heap.size) ((.step 0 (.step 1 (.step 3 (.fork 2 (.fork 4 (.step 5 (.step 6 (.step 7 (.step 8 (.step 9 (.step 10 .done)))))) 8 (.step 4 (.step 5 (.step 6 (.step 7 (.step 9 (.step 10 .done))))))) 8 (.step 2 (.step 4 (.step 5 (.step 6 (.step 7 (.step 9 (.step 10 .done)))))))))))) (by kernel_rfl) (by kernel_rfl) rfl (by kernel_rfl) ?_
  simp only [toO, List.getElem?_cons_zero, List.getElem?_cons_succ]
  try simp only [Act.put, List.setIfInBounds_toArray, List.set_cons_zero, List.set_cons_succ]
  repeat
    first
    | (refine lexF_pure (v := ?_) rfl rfl ?_ ?_
       rotate_left
       · intro w' hU'
         go_simp
         try with_reducible rfl
       try simp only [Act.put, List.setIfInBounds_toArray, List.set_cons_zero, List.set_cons_succ])
    | (refine lexF_skip rfl ?_
       try simp only [Act.put, List.setIfInBounds_toArray, List.set_cons_zero, List.set_cons_succ])
  refine lexF_pure (v := .agg cG) rfl rfl (fun w' u => by simp [execOp, Act.eval, Instr.loadAt, Instr.sureAddr, hld w' u]) ?_
  try simp only [Act.put, List.setIfInBounds_toArray, List.set_cons_zero, List.set_cons_succ]
  refine lexF_pure (v := .agg cG) rfl rfl (fun w' u => by simp [execOp, Act.eval, Instr.loadAt, Instr.sureAddr, hld w' u]) ?_
  try simp only [Act.put, List.setIfInBounds_toArray, List.set_cons_zero, List.set_cons_succ]
  repeat
    first
    | (refine lexF_pure (v := ?_) rfl rfl ?_ ?_
       rotate_left
       · intro w' hU'
         go_simp
         try with_reducible rfl
       try simp only [Act.put, List.setIfInBounds_toArray, List.set_cons_zero, List.set_cons_succ])
    | (refine lexF_skip rfl ?_
       try simp only [Act.put, List.setIfInBounds_toArray, List.set_cons_zero, List.set_cons_succ])
  have hFm : ∀ {a b : World}, Upd Nil a b → Upd (From wr.heap.size) a b := fun u => u.mono (fun _ h => h.elim)
  clear hld
  have hV1 := (Upd.refl Nil wr).drew
  refine lexF_fork ?_ ?_
  · refine lexF_fn (f := 10) (args := _) rfl rfl (by go_simp) ((kC _ (hTr.upd hV1)).mono ?_)
    rintro e w2 ⟨rfl, hU2⟩
    have hV2 := hV1.tr hU2
    refine ⟨_, rfl, hFm hU2, ?_⟩
    try simp only [Act.put, List.setIfInBounds_toArray, List.set_cons_zero, List.set_cons_succ]
    repeat
      first
      | (refine lexF_pure (v := ?_) rfl rfl ?_ ?_
         rotate_left
         · intro w' hU'
           go_simp
           try with_reducible rfl
         try simp only [Act.put, List.setIfInBounds_toArray, List.set_cons_zero, List.set_cons_succ])
      | (refine lexF_skip rfl ?_
         try simp only [Act.put, List.setIfInBounds_toArray, List.set_cons_zero, List.set_cons_succ])
    refine lexF_fork ?_ ?_
    · refine lexF_fn (f := 12) (args := _) rfl rfl (by go_simp) ((kT _).mono ?_)
      rintro e w3 ⟨rfl, hU3⟩
      have hV3 := hV2.tr hU3
      refine ⟨_, rfl, hFm hU3, ?_⟩
      try simp only [Act.put, List.setIfInBounds_toArray, List.set_cons_zero, List.set_cons_succ]
      repeat
        first
        | (refine lexF_pure (v := ?_) rfl rfl ?_ ?_
           rotate_left
           · intro w' hU'
             go_simp
             try with_reducible rfl
           try simp only [Act.put, List.setIfInBounds_toArray, List.set_cons_zero, List.set_cons_succ])
        | (refine lexF_skip rfl ?_
           try simp only [Act.put, List.setIfInBounds_toArray, List.set_cons_zero, List.set_cons_succ])
      refine lexF_step ?_
      refine (lexF_run (v := .pointer (some ⟨w3.heap.size, 0, none⟩)) (w' := w3.alloc (.cells #[.int .u8 0, .int .u8 0, .int .u8 0, .int .u8 0, .int .u8 0, .int .u8 0, .int .u8 0, .int .u8 0] 22)) rfl rfl (by go_simp) ((Upd.refl _ _).alloc _) ?_)
      have hzb : (w3.alloc (.cells #[.int .u8 0, .int .u8 0, .int .u8 0, .int .u8 0, .int .u8 0, .int .u8 0, .int .u8 0, .int .u8 0] 22)).heap[w3.heap.size]? = some (.cells (gC z8) 22 (0, 0)) := blk_new w3 (.cells (gC z8) 22)
      have hVa := hV3.alloc (.cells #[.int .u8 0, .int .u8 0, .int .u8 0, .int .u8 0, .int .u8 0, .int .u8 0, .int .u8 0, .int .u8 0] 22)
      have hge : wr.heap.size ≤ w3.heap.size := hV3.size
      generalize w3.alloc (.cells #[.int .u8 0, .int .u8 0, .int .u8 0, .int .u8 0, .int .u8 0, .int .u8 0, .int .u8 0, .int .u8 0] 22) = wa at *
      generalize w3.heap.size = bk at *
      try simp only [Act.put, List.setIfInBounds_toArray, List.set_cons_zero, List.set_cons_succ]
      repeat
        first
        | (refine lexF_pure (v := ?_) rfl rfl ?_ ?_
           rotate_left
           · intro w' hU'
             go_simp
             try with_reducible rfl
           try simp only [Act.put, List.setIfInBounds_toArray, List.set_cons_zero, List.set_cons_succ])
        | (refine lexF_skip rfl ?_
           try simp only [Act.put, List.setIfInBounds_toArray, List.set_cons_zero, List.set_cons_succ])
      refine lexF_step ?_
      have hst := run_storeVar_row (P := Tryd.prog) wa bk 22 22 (gC z8) cH hzb hiH hszH honeH
      refine (lexF_store (w' := wa.setRow bk cH) rfl rfl (by simp [execOp, Act.eval, Instr.storeAt, Instr.sureAddr, hst]) (updRow (Upd.refl (From wr.heap.size) wa) (.inl hge) cH) ?_)
      have hbk := setRow_heap _ bk _ cH _ _ hzb
      have hVs := updRow hVa (.inr hge) cH
      generalize wa.setRow bk cH = ws at *
      clear hst
      try simp only [Act.put, List.setIfInBounds_toArray, List.set_cons_zero, List.set_cons_succ]
      repeat
        first
        | (refine lexF_pure (v := ?_) rfl rfl ?_ ?_
           rotate_left
           · intro w' hU'
             go_simp
             try with_reducible rfl
           try simp only [Act.put, List.setIfInBounds_toArray, List.set_cons_zero, List.set_cons_succ])
        | (refine lexF_skip rfl ?_
           try simp only [Act.put, List.setIfInBounds_toArray, List.set_cons_zero, List.set_cons_succ])
      refine lexF_done ?_
      have hUs := hU.tr hVs
      have hTs := hT.upd hUs
      have hgs := hVs.blk hgb (fun h => h)
      have kMs := kM ws hTs
      clear hgb hzb
      go_wp2_with (refine wpList_load_row rfl 22 (.tmp 9) rfl bk rfl 22 cH (0, 0) _ hbk Tryd.underlying22 rfl hiH ?_)
      refine kMs.mono ?_
      rintro e w5 ⟨rfl, hU5⟩
      have hV5 := hUs.tr hU5
      have hg5 := hU5.blk hgs (fun h => h)
      have hb5 := hU5.blk hbk (fun h => h)
      have hV6 := hV5.alloc (.cells (gC z8) 22)
      have hg6 := blk_alloc hg5 (.cells (gC z8) 22)
      have hb6 := blk_alloc hb5 (.cells (gC z8) 22)
      have hz6 := blk_new w5 (.cells (gC z8) 22)
      have hn6 : ¬ w.heap.size = w5.heap.size := fun e => by have := blk_lt hg5; omega
      have hm6 : ¬ bk = w5.heap.size := fun e => by have := blk_lt hb5; omega
      have hr7 := setRow_heap _ w5.heap.size _ cG _ _ hz6
      have hg7 := (setRow_other _ w5.heap.size w.heap.size cG hn6).trans hg6
      have hb7 := (setRow_other _ w5.heap.size bk cG hm6).trans hb6
      have hV7 := updRow hV6 (.inr hV5.size) cG
      clear hg5 hb5 hg6 hb6 hgs hbk kMs hU5 hUs hVs
      go_upto_region 6 with (refine wpList_store_row rfl 22 (.tmp 11) (.tmp 39) rfl w5.heap.size cG rfl rfl 22 (gC z8) hz6 hiG hszG honeG ?_)
      obtain ⟨w7, hw7⟩ : ∃ W, W = (w5.alloc (.cells (gC z8) 22)).setRow w5.heap.size cG := ⟨_, rfl⟩
      rw [← hw7] at hr7 hg7 hb7 hV7
      rw [show (w5.alloc (.cells #[.int .u8 0, .int .u8 0, .int .u8 0, .int .u8 0, .int .u8 0, .int .u8 0, .int .u8 0, .int .u8 0] 22)).setRow w5.heap.size cG = w7 by rw [hw7]; rfl]
      clear hw7 hz6 hV6 hn6 hm6 hV5
      generalize w5.heap.size = b5 at *
      by_cases hab : a = b
      · obtain rfl := hab
        go_wp2_with (first
          | (refine wpList_load_row rfl 22 (.tmp 11) rfl b5 rfl 22 cG (0, 0) _ hr7 Tryd.underlying22 rfl hiG ?_)
          | (refine wpList_load_row rfl 22 (.tmp 3) rfl w.heap.size rfl 22 cG (0, 0) _ hg7 Tryd.underlying22 rfl hiG ?_))
        go_ret
        exact ⟨rfl, hV7⟩
      · have habI : ¬ (a : Int) = (b : Int) := by omega
        have kM2s := kM2 hab
        have kT2s := kT2 w7
        go_wp2_with (first
          | (refine wpList_load_row rfl 22 (.tmp 11) rfl b5 rfl 22 cG (0, 0) _ hr7 Tryd.underlying22 rfl hiG ?_)
          | (refine wpList_load_row rfl 22 (.tmp 3) rfl w.heap.size rfl 22 cG (0, 0) _ hg7 Tryd.underlying22 rfl hiG ?_)
          | (refine wpList_load_row rfl 22 (.tmp 9) rfl bk rfl 22 cH (0, 0) _ hb7 Tryd.underlying22 rfl hiH ?_))
        refine kT2s.mono ?_
        rintro e w8 ⟨rfl, hU8⟩
        have hV8 := hV7.tr hU8
        have hV9 := hV8.alloc (.cells (gC z8) 22)
        have hz9 := blk_new w8 (.cells (gC z8) 22)
        have hr9 := setRow_heap _ w8.heap.size _ cK _ _ hz9
        have hV10 := updRow hV9 (.inr hV8.size) cK
        clear hr7 hg7 hb7 kT2s kT2 kM2 hU8 hab
        go_upto_region 11 with (refine wpList_store_row rfl 22 (.tmp 14) (.tmp 61) rfl w8.heap.size cK rfl rfl 22 (gC z8) hz9 hiK hszK honeK ?_)
        obtain ⟨w10, hw10⟩ : ∃ W, W = (w8.alloc (.cells (gC z8) 22)).setRow w8.heap.size cK := ⟨_, rfl⟩
        rw [← hw10] at hr9 hV10
        rw [show (w8.alloc (.cells #[.int .u8 0, .int .u8 0, .int .u8 0, .int .u8 0, .int .u8 0, .int .u8 0, .int .u8 0, .int .u8 0] 22)).setRow w8.heap.size cK = w10 by rw [hw10]; rfl]
        clear hw10 hz9 hV9 hV8
        generalize w8.heap.size = b8 at *
        have kM2t := kM2s w10 (hT.upd hV10)
        clear kM2s
        go_wp2_with (refine wpList_load_row rfl 22 (.tmp 14) rfl b8 rfl 22 cK (0, 0) _ hr9 Tryd.underlying22 rfl hiK ?_)
        refine kM2t.mono ?_
        rintro e w11 ⟨rfl, hU11⟩
        have hV11 := hV10.tr hU11
        have hV12 := hV11.alloc (.cells (gC z8) 22)
        have hz12 := blk_new w11 (.cells (gC z8) 22)
        have hr12 := setRow_heap _ w11.heap.size _ (gC z8) _ _ hz12
        have hV13 := updRow hV12 (.inr hV11.size) (gC z8)
        clear hr9 kM2t hU11
        have hc12 : ∀ j, j < 8 → ((w11.alloc (.cells (gC z8) 22)).setRow w11.heap.size (gC z8)).cell? ⟨w11.heap.size, j, none⟩ = some (.int .u8 0) := fun j hj => by
          rw [blk_cell hr12 j]
          have hj8 : j < z8.length := hj
          rw [gC_get hj8, show z8[j] = 0 from List.getElem_replicate ..]
          rfl
        go_upto_region 12 with (refine wpList_store_row rfl 22 (.tmp 16) (.tmp 67) rfl w11.heap.size (gC z8) rfl rfl 22 (gC z8) hz12 hiZ rfl honeZ ?_)
        obtain ⟨w13, hw13⟩ : ∃ W, W = (w11.alloc (.cells (gC z8) 22)).setRow w11.heap.size (gC z8) := ⟨_, rfl⟩
        rw [← hw13] at hc12 hV13
        rw [show (w11.alloc (.cells #[.int .u8 0, .int .u8 0, .int .u8 0, .int .u8 0, .int .u8 0, .int .u8 0, .int .u8 0, .int .u8 0] 22)).setRow w11.heap.size (gC z8) = w13 by rw [hw13]; rfl]
        clear hw13 hz12 hV12 hV11 hr12
        generalize w11.heap.size = b11 at *
        have d0 := hc12 0 (by decide)
        have d1 := hc12 1 (by decide)
        have d2 := hc12 2 (by decide)
        have d3 := hc12 3 (by decide)
        have d4 := hc12 4 (by decide)
        have d5 := hc12 5 (by decide)
        have d6 := hc12 6 (by decide)
        have d7 := hc12 7 (by decide)
        have hqZ' : ∀ w, (Op.equalIn 10000 22 (.agg #[.int .u8 0, .int .u8 0, .int .u8 0, .int .u8 0, .int .u8 0, .int .u8 0, .int .u8 0, .int .u8 0]) (.agg #[.int .u8 0, .int .u8 0, .int .u8 0, .int .u8 0, .int .u8 0, .int .u8 0, .int .u8 0, .int .u8 0])).run Tryd.prog w = .ok true w := hqZ
        clear hc12 hqZ
        go_wp2_with fail
        go_ret
        exact ⟨rfl, hV13⟩
    · skip
      refine (lexF_run (v := .pointer (some ⟨w2.heap.size, 0, none⟩)) (w' := w2.alloc (.cells #[.int .u8 0, .int .u8 0, .int .u8 0, .int .u8 0, .int .u8 0, .int .u8 0, .int .u8 0, .int .u8 0] 22)) rfl rfl (by go_simp) ((Upd.refl _ _).alloc _) ?_)
      have hzb : (w2.alloc (.cells #[.int .u8 0, .int .u8 0, .int .u8 0, .int .u8 0, .int .u8 0, .int .u8 0, .int .u8 0, .int .u8 0] 22)).heap[w2.heap.size]? = some (.cells (gC z8) 22 (0, 0)) := blk_new w2 (.cells (gC z8) 22)
      have hVa := hV2.alloc (.cells #[.int .u8 0, .int .u8 0, .int .u8 0, .int .u8 0, .int .u8 0, .int .u8 0, .int .u8 0, .int .u8 0] 22)
      have hge : wr.heap.size ≤ w2.heap.size := hV2.size
      generalize w2.alloc (.cells #[.int .u8 0, .int .u8 0, .int .u8 0, .int .u8 0, .int .u8 0, .int .u8 0, .int .u8 0, .int .u8 0] 22) = wa at *
      generalize w2.heap.size = bk at *
      try simp only [Act.put, List.setIfInBounds_toArray, List.set_cons_zero, List.set_cons_succ]
      repeat
        first
        | (refine lexF_pure (v := ?_) rfl rfl ?_ ?_
           rotate_left
           · intro w' hU'
             go_simp
             try with_reducible rfl
           try simp only [Act.put, List.setIfInBounds_toArray, List.set_cons_zero, List.set_cons_succ])
        | (refine lexF_skip rfl ?_
           try simp only [Act.put, List.setIfInBounds_toArray, List.set_cons_zero, List.set_cons_succ])
      refine lexF_step ?_
      refine lexF_fn (f := 12) (args := _) rfl rfl (by go_simp) ((kT _).mono ?_)
      rintro e w3 ⟨rfl, hU3⟩
      have hV3 := hVa.tr hU3
      have hzb3 := hU3.blk hzb (fun h => h)
      refine ⟨_, rfl, hFm hU3, ?_⟩
      try simp only [Act.put, List.setIfInBounds_toArray, List.set_cons_zero, List.set_cons_succ]
      repeat
        first
        | (refine lexF_pure (v := ?_) rfl rfl ?_ ?_
           rotate_left
           · intro w' hU'
             go_simp
             try with_reducible rfl
           try simp only [Act.put, List.setIfInBounds_toArray, List.set_cons_zero, List.set_cons_succ])
        | (refine lexF_skip rfl ?_
           try simp only [Act.put, List.setIfInBounds_toArray, List.set_cons_zero, List.set_cons_succ])
      refine lexF_step ?_
      have hst := run_storeVar_row (P := Tryd.prog) w3 bk 22 22 (gC z8) cH hzb3 hiH hszH honeH
      refine (lexF_store (w' := w3.setRow bk cH) rfl rfl (by simp [execOp, Act.eval, Instr.storeAt, Instr.sureAddr, hst]) (updRow (Upd.refl (From wr.heap.size) w3) (.inl hge) cH) ?_)
      have hbk := setRow_heap _ bk _ cH _ _ hzb3
      have hVs := updRow hV3 (.inr hge) cH
      generalize w3.setRow bk cH = ws at *
      clear hst
      try simp only [Act.put, List.setIfInBounds_toArray, List.set_cons_zero, List.set_cons_succ]
      repeat
        first
        | (refine lexF_pure (v := ?_) rfl rfl ?_ ?_
           rotate_left
           · intro w' hU'
             go_simp
             try with_reducible rfl
           try simp only [Act.put, List.setIfInBounds_toArray, List.set_cons_zero, List.set_cons_succ])
        | (refine lexF_skip rfl ?_
           try simp only [Act.put, List.setIfInBounds_toArray, List.set_cons_zero, List.set_cons_succ])
      refine lexF_done ?_
      have hUs := hU.tr hVs
      have hTs := hT.upd hUs
      have hgs := hVs.blk hgb (fun h => h)
      have kMs := kM ws hTs
      clear hgb hzb
      go_wp2_with (refine wpList_load_row rfl 22 (.tmp 9) rfl bk rfl 22 cH (0, 0) _ hbk Tryd.underlying22 rfl hiH ?_)
      refine kMs.mono ?_
      rintro e w5 ⟨rfl, hU5⟩
      have hV5 := hUs.tr hU5
      have hg5 := hU5.blk hgs (fun h => h)
      have hb5 := hU5.blk hbk (fun h => h)
      have hV6 := hV5.alloc (.cells (gC z8) 22)
      have hg6 := blk_alloc hg5 (.cells (gC z8) 22)
      have hb6 := blk_alloc hb5 (.cells (gC z8) 22)
      have hz6 := blk_new w5 (.cells (gC z8) 22)
      have hn6 : ¬ w.heap.size = w5.heap.size := fun e => by have := blk_lt hg5; omega
      have hm6 : ¬ bk = w5.heap.size := fun e => by have := blk_lt hb5; omega
      have hr7 := setRow_heap _ w5.heap.size _ cG _ _ hz6
      have hg7 := (setRow_other _ w5.heap.size w.heap.size cG hn6).trans hg6
      have hb7 := (setRow_other _ w5.heap.size bk cG hm6).trans hb6
      have hV7 := updRow hV6 (.inr hV5.size) cG
      clear hg5 hb5 hg6 hb6 hgs hbk kMs hU5 hUs hVs
      go_upto_region 6 with (refine wpList_store_row rfl 22 (.tmp 11) (.tmp 39) rfl w5.heap.size cG rfl rfl 22 (gC z8) hz6 hiG hszG honeG ?_)
      obtain ⟨w7, hw7⟩ : ∃ W, W = (w5.alloc (.cells (gC z8) 22)).setRow w5.heap.size cG := ⟨_, rfl⟩
      rw [← hw7] at hr7 hg7 hb7 hV7
      rw [show (w5.alloc (.cells #[.int .u8 0, .int .u8 0, .int .u8 0, .int .u8 0, .int .u8 0, .int .u8 0, .int .u8 0, .int .u8 0] 22)).setRow w5.heap.size cG = w7 by rw [hw7]; rfl]
      clear hw7 hz6 hV6 hn6 hm6 hV5
      generalize w5.heap.size = b5 at *
      by_cases hab : a = b
      · obtain rfl := hab
        go_wp2_with (first
          | (refine wpList_load_row rfl 22 (.tmp 11) rfl b5 rfl 22 cG (0, 0) _ hr7 Tryd.underlying22 rfl hiG ?_)
          | (refine wpList_load_row rfl 22 (.tmp 3) rfl w.heap.size rfl 22 cG (0, 0) _ hg7 Tryd.underlying22 rfl hiG ?_))
        go_ret
        exact ⟨rfl, hV7⟩
      · have habI : ¬ (a : Int) = (b : Int) := by omega
        have kM2s := kM2 hab
        have kT2s := kT2 w7
        go_wp2_with (first
          | (refine wpList_load_row rfl 22 (.tmp 11) rfl b5 rfl 22 cG (0, 0) _ hr7 Tryd.underlying22 rfl hiG ?_)
          | (refine wpList_load_row rfl 22 (.tmp 3) rfl w.heap.size rfl 22 cG (0, 0) _ hg7 Tryd.underlying22 rfl hiG ?_)
          | (refine wpList_load_row rfl 22 (.tmp 9) rfl bk rfl 22 cH (0, 0) _ hb7 Tryd.underlying22 rfl hiH ?_))
        refine kT2s.mono ?_
        rintro e w8 ⟨rfl, hU8⟩
        have hV8 := hV7.tr hU8
        have hV9 := hV8.alloc (.cells (gC z8) 22)
        have hz9 := blk_new w8 (.cells (gC z8) 22)
        have hr9 := setRow_heap _ w8.heap.size _ cK _ _ hz9
        have hV10 := updRow hV9 (.inr hV8.size) cK
        clear hr7 hg7 hb7 kT2s kT2 kM2 hU8 hab
        go_upto_region 11 with (refine wpList_store_row rfl 22 (.tmp 14) (.tmp 61) rfl w8.heap.size cK rfl rfl 22 (gC z8) hz9 hiK hszK honeK ?_)
        obtain ⟨w10, hw10⟩ : ∃ W, W = (w8.alloc (.cells (gC z8) 22)).setRow w8.heap.size cK := ⟨_, rfl⟩
        rw [← hw10] at hr9 hV10
        rw [show (w8.alloc (.cells #[.int .u8 0, .int .u8 0, .int .u8 0, .int .u8 0, .int .u8 0, .int .u8 0, .int .u8 0, .int .u8 0] 22)).setRow w8.heap.size cK = w10 by rw [hw10]; rfl]
        clear hw10 hz9 hV9 hV8
        generalize w8.heap.size = b8 at *
        have kM2t := kM2s w10 (hT.upd hV10)
        clear kM2s
        go_wp2_with (refine wpList_load_row rfl 22 (.tmp 14) rfl b8 rfl 22 cK (0, 0) _ hr9 Tryd.underlying22 rfl hiK ?_)
        refine kM2t.mono ?_
        rintro e w11 ⟨rfl, hU11⟩
        have hV11 := hV10.tr hU11
        have hV12 := hV11.alloc (.cells (gC z8) 22)
        have hz12 := blk_new w11 (.cells (gC z8) 22)
        have hr12 := setRow_heap _ w11.heap.size _ (gC z8) _ _ hz12
        have hV13 := updRow hV12 (.inr hV11.size) (gC z8)
        clear hr9 kM2t hU11
        have hc12 : ∀ j, j < 8 → ((w11.alloc (.cells (gC z8) 22)).setRow w11.heap.size (gC z8)).cell? ⟨w11.heap.size, j, none⟩ = some (.int .u8 0) := fun j hj => by
          rw [blk_cell hr12 j]
          have hj8 : j < z8.length := hj
          rw [gC_get hj8, show z8[j] = 0 from List.getElem_replicate ..]
          rfl
        go_upto_region 12 with (refine wpList_store_row rfl 22 (.tmp 16) (.tmp 67) rfl w11.heap.size (gC z8) rfl rfl 22 (gC z8) hz12 hiZ rfl honeZ ?_)
        obtain ⟨w13, hw13⟩ : ∃ W, W = (w11.alloc (.cells (gC z8) 22)).setRow w11.heap.size (gC z8) := ⟨_, rfl⟩
        rw [← hw13] at hc12 hV13
        rw [show (w11.alloc (.cells #[.int .u8 0, .int .u8 0, .int .u8 0, .int .u8 0, .int .u8 0, .int .u8 0, .int .u8 0, .int .u8 0] 22)).setRow w11.heap.size (gC z8) = w13 by rw [hw13]; rfl]
        clear hw13 hz12 hV12 hV11 hr12
        generalize w11.heap.size = b11 at *
        have d0 := hc12 0 (by decide)
        have d1 := hc12 1 (by decide)
        have d2 := hc12 2 (by decide)
        have d3 := hc12 3 (by decide)
        have d4 := hc12 4 (by decide)
        have d5 := hc12 5 (by decide)
        have d6 := hc12 6 (by decide)
        have d7 := hc12 7 (by decide)
        have hqZ' : ∀ w, (Op.equalIn 10000 22 (.agg #[.int .u8 0, .int .u8 0, .int .u8 0, .int .u8 0, .int .u8 0, .int .u8 0, .int .u8 0, .int .u8 0]) (.agg #[.int .u8 0, .int .u8 0, .int .u8 0, .int .u8 0, .int .u8 0, .int .u8 0, .int .u8 0, .int .u8 0])).run Tryd.prog w = .ok true w := hqZ
        clear hc12 hqZ
        go_wp2_with fail
        go_ret
        exact ⟨rfl, hV13⟩
  · skip
    refine (lexF_run (v := .pointer (some ⟨wr.drew.heap.size, 0, none⟩)) (w' := wr.drew.alloc (.cells #[.int .u8 0, .int .u8 0, .int .u8 0, .int .u8 0, .int .u8 0, .int .u8 0, .int .u8 0, .int .u8 0] 22)) rfl rfl (by go_simp) ((Upd.refl _ _).alloc _) ?_)
    have hzb : (wr.drew.alloc (.cells #[.int .u8 0, .int .u8 0, .int .u8 0, .int .u8 0, .int .u8 0, .int .u8 0, .int .u8 0, .int .u8 0] 22)).heap[wr.drew.heap.size]? = some (.cells (gC z8) 22 (0, 0)) := blk_new wr.drew (.cells (gC z8) 22)
    have hVa := hV1.alloc (.cells #[.int .u8 0, .int .u8 0, .int .u8 0, .int .u8 0, .int .u8 0, .int .u8 0, .int .u8 0, .int .u8 0] 22)
    have hge : wr.heap.size ≤ wr.drew.heap.size := hV1.size
    generalize wr.drew.alloc (.cells #[.int .u8 0, .int .u8 0, .int .u8 0, .int .u8 0, .int .u8 0, .int .u8 0, .int .u8 0, .int .u8 0] 22) = wa at *
    generalize wr.drew.heap.size = bk at *
    try simp only [Act.put, List.setIfInBounds_toArray, List.set_cons_zero, List.set_cons_succ]
    repeat
      first
      | (refine lexF_pure (v := ?_) rfl rfl ?_ ?_
         rotate_left
         · intro w' hU'
           go_simp
           try with_reducible rfl
         try simp only [Act.put, List.setIfInBounds_toArray, List.set_cons_zero, List.set_cons_succ])
      | (refine lexF_skip rfl ?_
         try simp only [Act.put, List.setIfInBounds_toArray, List.set_cons_zero, List.set_cons_succ])
    refine lexF_step ?_
    refine lexF_fn (f := 10) (args := _) rfl rfl (by go_simp) ((kC _ (hTr.upd hVa)).mono ?_)
    rintro e w2 ⟨rfl, hU2⟩
    have hV2 := hVa.tr hU2
    have hzb2 := hU2.blk hzb (fun h => h)
    refine ⟨_, rfl, hFm hU2, ?_⟩
    try simp only [Act.put, List.setIfInBounds_toArray, List.set_cons_zero, List.set_cons_succ]
    repeat
      first
      | (refine lexF_pure (v := ?_) rfl rfl ?_ ?_
         rotate_left
         · intro w' hU'
           go_simp
           try with_reducible rfl
         try simp only [Act.put, List.setIfInBounds_toArray, List.set_cons_zero, List.set_cons_succ])
      | (refine lexF_skip rfl ?_
         try simp only [Act.put, List.setIfInBounds_toArray, List.set_cons_zero, List.set_cons_succ])
    refine lexF_step ?_
    refine lexF_fn (f := 12) (args := _) rfl rfl (by go_simp) ((kT _).mono ?_)
    rintro e w3 ⟨rfl, hU3⟩
    have hV3 := hV2.tr hU3
    have hzb3 := hU3.blk hzb2 (fun h => h)
    refine ⟨_, rfl, hFm hU3, ?_⟩
    try simp only [Act.put, List.setIfInBounds_toArray, List.set_cons_zero, List.set_cons_succ]
    repeat
      first
      | (refine lexF_pure (v := ?_) rfl rfl ?_ ?_
         rotate_left
         · intro w' hU'
           go_simp
           try with_reducible rfl
         try simp only [Act.put, List.setIfInBounds_toArray, List.set_cons_zero, List.set_cons_succ])
      | (refine lexF_skip rfl ?_
         try simp only [Act.put, List.setIfInBounds_toArray, List.set_cons_zero, List.set_cons_succ])
    refine lexF_step ?_
    have hst := run_storeVar_row (P := Tryd.prog) w3 bk 22 22 (gC z8) cH hzb3 hiH hszH honeH
    refine (lexF_store (w' := w3.setRow bk cH) rfl rfl (by simp [execOp, Act.eval, Instr.storeAt, Instr.sureAddr, hst]) (updRow (Upd.refl (From wr.heap.size) w3) (.inl hge) cH) ?_)
    have hbk := setRow_heap _ bk _ cH _ _ hzb3
    have hVs := updRow hV3 (.inr hge) cH
    generalize w3.setRow bk cH = ws at *
    clear hst
    try simp only [Act.put, List.setIfInBounds_toArray, List.set_cons_zero, List.set_cons_succ]
    repeat
      first
      | (refine lexF_pure (v := ?_) rfl rfl ?_ ?_
         rotate_left
         · intro w' hU'
           go_simp
           try with_reducible rfl
         try simp only [Act.put, List.setIfInBounds_toArray, List.set_cons_zero, List.set_cons_succ])
      | (refine lexF_skip rfl ?_
         try simp only [Act.put, List.setIfInBounds_toArray, List.set_cons_zero, List.set_cons_succ])
    refine lexF_done ?_
    have hUs := hU.tr hVs
    have hTs := hT.upd hUs
    have hgs := hVs.blk hgb (fun h => h)
    have kMs := kM ws hTs
    clear hgb hzb
    go_wp2_with (refine wpList_load_row rfl 22 (.tmp 9) rfl bk rfl 22 cH (0, 0) _ hbk Tryd.underlying22 rfl hiH ?_)
    refine kMs.mono ?_
    rintro e w5 ⟨rfl, hU5⟩
    have hV5 := hUs.tr hU5
    have hg5 := hU5.blk hgs (fun h => h)
    have hb5 := hU5.blk hbk (fun h => h)
    have hV6 := hV5.alloc (.cells (gC z8) 22)
    have hg6 := blk_alloc hg5 (.cells (gC z8) 22)
    have hb6 := blk_alloc hb5 (.cells (gC z8) 22)
    have hz6 := blk_new w5 (.cells (gC z8) 22)
    have hn6 : ¬ w.heap.size = w5.heap.size := fun e => by have := blk_lt hg5; omega
    have hm6 : ¬ bk = w5.heap.size := fun e => by have := blk_lt hb5; omega
    have hr7 := setRow_heap _ w5.heap.size _ cG _ _ hz6
    have hg7 := (setRow_other _ w5.heap.size w.heap.size cG hn6).trans hg6
    have hb7 := (setRow_other _ w5.heap.size bk cG hm6).trans hb6
    have hV7 := updRow hV6 (.inr hV5.size) cG
    clear hg5 hb5 hg6 hb6 hgs hbk kMs hU5 hUs hVs
    go_upto_region 6 with (refine wpList_store_row rfl 22 (.tmp 11) (.tmp 39) rfl w5.heap.size cG rfl rfl 22 (gC z8) hz6 hiG hszG honeG ?_)
    obtain ⟨w7, hw7⟩ : ∃ W, W = (w5.alloc (.cells (gC z8) 22)).setRow w5.heap.size cG := ⟨_, rfl⟩
    rw [← hw7] at hr7 hg7 hb7 hV7
    rw [show (w5.alloc (.cells #[.int .u8 0, .int .u8 0, .int .u8 0, .int .u8 0, .int .u8 0, .int .u8 0, .int .u8 0, .int .u8 0] 22)).setRow w5.heap.size cG = w7 by rw [hw7]; rfl]
    clear hw7 hz6 hV6 hn6 hm6 hV5
    generalize w5.heap.size = b5 at *
    by_cases hab : a = b
    · obtain rfl := hab
      go_wp2_with (first
        | (refine wpList_load_row rfl 22 (.tmp 11) rfl b5 rfl 22 cG (0, 0) _ hr7 Tryd.underlying22 rfl hiG ?_)
        | (refine wpList_load_row rfl 22 (.tmp 3) rfl w.heap.size rfl 22 cG (0, 0) _ hg7 Tryd.underlying22 rfl hiG ?_))
      go_ret
      exact ⟨rfl, hV7⟩
    · have habI : ¬ (a : Int) = (b : Int) := by omega
      have kM2s := kM2 hab
      have kT2s := kT2 w7
      go_wp2_with (first
        | (refine wpList_load_row rfl 22 (.tmp 11) rfl b5 rfl 22 cG (0, 0) _ hr7 Tryd.underlying22 rfl hiG ?_)
        | (refine wpList_load_row rfl 22 (.tmp 3) rfl w.heap.size rfl 22 cG (0, 0) _ hg7 Tryd.underlying22 rfl hiG ?_)
        | (refine wpList_load_row rfl 22 (.tmp 9) rfl bk rfl 22 cH (0, 0) _ hb7 Tryd.underlying22 rfl hiH ?_))
      refine kT2s.mono ?_
      rintro e w8 ⟨rfl, hU8⟩
      have hV8 := hV7.tr hU8
      have hV9 := hV8.alloc (.cells (gC z8) 22)
      have hz9 := blk_new w8 (.cells (gC z8) 22)
      have hr9 := setRow_heap _ w8.heap.size _ cK _ _ hz9
      have hV10 := updRow hV9 (.inr hV8.size) cK
      clear hr7 hg7 hb7 kT2s kT2 kM2 hU8 hab
      go_upto_region 11 with (refine wpList_store_row rfl 22 (.tmp 14) (.tmp 61) rfl w8.heap.size cK rfl rfl 22 (gC z8) hz9 hiK hszK honeK ?_)
      obtain ⟨w10, hw10⟩ : ∃ W, W = (w8.alloc (.cells (gC z8) 22)).setRow w8.heap.size cK := ⟨_, rfl⟩
      rw [← hw10] at hr9 hV10
      rw [show (w8.alloc (.cells #[.int .u8 0, .int .u8 0, .int .u8 0, .int .u8 0, .int .u8 0, .int .u8 0, .int .u8 0, .int .u8 0] 22)).setRow w8.heap.size cK = w10 by rw [hw10]; rfl]
      clear hw10 hz9 hV9 hV8
      generalize w8.heap.size = b8 at *
      have kM2t := kM2s w10 (hT.upd hV10)
      clear kM2s
      go_wp2_with (refine wpList_load_row rfl 22 (.tmp 14) rfl b8 rfl 22 cK (0, 0) _ hr9 Tryd.underlying22 rfl hiK ?_)
      refine kM2t.mono ?_
      rintro e w11 ⟨rfl, hU11⟩
      have hV11 := hV10.tr hU11
      have hV12 := hV11.alloc (.cells (gC z8) 22)
      have hz12 := blk_new w11 (.cells (gC z8) 22)
      have hr12 := setRow_heap _ w11.heap.size _ (gC z8) _ _ hz12
      have hV13 := updRow hV12 (.inr hV11.size) (gC z8)
      clear hr9 kM2t hU11
      have hc12 : ∀ j, j < 8 → ((w11.alloc (.cells (gC z8) 22)).setRow w11.heap.size (gC z8)).cell? ⟨w11.heap.size, j, none⟩ = some (.int .u8 0) := fun j hj => by
        rw [blk_cell hr12 j]
        have hj8 : j < z8.length := hj
        rw [gC_get hj8, show z8[j] = 0 from List.getElem_replicate ..]
        rfl
      go_upto_region 12 with (refine wpList_store_row rfl 22 (.tmp 16) (.tmp 67) rfl w11.heap.size (gC z8) rfl rfl 22 (gC z8) hz12 hiZ rfl honeZ ?_)
      obtain ⟨w13, hw13⟩ : ∃ W, W = (w11.alloc (.cells (gC z8) 22)).setRow w11.heap.size (gC z8) := ⟨_, rfl⟩
      rw [← hw13] at hc12 hV13
      rw [show (w11.alloc (.cells #[.int .u8 0, .int .u8 0, .int .u8 0, .int .u8 0, .int .u8 0, .int .u8 0, .int .u8 0, .int .u8 0] 22)).setRow w11.heap.size (gC z8) = w13 by rw [hw13]; rfl]
      clear hw13 hz12 hV12 hV11 hr12
      generalize w11.heap.size = b11 at *
      have d0 := hc12 0 (by decide)
      have d1 := hc12 1 (by decide)
      have d2 := hc12 2 (by decide)
      have d3 := hc12 3 (by decide)
      have d4 := hc12 4 (by decide)
      have d5 := hc12 5 (by decide)
      have d6 := hc12 6 (by decide)
      have d7 := hc12 7 (by decide)
      have hqZ' : ∀ w, (Op.equalIn 10000 22 (.agg #[.int .u8 0, .int .u8 0, .int .u8 0, .int .u8 0, .int .u8 0, .int .u8 0, .int .u8 0, .int .u8 0]) (.agg #[.int .u8 0, .int .u8 0, .int .u8 0, .int .u8 0, .int .u8 0, .int .u8 0, .int .u8 0, .int .u8 0])).run Tryd.prog w = .ok true w := hqZ
      clear hc12 hqZ
      go_wp2_with fail
      go_ret
      exact ⟨rfl, hV13⟩
end Go.Proofs.YtenhimaclecdpaaDoor.Ecc
