/-
  A group is mended. Conditions: the table of Go's library is as it was laid.
-/
import Derived.Test.YtenhimaclecdpaaDoorEccH
namespace Go.Proofs.YtenhimaclecdpaaDoor.Ecc
open Go.RowKit Go.Proofs.YtenhimaclecdpaaDoor.Base
set_option linter.unusedVariables false
set_option linter.unusedSimpArgs false
set_option maxRecDepth 100000
/-- A bit of a group turned. -/
def flipG (G : List Nat) (i : Nat) : List Nat := G.set (i / 8) (G.getD (i / 8) 0 ^^^ 2 ^ (i % 8))
def z8 : List Nat := List.replicate 8 0
/-- What a group is mended to. -/
def mendV (G : List Nat) (c : Nat) : List Nat × Int × Bool :=
  match way (chk (wdN G) ^^^ c) with
  | none => (z8, 0, false)
  | some none => (G, 0, true)
  | some (some i) => (if i < 64 then flipG G i else G, 1, true)
def MendR (r : List Nat × Int × Bool) (w : World) (e : Ending) (w' : World) : Prop := e = .returned (.tuple #[.agg (gC r.1), .int .i64 r.2.1, .bool r.2.2]) ∧ Upd Nil w w'
theorem ix64 {c : Array Value} {i b : Nat} (hi : i < 64) (hx : c[i]? = some (.int .u8 b)) (w : World) : (Instr.index 42 (.agg c) (.int .i64 i)).run Tryd.prog w = .ok (.int .u8 b) w := by
  simp [Instr.index, go_sem, run_underlying Tryd.underlying42, hi, hx]
theorem and127_f : ∀ o : Fin 256, bits BinOp.and IntKind.u8 (o.val : Int) 127 = ((o.val &&& 127 : Nat) : Int) := by decide +kernel
theorem natne {n : Nat} (h : ¬ n = 0) : (n : Int) ≠ 0 := by omega
theorem odd1 {n : Nat} (h : ¬ n % 2 = 0) : n % 2 = 1 := by omega
theorem pred_f : ∀ o : Fin 128, bits BinOp.and IntKind.u8 (o.val : Int) (((o.val : Int) - 1) % 256) = ((o.val &&& (o.val - 1) : Nat) : Int) := by decide +kernel
theorem low_lt (o : Nat) : o &&& 127 < 128 := Nat.lt_of_le_of_lt Nat.and_le_right (by omega)
theorem add_lem {a b : Nat} (ha : a ≤ 64) (hb : b ≤ 8) : wrap64 ((a : Nat) + (b : Nat) : Int) = ((a + b : Nat) : Int) := by unfold wrap64; omega
theorem and_lem {a b : Nat} (ha : a ≤ 64) (hb : b ≤ 8) : bits BinOp.and IntKind.i64 ((a + b : Nat) : Int) 1 = (((a + b) % 2 : Nat) : Int) := and1 (a + b) (by omega)
theorem par_lem {v c : Nat} : (popN v 64 + popN c 8) % 2 = popN (chk v ^^^ c) 8 % 2 := by
  have h1 := pop_xor (chk v) c 8
  have h2 := chk_par v
  omega
theorem find_at {p : Nat → Bool} {n i : Nat} (hi : i < n) (hp : p i = true) (hn : ∀ j, j < i → p j = false) : (List.range n).find? p = some i := by
  rw [List.find?_eq_some_iff_append]
  refine ⟨hp, List.range i, List.range' (i + 1) (n - i - 1), ?_, fun a ha => by simpa using hn a (by simpa using ha)⟩
  rw [List.range_eq_range', List.range_eq_range', show (n : Nat) = i + (1 + (n - i - 1)) by omega, ← List.range'_append_1, ← List.range'_append_1]
  simp
theorem find_no {p : Nat → Bool} {n : Nat} (hn : ∀ j, j < n → p j = false) : (List.range n).find? p = none := by
  rw [List.find?_eq_none]
  intro x hx
  simpa using hn x (by simpa using hx)
theorem sh_u8 : ∀ m : Fin 8, (2 : Int) ^ m.val % 256 = ((2 ^ m.val : Nat) : Int) ∧ 2 ^ m.val < 256 := by decide +kernel
set_option maxHeartbeats 4000000 in
theorem mendC (G : List Nat) (hG : G.length = 8) (hb : ∀ a ∈ G, a < 256) (c : Nat) (hc : c < 256) (w : World) (hT : Tab w) : Calls Tryd.prog 8 #[.agg (gC G), .int .u8 c] w (MendR (mendV G c) w) := by
  have hv : wdN G < 18446744073709551616 := by
    have := wd_lt G hb
    rw [hG] at this
    exact this
  have hs : (gC G).size = 8 := by rw [gC_size, hG]
  have hiG : (Tryd.prog.info? 22).map (·.size) = some (gC G).size := by rw [hs]; kernel_rfl
  have k1 := fun w hT => checkC G hG hb w hT
  have k2 := fun w => wordC G hG hb w
  have k3 := ones64 (wdN G) hv
  have k4 := ones8 c hc
  have hcl := chk_lt (wdN G)
  have hx := xor_u8 (chk (wdN G)) c hcl hc
  have hol : chk (wdN G) ^^^ c < 256 := Nat.xor_lt_two_pow (n := 8) hcl hc
  have hpar := par_lem (v := wdN G) (c := c)
  have hp1 := pop_le (wdN G) 64
  have hp2 := pop_le c 8
  have hadd := add_lem hp1 hp2
  have hand := and_lem hp1 hp2
  rw [hpar] at hand
  have hway := way_eq hol
  have hb0 : ((w.alloc (.cells (gC G) 22)).alloc (.cells (gC z8) 22)).heap[w.heap.size]? = some (.cells (gC G) 22 (0, 0)) := heap_alloc2_old w _ _
  have hr0 : ((w.alloc (.cells (gC G) 22)).alloc (.cells (gC z8) 22)).heap[w.heap.size + 1]? = some (.cells (gC z8) 22 (0, 0)) := heap_alloc2_new w _ _
  have hU0 := ((Upd.refl Nil w).alloc (.cells (gC G) 22)).alloc (.cells (gC z8) 22)
  generalize hr : mendV G c = r at *
  have hrH := Lib.hid hr
  clear hr
  have hone := gC_one G
  have honez := gC_one z8
  have hsz : (gC z8).size = (gC G).size := by rw [hs, gC_size]; rfl
  by_cases h0 : chk (wdN G) ^^^ c = 0
  · have hz := Lib.hid (show r = (G, 0, true) by rw [← hrH.out]; unfold mendV; rw [← hway, h0]; rfl)
    rw [h0] at hx
    clear hway hol hpar hcl hp1 hp2 hb hrH h0 hv hand
    go_enter Tryd.func8, Tryd.ntmps8
    go_wp2_with (refine wpList_load_row rfl 22 (.tmp 2) rfl w.heap.size rfl 22 (gC G) (0, 0) _ hb0 Tryd.underlying22 rfl hiG ?_)
    refine (k1 _ (hT.upd hU0)).mono ?_
    rintro e w2 ⟨rfl, hU2⟩
    have hV2 := hU0.tr hU2
    have hb2 := hU2.blk hb0 (fun h => h)
    have hr2 := hU2.blk hr0 (fun h => h)
    go_wp2_with (refine wpList_load_row rfl 22 (.tmp 2) rfl w.heap.size rfl 22 (gC G) (0, 0) _ hb2 Tryd.underlying22 rfl hiG ?_)
    refine (k2 _).mono ?_
    rintro e w3 ⟨rfl, hU3⟩
    have hV3 := hV2.tr hU3
    have hb3 := hU3.blk hb2 (fun h => h)
    have hr3 := hU3.blk hr2 (fun h => h)
    go_wp2_with fail
    refine (k3 _).mono ?_
    rintro e w' ⟨rfl, rfl⟩
    go_wp2_with fail
    refine (k4 _).mono ?_
    rintro e w' ⟨rfl, rfl⟩
    generalize popN (wdN G) 64 + popN c 8 = pp at *
    go_wp2_with (first
      | (refine wpList_load_row rfl 22 (.tmp 2) rfl w.heap.size rfl 22 (gC G) (0, 0) _ hb3 Tryd.underlying22 rfl hiG ?_)
      | (refine wpList_store_row rfl 22 (.tmp 4) (.tmp 25) rfl (w.heap.size + 1) (gC G) rfl rfl 22 (gC z8) hr3 hiG hsz hone ?_))
    have hbz := setRow_heap w' (w.heap.size + 1) _ (gC (G)) _ _ hr3
    have hUz := updRow hV3 (.inr (Nat.le_succ w.heap.size)) (gC (G))
    exact bodyPost_ret (v := .tuple #[.agg (gC (G)), .int .i64 0, .bool true]) (by simp [results, Tryd.results8, asAddr, run_loadVar_row _ _ 22 22 _ (0, 0) _ hbz Tryd.underlying22 rfl hiG]) rfl ⟨by rw [hz.out], hUz⟩
  · have hon := natne h0
    by_cases hp0 : popN (chk (wdN G) ^^^ c) 8 % 2 = 0
    · have hz := Lib.hid (show r = (z8, 0, false) by rw [← hrH.out]; unfold mendV; rw [← hway]; unfold wayP; rw [if_neg h0, if_pos hp0])
      rw [hp0] at hand
      clear hway hol hpar hcl hp1 hp2 hb hrH h0 hv hp0
      have hiz : (Tryd.prog.info? 22).map (·.size) = some (gC z8).size := by rw [hsz]; exact hiG
      generalize chk (wdN G) ^^^ c = o at *
      go_enter Tryd.func8, Tryd.ntmps8
      go_wp2_with (refine wpList_load_row rfl 22 (.tmp 2) rfl w.heap.size rfl 22 (gC G) (0, 0) _ hb0 Tryd.underlying22 rfl hiG ?_)
      refine (k1 _ (hT.upd hU0)).mono ?_
      rintro e w2 ⟨rfl, hU2⟩
      have hV2 := hU0.tr hU2
      have hb2 := hU2.blk hb0 (fun h => h)
      have hr2 := hU2.blk hr0 (fun h => h)
      go_wp2_with (refine wpList_load_row rfl 22 (.tmp 2) rfl w.heap.size rfl 22 (gC G) (0, 0) _ hb2 Tryd.underlying22 rfl hiG ?_)
      refine (k2 _).mono ?_
      rintro e w3 ⟨rfl, hU3⟩
      have hV3 := hV2.tr hU3
      have hb3 := hU3.blk hb2 (fun h => h)
      have hr3 := hU3.blk hr2 (fun h => h)
      go_wp2_with fail
      refine (k3 _).mono ?_
      rintro e w' ⟨rfl, rfl⟩
      go_wp2_with fail
      refine (k4 _).mono ?_
      rintro e w' ⟨rfl, rfl⟩
      generalize popN (wdN G) 64 + popN c 8 = pp at *
      go_wp2_with (refine wpList_store_row rfl 22 (.tmp 4) (.tmp 30) rfl (w.heap.size + 1) (gC z8) rfl rfl 22 (gC z8) hr3 hiz rfl honez ?_)
      have hbz := setRow_heap w' (w.heap.size + 1) _ (gC (z8)) _ _ hr3
      have hUz := updRow hV3 (.inr (Nat.le_succ w.heap.size)) (gC (z8))
      exact bodyPost_ret (v := .tuple #[.agg (gC (z8)), .int .i64 0, .bool false]) (by simp [results, Tryd.results8, asAddr, run_loadVar_row _ _ 22 22 _ (0, 0) _ hbz Tryd.underlying22 rfl hiz]) rfl ⟨by rw [hz.out], hUz⟩
    · have hp1' := odd1 hp0
      rw [hp1'] at hand
      have hw := and127_f ⟨chk (wdN G) ^^^ c, hol⟩
      have hlow := low_lt (chk (wdN G) ^^^ c)
      have hpr := pred_f ⟨(chk (wdN G) ^^^ c) &&& 127, hlow⟩
      simp only at hw hpr
      have hzH : Hid (r = match (if ((chk (wdN G) ^^^ c) &&& 127) &&& (((chk (wdN G) ^^^ c) &&& 127) - 1) = 0 then some (some (64 + (List.range 8).findIdx fun j => 2 ^ j == (chk (wdN G) ^^^ c))) else ((List.range 64).find? fun i => pl i == (chk (wdN G) ^^^ c) &&& 127).map some) with
        | none => (z8, 0, false)
        | some none => (G, 0, true)
        | some (some i) => (if i < 64 then flipG G i else G, 1, true)) := by
        show r = _
        rw [← hrH.out]
        unfold mendV
        rw [← hway]
        unfold wayP
        rw [if_neg h0, if_neg hp0]
      clear hway hpar hcl hp1 hp2 hrH h0 hv hp0 hp1' hol
      generalize chk (wdN G) ^^^ c = o at *
      by_cases hq : (o &&& 127) &&& ((o &&& 127) - 1) = 0
      · have hz := Lib.hid (show r = (G, 1, true) by rw [hzH.out, if_pos hq]; simp only; rw [if_neg (by omega)])
        rw [hq] at hpr
        clear hzH hq hlow hb
        generalize (o &&& 127) = wr' at *
        go_enter Tryd.func8, Tryd.ntmps8
        go_wp2_with (refine wpList_load_row rfl 22 (.tmp 2) rfl w.heap.size rfl 22 (gC G) (0, 0) _ hb0 Tryd.underlying22 rfl hiG ?_)
        refine (k1 _ (hT.upd hU0)).mono ?_
        rintro e w2 ⟨rfl, hU2⟩
        have hV2 := hU0.tr hU2
        have hb2 := hU2.blk hb0 (fun h => h)
        have hr2 := hU2.blk hr0 (fun h => h)
        go_wp2_with (refine wpList_load_row rfl 22 (.tmp 2) rfl w.heap.size rfl 22 (gC G) (0, 0) _ hb2 Tryd.underlying22 rfl hiG ?_)
        refine (k2 _).mono ?_
        rintro e w3 ⟨rfl, hU3⟩
        have hV3 := hV2.tr hU3
        have hb3 := hU3.blk hb2 (fun h => h)
        have hr3 := hU3.blk hr2 (fun h => h)
        go_wp2_with fail
        refine (k3 _).mono ?_
        rintro e w' ⟨rfl, rfl⟩
        go_wp2_with fail
        refine (k4 _).mono ?_
        rintro e w' ⟨rfl, rfl⟩
        generalize popN (wdN G) 64 + popN c 8 = pp at *
        go_wp2_with (first
          | (refine wpList_load_row rfl 22 (.tmp 2) rfl w.heap.size rfl 22 (gC G) (0, 0) _ hb3 Tryd.underlying22 rfl hiG ?_)
          | (refine wpList_store_row rfl 22 (.tmp 4) (.tmp 38) rfl (w.heap.size + 1) (gC G) rfl rfl 22 (gC z8) hr3 hiG hsz hone ?_))
        have hbz := setRow_heap w' (w.heap.size + 1) _ (gC (G)) _ _ hr3
        have hUz := updRow hV3 (.inr (Nat.le_succ w.heap.size)) (gC (G))
        exact bodyPost_ret (v := .tuple #[.agg (gC (G)), .int .i64 1, .bool true]) (by simp [results, Tryd.results8, asAddr, run_loadVar_row _ _ 22 22 _ (0, 0) _ hbz Tryd.underlying22 rfl hiG]) rfl ⟨by rw [hz.out], hUz⟩
      · have hqI := natne hq
        rw [if_neg hq] at hzH
        clear hq
        generalize ((o &&& 127) &&& ((o &&& 127) - 1)) = d at *
        generalize (o &&& 127) = wr' at *
        go_enter Tryd.func8, Tryd.ntmps8
        go_wp2_with (refine wpList_load_row rfl 22 (.tmp 2) rfl w.heap.size rfl 22 (gC G) (0, 0) _ hb0 Tryd.underlying22 rfl hiG ?_)
        refine (k1 _ (hT.upd hU0)).mono ?_
        rintro e w2 ⟨rfl, hU2⟩
        have hV2 := hU0.tr hU2
        have hb2 := hU2.blk hb0 (fun h => h)
        have hr2 := hU2.blk hr0 (fun h => h)
        go_wp2_with (refine wpList_load_row rfl 22 (.tmp 2) rfl w.heap.size rfl 22 (gC G) (0, 0) _ hb2 Tryd.underlying22 rfl hiG ?_)
        refine (k2 _).mono ?_
        rintro e w3 ⟨rfl, hU3⟩
        have hV3 := hV2.tr hU3
        have hb3 := hU3.blk hb2 (fun h => h)
        have hr3 := hU3.blk hr2 (fun h => h)
        go_wp2_with fail
        refine (k3 _).mono ?_
        rintro e w' ⟨rfl, rfl⟩
        go_wp2_with fail
        refine (k4 _).mono ?_
        rintro e w' ⟨rfl, rfl⟩
        generalize popN (wdN G) 64 + popN c 8 = pp at *
        go_wp2_with fail
        refine (placesC _).mono ?_
        rintro e w4 ⟨rfl, hU4⟩
        have hV4 := hV3.tr hU4
        have hb4 := hU4.blk hb3 (fun h => h)
        have hr4 := hU4.blk hr3 (fun h => h)
        clear hb0 hr0 hU0 hU2 hV2 hb2 hr2 hU3 hV3 hb3 hr3 hU4 k1 k2 k3 k4 hx hadd hand hw hpr
        have hpg : ∀ i, i < 64 → (gC plL)[i]? = some (.int .u8 (pl i : Nat)) := fun i h => pl_get h
        generalize gC plL = p at *
        go_wp2_with fail
        go_loopw [40] (fun s40 wl => ∃ i : Nat, i ≤ 64 ∧ s40 = .int .i64 (i : Int) ∧ Hid (∀ j, j < i → (pl j == wr') = false) ∧ wl = w4) (fun s40 _ => 64 - (intOf s40).toNat)
        case atStart => exact ⟨0, by omega, rfl, Lib.hid (fun j h => absurd h (by omega)), rfl⟩
        case round =>
          obtain ⟨i, hi, rfl, hnone, rfl⟩ := hrel
          by_cases hlt : i < 64
          · have hI : (i : Int) < 64 := by omega
            have hix := ix64 hlt (hpg i hlt)
            by_cases hm : pl i = wr'
            · have hmI : (pl i : Int) = (wr' : Int) := by rw [hm]
              have hz := Lib.hid (show r = (flipG G i, 1, true) by rw [hzH.out, find_at hlt (by simpa using hm) hnone.out]; simp only [Option.map_some]; rw [if_pos hlt])
              have hqq : i / 8 < 8 := by omega
              have hmm : i % 8 < 8 := by omega
              have hq8 : Int.tdiv (i : Int) 8 = ((i / 8 : Nat) : Int) := by rw [Int.tdiv_eq_ediv_of_nonneg (by omega)]; rfl
              have hm8 : Int.tmod (i : Int) 8 = ((i % 8 : Nat) : Int) := by rw [Int.tmod_eq_emod_of_nonneg (by omega)]; rfl
              have hsh := sh_u8 ⟨i % 8, hmm⟩
              have hcq := blk_cell hb4 (i / 8)
              rw [gC_get (by omega)] at hcq
              have hbq := hb _ (List.getElem_mem (show i / 8 < G.length by omega))
              have hfq := blk_frozen hb4 (i / 8)
              have hxq := xor_u8 G[i / 8] (2 ^ (i % 8)) hbq hsh.2
              have hset : (gC G).setIfInBounds (i / 8) (.int .u8 ((G[i / 8] ^^^ 2 ^ (i % 8) : Nat) : Int)) = gC (flipG G i) := by
                rw [gC_set]
                unfold flipG
                rw [List.getD_eq_getElem?_getD, List.getElem?_eq_getElem (by omega)]
                rfl
              have hfl : (flipG G i).length = 8 := by unfold flipG; rw [List.length_set, hG]
              have hput := blk_put hb4 (i / 8) (.int .u8 ((G[i / 8] ^^^ 2 ^ (i % 8) : Nat) : Int)) hset
              have hrp := blk_other hr4 (p := ⟨w.heap.size, i / 8, none⟩) (by simp) (.int .u8 ((G[i / 8] ^^^ 2 ^ (i % 8) : Nat) : Int))
              have hVp := hV4.setNew (i := i / 8) (Nat.le_refl w.heap.size) (.int .u8 ((G[i / 8] ^^^ 2 ^ (i % 8) : Nat) : Int))
              have hsh1 := hsh.1
              simp only at hsh1
              rw [← hsh1] at hxq
              have hiF : (Tryd.prog.info? 22).map (·.size) = some (gC (flipG G i)).size := by rw [gC_size, hfl, hiG, hs]
              have hszF : (gC z8).size = (gC (flipG G i)).size := by rw [gC_size, gC_size, hfl]; rfl
              have honeF := gC_one (flipG G i)
              clear hset hsh hzH hnone hb hpg
              generalize (G[i / 8] ^^^ 2 ^ (i % 8)) = nb at *
              generalize G[i / 8] = ob at *
              have h64 : i / 8 * 1 = i / 8 := Nat.mul_one _
              clear hm
              clear hsh1
              go_upto_region 15 with fail
              clear hxq hcq hfq
              go_wp2_with (first
                | (refine wpList_load_row rfl 22 (.tmp 2) rfl w.heap.size rfl 22 (gC (flipG G i)) (0, 0) _ hput Tryd.underlying22 rfl hiF ?_)
                | (refine wpList_store_row rfl 22 (.tmp 4) (.tmp 57) rfl (w.heap.size + 1) (gC (flipG G i)) rfl rfl 22 (gC z8) hrp hiF hszF honeF ?_))
              have hbz := setRow_heap _ (w.heap.size + 1) _ (gC (flipG G i)) _ _ hrp
              have hUz := updRow hVp (.inr (Nat.le_succ w.heap.size)) (gC (flipG G i))
              exact bodyPost_ret (v := .tuple #[.agg (gC (flipG G i)), .int .i64 1, .bool true]) (by simp [results, Tryd.results8, asAddr, run_loadVar_row _ _ 22 22 _ (0, 0) _ hbz Tryd.underlying22 rfl hiF]) rfl ⟨by rw [hz.out], hUz⟩
            · have hmI : ¬ (pl i : Int) = (wr' : Int) := fun e => hm (by omega)
              have hnx := Lib.hid (show ∀ j, j < i + 1 → (pl j == wr') = false by
                intro j hj
                rcases Nat.lt_or_ge j i with h | h
                · exact hnone.out j h
                · obtain rfl : j = i := by omega
                  simpa using hm)
              clear hnone hm
              generalize pl i = pi at *
              go_wp2_with fail
              go_roundw
              case measure => simp [intOf]; omega
              case rel => exact ⟨i + 1, by omega, by go_num, Lib.hid hnx.out, trivial⟩
          · obtain rfl : i = 64 := by omega
            have hz := Lib.hid (show r = (z8, 0, false) by rw [hzH.out, find_no hnone.out]; rfl)
            have hiz : (Tryd.prog.info? 22).map (·.size) = some (gC z8).size := by rw [hsz]; exact hiG
            clear hnone hzH
            go_wp2_with (refine wpList_store_row rfl 22 (.tmp 4) (.tmp 59) rfl (w.heap.size + 1) (gC z8) rfl rfl 22 (gC z8) hr4 hiz rfl honez ?_)
            have hbz := setRow_heap _ (w.heap.size + 1) _ (gC (z8)) _ _ hr4
            have hUz := updRow hV4 (.inr (Nat.le_succ w.heap.size)) (gC (z8))
            exact bodyPost_ret (v := .tuple #[.agg (gC (z8)), .int .i64 0, .bool false]) (by simp [results, Tryd.results8, asAddr, run_loadVar_row _ _ 22 22 _ (0, 0) _ hbz Tryd.underlying22 rfl hiz]) rfl ⟨by rw [hz.out], hUz⟩
end Go.Proofs.YtenhimaclecdpaaDoor.Ecc
