/-
  A group's check. Conditions: the table of Go's library is as it was laid.
-/
import Derived.Test.YtenhimaclecdpaaDoorEccG
import Derived.Test.YtenhimaclecdpaaDoorLex
namespace Go.Proofs.YtenhimaclecdpaaDoor.Ecc
open Go.RowKit Go.Proofs.YtenhimaclecdpaaDoor.Base
set_option linter.unusedVariables false
set_option linter.unusedSimpArgs false
set_option maxRecDepth 100000
theorem xor_u8 (a b : Nat) (ha : a < 256) (hb : b < 256) : bits BinOp.xor IntKind.u8 (a : Int) (b : Int) = ((a ^^^ b : Nat) : Int) := by
  have h1 : (BitVec.ofInt 8 (a : Int)).toNat = a := by
    rw [BitVec.ofInt_natCast, BitVec.toNat_ofNat]; exact Nat.mod_eq_of_lt (by omega)
  have h2 : (BitVec.ofInt 8 (b : Int)).toNat = b := by
    rw [BitVec.ofInt_natCast, BitVec.toNat_ofNat]; exact Nat.mod_eq_of_lt (by omega)
  have hx : a ^^^ b < 2 ^ 8 := Nat.xor_lt_two_pow (by omega) (by omega)
  show IntKind.u8.wrap ((BitVec.ofInt 8 (a : Int) ^^^ BitVec.ofInt 8 (b : Int)).toNat : Int) = _
  rw [BitVec.toNat_xor, h1, h2]
  simp [IntKind.wrap, IntKind.bits, IntKind.signed]
  omega
theorem pl_get {i : Nat} (h : i < 64) : (gC plL)[i]? = some (.int .u8 (pl i : Nat)) := by
  rw [gC_get (by rw [plL_len]; exact h)]
  unfold pl
  rw [List.getD_eq_getElem?_getD, List.getElem?_eq_getElem (by rw [plL_len]; exact h)]
  rfl
set_option maxHeartbeats 4000000 in
theorem checkC (G : List Nat) (hG : G.length = 8) (hb : ∀ a ∈ G, a < 256) (w : World) (hT : Tab w) : Calls Tryd.prog 10 #[.agg (gC G)] w fun e w' => e = .returned (.int .u8 (chk (wdN G) : Nat)) ∧ Upd Nil w w' := by
  have hv : wdN G < 18446744073709551616 := by
    have := wd_lt G hb
    rw [hG] at this
    exact this
  have hs : (gC G).size = 8 := by rw [gC_size, hG]
  have hiG : (Tryd.prog.info? 22).map (·.size) = some (gC G).size := by rw [hs]; kernel_rfl
  have k1 := fun w => wordC G hG hb w
  have k3 := ones64 (wdN G) hv
  have hbx := blk_new w (.cells (gC G) 22)
  have hUx := (Upd.refl Nil w).alloc (.cells (gC G) 22)
  have hcs : (gC plL).size = 64 := by rw [gC_size, plL_len]
  have hzs : (gC (List.replicate 64 0)).size = (gC plL).size := by rw [hcs, gC_size]; simp
  have hone := gC_one plL
  have hip : (Tryd.prog.info? 42).map (·.size) = some (gC plL).size := by rw [hcs]; kernel_rfl
  have hpg : ∀ i, i < 64 → (gC plL)[i]? = some (.int .u8 (pl i : Nat)) := fun i h => pl_get h
  have hpl := pop_le (wdN G) 64
  unfold chk
  generalize gC G = c at *
  generalize wdN G = v at *
  have k2 := placesC
  generalize gC plL = p at *
  clear hs hcs hG hb
  go_enter Tryd.func10, Tryd.ntmps10
  go_wp2_with (refine wpList_load_row rfl 22 (.tmp 1) rfl w.heap.size rfl 22 c (0, 0) _ hbx Tryd.underlying22 rfl hiG ?_)
  refine (k1 _).mono ?_
  rintro e w2 ⟨rfl, hU2⟩
  have hV2 := hUx.tr hU2
  go_wp2_with fail
  refine (k2 _).mono ?_
  rintro e w3 ⟨rfl, hU3⟩
  have hV3 := hV2.tr hU3
  have hz : (w3.alloc (.cells (gC (List.replicate 64 0)) 42)).heap[w3.heap.size]? = some (.cells (gC (List.replicate 64 0)) 42 (0, 0)) := blk_new _ _
  have hbz := setRow_heap _ w3.heap.size _ p _ _ hz
  have hVz := updRow (hV3.alloc (.cells (gC (List.replicate 64 0)) 42)) (.inr hV3.size) p
  go_upto_region 5 with (refine wpList_store_row rfl 42 (.tmp 5) (.tmp 9) rfl w3.heap.size p rfl rfl 42 (gC (List.replicate 64 0)) hz hip hzs hone ?_)
  have hTz := hT.upd hVz
  go_loopw [4, 6] (fun s4 s6 wr => ∃ k : Nat, k ≤ 64 ∧ s4 = .int .u8 (syn v k : Nat) ∧ s6 = .int .u64 (hi v k : Nat) ∧ wr.heap[w3.heap.size]? = some (.cells p 42 (0, 0)) ∧ Upd Nil w wr ∧ Tab wr) (fun _ s6 _ => (intOf s6).toNat)
  case atStart => exact ⟨0, by omega, rfl, by rw [hi_zero], hbz, hVz, hTz⟩
  case round =>
    clear hbz hVz hTz hz hV2 hV3 hU2 hU3 hbx hUx hT
    obtain ⟨k, hk, rfl, rfl, hb, hV, hT⟩ := hrel
    by_cases h0 : hi v k = 0
    · have hsy := no_bit hv hk h0
      rw [h0, hsy]
      have hsl := syn_lt v 64
      have hev := evenC (syn v 64) (popN v 64) (by omega) (by omega)
      clear hsy h0 hpg hpl hv hzs
      go_wp2_with fail
      refine (k3 _).mono ?_
      rintro e w' ⟨rfl, rfl⟩
      go_wp2_with fail
      refine (hev _).mono ?_
      rintro e w' ⟨rfl, rfl⟩
      go_wp2_with fail
      go_ret
      exact ⟨rfl, hV⟩
    · obtain ⟨t, ht, htl, hkt, hand, hsyn⟩ := next_bit hv h0
      have hle := hi_le v k
      have hle2 := hi_le v (t + 1)
      have htz := tz64 (hi v k) (by omega) h0
      rw [ht] at htz
      have hsl := syn_lt v k
      have hpl2 := pl_lt' t
      have hx := xor_u8 (syn v k) (pl t) (by omega) (by omega)
      rw [← hsyn] at hx
      have hcl := blk_cell hb t
      rw [hpg t htl] at hcl
      have hsub := bits_and_u64_nat (hi v k) (hi v k - 1) (by omega) (by omega)
      rw [hand, show ((hi v k - 1 : Nat) : Int) = (hi v k : Int) - 1 by omega] at hsub
      have hlt : hi v (t + 1) < hi v k := by
        rw [← hand]
        exact Nat.lt_of_le_of_lt Nat.and_le_right (by omega)
      have h0I : ((hi v k : Nat) : Int) ≠ 0 := by omega
      have hwr : IntKind.u64.wrap ((hi v k : Nat) - 1 : Int) = (hi v k : Nat) - 1 := by rw [IntKind.wrap_u64]; omega
      have hpkH := Lib.hid (And.intro hkt hlt)
      clear hsyn hand ht hkt hlt hle2 hpl hzs
      generalize hx2 : hi v (t + 1) = x2 at *
      have hx2H := Lib.hid hx2
      clear hx2
      generalize hi v k = x at *
      generalize hy2 : syn v (t + 1) = y2 at *
      have hy2H := Lib.hid hy2
      clear hy2
      generalize syn v k = y at *
      go_wp2_with fail
      refine (htz _ hT).mono ?_
      rintro e w' ⟨rfl, rfl⟩
      go_wp2_with fail
      go_roundw
      case measure => have := hpkH.out.2; simp [intOf]; omega
      case rel => exact ⟨t + 1, by omega, by rw [hy2H.out], by rw [hx2H.out], hb, hV, hT⟩
end Go.Proofs.YtenhimaclecdpaaDoor.Ecc
