/-
  The reference's Check. Conditions: none.
-/
import Derived.Test.YtenhimaclecdpaaDoorEccS
namespace Go.Proofs.YtenhimaclecdpaaDoor.Ecc
open Go.RowKit Go.Proofs.YtenhimaclecdpaaDoor.Base Go.Proofs.YtenhimaclecdpaaDoor.Ints
set_option linter.unusedVariables false
set_option linter.unusedSimpArgs false
set_option maxRecDepth 100000
theorem pop_stop : ∀ s : Fin 128, ∀ j : Fin 8, s.val / 2 ^ j.val = 0 → popN s.val j.val = popN s.val 8 := by decide +kernel
theorem pop_go : ∀ s : Fin 128, ∀ j : Fin 8, s.val / 2 ^ j.val ≠ 0 → j.val < 7 := by decide +kernel
theorem xor_add : ∀ s : Fin 128, ∀ a : Fin 2, s.val ^^^ (128 * a.val) = s.val + 128 * a.val := by decide +kernel
theorem chk_sum (v : Nat) : chk v = syn v 64 + 128 * ((popN v 64 + popN (syn v 64) 8) % 2) := by
  unfold chk
  have hs := syn_lt v 64
  rw [even_eq hs]
  have := xor_add ⟨syn v 64, hs⟩ ⟨(popN (syn v 64) 8 + popN v 64) % 2, by omega⟩
  simp only at this
  rw [this, Nat.add_comm (popN v 64)]
theorem xor_i64 (a b : Nat) (ha : a < 128) (hb : b < 128) : bits BinOp.xor IntKind.i64 (a : Int) (b : Int) = ((a ^^^ b : Nat) : Int) := by
  have h1 : (BitVec.ofInt 64 (a : Int)).toNat = a := by
    rw [BitVec.ofInt_natCast, BitVec.toNat_ofNat]; exact Nat.mod_eq_of_lt (by omega)
  have h2 : (BitVec.ofInt 64 (b : Int)).toNat = b := by
    rw [BitVec.ofInt_natCast, BitVec.toNat_ofNat]; exact Nat.mod_eq_of_lt (by omega)
  have hx : a ^^^ b < 2 ^ 7 := Nat.xor_lt_two_pow (by omega) (by omega)
  show IntKind.i64.wrap ((BitVec.ofInt 64 (a : Int) ^^^ BitVec.ofInt 64 (b : Int)).toNat : Int) = _
  rw [BitVec.toNat_xor, h1, h2, IntKind.wrap_i64]
  omega
set_option maxHeartbeats 8000000 in
theorem rcheckC (G : List UInt8) (hG : G.length = 8) (w : World) : Calls Tryd.prog 11 #[.agg (gC (G.map UInt8.toNat))] w fun e w' => e = .returned (.int .u8 (chk (wdN (G.map UInt8.toNat)) : Nat)) ∧ Upd Nil w w' := by
  have hU0 := (Upd.refl Nil w).alloc (.cells (gC (G.map UInt8.toNat)) 22)
  have hb0 := blk_new w (.cells (gC (G.map UInt8.toNat)) 22)
  have hgC := gC_bc G
  have hbit : ∀ j, j < 64 → (wdN (G.map UInt8.toNat)).testBit j = (G.getD (j / 8) 0).toNat.testBit (j % 8) := fun j hj => by
    rw [wd_bit _ (map_lt G)]
    congr 1
    rw [List.getD_eq_getElem?_getD, List.getD_eq_getElem?_getD, List.getElem?_map, List.getElem?_eq_getElem (by omega)]
    rfl
  generalize hcc : gC (G.map UInt8.toNat) = cG at *
  clear hcc
  have hbitH := Lib.hid hbit
  have hckH := Lib.hid (chk_sum (wdN (G.map UInt8.toNat)))
  clear hbit
  generalize chk (wdN (G.map UInt8.toNat)) = r at *
  generalize wdN (G.map UInt8.toNat) = V at *
  go_enter Tryd.func11, Tryd.ntmps11
  go_upto_region 2 with fail
  generalize w.alloc (.cells cG 22) = w0 at *
  go_wp2_with fail
  refine (rplacesC _).mono ?_
  rintro e w1 ⟨A, c, rfl, hP, hU1⟩
  have hAp := hP.cells ic_len (by omega)
  have hb1 := hU1.blk hb0 (fun h => h)
  have hV1 := hU0.tr hU1
  clear hb0 hU0 hU1 hP
  have hpl := plN_last
  go_upto_region 3 with fail
  go_loopw [3, 4, 10] (fun s3 s4 s10 wr => ∃ (i : Nat), i ≤ 64 ∧ s10 = .int .i64 (i : Int) ∧ s3 = .int .i64 ((syn V i : Nat) : Int) ∧ s4 = .int .i64 ((popN V i : Nat) : Int) ∧ wr = w1) (fun _ _ s10 _ => 64 - (intOf s10).toNat)
  case atStart => exact ⟨0, by omega, rfl, rfl, rfl, rfl⟩
  case round =>
    obtain ⟨i, hi, rfl, rfl, rfl, rfl⟩ := hrel
    by_cases hlt : i < 64
    · have hI : (i : Int) < 64 := by omega
      obtain ⟨g, o, rfl, hg, y0⟩ := ic_cell hAp (i := i) (by omega)
      rw [plN_get i hlt] at y0
      have kb := rbitC (some ⟨w.heap.size, 0, none⟩) 8 G i wr (arg_lit bc_len hb1 hgC) (by omega) (by omega)
      rw [hG, ← hbitH.out i hlt] at kb
      have hs := syn_lt V i
      have hp := pl_lt' i
      have hx := xor_i64 (syn V i) (pl i) hs hp
      have hpn := pop_le V i
      have hsy : syn V (i + 1) = if V.testBit i then syn V i ^^^ pl i else syn V i := rfl
      have hpo : popN V (i + 1) = popN V i + (V.testBit i).toNat := rfl
      cases hb : V.testBit i with
      | true =>
        rw [hb] at kb hsy hpo
        simp only [if_true, Bool.toNat_true] at hsy hpo
        rw [show ((true.toNat : Nat) : Int) = 1 from rfl] at kb
        have hsyH := Lib.hid (And.intro hsy hpo)
        clear hsy hpo hb
        generalize syn V i ^^^ pl i = s2 at *
        generalize syn V i = s1 at *
        generalize popN V i = p1 at *
        generalize pl i = pi at *
        go_wp2_with fail
        refine kb.mono ?_
        rintro e w' ⟨rfl, rfl⟩
        go_wp2_with fail
        go_roundw
        case measure => simp [intOf]; omega
        case rel => exact ⟨i + 1, by omega, by go_num, by rw [hsyH.out.1], by rw [hsyH.out.2]; go_num, trivial⟩
      | false =>
        rw [hb] at kb hsy hpo
        simp only [Bool.false_eq_true, if_false, Bool.toNat_false, Nat.add_zero] at hsy hpo
        rw [show ((false.toNat : Nat) : Int) = 0 from rfl] at kb
        have hsyH := Lib.hid (And.intro hsy hpo)
        clear hsy hpo hb
        generalize syn V i ^^^ pl i = s2 at *
        generalize syn V i = s1 at *
        generalize popN V i = p1 at *
        generalize pl i = pi at *
        go_wp2_with fail
        refine kb.mono ?_
        rintro e w' ⟨rfl, rfl⟩
        go_wp2_with fail
        go_roundw
        case measure => simp [intOf]; omega
        case rel => exact ⟨i + 1, by omega, by go_num, by rw [hsyH.out.1], by rw [hsyH.out.2], trivial⟩
    · obtain rfl : i = 64 := by omega
      have hs := syn_lt V 64
      have hpn := pop_le V 64
      have hck := hckH.out
      clear hckH hbitH
      obtain ⟨s, hse⟩ : ∃ s, s = syn V 64 := ⟨_, rfl⟩
      obtain ⟨n, hne⟩ : ∃ n, n = popN V 64 := ⟨_, rfl⟩
      rw [← hse, ← hne] at hck
      rw [← hse] at hs ⊢
      rw [← hne] at hpn ⊢
      clear hse hne
      go_wp2_with fail
      go_loopw [4, 7] (fun s4 s7 wq => ∃ (j : Nat), j ≤ 7 ∧ s7 = .int .i64 ((s / 2 ^ j : Nat) : Int) ∧ s4 = .int .i64 ((n + popN s j : Nat) : Int) ∧ wq = wr) (fun _ s7 _ => (intOf s7).toNat)
      case atStart => exact ⟨0, by omega, by simp, rfl, rfl⟩
      case round =>
        obtain ⟨j, hj, rfl, rfl, rfl⟩ := hrel
        have hvb : s / 2 ^ j < 128 := Nat.lt_of_le_of_lt (Nat.div_le_self _ _) hs
        have hpj := pop_le s j
        by_cases hz : s / 2 ^ j = 0
        · have hpe := pop_stop ⟨s, hs⟩ ⟨j, by omega⟩ hz
          simp only at hpe
          rw [hpe]
          rw [hpe] at hpj
          have hp8 := pop_le s 8
          rw [hz]
          clear hz hpe hvb
          generalize popN s 8 = p8 at *
          have ht := tmod2 (n + p8)
          have hn2 : (n + p8) % 2 < 2 := by omega
          have hcH := Lib.hid hck
          clear hck
          generalize n + p8 = np at *
          generalize np % 2 = b2 at *
          have hw1 : IntKind.i64.wrap (b2 : Int) = (b2 : Int) := by rw [IntKind.wrap_i64]; omega
          have hw2 : IntKind.i64.wrap (128 * (b2 : Int)) = 128 * (b2 : Int) := by rw [IntKind.wrap_i64]; omega
          have hw3 : IntKind.i64.wrap ((s : Int) + 128 * (b2 : Int)) = ((s + 128 * b2 : Nat) : Int) := by rw [IntKind.wrap_i64]; omega
          have hw4 : IntKind.u8.wrap ((s + 128 * b2 : Nat) : Int) = ((s + 128 * b2 : Nat) : Int) := by simp [IntKind.wrap, IntKind.bits, IntKind.signed]; omega
          generalize s + 128 * b2 = res at *
          go_wp2_with fail
          go_ret
          exact ⟨by rw [hcH.out]; rfl, hV1⟩
        · have hj7 := pop_go ⟨s, hs⟩ ⟨j, by omega⟩ hz
          simp only at hj7
          have hst := Lib.hid (div_step s j)
          have hpo : popN s (j + 1) = popN s j + (s.testBit j).toNat := rfl
          rw [← bit_nat] at hpo
          have hpoH := Lib.hid hpo
          clear hpo
          generalize s / 2 ^ j = v at *
          have hv0 : (0 : Int) < (v : Int) := by omega
          have ht := tdiv2 v
          have hm := tmod2 v
          have hvH := Lib.hid (show v / 2 < v by omega)
          have hv2 : v / 2 < 128 := by omega
          have hm2 : v % 2 < 2 := by omega
          generalize v / 2 = v2 at *
          generalize v % 2 = b2 at *
          generalize popN s j = pj at *
          have hw1 : IntKind.i64.wrap (v2 : Int) = (v2 : Int) := by rw [IntKind.wrap_i64]; omega
          have hw2 : IntKind.i64.wrap (b2 : Int) = (b2 : Int) := by rw [IntKind.wrap_i64]; omega
          have hw3 : IntKind.i64.wrap (((n + pj : Nat) : Int) + (b2 : Int)) = ((n + (pj + b2) : Nat) : Int) := by rw [IntKind.wrap_i64]; omega
          go_wp2_with fail
          go_roundw
          case measure => have := hvH.out; simp [intOf]; omega
          case rel => exact ⟨j + 1, by omega, by rw [hst.out], by rw [hpoH.out]; go_num, trivial⟩
end Go.Proofs.YtenhimaclecdpaaDoor.Ecc
