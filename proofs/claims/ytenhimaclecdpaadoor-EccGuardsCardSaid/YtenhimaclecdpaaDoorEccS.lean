/-
  The reference's Places and bit. Conditions: none.
-/
import Derived.Test.YtenhimaclecdpaaDoorEccR
import Derived.Test.YtenhimaclecdpaaDoorInts
namespace Go.Proofs.YtenhimaclecdpaaDoor.Ecc
open Go.RowKit Go.Proofs.YtenhimaclecdpaaDoor.Base Go.Proofs.YtenhimaclecdpaaDoor.Ints
set_option linter.unusedVariables false
set_option linter.unusedSimpArgs false
set_option maxRecDepth 100000
/-- The places below a number. -/
def plN (n : Nat) : List Int := ((List.range n).filter fun n => n &&& (n - 1) != 0).map fun n : Nat => (n : Int)
theorem plN_len : ∀ n, n < 72 → (plN n).length < 64 := by decide +kernel
theorem plN_last : (plN 72).length = 64 := by decide +kernel
theorem plN_one : plN 1 = [] := by decide +kernel
theorem plN_yes : ∀ n, n < 72 → 1 ≤ n → ((List.range 7).any fun i => n == 2 ^ i) = true → plN (n + 1) = plN n := by decide +kernel
theorem plN_no : ∀ n, n < 72 → 1 ≤ n → ((List.range 7).any fun i => n == 2 ^ i) = false → plN (n + 1) = plN n ++ [(n : Int)] := by decide +kernel
theorem plN_get : ∀ i (h : i < 64), (plN 72)[i]'(by rw [plN_last]; exact h) = (pl i : Nat) := by decide +kernel
theorem any_step {p : Nat → Bool} (j : Nat) : (List.range (j + 1)).any p = ((List.range j).any p || p j) := by rw [List.range_succ, List.any_append]; simp
set_option maxHeartbeats 4000000 in
theorem rplacesC (w : World) : Calls Tryd.prog 22 #[] w fun e w' => ∃ A c, e = .returned (.slice A 64 c) ∧ Sl w' w.heap.size 3 1 ic (.slice A 64 c) (plN 72) ∧ Upd Nil w w' := by
  go_enter Tryd.func22, Tryd.ntmps22
  go_upto_region 3 with fail
  go_loopw [1, 2] (fun s1 s2 wr => ∃ n : Nat, 1 ≤ n ∧ n ≤ 72 ∧ s2 = .int .i64 (n : Int) ∧ Sl wr w.heap.size 3 1 ic s1 (plN n) ∧ Upd Nil w wr) (fun _ s2 _ => 72 - (intOf s2).toNat)
  case atStart => exact ⟨1, by omega, by omega, rfl, by rw [plN_one]; exact Sl.nil _ _ _ _ _, Upd.refl _ _⟩
  case round =>
    obtain ⟨n, hn1, hn2, rfl, hV, hU⟩ := hrel
    by_cases hlt : n < 72
    · have hl := plN_len n hlt
      have hlI : ((plN n).length : Int) < 64 := by omega
      obtain ⟨E, c, rfl, hc⟩ := hV.form
      have hyes := Lib.hid (plN_yes n hlt hn1)
      have hno := Lib.hid (plN_no n hlt hn1)
      generalize plN n = L at *
      go_wp2_with fail
      go_loopw [3, 4] (fun s3 s4 wq => ∃ (j p : Nat), j ≤ 7 ∧ p = 2 ^ j ∧ s4 = .int .i64 (p : Int) ∧ s3 = .bool ((List.range j).any fun i => n == 2 ^ i) ∧ wq = wr) (fun _ s4 _ => 200 - (intOf s4).toNat)
      case atStart => exact ⟨0, 1, by omega, rfl, rfl, rfl, rfl⟩
      case round =>
        obtain ⟨j, p, hj, hp, rfl, rfl, rfl⟩ := hrel
        by_cases hj7 : j < 7
        · have hp64 : p ≤ 64 := by rw [hp]; exact Nat.le_trans (Nat.pow_le_pow_right (by omega) (show j ≤ 6 by omega)) (by decide)
          have hpI : (p : Int) ≤ 64 := by omega
          have hp0 : 0 < p := by rw [hp]; exact Nat.two_pow_pos j
          have hst := Lib.hid (any_step (p := fun i => n == 2 ^ i) j)
          have hp2 : p * 2 = 2 ^ (j + 1) := by rw [hp, Nat.pow_succ]
          have hpH := Lib.hid hp
          clear hp
          cases hb : (List.range j).any fun i => n == 2 ^ i with
          | true =>
            go_wp2_with fail
            go_roundw
            case measure => simp [intOf]; omega
            case rel => exact ⟨j + 1, p * 2, by omega, hp2, by go_num, by rw [hst.out, hb]; rfl, trivial⟩
          | false =>
            by_cases hn : n = p
            · have hnI : (n : Int) = (p : Int) := by rw [hn]
              go_wp2_with fail
              go_roundw
              case measure => simp [intOf]; omega
              case rel => exact ⟨j + 1, p * 2, by omega, hp2, by go_num, by rw [hst.out, hb, hn, hpH.out]; simp, trivial⟩
            · have hnI : ¬ (n : Int) = (p : Int) := by omega
              have hnb : (n == 2 ^ j) = false := by rw [← hpH.out]; simpa using hn
              go_wp2_with fail
              go_roundw
              case measure => simp [intOf]; omega
              case rel => exact ⟨j + 1, p * 2, by omega, hp2, by go_num, by rw [hst.out, hb, hnb]; first | rfl | (simp [hnI]), trivial⟩
        · obtain rfl : j = 7 := by omega
          obtain rfl : p = 128 := hp
          cases hb : (List.range 7).any fun i => n == 2 ^ i with
          | true =>
            have e := hyes.out hb
            clear hyes hno
            go_wp2_with fail
            go_roundw
            case measure => simp [intOf]; omega
            case rel => exact ⟨n + 1, by omega, by omega, by go_num, by rw [e]; exact hV, hU⟩
          | false =>
            have e := hno.out hb
            clear hyes hno
            have hs := hU.size
            have hbd : (L.length + 1) * 8 ≤ 140737488355328 ∧ L.length + 1 ≤ maxLen := by unfold maxLen; omega
            go_wp2_with (at_builtin; refine wp_app1 w.heap.size rfl (.tmp 22) (.tmp 24) elemI rfl wr (n : Int) (by rfl) (.slice E L.length c) L (by simp [Act.eval]) (by simp [Act.eval]) hV hs hbd.1 hbd.2 ?_; intro A3 c3 w3 hv3 hg3 hat3)
            have hU3 := hU.grownOwn hV (Nat.le_refl _) hg3
            go_roundw
            case measure => simp [intOf]; omega
            case rel => exact ⟨n + 1, by omega, by omega, by go_num, by rw [e]; simpa using hv3, hU3⟩
    · obtain rfl : n = 72 := by omega
      obtain ⟨E, c, rfl, hc⟩ := hV.form
      rw [plN_last] at hV ⊢
      go_wp2_with fail
      go_ret
      exact ⟨_, _, rfl, hV, hU⟩
theorem tdiv2 (v : Nat) : Int.tdiv (v : Int) 2 = ((v / 2 : Nat) : Int) := by rw [Int.tdiv_eq_ediv_of_nonneg (by omega)]; omega
theorem tmod2 (v : Nat) : Int.tmod (v : Int) 2 = ((v % 2 : Nat) : Int) := by rw [Int.tmod_eq_emod_of_nonneg (by omega)]; omega
theorem div_step (x k : Nat) : x / 2 ^ (k + 1) = x / 2 ^ k / 2 := by rw [Nat.pow_succ, Nat.div_div_eq_div_mul]
theorem bit_nat (x k : Nat) : x / 2 ^ k % 2 = (x.testBit k).toNat := by
  rw [Nat.testBit_eq_decide_div_mod_eq]
  by_cases h : x / 2 ^ k % 2 = 1
  · rw [h]; rfl
  · have : x / 2 ^ k % 2 = 0 := by omega
    rw [this]; rfl
set_option maxHeartbeats 4000000 in
theorem rbitC (A : Option Addr) (c : Nat) (b : List UInt8) (i : Nat) (w : World) (hA : Arg w A 1 bc b) (hi : i / 8 < b.length) (hi2 : i ≤ 1000000) : Calls Tryd.prog 23 #[.slice A b.length c, .int .i64 (i : Int)] w fun e w' => e = .returned (.int .i64 (((b.getD (i / 8) 0).toNat.testBit (i % 8)).toNat : Nat)) ∧ w' = w := by
  obtain ⟨g, o, rfl, hg, y0⟩ := byte_at hA hi
  have hgd : b.getD (i / 8) 0 = b[i / 8] := by rw [List.getD_eq_getElem?_getD, List.getElem?_eq_getElem hi]; rfl
  rw [hgd]
  have hx := b[i / 8].toNat_lt
  generalize b[i / 8].toNat = x at *
  obtain ⟨q, hqe⟩ : ∃ q, q = i / 8 := ⟨_, rfl⟩
  obtain ⟨m, hme⟩ : ∃ m, m = i % 8 := ⟨_, rfl⟩
  rw [← hqe] at y0 hi
  rw [← hme, ← bit_nat]
  obtain ⟨r, hr⟩ : ∃ r, r = x / 2 ^ m % 2 := ⟨_, rfl⟩
  rw [← hr]
  have hrH := Lib.hid hr
  clear hr
  have hm : m < 8 := by omega
  have hq : q ≤ 1000000 := by omega
  have hq8 : Int.tdiv (i : Int) 8 = (q : Int) := by rw [Int.tdiv_eq_ediv_of_nonneg (by omega)]; omega
  have hm8 : Int.tmod (i : Int) 8 = (m : Int) := by rw [Int.tmod_eq_emod_of_nonneg (by omega)]; omega
  have hw8 : IntKind.i64.wrap (q : Int) = (q : Int) := by rw [IntKind.wrap_i64]; omega
  have hw9 : IntKind.i64.wrap (m : Int) = (m : Int) := by rw [IntKind.wrap_i64]; omega
  have hwx : IntKind.i64.wrap (x : Int) = (x : Int) := by rw [IntKind.wrap_i64]; omega
  have hqI : (q : Int) < (b.length : Int) := by omega
  clear hgd hqe hme hA hi2
  go_enter Tryd.func23, Tryd.ntmps23
  go_wp2_with fail
  go_loopw [5, 6] (fun s5 s6 wr => ∃ (k : Nat), k ≤ m ∧ s6 = .int .i64 (k : Int) ∧ s5 = .int .i64 ((x / 2 ^ k : Nat) : Int) ∧ wr = w) (fun _ s6 _ => m - (intOf s6).toNat)
  case atStart => exact ⟨0, by omega, rfl, by simp, rfl⟩
  case round =>
    obtain ⟨k, hk, rfl, rfl, rfl⟩ := hrel
    have hv : x / 2 ^ k < 256 := Nat.lt_of_le_of_lt (Nat.div_le_self _ _) hx
    by_cases hlt : k < m
    · have hI : (k : Int) < (m : Int) := by omega
      have hst := Lib.hid (div_step x k)
      generalize x / 2 ^ k = v at *
      have ht := tdiv2 v
      have hv2 : v / 2 < 256 := by omega
      generalize v / 2 = v2 at *
      have hw : IntKind.i64.wrap (v2 : Int) = (v2 : Int) := by rw [IntKind.wrap_i64]; omega
      go_wp2_with fail
      go_roundw
      case measure => simp [intOf]; omega
      case rel => exact ⟨k + 1, by omega, by go_num, by rw [hst.out], trivial⟩
    · obtain rfl : k = m := by omega
      have hre := hrH.out
      generalize x / 2 ^ k = v at *
      have ht := tmod2 v
      have hv2 : v % 2 < 256 := by omega
      rw [← hre] at hv2 ht
      clear hre hrH
      have hw : IntKind.i64.wrap (r : Int) = (r : Int) := by rw [IntKind.wrap_i64]; omega
      go_wp2_with fail
      go_ret
      exact ⟨rfl, rfl⟩
end Go.Proofs.YtenhimaclecdpaaDoor.Ecc
