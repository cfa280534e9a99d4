/-
  Which set any bytes are, or that they are none, is what the document says: the plain law and the walk. Conditions: what the arguments' slices hold; the table of Go's library is as it was laid.
-/
import Derived.Test.YtjkojhebgkgdaaaDoorBitV
namespace Go.Proofs.YtjkojhebgkgdaaaDoor.Bit
open Go.RowKit Go.Proofs.YtjkojhebgkgdaaaDoor.Base Go.Proofs.YtjkojhebgkgdaaaDoor.Ints Go.Proofs.YtjkojhebgkgdaaaDoor.Ecc Go.Proofs.YtjkojhebgkgdaaaDoor.Word
set_option linter.unusedVariables false
set_option linter.unusedSimpArgs false
set_option maxRecDepth 100000
theorem size_bytes {L : List Bool} (h : L.length ≤ 4096) : sizeB (bytesL L) = L.length := by
  unfold sizeB bytesL
  rw [List.take_append_of_le_length (by rw [le_len]; omega), List.take_of_length_le (by rw [le_len]; omega), num_le]
  exact Nat.mod_eq_of_lt (by omega)
theorem bit_bytes {L : List Bool} {n : Nat} (h : n < L.length) : bitB (bytesL L) n = bitAt L n := by
  have hb : (bytesL L).getD (2 + n / 8) 0 = UInt8.ofNat (byteL L (n / 8)) := by
    unfold bytesL
    rw [List.getD_eq_getElem?_getD, List.getElem?_append_right (by rw [le_len]; omega), le_len, Nat.add_sub_cancel_left]
    unfold bodyL
    rw [List.getElem?_map, List.getElem?_range (by omega)]
    rfl
  unfold bitB
  rw [hb, UInt8.toNat_ofNat', Nat.mod_eq_of_lt (byteL_lt L _)]
  unfold byteL
  rw [wv_bit]
  simp only [show n % 8 < 8 by omega, decide_true, Bool.true_and, show 8 * (n / 8) + n % 8 = n by omega]
theorem raw_bytes {L : List Bool} (h : L.length ≤ 4096) : rawL (bytesL L) = L := by
  unfold rawL
  rw [size_bytes h]
  refine bit_ext (by simp) (fun i hi => ?_)
  simp only [List.length_map, List.length_range] at hi
  rw [← bit_bytes hi]
  unfold bitAt
  rw [List.getD_eq_getElem?_getD, List.getElem?_map, List.getElem?_range hi]
  rfl
theorem parse_bytes {L : List Bool} (h : L.length ≤ 4096) : parseL (bytesL L) = some L := by
  unfold parseL
  rw [if_neg (by rw [bytesL_len, size_bytes h]; omega), raw_bytes h, if_pos rfl]
set_option maxHeartbeats 8000000 in
theorem parsesC (A B : Option Addr) (ca cb : Nat) (b : List UInt8) (l : List Int) (w : World) (hA : Arg w A 1 bc b) (hc : b.length ≤ ca) (hcm : ca ≤ maxLen) (hB : Arg w B 1 ic l) (hT : Tab w) :
    Calls Tryd.prog 3 #[.slice A b.length ca, .slice B l.length cb] w (RetB true w) := by
  have hF := fixedC w hT
  by_cases h6 : 600 < b.length
  · have h6I : (600 : Int) < (b.length : Int) := by omega
    go_enter Tryd.func3, Tryd.ntmps3
    go_wp2_with fail
    refine hF.mono ?_
    rintro e w1 ⟨rfl, hU1⟩
    go_wp2_with fail
    go_ret
    exact ⟨rfl, hU1⟩
  have h6I : ¬ (600 : Int) < (b.length : Int) := by omega
  by_cases h1 : 100 < l.length
  · have h1I : (100 : Int) < (l.length : Int) := by omega
    go_enter Tryd.func3, Tryd.ntmps3
    go_wp2_with fail
    refine hF.mono ?_
    rintro e w1 ⟨rfl, hU1⟩
    go_wp2_with fail
    go_ret
    exact ⟨rfl, hU1⟩
  have h1I : ¬ (100 : Int) < (l.length : Int) := by omega
  have k1 := fun w hA => parseC A ca b w hA (by omega)
  have k2 := fun w hA => rparseC A ca b w hA hc hcm (by omega)
  cases hp : parseL b with
  | none =>
    rw [hp] at k1 k2
    go_enter Tryd.func3, Tryd.ntmps3
    go_wp2_with fail
    refine hF.mono ?_
    rintro e w1 ⟨rfl, hU1⟩
    go_wp2_with fail
    refine (k1 _ (hA.upd hU1)).mono ?_
    rintro e w2 ⟨hU2, rfl⟩
    have hU02 := hU1.tr hU2
    go_wp2_with fail
    refine (k2 _ (hA.upd hU02)).mono ?_
    rintro e w3 ⟨hU3, rfl⟩
    have hU03 := hU02.tr hU3
    clear k1 k2 hF
    have hA5 := hB.upd hU03
    have kn : Calls Tryd.prog 10 #[.int .i64 300, .slice B l.length cb] w3 _ := newC 300 (by omega) B cb l w3 hA5 (by omega)
    have hT5 := hT.upd hU03
    have hUx := hU03
    go_wp2_with fail
    refine kn.mono ?_
    rintro e w6 ⟨g6, gb6, rfl, _, _, hs6, hU6⟩
    have hTl : (newL 300 l).length = 300 := newL_len 300 l
    generalize newL 300 l = T at *
    have hU06 := hUx.tr hU6
    have kb := bytesC T g6 gb6 w6 hs6 (by omega)
    clear kn hU6 hA5
    go_wp2_with fail
    refine kb.mono ?_
    rintro e w7 ⟨v7, rfl, hv7, hU7⟩
    obtain ⟨A7, c7, rfl, _⟩ := hv7.form
    have hs7 := hs6.upd0 hU7
    have hU07 := hU06.tr hU7
    have kp := parseC A7 c7 (bytesL T) w7 (hv7.cells bc_len (by omega)) (by rw [bytesL_len]; omega)
    rw [parse_bytes (by omega)] at kp
    clear kb hs6 hU7 hv7
    go_wp2_with fail
    refine kp.mono ?_
    rintro e w8 ⟨hU8, g8, gb8, rfl, _, _, hs8, _⟩
    have hU08 := hU07.tr hU8
    have ht8 := hs7.upd0 hU8
    have ka := allC T g8 gb8 w8 hs8 (by omega) (hT.upd hU08)
    have hal := allI_len T
    have hup : (allL T).length ≤ 4096 := Nat.le_trans (upto_len T T.length) (by omega)
    generalize (allL T).length = nn at *
    clear kp hs7 hU8
    go_wp2_with fail
    refine ka.mono ?_
    rintro e w9 ⟨v9, rfl, hv9, hU9⟩
    obtain ⟨A9, c9, rfl, _⟩ := hv9.form
    rw [hal] at hv9 ⊢
    have hU09 := hU08.tr hU9
    have kb := allC T g6 gb6 w9 (ht8.upd0 hU9) (by omega) (hT.upd hU09)
    clear ka
    go_wp2_with fail
    refine kb.mono ?_
    rintro e w10 ⟨v10, rfl, hv10, hU10⟩
    obtain ⟨A10, c10, rfl, _⟩ := hv10.form
    rw [hal] at hv10 ⊢
    have hU010 := hU09.tr hU10
    have ks := sameC A9 A10 (allI T) c9 c10 w10 ((hv9.upd0 hU10).cells ic_len (by omega)) (hv10.cells ic_len (by omega)) (by omega)
    rw [hal] at ks
    clear kb
    go_wp2_with fail
    refine ks.mono ?_
    rintro e w11 ⟨rfl, hU11⟩
    have kz := sizeC T g8 gb8 w11 (((hs8.upd0 hU9).upd0 hU10).upd0 hU11)
    rw [hTl] at kz
    have hU011 := hU010.tr hU11
    clear ks hv9 hv10
    go_wp2_with fail
    refine kz.mono ?_
    rintro e w12 ⟨rfl, rfl⟩
    go_wp2_with fail
    go_ret
    exact ⟨rfl, hU011⟩
  | some L =>
    rw [hp] at k1 k2
    go_enter Tryd.func3, Tryd.ntmps3
    go_wp2_with fail
    refine hF.mono ?_
    rintro e w1 ⟨rfl, hU1⟩
    go_wp2_with fail
    refine (k1 _ (hA.upd hU1)).mono ?_
    rintro e w2 ⟨hU2, g2, gb2, rfl, _, _, hs2, hL⟩
    have hU02 := hU1.tr hU2
    go_wp2_with fail
    refine (k2 _ (hA.upd hU02)).mono ?_
    rintro e w3 ⟨hU3, g3, rfl, _, hr3⟩
    have hU03 := hU02.tr hU3
    have kl := likeC L g2 gb2 (some ⟨g3, 0, none⟩) L.length w3 (hs2.upd0 hU3) (hr3.cells bc1_len (by omega)) hL (hT.upd hU03)
    clear k1 k2 hF hs2 hr3
    go_wp2_with fail
    refine kl.mono ?_
    rintro e w4 ⟨rfl, hU4⟩
    have hU04 := hU03.tr hU4
    clear kl
    have hA5 := hB.upd hU04
    have kn : Calls Tryd.prog 10 #[.int .i64 300, .slice B l.length cb] w4 _ := newC 300 (by omega) B cb l w4 hA5 (by omega)
    have hT5 := hT.upd hU04
    have hUx := hU04
    go_wp2_with fail
    refine kn.mono ?_
    rintro e w6 ⟨g6, gb6, rfl, _, _, hs6, hU6⟩
    have hTl : (newL 300 l).length = 300 := newL_len 300 l
    generalize newL 300 l = T at *
    have hU06 := hUx.tr hU6
    have kb := bytesC T g6 gb6 w6 hs6 (by omega)
    clear kn hU6 hA5
    go_wp2_with fail
    refine kb.mono ?_
    rintro e w7 ⟨v7, rfl, hv7, hU7⟩
    obtain ⟨A7, c7, rfl, _⟩ := hv7.form
    have hs7 := hs6.upd0 hU7
    have hU07 := hU06.tr hU7
    have kp := parseC A7 c7 (bytesL T) w7 (hv7.cells bc_len (by omega)) (by rw [bytesL_len]; omega)
    rw [parse_bytes (by omega)] at kp
    clear kb hs6 hU7 hv7
    go_wp2_with fail
    refine kp.mono ?_
    rintro e w8 ⟨hU8, g8, gb8, rfl, _, _, hs8, _⟩
    have hU08 := hU07.tr hU8
    have ht8 := hs7.upd0 hU8
    have ka := allC T g8 gb8 w8 hs8 (by omega) (hT.upd hU08)
    have hal := allI_len T
    have hup : (allL T).length ≤ 4096 := Nat.le_trans (upto_len T T.length) (by omega)
    generalize (allL T).length = nn at *
    clear kp hs7 hU8
    go_wp2_with fail
    refine ka.mono ?_
    rintro e w9 ⟨v9, rfl, hv9, hU9⟩
    obtain ⟨A9, c9, rfl, _⟩ := hv9.form
    rw [hal] at hv9 ⊢
    have hU09 := hU08.tr hU9
    have kb := allC T g6 gb6 w9 (ht8.upd0 hU9) (by omega) (hT.upd hU09)
    clear ka
    go_wp2_with fail
    refine kb.mono ?_
    rintro e w10 ⟨v10, rfl, hv10, hU10⟩
    obtain ⟨A10, c10, rfl, _⟩ := hv10.form
    rw [hal] at hv10 ⊢
    have hU010 := hU09.tr hU10
    have ks := sameC A9 A10 (allI T) c9 c10 w10 ((hv9.upd0 hU10).cells ic_len (by omega)) (hv10.cells ic_len (by omega)) (by omega)
    rw [hal] at ks
    clear kb
    go_wp2_with fail
    refine ks.mono ?_
    rintro e w11 ⟨rfl, hU11⟩
    have kz := sizeC T g8 gb8 w11 (((hs8.upd0 hU9).upd0 hU10).upd0 hU11)
    rw [hTl] at kz
    have hU011 := hU010.tr hU11
    clear ks hv9 hv10
    go_wp2_with fail
    refine kz.mono ?_
    rintro e w12 ⟨rfl, rfl⟩
    go_wp2_with fail
    go_ret
    exact ⟨rfl, hU011⟩
end Go.Proofs.YtjkojhebgkgdaaaDoor.Bit
