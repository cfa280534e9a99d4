/-
  A set that is read out of bytes. Conditions: each lemma's own.
-/
import Derived.Test.YtjkojhebgkgdaaaDoorBitQ
namespace Go.Proofs.YtjkojhebgkgdaaaDoor.Bit
open Go.RowKit Go.Proofs.YtjkojhebgkgdaaaDoor.Base Go.Proofs.YtjkojhebgkgdaaaDoor.Ecc Go.Proofs.YtjkojhebgkgdaaaDoor.Word
set_option linter.unusedVariables false
set_option linter.unusedSimpArgs false
set_option maxRecDepth 100000
theorem cvS {A : Option Addr} {l : List UInt8} {w : World} (h : Arg w A 1 bc l) (c : Nat) : (convert 22 9 (.slice A l.length c)).run Tryd.prog w = .ok (.string ⟨l.toArray⟩) w := run_bstr (P := Tryd.prog) Tryd.underlying22 Tryd.underlying5 Tryd.underlying9 h c
theorem equalC (A B : Option Addr) (a b : List UInt8) (ca cb : Nat) (w : World) (hA : Arg w A 1 bc a) (hB : Arg w B 1 bc b) : Calls Tryd.prog 29 #[.slice A a.length ca, .slice B b.length cb] w fun e w' => e = .returned (.bool (a == b)) ∧ w' = w := by
  have c1 := cvS hA ca
  have c2 := cvS hB cb
  have h1 := ByteArray.toList_mk a
  have h2 := ByteArray.toList_mk b
  generalize (⟨a.toArray⟩ : ByteArray) = s at *
  generalize (⟨b.toArray⟩ : ByteArray) = t at *
  go_enter Tryd.func29, Tryd.ntmps29
  go_wp2_with fail
  go_ret
  exact ⟨Ints.ret_b (by first | rfl | (rw [h1, h2])), rfl⟩
def sizeB (b : List UInt8) : Nat := num (b.take 2)
def bitB (b : List UInt8) (n : Nat) : Bool := (b.getD (2 + n / 8) 0).toNat.testBit (n % 8)
def rawL (b : List UInt8) : List Bool := (List.range (sizeB b)).map (bitB b)
/-- Which set bytes are. -/
def parseL (b : List UInt8) : Option (List Bool) := if b.length < 2 ∨ 4096 < sizeB b then none else if bytesL (rawL b) = b then some (rawL b) else none
def preL (b : List UInt8) (n : Nat) : List Bool := (List.range (sizeB b)).map fun i => decide (i < n) && bitB b i
theorem preL_len (b : List UInt8) (n : Nat) : (preL b n).length = sizeB b := by simp [preL]
theorem preL_bit (b : List UInt8) (n i : Nat) (h : i < sizeB b) : bitAt (preL b n) i = (decide (i < n) && bitB b i) := by
  unfold bitAt preL
  rw [List.getD_eq_getElem?_getD, List.getElem?_map, List.getElem?_range h]
  rfl
theorem preL_zero (b : List UInt8) : preL b 0 = List.replicate (sizeB b) false := by
  unfold preL
  simp only [Nat.not_lt_zero, decide_false, Bool.false_and]
  rw [List.map_const', List.length_range]
theorem preL_yes {b : List UInt8} {n : Nat} (h : n < sizeB b) (hb : bitB b n = true) : putI (preL b n) (n : Int) = preL b (n + 1) := by
  unfold putI
  rw [if_pos (by unfold inI; rw [preL_len]; simp; omega), Int.toNat_natCast]
  refine bit_ext (by simp [preL_len]) (fun i hi => ?_)
  rw [List.length_set, preL_len] at hi
  rw [bit_set _ _ _ (by rw [preL_len]; exact h), preL_bit _ _ _ hi, preL_bit _ _ _ hi]
  by_cases e : i = n
  · subst e
    rw [if_pos rfl, hb]
    simp
  · rw [if_neg e]
    simp only [show decide (i < n + 1) = decide (i < n) by simp; omega]
theorem preL_no {b : List UInt8} {n : Nat} (hb : bitB b n = false) : preL b (n + 1) = preL b n := by
  refine bit_ext (by simp [preL_len]) (fun i hi => ?_)
  rw [preL_len] at hi
  rw [preL_bit _ _ _ hi, preL_bit _ _ _ hi]
  by_cases e : i = n
  · subst e
    rw [hb, Bool.and_false, Bool.and_false]
  · simp only [show decide (i < n + 1) = decide (i < n) by simp; omega]
theorem bitB_out {b : List UInt8} {n : Nat} (h : 8 * (b.length - 2) ≤ n) (h2 : 2 ≤ b.length) : bitB b n = false := by
  unfold bitB
  rw [List.getD_eq_getElem?_getD, List.getElem?_eq_none (by omega)]
  simp
theorem preL_end {b : List UInt8} {k : Nat} (h2 : 2 ≤ b.length) (hk : sizeB b ≤ k ∨ 8 * (b.length - 2) ≤ k) : preL b k = rawL b := by
  unfold preL rawL
  refine List.map_congr_left fun i hi => ?_
  rw [List.mem_range] at hi
  by_cases h : i < k
  · simp [h]
  · rw [bitB_out (by omega) h2, Bool.and_false]
theorem size_lt (b : List UInt8) : sizeB b < 65536 := by
  have h := num_lt (b.take 2)
  have : (b.take 2).length ≤ 2 := List.length_take_le _ _
  exact Nat.lt_of_lt_of_le h (show 256 ^ (b.take 2).length ≤ 256 ^ 2 from Nat.pow_le_pow_right (by omega) this)
theorem u8_bit {x r : Nat} (hx : x < 256) : bits BinOp.and IntKind.u8 ((x : Int) / 2 ^ r) 1 = if x.testBit r then 1 else 0 := by
  have h : ((2 : Int) ^ r) = ((2 ^ r : Nat) : Int) := by rw [Int.natCast_pow]; rfl
  have h2 := u8_and_nat (x / 2 ^ r) 1 (Nat.lt_of_le_of_lt (Nat.div_le_self _ _) hx) (by omega)
  rw [h, ← Int.natCast_ediv]
  rw [show (((1 : Nat) : Int)) = 1 from rfl] at h2
  rw [h2, Nat.and_one_is_mod, bit_mod]
  split <;> rfl
def ParR (r : Option (List Bool)) (w : World) (e : Ending) (w' : World) : Prop := Upd Nil w w' ∧ match r with
  | none => e = .returned (.tuple #[.pointer none, .int .i64 2])
  | some L => ∃ g gb, e = .returned (.tuple #[.pointer (some ⟨g, 0, none⟩), .int .i64 0]) ∧ w.heap.size ≤ g ∧ w.heap.size ≤ gb ∧ SetAt w' g gb L ∧ L.length ≤ 4096
theorem number_short {b : List UInt8} (h : b.length < 2) : (Rd.number ⟨b, 0⟩ 2).1 = 0 := by
  unfold Rd.number
  rw [if_pos (by rfl)]
  simp only
  unfold Rd.next
  rw [if_neg (by simp), if_pos (by simpa using h)]
  rfl
theorem number_long {b : List UInt8} (h : ¬ b.length < 2) : (Rd.number ⟨b, 0⟩ 2).1 = sizeB b := by
  unfold Rd.number
  rw [if_pos (by rfl)]
  simp only
  unfold Rd.next
  rw [if_neg (by simp), if_neg (by simpa using h)]
  rfl
set_option maxHeartbeats 4000000 in
theorem parseC (A : Option Addr) (c : Nat) (b : List UInt8) (w : World) (hA : Arg w A 1 bc b) (hb : b.length ≤ 1000000) : Calls Tryd.prog 7 #[.slice A b.length c] w (ParR (parseL b) w) := by
  by_cases h2 : b.length < 2
  · have hz : parseL b = none := by unfold parseL; rw [if_pos (.inl h2)]
    have hnum := number_short h2
    rw [hz]
    go_enter Tryd.func7, Tryd.ntmps7
    go_wp2_with fail
    refine (Word.read A c b w hA (by omega)).mono ?_
    rintro e w1 ⟨rb, v, rfl, hrb, hr, hU1⟩
    have kn := Word.number _ rb v _ 2 w1 hr
    rw [hnum] at kn
    unfold RdR at kn
    go_wp2_with fail
    refine kn.mono ?_
    rintro e w2 ⟨rfl, _, hU2⟩
    have hU02 := hU1.trans hU2 (fun x hx => .inr (by have hx : x = rb := hx; omega))
    clear kn hr hU1 hU2
    have knew := newC 0 (by omega) none 0 [] w2 (.inl rfl) (by simp)
    go_wp2_with fail
    refine knew.mono ?_
    rintro e w3 ⟨g, gb, rfl, hg, hgb, hs, hU3⟩
    go_wp2_with fail
    exact bodyPost_ret (v := .tuple #[.pointer none, .int .i64 2]) (by simp [results, Tryd.results7, go_sem]) rfl ⟨hU02.tr hU3, rfl⟩
  have hnum := number_long h2
  have hsz := size_lt b
  by_cases h3 : 4096 < sizeB b
  · have hz : parseL b = none := by unfold parseL; rw [if_pos (.inr h3)]
    rw [hz]
    clear hz
    generalize sizeB b = sz at *
    go_enter Tryd.func7, Tryd.ntmps7
    go_wp2_with fail
    refine (Word.read A c b w hA (by omega)).mono ?_
    rintro e w1 ⟨rb, v, rfl, hrb, hr, hU1⟩
    have kn := Word.number _ rb v _ 2 w1 hr
    rw [hnum] at kn
    unfold RdR at kn
    go_wp2_with fail
    refine kn.mono ?_
    rintro e w2 ⟨rfl, _, hU2⟩
    have hU02 := hU1.trans hU2 (fun x hx => .inr (by have hx : x = rb := hx; omega))
    clear kn hr hU1 hU2
    have knew := newN (sz : Int) (by omega) (.slice none 0 0) w2
    go_wp2_with fail
    refine knew.mono ?_
    rintro e w3 ⟨rfl, rfl⟩
    go_wp2_with fail
    exact bodyPost_ret (v := .tuple #[.pointer none, .int .i64 2]) (by simp [results, Tryd.results7, go_sem]) rfl ⟨hU02, rfl⟩
  have hz : Hid (parseL b = if bytesL (rawL b) = b then some (rawL b) else none) := by
    show _ = _
    unfold parseL
    rw [if_neg (by omega)]
  generalize hsb : sizeB b = sz at *
  have hsbH := Lib.hid hsb
  clear hsb
  go_enter Tryd.func7, Tryd.ntmps7
  go_wp2_with fail
  refine (Word.read A c b w hA (by omega)).mono ?_
  rintro e w1 ⟨rb, v, rfl, hrb, hr, hU1⟩
  have kn := Word.number _ rb v _ 2 w1 hr
  rw [hnum] at kn
  unfold RdR at kn
  go_wp2_with fail
  refine kn.mono ?_
  rintro e w2 ⟨rfl, _, hU2⟩
  have hU02 := hU1.trans hU2 (fun x hx => .inr (by have hx : x = rb := hx; omega))
  clear kn hr hU1 hU2
  have knew := newC sz (by omega) none 0 [] w2 (.inl rfl) (by simp)
  rw [show newL sz [] = preL b 0 by rw [preL_zero, hsbH.out]; rfl] at knew
  go_wp2_with fail
  refine knew.mono ?_
  rintro e w3 ⟨g, gb, rfl, hg, hgb, hs, hU3⟩
  have hU03 := hU02.tr hU3
  have c0 := blk_cell hs.1 0
  simp only [List.getElem?_toArray, List.getElem?_cons_zero, List.getElem?_cons_succ] at c0
  rw [preL_len, hsbH.out] at c0
  obtain ⟨k, hk⟩ : ∃ k : Nat, (k : Int) = min (sz : Int) (8 * ((b.length : Int) - 2)) := ⟨(min (sz : Int) (8 * ((b.length : Int) - 2))).toNat, by omega⟩
  have hg0 := hU02.size
  clear knew
  go_wp2_with fail
  rw [← hk]
  have hpe := Lib.hid (preL_end (b := b) (k := k) (by omega) (by rw [hsbH.out]; omega))
  have hkb := Lib.hid (show k ≤ sz ∧ (∀ n, n < k → 2 + n / 8 < b.length) from ⟨by omega, fun n hn => by omega⟩)
  have hk9 : k ≤ 4096 := by omega
  clear hk c0
  go_loopw [28] (fun s28 wr => ∃ n : Nat, n ≤ k ∧ s28 = .int .i64 (n : Int) ∧ SetAt wr g gb (preL b n) ∧ Upd Nil w wr) (fun s28 _ => k - (intOf s28).toNat)
  case atStart => exact ⟨0, by omega, by go_num, hs, hU03⟩
  case round =>
    clear hs hU03
    obtain ⟨n, hn, rfl, hs, hU⟩ := hrel
    by_cases hlt : n < k
    · have hI : (n : Int) < (k : Int) := by omega
      have hin := hkb.out.2 n hlt
      obtain ⟨ga, oa, rfl, hga, hcell⟩ : ∃ g o, A = some ⟨g, o, none⟩ ∧ g < wr.heap.size ∧ wr.cell? ⟨g, o + (2 + n / 8), none⟩ = some (.int .u8 (b[2 + n / 8].toNat : Nat)) := by
        rcases hA.upd hU with h | ⟨g, o, h1, h2, h3⟩
        · rw [h] at hin; simp at hin
        · exact ⟨g, o, h1, h2, by simpa [bc] using h3 (2 + n / 8) hin 0 (by omega)⟩
      have hdq : Int.tdiv (n : Int) 8 = ((n / 8 : Nat) : Int) := by rw [Int.tdiv_eq_ediv_of_nonneg (by omega)]; omega
      have hdr : Int.tmod (n : Int) 8 = ((n % 8 : Nat) : Int) := by rw [Int.tmod_eq_emod_of_nonneg (by omega)]; omega
      have hr8 : n % 8 < 8 := Nat.mod_lt _ (by omega)
      have hq9 : n / 8 ≤ 512 := by omega
      have hw2 : IntKind.i64.wrap (2 + ((n / 8 : Nat) : Int)) = ((2 + n / 8 : Nat) : Int) := by rw [IntKind.wrap_i64]; omega
      have hinI : ((2 + n / 8 : Nat) : Int) < (b.length : Int) := by omega
      have hbit := u8_bit (x := b[2 + n / 8].toNat) (r := n % 8) b[2 + n / 8].toNat_lt
      have hbb : bitB b n = b[2 + n / 8].toNat.testBit (n % 8) := by
        unfold bitB
        rw [List.getD_eq_getElem?_getD, List.getElem?_eq_getElem hin]
        rfl
      rw [← hbb] at hbit
      have hx8 := b[2 + n / 8].toNat_lt
      have hns : n < sizeB b := by rw [hsbH.out]; have := hkb.out.1; omega
      clear hbb
      generalize b[2 + n / 8].toNat = x at *
      clear hin
      generalize hqq : 2 + n / 8 = q2 at *
      clear hqq
      generalize n / 8 = q at *
      generalize n % 8 = r at *
      cases hy : bitB b n with
      | true =>
        rw [hy] at hbit
        simp only [if_true] at hbit
        have kp := putC (preL b n) g gb n wr hs (by rw [preL_len, hsbH.out]; omega)
        rw [preL_yes hns hy] at kp
        clear hs hy hns
        go_wp2_with fail
        refine kp.mono ?_
        rintro e w4 ⟨rfl, hs4, hU4⟩
        have hU5 := hU.trans hU4 (fun x hx => .inr (by have hx : x = gb := hx; omega))
        go_wp2_with fail
        go_roundw
        case measure => simp [intOf]; omega
        case rel => exact ⟨n + 1, by omega, by go_num, hs4, hU5⟩
      | false =>
        rw [hy] at hbit
        have hbit : bits BinOp.and IntKind.u8 ((x : Int) / 2 ^ r) 1 = 0 := hbit
        have hno := preL_no hy
        have hnoH := Lib.hid hno
        clear hy hns hno
        go_wp2_with fail
        go_roundw
        case measure => simp [intOf]; omega
        case rel => exact ⟨n + 1, by omega, by go_num, by rw [hnoH.out]; exact hs, hU⟩
    · obtain rfl : n = k := by omega
      rw [hpe.out] at hs
      have hrl : (rawL b).length ≤ 4096 := by simp [rawL, hsbH.out]; omega
      have kb := bytesC (rawL b) g gb wr hs hrl
      clear hpe hsbH
      generalize hR : rawL b = R at *
      clear hR
      go_wp2_with fail
      refine kb.mono ?_
      rintro e w4 ⟨v4, rfl, hv4, hU4⟩
      obtain ⟨A4, c4, rfl, _⟩ := hv4.form
      have hU5 := hU.tr hU4
      have hs5 := hs.upd0 hU4
      have ke := equalC A4 A (bytesL R) b c4 c w4 (hv4.cells bc_len (by omega)) (hA.upd hU5)
      clear kb hv4
      by_cases heq : bytesL R = b
      · have hzz := hz.out
        rw [if_pos heq] at hzz
        rw [show (bytesL R == b) = true by simpa using heq] at ke
        have hzH := Lib.hid hzz
        clear hz hzz heq
        go_wp2_with fail
        refine ke.mono ?_
        rintro e w5 ⟨rfl, rfl⟩
        go_wp2_with fail
        exact bodyPost_ret (v := .tuple #[.pointer (some ⟨g, 0, none⟩), .int .i64 0]) (by simp [results, Tryd.results7, go_sem]) rfl (show ParR (parseL b) w _ w5 by rw [hzH.out]; exact ⟨hU5, g, gb, rfl, by omega, by omega, hs5, hrl⟩)
      · have hzz := hz.out
        rw [if_neg heq] at hzz
        rw [show (bytesL R == b) = false by simpa using heq] at ke
        have hzH := Lib.hid hzz
        clear hz hzz heq
        go_wp2_with fail
        refine ke.mono ?_
        rintro e w5 ⟨rfl, rfl⟩
        go_wp2_with fail
        exact bodyPost_ret (v := .tuple #[.pointer none, .int .i64 2]) (by simp [results, Tryd.results7, go_sem]) rfl (show ParR (parseL b) w _ w5 by rw [hzH.out]; exact ⟨hU5, rfl⟩)
end Go.Proofs.YtjkojhebgkgdaaaDoor.Bit
