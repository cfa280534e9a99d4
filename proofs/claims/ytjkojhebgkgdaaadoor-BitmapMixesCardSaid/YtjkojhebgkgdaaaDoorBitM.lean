/-
  A set in memory; whether a number may be in it, is in it, is put in, is taken out; its size and words. Conditions: each lemma's own.
-/
import Derived.Test.YtjkojhebgkgdaaaDoorBitP
import Derived.Test.YtjkojhebgkgdaaaDoorBitA
import Derived.Test.YtjkojhebgkgdaaaDoorInts
import Derived.Test.YtjkojhebgkgdaaaDoorLexA
import Derived.Laws.BitsAllLaws
namespace Go.Proofs.YtjkojhebgkgdaaaDoor.Bit
open Go.RowKit Go.Proofs.YtjkojhebgkgdaaaDoor.Base Go.Proofs.YtjkojhebgkgdaaaDoor.Ecc
set_option linter.unusedVariables false
set_option linter.unusedSimpArgs false
set_option maxRecDepth 100000
def wC (l : List Nat) : Array Value := (l.map fun v => Value.int .u64 (v : Nat)).toArray
theorem wC_size (l : List Nat) : (wC l).size = l.length := by simp [wC]
theorem wC_get {l : List Nat} {i v : Nat} (h : l[i]? = some v) : (wC l)[i]? = some (.int .u64 (v : Nat)) := by simp [wC, h]
theorem wC_set (l : List Nat) (i v : Nat) : (wC l).setIfInBounds i (.int .u64 (v : Nat)) = wC (l.set i v) := by
  simp [wC]
theorem made_rep (z : Value) (n : Nat) : madeCells #[z] n = (List.replicate n z).toArray := by
  apply Array.ext'
  unfold madeCells
  rw [Array.toList_map, Array.toList_range, List.toList_toArray]
  apply List.ext_getElem?
  intro i
  rw [List.getElem?_map, List.getElem?_replicate]
  by_cases h : i < n
  · rw [List.getElem?_range h, if_pos h]
    simp [Nat.mod_one]
  · rw [if_neg h, List.getElem?_eq_none (by simp; omega)]
    rfl
theorem wC_made (n : Nat) : madeCells #[.int .u64 0] n = wC (List.replicate n 0) := by
  rw [made_rep]
  unfold wC
  rw [List.map_replicate]
  rfl
/-- A set that stands in memory. -/
def SetAt (w : World) (g gb : Nat) (L : List Bool) : Prop :=
  w.heap[g]? = some (.cells #[.int .i64 (L.length : Nat), .slice (some ⟨gb, 0, none⟩) (nw L.length) (nw L.length)] 52 (0, 0)) ∧ w.heap[gb]? = some (.cells (wC (wds L)) 59 (0, 0))
theorem SetAt.upd {w w' : World} {g gb : Nat} {L : List Bool} (h : SetAt w g gb L) {S : Nat → Prop} (u : Upd S w w') (h1 : ¬ S g) (h2 : ¬ S gb) : SetAt w' g gb L := ⟨u.blk h.1 h1, u.blk h.2 h2⟩
theorem SetAt.upd0 {w w' : World} {g gb : Nat} {L : List Bool} (h : SetAt w g gb L) (u : Upd Nil w w') : SetAt w' g gb L := h.upd u (fun h => h) (fun h => h)
theorem SetAt.ne {w : World} {g gb : Nat} {L : List Bool} (h : SetAt w g gb L) : ¬ g = gb := fun e => by
  have h1 := h.1
  rw [e, h.2] at h1
  injection h1 with h1
  injection h1 with _ h1
  exact absurd h1 (by decide)
theorem SetAt.word {w : World} {g gb : Nat} {L : List Bool} (h : SetAt w g gb L) {q : Nat} (hq : q < nw L.length) : w.cell? ⟨gb, q, none⟩ = some (.int .u64 (wordL L q : Nat)) := by
  rw [blk_cell h.2 q, wC_get (wds_get hq)]
def inI (L : List Bool) (n : Int) : Bool := decide (0 ≤ n ∧ n < (L.length : Int))
def hasI (L : List Bool) (n : Int) : Bool := inI L n && bitAt L n.toNat
theorem mayC (L : List Bool) (g gb : Nat) (n : Int) (w : World) (h : SetAt w g gb L) : Calls Tryd.prog 40 #[.pointer (some ⟨g, 0, none⟩), .int .i64 n] w fun e w' => e = .returned (.bool (inI L n)) ∧ w' = w := by
  have c0 := blk_cell h.1 0
  have c1 := blk_cell h.1 1
  simp only [List.getElem?_toArray, List.getElem?_cons_zero, List.getElem?_cons_succ] at c0 c1
  unfold inI
  generalize hm : ((L.length : Nat) : Int) = m at *
  by_cases h0 : 0 ≤ n
  · by_cases h1 : n < m
    · rw [show decide (0 ≤ n ∧ n < m) = true by simp; omega]
      go_enter Tryd.func40, Tryd.ntmps40
      go_wp2_with fail
      go_ret
      exact ⟨rfl, rfl⟩
    · rw [show decide (0 ≤ n ∧ n < m) = false by simp; omega]
      go_enter Tryd.func40, Tryd.ntmps40
      go_wp2_with fail
      go_ret
      exact ⟨rfl, rfl⟩
  · rw [show decide (0 ≤ n ∧ n < m) = false by simp; omega]
    go_enter Tryd.func40, Tryd.ntmps40
    go_wp2_with fail
    go_ret
    exact ⟨rfl, rfl⟩
theorem and_one64 (v : Nat) (h : v < 18446744073709551616) : bits BinOp.and IntKind.u64 (v : Int) 1 = ((v % 2 : Nat) : Int) := by
  have := and64 v 1 h (by omega) (v % 2) (by rw [Nat.and_one_is_mod])
  exact this
theorem bit_mod (v r : Nat) : v / 2 ^ r % 2 = if v.testBit r then 1 else 0 := by
  rw [Nat.testBit_eq_decide_div_mod_eq]
  by_cases h : v / 2 ^ r % 2 = 1
  · simp [h]
  · simp [h]; omega
theorem hasC (L : List Bool) (g gb : Nat) (n : Int) (w : World) (h : SetAt w g gb L) (hl : L.length ≤ 4096) : Calls Tryd.prog 21 #[.pointer (some ⟨g, 0, none⟩), .int .i64 n] w fun e w' => e = .returned (.bool (hasI L n)) ∧ w' = w := by
  have km := mayC L g gb n w h
  unfold hasI
  by_cases hi : inI L n = true
  · have hi2 : 0 ≤ n ∧ n < (L.length : Int) := by simpa [inI] using hi
    obtain ⟨k, rfl⟩ := Int.eq_ofNat_of_zero_le hi2.1
    have hk : k < L.length := by omega
    rw [hi, Int.toNat_natCast, Bool.true_and]
    have c1 := blk_cell h.1 1
    simp only [List.getElem?_toArray, List.getElem?_cons_zero, List.getElem?_cons_succ] at c1
    have hq := div_len hk
    have y := h.word hq
    have hlt := wordL_lt L (k / 64)
    have hb := wordL_bit L (k / 64) (k % 64)
    rw [show 64 * (k / 64) + k % 64 = k by omega] at hb
    simp only [show k % 64 < 64 by omega, decide_true, Bool.true_and] at hb
    have hm := bit_mod (wordL L (k / 64)) (k % 64)
    rw [hb] at hm
    have ha := and_one64 (wordL L (k / 64) / 2 ^ (k % 64)) (Nat.lt_of_le_of_lt (Nat.div_le_self _ _) hlt)
    have hdq : Int.tdiv (k : Int) 64 = ((k / 64 : Nat) : Int) := by rw [Int.tdiv_eq_ediv_of_nonneg (by omega)]; omega
    have hdr : Int.tmod (k : Int) 64 = ((k % 64 : Nat) : Int) := by rw [Int.tmod_eq_emod_of_nonneg (by omega)]; omega
    have hr64 : k % 64 < 64 := Nat.mod_lt _ (by omega)
    have hnw : nw L.length ≤ 64 := by unfold nw; omega
    have hqI : ((k / 64 : Nat) : Int) < (nw L.length : Nat) := by omega
    rw [hi] at km
    clear hi hi2 hb h
    rw [hm] at ha
    clear hm
    rw [Int.natCast_ediv, Int.natCast_pow] at ha
    generalize nw L.length = nn at *
    generalize wordL L (k / 64) = W at *
    generalize k / 64 = q at *
    generalize k % 64 = r at *
    generalize bitAt L k = x at *
    go_enter Tryd.func21, Tryd.ntmps21
    go_wp2_with fail
    refine km.mono ?_
    rintro e w' ⟨rfl, rfl⟩
    cases x with
    | true =>
      go_wp2_with fail
      go_ret
      exact ⟨Ints.ret_b (by have ha : bits BinOp.and IntKind.u64 ((W : Int) / 2 ^ r) 1 = 1 := ha; rw [ha]; rfl), rfl⟩
    | false =>
      go_wp2_with fail
      go_ret
      exact ⟨Ints.ret_b (by have ha : bits BinOp.and IntKind.u64 ((W : Int) / 2 ^ r) 1 = 0 := ha; rw [ha]; rfl), rfl⟩
  · rw [show inI L n = false by simpa using hi] at km ⊢
    go_enter Tryd.func21, Tryd.ntmps21
    go_wp2_with fail
    refine km.mono ?_
    rintro e w' ⟨rfl, rfl⟩
    go_wp2_with fail
    go_ret
    exact ⟨rfl, rfl⟩
def putI (L : List Bool) (n : Int) : List Bool := if inI L n then L.set n.toNat true else L
def dropI (L : List Bool) (n : Int) : List Bool := if inI L n then L.set n.toNat false else L
theorem putI_len (L : List Bool) (n : Int) : (putI L n).length = L.length := by unfold putI; split <;> simp
theorem dropI_len (L : List Bool) (n : Int) : (dropI L n).length = L.length := by unfold dropI; split <;> simp
theorem set_same {L : List Bool} {n : Nat} {x : Bool} (h : n < L.length) (hb : bitAt L n = x) : L.set n x = L :=
  bit_ext (by simp) (fun i _ => by rw [bit_set L n x h]; by_cases e : i = n; · rw [if_pos e, e, hb]
                                   · rw [if_neg e])
theorem pow_wrap {r : Nat} (h : r < 64) : IntKind.u64.wrap ((2 : Int) ^ r) = (2 : Int) ^ r := by
  have h1 : 2 ^ r < 18446744073709551616 := show 2 ^ r < 2 ^ 64 from Nat.pow_lt_pow_right (by omega) h
  have h2 : ((2 : Int) ^ r) = ((2 ^ r : Nat) : Int) := by rw [Int.natCast_pow]; rfl
  rw [h2, IntKind.wrap_u64]
  generalize 2 ^ r = p at *
  omega
theorem or64 {W r : Nat} (hW : W < 18446744073709551616) (hr : r < 64) : bits BinOp.or IntKind.u64 (W : Int) ((2 : Int) ^ r) = ((W ||| 2 ^ r : Nat) : Int) := by
  have h1 : 2 ^ r < 2 ^ 64 := Nat.pow_lt_pow_right (by omega) hr
  rw [show ((2 : Int) ^ r) = ((2 ^ r : Nat) : Int) by rw [Int.natCast_pow]; rfl, bits_or_u64_nat W _ hW h1]
theorem andNot64 {W r : Nat} (hW : W < 18446744073709551616) (hr : r < 64) : bits BinOp.andNot IntKind.u64 (W : Int) ((2 : Int) ^ r) = ((W &&& (18446744073709551615 - 2 ^ r) : Nat) : Int) := by
  have h1 : 2 ^ r < 2 ^ 64 := Nat.pow_lt_pow_right (by omega) hr
  rw [show ((2 : Int) ^ r) = ((2 ^ r : Nat) : Int) by rw [Int.natCast_pow]; rfl]
  exact u64_andNot_nat W _ hW h1
theorem not_bit {W b : Nat} (hW : W < 18446744073709551616) (hb : b < 18446744073709551616) (j : Nat) : (W &&& (18446744073709551615 - b)).testBit j = (W.testBit j && !b.testBit j) := by
  rw [Nat.testBit_and, show 18446744073709551615 - b = 2 ^ 64 - (b + 1) by omega, Nat.testBit_two_pow_sub_succ (by omega)]
  by_cases h : j < 64
  · simp [h]
  · rw [Nat.testBit_lt_two_pow (Nat.lt_of_lt_of_le hW (show 2 ^ 64 ≤ 2 ^ j from Nat.pow_le_pow_right (by omega) (by omega)))]
    simp
theorem putC (L : List Bool) (g gb : Nat) (n : Int) (w : World) (h : SetAt w g gb L) (hl : L.length ≤ 4096) : Calls Tryd.prog 20 #[.pointer (some ⟨g, 0, none⟩), .int .i64 n] w fun e w' => e = .returned (.bool (inI L n && !bitAt L n.toNat)) ∧ SetAt w' g gb (putI L n) ∧ Upd (Only gb) w w' := by
  have km := mayC L g gb n w h
  have kh := hasC L g gb n w h hl
  unfold hasI at kh
  unfold putI
  by_cases hi : inI L n = true
  · have hi2 : 0 ≤ n ∧ n < (L.length : Int) := by simpa [inI] using hi
    obtain ⟨k, rfl⟩ := Int.eq_ofNat_of_zero_le hi2.1
    have hk : k < L.length := by omega
    have c1 := blk_cell h.1 1
    simp only [List.getElem?_toArray, List.getElem?_cons_zero, List.getElem?_cons_succ] at c1
    have hq := div_len hk
    have y := h.word hq
    have z := blk_frozen h.2 (k / 64)
    have hlt := wordL_lt L (k / 64)
    have hdq : Int.tdiv (k : Int) 64 = ((k / 64 : Nat) : Int) := by rw [Int.tdiv_eq_ediv_of_nonneg (by omega)]; omega
    have hdr : Int.tmod (k : Int) 64 = ((k % 64 : Nat) : Int) := by rw [Int.tmod_eq_emod_of_nonneg (by omega)]; omega
    have hr64 : k % 64 < 64 := Nat.mod_lt _ (by omega)
    have hnw : nw L.length ≤ 64 := by unfold nw; omega
    have hqI : ((k / 64 : Nat) : Int) < (nw L.length : Nat) := by omega
    have hpw := pow_wrap hr64
    rw [hi] at km kh ⊢
    rw [Int.toNat_natCast, Bool.true_and] at kh ⊢
    rw [if_pos rfl]
    cases hx : bitAt L k with
    | true =>
      rw [hx] at kh
      rw [set_same hk hx]
      go_enter Tryd.func20, Tryd.ntmps20
      go_wp2_with fail
      refine km.mono ?_
      rintro e w' ⟨rfl, rfl⟩
      go_wp2_with fail
      refine kh.mono ?_
      rintro e w' ⟨rfl, rfl⟩
      go_wp2_with fail
      go_ret
      exact ⟨rfl, h, Upd.refl _ _⟩
    | false =>
      rw [hx] at kh
      have ho := or64 hlt hr64
      have hput := blk_put h.2 (k / 64) (.int .u64 ((wordL L (k / 64) ||| 2 ^ (k % 64) : Nat) : Int)) (wC_set _ _ _)
      rw [wds_put hk] at hput
      have hg := blk_other h.1 (p := ⟨gb, k / 64, none⟩) h.ne (.int .u64 ((wordL L (k / 64) ||| 2 ^ (k % 64) : Nat) : Int))
      have hU := (Upd.refl (Only gb) w).set1 (i := k / 64) (.int .u64 ((wordL L (k / 64) ||| 2 ^ (k % 64) : Nat) : Int))
      have hset : SetAt (w.setCell ⟨gb, k / 64, none⟩ (.int .u64 ((wordL L (k / 64) ||| 2 ^ (k % 64) : Nat) : Int))) g gb (L.set k true) := ⟨by rw [List.length_set]; exact hg, hput⟩
      have hsH := Lib.hid hset
      clear hput hg hset hi hi2 h hx hk
      generalize nw L.length = nn at *
      generalize wordL L (k / 64) ||| 2 ^ (k % 64) = V at *
      generalize wordL L (k / 64) = W at *
      generalize k / 64 = q at *
      generalize k % 64 = r at *
      go_enter Tryd.func20, Tryd.ntmps20
      go_wp2_with fail
      refine km.mono ?_
      rintro e w' ⟨rfl, rfl⟩
      go_wp2_with fail
      refine kh.mono ?_
      rintro e w' ⟨rfl, rfl⟩
      go_wp2_with fail
      go_ret
      exact ⟨rfl, hsH.out, hU⟩
  · rw [show inI L n = false by simpa using hi] at km ⊢
    rw [if_neg Bool.false_ne_true]
    go_enter Tryd.func20, Tryd.ntmps20
    go_wp2_with fail
    refine km.mono ?_
    rintro e w' ⟨rfl, rfl⟩
    go_wp2_with fail
    go_ret
    exact ⟨rfl, h, Upd.refl _ _⟩
theorem dropC (L : List Bool) (g gb : Nat) (n : Int) (w : World) (h : SetAt w g gb L) (hl : L.length ≤ 4096) : Calls Tryd.prog 24 #[.pointer (some ⟨g, 0, none⟩), .int .i64 n] w fun e w' => e = .returned (.bool (hasI L n)) ∧ SetAt w' g gb (dropI L n) ∧ Upd (Only gb) w w' := by
  have kh := hasC L g gb n w h hl
  unfold hasI at kh ⊢
  unfold dropI
  by_cases hi : inI L n = true
  · have hi2 : 0 ≤ n ∧ n < (L.length : Int) := by simpa [inI] using hi
    obtain ⟨k, rfl⟩ := Int.eq_ofNat_of_zero_le hi2.1
    have hk : k < L.length := by omega
    have c1 := blk_cell h.1 1
    simp only [List.getElem?_toArray, List.getElem?_cons_zero, List.getElem?_cons_succ] at c1
    have hq := div_len hk
    have y := h.word hq
    have z := blk_frozen h.2 (k / 64)
    have hlt := wordL_lt L (k / 64)
    have hdq : Int.tdiv (k : Int) 64 = ((k / 64 : Nat) : Int) := by rw [Int.tdiv_eq_ediv_of_nonneg (by omega)]; omega
    have hdr : Int.tmod (k : Int) 64 = ((k % 64 : Nat) : Int) := by rw [Int.tmod_eq_emod_of_nonneg (by omega)]; omega
    have hr64 : k % 64 < 64 := Nat.mod_lt _ (by omega)
    have hnw : nw L.length ≤ 64 := by unfold nw; omega
    have hqI : ((k / 64 : Nat) : Int) < (nw L.length : Nat) := by omega
    have hpw := pow_wrap hr64
    rw [hi] at kh ⊢
    rw [Int.toNat_natCast, Bool.true_and] at kh ⊢
    rw [if_pos rfl]
    cases hx : bitAt L k with
    | false =>
      rw [hx] at kh
      rw [set_same hk hx]
      go_enter Tryd.func24, Tryd.ntmps24
      go_wp2_with fail
      refine kh.mono ?_
      rintro e w' ⟨rfl, rfl⟩
      go_wp2_with fail
      go_ret
      exact ⟨rfl, h, Upd.refl _ _⟩
    | true =>
      rw [hx] at kh
      have ho := andNot64 hlt hr64
      have h2p : 2 ^ (k % 64) < 18446744073709551616 := show 2 ^ (k % 64) < 2 ^ 64 from Nat.pow_lt_pow_right (by omega) hr64
      have hput := blk_put h.2 (k / 64) (.int .u64 ((wordL L (k / 64) &&& (18446744073709551615 - 2 ^ (k % 64)) : Nat) : Int)) (wC_set _ _ _)
      rw [wds_drop hk (Nat.lt_of_le_of_lt Nat.and_le_left hlt) (fun j => by rw [not_bit hlt h2p, Nat.testBit_two_pow])] at hput
      have hg := blk_other h.1 (p := ⟨gb, k / 64, none⟩) h.ne (.int .u64 ((wordL L (k / 64) &&& (18446744073709551615 - 2 ^ (k % 64)) : Nat) : Int))
      have hU := (Upd.refl (Only gb) w).set1 (i := k / 64) (.int .u64 ((wordL L (k / 64) &&& (18446744073709551615 - 2 ^ (k % 64)) : Nat) : Int))
      have hset : SetAt (w.setCell ⟨gb, k / 64, none⟩ (.int .u64 ((wordL L (k / 64) &&& (18446744073709551615 - 2 ^ (k % 64)) : Nat) : Int))) g gb (L.set k false) := ⟨by rw [List.length_set]; exact hg, hput⟩
      have hsH := Lib.hid hset
      clear hput hg hset hi hi2 h hx hk h2p
      generalize nw L.length = nn at *
      generalize wordL L (k / 64) &&& (18446744073709551615 - 2 ^ (k % 64)) = V at *
      generalize wordL L (k / 64) = W at *
      generalize k / 64 = q at *
      generalize k % 64 = r at *
      go_enter Tryd.func24, Tryd.ntmps24
      go_wp2_with fail
      refine kh.mono ?_
      rintro e w' ⟨rfl, rfl⟩
      go_wp2_with fail
      go_ret
      exact ⟨rfl, hsH.out, hU⟩
  · rw [show inI L n = false by simpa using hi] at kh ⊢
    rw [if_neg Bool.false_ne_true]
    go_enter Tryd.func24, Tryd.ntmps24
    go_wp2_with fail
    refine kh.mono ?_
    rintro e w' ⟨rfl, rfl⟩
    go_wp2_with fail
    go_ret
    exact ⟨rfl, h, Upd.refl _ _⟩
theorem sizeC (L : List Bool) (g gb : Nat) (w : World) (h : SetAt w g gb L) : Calls Tryd.prog 14 #[.pointer (some ⟨g, 0, none⟩)] w fun e w' => e = .returned (.int .i64 (L.length : Nat)) ∧ w' = w := by
  have c0 := blk_cell h.1 0
  simp only [List.getElem?_toArray, List.getElem?_cons_zero, List.getElem?_cons_succ] at c0
  go_enter Tryd.func14, Tryd.ntmps14
  go_wp2_with fail
  go_ret
  exact ⟨rfl, rfl⟩
theorem wordsC (L : List Bool) (g gb : Nat) (w : World) (h : SetAt w g gb L) : Calls Tryd.prog 34 #[.pointer (some ⟨g, 0, none⟩)] w fun e w' => e = .returned (.slice (some ⟨gb, 0, none⟩) (nw L.length) (nw L.length)) ∧ w' = w := by
  have c1 := blk_cell h.1 1
  simp only [List.getElem?_toArray, List.getElem?_cons_zero, List.getElem?_cons_succ] at c1
  go_enter Tryd.func34, Tryd.ntmps34
  go_wp2_with fail
  go_ret
  exact ⟨rfl, rfl⟩
end Go.Proofs.YtjkojhebgkgdaaaDoor.Bit
