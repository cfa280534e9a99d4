/-
  Sets of small numbers, as yes or no for each number: the words' bits, what is put and dropped, all numbers, the bytes. Conditions: none.
-/
import Derived.Test.YtjkojhebgkgdaaaDoorEccC
namespace Go.Proofs.YtjkojhebgkgdaaaDoor.Bit
open Go.Proofs.YtjkojhebgkgdaaaDoor.Ecc
/-- The number of the bits of a row. -/
def wv (f : Nat → Bool) : Nat → Nat
  | 0 => 0
  | n + 1 => wv f n + if f n then 2 ^ n else 0
theorem wv_lt (f : Nat → Bool) : ∀ n, wv f n < 2 ^ n
  | 0 => by simp [wv]
  | n + 1 => by
    have ih := wv_lt f n
    rw [wv, Nat.pow_succ]
    split <;> omega
theorem wv_bit (f : Nat → Bool) (j : Nat) : ∀ n, (wv f n).testBit j = (decide (j < n) && f j)
  | 0 => by simp [wv]
  | n + 1 => by
    have ih := wv_bit f j n
    have hl := wv_lt f n
    rw [wv]
    by_cases hf : f n = true
    · rw [if_pos hf, Nat.add_comm]
      rcases Nat.lt_trichotomy j n with h | h | h
      · rw [Nat.testBit_two_pow_add_gt h, ih]
        simp [h, Nat.lt_succ_of_lt h]
      · subst h
        rw [Nat.testBit_two_pow_add_eq, ih]
        simp [hf]
      · rw [Nat.testBit_lt_two_pow (Nat.lt_of_lt_of_le (show 2 ^ n + wv f n < 2 ^ (n + 1) by rw [Nat.pow_succ]; omega) (Nat.pow_le_pow_right (by omega) h))]
        simp [show ¬ j < n + 1 by omega]
    · rw [if_neg hf, Nat.add_zero, ih]
      by_cases h : j = n
      · subst h
        simp [hf]
      · simp only [show (decide (j < n + 1)) = decide (j < n) by simp; omega]
theorem wv_ext {v n : Nat} {f : Nat → Bool} (hv : v < 2 ^ n) (h : ∀ j, j < n → v.testBit j = f j) : v = wv f n := by
  refine Nat.eq_of_testBit_eq fun j => ?_
  rw [wv_bit]
  rcases Nat.lt_or_ge j n with hj | hj
  · rw [h j hj]
    simp [hj]
  · rw [Nat.testBit_lt_two_pow (Nat.lt_of_lt_of_le hv (Nat.pow_le_pow_right (by omega) hj))]
    simp [show ¬ j < n by omega]
theorem wv_congr {f g : Nat → Bool} : ∀ n, (∀ j, j < n → f j = g j) → wv f n = wv g n
  | 0, _ => rfl
  | n + 1, h => by rw [wv, wv, wv_congr n (fun j hj => h j (by omega)), h n (by omega)]
theorem wv_none : ∀ n, wv (fun _ => false) n = 0
  | 0 => rfl
  | n + 1 => by rw [wv, wv_none n]; rfl
/-- Is a number in it? -/
def bitAt (L : List Bool) (i : Nat) : Bool := L.getD i false
theorem bit_out {L : List Bool} {i : Nat} (h : L.length ≤ i) : bitAt L i = false := by
  unfold bitAt
  rw [List.getD_eq_getElem?_getD, List.getElem?_eq_none h]
  rfl
theorem bit_get {L : List Bool} {i : Nat} (h : i < L.length) : L[i] = bitAt L i := by
  unfold bitAt
  rw [List.getD_eq_getElem?_getD, List.getElem?_eq_getElem h]
  rfl
theorem bit_ext {L M : List Bool} (hl : L.length = M.length) (h : ∀ i, i < L.length → bitAt L i = bitAt M i) : L = M := by
  refine List.ext_getElem hl fun i h1 h2 => ?_
  rw [bit_get, bit_get]
  exact h i h1
theorem bit_set (L : List Bool) (n : Nat) (x : Bool) (h : n < L.length) (i : Nat) : bitAt (L.set n x) i = if i = n then x else bitAt L i := by
  unfold bitAt
  rw [List.getD_eq_getElem?_getD, List.getD_eq_getElem?_getD]
  by_cases e : i = n
  · subst e
    rw [List.getElem?_set_self h, if_pos rfl]
    rfl
  · rw [List.getElem?_set_ne (fun h => e h.symm), if_neg e]
/-- One of its words. -/
def wordL (L : List Bool) (k : Nat) : Nat := wv (fun i => bitAt L (64 * k + i)) 64
def nw (n : Nat) : Nat := (n + 63) / 64
def wds (L : List Bool) : List Nat := (List.range (nw L.length)).map (wordL L)
theorem wds_len (L : List Bool) : (wds L).length = nw L.length := by simp [wds]
theorem wds_get {L : List Bool} {k : Nat} (h : k < nw L.length) : (wds L)[k]? = some (wordL L k) := by
  unfold wds
  rw [List.getElem?_map, List.getElem?_range h]
  rfl
theorem wordL_lt (L : List Bool) (k : Nat) : wordL L k < 18446744073709551616 := wv_lt _ 64
theorem wordL_bit (L : List Bool) (k j : Nat) : (wordL L k).testBit j = (decide (j < 64) && bitAt L (64 * k + j)) := wv_bit _ _ _
theorem wds_lt (L : List Bool) : ∀ v ∈ wds L, v < 18446744073709551616 := by
  intro v hv
  obtain ⟨k, _, rfl⟩ := List.mem_map.1 hv
  exact wordL_lt L k
/-- A set's words, when one word is another one. -/
theorem wds_set {L M : List Bool} {q v : Nat} (hl : M.length = L.length) (hq : q < nw L.length) (hv : v < 18446744073709551616) (h1 : ∀ j, j < 64 → v.testBit j = bitAt M (64 * q + j)) (h2 : ∀ i, i / 64 ≠ q → bitAt M i = bitAt L i) : (wds L).set q v = wds M := by
  refine List.ext_getElem? fun k => ?_
  rcases Nat.lt_or_ge k (nw L.length) with hk | hk
  · rw [wds_get (L := M) (by rw [hl]; exact hk)]
    by_cases e : k = q
    · subst e
      rw [List.getElem?_set_self (by rw [wds_len]; exact hk)]
      exact congrArg some (wv_ext hv h1)
    · rw [List.getElem?_set_ne (fun h => e h.symm), wds_get hk]
      exact congrArg some (wv_congr 64 (fun j hj => (h2 _ (by omega)).symm))
  · rw [List.getElem?_eq_none (by rw [List.length_set, wds_len]; exact hk), List.getElem?_eq_none (by rw [wds_len, hl]; exact hk)]
theorem or_bit (v i j : Nat) : (v ||| 2 ^ i).testBit j = (v.testBit j || decide (i = j)) := by
  rw [Nat.testBit_or, Nat.testBit_two_pow]
theorem div_len {n len : Nat} (h : n < len) : n / 64 < nw len := by unfold nw; omega
/-- A number is put in. -/
theorem wds_put {L : List Bool} {n : Nat} (h : n < L.length) : (wds L).set (n / 64) (wordL L (n / 64) ||| 2 ^ (n % 64)) = wds (L.set n true) := by
  refine wds_set (List.length_set ..) (div_len h) (Nat.or_lt_two_pow (n := 64) (wordL_lt L _) (Nat.pow_lt_pow_right (by omega) (by omega))) (fun j hj => ?_) (fun i hi => ?_)
  · rw [or_bit, wordL_bit, bit_set L n true h]
    by_cases e : 64 * (n / 64) + j = n
    · rw [if_pos e]
      simp [show n % 64 = j by omega]
    · rw [if_neg e]
      simp [show ¬ n % 64 = j by omega, hj]
  · rw [bit_set L n true h, if_neg (fun e => hi (by rw [e]))]
/-- A number is taken out. -/
theorem wds_drop {L : List Bool} {n v : Nat} (h : n < L.length) (hv : v < 18446744073709551616) (hb : ∀ j, v.testBit j = ((wordL L (n / 64)).testBit j && !decide (n % 64 = j))) : (wds L).set (n / 64) v = wds (L.set n false) := by
  refine wds_set (List.length_set ..) (div_len h) hv (fun j hj => ?_) (fun i hi => ?_)
  · rw [hb, wordL_bit, bit_set L n false h]
    by_cases e : 64 * (n / 64) + j = n
    · rw [if_pos e]
      simp [show n % 64 = j by omega]
    · rw [if_neg e]
      simp [show ¬ n % 64 = j by omega, hj]
  · rw [bit_set L n false h, if_neg (fun e => hi (by rw [e]))]
theorem wds_none (n : Nat) : wds (List.replicate n false) = List.replicate (nw n) 0 := by
  refine List.ext_getElem? fun k => ?_
  rcases Nat.lt_or_ge k (nw n) with hk | hk
  · rw [wds_get (by rw [List.length_replicate]; exact hk), List.getElem?_replicate, if_pos hk]
    refine congrArg some ?_
    unfold wordL
    rw [wv_congr (g := fun _ => false) 64 (fun j _ => ?_), wv_none]
    unfold bitAt
    rw [List.getD_eq_getElem?_getD, List.getElem?_replicate]
    split <;> rfl
  · rw [List.getElem?_eq_none (by rw [wds_len, List.length_replicate]; exact hk), List.getElem?_eq_none (by rw [List.length_replicate]; exact hk)]
/-- The numbers below one. -/
def upto (L : List Bool) (m : Nat) : List Nat := (List.range m).filter (bitAt L)
theorem upto_succ (L : List Bool) (m : Nat) : upto L (m + 1) = upto L m ++ if bitAt L m then [m] else [] := by
  unfold upto
  rw [List.range_succ, List.filter_append]
  congr 1
  by_cases h : bitAt L m = true
  · simp [h]
  · simp [h]
theorem upto_still {L : List Bool} {a : Nat} : ∀ d, (∀ i, a ≤ i → i < a + d → bitAt L i = false) → upto L (a + d) = upto L a
  | 0, _ => rfl
  | d + 1, h => by
    rw [show a + (d + 1) = (a + d) + 1 from rfl, upto_succ, h (a + d) (by omega) (by omega), upto_still d (fun i h1 h2 => h i h1 (by omega))]
    simp
def allL (L : List Bool) : List Nat := upto L L.length
theorem all_end (L : List Bool) : upto L (64 * nw L.length) = allL L := by
  unfold allL nw
  have : 64 * ((L.length + 63) / 64) = L.length + (64 * ((L.length + 63) / 64) - L.length) := by omega
  rw [this]
  exact upto_still _ (fun i h1 _ => bit_out h1)
theorem upto_len (L : List Bool) (m : Nat) : (upto L m).length ≤ m := by
  unfold upto
  exact Nat.le_trans (List.length_filter_le _ _) (by simp)
theorem pop_word (L : List Bool) (k : Nat) : ∀ i, i ≤ 64 → (upto L (64 * k + i)).length = (upto L (64 * k)).length + popN (wordL L k) i
  | 0, _ => by simp [popN]
  | i + 1, h => by
    have ih := pop_word L k i (by omega)
    rw [show 64 * k + (i + 1) = (64 * k + i) + 1 from rfl, upto_succ, List.length_append, ih, popN, wordL_bit]
    simp only [show i < 64 by omega, decide_true, Bool.true_and]
    by_cases hb : bitAt L (64 * k + i) = true
    · simp [hb]; omega
    · simp [hb]
theorem pop_step (L : List Bool) (k : Nat) : (upto L (64 * (k + 1))).length = (upto L (64 * k)).length + popN (wordL L k) 64 := pop_word L k 64 (Nat.le_refl _)
theorem next_one {v k : Nat} (hv : v < 18446744073709551616) (h0 : hi v k ≠ 0) :
    ∃ t, Lib.ctz 64 (hi v k) = t ∧ t < 64 ∧ k ≤ t ∧ hi v k &&& (hi v k - 1) = hi v (t + 1) ∧ v.testBit t = true ∧ ∀ i, k ≤ i → i < t → v.testBit i = false := by
  have hlt : hi v k < 2 ^ 64 := Nat.lt_of_le_of_lt (hi_le v k) (by simpa using hv)
  obtain ⟨m, hm, hk⟩ := Lib.ctzFrom_spec 64 (hi v k) (by omega) hlt
  have e : Lib.ctz 64 (hi v k) = Lib.ctzFrom 64 (hi v k) := by simp [Lib.ctz, h0]
  refine ⟨_, e, hk, ?_⟩
  generalize Lib.ctzFrom 64 (hi v k) = t at *
  have hb : ∀ j, (hi v k).testBit j = if j < t then false else (2 * m + 1).testBit (j - t) := by
    intro j
    rw [hm, Nat.testBit_two_pow_mul]
    by_cases h : j < t
    · rw [if_pos h]
      have : decide (j ≥ t) = false := by simp; omega
      rw [this]; rfl
    · rw [if_neg h]
      have : decide (j ≥ t) = true := by simp; omega
      rw [this]; simp
  have ht := hb t
  rw [if_neg (Nat.lt_irrefl t), Nat.sub_self] at ht
  have h1 : (2 * m + 1).testBit 0 = true := by simp [Nat.testBit_zero]
  rw [h1, hi_bit] at ht
  simp only [Bool.and_eq_true, decide_eq_true_eq] at ht
  obtain ⟨hkt, hvt⟩ := ht
  have hz : ∀ i, k ≤ i → i < t → v.testBit i = false := by
    intro i h2 h3
    have := hb i
    rw [if_pos h3, hi_bit] at this
    simpa [h2] using this
  refine ⟨hkt, ?_, ?_⟩
  · rw [hm, and_pred]
    apply Nat.eq_of_testBit_eq
    intro j
    rw [hi_bit, Nat.testBit_two_pow_mul]
    by_cases h : t + 1 ≤ j
    · have h2 := hb j
      rw [if_neg (by omega), hi_bit] at h2
      have h3 : decide (k ≤ j) = true := by simp; omega
      rw [h3, Bool.true_and] at h2
      rw [h2]
      have : (2 * m + 1).testBit (j - t) = m.testBit (j - (t + 1)) := by
        obtain ⟨d, hd⟩ : ∃ d, j - t = d + 1 := ⟨j - t - 1, by omega⟩
        rw [hd, show j - (t + 1) = d by omega, Nat.testBit_succ, show (2 * m + 1) / 2 = m by omega]
      rw [this]
    · have : decide (t + 1 ≤ j) = false := by simp; omega
      rw [this]
      rfl
  · exact ⟨hvt, hz⟩
theorem no_one {v k : Nat} (h0 : hi v k = 0) : ∀ i, k ≤ i → v.testBit i = false := by
  intro i h1
  have := hi_bit v k i
  rw [h0, Nat.zero_testBit] at this
  have h3 : decide (k ≤ i) = true := by simp; omega
  rw [h3, Bool.true_and] at this
  exact this.symm
theorem upto_next {L : List Bool} {i k t : Nat} (hk : k ≤ t) (ht : t < 64) (h1 : (wordL L i).testBit t = true) (h0 : ∀ j, k ≤ j → j < t → (wordL L i).testBit j = false) : upto L (64 * i + (t + 1)) = upto L (64 * i + k) ++ [64 * i + t] := by
  have hs : upto L (64 * i + t) = upto L (64 * i + k) := by
    have := upto_still (L := L) (a := 64 * i + k) (t - k) (fun j h2 h3 => by
      have h4 := h0 (j - 64 * i) (by omega) (by omega)
      rw [wordL_bit] at h4
      simp only [show j - 64 * i < 64 by omega, decide_true, Bool.true_and] at h4
      rwa [show 64 * i + (j - 64 * i) = j by omega] at h4)
    rwa [show 64 * i + k + (t - k) = 64 * i + t by omega] at this
  rw [wordL_bit] at h1
  simp only [ht, decide_true, Bool.true_and] at h1
  rw [show 64 * i + (t + 1) = (64 * i + t) + 1 from rfl, upto_succ, h1, hs]
  simp
theorem upto_none {L : List Bool} {i k : Nat} (hk : k ≤ 64) (h0 : ∀ j, k ≤ j → (wordL L i).testBit j = false) : upto L (64 * (i + 1)) = upto L (64 * i + k) := by
  have := upto_still (L := L) (a := 64 * i + k) (64 - k) (fun j h2 h3 => by
    have h4 := h0 (j - 64 * i) (by omega)
    rw [wordL_bit] at h4
    simp only [show j - 64 * i < 64 by omega, decide_true, Bool.true_and] at h4
    rwa [show 64 * i + (j - 64 * i) = j by omega] at h4)
  rwa [show 64 * i + k + (64 - k) = 64 * (i + 1) by omega] at this
/-- The first one from one on. -/
def firstL (L : List Bool) (a : Int) (has : Bool) : Int :=
  match (List.range L.length).find? (fun (n : Nat) => decide (a ≤ (n : Int)) && (bitAt L n == has)) with
  | some n => (n : Int)
  | none => -1
theorem first_at {L : List Bool} {a : Int} {has : Bool} {n : Nat} (hn : n < L.length) (ha : a ≤ (n : Int)) (hb : bitAt L n = has) (h : ∀ i : Nat, i < n → a ≤ (i : Int) → bitAt L i ≠ has) : firstL L a has = (n : Int) := by
  have : (List.range L.length).find? (fun (n : Nat) => decide (a ≤ (n : Int)) && (bitAt L n == has)) = some n := by
    rw [List.find?_range_eq_some]
    refine ⟨by simp [ha, hb], by simpa using hn, fun j hj => ?_⟩
    by_cases h1 : a ≤ (j : Int)
    · have := h j hj h1
      simp [h1, this]
    · simp [h1]
  unfold firstL
  rw [this]
theorem first_no {L : List Bool} {a : Int} {has : Bool} (h : ∀ i : Nat, i < L.length → a ≤ (i : Int) → bitAt L i ≠ has) : firstL L a has = -1 := by
  have : (List.range L.length).find? (fun (n : Nat) => decide (a ≤ (n : Int)) && (bitAt L n == has)) = none := by
    rw [List.find?_eq_none]
    intro j hj
    rw [List.mem_range] at hj
    by_cases h1 : a ≤ (j : Int)
    · simp [h1, h j hj h1]
    · simp [h1]
  unfold firstL
  rw [this]
/-- One of its bytes. -/
def byteL (L : List Bool) (k : Nat) : Nat := wv (fun i => bitAt L (8 * k + i)) 8
theorem byteL_lt (L : List Bool) (k : Nat) : byteL L k < 256 := wv_lt _ 8
theorem byte_word (L : List Bool) (k : Nat) : wordL L (k / 8) / 2 ^ (8 * (k % 8)) % 256 = byteL L k := by
  refine wv_ext (n := 8) (Nat.mod_lt _ (by omega)) (fun j hj => ?_)
  rw [show (256 : Nat) = 2 ^ 8 from rfl, Nat.testBit_mod_two_pow, Nat.testBit_div_two_pow, wordL_bit]
  simp only [hj, decide_true, Bool.true_and, show j + 8 * (k % 8) < 64 by omega]
  congr 1
  omega
def bodyL (L : List Bool) : List UInt8 := (List.range ((L.length + 7) / 8)).map fun k => UInt8.ofNat (byteL L k)
theorem bodyL_len (L : List Bool) : (bodyL L).length = (L.length + 7) / 8 := by simp [bodyL]
theorem bodyL_step (L : List Bool) {i : Nat} (h : i < (L.length + 7) / 8) : (bodyL L).take (i + 1) = (bodyL L).take i ++ [UInt8.ofNat (byteL L i)] := by
  rw [List.take_succ_eq_append_getElem (by rw [bodyL_len]; exact h)]
  congr 2
  simp [bodyL]
end Go.Proofs.YtjkojhebgkgdaaaDoor.Bit
