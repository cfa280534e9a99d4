/-
  A group's word, and its set bits one after the other: plain law. Conditions: each lemma's own.
-/
import Derived.Test.YtjkojhebgkgdaaaDoorEccP
import Derived.Lib.TrailingZeros
namespace Go.Proofs.YtjkojhebgkgdaaaDoor.Ecc
set_option linter.unusedVariables false
theorem wd_lt : ∀ (l : List Nat), (∀ a ∈ l, a < 256) → wdN l < 256 ^ l.length
  | [], _ => by simp [wdN]
  | a :: l, h => by
    have h1 := wd_lt l (fun x hx => h x (by simp [hx]))
    have h2 := h a (by simp)
    rw [List.length_cons, Nat.pow_succ]
    show a + 256 * wdN l < _
    omega
theorem wd_snoc : ∀ (l : List Nat) (b : Nat), wdN (l ++ [b]) = wdN l + b * 256 ^ l.length
  | [], b => by simp [wdN]
  | a :: l, b => by
    rw [List.cons_append]
    show a + 256 * wdN (l ++ [b]) = a + 256 * wdN l + b * 256 ^ (l.length + 1)
    rw [wd_snoc l b, Nat.pow_succ, Nat.mul_add, Nat.add_assoc]
    congr 2
    rw [← Nat.mul_assoc, Nat.mul_comm 256 b, Nat.mul_assoc, Nat.mul_comm 256]
theorem wd_take {l : List Nat} {i : Nat} (h : i < l.length) : wdN (l.take (i + 1)) = wdN (l.take i) + l[i] * 256 ^ i := by
  rw [List.take_succ_eq_append_getElem h, wd_snoc, List.length_take_of_le (by omega)]
theorem or_shl {v b i : Nat} (h : v < 256 ^ i) : v ||| b * 256 ^ i = v + b * 256 ^ i := by
  have e : (256 : Nat) ^ i = 2 ^ (8 * i) := by rw [Nat.pow_mul]
  rw [e] at h ⊢
  rw [Nat.mul_comm b, Nat.or_comm, ← Nat.two_pow_add_eq_or_of_lt h b, Nat.add_comm]
/-- The bits from k on. -/
def hi (v k : Nat) : Nat := v / 2 ^ k * 2 ^ k
theorem hi_zero (v : Nat) : hi v 0 = v := by simp [hi]
theorem hi_bit (v k j : Nat) : (hi v k).testBit j = (decide (k ≤ j) && v.testBit j) := by
  unfold hi
  rw [Nat.testBit_mul_two_pow, Nat.testBit_div_two_pow]
  by_cases h : k ≤ j
  · rw [show j - k + k = j by omega]
  · simp [h]
theorem hi_le (v k : Nat) : hi v k ≤ v := Nat.div_mul_le_self _ _
theorem and_pred (t m : Nat) : (2 ^ t * (2 * m + 1)) &&& (2 ^ t * (2 * m + 1) - 1) = 2 ^ (t + 1) * m := by
  have hp : 0 < 2 ^ t := Nat.two_pow_pos t
  have e1 : 2 ^ t * (2 * m + 1) = 2 ^ (t + 1) * m + 2 ^ t := by rw [Nat.mul_add, Nat.mul_one, ← Nat.mul_assoc, ← Nat.pow_succ]
  have e2 : 2 ^ t * (2 * m + 1) - 1 = 2 ^ (t + 1) * m + (2 ^ t - 1) := by rw [e1]; omega
  rw [e2, e1]
  apply Nat.eq_of_testBit_eq
  intro j
  have hlt : 2 ^ t < 2 ^ (t + 1) := by rw [Nat.pow_succ]; omega
  rw [Nat.testBit_and, Nat.testBit_two_pow_mul_add _ hlt, Nat.testBit_two_pow_mul_add _ (by omega), Nat.testBit_two_pow_mul]
  by_cases h : j < t + 1
  · rw [if_pos h, if_pos h, Nat.testBit_two_pow, Nat.testBit_two_pow_sub_one]
    have : decide (j ≥ t + 1) = false := by simp; omega
    rw [this]
    by_cases h2 : t = j
    · subst h2; simp
    · simp [h2]
  · rw [if_neg h, if_neg h]
    have : decide (j ≥ t + 1) = true := by simp; omega
    rw [this]
    simp
theorem syn_still {v k : Nat} : ∀ j, k ≤ j → (∀ i, k ≤ i → i < j → v.testBit i = false) → syn v j = syn v k
  | 0, h, _ => by obtain rfl : k = 0 := by omega
                  rfl
  | j + 1, h, hz => by
    rcases Nat.lt_or_ge k (j + 1) with h1 | h1
    · rw [← syn_still j (by omega) (fun i h2 h3 => hz i h2 (by omega))]
      show (if v.testBit j then _ else _) = _
      rw [hz j (by omega) (by omega)]
      rfl
    · obtain rfl : k = j + 1 := by omega
      rfl
/-- One bit more. -/
theorem next_bit {v k : Nat} (hv : v < 18446744073709551616) (h0 : hi v k ≠ 0) :
    ∃ t, Lib.ctz 64 (hi v k) = t ∧ t < 64 ∧ k ≤ t ∧ hi v k &&& (hi v k - 1) = hi v (t + 1) ∧ syn v (t + 1) = syn v k ^^^ pl t := by
  have hlt : hi v k < 2 ^ 64 := Nat.lt_of_le_of_lt (hi_le v k) (by simpa using hv)
  obtain ⟨m, hm, hk⟩ := Lib.ctzFrom_spec 64 (hi v k) (by omega) hlt
  have e : Lib.ctz 64 (hi v k) = Lib.ctzFrom 64 (hi v k) := by simp [Lib.ctz, h0]
  refine ⟨_, e, hk, ?_⟩
  generalize Lib.ctzFrom 64 (hi v k) = t at *
  have hb : ∀ j, (hi v k).testBit j = if j < t then false else (2 * m + 1).testBit (j - t) := by
    intro j
    rw [hm, Nat.testBit_two_pow_mul]
    by_cases h : j < t
    · rw [if_pos h]
      have : decide (j ≥ t) = false := by simp; omega
      rw [this]; rfl
    · rw [if_neg h]
      have : decide (j ≥ t) = true := by simp; omega
      rw [this]; simp
  have ht := hb t
  rw [if_neg (Nat.lt_irrefl t), Nat.sub_self] at ht
  have h1 : (2 * m + 1).testBit 0 = true := by simp [Nat.testBit_zero]
  rw [h1, hi_bit] at ht
  simp only [Bool.and_eq_true, decide_eq_true_eq] at ht
  obtain ⟨hkt, hvt⟩ := ht
  have hz : ∀ i, k ≤ i → i < t → v.testBit i = false := by
    intro i h2 h3
    have := hb i
    rw [if_pos h3, hi_bit] at this
    simpa [h2] using this
  refine ⟨hkt, ?_, ?_⟩
  · rw [hm, and_pred]
    apply Nat.eq_of_testBit_eq
    intro j
    rw [hi_bit, Nat.testBit_two_pow_mul]
    by_cases h : t + 1 ≤ j
    · have h2 := hb j
      rw [if_neg (by omega), hi_bit] at h2
      have h3 : decide (k ≤ j) = true := by simp; omega
      rw [h3, Bool.true_and] at h2
      rw [h2]
      have : (2 * m + 1).testBit (j - t) = m.testBit (j - (t + 1)) := by
        obtain ⟨d, hd⟩ : ∃ d, j - t = d + 1 := ⟨j - t - 1, by omega⟩
        rw [hd, show j - (t + 1) = d by omega, Nat.testBit_succ, show (2 * m + 1) / 2 = m by omega]
      rw [this]
    · have : decide (t + 1 ≤ j) = false := by simp; omega
      rw [this]
      rfl
  · show (if v.testBit t then syn v t ^^^ pl t else syn v t) = _
    rw [if_pos hvt, syn_still t hkt hz]
theorem no_bit {v k : Nat} (hv : v < 18446744073709551616) (hk : k ≤ 64) (h0 : hi v k = 0) : syn v k = syn v 64 := by
  refine (syn_still 64 hk (fun i h1 h2 => ?_)).symm
  have := hi_bit v k i
  rw [h0, Nat.zero_testBit] at this
  have h3 : decide (k ≤ i) = true := by simp; omega
  rw [h3, Bool.true_and] at this
  exact this.symm
end Go.Proofs.YtjkojhebgkgdaaaDoor.Ecc
