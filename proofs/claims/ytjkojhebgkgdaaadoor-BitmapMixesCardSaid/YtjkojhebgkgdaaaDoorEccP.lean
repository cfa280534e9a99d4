/-
  The code that mends itself: plain law. Conditions: each lemma's own.
-/
import Derived.Test.YtjkojhebgkgdaaaDoorEccB
namespace Go.Proofs.YtjkojhebgkgdaaaDoor.Ecc
set_option linter.unusedVariables false
/-- The places of the 64 bits. -/
def plL : List Nat := (List.range 72).filter fun n => n &&& (n - 1) != 0
def pl (i : Nat) : Nat := plL.getD i 0
theorem plL_len : plL.length = 64 := by decide +kernel
theorem pl_lt : ∀ i, i < 64 → pl i < 128 := by decide +kernel
/-- What the first k bits' places come to. -/
def syn (v : Nat) : Nat → Nat
  | 0 => 0
  | k + 1 => if v.testBit k then syn v k ^^^ pl k else syn v k
theorem pl_lt' (i : Nat) : pl i < 128 := by
  rcases Nat.lt_or_ge i 64 with h | h
  · exact pl_lt i h
  · unfold pl
    rw [List.getD_eq_getElem?_getD, List.getElem?_eq_none (by rw [plL_len]; exact h)]
    decide
theorem syn_lt (v : Nat) : ∀ k, syn v k < 128
  | 0 => by show 0 < 128; decide
  | k + 1 => by
    have h := syn_lt v k
    have h2 := pl_lt' k
    unfold syn
    split
    · exact Nat.xor_lt_two_pow (n := 7) h h2
    · exact h
def evenV (s ones : Nat) : Nat := if (popN s 8 + ones) % 2 = 1 then s ||| 128 else s
/-- A group's check. -/
def chk (v : Nat) : Nat := evenV (syn v 64) (popN v 64)
/-- What one bit turns in a check: of the group, of the check itself. -/
def tn (i : Nat) : Nat := if i < 64 then evenV (pl i) 1 else 2 ^ (i - 64)
theorem evenV_lt (s ones : Nat) (h : s < 128) : evenV s ones < 256 := by
  unfold evenV
  split
  · exact Nat.or_lt_two_pow (n := 8) (by omega) (by omega)
  · omega
theorem chk_lt (v : Nat) : chk v < 256 := evenV_lt _ _ (syn_lt v 64)
theorem testBit_flip (v i j : Nat) : (v ^^^ 2 ^ i).testBit j = if j = i then !v.testBit j else v.testBit j := by
  rw [Nat.testBit_xor, Nat.testBit_two_pow]
  by_cases h : j = i
  · subst h; simp
  · rw [if_neg h]
    have : decide (i = j) = false := by simp; omega
    rw [this]
    simp
theorem syn_flip (v i : Nat) : ∀ k, syn (v ^^^ 2 ^ i) k = if i < k then syn v k ^^^ pl i else syn v k
  | 0 => by simp [syn]
  | k + 1 => by
    have ih := syn_flip v i k
    show (if (v ^^^ 2 ^ i).testBit k then syn (v ^^^ 2 ^ i) k ^^^ pl k else syn (v ^^^ 2 ^ i) k) = if i < k + 1 then (if v.testBit k then syn v k ^^^ pl k else syn v k) ^^^ pl i else (if v.testBit k then syn v k ^^^ pl k else syn v k)
    rw [ih, testBit_flip]
    by_cases h : k = i
    · subst h
      rw [if_pos rfl, if_neg (Nat.lt_irrefl k), if_pos (Nat.lt_succ_self k)]
      cases v.testBit k <;> simp [Nat.xor_assoc]
    · rw [if_neg h]
      by_cases h2 : i < k
      · rw [if_pos h2, if_pos (show i < k + 1 by omega)]
        cases v.testBit k
        · rfl
        · simp only [if_true]
          rw [Nat.xor_assoc, Nat.xor_assoc, Nat.xor_comm (pl i)]
      · rw [if_neg h2, if_neg (show ¬ i < k + 1 by omega)]
theorem pop_flip (v i : Nat) : ∀ k, popN (v ^^^ 2 ^ i) k % 2 = if i < k then (popN v k + 1) % 2 else popN v k % 2
  | 0 => by simp [popN]
  | k + 1 => by
    have ih := pop_flip v i k
    unfold popN
    rw [testBit_flip]
    by_cases h : k = i
    · subst h
      rw [if_pos rfl, if_pos (Nat.lt_succ_self k)]
      rw [if_neg (Nat.lt_irrefl k)] at ih
      cases v.testBit k <;> simp <;> omega
    · rw [if_neg h]
      by_cases h2 : i < k
      · rw [if_pos h2] at ih
        rw [if_pos (by omega)]
        omega
      · rw [if_neg h2] at ih
        rw [if_neg (by omega)]
        omega
theorem even_mod (s : Nat) {a b : Nat} (h : a % 2 = b % 2) : evenV s a = evenV s b := by
  unfold evenV
  rw [show (popN s 8 + a) % 2 = (popN s 8 + b) % 2 by omega]
theorem pop_xor (a b : Nat) : ∀ k, popN (a ^^^ b) k % 2 = (popN a k + popN b k) % 2
  | 0 => rfl
  | k + 1 => by
    have ih := pop_xor a b k
    show (popN (a ^^^ b) k + ((a ^^^ b).testBit k).toNat) % 2 = ((popN a k + (a.testBit k).toNat) + (popN b k + (b.testBit k).toNat)) % 2
    rw [Nat.testBit_xor]
    cases a.testBit k <;> cases b.testBit k <;> simp <;> omega
theorem even_eq_f : ∀ s : Fin 128, ∀ a : Fin 2, evenV s.val a.val = s.val ^^^ (128 * ((popN s.val 8 + a.val) % 2)) := by decide +kernel
theorem even_eq {s : Nat} (hs : s < 128) (a : Nat) : evenV s a = s ^^^ (128 * ((popN s 8 + a) % 2)) := by
  have := even_eq_f ⟨s, hs⟩ ⟨a % 2, by omega⟩
  simp only at this
  rw [even_mod s (show a % 2 = a % 2 % 2 by omega), this, show (popN s 8 + a % 2) % 2 = (popN s 8 + a) % 2 by omega]
theorem even_xor {s p : Nat} (hs : s < 128) (hp : p < 128) (a : Nat) : evenV (s ^^^ p) (a + 1) = evenV s a ^^^ evenV p 1 := by
  rw [even_eq (Nat.xor_lt_two_pow (n := 7) hs hp), even_eq hs, even_eq hp]
  have h := pop_xor s p 8
  have e : (popN (s ^^^ p) 8 + (a + 1)) % 2 = ((popN s 8 + a) % 2 + (popN p 8 + 1) % 2) % 2 := by omega
  rw [e]
  have hx : (popN s 8 + a) % 2 = 0 ∨ (popN s 8 + a) % 2 = 1 := by omega
  have hy : (popN p 8 + 1) % 2 = 0 ∨ (popN p 8 + 1) % 2 = 1 := by omega
  have xc : s ^^^ 128 ^^^ (p ^^^ 128) = s ^^^ p := by
    rw [Nat.xor_assoc, ← Nat.xor_assoc 128 p 128, Nat.xor_comm 128 p, Nat.xor_assoc p, Nat.xor_self, Nat.xor_zero]
  rcases hx with hx | hx <;> rcases hy with hy | hy <;> rw [hx, hy]
  · simp
  · show s ^^^ p ^^^ 128 = s ^^^ 0 ^^^ (p ^^^ 128)
    rw [Nat.xor_zero, Nat.xor_assoc]
  · show s ^^^ p ^^^ 128 = s ^^^ 128 ^^^ (p ^^^ 0)
    rw [Nat.xor_zero, Nat.xor_assoc, Nat.xor_assoc, Nat.xor_comm p]
  · show s ^^^ p ^^^ 0 = s ^^^ 128 ^^^ (p ^^^ 128)
    rw [xc, Nat.xor_zero]
/-- A bit of the group turned. -/
theorem chk_flip (v : Nat) {i : Nat} (hi : i < 64) : chk (v ^^^ 2 ^ i) = chk v ^^^ tn i := by
  unfold chk tn
  rw [if_pos hi, syn_flip, if_pos hi]
  have := pop_flip v i 64
  rw [if_pos hi] at this
  rw [even_mod _ this, even_xor (syn_lt v 64) (pl_lt' i)]
theorem even_par : ∀ s : Fin 128, ∀ a : Fin 2, popN (evenV s.val a.val) 8 % 2 = a.val := by decide +kernel
/-- Group and check together have just as many ones. -/
theorem chk_par (v : Nat) : popN (chk v) 8 % 2 = popN v 64 % 2 := by
  unfold chk
  have := even_par ⟨syn v 64, syn_lt v 64⟩ ⟨popN v 64 % 2, by omega⟩
  simp only at this
  rw [even_mod _ (show popN v 64 % 2 = popN v 64 % 2 % 2 by omega), this]
/-- How a group and its check are mended: none: two are turned; some none: as it is; some (some i): this bit is turned back. -/
def way (odd : Nat) : Option (Option Nat) :=
  if odd = 0 then some none else ((List.range 72).find? fun i => tn i == odd).map some
/-- As the program has it. -/
def wayP (odd : Nat) : Option (Option Nat) :=
  if odd = 0 then some none
  else if popN odd 8 % 2 = 0 then none
  else if (odd &&& 127) &&& ((odd &&& 127) - 1) = 0 then some (some (64 + (List.range 8).findIdx fun j => 2 ^ j == odd))
  else ((List.range 64).find? fun i => pl i == odd &&& 127).map some
theorem way_eq_f : ∀ o : Fin 256, wayP o.val = way o.val := by decide +kernel
theorem way_eq {o : Nat} (h : o < 256) : wayP o = way o := way_eq_f ⟨o, h⟩
theorem way_one_f : ∀ i : Fin 72, way (tn i.val) = some (some i.val) := by decide +kernel
theorem tn_two_f : ∀ i : Fin 72, ∀ j : Fin 72, i ≠ j → tn i.val ^^^ tn j.val ≠ 0 ∧ popN (tn i.val ^^^ tn j.val) 8 % 2 = 0 ∧ tn i.val ^^^ tn j.val < 256 := by decide +kernel
theorem way_two (i j : Fin 72) (h : i ≠ j) : way (tn i.val ^^^ tn j.val) = none := by
  obtain ⟨h1, h2, h3⟩ := tn_two_f i j h
  rw [← way_eq h3]
  unfold wayP
  rw [if_neg h1, if_pos h2]
theorem tn_lt : ∀ i, i < 72 → tn i < 256 := by decide +kernel
end Go.Proofs.YtjkojhebgkgdaaaDoor.Ecc
