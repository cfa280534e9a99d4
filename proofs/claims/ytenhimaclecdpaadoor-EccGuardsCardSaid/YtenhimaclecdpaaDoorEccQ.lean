/-
  One bit is turned back, two are told: plain law. Conditions: each lemma's own.
-/
import Derived.Test.YtenhimaclecdpaaDoorEccN
namespace Go.Proofs.YtenhimaclecdpaaDoor.Ecc
set_option linter.unusedVariables false
theorem wd_bit : ∀ (l : List Nat), (∀ a ∈ l, a < 256) → ∀ j, (wdN l).testBit j = (l.getD (j / 8) 0).testBit (j % 8)
  | [], _, j => by simp [wdN]
  | a :: l, h, j => by
    have ha := h a (by simp)
    have ih := wd_bit l (fun x hx => h x (by simp [hx]))
    have e : wdN (a :: l) = 2 ^ 8 * wdN l + a := by show a + 256 * wdN l = _; omega
    rw [e, Nat.testBit_two_pow_mul_add _ (show a < 2 ^ 8 by omega)]
    by_cases hj : j < 8
    · rw [if_pos hj, show j / 8 = 0 by omega, show j % 8 = j by omega]
      rfl
    · rw [if_neg hj, ih (j - 8), show j / 8 = (j - 8) / 8 + 1 by omega, show (j - 8) % 8 = j % 8 by omega]
      rfl
theorem flip_wd {G : List Nat} (hG : G.length = 8) (hb : ∀ a ∈ G, a < 256) {i : Nat} (hi : i < 64) : wdN (flipG G i) = wdN G ^^^ 2 ^ i := by
  apply Nat.eq_of_testBit_eq
  intro j
  have h2 : ∀ a ∈ flipG G i, a < 256 := by
    intro a ha
    unfold flipG at ha
    rcases List.mem_or_eq_of_mem_set ha with h | h
    · exact hb a h
    · subst h
      refine Nat.xor_lt_two_pow (n := 8) ?_ (Nat.pow_lt_pow_right (by omega) (by omega))
      rw [List.getD_eq_getElem?_getD]
      cases h : G[i / 8]? with
      | none => simp
      | some x => exact hb x (List.mem_of_getElem? h)
  rw [wd_bit _ h2, testBit_flip, wd_bit _ hb]
  unfold flipG
  by_cases hq : j / 8 = i / 8
  · have hlt : i / 8 < G.length := by omega
    rw [hq]
    have e : (G.set (i / 8) (G.getD (i / 8) 0 ^^^ 2 ^ (i % 8))).getD (i / 8) 0 = G.getD (i / 8) 0 ^^^ 2 ^ (i % 8) := by
      rw [List.getD_eq_getElem?_getD, List.getElem?_set_self hlt]
      rfl
    rw [e, testBit_flip]
    by_cases hj : j = i
    · subst hj
      rw [if_pos rfl, if_pos rfl]
    · rw [if_neg hj, if_neg (by omega)]
  · have e : (G.set (i / 8) (G.getD (i / 8) 0 ^^^ 2 ^ (i % 8))).getD (j / 8) 0 = G.getD (j / 8) 0 := by
      rw [List.getD_eq_getElem?_getD, List.getElem?_set_ne (by omega), ← List.getD_eq_getElem?_getD]
    rw [e, if_neg (by rintro rfl; exact hq rfl)]
theorem flip_flip {G : List Nat} (hG : G.length = 8) {i : Nat} (hi : i < 64) : flipG (flipG G i) i = G := by
  have hlt : i / 8 < G.length := by omega
  unfold flipG
  rw [List.getD_eq_getElem?_getD, List.getD_eq_getElem?_getD, List.getElem?_set_self hlt, List.set_set]
  simp only [Option.getD_some]
  rw [Nat.xor_assoc, Nat.xor_self, Nat.xor_zero, List.getElem?_eq_getElem hlt]
  simp
/-- A group and its check, behind a turned bit. -/
def turnG (G : List UInt8) (c : UInt8) (i : Nat) : List UInt8 := (turnL (G ++ [c]) i).take 8
def turnC (G : List UInt8) (c : UInt8) (i : Nat) : UInt8 := (turnL (G ++ [c]) i).getD 8 0
theorem turnG_len {G : List UInt8} (hG : G.length = 8) (c : UInt8) (i : Nat) : (turnG G c i).length = 8 := by
  unfold turnG
  rw [List.length_take, turn_len, List.length_append, hG]
  rfl
theorem turn_low {G : List UInt8} (hG : G.length = 8) (c : UInt8) {i : Nat} (hi : i < 64) : (turnG G c i).map UInt8.toNat = flipG (G.map UInt8.toNat) i ∧ turnC G c i = c := by
  have hlt : i / 8 < G.length := by omega
  have hp : 2 ^ (i % 8) < 256 := Nat.pow_lt_pow_right (n := 8) (by omega) (by omega)
  unfold turnG turnC turnL flipG
  have e1 : (G ++ [c]).getD (i / 8) 0 = G[i / 8] := by
    rw [List.getD_eq_getElem?_getD, List.getElem?_append_left hlt, List.getElem?_eq_getElem hlt]
    rfl
  have e2 : (G.map UInt8.toNat).getD (i / 8) 0 = G[i / 8].toNat := by
    rw [List.getD_eq_getElem?_getD, List.getElem?_map, List.getElem?_eq_getElem hlt]
    rfl
  rw [e1, e2, List.set_append_left _ _ hlt]
  refine ⟨?_, ?_⟩
  · rw [List.take_append_of_le_length (by rw [List.length_set, hG]; exact Nat.le_refl _), List.take_of_length_le (by rw [List.length_set, hG]; exact Nat.le_refl _), List.map_set, UInt8.toNat_xor, UInt8.toNat_ofNat', Nat.mod_eq_of_lt hp]
  · rw [List.getD_eq_getElem?_getD, List.getElem?_append_right (by rw [List.length_set, hG]; exact Nat.le_refl _), List.length_set, hG]
    rfl
theorem turn_high {G : List UInt8} (hG : G.length = 8) (c : UInt8) {i : Nat} (h1 : 64 ≤ i) (h2 : i < 72) : turnG G c i = G ∧ (turnC G c i).toNat = c.toNat ^^^ 2 ^ (i - 64) := by
  have hq : i / 8 = 8 := by omega
  have hm : i % 8 = i - 64 := by omega
  have hp : 2 ^ (i - 64) < 256 := Nat.pow_lt_pow_right (n := 8) (by omega) (by omega)
  unfold turnG turnC turnL
  have e1 : (G ++ [c]).getD 8 0 = c := by
    rw [List.getD_eq_getElem?_getD, List.getElem?_append_right (by omega), hG]
    rfl
  rw [hq, hm, e1, List.set_append_right _ _ (by omega), hG]
  refine ⟨?_, ?_⟩
  · rw [List.take_append_of_le_length (by omega), List.take_of_length_le (by omega)]
  · rw [List.getD_eq_getElem?_getD, List.getElem?_append_right (by omega), hG]
    show (c ^^^ UInt8.ofNat (2 ^ (i - 64))).toNat = _
    rw [UInt8.toNat_xor, UInt8.toNat_ofNat', Nat.mod_eq_of_lt hp]
theorem tn_high {i : Nat} (h : 64 ≤ i) : tn i = 2 ^ (i - 64) := by unfold tn; rw [if_neg (by omega)]
/-- What a turned bit does to what is odd. -/
theorem turn_odd {G : List UInt8} (hG : G.length = 8) (c : UInt8) {i : Nat} (hi : i < 72) : chk (wdN ((turnG G c i).map UInt8.toNat)) ^^^ (turnC G c i).toNat = (chk (wdN (G.map UInt8.toNat)) ^^^ c.toNat) ^^^ tn i := by
  rcases Nat.lt_or_ge i 64 with h | h
  · obtain ⟨e1, e2⟩ := turn_low hG c h
    rw [e1, e2, flip_wd (by rw [List.length_map, hG]) (map_lt G) h, chk_flip _ h, Nat.xor_assoc, Nat.xor_assoc, Nat.xor_comm (tn i)]
  · obtain ⟨e1, e2⟩ := turn_high hG c h hi
    rw [e1, e2, tn_high h, Nat.xor_assoc]
theorem mend_one {G : List UInt8} (hG : G.length = 8) {a : Nat} (ha : a < 72) : mendV ((turnG G (ckB G) a).map UInt8.toNat) (turnC G (ckB G) a).toNat = (G.map UInt8.toNat, 1, true) := by
  have ho := turn_odd hG (ckB G) ha
  rw [ckB_nat, Nat.xor_self, Nat.zero_xor] at ho
  have hw := way_one_f ⟨a, ha⟩
  simp only at hw
  unfold mendV
  rw [ho, hw]
  simp only
  rcases Nat.lt_or_ge a 64 with h | h
  · rw [if_pos h, (turn_low hG (ckB G) h).1, flip_flip (by rw [List.length_map, hG]) h]
  · rw [if_neg (by omega), (turn_high hG (ckB G) h ha).1]
theorem mend_two {G : List UInt8} (hG : G.length = 8) {a b : Nat} (ha : a < 72) (hb : b < 72) (hab : a ≠ b) :
    mendV ((turnG (turnG G (ckB G) a) (turnC G (ckB G) a) b).map UInt8.toNat) (turnC (turnG G (ckB G) a) (turnC G (ckB G) a) b).toNat = (z8, 0, false) := by
  have ho := turn_odd hG (ckB G) ha
  rw [ckB_nat, Nat.xor_self, Nat.zero_xor] at ho
  have ho2 := turn_odd (turnG_len hG (ckB G) a) (turnC G (ckB G) a) hb
  rw [ho] at ho2
  have hw := way_two ⟨a, ha⟩ ⟨b, hb⟩ (fun e => hab (by injection e))
  simp only at hw
  unfold mendV
  rw [ho2, hw]
end Go.Proofs.YtenhimaclecdpaaDoor.Ecc
