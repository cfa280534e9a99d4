/-
  Moves and records: a record's bytes are a record's just if what they are read as is written so again. Conditions: each lemma's own.
-/
import Derived.Test.YthppheklnplljaaDeltaQ
namespace Go.Proofs.Ythppheklnplljaa.Delta
set_option linter.unusedVariables false
open Go.Proofs.Ythppheklnplljaa.Word Go.Proofs.Ythppheklnplljaa.Frame
def headR (b : List UInt8) : Nat × Rd := (⟨b, 0⟩ : Rd).number 4
def manyR (b : List UInt8) : Nat × Rd := (headR b).2.number 1
def parsed (b : List UInt8) : List Mv × Rd := bodyN (manyR b).2 (manyR b).1
/-- What the program reads of a record's own bytes. -/
def bodyV (b : List UInt8) (number : Int) : List Mv × Bool := ((parsed b).1, ((decide (((headR b).1 : Int) = number) && decide (number ≤ 2147483647)) && (parsed b).1.all rightM) && (decide ((manyR b).1 ≤ 32) && decide ((parsed b).2.done.1 = 0)))
theorem many_le (b : List UInt8) : (manyR b).1 ≤ 255 := by
  unfold manyR
  rw [number1]
  split
  · simp
  · split
    · simp
    · show num _ ≤ 255
      have := num_lt ((headR b).2.l.take 1)
      have hl : ((headR b).2.l.take 1).length ≤ 1 := by simp; omega
      have : (256 : Nat) ^ ((headR b).2.l.take 1).length ≤ 256 ^ 1 := Nat.pow_le_pow_right (by omega) hl
      omega
theorem head_good {b : List UInt8} (h : (headR b).2.e = 0) : b = le (headR b).1 4 ++ (headR b).2.l ∧ (headR b).1 < 4294967296 := by
  unfold headR Rd.number Rd.next at *
  rw [if_pos (by decide)] at h ⊢
  rw [show ((4 : Int)).toNat = 4 from rfl] at *
  simp only [ne_eq, not_true_eq_false, if_false] at h ⊢
  by_cases hl : b.length < 4
  · rw [if_pos hl] at h
    simp at h
  · rw [if_neg hl]
    have hn := le_num (b.take 4)
    have hlt := num_lt (b.take 4)
    rw [List.length_take_of_le (by omega)] at hn hlt
    exact ⟨by simp only; rw [hn, List.take_append_drop], hlt⟩
theorem done_zero {r : Rd} (h : r.done.1 = 0) : r.e = 0 ∧ r.l = [] := by
  unfold Rd.done at h
  simp only at h
  by_cases hl : 0 < r.l.length
  · rw [if_pos hl] at h
    unfold Rd.fail at h
    split at h
    · simp at h
    · contradiction
  · rw [if_neg hl] at h
    exact ⟨h, List.eq_nil_of_length_eq_zero (by omega)⟩
theorem c01_b (x : Bool) : 0 ≤ c01 x ∧ c01 x ≤ 255 := by cases x <;> simp [c01]
theorem enc_eq (b : List UInt8) (m : Mv) (h : 0 ≤ m.place ∧ m.place ≤ 255 ∧ 0 ≤ m.block ∧ m.block ≤ 255 ∧ 0 ≤ m.page ∧ m.page ≤ 255) : encM b m = b ++ mvL m := by
  obtain ⟨p, q, s, g⟩ := m
  simp only at h
  obtain ⟨h1, h2, h3, h4, h5, h6⟩ := h
  obtain ⟨p, rfl⟩ := Int.eq_ofNat_of_zero_le h1
  obtain ⟨q, rfl⟩ := Int.eq_ofNat_of_zero_le h3
  obtain ⟨s, rfl⟩ := Int.eq_ofNat_of_zero_le h5
  obtain ⟨c, hc⟩ := Int.eq_ofNat_of_zero_le (c01_b g).1
  have hc2 := (c01_b g).2
  unfold encM mvL
  simp only [hc]
  rw [putL_1' p (by omega), putL_1' q (by omega), putL_1' s (by omega), putL_1' c (by omega)]
  simp
theorem fold_eq (l : List Mv) : ∀ b, (∀ m ∈ l, 0 ≤ m.place ∧ m.place ≤ 255 ∧ 0 ≤ m.block ∧ m.block ≤ 255 ∧ 0 ≤ m.page ∧ m.page ≤ 255) → l.foldl encM b = b ++ flatM l := by
  induction l with
  | nil => intro b _; simp [flatM]
  | cons m l ih =>
    intro b h
    rw [List.foldl_cons, enc_eq b m (h m (by simp)), ih _ (fun x hx => h x (by simp [hx]))]
    simp [flatM]
/-- What is read whole is written so again. -/
theorem again {b : List UInt8} (h : (parsed b).2.done.1 = 0) : recBody (headR b).1 (parsed b).1 = b ∧ (headR b).1 < 4294967296 := by
  obtain ⟨h1, h2⟩ := done_zero h
  obtain ⟨g1, g2, g3⟩ := bodyN_good _ h1
  obtain ⟨x, e1, l1, n1⟩ := number1_good (r := (headR b).2) g1
  obtain ⟨hb, hlt⟩ := head_good e1
  refine ⟨?_, hlt⟩
  replace g2 : (manyR b).2.l = flatM (parsed b).1 ++ (parsed b).2.l := g2
  rw [h2] at g2
  unfold recBody recHead
  rw [fold_eq (parsed b).1 _ g3]
  have hm : (parsed b).1.length = (manyR b).1 := bodyN_len _ _
  have hx := x.toNat_lt
  have hmx : (manyR b).1 = x.toNat := n1
  rw [hm, hmx, show max ((headR b).1 : Int) 0 = ((headR b).1 : Int) by omega, putL_4' _ _ hlt, putL_1' _ (by omega), le1]
  conv => rhs; rw [hb, l1, show ((headR b).2.number 1).2.l = (manyR b).2.l from rfl, g2]
  simp
/-- Where the reference stops. -/
def Stops (b : List UInt8) (j : Nat) : Prop := j ≤ (manyR b).1 ∧ (j = (manyR b).1 ∨ (bodyN (manyR b).2 j).2.e ≠ 0)
def refOk (b : List UInt8) (number : Int) (f : List UInt8) (j : Nat) : Bool := decide ((bodyN (manyR b).2 j).2.done.1 = 0) && (decide ((recB (headR b).1 (bodyN (manyR b).2 j).1).2 = 0) && (decide (((headR b).1 : Int) = number) && ((recB (headR b).1 (bodyN (manyR b).2 j).1).1 == f)))
theorem done_bad {r : Rd} (h : r.e ≠ 0) : r.done.1 ≠ 0 := fun h2 => h (done_zero h2).1
theorem one_eq {b : List UInt8} {number : Int} {f : List UInt8} {j : Nat} (hf : frameL 68 b = f) (hb : b.length ≤ 65535) (hs : Stops b j) : refOk b number f j = (bodyV b number).2 ∧ ((bodyV b number).2 = true → (bodyN (manyR b).2 j).1 = (bodyV b number).1) := by
  obtain ⟨hj, hs⟩ := hs
  by_cases he : (bodyN (manyR b).2 j).2.e = 0
  · have hjm : j = (manyR b).1 := hs.resolve_right (fun h => h he)
    subst hjm
    refine ⟨?_, fun _ => rfl⟩
    unfold refOk bodyV
    simp only
    rw [show bodyN (manyR b).2 (manyR b).1 = parsed b from rfl]
    by_cases hd : (parsed b).2.done.1 = 0
    · obtain ⟨ha, hlt⟩ := again hd
      have hm : (parsed b).1.length = (manyR b).1 := bodyN_len _ _
      simp only [hd, decide_true, Bool.true_and, Bool.and_true]
      by_cases hn : ((headR b).1 : Int) = number
      · subst hn
        simp only [decide_true, Bool.true_and]
        have hnum : numOk (headR b).1 = decide (((headR b).1 : Int) ≤ 2147483647) := by
          unfold numOk inR
          rw [decide_eq_true (show (0 : Int) ≤ ((headR b).1 : Int) by omega), Bool.true_and]
          exact decide_eq_decide.2 (by omega)
        unfold recB
        rw [hnum, hm, ha]
        cases hq : (decide (((headR b).1 : Int) ≤ 2147483647) && (parsed b).1.all rightM) with
        | false => simp
        | true =>
          simp only [Bool.true_eq_false, if_false, Bool.true_and]
          by_cases h32 : 32 < (manyR b).1
          · rw [if_pos h32]
            simp
            omega
          · rw [if_neg h32]
            have hmk : mk 68 b = (frameL 68 b, 0) := by
              unfold mk
              rw [if_neg (by decide), if_neg (by omega)]
              rfl
            rw [hmk, hf]
            simp
            omega
      · simp [hn]
    · simp [hd]
  · have hb2 := bodyN_bad he _ hj
    have hd1 := done_bad he
    have hd2 : (parsed b).2.done.1 ≠ 0 := done_bad hb2
    unfold refOk bodyV
    simp [hd1, hd2]
end Go.Proofs.Ythppheklnplljaa.Delta
