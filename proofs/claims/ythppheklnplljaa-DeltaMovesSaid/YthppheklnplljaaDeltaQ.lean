/-
  Moves and records: what a record's bytes are read as, and that what is read is written so again. Conditions: each lemma's own.
-/
import Derived.Test.YthppheklnplljaaDeltaP
namespace Go.Proofs.Ythppheklnplljaa.Delta
set_option linter.unusedVariables false
open Go.Proofs.Ythppheklnplljaa.Word Go.Proofs.Ythppheklnplljaa.Frame
def step (r : Rd) : Mv × Rd := (⟨(r.number 1).1, ((r.number 1).2.number 1).1, (((r.number 1).2.number 1).2.number 1).1, ((((r.number 1).2.number 1).2.number 1).2.flag).1⟩, ((((r.number 1).2.number 1).2.number 1).2.flag).2)
def bodyN (r : Rd) : Nat → List Mv × Rd
  | 0 => ([], r)
  | i + 1 => ((bodyN r i).1 ++ [(step (bodyN r i).2).1], (step (bodyN r i).2).2)
theorem bodyN_len (r : Rd) (i : Nat) : (bodyN r i).1.length = i := by
  induction i with
  | zero => rfl
  | succ i ih => simp [bodyN, ih]
theorem number1 (r : Rd) : r.number 1 = if r.e ≠ 0 then (0, r) else if r.l.length < 1 then (0, ⟨r.l, 2⟩) else (num (r.l.take 1), ⟨r.l.drop 1, 0⟩) := by
  unfold Rd.number Rd.next
  rw [if_pos (by decide), show (1 : Int).toNat = 1 from rfl]
  by_cases h1 : r.e ≠ 0
  · rw [if_pos h1, if_pos h1]
    rfl
  · rw [if_neg h1, if_neg h1]
    by_cases h2 : r.l.length < 1
    · rw [if_pos h2, if_pos h2]
      rfl
    · rw [if_neg h2, if_neg h2]
theorem number1_bad {r : Rd} (h : r.e ≠ 0) : r.number 1 = (0, r) := by rw [number1, if_pos h]
theorem flag_bad {r : Rd} (h : r.e ≠ 0) : r.flag = (false, r) := by
  unfold Rd.flag
  rw [number1_bad h]
  rfl
theorem step_bad {r : Rd} (h : r.e ≠ 0) : (step r).2 = r := by
  unfold step
  simp only [number1_bad h, flag_bad h]
theorem bodyN_bad {r : Rd} {i : Nat} (h : (bodyN r i).2.e ≠ 0) : ∀ j, i ≤ j → (bodyN r j).2.e ≠ 0 := by
  intro j hj
  induction j with
  | zero =>
    obtain rfl : i = 0 := by omega
    exact h
  | succ j ih =>
    rcases Nat.lt_or_ge i (j + 1) with h1 | h1
    · have h2 := ih (by omega)
      show (step (bodyN r j).2).2.e ≠ 0
      rw [step_bad h2]
      exact h2
    · obtain rfl : i = j + 1 := by omega
      exact h
theorem one_byte (l : List UInt8) (h : 1 ≤ l.length) : ∃ x r, l = x :: r := by
  cases l with
  | nil => simp at h
  | cons x r => exact ⟨x, r, rfl⟩
theorem num1 (x : UInt8) (r : List UInt8) : num ((x :: r).take 1) = x.toNat := by simp [num]
theorem le1 (x : UInt8) : le x.toNat 1 = [x] := by simp [le, byteAt]
theorem number1_good {r : Rd} (h : (r.number 1).2.e = 0) : ∃ x, r.e = 0 ∧ r.l = x :: (r.number 1).2.l ∧ (r.number 1).1 = x.toNat := by
  rw [number1] at h ⊢
  by_cases h1 : r.e ≠ 0
  · rw [if_pos h1] at h
    exact absurd h h1
  · rw [if_neg h1] at h ⊢
    by_cases h2 : r.l.length < 1
    · rw [if_pos h2] at h
      simp at h
    · rw [if_neg h2]
      obtain ⟨x, t, e⟩ := one_byte r.l (by omega)
      refine ⟨x, by simpa using h1, ?_, ?_⟩
      · rw [e]; rfl
      · rw [e]; exact num1 x t
/-- A move's four bytes. -/
def mvL (m : Mv) : List UInt8 := le m.place.toNat 1 ++ le m.block.toNat 1 ++ le m.page.toNat 1 ++ le (c01 m.gone).toNat 1
theorem step_good {r : Rd} (h : (step r).2.e = 0) : r.e = 0 ∧ r.l = mvL (step r).1 ++ (step r).2.l ∧ ((step r).1.place ≤ 255 ∧ (step r).1.block ≤ 255 ∧ (step r).1.page ≤ 255) := by
  unfold step at h ⊢
  simp only at h ⊢
  generalize hr1 : r.number 1 = p1 at *
  generalize hr2 : p1.2.number 1 = p2 at *
  generalize hr3 : p2.2.number 1 = p3 at *
  unfold Rd.flag at h ⊢
  have h4 : (p3.2.number 1).2.e = 0 := by
    simp only at h
    split at h
    · unfold Rd.fail at h
      split at h
      · simp at h
      · exact h
    · exact h
  obtain ⟨x4, e3, l3, n4⟩ := number1_good h4
  obtain ⟨x3, e2, l2, n3⟩ := number1_good (r := p2.2) (by rw [hr3]; exact e3)
  obtain ⟨x2, e1, l1, n2⟩ := number1_good (r := p1.2) (by rw [hr2]; exact e2)
  obtain ⟨x1, e0, l0, n1⟩ := number1_good (r := r) (by rw [hr1]; exact e1)
  rw [hr3] at l2 n3
  rw [hr2] at l1 n2
  rw [hr1] at l0 n1
  simp only at h ⊢
  have hx4 : ¬ 1 < (p3.2.number 1).1 := fun h1 => by
    rw [if_pos h1] at h
    unfold Rd.fail at h
    rw [if_pos h4] at h
    simp at h
  rw [if_neg hx4]
  have b1 := x1.toNat_lt
  have b2 := x2.toNat_lt
  have b3 := x3.toNat_lt
  refine ⟨e0, ?_, by rw [n1]; omega, by rw [n2]; omega, by rw [n3]; omega⟩
  have hc : le (c01 (decide ((p3.2.number 1).1 = 1))).toNat 1 = [x4] := by
    rw [n4] at hx4 ⊢
    have : x4.toNat = 0 ∨ x4.toNat = 1 := by omega
    have h1 := le1 x4
    rcases this with e | e
    · rw [e] at h1 ⊢
      exact h1
    · rw [e] at h1 ⊢
      exact h1
  unfold mvL
  simp only [Int.toNat_natCast, n1, n2, n3, hc, le1]
  rw [l0, l1, l2, l3]
  rfl
def flatM (l : List Mv) : List UInt8 := l.flatMap mvL
theorem bodyN_good {r : Rd} : ∀ i, (bodyN r i).2.e = 0 → r.e = 0 ∧ r.l = flatM (bodyN r i).1 ++ (bodyN r i).2.l ∧ ∀ m ∈ (bodyN r i).1, 0 ≤ m.place ∧ m.place ≤ 255 ∧ 0 ≤ m.block ∧ m.block ≤ 255 ∧ 0 ≤ m.page ∧ m.page ≤ 255
  | 0, h => ⟨h, by simp [bodyN, flatM], fun m hm => by simp [bodyN] at hm⟩
  | i + 1, h => by
    have h : (step (bodyN r i).2).2.e = 0 := h
    obtain ⟨h1, h2, h3⟩ := step_good h
    obtain ⟨g1, g2, g3⟩ := bodyN_good i h1
    refine ⟨g1, ?_, fun m hm => ?_⟩
    · rw [g2]
      conv => lhs; rw [h2]
      simp [bodyN, flatM]
    · rcases List.mem_append.1 hm with hm | hm
      · exact g3 m hm
      · have : m = (step (bodyN r i).2).1 := by simpa using hm
        subst this
        refine ⟨?_, h3.1, ?_, h3.2.1, ?_, h3.2.2⟩ <;> · unfold step; simp
end Go.Proofs.Ythppheklnplljaa.Delta
