/-
  Tables of pages: what Place and Worth tell, in plain Lean. Conditions: each lemma's own.
-/
import Derived.Test.YthppheklnplljaaTableB
namespace Go.Proofs.Ythppheklnplljaa.Table
set_option linter.unusedVariables false
def placeV (R : List Row3) (n m : Nat) (i p : Int) : Int := if isB n m i p then ownI (ownOf R (i.toNat, p.toNat)) else -1
def worthV (R : List Row3) (n m : Nat) (i : Int) : Int := if isB n m i 0 then (worthOf R i.toNat : Nat) else 0
theorem is_true {n m : Nat} {i p : Int} (h : isB n m i p = true) : ∃ a b : Nat, i = a ∧ p = b ∧ a < n ∧ b < m := by
  unfold isB at h
  simp at h
  obtain ⟨h0, h1, h2, h3⟩ := h
  obtain ⟨a, rfl⟩ := Int.eq_ofNat_of_zero_le h0
  obtain ⟨b, rfl⟩ := Int.eq_ofNat_of_zero_le h2
  exact ⟨a, b, rfl, rfl, by omega, by omega⟩
end Go.Proofs.Ythppheklnplljaa.Table
