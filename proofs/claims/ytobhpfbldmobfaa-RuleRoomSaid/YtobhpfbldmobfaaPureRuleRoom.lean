/-
  Proved here: the pure law of 'almshouselaw09.RuleRoom': whatever two bytes are handed in, the printed function answers true. Conditions: none beyond those of the statement (both numbers are bytes).
-/
import Derived.Test.YtobhpfbldmobfaaPRuleRoomx1
namespace Go.Proofs.Ytobhpfbldmobfaa.Pure
open Go.RowKit Go.Proofs.Ytobhpfbldmobfaa.PRuleRoom Go.Proofs.YtobhpfbldmobfaaW.PrintWords Go.Proofs.YtobhpfbldmobfaaW.PrintLast

set_option linter.unusedVariables false
theorem rr_data (s p : Int) (hs : 1 ≤ s) (hs' : s ≤ 64) (hp : 2 ≤ p) (hp' : p ≤ 16) : rule_Data.f s p = some (s / p + 2) := by
  have hq0 : 0 ≤ s / p := Int.ediv_nonneg (by omega) (by omega)
  have hq1 : s / p ≤ s := Int.ediv_le_self _ (by omega)
  unfold rule_Data.f rule_Check.f rule_paged.f
  rw [if_neg (by omega), if_neg (by omega), if_neg (by omega), if_neg (by omega)]
  simp only [Option.bind_some, if_true]
  rw [if_pos (by omega)]
  simp only [Option.bind_some, decide_eq_true_eq]
  rw [if_pos hp', if_neg (by omega), Int.tdiv_eq_ediv_of_nonneg (by omega)]
  congr 1
  unfold wrap64
  omega

theorem rr_mul (s p : Int) (hs : 1 ≤ s) (hp : 2 ≤ p) : s < (s / p + 1) * p ∧ (s / p) * p ≤ s := by
  have h := Int.ediv_mul_add_emod s p
  have h1 := Int.emod_lt_of_pos s (show 0 < p by omega)
  have h2 := Int.emod_nonneg s (show p ≠ 0 by omega)
  rw [Int.add_mul]
  omega

theorem rr_fixed (k : Nat) : almshouselaw09_fixed.f (k + 1) = some true := by
  simp [almshouselaw09_fixed.f, rule_Data.f, rule_Total.f, rule_Check.f, rule_paged.f, rule_Bound.f, rule_Most.f, rule_Most.j0, wrap64, mn]

theorem RuleRoom : almshouselaw09_RuleRoom.Pure := by
  intro a0 a1 h0 h1
  have b0 : 0 ≤ a0 ∧ a0 ≤ 255 := by
    simp only [Lit.wf, Bool.and_eq_true, decide_eq_true_eq] at h0
    exact h0
  have b1 : 0 ≤ a1 ∧ a1 ≤ 255 := by
    simp only [Lit.wf, Bool.and_eq_true, decide_eq_true_eq] at h1
    exact h1
  refine ⟨0 + 1, ?_⟩
  have e0 : wrap64 (1 + wrap64 (Int.tmod a0 64)) = 1 + a0 % 64 := by
    rw [Int.tmod_eq_emod_of_nonneg b0.1]; unfold wrap64; omega
  have e1 : wrap64 (2 + wrap64 (Int.tmod a1 15)) = 2 + a1 % 15 := by
    rw [Int.tmod_eq_emod_of_nonneg b1.1]; unfold wrap64; omega
  unfold almshouselaw09_RuleRoom.f
  rw [rr_fixed 0, e0, e1]
  generalize hs : 1 + a0 % 64 = s
  generalize hp : 2 + a1 % 15 = p
  have s1 : 1 ≤ s := by omega
  have s2 : s ≤ 64 := by omega
  have p1 : 2 ≤ p := by omega
  have p2 : p ≤ 16 := by omega
  have hq0 : 0 ≤ s / p := Int.ediv_nonneg (by omega) (by omega)
  have hq1 : s / p ≤ s := Int.ediv_le_self _ (by omega)
  have hq2 : s / p ≤ 32 := by
    have h := (rr_mul s p s1 p1).2
    have h2 : s / p * 2 ≤ s / p * p := Int.mul_le_mul_of_nonneg_left p1 hq0
    omega
  obtain ⟨m1, m2⟩ := rr_mul s p s1 p1
  rw [rr_data s p s1 s2 p1 p2]
  simp only [Option.bind_some, if_true]
  generalize s / p = q at *
  have m3 : (q + 1) * p ≤ s + p := by rw [Int.add_mul]; omega
  have e2 : wrap64 (q + 2 - 1) = q + 1 := by unfold wrap64; omega
  rw [e2]
  have e3 : wrap64 ((q + 1) * p) = (q + 1) * p := by
    generalize (q + 1) * p = z at *
    unfold wrap64; omega
  rw [e3, if_pos m1]
  unfold rule_Most.f rule_Check.f rule_paged.f
  rw [if_neg (by omega), if_neg (by omega), if_neg (by omega), if_neg (by omega)]
  simp only [Option.bind_some, if_true]
  rw [if_pos (by omega)]
  simp only [Option.bind_some, decide_eq_true_eq]
  rw [if_pos p2, if_neg (by omega), decide_eq_false (by omega)]
  simp only [rule_Most.j0]
  rw [if_neg (by decide)]
  have e4 : wrap64 (q + 2 - 0) = q + 2 := by unfold wrap64; omega
  have e5 : wrap64 (wrap64 (q + 2 - 2) + 1) = q + 1 := by unfold wrap64; omega
  rw [e4, if_neg (by omega), e5, e3]
  simp only [Option.bind_some, Option.some.injEq, decide_eq_true_eq]
  generalize (q + 1) * p = z at *
  unfold mn wrap64
  omega

end Go.Proofs.Ytobhpfbldmobfaa.Pure
