/-
  Proved here: the pure law of 'almshouselaw15.VictimLeast': what is chosen greedily is worth no more than any block that may be collected. Conditions: none beyond those of the statement.
-/
import Derived.Test.YtobhpfbldmobfaaMVictimLeastx2
namespace Go.Proofs.Ytobhpfbldmobfaa.Pure
open Go.RowKit Go.Proofs.Ytobhpfbldmobfaa.PVictimLeast Go.Proofs.YtobhpfbldmobfaaW.PrintWords Go.Proofs.YtobhpfbldmobfaaW.PrintLast Go.Proofs.YtobhpfbldmobfaaW.PrintMore

set_option linter.unusedVariables false
/-- What is known of the best of the first i. -/
def GInv (l : List Int) (i b : Int) : Prop :=
  (b = -1 ∨ (0 ≤ b ∧ b < i ∧ 0 ≤ rd l b)) ∧ (b = -1 → ∀ j, 0 ≤ j → j < i → rd l j < 0) ∧
  (b ≠ -1 → ∀ j, 0 ≤ j → j < i → 0 ≤ rd l j → rd l b < rd l j ∨ (rd l b = rd l j ∧ b ≤ j))

theorem ginv_unique {l : List Int} {n b c : Int} (hb : GInv l n b) (hc : GInv l n c) : b = c := by
  obtain ⟨b1, b2, b3⟩ := hb
  obtain ⟨c1, c2, c3⟩ := hc
  by_cases eb : b = -1
  · by_cases ec : c = -1
    · omega
    · have := b2 eb c (by omega) (by omega); omega
  · by_cases ec : c = -1
    · have := c2 ec b (by omega) (by omega); omega
    · have h1 := b3 eb c (by omega) (by omega) (by omega)
      have h2 := c3 ec b (by omega) (by omega) (by omega)
      omega

theorem w64_succ {i n : Int} (h0 : 0 ≤ i) (h : i < n) (hn : n ≤ 17592186044416) : wrap64 (i + 1) = i + 1 := by
  unfold wrap64; omega

theorem greedy_loop (l : List Int) (hn : (l.length : Int) ≤ 17592186044416) (d : Nat) : ∀ (k : Nat) (i b : Int), 0 ≤ i → i ≤ l.length → (l.length : Int) - i = d → d < k → GInv l i b →
    ∃ r, victim_Greedy.l0 k l b l (l.length : Int) i = some r ∧ GInv l (l.length : Int) r := by
  induction d with
  | zero =>
    intro k i b h0 h1 hd hk hI
    obtain ⟨k, rfl⟩ : ∃ m, k = m + 1 := ⟨k - 1, by omega⟩
    obtain rfl : i = (l.length : Int) := by omega
    exact ⟨b, by simp only [victim_Greedy.l0]; rw [if_neg (by omega)], hI⟩
  | succ d ih =>
    intro k i b h0 h1 hd hk hI
    obtain ⟨k, rfl⟩ : ∃ m, k = m + 1 := ⟨k - 1, by omega⟩
    have hlt : i < (l.length : Int) := by omega
    have hw := w64_succ h0 hlt hn
    obtain ⟨i1, i2, i3⟩ := hI
    simp only [victim_Greedy.l0]
    rw [if_pos hlt, if_pos h0, if_pos hlt, hw]
    by_cases hv : rd l i ≥ 0
    · rw [if_pos hv]
      by_cases hb : b = -1
      · rw [if_pos hb]
        refine ih k (i + 1) i (by omega) (by omega) (by omega) (by omega) ⟨.inr ⟨by omega, by omega, by omega⟩, by omega, fun _ j j0 j1 j2 => ?_⟩
        by_cases e : j = i
        · subst e; omega
        · have := i2 hb j j0 (by omega); omega
      · rw [if_neg hb, if_pos (by omega), if_pos (by omega)]
        by_cases hc : rd l i < rd l b
        · rw [if_pos hc]
          refine ih k (i + 1) i (by omega) (by omega) (by omega) (by omega) ⟨.inr ⟨by omega, by omega, by omega⟩, by omega, fun _ j j0 j1 j2 => ?_⟩
          by_cases e : j = i
          · subst e; omega
          · have := i3 hb j j0 (by omega) j2; omega
        · rw [if_neg hc]
          refine ih k (i + 1) b (by omega) (by omega) (by omega) (by omega) ⟨.inr ⟨by omega, by omega, by omega⟩, by omega, fun _ j j0 j1 j2 => ?_⟩
          by_cases e : j = i
          · subst e; omega
          · exact i3 hb j j0 (by omega) j2
    · rw [if_neg hv]
      refine ih k (i + 1) b (by omega) (by omega) (by omega) (by omega) ⟨by omega, fun e j j0 j1 => ?_, fun e j j0 j1 j2 => ?_⟩
      · by_cases e' : j = i
        · subst e'; omega
        · exact i2 e j j0 (by omega)
      · by_cases e' : j = i
        · subst e'; omega
        · exact i3 e j j0 (by omega) j2

theorem greedy_tells (l : List Int) (hn : (l.length : Int) ≤ 17592186044416) : ∃ r, (∀ k, l.length < k → victim_Greedy.f k l = some r) ∧ GInv l (l.length : Int) r := by
  have base : GInv l 0 (-1) := ⟨.inl rfl, fun _ j j0 j1 => by omega, fun h => absurd rfl h⟩
  obtain ⟨r, hr, hI⟩ := greedy_loop l hn l.length (l.length + 1) 0 (-1) (by omega) (by omega) (by omega) (by omega) base
  refine ⟨r, fun k hk => ?_, hI⟩
  obtain ⟨r', hr', hI'⟩ := greedy_loop l hn l.length k 0 (-1) (by omega) (by omega) (by omega) hk base
  rw [ginv_unique hI hI']
  exact hr'

theorem fixed_true (k : Nat) : almshouselaw15_fixed.f (k + 10) = some true := by
  simp (config := { decide := true }) [almshouselaw15_fixed.f, victim_Greedy.f, victim_Greedy.l0, victim_Benefit.f, victim_Benefit.j0, victim_Benefit.l0, victim_Benefit.j2, victim_offer_better.f, victim_Spread.f, victim_Spread.l0, rd, wrap64, mn, mx]

theorem least_loop (l : List Int) (hn : (l.length : Int) ≤ 17592186044416) (v : Int) (hv : GInv l (l.length : Int) v) (d : Nat) : ∀ (k : Nat) (i : Int), 0 ≤ i → i ≤ l.length → (l.length : Int) - i = d → d < k →
    almshouselaw15_VictimLeast.l0 k l v l (l.length : Int) i = some true := by
  obtain ⟨v1, v2, v3⟩ := hv
  induction d with
  | zero =>
    intro k i h0 h1 hd hk
    obtain ⟨k, rfl⟩ : ∃ m, k = m + 1 := ⟨k - 1, by omega⟩
    simp only [almshouselaw15_VictimLeast.l0]
    rw [if_neg (by omega)]
    by_cases e : v = -1
    · rw [if_pos e]
    · rw [if_neg e, if_pos (by omega), if_pos (by omega), if_pos (by omega), decide_eq_true (by omega)]
  | succ d ih =>
    intro k i h0 h1 hd hk
    obtain ⟨k, rfl⟩ : ∃ m, k = m + 1 := ⟨k - 1, by omega⟩
    have hlt : i < (l.length : Int) := by omega
    have hw := w64_succ h0 hlt hn
    have next := ih k (i + 1) (by omega) (by omega) (by omega) (by omega)
    simp only [almshouselaw15_VictimLeast.l0]
    rw [if_pos hlt, if_pos h0, if_pos hlt, hw, next]
    by_cases hx : rd l i ≥ 0
    · have hne : v ≠ -1 := fun e => by have := v2 e i h0 hlt; omega
      have h := v3 hne i h0 hlt hx
      rw [if_pos hx, if_neg (by omega), if_neg (by omega), if_pos (by omega), if_pos (by omega), if_neg (by omega)]
      by_cases e : rd l v = rd l i
      · rw [if_pos e, if_neg (by omega)]
      · rw [if_neg e]
    · rw [if_neg hx]

theorem VictimLeast : almshouselaw15_VictimLeast.Pure := by
  intro l _ h8 _
  have hn : (l.length : Int) ≤ 17592186044416 := by omega
  obtain ⟨v, hv, hI⟩ := greedy_tells l hn
  refine ⟨l.length + 10, ?_⟩
  unfold almshouselaw15_VictimLeast.f
  rw [fixed_true]
  simp only [Option.bind_some, if_true]
  by_cases h : (l.length : Int) > 300
  · rw [if_pos h]
  · rw [if_neg h, hv _ (by omega)]
    exact least_loop l hn v hI l.length _ 0 (by omega) (by omega) (by omega) (by omega)

end Go.Proofs.Ytobhpfbldmobfaa.Pure
