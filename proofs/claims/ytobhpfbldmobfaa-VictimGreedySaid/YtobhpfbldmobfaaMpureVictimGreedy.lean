/-
  Proved here: the pure law of 'almshouselaw15.VictimGreedy': the greedy choice is the first block that is worth least, as the document's own search finds it. Conditions: none beyond those of the statement.
-/
import Derived.Test.YtobhpfbldmobfaaMVictimGreedyx2
namespace Go.Proofs.Ytobhpfbldmobfaa.Pure
open Go.RowKit Go.Proofs.Ytobhpfbldmobfaa.PVictimGreedy Go.Proofs.YtobhpfbldmobfaaW.PrintWords Go.Proofs.YtobhpfbldmobfaaW.PrintLast Go.Proofs.YtobhpfbldmobfaaW.PrintMore

set_option linter.unusedVariables false
/-- What is known of the best of the first i. -/
def GInv (l : List Int) (i b : Int) : Prop :=
  (b = -1 ∨ (0 ≤ b ∧ b < i ∧ 0 ≤ rd l b)) ∧ (b = -1 → ∀ j, 0 ≤ j → j < i → rd l j < 0) ∧
  (b ≠ -1 → ∀ j, 0 ≤ j → j < i → 0 ≤ rd l j → rd l b < rd l j ∨ (rd l b = rd l j ∧ b ≤ j))

theorem ginv_unique {l : List Int} {n b c : Int} (hb : GInv l n b) (hc : GInv l n c) : b = c := by
  obtain ⟨b1, b2, b3⟩ := hb
  obtain ⟨c1, c2, c3⟩ := hc
  by_cases eb : b = -1
  · by_cases ec : c = -1
    · omega
    · have := b2 eb c (by omega) (by omega); omega
  · by_cases ec : c = -1
    · have := c2 ec b (by omega) (by omega); omega
    · have h1 := b3 eb c (by omega) (by omega) (by omega)
      have h2 := c3 ec b (by omega) (by omega) (by omega)
      omega

theorem w64_succ {i n : Int} (h0 : 0 ≤ i) (h : i < n) (hn : n ≤ 17592186044416) : wrap64 (i + 1) = i + 1 := by
  unfold wrap64; omega

theorem greedy_loop (l : List Int) (hn : (l.length : Int) ≤ 17592186044416) (d : Nat) : ∀ (k : Nat) (i b : Int), 0 ≤ i → i ≤ l.length → (l.length : Int) - i = d → d < k → GInv l i b →
    ∃ r, victim_Greedy.l0 k l b l (l.length : Int) i = some r ∧ GInv l (l.length : Int) r := by
  induction d with
  | zero =>
    intro k i b h0 h1 hd hk hI
    obtain ⟨k, rfl⟩ : ∃ m, k = m + 1 := ⟨k - 1, by omega⟩
    obtain rfl : i = (l.length : Int) := by omega
    exact ⟨b, by simp only [victim_Greedy.l0]; rw [if_neg (by omega)], hI⟩
  | succ d ih =>
    intro k i b h0 h1 hd hk hI
    obtain ⟨k, rfl⟩ : ∃ m, k = m + 1 := ⟨k - 1, by omega⟩
    have hlt : i < (l.length : Int) := by omega
    have hw := w64_succ h0 hlt hn
    obtain ⟨i1, i2, i3⟩ := hI
    simp only [victim_Greedy.l0]
    rw [if_pos hlt, if_pos h0, if_pos hlt, hw]
    by_cases hv : rd l i ≥ 0
    · rw [if_pos hv]
      by_cases hb : b = -1
      · rw [if_pos hb]
        refine ih k (i + 1) i (by omega) (by omega) (by omega) (by omega) ⟨.inr ⟨by omega, by omega, by omega⟩, by omega, fun _ j j0 j1 j2 => ?_⟩
        by_cases e : j = i
        · subst e; omega
        · have := i2 hb j j0 (by omega); omega
      · rw [if_neg hb, if_pos (by omega), if_pos (by omega)]
        by_cases hc : rd l i < rd l b
        · rw [if_pos hc]
          refine ih k (i + 1) i (by omega) (by omega) (by omega) (by omega) ⟨.inr ⟨by omega, by omega, by omega⟩, by omega, fun _ j j0 j1 j2 => ?_⟩
          by_cases e : j = i
          · subst e; omega
          · have := i3 hb j j0 (by omega) j2; omega
        · rw [if_neg hc]
          refine ih k (i + 1) b (by omega) (by omega) (by omega) (by omega) ⟨.inr ⟨by omega, by omega, by omega⟩, by omega, fun _ j j0 j1 j2 => ?_⟩
          by_cases e : j = i
          · subst e; omega
          · exact i3 hb j j0 (by omega) j2
    · rw [if_neg hv]
      refine ih k (i + 1) b (by omega) (by omega) (by omega) (by omega) ⟨by omega, fun e j j0 j1 => ?_, fun e j j0 j1 j2 => ?_⟩
      · by_cases e' : j = i
        · subst e'; omega
        · exact i2 e j j0 (by omega)
      · by_cases e' : j = i
        · subst e'; omega
        · exact i3 e j j0 (by omega) j2

theorem greedy_tells (l : List Int) (hn : (l.length : Int) ≤ 17592186044416) : ∃ r, (∀ k, l.length < k → victim_Greedy.f k l = some r) ∧ GInv l (l.length : Int) r := by
  have base : GInv l 0 (-1) := ⟨.inl rfl, fun _ j j0 j1 => by omega, fun h => absurd rfl h⟩
  obtain ⟨r, hr, hI⟩ := greedy_loop l hn l.length (l.length + 1) 0 (-1) (by omega) (by omega) (by omega) (by omega) base
  refine ⟨r, fun k hk => ?_, hI⟩
  obtain ⟨r', hr', hI'⟩ := greedy_loop l hn l.length k 0 (-1) (by omega) (by omega) (by omega) hk base
  rw [ginv_unique hI hI']
  exact hr'

theorem fixed_true (k : Nat) : almshouselaw15_fixed.f (k + 10) = some true := by
  simp (config := { decide := true }) [almshouselaw15_fixed.f, victim_Greedy.f, victim_Greedy.l0, victim_Benefit.f, victim_Benefit.j0, victim_Benefit.l0, victim_Benefit.j2, victim_offer_better.f, victim_Spread.f, victim_Spread.l0, rd, wrap64, mn, mx]

theorem ref_loop1 (l : List Int) (hn : (l.length : Int) ≤ 17592186044416) (w : Int) (hw0 : 0 ≤ w) (hw1 : w ≤ 100) (K : Nat) (r : Int) (hI : GInv l (l.length : Int) r) (hless : ∀ j, 0 ≤ j → j < (l.length : Int) → rd l j < 0 ∨ w ≤ rd l j)
    (hnext : (∀ j, 0 ≤ j → j < (l.length : Int) → rd l j < 0 ∨ w + 1 ≤ rd l j) → ∀ k, K < k → almshouseref15_Greedy.l0 k l (w + 1) = some r) (d : Nat) :
    ∀ (k : Nat) (i : Int), 0 ≤ i → i ≤ l.length → (l.length : Int) - i = d → d + K + 1 < k → (∀ j, 0 ≤ j → j < i → rd l j ≠ w) →
      almshouseref15_Greedy.l1 k l w l (l.length : Int) i = some r := by
  induction d with
  | zero =>
    intro k i h0 h1 hd hk hno
    obtain ⟨k, rfl⟩ : ∃ m, k = m + 1 := ⟨k - 1, by omega⟩
    simp only [almshouseref15_Greedy.l1]
    rw [if_neg (by omega), show wrap64 (w + 1) = w + 1 by unfold wrap64; omega]
    refine hnext (fun j j0 j1 => ?_) k (by omega)
    have := hless j j0 j1
    have := hno j j0 (by omega)
    omega
  | succ d ih =>
    intro k i h0 h1 hd hk hno
    obtain ⟨k, rfl⟩ : ∃ m, k = m + 1 := ⟨k - 1, by omega⟩
    have hlt : i < (l.length : Int) := by omega
    simp only [almshouseref15_Greedy.l1]
    rw [if_pos hlt, if_pos h0, if_pos hlt, w64_succ h0 hlt hn]
    by_cases e : rd l i = w
    · rw [if_pos e]
      congr 1
      refine ginv_unique ⟨.inr ⟨h0, hlt, by omega⟩, by omega, fun _ j j0 j1 j2 => ?_⟩ hI
      have := hless j j0 j1
      by_cases hj : j < i
      · have := hno j j0 hj; omega
      · omega
    · rw [if_neg e]
      refine ih k (i + 1) (by omega) (by omega) (by omega) (by omega) (fun j j0 j1 => ?_)
      by_cases ej : j = i
      · subst ej; exact e
      · exact hno j j0 (by omega)

theorem ref_loop0 (l : List Int) (hn : (l.length : Int) ≤ 17592186044416) (hmost : ∀ j, 0 ≤ j → j < (l.length : Int) → rd l j ≤ 100) (r : Int) (hI : GInv l (l.length : Int) r) (d : Nat) :
    ∀ (k : Nat) (w : Int), 0 ≤ w → w ≤ 101 → 101 - w = d → (d + 1) * (l.length + 4) < k → (∀ j, 0 ≤ j → j < (l.length : Int) → rd l j < 0 ∨ w ≤ rd l j) → almshouseref15_Greedy.l0 k l w = some r := by
  induction d with
  | zero =>
    intro k w h0 h1 hd hk hless
    obtain ⟨k, rfl⟩ : ∃ m, k = m + 1 := ⟨k - 1, by omega⟩
    simp only [almshouseref15_Greedy.l0]
    rw [if_neg (by omega)]
    congr 1
    refine ginv_unique ⟨.inl rfl, fun _ j j0 j1 => ?_, by omega⟩ hI
    have := hless j j0 j1
    have := hmost j j0 j1
    omega
  | succ d ih =>
    intro k w h0 h1 hd hk hless
    have hk' : (d + 1) * (l.length + 4) + (l.length + 4) < k := by rw [Nat.add_mul] at hk; omega
    obtain ⟨k, rfl⟩ : ∃ m, k = m + 1 := ⟨k - 1, by omega⟩
    simp only [almshouseref15_Greedy.l0]
    rw [if_pos (by omega)]
    refine ref_loop1 l hn w h0 (by omega) ((d + 1) * (l.length + 4)) r hI hless (fun hl k' hk' => ih k' (w + 1) (by omega) (by omega) (by omega) hk' hl) l.length k 0 (by omega) (by omega) (by omega) (by omega) (fun j j0 j1 => by omega)

theorem law_loop (l : List Int) (hn : (l.length : Int) ≤ 17592186044416) (h100 : (l.length : Int) ≤ 100) (d : Nat) : ∀ (k : Nat) (i : Int), 0 ≤ i → i ≤ l.length → (l.length : Int) - i = d → d + 20000 < k → (∀ j, 0 ≤ j → j < i → rd l j ≤ 100) →
    almshouselaw15_VictimGreedy.l0 k l l (l.length : Int) i = some true := by
  induction d with
  | zero =>
    intro k i h0 h1 hd hk hI
    obtain ⟨k, rfl⟩ : ∃ m, k = m + 1 := ⟨k - 1, by omega⟩
    simp only [almshouselaw15_VictimGreedy.l0]
    rw [if_neg (by omega)]
    obtain ⟨r, hr, hr'⟩ := greedy_tells l hn
    rw [hr _ (by omega)]
    have hb : (101 + 1) * (l.length + 4) < k := by
      have : l.length ≤ 100 := by omega
      have : (101 + 1) * (l.length + 4) ≤ (101 + 1) * 104 := Nat.mul_le_mul_left _ (by omega)
      omega
    have := ref_loop0 l hn (fun j j0 j1 => hI j j0 (by omega)) r hr' 101 k 0 (by omega) (by omega) (by omega) hb (fun j j0 j1 => by omega)
    unfold almshouseref15_Greedy.f
    rw [this]
    simp
  | succ d ih =>
    intro k i h0 h1 hd hk hI
    obtain ⟨k, rfl⟩ : ∃ m, k = m + 1 := ⟨k - 1, by omega⟩
    have hlt : i < (l.length : Int) := by omega
    simp only [almshouselaw15_VictimGreedy.l0]
    rw [if_pos hlt, if_pos h0, if_pos hlt, w64_succ h0 hlt hn]
    by_cases e : rd l i > 100
    · rw [if_pos e]
    · rw [if_neg e]
      refine ih k (i + 1) (by omega) (by omega) (by omega) (by omega) (fun j j0 j1 => ?_)
      by_cases ej : j = i
      · subst ej; omega
      · exact hI j j0 (by omega)

theorem VictimGreedy : almshouselaw15_VictimGreedy.Pure := by
  intro l _ h8 _
  have hn : (l.length : Int) ≤ 17592186044416 := by omega
  refine ⟨(l.length + 20000) + 10, ?_⟩
  unfold almshouselaw15_VictimGreedy.f
  rw [fixed_true]
  simp only [Option.bind_some, if_true]
  by_cases h : (l.length : Int) > 100
  · rw [if_pos h]
  · rw [if_neg h]
    exact law_loop l hn (by omega) l.length _ 0 (by omega) (by omega) (by omega) (by omega) (fun j j0 j1 => by omega)

end Go.Proofs.Ytobhpfbldmobfaa.Pure
