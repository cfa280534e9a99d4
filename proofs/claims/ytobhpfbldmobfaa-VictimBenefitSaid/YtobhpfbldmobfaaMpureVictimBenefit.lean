/-
  Proved here: the pure law of 'almshouselaw15.VictimBenefit': which block is chosen by cost and benefit, and how much erases differ, is what the document's own search tells. Conditions: none beyond those of the statement.
-/
import Derived.Test.YtobhpfbldmobfaaMVictimBenefitx4
namespace Go.Proofs.Ytobhpfbldmobfaa.Pure
open Go.RowKit Go.Proofs.Ytobhpfbldmobfaa.PVictimBenefit Go.Proofs.YtobhpfbldmobfaaW.PrintWords Go.Proofs.YtobhpfbldmobfaaW.PrintLast Go.Proofs.YtobhpfbldmobfaaW.PrintMore

set_option linter.unusedVariables false
theorem w64_succ {i n : Int} (h0 : 0 ≤ i) (h : i < n) (hn : n ≤ 17592186044416) : wrap64 (i + 1) = i + 1 := by
  unfold wrap64; omega

/-- What of a block: may it be chosen, what its benefit is over what. -/
def may (l0 l1 : List Int) (p i : Int) : Prop := 0 ≤ rd l0 i ∧ rd l0 i < p ∧ i < (l1.length : Int)
instance (l0 l1 : List Int) (p i : Int) : Decidable (may l0 l1 p i) := by unfold may; infer_instance
def cl (x m : Int) : Int := if x < 0 then 0 else if x > m then m else x
def ov (l0 l1 : List Int) (p i : Int) : Int := (p - rd l0 i) * cl (rd l1 i) 1048576
def un (l0 : List Int) (p i : Int) : Int := p + rd l0 i
/-- i beats k. -/
def bt' (l0 l1 : List Int) (p i k : Int) : Prop := ov l0 l1 p i * un l0 p k > ov l0 l1 p k * un l0 p i
instance (l0 l1 : List Int) (p i k : Int) : Decidable (bt' l0 l1 p i k) := by unfold bt'; infer_instance

theorem cl_bd (x : Int) : 0 ≤ cl x 1048576 ∧ cl x 1048576 ≤ 1048576 := by unfold cl; split <;> (try split) <;> omega
theorem mnmx (x : Int) : mn (mx x 0) 1048576 = cl x 1048576 := by unfold mn mx cl; repeat' split <;> omega
theorem ov_bd {l0 l1 : List Int} {p i : Int} (hp : p ≤ 16) (h : may l0 l1 p i) : 0 ≤ ov l0 l1 p i ∧ ov l0 l1 p i ≤ 16777216 := by
  obtain ⟨h1, h2, _⟩ := h
  have hc := cl_bd (rd l1 i)
  unfold ov
  refine ⟨Int.mul_nonneg (by omega) hc.1, ?_⟩
  calc (p - rd l0 i) * cl (rd l1 i) 1048576 ≤ 16 * cl (rd l1 i) 1048576 := Int.mul_le_mul_of_nonneg_right (by omega) hc.1
    _ ≤ 16777216 := by omega
theorem un_bd {l0 l1 : List Int} {p i : Int} (hp1 : 2 ≤ p) (hp : p ≤ 16) (h : may l0 l1 p i) : 1 ≤ un l0 p i ∧ un l0 p i ≤ 32 := by
  obtain ⟨h1, h2, _⟩ := h
  unfold un; omega
theorem mul_bd {a b : Int} (ha : 0 ≤ a) (ha' : a ≤ 16777216) (hb : 1 ≤ b) (hb' : b ≤ 32) : wrap64 (a * b) = a * b := by
  have h0 : 0 ≤ a * b := Int.mul_nonneg ha (by omega)
  have h1 : a * b ≤ a * 32 := Int.mul_le_mul_of_nonneg_left hb' ha
  generalize a * b = z at *
  unfold wrap64; omega

/-- a is at least b, c beats a: c beats b. -/
theorem beats_trans {oa ua ob ub oc uc : Int} (ha : 1 ≤ ua) (hb : 1 ≤ ub) (hc : 1 ≤ uc) (h1 : ¬ ob * ua > oa * ub) (h2 : oc * ua > oa * uc) : oc * ub > ob * uc := by
  have e1 : ob * ua * uc ≤ oa * ub * uc := Int.mul_le_mul_of_nonneg_right (by omega) (by omega)
  have e2 : oa * uc * ub < oc * ua * ub := Int.mul_lt_mul_of_pos_right h2 (by omega)
  have e3 : (ob * uc) * ua < (oc * ub) * ua := by
    calc (ob * uc) * ua = ob * ua * uc := by rw [Int.mul_assoc, Int.mul_comm uc ua, ← Int.mul_assoc]
      _ ≤ oa * ub * uc := e1
      _ = oa * uc * ub := by rw [Int.mul_assoc, Int.mul_comm ub uc, ← Int.mul_assoc]
      _ < oc * ua * ub := e2
      _ = (oc * ub) * ua := by rw [Int.mul_assoc, Int.mul_comm ua ub, ← Int.mul_assoc]
  exact Int.lt_of_mul_lt_mul_right e3 (by omega)
/-- m does not beat i, m beats j: i beats j. -/
theorem beats_of {oi ui oj uj om um : Int} (hi : 1 ≤ ui) (hj : 1 ≤ uj) (hm : 1 ≤ um) (h1 : ¬ om * ui > oi * um) (h2 : om * uj > oj * um) : oi * uj > oj * ui := by
  have e1 : om * ui * uj ≤ oi * um * uj := Int.mul_le_mul_of_nonneg_right (by omega) (by omega)
  have e2 : oj * um * ui < om * uj * ui := Int.mul_lt_mul_of_pos_right h2 (by omega)
  have e3 : (oj * ui) * um < (oi * uj) * um := by
    calc (oj * ui) * um = oj * um * ui := by rw [Int.mul_assoc, Int.mul_comm ui um, ← Int.mul_assoc]
      _ < om * uj * ui := e2
      _ = om * ui * uj := by rw [Int.mul_assoc, Int.mul_comm uj ui, ← Int.mul_assoc]
      _ ≤ oi * um * uj := e1
      _ = (oi * uj) * um := by rw [Int.mul_assoc, Int.mul_comm um uj, ← Int.mul_assoc]
  exact Int.lt_of_mul_lt_mul_right e3 (by omega)
/-- The first of the first n that none beats; -1: none may be chosen. -/
def BInv (l0 l1 : List Int) (p n b : Int) : Prop :=
  (b = -1 ∨ (0 ≤ b ∧ b < n ∧ may l0 l1 p b)) ∧ (b = -1 → ∀ j, 0 ≤ j → j < n → ¬ may l0 l1 p j) ∧
  (b ≠ -1 → ∀ j, 0 ≤ j → j < n → may l0 l1 p j → ¬ bt' l0 l1 p j b) ∧ (b ≠ -1 → ∀ j, 0 ≤ j → j < b → may l0 l1 p j → bt' l0 l1 p b j)

theorem binv_unique {l0 l1 : List Int} {p n b c : Int} (hb : BInv l0 l1 p n b) (hc : BInv l0 l1 p n c) : b = c := by
  obtain ⟨b1, b2, b3, b4⟩ := hb
  obtain ⟨c1, c2, c3, c4⟩ := hc
  by_cases eb : b = -1
  · by_cases ec : c = -1
    · omega
    · rcases c1 with h | ⟨h1, h2, h3⟩
      · exact absurd h ec
      · exact absurd h3 (b2 eb c h1 h2)
  · rcases b1 with h | ⟨g1, g2, g3⟩
    · exact absurd h eb
    · by_cases ec : c = -1
      · exact absurd g3 (c2 ec b g1 g2)
      · rcases c1 with h | ⟨h1, h2, h3⟩
        · exact absurd h ec
        · by_cases lt : b < c
          · exact absurd (c4 ec b g1 lt g3) (b3 eb c h1 h2 h3)
          · by_cases gt : c < b
            · exact absurd (b4 eb c h1 gt h3) (c3 ec b g1 g2 g3)
            · omega

/-- One block more. -/
theorem binv_skip {l0 l1 : List Int} {p i b : Int} (h : BInv l0 l1 p i b) (hm : ¬ may l0 l1 p i) : BInv l0 l1 p (i + 1) b := by
  obtain ⟨b1, b2, b3, b4⟩ := h
  refine ⟨?_, fun e j j0 j1 => ?_, fun e j j0 j1 jm => ?_, b4⟩
  · rcases b1 with h | ⟨h1, h2, h3⟩
    · exact .inl h
    · exact .inr ⟨h1, by omega, h3⟩
  · by_cases ej : j = i
    · subst ej; exact hm
    · exact b2 e j j0 (by omega)
  · by_cases ej : j = i
    · subst ej; exact absurd jm hm
    · exact b3 e j j0 (by omega) jm

theorem binv_keep {l0 l1 : List Int} {p i b : Int} (h : BInv l0 l1 p i b) (hb : b ≠ -1) (hm : ¬ bt' l0 l1 p i b) : BInv l0 l1 p (i + 1) b := by
  obtain ⟨b1, b2, b3, b4⟩ := h
  refine ⟨?_, fun e => absurd e hb, fun e j j0 j1 jm => ?_, b4⟩
  · rcases b1 with h | ⟨h1, h2, h3⟩
    · exact .inl h
    · exact .inr ⟨h1, by omega, h3⟩
  · by_cases ej : j = i
    · subst ej; exact hm
    · exact b3 e j j0 (by omega) jm

theorem binv_take {l0 l1 : List Int} {p i b : Int} (hp1 : 2 ≤ p) (hp : p ≤ 16) (h0 : 0 ≤ i) (h : BInv l0 l1 p i b) (hm : may l0 l1 p i) (hb : b = -1 ∨ bt' l0 l1 p i b) : BInv l0 l1 p (i + 1) i := by
  obtain ⟨b1, b2, b3, b4⟩ := h
  have key : ∀ j, 0 ≤ j → j < i → may l0 l1 p j → bt' l0 l1 p i j := by
    intro j j0 j1 jm
    rcases b1 with h | ⟨h1, h2, h3⟩
    · exact absurd jm (b2 h j j0 j1)
    · have hne : b ≠ -1 := by omega
      rcases hb with e | hb
      · exact absurd e hne
      · exact beats_trans (un_bd hp1 hp h3).1 (un_bd hp1 hp jm).1 (un_bd hp1 hp hm).1 (b3 hne j j0 j1 jm) hb
  refine ⟨.inr ⟨h0, by omega, hm⟩, by omega, fun e j j0 j1 jm => ?_, fun e j j0 j1 jm => key j j0 j1 jm⟩
  by_cases ej : j = i
  · subst ej; unfold bt'; omega
  · have := key j j0 (by omega) jm
    unfold bt' at *; omega

theorem prog_loop (l0 l1 : List Int) (p : Int) (hp1 : 2 ≤ p) (hp : p ≤ 16) (hn : (l0.length : Int) ≤ 40) (m : Int) (hm : m = mn (l0.length : Int) (l1.length : Int)) (d : Nat) :
    ∀ (k : Nat) (i b o u : Int), 0 ≤ i → i ≤ m → m - i = d → 2 * d < k → BInv l0 l1 p i b → (b ≠ -1 → o = ov l0 l1 p b ∧ u = un l0 p b) →
      ∃ r, victim_Benefit.l0 k l0 l1 p b m i o u = some r ∧ BInv l0 l1 p m r := by
  have hm0 : m ≤ l0.length ∧ m ≤ l1.length := by unfold mn at hm; split at hm <;> omega
  induction d with
  | zero =>
    intro k i b o u h0 h1 hd hk hI hou
    obtain ⟨k, rfl⟩ : ∃ m, k = m + 1 := ⟨k - 1, by omega⟩
    obtain rfl : i = m := by omega
    exact ⟨b, by simp only [victim_Benefit.l0]; rw [if_neg (by omega)], hI⟩
  | succ d ih =>
    intro k i b o u h0 h1 hd hk hI hou
    obtain ⟨k, rfl⟩ : ∃ m, k = m + 2 := ⟨k - 2, by omega⟩
    have hlt : i < m := by omega
    have hlt0 : i < (l0.length : Int) := by omega
    have hlt1 : i < (l1.length : Int) := by omega
    have hw := w64_succ h0 hlt (by omega)
    simp only [victim_Benefit.l0]
    rw [if_pos hlt, if_pos h0, if_pos hlt0]
    by_cases hmay : may l0 l1 p i
    · obtain ⟨m1, m2, m3⟩ := hmay
      rw [if_neg (by omega), decide_eq_false (by omega)]
      simp only [victim_Benefit.j2]
      rw [if_neg (by decide), if_pos h0, if_pos hlt1, hw, mnmx, show wrap64 (p - rd l0 i) = p - rd l0 i by unfold wrap64; omega, show wrap64 (p + rd l0 i) = un l0 p i by unfold wrap64 un; omega]
      have hob := ov_bd hp ⟨m1, m2, m3⟩
      have hov : wrap64 ((p - rd l0 i) * cl (rd l1 i) 1048576) = ov l0 l1 p i := by
        unfold ov at *
        generalize (p - rd l0 i) * cl (rd l1 i) 1048576 = z at *
        unfold wrap64; omega
      rw [hov]
      by_cases hb : b = -1
      · rw [if_pos hb]
        exact ih k (i + 1) i _ _ (by omega) (by omega) (by omega) (by omega) (binv_take hp1 hp h0 hI ⟨m1, m2, m3⟩ (.inl hb)) (fun _ => ⟨rfl, rfl⟩)
      · rw [if_neg hb]
        obtain ⟨rfl, rfl⟩ := hou hb
        have hbm : may l0 l1 p b := by
          rcases hI.1 with h | ⟨_, _, h⟩
          · exact absurd h hb
          · exact h
        unfold victim_offer_better.f
        rw [mul_bd hob.1 hob.2 (un_bd hp1 hp hbm).1 (un_bd hp1 hp hbm).2, mul_bd (ov_bd hp hbm).1 (ov_bd hp hbm).2 (un_bd hp1 hp ⟨m1, m2, m3⟩).1 (un_bd hp1 hp ⟨m1, m2, m3⟩).2]
        simp only [Option.bind_some, decide_eq_true_eq]
        by_cases hbt : ov l0 l1 p i * un l0 p b > ov l0 l1 p b * un l0 p i
        · rw [if_pos hbt]
          exact ih k (i + 1) i _ _ (by omega) (by omega) (by omega) (by omega) (binv_take hp1 hp h0 hI ⟨m1, m2, m3⟩ (.inr hbt)) (fun _ => ⟨rfl, rfl⟩)
        · rw [if_neg hbt]
          exact ih k (i + 1) b _ _ (by omega) (by omega) (by omega) (by omega) (binv_keep hI hb hbt) (fun _ => ⟨rfl, rfl⟩)
    · have next : victim_Benefit.j2 (k + 1) l0 l1 p b i (rd l0 i) m i true o u = victim_Benefit.l0 k l0 l1 p b m (i + 1) o u := by
        simp only [victim_Benefit.j2]; rw [if_pos trivial, hw]
      have hgo := ih k (i + 1) b o u (by omega) (by omega) (by omega) (by omega) (binv_skip hI hmay) hou
      by_cases hneg : rd l0 i < 0
      · rw [if_pos hneg, next]; exact hgo
      · rw [if_neg hneg, decide_eq_true (by unfold may at hmay; omega), next]; exact hgo

theorem prog_tells (l0 l1 : List Int) (p : Int) (hp1 : 2 ≤ p) (hp : p ≤ 16) (hn : (l0.length : Int) ≤ 40) (k : Nat) (hk : 100 < k) :
    ∃ r, victim_Benefit.f k l0 l1 p = some r ∧ BInv l0 l1 p (l0.length : Int) r := by
  have hm0 : mn (l0.length : Int) (l1.length : Int) ≤ l0.length ∧ mn (l0.length : Int) (l1.length : Int) ≤ l1.length ∧ 0 ≤ mn (l0.length : Int) (l1.length : Int) ∧ (mn (l0.length : Int) (l1.length : Int) < l0.length → mn (l0.length : Int) (l1.length : Int) = l1.length) := by unfold mn; split <;> omega
  obtain ⟨k, rfl⟩ : ∃ m, k = m + 1 := ⟨k - 1, by omega⟩
  obtain ⟨r, hr, hI⟩ := prog_loop l0 l1 p hp1 hp hn _ rfl (mn (l0.length : Int) (l1.length : Int)).toNat k 0 (-1) 0 0 (by omega) (by omega) (by omega) (by omega) ⟨.inl rfl, fun _ j j0 j1 => by omega, fun h => absurd rfl h, fun h => absurd rfl h⟩ (fun h => absurd rfl h)
  refine ⟨r, ?_, ?_⟩
  · unfold victim_Benefit.f
    rw [if_neg (by omega), decide_eq_false (by omega)]
    simp only [victim_Benefit.j0]
    rw [if_neg (by decide)]
    exact hr
  · obtain ⟨b1, b2, b3, b4⟩ := hI
    have past : ∀ j, mn (l0.length : Int) (l1.length : Int) ≤ j → j < l0.length → ¬ may l0 l1 p j := fun j j1 j2 h => by
      have := h.2.2; omega
    refine ⟨?_, fun e j j0 j1 => ?_, fun e j j0 j1 jm => ?_, b4⟩
    · rcases b1 with h | ⟨h1, h2, h3⟩
      · exact .inl h
      · exact .inr ⟨h1, by omega, h3⟩
    · by_cases hj : j < mn (l0.length : Int) (l1.length : Int)
      · exact b2 e j j0 hj
      · exact past j (by omega) j1
    · by_cases hj : j < mn (l0.length : Int) (l1.length : Int)
      · exact b3 e j j0 hj jm
      · exact absurd jm (past j (by omega) j1)

theorem may_tells (l0 l1 : List Int) (p i : Int) (h0 : 0 ≤ i) (h1 : i < (l0.length : Int)) : almshouseref15_may.f l0 l1 p i = some (decide (may l0 l1 p i)) := by
  unfold almshouseref15_may.f
  rw [if_pos h0, if_pos h1]
  by_cases a : rd l0 i ≥ 0
  · by_cases b : rd l0 i < p
    · rw [if_pos a, if_pos b]
      congr 1
      rw [Bool.eq_iff_iff]
      simp only [decide_eq_true_eq]
      unfold may
      exact ⟨fun c => ⟨a, b, c⟩, fun h => h.2.2⟩
    · rw [if_pos a, if_neg b, decide_eq_false (fun h => b h.2.1)]
  · rw [if_neg a, decide_eq_false (fun h => a h.1)]

theorem value_tells (l0 l1 : List Int) (p i : Int) (hp : p ≤ 16) (h0 : 0 ≤ i) (h1 : i < (l0.length : Int)) (hm : may l0 l1 p i) : almshouseref15_value.f l0 l1 p i = some (ov l0 l1 p i) := by
  have hob := ov_bd hp hm
  have hm' := hm
  obtain ⟨m1, m2, m3⟩ := hm
  unfold almshouseref15_value.f
  rw [if_pos h0, if_pos h1, if_pos m3]
  have hc : almshouseref15_clamp.f (rd l1 i) 1048576 = some (cl (rd l1 i) 1048576) := by unfold almshouseref15_clamp.f cl; split <;> (try split) <;> rfl
  rw [hc]
  simp only [Option.bind_some]
  rw [show wrap64 (p - rd l0 i) = p - rd l0 i by unfold wrap64; omega]
  congr 1
  unfold ov at *
  generalize (p - rd l0 i) * cl (rd l1 i) 1048576 = z at *
  unfold wrap64; omega

/-- The inner loop: is i beaten by one from m on? -/
theorem ref_loop1 (l0 l1 : List Int) (p : Int) (hp1 : 2 ≤ p) (hp : p ≤ 16) (hn : (l0.length : Int) ≤ 40) (i : Int) (hi0 : 0 ≤ i) (hi1 : i < (l0.length : Int)) (hmi : may l0 l1 p i) (K : Nat) (n x : Int) (r : Int)
    (hyes : (∃ j, 0 ≤ j ∧ j < (l0.length : Int) ∧ may l0 l1 p j ∧ bt' l0 l1 p j i) → ∀ k, K < k → almshouseref15_Benefit.l0 k l0 l1 p n (wrap64 (x + 1)) = some r)
    (hno : (∀ j, 0 ≤ j → j < (l0.length : Int) → may l0 l1 p j → ¬ bt' l0 l1 p j i) → i = r) (d : Nat) :
    ∀ (k : Nat) (m : Int) (b : Bool), 0 ≤ m → m ≤ l0.length → (l0.length : Int) - m = d → d + K + 1 < k → (b = true → ∃ j, 0 ≤ j ∧ j < (l0.length : Int) ∧ may l0 l1 p j ∧ bt' l0 l1 p j i) →
      (b = false → ∀ j, 0 ≤ j → j < m → may l0 l1 p j → ¬ bt' l0 l1 p j i) →
      almshouseref15_Benefit.l1 k l0 l1 p i b n x (l0.length : Int) m = some r := by
  induction d with
  | zero =>
    intro k m b h0 h1 hd hk hb hb'
    obtain ⟨k, rfl⟩ : ∃ m, k = m + 1 := ⟨k - 1, by omega⟩
    simp only [almshouseref15_Benefit.l1]
    rw [if_neg (by omega)]
    cases b with
    | true => rw [if_pos rfl]; exact hyes (hb rfl) k (by omega)
    | false => rw [if_neg (by decide), hno (fun j j0 j1 => hb' rfl j j0 (by omega))]
  | succ d ih =>
    intro k m b h0 h1 hd hk hb hb'
    obtain ⟨k, rfl⟩ : ∃ m, k = m + 1 := ⟨k - 1, by omega⟩
    have hlt : m < (l0.length : Int) := by omega
    have hw := w64_succ h0 hlt (by omega)
    have next : ∀ b' : Bool, (b' = true → ∃ j, 0 ≤ j ∧ j < (l0.length : Int) ∧ may l0 l1 p j ∧ bt' l0 l1 p j i) → (b' = false → ∀ j, 0 ≤ j → j < m + 1 → may l0 l1 p j → ¬ bt' l0 l1 p j i) →
        almshouseref15_Benefit.l1 k l0 l1 p i b' n x (l0.length : Int) (wrap64 (m + 1)) = some r := fun b' g1 g2 => by
      rw [hw]; exact ih k (m + 1) b' (by omega) (by omega) (by omega) (by omega) g1 g2
    simp only [almshouseref15_Benefit.l1]
    rw [if_pos hlt, may_tells l0 l1 p m h0 hlt]
    simp only [Option.bind_some, decide_eq_true_eq]
    by_cases hm : may l0 l1 p m
    · rw [if_pos hm, value_tells l0 l1 p m hp h0 hlt hm]
      simp only [Option.bind_some]
      rw [if_pos hi0, if_pos hi1, value_tells l0 l1 p i hp hi0 hi1 hmi]
      simp only [Option.bind_some]
      have ui := un_bd hp1 hp hmi
      have um := un_bd hp1 hp hm
      rw [if_pos h0, if_pos hlt, show wrap64 (p + rd l0 i) = un l0 p i by unfold un at *; unfold wrap64; omega, show wrap64 (p + rd l0 m) = un l0 p m by unfold un at *; unfold wrap64; omega,
        mul_bd (ov_bd hp hm).1 (ov_bd hp hm).2 ui.1 ui.2, mul_bd (ov_bd hp hmi).1 (ov_bd hp hmi).2 um.1 um.2]
      by_cases hbt : ov l0 l1 p m * un l0 p i > ov l0 l1 p i * un l0 p m
      · rw [if_pos hbt]
        exact next true (fun _ => ⟨m, h0, hlt, hm, hbt⟩) (fun h => by cases h)
      · rw [if_neg hbt]
        refine next b hb (fun e j j0 j1 jm => ?_)
        by_cases ej : j = m
        · subst ej; exact hbt
        · exact hb' e j j0 (by omega) jm
    · rw [if_neg hm]
      refine next b hb (fun e j j0 j1 jm => ?_)
      by_cases ej : j = m
      · subst ej; exact absurd jm hm
      · exact hb' e j j0 (by omega) jm

theorem k50 {d k : Nat} (h : (d + 1 + 1) * 50 < k + 1) : (d + 1) * 50 < k := by rw [Nat.add_mul] at *; omega
set_option maxHeartbeats 400000 in
theorem ref_loop0 (l0 l1 : List Int) (p : Int) (hp1 : 2 ≤ p) (hp : p ≤ 16) (hn : (l0.length : Int) ≤ 40) (r : Int) (hI : BInv l0 l1 p (l0.length : Int) r) (d : Nat) :
    ∀ (k : Nat) (i : Int), 0 ≤ i → i ≤ l0.length → (l0.length : Int) - i = d → (d + 1) * 50 < k → (∀ j, 0 ≤ j → j < i → may l0 l1 p j → ∃ m, 0 ≤ m ∧ m < (l0.length : Int) ∧ may l0 l1 p m ∧ bt' l0 l1 p m j) →
      almshouseref15_Benefit.l0 k l0 l1 p (l0.length : Int) i = some r := by
  obtain ⟨b1, b2, b3, b4⟩ := hI
  induction d with
  | zero =>
    intro k i h0 h1 hd hk hall
    obtain ⟨k, rfl⟩ : ∃ m, k = m + 1 := ⟨k - 1, by omega⟩
    simp only [almshouseref15_Benefit.l0]
    rw [if_neg (by omega)]
    rcases b1 with h | ⟨h1, h2, h3⟩
    · rw [h]
    · obtain ⟨m, m0, m1, m2, m3⟩ := hall r h1 (by omega) h3
      exact absurd m3 (b3 (by omega) m m0 m1 m2)
  | succ d ih =>
    intro k i h0 h1 hd hk hall
    obtain ⟨k, rfl⟩ : ∃ m, k = m + 1 := ⟨k - 1, by omega⟩
    have hlt : i < (l0.length : Int) := by omega
    have hw := w64_succ h0 hlt (by omega)
    simp only [almshouseref15_Benefit.l0]
    rw [if_pos hlt, may_tells l0 l1 p i h0 hlt]
    simp only [Option.bind_some, decide_eq_true_eq]
    by_cases hm : may l0 l1 p i
    · rw [if_pos hm]
      refine ref_loop1 l0 l1 p hp1 hp hn i h0 hlt hm ((d + 1) * 50) _ _ r (fun hex k' hk' => ?_) (fun hno => ?_) l0.length k 0 false (by omega) (by omega) (by omega) (by omega) (fun h => by cases h) (fun _ j j0 j1 => by omega)
      · rw [hw]
        refine ih k' (i + 1) (by omega) (by omega) (by omega) hk' (fun j j0 j1 jm => ?_)
        by_cases ej : j = i
        · subst ej; exact hex
        · exact hall j j0 (by omega) jm
      · refine binv_unique (l0 := l0) (l1 := l1) (p := p) (n := (l0.length : Int)) ⟨.inr ⟨h0, hlt, hm⟩, by omega, fun _ j j0 j1 jm => hno j j0 j1 jm, fun _ j j0 j1 jm => ?_⟩ ⟨b1, b2, b3, b4⟩
        obtain ⟨m, m0, m1, m2, m3⟩ := hall j j0 j1 jm
        have := hno m m0 m1 m2
        exact beats_of (un_bd hp1 hp hm).1 (un_bd hp1 hp jm).1 (un_bd hp1 hp m2).1 this m3
    · rw [if_neg hm, hw]
      have hk2 : (d + 1) * 50 < k := k50 hk
      have hd2 : (l0.length : Int) - (i + 1) = d := by omega
      have h02 : 0 ≤ i + 1 := by omega
      have h12 : i + 1 ≤ (l0.length : Int) := by omega
      have hall2 : ∀ j, 0 ≤ j → j < i + 1 → may l0 l1 p j → ∃ m, 0 ≤ m ∧ m < (l0.length : Int) ∧ may l0 l1 p m ∧ bt' l0 l1 p m j := by
        intro j j0 j1 jm
        by_cases ej : j = i
        · subst ej; exact absurd jm hm
        · exact hall j j0 (by omega) jm
      exact ih k (i + 1) h02 h12 hd2 hk2 hall2

theorem ref_tells (l0 l1 : List Int) (p : Int) (hp1 : 2 ≤ p) (hp : p ≤ 16) (hn : (l0.length : Int) ≤ 40) (r : Int) (hI : BInv l0 l1 p (l0.length : Int) r) (k : Nat) (hk : 3000 < k) : almshouseref15_Benefit.f k l0 l1 p = some r := by
  obtain ⟨k, rfl⟩ : ∃ m, k = m + 1 := ⟨k - 1, by omega⟩
  unfold almshouseref15_Benefit.f
  rw [if_neg (by omega), decide_eq_false (by omega)]
  simp only [almshouseref15_Benefit.j0]
  rw [if_neg (by decide)]
  exact ref_loop0 l0 l1 p hp1 hp hn r hI l0.length k 0 (by omega) (by omega) (by omega) (by omega) (fun j j0 j1 => by omega)

theorem off_tells (l0 l1 : List Int) (p : Int) (h : p < 2 ∨ 16 < p) (k : Nat) (hk : 0 < k) : victim_Benefit.f k l0 l1 p = some (-1) ∧ almshouseref15_Benefit.f k l0 l1 p = some (-1) := by
  obtain ⟨k, rfl⟩ : ∃ m, k = m + 1 := ⟨k - 1, by omega⟩
  unfold victim_Benefit.f almshouseref15_Benefit.f
  by_cases a : p < 2
  · rw [if_pos a, if_pos a]; simp only [victim_Benefit.j0, almshouseref15_Benefit.j0, if_true, and_self]
  · rw [if_neg a, if_neg a, decide_eq_true (by omega)]; simp only [victim_Benefit.j0, almshouseref15_Benefit.j0, if_true, and_self]

theorem benefit_same (l0 l1 : List Int) (p : Int) (hn : (l0.length : Int) ≤ 40) (k : Nat) (hk : 3000 < k) : ∃ r, victim_Benefit.f k l0 l1 p = some r ∧ almshouseref15_Benefit.f k l0 l1 p = some r := by
  by_cases h : p < 2 ∨ 16 < p
  · exact ⟨-1, off_tells l0 l1 p h k (by omega)⟩
  · obtain ⟨r, hr, hI⟩ := prog_tells l0 l1 p (by omega) (by omega) hn k (by omega)
    exact ⟨r, hr, ref_tells l0 l1 p (by omega) (by omega) hn r hI k hk⟩

/-! ### Spread -/
def cM (x : Int) : Int := cl x 1099511627776
theorem cM_bd (x : Int) : 0 ≤ cM x ∧ cM x ≤ 1099511627776 := by unfold cM cl; split <;> (try split) <;> omega
theorem mnmxM (x : Int) : mn (mx x 0) 1099511627776 = cM x := by unfold mn mx cM cl; repeat' split <;> omega

/-- lo and hi are the least and greatest of the first i. -/
def SInv (l : List Int) (i lo hi : Int) : Prop :=
  0 ≤ lo ∧ lo ≤ 1099511627776 ∧ 0 ≤ hi ∧ hi ≤ 1099511627776 ∧ (∀ j, 0 ≤ j → j < i → lo ≤ cM (rd l j) ∧ cM (rd l j) ≤ hi) ∧ (0 < i → (∃ j, 0 ≤ j ∧ j < i ∧ lo = cM (rd l j)) ∧ (∃ j, 0 ≤ j ∧ j < i ∧ hi = cM (rd l j)))

theorem spread_loop (l : List Int) (hn : (l.length : Int) ≤ 60) (d : Nat) : ∀ (k : Nat) (i lo hi : Int), 0 ≤ i → i ≤ l.length → (l.length : Int) - i = d → d < k → SInv l i lo hi → (i = 0 → lo = 1099511627776 ∧ hi = 0) →
    ∃ x y, victim_Spread.l0 k lo hi l (l.length : Int) i = some (y - x) ∧ SInv l (l.length : Int) x y := by
  induction d with
  | zero =>
    intro k i lo hi h0 h1 hd hk hI hz
    obtain ⟨k, rfl⟩ : ∃ m, k = m + 1 := ⟨k - 1, by omega⟩
    obtain rfl : i = (l.length : Int) := by omega
    refine ⟨lo, hi, ?_, hI⟩
    simp only [victim_Spread.l0]
    obtain ⟨s1, s2, s3, s4, _⟩ := hI
    rw [if_neg (by omega), show wrap64 (hi - lo) = hi - lo by unfold wrap64; omega]
  | succ d ih =>
    intro k i lo hi h0 h1 hd hk hI hz
    obtain ⟨k, rfl⟩ : ∃ m, k = m + 1 := ⟨k - 1, by omega⟩
    have hlt : i < (l.length : Int) := by omega
    simp only [victim_Spread.l0]
    rw [if_pos hlt, if_pos h0, if_pos hlt, w64_succ h0 hlt (by omega), mnmxM]
    obtain ⟨s1, s2, s3, s4, s5, s6⟩ := hI
    have hb := cM_bd (rd l i)
    refine ih k (i + 1) _ _ (by omega) (by omega) (by omega) (by omega) ⟨?_, ?_, ?_, ?_, fun j j0 j1 => ?_, fun _ => ⟨?_, ?_⟩⟩ (by omega)
    · unfold mn; split <;> omega
    · unfold mn; split <;> omega
    · unfold mx; split <;> omega
    · unfold mx; split <;> omega
    · by_cases e : j = i
      · subst e; unfold mn mx; split <;> split <;> omega
      · have := s5 j j0 (by omega); unfold mn mx; split <;> split <;> omega
    · by_cases e : cM (rd l i) < lo
      · exact ⟨i, h0, by omega, by unfold mn; rw [if_pos e]⟩
      · by_cases z : i = 0
        · exact ⟨i, h0, by omega, by have := hz z; unfold mn; rw [if_neg e]; omega⟩
        · obtain ⟨⟨j, j0, j1, j2⟩, _⟩ := s6 (by omega)
          exact ⟨j, j0, by omega, by unfold mn; rw [if_neg e]; exact j2⟩
    · by_cases e : hi < cM (rd l i)
      · exact ⟨i, h0, by omega, by unfold mx; rw [if_pos e]⟩
      · by_cases z : i = 0
        · exact ⟨i, h0, by omega, by have := hz z; unfold mx; rw [if_neg e]; omega⟩
        · obtain ⟨_, ⟨j, j0, j1, j2⟩⟩ := s6 (by omega)
          exact ⟨j, j0, by omega, by unfold mx; rw [if_neg e]; exact j2⟩

theorem clampM (x : Int) : almshouseref15_clamp.f x 1099511627776 = some (cM x) := by unfold almshouseref15_clamp.f cM cl; split <;> (try split) <;> rfl

theorem sref_loop1' (l : List Int) (hn : (l.length : Int) ≤ 60) (a x y : Int) (hxy : SInv l (l.length : Int) x y) (ha : ∃ j, 0 ≤ j ∧ j < (l.length : Int) ∧ a = rd l j) (K : Nat) (i : Int) (R : Int)
    (best : Int) (hbest : best ≤ y - x) (d : Nat) :
    ∀ (k : Nat) (m b : Int), 0 ≤ m → m ≤ l.length → (l.length : Int) - m = d → d + K + 1 < k → 0 ≤ b → b ≤ y - x → best ≤ b → (cM a = y → (∃ j, 0 ≤ j ∧ j < m ∧ x = cM (rd l j)) → b = y - x) → (best = y - x → b = y - x) →
      (∀ b, 0 ≤ b → b ≤ y - x → (cM a = y ∨ best = y - x → b = y - x) → ∀ k, K < k → almshouseref15_Spread.l0 k l b l (l.length : Int) (wrap64 (i + 1)) = some R) →
      almshouseref15_Spread.l1 k l b a l (l.length : Int) i l (l.length : Int) m = some R := by
  obtain ⟨s1, s2, s3, s4, s5, s6⟩ := hxy
  obtain ⟨ja, ja0, ja1, rfl⟩ := ha
  have hab := s5 ja ja0 ja1
  have hpos : 0 < (l.length : Int) := by omega
  obtain ⟨⟨jx, jx0, jx1, jx2⟩, ⟨jy, jy0, jy1, jy2⟩⟩ := s6 hpos
  induction d with
  | zero =>
    intro k m b h0 h1 hd hk hb0 hb1 hb2 hb3 hb4 hn'
    obtain ⟨k, rfl⟩ : ∃ m, k = m + 1 := ⟨k - 1, by omega⟩
    simp only [almshouseref15_Spread.l1]
    rw [if_neg (by omega)]
    refine hn' b hb0 hb1 (fun h => ?_) k (by omega)
    rcases h with h | h
    · exact hb3 h ⟨jx, jx0, by omega, jx2⟩
    · exact hb4 h
  | succ d ih =>
    intro k m b h0 h1 hd hk hb0 hb1 hb2 hb3 hb4 hn'
    obtain ⟨k, rfl⟩ : ∃ m, k = m + 1 := ⟨k - 1, by omega⟩
    have hlt : m < (l.length : Int) := by omega
    have hm := s5 m h0 hlt
    have ba := cM_bd (rd l ja)
    have bm := cM_bd (rd l m)
    simp only [almshouseref15_Spread.l1]
    rw [if_pos hlt, if_pos h0, if_pos hlt, clampM, clampM]
    simp only [Option.bind_some]
    rw [w64_succ h0 hlt (by omega), show wrap64 (cM (rd l ja) - cM (rd l m)) = cM (rd l ja) - cM (rd l m) by unfold wrap64; omega]
    have hmx : b ≤ mx b (cM (rd l ja) - cM (rd l m)) ∧ cM (rd l ja) - cM (rd l m) ≤ mx b (cM (rd l ja) - cM (rd l m)) ∧ mx b (cM (rd l ja) - cM (rd l m)) ≤ y - x := by unfold mx; split <;> omega
    refine ih k (m + 1) _ (by omega) (by omega) (by omega) (by omega) (by omega) (by omega) (by omega) (fun e ⟨j, j0, j1, j2⟩ => ?_) (fun e => by have := hb4 e; omega) hn'
    by_cases ej : j = m
    · subst ej; omega
    · have := hb3 e ⟨j, j0, by omega, j2⟩; omega

theorem sref_loop0 (l : List Int) (hn : (l.length : Int) ≤ 60) (x y : Int) (hxy : SInv l (l.length : Int) x y) (hpos : 0 < (l.length : Int)) (d : Nat) :
    ∀ (k : Nat) (i b : Int), 0 ≤ i → i ≤ l.length → (l.length : Int) - i = d → (d + 1) * 70 < k → 0 ≤ b → b ≤ y - x → ((∃ j, 0 ≤ j ∧ j < i ∧ y = cM (rd l j)) → b = y - x) →
      almshouseref15_Spread.l0 k l b l (l.length : Int) i = some (y - x) := by
  have hxy' := hxy
  obtain ⟨s1, s2, s3, s4, s5, s6⟩ := hxy
  obtain ⟨⟨jx, jx0, jx1, jx2⟩, ⟨jy, jy0, jy1, jy2⟩⟩ := s6 hpos
  induction d with
  | zero =>
    intro k i b h0 h1 hd hk hb0 hb1 hb2
    obtain ⟨k, rfl⟩ : ∃ m, k = m + 1 := ⟨k - 1, by omega⟩
    simp only [almshouseref15_Spread.l0]
    rw [if_neg (by omega), hb2 ⟨jy, jy0, by omega, jy2⟩]
  | succ d ih =>
    intro k i b h0 h1 hd hk hb0 hb1 hb2
    obtain ⟨k, rfl⟩ : ∃ m, k = m + 1 := ⟨k - 1, by omega⟩
    have hlt : i < (l.length : Int) := by omega
    simp only [almshouseref15_Spread.l0]
    rw [if_pos hlt, if_pos h0, if_pos hlt]
    have hgo : ∀ b', 0 ≤ b' → b' ≤ y - x → (cM (rd l i) = y ∨ b = y - x → b' = y - x) → ∀ k, (d + 1) * 70 < k → almshouseref15_Spread.l0 k l b' l (l.length : Int) (wrap64 (i + 1)) = some (y - x) := by
      intro b' c0 c1 c2 k' hk'
      rw [w64_succ h0 hlt (by omega)]
      refine ih k' (i + 1) b' (by omega) (by omega) (by omega) hk' c0 c1 (fun ⟨j, j0, j1, j2⟩ => ?_)
      by_cases ej : j = i
      · subst ej; exact c2 (.inl j2.symm)
      · exact c2 (.inr (hb2 ⟨j, j0, by omega, j2⟩))
    exact sref_loop1' l hn (rd l i) x y hxy' ⟨i, h0, hlt, rfl⟩ ((d + 1) * 70) i (y - x) b hb1 l.length k 0 b (by omega) (by omega) (by omega) (by omega) hb0 hb1 (by omega) (fun _ ⟨j, j0, j1, _⟩ => by omega) (fun e => e) hgo

theorem spread_same (l : List Int) (hn : (l.length : Int) ≤ 60) (k : Nat) (hk : 5000 < k) : ∃ r, victim_Spread.f k l = some r ∧ almshouseref15_Spread.f k l = some r := by
  by_cases hz : (l.length : Int) = 0
  · refine ⟨0, ?_, ?_⟩
    · unfold victim_Spread.f; rw [if_pos hz]
    · obtain ⟨k, rfl⟩ : ∃ m, k = m + 1 := ⟨k - 1, by omega⟩
      unfold almshouseref15_Spread.f; simp only [almshouseref15_Spread.l0]; rw [if_neg (by omega)]
  · obtain ⟨x, y, hr, hI⟩ := spread_loop l hn l.length k 0 1099511627776 0 (by omega) (by omega) (by omega) (by omega) ⟨by omega, by omega, by omega, by omega, fun j j0 j1 => by omega, by omega⟩ (fun _ => ⟨rfl, rfl⟩)
    refine ⟨y - x, ?_, ?_⟩
    · unfold victim_Spread.f; rw [if_neg hz]; exact hr
    · unfold almshouseref15_Spread.f
      have hxy : x ≤ y := by
        obtain ⟨⟨jx, jx0, jx1, jx2⟩, _⟩ := hI.2.2.2.2.2 (by omega)
        have := hI.2.2.2.2.1 jx jx0 jx1; omega
      exact sref_loop0 l hn x y hI (by omega) l.length k 0 0 (by omega) (by omega) (by omega) (by omega) (by omega) (by omega) (fun ⟨j, j0, j1, _⟩ => by omega)

theorem fixed_true (k : Nat) : almshouselaw15_fixed.f (k + 10) = some true := by
  simp (config := { decide := true }) [almshouselaw15_fixed.f, victim_Greedy.f, victim_Greedy.l0, victim_Benefit.f, victim_Benefit.j0, victim_Benefit.l0, victim_Benefit.j2, victim_offer_better.f, victim_Spread.f, victim_Spread.l0, rd, wrap64, mn, mx]

theorem VictimBenefit : almshouselaw15_VictimBenefit.Pure := by
  intro l0 l1 p l3 _ _ _ _ _ _ _ _ _ _
  refine ⟨10000 + 10, ?_⟩
  unfold almshouselaw15_VictimBenefit.f
  rw [fixed_true]
  simp only [Option.bind_some, if_true]
  have jt : almshouselaw15_VictimBenefit.j0 (10000 + 10) l0 l1 p l3 true = some true := by
    rw [show 10000 + 10 = 10009 + 1 from rfl]; simp only [almshouselaw15_VictimBenefit.j0, if_true]
  by_cases h0 : (l0.length : Int) > 40
  · rw [if_pos h0]; exact jt
  · rw [if_neg h0]
    by_cases h1 : (l1.length : Int) > 40
    · rw [if_pos h1]; exact jt
    · rw [if_neg h1]
      by_cases h3 : (l3.length : Int) > 60
      · rw [decide_eq_true h3]; exact jt
      · rw [decide_eq_false h3, show 10000 + 10 = 10009 + 1 from rfl]
        simp only [almshouselaw15_VictimBenefit.j0]
        rw [if_neg (by decide)]
        obtain ⟨r, hr, hr'⟩ := benefit_same l0 l1 p (by omega) 10009 (by omega)
        obtain ⟨s, hs, hs'⟩ := spread_same l3 (by omega) 10009 (by omega)
        rw [hr, hr', hs, hs']
        simp
end Go.Proofs.Ytobhpfbldmobfaa.Pure
