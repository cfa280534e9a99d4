/-
  Tables of pages: the program's answers are the reference's. Conditions: each lemma's own.
-/
import Derived.Test.YthppheklnplljaaTableCP
import Derived.Test.YthppheklnplljaaTableS
namespace Go.Proofs.Ythppheklnplljaa.Table
set_option linter.unusedVariables false
theorem find_map {R : List Row3} {f g : Row3 → Bool} (h : ∀ r ∈ R, f r = g r) : R.find? f = R.find? g := by
  induction R with
  | nil => rfl
  | cons r R ih =>
    rw [List.find?_cons, List.find?_cons, h r (by simp), ih (fun x hx => h x (by simp [hx]))]
theorem rAt_eq {R : List Row3} {n m : Nat} (hi : In R n m) (q : Int) : rAtV R q = atV R q := by
  unfold rAtV atV spotOf
  by_cases hq : 0 ≤ q ∧ q < 64
  · rw [if_pos hq]
    have : R.find? (placeAt q) = R.find? (fun r => r.1 == q.toNat) := find_map (fun r hr => by
      unfold placeAt
      rw [Bool.eq_iff_iff]
      simp
      omega)
    rw [this]
    cases R.find? (fun r => r.1 == q.toNat) <;> rfl
  · rw [if_neg hq]
    have : R.find? (placeAt q) = none := by
      rw [List.find?_eq_none]
      intro r hr
      have := (hi r hr).1
      unfold placeAt
      simp
      omega
    rw [this]
theorem rPlace_eq {R : List Row3} {n m : Nat} (hi : In R n m) (i p : Int) : rPlaceV R i p = placeV R n m i p := by
  unfold rPlaceV placeV ownOf
  cases hb : isB n m i p with
  | false =>
    have : R.find? (rowAt i p) = none := by
      rw [List.find?_eq_none]
      intro r hr
      have := hi r hr
      unfold isB at hb
      simp at hb
      unfold rowAt
      simp
      omega
    rw [this]
    rfl
  | true =>
    obtain ⟨a, b, rfl, rfl, _, _⟩ := is_true hb
    have : R.find? (rowAt a b) = R.find? (fun r => r.2 == (a, b)) := find_map (fun r hr => by
      unfold rowAt
      rw [Bool.eq_iff_iff]
      obtain ⟨x, y, z⟩ := r
      simp
      omega)
    rw [this]
    rfl
theorem rClr_eq {R : List Row3} {n m : Nat} (hi : In R n m) (q : Int) : rClr R q = if 0 ≤ q ∧ q < 64 then clr R q.toNat else R := by
  unfold rClr clr
  split
  · apply List.filter_congr
    intro r hr
    unfold placeAt
    rw [Bool.eq_iff_iff]
    simp
    omega
  · rw [List.filter_eq_self]
    intro r hr
    have := (hi r hr).1
    unfold placeAt
    simp
    omega
theorem rClr_lt {R : List Row3} {n m : Nat} (h : PW R) (hi : In R n m) (q : Int) : decide ((rClr R q).length < R.length) = (atV R q).2.2 := by
  rw [rClr_eq hi]
  unfold atV
  by_cases hq : 0 ≤ q ∧ q < 64
  · rw [if_pos hq, if_pos hq]
    cases hs : spotOf R q.toNat with
    | none => rw [clr_none h hs]; simp
    | some s => have := len_clr h hs; simp; omega
  · rw [if_neg hq, if_neg hq]
    simp
theorem rSet_eq {R : List Row3} {n m : Nat} (h : PW R) (hi : In R n m) (q i p : Int) : rSetV R n m q i p = setV R n m q i p := by
  unfold rSetV setV
  by_cases hb : ¬ (0 ≤ q ∧ q < 64) ∨ isB n m i p = false
  · rw [if_pos hb, if_pos]
    rcases hb with hb | hb
    · omega
    · unfold isB at hb
      simp at hb
      omega
  · rw [if_neg hb]
    have hq : 0 ≤ q ∧ q < 64 := Classical.byContradiction fun e => hb (.inl e)
    have hib : isB n m i p = true := by cases e : isB n m i p <;> simp_all
    obtain ⟨a, c, rfl, rfl, ha, hc⟩ := is_true hib
    rw [if_neg (by omega), rPlace_eq hi]
    unfold placeV
    rw [hib]
    simp only [Int.toNat_natCast, if_true]
    rw [rClr_eq hi, if_pos hq]
    cases ho : ownOf R (a, c) with
    | none =>
      have e : ¬ (0 ≤ ownI none ∧ ownI none ≠ q) := by show ¬ ((0 : Int) ≤ -1 ∧ (-1 : Int) ≠ q); omega
      rw [if_neg e]
      rfl
    | some k =>
      by_cases e : (k : Int) = q
      · have e2 : ¬ (0 ≤ ownI (some k) ∧ ownI (some k) ≠ q) := by show ¬ ((0 : Int) ≤ k ∧ (k : Int) ≠ q); omega
        rw [if_neg e2]
        simp only
        rw [if_pos e]
        rfl
      · have e2 : 0 ≤ ownI (some k) ∧ ownI (some k) ≠ q := by show (0 : Int) ≤ k ∧ (k : Int) ≠ q; omega
        rw [if_pos e2]
        simp only
        rw [if_neg e]
def rWorthV (R : List Row3) (i : Int) : Nat := R.countP fun r => decide ((r.2.1 : Int) = i)
theorem rWorth_eq {R : List Row3} {n m : Nat} (hi : In R n m) (hm : 0 < m) (i : Int) : (rWorthV R i : Int) = worthV R n m i := by
  unfold rWorthV worthV worthOf
  cases hb : isB n m i 0 with
  | false =>
    have : R.countP (fun r => decide ((r.2.1 : Int) = i)) = 0 := by
      rw [List.countP_eq_zero]
      intro r hr
      have := hi r hr
      unfold isB at hb
      simp at hb
      simp
      omega
    rw [this]
    rfl
  | true =>
    obtain ⟨a, b, rfl, -, _, _⟩ := is_true hb
    simp only [Int.toNat_natCast, if_true]
    congr 1
    apply List.countP_congr
    intro r hr
    simp
    omega
theorem setV_ok {R : List Row3} {n m : Nat} (h : PW R) (hi : In R n m) (q i p : Int) : PW (setV R n m q i p).2 ∧ In (setV R n m q i p).2 n m := by
  unfold setV
  by_cases hb : ¬ (0 ≤ q ∧ q < 64) ∨ isB n m i p = false
  · rw [if_pos hb]; exact ⟨h, hi⟩
  · rw [if_neg hb]
    have hq : 0 ≤ q ∧ q < 64 := Classical.byContradiction fun e => hb (.inl e)
    have hib : isB n m i p = true := by cases e : isB n m i p <;> simp_all
    obtain ⟨a, c, rfl, rfl, ha, hc⟩ := is_true hib
    obtain ⟨k, rfl⟩ := Int.eq_ofNat_of_zero_le hq.1
    simp only [Int.toNat_natCast]
    have hs : spotOf (clr R k) k = none := by rw [spot_clr h, if_pos rfl]
    have put : ownOf R (a, c) = none ∨ ownOf R (a, c) = some k → PW (put (clr R k) k (a, c)) ∧ In (Table.put (clr R k) k (a, c)) n m := fun ho =>
      ⟨(h.clr k).put hs (own_free h ho), (hi.clr k).put (by omega) ha hc⟩
    cases ho : ownOf R (a, c) with
    | none => exact put (.inl ho)
    | some j =>
      simp only
      split
      · rename_i e
        obtain rfl : j = k := by omega
        exact put (.inr ho)
      · exact ⟨h, hi⟩
end Go.Proofs.Ythppheklnplljaa.Table
