/-
  The clock: the plain law, and the walk of Ends. Conditions: what the slices hold.
-/
import Derived.Test.YtcifkccaiekkeaaClockC
namespace Go.Proofs.Ytcifkccaiekkeaa.Clock
open Go.RowKit Go.Proofs.Ytcifkccaiekkeaa.Base Go.Maps Go.Proofs.Ytcifkccaiekkeaa.Maps Go.Proofs.Ytcifkccaiekkeaa.Ints
set_option linter.unusedVariables false
set_option linter.unusedSimpArgs false
def opC (p : Int × Int) : List Value := [.int .i64 p.1, .int .i64 p.2]
theorem op_cell {w : World} {A : Option Addr} {l : List (Int × Int)} (h : Arg w A 2 opC l) {i : Nat} (hi : i < l.length) : ∃ g o, A = some ⟨g, o, none⟩ ∧ w.cell? ⟨g, o + i * 2, none⟩ = some (.int .i64 l[i].1) ∧ w.cell? ⟨g, o + i * 2 + 1, none⟩ = some (.int .i64 l[i].2) := by
  rcases h with rfl | ⟨g, o, rfl, h2, h3⟩
  · simp at hi
  · exact ⟨g, o, rfl, h3 i hi 0 (by omega), h3 i hi 1 (by omega)⟩
structure Good (C D B P : Int) (l : List (Int × Int)) : Prop where
  v : GV C D B P
  k : ∀ o ∈ l, o.1 = 1 ∨ o.1 = 2 ∨ o.1 = 3
  b : ∀ o ∈ l, 0 ≤ o.2 ∧ o.2 < C * D * B
def toF (x : Int) : Fin 64 := ⟨x.toNat % 64, by omega⟩
theorem toF_val {x : Int} (h : 0 ≤ x ∧ x < 64) : ((toF x).val : Int) = x := by
  show ((x.toNat % 64 : Nat) : Int) = x
  omega
def stN (C D : Int) (l : List (Int × Int)) : Nat → St × List Int
  | 0 => (⟨0, fun _ => 0, fun _ => 0⟩, [])
  | i + 1 => ((stp (stN C D l i).1 (l.getD i (0, 0)).1 (toF ((l.getD i (0, 0)).2.tmod C)) (toF (((l.getD i (0, 0)).2.tdiv C).tmod D))).1, (stN C D l i).2 ++ [(stp (stN C D l i).1 (l.getD i (0, 0)).1 (toF ((l.getD i (0, 0)).2.tmod C)) (toF (((l.getD i (0, 0)).2.tdiv C).tmod D))).2])
def sumA (l : List (Int × Int)) : Nat → Int
  | 0 => 0
  | i + 1 => sumA l i + alone (l.getD i (0, 0)).1
theorem alone_bd {k : Int} (hk : k = 1 ∨ k = 2 ∨ k = 3) : 2 ≤ alone k ∧ alone k ≤ 16 := by
  rcases hk with rfl | rfl | rfl <;> decide
theorem put_bd {ι : Type} [DecidableEq ι] {f : ι → Int} {M N v : Int} {i : ι} (h : ∀ c, 0 ≤ f c ∧ f c ≤ M) (hM : M ≤ N) (hv : 0 ≤ v ∧ v ≤ N) (c : ι) : 0 ≤ put f i v c ∧ put f i v c ≤ N := by
  unfold put
  split
  · exact hv
  · have := h c; omega
theorem stp_bd {s : St} {M : Int} (h : Bds s M) {k : Int} (hk : k = 1 ∨ k = 2 ∨ k = 3) (c d : Fin 64) : Bds (stp s k c d).1 (M + alone k) ∧ alone k ≤ (stp s k c d).2 ∧ (stp s k c d).2 ≤ M + alone k ∧ s.g (c, d) + alone k ≤ (stp s k c d).2 ∧ (stp s k c d).1.g (c, d) = (stp s k c d).2 := by
  have h1 := h.now
  have h2 := h.f c
  have h3 := h.g (c, d)
  rcases hk with rfl | rfl | rfl
  · have e : alone 1 = 2 := rfl
    rw [e, show stp s 1 c d = (⟨max s.now (s.g (c, d)), put s.f c (max (max s.now (s.g (c, d)) + 1) (s.f c) + 1), put s.g (c, d) (max (max s.now (s.g (c, d)) + 1) (s.f c) + 1)⟩, max (max s.now (s.g (c, d)) + 1) (s.f c) + 1) from rfl]
    refine ⟨⟨?_, put_bd h.f (by omega) (by omega), put_bd h.g (by omega) (by omega)⟩, ?_, ?_, ?_, by simp [put]⟩ <;> simp only [] <;> omega
  · have e : alone 2 = 5 := rfl
    rw [e, show stp s 2 c d = (⟨max (max s.now (s.g (c, d))) (s.f c), put s.f c (max (max s.now (s.g (c, d))) (s.f c) + 1), put s.g (c, d) (max (max s.now (s.g (c, d))) (s.f c) + 5)⟩, max (max s.now (s.g (c, d))) (s.f c) + 5) from rfl]
    refine ⟨⟨?_, put_bd h.f (by omega) (by omega), put_bd h.g (by omega) (by omega)⟩, ?_, ?_, ?_, by simp [put]⟩ <;> simp only [] <;> omega
  · have e : alone 3 = 16 := rfl
    rw [e, show stp s 3 c d = (⟨max s.now (s.g (c, d)), s.f, put s.g (c, d) (max s.now (s.g (c, d)) + 16)⟩, max s.now (s.g (c, d)) + 16) from rfl]
    refine ⟨⟨?_, fun c => by have := h.f c; show 0 ≤ s.f c ∧ s.f c ≤ M + 16; omega, put_bd h.g (by omega) (by omega)⟩, ?_, ?_, ?_, by simp [put]⟩ <;> simp only [] <;> omega
theorem gD {α : Type} {a : List α} {d : α} {i : Nat} (hi : i < a.length) : a.getD i d = a[i] := by
  rw [List.getD_eq_getElem?_getD, List.getElem?_eq_getElem hi, Option.getD_some]
theorem sum_bd {l : List (Int × Int)} (hk : ∀ o ∈ l, o.1 = 1 ∨ o.1 = 2 ∨ o.1 = 3) (i : Nat) (hi : i ≤ l.length) : 0 ≤ sumA l i ∧ sumA l i ≤ 16 * i := by
  induction i with
  | zero => simp [sumA]
  | succ i ih =>
    have := alone_bd (hk _ (List.getElem_mem (show i < l.length by omega)))
    simp only [sumA]
    rw [gD (by omega)]
    omega
theorem stN_bd {C D : Int} {l : List (Int × Int)} (hk : ∀ o ∈ l, o.1 = 1 ∨ o.1 = 2 ∨ o.1 = 3) (i : Nat) (hi : i ≤ l.length) : Bds (stN C D l i).1 (sumA l i) := by
  induction i with
  | zero => exact ⟨by simp [stN, sumA], fun _ => by simp [stN, sumA], fun _ => by simp [stN, sumA]⟩
  | succ i ih =>
    simp only [stN, sumA]
    rw [gD (by omega)]
    exact (stp_bd (ih (by omega)) (hk _ (List.getElem_mem _)) _ _).1
theorem stN_len (C D : Int) (l : List (Int × Int)) (i : Nat) : (stN C D l i).2.length = i := by
  induction i with
  | zero => rfl
  | succ i ih => simp [stN, ih]
/-- Each end is not ahead of its own time, and not behind all one behind the other. -/
theorem stN_ends {C D : Int} {l : List (Int × Int)} (hk : ∀ o ∈ l, o.1 = 1 ∨ o.1 = 2 ∨ o.1 = 3) (i : Nat) (hi : i ≤ l.length) : ∀ j (hj : j < (stN C D l i).2.length), alone (l.getD j (0, 0)).1 ≤ (stN C D l i).2[j] ∧ (stN C D l i).2[j] ≤ sumA l i := by
  induction i with
  | zero => intro j hj; simp [stN] at hj
  | succ i ih =>
    intro j hj
    have e : l.getD i (0, 0) = l[i] := gD (by omega)
    have hkk := hk _ (List.getElem_mem (show i < l.length by omega))
    rw [← e] at hkk
    clear e
    have hs := stp_bd (stN_bd (C := C) (D := D) hk i (by omega)) hkk (toF ((l.getD i (0, 0)).2.tmod C)) (toF (((l.getD i (0, 0)).2.tdiv C).tmod D))
    have ha := alone_bd hkk
    have hl := stN_len C D l i
    simp only [stN, sumA] at hj ⊢
    by_cases h : j < (stN C D l i).2.length
    · rw [List.getElem_append_left h]
      have := ih (by omega) j h
      omega
    · have hji : j = i := by simp at hj; omega
      subst hji
      rw [List.getElem_append_right (by omega)]
      simp only [hl, Nat.sub_self, List.getElem_cons_zero]
      omega
/-- On one die: each is done just when all up to it are, one behind the other. -/
theorem one_g {C D : Int} {l : List (Int × Int)} (hk : ∀ o ∈ l, o.1 = 1 ∨ o.1 = 2 ∨ o.1 = 3) (hz : ∀ o ∈ l, o.2 = 0) (i : Nat) (hi : i ≤ l.length) : sumA l i ≤ (stN C D l i).1.g (0, 0) := by
  induction i with
  | zero => simp [stN, sumA]
  | succ i ih =>
    have hkk := hk _ (List.getElem_mem (show i < l.length by omega))
    have h0 := hz _ (List.getElem_mem (show i < l.length by omega))
    have h := stp_bd (stN_bd (C := C) (D := D) hk i (by omega)) hkk 0 0
    have e : l.getD i (0, 0) = l[i] := gD (by omega)
    have := ih (by omega)
    simp only [stN, sumA]
    rw [e, h0, Int.zero_tdiv, Int.zero_tmod, Int.zero_tmod, show toF 0 = 0 from rfl, h.2.2.2.2]
    omega
end Go.Proofs.Ytcifkccaiekkeaa.Clock
