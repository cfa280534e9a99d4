/-
  What is read of a journal that is cut: plain law. Conditions: each lemma's own.
-/
import Derived.Test.YthppheklnplljaaDeltaM
namespace Go.Proofs.Ythppheklnplljaa.Delta
set_option linter.unusedVariables false
open Go.Proofs.Ythppheklnplljaa.Word Go.Proofs.Ythppheklnplljaa.Frame
theorem rec_few (n : Int) (l : List Mv) : (recB n l).1.length ≤ 700 := by
  unfold recB
  by_cases h1 : (numOk n && l.all rightM) = false
  · rw [if_pos h1]; simp
  · rw [if_neg h1]
    by_cases h2 : 32 < l.length
    · rw [if_pos h2]; simp
    · rw [if_neg h2]
      have hlen : (recBody n l).length ≤ 600 := by
        have g1 := fold_len l (recHead n l.length)
        have g2 := recHead_len n l.length
        unfold recBody
        omega
      have hmk : mk 68 (recBody n l) = (frameL 68 (recBody n l), 0) := by
        unfold mk
        rw [if_neg (by decide), if_neg (by omega)]
        rfl
      rw [hmk]
      show (frameL 68 (recBody n l)).length ≤ 700
      rw [frameL_len]
      omega
theorem cat_few (first : Int) (l : List (List Mv)) : ∀ i, (cat first l i).length ≤ i * 700
  | 0 => by simp [cat]
  | i + 1 => by
    have h1 := cat_few first l i
    have h2 := rec_few (first + i) (l.getD i [])
    rw [cat, List.length_append]
    omega
/-- Where the first records end. -/
def endsL (first : Int) (l : List (List Mv)) (i : Nat) : List Int := (List.range (i + 1)).map fun j => ((cat first l j).length : Int)
theorem ends_len (first : Int) (l : List (List Mv)) (i : Nat) : (endsL first l i).length = i + 1 := by simp [endsL]
theorem ends_zero (first : Int) (l : List (List Mv)) : endsL first l 0 = [0] := by simp [endsL, cat]
theorem ends_succ (first : Int) (l : List (List Mv)) (i : Nat) : endsL first l (i + 1) = endsL first l i ++ [((cat first l (i + 1)).length : Int)] := by
  unfold endsL
  rw [List.range_succ (n := i + 1), List.map_append]
  rfl
theorem ends_get (first : Int) (l : List (List Mv)) (i j : Nat) (h : j < (endsL first l i).length) : (endsL first l i)[j] = ((cat first l j).length : Int) := by
  simp [endsL]
/-- The last one that is whole. -/
def wh (first : Int) (l : List (List Mv)) (n : Nat) : Nat → Nat
  | 0 => 0
  | i + 1 => if (cat first l i).length ≤ n then i else wh first l n i
theorem wh_le (first : Int) (l : List (List Mv)) (n : Nat) : ∀ i, wh first l n (i + 1) ≤ i
  | 0 => by unfold wh; split <;> simp [wh]
  | i + 1 => by
    have := wh_le first l n i
    unfold wh
    split <;> omega
theorem wh_holds (first : Int) (l : List (List Mv)) (n : Nat) : ∀ i, (cat first l (wh first l n i)).length ≤ n
  | 0 => by simp [wh, cat]
  | i + 1 => by
    unfold wh
    split
    · assumption
    · exact wh_holds first l n i
theorem wh_last (first : Int) (l : List (List Mv)) (n : Nat) : ∀ i j, j < i → (cat first l j).length ≤ n → j ≤ wh first l n i
  | 0, j, h, _ => by omega
  | i + 1, j, h, hn => by
    unfold wh
    split
    · omega
    · rename_i hno
      rcases Nat.lt_or_ge j i with h1 | h1
      · exact wh_last first l n i j h1 hn
      · obtain rfl : j = i := by omega
        exact absurd hn hno
/-- What is read of it. -/
theorem cut_read {first : Int} {l : List (List Mv)} (hok : ∀ j, j < l.length → (recB (first + j) (l.getD j [])).2 = 0) {n : Nat} (hn : n ≤ (cat first l l.length).length) {more : List UInt8} (hm : more.length ≤ 3) {b : List UInt8}
    (hb : b = (cat first l l.length).take n ++ (if n = (cat first l (wh first l n (l.length + 1))).length then more else [])) :
    readV b first = (l.take (wh first l n (l.length + 1)), (cat first l (wh first l n (l.length + 1))).length) := by
  have h1 := wh_le first l n l.length
  have h2 := wh_holds first l n (l.length + 1)
  have h3 := wh_last first l n (l.length + 1)
  generalize wh first l n (l.length + 1) = W at *
  obtain ⟨t, ht⟩ := cat_mono first l h1
  by_cases he : n = (cat first l W).length
  · rw [if_pos he, ht, he, List.take_left] at hb
    exact read_to h1 (fun j hj => hok j (by omega)) hb (opn_short (by omega))
  · rw [if_neg he, List.append_nil] at hb
    have hW : W < l.length := by
      rcases Nat.lt_or_ge W l.length with h | h
      · exact h
      · obtain rfl : W = l.length := by omega
        omega
    have h4 : n < (cat first l (W + 1)).length := by
      rcases Nat.lt_or_ge n (cat first l (W + 1)).length with h | h
      · exact h
      · have := h3 (W + 1) (by omega) h
        omega
    obtain ⟨u, hu⟩ := cat_mono first l (show W + 1 ≤ l.length by omega)
    obtain ⟨_, _, _, g4, g5⟩ := rec_ok (hok W hW)
    have e : b = cat first l W ++ ((recB (first + W) (l.getD W [])).1).take (n - (cat first l W).length) := by
      rw [hb, hu, List.take_append_of_le_length (by omega), cat, List.take_append, List.take_of_length_le (by omega)]
    refine read_to h1 (fun j hj => hok j (by omega)) e ?_
    rw [g4]
    refine opn_cut_frame g5 ?_
    rw [← g4]
    rw [cat, List.length_append] at h4
    omega
end Go.Proofs.Ythppheklnplljaa.Delta
