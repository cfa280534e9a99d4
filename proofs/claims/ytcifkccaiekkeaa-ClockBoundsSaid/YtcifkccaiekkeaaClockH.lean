/-
  The clock: a row of operations on one die, made and filled. Conditions: each lemma's own.
-/
import Derived.Test.YtcifkccaiekkeaaClockG
import Derived.Deep.OwnRows
namespace Go.Proofs.Ytcifkccaiekkeaa.Clock
open Go.RowKit Go.Proofs.Ytcifkccaiekkeaa.Base Go.Maps Go.Proofs.Ytcifkccaiekkeaa.Maps Go.Proofs.Ytcifkccaiekkeaa.Ints
set_option linter.unusedVariables false
set_option linter.unusedSimpArgs false
theorem opC_len (x : Int × Int) : (opC x).length = 2 := rfl
theorem made_two (z : Value) (m : Nat) : madeCells #[z, z] m = (List.replicate m z).toArray := by
  apply Array.ext'
  unfold madeCells
  rw [Array.toList_map, Array.toList_range, List.toList_toArray]
  apply List.ext_getElem?
  intro i
  rw [List.getElem?_map, List.getElem?_replicate]
  by_cases h : i < m
  · rw [List.getElem?_range h, if_pos h]
    rcases Nat.mod_two_eq_zero_or_one i with e | e <;> simp [e]
  · rw [if_neg h, List.getElem?_eq_none (by simp; omega)]
    rfl
theorem flat_zero (n : Nat) : (List.replicate n ((0 : Int), (0 : Int))).flatMap opC = List.replicate (n * 2) (.int .i64 0) := by
  induction n with
  | zero => rfl
  | succ n ih =>
    rw [List.replicate_succ, List.flatMap_cons, ih, Nat.succ_mul, List.replicate_succ, List.replicate_succ]
    rfl
theorem mkOp (n : Nat) (hn : n ≤ 1000000) (w : World) : (Instr.makeSlice 100 (.int .i64 (n : Int)) (.int .i64 (n : Int))).run Try.prog w = .ok (.slice (some ⟨w.heap.size, 0, none⟩) n n) (w.alloc (.cells (List.replicate (n * 2) (.int .i64 0)).toArray 108)) := by
  obtain ⟨ti, hti, hts⟩ : ∃ ti, Try.prog.info? 108 = some ti ∧ (ti.zero, ti.size, ti.bytes) = (some (.agg #[.int .i64 0, .int .i64 0]), 2, 16) := by
    have h : (Try.prog.info? 108).map (fun i => (i.zero, i.size, i.bytes)) = some (some (.agg #[.int .i64 0, .int .i64 0]), 2, 16) := by kernel_rfl
    obtain ⟨ti, h1, h2⟩ := Option.map_eq_some_iff.1 h
    exact ⟨ti, h1, h2⟩
  simp only [Prod.mk.injEq] at hts
  obtain ⟨hz, hs, hb⟩ := hts
  have hr := run_make (P := Try.prog) w 100 108 ti (.agg #[.int .i64 0, .int .i64 0]) Try.underlying100 hti hz .i64 .i64 n n (by omega) (Int.le_refl _) (by rw [hb]; omega) (by omega)
  rw [hs, show (Value.agg #[.int .i64 0, .int .i64 0]).cells = #[Value.int .i64 0, .int .i64 0] from rfl] at hr
  simp only [Int.toNat_natCast, made_two] at hr
  exact hr
theorem sl_ops (w : World) (n : Nat) (hn : n ≤ 1000000) : Sl (w.alloc (.cells (List.replicate (n * 2) (.int .i64 0)).toArray 108)) w.heap.size 108 2 opC (.slice (some ⟨w.heap.size, 0, none⟩) n n) (List.replicate n (0, 0)) :=
  sl_lit opC_len (Nat.le_refl _) (blk_new _ _) (by rw [List.toList_toArray, flat_zero]) (by simp) (by simp) (by simp; unfold maxLen; omega)
def oneL (l : List (Int × Int)) (i : Nat) : List (Int × Int) := (l.take i).map (fun o => (o.1, 0)) ++ List.replicate (l.length - i) (0, 0)
theorem oneL_len (l : List (Int × Int)) (i : Nat) (hi : i ≤ l.length) : (oneL l i).length = l.length := by
  unfold oneL; simp; omega
theorem oneL_set (l : List (Int × Int)) (i : Nat) (hi : i < l.length) : (oneL l i).set i (l[i].1, 0) = oneL l (i + 1) := by
  unfold oneL
  have h1 : ((l.take i).map (fun o : Int × Int => (o.1, (0 : Int)))).length = i := by simp; omega
  obtain ⟨d, hd⟩ : ∃ d, l.length - i = d + 1 := ⟨l.length - i - 1, by omega⟩
  rw [List.set_append_right _ _ (by omega), h1, Nat.sub_self, hd, List.replicate_succ, List.set_cons_zero, List.take_succ_eq_append_getElem hi, List.map_append, show l.length - (i + 1) = d by omega]
  simp
theorem oneL_get (l : List (Int × Int)) (i : Nat) (hi : i < l.length) : (oneL l i)[i]'(by rw [oneL_len l i (by omega)]; exact hi) = (0, 0) := by
  unfold oneL
  rw [List.getElem_append_right (by simp; omega)]
  simp
theorem flat_set2 (l : List (Int × Int)) (i : Nat) (hi : i < l.length) (k : Int) (h : l[i].2 = 0) : (l.set i (k, 0)).flatMap opC = (l.flatMap opC).set (i * 2) (.int .i64 k) := by
  induction l generalizing i with
  | nil => simp at hi
  | cons x l ih =>
    cases i with
    | zero =>
      simp at h
      rw [List.set_cons_zero, List.flatMap_cons, List.flatMap_cons, opC, opC, h]
      rfl
    | succ i =>
      simp at hi h
      rw [List.set_cons_succ, List.flatMap_cons, List.flatMap_cons, ih i hi (by simpa using h), Nat.succ_mul]
      rfl
/-- The store of {k, 0} at place i. -/
theorem one_store {w : World} {base g n c : Nat} {l : List (Int × Int)} {i : Nat} (h : Sl w base 108 2 opC (.slice (some ⟨g, 0, none⟩) n c) (oneL l i)) (hi : i < l.length) :
    Sl ((w.setCell ⟨g, i * 2, none⟩ (.int .i64 l[i].1)).setCell ⟨g, i * 2 + 1, none⟩ (.int .i64 0)) base 108 2 opC (.slice (some ⟨g, 0, none⟩) n c) (oneL l (i + 1)) := by
  have hl := oneL_len l i (by omega)
  have h0 := oneL_get l i hi
  have hfl := flat_len (f := opC) opC_len (oneL l i)
  have h1 := h.set (l' := oneL l (i + 1)) (j := i * 2) (by rw [oneL_len _ _ (by omega), hl]) (.int .i64 l[i].1) (by rw [hfl, hl]; omega) (by rw [← oneL_set l i hi]; exact flat_set2 _ i (by omega) _ (by rw [h0]))
  have hfl2 := flat_len (f := opC) opC_len (oneL l (i + 1))
  have hl2 := oneL_len l (i + 1) (by omega)
  have h2 := h1.set (l' := oneL l (i + 1)) (j := i * 2 + 1) rfl (.int .i64 0) (by rw [hfl2, hl2]; omega) (by
    have e := flat_get (f := opC) opC_len (oneL l (i + 1)) i 1 (by omega) (by omega)
    have e2 : (oneL l (i + 1))[i]'(by omega) = (l[i].1, 0) := by
      simp only [← oneL_set l i hi]
      rw [List.getElem_set_self]
    rw [e2] at e
    have e : (List.flatMap opC (oneL l (i + 1)))[i * 2 + 1]? = some (.int .i64 0) := e
    obtain ⟨hb, he⟩ := List.getElem?_eq_some_iff.1 e
    rw [← he, List.set_getElem_self])
  simpa using h2
end Go.Proofs.Ytcifkccaiekkeaa.Clock
