/-
  The clock's two maps: their keys, and how they are read and written. Conditions: each lemma's own.
-/
import Derived.Test.YtcifkccaiekkeaaMaps
namespace Go.Proofs.Ytcifkccaiekkeaa.Clock
open Go.RowKit Go.Proofs.Ytcifkccaiekkeaa.Base Go.Maps Go.Proofs.Ytcifkccaiekkeaa.Maps Go.Proofs.Ytcifkccaiekkeaa.Ints
set_option linter.unusedVariables false
def kc (c : Fin 64) : Lit := .int .i64 (c.val : Int)
def kd (p : Fin 64 × Fin 64) : Lit := .string (keyBytes [.int .i64 (p.1.val : Int), .int .i64 (p.2.val : Int)])
theorem lawC : Keyed Try.prog 3 := int_keyed Try.underlying3
theorem laid : laidOutB Try.prog = true := by kernel_rfl
theorem lawD : Keyed Try.prog 160 := Keyed.of_law (deep_law_laid laid (m := 2) (by omega) (of_decide_eq_true (by kernel_rfl)) (by kernel_rfl) (by kernel_rfl))
theorem wfi {v : Int} (h : -1000000000 ≤ v ∧ v ≤ 1000000000) : (Lit.int .i64 v).wf = true := WalkArith.wf_i64 (by omega)
theorem keyC (c : Fin 64) : keyOf Try.prog 3 (.int .i64 (c.val : Int)) = some (kc c) := keyOf_int_mk Try.underlying3 (wfi (by omega))
theorem lits (n : Nat) (a b : Int) (ha : (Lit.int .i64 a).wf = true) (hb : (Lit.int .i64 b).wf = true) : Try.prog.keyLits (n + 2) 160 [.int .i64 a, .int .i64 b] = some [.int .i64 a, .int .i64 b] := by
  have h1 : ∀ a, (Lit.int .i64 a).wf = true → Try.prog.keyLits (n + 1) 3 [.int .i64 a] = some [.int .i64 a] := fun a h => by
    unfold Program.keyLits
    rw [Try.underlying3]
    simp [h]
  have hc : Try.prog.cellsOf 160 = 2 := by kernel_rfl
  have hi : Try.prog.cellsOf 3 = 1 := by kernel_rfl
  unfold Program.keyLits
  rw [Try.underlying160]
  simp [hc, hi, h1 a ha, h1 b hb]
set_option maxRecDepth 100000 in
theorem keyD (p : Fin 64 × Fin 64) : keyOf Try.prog 160 (.agg #[.int .i64 (p.1.val : Int), .int .i64 (p.2.val : Int)]) = some (kd p) := by
  have h1 : Try.prog.keyType 160 = true := by kernel_rfl
  have h2 : ∃ n, Try.prog.types.size = n + 1 := ⟨Try.prog.types.size - 1, by kernel_rfl⟩
  obtain ⟨n, hn⟩ := h2
  unfold keyOf
  rw [Try.underlying160]
  simp only [h1, hn]
  rw [show (Value.agg #[.int .i64 (p.1.val : Int), .int .i64 (p.2.val : Int)]).cells.toList = [.int .i64 (p.1.val : Int), .int .i64 (p.2.val : Int)] from rfl, lits n _ _ (wfi (by omega)) (wfi (by omega))]
  rfl
theorem injC (i j : Fin 64) (h : kc i = kc j) : i = j := by
  unfold kc at h
  injection h with _ h
  omega
theorem injD (i j : Fin 64 × Fin 64) (h : kd i = kd j) : i = j := by
  have := lawD.inj (keyD i) ((keyD j).trans (by rw [h]))
  simp at this
  obtain ⟨i1, i2⟩ := i
  obtain ⟨j1, j2⟩ := j
  simp at this ⊢
  omega
theorem isC (i : Fin 64) : WideAt.IsKeyLit (kc i) := trivial
theorem isD (i : Fin 64 × Fin 64) : WideAt.IsKeyLit (kd i) := trivial
end Go.Proofs.Ytcifkccaiekkeaa.Clock
