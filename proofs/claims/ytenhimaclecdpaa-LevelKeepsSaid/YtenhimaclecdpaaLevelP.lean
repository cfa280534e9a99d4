/-
  Levelling, in plain Lean: rows brought within bounds, which place beats all others, the next trade, all trades, and what trades keep. Conditions: each lemma's own.
-/
namespace Go.Proofs.Ytenhimaclecdpaa.Level
set_option linter.unusedVariables false
set_option linter.unusedSimpArgs false
def cl (v : Int) : Int := if v < 0 then 0 else if 1073741824 < v then 1073741824 else v
theorem cl_lo (v : Int) : 0 ≤ cl v := by unfold cl; split <;> (try split) <;> omega
theorem cl_hi (v : Int) : cl v ≤ 1073741824 := by unfold cl; split <;> (try split) <;> omega
theorem cl_id {v : Int} (h : 0 ≤ v ∧ v ≤ 1073741824) : cl v = v := by unfold cl; split <;> (try split) <;> omega
theorem cl_cl (v : Int) : cl (cl v) = cl v := cl_id ⟨cl_lo v, cl_hi v⟩
def row (a : List Int) : List Int := a.map cl
theorem row_row (a : List Int) : row (row a) = row a := by
  unfold row
  rw [List.map_map]
  exact List.map_congr_left fun v _ => cl_cl v
def sumN (a : List Int) : Nat → Int
  | 0 => 0
  | n + 1 => sumN a n + cl (a.getD n 0)
def sum (a : List Int) : Int := sumN a a.length
theorem sumN_bnd (a : List Int) (n : Nat) : 0 ≤ sumN a n ∧ sumN a n ≤ n * 1073741824 := by
  induction n with
  | zero => simp [sumN]
  | succ n ih =>
    have h1 := cl_lo (a.getD n 0)
    have h2 := cl_hi (a.getD n 0)
    simp only [sumN]
    omega
/-- All within bounds. -/
def Bnd (a : List Int) : Prop := ∀ v ∈ a, 0 ≤ v ∧ v ≤ 1073741824
theorem row_bnd (a : List Int) : Bnd (row a) := by
  intro v hv
  obtain ⟨u, _, rfl⟩ := List.mem_map.1 hv
  exact ⟨cl_lo u, cl_hi u⟩
theorem bnd_get {a : List Int} (h : Bnd a) {i : Nat} (hi : i < a.length) : 0 ≤ a[i] ∧ a[i] ≤ 1073741824 := h _ (List.getElem_mem hi)
theorem bnd_set {a : List Int} (h : Bnd a) {v : Int} (hv : 0 ≤ v ∧ v ≤ 1073741824) (i : Nat) : Bnd (a.set i v) := by
  intro u hu
  rcases List.mem_or_eq_of_mem_set hu with hu | rfl
  · exact h u hu
  · exact hv
def beat (most : Bool) (v x : Int) : Bool := if most then decide (x < v) else decide (v < x)
/-- Which of the first n places beats all others. -/
def pickN (a : List Int) (t : List Bool) (most : Bool) : Nat → Option Nat
  | 0 => none
  | n + 1 => if t.getD n false = false ∧ (∀ k, pickN a t most n = some k → beat most (a.getD n 0) (a.getD k 0) = true) then some n else pickN a t most n
def pick (a : List Int) (t : List Bool) (most : Bool) : Option Nat := pickN a t most a.length
theorem pickN_lt (a : List Int) (t : List Bool) (most : Bool) : ∀ (n k : Nat), pickN a t most n = some k → k < n ∧ t.getD k false = false := by
  intro n
  induction n with
  | zero => intro k h; cases h
  | succ n ih =>
    intro k h
    simp only [pickN] at h
    split at h
    · rename_i hc
      injection h with h
      subst h
      exact ⟨Nat.lt_succ_self _, hc.1⟩
    · exact ⟨Nat.lt_succ_of_lt (ih k h).1, (ih k h).2⟩
def optI (o : Option Nat) : Int := match o with | some k => (k : Int) | none => -1
theorem opt_neg {o : Option Nat} : optI o = -1 ↔ o = none := by
  cases o with
  | none => simp [optI]
  | some k => simp [optI]
/-- By how much rows differ. -/
def lowN (a : List Int) : Nat → Int
  | 0 => 1099511627776
  | n + 1 => min (lowN a n) (a.getD n 0)
def highN (a : List Int) : Nat → Int
  | 0 => 0
  | n + 1 => max (highN a n) (a.getD n 0)
def spread (a : List Int) : Int := if a.length = 0 then 0 else highN a a.length - lowN a a.length
theorem gD {α : Type} {a : List α} {d : α} {i : Nat} (hi : i < a.length) : a.getD i d = a[i] := by
  rw [List.getD_eq_getElem?_getD, List.getElem?_eq_getElem hi, Option.getD_some]
theorem bnd_D {a : List Int} (h : Bnd a) {i : Nat} (hi : i < a.length) : 0 ≤ a.getD i 0 ∧ a.getD i 0 ≤ 1073741824 := by
  rw [gD hi]
  exact bnd_get h hi
theorem low_le (a : List Int) (n i : Nat) (hi : i < n) : lowN a n ≤ a.getD i 0 := by
  induction n with
  | zero => omega
  | succ n ih =>
    simp only [lowN]
    by_cases e : i = n
    · subst e; omega
    · have := ih (by omega); omega
theorem high_ge (a : List Int) (n i : Nat) (hi : i < n) : a.getD i 0 ≤ highN a n := by
  induction n with
  | zero => omega
  | succ n ih =>
    simp only [highN]
    by_cases e : i = n
    · subst e; omega
    · have := ih (by omega); omega
theorem low_bnd {a : List Int} (h : Bnd a) (n : Nat) (hn : n ≤ a.length) : 0 ≤ lowN a n ∧ lowN a n ≤ 1099511627776 := by
  induction n with
  | zero => simp [lowN]
  | succ n ih =>
    have := bnd_D h (i := n) (by omega)
    have := ih (by omega)
    simp only [lowN]
    omega
theorem high_bnd {a : List Int} (h : Bnd a) (n : Nat) (hn : n ≤ a.length) : 0 ≤ highN a n ∧ highN a n ≤ 1073741824 := by
  induction n with
  | zero => simp [highN]
  | succ n ih =>
    have := bnd_D h (i := n) (by omega)
    have := ih (by omega)
    simp only [highN]
    omega
theorem low_at {a : List Int} (h : Bnd a) (n : Nat) (hn : 0 < n) (hl : n ≤ a.length) : ∃ i, i < n ∧ lowN a n = a.getD i 0 := by
  induction n with
  | zero => omega
  | succ n ih =>
    have hb := bnd_D h (i := n) (by omega)
    simp only [lowN]
    by_cases e : n = 0
    · subst e
      exact ⟨0, by omega, by simp only [lowN]; omega⟩
    · obtain ⟨i, hi, h1⟩ := ih (by omega) (by omega)
      by_cases hm : lowN a n ≤ a.getD n 0
      · exact ⟨i, by omega, by omega⟩
      · exact ⟨n, by omega, by omega⟩
theorem high_at {a : List Int} (h : Bnd a) (n : Nat) (hn : 0 < n) (hl : n ≤ a.length) : ∃ i, i < n ∧ highN a n = a.getD i 0 := by
  induction n with
  | zero => omega
  | succ n ih =>
    have hb := bnd_D h (i := n) (by omega)
    simp only [highN]
    by_cases e : n = 0
    · subst e
      exact ⟨0, by omega, by simp only [highN]; omega⟩
    · obtain ⟨i, hi, h1⟩ := ih (by omega) (by omega)
      by_cases hm : a.getD n 0 ≤ highN a n
      · exact ⟨i, by omega, by omega⟩
      · exact ⟨n, by omega, by omega⟩
/-- The reference's: over all pairs. -/
def sprJ (a : List Int) (x best : Int) : Nat → Int
  | 0 => best
  | n + 1 => if sprJ a x best n < x - a.getD n 0 then x - a.getD n 0 else sprJ a x best n
def sprI (a : List Int) : Nat → Int
  | 0 => 0
  | n + 1 => sprJ a (a.getD n 0) (sprI a n) a.length
theorem sprJ_ge (a : List Int) (x best : Int) (n : Nat) : best ≤ sprJ a x best n ∧ ∀ j, j < n → x - a.getD j 0 ≤ sprJ a x best n := by
  induction n with
  | zero => exact ⟨by simp [sprJ], fun j hj => by omega⟩
  | succ n ih =>
    obtain ⟨h1, h2⟩ := ih
    simp only [sprJ]
    split
    · exact ⟨by omega, fun j hj => by
        by_cases e : j = n
        · subst e; omega
        · have := h2 j (by omega); omega⟩
    · exact ⟨h1, fun j hj => by
        by_cases e : j = n
        · subst e; omega
        · exact h2 j (by omega)⟩
theorem sprJ_le (a : List Int) (x best m : Int) (n : Nat) (hb : best ≤ m) (h : ∀ j, j < n → x - a.getD j 0 ≤ m) : sprJ a x best n ≤ m := by
  induction n with
  | zero => exact hb
  | succ n ih =>
    have := ih (fun j hj => h j (by omega))
    have := h n (by omega)
    simp only [sprJ]
    split <;> omega
theorem sprI_ge (a : List Int) (n : Nat) : 0 ≤ sprI a n ∧ ∀ i j, i < n → j < a.length → a.getD i 0 - a.getD j 0 ≤ sprI a n := by
  induction n with
  | zero => exact ⟨by simp [sprI], fun i j hi => by omega⟩
  | succ n ih =>
    obtain ⟨h1, h2⟩ := ih
    obtain ⟨h3, h4⟩ := sprJ_ge a (a.getD n 0) (sprI a n) a.length
    simp only [sprI]
    refine ⟨by omega, fun i j hi hj => ?_⟩
    by_cases e : i = n
    · subst e; exact h4 j hj
    · have := h2 i j (by omega) hj; omega
theorem sprI_le (a : List Int) (m : Int) (n : Nat) (hm : 0 ≤ m) (h : ∀ i j, i < n → j < a.length → a.getD i 0 - a.getD j 0 ≤ m) : sprI a n ≤ m := by
  induction n with
  | zero => exact hm
  | succ n ih =>
    simp only [sprI]
    exact sprJ_le _ _ _ _ _ (ih (fun i j hi hj => h i j (by omega) hj)) (fun j hj => h n j (by omega) hj)
theorem spread_eq {a : List Int} (h : Bnd a) : sprI a a.length = spread a := by
  unfold spread
  split
  · rename_i e
    rw [e]
    rfl
  · rename_i e
    obtain ⟨i, hi, h1⟩ := high_at h a.length (by omega) (Nat.le_refl _)
    obtain ⟨j, hj, h2⟩ := low_at h a.length (by omega) (Nat.le_refl _)
    apply Int.le_antisymm
    · have h3 := low_le a a.length i hi
      refine sprI_le _ _ _ (by omega) (fun p q hp hq => ?_)
      have h5 := high_ge a a.length p hp
      have h6 := low_le a a.length q hq
      omega
    · have h3 := (sprI_ge a a.length).2 i j hi hj
      rw [h1, h2]
      exact h3
/-- The next trade. -/
def trade (x y : List Int) (s t : List Bool) : Option (Nat × Nat) :=
  match pick x s (decide (sum y ≤ sum x)), pick y t (!decide (sum y ≤ sum x)) with
  | some i, some k => if beat (decide (sum y ≤ sum x)) (x.getD i 0) (y.getD k 0) then some (i, k) else none
  | _, _ => none
theorem trade_lt {x y : List Int} {s t : List Bool} {i k : Nat} (h : trade x y s t = some (i, k)) : i < x.length ∧ k < y.length ∧ s.getD i false = false ∧ t.getD k false = false := by
  unfold trade at h
  split at h
  · rename_i i' k' h1 h2
    split at h
    · injection h with h
      injection h with e1 e2
      subst e1 e2
      have := pickN_lt _ _ _ _ _ h1
      have := pickN_lt _ _ _ _ _ h2
      exact ⟨by omega, by omega, by simp_all, by simp_all⟩
    · cases h
  · cases h
def free (s : List Bool) : Nat := s.countP (fun b => !b)
theorem free_set {s : List Bool} {i : Nat} (hi : i < s.length) (h : s.getD i false = false) : free s = free (s.set i true) + 1 := by
  unfold free
  induction s generalizing i with
  | nil => simp at hi
  | cons b s ih =>
    cases i with
    | zero =>
      simp at h
      subst h
      simp
    | succ i =>
      simp at hi h
      have := ih hi (by simpa using h)
      simp only [List.set_cons_succ, List.countP_cons]
      omega
/-- All trades: fuel, rows, marks, what was traded. -/
def plan (limit : Int) : Nat → List Int → List Int → List Bool → List Bool → List (Nat × Nat) → List (Nat × Nat) × Bool
  | 0, _, _, _, _, out => (out, false)
  | f + 1, x, y, s, t, out =>
    if spread (x ++ y) ≤ limit then (out, true) else
    match trade x y s t with
    | none => (out, false)
    | some (i, k) => plan limit f (x.set i (y.getD k 0)) (y.set k (x.getD i 0)) (s.set i true) (t.set k true) (out ++ [(i, k)])
def planF (limit : Int) (x y : List Int) (s t : List Bool) (out : List (Nat × Nat)) := plan limit (free s + 1) x y s t out
theorem plan_done {limit : Int} {x y : List Int} {s t : List Bool} {out : List (Nat × Nat)} (h : spread (x ++ y) ≤ limit) : planF limit x y s t out = (out, true) := by
  unfold planF plan
  rw [if_pos h]
theorem plan_none {limit : Int} {x y : List Int} {s t : List Bool} {out : List (Nat × Nat)} (h : ¬ spread (x ++ y) ≤ limit) (ht : trade x y s t = none) : planF limit x y s t out = (out, false) := by
  unfold planF plan
  rw [if_neg h, ht]
theorem plan_some {limit : Int} {x y : List Int} {s t : List Bool} {out : List (Nat × Nat)} {i k : Nat} (h : ¬ spread (x ++ y) ≤ limit) (ht : trade x y s t = some (i, k)) (hs : s.length = x.length) :
    planF limit x y s t out = planF limit (x.set i (y.getD k 0)) (y.set k (x.getD i 0)) (s.set i true) (t.set k true) (out ++ [(i, k)]) := by
  obtain ⟨h1, h2, h3, h4⟩ := trade_lt ht
  unfold planF
  rw [free_set (by omega) h3]
  conv => lhs; unfold plan
  rw [if_neg h, ht]
def planOf (a b : List Int) (limit : Int) : List (Nat × Nat) × Bool :=
  if limit < 0 then ([], false) else planF limit (row a) (row b) (List.replicate a.length false) (List.replicate b.length false) []
/-- Rows behind trades; none: a place is not there. -/
def after : List Int → List Int → List (Int × Int) → Option (List Int × List Int)
  | x, y, [] => some (x, y)
  | x, y, (i, k) :: l => if i < 0 ∨ (x.length : Int) ≤ i ∨ k < 0 ∨ (y.length : Int) ≤ k then none else after (x.set i.toNat (y.getD k.toNat 0)) (y.set k.toNat (x.getD i.toNat 0)) l
end Go.Proofs.Ytenhimaclecdpaa.Level
