/-
  A table of pages as a list of rows (place, block, page): what setting and clearing make of it. Conditions: each lemma's own.
-/
namespace Go.Proofs.Ythppheklnplljaa.Table
set_option linter.unusedVariables false
theorem find_iff {α κ : Type} [BEq κ] [LawfulBEq κ] (f : α → κ) (k : κ) (x : α) : ∀ (R : List α), R.Pairwise (fun a b => f a ≠ f b) → (R.find? (fun r => f r == k) = some x ↔ x ∈ R ∧ f x = k) := by
  intro R
  induction R with
  | nil => intro _; simp
  | cons a R ih =>
    intro h
    obtain ⟨h1, h2⟩ := List.pairwise_cons.1 h
    rw [List.find?_cons]
    cases hk : f a == k with
    | true =>
      have e : f a = k := by simpa using hk
      simp only [Option.some.injEq, List.mem_cons]
      constructor
      · rintro rfl; exact ⟨.inl rfl, e⟩
      · rintro ⟨rfl | hx, hf⟩
        · rfl
        · exact absurd (e.trans hf.symm) (h1 x hx)
    | false =>
      have e : ¬ f a = k := by simpa using hk
      simp only [List.mem_cons]
      rw [ih h2]
      constructor
      · rintro ⟨hx, hf⟩; exact ⟨.inr hx, hf⟩
      · rintro ⟨rfl | hx, hf⟩
        · exact absurd hf e
        · exact ⟨hx, hf⟩
abbrev Row3 := Nat × (Nat × Nat)
def spotOf (R : List Row3) (q : Nat) : Option (Nat × Nat) := (R.find? (fun r => r.1 == q)).map (·.2)
def ownOf (R : List Row3) (s : Nat × Nat) : Option Nat := (R.find? (fun r => r.2 == s)).map (·.1)
def worthOf (R : List Row3) (b : Nat) : Nat := R.countP (fun r => r.2.1 == b)
def clr (R : List Row3) (q : Nat) : List Row3 := R.filter (fun r => r.1 != q)
/-- No two rows have one place, or one page. -/
def PW (R : List Row3) : Prop := R.Pairwise (fun a b => a.1 ≠ b.1) ∧ R.Pairwise (fun a b => a.2 ≠ b.2)
theorem spot_iff {R : List Row3} (h : PW R) (q : Nat) (s : Nat × Nat) : spotOf R q = some s ↔ (q, s) ∈ R := by
  unfold spotOf
  rw [Option.map_eq_some_iff]
  constructor
  · rintro ⟨x, hx, rfl⟩
    obtain ⟨h1, h2⟩ := (find_iff (fun r : Row3 => r.1) q x R h.1).1 hx
    subst h2
    exact h1
  · intro hx
    exact ⟨(q, s), (find_iff (fun r : Row3 => r.1) q (q, s) R h.1).2 ⟨hx, rfl⟩, rfl⟩
theorem own_iff {R : List Row3} (h : PW R) (q : Nat) (s : Nat × Nat) : ownOf R s = some q ↔ (q, s) ∈ R := by
  unfold ownOf
  rw [Option.map_eq_some_iff]
  constructor
  · rintro ⟨x, hx, rfl⟩
    obtain ⟨h1, h2⟩ := (find_iff (fun r : Row3 => r.2) s x R h.2).1 hx
    subst h2
    exact h1
  · intro hx
    exact ⟨(q, s), (find_iff (fun r : Row3 => r.2) s (q, s) R h.2).2 ⟨hx, rfl⟩, rfl⟩
theorem opt_ext {α : Type} {a b : Option α} (h : ∀ x, a = some x ↔ b = some x) : a = b := by
  cases a with
  | none => cases b with
    | none => rfl
    | some y => exact absurd ((h y).2 rfl) (by simp)
  | some x => exact ((h x).1 rfl).symm
theorem PW.clr {R : List Row3} (h : PW R) (q : Nat) : PW (clr R q) := ⟨h.1.filter _, h.2.filter _⟩
theorem mem_clr {R : List Row3} {q : Nat} {r : Row3} : r ∈ Table.clr R q ↔ r ∈ R ∧ r.1 ≠ q := by simp [Table.clr]
theorem spot_clr {R : List Row3} (h : PW R) (q k : Nat) : spotOf (clr R q) k = if k = q then none else spotOf R k := by
  apply opt_ext
  intro s
  rw [spot_iff (h.clr q), mem_clr]
  split
  · rename_i e; simp [e]
  · rename_i e; rw [spot_iff h]; simp [e]
theorem own_clr {R : List Row3} (h : PW R) {q : Nat} {s0 : Nat × Nat} (h0 : spotOf R q = some s0) (s : Nat × Nat) : ownOf (clr R q) s = if s = s0 then none else ownOf R s := by
  have hm := (spot_iff h q s0).1 h0
  apply opt_ext
  intro k
  rw [own_iff (h.clr q), mem_clr]
  split
  · rename_i e
    subst e
    constructor
    · rintro ⟨h1, h2⟩
      have e1 := (own_iff h k s).2 h1
      have e2 := (own_iff h q s).2 hm
      rw [e1] at e2
      injection e2 with e2
      exact absurd e2 h2
    · intro hn; cases hn
  · rename_i e
    rw [own_iff h]
    constructor
    · rintro ⟨h1, _⟩; exact h1
    · intro h1
      refine ⟨h1, ?_⟩
      rintro rfl
      have e1 := (spot_iff h k s).2 h1
      rw [h0] at e1
      injection e1 with e1
      exact e e1.symm
theorem clr_none {R : List Row3} (h : PW R) {q : Nat} (h0 : spotOf R q = none) : clr R q = R := by
  unfold clr
  rw [List.filter_eq_self]
  rintro ⟨k, s⟩ hk
  simp only [bne_iff_ne, ne_eq]
  rintro rfl
  have := (spot_iff h k s).2 hk
  rw [h0] at this
  cases this
theorem only_row {R : List Row3} (h : PW R) {q : Nat} {s0 : Nat × Nat} (h0 : (q, s0) ∈ R) : R.filter (fun r => !(r.1 != q)) = [(q, s0)] := by
  replace h := h.1
  induction R with
  | nil => cases h0
  | cons a R ih =>
    obtain ⟨ha, hr⟩ := List.pairwise_cons.1 h
    rcases List.mem_cons.1 h0 with e | hm
    · subst e
      rw [List.filter_cons_of_pos (by simp)]
      congr 1
      rw [List.filter_eq_nil_iff]
      intro r hr'
      have := ha r hr'
      simp only [ne_eq] at this
      simp
      exact fun e => this e.symm
    · have := ha _ hm
      rw [List.filter_cons_of_neg (by simpa using this)]
      exact ih hm hr
theorem worth_clr {R : List Row3} (h : PW R) {q : Nat} {s0 : Nat × Nat} (h0 : spotOf R q = some s0) (b : Nat) : worthOf R b = worthOf (clr R q) b + if b = s0.1 then 1 else 0 := by
  have hm := (spot_iff h q s0).1 h0
  have := List.countP_eq_countP_filter_add R (fun r => r.2.1 == b) (fun r => r.1 != q)
  unfold worthOf clr
  rw [this, only_row h hm]
  congr 1
  by_cases e : b = s0.1
  · simp [e]
  · simp [e, Ne.symm e]
theorem len_clr {R : List Row3} (h : PW R) {q : Nat} {s0 : Nat × Nat} (h0 : spotOf R q = some s0) : R.length = (clr R q).length + 1 := by
  have hm := (spot_iff h q s0).1 h0
  have := List.length_eq_countP_add_countP (fun r : Row3 => r.1 != q) (l := R)
  rw [List.countP_eq_length_filter, List.countP_eq_length_filter] at this
  have e : (fun a : Row3 => decide ¬(a.1 != q) = true) = fun r => !(r.1 != q) := by funext r; cases r.1 != q <;> rfl
  rw [e, only_row h hm] at this
  exact this
/-- A row more. -/
def put (R : List Row3) (q : Nat) (s : Nat × Nat) : List Row3 := R ++ [(q, s)]
theorem PW.put {R : List Row3} (h : PW R) {q : Nat} {s : Nat × Nat} (hq : spotOf R q = none) (hs : ownOf R s = none) : PW (put R q s) := by
  constructor
  · refine List.pairwise_append.2 ⟨h.1, List.pairwise_singleton _ _, ?_⟩
    rintro ⟨k, t⟩ hk b hb
    obtain rfl : b = (q, s) := by simpa using hb
    rintro e
    simp only at e
    subst e
    have := (spot_iff h k t).2 hk
    rw [hq] at this
    cases this
  · refine List.pairwise_append.2 ⟨h.2, List.pairwise_singleton _ _, ?_⟩
    rintro ⟨k, t⟩ hk b hb
    obtain rfl : b = (q, s) := by simpa using hb
    rintro e
    simp only at e
    subst e
    have := (own_iff h k t).2 hk
    rw [hs] at this
    cases this
theorem spot_put {R : List Row3} (h : PW R) {q : Nat} {s : Nat × Nat} (hq : spotOf R q = none) (hs : ownOf R s = none) (k : Nat) : spotOf (put R q s) k = if k = q then some s else spotOf R k := by
  apply opt_ext
  intro t
  rw [spot_iff (h.put hq hs)]
  unfold Table.put
  rw [List.mem_append, List.mem_singleton]
  split
  · rename_i e
    subst e
    constructor
    · rintro (h1 | h1)
      · have := (spot_iff h k t).2 h1; rw [hq] at this; cases this
      · simp at h1; rw [h1]
    · intro h1; injection h1 with h1; subst h1; exact .inr rfl
  · rename_i e
    rw [spot_iff h]
    constructor
    · rintro (h1 | h1)
      · exact h1
      · simp [e] at h1
    · exact .inl
theorem own_put {R : List Row3} (h : PW R) {q : Nat} {s : Nat × Nat} (hq : spotOf R q = none) (hs : ownOf R s = none) (t : Nat × Nat) : ownOf (put R q s) t = if t = s then some q else ownOf R t := by
  apply opt_ext
  intro k
  rw [own_iff (h.put hq hs)]
  unfold Table.put
  rw [List.mem_append, List.mem_singleton]
  split
  · rename_i e
    subst e
    constructor
    · rintro (h1 | h1)
      · have := (own_iff h k t).2 h1; rw [hs] at this; cases this
      · simp at h1; rw [h1]
    · intro h1; injection h1 with h1; subst h1; exact .inr rfl
  · rename_i e
    rw [own_iff h]
    constructor
    · rintro (h1 | h1)
      · exact h1
      · simp [e] at h1
    · exact .inl
theorem worth_put (R : List Row3) (q : Nat) (s : Nat × Nat) (b : Nat) : worthOf (put R q s) b = worthOf R b + if b = s.1 then 1 else 0 := by
  unfold worthOf put
  rw [List.countP_append]
  congr 1
  by_cases e : b = s.1
  · simp [e]
  · simp [e, Ne.symm e]
/-- All rows are of places, blocks and pages that there are. -/
def In (R : List Row3) (blocks pages : Nat) : Prop := ∀ r ∈ R, r.1 < 64 ∧ r.2.1 < blocks ∧ r.2.2 < pages
theorem In.clr {R : List Row3} {n m : Nat} (h : In R n m) (q : Nat) : In (clr R q) n m := fun r hr => h r (mem_clr.1 hr).1
theorem In.put {R : List Row3} {n m : Nat} (h : In R n m) {q b p : Nat} (hq : q < 64) (hb : b < n) (hp : p < m) : In (put R q (b, p)) n m := by
  intro r hr
  rcases List.mem_append.1 hr with h1 | h1
  · exact h r h1
  · obtain rfl : r = (q, (b, p)) := by simpa using h1
    exact ⟨hq, hb, hp⟩
theorem In.more {R : List Row3} {n n' m : Nat} (h : In R n m) (hn : n ≤ n') : In R n' m := fun r hr => ⟨(h r hr).1, Nat.lt_of_lt_of_le (h r hr).2.1 hn, (h r hr).2.2⟩
theorem sum_ite (n b : Nat) (f : Nat → Nat) : ((List.range n).map (fun i => f i + if i = b then 1 else 0)).sum = ((List.range n).map f).sum + if b < n then 1 else 0 := by
  induction n with
  | zero => simp
  | succ n ih =>
    rw [List.range_succ, List.map_append, List.map_append, List.sum_append, List.sum_append, ih]
    by_cases h1 : b < n
    · have : ¬ n = b := by omega
      simp [h1, this]
      rw [if_pos (by omega)]
      omega
    · by_cases h2 : n = b
      · subst h2
        simp
        omega
      · simp [h1, h2]
        try rw [if_neg (by omega)]
        try omega
theorem sum_worth {R : List Row3} {n m : Nat} (h : In R n m) : ((List.range n).map (worthOf R)).sum = R.length := by
  induction R with
  | nil =>
    have : (List.range n).map (worthOf []) = List.replicate n 0 := by
      apply List.ext_getElem?
      intro i
      rw [List.getElem?_replicate]
      by_cases hi : i < n
      · simp [hi]; rfl
      · simp [hi]
    rw [this]
    simp
  | cons r R ih =>
    have h1 := h r (by simp)
    have e : worthOf (r :: R) = fun i => worthOf R i + if i = r.2.1 then 1 else 0 := by
      funext i
      unfold worthOf
      rw [List.countP_cons]
      by_cases e : i = r.2.1
      · simp [e]
      · simp [e, Ne.symm e]
    rw [e, sum_ite, ih (fun x hx => h x (by simp [hx])), if_pos h1.2.1]
    simp
end Go.Proofs.Ythppheklnplljaa.Table
