/-
  Slices of one's own: what a slice holds, element by element; how it is read, appended to, cut, clipped, written, cleared. Conditions: each lemma's own.
-/
import Derived.Test.YtjkojhebgkgdaaaDoorBase
import Derived.Deep.AppendSrc
import Derived.Lib.SliceRun
namespace Go.Proofs.YtjkojhebgkgdaaaDoor.Base
open Go.RowKit
set_option linter.unusedVariables false
theorem Upd.below_step {S : Nat → Prop} {a w w' : World} (h : Upd S a w) (hb : Below w.heap.size w w') : Upd S a w' :=
  ⟨hb.os.trans h.os, hb.output.trans h.output, Nat.le_trans h.size hb.size, fun k hk hn => (hb.block k (Nat.lt_of_lt_of_le hk h.size)).trans (h.block k hk hn)⟩
theorem blk_below {w w1 : World} {b : Nat} {o : Obj} (h : w.heap[b]? = some o) (hb : Below w.heap.size w w1) : w1.heap[b]? = some o := (hb.block b (blk_lt h)).trans h
section
variable {α : Type} {sz : Nat} {f : α → List Value}
theorem flat_len (hf : ∀ x, (f x).length = sz) (l : List α) : (l.flatMap f).length = l.length * sz := by
  induction l with
  | nil => simp
  | cons x l ih => simp [List.flatMap_cons, hf, ih, Nat.succ_mul, Nat.add_comm]
theorem flat_get (hf : ∀ x, (f x).length = sz) (l : List α) : ∀ (i r : Nat) (hi : i < l.length), r < sz → (l.flatMap f)[i * sz + r]? = (f l[i])[r]? := by
  induction l with
  | nil => intro i r hi; simp at hi
  | cons x l ih =>
    intro i r hi hr
    rw [List.flatMap_cons]
    cases i with
    | zero => rw [List.getElem?_append_left (by rw [hf]; omega)]; simp
    | succ i =>
      rw [List.getElem?_append_right (by rw [hf, Nat.succ_mul]; omega), hf]
      simp only [List.length_cons] at hi
      have := ih i r (by omega) hr
      rw [show (i + 1) * sz + r - sz = i * sz + r by rw [Nat.succ_mul]; omega, this]
      rfl
theorem flat_ext (hf : ∀ x, (f x).length = sz) (hpos : 0 < sz) (l : List α) {j : Nat} {u : Value} (h : (l.flatMap f)[j]? = some u) : ∃ i r, ∃ hi : i < l.length, r < sz ∧ j = i * sz + r ∧ (f l[i])[r]? = some u := by
  have hj : j < l.length * sz := by rw [← flat_len hf]; exact (List.getElem?_eq_some_iff.1 h).1
  have hi : j / sz < l.length := (Nat.div_lt_iff_lt_mul hpos).2 hj
  have hr : j % sz < sz := Nat.mod_lt _ hpos
  have e : j = j / sz * sz + j % sz := by rw [Nat.mul_comm]; exact (Nat.div_add_mod j sz).symm
  refine ⟨j / sz, j % sz, hi, hr, e, ?_⟩
  rw [← flat_get hf l _ _ hi hr, ← e]
  exact h

/-! ### a row of cells -/
def GRow (w : World) (base : Nat) (e : TypeId) (size : Nat) (v : Value) (n : Nat) (xs : List Value) : Prop :=
  xs.length = n * size ∧
  ((n = 0 ∧ v = .slice none 0 0) ∨
   ∃ g o cap cur, v = .slice (some ⟨g, o, none⟩) n cap ∧ base ≤ g ∧ w.heap[g]? = some (.cells cur e (0, 0)) ∧ n ≤ cap ∧ cap ≤ maxLen ∧ o + cap * size ≤ cur.size ∧ (cur.toList.drop o).take (n * size) = xs)
section
variable {w w1 : World} {base n size : Nat} {e : TypeId} {v : Value} {xs : List Value}
theorem g_move (h : GRow w base e size v n xs) (hm : ∀ k, v.ownBlock = some k → w1.heap[k]? = w.heap[k]?) : GRow w1 base e size v n xs := by
  obtain ⟨h1, h2⟩ := h
  refine ⟨h1, ?_⟩
  rcases h2 with h0 | ⟨g, off, cap, cur, rfl, hg, hh, r⟩
  · exact .inl h0
  · exact .inr ⟨g, off, cap, cur, rfl, hg, (hm g (by simp [Value.ownBlock])).trans hh, r⟩
theorem g_typed (h : GRow w base e size v n xs) (k : Nat) (hk : v.ownBlock = some k) : base ≤ k ∧ ∃ cells, w.heap[k]? = some (.cells cells e (0, 0)) := by
  rcases h.2 with ⟨_, rfl⟩ | ⟨g, off, cap, cur, rfl, hg, hh, r⟩
  · simp [Value.ownBlock] at hk
  · simp [Value.ownBlock] at hk
    subst hk
    exact ⟨hg, _, hh⟩
theorem g_lt (h : GRow w base e size v n xs) (k : Nat) (hk : v.ownBlock = some k) : k < w.heap.size := by
  obtain ⟨_, _, hc⟩ := g_typed h k hk
  exact blk_lt hc
theorem g_lower {base' : Nat} (h : GRow w base e size v n xs) (hb : base' ≤ base) : GRow w base' e size v n xs := by
  refine ⟨h.1, ?_⟩
  rcases h.2 with h0 | ⟨g, off, cap, cur, rfl, hg, r⟩
  · exact .inl h0
  · exact .inr ⟨g, off, cap, cur, rfl, Nat.le_trans hb hg, r⟩
theorem g_slice (h : GRow w base e size v n xs) : ∃ A c, v = .slice A n c ∧ n ≤ c ∧ c ≤ maxLen := by
  rcases h.2 with ⟨rfl, rfl⟩ | ⟨g, off, cap, cur, rfl, hg, hh, hn, hm, r⟩
  · exact ⟨_, _, rfl, Nat.le_refl _, Nat.zero_le _⟩
  · exact ⟨_, _, rfl, hn, hm⟩
theorem cells_of {g o : Nat} {cur : Array Value} (hh : w.heap[g]? = some (.cells cur e (0, 0))) {m : Nat} (ht : (cur.toList.drop o).take m = xs) : ∀ j u, xs[j]? = some u → w.cell? ⟨g, o + j, none⟩ = some u := by
  intro j u hu
  subst ht
  rw [List.getElem?_take] at hu
  split at hu
  · rw [List.getElem?_drop] at hu
    rw [blk_cell hh, ← Array.getElem?_toList]
    exact hu
  · cases hu
theorem g_cells {A : Option Addr} {c : Nat} (h : GRow w base e size (.slice A n c) n xs) (hn : xs ≠ []) : ∃ g o, A = some ⟨g, o, none⟩ ∧ g < w.heap.size ∧ ∀ j u, xs[j]? = some u → w.cell? ⟨g, o + j, none⟩ = some u := by
  rcases h.2 with ⟨rfl, _⟩ | ⟨g, o, cap, cur, he, hg, hh, hnc, hm, hs, ht⟩
  · exact absurd (List.eq_nil_of_length_eq_zero (by rw [h.1, Nat.zero_mul])) hn
  · injection he with e1 e2 e3
    exact ⟨g, o, e1, blk_lt hh, cells_of hh ht⟩
theorem g_take {A : Option Addr} {c m : Nat} (h : GRow w base e size (.slice A n c) n xs) (hm : m ≤ n) : GRow w base e size (.slice A m c) m (xs.take (m * size)) := by
  refine ⟨by rw [List.length_take, h.1]; exact Nat.min_eq_left (Nat.mul_le_mul_right _ hm), ?_⟩
  rcases h.2 with ⟨rfl, he⟩ | ⟨g, o, cap, cur, he, hg, hh, hnc, hm2, hs, ht⟩
  · injection he with e1 e2 e3
    subst e1 e3
    exact .inl ⟨by omega, by rw [show m = 0 by omega]⟩
  · injection he with e1 e2 e3
    subst e1 e3
    refine .inr ⟨g, o, c, cur, rfl, hg, hh, by omega, hm2, hs, ?_⟩
    rw [← ht, List.take_take, Nat.min_eq_left (Nat.mul_le_mul_right _ hm)]
theorem g_drop {A : Option Addr} {c k : Nat} (h : GRow w base e size (.slice A n c) n xs) (hk : k ≤ n) : GRow w base e size (.slice (if c = k then A else A.map (·.add (k * size))) (n - k) (c - k)) (n - k) (xs.drop (k * size)) := by
  refine ⟨by rw [List.length_drop, h.1, Nat.sub_mul], ?_⟩
  rcases h.2 with ⟨rfl, he⟩ | ⟨g, o, cap, cur, he, hg, hh, hnc, hm2, hs, ht⟩
  · injection he with e1 e2 e3
    subst e1 e3
    refine .inl ⟨by omega, ?_⟩
    simp [show k = 0 by omega]
  · injection he with e1 e2 e3
    subst e1 e3
    by_cases e : c = k
    · subst e
      rw [if_pos rfl]
      refine .inr ⟨g, o, c - c, cur, rfl, hg, hh, by omega, by omega, by simp; have := Nat.zero_le (c * size); omega, ?_⟩
      rw [show n - c = 0 by omega, Nat.zero_mul, List.take_zero]
      symm
      apply List.drop_eq_nil_of_le
      rw [h.1]
      exact Nat.mul_le_mul_right _ hnc
    · rw [if_neg e]
      have hadd : (⟨g, o, none⟩ : Addr).add (k * size) = ⟨g, o + k * size, none⟩ := by
        unfold Addr.add
        by_cases h0 : k * size = 0 <;> simp [h0]
      refine .inr ⟨g, o + k * size, c - k, cur, by rw [Option.map_some, hadd], hg, hh, by omega, by omega, ?_, ?_⟩
      · have : (c - k) * size + k * size = c * size := by rw [← Nat.add_mul]; congr 1; omega
        omega
      · rw [← ht, List.drop_take, List.drop_drop, Nat.sub_mul]
theorem g_clip {A : Option Addr} {c m : Nat} (h : GRow w base e size (.slice A n c) n xs) (hm : n ≤ m) (hmc : m ≤ c) : GRow w base e size (.slice A n m) n xs := by
  refine ⟨h.1, ?_⟩
  rcases h.2 with ⟨rfl, he⟩ | ⟨g, o, cap, cur, he, hg, hh, hnc, hm2, hs, ht⟩
  · injection he with e1 e2 e3
    subst e1 e3
    exact .inl ⟨rfl, by rw [show m = 0 by omega]⟩
  · injection he with e1 e2 e3
    subst e1 e3
    exact .inr ⟨g, o, m, cur, rfl, hg, hh, hm, by omega, Nat.le_trans (Nat.add_le_add_left (Nat.mul_le_mul_right _ hmc) _) hs, ht⟩
theorem g_set {g o c j : Nat} (h : GRow w base e size (.slice (some ⟨g, o, none⟩) n c) n xs) (hj : j < xs.length) (u : Value) :
    GRow (w.setCell ⟨g, o + j, none⟩ u) base e size (.slice (some ⟨g, o, none⟩) n c) n (xs.set j u) := by
  refine ⟨by rw [List.length_set]; exact h.1, ?_⟩
  rcases h.2 with ⟨_, he⟩ | ⟨g', o', cap, cur, he, hg, hh, hnc, hm2, hs, ht⟩
  · cases he
  · injection he with e1 e2 e3
    injection e1 with e1
    injection e1 with e4 e5
    subst e3 e4 e5
    refine .inr ⟨g, o, c, _, rfl, hg, blk_put hh _ _ rfl, hnc, hm2, by rw [Array.size_setIfInBounds]; exact hs, ?_⟩
    rw [Array.toList_setIfInBounds, ← ht, List.drop_set, if_neg (by omega), Nat.add_sub_cancel_left, List.take_set]
end

/-! ### a list of elements -/
/-- What a slice holds. -/
def Sl (w : World) (base : Nat) (e sz : Nat) (f : α → List Value) (v : Value) (l : List α) : Prop := GRow w base e sz v l.length (l.flatMap f)
section
variable {w w1 : World} {base e : Nat} {v : Value} {l : List α}
theorem Sl.nil (w : World) (base e sz : Nat) (f : α → List Value) : Sl w base e sz f (.slice none 0 0) [] := ⟨by simp, .inl ⟨rfl, rfl⟩⟩
/-- T{}: a literal of no elements. -/
theorem Sl.zero (w : World) (base e sz : Nat) (f : α → List Value) (cs : Array Value) (hb : base ≤ w.heap.size) : Sl (w.alloc (.cells cs e)) base e sz f (.slice (some ⟨w.heap.size, 0, none⟩) 0 0) [] :=
  ⟨by simp, .inr ⟨_, 0, 0, cs, rfl, hb, blk_new _ _, Nat.le_refl _, Nat.zero_le _, by simp, by simp⟩⟩
theorem Sl.form (h : Sl w base e sz f v l) : ∃ A c, v = .slice A l.length c ∧ l.length ≤ c := by
  obtain ⟨A, c, h1, h2, _⟩ := g_slice h
  exact ⟨A, c, h1, h2⟩
theorem Sl.max (h : Sl w base e sz f v l) : l.length ≤ 9223372036854775807 := by
  obtain ⟨A, c, h1, h2, h3⟩ := g_slice h
  unfold maxLen at h3
  omega
theorem Sl.capMax {A : Option Addr} {n c : Nat} (h : Sl w base e sz f (.slice A n c) l) : c ≤ 9223372036854775807 := by
  obtain ⟨A, c, h1, h2, h3⟩ := g_slice h
  injection h1 with e1 e2 e3
  subst e3
  unfold maxLen at h3
  omega
theorem Sl.typed (h : Sl w base e sz f v l) (k : Nat) (hk : v.ownBlock = some k) : base ≤ k ∧ ∃ cells, w.heap[k]? = some (.cells cells e (0, 0)) := g_typed h k hk
theorem Sl.lt (h : Sl w base e sz f v l) (k : Nat) (hk : v.ownBlock = some k) : k < w.heap.size := g_lt h k hk
theorem Sl.lower {base' : Nat} (h : Sl w base e sz f v l) (hb : base' ≤ base) : Sl w base' e sz f v l := g_lower h hb
/-- Its block is none of another type's. -/
theorem Sl.ne (h : Sl w base e sz f v l) {b t : Nat} {cs : Array Value} {fr : Nat × Nat} (hb : w.heap[b]? = some (.cells cs t fr)) (hne : e ≠ t) (k : Nat) (hk : v.ownBlock = some k) : k ≠ b := by
  rintro rfl
  obtain ⟨_, cells, hc⟩ := h.typed k hk
  rw [hc] at hb
  injection hb with hb
  injection hb with _ hb
  exact hne hb
theorem Sl.move (h : Sl w base e sz f v l) (hm : ∀ k, v.ownBlock = some k → w1.heap[k]? = w.heap[k]?) : Sl w1 base e sz f v l := g_move h hm
theorem Sl.upd (h : Sl w base e sz f v l) {S : Nat → Prop} (u : Upd S w w1) (hn : ∀ k, v.ownBlock = some k → ¬ S k) : Sl w1 base e sz f v l :=
  h.move (fun k hk => u.block k (h.lt k hk) (hn k hk))
theorem Sl.upd0 (h : Sl w base e sz f v l) (u : Upd Nil w w1) : Sl w1 base e sz f v l := h.upd u (fun _ _ h => h)
theorem Sl.alloc (h : Sl w base e sz f v l) (o : Obj) : Sl (w.alloc o) base e sz f v l := h.upd0 ((Upd.refl _ _).alloc o)
theorem Sl.drew (h : Sl w base e sz f v l) : Sl w.drew base e sz f v l := h.upd0 (Upd.refl _ _).drew
theorem Sl.grown (h : Sl w base e sz f v l) {row : Option Nat} (g : w.grownBy w1 row) (hn : ∀ k, v.ownBlock = some k → some k ≠ row) : Sl w1 base e sz f v l :=
  h.move (fun k hk => g.block k (h.lt k hk) (hn k hk))
theorem Sl.cells {A : Option Addr} {n c : Nat} (hf : ∀ x, (f x).length = sz) (hpos : 0 < sz) (h : Sl w base e sz f (.slice A n c) l) : Arg w A sz f l := by
  obtain ⟨A', c', he, _⟩ := h.form
  injection he with e1 e2 e3
  subst e1 e2 e3
  by_cases hz : l = []
  · exact .inl hz
  · have h0 : 0 < l.length := List.length_pos_iff.2 hz
    have hne : l.flatMap f ≠ [] := by
      intro e
      have := congrArg List.length e
      rw [flat_len hf] at this
      exact absurd this (Nat.ne_of_gt (Nat.mul_pos h0 hpos))
    obtain ⟨g, o, rfl, hg, hc⟩ := g_cells h hne
    refine .inr ⟨g, o, rfl, hg, fun i hi j hj => ?_⟩
    have hfl : j < (f l[i]).length := by rw [hf]; exact hj
    rw [List.getElem?_eq_getElem hfl, Nat.add_assoc]
    refine hc _ _ ?_
    rw [flat_get hf l i j hi hj, List.getElem?_eq_getElem hfl]
theorem Sl.drop {A : Option Addr} {n c k : Nat} (hf : ∀ x, (f x).length = sz) (h : Sl w base e sz f (.slice A n c) l) (hk : k ≤ l.length) : Sl w base e sz f (.slice (if c = k then A else A.map (·.add (k * sz))) (l.length - k) (c - k)) (l.drop k) := by
  obtain ⟨A', c', he, _⟩ := h.form
  injection he with e1 e2 e3
  subst e1 e2 e3
  have := g_drop h hk
  unfold Sl
  have e : (l.drop k).flatMap f = (l.flatMap f).drop (k * sz) := by
    have : l.flatMap f = (l.take k).flatMap f ++ (l.drop k).flatMap f := by rw [← List.flatMap_append, List.take_append_drop]
    rw [this, List.drop_left' (by rw [flat_len hf, List.length_take, Nat.min_eq_left hk])]
  rw [List.length_drop, e]
  exact this
theorem Sl.take {A : Option Addr} {n c k : Nat} (hf : ∀ x, (f x).length = sz) (h : Sl w base e sz f (.slice A n c) l) (hk : k ≤ l.length) : Sl w base e sz f (.slice A k c) (l.take k) := by
  obtain ⟨A', c', he, _⟩ := h.form
  injection he with e1 e2 e3
  subst e1 e2 e3
  have := g_take h hk
  unfold Sl
  have e : (l.take k).flatMap f = (l.flatMap f).take (k * sz) := by
    have : l.flatMap f = (l.take k).flatMap f ++ (l.drop k).flatMap f := by rw [← List.flatMap_append, List.take_append_drop]
    rw [this, List.take_left' (by rw [flat_len hf, List.length_take, Nat.min_eq_left hk])]
  rw [List.length_take, Nat.min_eq_left hk, e]
  exact this
theorem Sl.clip {A : Option Addr} {n c m : Nat} (h : Sl w base e sz f (.slice A n c) l) (hm : l.length ≤ m) (hc : m ≤ c) : Sl w base e sz f (.slice A n m) l := by
  obtain ⟨A', c', he, _⟩ := h.form
  injection he with e1 e2 e3
  subst e1 e2 e3
  exact g_clip h hm hc
theorem Sl.set {g o n c j : Nat} {l' : List α} (h : Sl w base e sz f (.slice (some ⟨g, o, none⟩) n c) l) (hlen : l'.length = l.length) (u : Value) (hj : j < (l.flatMap f).length) (hl : l'.flatMap f = (l.flatMap f).set j u) :
    Sl (w.setCell ⟨g, o + j, none⟩ u) base e sz f (.slice (some ⟨g, o, none⟩) n c) l' := by
  obtain ⟨A', c', he, _⟩ := h.form
  injection he with e1 e2 e3
  subst e2
  have := g_set h hj u
  unfold Sl
  rw [hlen, hl]
  exact this
/-- Elements of one cell. -/
theorem Sl.set1 {f : α → Value} {g o n c i : Nat} (h : Sl w base e 1 (fun x => [f x]) (.slice (some ⟨g, o, none⟩) n c) l) (hi : i < l.length) (x : α) :
    Sl (w.setCell ⟨g, o + i, none⟩ (f x)) base e 1 (fun x => [f x]) (.slice (some ⟨g, o, none⟩) n c) (l.set i x) := by
  have e0 : ∀ l : List α, l.flatMap (fun x => [f x]) = l.map f := fun l => by induction l <;> simp_all [List.flatMap_cons]
  refine h.set (by simp) _ (by rw [e0]; simpa using hi) ?_
  rw [e0, e0, List.map_set]
theorem Upd.setOwn {S : Nat → Prop} {a : World} {g i : Nat} (h : Upd S a w) (hg : S g ∨ a.heap.size ≤ g) (u : Value) : Upd S a (w.setCell ⟨g, i, none⟩ u) := h.set (p := ⟨g, i, none⟩) hg u
theorem Upd.grown {S : Nat → Prop} {a w w' : World} {row : Option Nat} (h : Upd S a w) (g : w.grownBy w' row) (hr : ∀ k, row = some k → S k ∨ a.heap.size ≤ k) : Upd S a w' :=
  ⟨g.os.trans h.os, g.output.trans h.output, Nat.le_trans h.size g.size, fun k hk hn => (g.block k (Nat.lt_of_lt_of_le hk h.size) (fun e => (hr k e.symm).elim hn (fun h2 => absurd h2 (by omega)))).trans (h.block k hk hn)⟩
/-- A slice of one's own has grown. -/
theorem Upd.grownOwn {S : Nat → Prop} {a w w' : World} {base : Nat} (h : Upd S a w) (HS : Sl w base e sz f v l) (hb : a.heap.size ≤ base) (g : w.grownBy w' v.ownBlock) : Upd S a w' :=
  h.grown g (fun k hk => .inr (Nat.le_trans hb (HS.typed k hk).1))
theorem blk_grown {w w' : World} {b : Nat} {o : Obj} {row : Option Nat} (h : w.heap[b]? = some o) (g : w.grownBy w' row) (hn : ∀ k, row = some k → k ≠ b) : w'.heap[b]? = some o := (g.block b (blk_lt h) (fun e => hn b e.symm rfl)).trans h
end

/-! ### append -/
theorem setc_far {g : Nat} : ∀ (vs : List Value) (o : Nat) {w : World} (k : Nat), k ≠ g → (w.setCells g o vs).heap[k]? = w.heap[k]?
  | [], _, _, _, _ => rfl
  | v :: r, o, w, k, hk => by
    rw [World.setCells, setc_far r (o + 1) k hk]
    exact Below.heap_setCell w ⟨g, o, none⟩ v k hk
theorem setc_same (g : Nat) : ∀ (vs : List Value) (o : Nat) (w : World), (w.setCells g o vs).os = w.os ∧ (w.setCells g o vs).tape = w.tape ∧ (w.setCells g o vs).output = w.output ∧ (w.setCells g o vs).heap.size = w.heap.size
  | [], _, _ => ⟨rfl, rfl, rfl, rfl⟩
  | v :: r, o, w => by
    obtain ⟨h1, h2, h3, h4⟩ := setc_same g r (o + 1) (w.setCell ⟨g, o, none⟩ v)
    rw [World.setCells]
    exact ⟨h1, h2, h3, by rw [h4]; simp [World.setCell]⟩
theorem setc_row {g : Nat} {e : TypeId} : ∀ (vs : List Value) (o : Nat) (w : World) (cur : Array Value), w.heap[g]? = some (.cells cur e (0, 0)) → o + vs.length ≤ cur.size →
    ∃ cur', (w.setCells g o vs).heap[g]? = some (.cells cur' e (0, 0)) ∧ cur'.size = cur.size ∧ cur'.toList = cur.toList.take o ++ vs ++ cur.toList.drop (o + vs.length)
  | [], o, w, cur, h, _ => ⟨cur, h, rfl, by simp⟩
  | v :: r, o, w, cur, h, hl => by
    have h2 : (w.setCell ⟨g, o, none⟩ v).heap[g]? = some (.cells (cur.setIfInBounds o v) e (0, 0)) := blk_put h o v rfl
    simp only [List.length_cons] at hl
    obtain ⟨cur', h3, h4, h5⟩ := setc_row r (o + 1) (w.setCell ⟨g, o, none⟩ v) _ h2 (by simp; omega)
    refine ⟨cur', h3, by rw [h4]; simp, ?_⟩
    rw [h5, Array.toList_setIfInBounds]
    have ho : o < cur.toList.length := by rw [Array.length_toList]; omega
    rw [List.take_succ_eq_append_getElem (by simpa using ho), List.getElem_set_self, List.take_set_of_le (Nat.le_refl o), List.drop_set_of_lt (by omega)]
    simp [Nat.add_assoc, Nat.add_comm 1]
/-- The facts on a slice type's elements. -/
structure Elem (P : Program) (t e : TypeId) (z : Value) (sz bytes : Nat) (f : α → List Value) : Prop where
  ht : P.underlying t = some (.slice e)
  info : (P.info? e).map (fun i => (i.zero, i.size, i.bytes)) = some (some z, sz, bytes)
  hz : z.cells.size = sz
  pos : 0 < sz
  len : ∀ x, (f x).length = sz
  one : ∀ x, ∀ u ∈ f x, u.oneCell' = true
section
variable {P : Program}
/-- What is appended. -/
theorem Src.ofArg {w : World} {tx : TypeId} (hk : ∃ e', P.underlying tx = some (.slice e')) (hlen : ∀ x, (f x).length = sz) (hone : ∀ x, ∀ u ∈ f x, u.oneCell' = true) {A : Option Addr} {l : List α} (h : Arg w A sz f l) (c : Nat) : Src P sz tx (.slice A l.length c) l.length (l.flatMap f) w := by
  obtain ⟨e', hk⟩ := hk
  have hall : ∀ u ∈ l.flatMap f, u.oneCell' = true := fun u hu => by
    obtain ⟨x, _, hx⟩ := List.mem_flatMap.1 hu
    exact hone x u hx
  rcases h with rfl | ⟨b, off, rfl, h2, h3⟩
  · refine ⟨.inl ⟨e', hk⟩, fun _ => rfl, ?_, ?_, by simp, fun _ h => by cases h⟩ <;> cases A <;> simp [Builtin.firstCells, loadCells, loadCellsFrom]
  · by_cases hz : sz = 0
    · subst hz
      have hn : l.flatMap f = [] := List.eq_nil_of_length_eq_zero (by rw [flat_len hlen, Nat.mul_zero])
      refine Src.ofSlice w hk _ _ c _ (by rw [hn]; simp) (fun j u hj => by rw [hn] at hj; cases hj) hall
    · refine Src.ofSlice w hk _ _ c _ (flat_len hlen l) (fun j u hj => ?_) hall
      obtain ⟨i, r, hi, hr, rfl, hu⟩ := flat_ext hlen (Nat.pos_of_ne_zero hz) l hj
      rw [← hu, ← h3 i hi r hr, Addr.add_lit, Nat.add_assoc]

theorem run_app {w : World} {base : Nat} {t tx ty e : TypeId} {z : Value} {bytes : Nat} (E : Elem P t e z sz bytes f) {v : Value} {l : List α} (HS : Sl w base e sz f v l) {x : Value} {l2 : List α} (hx : Src P sz tx x l2.length (l2.flatMap f) w)
    (hbytes : (l.length + l2.length) * bytes ≤ 140737488355328) (h63 : l.length + l2.length ≤ maxLen) (hbase : base ≤ w.heap.size) :
    ∃ A' c' w', (Builtin.append_ #[t, tx] ty #[v, x]).run P w = .ok (.slice A' (l.length + l2.length) c') w' ∧ Sl w' base e sz f (.slice A' (l.length + l2.length) c') (l ++ l2) ∧ w.grownBy w' v.ownBlock ∧ ((Value.slice A' (l.length + l2.length) c').ownBlock = v.ownBlock ∨ ∃ b, (Value.slice A' (l.length + l2.length) c').ownBlock = some b ∧ w.heap.size ≤ b) := by
  obtain ⟨i, hi, hi2⟩ := Option.map_eq_some_iff.1 E.info
  injection hi2 with e1 e2
  injection e2 with e2 e3
  subst e2 e3
  have hlen : ((l ++ l2).flatMap f).length = (l ++ l2).length * i.size := flat_len E.len _
  have hfl := flat_len E.len l
  have hfl2 := flat_len E.len l2
  have h63' : l.length + l2.length ≤ 9223372036854775807 := by simp only [maxLen] at h63; omega
  have grows : ∀ (old : Nat) (A : Option Addr), old < l.length + l2.length → v = .slice A l.length old → (Builtin.firstCells i.size l.length (.slice A l.length old)).run P w.drew = .ok (l.flatMap f).toArray w.drew →
      ∃ A' c' w', (Builtin.append_ #[t, tx] ty #[v, x]).run P w = .ok (.slice A' (l.length + l2.length) c') w' ∧ Sl w' base e i.size f (.slice A' (l.length + l2.length) c') (l ++ l2) ∧ w.grownBy w' v.ownBlock ∧ ((Value.slice A' (l.length + l2.length) c').ownBlock = v.ownBlock ∨ ∃ b, (Value.slice A' (l.length + l2.length) c').ownBlock = some b ∧ w.heap.size ≤ b) := by
    intro old A ho hv hold
    subst hv
    have hr := run_append_grow_src (P := P) w t tx ty e i z E.ht hi e1 A l.length old (l.flatMap f) hold x l2.length (l2.flatMap f) hx ho (by omega) (growslice_fits (by omega) hbytes)
    have hge := grownCap_ge w (l.length + l2.length) old e
    have hcm : grownCap w (l.length + l2.length) old e ≤ maxLen := grownCap_le_maxLen w _ old e h63
    refine ⟨_, _, _, hr, ⟨hlen, .inr ⟨w.heap.size, 0, _, _, by rw [List.length_append], hbase, blk_new w.drew _, by rw [List.length_append]; exact hge, hcm, ?_, ?_⟩⟩, ⟨rfl, rfl, rfl, by simp, fun k hk _ => Below.heap_alloc w.drew _ k hk⟩, .inr ⟨_, rfl, Nat.le_refl _⟩⟩
    · simp only [Array.size_append, List.size_toArray, size_zeroCells, E.hz, List.length_append, hfl, hfl2]
      rw [← Nat.add_mul, ← Nat.add_mul, Nat.zero_add]
      apply Nat.mul_le_mul_right
      omega
    · rw [List.drop_zero, Array.toList_append, ← hlen, List.flatMap_append]
      exact List.take_left
  rcases HS.2 with ⟨h0, rfl⟩ | ⟨g, o, cap, cur, rfl, hg, hh, hnc, hm, hs, ht⟩
  · have hl : l = [] := List.eq_nil_of_length_eq_zero h0
    subst hl
    by_cases hm : l2.length = 0
    · have hl2 : l2 = [] := List.eq_nil_of_length_eq_zero hm
      subst hl2
      refine ⟨none, 0, w, ?_, Sl.nil _ _ _ _ _, ⟨rfl, rfl, rfl, Nat.le_refl _, fun _ _ _ => rfl⟩, .inl rfl⟩
      have h1 := hx.len
      have h2 := hx.cells
      simp only [List.length_nil] at h1 h2
      rcases hx.kind with ⟨e', hk⟩ | hk <;> simp [Builtin.append_, run_underlying E.ht, run_underlying hk, sizeOf, typeInfo, hi, h1, h2]
    · exact grows 0 none (by simp; omega) rfl (by simp [Builtin.firstCells])
  · by_cases hroom : l.length + l2.length ≤ cap
    · have hfit : o + l.length * i.size + (l2.flatMap f).length ≤ cur.size := by
        rw [hfl2]
        have := Nat.mul_le_mul_right i.size hroom
        rw [Nat.add_mul] at this
        omega
      have hr := run_append_room_src (P := P) w t tx ty e i E.ht hi g o l.length cap x l2.length (l2.flatMap f) hx hroom
        (fun j hj => by rw [blk_cell hh]; simp; omega) (fun j hj => blk_frozen hh _)
      obtain ⟨cur', k1, k2, k3⟩ := setc_row (l2.flatMap f) (o + l.length * i.size) w cur hh hfit
      obtain ⟨s1, s2, s3, s4⟩ := setc_same g (l2.flatMap f) (o + l.length * i.size) w
      refine ⟨_, _, _, hr, ⟨hlen, .inr ⟨g, o, cap, cur', by rw [List.length_append], hg, k1, by rw [List.length_append]; exact hroom, hm, by rw [k2]; exact hs, ?_⟩⟩, ⟨s1, s2, s3, by rw [s4]; exact Nat.le_refl _, fun k _ hk => setc_far _ _ k (fun he => hk (by rw [he]; rfl))⟩, .inl rfl⟩
      have ho : o ≤ cur.toList.length := by rw [Array.length_toList]; omega
      rw [k3, ← hlen, List.flatMap_append, List.append_assoc, List.drop_append_of_le_length (by rw [List.length_take]; omega), List.drop_take, Nat.add_sub_cancel_left, ht, ← List.append_assoc]
      exact List.take_left
    · refine grows cap (some ⟨g, o, none⟩) (by omega) rfl (run_firstCells_some w.drew _ _ _ _ _ _ hfl (fun j u hj => ?_))
      rw [Addr.add_lit]
      exact cells_of hh ht j u hj

theorem Arg.fresh (hf : ∀ x, (f x).length = sz) (w : World) (x : α) (e : Nat) : Arg (w.alloc (.cells (f x).toArray e)) (some ⟨w.heap.size, 0, none⟩) sz f [x] := by
  refine .inr ⟨_, _, rfl, by simp, fun i hi j hj => ?_⟩
  have : i = 0 := by simpa using hi
  subst this
  rw [show 0 + 0 * sz + j = j by omega, blk_cell (blk_new _ _) j]
  simp
/-- A literal's elements. -/
theorem arg_lit {w : World} {g t : Nat} {cs : Array Value} {l : List α} (hf : ∀ x, (f x).length = sz) (hb : w.heap[g]? = some (.cells cs t (0, 0))) (hcs : cs.toList = l.flatMap f) : Arg w (some ⟨g, 0, none⟩) sz f l := by
  refine .inr ⟨g, 0, rfl, blk_lt hb, fun i hi j hj => ?_⟩
  have h2 := flat_get hf l i j hi hj
  rw [← hcs, Array.getElem?_toList] at h2
  rw [Nat.zero_add, blk_cell hb, h2]
/-- A literal is a slice of one's own. -/
theorem sl_lit {w : World} {base g t : Nat} {cs : Array Value} {l : List α} {n c : Nat} (hf : ∀ x, (f x).length = sz) (hbs : base ≤ g) (hb : w.heap[g]? = some (.cells cs t (0, 0))) (hcs : cs.toList = l.flatMap f) (hn : n = l.length) (hc : c = l.length) (hm : l.length ≤ maxLen) : Sl w base t sz f (.slice (some ⟨g, 0, none⟩) n c) l := by
  subst hn hc
  refine ⟨flat_len hf l, .inr ⟨g, 0, _, cs, rfl, hbs, hb, Nat.le_refl _, hm, ?_, ?_⟩⟩
  · rw [← Array.length_toList, hcs, flat_len hf]; omega
  · rw [List.drop_zero, hcs, ← flat_len hf l, List.take_length]
theorem arg_take {W : World} {A : Option Addr} {l : List α} (h : Arg W A sz f l) (k : Nat) : Arg W A sz f (l.take k) := by
  rcases h with rfl | ⟨b, off, h1, h2, h3⟩
  · exact .inl (by simp)
  · refine .inr ⟨b, off, h1, h2, fun i hi j hj => ?_⟩
    have hi2 : i < l.length := by simp at hi; omega
    rw [h3 i hi2 j hj, List.getElem_take]
/-- s[k:] -/
theorem arg_drop {W : World} {A : Option Addr} {l : List α} (h : Arg W A sz f l) (k c : Nat) (hc : l.length ≤ c) (hk : k ≤ l.length) : Arg W (if c = k then A else A.map (·.add (k * sz))) sz f (l.drop k) := by
  rcases h with rfl | ⟨b, off, rfl, h2, h3⟩
  · exact .inl (by simp)
  · by_cases e : c = k
    · exact .inl (List.drop_eq_nil_of_le (by omega))
    · rw [if_neg e, Option.map_some, Addr.add_lit]
      refine .inr ⟨b, off + k * sz, rfl, h2, fun i hi j hj => ?_⟩
      have hi2 : k + i < l.length := by simp at hi; omega
      rw [List.getElem_drop, ← h3 (k + i) hi2 j hj, Nat.add_mul]
      congr 2
      omega

variable {ops : Array Oper} {rest : List Oper} {o : Oper} {a : Act} {Q' : Exit → Act → World → Prop}
/-- append(s, xs...), whatever xs is. -/
theorem wp_app (base : Nat) (hgd : o.guard = none) (s x : Operand) {t tx e : TypeId} {z : Value} {bytes : Nat} (E : Elem P t e z sz bytes f) (ho : o.op = .call { callee := .builtin .append, args := #[s, x], argTypes := #[t, tx] })
    {W : World} (v : Value) (l l2 : List α) (xv : Value) (hs : a.eval s = v) (hx : a.eval x = xv) (hsrc : Src P sz tx xv l2.length (l2.flatMap f) W) (HS : Sl W base e sz f v l) (hbase : base ≤ W.heap.size) (hl : (l.length + l2.length) * bytes ≤ 140737488355328) (hl2 : l.length + l2.length ≤ maxLen)
    (h : ∀ A1 c1 w1, Sl w1 base e sz f (.slice A1 (l.length + l2.length) c1) (l ++ l2) → W.grownBy w1 v.ownBlock → ((Value.slice A1 (l.length + l2.length) c1).ownBlock = v.ownBlock ∨ ∃ b, (Value.slice A1 (l.length + l2.length) c1).ownBlock = some b ∧ W.heap.size ≤ b) → wpList P ops Q' rest (a.put o.dst (.slice A1 (l.length + l2.length) c1)) w1) :
    wpList P ops Q' (o :: rest) a W := by
  obtain ⟨A1, c1, w1, hr, h2, h3, h4⟩ := run_app (P := P) (ty := o.type) E HS hsrc hl hl2 hbase
  refine wpList_plain hgd fun K hK => ?_
  unfold Oper.wp execOp
  simp only [ho, resolve, invoke, builtin, Sem.run_bind, Sem.run_pure, Result.andThen_ok, List.map_toArray, List.map_cons, List.map_nil, hs, hx, hr]
  exact hK _ _ (h A1 c1 w1 h2 h3 h4)
theorem step_app {Ee : Prop} {Kc : Act → World → Prop} (base : Nat) (hgd : o.guard = none) (s x : Operand) {t tx e : TypeId} {z : Value} {bytes : Nat} (E : Elem P t e z sz bytes f) (ho : o.op = .call { callee := .builtin .append, args := #[s, x], argTypes := #[t, tx] })
    {W : World} (v : Value) (l l2 : List α) (xv : Value) (hs : a.eval s = v) (hx : a.eval x = xv) (hsrc : Src P sz tx xv l2.length (l2.flatMap f) W) (HS : Sl W base e sz f v l) (hbase : base ≤ W.heap.size) (hl : (l.length + l2.length) * bytes ≤ 140737488355328) (hl2 : l.length + l2.length ≤ maxLen)
    (h : ∀ A1 c1 w1, Sl w1 base e sz f (.slice A1 (l.length + l2.length) c1) (l ++ l2) → W.grownBy w1 v.ownBlock → ((Value.slice A1 (l.length + l2.length) c1).ownBlock = v.ownBlock ∨ ∃ b, (Value.slice A1 (l.length + l2.length) c1).ownBlock = some b ∧ W.heap.size ≤ b) → Kc (a.put o.dst (.slice A1 (l.length + l2.length) c1)) w1) :
    if Region.wanted o (yielded ops a.tmps) = true then Oper.wp P o a W Kc Q' else Ee := by
  obtain ⟨A1, c1, w1, hr, h2, h3, h4⟩ := run_app (P := P) (ty := o.type) E HS hsrc hl hl2 hbase
  rw [if_pos (by simp [Region.wanted, hgd])]
  unfold Oper.wp execOp
  simp only [ho, resolve, invoke, builtin, Sem.run_bind, Sem.run_pure, Result.andThen_ok, List.map_toArray, List.map_cons, List.map_nil, hs, hx, hr]
  exact h A1 c1 w1 h2 h3 h4
/-- append(s, x): one element, which 'buildSlice' has just laid. -/
theorem wp_app1 (base : Nat) (hgd : o.guard = none) (s x : Operand) {t e : TypeId} {z : Value} {bytes : Nat} (E : Elem P t e z sz bytes f) (ho : o.op = .call { callee := .builtin .append, args := #[s, x], argTypes := #[t, t] })
    (W : World) (p : α) {W2 : World} (hW : W2 = W.alloc (.cells (f p).toArray e)) (v : Value) (l : List α) (hs : a.eval s = v) (hx : a.eval x = .slice (some ⟨W.heap.size, 0, none⟩) 1 1) (HS : Sl W base e sz f v l) (hbase : base ≤ W.heap.size) (hl : (l.length + 1) * bytes ≤ 140737488355328) (hl2 : l.length + 1 ≤ maxLen)
    (h : ∀ A1 c1 w1, Sl w1 base e sz f (.slice A1 (l.length + 1) c1) (l ++ [p]) → W.grownBy w1 v.ownBlock → ((Value.slice A1 (l.length + 1) c1).ownBlock = v.ownBlock ∨ ∃ b, (Value.slice A1 (l.length + 1) c1).ownBlock = some b ∧ W.heap.size ≤ b) → wpList P ops Q' rest (a.put o.dst (.slice A1 (l.length + 1) c1)) w1) :
    wpList P ops Q' (o :: rest) a W2 := by
  subst hW
  exact wp_app base hgd s x E ho v l [p] _ hs hx (Src.ofArg ⟨_, E.ht⟩ E.len E.one (Arg.fresh E.len W p e) 1) (HS.alloc _) (by simp; omega) hl hl2
    (fun A1 c1 w1 h2 h3 h4 => h A1 c1 w1 h2 ⟨h3.os, h3.tape, h3.output, by have := h3.size; simp at this; omega, fun k hk hn => (h3.block k (by simp; omega) hn).trans (Below.heap_alloc _ _ _ hk)⟩ (h4.imp id (fun ⟨b, hb, hb2⟩ => ⟨b, hb, by simp at hb2; omega⟩)))
theorem step_app1 {Ee : Prop} {Kc : Act → World → Prop} (base : Nat) (hgd : o.guard = none) (s x : Operand) {t e : TypeId} {z : Value} {bytes : Nat} (E : Elem P t e z sz bytes f) (ho : o.op = .call { callee := .builtin .append, args := #[s, x], argTypes := #[t, t] })
    (W : World) (p : α) {W2 : World} (hW : W2 = W.alloc (.cells (f p).toArray e)) (v : Value) (l : List α) (hs : a.eval s = v) (hx : a.eval x = .slice (some ⟨W.heap.size, 0, none⟩) 1 1) (HS : Sl W base e sz f v l) (hbase : base ≤ W.heap.size) (hl : (l.length + 1) * bytes ≤ 140737488355328) (hl2 : l.length + 1 ≤ maxLen)
    (h : ∀ A1 c1 w1, Sl w1 base e sz f (.slice A1 (l.length + 1) c1) (l ++ [p]) → W.grownBy w1 v.ownBlock → ((Value.slice A1 (l.length + 1) c1).ownBlock = v.ownBlock ∨ ∃ b, (Value.slice A1 (l.length + 1) c1).ownBlock = some b ∧ W.heap.size ≤ b) → Kc (a.put o.dst (.slice A1 (l.length + 1) c1)) w1) :
    if Region.wanted o (yielded ops a.tmps) = true then Oper.wp P o a W2 Kc Q' else Ee := by
  subst hW
  exact step_app base hgd s x E ho v l [p] _ hs hx (Src.ofArg ⟨_, E.ht⟩ E.len E.one (Arg.fresh E.len W p e) 1) (HS.alloc _) (by simp; omega) hl hl2
    (fun A1 c1 w1 h2 h3 h4 => h A1 c1 w1 h2 ⟨h3.os, h3.tape, h3.output, by have := h3.size; simp at this; omega, fun k hk hn => (h3.block k (by simp; omega) hn).trans (Below.heap_alloc _ _ _ hk)⟩ (h4.imp id (fun ⟨b, hb, hb2⟩ => ⟨b, hb, by simp at hb2; omega⟩)))
end
end
end Go.Proofs.YtjkojhebgkgdaaaDoor.Base
