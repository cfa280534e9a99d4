/-
  Slices of one's own: what a slice holds, element by element; how it is read, appended to, cut. Conditions: each lemma's own.
-/
import Derived.Test.YtobhpfbldmobfaaBridge
namespace Go.Proofs.Ytobhpfbldmobfaa.Base
open Go.RowKit Go.Proofs.YtobhpfbldmobfaaW.PrintWords
set_option linter.unusedVariables false
section
variable {α : Type} {sz : Nat} {f : α → List Value}
theorem flat_len (hf : ∀ x, (f x).length = sz) (l : List α) : (l.flatMap f).length = l.length * sz := by
  induction l with
  | nil => simp
  | cons x l ih => simp [List.flatMap_cons, hf, ih, Nat.succ_mul, Nat.add_comm]
theorem flat_get (hf : ∀ x, (f x).length = sz) (l : List α) : ∀ (i r : Nat) (hi : i < l.length), r < sz → (l.flatMap f)[i * sz + r]? = (f l[i])[r]? := by
  induction l with
  | nil => intro i r hi; simp at hi
  | cons x l ih =>
    intro i r hi hr
    rw [List.flatMap_cons]
    cases i with
    | zero => rw [List.getElem?_append_left (by rw [hf]; omega)]; simp
    | succ i =>
      rw [List.getElem?_append_right (by rw [hf, Nat.succ_mul]; omega), hf]
      simp only [List.length_cons] at hi
      have := ih i r (by omega) hr
      rw [show (i + 1) * sz + r - sz = i * sz + r by rw [Nat.succ_mul]; omega, this]
      rfl
theorem flat_ext (hf : ∀ x, (f x).length = sz) (hpos : 0 < sz) (l : List α) {j : Nat} {u : Value} (h : (l.flatMap f)[j]? = some u) : ∃ i r, ∃ hi : i < l.length, r < sz ∧ j = i * sz + r ∧ (f l[i])[r]? = some u := by
  have hj : j < l.length * sz := by rw [← flat_len hf]; exact (List.getElem?_eq_some_iff.1 h).1
  have hi : j / sz < l.length := (Nat.div_lt_iff_lt_mul hpos).2 hj
  have hr : j % sz < sz := Nat.mod_lt _ hpos
  have e : j = j / sz * sz + j % sz := by rw [Nat.mul_comm]; exact (Nat.div_add_mod j sz).symm
  refine ⟨j / sz, j % sz, hi, hr, e, ?_⟩
  rw [← flat_get hf l _ _ hi hr, ← e]
  exact h

/-- What a slice holds. -/
def Sl (w : World) (base : Nat) (e sz : Nat) (f : α → List Value) (v : Value) (l : List α) : Prop := QRow w base e sz v l.length (l.flatMap f)

section
variable {w w1 : World} {base e : Nat} {v : Value} {l : List α}
theorem Sl.nil (w : World) (base e sz : Nat) (f : α → List Value) : Sl w base e sz f (.slice none 0 0) [] :=
  ⟨by simp, .inl ⟨rfl, none, rfl, fun a h => by cases h⟩⟩
/-- T{}: a literal of no elements. -/
theorem Sl.zero (w : World) (base e sz : Nat) (f : α → List Value) (cs : Array Value) (hb : base ≤ w.heap.size) : Sl (w.alloc (.cells cs e)) base e sz f (.slice (some ⟨w.heap.size, 0, none⟩) 0 0) [] :=
  ⟨by simp, .inl ⟨rfl, _, rfl, fun a h => by injection h with h; subst h; exact ⟨hb, cs, blk_new _ _⟩⟩⟩
theorem Sl.form (h : Sl w base e sz f v l) : ∃ A c, v = .slice A l.length c ∧ l.length ≤ c := q_slice h
theorem Sl.max (h : Sl w base e sz f v l) : l.length ≤ 9223372036854775807 := q_max h
theorem Sl.typed (h : Sl w base e sz f v l) (k : Nat) (hk : v.ownBlock = some k) : base ≤ k ∧ ∃ cells, w.heap[k]? = some (.cells cells e (0, 0)) := q_typed h k hk
theorem Sl.lt (h : Sl w base e sz f v l) (k : Nat) (hk : v.ownBlock = some k) : k < w.heap.size := q_lt h k hk
theorem Sl.lower {base' : Nat} (h : Sl w base e sz f v l) (hb : base' ≤ base) : Sl w base' e sz f v l := q_lower h hb
/-- Its block is none of another type's. -/
theorem Sl.ne (h : Sl w base e sz f v l) {b t : Nat} {cs : Array Value} {fr : Nat × Nat} (hb : w.heap[b]? = some (.cells cs t fr)) (hne : e ≠ t) (k : Nat) (hk : v.ownBlock = some k) : k ≠ b := by
  rintro rfl
  obtain ⟨_, cells, hc⟩ := h.typed k hk
  rw [hc] at hb
  injection hb with hb
  injection hb with _ hb
  exact hne hb
theorem Sl.move (h : Sl w base e sz f v l) (hm : ∀ k, v.ownBlock = some k → w1.heap[k]? = w.heap[k]?) : Sl w1 base e sz f v l := q_move h hm
theorem Sl.upd (h : Sl w base e sz f v l) {S : Nat → Prop} (u : Upd S w w1) (hn : ∀ k, v.ownBlock = some k → ¬ S k) : Sl w1 base e sz f v l :=
  h.move (fun k hk => u.block k (h.lt k hk) (hn k hk))
theorem Sl.grown (h : Sl w base e sz f v l) {row : Option Nat} (g : w.grownBy w1 row) (hn : ∀ k, v.ownBlock = some k → some k ≠ row) : Sl w1 base e sz f v l :=
  h.move (fun k hk => g.block k (h.lt k hk) (hn k hk))
theorem Sl.cells {A : Option Addr} {n c : Nat} (hf : ∀ x, (f x).length = sz) (hpos : 0 < sz) (h : Sl w base e sz f (.slice A n c) l) : Arg w A sz f l := by
  obtain ⟨A', c', he, _⟩ := h.form
  injection he with e1 e2 e3
  subst e1 e2 e3
  by_cases hz : l = []
  · exact .inl hz
  · have h0 : 0 < l.length := List.length_pos_iff.2 hz
    obtain ⟨ad, rfl, hc⟩ := q_cells h h0
    have key : ∀ i (hi : i < l.length) j, j < sz → w.cell? (ad.add (i * sz + j)) = (f l[i])[j]? := by
      intro i hi j hj
      rw [List.getElem?_eq_getElem (by rw [hf]; exact hj)]
      refine hc _ _ ?_
      rw [flat_get hf l i j hi hj, List.getElem?_eq_getElem (by rw [hf]; exact hj)]
    have hv : ∃ u, w.cell? ad = some u := by
      have := key 0 h0 0 hpos
      simp only [Nat.zero_mul, Addr.add, if_true, Nat.add_zero] at this
      rw [List.getElem?_eq_getElem (by rw [hf]; exact hpos)] at this
      exact ⟨_, this⟩
    obtain ⟨u, hu⟩ := hv
    obtain ⟨b, off, spot⟩ := ad
    obtain rfl : spot = none := spot_none hu
    refine .inr ⟨b, off, rfl, block_lt hu, fun i hi j hj => ?_⟩
    have := key i hi j hj
    rw [← this]
    congr 1
    unfold Addr.add
    by_cases e1 : i * sz + j = 0
    · rw [if_pos e1]; simp
    · rw [if_neg e1]; simp [Nat.add_assoc]
/-- Its block, where it has one that is written. -/
theorem Sl.drop {A : Option Addr} {n c k : Nat} (hf : ∀ x, (f x).length = sz) (h : Sl w base e sz f (.slice A n c) l) (hk : k ≤ l.length) : Sl w base e sz f (.slice (if c = k then A else A.map (·.add (k * sz))) (l.length - k) (c - k)) (l.drop k) := by
  obtain ⟨A', c', he, _⟩ := h.form
  injection he with e1 e2 e3
  subst e1 e2 e3
  have := q_drop h hk
  unfold Sl
  have e : (l.drop k).flatMap f = (l.flatMap f).drop (k * sz) := by
    have : l.flatMap f = (l.take k).flatMap f ++ (l.drop k).flatMap f := by rw [← List.flatMap_append, List.take_append_drop]
    rw [this, List.drop_left' (by rw [flat_len hf, List.length_take, Nat.min_eq_left hk])]
  rw [List.length_drop, e]
  exact this
theorem Sl.take {A : Option Addr} {n c k : Nat} (hf : ∀ x, (f x).length = sz) (h : Sl w base e sz f (.slice A n c) l) (hk : k ≤ l.length) : Sl w base e sz f (.slice A k c) (l.take k) := by
  obtain ⟨A', c', he, _⟩ := h.form
  injection he with e1 e2 e3
  subst e1 e2 e3
  have := q_take h hk
  unfold Sl
  have e : (l.take k).flatMap f = (l.flatMap f).take (k * sz) := by
    have : l.flatMap f = (l.take k).flatMap f ++ (l.drop k).flatMap f := by rw [← List.flatMap_append, List.take_append_drop]
    rw [this, List.take_left' (by rw [flat_len hf, List.length_take, Nat.min_eq_left hk])]
  rw [List.length_take, Nat.min_eq_left hk, e]
  exact this
end

/-! ### append -/
section
variable {P : Program}
theorem Arg.news {w : World} {a : Addr} {l : List α} (hf : ∀ x, (f x).length = sz) (hpos : 0 < sz) (h : Arg w (some a) sz f l) : ∀ j u, (l.flatMap f)[j]? = some u → w.cell? (a.add j) = some u := by
  intro j u hu
  obtain ⟨i, r, hi, hr, rfl, hfu⟩ := flat_ext hf hpos l hu
  rcases h with h | ⟨b, off, h1, h2, h3⟩
  · subst h; simp at hi
  · injection h1 with h1
    subst h1
    have := h3 i hi r hr
    rw [hfu] at this
    rw [← this]
    congr 1
    unfold Addr.add
    by_cases e1 : i * sz + r = 0
    · rw [if_pos e1]; simp
    · rw [if_neg e1]; simp [Nat.add_assoc]

/-- append(s, xs..): what it is run to. -/
theorem run_sl_append (w : World) (base : Nat) (t ty e : TypeId) (z : Value) (bytes : Nat) (ht : P.underlying t = some (.slice e)) (hinfo : (P.info? e).map (fun i => (i.zero, i.size, i.bytes)) = some (some z, sz, bytes))
    (hz : z.cells.size = sz) (hpos : 0 < sz) (hf : ∀ x, (f x).length = sz) (h1 : ∀ x, ∀ u ∈ f x, u.oneCell' = true)
    (v : Value) (l : List α) (HS : Sl w base e sz f v l) (A : Addr) (m c : Nat) (l2 : List α) (hm : l2.length = m) (hm0 : 0 < m) (hA : Arg w (some A) sz f l2)
    (h63 : l.length + m ≤ maxLen) (hbytes : (l.length + m) * bytes ≤ 140737488355328) (hbase : base ≤ w.heap.size) :
    ∃ v' w', (Builtin.append_ #[t, t] ty #[v, .slice (some A) m c]).run P w = .ok v' w' ∧ Sl w' base e sz f v' (l ++ l2) ∧ w.grownBy w' v.ownBlock ∧ (v'.ownBlock = v.ownBlock ∨ ∃ b, v'.ownBlock = some b ∧ w.heap.size ≤ b) := by
  obtain ⟨i, hi, hi2⟩ := Option.map_eq_some_iff.1 hinfo
  injection hi2 with e1 e2
  injection e2 with e2 e3
  subst hm
  obtain ⟨v', w', h2, h3, h4, h5⟩ := q_append (P := P) w base t ty e i z sz bytes ht hi e1 e2 e3 hz hpos v l.length _ HS A l2.length c (l2.flatMap f) (flat_len hf l2) (hA.news hf hpos) (fun u hu => by
    obtain ⟨x, _, hx⟩ := List.mem_flatMap.1 hu
    exact h1 x u hx) hm0 h63 hbytes hbase
  refine ⟨v', w', h2, ?_, h4, h5⟩
  unfold Sl
  rw [List.length_append, List.flatMap_append]
  exact h3

theorem Arg.fresh (hf : ∀ x, (f x).length = sz) (w : World) (x : α) (e : Nat) : Arg (w.alloc (.cells (f x).toArray e)) (some ⟨w.heap.size, 0, none⟩) sz f [x] := by
  refine .inr ⟨_, _, rfl, by simp, fun i hi j hj => ?_⟩
  have : i = 0 := by simpa using hi
  subst this
  rw [show 0 + 0 * sz + j = j by omega, blk_cell (blk_new _ _) j]
  simp

variable {ops : Array Oper} {rest : List Oper} {o : Oper} {a : Act} {Q' : Exit → Act → World → Prop}
/-- append(s, x): one element, which 'buildSlice' has just laid. -/
theorem wp_append1 (base : Nat) (hgd : o.guard = none) (s x : Operand) (t e : TypeId) (z : Value) (bytes : Nat) (ho : o.op = .call { callee := .builtin .append, args := #[s, x], argTypes := #[t, t] })
    (ht : P.underlying t = some (.slice e)) (hinfo : (P.info? e).map (fun i => (i.zero, i.size, i.bytes)) = some (some z, sz, bytes)) (hz : z.cells.size = sz) (hpos : 0 < sz) (hf : ∀ x, (f x).length = sz) (h1 : ∀ x, ∀ u ∈ f x, u.oneCell' = true)
    (W : World) (p : α) {W2 : World} (hW : W2 = W.alloc (.cells (f p).toArray e)) (v : Value) (l : List α) (hs : a.eval s = v) (hx : a.eval x = .slice (some ⟨W.heap.size, 0, none⟩) 1 1) (HS : Sl W base e sz f v l) (hbase : base ≤ W.heap.size) (hl : (l.length + 1) * bytes ≤ 140737488355328) (hl2 : l.length + 1 ≤ maxLen)
    (h : ∀ A1 c1 w1, Sl w1 base e sz f (.slice A1 (l.length + 1) c1) (l ++ [p]) → W.grownBy w1 v.ownBlock → ((Value.slice A1 (l.length + 1) c1).ownBlock = v.ownBlock ∨ ∃ b, (Value.slice A1 (l.length + 1) c1).ownBlock = some b ∧ W.heap.size ≤ b) → wpList P ops Q' rest (a.put o.dst (.slice A1 (l.length + 1) c1)) w1) :
    wpList P ops Q' (o :: rest) a W2 := by
  subst hW
  have HS' : Sl (W.alloc (.cells (f p).toArray e)) base e sz f v l := HS.move (fun k hk => Below.heap_alloc _ _ _ (HS.lt k hk))
  obtain ⟨v1, w1, hr, h2, h3, h4⟩ := run_sl_append (P := P) _ base t o.type e z bytes ht hinfo hz hpos hf h1 v l HS' _ 1 1 [p] rfl (by omega) (Arg.fresh hf W p e) hl2 hl (by simp; omega)
  obtain ⟨A1, c1, he, _⟩ := h2.form
  rw [List.length_append, List.length_singleton] at he
  subst he
  refine wpList_plain hgd fun K hK => ?_
  unfold Oper.wp execOp
  simp only [ho, resolve, invoke, builtin, Sem.run_bind, Sem.run_pure, Result.andThen_ok, List.map_toArray, List.map_cons, List.map_nil, hs, hx, hr]
  exact hK _ _ (h A1 c1 w1 h2 ⟨h3.os, h3.tape, h3.output, by have := h3.size; simp at this; omega, fun k hk hn => (h3.block k (by simp; omega) hn).trans (Below.heap_alloc _ _ _ hk)⟩ (h4.imp id (fun ⟨b, hb, hb2⟩ => ⟨b, hb, by simp at hb2; omega⟩)))
theorem step_append1 {E : Prop} {Kc : Act → World → Prop} (base : Nat) (hgd : o.guard = none) (s x : Operand) (t e : TypeId) (z : Value) (bytes : Nat) (ho : o.op = .call { callee := .builtin .append, args := #[s, x], argTypes := #[t, t] })
    (ht : P.underlying t = some (.slice e)) (hinfo : (P.info? e).map (fun i => (i.zero, i.size, i.bytes)) = some (some z, sz, bytes)) (hz : z.cells.size = sz) (hpos : 0 < sz) (hf : ∀ x, (f x).length = sz) (h1 : ∀ x, ∀ u ∈ f x, u.oneCell' = true)
    (W : World) (p : α) {W2 : World} (hW : W2 = W.alloc (.cells (f p).toArray e)) (v : Value) (l : List α) (hs : a.eval s = v) (hx : a.eval x = .slice (some ⟨W.heap.size, 0, none⟩) 1 1) (HS : Sl W base e sz f v l) (hbase : base ≤ W.heap.size) (hl : (l.length + 1) * bytes ≤ 140737488355328) (hl2 : l.length + 1 ≤ maxLen)
    (h : ∀ A1 c1 w1, Sl w1 base e sz f (.slice A1 (l.length + 1) c1) (l ++ [p]) → W.grownBy w1 v.ownBlock → ((Value.slice A1 (l.length + 1) c1).ownBlock = v.ownBlock ∨ ∃ b, (Value.slice A1 (l.length + 1) c1).ownBlock = some b ∧ W.heap.size ≤ b) → Kc (a.put o.dst (.slice A1 (l.length + 1) c1)) w1) :
    if Region.wanted o (yielded ops a.tmps) = true then Oper.wp P o a W2 Kc Q' else E := by
  subst hW
  have HS' : Sl (W.alloc (.cells (f p).toArray e)) base e sz f v l := HS.move (fun k hk => Below.heap_alloc _ _ _ (HS.lt k hk))
  obtain ⟨v1, w1, hr, h2, h3, h4⟩ := run_sl_append (P := P) _ base t o.type e z bytes ht hinfo hz hpos hf h1 v l HS' _ 1 1 [p] rfl (by omega) (Arg.fresh hf W p e) hl2 hl (by simp; omega)
  obtain ⟨A1, c1, he, _⟩ := h2.form
  rw [List.length_append, List.length_singleton] at he
  subst he
  rw [if_pos (by simp [Region.wanted, hgd])]
  unfold Oper.wp execOp
  simp only [ho, resolve, invoke, builtin, Sem.run_bind, Sem.run_pure, Result.andThen_ok, List.map_toArray, List.map_cons, List.map_nil, hs, hx, hr]
  exact (h A1 c1 w1 h2 ⟨h3.os, h3.tape, h3.output, by have := h3.size; simp at this; omega, fun k hk hn => (h3.block k (by simp; omega) hn).trans (Below.heap_alloc _ _ _ hk)⟩ (h4.imp id (fun ⟨b, hb, hb2⟩ => ⟨b, hb, by simp at hb2; omega⟩)))
/-- append(s, xs...). -/
theorem wp_append (base : Nat) (hgd : o.guard = none) (s x : Operand) (t e : TypeId) (z : Value) (bytes : Nat) (ho : o.op = .call { callee := .builtin .append, args := #[s, x], argTypes := #[t, t] })
    (ht : P.underlying t = some (.slice e)) (hinfo : (P.info? e).map (fun i => (i.zero, i.size, i.bytes)) = some (some z, sz, bytes)) (hz : z.cells.size = sz) (hpos : 0 < sz) (hf : ∀ x, (f x).length = sz) (h1 : ∀ x, ∀ u ∈ f x, u.oneCell' = true)
    {W : World} (v : Value) (l l2 : List α) (A : Addr) (c : Nat) (hs : a.eval s = v) (hx : a.eval x = .slice (some A) l2.length c) (hm0 : 0 < l2.length) (hA : Arg W (some A) sz f l2) (HS : Sl W base e sz f v l) (hbase : base ≤ W.heap.size) (hl : (l.length + l2.length) * bytes ≤ 140737488355328) (hl2 : l.length + l2.length ≤ maxLen)
    (h : ∀ A1 c1 w1, Sl w1 base e sz f (.slice A1 (l.length + l2.length) c1) (l ++ l2) → W.grownBy w1 v.ownBlock → ((Value.slice A1 (l.length + l2.length) c1).ownBlock = v.ownBlock ∨ ∃ b, (Value.slice A1 (l.length + l2.length) c1).ownBlock = some b ∧ W.heap.size ≤ b) → wpList P ops Q' rest (a.put o.dst (.slice A1 (l.length + l2.length) c1)) w1) :
    wpList P ops Q' (o :: rest) a W := by
  obtain ⟨v1, w1, hr, h2, h3, h4⟩ := run_sl_append (P := P) _ base t o.type e z bytes ht hinfo hz hpos hf h1 v l HS A _ c l2 rfl hm0 hA hl2 hl hbase
  obtain ⟨A1, c1, he, _⟩ := h2.form
  rw [List.length_append] at he
  subst he
  refine wpList_plain hgd fun K hK => ?_
  unfold Oper.wp execOp
  simp only [ho, resolve, invoke, builtin, Sem.run_bind, Sem.run_pure, Result.andThen_ok, List.map_toArray, List.map_cons, List.map_nil, hs, hx, hr]
  exact hK _ _ (h A1 c1 w1 h2 h3 h4)
end
/-- append(s, xs...) of no elements: s itself. -/
theorem wp_append0 {P : Program} {ops : Array Oper} {rest : List Oper} {o : Oper} {a : Act} {Q' : Exit → Act → World → Prop} (hgd : o.guard = none) (s x : Operand) (t e : TypeId) (ho : o.op = .call { callee := .builtin .append, args := #[s, x], argTypes := #[t, t] })
    (ht : P.underlying t = some (.slice e)) {i : TypeInfo} (hi : P.info? e = some i) {W : World} (A B : Option Addr) (n c d : Nat) (hs : a.eval s = .slice A n c) (hx : a.eval x = .slice B 0 d) (hc : n ≤ c)
    (h : wpList P ops Q' rest (a.put o.dst (.slice A n c)) W) : wpList P ops Q' (o :: rest) a W := by
  refine wpList_plain hgd fun K hK => ?_
  unfold Oper.wp execOp
  simp only [ho, resolve, invoke, builtin, Sem.run_bind, Sem.run_pure, Result.andThen_ok, List.map_toArray, List.map_cons, List.map_nil, hs, hx]
  have hr : (Builtin.append_ #[t, t] o.type #[.slice A n c, .slice B 0 d]).run P W = .ok (.slice A n c) W := by
    cases A <;> cases B <;> simp [Builtin.append_, run_underlying ht, sizeOf, typeInfo, hi, Builtin.lenOf, Builtin.firstCells, hc, Result.andThen, loadCells, loadCellsFrom, storeCells]
  rw [hr]
  exact hK _ _ h
/-- clear(s): what it was is forgotten; cut to nothing it holds nothing. -/
theorem run_clear {P : Program} (w : World) (t ty e : TypeId) (z : Value) (ht : P.underlying t = some (.slice e)) (hv : ∀ w, (zeroValue e).run P w = .ok z w) (hz : z.cells.size = sz) (h1 : ∀ u ∈ z.cells, u.oneCell' = true)
    {base : Nat} {v : Value} {l : List α} (HS : Sl w base e sz f v l) :
    ∃ w1, (Builtin.clear_ #[t] ty #[v]).run P w = .ok (.tuple #[]) w1 ∧ w.grownBy w1 v.ownBlock ∧ ∀ A n c, v = .slice A n c → Sl w1 base e sz f (.slice A 0 c) [] := by
  have same : w.grownBy w v.ownBlock := ⟨rfl, rfl, rfl, Nat.le_refl _, fun _ _ _ => rfl⟩
  have cut : ∀ A n c, v = .slice A n c → Sl w base e sz f (.slice A 0 c) [] := fun A n c he => by
    subst he
    obtain ⟨A', c', he, _⟩ := HS.form
    injection he with e1 e2 e3
    subst e1 e2 e3
    unfold Sl
    have := q_take HS (Nat.zero_le l.length)
    simpa using this
  rcases HS.2 with ⟨h0, A, rfl, hA⟩ | ⟨g, off, cap, cur, rfl, hb, hg, hnc, hm, hs, htk⟩
  · refine ⟨w, ?_, same, cut⟩
    cases A <;> simp [Builtin.clear_, run_underlying ht, Result.andThen]
  · by_cases hn : l.length = 0
    · refine ⟨w, ?_, same, cut⟩
      rw [hn]
      simp [Builtin.clear_, run_underlying ht, Result.andThen]
    · obtain ⟨m, hm1⟩ : ∃ m, l.length = m + 1 := ⟨l.length - 1, by omega⟩
      have hzl : (Builtin.zeroCells z.cells l.length).toList.length = l.length * sz := by rw [Array.length_toList, size_zeroCells, hz]
      have hz1 : ∀ u ∈ (Builtin.zeroCells z.cells l.length).toList, u.oneCell' = true := by
        intro u hu
        simp only [Builtin.zeroCells, Array.toList_map, List.mem_map] at hu
        obtain ⟨j, hj, rfl⟩ := hu
        have hsz : 0 < z.cells.size := by
          rw [Array.mem_toList_iff, Array.mem_range] at hj
          exact Nat.pos_of_ne_zero (fun e => by rw [e] at hj; simp at hj)
        rw [getElem!_pos z.cells (j % z.cells.size) (Nat.mod_lt _ hsz)]
        exact h1 _ (Array.getElem_mem _)
      have hfit : off * sz + l.length * sz ≤ cur.size := by rw [hs, ← Nat.add_mul]; exact Nat.mul_le_mul_right _ (by omega)
      have hst := run_storeCells_cells (P := P) g (off * sz) (Builtin.zeroCells z.cells l.length).toList 0 w
        (fun j hj => by rw [blk_cell hg]; simp; omega) (fun j hj => blk_frozen hg _) hz1
      simp only [Nat.add_zero] at hst
      obtain ⟨cur', k1, k2, _⟩ := setCells_row (Builtin.zeroCells z.cells l.length).toList (off * sz) w cur hg (by omega)
      obtain ⟨s1, s2, s3, s4⟩ := setCells_same g (Builtin.zeroCells z.cells l.length).toList (off * sz) w
      refine ⟨_, ?_, ⟨s1, s2, s3, by rw [s4]; exact Nat.le_refl _, fun k _ hk => setCells_far _ _ k (fun he => hk (by rw [he]; rfl))⟩, fun A n c he => ?_⟩
      · rw [hm1] at hst ⊢
        simp [Builtin.clear_, run_underlying ht, hv, hst]
      · injection he with e1 e2 e3
        subst e1 e2 e3
        exact ⟨by simp, .inr ⟨g, off, cap, cur', by simp, hb, k1, Nat.zero_le _, hm, by rw [k2, hs], by simp⟩⟩
theorem wp_clear {P : Program} {ops : Array Oper} {rest : List Oper} {o : Oper} {a : Act} {Q' : Exit → Act → World → Prop} (hgd : o.guard = none) (x : Operand) (t e : TypeId) (z : Value) (ho : o.op = .call { callee := .builtin .clear, args := #[x], argTypes := #[t] })
    (ht : P.underlying t = some (.slice e)) (hzv : ∀ w, (zeroValue e).run P w = .ok z w) (hz : z.cells.size = sz) (h1 : ∀ u ∈ z.cells, u.oneCell' = true) {W : World} {base : Nat} (v : Value) (l : List α) (hx : a.eval x = v) (HS : Sl W base e sz f v l)
    (h : ∀ w1, W.grownBy w1 v.ownBlock → (∀ A n c, v = .slice A n c → Sl w1 base e sz f (.slice A 0 c) []) → wpList P ops Q' rest (a.put o.dst (.tuple #[])) w1) : wpList P ops Q' (o :: rest) a W := by
  obtain ⟨w1, hr, h2, h3⟩ := run_clear (P := P) W t o.type e z ht hzv hz h1 HS
  refine wpList_plain hgd fun K hK => ?_
  unfold Oper.wp execOp
  simp only [ho, resolve, invoke, builtin, Sem.run_bind, Sem.run_pure, Result.andThen_ok, List.map_toArray, List.map_cons, List.map_nil, hx, hr]
  exact hK _ _ (h w1 h2 h3)
theorem Upd.grown {S : Nat → Prop} {a w w' : World} {row : Option Nat} (h : Upd S a w) (g : w.grownBy w' row) (hr : ∀ k, row = some k → S k ∨ a.heap.size ≤ k) : Upd S a w' :=
  ⟨g.os.trans h.os, g.output.trans h.output, Nat.le_trans h.size g.size, fun k hk hn => (g.block k (Nat.lt_of_lt_of_le hk h.size) (fun e => (hr k e.symm).elim hn (fun h2 => absurd h2 (by omega)))).trans (h.block k hk hn)⟩
theorem blk_grown {w w' : World} {b : Nat} {o : Obj} {row : Option Nat} (h : w.heap[b]? = some o) (g : w.grownBy w' row) (hn : ∀ k, row = some k → k ≠ b) : w'.heap[b]? = some o := (g.block b (blk_lt h) (fun e => hn b e.symm rfl)).trans h
end
end Go.Proofs.Ytobhpfbldmobfaa.Base
