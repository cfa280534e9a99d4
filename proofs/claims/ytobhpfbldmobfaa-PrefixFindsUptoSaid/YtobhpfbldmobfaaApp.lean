/-
  append(s, xs...) to a slice of one's own, whatever xs holds, nothing too. Conditions: the bytes fit.
-/
import Derived.Test.YtobhpfbldmobfaaSl
namespace Go.Proofs.Ytobhpfbldmobfaa.Base
open Go.RowKit Go.Proofs.YtobhpfbldmobfaaW.PrintWords
set_option linter.unusedVariables false
section
variable {α : Type} {sz : Nat} {f : α → List Value} {P : Program} {ops : Array Oper} {rest : List Oper} {o : Oper} {a : Act} {Q' : Exit → Act → World → Prop}
theorem wp_appendA (base : Nat) (hgd : o.guard = none) (s x : Operand) (t e : TypeId) (z : Value) (bytes : Nat) (ho : o.op = .call { callee := .builtin .append, args := #[s, x], argTypes := #[t, t] })
    (ht : P.underlying t = some (.slice e)) (hinfo : (P.info? e).map (fun i => (i.zero, i.size, i.bytes)) = some (some z, sz, bytes)) (hz : z.cells.size = sz) (hpos : 0 < sz) (hf : ∀ x, (f x).length = sz) (h1 : ∀ x, ∀ u ∈ f x, u.oneCell' = true)
    {W : World} (v : Value) (l l2 : List α) (A : Option Addr) (c : Nat) (hs : a.eval s = v) (hx : a.eval x = .slice A l2.length c) (hA : Arg W A sz f l2) (HS : Sl W base e sz f v l) (hbase : base ≤ W.heap.size) (hl : (l.length + l2.length) * bytes ≤ 140737488355328) (hl2 : l.length + l2.length ≤ maxLen)
    (h : ∀ A1 c1 w1, Sl w1 base e sz f (.slice A1 (l.length + l2.length) c1) (l ++ l2) → W.grownBy w1 v.ownBlock → ((Value.slice A1 (l.length + l2.length) c1).ownBlock = v.ownBlock ∨ ∃ b, (Value.slice A1 (l.length + l2.length) c1).ownBlock = some b ∧ W.heap.size ≤ b) → wpList P ops Q' rest (a.put o.dst (.slice A1 (l.length + l2.length) c1)) w1) :
    wpList P ops Q' (o :: rest) a W := by
  by_cases h0 : l2 = []
  · subst h0
    obtain ⟨A0, c0, rfl, hc0⟩ := HS.form
    obtain ⟨i, hi, _⟩ := Option.map_eq_some_iff.1 hinfo
    exact wp_append0 hgd s x t e ho ht hi A0 A l.length c0 c hs hx hc0 (h A0 c0 W (by simpa using HS) ⟨rfl, rfl, rfl, Nat.le_refl _, fun _ _ _ => rfl⟩ (.inl rfl))
  · have hpos2 : 0 < l2.length := List.length_pos_iff.2 h0
    obtain ⟨b, off, rfl, r⟩ := hA.resolve_left h0
    exact wp_append base hgd s x t e z bytes ho ht hinfo hz hpos hf h1 v l l2 ⟨b, off, none⟩ c hs hx hpos2 (.inr ⟨b, off, rfl, r⟩) HS hbase hl hl2 h
/-- A literal's elements. -/
theorem arg_lit {w : World} {g t : Nat} {cs : Array Value} {l : List α} (hf : ∀ x, (f x).length = sz) (hb : w.heap[g]? = some (.cells cs t (0, 0))) (hcs : cs.toList = l.flatMap f) : Arg w (some ⟨g, 0, none⟩) sz f l := by
  refine .inr ⟨g, 0, rfl, blk_lt hb, fun i hi j hj => ?_⟩
  have h2 := flat_get hf l i j hi hj
  rw [← hcs, Array.getElem?_toList] at h2
  rw [Nat.zero_add, blk_cell hb, h2]
end
end Go.Proofs.Ytobhpfbldmobfaa.Base
