/-
  append in a drawn region (LexT). Conditions: each lemma's own.
-/
import Derived.Test.YtjkojhebgkgdaaaDoorLexT
import Derived.Test.YtjkojhebgkgdaaaDoorRow
namespace Go.Proofs.YtjkojhebgkgdaaaDoor.Base
open Go.RowKit
/-- Blocks that are new, from n on. -/
def From (n : Nat) : Nat → Prop := fun x => n ≤ x
/-- .. and this one. -/
def OrFrom (b n : Nat) : Nat → Prop := fun x => x = b ∨ n ≤ x
section
variable {P : Program} {ops : Array Oper} {Q : Exit → Act → World → Prop} {U V : World → World → Prop} {α : Type} {f : α → List Value} {sz : Nat}
theorem lexT_app {s : Bool} {rest : List (Bool × Oper)} {a : Act} {o : Oper} (base : Nat) (sl x : Operand) {t tx e : TypeId} {z : Value} {bytes : Nat} (E : Elem P t e z sz bytes f) (ho : o.op = .call { callee := .builtin .append, args := #[sl, x], argTypes := #[t, tx] })
    (hp : pureKind o = false) (hb : big o = false) (hw : Region.wanted o (yielded ops a.tmps) = true)
    {W : World} (v : Value) (l l2 : List α) (xv : Value) (hs : a.eval sl = v) (hx : a.eval x = xv) (hsrc : Src P sz tx xv l2.length (l2.flatMap f) W) (HS : Sl W base e sz f v l) (hbase : base ≤ W.heap.size) (hl : (l.length + l2.length) * bytes ≤ 140737488355328) (hl2 : l.length + l2.length ≤ maxLen)
    (h : ∀ A1 c1 w1, Sl w1 base e sz f (.slice A1 (l.length + l2.length) c1) (l ++ l2) → W.grownBy w1 v.ownBlock → ((Value.slice A1 (l.length + l2.length) c1).ownBlock = v.ownBlock ∨ ∃ b, (Value.slice A1 (l.length + l2.length) c1).ownBlock = some b ∧ W.heap.size ≤ b) → V W w1 ∧ wpLexT P ops U V Q rest (a.put o.dst (.slice A1 (l.length + l2.length) c1)) w1) :
    wpLexT P ops U V Q ((s, o) :: rest) a W := by
  obtain ⟨A1, c1, w1, hr, h2, h3, h4⟩ := run_app (P := P) (ty := o.type) E HS hsrc hl hl2 hbase
  obtain ⟨k1, k2⟩ := h A1 c1 w1 h2 h3 h4
  refine lexT_run hp hb hw ?_ k1 k2
  unfold execOp
  simp only [ho, resolve, invoke, builtin, Sem.run_bind, Sem.run_pure, Result.andThen_ok, List.map_toArray, List.map_cons, List.map_nil, hs, hx, hr]
end
end Go.Proofs.YtjkojhebgkgdaaaDoor.Base
