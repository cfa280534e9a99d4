/-
  How arguments of type []Move are read. Conditions: none.
-/
import Derived.Test.YthppheklnplljaaDeltaH
import Derived.Test.YthppheklnplljaaAgg
import Derived.Test.YthppheklnplljaaRead
import Derived.Test.YthppheklnplljaaSize
import Derived.KernelRfl
import Derived.ProofKit
namespace Go.Proofs.Ythppheklnplljaa.DeltaO
open Go.RowKit Go.Proofs.Ythppheklnplljaa.Base Go.Proofs.Ythppheklnplljaa.Delta
/-- A move's numbers are words. -/
def Wm (m : Mv) : Prop := (Lit.int .i64 m.place).wf = true ∧ (Lit.int .i64 m.block).wf = true ∧ (Lit.int .i64 m.page).wf = true
theorem cells_move : Try.prog.cellsOf 45 = 4 := by kernel_rfl
theorem leaves_move : leaves Try.prog 8 45 = some [3, 3, 3, 4] := by kernel_rfl
theorem move_open {H : Type} {enc : TypeId × Value → H} {w : World} (n : Nat) (cs : List Value) (x : DataW H × List MemPlace) (h : DataW.trod enc Try.prog w 0 (fun _ => true) true n 45 cs = some x) :
    ∃ y : Mv, Wm y ∧ cs = mvC y := by
  obtain ⟨v0, _, rfl, h0, v1, _, rfl, h1, v2, _, rfl, h2, v3, _, rfl, h3, rfl⟩ := leaves_ok 8 45 _ n cs x leaves_move h
  obtain ⟨a0, rfl, k0⟩ := h0.int Try.underlying3
  obtain ⟨a1, rfl, k1⟩ := h1.int Try.underlying3
  obtain ⟨a2, rfl, k2⟩ := h2.int Try.underlying3
  obtain ⟨b, rfl⟩ := h3.bool Try.underlying4
  exact ⟨⟨a0, a1, a2, b⟩, ⟨k0, k1, k2⟩, rfl⟩
end Go.Proofs.Ythppheklnplljaa.DeltaO
