/-
  How an argument of type []Act is read: a row of acts. Conditions: none.
-/
import Derived.Test.YtobhpfbldmobfaaQueueP
import Derived.Test.YtobhpfbldmobfaaRead
import Derived.ProofKit
import Derived.OpenShut
namespace Go.Proofs.Ytobhpfbldmobfaa.QueueR
open Go.RowKit Go.Proofs.Ytobhpfbldmobfaa.Base Go.Proofs.Ytobhpfbldmobfaa.QueueP
theorem cells_act : Try.prog.cellsOf 82 = 7 := by kernel_rfl
theorem leaves_act : leaves Try.prog 8 82 = some [5, 3, 3, 9, 3, 28, 9] := by kernel_rfl
theorem act_open {H : Type} {enc : TypeId × Value → H} {w : World} (n : Nat) (cs : List Value) (x : DataW H × List MemPlace) (h : DataW.trod enc Try.prog w 0 (fun _ => true) true n 82 cs = some x) :
    ∃ y : Ac, (0 ≤ y.k ∧ y.k ≤ 255) ∧ cs = actC y := by
  obtain ⟨v0, _, rfl, h0, v1, _, rfl, h1, v2, _, rfl, h2, v3, _, rfl, h3, v4, _, rfl, h4, v5, _, rfl, h5, v6, _, rfl, h6, rfl⟩ := leaves_ok 8 82 _ n cs x leaves_act h
  obtain ⟨a0, rfl, k0⟩ := h0.int Try.underlying5
  obtain ⟨a1, rfl, _⟩ := h1.int Try.underlying3
  obtain ⟨a2, rfl, _⟩ := h2.int Try.underlying3
  obtain ⟨a3, rfl, _⟩ := h3.str Try.underlying9
  obtain ⟨a4, rfl, _⟩ := h4.int Try.underlying3
  obtain ⟨a5, rfl, _⟩ := h5.int Try.underlying28
  obtain ⟨a6, rfl, _⟩ := h6.str Try.underlying9
  exact ⟨⟨a0, ⟨a1, a2, a3⟩, ⟨a4, a5, a6⟩⟩, bounds_u8 k0, rfl⟩
end Go.Proofs.Ytobhpfbldmobfaa.QueueR
