/-
  How an argument of type []Act of tables is read. Conditions: none.
-/
import Derived.Test.YtcifkccaiekkeaaTableV
import Derived.Test.YtcifkccaiekkeaaRead
import Derived.Test.YtcifkccaiekkeaaSize
import Derived.KernelRfl
import Derived.ProofKit
namespace Go.Proofs.Ytcifkccaiekkeaa.TableO
open Go.RowKit Go.Proofs.Ytcifkccaiekkeaa.Base Go.Proofs.Ytcifkccaiekkeaa.Table
theorem cells_act : Try.prog.cellsOf 39 = 4 := by kernel_rfl
theorem leaves_act : leaves Try.prog 8 39 = some [5, 3, 3, 3] := by kernel_rfl
theorem act_open {H : Type} {enc : TypeId × Value → H} {w : World} (n : Nat) (cs : List Value) (x : DataW H × List MemPlace) (h : DataW.trod enc Try.prog w 0 (fun _ => true) true n 39 cs = some x) :
    ∃ y : Ac, y.k ≤ 255 ∧ cs = acC y := by
  obtain ⟨v0, _, rfl, h0, v1, _, rfl, h1, v2, _, rfl, h2, v3, _, rfl, h3, rfl⟩ := leaves_ok 8 39 _ n cs x leaves_act h
  obtain ⟨a0, rfl, k0⟩ := h0.int Try.underlying5
  obtain ⟨a1, rfl, _⟩ := h1.int Try.underlying3
  obtain ⟨a2, rfl, _⟩ := h2.int Try.underlying3
  obtain ⟨a3, rfl, _⟩ := h3.int Try.underlying3
  obtain ⟨b0, b1⟩ := bounds_u8 k0
  obtain ⟨k, rfl⟩ := Int.eq_ofNat_of_zero_le b0
  exact ⟨⟨k, a1, a2, a3⟩, by show k ≤ 255; omega, rfl⟩
end Go.Proofs.Ytcifkccaiekkeaa.TableO
