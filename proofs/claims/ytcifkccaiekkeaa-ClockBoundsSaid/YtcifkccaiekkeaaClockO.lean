/-
  How arguments of types Geometry and []Op are read. Conditions: none.
-/
import Derived.Test.YtcifkccaiekkeaaClockD
import Derived.Test.YtcifkccaiekkeaaAgg
import Derived.Test.YtcifkccaiekkeaaRead
import Derived.Test.YtcifkccaiekkeaaSize
import Derived.KernelRfl
import Derived.ProofKit
namespace Go.Proofs.Ytcifkccaiekkeaa.ClockO
open Go.RowKit Go.Proofs.Ytcifkccaiekkeaa.Base Go.Proofs.Ytcifkccaiekkeaa.Clock
theorem cells_op : Try.prog.cellsOf 108 = 2 := by kernel_rfl
theorem leaves_op : leaves Try.prog 8 108 = some [3, 3] := by kernel_rfl
theorem op_open {H : Type} {enc : TypeId × Value → H} {w : World} (n : Nat) (cs : List Value) (x : DataW H × List MemPlace) (h : DataW.trod enc Try.prog w 0 (fun _ => true) true n 108 cs = some x) :
    ∃ y : Int × Int, True ∧ cs = opC y := by
  obtain ⟨v0, _, rfl, h0, v1, _, rfl, h1, rfl⟩ := leaves_ok 8 108 _ n cs x leaves_op h
  obtain ⟨a0, rfl, _⟩ := h0.int Try.underlying3
  obtain ⟨a1, rfl, _⟩ := h1.int Try.underlying3
  exact ⟨(a0, a1), trivial, rfl⟩
theorem leaves_g : leaves Try.prog 8 99 = some [3, 3, 3, 3] := by kernel_rfl
set_option maxRecDepth 100000 in
theorem g_open {H : Type} {enc : TypeId × Value → H} {w : World} {r : Reach} {b0 : Nat} {v : Value} {d : DataW H} {p : List MemPlace} (hv : Value.okWide Try.prog w r b0 99 v) (h : DataW.Trod enc Try.prog w 0 (fun _ => true) true 99 v d p) :
    ∃ C D B P : Int, v = gC C D B P := by
  obtain ⟨cs, rfl, hc⟩ := open_struct Try.underlying99 leaves_g hv h
  obtain ⟨v0, _, e, h0, v1, _, rfl, h1, v2, _, rfl, h2, v3, _, rfl, h3, rfl⟩ := hc
  obtain ⟨n0, rfl, _⟩ := One.int Try.underlying3 h0
  obtain ⟨n1, rfl, _⟩ := One.int Try.underlying3 h1
  obtain ⟨n2, rfl, _⟩ := One.int Try.underlying3 h2
  obtain ⟨n3, rfl, _⟩ := One.int Try.underlying3 h3
  exact ⟨n0, n1, n2, n3, agg_of e⟩
end Go.Proofs.Ytcifkccaiekkeaa.ClockO
