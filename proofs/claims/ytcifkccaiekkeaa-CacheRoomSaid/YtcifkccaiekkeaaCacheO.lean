/-
  How arguments of type []Key are read. Conditions: none.
-/
import Derived.Test.YtcifkccaiekkeaaCacheG
import Derived.Test.YtcifkccaiekkeaaAgg
import Derived.Test.YtcifkccaiekkeaaRead
import Derived.Test.YtcifkccaiekkeaaSize
import Derived.KernelRfl
import Derived.ProofKit
namespace Go.Proofs.Ytcifkccaiekkeaa.CacheO
open Go.RowKit Go.Proofs.Ytcifkccaiekkeaa.Base Go.Proofs.Ytcifkccaiekkeaa.Cache
theorem cells_key : Try.prog.cellsOf 47 = 2 := by kernel_rfl
theorem leaves_key : leaves Try.prog 8 47 = some [3, 3] := by kernel_rfl
theorem key_open {H : Type} {enc : TypeId × Value → H} {w : World} (n : Nat) (cs : List Value) (x : DataW H × List MemPlace) (h : DataW.trod enc Try.prog w 0 (fun _ => true) true n 47 cs = some x) :
    ∃ y : Key, Wk y ∧ cs = kc2 y := by
  obtain ⟨v0, _, rfl, h0, v1, _, rfl, h1, rfl⟩ := leaves_ok 8 47 _ n cs x leaves_key h
  obtain ⟨a0, rfl, k0⟩ := h0.int Try.underlying3
  obtain ⟨a1, rfl, k1⟩ := h1.int Try.underlying3
  exact ⟨(a0, a1), ⟨k0, k1⟩, rfl⟩
end Go.Proofs.Ytcifkccaiekkeaa.CacheO
