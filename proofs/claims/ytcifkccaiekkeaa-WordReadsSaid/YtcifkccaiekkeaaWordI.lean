/-
  How an argument of type []Ask is read. Conditions: none.
-/
import Derived.Test.YtcifkccaiekkeaaWordH
import Derived.Test.YtcifkccaiekkeaaWordO
namespace Go.Proofs.Ytcifkccaiekkeaa.WordI
open Go.RowKit Go.Proofs.Ytcifkccaiekkeaa.Base Go.Proofs.Ytcifkccaiekkeaa.Word
theorem cells_ask : Try.prog.cellsOf 81 = 2 := by kernel_rfl
theorem leaves_ask : leaves Try.prog 8 81 = some [5, 3] := by kernel_rfl
theorem ask_open {H : Type} {enc : TypeId × Value → H} {w : World} (n : Nat) (cs : List Value) (x : DataW H × List MemPlace) (h : DataW.trod enc Try.prog w 0 (fun _ => true) true n 81 cs = some x) :
    ∃ y : As, (0 ≤ y.1 ∧ y.1 ≤ 255) ∧ cs = asC y := by
  obtain ⟨v0, _, rfl, h0, v1, _, rfl, h1, rfl⟩ := leaves_ok 8 81 _ n cs x leaves_ask h
  obtain ⟨a0, rfl, k0⟩ := h0.int Try.underlying5
  obtain ⟨a1, rfl, _⟩ := h1.int Try.underlying3
  exact ⟨(a0, a1), bounds_u8 k0, rfl⟩
theorem far_of {w : World} {A : Option Addr} {n c : Nat} {l : List UInt8} (h : Arg w A 1 bc l) : Far (· < w.heap.size) (.slice A n c) l := by
  rcases h with h | ⟨b, off, rfl, h2, _⟩
  · exact .inl h
  · exact .inr (fun k hk => by have : b = k := by simpa [Value.ownBlock] using hk
                               subst this; exact h2)
end Go.Proofs.Ytcifkccaiekkeaa.WordI
