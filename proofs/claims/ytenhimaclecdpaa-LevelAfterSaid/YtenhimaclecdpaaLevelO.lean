/-
  How an argument of type []Trade is read. Conditions: none.
-/
import Derived.Test.YtenhimaclecdpaaLevelJ
import Derived.Test.YtenhimaclecdpaaRead
import Derived.Test.YtenhimaclecdpaaSize
import Derived.KernelRfl
import Derived.ProofKit
namespace Go.Proofs.Ytenhimaclecdpaa.LevelO
open Go.RowKit Go.Proofs.Ytenhimaclecdpaa.Base Go.Proofs.Ytenhimaclecdpaa.Level
theorem cells_tr : Try.prog.cellsOf 33 = 2 := by kernel_rfl
theorem leaves_tr : leaves Try.prog 8 33 = some [3, 3] := by kernel_rfl
theorem tr_open {H : Type} {enc : TypeId × Value → H} {w : World} (n : Nat) (cs : List Value) (x : DataW H × List MemPlace) (h : DataW.trod enc Try.prog w 0 (fun _ => true) true n 33 cs = some x) :
    ∃ y : Int × Int, True ∧ cs = tiC y := by
  obtain ⟨v0, _, rfl, h0, v1, _, rfl, h1, rfl⟩ := leaves_ok 8 33 _ n cs x leaves_tr h
  obtain ⟨a0, rfl, _⟩ := h0.int Try.underlying3
  obtain ⟨a1, rfl, _⟩ := h1.int Try.underlying3
  exact ⟨(a0, a1), trivial, rfl⟩
end Go.Proofs.Ytenhimaclecdpaa.LevelO
