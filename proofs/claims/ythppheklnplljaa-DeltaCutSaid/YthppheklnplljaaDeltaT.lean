/-
  How arguments of type [][]Move are read. Conditions: none.
-/
import Derived.Test.YthppheklnplljaaDeltaO
import Derived.Test.YthppheklnplljaaNest
namespace Go.Proofs.Ythppheklnplljaa.DeltaO
open Go.RowKit Go.Proofs.Ythppheklnplljaa.Base Go.Proofs.Ythppheklnplljaa.Delta
theorem cells_moves : Try.prog.cellsOf 43 = 1 := by kernel_rfl
theorem bytes_move : Try.prog.bytesOf 45 = 32 := by kernel_rfl
theorem moves_open {H : Type} {enc : TypeId × Value → H} {w : World} (n : Nat) (cs : List Value) (x : DataW H × List MemPlace) (h : DataW.trod enc Try.prog w 0 (fun _ => true) true n 43 cs = some x) (hw : ∀ m ∈ x.1.weights Try.prog 43, m ≤ 140737488351232) :
    ∃ y : Inner Mv, InnerOk w 4 32 140737488351232 mvC Wm y ∧ cs = inC y :=
  inner_open (f := mvC) (p := Wm) Try.underlying43 cells_move (by omega) bytes_move move_open n cs x h hw
end Go.Proofs.Ythppheklnplljaa.DeltaO
