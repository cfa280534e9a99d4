/-
  Slices of whole numbers: what their elements are, how they are read. Conditions: each lemma's own.
-/
import Derived.Test.YtjkojhebgkgdaaaDoorProg
import Derived.Test.YtjkojhebgkgdaaaDoorRow
import Derived.Test.YtjkojhebgkgdaaaDoorRead
import Derived.KernelRfl
import Derived.Lib.Hide
import Derived.IntWalk
namespace Go.Proofs.YtjkojhebgkgdaaaDoor.Ints
open Go.RowKit Go.Proofs.YtjkojhebgkgdaaaDoor.Base
set_option linter.unusedVariables false
def ic (n : Int) : List Value := [.int .i64 n]
theorem ic_len (x : Int) : (ic x).length = 1 := rfl
theorem ic_one (x : Int) : ∀ u ∈ ic x, u.oneCell' = true := by
  intro u hu
  obtain rfl : u = .int .i64 x := by simpa [ic] using hu
  rfl
theorem elemI : Elem Tryd.prog 23 3 (.int .i64 0) 1 8 ic := ⟨Tryd.underlying23, by kernel_rfl, rfl, by omega, ic_len, ic_one⟩
theorem ic_cell {w : World} {A : Option Addr} {l : List Int} (h : Arg w A 1 ic l) {i : Nat} (hi : i < l.length) : ∃ g o, A = some ⟨g, o, none⟩ ∧ g < w.heap.size ∧ w.cell? ⟨g, o + i, none⟩ = some (.int .i64 l[i]) := by
  rcases h with rfl | ⟨g, o, rfl, h2, h3⟩
  · simp at hi
  · refine ⟨g, o, rfl, h2, ?_⟩
    have := h3 i hi 0 (by omega)
    simpa [ic] using this
theorem cells_int : Tryd.prog.cellsOf 3 = 1 := by kernel_rfl
theorem int_open {H : Type} {enc : TypeId × Value → H} {w : World} (n : Nat) (cs : List Value) (x : DataW H × List MemPlace) (h : DataW.trod enc Tryd.prog w 0 (fun _ => true) true n 3 cs = some x) :
    ∃ y : Int, True ∧ cs = ic y := by
  obtain ⟨a, rfl, _, hw⟩ := DataW.trod_int Tryd.underlying3 h
  exact ⟨a, trivial, rfl⟩
theorem ret_b {a b : Bool} (h : a = b) : Ending.returned (.bool a) = .returned (.bool b) := by rw [h]
theorem ret_i {k : IntKind} {a b : Int} (h : a = b) : Ending.returned (.int k a) = .returned (.int k b) := by rw [h]
end Go.Proofs.YtjkojhebgkgdaaaDoor.Ints
