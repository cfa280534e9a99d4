/-
  How an argument of type []Act is read: a row of acts. Conditions: none.
-/
import Derived.Test.YtobhpfbldmobfaaPowerT
import Derived.ProofKit
import Derived.OpenShut
namespace Go.Proofs.Ytobhpfbldmobfaa.PowerO
open Go.ChangeShapes Go.WideShapes Go.ChangeAt Go.RowKit Go.Proofs.Ytobhpfbldmobfaa.Base Go.Proofs.Ytobhpfbldmobfaa.PowerT
theorem cells_act : Try.prog.cellsOf 42 = 2 := by kernel_rfl
theorem cells_u8 : Try.prog.cellsOf 5 = 1 := by kernel_rfl
theorem cells_int : Try.prog.cellsOf 3 = 1 := by kernel_rfl
set_option maxRecDepth 100000 in
theorem act_open {H : Type} {enc : TypeId × Value → H} {w : World} (n : Nat) (cs : List Value) (x : DataW H × List MemPlace) (h : DataW.trod enc Try.prog w 0 (fun _ => true) true n 42 cs = some x) :
    ∃ y : Int × Int, (0 ≤ y.1 ∧ y.1 ≤ 255) ∧ cs = actCells y := by
  obtain ⟨y0, y1, n', rfl, hl, h0, h1⟩ := trod_struct2 Try.underlying42 h
  rw [cells_act] at hl
  match cs, hl with
  | [c0, c1], _ =>
    obtain ⟨v0, e0, _, k0⟩ := DataW.trod_int Try.underlying5 h0
    obtain ⟨v1, e1, _, k1⟩ := DataW.trod_int Try.underlying3 h1
    simp [cells_u8, cells_int] at e0 e1
    subst e0 e1
    exact ⟨(v0, v1), bounds_u8 k0, rfl⟩
end Go.Proofs.Ytobhpfbldmobfaa.PowerO
