/-
  How arguments that are commands and completions are read. Conditions: none.
-/
import Derived.Test.YtobhpfbldmobfaaQueueL
import Derived.ProofKit
import Derived.OpenShut
import Derived.Lib.SmallJoins
namespace Go.Proofs.Ytobhpfbldmobfaa.QueueO
open Go.ChangeShapes Go.WideShapes Go.ChangeAt Go.RowKit Go.Proofs.Ytobhpfbldmobfaa.Base
theorem cells_C : Try.prog.cellsOf 78 = 3 := by kernel_rfl
theorem cells_D : Try.prog.cellsOf 80 = 3 := by kernel_rfl
set_option maxRecDepth 100000 in
theorem open_C {H : Type} {enc : TypeId × Value → H} {w : World} {r : Reach} {b0 : Nat} {v : Value} {d : DataW H} {p : List MemPlace} (hv : Value.okWide Try.prog w r b0 78 v) (h : DataW.Trod enc Try.prog w 0 (fun _ => true) true 78 v d p) :
    ∃ (a b : Int) (s : ByteArray), v = .agg #[.int .i64 a, .int .i64 b, .string s] := by
  obtain ⟨v0, v1, v2, y0, y1, y2, n, rfl, _, _, h0, h1, h2⟩ := Go.Joins.open_agg3 Try.underlying78 (by kernel_rfl) cells_C hv h
  obtain ⟨a, e0, _, _⟩ := DataW.trod_int Try.underlying3 h0
  obtain ⟨b, e1, _, _⟩ := DataW.trod_int Try.underlying3 h1
  obtain ⟨s, e2, _⟩ := DataW.trod_string Try.underlying9 h2
  simp at e0 e1 e2
  subst e0 e1 e2
  exact ⟨a, b, s, rfl⟩
set_option maxRecDepth 100000 in
theorem open_D {H : Type} {enc : TypeId × Value → H} {w : World} {r : Reach} {b0 : Nat} {v : Value} {d : DataW H} {p : List MemPlace} (hv : Value.okWide Try.prog w r b0 80 v) (h : DataW.Trod enc Try.prog w 0 (fun _ => true) true 80 v d p) :
    ∃ (a b : Int) (s : ByteArray), v = .agg #[.int .i64 a, .int .i64 b, .string s] := by
  obtain ⟨v0, v1, v2, y0, y1, y2, n, rfl, _, _, h0, h1, h2⟩ := Go.Joins.open_agg3 Try.underlying80 (by kernel_rfl) cells_D hv h
  obtain ⟨a, e0, _, _⟩ := DataW.trod_int Try.underlying3 h0
  obtain ⟨b, e1, _, _⟩ := DataW.trod_int Try.underlying28 h1
  obtain ⟨s, e2, _⟩ := DataW.trod_string Try.underlying9 h2
  simp at e0 e1 e2
  subst e0 e1 e2
  exact ⟨a, b, s, rfl⟩
end Go.Proofs.Ytobhpfbldmobfaa.QueueO
