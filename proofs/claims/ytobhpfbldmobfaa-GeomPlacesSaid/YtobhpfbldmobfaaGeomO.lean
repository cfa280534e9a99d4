/-
  How an argument that is a struct of four whole numbers is read. Conditions: none.
-/
import Derived.Test.YtobhpfbldmobfaaGeomL
import Derived.ProofKit
import Derived.OpenShut
import Derived.Lib.SmallJoins
namespace Go.Proofs.Ytobhpfbldmobfaa.GeomO
open Go.ChangeShapes Go.WideShapes Go.ChangeAt Go.RowKit Go.Proofs.Ytobhpfbldmobfaa.Base
theorem cells_G : Try.prog.cellsOf 46 = 4 := by kernel_rfl
theorem cells_P : Try.prog.cellsOf 48 = 4 := by kernel_rfl
theorem four {H : Type} {enc : TypeId × Value → H} {w : World} {n : Nat} {v : Value} {y : DataW H × List MemPlace} (h : DataW.trod enc Try.prog w 0 (fun _ => true) true n 3 [v] = some y) : ∃ x : Int, v = .int .i64 x := by
  obtain ⟨x, e, _, _⟩ := DataW.trod_int Try.underlying3 h
  exact ⟨x, by simpa using e⟩
set_option maxRecDepth 100000 in
theorem open_G {H : Type} {enc : TypeId × Value → H} {w : World} {r : Reach} {b0 : Nat} {v : Value} {d : DataW H} {p : List MemPlace} (hv : Value.okWide Try.prog w r b0 46 v) (h : DataW.Trod enc Try.prog w 0 (fun _ => true) true 46 v d p) :
    ∃ a b c e : Int, v = .agg #[.int .i64 a, .int .i64 b, .int .i64 c, .int .i64 e] := by
  obtain ⟨v0, v1, v2, v3, y0, y1, y2, y3, n, rfl, _, _, h0, h1, h2, h3⟩ := Go.Joins.open_agg4 Try.underlying46 (by kernel_rfl) cells_G hv h
  obtain ⟨a, rfl⟩ := four h0
  obtain ⟨b, rfl⟩ := four h1
  obtain ⟨c, rfl⟩ := four h2
  obtain ⟨e, rfl⟩ := four h3
  exact ⟨a, b, c, e, rfl⟩
set_option maxRecDepth 100000 in
theorem open_P {H : Type} {enc : TypeId × Value → H} {w : World} {r : Reach} {b0 : Nat} {v : Value} {d : DataW H} {p : List MemPlace} (hv : Value.okWide Try.prog w r b0 48 v) (h : DataW.Trod enc Try.prog w 0 (fun _ => true) true 48 v d p) :
    ∃ a b c e : Int, v = .agg #[.int .i64 a, .int .i64 b, .int .i64 c, .int .i64 e] := by
  obtain ⟨v0, v1, v2, v3, y0, y1, y2, y3, n, rfl, _, _, h0, h1, h2, h3⟩ := Go.Joins.open_agg4 Try.underlying48 (by kernel_rfl) cells_P hv h
  obtain ⟨a, rfl⟩ := four h0
  obtain ⟨b, rfl⟩ := four h1
  obtain ⟨c, rfl⟩ := four h2
  obtain ⟨e, rfl⟩ := four h3
  exact ⟨a, b, c, e, rfl⟩
end Go.Proofs.Ytobhpfbldmobfaa.GeomO
