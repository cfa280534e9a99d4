/-
  What the listed table's cells are. Conditions: none.
-/
import Derived.Test.YtjkojhebgkgdaaaDoorBitA
import Derived.Test.YtjkojhebgkgdaaaDoorAgg
import Derived.Test.YtjkojhebgkgdaaaDoorRows
import Derived.KernelRfl
import Derived.LaidMore
import Derived.OpenShut
import Derived.Stop.Joined
namespace Go.Proofs.YtjkojhebgkgdaaaDoor.BitO
open Go.RowKit Go.Proofs.YtjkojhebgkgdaaaDoor.Base Go.Proofs.YtjkojhebgkgdaaaDoor.Ecc Go.ChangeShapes Go.WideShapes Go.ChangeAt
theorem gTab : Tryd.prog.globalNamed "math/bits.deBruijn64tab" = some 0 := by kernel_rfl
theorem tTab : (Tryd.prog.globals[0]?).map (·.type) = some 70 := by kernel_rfl
theorem laid_map {H : Type} : (Rows.laid_math_bits_deBruijn64tab : DataW H) = .agg (Lib.deBruijn64tab.map fun n => .lit (.int .u8 (n : Nat))) := rfl
theorem tab_len : Lib.deBruijn64tab.length = 64 := by decide
theorem cells_u8 : Tryd.prog.cellsOf 5 = 1 := by kernel_rfl
/-- What the row's condition on the table gives. -/
theorem tab_laid {W : World} (h : laidMetH Tryd.prog [("math/bits.deBruijn64tab", Rows.laid_math_bits_deBruijn64tab)] W) : Tab W := by
  rw [MakeChecks.laidMetH_plain _ _ _ (by kernel_rfl)] at h
  obtain ⟨ps, ⟨g0, t0, cs0, f0, p0, q0, hg0, ht0, hv0, hd0, _, _⟩, _, _⟩ := h
  obtain rfl := Option.some.inj (gTab.symm.trans hg0)
  obtain rfl := Option.some.inj (tTab.symm.trans ht0)
  obtain ⟨xs, m1, rfl, hx1, hlen, hn, hel⟩ := DataW.trod_array Tryd.underlying70 hd0
  simp only [Prod.mk.injEq, laid_map, DataW.agg.injEq] at hx1
  have hcell : ∀ j, j < 64 → W.cell? ⟨0, j, none⟩ = some (.int .u8 (Lib.deBruijn64tab.getD j 0 : Nat)) := by
    intro j hj
    have hjx : j < xs.length := by omega
    have h0 := hel j hj
    rw [List.getElem?_eq_getElem hjx, cells_u8] at h0
    obtain ⟨k, e1, e2, _⟩ := DataW.trod_int Tryd.underlying5 h0
    have e3 := congrArg (fun l => l[j]?) hx1.1
    simp only [List.getElem?_map, List.getElem?_eq_getElem hjx] at e3
    have hjt : j < Lib.deBruijn64tab.length := by rw [tab_len]; exact hj
    rw [List.getElem?_eq_getElem hjt, e2] at e3
    simp only [Option.map_some, Option.some.injEq, DataW.lit.injEq, Lit.int.injEq, true_and] at e3
    have := World.var?_cell hg0 hv0 j
    rw [this, List.getD_eq_getElem?_getD, List.getElem?_eq_getElem hjt, Option.getD_some, e3]
    have e4 := congrArg (fun l => l[0]?) e1
    simp only [List.getElem?_take, List.getElem?_drop, Nat.mul_one, Nat.add_zero] at e4
    simpa using e4
  refine ⟨?_, hcell⟩
  have h0 := hcell 0 (by decide)
  rcases Nat.eq_zero_or_pos W.heap.size with hz | hz
  · have hn : W.heap[0]? = none := Array.getElem?_eq_none (by omega)
    simp [World.cell?, hn] at h0
  · exact hz
end Go.Proofs.YtjkojhebgkgdaaaDoor.BitO
