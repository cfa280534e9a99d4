/-
  How a group is read, and what the listed table's cells are. Conditions: none.
-/
import Derived.Test.YtenhimaclecdpaaDoorEccE
import Derived.Test.YtenhimaclecdpaaDoorEccF
import Derived.Test.YtenhimaclecdpaaDoorAgg
import Derived.Test.YtenhimaclecdpaaDoorRows
import Derived.KernelRfl
import Derived.LaidMore
import Derived.OpenShut
import Derived.Stop.Joined
namespace Go.Proofs.YtenhimaclecdpaaDoor.EccO
open Go.RowKit Go.Proofs.YtenhimaclecdpaaDoor.Base Go.Proofs.YtenhimaclecdpaaDoor.Ecc Go.ChangeShapes Go.WideShapes Go.ChangeAt
theorem leaves_g : leaves Tryd.prog 8 22 = some [5, 5, 5, 5, 5, 5, 5, 5] := by kernel_rfl
theorem byte_of {n : Int} (h : (Lit.int .u8 n).wf = true) : ∃ b : UInt8, n = (b.toNat : Nat) := by
  have h : 0 ≤ n ∧ n ≤ 255 := by simpa [Lit.wf, IntKind.min, IntKind.max, IntKind.bits, IntKind.signed] using h
  refine ⟨UInt8.ofNat n.toNat, ?_⟩
  rw [UInt8.toNat_ofNat']
  omega
theorem nat_of {n : Int} (h : (Lit.int .u8 n).wf = true) : ∃ i : Nat, n = (i : Int) ∧ i < 256 := by
  have h : 0 ≤ n ∧ n ≤ 255 := by simpa [Lit.wf, IntKind.min, IntKind.max, IntKind.bits, IntKind.signed] using h
  exact ⟨n.toNat, by omega, by omega⟩
set_option maxRecDepth 100000 in
theorem grp_open {H : Type} {enc : TypeId × Value → H} {w : World} {r : Reach} {b0 : Nat} {v : Value} {d : DataW H} {p : List MemPlace} (hv : Value.okWide Tryd.prog w r b0 22 v) (h : DataW.Trod enc Tryd.prog w 0 (fun _ => true) true 22 v d p) :
    ∃ G : List UInt8, G.length = 8 ∧ v = .agg (gC (G.map UInt8.toNat)) := by
  obtain ⟨cs, rfl, hc⟩ := open_array Tryd.underlying22 leaves_g hv h
  obtain ⟨v0, _, e, h0, v1, _, rfl, h1, v2, _, rfl, h2, v3, _, rfl, h3, v4, _, rfl, h4, v5, _, rfl, h5, v6, _, rfl, h6, v7, _, rfl, h7, rfl⟩ := hc
  obtain ⟨n0, rfl, q0⟩ := One.int Tryd.underlying5 h0
  obtain ⟨n1, rfl, q1⟩ := One.int Tryd.underlying5 h1
  obtain ⟨n2, rfl, q2⟩ := One.int Tryd.underlying5 h2
  obtain ⟨n3, rfl, q3⟩ := One.int Tryd.underlying5 h3
  obtain ⟨n4, rfl, q4⟩ := One.int Tryd.underlying5 h4
  obtain ⟨n5, rfl, q5⟩ := One.int Tryd.underlying5 h5
  obtain ⟨n6, rfl, q6⟩ := One.int Tryd.underlying5 h6
  obtain ⟨n7, rfl, q7⟩ := One.int Tryd.underlying5 h7
  obtain ⟨b0, rfl⟩ := byte_of q0
  obtain ⟨b1, rfl⟩ := byte_of q1
  obtain ⟨b2, rfl⟩ := byte_of q2
  obtain ⟨b3, rfl⟩ := byte_of q3
  obtain ⟨b4, rfl⟩ := byte_of q4
  obtain ⟨b5, rfl⟩ := byte_of q5
  obtain ⟨b6, rfl⟩ := byte_of q6
  obtain ⟨b7, rfl⟩ := byte_of q7
  exact ⟨[b0, b1, b2, b3, b4, b5, b6, b7], rfl, agg_of e⟩
theorem gTab : Tryd.prog.globalNamed "math/bits.deBruijn64tab" = some 0 := by kernel_rfl
theorem tTab : (Tryd.prog.globals[0]?).map (·.type) = some 42 := by kernel_rfl
theorem laid_map {H : Type} : (Rows.laid_math_bits_deBruijn64tab : DataW H) = .agg (Lib.deBruijn64tab.map fun n => .lit (.int .u8 (n : Nat))) := rfl
theorem tab_len : Lib.deBruijn64tab.length = 64 := by decide
theorem cells_u8 : Tryd.prog.cellsOf 5 = 1 := by kernel_rfl
/-- What the row's condition on the table gives. -/
theorem tab_laid {W : World} (h : laidMetH Tryd.prog [("math/bits.deBruijn64tab", Rows.laid_math_bits_deBruijn64tab)] W) : Tab W := by
  rw [MakeChecks.laidMetH_plain _ _ _ (by kernel_rfl)] at h
  obtain ⟨ps, ⟨g0, t0, cs0, f0, p0, q0, hg0, ht0, hv0, hd0, _, _⟩, _, _⟩ := h
  obtain rfl := Option.some.inj (gTab.symm.trans hg0)
  obtain rfl := Option.some.inj (tTab.symm.trans ht0)
  obtain ⟨xs, m1, rfl, hx1, hlen, hn, hel⟩ := DataW.trod_array Tryd.underlying42 hd0
  simp only [Prod.mk.injEq, laid_map, DataW.agg.injEq] at hx1
  have hcell : ∀ j, j < 64 → W.cell? ⟨0, j, none⟩ = some (.int .u8 (Lib.deBruijn64tab.getD j 0 : Nat)) := by
    intro j hj
    have hjx : j < xs.length := by omega
    have h0 := hel j hj
    rw [List.getElem?_eq_getElem hjx, cells_u8] at h0
    obtain ⟨k, e1, e2, _⟩ := DataW.trod_int Tryd.underlying5 h0
    have e3 := congrArg (fun l => l[j]?) hx1.1
    simp only [List.getElem?_map, List.getElem?_eq_getElem hjx] at e3
    have hjt : j < Lib.deBruijn64tab.length := by rw [tab_len]; exact hj
    rw [List.getElem?_eq_getElem hjt, e2] at e3
    simp only [Option.map_some, Option.some.injEq, DataW.lit.injEq, Lit.int.injEq, true_and] at e3
    have := World.var?_cell hg0 hv0 j
    rw [this, List.getD_eq_getElem?_getD, List.getElem?_eq_getElem hjt, Option.getD_some, e3]
    have e4 := congrArg (fun l => l[0]?) e1
    simp only [List.getElem?_take, List.getElem?_drop, Nat.mul_one, Nat.add_zero] at e4
    simpa using e4
  refine ⟨?_, hcell⟩
  have h0 := hcell 0 (by decide)
  rcases Nat.eq_zero_or_pos W.heap.size with hz | hz
  · have hn : W.heap[0]? = none := Array.getElem?_eq_none (by omega)
    simp [World.cell?, hn] at h0
  · exact hz
end Go.Proofs.YtenhimaclecdpaaDoor.EccO
