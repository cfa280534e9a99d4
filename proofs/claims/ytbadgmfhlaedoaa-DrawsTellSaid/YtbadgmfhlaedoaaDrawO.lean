/-
  How an argument that is four slices of whole numbers is read. Conditions: none.
-/
import Derived.Test.YtbadgmfhlaedoaaDrawC
import Derived.Test.YtbadgmfhlaedoaaAgg
import Derived.Test.YtbadgmfhlaedoaaSize
import Derived.KernelRfl
namespace Go.Proofs.Ytbadgmfhlaedoaa.DrawO
open Go.RowKit Go.Proofs.Ytbadgmfhlaedoaa.Base Go.Proofs.Ytbadgmfhlaedoaa.Draw Go.Proofs.Ytbadgmfhlaedoaa.Ints
def sel {α : Type} (a b c d : α) : Nat → α
  | 0 => a
  | 1 => b
  | 2 => c
  | _ => d
theorem leaves_arr : leaves Try.prog 8 23 = some [22, 22, 22, 22] := by kernel_rfl
set_option maxRecDepth 100000 in
theorem arr_open {H : Type} {enc : TypeId × Value → H} {w : World} {r : Reach} {b0 : Nat} {v : Value} {d : DataW H} {p : List MemPlace} (hv : Value.okWide Try.prog w r b0 23 v) (h : DataW.Trod enc Try.prog w 0 (fun _ => true) true 23 v d p) :
    ∃ A c fa, v = aggV A c fa ∧ Args w A c fa := by
  obtain ⟨cs, rfl, hc⟩ := open_array Try.underlying23 leaves_arr hv h
  obtain ⟨v0, _, e, h0, v1, _, rfl, h1, v2, _, rfl, h2, v3, _, rfl, h3, rfl⟩ := hc
  obtain ⟨A0, c0, l0, rfl, q0, m0, _, r0⟩ := One.slice (f := ic) Try.underlying22 cells_int (by omega) int_open h0
  obtain ⟨A1, c1, l1, rfl, q1, m1, _, r1⟩ := One.slice (f := ic) Try.underlying22 cells_int (by omega) int_open h1
  obtain ⟨A2, c2, l2, rfl, q2, m2, _, r2⟩ := One.slice (f := ic) Try.underlying22 cells_int (by omega) int_open h2
  obtain ⟨A3, c3, l3, rfl, q3, m3, _, r3⟩ := One.slice (f := ic) Try.underlying22 cells_int (by omega) int_open h3
  unfold maxLen at m0 m1 m2 m3
  refine ⟨sel A0 A1 A2 A3, sel c0 c1 c2 c3, sel l0 l1 l2 l3, agg_of e, ⟨fun i hi => ?_, fun i hi => ?_⟩⟩
  · have h4 : i = 0 ∨ i = 1 ∨ i = 2 ∨ i = 3 := by omega
    rcases h4 with rfl | rfl | rfl | rfl
    · exact r0
    · exact r1
    · exact r2
    · exact r3
  · have h4 : i = 0 ∨ i = 1 ∨ i = 2 ∨ i = 3 := by omega
    rcases h4 with rfl | rfl | rfl | rfl
    · show l0.length ≤ _; omega
    · show l1.length ≤ _; omega
    · show l2.length ≤ _; omega
    · show l3.length ≤ _; omega
end Go.Proofs.Ytbadgmfhlaedoaa.DrawO
