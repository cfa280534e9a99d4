/-
  How an argument that is a tag is read. Conditions: none.
-/
import Derived.Test.YthppheklnplljaaTagA
import Derived.Test.YthppheklnplljaaAgg
import Derived.KernelRfl
namespace Go.Proofs.Ythppheklnplljaa.TagO
open Go.RowKit Go.Proofs.Ythppheklnplljaa.Base Go.Proofs.Ythppheklnplljaa.Tag
theorem leaves_tag : leaves Try.prog 8 35 = some [3, 3, 3, 3, 3, 4] := by kernel_rfl
set_option maxRecDepth 100000 in
theorem tag_open {H : Type} {enc : TypeId × Value → H} {w : World} {r : Reach} {b0 : Nat} {v : Value} {d : DataW H} {p : List MemPlace} (hv : Value.okWide Try.prog w r b0 35 v) (h : DataW.Trod enc Try.prog w 0 (fun _ => true) true 35 v d p) :
    ∃ t : Tg, v = tgV t := by
  obtain ⟨cs, rfl, hc⟩ := open_struct Try.underlying35 leaves_tag hv h
  obtain ⟨v0, _, e, h0, v1, _, rfl, h1, v2, _, rfl, h2, v3, _, rfl, h3, v4, _, rfl, h4, v5, _, rfl, h5, rfl⟩ := hc
  obtain ⟨n0, rfl, _⟩ := One.int Try.underlying3 h0
  obtain ⟨n1, rfl, _⟩ := One.int Try.underlying3 h1
  obtain ⟨n2, rfl, _⟩ := One.int Try.underlying3 h2
  obtain ⟨n3, rfl, _⟩ := One.int Try.underlying3 h3
  obtain ⟨n4, rfl, _⟩ := One.int Try.underlying3 h4
  obtain ⟨n5, rfl⟩ := One.bool Try.underlying4 h5
  exact ⟨⟨n0, n1, n2, n3, n4, n5⟩, agg_of e⟩
end Go.Proofs.Ythppheklnplljaa.TagO
