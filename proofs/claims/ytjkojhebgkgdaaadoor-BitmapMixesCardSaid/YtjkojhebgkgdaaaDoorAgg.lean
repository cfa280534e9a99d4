/-
  How an argument that is a struct or an array by value is read, all cells at once. Conditions: each lemma's own.
-/
import Derived.Test.YtjkojhebgkgdaaaDoorRead
import Derived.OpenShut
import Derived.ProofKit
namespace Go.Proofs.YtjkojhebgkgdaaaDoor.Base
open Go.RowKit Go.ChangeShapes Go.WideShapes
section
variable {H : Type} {enc : TypeId × Value → H} {P : Program} {w : World}
theorem okWide_arr {r : Reach} {base : Nat} {t e : TypeId} {n : Nat} {v : Value} (ht : P.underlying t = some (.array n e)) (h : Value.okWide P w r base t v) : ∃ cs, v = .agg cs := by
  simp only [Value.okWide, ht] at h
  obtain ⟨cs, h1, _⟩ := h
  exact ⟨cs, h1⟩
/-- A struct by value. -/
theorem open_struct {r : Reach} {b0 k : Nat} {t : TypeId} {ts : List TypeId} {fs : Array Field} {v : Value} {d : DataW H} {p : List MemPlace} (ht : P.underlying t = some (.struct fs)) (hl : leaves P k t = some ts)
    (hv : Value.okWide P w r b0 t v) (h : DataW.Trod enc P w 0 (fun _ => true) true t v d p) : ∃ cs, v = .agg cs ∧ Cells enc P w ts cs.toList := by
  obtain ⟨cs, rfl, _⟩ := okWide_struct ht hv
  obtain ⟨n, hn⟩ := h
  exact ⟨cs, rfl, leaves_ok k t ts n _ _ hl hn⟩
/-- An array by value. -/
theorem open_array {r : Reach} {b0 k n : Nat} {t e : TypeId} {ts : List TypeId} {v : Value} {d : DataW H} {p : List MemPlace} (ht : P.underlying t = some (.array n e)) (hl : leaves P k t = some ts)
    (hv : Value.okWide P w r b0 t v) (h : DataW.Trod enc P w 0 (fun _ => true) true t v d p) : ∃ cs, v = .agg cs ∧ Cells enc P w ts cs.toList := by
  obtain ⟨cs, rfl⟩ := okWide_arr ht hv
  obtain ⟨n, hn⟩ := h
  exact ⟨cs, rfl, leaves_ok k t ts n _ _ hl hn⟩
theorem agg_of {cs : Array Value} {l : List Value} (h : cs.toList = l) : Value.agg cs = .agg l.toArray := by rw [← h]
end
end Go.Proofs.YtjkojhebgkgdaaaDoor.Base
