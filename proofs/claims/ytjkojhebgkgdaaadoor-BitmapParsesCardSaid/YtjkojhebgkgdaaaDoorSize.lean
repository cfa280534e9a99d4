/-
  How long an argument that is a slice may be, and that a nil one is empty. Conditions: each lemma's own.
-/
import Derived.SizedLaws
import Derived.Deep.Slices
namespace Go.Proofs.YtjkojhebgkgdaaaDoor.Base
section
variable {H : Type} {enc : TypeId × Value → H} {P : Program} {w : World} {t e : TypeId} {a : Option Addr} {len cap : Nat} {d : DataW H} {ps : List MemPlace}
theorem arg_sized {ts : List TypeId} {ds : List (DataW H)} {j : Nat} (hsz : (DataW.weightsEach P ts ds).all (· ≤ reachBytes) = true) (ht : ts[j]? = some t) (hd : ds[j]? = some d) (hu : P.underlying t = some (.slice e)) {B : Nat} (hB : P.bytesOf e = B)
    (h : DataW.Trod enc P w 0 (fun _ => true) true t (.slice a len cap) d ps) : cap * B ≤ 140737488351232 := by
  obtain ⟨fuel, hf⟩ := h
  rcases Deep.open_slice hu hf with ⟨hcs, _⟩ | ⟨x, l, c, m, n, D, Pl, hcs, _, hl, _, hm, hx, _⟩
  · simp [Value.cells] at hcs
    obtain ⟨rfl, rfl, rfl⟩ := hcs
    simp
  · simp [Value.cells] at hcs
    obtain ⟨rfl, rfl, rfl⟩ := hcs
    obtain ⟨hx, _⟩ := Prod.mk.inj hx
    subst hx
    have z := sized_slice hsz ht hd hu
    rw [hB] at z
    simp at hm
    simp only [List.length_map, List.length_range] at z
    rw [hm, show len + (cap - len) = cap by omega] at z
    exact z
theorem arg_nil (hu : P.underlying t = some (.slice e)) (h : DataW.Trod enc P w 0 (fun _ => true) true t (.slice none len cap) d ps) : len = 0 ∧ cap = 0 := by
  obtain ⟨fuel, hf⟩ := h
  rcases Deep.open_slice hu hf with ⟨hcs, _⟩ | ⟨x, l, c, m, n, D, Pl, hcs, _⟩
  · simp [Value.cells] at hcs
    exact hcs
  · simp [Value.cells] at hcs
end
end Go.Proofs.YtjkojhebgkgdaaaDoor.Base
