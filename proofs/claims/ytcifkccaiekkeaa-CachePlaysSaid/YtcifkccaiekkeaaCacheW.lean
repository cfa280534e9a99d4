/-
  How arguments of type []Act of caches are read. Conditions: none.
-/
import Derived.Test.YtcifkccaiekkeaaCacheV
import Derived.Test.YtcifkccaiekkeaaAgg
import Derived.Test.YtcifkccaiekkeaaRead
import Derived.Test.YtcifkccaiekkeaaSize
import Derived.KernelRfl
import Derived.ProofKit
namespace Go.Proofs.Ytcifkccaiekkeaa.CacheO
open Go.RowKit Go.Proofs.Ytcifkccaiekkeaa.Base Go.Proofs.Ytcifkccaiekkeaa.Cache
theorem cells_act : Try.prog.cellsOf 66 = 4 := by kernel_rfl
theorem leaves_act : leaves Try.prog 8 66 = some [5, 3, 3, 9] := by kernel_rfl
theorem act_open {H : Type} {enc : TypeId × Value → H} {w : World} (n : Nat) (cs : List Value) (x : DataW H × List MemPlace) (h : DataW.trod enc Try.prog w 0 (fun _ => true) true n 66 cs = some x) :
    ∃ y : Ac, (y.kd < 256 ∧ Wk y.k) ∧ cs = acC y := by
  obtain ⟨v0, _, rfl, h0, v1, _, rfl, h1, v2, _, rfl, h2, v3, _, rfl, h3, rfl⟩ := leaves_ok 8 66 _ n cs x leaves_act h
  obtain ⟨a0, rfl, k0⟩ := h0.int Try.underlying5
  obtain ⟨a1, rfl, k1⟩ := h1.int Try.underlying3
  obtain ⟨a2, rfl, k2⟩ := h2.int Try.underlying3
  obtain ⟨s, rfl, _⟩ := h3.str Try.underlying9
  obtain ⟨b0, b1⟩ := bounds_u8 k0
  obtain ⟨k, rfl⟩ := Int.eq_ofNat_of_zero_le b0
  exact ⟨⟨k, (a1, a2), s⟩, ⟨by show k < 256; omega, k1, k2⟩, rfl⟩
theorem playsAll (room : Int) (A : Option Addr) (cA : Nat) (l : List Ac) (w : World) (hA : Arg w A 4 acC l) (hw : ∀ y ∈ l, y.kd < 256 ∧ Wk y.k) (hl : l.length ≤ maxLen) :
    Calls Try.prog 7 #[.int .i64 room, .slice A l.length cA] w (RetB true w) := by
  by_cases h : 0 ≤ room ∧ room ≤ 1024
  · exact plays room h A cA l w hA hw hl
  · exact playsNo room (by omega) A cA l w hl
end Go.Proofs.Ytcifkccaiekkeaa.CacheO
