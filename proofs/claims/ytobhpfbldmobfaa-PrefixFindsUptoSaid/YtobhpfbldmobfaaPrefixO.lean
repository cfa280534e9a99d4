/-
  How arguments of types []string and []model.Change are read. Conditions: none.
-/
import Derived.Test.YtobhpfbldmobfaaPrefixK
import Derived.Test.YtobhpfbldmobfaaRead
import Derived.Test.YtobhpfbldmobfaaSize
import Derived.ProofKit
import Derived.OpenShut
namespace Go.Proofs.Ytobhpfbldmobfaa.PrefixO
open Go.RowKit Go.Proofs.Ytobhpfbldmobfaa.Base Go.Proofs.Ytobhpfbldmobfaa.Prefix
theorem cells_str : Try.prog.cellsOf 9 = 1 := by kernel_rfl
theorem cells_chg : Try.prog.cellsOf 62 = 2 := by kernel_rfl
theorem leaves_chg : leaves Try.prog 8 62 = some [3, 9] := by kernel_rfl
theorem str_open {H : Type} {enc : TypeId × Value → H} {w : World} (n : Nat) (cs : List Value) (x : DataW H × List MemPlace) (h : DataW.trod enc Try.prog w 0 (fun _ => true) true n 9 cs = some x) :
    ∃ y : ByteArray, y.size ≤ maxLen ∧ cs = sc y := by
  obtain ⟨a, e, _, hs⟩ := DataW.trod_string Try.underlying9 h
  exact ⟨a, hs, e⟩
theorem chg_open {H : Type} {enc : TypeId × Value → H} {w : World} (n : Nat) (cs : List Value) (x : DataW H × List MemPlace) (h : DataW.trod enc Try.prog w 0 (fun _ => true) true n 62 cs = some x) :
    ∃ y : Ch, y.2.size ≤ maxLen ∧ cs = cc y := by
  obtain ⟨v0, _, rfl, h0, v1, _, rfl, h1, rfl⟩ := leaves_ok 8 62 _ n cs x leaves_chg h
  obtain ⟨a0, rfl, _⟩ := h0.int Try.underlying3
  obtain ⟨a1, rfl, hs⟩ := h1.str Try.underlying9
  exact ⟨(a0, a1), hs, rfl⟩
end Go.Proofs.Ytobhpfbldmobfaa.PrefixO
