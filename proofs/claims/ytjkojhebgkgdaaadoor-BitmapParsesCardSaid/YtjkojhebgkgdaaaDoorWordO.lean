/-
  How arguments of types []byte are read. Conditions: none.
-/
import Derived.Test.YtjkojhebgkgdaaaDoorConv
import Derived.Test.YtjkojhebgkgdaaaDoorProg
import Derived.Test.YtjkojhebgkgdaaaDoorRead
import Derived.Test.YtjkojhebgkgdaaaDoorSize
import Derived.KernelRfl
import Derived.ProofKit
import Derived.OpenShut
namespace Go.Proofs.YtjkojhebgkgdaaaDoor.WordO
open Go.RowKit Go.Proofs.YtjkojhebgkgdaaaDoor.Base
theorem cells_u8 : Tryd.prog.cellsOf 5 = 1 := by kernel_rfl
theorem u8_open {H : Type} {enc : TypeId × Value → H} {w : World} (n : Nat) (cs : List Value) (x : DataW H × List MemPlace) (h : DataW.trod enc Tryd.prog w 0 (fun _ => true) true n 5 cs = some x) :
    ∃ y : UInt8, True ∧ cs = bc y := by
  obtain ⟨a, rfl, _, hw⟩ := DataW.trod_int Tryd.underlying5 h
  obtain ⟨h0, h1⟩ := bounds_u8 hw
  refine ⟨UInt8.ofNat a.toNat, trivial, ?_⟩
  unfold bc
  have : ((UInt8.ofNat a.toNat).toNat : Int) = a := by
    rw [UInt8.toNat_ofNat']
    omega
  rw [this]
end Go.Proofs.YtjkojhebgkgdaaaDoor.WordO
