/-
  Go's OnesCount8. Conditions: none.
-/
import Derived.Test.YtenhimaclecdpaaDoorEccP
import Derived.Test.YtenhimaclecdpaaDoorProg
import Derived.Lib.Strings
import Derived.Lib.Slices
import Derived.Lib.Small
import Derived.Lib.Walk
import Derived.Lib.BitFns
namespace Go.Proofs.YtenhimaclecdpaaDoor.Ecc
theorem ones_eq : ∀ n : Fin 256, Lib.onesCount n.val = popN n.val 8 := by decide +kernel
theorem ones8I (x : Int) (w : World) (h0 : 0 ≤ x) (h1 : x ≤ 255) :
    Calls Tryd.prog 18 #[.int .u8 x] w fun e w' => e = .returned (.int .i64 (Lib.onesCount x.toNat)) ∧ w' = w := by
  rw [← Lib.pop8_int x h0 h1]
  go_enter Tryd.func18, Tryd.ntmps18
  go_wp2
  go_ret
  exact ⟨rfl, rfl⟩
theorem ones8 (x : Nat) (hx : x < 256) (w : World) : Calls Tryd.prog 18 #[.int .u8 x] w fun e w' => e = .returned (.int .i64 (popN x 8 : Nat)) ∧ w' = w := by
  have := ones_eq ⟨x, hx⟩
  simp only at this
  rw [← this]
  exact ones8I x w (by omega) (by omega)
end Go.Proofs.YtenhimaclecdpaaDoor.Ecc
