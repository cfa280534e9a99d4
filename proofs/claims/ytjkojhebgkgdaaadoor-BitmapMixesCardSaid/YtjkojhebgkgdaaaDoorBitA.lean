/-
  TrailingZeros64. Conditions: the table of Go's library is as it was laid.
-/
import Derived.Test.YtjkojhebgkgdaaaDoorEccA
import Derived.Test.YtjkojhebgkgdaaaDoorRow
import Derived.Shelf.Spec.TrailingZeros
namespace Go.Proofs.YtjkojhebgkgdaaaDoor.Ecc
open Go.RowKit Go.Proofs.YtjkojhebgkgdaaaDoor.Base
set_option linter.unusedVariables false
set_option linter.unusedSimpArgs false
set_option maxRecDepth 100000
/-- The table in its variable. -/
def Tab (w : World) : Prop := 0 < w.heap.size ∧ ∀ j, j < 64 → w.cell? ⟨0, j, none⟩ = some (.int .u8 (Lib.deBruijn64tab.getD j 0 : Nat))
theorem Tab.upd {w w' : World} (h : Tab w) (u : Upd Nil w w') : Tab w' := ⟨Nat.lt_of_lt_of_le h.1 u.size, fun j hj => (u.cell (p := ⟨0, j, none⟩) h.1 (fun h => h)).trans (h.2 j hj)⟩
set_option maxHeartbeats 4000000 in
theorem tz_core (x k idx : Nat) (w : World) (hx0 : ((x : Int) == 0) = false)
    (key : IntKind.u64.wrap (bits BinOp.and IntKind.u64 (x : Int) (IntKind.u64.wrap (-(x : Int))) * 285870213051353865) / 288230376151711744 = (idx : Int))
    (hi : idx < 64) (hk : k < 64) (hcell : w.cell? ⟨0, idx, none⟩ = some (.int .u8 k)) :
    Calls Tryd.prog 35 #[.int .u64 x] w fun e w' => e = .returned (.int .i64 k) ∧ w' = w := by
  go_enter Tryd.func35, Tryd.ntmps35
  go_wp2_with (simp only [key])
  go_ret
  exact ⟨rfl, rfl⟩
theorem tz64 (x : Nat) (hx : x < 18446744073709551616) (hx0 : x ≠ 0) (w : World) (hT : Tab w) : Calls Tryd.prog 35 #[.int .u64 x] w fun e w' => e = .returned (.int .i64 (Lib.ctz 64 x : Nat)) ∧ w' = w := by
  obtain ⟨hlow, hk⟩ := Lib.lowest_bit 64 x hx0 hx
  obtain ⟨hi, htab⟩ := Lib.deBruijn64_at _ hk
  refine tz_core x (Lib.ctz 64 x) _ w (by simp; omega) (Go.Proofs.tz64_key x _ hx hx0 hlow) hi hk ?_
  rw [hT.2 _ hi, htab]
end Go.Proofs.YtjkojhebgkgdaaaDoor.Ecc
