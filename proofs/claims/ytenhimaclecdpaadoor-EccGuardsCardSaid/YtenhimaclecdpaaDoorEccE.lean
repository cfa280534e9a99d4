/-
  TrailingZeros64, and whether ones are even. Conditions: the table of Go's library is as it was laid.
-/
import Derived.Test.YtenhimaclecdpaaDoorEccA
import Derived.Test.YtenhimaclecdpaaDoorEccD
import Derived.Test.YtenhimaclecdpaaDoorRow
import Derived.Shelf.Spec.TrailingZeros
namespace Go.Proofs.YtenhimaclecdpaaDoor.Ecc
open Go.RowKit Go.Proofs.YtenhimaclecdpaaDoor.Base
set_option linter.unusedVariables false
set_option linter.unusedSimpArgs false
set_option maxRecDepth 100000
/-- The table in its variable. -/
def Tab (w : World) : Prop := 0 < w.heap.size ∧ ∀ j, j < 64 → w.cell? ⟨0, j, none⟩ = some (.int .u8 (Lib.deBruijn64tab.getD j 0 : Nat))
theorem Tab.upd {w w' : World} (h : Tab w) (u : Upd Nil w w') : Tab w' := ⟨Nat.lt_of_lt_of_le h.1 u.size, fun j hj => (u.cell (p := ⟨0, j, none⟩) h.1 (fun h => h)).trans (h.2 j hj)⟩
set_option maxHeartbeats 4000000 in
theorem tz_core (x k idx : Nat) (w : World) (hx0 : ((x : Int) == 0) = false)
    (key : IntKind.u64.wrap (bits BinOp.and IntKind.u64 (x : Int) (IntKind.u64.wrap (-(x : Int))) * 285870213051353865) / 288230376151711744 = (idx : Int))
    (hi : idx < 64) (hk : k < 64) (hcell : w.cell? ⟨0, idx, none⟩ = some (.int .u8 k)) :
    Calls Tryd.prog 20 #[.int .u64 x] w fun e w' => e = .returned (.int .i64 k) ∧ w' = w := by
  go_enter Tryd.func20, Tryd.ntmps20
  go_wp2_with (simp only [key])
  go_ret
  exact ⟨rfl, rfl⟩
theorem tz64 (x : Nat) (hx : x < 18446744073709551616) (hx0 : x ≠ 0) (w : World) (hT : Tab w) : Calls Tryd.prog 20 #[.int .u64 x] w fun e w' => e = .returned (.int .i64 (Lib.ctz 64 x : Nat)) ∧ w' = w := by
  obtain ⟨hlow, hk⟩ := Lib.lowest_bit 64 x hx0 hx
  obtain ⟨hi, htab⟩ := Lib.deBruijn64_at _ hk
  refine tz_core x (Lib.ctz 64 x) _ w (by simp; omega) (Go.Proofs.tz64_key x _ hx hx0 hlow) hi hk ?_
  rw [hT.2 _ hi, htab]
theorem and1 (n : Nat) (h : n < 9223372036854775808) : bits BinOp.and IntKind.i64 (n : Int) 1 = ((n % 2 : Nat) : Int) := Go.Proofs.and_one n h
theorem or128 : ∀ s : Fin 256, bits BinOp.or IntKind.u8 (s.val : Int) 128 = ((s.val ||| 128 : Nat) : Int) := by decide +kernel
theorem evenC (s n : Nat) (hs : s < 256) (hn : n ≤ 1000) (w : World) : Calls Tryd.prog 21 #[.int .u8 s, .int .i64 n] w fun e w' => e = .returned (.int .u8 (evenV s n : Nat)) ∧ w' = w := by
  have hp := pop_le s 8
  have k1 := ones8 s hs
  have ko := or128 ⟨s, hs⟩
  simp only at ko
  unfold evenV
  generalize popN s 8 = p at *
  have hw : wrap64 ((p : Int) + (n : Int)) = ((p + n : Nat) : Int) := by unfold wrap64; omega
  have ha := and1 (p + n) (by omega)
  clear hp hn
  by_cases h : (p + n) % 2 = 1
  · rw [if_pos h]
    rw [h] at ha
    clear h hs
    generalize (p + n : Nat) = q at *
    go_enter Tryd.func21, Tryd.ntmps21
    go_wp2_with fail
    refine (k1 _).mono ?_
    rintro e w' ⟨rfl, rfl⟩
    go_wp2_with fail
    go_ret
    exact ⟨rfl, rfl⟩
  · rw [if_neg h]
    have h0 : (p + n) % 2 = 0 := by omega
    rw [h0] at ha
    clear h hs h0
    generalize (p + n : Nat) = q at *
    go_enter Tryd.func21, Tryd.ntmps21
    go_wp2_with fail
    refine (k1 _).mono ?_
    rintro e w' ⟨rfl, rfl⟩
    go_wp2_with fail
    go_ret
    exact ⟨rfl, rfl⟩
end Go.Proofs.YtenhimaclecdpaaDoor.Ecc
