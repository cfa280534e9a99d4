/-
  Go's math/bits: how many ones, how many noughts at the end. Conditions: TrailingZeros64's table is as it was laid.
-/
import Derived.Test.YtjkojhebgkgdaaaDoorEccP
import Derived.Test.YtjkojhebgkgdaaaDoorProg
import Derived.Test.YtjkojhebgkgdaaaDoorRow
import Derived.KernelRfl
import Derived.Lib.Hide
import Derived.Lib.TrailingZeros
import Derived.Laws.Bits64b
import Derived.Laws.Bits128
import Derived.Lib.RabinKarpLaws
import Derived.WalkKit
import Derived.Deep.Cut
namespace Go.Proofs.YtjkojhebgkgdaaaDoor.Ecc
open Go.RowKit Go.Proofs.YtjkojhebgkgdaaaDoor.Base
set_option linter.unusedVariables false
set_option linter.unusedSimpArgs false
set_option maxRecDepth 100000
theorem and64 (a m : Nat) (ha : a < 18446744073709551616) (hm : m < 18446744073709551616) (r : Nat) (hr : r = a &&& m) : bits BinOp.and IntKind.u64 (a : Int) (m : Int) = (r : Int) := by
  rw [bits_and_u64_nat a m ha hm, hr]
theorem wr64 (a : Nat) (ha : a < 18446744073709551616) : IntKind.u64.wrap (a : Int) = a := by rw [IntKind.wrap_u64]; omega
set_option maxHeartbeats 4000000 in
theorem ones64 (x : Nat) (hx : x < 18446744073709551616) (w : World) : Calls Tryd.prog 41 #[.int .u64 x] w fun e w' => e = .returned (.int .i64 (popN x 64 : Nat)) ∧ w' = w := by
  obtain ⟨a1, h1⟩ : ∃ a, a = x / 2 &&& 6148914691236517205 := ⟨_, rfl⟩
  obtain ⟨a2, h2⟩ : ∃ a, a = x &&& 6148914691236517205 := ⟨_, rfl⟩
  obtain ⟨y, hy⟩ : ∃ y, y = a1 + a2 := ⟨_, rfl⟩
  obtain ⟨b1, h3⟩ : ∃ a, a = y / 4 &&& 3689348814741910323 := ⟨_, rfl⟩
  obtain ⟨b2, h4⟩ : ∃ a, a = y &&& 3689348814741910323 := ⟨_, rfl⟩
  obtain ⟨z, hz⟩ : ∃ z, z = b1 + b2 := ⟨_, rfl⟩
  obtain ⟨z2, hz2⟩ : ∃ z2, z2 = z / 16 + z := ⟨_, rfl⟩
  obtain ⟨p, hp⟩ : ∃ a, a = z2 &&& 1085102592571150095 := ⟨_, rfl⟩
  obtain ⟨q, hq⟩ : ∃ q, q = p + p / 256 := ⟨_, rfl⟩
  obtain ⟨r, hr⟩ : ∃ r, r = q + q / 65536 := ⟨_, rfl⟩
  obtain ⟨s, hs⟩ : ∃ s, s = r + r / 4294967296 := ⟨_, rfl⟩
  obtain ⟨l1, l2, l3, p0, p1, p2, p3, p4, p5, p6, p7, e, he, e0, e1, e2, e3, e4, e5, e6, e7⟩ := count64 x hx y z p (by rw [hy, h1, h2]) (by rw [hz, h3, h4]) (by rw [hp, hz2])
  obtain ⟨m1, m2, m3, m4⟩ := count_end e e0 e1 e2 e3 e4 e5 e6 e7 hq hr hs
  have k1 : bits BinOp.and IntKind.u64 ((x : Int) / 2) 6148914691236517205 = (a1 : Int) := and64 (x / 2) 6148914691236517205 (by omega) (by omega) a1 h1
  have k2 : bits BinOp.and IntKind.u64 (x : Int) 6148914691236517205 = (a2 : Int) := and64 x 6148914691236517205 hx (by omega) a2 h2
  have k3 : IntKind.u64.wrap ((a1 : Int) + (a2 : Int)) = (y : Int) := by rw [hy]; exact wr64 (a1 + a2) (by rw [← hy]; exact l1)
  have k4 : bits BinOp.and IntKind.u64 ((y : Int) / 4) 3689348814741910323 = (b1 : Int) := and64 (y / 4) 3689348814741910323 (by omega) (by omega) b1 h3
  have k5 : bits BinOp.and IntKind.u64 (y : Int) 3689348814741910323 = (b2 : Int) := and64 y 3689348814741910323 l1 (by omega) b2 h4
  have k6 : IntKind.u64.wrap ((b1 : Int) + (b2 : Int)) = (z : Int) := by rw [hz]; exact wr64 (b1 + b2) (by rw [← hz]; exact l2)
  have k7 : IntKind.u64.wrap ((z : Int) / 16 + (z : Int)) = (z2 : Int) := by rw [hz2]; exact wr64 (z / 16 + z) l3
  have k8 : bits BinOp.and IntKind.u64 (z2 : Int) 1085102592571150095 = (p : Int) := and64 z2 1085102592571150095 (by rw [hz2]; exact l3) (by omega) p hp
  have k9 : IntKind.u64.wrap ((p : Int) + (p : Int) / 256) = (q : Int) := by rw [hq]; exact wr64 (p + p / 256) (by rw [← hq]; exact m1)
  have k10 : IntKind.u64.wrap ((q : Int) + (q : Int) / 65536) = (r : Int) := by rw [hr]; exact wr64 (q + q / 65536) (by rw [← hr]; exact m2)
  have k11 : IntKind.u64.wrap ((r : Int) + (r : Int) / 4294967296) = (s : Int) := by rw [hs]; exact wr64 (r + r / 4294967296) (by rw [← hs]; exact Nat.lt_trans m3 (by omega))
  have k12 : wrap64 (s : Int) = (s : Int) := by unfold wrap64; omega
  have k13 : bits BinOp.and IntKind.i64 (s : Int) 127 = (popN x 64 : Nat) := by
    rw [i64_and127, he, ← m4]
    rfl
  clear h1 h2 hy h3 h4 hz hz2 hp hq hr hs l1 l2 l3 e he e0 e1 e2 e3 e4 e5 e6 e7 m1 m2 m3 m4 hx
  generalize popN x 64 = P at *
  go_enter Tryd.func41, Tryd.ntmps41
  go_wp2_with fail
  go_ret
  exact ⟨rfl, rfl⟩
end Go.Proofs.YtjkojhebgkgdaaaDoor.Ecc
