/-
  The walks of 'almshouselaw06.fixed' and 'almshouselaw06.PowerLasts': each returns true and turns nothing that there was. Conditions: the budget is a byte.
-/
import Derived.Test.YtobhpfbldmobfaaPowerW
namespace Go.Proofs.Ytobhpfbldmobfaa.PowerL
open Go.RowKit Go.Proofs.Ytobhpfbldmobfaa.Base Go.Proofs.Ytobhpfbldmobfaa.PowerW
set_option linter.unusedVariables false
set_option maxRecDepth 100000 in
theorem fixed_true (w : World) : Calls Try.prog 18 #[] w (RetB true w) := by
  go_enter Try.func18, Try.ntmps18
  go_wp2_with fail
  refine (new 1 w).mono ?_
  rintro e w1 ⟨b, rfl, hb, hP, hU⟩
  go_wp2_with fail
  refine (spendQ (l' := 0) (g' := false) (n' := 1) (r := 0) b w1 hP (by decide +kernel)).mono ?_
  rintro e w2 ⟨rfl, hP2, hU2⟩
  go_wp2_with fail
  refine (spendQ (l' := 0) (g' := true) (n' := 2) (r := 11) b w2 hP2 (by decide +kernel)).mono ?_
  rintro e w3 ⟨rfl, hP3, hU3⟩
  go_wp2_with fail
  refine (spendQ (l' := 0) (g' := true) (n' := 2) (r := 12) b w3 hP3 (by decide +kernel)).mono ?_
  rintro e w4 ⟨rfl, hP4, hU4⟩
  go_wp2_with fail
  refine (gone b 0 true 2 w4 hP4).mono ?_
  rintro e w' ⟨rfl, rfl⟩
  go_wp2_with fail
  refine (ops b 0 true 2 w4 hP4).mono ?_
  rintro e w' ⟨rfl, rfl⟩
  go_wp2_with fail
  go_ret
  exact ⟨rfl, ((hU.newOnly hU2 hb).newOnly hU3 hb).newOnly hU4 hb⟩

theorem lasts_step {n k : Nat} (h : k < n) (hn : n ≤ 255) : spendS ((n : Int) - k) false k = ((n : Int) - (k + 1 : Nat), false, ((k + 1 : Nat) : Int), 0) := by
  unfold spendS
  rw [if_neg (by decide), if_neg (by omega), if_pos (by omega)]
  unfold wrap64
  refine Prod.ext ?_ (Prod.ext rfl (Prod.ext ?_ rfl)) <;> simp <;> omega

theorem lasts_end {k : Nat} (hn : k ≤ 255) : spendS 0 false k = (0, true, (k : Int) + 1, 11) := by
  unfold spendS
  rw [if_neg (by decide), if_pos rfl]
  unfold wrap64
  refine Prod.ext rfl (Prod.ext rfl (Prod.ext ?_ rfl))
  simp only []
  omega

set_option maxRecDepth 100000 in
theorem lasts (n : Nat) (hn : n ≤ 255) (w : World) : Calls Try.prog 4 #[.int .u8 (n : Int)] w (RetB true w) := by
  go_enter Try.func4, Try.ntmps4
  go_wp2_with fail
  refine (fixed_true w).mono ?_
  rintro e w0 ⟨rfl, hU0⟩
  go_wp2_with fail
  refine (new (n : Int) w0).mono ?_
  rintro e w1 ⟨b, rfl, hb, hP, hU⟩
  go_wp2_with fail
  go_loopw [10] (fun c wr => ∃ k : Nat, k ≤ n ∧ c = .int .u8 k ∧ Pw wr b ((n : Int) - k) false k ∧ Upd Nil w wr) (fun c _ => n - (intOf c).toNat)
  case atStart => exact ⟨0, Nat.zero_le _, rfl, by simpa using hP, hU0.trans hU (fun x hx => .inl hx)⟩
  case round =>
    obtain ⟨k, hk, rfl, hPk, hUk⟩ := hrel
    by_cases hlt : k < n
    · go_wp2_with (go_at_call 20; refine (spendQ b _ hPk (lasts_step hlt hn)).mono ?_; rintro e w2 ⟨rfl, hP2, hU2⟩)
      go_roundw
      case rel => exact ⟨k + 1, by omega, by go_num, hP2, hUk.newOnly hU2 (by have := hU0.size; omega)⟩
      case measure => simp [intOf]; omega
    · obtain rfl : k = n := by omega
      have hz : ((k : Int) - k) = 0 := by omega
      rw [hz] at hPk
      have hb0 : w.heap.size ≤ b := by have := hU0.size; omega
      go_wp2_with fail
      refine (gone b 0 false k _ hPk).mono ?_
      rintro e w' ⟨rfl, rfl⟩
      go_wp2_with fail
      refine (spendQ (l' := 0) (g' := true) (n' := (k : Int) + 1) (r := 11) b _ hPk (lasts_end hn)).mono ?_
      rintro e w2 ⟨rfl, hP2, hU2⟩
      go_wp2_with fail
      refine (gone b 0 true _ _ hP2).mono ?_
      rintro e w' ⟨rfl, rfl⟩
      go_wp2_with fail
      refine (spendQ (l' := 0) (g' := true) (n' := (k : Int) + 1) (r := 12) b _ hP2 (by unfold spendS; rw [if_pos rfl])).mono ?_
      rintro e w3 ⟨rfl, hP3, hU3⟩
      go_wp2_with fail
      refine (ops b 0 true _ _ hP3).mono ?_
      rintro e w' ⟨rfl, rfl⟩
      go_wp2_with fail
      go_ret
      exact ⟨rfl, (hUk.newOnly hU2 hb0).newOnly hU3 hb0⟩
end Go.Proofs.Ytobhpfbldmobfaa.PowerL
