/-
  Tables of pages: the walks of Count, Grow, New. Conditions: what the table holds.
-/
import Derived.Test.YtcifkccaiekkeaaTableB
namespace Go.Proofs.Ytcifkccaiekkeaa.Table
open Go.RowKit Go.Proofs.Ytcifkccaiekkeaa.Base Go.Proofs.Ytcifkccaiekkeaa.Ints
set_option linter.unusedVariables false
set_option linter.unusedSimpArgs false
/-- How many rows stand in the first blocks. -/
def cntL (R : List Row3) (k : Nat) : Nat := R.countP fun r => decide (r.2.1 < k)
theorem cnt_succ (R : List Row3) (k : Nat) : cntL R (k + 1) = cntL R k + worthOf R k := by
  unfold cntL worthOf
  induction R with
  | nil => rfl
  | cons r R ih =>
    rw [List.countP_cons, List.countP_cons, List.countP_cons, ih]
    by_cases h1 : r.2.1 < k
    · have : ¬ r.2.1 = k := by omega
      have h2 : r.2.1 < k + 1 := by omega
      simp [h1, this, h2]
      omega
    · by_cases h2 : r.2.1 = k
      · simp [h2]
        omega
      · have h3 : ¬ r.2.1 < k + 1 := by omega
        simp [h1, h2, h3]
theorem cnt_all {R : List Row3} {n m : Nat} (h : In R n m) : cntL R n = R.length := by
  unfold cntL
  rw [List.countP_eq_length]
  intro r hr
  exact decide_eq_true (h r hr).2.1
theorem cnt_zero (R : List Row3) : cntL R 0 = 0 := by
  unfold cntL
  rw [List.countP_eq_zero]
  simp
theorem count_nil (w : World) : Calls Try.prog 22 #[.pointer none] w fun e w' => e = .returned (.int .i64 0) ∧ w = w' := by
  go_enter Try.func22, Try.ntmps22
  go_wp2_with fail
  go_ret
  exact ⟨rfl, rfl⟩
set_option maxRecDepth 100000 in
theorem count (F : Nat → Prop) (b : Nat) (R : List Row3) (n m : Nat) (w : World) (h : Tb F w b R n m) : Calls Try.prog 22 #[.pointer (some ⟨b, 0, none⟩)] w fun e w' => e = .returned (.int .i64 (R.length : Nat)) ∧ w = w' := by
  obtain ⟨gs, V, W, h⟩ := h
  have cW := h.cW
  have cp := h.pages
  have hn := h.hn
  have hlen := len64 h.pw h.inn
  have hcn : ∀ k, cntL R k ≤ 64 := fun k => Nat.le_trans List.countP_le_length hlen
  have hall := Lib.hid (cnt_all h.inn)
  have hzero := Lib.hid (cnt_zero R)
  have hwor : Hid (∀ i, i < n → ∃ gw ow c, W = .slice (some ⟨gw, ow, none⟩) n c ∧ n ≤ c ∧ w.cell? ⟨gw, ow + i, none⟩ = some (.int .i64 (worthOf R i : Nat)) ∧ w.frozen? ⟨gw, ow + i, none⟩ = false) := Lib.hid (fun i hi => h.wor hi)
  obtain ⟨A, c, rfl, hc⟩ := h.formW
  have hcH := Lib.hid hcn
  clear h hcn
  go_enter Try.func22, Try.ntmps22
  go_wp2_with fail
  go_loop [3, 5, 13] (fun s3 s5 s13 => ∃ k : Nat, k ≤ n ∧ s13 = .int .i64 k ∧ s3 = .int .i64 (cntL R k : Nat)) (fun _ _ s13 => n - (intOf s13).toNat)
  case atStart => exact ⟨0, by omega, rfl, by rw [hzero.out]; rfl⟩
  case round =>
    obtain ⟨k, hk, rfl, rfl⟩ := hrel
    by_cases hlt : k < n
    · obtain ⟨gw, ow, c', e1, _, s1, _⟩ := hwor.out k hlt
      injection e1 with e1 _ _
      subst e1
      have hs := Lib.hid (cnt_succ R k)
      have h1 := hcH.out k
      have h2 : worthOf R k ≤ 64 := by have := hcH.out (k + 1); rw [hs.out] at this; omega
      generalize worthOf R k = x at *
      go_wp2_with fail
      go_round
      case measure => simp [intOf]; omega
      case rel => exact ⟨k + 1, by omega, by go_num, by rw [hs.out]; go_num⟩
    · obtain rfl : k = n := by omega
      go_wp2_with fail
      go_ret
      exact ⟨ret_i (by rw [hall.out]), rfl⟩
end Go.Proofs.Ytcifkccaiekkeaa.Table
