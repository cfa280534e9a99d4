/-
  Levelling: the walks of clamp and Sum, the program's and the reference's. Conditions: what the slices hold.
-/
import Derived.Test.YtenhimaclecdpaaInts
import Derived.Test.YtenhimaclecdpaaLevelQ
import Derived.Test.YtenhimaclecdpaaLex
namespace Go.Proofs.Ytenhimaclecdpaa.Level
open Go.RowKit Go.Proofs.Ytenhimaclecdpaa.Base Go.Proofs.Ytenhimaclecdpaa.Ints
set_option linter.unusedVariables false
set_option linter.unusedSimpArgs false
def IntR (v : Int) (w : World) (e : Ending) (w' : World) : Prop := e = .returned (.int .i64 v) ∧ w = w'
theorem clamp (v : Int) (w : World) : Calls Try.prog 47 #[.int .i64 v] w (IntR (cl v) w) := by
    by_cases h1 : v < 0
    · rw [show cl v = 0 by unfold cl; rw [if_pos h1]]
      have h2 : v ≤ 0 := by omega
      have h3 : ¬ 0 < v := by omega
      go_enter Try.func47, Try.ntmps47
      go_wp2_with fail
      go_ret
      exact ⟨rfl, rfl⟩
    by_cases h2 : 1073741824 < v
    · rw [show cl v = 1073741824 by unfold cl; rw [if_neg h1, if_pos h2]]
      have h3 : 0 < v := by omega
      have h4 : ¬ v ≤ 1073741824 := by omega
      go_enter Try.func47, Try.ntmps47
      go_wp2_with fail
      go_ret
      exact ⟨rfl, rfl⟩
    rw [show cl v = v by unfold cl; rw [if_neg h1, if_neg h2]]
    have h4 : v ≤ 1073741824 := by omega
    go_enter Try.func47, Try.ntmps47
    go_wp2_with fail
    go_ret
    exact ⟨rfl, rfl⟩
theorem rclamp (v : Int) (w : World) : Calls Try.prog 48 #[.int .i64 v] w (IntR (cl v) w) := by
    by_cases h1 : v < 0
    · rw [show cl v = 0 by unfold cl; rw [if_pos h1]]
      have h2 : v ≤ 0 := by omega
      have h3 : ¬ 0 < v := by omega
      go_enter Try.func48, Try.ntmps48
      go_wp2_with fail
      go_ret
      exact ⟨rfl, rfl⟩
    by_cases h2 : 1073741824 < v
    · rw [show cl v = 1073741824 by unfold cl; rw [if_neg h1, if_pos h2]]
      have h3 : 0 < v := by omega
      have h4 : ¬ v ≤ 1073741824 := by omega
      go_enter Try.func48, Try.ntmps48
      go_wp2_with fail
      go_ret
      exact ⟨rfl, rfl⟩
    rw [show cl v = v by unfold cl; rw [if_neg h1, if_neg h2]]
    have h4 : v ≤ 1073741824 := by omega
    go_enter Try.func48, Try.ntmps48
    go_wp2_with fail
    go_ret
    exact ⟨rfl, rfl⟩
set_option maxHeartbeats 1000000 in
theorem sumC (A : Option Addr) (c : Nat) (l : List Int) (w : World) (h : Arg w A 1 ic l) (hl : l.length ≤ 1000) : Calls Try.prog 15 #[.slice A l.length c] w (IntR (sum l) w) := by
    go_enter Try.func15, Try.ntmps15
    go_wp2_with fail
    go_loopw [3, 8] (fun s3 s8 wr => ∃ i : Nat, i ≤ l.length ∧ s8 = .int .i64 i ∧ s3 = .int .i64 (sumN l i) ∧ w = wr) (fun _ s8 _ => l.length - (intOf s8).toNat)
    case atStart => exact ⟨0, by omega, rfl, rfl, rfl⟩
    case round =>
      obtain ⟨i, hi, rfl, rfl, rfl⟩ := hrel
      by_cases hlt : i < l.length
      · obtain ⟨g, o, rfl, _, c0⟩ := ic_cell h hlt
        have hb := sumN_bnd l i
        have e1 := Lib.hid (show sumN l (i + 1) = sumN l i + cl l[i] by simp only [sumN]; rw [gD hlt])
        have q1 := cl_lo l[i]
        have q2 := cl_hi l[i]
        have hw := Lib.hid (show wrap64 (sumN l i + cl l[i]) = sumN l (i + 1) by rw [e1.out]; unfold wrap64; omega)
        generalize l[i] = v at *
        go_wp2_with fail
        refine (clamp v _).mono ?_
        rintro e w' ⟨rfl, rfl⟩
        go_wp2_with fail
        go_roundw
        case measure => simp [intOf]; omega
        case rel => exact ⟨i + 1, by omega, by go_num, by rw [e1.out], trivial⟩
      · obtain rfl : i = l.length := by omega
        go_wp2_with fail
        go_ret
        exact ⟨rfl, rfl⟩
set_option maxHeartbeats 1000000 in
theorem rsumC (A : Option Addr) (c : Nat) (l : List Int) (w : World) (h : Arg w A 1 ic l) (hl : l.length ≤ 1000) : Calls Try.prog 16 #[.slice A l.length c] w (IntR (sum l) w) := by
    go_enter Try.func16, Try.ntmps16
    go_wp2_with fail
    go_loopw [3, 8] (fun s3 s8 wr => ∃ i : Nat, i ≤ l.length ∧ s8 = .int .i64 i ∧ s3 = .int .i64 (sumN l i) ∧ w = wr) (fun _ s8 _ => l.length - (intOf s8).toNat)
    case atStart => exact ⟨0, by omega, rfl, rfl, rfl⟩
    case round =>
      obtain ⟨i, hi, rfl, rfl, rfl⟩ := hrel
      by_cases hlt : i < l.length
      · obtain ⟨g, o, rfl, _, c0⟩ := ic_cell h hlt
        have hb := sumN_bnd l i
        have e1 := Lib.hid (show sumN l (i + 1) = sumN l i + cl l[i] by simp only [sumN]; rw [gD hlt])
        have q1 := cl_lo l[i]
        have q2 := cl_hi l[i]
        have hw := Lib.hid (show wrap64 (sumN l i + cl l[i]) = sumN l (i + 1) by rw [e1.out]; unfold wrap64; omega)
        generalize l[i] = v at *
        go_wp2_with fail
        refine (rclamp v _).mono ?_
        rintro e w' ⟨rfl, rfl⟩
        go_wp2_with fail
        go_roundw
        case measure => simp [intOf]; omega
        case rel => exact ⟨i + 1, by omega, by go_num, by rw [e1.out], trivial⟩
      · obtain rfl : i = l.length := by omega
        go_wp2_with fail
        go_ret
        exact ⟨rfl, rfl⟩
end Go.Proofs.Ytenhimaclecdpaa.Level
