/-
  A set that is nil; what is put and dropped. Conditions: what the arguments' slices hold; the table of Go's library is as it was laid.
-/
import Derived.Test.YtjkojhebgkgdaaaDoorBitV
namespace Go.Proofs.YtjkojhebgkgdaaaDoor.Bit
open Go.RowKit Go.Proofs.YtjkojhebgkgdaaaDoor.Base Go.Proofs.YtjkojhebgkgdaaaDoor.Ints Go.Proofs.YtjkojhebgkgdaaaDoor.Ecc
set_option linter.unusedVariables false
set_option linter.unusedSimpArgs false
set_option maxRecDepth 100000
theorem mayN (n : Int) (w : World) : Calls Tryd.prog 40 #[.pointer none, .int .i64 n] w fun e w' => e = .returned (.bool false) ∧ w' = w := by
  go_enter Tryd.func40, Tryd.ntmps40
  go_wp2_with fail
  go_ret
  exact ⟨rfl, rfl⟩
theorem hasN (n : Int) (w : World) : Calls Tryd.prog 21 #[.pointer none, .int .i64 n] w fun e w' => e = .returned (.bool false) ∧ w' = w := by
  go_enter Tryd.func21, Tryd.ntmps21
  go_wp2_with fail
  refine (mayN n w).mono ?_
  rintro e w' ⟨rfl, rfl⟩
  go_wp2_with fail
  go_ret
  exact ⟨rfl, rfl⟩
theorem putN (n : Int) (w : World) : Calls Tryd.prog 20 #[.pointer none, .int .i64 n] w fun e w' => e = .returned (.bool false) ∧ w' = w := by
  go_enter Tryd.func20, Tryd.ntmps20
  go_wp2_with fail
  refine (mayN n w).mono ?_
  rintro e w' ⟨rfl, rfl⟩
  go_wp2_with fail
  go_ret
  exact ⟨rfl, rfl⟩
theorem sizeN (w : World) : Calls Tryd.prog 14 #[.pointer none] w fun e w' => e = .returned (.int .i64 0) ∧ w' = w := by
  go_enter Tryd.func14, Tryd.ntmps14
  go_wp2_with fail
  go_ret
  exact ⟨rfl, rfl⟩
theorem wordsN (w : World) : Calls Tryd.prog 34 #[.pointer none] w fun e w' => e = .returned (.slice none 0 0) ∧ w' = w := by
  go_enter Tryd.func34, Tryd.ntmps34
  go_wp2_with fail
  go_ret
  exact ⟨rfl, rfl⟩
theorem bytesN (w : World) : Calls Tryd.prog 11 #[.pointer none] w fun e w' => e = .returned (.slice none 0 0) ∧ w' = w := by
  go_enter Tryd.func11, Tryd.ntmps11
  go_wp2_with fail
  go_ret
  exact ⟨rfl, rfl⟩
theorem mixN (o v : Value) (w : World) : Calls Tryd.prog 36 #[.pointer none, o, v] w fun e w' => e = .returned (.pointer none) ∧ w' = w := by
  go_enter Tryd.func36, Tryd.ntmps36
  go_wp2_with fail
  go_ret
  exact ⟨rfl, rfl⟩
theorem withN (o : Value) (w : World) : Calls Tryd.prog 16 #[.pointer none, o] w fun e w' => e = .returned (.pointer none) ∧ w' = w := by
  have k := fun v => mixN o v w
  go_enter Tryd.func16, Tryd.ntmps16
  go_wp2_with fail
  refine (k _).mono ?_
  rintro e w' ⟨rfl, rfl⟩
  go_wp2_with fail
  go_ret
  exact ⟨rfl, rfl⟩
theorem lenN (w : World) : Calls Tryd.prog 22 #[.pointer none] w fun e w' => e = .returned (.int .i64 0) ∧ w' = w := by
  go_enter Tryd.func22, Tryd.ntmps22
  go_wp2_with fail
  refine (wordsN w).mono ?_
  rintro e w' ⟨rfl, rfl⟩
  go_wp2_with fail
  go_loopw [3, 9] (fun s3 s9 wr => s3 = .int .i64 0 ∧ s9 = .int .i64 0 ∧ wr = w') (fun _ _ _ => 0)
  case atStart => exact ⟨by go_num, by go_num, rfl⟩
  case round =>
    obtain ⟨rfl, rfl, rfl⟩ := hrel
    go_wp2_with fail
    go_ret
    exact ⟨rfl, rfl⟩
theorem allN (w : World) : Calls Tryd.prog 13 #[.pointer none] w fun e w' => e = .returned (.slice none 0 0) ∧ w' = w := by
  go_enter Tryd.func13, Tryd.ntmps13
  go_wp2_with fail
  refine (wordsN w).mono ?_
  rintro e w' ⟨rfl, rfl⟩
  go_wp2_with fail
  go_loopw [3, 9] (fun s3 s9 wr => s3 = .slice none 0 0 ∧ s9 = .int .i64 0 ∧ wr = w') (fun _ _ _ => 0)
  case atStart => exact ⟨rfl, by go_num, rfl⟩
  case round =>
    obtain ⟨rfl, rfl, rfl⟩ := hrel
    go_wp2_with fail
    go_ret
    exact ⟨rfl, rfl⟩
theorem firstN (has : Bool) (w : World) : Calls Tryd.prog 23 #[.pointer none, .int .i64 0, .bool has] w fun e w' => e = .returned (.int .i64 (-1)) ∧ w' = w := by
  go_enter Tryd.func23, Tryd.ntmps23
  go_wp2_with fail
  go_loopw [7] (fun s7 wr => s7 = .int .i64 0 ∧ wr = w) (fun _ _ => 0)
  case atStart => exact ⟨by go_num, rfl⟩
  case round =>
    obtain ⟨rfl, rfl⟩ := hrel
    go_wp2_with fail
    refine (sizeN wr).mono ?_
    rintro e w' ⟨rfl, rfl⟩
    go_wp2_with fail
    go_ret
    exact ⟨rfl, rfl⟩
end Go.Proofs.YtjkojhebgkgdaaaDoor.Bit
