/-
  The walk of almshouselaw01.fixed: it returns true and turns nothing that there was. Conditions: none.
-/
import Derived.Test.YtcifkccaiekkeaaWordB
import Derived.Test.YtcifkccaiekkeaaWordC
namespace Go.Proofs.Ytcifkccaiekkeaa.Word
open Go.RowKit Go.Proofs.Ytcifkccaiekkeaa.Base
set_option linter.unusedVariables false
theorem st1 : (⟨[2, 1, 1, 0, 120, 1, 9], 0⟩ : Rd).number 2 = (258, ⟨[1, 0, 120, 1, 9], 0⟩) := rfl
theorem st2 : (⟨[1, 0, 120, 1, 9], 0⟩ : Rd).text 3 = ([120], ⟨[1, 9], 0⟩) := rfl
theorem st3 : (⟨[1, 9], 0⟩ : Rd).flag = (true, ⟨[9], 0⟩) := rfl
theorem st4 : (⟨[9], 0⟩ : Rd).done = (2, ⟨[9], 2⟩) := rfl
theorem st5 : putL [] 258 2 = [2, 1] := by decide +kernel
theorem st6 : fitsB 256 1 = false := by decide +kernel
theorem Rdr.newOnly {b : Nat} {a w w' : World} (h : Upd Nil a w) (k : Upd (Only b) w w') (hb : a.heap.size ≤ b) : Upd Nil a w' := h.newOnly k hb
set_option maxHeartbeats 4000000 in
set_option maxRecDepth 100000 in
theorem fixed (w : World) : Calls Try.prog 44 #[] w (RetB true w) := by
  have hbytes : ([2, 1, 1, 0, 120, 1, 9] : List UInt8).length = 7 := rfl
  have h1 : Arg (w.alloc (.cells #[.int .u8 2, .int .u8 1, .int .u8 1, .int .u8 0, .int .u8 120, .int .u8 1, .int .u8 9] 5)) (some ⟨w.heap.size, 0, none⟩) 1 bc [2, 1, 1, 0, 120, 1, 9] := arg_lit bc_len (blk_new _ _) rfl
  have hU0 : Upd Nil w (w.alloc (.cells #[.int .u8 2, .int .u8 1, .int .u8 1, .int .u8 0, .int .u8 120, .int .u8 1, .int .u8 9] 5)) := (Upd.refl _ _).alloc _
  have hcv : ∀ A c w', Arg w' A 1 bc [2, 1] → (convert 50 9 (.slice A 2 c)).run Try.prog w' = .ok (.string ⟨#[2, 1]⟩) w' := fun A c w' h => run_bstr (P := Try.prog) Try.underlying50 Try.underlying5 Try.underlying9 (l := [2, 1]) h c
  have hfw := fun w => fits_w 256 1 w
  rw [st6] at hfw
  go_enter Try.func44, Try.ntmps44
  go_wp2_with fail
  refine (read _ 7 [2, 1, 1, 0, 120, 1, 9] _ h1 (by simp)).mono ?_
  rintro e w1 ⟨b, v1, rfl, hb, hR, hU1⟩
  have hbw : w.heap.size ≤ b := by simp at hb; omega
  have hU01 := hU0.trans hU1 (fun x hx => .inl hx)
  go_wp2_with fail
  refine (number _ _ _ _ 2 _ hR).mono ?_
  rw [st1]
  rintro e w2 ⟨rfl, ⟨v2, hR2⟩, hU2⟩
  have hU02 := hU01.newOnly hU2 hbw
  go_wp2_with fail
  refine (rdText _ _ _ _ 3 _ hR2).mono ?_
  rw [st2]
  rintro e w3 ⟨rfl, ⟨v3, hR3⟩, hU3⟩
  have hU03 := hU02.newOnly hU3 hbw
  go_wp2_with fail
  refine (flag _ _ _ _ _ hR3).mono ?_
  rw [st3]
  rintro e w4 ⟨rfl, ⟨v4, hR4⟩, hU4⟩
  have hU04 := hU03.newOnly hU4 hbw
  go_wp2_with fail
  refine (put none 0 [] 258 2 _ (.inl rfl) (by simp)).mono ?_
  rintro e w5 ⟨x, rfl, hx, hU5⟩
  rw [st5] at hx
  obtain ⟨A5, c5, rfl, hc5⟩ := hx.form
  have hcv5 := hcv A5 c5 w5 (hx.cells bc_len (by omega))
  have hU05 := hU04.trans hU5 (fun x hx => .inl hx)
  have hR5 := hR4.upd0 hU5
  clear hcv hx
  go_wp2_with fail
  refine (left _ _ _ _ _ hR5).mono ?_
  rintro e w6 ⟨rfl, rfl⟩
  go_wp2_with fail
  refine (done _ _ _ _ _ hR5).mono ?_
  rw [st4]
  rintro e w7 ⟨rfl, ⟨v7, hR7⟩, hU7⟩
  have hU07 := hU05.newOnly hU7 hbw
  go_wp2_with (go_at_call 59; refine (hfw _).mono ?_; rintro e w8 ⟨rfl, rfl⟩)
  go_ret
  exact ⟨rfl, hU07⟩
end Go.Proofs.Ytcifkccaiekkeaa.Word
