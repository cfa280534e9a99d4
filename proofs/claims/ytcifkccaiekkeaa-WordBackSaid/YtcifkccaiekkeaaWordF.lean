/-
  The walk of almshouselaw01.WordBack: it returns true and turns nothing that there was. Conditions: none.
-/
import Derived.Test.YtcifkccaiekkeaaWordD
import Derived.Test.YtcifkccaiekkeaaLex
namespace Go.Proofs.Ytcifkccaiekkeaa.Word
open Go.RowKit Go.Proofs.Ytcifkccaiekkeaa.Base
set_option linter.unusedVariables false
theorem number_nil (w : World) : Calls Try.prog 46 #[.pointer none, .int .i64 1] w fun e w' => e = .returned (.int .i64 0) ∧ w = w' := by
  go_enter Try.func46, Try.ntmps46
  go_wp2
  go_ret
  exact ⟨rfl, rfl⟩
theorem number_nil2 (w : World) : Calls Try.prog 46 #[.pointer none, .int .i64 2] w fun e w' => e = .returned (.int .i64 0) ∧ w = w' := by
  go_enter Try.func46, Try.ntmps46
  go_wp2
  go_ret
  exact ⟨rfl, rfl⟩
theorem left_nil (w : World) : Calls Try.prog 54 #[.pointer none] w fun e w' => e = .returned (.int .i64 0) ∧ w = w' := by
  go_enter Try.func54, Try.ntmps54
  go_wp2
  go_ret
  exact ⟨rfl, rfl⟩
theorem done_nil (w : World) : Calls Try.prog 52 #[.pointer none] w fun e w' => e = .returned (.int .i64 1) ∧ w = w' := by
  go_enter Try.func52, Try.ntmps52
  go_wp2
  go_ret
  exact ⟨rfl, rfl⟩
theorem flag_nil (w : World) : Calls Try.prog 50 #[.pointer none] w fun e w' => e = .returned (.bool false) ∧ w = w' := by
  go_enter Try.func50, Try.ntmps50
  go_wp2_with (go_at_call 46; refine (number_nil _).mono ?_; rintro e w' ⟨rfl, rfl⟩)
  go_ret
  exact ⟨rfl, rfl⟩
theorem text_nil (m : Int) (w : World) : Calls Try.prog 48 #[.pointer none, .int .i64 m] w fun e w' => e = .returned (.string ⟨#[]⟩) ∧ w = w' := by
  go_enter Try.func48, Try.ntmps48
  go_wp2_with (go_at_call 46; refine (number_nil2 _).mono ?_; rintro e w' ⟨rfl, rfl⟩)
  go_ret
  exact ⟨rfl, rfl⟩
/-! ### what is put is read -/
theorem number_le (v n : Nat) (r : List UInt8) (hn : szd n = true) (hv : v < 256 ^ n) : (⟨le v n ++ r, 0⟩ : Rd).number n = (v, ⟨r, 0⟩) := by
  have hl := le_len v n
  have h1 : (le v n ++ r).take n = le v n := List.take_left' hl
  have h2 : (le v n ++ r).drop n = r := List.drop_left' hl
  have h3 : ¬ (le v n ++ r).length < n := by rw [List.length_append, hl]; omega
  unfold Rd.number Rd.next
  rw [if_pos hn]
  simp only [Int.toNat_natCast, ne_eq, not_true_eq_false, if_false, h3, h1, h2, num_le, Nat.mod_eq_of_lt hv]
theorem text_le (s r : List UInt8) (h : s.length ≤ 65535) : (⟨le s.length 2 ++ (s ++ r), 0⟩ : Rd).text s.length = (s, ⟨r, 0⟩) := by
  have h1 := number_le s.length 2 (s ++ r) rfl (by omega)
  unfold Rd.text
  rw [show ((2 : Nat) : Int) = 2 from rfl] at h1
  rw [h1]
  unfold Rd.next
  simp
theorem flag_le (f : Bool) : (⟨le (if f then 1 else 0) 1, 0⟩ : Rd).flag = (f, ⟨[], 0⟩) := by cases f <;> rfl
theorem putL_4 (v : Nat) (h : v ≤ 4294967295) : putL [] v 4 = le v 4 := by
  unfold putL
  rw [if_pos (by rw [fits_4]; simp; omega)]
  simp
theorem putL_1 (b : List UInt8) (f : Bool) : putL b (if f then 1 else 0) 1 = b ++ le (if f then 1 else 0) 1 := by
  cases f <;> rfl
set_option maxHeartbeats 4000000 in
set_option maxRecDepth 100000 in
theorem back_false (n : Nat) (s : ByteArray) (w : World) (h1 : n ≤ 4294967295) (hsl : s.size ≤ maxLen) (hs : ¬ 1000 < s.size) : Calls Try.prog 10 #[.int .u32 n, .string s, .bool false] w (RetB true w) := by
  have hk1 : ∀ w, Calls Try.prog 55 #[.slice none 0 0, .int .i64 n, .int .i64 4] w (fun e w' => ∃ x, e = .returned x ∧ Sl w' w.heap.size 5 1 bc x (le n 4) ∧ Upd Nil w w') := fun w => by
    have := put none 0 [] n 4 w (.inl rfl) (by simp)
    unfold PutR at this
    rw [putL_4 n (by omega)] at this
    exact this
  have hsz := size_list s
  generalize hT : s.data.toList = t at *
  have hst : s = ⟨t.toArray⟩ := by rw [← hT]
  have ht : textL (le n 4) s = le n 4 ++ (le t.length 2 ++ t) := by
    unfold textL
    rw [if_neg (by omega), hT, hsz, List.append_assoc]
  have e1 : (⟨le n 4 ++ (le t.length 2 ++ (t ++ le 0 1)), 0⟩ : Rd).number 4 = (n, ⟨le t.length 2 ++ (t ++ le 0 1), 0⟩) := number_le n 4 _ rfl (by omega)
  have e2 : (⟨le t.length 2 ++ (t ++ le 0 1), 0⟩ : Rd).text t.length = (t, ⟨le 0 1, 0⟩) := text_le t _ (by omega)
  have e3 : (⟨le 0 1, 0⟩ : Rd).flag = (false, ⟨[], 0⟩) := rfl
  have hput : putL (le n 4 ++ (le t.length 2 ++ t)) 0 1 = le n 4 ++ (le t.length 2 ++ (t ++ le 0 1)) := by
    show _ ++ le 0 1 = _
    simp
  have hlen1 : (le n 4 ++ (le t.length 2 ++ t)).length = 6 + t.length := by simp [le_len]; omega
  have hlen2 : (le n 4 ++ (le t.length 2 ++ (t ++ le 0 1))).length = 7 + t.length := by simp [le_len]; omega
  have hlen0 := le_len n 4
  have k2 := fun (A : Option Addr) (c : Nat) (w : World) h => text A c (le n 4) s w h (by omega)
  generalize le n 4 ++ (le t.length 2 ++ t) = B3 at *
  generalize le n 4 ++ (le t.length 2 ++ (t ++ le 0 1)) = B4 at *
  generalize le t.length 2 ++ (t ++ le 0 1) = r1 at *
  generalize le 0 1 = r2 at *
  generalize le n 4 = B2 at *
  have hF := Lib.hid (And.intro ht (And.intro e1 (And.intro e2 (And.intro e3 hput))))
  have hL := Lib.hid (And.intro hlen0 (And.intro hlen1 (And.intro hlen2 hsz)))
  have hstH := Lib.hid hst
  have htl : t.length ≤ 1000 := by omega
  have hss : t.length = s.size := hsz
  have hssH := Lib.hid hss
  clear ht e1 e2 e3 hput hlen0 hlen1 hlen2 hsz hst hT hss
  have hw64 : wrap64 (n : Int) = n := by unfold wrap64; omega
  clear h1
  unfold maxLen at hsl
  go_enter Try.func10, Try.ntmps10
  go_wp2_with (go_at_call 44; refine (fixed _).mono ?_; rintro e w1 ⟨rfl, hU1⟩)
  refine (hk1 _).mono ?_
  rintro e w2 ⟨x2, rfl, hx2, hU2⟩
  obtain ⟨A2, c2, rfl, hc2⟩ := hx2.form
  clear hk1 hc2
  go_wp2_with fail
  refine (k2 A2 c2 _ (hx2.cells bc_len (by omega))).mono ?_
  rintro e w3 ⟨x3, rfl, hx3, hU3⟩
  rw [hF.out.1] at hx3
  obtain ⟨A3, c3, rfl, hc3⟩ := hx3.form
  have hU03 := (hU1.tr hU2).tr hU3
  clear hx2 hU1 hU2 hU3 hc3 k2
  go_wp2_with fail
  refine (put A3 c3 B3 0 1 _ (hx3.cells bc_len (by omega)) (by have := hL.out.2.1; omega)).mono ?_
  rintro e w4 ⟨x4, rfl, hx4, hU4⟩
  rw [hF.out.2.2.2.2] at hx4
  obtain ⟨A4, c4, rfl, hc4⟩ := hx4.form
  have hU04 := hU03.tr hU4
  clear hU03 hU4 hx3 hc4
  go_wp2_with fail
  refine (read A4 c4 B4 _ (hx4.cells bc_len (by omega)) (by have := hL.out.2.2.1; omega)).mono ?_
  rintro e w5 ⟨b, v5, rfl, hb, hR, hU5⟩
  have hbw : w.heap.size ≤ b := Nat.le_trans hU04.size hb
  have hU05 := hU04.tr hU5
  clear hx4
  go_wp2_with fail
  refine (number_nil _).mono ?_
  rintro e w' ⟨rfl, rfl⟩
  go_wp2_with fail
  refine (left_nil _).mono ?_
  rintro e w' ⟨rfl, rfl⟩
  go_wp2_with fail
  refine (text_nil _ _).mono ?_
  rintro e w' ⟨rfl, rfl⟩
  go_wp2_with fail
  refine (flag_nil _).mono ?_
  rintro e w' ⟨rfl, rfl⟩
  go_wp2_with fail
  refine (done_nil _).mono ?_
  rintro e w' ⟨rfl, rfl⟩
  go_wp2_with fail
  refine (number _ _ _ _ 4 _ hR).mono ?_
  rw [hF.out.2.1]
  rintro e w6 ⟨rfl, ⟨v6, hR6⟩, hU6⟩
  have hU06 := hU05.newOnly hU6 hbw
  go_wp2_with fail
  rw [← hssH.out]
  refine (rdText _ _ _ _ t.length _ hR6).mono ?_
  rw [hF.out.2.2.1]
  rintro e w7 ⟨rfl, ⟨v7, hR7⟩, hU7⟩
  have hU07 := hU06.newOnly hU7 hbw
  rw [hstH.out]
  go_wp2_with fail
  refine (flag _ _ _ _ _ hR7).mono ?_
  rw [hF.out.2.2.2.1]
  rintro e w8 ⟨rfl, ⟨v8, hR8⟩, hU8⟩
  have hU08 := hU07.newOnly hU8 hbw
  go_wp2_with fail
  refine (done _ _ _ _ _ hR8).mono ?_
  rintro e w9 ⟨rfl, ⟨v9, hR9⟩, hU9⟩
  have hU09 := hU08.newOnly hU9 hbw
  have hd0 : (⟨[], 0⟩ : Rd).done.1 = 0 := rfl
  rw [hd0]
  go_wp2_with fail
  go_ret
  exact ⟨rfl, hU09⟩
set_option maxHeartbeats 4000000 in
set_option maxRecDepth 100000 in
theorem back_true (n : Nat) (s : ByteArray) (w : World) (h1 : n ≤ 4294967295) (hsl : s.size ≤ maxLen) (hs : ¬ 1000 < s.size) : Calls Try.prog 10 #[.int .u32 n, .string s, .bool true] w (RetB true w) := by
  have hk1 : ∀ w, Calls Try.prog 55 #[.slice none 0 0, .int .i64 n, .int .i64 4] w (fun e w' => ∃ x, e = .returned x ∧ Sl w' w.heap.size 5 1 bc x (le n 4) ∧ Upd Nil w w') := fun w => by
    have := put none 0 [] n 4 w (.inl rfl) (by simp)
    unfold PutR at this
    rw [putL_4 n (by omega)] at this
    exact this
  have hsz := size_list s
  generalize hT : s.data.toList = t at *
  have hst : s = ⟨t.toArray⟩ := by rw [← hT]
  have ht : textL (le n 4) s = le n 4 ++ (le t.length 2 ++ t) := by
    unfold textL
    rw [if_neg (by omega), hT, hsz, List.append_assoc]
  have e1 : (⟨le n 4 ++ (le t.length 2 ++ (t ++ le 1 1)), 0⟩ : Rd).number 4 = (n, ⟨le t.length 2 ++ (t ++ le 1 1), 0⟩) := number_le n 4 _ rfl (by omega)
  have e2 : (⟨le t.length 2 ++ (t ++ le 1 1), 0⟩ : Rd).text t.length = (t, ⟨le 1 1, 0⟩) := text_le t _ (by omega)
  have e3 : (⟨le 1 1, 0⟩ : Rd).flag = (true, ⟨[], 0⟩) := rfl
  have hput : putL (le n 4 ++ (le t.length 2 ++ t)) 1 1 = le n 4 ++ (le t.length 2 ++ (t ++ le 1 1)) := by
    show _ ++ le 1 1 = _
    simp
  have hlen1 : (le n 4 ++ (le t.length 2 ++ t)).length = 6 + t.length := by simp [le_len]; omega
  have hlen2 : (le n 4 ++ (le t.length 2 ++ (t ++ le 1 1))).length = 7 + t.length := by simp [le_len]; omega
  have hlen0 := le_len n 4
  have k2 := fun (A : Option Addr) (c : Nat) (w : World) h => text A c (le n 4) s w h (by omega)
  generalize le n 4 ++ (le t.length 2 ++ t) = B3 at *
  generalize le n 4 ++ (le t.length 2 ++ (t ++ le 1 1)) = B4 at *
  generalize le t.length 2 ++ (t ++ le 1 1) = r1 at *
  generalize le 1 1 = r2 at *
  generalize le n 4 = B2 at *
  have hF := Lib.hid (And.intro ht (And.intro e1 (And.intro e2 (And.intro e3 hput))))
  have hL := Lib.hid (And.intro hlen0 (And.intro hlen1 (And.intro hlen2 hsz)))
  have hstH := Lib.hid hst
  have htl : t.length ≤ 1000 := by omega
  have hss : t.length = s.size := hsz
  have hssH := Lib.hid hss
  clear ht e1 e2 e3 hput hlen0 hlen1 hlen2 hsz hst hT hss
  have hw64 : wrap64 (n : Int) = n := by unfold wrap64; omega
  clear h1
  unfold maxLen at hsl
  go_enter Try.func10, Try.ntmps10
  go_wp2_with (go_at_call 44; refine (fixed _).mono ?_; rintro e w1 ⟨rfl, hU1⟩)
  refine (hk1 _).mono ?_
  rintro e w2 ⟨x2, rfl, hx2, hU2⟩
  obtain ⟨A2, c2, rfl, hc2⟩ := hx2.form
  clear hk1 hc2
  go_wp2_with fail
  refine (k2 A2 c2 _ (hx2.cells bc_len (by omega))).mono ?_
  rintro e w3 ⟨x3, rfl, hx3, hU3⟩
  rw [hF.out.1] at hx3
  obtain ⟨A3, c3, rfl, hc3⟩ := hx3.form
  have hU03 := (hU1.tr hU2).tr hU3
  clear hx2 hU1 hU2 hU3 hc3 k2
  go_wp2_with fail
  refine (put A3 c3 B3 1 1 _ (hx3.cells bc_len (by omega)) (by have := hL.out.2.1; omega)).mono ?_
  rintro e w4 ⟨x4, rfl, hx4, hU4⟩
  rw [hF.out.2.2.2.2] at hx4
  obtain ⟨A4, c4, rfl, hc4⟩ := hx4.form
  have hU04 := hU03.tr hU4
  clear hU03 hU4 hx3 hc4
  go_wp2_with fail
  refine (read A4 c4 B4 _ (hx4.cells bc_len (by omega)) (by have := hL.out.2.2.1; omega)).mono ?_
  rintro e w5 ⟨b, v5, rfl, hb, hR, hU5⟩
  have hbw : w.heap.size ≤ b := Nat.le_trans hU04.size hb
  have hU05 := hU04.tr hU5
  clear hx4
  go_wp2_with fail
  refine (number_nil _).mono ?_
  rintro e w' ⟨rfl, rfl⟩
  go_wp2_with fail
  refine (left_nil _).mono ?_
  rintro e w' ⟨rfl, rfl⟩
  go_wp2_with fail
  refine (text_nil _ _).mono ?_
  rintro e w' ⟨rfl, rfl⟩
  go_wp2_with fail
  refine (flag_nil _).mono ?_
  rintro e w' ⟨rfl, rfl⟩
  go_wp2_with fail
  refine (done_nil _).mono ?_
  rintro e w' ⟨rfl, rfl⟩
  go_wp2_with fail
  refine (number _ _ _ _ 4 _ hR).mono ?_
  rw [hF.out.2.1]
  rintro e w6 ⟨rfl, ⟨v6, hR6⟩, hU6⟩
  have hU06 := hU05.newOnly hU6 hbw
  go_wp2_with fail
  rw [← hssH.out]
  refine (rdText _ _ _ _ t.length _ hR6).mono ?_
  rw [hF.out.2.2.1]
  rintro e w7 ⟨rfl, ⟨v7, hR7⟩, hU7⟩
  have hU07 := hU06.newOnly hU7 hbw
  rw [hstH.out]
  go_wp2_with fail
  refine (flag _ _ _ _ _ hR7).mono ?_
  rw [hF.out.2.2.2.1]
  rintro e w8 ⟨rfl, ⟨v8, hR8⟩, hU8⟩
  have hU08 := hU07.newOnly hU8 hbw
  go_wp2_with fail
  refine (done _ _ _ _ _ hR8).mono ?_
  rintro e w9 ⟨rfl, ⟨v9, hR9⟩, hU9⟩
  have hU09 := hU08.newOnly hU9 hbw
  have hd0 : (⟨[], 0⟩ : Rd).done.1 = 0 := rfl
  rw [hd0]
  go_wp2_with fail
  go_ret
  exact ⟨rfl, hU09⟩
theorem back (v : Int) (s : ByteArray) (f : Bool) (w : World) (h0 : 0 ≤ v) (h1 : v ≤ 4294967295) (hsl : s.size ≤ maxLen) : Calls Try.prog 10 #[.int .u32 v, .string s, .bool f] w (RetB true w) := by
  by_cases hs : 1000 < s.size
  · unfold maxLen at hsl
    go_enter Try.func10, Try.ntmps10
    go_wp2_with (go_at_call 44; refine (fixed _).mono ?_; rintro e w1 ⟨rfl, hU1⟩)
    go_ret
    exact ⟨rfl, hU1⟩
  · obtain ⟨n, rfl⟩ := Int.eq_ofNat_of_zero_le h0
    cases f
    · exact back_false n s w (by omega) hsl hs
    · exact back_true n s w (by omega) hsl hs
end Go.Proofs.Ytcifkccaiekkeaa.Word
