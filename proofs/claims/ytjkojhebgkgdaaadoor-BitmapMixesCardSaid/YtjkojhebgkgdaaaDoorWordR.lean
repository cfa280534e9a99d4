/-
  The walks of the reference's Fits and Put. Conditions: each lemma's own.
-/
import Derived.Test.YtjkojhebgkgdaaaDoorWordA
namespace Go.Proofs.YtjkojhebgkgdaaaDoor.Word
open Go.RowKit Go.Proofs.YtjkojhebgkgdaaaDoor.Base
set_option linter.unusedVariables false
theorem putL_2 (b : List UInt8) (n : Nat) (h : n ≤ 65535) : putL b n 2 = b ++ le n 2 := by
  unfold putL
  rw [if_pos (by rw [fits_2]; simp; omega)]
  simp
theorem rfits (v n : Int) (w : World) : Calls Tryd.prog 49 #[.int .i64 v, .int .i64 n] w fun e w' => e = .returned (.bool (fitsB v n)) ∧ w = w' := by
  have hall : ∀ b, fitsB v n = b → Calls Tryd.prog 49 #[.int .i64 v, .int .i64 n] w fun e w' => e = .returned (.bool b) ∧ w = w' := by
    intro b hb
    cases hs : szd n with
    | false =>
      rw [fits_no hs] at hb
      subst hb
      have e1 : (n == 1) = false := by rw [beq_eq_false_iff_ne]; rintro rfl; cases hs
      have e2 : (n == 2) = false := by rw [beq_eq_false_iff_ne]; rintro rfl; cases hs
      have e4 : (n == 4) = false := by rw [beq_eq_false_iff_ne]; rintro rfl; cases hs
      clear hs
      go_enter Tryd.func49, Tryd.ntmps49
      go_wp2
      go_ret
      exact ⟨rfl, rfl⟩
    | true =>
      rcases szd_cases hs with rfl | rfl | rfl
      · rw [fits_1] at hb
        clear hs
        by_cases h0 : 0 ≤ v
        · have hd : Hid (decide (v ≤ 255) = b) := by show _ = _; rw [← hb]; simp [h0]
          clear hb
          go_enter Tryd.func49, Tryd.ntmps49
          go_wp2
          go_ret
          exact ⟨ret_b hd.out, rfl⟩
        · have hb0 : false = b := by rw [← hb]; simp [h0]
          subst hb0
          have h0d : decide (0 ≤ v) = false := decide_eq_false h0
          clear hb
          go_enter Tryd.func49, Tryd.ntmps49
          go_wp2
          go_ret
          exact ⟨rfl, rfl⟩
      · rw [fits_2] at hb
        clear hs
        by_cases h0 : 0 ≤ v
        · have hd : Hid (decide (v ≤ 65535) = b) := by show _ = _; rw [← hb]; simp [h0]
          clear hb
          go_enter Tryd.func49, Tryd.ntmps49
          go_wp2
          go_ret
          exact ⟨ret_b hd.out, rfl⟩
        · have hb0 : false = b := by rw [← hb]; simp [h0]
          subst hb0
          have h0d : decide (0 ≤ v) = false := decide_eq_false h0
          clear hb
          go_enter Tryd.func49, Tryd.ntmps49
          go_wp2
          go_ret
          exact ⟨rfl, rfl⟩
      · rw [fits_4] at hb
        clear hs
        by_cases h0 : 0 ≤ v
        · have hd : Hid (decide (v ≤ 4294967295) = b) := by show _ = _; rw [← hb]; simp [h0]
          clear hb
          go_enter Tryd.func49, Tryd.ntmps49
          go_wp2
          go_ret
          exact ⟨ret_b hd.out, rfl⟩
        · have hb0 : false = b := by rw [← hb]; simp [h0]
          subst hb0
          have h0d : decide (0 ≤ v) = false := decide_eq_false h0
          clear hb
          go_enter Tryd.func49, Tryd.ntmps49
          go_wp2
          go_ret
          exact ⟨rfl, rfl⟩
  exact hall _ rfl

set_option maxHeartbeats 4000000 in
set_option maxRecDepth 100000 in
theorem rput (A : Option Addr) (c : Nat) (b : List UInt8) (v n : Int) (w : World) (hA : Arg w A 1 bc b) (hb : b.length + 4 ≤ 140737488355328) :
    Calls Tryd.prog 46 #[.slice A b.length c, .int .i64 v, .int .i64 n] w (PutR b v n w) := by
  have hz : Sl (w.alloc (.cells #[] 5)) w.heap.size 5 1 bc (.slice (some ⟨w.heap.size, 0, none⟩) 0 0) [] := Sl.zero _ _ _ _ _ _ (Nat.le_refl _)
  have hA2 := Src.ofArg (P := Tryd.prog) (tx := 22) ⟨_, elemU8.ht⟩ elemU8.len elemU8.one (hA.upd ((Upd.refl _ _).alloc (.cells #[] 5))) c
  have hU0 : Upd Nil w (w.alloc (.cells #[] 5)) := (Upd.refl _ _).alloc _
  cases hf : fitsB v n with
  | false =>
    have hput : Hid (putL b v n = b) := by show _ = _; simp [putL, hf]
    have hfw := fun w => rfits v n w
    rw [hf] at hfw
    clear hf
    go_enter Tryd.func46, Tryd.ntmps46
    go_wp2_with (first
      | (go_at_call 49; refine (hfw _).mono ?_; rintro e w2 ⟨rfl, rfl⟩)
      | (at_builtin; (refine wp_app w.heap.size rfl (.tmp 9) (.tmp 10) elemU8 rfl _ [] b _ rfl rfl hA2 hz hU0.size (by simp; omega) (by unfold maxLen; simp; omega) ?_); intro A1 c1 w1 hv1 hg1 hat1))
    go_ret
    exact ⟨_, rfl, by rw [hput.out]; simpa using hv1, hU0.grownOwn hz (Nat.le_refl _) hg1⟩
  | true =>
    have hfw := fun w => rfits v n w
    rw [hf] at hfw
    have hput : Hid (putL b v n = b ++ le v.toNat n.toNat) := by show _ = _; simp [putL, hf]
    obtain ⟨hv0, hv1⟩ := fits_lo hf
    have hn : 0 ≤ n ∧ n ≤ 4 := by rcases szd_cases (fits_sz hf) with rfl | rfl | rfl <;> omega
    obtain ⟨hn0, hn4⟩ := hn
    obtain ⟨vn, rfl⟩ := Int.eq_ofNat_of_zero_le hv0
    obtain ⟨nn, rfl⟩ := Int.eq_ofNat_of_zero_le hn0
    simp only [Int.toNat_natCast] at hput
    clear hf
    go_enter Tryd.func46, Tryd.ntmps46
    go_wp2_with (first
      | (go_at_call 49; refine (hfw _).mono ?_; rintro e w2 ⟨rfl, rfl⟩)
      | (at_builtin; (refine wp_app w.heap.size rfl (.tmp 9) (.tmp 10) elemU8 rfl _ [] b _ rfl rfl hA2 hz hU0.size (by simp; omega) (by unfold maxLen; simp; omega) ?_); intro A1 c1 w1 hv1 hg1 hat1))
    have hU1 := hU0.grownOwn hz (Nat.le_refl _) hg1
    have hx1 : Sl w1 w.heap.size 5 1 bc (.slice A1 b.length c1) b := by simpa using hv1
    clear hv1 hg1 hat1
    go_loopw [1, 7, 8] (fun s1 s7 s8 wr => ∃ (k : Nat), k ≤ nn ∧ s8 = .int .i64 k ∧ s1 = .int .i64 ((vn / 256 ^ k : Nat) : Int) ∧ Sl wr w.heap.size 5 1 bc s7 (b ++ le vn k) ∧ Upd Nil w wr) (fun _ _ s8 _ => nn - (intOf s8).toNat)
    case atStart => exact ⟨0, Nat.zero_le _, rfl, by simp, by simpa [le] using hx1, hU1⟩
    case round =>
      obtain ⟨k, hk, rfl, rfl, hS, hU⟩ := hrel
      by_cases hlt : k < nn
      · have hlH := Lib.hid (le_succ vn k)
        have hby := Lib.hid (byteAt_of vn k)
        have hdv : Hid (((vn / 256 ^ (k + 1) : Nat) : Int) = ((vn / 256 ^ k : Nat) : Int) / 256) := by
          show _ = _
          rw [show (256 : Nat) ^ (k + 1) = 256 ^ k * 256 from rfl, ← Nat.div_div_eq_div_mul]
          simp
        have hlen : (b ++ le vn k).length = b.length + k := by rw [List.length_append, le_len]
        have hlenH := Lib.hid hlen
        clear hlen
        have hqH : Hid (vn / 256 ^ k < 4294967296) := by show _ < _; have := Nat.div_le_self vn (256 ^ k); omega
        generalize vn / 256 ^ k = q at *
        clear hv1 hv0
        generalize hL : b ++ le vn k = L at *
        have hLH := Lib.hid hL
        clear hL
        obtain ⟨A7, c7, rfl, hc7⟩ := hS.form
        have hB := hU.size
        have hl1 : L.length + 1 ≤ 140737488355328 := by have := hlenH.out; omega
        go_wp2_with (at_builtin; (refine wp_app1 w.heap.size rfl (.tmp 22) (.tmp 26) elemU8 rfl wr (byteAt vn k) (by show _ = World.alloc _ (.cells #[.int .u8 _] _); rw [hby.out]) _ L rfl (by simp [Act.eval]) hS hB (by omega) (by unfold maxLen; omega) ?_); intro A8 c8 w8 hv8 hg8 hat8)
        go_roundw
        case measure => simp [intOf]; omega
        case rel => exact ⟨k + 1, by omega, by simp, by rw [hdv.out]; exact congrArg (Value.int .i64) (by have := hqH.out; unfold wrap64; omega), by rw [hlH.out, ← List.append_assoc, hLH.out]; exact hv8, hU.grownOwn hS (Nat.le_refl _) hg8⟩
      · obtain rfl : k = nn := by omega
        go_wp2_with fail
        go_ret
        exact ⟨_, rfl, by rw [hput.out]; exact hS, hU⟩

end Go.Proofs.YtjkojhebgkgdaaaDoor.Word
