/-
  The walk of almshouseref24.All: the numbers for which the places are now. Conditions: no more than 60 changes.
-/
import Derived.Test.YtobhpfbldmobfaaPrefixJ
import Derived.Test.YtobhpfbldmobfaaPrefixK
namespace Go.Proofs.Ytobhpfbldmobfaa.PrefixM
open Go.RowKit Go.Proofs.Ytobhpfbldmobfaa.Base Go.Proofs.Ytobhpfbldmobfaa.Prefix Go.Proofs.Ytobhpfbldmobfaa.PrefixF Go.Proofs.Ytobhpfbldmobfaa.PrefixG Go.Proofs.Ytobhpfbldmobfaa.PrefixH Go.Proofs.Ytobhpfbldmobfaa.PrefixJ Go.Proofs.Ytobhpfbldmobfaa.PrefixK
set_option linter.unusedVariables false
def ic (k : Nat) : List Value := [.int .i64 (k : Int)]
theorem ic_len (x : Nat) : (ic x).length = 1 := rfl
theorem ic_one (x : Nat) : ∀ u ∈ ic x, u.oneCell' = true := by
  intro u hu
  simp [ic] at hu
  subst hu
  rfl
theorem ms_le (ps : List ByteArray) (l : List Ch) (now : List ByteArray) (k : Nat) : (ms ps l now k).length ≤ k := by
  unfold ms
  exact Nat.le_trans (List.length_filter_le _ _) (by simp)
def AllR (ps now : List ByteArray) (l : List Ch) (w : World) (e : Ending) (w' : World) : Prop := ∃ v, e = .returned v ∧ Sl w' w.heap.size 3 1 ic v (ms ps l now (l.length + 1)) ∧ Upd Nil w w'
set_option maxHeartbeats 8000000 in
set_option maxRecDepth 100000 in
theorem all (A D N : Option Addr) (c d n : Nat) (ps : List ByteArray) (l : List Ch) (now : List ByteArray) (w : World) (hA : Arg w A 1 sc ps) (hD : Arg w D 2 cc l) (hN : Arg w N 1 sc now) (hd : l.length ≤ d) (hdm : d ≤ maxLen) (hl60 : l.length ≤ 60)
    (hb : ps.length * 16 ≤ 140737488355328) :
    Calls Try.prog 41 #[.slice A ps.length c, .slice D l.length d, .slice N now.length n] w (AllR ps now l w) := by
  unfold maxLen at hdm
  have hadd : D.map (fun x => x.add 0) = D := by cases D <;> rfl
  have haft : ∀ n, n ≤ l.length → ∀ w', Upd Nil w w' → Calls Try.prog 46 #[.slice A ps.length c, .slice D n d] w' (AftR ps (l.take n) w') := by
    intro n hn w' hU
    have := rafter A D c d ps (l.take n) w' (hA.upd hU) ((arg_take hD n).upd hU) (by omega) (by unfold maxLen; rw [List.length_take]; omega)
    rwa [List.length_take_of_le hn] at this
  go_enter Try.func41, Try.ntmps41
  go_wp2_with fail
  go_loopw [7, 8] (fun s7 s8 wr => ∃ (k : Nat), k ≤ l.length + 1 ∧ s8 = .int .i64 k ∧ Sl wr w.heap.size 3 1 ic s7 (ms ps l now k) ∧ Upd Nil w wr) (fun _ s8 _ => l.length + 1 - (intOf s8).toNat)
  case atStart => exact ⟨0, Nat.zero_le _, rfl, Sl.nil _ _ _ _ _, Upd.refl _ _⟩
  case round =>
    obtain ⟨k, hk, rfl, hS, hU⟩ := hrel
    by_cases hkl : k ≤ l.length
    · have hkd : k ≤ d := by omega
      have hle := ms_le ps l now k
      go_wp2_with fail
      refine (haft k hkl _ hU).mono ?_
      rintro e w1 ⟨v, rfl, hv, hU1⟩
      obtain ⟨A1, c1, rfl, hc1⟩ := hv.form
      have hR := hv.cells sc_len (by omega)
      have hR63 : (aft ps (l.take k)).length ≤ maxLen := by rw [aft_len]; unfold maxLen; omega
      have hU01 := hU.trans hU1 (fun x hx => .inl hx)
      have hS1 := hS.upd hU1 (fun _ _ h => h)
      clear hv hS hc1
      go_wp2_with fail
      refine (same A1 N c1 n (aft ps (l.take k)) now w1 hR (hN.upd hU01) hR63).mono ?_
      rintro e w2 ⟨rfl, hU2⟩
      have hU02 := hU01.trans hU2 (fun x hx => .inl hx)
      have hS2 := hS1.upd hU2 (fun _ _ h => h)
      have hB2 := hU02.size
      clear hS1 hR hR63
      by_cases hM : aft ps (l.take k) = now
      · have hms := Lib.hid (ms_at hM)
        have hMd : decide (aft ps (l.take k) = now) = true := decide_eq_true hM
        clear hM
        obtain ⟨A7, c7, rfl, hc7⟩ := hS2.form
        go_wp2_with (at_builtin; (refine wp_append1 (sz := 1) (f := ic) w.heap.size rfl (.tmp 22) (.tmp 24) 32 3 (.int .i64 0) 8 rfl Try.underlying32 (by kernel_rfl) rfl (by omega) ic_len ic_one w2 k (by rfl) _ (ms ps l now k) rfl (by simp [Act.eval]) hS2 hB2 (by omega) (by unfold maxLen; omega) ?_); intro A8 c8 w8 hv8 hg8 hat8)
        go_roundw
        case measure => simp [intOf]; omega
        case rel =>
          refine ⟨k + 1, by omega, by simp, by rw [hms.out]; exact hv8, hU02.grown hg8 (fun j hj => .inr (hS2.typed j hj).1)⟩
      · have hms := Lib.hid (ms_no hM)
        have hMd : decide (aft ps (l.take k) = now) = false := decide_eq_false hM
        clear hM
        go_wp2_with fail
        go_roundw
        case measure => simp [intOf]; omega
        case rel => exact ⟨k + 1, by omega, by simp, by rw [hms.out]; exact hS2, hU02⟩
    · obtain rfl : k = l.length + 1 := by omega
      go_wp2_with fail
      go_ret
      exact ⟨_, rfl, hS, hU⟩
end Go.Proofs.Ytobhpfbldmobfaa.PrefixM
