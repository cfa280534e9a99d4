/-
  The reference's tables: the walk of Worth. Conditions: what the table holds.
-/
import Derived.Test.YtcifkccaiekkeaaTableQ
namespace Go.Proofs.Ytcifkccaiekkeaa.Table
open Go.RowKit Go.Proofs.Ytcifkccaiekkeaa.Base Go.Proofs.Ytcifkccaiekkeaa.Ints
set_option linter.unusedVariables false
set_option linter.unusedSimpArgs false
theorem rw_take {R : List Row3} {i : Int} {k : Nat} (hk : k < R.length) : rWorthV (R.take (k + 1)) i = rWorthV (R.take k) i + if (R[k].2.1 : Int) = i then 1 else 0 := by
  unfold rWorthV
  rw [List.take_succ_eq_append_getElem hk, List.countP_append]
  congr 1
  by_cases h : (R[k].2.1 : Int) = i <;> simp [h]
theorem rw_len (R : List Row3) (i : Int) (k : Nat) : rWorthV (R.take k) i ≤ R.length := Nat.le_trans List.countP_le_length (by simp; omega)
def RWoR (R : List Row3) (i : Int) (w : World) (e : Ending) (w' : World) : Prop := e = .returned (.int .i64 (rWorthV R i : Nat)) ∧ Upd Nil w w'
set_option maxHeartbeats 4000000 in
set_option maxRecDepth 100000 in
theorem rworth (G : Nat → Prop) (b : Nat) (R : List Row3) (n m i : Int) (hlen : R.length ≤ 1000000) (w : World) (h : RTb G w b R n m) : Calls Try.prog 28 #[.pointer (some ⟨b, 0, none⟩), .int .i64 i] w (RWoR R i w) := by
  obtain ⟨V, h⟩ := h
  have hbk := h.blk
  obtain ⟨A, c, rfl, hc⟩ := h.sl.form
  have hA := h.sl.cells r3_len (by omega)
  have c2 : w.cell? ⟨b, 2, none⟩ = some (.slice A R.length c) := blk_cell hbk 2
  have c0 : w.cell? ⟨b, 0, none⟩ = some (.int .i64 n) := blk_cell hbk 0
  clear h hbk
  go_enter Try.func28, Try.ntmps28
  go_wp2_with fail
  go_loopw [5, 7, 13] (fun s5 s7 s13 wr => ∃ k : Nat, k ≤ R.length ∧ s13 = .int .i64 k ∧ s5 = .int .i64 (rWorthV (R.take k) i : Nat) ∧ Upd Nil w wr) (fun _ _ s13 _ => R.length - (intOf s13).toNat)
  case atStart => exact ⟨0, by omega, rfl, rfl, Upd.refl _ _⟩
  case round =>
    obtain ⟨k, hk, rfl, rfl, hU⟩ := hrel
    by_cases hlt : k < R.length
    · obtain ⟨g, o, rfl, e0, e1, e2⟩ := r3_cell (hA.upd hU) hlt
      have hst := Lib.hid (rw_take (i := i) hlt)
      have hfl := rw_len R i k
      have hUa : Upd Nil w (wr.alloc (.cells (r3 R[k]).toArray 117)) := hU.alloc _
      by_cases h1 : (R[k].2.1 : Int) = i
      · have hxb : ((R[k].2.1 : Int) == i) = true := by simpa using h1
        have hn : Hid (rWorthV (R.take (k + 1)) i = rWorthV (R.take k) i + 1) := by show _ = _; rw [hst.out, if_pos h1]
        clear h1 hst
        generalize rWorthV (R.take k) i = x at *
        go_wp2_with fail
        go_roundw
        case measure => simp [intOf]; omega
        case rel => exact ⟨k + 1, by omega, by go_num, by rw [hn.out]; go_num, hUa⟩
      · have hb : ((R[k].2.1 : Int) == i) = false := beq_eq_false_iff_ne.mpr h1
        have hn : Hid (rWorthV (R.take (k + 1)) i = rWorthV (R.take k) i) := by show _ = _; rw [hst.out, if_neg h1, Nat.add_zero]
        clear h1 hst
        generalize rWorthV (R.take k) i = x at *
        go_wp2_with fail
        go_roundw
        case measure => simp [intOf]; omega
        case rel => exact ⟨k + 1, by omega, by go_num, by rw [hn.out], hUa⟩
    · obtain rfl : k = R.length := by omega
      go_wp2_with fail
      go_ret
      exact ⟨ret_i (by rw [List.take_length]), hU⟩
end Go.Proofs.Ytcifkccaiekkeaa.Table
