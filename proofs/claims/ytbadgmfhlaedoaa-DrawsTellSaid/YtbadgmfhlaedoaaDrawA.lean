/-
  Draws: slices.Min, Contains, Clone of whole numbers, the counters, of. Conditions: each lemma's own.
-/
import Derived.Test.YtbadgmfhlaedoaaInts
import Derived.Test.YtbadgmfhlaedoaaLex
import Derived.Laws.LoneSync
namespace Go.Proofs.Ytbadgmfhlaedoaa.Draw
open Go.RowKit Go.Proofs.Ytbadgmfhlaedoaa.Base Go.Proofs.Ytbadgmfhlaedoaa.Ints
set_option linter.unusedVariables false
set_option linter.unusedSimpArgs false
/-- slices.Clone: the same elements in a slice of one's own. -/
def ClonedI (l : List (Int)) (w : World) (e : Ending) (w' : World) : Prop := ∃ v, e = .returned v ∧ Sl w' w.heap.size 3 1 ic v l ∧ Upd Nil w w'
set_option maxRecDepth 100000 in
theorem cloneI (A : Option Addr) (c : Nat) (l : List (Int)) (w : World) (hA : Arg w A 1 ic l) (hb : l.length * 8 ≤ 140737488355328) :
    Calls Try.prog 13 #[.slice A l.length c] w (ClonedI l w) := by
  have hq : ∀ (w : World) (a : Option Addr) (n c n' c' : Nat), (binOp .eql 22 (.slice a n c) (.slice none n' c')).run Try.prog w = .ok (.bool a.isNone) w := fun w a n c n' c' => Lib.run_eql_slice_nil w _ _ a n c n' c' Try.underlying22
  cases A with
  | none =>
    obtain rfl : l = [] := hA.resolve_right (fun ⟨b, off, h, _⟩ => by cases h)
    go_enter Try.func13, Try.ntmps13
    go_wp2
    go_ret
    exact ⟨_, rfl, Sl.nil _ _ _ _ _, Upd.refl _ _⟩
  | some A =>
    have hz : Sl (w.alloc (.cells #[] 3)) w.heap.size 3 1 ic (.slice (some ⟨w.heap.size, 0, none⟩) 0 0) [] := Sl.zero _ _ _ _ _ _ (Nat.le_refl _)
    have hA2 := Src.ofArg (P := Try.prog) (tx := 22) ⟨_, elemI.ht⟩ elemI.len elemI.one (hA.upd ((Upd.refl _ _).alloc (.cells #[] 3))) c
    have hm : l.length ≤ maxLen := by unfold maxLen; omega
    go_enter Try.func13, Try.ntmps13
    go_wp2_with (at_builtin; (refine wp_app w.heap.size rfl (.tmp 5) (.tmp 6) elemI rfl (.slice (some ⟨w.heap.size, 0, none⟩) 0 0) [] l _ rfl rfl hA2 hz (by simp) (by simp; omega) (by simp; omega) ?_); intro A1 c1 w1 hv1 hg1 hat)
    go_ret
    exact ⟨_, rfl, by simpa using hv1, ((Upd.refl Nil w).alloc _).grown hg1 (fun k hk => .inr (by simp [Value.ownBlock] at hk; omega))⟩
/-- The first place of a number. -/
def idxL : List Int → Int → Int
  | [], _ => -1
  | x :: l, n => if x = n then 0 else if idxL l n < 0 then -1 else idxL l n + 1
theorem idxL_mem (l : List Int) (n : Int) : (0 ≤ idxL l n ↔ n ∈ l) ∧ -1 ≤ idxL l n := by
  induction l with
  | nil => simp [idxL]
  | cons x l ih =>
    unfold idxL
    by_cases h : x = n
    · simp [h]
    · rw [if_neg h]
      have h' : ¬ n = x := fun e => h e.symm
      by_cases h2 : idxL l n < 0
      · rw [if_pos h2]
        have : ¬ n ∈ l := fun hm => by have := ih.1.2 hm; omega
        simp [h', this]
      · rw [if_neg h2]
        have : n ∈ l := ih.1.1 (by omega)
        simp [h', this]
        omega
theorem idx_at {l : List Int} {n : Int} {k : Nat} (hk : k < l.length) (hno : ∀ j (hj : j < k), l[j] ≠ n) (he : l[k] = n) : idxL l n = k := by
  induction l generalizing k with
  | nil => simp at hk
  | cons x l ih =>
    unfold idxL
    cases k with
    | zero => simp at he; simp [he]
    | succ k =>
      have h0 : ¬ x = n := hno 0 (by omega)
      have := ih (k := k) (by simpa using hk) (fun j hj => hno (j + 1) (by omega)) (by simpa using he)
      rw [if_neg h0, this, if_neg (by omega)]
      omega
theorem idx_no {l : List Int} {n : Int} (hno : ∀ j (hj : j < l.length), l[j] ≠ n) : idxL l n = -1 := by
  induction l with
  | nil => rfl
  | cons x l ih =>
    unfold idxL
    have h0 : ¬ x = n := hno 0 (by simp)
    have := ih (fun j hj => hno (j + 1) (by simpa using hj))
    rw [if_neg h0, this]
    simp
set_option maxRecDepth 100000 in
theorem index (A : Option Addr) (c : Nat) (l : List Int) (n : Int) (w : World) (hA : Arg w A 1 ic l) (hm : l.length ≤ maxLen) :
    Calls Try.prog 18 #[.slice A l.length c, .int .i64 n] w fun e w' => e = .returned (.int .i64 (idxL l n)) ∧ w = w' := by
  unfold maxLen at hm
  go_enter Try.func18, Try.ntmps18
  go_wp2_with fail
  go_loop [5, 8] (fun s5 s8 => ∃ k : Nat, k ≤ l.length ∧ s8 = .int .i64 k ∧ (∀ j (hj : j < k) (hl : j < l.length), l[j] ≠ n)) (fun _ s8 => l.length - (intOf s8).toNat)
  case atStart => exact ⟨0, Nat.zero_le _, rfl, fun j hj => absurd hj (by omega)⟩
  case round =>
    obtain ⟨k, hk, rfl, hno⟩ := hrel
    have hnoH := Lib.hid hno
    clear hno
    by_cases hlt : k < l.length
    · obtain ⟨g, o, rfl, _, hc⟩ := ic_cell hA hlt
      by_cases he : l[k] = n
      · have hx := Lib.hid (idx_at hlt (fun j hj => hnoH.out j hj (by omega)) he)
        have heH := Lib.hid he
        rw [he] at hc
        clear he
        go_wp2_with fail
        go_ret
        exact ⟨ret_i hx.out.symm, rfl⟩
      · have heH := Lib.hid he
        have hb : (n == l[k]) = false := beq_eq_false_iff_ne.mpr (fun e => he e.symm)
        clear he
        go_wp2_with fail
        go_round
        case measure => simp [intOf]; omega
        case rel => exact ⟨k + 1, by omega, by go_num, fun j hj hl => by
          by_cases e : j = k
          · subst e; exact heH.out
          · exact hnoH.out j (by omega) hl⟩
    · obtain rfl : k = l.length := by omega
      have hx := Lib.hid (idx_no (fun j hj => hnoH.out j hj hj))
      go_wp2_with fail
      go_ret
      exact ⟨ret_i hx.out.symm, rfl⟩
theorem contains (A : Option Addr) (c : Nat) (l : List Int) (n : Int) (w : World) (hA : Arg w A 1 ic l) (hm : l.length ≤ maxLen) :
    Calls Try.prog 15 #[.slice A l.length c, .int .i64 n] w fun e w' => e = .returned (.bool (decide (n ∈ l))) ∧ w = w' := by
  have hk := index A c l n w hA hm
  have hd : Hid (decide (0 ≤ idxL l n) = decide (n ∈ l)) := by show _ = _; simp [(idxL_mem l n).1]
  go_enter Try.func15, Try.ntmps15
  go_wp2_with fail
  refine hk.mono ?_
  rintro e w' ⟨rfl, rfl⟩
  go_wp2_with fail
  go_ret
  exact ⟨ret_b hd.out, rfl⟩
/-- The least of a number and others. -/
def minL : List Int → Int → Int
  | [], m => m
  | x :: l, m => minL l (min m x)
theorem minL_lt (l : List Int) (m b : Int) : minL l m < b ↔ m < b ∨ ∃ x ∈ l, x < b := by
  induction l generalizing m with
  | nil => simp [minL]
  | cons x l ih =>
    unfold minL
    rw [ih]
    simp only [List.mem_cons, exists_eq_or_imp]
    have e : min m x < b ↔ m < b ∨ x < b := by omega
    rw [e, or_assoc]
theorem minL_take {l : List Int} {k : Nat} {m : Int} (h : k < l.length) : minL (l.take (k + 1)) m = min (minL (l.take k) m) l[k] := by
  rw [List.take_succ_eq_append_getElem h]
  have : ∀ (a : List Int) (m : Int), minL (a ++ [l[k]]) m = min (minL a m) l[k] := by
    intro a
    induction a with
    | nil => intro m; rfl
    | cons x a ih => intro m; exact ih _
  exact this _ _
set_option maxRecDepth 100000 in
theorem mins (A : Option Addr) (c : Nat) (x : Int) (l : List Int) (w : World) (hA : Arg w A 1 ic (x :: l)) (hm : (x :: l).length ≤ maxLen) :
    Calls Try.prog 12 #[.slice A (x :: l).length c] w fun e w' => e = .returned (.int .i64 (minL l x)) ∧ w = w' := by
  unfold maxLen at hm
  have hc0 := ic_cell hA (i := 0) (by simp)
  obtain ⟨g, o, rfl, hg, hc⟩ := hc0
  have hn1 : ¬ (((x :: l).length : Nat) : Int) < 1 := by simp; omega
  have hln : Hid ((x :: l).length = l.length + 1) := Lib.hid rfl
  have hcs : ∀ i (hi : i < l.length), w.cell? ⟨g, o + (i + 1), none⟩ = some (.int .i64 l[i]) := fun i hi => by
    obtain ⟨g', o', e, _, h⟩ := ic_cell hA (i := i + 1) (by simpa using hi)
    injection e with e
    injection e with e1 e2
    subst e1 e2
    simpa using h
  have hcsH := Lib.hid hcs
  simp only [Nat.add_zero, List.getElem_cons_zero] at hc
  clear hcs
  have hlen1 : 1 ≤ (x :: l).length := by simp
  generalize (x :: l).length = N at *
  go_enter Try.func12, Try.ntmps12
  go_wp2_with fail
  go_loop [3, 4] (fun s3 s4 => ∃ k : Nat, k ≤ l.length ∧ s4 = .int .i64 ((k : Int) + 1) ∧ s3 = .int .i64 (minL (l.take k) x)) (fun _ s4 => N - (intOf s4).toNat)
  case atStart => exact ⟨0, Nat.zero_le _, rfl, rfl⟩
  case round =>
    obtain ⟨k, hk, rfl, rfl⟩ := hrel
    have hN : N = l.length + 1 := hln.out
    subst hN
    by_cases hlt : k < l.length
    · have h1 := hcsH.out k hlt
      have hmn := Lib.hid (minL_take (m := x) hlt)
      go_wp2_with fail
      go_round
      case measure => simp [intOf]; omega
      case rel => exact ⟨k + 1, by omega, by go_num, by rw [hmn.out]; exact congrArg (Value.int .i64) (by split <;> omega)⟩
    · obtain rfl : k = l.length := by omega
      go_wp2_with fail
      go_ret
      exact ⟨rfl, rfl⟩
theorem addI (a : Addr) (x : Int) (w : World) (hc : w.cell? a = some (.int .i64 x)) (hz : w.frozen? a = false) (hx : 0 ≤ x ∧ x < 1000000) :
    Calls Try.prog 16 #[.pointer (some a), .int .i64 1] w fun e w' => e = .returned (.int .i64 (x + 1)) ∧ w.setCell a (.int .i64 (x + 1)) = w' := by
  obtain ⟨b, o, sp⟩ := a
  obtain rfl : sp = none := spot_none hc
  have hadd := run_call_add (P := Try.prog) Try.func19 (by kernel_rfl) (by kernel_rfl) (by kernel_rfl) .i64 (by kernel_rfl) (y := 1) (s := x + 1) hc hz (by simp [go_sem]; exact IntWalk.i64_in _ (by omega))
  go_enter Try.func16, Try.ntmps16
  go_wp2
  go_ret
  exact ⟨rfl, rfl⟩
theorem loadI (a : Addr) (x : Int) (w : World) (hc : w.cell? a = some (.int .i64 x)) :
    Calls Try.prog 17 #[.pointer (some a)] w fun e w' => e = .returned (.int .i64 x) ∧ w = w' := by
  obtain ⟨b, o, sp⟩ := a
  obtain rfl : sp = none := spot_none hc
  have hl := run_call_load (P := Try.prog) Try.func20 (by kernel_rfl) (by kernel_rfl) (by kernel_rfl) .i64 (by kernel_rfl) hc
  go_enter Try.func17, Try.ntmps17
  go_wp2
  go_ret
  exact ⟨rfl, rfl⟩
/-- Which tenant there is. -/
theorem of_nil (k : Int) (w : World) : Calls Try.prog 14 #[.pointer none, .int .i64 k] w fun e w' => e = .returned (.pointer none) ∧ w = w' := by
  go_enter Try.func14, Try.ntmps14
  go_wp2
  go_ret
  exact ⟨rfl, rfl⟩
theorem of_no (b : Nat) (k : Int) (h : k < 0 ∨ 4 ≤ k) (w : World) : Calls Try.prog 14 #[.pointer (some ⟨b, 0, none⟩), .int .i64 k] w fun e w' => e = .returned (.pointer none) ∧ w = w' := by
  rcases h with h | h
  · go_enter Try.func14, Try.ntmps14
    go_wp2
    go_ret
    exact ⟨rfl, rfl⟩
  · have h0 : ¬ k < 0 := by omega
    go_enter Try.func14, Try.ntmps14
    go_wp2
    go_ret
    exact ⟨rfl, rfl⟩
theorem of_yes (b : Nat) (k : Nat) (h : k < 4) (w : World) (u : Value) (hc : w.cell? ⟨b, 0, none⟩ = some u) : Calls Try.prog 14 #[.pointer (some ⟨b, 0, none⟩), .int .i64 k] w fun e w' => e = .returned (.pointer (some ⟨b, 3 * k, none⟩)) ∧ w = w' := by
  have hk : k = 0 ∨ k = 1 ∨ k = 2 ∨ k = 3 := by omega
  rcases hk with rfl | rfl | rfl | rfl
  all_goals
    go_enter Try.func14, Try.ntmps14
    go_wp2
    go_ret
    exact ⟨rfl, rfl⟩
end Go.Proofs.Ytbadgmfhlaedoaa.Draw
