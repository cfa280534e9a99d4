/-
  The walks of prefix.each, prefix.Find and prefix.Longest. Conditions: each lemma's own.
-/
import Derived.Test.YtobhpfbldmobfaaPrefixF
namespace Go.Proofs.Ytobhpfbldmobfaa.PrefixG
open Go.RowKit Go.Proofs.Ytobhpfbldmobfaa.Base Go.Proofs.Ytobhpfbldmobfaa.Prefix Go.Proofs.Ytobhpfbldmobfaa.PrefixF
set_option linter.unusedVariables false
/-- What each leaves in the closure's cells. -/
def EachR (W0 : World) (p q : Nat) (r : Option Nat) (e : Ending) (w' : World) : Prop := e = .returned (.tuple #[]) ∧ TwoCells w' p q r ∧ Upd Nil W0 w'
theorem ms_at {ps : List ByteArray} {l : List Ch} {now : List ByteArray} {k : Nat} (h : aft ps (l.take k) = now) : ms ps l now (k + 1) = ms ps l now k ++ [k] := by rw [ms_succ, if_pos h]
theorem ms_no {ps : List ByteArray} {l : List Ch} {now : List ByteArray} {k : Nat} (h : ¬ aft ps (l.take k) = now) : ms ps l now (k + 1) = ms ps l now k := by rw [ms_succ, if_neg h, List.append_nil]
set_option maxHeartbeats 8000000 in
set_option maxRecDepth 100000 in
theorem eachF (A D N : Option Addr) (c d n p q : Nat) (ps : List ByteArray) (l : List Ch) (now : List ByteArray) (W0 w : World) (hA : Arg W0 A 1 sc ps) (hD : Arg W0 D 2 cc l) (hN : Arg W0 N 1 sc now) (hU0 : Upd Nil W0 w)
    (hp : W0.heap.size ≤ p) (hq : W0.heap.size ≤ q) (hT : TwoCells w p q none) (hb : ps.length * 16 ≤ 140737488355328) (hl : l.length < maxLen) :
    Calls Try.prog 80 #[.slice A ps.length c, .slice D l.length d, .slice N now.length n, .func (.func 81) #[] #[.pointer (some ⟨p, 0, none⟩), .pointer (some ⟨q, 0, none⟩)]] w (EachR W0 p q (ms ps l now (l.length + 1)).head?) := by
  unfold maxLen at hl
  have hpw := blk_lt hT.at_
  have hqw := blk_lt hT.ok
  go_enter Try.func80, Try.ntmps80
  go_wp2_with fail
  refine (cloneStr A c ps w (hA.upd hU0) hb).mono ?_
  rintro e w1 ⟨v, rfl, hv, hU⟩
  obtain ⟨A1, c1, rfl, hc1⟩ := hv.form
  have hT1 := hT.upd hU (fun h => h) (fun h => h)
  have hU1 := hU0.trans hU (fun x hx => .inl hx)
  clear hU hT
  go_wp2_with fail
  go_loopw [9] (fun i wr => ∃ k : Nat, k ≤ l.length ∧ i = .int .i64 k ∧ Sl wr w.heap.size 9 1 sc (.slice A1 ps.length c1) (aft ps (l.take k)) ∧ TwoCells wr p q (ms ps l now k).head? ∧ ms ps l now k = [] ∧ Upd Nil W0 wr) (fun i _ => l.length - (intOf i).toNat)
  case atStart => exact ⟨0, Nat.zero_le _, rfl, hv, hT1, rfl, hU1⟩
  case round =>
    obtain ⟨k, hk, rfl, hS, hTk, hinv, hUk⟩ := hrel
    clear hv hT1 hU1
    have hAk := hS.cells sc_len (by omega)
    have hNk := hN.upd hUk
    have hq0 := equal A1 N c1 n (aft ps (l.take k)) now wr hAk hNk (by rw [aft_len]; unfold maxLen; omega)
    rw [aft_len] at hq0
    by_cases hM : aft ps (l.take k) = now
    · have hms := Lib.hid (ms_at hM)
      rw [decide_eq_true hM] at hq0
      have hMh := Lib.hid hM
      clear hM
      go_wp2_with (first
        | (go_at_call 96; refine hq0.mono ?_; rintro e w2 ⟨rfl, hU2⟩; have hT2 := hTk.upd hU2 (fun h => h) (fun h => h); have hU12 := hUk.trans hU2 (fun x hx => .inl hx))
        | (go_at_call 81; refine (tellF p q k _ _ hT2).mono ?_; rintro e w3 ⟨rfl, hT3, hU3⟩))
      go_end0
      exact ⟨rfl, by rw [ms_head hinv hMh.out (l.length + 1) (by omega)]; exact hT3, hU12.trans hU3 (fun x hx => .inr (by rcases hx with rfl | rfl <;> assumption))⟩
    · have hms := Lib.hid (ms_no hM)
      rw [decide_eq_false hM] at hq0
      clear hM
      by_cases hkl : k < l.length
      · have hkb : ((k : Int) == (l.length : Int)) = false := by simp; omega
        have ht := Lib.hid (aft_take ps l k hkl)
        obtain ⟨g, o, rfl, hg, qx⟩ := hD.resolve_left (fun e => by rw [e] at hkl; simp at hkl)
        have x0 := qx k hkl 0 (by omega)
        have x1 := qx k hkl 1 (by omega)
        clear qx
        generalize l[k] = y at *
        obtain ⟨x, s⟩ := y
        simp only [cc, List.getElem?_cons_zero, List.getElem?_cons_succ, Nat.add_zero] at x0 x1
        have hx0' : ∀ w', Upd Nil W0 w' → w'.cell? ⟨g, o + k * 2, none⟩ = some (.int .i64 x) := fun w' u => (u.cell (p := ⟨g, o + k * 2, none⟩) hg (fun h => h)).trans x0
        have hx1' : ∀ w', Upd Nil W0 w' → w'.cell? ⟨g, o + k * 2 + 1, none⟩ = some (.string s) := fun w' u => (u.cell (p := ⟨g, o + k * 2 + 1, none⟩) hg (fun h => h)).trans x1
        have hap := fun w2 h => apply w.heap.size (.slice A1 ps.length c1) (aft ps (l.take k)) x s w2 h
        go_wp2_with (first
          | (go_at_call 96; refine hq0.mono ?_; rintro e w2 ⟨rfl, hU2⟩; have hTk2 := hTk.upd hU2 (fun h => h) (fun h => h); have hU12 := hUk.trans hU2 (fun x hx => .inl hx); have hS2 := hS.upd hU2 (fun _ _ h => h); have hx0 := hx0' w2 hU12; have hx1 := hx1' w2 hU12; have hmsr := hms.out)
          | (go_at_call 84; refine (hap _ hS2).mono ?_; rintro e w3 ⟨rfl, hS3, hU3⟩))
        have hown : ∀ x, Own (.slice A1 ps.length c1) x → w.heap.size ≤ x := fun x hx => (hS2.typed x hx).1
        go_roundw
        case measure => simp [intOf]; omega
        case rel => exact ⟨k + 1, by omega, by simp, by rw [ht.out]; exact hS3, by rw [hmsr]; exact hTk2.upd hU3 (fun h => by have := hown _ h; omega) (fun h => by have := hown _ h; omega), by rw [hms.out]; exact hinv, hU12.trans hU3 (fun x hx => .inr (by have := hown _ hx; have := hU0.size; omega))⟩
      · obtain rfl : k = l.length := by omega
        have hkb : ((l.length : Int) == (l.length : Int)) = true := by simp
        go_wp2_with (go_at_call 96; refine hq0.mono ?_; rintro e w2 ⟨rfl, hU2⟩)
        go_end0
        exact ⟨rfl, by rw [hms.out]; exact hTk.upd hU2 (fun h => h) (fun h => h), hUk.trans hU2 (fun x hx => .inl hx)⟩
set_option maxHeartbeats 8000000 in
set_option maxRecDepth 100000 in
theorem eachL (A D N : Option Addr) (c d n p q : Nat) (ps : List ByteArray) (l : List Ch) (now : List ByteArray) (W0 w : World) (hA : Arg W0 A 1 sc ps) (hD : Arg W0 D 2 cc l) (hN : Arg W0 N 1 sc now) (hU0 : Upd Nil W0 w)
    (hp : W0.heap.size ≤ p) (hq : W0.heap.size ≤ q) (hT : TwoCells w p q none) (hb : ps.length * 16 ≤ 140737488355328) (hl : l.length < maxLen) :
    Calls Try.prog 80 #[.slice A ps.length c, .slice D l.length d, .slice N now.length n, .func (.func 82) #[] #[.pointer (some ⟨p, 0, none⟩), .pointer (some ⟨q, 0, none⟩)]] w (EachR W0 p q (ms ps l now (l.length + 1)).getLast?) := by
  unfold maxLen at hl
  have hpw := blk_lt hT.at_
  have hqw := blk_lt hT.ok
  go_enter Try.func80, Try.ntmps80
  go_wp2_with fail
  refine (cloneStr A c ps w (hA.upd hU0) hb).mono ?_
  rintro e w1 ⟨v, rfl, hv, hU⟩
  obtain ⟨A1, c1, rfl, hc1⟩ := hv.form
  have hT1 := hT.upd hU (fun h => h) (fun h => h)
  have hU1 := hU0.trans hU (fun x hx => .inl hx)
  clear hU hT
  go_wp2_with fail
  go_loopw [9] (fun i wr => ∃ k : Nat, k ≤ l.length ∧ i = .int .i64 k ∧ Sl wr w.heap.size 9 1 sc (.slice A1 ps.length c1) (aft ps (l.take k)) ∧ TwoCells wr p q (ms ps l now k).getLast? ∧ True ∧ Upd Nil W0 wr) (fun i _ => l.length - (intOf i).toNat)
  case atStart => exact ⟨0, Nat.zero_le _, rfl, hv, hT1, trivial, hU1⟩
  case round =>
    obtain ⟨k, hk, rfl, hS, hTk, hinv, hUk⟩ := hrel
    clear hv hT1 hU1
    have hAk := hS.cells sc_len (by omega)
    have hNk := hN.upd hUk
    have hq0 := equal A1 N c1 n (aft ps (l.take k)) now wr hAk hNk (by rw [aft_len]; unfold maxLen; omega)
    rw [aft_len] at hq0
    by_cases hM : aft ps (l.take k) = now
    · have hms := Lib.hid (ms_at hM)
      rw [decide_eq_true hM] at hq0
      have hMh := Lib.hid hM
      clear hM
      have hlast : Hid ((ms ps l now (k + 1)).getLast? = some k) := by show _ = _; rw [hms.out]; simp
      have hpo : ∀ x, Two p q x → x < w.heap.size := fun x hx => by rcases hx with rfl | rfl <;> assumption
      have hpn : ∀ x, Two p q x → W0.heap.size ≤ x := fun x hx => by rcases hx with rfl | rfl <;> assumption
      by_cases hkl : k < l.length
      · have hkb : ((k : Int) == (l.length : Int)) = false := by simp; omega
        have ht := Lib.hid (aft_take ps l k hkl)
        obtain ⟨g, o, rfl, hg, qx⟩ := hD.resolve_left (fun e => by rw [e] at hkl; simp at hkl)
        have x0 := qx k hkl 0 (by omega)
        have x1 := qx k hkl 1 (by omega)
        clear qx
        generalize l[k] = y at *
        obtain ⟨x, s⟩ := y
        simp only [cc, List.getElem?_cons_zero, List.getElem?_cons_succ, Nat.add_zero] at x0 x1
        have hx0' : ∀ w', Upd Nil W0 w' → w'.cell? ⟨g, o + k * 2, none⟩ = some (.int .i64 x) := fun w' u => (u.cell (p := ⟨g, o + k * 2, none⟩) hg (fun h => h)).trans x0
        have hx1' : ∀ w', Upd Nil W0 w' → w'.cell? ⟨g, o + k * 2 + 1, none⟩ = some (.string s) := fun w' u => (u.cell (p := ⟨g, o + k * 2 + 1, none⟩) hg (fun h => h)).trans x1
        have hap := fun w2 h => apply w.heap.size (.slice A1 ps.length c1) (aft ps (l.take k)) x s w2 h
        go_wp2_with (first
          | (first | (go_at_call 96; refine hq0.mono ?_; rintro e w4 ⟨rfl, hU4⟩; have hT4 := hTk.upd hU4 (fun h => h) (fun h => h); have hU14 := hUk.trans hU4 (fun x hx => .inl hx); have hS4 := hS.upd hU4 (fun _ _ h => h)) | (go_at_call 82; refine (tellL p q k _ _ hT4).mono ?_; rintro e w2 ⟨rfl, hTk2, hU2⟩; have hU12 := hU14.trans hU2 (fun x hx => .inr (hpn x hx)); have hS2 := hS4.upd hU2 (fun j hj hx => by have := (hS4.typed j hj).1; have := hpo j hx; omega); have hx0 := hx0' w2 hU12; have hx1 := hx1' w2 hU12; have hmsr := hlast.out))
          | (go_at_call 84; refine (hap _ hS2).mono ?_; rintro e w3 ⟨rfl, hS3, hU3⟩))
        have hown : ∀ x, Own (.slice A1 ps.length c1) x → w.heap.size ≤ x := fun x hx => (hS2.typed x hx).1
        go_roundw
        case measure => simp [intOf]; omega
        case rel => exact ⟨k + 1, by omega, by simp, by rw [ht.out]; exact hS3, by rw [hmsr]; exact hTk2.upd hU3 (fun h => by have := hown _ h; omega) (fun h => by have := hown _ h; omega), trivial, hU12.trans hU3 (fun x hx => .inr (by have := hown _ hx; have := hU0.size; omega))⟩
      · obtain rfl : k = l.length := by omega
        have hkb : ((l.length : Int) == (l.length : Int)) = true := by simp
        go_wp2_with (first
          | (go_at_call 96; refine hq0.mono ?_; rintro e w4 ⟨rfl, hU4⟩; have hT4 := hTk.upd hU4 (fun h => h) (fun h => h); have hU14 := hUk.trans hU4 (fun x hx => .inl hx))
          | (go_at_call 82; refine (tellL p q _ _ _ hT4).mono ?_; rintro e w2 ⟨rfl, hT2, hU2⟩))
        go_end0
        exact ⟨rfl, by rw [hlast.out]; exact hT2, hU14.trans hU2 (fun x hx => .inr (hpn x hx))⟩
    · have hms := Lib.hid (ms_no hM)
      rw [decide_eq_false hM] at hq0
      clear hM
      by_cases hkl : k < l.length
      · have hkb : ((k : Int) == (l.length : Int)) = false := by simp; omega
        have ht := Lib.hid (aft_take ps l k hkl)
        obtain ⟨g, o, rfl, hg, qx⟩ := hD.resolve_left (fun e => by rw [e] at hkl; simp at hkl)
        have x0 := qx k hkl 0 (by omega)
        have x1 := qx k hkl 1 (by omega)
        clear qx
        generalize l[k] = y at *
        obtain ⟨x, s⟩ := y
        simp only [cc, List.getElem?_cons_zero, List.getElem?_cons_succ, Nat.add_zero] at x0 x1
        have hx0' : ∀ w', Upd Nil W0 w' → w'.cell? ⟨g, o + k * 2, none⟩ = some (.int .i64 x) := fun w' u => (u.cell (p := ⟨g, o + k * 2, none⟩) hg (fun h => h)).trans x0
        have hx1' : ∀ w', Upd Nil W0 w' → w'.cell? ⟨g, o + k * 2 + 1, none⟩ = some (.string s) := fun w' u => (u.cell (p := ⟨g, o + k * 2 + 1, none⟩) hg (fun h => h)).trans x1
        have hap := fun w2 h => apply w.heap.size (.slice A1 ps.length c1) (aft ps (l.take k)) x s w2 h
        go_wp2_with (first
          | (go_at_call 96; refine hq0.mono ?_; rintro e w2 ⟨rfl, hU2⟩; have hTk2 := hTk.upd hU2 (fun h => h) (fun h => h); have hU12 := hUk.trans hU2 (fun x hx => .inl hx); have hS2 := hS.upd hU2 (fun _ _ h => h); have hx0 := hx0' w2 hU12; have hx1 := hx1' w2 hU12; have hmsr := hms.out)
          | (go_at_call 84; refine (hap _ hS2).mono ?_; rintro e w3 ⟨rfl, hS3, hU3⟩))
        have hown : ∀ x, Own (.slice A1 ps.length c1) x → w.heap.size ≤ x := fun x hx => (hS2.typed x hx).1
        go_roundw
        case measure => simp [intOf]; omega
        case rel => exact ⟨k + 1, by omega, by simp, by rw [ht.out]; exact hS3, by rw [hmsr]; exact hTk2.upd hU3 (fun h => by have := hown _ h; omega) (fun h => by have := hown _ h; omega), trivial, hU12.trans hU3 (fun x hx => .inr (by have := hown _ hx; have := hU0.size; omega))⟩
      · obtain rfl : k = l.length := by omega
        have hkb : ((l.length : Int) == (l.length : Int)) = true := by simp
        go_wp2_with (go_at_call 96; refine hq0.mono ?_; rintro e w2 ⟨rfl, hU2⟩)
        go_end0
        exact ⟨rfl, by rw [hms.out]; exact hTk.upd hU2 (fun h => h) (fun h => h), hUk.trans hU2 (fun x hx => .inl hx)⟩

end Go.Proofs.Ytobhpfbldmobfaa.PrefixG
