/-
  Draws: the reference's Check and Next. Conditions: what the slices hold.
-/
import Derived.Test.YtbadgmfhlaedoaaDrawC
import Derived.RegionTactic
namespace Go.Proofs.Ytbadgmfhlaedoaa.Draw
open Go.RowKit Go.Proofs.Ytbadgmfhlaedoaa.Base Go.Proofs.Ytbadgmfhlaedoaa.Ints
set_option linter.unusedVariables false
set_option linter.unusedSimpArgs false
def rC (A : Nat → Option Addr) (c : Nat → Nat) (fa : Nat → List Int) (op bad : Nat → Int) : Array Value :=
  #[slv A c fa 0, slv A c fa 1, slv A c fa 2, slv A c fa 3, .int .i64 (op 0), .int .i64 (op 1), .int .i64 (op 2), .int .i64 (op 3), .int .i64 (bad 0), .int .i64 (bad 1), .int .i64 (bad 2), .int .i64 (bad 3)]
/-- What the reference's draws hold; the slices lie below n. -/
structure RM (n : Nat) (w : World) (b : Nat) (A : Nat → Option Addr) (c : Nat → Nat) (fa : Nat → List Int) (op bad : Nat → Int) : Prop where
  blk : w.heap[b]? = some (.cells (rC A c fa op bad) 35 (0, 0))
  arg : Args w A c fa
  far : ∀ i, i < 4 → ∀ g o, A i = some ⟨g, o, none⟩ → fa i ≠ [] → g < n
  hb : n ≤ b
theorem RM.upd {n : Nat} {w w' : World} {b : Nat} {A : Nat → Option Addr} {c : Nat → Nat} {fa : Nat → List Int} {op bad : Nat → Int} (h : RM n w b A c fa op bad) (u : Upd Nil w w') : RM n w' b A c fa op bad :=
  ⟨u.blk h.blk (fun h => h), h.arg.upd u, h.far, h.hb⟩
/-- Another block, not of the slices, is written to. -/
theorem Args.far {n : Nat} {w w' : World} {A : Nat → Option Addr} {c : Nat → Nat} {fa : Nat → List Int} (h : Args w A c fa) (hf : ∀ i, i < 4 → ∀ g o, A i = some ⟨g, o, none⟩ → fa i ≠ [] → g < n) {b : Nat} (hb : n ≤ b) (u : Upd (Only b) w w') : Args w' A c fa := by
  refine ⟨fun i hi => ?_, h.le⟩
  rcases h.arg i hi with e | ⟨g, o, e, h2, h3⟩
  · exact .inl e
  · by_cases hz : fa i = []
    · exact .inl hz
    · have hg := hf i hi g o e hz
      exact .inr ⟨g, o, e, Nat.lt_of_lt_of_le h2 u.size, fun j hj k hk => (u.cell (p := ⟨g, o + j * 1 + k, none⟩) h2 (fun e => by have e : g = b := e; omega)).trans (h3 j hj k hk)⟩
theorem RM.far' {n : Nat} {w w' : World} {b b' : Nat} {A : Nat → Option Addr} {c : Nat → Nat} {fa : Nat → List Int} {op bad : Nat → Int} (h : RM n w b A c fa op bad) (hb' : n ≤ b') (hne : b ≠ b') (u : Upd (Only b') w w') : RM n w' b A c fa op bad :=
  ⟨u.blk h.blk hne, h.arg.far h.far hb' u, h.far, h.hb⟩
theorem RM.own {n : Nat} {w w' : World} {b : Nat} {A : Nat → Option Addr} {c : Nat → Nat} {fa : Nat → List Int} {op bad op' bad' : Nat → Int} (h : RM n w b A c fa op bad) (u : Upd (Only b) w w') (hb : w'.heap[b]? = some (.cells (rC A c fa op' bad') 35 (0, 0))) : RM n w' b A c fa op' bad' :=
  ⟨hb, h.arg.far h.far h.hb u, h.far, h.hb⟩
theorem rnext_no (b : Nat) (k : Int) (h : k < 0 ∨ 4 ≤ k) (w : World) : Calls Try.prog 11 #[.pointer (some ⟨b, 0, none⟩), .int .i64 k] w (RetB false w) := by
  rcases h with h | h
  · go_enter Try.func11, Try.ntmps11
    go_wp2_with fail
    go_ret
    exact ⟨rfl, Upd.refl _ _⟩
  · have h0 : ¬ k < 0 := by omega
    go_enter Try.func11, Try.ntmps11
    go_wp2_with fail
    go_ret
    exact ⟨rfl, Upd.refl _ _⟩
def RNextR (n b : Nat) (A : Nat → Option Addr) (c : Nat → Nat) (fa : Nat → List Int) (op bad : Nat → Int) (k : Nat) (w : World) (e : Ending) (w' : World) : Prop :=
  e = .returned (.bool (decide (op k + 1 ∈ fa k))) ∧ RM n w' b A c fa (up op k (op k + 1)) (if op k + 1 ∈ fa k then up bad k (bad k + 1) else bad) ∧ Upd (Only b) w w'
theorem rn_yes {n b : Nat} {A : Nat → Option Addr} {c : Nat → Nat} {fa : Nat → List Int} {op bad : Nat → Int} {k : Nat} {w w' : World} (hm : op k + 1 ∈ fa k) (h : RM n w' b A c fa (up op k (op k + 1)) (up bad k (bad k + 1))) (u : Upd (Only b) w w') : RNextR n b A c fa op bad k w (.returned (.bool true)) w' :=
  ⟨by rw [decide_eq_true hm], by rw [if_pos hm]; exact h, u⟩
theorem rn_no {n b : Nat} {A : Nat → Option Addr} {c : Nat → Nat} {fa : Nat → List Int} {op bad : Nat → Int} {k : Nat} {w w' : World} (hm : ¬ op k + 1 ∈ fa k) (h : RM n w' b A c fa (up op k (op k + 1)) bad) (u : Upd (Only b) w w') : RNextR n b A c fa op bad k w (.returned (.bool false)) w' :=
  ⟨by rw [decide_eq_false hm], by rw [if_neg hm]; exact h, u⟩
set_option maxHeartbeats 4000000 in
set_option maxRecDepth 100000 in
theorem rnext0 (n b : Nat) (A : Nat → Option Addr) (c : Nat → Nat) (fa : Nat → List Int) (op bad : Nat → Int) (w : World) (h : RM n w b A c fa op bad) (ho : 0 ≤ op 0 ∧ op 0 < 1000000) (hb : 0 ≤ bad 0 ∧ bad 0 < 1000000) :
    Calls Try.prog 11 #[.pointer (some ⟨b, 0, none⟩), .int .i64 0] w (RNextR n b A c fa op bad 0 w) := by
  have hbk := h.blk
  have x0 : w.cell? ⟨b, 4, none⟩ = some (.int .i64 (op 0)) := blk_cell hbk 4
  have z0 : w.frozen? ⟨b, 4, none⟩ = false := blk_frozen hbk 4
  obtain ⟨ho0, ho1⟩ := ho
  obtain ⟨hb0, hb1⟩ := hb
  have hbl : (w.setCell ⟨b, 4, none⟩ (.int .i64 (op 0 + 1))).drew.heap[b]? = some (.cells (rC A c fa (up op 0 (op 0 + 1)) bad) 35 (0, 0)) := blk_drew (blk_put hbk 4 _ rfl)
  have hU1 : Upd (Only b) w (w.setCell ⟨b, 4, none⟩ (.int .i64 (op 0 + 1))).drew := ((Upd.refl _ _).set1 _).drew
  have hR := h.own hU1 hbl
  go_enter Try.func11, Try.ntmps11
  go_wp2_with fail
  go_region
  generalize (w.setCell ⟨b, 4, none⟩ (.int .i64 (op 0 + 1))).drew = w1 at *
  clear x0 z0
  have x1 : w1.cell? ⟨b, 4, none⟩ = some (.int .i64 (op 0 + 1)) := blk_cell hbl 4
  have y1 : w1.cell? ⟨b, 0, none⟩ = some (.slice (A 0) (fa 0).length (c 0)) := blk_cell hbl 0
  have u1 : w1.cell? ⟨b, 8, none⟩ = some (.int .i64 (bad 0)) := blk_cell hbl 8
  have v1 : w1.frozen? ⟨b, 8, none⟩ = false := blk_frozen hbl 8
  have hA := hR.arg.arg 0 (by omega)
  have hle := hR.arg.le 0 (by omega)
  have hyes : Hid (op 0 + 1 ∈ fa 0 → RNextR n b A c fa op bad 0 w (.returned (.bool true)) (w1.setCell ⟨b, 8, none⟩ (.int .i64 (bad 0 + 1))).drew) := by
    show _ → _
    intro hm
    have hbl2 : (w1.setCell ⟨b, 8, none⟩ (.int .i64 (bad 0 + 1))).drew.heap[b]? = some (.cells (rC A c fa (up op 0 (op 0 + 1)) (up bad 0 (bad 0 + 1))) 35 (0, 0)) := blk_drew (blk_put hbl 8 _ rfl)
    have hU2 : Upd (Only b) w1 (w1.setCell ⟨b, 8, none⟩ (.int .i64 (bad 0 + 1))).drew := ((Upd.refl _ _).set1 _).drew
    exact rn_yes hm (hR.own hU2 hbl2) (hU1.trans hU2 (fun _ h => .inl h))
  have hno : Hid (¬ op 0 + 1 ∈ fa 0 → RNextR n b A c fa op bad 0 w (.returned (.bool false)) w1) := Lib.hid (fun hm => rn_no hm hR hU1)
  clear hU1 hR hbl hbk h
  generalize fa 0 = l at *
  go_wp2_with fail
  go_loop [6, 32] (fun s6 s32 => ∃ i : Nat, i ≤ l.length ∧ s32 = .int .i64 i ∧ Hid (∀ j (hj : j < l.length), j < i → l[j] ≠ op 0 + 1)) (fun _ s32 => l.length - (intOf s32).toNat)
  case atStart => exact ⟨0, by omega, rfl, Lib.hid (fun j hj h => absurd h (by omega))⟩
  case round =>
    obtain ⟨i, hi, rfl, hall⟩ := hrel
    by_cases hlt : i < l.length
    · obtain ⟨g, o, hgo, _, hc⟩ := ic_cell hA hlt
      rw [hgo]
      by_cases he : l[i] = op 0 + 1
      · have hm : Hid (op 0 + 1 ∈ l) := Lib.hid (by rw [← he]; exact List.getElem_mem hlt)
        rw [he] at hc
        clear he
        go_wp2_with fail
        go_region
        go_wp2_with fail
        go_ret
        exact hyes.out hm.out
      · have heb : (l[i] == op 0 + 1) = false := beq_eq_false_iff_ne.mpr he
        have heH := Lib.hid he
        clear he
        go_wp2_with fail
        go_round
        case measure => simp [intOf]; omega
        case rel => exact ⟨i + 1, by omega, by go_num, Lib.hid (fun j hj h => by
          by_cases e : j = i
          · subst e; exact heH.out
          · exact hall.out j hj (by omega))⟩
    · obtain rfl : i = l.length := by omega
      have hm : Hid (¬ op 0 + 1 ∈ l) := Lib.hid (fun hm => by
        obtain ⟨j, hj, e⟩ := List.getElem_of_mem hm
        exact hall.out j hj hj e)
      go_wp2_with fail
      go_ret
      exact hno.out hm.out
set_option maxHeartbeats 4000000 in
set_option maxRecDepth 100000 in
theorem rnext1 (n b : Nat) (A : Nat → Option Addr) (c : Nat → Nat) (fa : Nat → List Int) (op bad : Nat → Int) (w : World) (h : RM n w b A c fa op bad) (ho : 0 ≤ op 1 ∧ op 1 < 1000000) (hb : 0 ≤ bad 1 ∧ bad 1 < 1000000) :
    Calls Try.prog 11 #[.pointer (some ⟨b, 0, none⟩), .int .i64 1] w (RNextR n b A c fa op bad 1 w) := by
  have hbk := h.blk
  have x0 : w.cell? ⟨b, 5, none⟩ = some (.int .i64 (op 1)) := blk_cell hbk 5
  have z0 : w.frozen? ⟨b, 5, none⟩ = false := blk_frozen hbk 5
  obtain ⟨ho0, ho1⟩ := ho
  obtain ⟨hb0, hb1⟩ := hb
  have hbl : (w.setCell ⟨b, 5, none⟩ (.int .i64 (op 1 + 1))).drew.heap[b]? = some (.cells (rC A c fa (up op 1 (op 1 + 1)) bad) 35 (0, 0)) := blk_drew (blk_put hbk 5 _ rfl)
  have hU1 : Upd (Only b) w (w.setCell ⟨b, 5, none⟩ (.int .i64 (op 1 + 1))).drew := ((Upd.refl _ _).set1 _).drew
  have hR := h.own hU1 hbl
  go_enter Try.func11, Try.ntmps11
  go_wp2_with fail
  go_region
  generalize (w.setCell ⟨b, 5, none⟩ (.int .i64 (op 1 + 1))).drew = w1 at *
  clear x0 z0
  have x1 : w1.cell? ⟨b, 5, none⟩ = some (.int .i64 (op 1 + 1)) := blk_cell hbl 5
  have y1 : w1.cell? ⟨b, 1, none⟩ = some (.slice (A 1) (fa 1).length (c 1)) := blk_cell hbl 1
  have u1 : w1.cell? ⟨b, 9, none⟩ = some (.int .i64 (bad 1)) := blk_cell hbl 9
  have v1 : w1.frozen? ⟨b, 9, none⟩ = false := blk_frozen hbl 9
  have hA := hR.arg.arg 1 (by omega)
  have hle := hR.arg.le 1 (by omega)
  have hyes : Hid (op 1 + 1 ∈ fa 1 → RNextR n b A c fa op bad 1 w (.returned (.bool true)) (w1.setCell ⟨b, 9, none⟩ (.int .i64 (bad 1 + 1))).drew) := by
    show _ → _
    intro hm
    have hbl2 : (w1.setCell ⟨b, 9, none⟩ (.int .i64 (bad 1 + 1))).drew.heap[b]? = some (.cells (rC A c fa (up op 1 (op 1 + 1)) (up bad 1 (bad 1 + 1))) 35 (0, 0)) := blk_drew (blk_put hbl 9 _ rfl)
    have hU2 : Upd (Only b) w1 (w1.setCell ⟨b, 9, none⟩ (.int .i64 (bad 1 + 1))).drew := ((Upd.refl _ _).set1 _).drew
    exact rn_yes hm (hR.own hU2 hbl2) (hU1.trans hU2 (fun _ h => .inl h))
  have hno : Hid (¬ op 1 + 1 ∈ fa 1 → RNextR n b A c fa op bad 1 w (.returned (.bool false)) w1) := Lib.hid (fun hm => rn_no hm hR hU1)
  clear hU1 hR hbl hbk h
  generalize fa 1 = l at *
  go_wp2_with fail
  go_loop [6, 32] (fun s6 s32 => ∃ i : Nat, i ≤ l.length ∧ s32 = .int .i64 i ∧ Hid (∀ j (hj : j < l.length), j < i → l[j] ≠ op 1 + 1)) (fun _ s32 => l.length - (intOf s32).toNat)
  case atStart => exact ⟨0, by omega, rfl, Lib.hid (fun j hj h => absurd h (by omega))⟩
  case round =>
    obtain ⟨i, hi, rfl, hall⟩ := hrel
    by_cases hlt : i < l.length
    · obtain ⟨g, o, hgo, _, hc⟩ := ic_cell hA hlt
      rw [hgo]
      by_cases he : l[i] = op 1 + 1
      · have hm : Hid (op 1 + 1 ∈ l) := Lib.hid (by rw [← he]; exact List.getElem_mem hlt)
        rw [he] at hc
        clear he
        go_wp2_with fail
        go_region
        go_wp2_with fail
        go_ret
        exact hyes.out hm.out
      · have heb : (l[i] == op 1 + 1) = false := beq_eq_false_iff_ne.mpr he
        have heH := Lib.hid he
        clear he
        go_wp2_with fail
        go_round
        case measure => simp [intOf]; omega
        case rel => exact ⟨i + 1, by omega, by go_num, Lib.hid (fun j hj h => by
          by_cases e : j = i
          · subst e; exact heH.out
          · exact hall.out j hj (by omega))⟩
    · obtain rfl : i = l.length := by omega
      have hm : Hid (¬ op 1 + 1 ∈ l) := Lib.hid (fun hm => by
        obtain ⟨j, hj, e⟩ := List.getElem_of_mem hm
        exact hall.out j hj hj e)
      go_wp2_with fail
      go_ret
      exact hno.out hm.out
set_option maxHeartbeats 4000000 in
set_option maxRecDepth 100000 in
theorem rnext2 (n b : Nat) (A : Nat → Option Addr) (c : Nat → Nat) (fa : Nat → List Int) (op bad : Nat → Int) (w : World) (h : RM n w b A c fa op bad) (ho : 0 ≤ op 2 ∧ op 2 < 1000000) (hb : 0 ≤ bad 2 ∧ bad 2 < 1000000) :
    Calls Try.prog 11 #[.pointer (some ⟨b, 0, none⟩), .int .i64 2] w (RNextR n b A c fa op bad 2 w) := by
  have hbk := h.blk
  have x0 : w.cell? ⟨b, 6, none⟩ = some (.int .i64 (op 2)) := blk_cell hbk 6
  have z0 : w.frozen? ⟨b, 6, none⟩ = false := blk_frozen hbk 6
  obtain ⟨ho0, ho1⟩ := ho
  obtain ⟨hb0, hb1⟩ := hb
  have hbl : (w.setCell ⟨b, 6, none⟩ (.int .i64 (op 2 + 1))).drew.heap[b]? = some (.cells (rC A c fa (up op 2 (op 2 + 1)) bad) 35 (0, 0)) := blk_drew (blk_put hbk 6 _ rfl)
  have hU1 : Upd (Only b) w (w.setCell ⟨b, 6, none⟩ (.int .i64 (op 2 + 1))).drew := ((Upd.refl _ _).set1 _).drew
  have hR := h.own hU1 hbl
  go_enter Try.func11, Try.ntmps11
  go_wp2_with fail
  go_region
  generalize (w.setCell ⟨b, 6, none⟩ (.int .i64 (op 2 + 1))).drew = w1 at *
  clear x0 z0
  have x1 : w1.cell? ⟨b, 6, none⟩ = some (.int .i64 (op 2 + 1)) := blk_cell hbl 6
  have y1 : w1.cell? ⟨b, 2, none⟩ = some (.slice (A 2) (fa 2).length (c 2)) := blk_cell hbl 2
  have u1 : w1.cell? ⟨b, 10, none⟩ = some (.int .i64 (bad 2)) := blk_cell hbl 10
  have v1 : w1.frozen? ⟨b, 10, none⟩ = false := blk_frozen hbl 10
  have hA := hR.arg.arg 2 (by omega)
  have hle := hR.arg.le 2 (by omega)
  have hyes : Hid (op 2 + 1 ∈ fa 2 → RNextR n b A c fa op bad 2 w (.returned (.bool true)) (w1.setCell ⟨b, 10, none⟩ (.int .i64 (bad 2 + 1))).drew) := by
    show _ → _
    intro hm
    have hbl2 : (w1.setCell ⟨b, 10, none⟩ (.int .i64 (bad 2 + 1))).drew.heap[b]? = some (.cells (rC A c fa (up op 2 (op 2 + 1)) (up bad 2 (bad 2 + 1))) 35 (0, 0)) := blk_drew (blk_put hbl 10 _ rfl)
    have hU2 : Upd (Only b) w1 (w1.setCell ⟨b, 10, none⟩ (.int .i64 (bad 2 + 1))).drew := ((Upd.refl _ _).set1 _).drew
    exact rn_yes hm (hR.own hU2 hbl2) (hU1.trans hU2 (fun _ h => .inl h))
  have hno : Hid (¬ op 2 + 1 ∈ fa 2 → RNextR n b A c fa op bad 2 w (.returned (.bool false)) w1) := Lib.hid (fun hm => rn_no hm hR hU1)
  clear hU1 hR hbl hbk h
  generalize fa 2 = l at *
  go_wp2_with fail
  go_loop [6, 32] (fun s6 s32 => ∃ i : Nat, i ≤ l.length ∧ s32 = .int .i64 i ∧ Hid (∀ j (hj : j < l.length), j < i → l[j] ≠ op 2 + 1)) (fun _ s32 => l.length - (intOf s32).toNat)
  case atStart => exact ⟨0, by omega, rfl, Lib.hid (fun j hj h => absurd h (by omega))⟩
  case round =>
    obtain ⟨i, hi, rfl, hall⟩ := hrel
    by_cases hlt : i < l.length
    · obtain ⟨g, o, hgo, _, hc⟩ := ic_cell hA hlt
      rw [hgo]
      by_cases he : l[i] = op 2 + 1
      · have hm : Hid (op 2 + 1 ∈ l) := Lib.hid (by rw [← he]; exact List.getElem_mem hlt)
        rw [he] at hc
        clear he
        go_wp2_with fail
        go_region
        go_wp2_with fail
        go_ret
        exact hyes.out hm.out
      · have heb : (l[i] == op 2 + 1) = false := beq_eq_false_iff_ne.mpr he
        have heH := Lib.hid he
        clear he
        go_wp2_with fail
        go_round
        case measure => simp [intOf]; omega
        case rel => exact ⟨i + 1, by omega, by go_num, Lib.hid (fun j hj h => by
          by_cases e : j = i
          · subst e; exact heH.out
          · exact hall.out j hj (by omega))⟩
    · obtain rfl : i = l.length := by omega
      have hm : Hid (¬ op 2 + 1 ∈ l) := Lib.hid (fun hm => by
        obtain ⟨j, hj, e⟩ := List.getElem_of_mem hm
        exact hall.out j hj hj e)
      go_wp2_with fail
      go_ret
      exact hno.out hm.out
set_option maxHeartbeats 4000000 in
set_option maxRecDepth 100000 in
theorem rnext3 (n b : Nat) (A : Nat → Option Addr) (c : Nat → Nat) (fa : Nat → List Int) (op bad : Nat → Int) (w : World) (h : RM n w b A c fa op bad) (ho : 0 ≤ op 3 ∧ op 3 < 1000000) (hb : 0 ≤ bad 3 ∧ bad 3 < 1000000) :
    Calls Try.prog 11 #[.pointer (some ⟨b, 0, none⟩), .int .i64 3] w (RNextR n b A c fa op bad 3 w) := by
  have hbk := h.blk
  have x0 : w.cell? ⟨b, 7, none⟩ = some (.int .i64 (op 3)) := blk_cell hbk 7
  have z0 : w.frozen? ⟨b, 7, none⟩ = false := blk_frozen hbk 7
  obtain ⟨ho0, ho1⟩ := ho
  obtain ⟨hb0, hb1⟩ := hb
  have hbl : (w.setCell ⟨b, 7, none⟩ (.int .i64 (op 3 + 1))).drew.heap[b]? = some (.cells (rC A c fa (up op 3 (op 3 + 1)) bad) 35 (0, 0)) := blk_drew (blk_put hbk 7 _ rfl)
  have hU1 : Upd (Only b) w (w.setCell ⟨b, 7, none⟩ (.int .i64 (op 3 + 1))).drew := ((Upd.refl _ _).set1 _).drew
  have hR := h.own hU1 hbl
  go_enter Try.func11, Try.ntmps11
  go_wp2_with fail
  go_region
  generalize (w.setCell ⟨b, 7, none⟩ (.int .i64 (op 3 + 1))).drew = w1 at *
  clear x0 z0
  have x1 : w1.cell? ⟨b, 7, none⟩ = some (.int .i64 (op 3 + 1)) := blk_cell hbl 7
  have y1 : w1.cell? ⟨b, 3, none⟩ = some (.slice (A 3) (fa 3).length (c 3)) := blk_cell hbl 3
  have u1 : w1.cell? ⟨b, 11, none⟩ = some (.int .i64 (bad 3)) := blk_cell hbl 11
  have v1 : w1.frozen? ⟨b, 11, none⟩ = false := blk_frozen hbl 11
  have hA := hR.arg.arg 3 (by omega)
  have hle := hR.arg.le 3 (by omega)
  have hyes : Hid (op 3 + 1 ∈ fa 3 → RNextR n b A c fa op bad 3 w (.returned (.bool true)) (w1.setCell ⟨b, 11, none⟩ (.int .i64 (bad 3 + 1))).drew) := by
    show _ → _
    intro hm
    have hbl2 : (w1.setCell ⟨b, 11, none⟩ (.int .i64 (bad 3 + 1))).drew.heap[b]? = some (.cells (rC A c fa (up op 3 (op 3 + 1)) (up bad 3 (bad 3 + 1))) 35 (0, 0)) := blk_drew (blk_put hbl 11 _ rfl)
    have hU2 : Upd (Only b) w1 (w1.setCell ⟨b, 11, none⟩ (.int .i64 (bad 3 + 1))).drew := ((Upd.refl _ _).set1 _).drew
    exact rn_yes hm (hR.own hU2 hbl2) (hU1.trans hU2 (fun _ h => .inl h))
  have hno : Hid (¬ op 3 + 1 ∈ fa 3 → RNextR n b A c fa op bad 3 w (.returned (.bool false)) w1) := Lib.hid (fun hm => rn_no hm hR hU1)
  clear hU1 hR hbl hbk h
  generalize fa 3 = l at *
  go_wp2_with fail
  go_loop [6, 32] (fun s6 s32 => ∃ i : Nat, i ≤ l.length ∧ s32 = .int .i64 i ∧ Hid (∀ j (hj : j < l.length), j < i → l[j] ≠ op 3 + 1)) (fun _ s32 => l.length - (intOf s32).toNat)
  case atStart => exact ⟨0, by omega, rfl, Lib.hid (fun j hj h => absurd h (by omega))⟩
  case round =>
    obtain ⟨i, hi, rfl, hall⟩ := hrel
    by_cases hlt : i < l.length
    · obtain ⟨g, o, hgo, _, hc⟩ := ic_cell hA hlt
      rw [hgo]
      by_cases he : l[i] = op 3 + 1
      · have hm : Hid (op 3 + 1 ∈ l) := Lib.hid (by rw [← he]; exact List.getElem_mem hlt)
        rw [he] at hc
        clear he
        go_wp2_with fail
        go_region
        go_wp2_with fail
        go_ret
        exact hyes.out hm.out
      · have heb : (l[i] == op 3 + 1) = false := beq_eq_false_iff_ne.mpr he
        have heH := Lib.hid he
        clear he
        go_wp2_with fail
        go_round
        case measure => simp [intOf]; omega
        case rel => exact ⟨i + 1, by omega, by go_num, Lib.hid (fun j hj h => by
          by_cases e : j = i
          · subst e; exact heH.out
          · exact hall.out j hj (by omega))⟩
    · obtain rfl : i = l.length := by omega
      have hm : Hid (¬ op 3 + 1 ∈ l) := Lib.hid (fun hm => by
        obtain ⟨j, hj, e⟩ := List.getElem_of_mem hm
        exact hall.out j hj hj e)
      go_wp2_with fail
      go_ret
      exact hno.out hm.out
theorem rnext (n b : Nat) (A : Nat → Option Addr) (c : Nat → Nat) (fa : Nat → List Int) (op bad : Nat → Int) (k : Nat) (hk : k < 4) (w : World) (h : RM n w b A c fa op bad) (ho : 0 ≤ op k ∧ op k < 1000000) (hb : 0 ≤ bad k ∧ bad k < 1000000) :
    Calls Try.prog 11 #[.pointer (some ⟨b, 0, none⟩), .int .i64 k] w (RNextR n b A c fa op bad k w) := by
  have hcase : k = 0 ∨ k = 1 ∨ k = 2 ∨ k = 3 := by omega
  rcases hcase with rfl | rfl | rfl | rfl
  · exact rnext0 n b A c fa op bad w h ho hb
  · exact rnext1 n b A c fa op bad w h ho hb
  · exact rnext2 n b A c fa op bad w h ho hb
  · exact rnext3 n b A c fa op bad w h ho hb
def codeOf (fa : Nat → List Int) (n : Int) : Prop := (Long fa ∧ n = 4) ∨ (¬ Long fa ∧ Low fa ∧ n = 5) ∨ (¬ Long fa ∧ ¬ Low fa ∧ n = 0)
def ChkR (fa : Nat → List Int) (w : World) (e : Ending) (w' : World) : Prop := Upd Nil w w' ∧ ∃ n, e = .returned (.int .i64 n) ∧ codeOf fa n
set_option maxHeartbeats 16000000 in
set_option maxRecDepth 100000 in
theorem check (A : Nat → Option Addr) (c : Nat → Nat) (fa : Nat → List Int) (w : World) (h : Args w A c fa) : Calls Try.prog 7 #[aggV A c fa] w (ChkR fa w) := by
  unfold aggV slv
  have ix0 : ∀ w, (Instr.index 23 (.agg #[.slice (A 0) (fa 0).length (c 0), .slice (A 1) (fa 1).length (c 1), .slice (A 2) (fa 2).length (c 2), .slice (A 3) (fa 3).length (c 3)]) (.int .i64 0)).run Try.prog w = .ok (.slice (A 0) (fa 0).length (c 0)) w := fun _ => by kernel_rfl
  have ix1 : ∀ w, (Instr.index 23 (.agg #[.slice (A 0) (fa 0).length (c 0), .slice (A 1) (fa 1).length (c 1), .slice (A 2) (fa 2).length (c 2), .slice (A 3) (fa 3).length (c 3)]) (.int .i64 1)).run Try.prog w = .ok (.slice (A 1) (fa 1).length (c 1)) w := fun _ => by kernel_rfl
  have ix2 : ∀ w, (Instr.index 23 (.agg #[.slice (A 0) (fa 0).length (c 0), .slice (A 1) (fa 1).length (c 1), .slice (A 2) (fa 2).length (c 2), .slice (A 3) (fa 3).length (c 3)]) (.int .i64 2)).run Try.prog w = .ok (.slice (A 2) (fa 2).length (c 2)) w := fun _ => by kernel_rfl
  have ix3 : ∀ w, (Instr.index 23 (.agg #[.slice (A 0) (fa 0).length (c 0), .slice (A 1) (fa 1).length (c 1), .slice (A 2) (fa 2).length (c 2), .slice (A 3) (fa 3).length (c 3)]) (.int .i64 3)).run Try.prog w = .ok (.slice (A 3) (fa 3).length (c 3)) w := fun _ => by kernel_rfl
  go_enter Try.func7, Try.ntmps7
  go_wp2_with fail
  go_loop [4, 10] (fun s4 s10 => ∃ i : Nat, i ≤ 4 ∧ s10 = .int .i64 i ∧ Hid (∀ j, j < i → (fa j).length ≤ 64)) (fun _ s10 => 4 - (intOf s10).toNat)
  case atStart => exact ⟨0, by omega, rfl, Lib.hid (fun j hj => absurd hj (by omega))⟩
  case round =>
    obtain ⟨i, hi, rfl, hno⟩ := hrel
    by_cases h4 : i < 4
    · have hi4 : i = 0 ∨ i = 1 ∨ i = 2 ∨ i = 3 := by omega
      rcases hi4 with rfl | rfl | rfl | rfl
      · skip
        by_cases hl : 64 < (fa 0).length
        · have hlI : (64 : Int) < ((fa 0).length : Int) := by omega
          have hres : Hid (codeOf fa 4) := Lib.hid (.inl ⟨⟨0, by omega, hl⟩, rfl⟩)
          go_wp2_with fail
          go_ret
          exact ⟨(Upd.refl _ _).alloc _, _, rfl, hres.out⟩
        · have hlI : ¬ (64 : Int) < ((fa 0).length : Int) := by omega
          have hlH := Lib.hid hl
          clear hl
          go_wp2_with fail
          go_round
          case measure => simp [intOf]
          case rel => exact ⟨0 + 1, by omega, rfl, Lib.hid (fun j hj => by
            by_cases e : j = 0
            · subst e; have := hlH.out; omega
            · exact hno.out j (by omega))⟩
      · skip
        by_cases hl : 64 < (fa 1).length
        · have hlI : (64 : Int) < ((fa 1).length : Int) := by omega
          have hres : Hid (codeOf fa 4) := Lib.hid (.inl ⟨⟨1, by omega, hl⟩, rfl⟩)
          go_wp2_with fail
          go_ret
          exact ⟨(Upd.refl _ _).alloc _, _, rfl, hres.out⟩
        · have hlI : ¬ (64 : Int) < ((fa 1).length : Int) := by omega
          have hlH := Lib.hid hl
          clear hl
          go_wp2_with fail
          go_round
          case measure => simp [intOf]
          case rel => exact ⟨1 + 1, by omega, rfl, Lib.hid (fun j hj => by
            by_cases e : j = 1
            · subst e; have := hlH.out; omega
            · exact hno.out j (by omega))⟩
      · skip
        by_cases hl : 64 < (fa 2).length
        · have hlI : (64 : Int) < ((fa 2).length : Int) := by omega
          have hres : Hid (codeOf fa 4) := Lib.hid (.inl ⟨⟨2, by omega, hl⟩, rfl⟩)
          go_wp2_with fail
          go_ret
          exact ⟨(Upd.refl _ _).alloc _, _, rfl, hres.out⟩
        · have hlI : ¬ (64 : Int) < ((fa 2).length : Int) := by omega
          have hlH := Lib.hid hl
          clear hl
          go_wp2_with fail
          go_round
          case measure => simp [intOf]
          case rel => exact ⟨2 + 1, by omega, rfl, Lib.hid (fun j hj => by
            by_cases e : j = 2
            · subst e; have := hlH.out; omega
            · exact hno.out j (by omega))⟩
      · skip
        by_cases hl : 64 < (fa 3).length
        · have hlI : (64 : Int) < ((fa 3).length : Int) := by omega
          have hres : Hid (codeOf fa 4) := Lib.hid (.inl ⟨⟨3, by omega, hl⟩, rfl⟩)
          go_wp2_with fail
          go_ret
          exact ⟨(Upd.refl _ _).alloc _, _, rfl, hres.out⟩
        · have hlI : ¬ (64 : Int) < ((fa 3).length : Int) := by omega
          have hlH := Lib.hid hl
          clear hl
          go_wp2_with fail
          go_round
          case measure => simp [intOf]
          case rel => exact ⟨3 + 1, by omega, rfl, Lib.hid (fun j hj => by
            by_cases e : j = 3
            · subst e; have := hlH.out; omega
            · exact hno.out j (by omega))⟩
    · obtain rfl : i = 4 := by omega
      have hsh : Hid (∀ j, j < 4 → (fa j).length ≤ 64) := hno
      go_wp2_with fail
      go_loop [6, 18] (fun s6 s18 => ∃ i : Nat, i ≤ 4 ∧ s18 = .int .i64 i ∧ Hid (∀ j, j < i → ∀ x ∈ fa j, 1 ≤ x)) (fun _ s18 => 4 - (intOf s18).toNat)
      case atStart => exact ⟨0, by omega, rfl, Lib.hid (fun j hj => absurd hj (by omega))⟩
      case round =>
        obtain ⟨i, hi, rfl, hdone⟩ := hrel
        by_cases h4 : i < 4
        · have hi4 : i = 0 ∨ i = 1 ∨ i = 2 ∨ i = 3 := by omega
          rcases hi4 with rfl | rfl | rfl | rfl
          · skip
            have hA := (h.arg 0 (by omega)).upd ((Upd.refl Nil w).alloc (.cells #[.slice (A 0) (fa 0).length (c 0), .slice (A 1) (fa 1).length (c 1), .slice (A 2) (fa 2).length (c 2), .slice (A 3) (fa 3).length (c 3)] 23))
            have hle := h.le 0 (by omega)
            go_wp2_with fail
            go_loop [8, 23] (fun s8 s23 => ∃ k : Nat, k ≤ (fa 0).length ∧ s23 = .int .i64 k ∧ Hid (∀ j (hj : j < (fa 0).length), j < k → 1 ≤ (fa 0)[j])) (fun _ s23 => (fa 0).length - (intOf s23).toNat)
            case atStart => exact ⟨0, by omega, rfl, Lib.hid (fun j hj h => absurd h (by omega))⟩
            case round =>
              obtain ⟨k, hk, rfl, hall⟩ := hrel
              by_cases hlt : k < (fa 0).length
              · obtain ⟨g, o, hgo, _, hc⟩ := ic_cell hA hlt
                rw [hgo] at hc ix0 ⊢
                by_cases he : (fa 0)[k] < 1
                · have hres : Hid (codeOf fa 5) := Lib.hid (.inr (.inl ⟨fun ⟨i, hi, hx⟩ => absurd (hsh.out i hi) (by omega), ⟨0, by omega, _, List.getElem_mem hlt, he⟩, rfl⟩))
                  go_wp2_with fail
                  go_ret
                  exact ⟨(Upd.refl _ _).alloc _, _, rfl, hres.out⟩
                · have heH := Lib.hid he
                  go_wp2_with fail
                  go_round
                  case measure => simp [intOf]; omega
                  case rel => exact ⟨k + 1, by omega, by go_num, Lib.hid (fun j hj h => by
                    by_cases e : j = k
                    · subst e; have := heH.out; omega
                    · exact hall.out j hj (by omega))⟩
              · obtain rfl : k = (fa 0).length := by omega
                go_wp2_with fail
                go_round
                case measure => simp [intOf]
                case rel => exact ⟨0 + 1, by omega, rfl, Lib.hid (fun j hj x hx => by
                  by_cases e : j = 0
                  · subst e
                    obtain ⟨q, hq, e⟩ := List.getElem_of_mem hx
                    rw [← e]
                    exact hall.out q hq hq
                  · exact hdone.out j (by omega) x hx)⟩
          · skip
            have hA := (h.arg 1 (by omega)).upd ((Upd.refl Nil w).alloc (.cells #[.slice (A 0) (fa 0).length (c 0), .slice (A 1) (fa 1).length (c 1), .slice (A 2) (fa 2).length (c 2), .slice (A 3) (fa 3).length (c 3)] 23))
            have hle := h.le 1 (by omega)
            go_wp2_with fail
            go_loop [8, 23] (fun s8 s23 => ∃ k : Nat, k ≤ (fa 1).length ∧ s23 = .int .i64 k ∧ Hid (∀ j (hj : j < (fa 1).length), j < k → 1 ≤ (fa 1)[j])) (fun _ s23 => (fa 1).length - (intOf s23).toNat)
            case atStart => exact ⟨0, by omega, rfl, Lib.hid (fun j hj h => absurd h (by omega))⟩
            case round =>
              obtain ⟨k, hk, rfl, hall⟩ := hrel
              by_cases hlt : k < (fa 1).length
              · obtain ⟨g, o, hgo, _, hc⟩ := ic_cell hA hlt
                rw [hgo] at hc ix1 ⊢
                by_cases he : (fa 1)[k] < 1
                · have hres : Hid (codeOf fa 5) := Lib.hid (.inr (.inl ⟨fun ⟨i, hi, hx⟩ => absurd (hsh.out i hi) (by omega), ⟨1, by omega, _, List.getElem_mem hlt, he⟩, rfl⟩))
                  go_wp2_with fail
                  go_ret
                  exact ⟨(Upd.refl _ _).alloc _, _, rfl, hres.out⟩
                · have heH := Lib.hid he
                  go_wp2_with fail
                  go_round
                  case measure => simp [intOf]; omega
                  case rel => exact ⟨k + 1, by omega, by go_num, Lib.hid (fun j hj h => by
                    by_cases e : j = k
                    · subst e; have := heH.out; omega
                    · exact hall.out j hj (by omega))⟩
              · obtain rfl : k = (fa 1).length := by omega
                go_wp2_with fail
                go_round
                case measure => simp [intOf]
                case rel => exact ⟨1 + 1, by omega, rfl, Lib.hid (fun j hj x hx => by
                  by_cases e : j = 1
                  · subst e
                    obtain ⟨q, hq, e⟩ := List.getElem_of_mem hx
                    rw [← e]
                    exact hall.out q hq hq
                  · exact hdone.out j (by omega) x hx)⟩
          · skip
            have hA := (h.arg 2 (by omega)).upd ((Upd.refl Nil w).alloc (.cells #[.slice (A 0) (fa 0).length (c 0), .slice (A 1) (fa 1).length (c 1), .slice (A 2) (fa 2).length (c 2), .slice (A 3) (fa 3).length (c 3)] 23))
            have hle := h.le 2 (by omega)
            go_wp2_with fail
            go_loop [8, 23] (fun s8 s23 => ∃ k : Nat, k ≤ (fa 2).length ∧ s23 = .int .i64 k ∧ Hid (∀ j (hj : j < (fa 2).length), j < k → 1 ≤ (fa 2)[j])) (fun _ s23 => (fa 2).length - (intOf s23).toNat)
            case atStart => exact ⟨0, by omega, rfl, Lib.hid (fun j hj h => absurd h (by omega))⟩
            case round =>
              obtain ⟨k, hk, rfl, hall⟩ := hrel
              by_cases hlt : k < (fa 2).length
              · obtain ⟨g, o, hgo, _, hc⟩ := ic_cell hA hlt
                rw [hgo] at hc ix2 ⊢
                by_cases he : (fa 2)[k] < 1
                · have hres : Hid (codeOf fa 5) := Lib.hid (.inr (.inl ⟨fun ⟨i, hi, hx⟩ => absurd (hsh.out i hi) (by omega), ⟨2, by omega, _, List.getElem_mem hlt, he⟩, rfl⟩))
                  go_wp2_with fail
                  go_ret
                  exact ⟨(Upd.refl _ _).alloc _, _, rfl, hres.out⟩
                · have heH := Lib.hid he
                  go_wp2_with fail
                  go_round
                  case measure => simp [intOf]; omega
                  case rel => exact ⟨k + 1, by omega, by go_num, Lib.hid (fun j hj h => by
                    by_cases e : j = k
                    · subst e; have := heH.out; omega
                    · exact hall.out j hj (by omega))⟩
              · obtain rfl : k = (fa 2).length := by omega
                go_wp2_with fail
                go_round
                case measure => simp [intOf]
                case rel => exact ⟨2 + 1, by omega, rfl, Lib.hid (fun j hj x hx => by
                  by_cases e : j = 2
                  · subst e
                    obtain ⟨q, hq, e⟩ := List.getElem_of_mem hx
                    rw [← e]
                    exact hall.out q hq hq
                  · exact hdone.out j (by omega) x hx)⟩
          · skip
            have hA := (h.arg 3 (by omega)).upd ((Upd.refl Nil w).alloc (.cells #[.slice (A 0) (fa 0).length (c 0), .slice (A 1) (fa 1).length (c 1), .slice (A 2) (fa 2).length (c 2), .slice (A 3) (fa 3).length (c 3)] 23))
            have hle := h.le 3 (by omega)
            go_wp2_with fail
            go_loop [8, 23] (fun s8 s23 => ∃ k : Nat, k ≤ (fa 3).length ∧ s23 = .int .i64 k ∧ Hid (∀ j (hj : j < (fa 3).length), j < k → 1 ≤ (fa 3)[j])) (fun _ s23 => (fa 3).length - (intOf s23).toNat)
            case atStart => exact ⟨0, by omega, rfl, Lib.hid (fun j hj h => absurd h (by omega))⟩
            case round =>
              obtain ⟨k, hk, rfl, hall⟩ := hrel
              by_cases hlt : k < (fa 3).length
              · obtain ⟨g, o, hgo, _, hc⟩ := ic_cell hA hlt
                rw [hgo] at hc ix3 ⊢
                by_cases he : (fa 3)[k] < 1
                · have hres : Hid (codeOf fa 5) := Lib.hid (.inr (.inl ⟨fun ⟨i, hi, hx⟩ => absurd (hsh.out i hi) (by omega), ⟨3, by omega, _, List.getElem_mem hlt, he⟩, rfl⟩))
                  go_wp2_with fail
                  go_ret
                  exact ⟨(Upd.refl _ _).alloc _, _, rfl, hres.out⟩
                · have heH := Lib.hid he
                  go_wp2_with fail
                  go_round
                  case measure => simp [intOf]; omega
                  case rel => exact ⟨k + 1, by omega, by go_num, Lib.hid (fun j hj h => by
                    by_cases e : j = k
                    · subst e; have := heH.out; omega
                    · exact hall.out j hj (by omega))⟩
              · obtain rfl : k = (fa 3).length := by omega
                go_wp2_with fail
                go_round
                case measure => simp [intOf]
                case rel => exact ⟨3 + 1, by omega, rfl, Lib.hid (fun j hj x hx => by
                  by_cases e : j = 3
                  · subst e
                    obtain ⟨q, hq, e⟩ := List.getElem_of_mem hx
                    rw [← e]
                    exact hall.out q hq hq
                  · exact hdone.out j (by omega) x hx)⟩
        · obtain rfl : i = 4 := by omega
          have hres : Hid (codeOf fa 0) := Lib.hid (.inr (.inr ⟨fun ⟨i, hi, hx⟩ => absurd (hsh.out i hi) (by omega), fun ⟨i, hi, x, hx, h1⟩ => absurd (hdone.out i hi x hx) (by omega), rfl⟩))
          go_wp2_with fail
          go_ret
          exact ⟨(Upd.refl _ _).alloc _, _, rfl, hres.out⟩
end Go.Proofs.Ytbadgmfhlaedoaa.Draw
