/-
  The reference's tables: rows; the walks of Place, At. Conditions: what the table holds.
-/
import Derived.Test.YthppheklnplljaaTableA
namespace Go.Proofs.Ythppheklnplljaa.Table
open Go.RowKit Go.Proofs.Ythppheklnplljaa.Base Go.Proofs.Ythppheklnplljaa.Ints
set_option linter.unusedVariables false
set_option linter.unusedSimpArgs false
def r3 (r : Row3) : List Value := [.int .i64 r.1, .int .i64 r.2.1, .int .i64 r.2.2]
theorem r3_len (r : Row3) : (r3 r).length = 3 := rfl
theorem r3_one (r : Row3) : ∀ u ∈ r3 r, u.oneCell' = true := by
  intro u hu
  simp [r3] at hu
  rcases hu with rfl | rfl | rfl <;> rfl
theorem elemR : Elem Try.prog 95 101 (.agg #[.int .i64 0, .int .i64 0, .int .i64 0]) 3 24 r3 := ⟨Try.underlying95, by kernel_rfl, rfl, by omega, r3_len, r3_one⟩
/-- What the reference's table holds; G: all blocks that are its own. -/
structure RTM (G : Nat → Prop) (w : World) (b : Nat) (R : List Row3) (n m : Int) (V : Value) : Prop where
  blk : w.heap[b]? = some (.cells #[.int .i64 n, .int .i64 m, V] 97 (0, 0))
  sl : Sl w 0 101 3 r3 V R
  ob : G b
  oV : ∀ k, V.ownBlock = some k → G k
def RTb (G : Nat → Prop) (w : World) (b : Nat) (R : List Row3) (n m : Int) : Prop := ∃ V, RTM G w b R n m V
theorem RTM.upd {G : Nat → Prop} {w w' : World} {b : Nat} {R : List Row3} {n m : Int} {V : Value} (h : RTM G w b R n m V) {S : Nat → Prop} (u : Upd S w w') (hs : ∀ k, G k → ¬ S k) : RTM G w' b R n m V :=
  ⟨u.blk h.blk (hs _ h.ob), h.sl.upd u (fun k hk => hs _ (h.oV k hk)), h.ob, h.oV⟩
theorem RTM.upd0 {G : Nat → Prop} {w w' : World} {b : Nat} {R : List Row3} {n m : Int} {V : Value} (h : RTM G w b R n m V) (u : Upd Nil w w') : RTM G w' b R n m V := h.upd u (fun _ _ h => h)
theorem RTb.upd {G : Nat → Prop} {w w' : World} {b : Nat} {R : List Row3} {n m : Int} (h : RTb G w b R n m) {S : Nat → Prop} (u : Upd S w w') (hs : ∀ k, G k → ¬ S k) : RTb G w' b R n m := by
  obtain ⟨V, h⟩ := h
  exact ⟨V, h.upd u hs⟩
theorem RTb.upd0 {G : Nat → Prop} {w w' : World} {b : Nat} {R : List Row3} {n m : Int} (h : RTb G w b R n m) (u : Upd Nil w w') : RTb G w' b R n m := h.upd u (fun _ _ h => h)
/-- A row's cells. -/
theorem r3_cell {w : World} {A : Option Addr} {R : List Row3} (h : Arg w A 3 r3 R) {k : Nat} (hk : k < R.length) : ∃ g o, A = some ⟨g, o, none⟩ ∧ w.cell? ⟨g, o + k * 3, none⟩ = some (.int .i64 R[k].1) ∧ w.cell? ⟨g, o + k * 3 + 1, none⟩ = some (.int .i64 R[k].2.1) ∧ w.cell? ⟨g, o + k * 3 + 2, none⟩ = some (.int .i64 R[k].2.2) := by
  rcases h with rfl | ⟨g, o, rfl, h2, h3⟩
  · simp at hk
  · have h0 := h3 k hk 0 (by omega)
    have h1 := h3 k hk 1 (by omega)
    have h2 := h3 k hk 2 (by omega)
    exact ⟨g, o, rfl, h0, h1, h2⟩
theorem find_at {α : Type} {p : α → Bool} {l : List α} {k : Nat} (hk : k < l.length) (hno : ∀ j (hj : j < l.length), j < k → p l[j] = false) (he : p l[k] = true) : l.find? p = some l[k] := by
  induction l generalizing k with
  | nil => simp at hk
  | cons x l ih =>
    cases k with
    | zero =>
      rw [List.find?_cons_of_pos (by simpa using he)]
      rfl
    | succ k =>
      have h0 := hno 0 (by simp) (by omega)
      simp only [List.getElem_cons_zero] at h0
      rw [List.find?_cons_of_neg (by simp [h0])]
      exact ih (k := k) (by simpa using hk) (fun j hj hjk => hno (j + 1) (by simpa using hj) (by omega)) (by simpa using he)
theorem find_no {α : Type} {p : α → Bool} {l : List α} (hno : ∀ j (hj : j < l.length), p l[j] = false) : l.find? p = none := by
  rw [List.find?_eq_none]
  intro x hx
  obtain ⟨j, hj, rfl⟩ := List.getElem_of_mem hx
  simp [hno j hj]
def rowAt (i p : Int) (r : Row3) : Bool := decide ((r.2.1 : Int) = i ∧ (r.2.2 : Int) = p)
def rPlaceV (R : List Row3) (i p : Int) : Int := ownI ((R.find? (rowAt i p)).map (·.1))
def RPlR (R : List Row3) (i p : Int) (w : World) (e : Ending) (w' : World) : Prop := e = .returned (.int .i64 (rPlaceV R i p)) ∧ Upd Nil w w'
set_option maxHeartbeats 4000000 in
set_option maxRecDepth 100000 in
theorem rplace (G : Nat → Prop) (b : Nat) (R : List Row3) (n m i p : Int) (w : World) (h : RTb G w b R n m) : Calls Try.prog 76 #[.pointer (some ⟨b, 0, none⟩), .int .i64 i, .int .i64 p] w (RPlR R i p w) := by
  obtain ⟨V, h⟩ := h
  have hbk := h.blk
  obtain ⟨A, c, rfl, hc⟩ := h.sl.form
  have hA := h.sl.cells r3_len (by omega)
  have hmx := h.sl.max
  have c2 : w.cell? ⟨b, 2, none⟩ = some (.slice A R.length c) := blk_cell hbk 2
  have c0 : w.cell? ⟨b, 0, none⟩ = some (.int .i64 n) := blk_cell hbk 0
  clear h hbk
  go_enter Try.func76, Try.ntmps76
  go_wp2_with fail
  go_loopw [8, 14] (fun s8 s14 wr => ∃ k : Nat, k ≤ R.length ∧ s14 = .int .i64 k ∧ Hid (∀ j (hj : j < R.length), j < k → rowAt i p R[j] = false) ∧ Upd Nil w wr) (fun _ s14 _ => R.length - (intOf s14).toNat)
  case atStart => exact ⟨0, by omega, rfl, Lib.hid (fun j hj h => absurd h (by omega)), Upd.refl _ _⟩
  case round =>
    obtain ⟨k, hk, rfl, hno, hU⟩ := hrel
    by_cases hlt : k < R.length
    · obtain ⟨g, o, rfl, e0, e1, e2⟩ := r3_cell (hA.upd hU) hlt
      have hU2 := hU.alloc (.cells (r3 R[k]).toArray 101)
      by_cases h1 : (R[k].2.1 : Int) = i
      · by_cases h2 : (R[k].2.2 : Int) = p
        · have hr : Hid (rPlaceV R i p = R[k].1) := by
            show _ = _
            unfold rPlaceV
            rw [find_at hlt hno.out (by unfold rowAt; simp [h1, h2])]
            rfl
          rw [h1] at e1
          rw [h2] at e2
          clear h1 h2
          go_wp2_with fail
          go_ret
          exact ⟨ret_i hr.out.symm, hU.alloc _⟩
        · have hb : ((R[k].2.2 : Int) == p) = false := beq_eq_false_iff_ne.mpr h2
          have hn : Hid (rowAt i p R[k] = false) := by show _ = _; unfold rowAt; simp [h2]
          rw [h1] at e1
          clear h1 h2
          go_wp2_with fail
          go_roundw
          case measure => simp [intOf]; omega
          case rel => exact ⟨k + 1, by omega, by go_num, Lib.hid (fun j hj h => by
            by_cases e : j = k
            · subst e; exact hn.out
            · exact hno.out j hj (by omega)), hU.alloc _⟩
      · have hb : ((R[k].2.1 : Int) == i) = false := beq_eq_false_iff_ne.mpr h1
        have hn : Hid (rowAt i p R[k] = false) := by show _ = _; unfold rowAt; simp [h1]
        clear h1
        go_wp2_with fail
        go_roundw
        case measure => simp [intOf]; omega
        case rel => exact ⟨k + 1, by omega, by go_num, Lib.hid (fun j hj h => by
          by_cases e : j = k
          · subst e; exact hn.out
          · exact hno.out j hj (by omega)), hU.alloc _⟩
    · obtain rfl : k = R.length := by omega
      have hr : Hid (rPlaceV R i p = -1) := by
        show _ = _
        unfold rPlaceV
        rw [find_no (fun j hj => hno.out j hj hj)]
        rfl
      go_wp2_with fail
      go_ret
      exact ⟨ret_i hr.out.symm, hU⟩
def placeAt (q : Int) (r : Row3) : Bool := decide ((r.1 : Int) = q)
def rAtV (R : List Row3) (q : Int) : Int × Int × Bool := match R.find? (placeAt q) with | some r => (r.2.1, r.2.2, true) | none => (0, 0, false)
def RAtR (R : List Row3) (q : Int) (w : World) (e : Ending) (w' : World) : Prop := e = .returned (.tuple #[.int .i64 (rAtV R q).1, .int .i64 (rAtV R q).2.1, .bool (rAtV R q).2.2]) ∧ Upd Nil w w'
theorem rat_yes {R : List Row3} {q : Int} {w w' : World} {r : Row3} (h : R.find? (placeAt q) = some r) (u : Upd Nil w w') : RAtR R q w (.returned (.tuple #[.int .i64 r.2.1, .int .i64 r.2.2, .bool true])) w' := ⟨by unfold rAtV; rw [h], u⟩
theorem rat_no {R : List Row3} {q : Int} {w w' : World} (h : R.find? (placeAt q) = none) (u : Upd Nil w w') : RAtR R q w (.returned (.tuple #[.int .i64 0, .int .i64 0, .bool false])) w' := ⟨by unfold rAtV; rw [h], u⟩
set_option maxHeartbeats 4000000 in
set_option maxRecDepth 100000 in
theorem rat (G : Nat → Prop) (b : Nat) (R : List Row3) (n m q : Int) (w : World) (h : RTb G w b R n m) : Calls Try.prog 41 #[.pointer (some ⟨b, 0, none⟩), .int .i64 q] w (RAtR R q w) := by
  obtain ⟨V, h⟩ := h
  have hbk := h.blk
  obtain ⟨A, c, rfl, hc⟩ := h.sl.form
  have hA := h.sl.cells r3_len (by omega)
  have hmx := h.sl.max
  have c2 : w.cell? ⟨b, 2, none⟩ = some (.slice A R.length c) := blk_cell hbk 2
  have c0 : w.cell? ⟨b, 0, none⟩ = some (.int .i64 n) := blk_cell hbk 0
  clear h hbk
  go_enter Try.func41, Try.ntmps41
  go_wp2_with fail
  go_loopw [8, 14] (fun s8 s14 wr => ∃ k : Nat, k ≤ R.length ∧ s14 = .int .i64 k ∧ Hid (∀ j (hj : j < R.length), j < k → placeAt q R[j] = false) ∧ Upd Nil w wr) (fun _ s14 _ => R.length - (intOf s14).toNat)
  case atStart => exact ⟨0, by omega, rfl, Lib.hid (fun j hj h => absurd h (by omega)), Upd.refl _ _⟩
  case round =>
    obtain ⟨k, hk, rfl, hno, hU⟩ := hrel
    by_cases hlt : k < R.length
    · obtain ⟨g, o, rfl, e0, e1, e2⟩ := r3_cell (hA.upd hU) hlt
      by_cases h1 : (R[k].1 : Int) = q
      · have hr := Lib.hid (fun w' (u : Upd Nil w w') => rat_yes (find_at hlt hno.out (by unfold placeAt; simp [h1])) u)
        have hxb : ((R[k].1 : Int) == q) = true := by simpa using h1
        clear h1
        go_wp2_with fail
        go_quiet (fail)
        go_wp2_with fail
        go_ret3
        exact hr.out _ ((hU.alloc _).drewN _)
      · have hb : ((R[k].1 : Int) == q) = false := beq_eq_false_iff_ne.mpr h1
        have hn : Hid (placeAt q R[k] = false) := by show _ = _; unfold placeAt; simp [h1]
        clear h1
        go_wp2_with fail
        go_roundw
        case measure => simp [intOf]; omega
        case rel => exact ⟨k + 1, by omega, by go_num, Lib.hid (fun j hj h => by
          by_cases e : j = k
          · subst e; exact hn.out
          · exact hno.out j hj (by omega)), hU.alloc _⟩
    · obtain rfl : k = R.length := by omega
      have hr := Lib.hid (fun w' (u : Upd Nil w w') => rat_no (find_no (fun j hj => hno.out j hj hj)) u)
      go_wp2_with fail
      go_ret3
      exact hr.out _ hU
end Go.Proofs.Ythppheklnplljaa.Table
