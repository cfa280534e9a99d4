/-
  Draws: the walk of New. Conditions: what the slices hold.
-/
import Derived.Test.YtbadgmfhlaedoaaDrawB
namespace Go.Proofs.Ytbadgmfhlaedoaa.Draw
open Go.RowKit Go.Proofs.Ytbadgmfhlaedoaa.Base Go.Proofs.Ytbadgmfhlaedoaa.Ints
set_option linter.unusedVariables false
set_option linter.unusedSimpArgs false
def slv (A : Nat → Option Addr) (c : Nat → Nat) (fa : Nat → List Int) (i : Nat) : Value := .slice (A i) (fa i).length (c i)
def aggV (A : Nat → Option Addr) (c : Nat → Nat) (fa : Nat → List Int) : Value := .agg #[slv A c fa 0, slv A c fa 1, slv A c fa 2, slv A c fa 3]
/-- The four slices. -/
structure Args (w : World) (A : Nat → Option Addr) (c : Nat → Nat) (fa : Nat → List Int) : Prop where
  arg : ∀ i, i < 4 → Arg w (A i) 1 ic (fa i)
  le : ∀ i, i < 4 → (fa i).length ≤ 9223372036854775807
theorem Args.upd {w w' : World} {A : Nat → Option Addr} {c : Nat → Nat} {fa : Nat → List Int} (h : Args w A c fa) (u : Upd Nil w w') : Args w' A c fa := ⟨fun i hi => (h.arg i hi).upd u, h.le⟩
def Long (fa : Nat → List Int) : Prop := ∃ i, i < 4 ∧ 64 < (fa i).length
def Low (fa : Nat → List Int) : Prop := ∃ i, i < 4 ∧ ∃ n ∈ fa i, n < 1
def zeros : Nat → Int := fun _ => 0
def NewR (fa : Nat → List Int) (w : World) (e : Ending) (w' : World) : Prop :=
  Upd Nil w w' ∧ ((Long fa ∧ e = .returned (.tuple #[.pointer none, .int .i64 4])) ∨ (¬ Long fa ∧ Low fa ∧ e = .returned (.tuple #[.pointer none, .int .i64 5])) ∨
    (¬ Long fa ∧ ¬ Low fa ∧ ∃ b v, e = .returned (.tuple #[.pointer (some ⟨b, 0, none⟩), .int .i64 0]) ∧ w.heap.size ≤ b ∧ DrM w.heap.size w' b v fa zeros zeros))
theorem new_long {fa : Nat → List Int} {w w' : World} (u : Upd Nil w w') (i : Nat) (hi : i < 4) (h : 64 < (fa i).length) : NewR fa w (.returned (.tuple #[.pointer none, .int .i64 4])) w' := ⟨u, .inl ⟨⟨i, hi, h⟩, rfl⟩⟩
theorem new_low {fa : Nat → List Int} {w w' : World} (u : Upd Nil w w') (hl : ¬ Long fa) (i : Nat) (hi : i < 4) (x : Int) (h : x ∈ fa i) (hx : x < 1) : NewR fa w (.returned (.tuple #[.pointer none, .int .i64 5])) w' := ⟨u, .inr (.inl ⟨hl, ⟨i, hi, x, h, hx⟩, rfl⟩)⟩
set_option maxHeartbeats 16000000 in
set_option maxRecDepth 100000 in
theorem new (A : Nat → Option Addr) (c : Nat → Nat) (fa : Nat → List Int) (w : World) (h : Args w A c fa) : Calls Try.prog 6 #[aggV A c fa] w (NewR fa w) := by
  unfold aggV slv
  have ix0 : ∀ w, (Instr.index 23 (.agg #[.slice (A 0) (fa 0).length (c 0), .slice (A 1) (fa 1).length (c 1), .slice (A 2) (fa 2).length (c 2), .slice (A 3) (fa 3).length (c 3)]) (.int .i64 0)).run Try.prog w = .ok (.slice (A 0) (fa 0).length (c 0)) w := fun _ => by kernel_rfl
  have ix1 : ∀ w, (Instr.index 23 (.agg #[.slice (A 0) (fa 0).length (c 0), .slice (A 1) (fa 1).length (c 1), .slice (A 2) (fa 2).length (c 2), .slice (A 3) (fa 3).length (c 3)]) (.int .i64 1)).run Try.prog w = .ok (.slice (A 1) (fa 1).length (c 1)) w := fun _ => by kernel_rfl
  have ix2 : ∀ w, (Instr.index 23 (.agg #[.slice (A 0) (fa 0).length (c 0), .slice (A 1) (fa 1).length (c 1), .slice (A 2) (fa 2).length (c 2), .slice (A 3) (fa 3).length (c 3)]) (.int .i64 2)).run Try.prog w = .ok (.slice (A 2) (fa 2).length (c 2)) w := fun _ => by kernel_rfl
  have ix3 : ∀ w, (Instr.index 23 (.agg #[.slice (A 0) (fa 0).length (c 0), .slice (A 1) (fa 1).length (c 1), .slice (A 2) (fa 2).length (c 2), .slice (A 3) (fa 3).length (c 3)]) (.int .i64 3)).run Try.prog w = .ok (.slice (A 3) (fa 3).length (c 3)) w := fun _ => by kernel_rfl
  go_enter Try.func6, Try.ntmps6
  go_wp2_with fail
  go_loop [5, 10] (fun s5 s10 => ∃ i : Nat, i ≤ 4 ∧ s10 = .int .i64 i ∧ Hid (∀ j, j < i → (fa j).length ≤ 64)) (fun _ s10 => 4 - (intOf s10).toNat)
  case atStart => exact ⟨0, by omega, rfl, Lib.hid (fun j hj => absurd hj (by omega))⟩
  case round =>
    obtain ⟨i, hi, rfl, hno⟩ := hrel
    by_cases h4 : i < 4
    · have hi4 : i = 0 ∨ i = 1 ∨ i = 2 ∨ i = 3 := by omega
      rcases hi4 with rfl | rfl | rfl | rfl
      · skip
        by_cases hl : 64 < (fa 0).length
        · have hlI : (64 : Int) < ((fa 0).length : Int) := by omega
          have hres := Lib.hid (fun (w' : World) (u : Upd Nil w w') => new_long u 0 (by omega) hl)
          go_wp2_with fail
          go_ret2
          exact hres.out _ ((Upd.refl _ _).alloc _)
        · have hlI : ¬ (64 : Int) < ((fa 0).length : Int) := by omega
          have hlH := Lib.hid hl
          clear hl
          go_wp2_with fail
          go_round
          case measure => simp [intOf]
          case rel => exact ⟨0 + 1, by omega, rfl, Lib.hid (fun j hj => by
            by_cases e : j = 0
            · subst e; have := hlH.out; omega
            · exact hno.out j (by omega))⟩
      · skip
        by_cases hl : 64 < (fa 1).length
        · have hlI : (64 : Int) < ((fa 1).length : Int) := by omega
          have hres := Lib.hid (fun (w' : World) (u : Upd Nil w w') => new_long u 1 (by omega) hl)
          go_wp2_with fail
          go_ret2
          exact hres.out _ ((Upd.refl _ _).alloc _)
        · have hlI : ¬ (64 : Int) < ((fa 1).length : Int) := by omega
          have hlH := Lib.hid hl
          clear hl
          go_wp2_with fail
          go_round
          case measure => simp [intOf]
          case rel => exact ⟨1 + 1, by omega, rfl, Lib.hid (fun j hj => by
            by_cases e : j = 1
            · subst e; have := hlH.out; omega
            · exact hno.out j (by omega))⟩
      · skip
        by_cases hl : 64 < (fa 2).length
        · have hlI : (64 : Int) < ((fa 2).length : Int) := by omega
          have hres := Lib.hid (fun (w' : World) (u : Upd Nil w w') => new_long u 2 (by omega) hl)
          go_wp2_with fail
          go_ret2
          exact hres.out _ ((Upd.refl _ _).alloc _)
        · have hlI : ¬ (64 : Int) < ((fa 2).length : Int) := by omega
          have hlH := Lib.hid hl
          clear hl
          go_wp2_with fail
          go_round
          case measure => simp [intOf]
          case rel => exact ⟨2 + 1, by omega, rfl, Lib.hid (fun j hj => by
            by_cases e : j = 2
            · subst e; have := hlH.out; omega
            · exact hno.out j (by omega))⟩
      · skip
        by_cases hl : 64 < (fa 3).length
        · have hlI : (64 : Int) < ((fa 3).length : Int) := by omega
          have hres := Lib.hid (fun (w' : World) (u : Upd Nil w w') => new_long u 3 (by omega) hl)
          go_wp2_with fail
          go_ret2
          exact hres.out _ ((Upd.refl _ _).alloc _)
        · have hlI : ¬ (64 : Int) < ((fa 3).length : Int) := by omega
          have hlH := Lib.hid hl
          clear hl
          go_wp2_with fail
          go_round
          case measure => simp [intOf]
          case rel => exact ⟨3 + 1, by omega, rfl, Lib.hid (fun j hj => by
            by_cases e : j = 3
            · subst e; have := hlH.out; omega
            · exact hno.out j (by omega))⟩
    · obtain rfl : i = 4 := by omega
      have hshH : Hid (∀ j, j < 4 → (fa j).length ≤ 64) := hno
      go_wp2_with fail
      go_loopw [20] (fun s20 wr => ∃ (i : Nat) (vv : Nat → Value), i ≤ 4 ∧ s20 = .int .i64 i ∧ wr.heap[w.heap.size + 1]? = some (.cells (drC vv zeros zeros) 47 (0, 0)) ∧ Hid (∀ j, j < i → Sl wr w.heap.size 3 1 ic (vv j) (fa j) ∧ ∀ x ∈ fa j, 1 ≤ x) ∧ (∀ j, i ≤ j → vv j = .slice none 0 0) ∧ Upd Nil w wr) (fun s20 _ => 4 - (intOf s20).toNat)
      case atStart =>
        refine ⟨0, fun _ => .slice none 0 0, by omega, rfl, ?_, Lib.hid (fun j hj => absurd hj (by omega)), fun _ _ => rfl, ((Upd.refl _ _).alloc _).alloc _⟩
        have hh := blk_new (w.alloc (.cells #[.slice (A 0) (fa 0).length (c 0), .slice (A 1) (fa 1).length (c 1), .slice (A 2) (fa 2).length (c 2), .slice (A 3) (fa 3).length (c 3)] 23)) (.cells (drC (fun _ => .slice none 0 0) zeros zeros) 47)
        simpa [drC, zeros] using hh
      case round =>
        obtain ⟨i, vv, hi, rfl, hb, hdoneH, hrest, hU⟩ := hrel
        by_cases h4 : i < 4
        · have hi4 : i = 0 ∨ i = 1 ∨ i = 2 ∨ i = 3 := by omega
          rcases hi4 with rfl | rfl | rfl | rfl
          · skip
            by_cases hz : fa 0 = []
            · have hlen : ((fa 0).length : Int) = 0 := by rw [hz]; rfl
              have hzz := Lib.hid hz
              clear hz
              have kcl := fun w' (u : Upd Nil w w') => cloneI (A 0) (c 0) (fa 0) w' ((h.upd u).arg 0 (by omega)) (by have := hshH.out 0 (by omega); omega)
              have hUd := (hU.tr ((Upd.refl Nil wr).drew))
              have hN := hU.size
              have hbc0 : (wr).cell? ⟨(w.heap.size + 1), 0, none⟩ = some (vv 0) := Base.blk_cell hb 0
              have hbz0 : (wr).frozen? ⟨(w.heap.size + 1), 0, none⟩ = false := Base.blk_frozen hb 0
              have hbc1 : (wr).cell? ⟨(w.heap.size + 1), 1, none⟩ = some (.int .i64 0) := Base.blk_cell hb 1
              have hbz1 : (wr).frozen? ⟨(w.heap.size + 1), 1, none⟩ = false := Base.blk_frozen hb 1
              have hbc2 : (wr).cell? ⟨(w.heap.size + 1), 2, none⟩ = some (.int .i64 0) := Base.blk_cell hb 2
              have hbz2 : (wr).frozen? ⟨(w.heap.size + 1), 2, none⟩ = false := Base.blk_frozen hb 2
              have hbc3 : (wr).cell? ⟨(w.heap.size + 1), 3, none⟩ = some (vv 1) := Base.blk_cell hb 3
              have hbz3 : (wr).frozen? ⟨(w.heap.size + 1), 3, none⟩ = false := Base.blk_frozen hb 3
              have hbc4 : (wr).cell? ⟨(w.heap.size + 1), 4, none⟩ = some (.int .i64 0) := Base.blk_cell hb 4
              have hbz4 : (wr).frozen? ⟨(w.heap.size + 1), 4, none⟩ = false := Base.blk_frozen hb 4
              have hbc5 : (wr).cell? ⟨(w.heap.size + 1), 5, none⟩ = some (.int .i64 0) := Base.blk_cell hb 5
              have hbz5 : (wr).frozen? ⟨(w.heap.size + 1), 5, none⟩ = false := Base.blk_frozen hb 5
              have hbc6 : (wr).cell? ⟨(w.heap.size + 1), 6, none⟩ = some (vv 2) := Base.blk_cell hb 6
              have hbz6 : (wr).frozen? ⟨(w.heap.size + 1), 6, none⟩ = false := Base.blk_frozen hb 6
              have hbc7 : (wr).cell? ⟨(w.heap.size + 1), 7, none⟩ = some (.int .i64 0) := Base.blk_cell hb 7
              have hbz7 : (wr).frozen? ⟨(w.heap.size + 1), 7, none⟩ = false := Base.blk_frozen hb 7
              have hbc8 : (wr).cell? ⟨(w.heap.size + 1), 8, none⟩ = some (.int .i64 0) := Base.blk_cell hb 8
              have hbz8 : (wr).frozen? ⟨(w.heap.size + 1), 8, none⟩ = false := Base.blk_frozen hb 8
              have hbc9 : (wr).cell? ⟨(w.heap.size + 1), 9, none⟩ = some (vv 3) := Base.blk_cell hb 9
              have hbz9 : (wr).frozen? ⟨(w.heap.size + 1), 9, none⟩ = false := Base.blk_frozen hb 9
              have hbc10 : (wr).cell? ⟨(w.heap.size + 1), 10, none⟩ = some (.int .i64 0) := Base.blk_cell hb 10
              have hbz10 : (wr).frozen? ⟨(w.heap.size + 1), 10, none⟩ = false := Base.blk_frozen hb 10
              have hbc11 : (wr).cell? ⟨(w.heap.size + 1), 11, none⟩ = some (.int .i64 0) := Base.blk_cell hb 11
              have hbz11 : (wr).frozen? ⟨(w.heap.size + 1), 11, none⟩ = false := Base.blk_frozen hb 11
              go_wp2_with fail
              refine wp_region_lex (Only (w.heap.size + 1)) [0, 1, 2, 4, 5, 3, 6, 7, 8] (by kernel_rfl) (by kernel_rfl) rfl (by kernel_rfl) ?_
              simp only [inOrder, List.filterMap_cons, List.filterMap_nil, List.getElem?_cons_zero, List.getElem?_cons_succ]
              try simp only [Act.put, List.setIfInBounds_toArray, List.set_cons_zero, List.set_cons_succ]
              repeat
                first
                | (refine lex_pure (v := ?_) rfl rfl ?_ ?_
                   rotate_left
                   · intro w' hU'
                     go_simp
                     try with_reducible rfl
                   try simp only [Act.put, List.setIfInBounds_toArray, List.set_cons_zero, List.set_cons_succ])
                | (refine lex_skip rfl ?_
                   try simp only [Act.put, List.setIfInBounds_toArray, List.set_cons_zero, List.set_cons_succ])
              refine lex_fn (f := 13) (args := _) rfl rfl (by go_simp) ((kcl _ hUd).mono ?_)
              rintro e w5 ⟨x5, rfl, hx5, hU5⟩
              refine ⟨_, rfl, hU5.mono (fun _ h => h.elim), ?_⟩
              try simp only [Act.put, List.setIfInBounds_toArray, List.set_cons_zero, List.set_cons_succ]
              repeat
                first
                | (refine lex_pure (v := ?_) rfl rfl ?_ ?_
                   rotate_left
                   · intro w' hU'
                     go_simp
                     try with_reducible rfl
                   try simp only [Act.put, List.setIfInBounds_toArray, List.set_cons_zero, List.set_cons_succ])
                | (refine lex_skip rfl ?_
                   try simp only [Act.put, List.setIfInBounds_toArray, List.set_cons_zero, List.set_cons_succ])
              have hb5 := hU5.blk (blk_drew hb) (fun h => h)
              have g5 : w5.cell? ⟨w.heap.size + 1, 0, none⟩ = some (vv 0) := blk_cell hb5 0
              have q5 : w5.frozen? ⟨w.heap.size + 1, 0, none⟩ = false := blk_frozen hb5 0
              have hvi : vv 0 = .slice none 0 0 := hrest 0 (by omega)
              rw [hvi] at g5
              obtain ⟨A5, c5, rfl, hc5⟩ := hx5.form
              refine lex_store (w' := w5.setCell ⟨w.heap.size + 1, 0, none⟩ (.slice A5 (fa 0).length c5)) rfl rfl (by go_simp) ((Upd.refl (Only (w.heap.size + 1)) w5).set1 _) ?_
              try simp only [Act.put, List.setIfInBounds_toArray, List.set_cons_zero, List.set_cons_succ]
              refine lex_done ?_
              have hb6 : (w5.setCell ⟨w.heap.size + 1, 0, none⟩ (.slice A5 (fa 0).length c5)).heap[w.heap.size + 1]? = some (.cells (drC (up vv 0 (.slice A5 (fa 0).length c5)) zeros zeros) 47 (0, 0)) := blk_put hb5 0 _ rfl
              have hU6 : Upd (Only (w.heap.size + 1)) w5 (w5.setCell ⟨w.heap.size + 1, 0, none⟩ (.slice A5 (fa 0).length c5)) := (Upd.refl _ _).set1 _
              have hrel6 : ∀ j, j < 0 + 1 → Sl (w5.setCell ⟨w.heap.size + 1, 0, none⟩ (.slice A5 (fa 0).length c5)) w.heap.size 3 1 ic (up vv 0 (.slice A5 (fa 0).length c5) j) (fa j) ∧ ∀ x ∈ fa j, 1 ≤ x := by
                intro j hj
                by_cases e : j = 0
                · subst e
                  refine ⟨?_, (fun x hx => by rw [hzz.out] at hx; cases hx)⟩
                  have e2 : up vv 0 (.slice A5 (fa 0).length c5) 0 = .slice A5 (fa 0).length c5 := rfl
                  rw [e2]
                  exact (hx5.lower (Nat.le_trans hU.size (Nat.le_refl _))).upd hU6 (fun k hk e => hx5.ne hb5 (by decide) k hk e)
                · have e2 : up vv 0 (.slice A5 (fa 0).length c5) j = vv j := by unfold up; rw [if_neg e]
                  rw [e2]
                  obtain ⟨s1, s2⟩ := hdoneH.out j (by omega)
                  have s3 := (s1.drew).upd0 hU5
                  exact ⟨s3.upd hU6 (fun k hk e => s3.ne hb5 (by decide) k hk e), s2⟩
              have hrest6 : ∀ j, 0 + 1 ≤ j → up vv 0 (.slice A5 (fa 0).length c5) j = .slice none 0 0 := fun j hj => by
                have e2 : up vv 0 (.slice A5 (fa 0).length c5) j = vv j := by unfold up; rw [if_neg (by omega)]
                rw [e2]
                exact hrest j (by omega)
              have hU7 : Upd Nil w (w5.setCell ⟨w.heap.size + 1, 0, none⟩ (.slice A5 (fa 0).length c5)) := (hUd.tr hU5).newOnly hU6 (by omega)
              generalize w5.setCell ⟨w.heap.size + 1, 0, none⟩ (.slice A5 (fa 0).length c5) = w6 at *
              have hfinH := Lib.hid (And.intro hrel6 hrest6)
              clear hrel6 hrest6 g5 q5 hbc0 hbc1 hbc2 hbc3 hbc4 hbc5 hbc6 hbc7 hbc8 hbc9 hbc10 hbc11 hbz0 hbz1 hbz2 hbz3 hbz4 hbz5 hbz6 hbz7 hbz8 hbz9 hbz10 hbz11
              go_wp2_with fail
              go_roundw
              case measure => simp [intOf]
              case rel => exact ⟨0 + 1, _, by omega, rfl, hb6, Lib.hid hfinH.out.1, hfinH.out.2, hU7⟩
            · obtain ⟨x0, l0, hxl⟩ := List.exists_cons_of_ne_nil hz
              have kmin := mins (A 0) (c 0) x0 l0 wr (by rw [← hxl]; exact (h.upd hU).arg 0 (by omega)) (by rw [← hxl]; have := h.le 0 (by omega); unfold maxLen; omega)
              have hpos : (0 : Int) < ((fa 0).length : Int) := by rw [hxl]; simp
              have hlow := minL_lt l0 x0 1
              rw [← hxl] at kmin
              have hxlH := Lib.hid hxl
              clear hxl hz
              by_cases hm : minL l0 x0 < 1
              · have hres : Hid (∀ w', Upd Nil w w' → NewR fa w (.returned (.tuple #[.pointer none, .int .i64 5])) w') := by
                  show ∀ _, _
                  intro w' u
                  have hnl : ¬ Long fa := fun ⟨i, hi, hx⟩ => absurd (hshH.out i hi) (by omega)
                  rcases hlow.1 hm with h1 | ⟨x, hx, h1⟩
                  · exact new_low u hnl 0 (by omega) x0 (by rw [hxlH.out]; simp) h1
                  · exact new_low u hnl 0 (by omega) x (by rw [hxlH.out]; simp [hx]) h1
                clear hlow
                go_wp2_with fail
                refine kmin.mono ?_
                rintro e w' ⟨rfl, rfl⟩
                go_wp2_with fail
                go_ret2
                exact hres.out _ hU
              · have hlowH : Hid (∀ x ∈ fa 0, 1 ≤ x) := by
                  show ∀ _, _
                  intro x hx
                  refine Int.not_lt.1 fun hx1 => ?_
                  rw [hxlH.out] at hx
                  rcases List.mem_cons.1 hx with rfl | hx
                  · exact hm (hlow.2 (.inl hx1))
                  · exact hm (hlow.2 (.inr ⟨x, hx, hx1⟩))
                clear hlow
                have kcl := fun w' (u : Upd Nil w w') => cloneI (A 0) (c 0) (fa 0) w' ((h.upd u).arg 0 (by omega)) (by have := hshH.out 0 (by omega); omega)
                have hUd := (hU.tr ((Upd.refl Nil wr).drew))
                have hN := hU.size
                have hbc0 : (wr).cell? ⟨(w.heap.size + 1), 0, none⟩ = some (vv 0) := Base.blk_cell hb 0
                have hbz0 : (wr).frozen? ⟨(w.heap.size + 1), 0, none⟩ = false := Base.blk_frozen hb 0
                have hbc1 : (wr).cell? ⟨(w.heap.size + 1), 1, none⟩ = some (.int .i64 0) := Base.blk_cell hb 1
                have hbz1 : (wr).frozen? ⟨(w.heap.size + 1), 1, none⟩ = false := Base.blk_frozen hb 1
                have hbc2 : (wr).cell? ⟨(w.heap.size + 1), 2, none⟩ = some (.int .i64 0) := Base.blk_cell hb 2
                have hbz2 : (wr).frozen? ⟨(w.heap.size + 1), 2, none⟩ = false := Base.blk_frozen hb 2
                have hbc3 : (wr).cell? ⟨(w.heap.size + 1), 3, none⟩ = some (vv 1) := Base.blk_cell hb 3
                have hbz3 : (wr).frozen? ⟨(w.heap.size + 1), 3, none⟩ = false := Base.blk_frozen hb 3
                have hbc4 : (wr).cell? ⟨(w.heap.size + 1), 4, none⟩ = some (.int .i64 0) := Base.blk_cell hb 4
                have hbz4 : (wr).frozen? ⟨(w.heap.size + 1), 4, none⟩ = false := Base.blk_frozen hb 4
                have hbc5 : (wr).cell? ⟨(w.heap.size + 1), 5, none⟩ = some (.int .i64 0) := Base.blk_cell hb 5
                have hbz5 : (wr).frozen? ⟨(w.heap.size + 1), 5, none⟩ = false := Base.blk_frozen hb 5
                have hbc6 : (wr).cell? ⟨(w.heap.size + 1), 6, none⟩ = some (vv 2) := Base.blk_cell hb 6
                have hbz6 : (wr).frozen? ⟨(w.heap.size + 1), 6, none⟩ = false := Base.blk_frozen hb 6
                have hbc7 : (wr).cell? ⟨(w.heap.size + 1), 7, none⟩ = some (.int .i64 0) := Base.blk_cell hb 7
                have hbz7 : (wr).frozen? ⟨(w.heap.size + 1), 7, none⟩ = false := Base.blk_frozen hb 7
                have hbc8 : (wr).cell? ⟨(w.heap.size + 1), 8, none⟩ = some (.int .i64 0) := Base.blk_cell hb 8
                have hbz8 : (wr).frozen? ⟨(w.heap.size + 1), 8, none⟩ = false := Base.blk_frozen hb 8
                have hbc9 : (wr).cell? ⟨(w.heap.size + 1), 9, none⟩ = some (vv 3) := Base.blk_cell hb 9
                have hbz9 : (wr).frozen? ⟨(w.heap.size + 1), 9, none⟩ = false := Base.blk_frozen hb 9
                have hbc10 : (wr).cell? ⟨(w.heap.size + 1), 10, none⟩ = some (.int .i64 0) := Base.blk_cell hb 10
                have hbz10 : (wr).frozen? ⟨(w.heap.size + 1), 10, none⟩ = false := Base.blk_frozen hb 10
                have hbc11 : (wr).cell? ⟨(w.heap.size + 1), 11, none⟩ = some (.int .i64 0) := Base.blk_cell hb 11
                have hbz11 : (wr).frozen? ⟨(w.heap.size + 1), 11, none⟩ = false := Base.blk_frozen hb 11
                (go_wp2_with fail; refine kmin.mono ?_; rintro e w' ⟨rfl, rfl⟩; go_wp2_with fail)
                refine wp_region_lex (Only (w.heap.size + 1)) [0, 1, 2, 4, 5, 3, 6, 7, 8] (by kernel_rfl) (by kernel_rfl) rfl (by kernel_rfl) ?_
                simp only [inOrder, List.filterMap_cons, List.filterMap_nil, List.getElem?_cons_zero, List.getElem?_cons_succ]
                try simp only [Act.put, List.setIfInBounds_toArray, List.set_cons_zero, List.set_cons_succ]
                repeat
                  first
                  | (refine lex_pure (v := ?_) rfl rfl ?_ ?_
                     rotate_left
                     · intro w' hU'
                       go_simp
                       try with_reducible rfl
                     try simp only [Act.put, List.setIfInBounds_toArray, List.set_cons_zero, List.set_cons_succ])
                  | (refine lex_skip rfl ?_
                     try simp only [Act.put, List.setIfInBounds_toArray, List.set_cons_zero, List.set_cons_succ])
                refine lex_fn (f := 13) (args := _) rfl rfl (by go_simp) ((kcl _ hUd).mono ?_)
                rintro e w5 ⟨x5, rfl, hx5, hU5⟩
                refine ⟨_, rfl, hU5.mono (fun _ h => h.elim), ?_⟩
                try simp only [Act.put, List.setIfInBounds_toArray, List.set_cons_zero, List.set_cons_succ]
                repeat
                  first
                  | (refine lex_pure (v := ?_) rfl rfl ?_ ?_
                     rotate_left
                     · intro w' hU'
                       go_simp
                       try with_reducible rfl
                     try simp only [Act.put, List.setIfInBounds_toArray, List.set_cons_zero, List.set_cons_succ])
                  | (refine lex_skip rfl ?_
                     try simp only [Act.put, List.setIfInBounds_toArray, List.set_cons_zero, List.set_cons_succ])
                have hb5 := hU5.blk (blk_drew hb) (fun h => h)
                have g5 : w5.cell? ⟨w.heap.size + 1, 0, none⟩ = some (vv 0) := blk_cell hb5 0
                have q5 : w5.frozen? ⟨w.heap.size + 1, 0, none⟩ = false := blk_frozen hb5 0
                have hvi : vv 0 = .slice none 0 0 := hrest 0 (by omega)
                rw [hvi] at g5
                obtain ⟨A5, c5, rfl, hc5⟩ := hx5.form
                refine lex_store (w' := w5.setCell ⟨w.heap.size + 1, 0, none⟩ (.slice A5 (fa 0).length c5)) rfl rfl (by go_simp) ((Upd.refl (Only (w.heap.size + 1)) w5).set1 _) ?_
                try simp only [Act.put, List.setIfInBounds_toArray, List.set_cons_zero, List.set_cons_succ]
                refine lex_done ?_
                have hb6 : (w5.setCell ⟨w.heap.size + 1, 0, none⟩ (.slice A5 (fa 0).length c5)).heap[w.heap.size + 1]? = some (.cells (drC (up vv 0 (.slice A5 (fa 0).length c5)) zeros zeros) 47 (0, 0)) := blk_put hb5 0 _ rfl
                have hU6 : Upd (Only (w.heap.size + 1)) w5 (w5.setCell ⟨w.heap.size + 1, 0, none⟩ (.slice A5 (fa 0).length c5)) := (Upd.refl _ _).set1 _
                have hrel6 : ∀ j, j < 0 + 1 → Sl (w5.setCell ⟨w.heap.size + 1, 0, none⟩ (.slice A5 (fa 0).length c5)) w.heap.size 3 1 ic (up vv 0 (.slice A5 (fa 0).length c5) j) (fa j) ∧ ∀ x ∈ fa j, 1 ≤ x := by
                  intro j hj
                  by_cases e : j = 0
                  · subst e
                    refine ⟨?_, hlowH.out⟩
                    have e2 : up vv 0 (.slice A5 (fa 0).length c5) 0 = .slice A5 (fa 0).length c5 := rfl
                    rw [e2]
                    exact (hx5.lower (Nat.le_trans hU.size (Nat.le_refl _))).upd hU6 (fun k hk e => hx5.ne hb5 (by decide) k hk e)
                  · have e2 : up vv 0 (.slice A5 (fa 0).length c5) j = vv j := by unfold up; rw [if_neg e]
                    rw [e2]
                    obtain ⟨s1, s2⟩ := hdoneH.out j (by omega)
                    have s3 := (s1.drew).upd0 hU5
                    exact ⟨s3.upd hU6 (fun k hk e => s3.ne hb5 (by decide) k hk e), s2⟩
                have hrest6 : ∀ j, 0 + 1 ≤ j → up vv 0 (.slice A5 (fa 0).length c5) j = .slice none 0 0 := fun j hj => by
                  have e2 : up vv 0 (.slice A5 (fa 0).length c5) j = vv j := by unfold up; rw [if_neg (by omega)]
                  rw [e2]
                  exact hrest j (by omega)
                have hU7 : Upd Nil w (w5.setCell ⟨w.heap.size + 1, 0, none⟩ (.slice A5 (fa 0).length c5)) := (hUd.tr hU5).newOnly hU6 (by omega)
                generalize w5.setCell ⟨w.heap.size + 1, 0, none⟩ (.slice A5 (fa 0).length c5) = w6 at *
                have hfinH := Lib.hid (And.intro hrel6 hrest6)
                clear hrel6 hrest6 g5 q5 hbc0 hbc1 hbc2 hbc3 hbc4 hbc5 hbc6 hbc7 hbc8 hbc9 hbc10 hbc11 hbz0 hbz1 hbz2 hbz3 hbz4 hbz5 hbz6 hbz7 hbz8 hbz9 hbz10 hbz11
                go_wp2_with fail
                go_roundw
                case measure => simp [intOf]
                case rel => exact ⟨0 + 1, _, by omega, rfl, hb6, Lib.hid hfinH.out.1, hfinH.out.2, hU7⟩
          · skip
            by_cases hz : fa 1 = []
            · have hlen : ((fa 1).length : Int) = 0 := by rw [hz]; rfl
              have hzz := Lib.hid hz
              clear hz
              have kcl := fun w' (u : Upd Nil w w') => cloneI (A 1) (c 1) (fa 1) w' ((h.upd u).arg 1 (by omega)) (by have := hshH.out 1 (by omega); omega)
              have hUd := (hU.tr ((Upd.refl Nil wr).drew))
              have hN := hU.size
              have hbc0 : (wr).cell? ⟨(w.heap.size + 1), 0, none⟩ = some (vv 0) := Base.blk_cell hb 0
              have hbz0 : (wr).frozen? ⟨(w.heap.size + 1), 0, none⟩ = false := Base.blk_frozen hb 0
              have hbc1 : (wr).cell? ⟨(w.heap.size + 1), 1, none⟩ = some (.int .i64 0) := Base.blk_cell hb 1
              have hbz1 : (wr).frozen? ⟨(w.heap.size + 1), 1, none⟩ = false := Base.blk_frozen hb 1
              have hbc2 : (wr).cell? ⟨(w.heap.size + 1), 2, none⟩ = some (.int .i64 0) := Base.blk_cell hb 2
              have hbz2 : (wr).frozen? ⟨(w.heap.size + 1), 2, none⟩ = false := Base.blk_frozen hb 2
              have hbc3 : (wr).cell? ⟨(w.heap.size + 1), 3, none⟩ = some (vv 1) := Base.blk_cell hb 3
              have hbz3 : (wr).frozen? ⟨(w.heap.size + 1), 3, none⟩ = false := Base.blk_frozen hb 3
              have hbc4 : (wr).cell? ⟨(w.heap.size + 1), 4, none⟩ = some (.int .i64 0) := Base.blk_cell hb 4
              have hbz4 : (wr).frozen? ⟨(w.heap.size + 1), 4, none⟩ = false := Base.blk_frozen hb 4
              have hbc5 : (wr).cell? ⟨(w.heap.size + 1), 5, none⟩ = some (.int .i64 0) := Base.blk_cell hb 5
              have hbz5 : (wr).frozen? ⟨(w.heap.size + 1), 5, none⟩ = false := Base.blk_frozen hb 5
              have hbc6 : (wr).cell? ⟨(w.heap.size + 1), 6, none⟩ = some (vv 2) := Base.blk_cell hb 6
              have hbz6 : (wr).frozen? ⟨(w.heap.size + 1), 6, none⟩ = false := Base.blk_frozen hb 6
              have hbc7 : (wr).cell? ⟨(w.heap.size + 1), 7, none⟩ = some (.int .i64 0) := Base.blk_cell hb 7
              have hbz7 : (wr).frozen? ⟨(w.heap.size + 1), 7, none⟩ = false := Base.blk_frozen hb 7
              have hbc8 : (wr).cell? ⟨(w.heap.size + 1), 8, none⟩ = some (.int .i64 0) := Base.blk_cell hb 8
              have hbz8 : (wr).frozen? ⟨(w.heap.size + 1), 8, none⟩ = false := Base.blk_frozen hb 8
              have hbc9 : (wr).cell? ⟨(w.heap.size + 1), 9, none⟩ = some (vv 3) := Base.blk_cell hb 9
              have hbz9 : (wr).frozen? ⟨(w.heap.size + 1), 9, none⟩ = false := Base.blk_frozen hb 9
              have hbc10 : (wr).cell? ⟨(w.heap.size + 1), 10, none⟩ = some (.int .i64 0) := Base.blk_cell hb 10
              have hbz10 : (wr).frozen? ⟨(w.heap.size + 1), 10, none⟩ = false := Base.blk_frozen hb 10
              have hbc11 : (wr).cell? ⟨(w.heap.size + 1), 11, none⟩ = some (.int .i64 0) := Base.blk_cell hb 11
              have hbz11 : (wr).frozen? ⟨(w.heap.size + 1), 11, none⟩ = false := Base.blk_frozen hb 11
              go_wp2_with fail
              refine wp_region_lex (Only (w.heap.size + 1)) [0, 1, 2, 4, 5, 3, 6, 7, 8] (by kernel_rfl) (by kernel_rfl) rfl (by kernel_rfl) ?_
              simp only [inOrder, List.filterMap_cons, List.filterMap_nil, List.getElem?_cons_zero, List.getElem?_cons_succ]
              try simp only [Act.put, List.setIfInBounds_toArray, List.set_cons_zero, List.set_cons_succ]
              repeat
                first
                | (refine lex_pure (v := ?_) rfl rfl ?_ ?_
                   rotate_left
                   · intro w' hU'
                     go_simp
                     try with_reducible rfl
                   try simp only [Act.put, List.setIfInBounds_toArray, List.set_cons_zero, List.set_cons_succ])
                | (refine lex_skip rfl ?_
                   try simp only [Act.put, List.setIfInBounds_toArray, List.set_cons_zero, List.set_cons_succ])
              refine lex_fn (f := 13) (args := _) rfl rfl (by go_simp) ((kcl _ hUd).mono ?_)
              rintro e w5 ⟨x5, rfl, hx5, hU5⟩
              refine ⟨_, rfl, hU5.mono (fun _ h => h.elim), ?_⟩
              try simp only [Act.put, List.setIfInBounds_toArray, List.set_cons_zero, List.set_cons_succ]
              repeat
                first
                | (refine lex_pure (v := ?_) rfl rfl ?_ ?_
                   rotate_left
                   · intro w' hU'
                     go_simp
                     try with_reducible rfl
                   try simp only [Act.put, List.setIfInBounds_toArray, List.set_cons_zero, List.set_cons_succ])
                | (refine lex_skip rfl ?_
                   try simp only [Act.put, List.setIfInBounds_toArray, List.set_cons_zero, List.set_cons_succ])
              have hb5 := hU5.blk (blk_drew hb) (fun h => h)
              have g5 : w5.cell? ⟨w.heap.size + 1, 3, none⟩ = some (vv 1) := blk_cell hb5 3
              have q5 : w5.frozen? ⟨w.heap.size + 1, 3, none⟩ = false := blk_frozen hb5 3
              have hvi : vv 1 = .slice none 0 0 := hrest 1 (by omega)
              rw [hvi] at g5
              obtain ⟨A5, c5, rfl, hc5⟩ := hx5.form
              refine lex_store (w' := w5.setCell ⟨w.heap.size + 1, 3, none⟩ (.slice A5 (fa 1).length c5)) rfl rfl (by go_simp) ((Upd.refl (Only (w.heap.size + 1)) w5).set1 _) ?_
              try simp only [Act.put, List.setIfInBounds_toArray, List.set_cons_zero, List.set_cons_succ]
              refine lex_done ?_
              have hb6 : (w5.setCell ⟨w.heap.size + 1, 3, none⟩ (.slice A5 (fa 1).length c5)).heap[w.heap.size + 1]? = some (.cells (drC (up vv 1 (.slice A5 (fa 1).length c5)) zeros zeros) 47 (0, 0)) := blk_put hb5 3 _ rfl
              have hU6 : Upd (Only (w.heap.size + 1)) w5 (w5.setCell ⟨w.heap.size + 1, 3, none⟩ (.slice A5 (fa 1).length c5)) := (Upd.refl _ _).set1 _
              have hrel6 : ∀ j, j < 1 + 1 → Sl (w5.setCell ⟨w.heap.size + 1, 3, none⟩ (.slice A5 (fa 1).length c5)) w.heap.size 3 1 ic (up vv 1 (.slice A5 (fa 1).length c5) j) (fa j) ∧ ∀ x ∈ fa j, 1 ≤ x := by
                intro j hj
                by_cases e : j = 1
                · subst e
                  refine ⟨?_, (fun x hx => by rw [hzz.out] at hx; cases hx)⟩
                  have e2 : up vv 1 (.slice A5 (fa 1).length c5) 1 = .slice A5 (fa 1).length c5 := rfl
                  rw [e2]
                  exact (hx5.lower (Nat.le_trans hU.size (Nat.le_refl _))).upd hU6 (fun k hk e => hx5.ne hb5 (by decide) k hk e)
                · have e2 : up vv 1 (.slice A5 (fa 1).length c5) j = vv j := by unfold up; rw [if_neg e]
                  rw [e2]
                  obtain ⟨s1, s2⟩ := hdoneH.out j (by omega)
                  have s3 := (s1.drew).upd0 hU5
                  exact ⟨s3.upd hU6 (fun k hk e => s3.ne hb5 (by decide) k hk e), s2⟩
              have hrest6 : ∀ j, 1 + 1 ≤ j → up vv 1 (.slice A5 (fa 1).length c5) j = .slice none 0 0 := fun j hj => by
                have e2 : up vv 1 (.slice A5 (fa 1).length c5) j = vv j := by unfold up; rw [if_neg (by omega)]
                rw [e2]
                exact hrest j (by omega)
              have hU7 : Upd Nil w (w5.setCell ⟨w.heap.size + 1, 3, none⟩ (.slice A5 (fa 1).length c5)) := (hUd.tr hU5).newOnly hU6 (by omega)
              generalize w5.setCell ⟨w.heap.size + 1, 3, none⟩ (.slice A5 (fa 1).length c5) = w6 at *
              have hfinH := Lib.hid (And.intro hrel6 hrest6)
              clear hrel6 hrest6 g5 q5 hbc0 hbc1 hbc2 hbc3 hbc4 hbc5 hbc6 hbc7 hbc8 hbc9 hbc10 hbc11 hbz0 hbz1 hbz2 hbz3 hbz4 hbz5 hbz6 hbz7 hbz8 hbz9 hbz10 hbz11
              go_wp2_with fail
              go_roundw
              case measure => simp [intOf]
              case rel => exact ⟨1 + 1, _, by omega, rfl, hb6, Lib.hid hfinH.out.1, hfinH.out.2, hU7⟩
            · obtain ⟨x0, l0, hxl⟩ := List.exists_cons_of_ne_nil hz
              have kmin := mins (A 1) (c 1) x0 l0 wr (by rw [← hxl]; exact (h.upd hU).arg 1 (by omega)) (by rw [← hxl]; have := h.le 1 (by omega); unfold maxLen; omega)
              have hpos : (0 : Int) < ((fa 1).length : Int) := by rw [hxl]; simp
              have hlow := minL_lt l0 x0 1
              rw [← hxl] at kmin
              have hxlH := Lib.hid hxl
              clear hxl hz
              by_cases hm : minL l0 x0 < 1
              · have hres : Hid (∀ w', Upd Nil w w' → NewR fa w (.returned (.tuple #[.pointer none, .int .i64 5])) w') := by
                  show ∀ _, _
                  intro w' u
                  have hnl : ¬ Long fa := fun ⟨i, hi, hx⟩ => absurd (hshH.out i hi) (by omega)
                  rcases hlow.1 hm with h1 | ⟨x, hx, h1⟩
                  · exact new_low u hnl 1 (by omega) x0 (by rw [hxlH.out]; simp) h1
                  · exact new_low u hnl 1 (by omega) x (by rw [hxlH.out]; simp [hx]) h1
                clear hlow
                go_wp2_with fail
                refine kmin.mono ?_
                rintro e w' ⟨rfl, rfl⟩
                go_wp2_with fail
                go_ret2
                exact hres.out _ hU
              · have hlowH : Hid (∀ x ∈ fa 1, 1 ≤ x) := by
                  show ∀ _, _
                  intro x hx
                  refine Int.not_lt.1 fun hx1 => ?_
                  rw [hxlH.out] at hx
                  rcases List.mem_cons.1 hx with rfl | hx
                  · exact hm (hlow.2 (.inl hx1))
                  · exact hm (hlow.2 (.inr ⟨x, hx, hx1⟩))
                clear hlow
                have kcl := fun w' (u : Upd Nil w w') => cloneI (A 1) (c 1) (fa 1) w' ((h.upd u).arg 1 (by omega)) (by have := hshH.out 1 (by omega); omega)
                have hUd := (hU.tr ((Upd.refl Nil wr).drew))
                have hN := hU.size
                have hbc0 : (wr).cell? ⟨(w.heap.size + 1), 0, none⟩ = some (vv 0) := Base.blk_cell hb 0
                have hbz0 : (wr).frozen? ⟨(w.heap.size + 1), 0, none⟩ = false := Base.blk_frozen hb 0
                have hbc1 : (wr).cell? ⟨(w.heap.size + 1), 1, none⟩ = some (.int .i64 0) := Base.blk_cell hb 1
                have hbz1 : (wr).frozen? ⟨(w.heap.size + 1), 1, none⟩ = false := Base.blk_frozen hb 1
                have hbc2 : (wr).cell? ⟨(w.heap.size + 1), 2, none⟩ = some (.int .i64 0) := Base.blk_cell hb 2
                have hbz2 : (wr).frozen? ⟨(w.heap.size + 1), 2, none⟩ = false := Base.blk_frozen hb 2
                have hbc3 : (wr).cell? ⟨(w.heap.size + 1), 3, none⟩ = some (vv 1) := Base.blk_cell hb 3
                have hbz3 : (wr).frozen? ⟨(w.heap.size + 1), 3, none⟩ = false := Base.blk_frozen hb 3
                have hbc4 : (wr).cell? ⟨(w.heap.size + 1), 4, none⟩ = some (.int .i64 0) := Base.blk_cell hb 4
                have hbz4 : (wr).frozen? ⟨(w.heap.size + 1), 4, none⟩ = false := Base.blk_frozen hb 4
                have hbc5 : (wr).cell? ⟨(w.heap.size + 1), 5, none⟩ = some (.int .i64 0) := Base.blk_cell hb 5
                have hbz5 : (wr).frozen? ⟨(w.heap.size + 1), 5, none⟩ = false := Base.blk_frozen hb 5
                have hbc6 : (wr).cell? ⟨(w.heap.size + 1), 6, none⟩ = some (vv 2) := Base.blk_cell hb 6
                have hbz6 : (wr).frozen? ⟨(w.heap.size + 1), 6, none⟩ = false := Base.blk_frozen hb 6
                have hbc7 : (wr).cell? ⟨(w.heap.size + 1), 7, none⟩ = some (.int .i64 0) := Base.blk_cell hb 7
                have hbz7 : (wr).frozen? ⟨(w.heap.size + 1), 7, none⟩ = false := Base.blk_frozen hb 7
                have hbc8 : (wr).cell? ⟨(w.heap.size + 1), 8, none⟩ = some (.int .i64 0) := Base.blk_cell hb 8
                have hbz8 : (wr).frozen? ⟨(w.heap.size + 1), 8, none⟩ = false := Base.blk_frozen hb 8
                have hbc9 : (wr).cell? ⟨(w.heap.size + 1), 9, none⟩ = some (vv 3) := Base.blk_cell hb 9
                have hbz9 : (wr).frozen? ⟨(w.heap.size + 1), 9, none⟩ = false := Base.blk_frozen hb 9
                have hbc10 : (wr).cell? ⟨(w.heap.size + 1), 10, none⟩ = some (.int .i64 0) := Base.blk_cell hb 10
                have hbz10 : (wr).frozen? ⟨(w.heap.size + 1), 10, none⟩ = false := Base.blk_frozen hb 10
                have hbc11 : (wr).cell? ⟨(w.heap.size + 1), 11, none⟩ = some (.int .i64 0) := Base.blk_cell hb 11
                have hbz11 : (wr).frozen? ⟨(w.heap.size + 1), 11, none⟩ = false := Base.blk_frozen hb 11
                (go_wp2_with fail; refine kmin.mono ?_; rintro e w' ⟨rfl, rfl⟩; go_wp2_with fail)
                refine wp_region_lex (Only (w.heap.size + 1)) [0, 1, 2, 4, 5, 3, 6, 7, 8] (by kernel_rfl) (by kernel_rfl) rfl (by kernel_rfl) ?_
                simp only [inOrder, List.filterMap_cons, List.filterMap_nil, List.getElem?_cons_zero, List.getElem?_cons_succ]
                try simp only [Act.put, List.setIfInBounds_toArray, List.set_cons_zero, List.set_cons_succ]
                repeat
                  first
                  | (refine lex_pure (v := ?_) rfl rfl ?_ ?_
                     rotate_left
                     · intro w' hU'
                       go_simp
                       try with_reducible rfl
                     try simp only [Act.put, List.setIfInBounds_toArray, List.set_cons_zero, List.set_cons_succ])
                  | (refine lex_skip rfl ?_
                     try simp only [Act.put, List.setIfInBounds_toArray, List.set_cons_zero, List.set_cons_succ])
                refine lex_fn (f := 13) (args := _) rfl rfl (by go_simp) ((kcl _ hUd).mono ?_)
                rintro e w5 ⟨x5, rfl, hx5, hU5⟩
                refine ⟨_, rfl, hU5.mono (fun _ h => h.elim), ?_⟩
                try simp only [Act.put, List.setIfInBounds_toArray, List.set_cons_zero, List.set_cons_succ]
                repeat
                  first
                  | (refine lex_pure (v := ?_) rfl rfl ?_ ?_
                     rotate_left
                     · intro w' hU'
                       go_simp
                       try with_reducible rfl
                     try simp only [Act.put, List.setIfInBounds_toArray, List.set_cons_zero, List.set_cons_succ])
                  | (refine lex_skip rfl ?_
                     try simp only [Act.put, List.setIfInBounds_toArray, List.set_cons_zero, List.set_cons_succ])
                have hb5 := hU5.blk (blk_drew hb) (fun h => h)
                have g5 : w5.cell? ⟨w.heap.size + 1, 3, none⟩ = some (vv 1) := blk_cell hb5 3
                have q5 : w5.frozen? ⟨w.heap.size + 1, 3, none⟩ = false := blk_frozen hb5 3
                have hvi : vv 1 = .slice none 0 0 := hrest 1 (by omega)
                rw [hvi] at g5
                obtain ⟨A5, c5, rfl, hc5⟩ := hx5.form
                refine lex_store (w' := w5.setCell ⟨w.heap.size + 1, 3, none⟩ (.slice A5 (fa 1).length c5)) rfl rfl (by go_simp) ((Upd.refl (Only (w.heap.size + 1)) w5).set1 _) ?_
                try simp only [Act.put, List.setIfInBounds_toArray, List.set_cons_zero, List.set_cons_succ]
                refine lex_done ?_
                have hb6 : (w5.setCell ⟨w.heap.size + 1, 3, none⟩ (.slice A5 (fa 1).length c5)).heap[w.heap.size + 1]? = some (.cells (drC (up vv 1 (.slice A5 (fa 1).length c5)) zeros zeros) 47 (0, 0)) := blk_put hb5 3 _ rfl
                have hU6 : Upd (Only (w.heap.size + 1)) w5 (w5.setCell ⟨w.heap.size + 1, 3, none⟩ (.slice A5 (fa 1).length c5)) := (Upd.refl _ _).set1 _
                have hrel6 : ∀ j, j < 1 + 1 → Sl (w5.setCell ⟨w.heap.size + 1, 3, none⟩ (.slice A5 (fa 1).length c5)) w.heap.size 3 1 ic (up vv 1 (.slice A5 (fa 1).length c5) j) (fa j) ∧ ∀ x ∈ fa j, 1 ≤ x := by
                  intro j hj
                  by_cases e : j = 1
                  · subst e
                    refine ⟨?_, hlowH.out⟩
                    have e2 : up vv 1 (.slice A5 (fa 1).length c5) 1 = .slice A5 (fa 1).length c5 := rfl
                    rw [e2]
                    exact (hx5.lower (Nat.le_trans hU.size (Nat.le_refl _))).upd hU6 (fun k hk e => hx5.ne hb5 (by decide) k hk e)
                  · have e2 : up vv 1 (.slice A5 (fa 1).length c5) j = vv j := by unfold up; rw [if_neg e]
                    rw [e2]
                    obtain ⟨s1, s2⟩ := hdoneH.out j (by omega)
                    have s3 := (s1.drew).upd0 hU5
                    exact ⟨s3.upd hU6 (fun k hk e => s3.ne hb5 (by decide) k hk e), s2⟩
                have hrest6 : ∀ j, 1 + 1 ≤ j → up vv 1 (.slice A5 (fa 1).length c5) j = .slice none 0 0 := fun j hj => by
                  have e2 : up vv 1 (.slice A5 (fa 1).length c5) j = vv j := by unfold up; rw [if_neg (by omega)]
                  rw [e2]
                  exact hrest j (by omega)
                have hU7 : Upd Nil w (w5.setCell ⟨w.heap.size + 1, 3, none⟩ (.slice A5 (fa 1).length c5)) := (hUd.tr hU5).newOnly hU6 (by omega)
                generalize w5.setCell ⟨w.heap.size + 1, 3, none⟩ (.slice A5 (fa 1).length c5) = w6 at *
                have hfinH := Lib.hid (And.intro hrel6 hrest6)
                clear hrel6 hrest6 g5 q5 hbc0 hbc1 hbc2 hbc3 hbc4 hbc5 hbc6 hbc7 hbc8 hbc9 hbc10 hbc11 hbz0 hbz1 hbz2 hbz3 hbz4 hbz5 hbz6 hbz7 hbz8 hbz9 hbz10 hbz11
                go_wp2_with fail
                go_roundw
                case measure => simp [intOf]
                case rel => exact ⟨1 + 1, _, by omega, rfl, hb6, Lib.hid hfinH.out.1, hfinH.out.2, hU7⟩
          · skip
            by_cases hz : fa 2 = []
            · have hlen : ((fa 2).length : Int) = 0 := by rw [hz]; rfl
              have hzz := Lib.hid hz
              clear hz
              have kcl := fun w' (u : Upd Nil w w') => cloneI (A 2) (c 2) (fa 2) w' ((h.upd u).arg 2 (by omega)) (by have := hshH.out 2 (by omega); omega)
              have hUd := (hU.tr ((Upd.refl Nil wr).drew))
              have hN := hU.size
              have hbc0 : (wr).cell? ⟨(w.heap.size + 1), 0, none⟩ = some (vv 0) := Base.blk_cell hb 0
              have hbz0 : (wr).frozen? ⟨(w.heap.size + 1), 0, none⟩ = false := Base.blk_frozen hb 0
              have hbc1 : (wr).cell? ⟨(w.heap.size + 1), 1, none⟩ = some (.int .i64 0) := Base.blk_cell hb 1
              have hbz1 : (wr).frozen? ⟨(w.heap.size + 1), 1, none⟩ = false := Base.blk_frozen hb 1
              have hbc2 : (wr).cell? ⟨(w.heap.size + 1), 2, none⟩ = some (.int .i64 0) := Base.blk_cell hb 2
              have hbz2 : (wr).frozen? ⟨(w.heap.size + 1), 2, none⟩ = false := Base.blk_frozen hb 2
              have hbc3 : (wr).cell? ⟨(w.heap.size + 1), 3, none⟩ = some (vv 1) := Base.blk_cell hb 3
              have hbz3 : (wr).frozen? ⟨(w.heap.size + 1), 3, none⟩ = false := Base.blk_frozen hb 3
              have hbc4 : (wr).cell? ⟨(w.heap.size + 1), 4, none⟩ = some (.int .i64 0) := Base.blk_cell hb 4
              have hbz4 : (wr).frozen? ⟨(w.heap.size + 1), 4, none⟩ = false := Base.blk_frozen hb 4
              have hbc5 : (wr).cell? ⟨(w.heap.size + 1), 5, none⟩ = some (.int .i64 0) := Base.blk_cell hb 5
              have hbz5 : (wr).frozen? ⟨(w.heap.size + 1), 5, none⟩ = false := Base.blk_frozen hb 5
              have hbc6 : (wr).cell? ⟨(w.heap.size + 1), 6, none⟩ = some (vv 2) := Base.blk_cell hb 6
              have hbz6 : (wr).frozen? ⟨(w.heap.size + 1), 6, none⟩ = false := Base.blk_frozen hb 6
              have hbc7 : (wr).cell? ⟨(w.heap.size + 1), 7, none⟩ = some (.int .i64 0) := Base.blk_cell hb 7
              have hbz7 : (wr).frozen? ⟨(w.heap.size + 1), 7, none⟩ = false := Base.blk_frozen hb 7
              have hbc8 : (wr).cell? ⟨(w.heap.size + 1), 8, none⟩ = some (.int .i64 0) := Base.blk_cell hb 8
              have hbz8 : (wr).frozen? ⟨(w.heap.size + 1), 8, none⟩ = false := Base.blk_frozen hb 8
              have hbc9 : (wr).cell? ⟨(w.heap.size + 1), 9, none⟩ = some (vv 3) := Base.blk_cell hb 9
              have hbz9 : (wr).frozen? ⟨(w.heap.size + 1), 9, none⟩ = false := Base.blk_frozen hb 9
              have hbc10 : (wr).cell? ⟨(w.heap.size + 1), 10, none⟩ = some (.int .i64 0) := Base.blk_cell hb 10
              have hbz10 : (wr).frozen? ⟨(w.heap.size + 1), 10, none⟩ = false := Base.blk_frozen hb 10
              have hbc11 : (wr).cell? ⟨(w.heap.size + 1), 11, none⟩ = some (.int .i64 0) := Base.blk_cell hb 11
              have hbz11 : (wr).frozen? ⟨(w.heap.size + 1), 11, none⟩ = false := Base.blk_frozen hb 11
              go_wp2_with fail
              refine wp_region_lex (Only (w.heap.size + 1)) [0, 1, 2, 4, 5, 3, 6, 7, 8] (by kernel_rfl) (by kernel_rfl) rfl (by kernel_rfl) ?_
              simp only [inOrder, List.filterMap_cons, List.filterMap_nil, List.getElem?_cons_zero, List.getElem?_cons_succ]
              try simp only [Act.put, List.setIfInBounds_toArray, List.set_cons_zero, List.set_cons_succ]
              repeat
                first
                | (refine lex_pure (v := ?_) rfl rfl ?_ ?_
                   rotate_left
                   · intro w' hU'
                     go_simp
                     try with_reducible rfl
                   try simp only [Act.put, List.setIfInBounds_toArray, List.set_cons_zero, List.set_cons_succ])
                | (refine lex_skip rfl ?_
                   try simp only [Act.put, List.setIfInBounds_toArray, List.set_cons_zero, List.set_cons_succ])
              refine lex_fn (f := 13) (args := _) rfl rfl (by go_simp) ((kcl _ hUd).mono ?_)
              rintro e w5 ⟨x5, rfl, hx5, hU5⟩
              refine ⟨_, rfl, hU5.mono (fun _ h => h.elim), ?_⟩
              try simp only [Act.put, List.setIfInBounds_toArray, List.set_cons_zero, List.set_cons_succ]
              repeat
                first
                | (refine lex_pure (v := ?_) rfl rfl ?_ ?_
                   rotate_left
                   · intro w' hU'
                     go_simp
                     try with_reducible rfl
                   try simp only [Act.put, List.setIfInBounds_toArray, List.set_cons_zero, List.set_cons_succ])
                | (refine lex_skip rfl ?_
                   try simp only [Act.put, List.setIfInBounds_toArray, List.set_cons_zero, List.set_cons_succ])
              have hb5 := hU5.blk (blk_drew hb) (fun h => h)
              have g5 : w5.cell? ⟨w.heap.size + 1, 6, none⟩ = some (vv 2) := blk_cell hb5 6
              have q5 : w5.frozen? ⟨w.heap.size + 1, 6, none⟩ = false := blk_frozen hb5 6
              have hvi : vv 2 = .slice none 0 0 := hrest 2 (by omega)
              rw [hvi] at g5
              obtain ⟨A5, c5, rfl, hc5⟩ := hx5.form
              refine lex_store (w' := w5.setCell ⟨w.heap.size + 1, 6, none⟩ (.slice A5 (fa 2).length c5)) rfl rfl (by go_simp) ((Upd.refl (Only (w.heap.size + 1)) w5).set1 _) ?_
              try simp only [Act.put, List.setIfInBounds_toArray, List.set_cons_zero, List.set_cons_succ]
              refine lex_done ?_
              have hb6 : (w5.setCell ⟨w.heap.size + 1, 6, none⟩ (.slice A5 (fa 2).length c5)).heap[w.heap.size + 1]? = some (.cells (drC (up vv 2 (.slice A5 (fa 2).length c5)) zeros zeros) 47 (0, 0)) := blk_put hb5 6 _ rfl
              have hU6 : Upd (Only (w.heap.size + 1)) w5 (w5.setCell ⟨w.heap.size + 1, 6, none⟩ (.slice A5 (fa 2).length c5)) := (Upd.refl _ _).set1 _
              have hrel6 : ∀ j, j < 2 + 1 → Sl (w5.setCell ⟨w.heap.size + 1, 6, none⟩ (.slice A5 (fa 2).length c5)) w.heap.size 3 1 ic (up vv 2 (.slice A5 (fa 2).length c5) j) (fa j) ∧ ∀ x ∈ fa j, 1 ≤ x := by
                intro j hj
                by_cases e : j = 2
                · subst e
                  refine ⟨?_, (fun x hx => by rw [hzz.out] at hx; cases hx)⟩
                  have e2 : up vv 2 (.slice A5 (fa 2).length c5) 2 = .slice A5 (fa 2).length c5 := rfl
                  rw [e2]
                  exact (hx5.lower (Nat.le_trans hU.size (Nat.le_refl _))).upd hU6 (fun k hk e => hx5.ne hb5 (by decide) k hk e)
                · have e2 : up vv 2 (.slice A5 (fa 2).length c5) j = vv j := by unfold up; rw [if_neg e]
                  rw [e2]
                  obtain ⟨s1, s2⟩ := hdoneH.out j (by omega)
                  have s3 := (s1.drew).upd0 hU5
                  exact ⟨s3.upd hU6 (fun k hk e => s3.ne hb5 (by decide) k hk e), s2⟩
              have hrest6 : ∀ j, 2 + 1 ≤ j → up vv 2 (.slice A5 (fa 2).length c5) j = .slice none 0 0 := fun j hj => by
                have e2 : up vv 2 (.slice A5 (fa 2).length c5) j = vv j := by unfold up; rw [if_neg (by omega)]
                rw [e2]
                exact hrest j (by omega)
              have hU7 : Upd Nil w (w5.setCell ⟨w.heap.size + 1, 6, none⟩ (.slice A5 (fa 2).length c5)) := (hUd.tr hU5).newOnly hU6 (by omega)
              generalize w5.setCell ⟨w.heap.size + 1, 6, none⟩ (.slice A5 (fa 2).length c5) = w6 at *
              have hfinH := Lib.hid (And.intro hrel6 hrest6)
              clear hrel6 hrest6 g5 q5 hbc0 hbc1 hbc2 hbc3 hbc4 hbc5 hbc6 hbc7 hbc8 hbc9 hbc10 hbc11 hbz0 hbz1 hbz2 hbz3 hbz4 hbz5 hbz6 hbz7 hbz8 hbz9 hbz10 hbz11
              go_wp2_with fail
              go_roundw
              case measure => simp [intOf]
              case rel => exact ⟨2 + 1, _, by omega, rfl, hb6, Lib.hid hfinH.out.1, hfinH.out.2, hU7⟩
            · obtain ⟨x0, l0, hxl⟩ := List.exists_cons_of_ne_nil hz
              have kmin := mins (A 2) (c 2) x0 l0 wr (by rw [← hxl]; exact (h.upd hU).arg 2 (by omega)) (by rw [← hxl]; have := h.le 2 (by omega); unfold maxLen; omega)
              have hpos : (0 : Int) < ((fa 2).length : Int) := by rw [hxl]; simp
              have hlow := minL_lt l0 x0 1
              rw [← hxl] at kmin
              have hxlH := Lib.hid hxl
              clear hxl hz
              by_cases hm : minL l0 x0 < 1
              · have hres : Hid (∀ w', Upd Nil w w' → NewR fa w (.returned (.tuple #[.pointer none, .int .i64 5])) w') := by
                  show ∀ _, _
                  intro w' u
                  have hnl : ¬ Long fa := fun ⟨i, hi, hx⟩ => absurd (hshH.out i hi) (by omega)
                  rcases hlow.1 hm with h1 | ⟨x, hx, h1⟩
                  · exact new_low u hnl 2 (by omega) x0 (by rw [hxlH.out]; simp) h1
                  · exact new_low u hnl 2 (by omega) x (by rw [hxlH.out]; simp [hx]) h1
                clear hlow
                go_wp2_with fail
                refine kmin.mono ?_
                rintro e w' ⟨rfl, rfl⟩
                go_wp2_with fail
                go_ret2
                exact hres.out _ hU
              · have hlowH : Hid (∀ x ∈ fa 2, 1 ≤ x) := by
                  show ∀ _, _
                  intro x hx
                  refine Int.not_lt.1 fun hx1 => ?_
                  rw [hxlH.out] at hx
                  rcases List.mem_cons.1 hx with rfl | hx
                  · exact hm (hlow.2 (.inl hx1))
                  · exact hm (hlow.2 (.inr ⟨x, hx, hx1⟩))
                clear hlow
                have kcl := fun w' (u : Upd Nil w w') => cloneI (A 2) (c 2) (fa 2) w' ((h.upd u).arg 2 (by omega)) (by have := hshH.out 2 (by omega); omega)
                have hUd := (hU.tr ((Upd.refl Nil wr).drew))
                have hN := hU.size
                have hbc0 : (wr).cell? ⟨(w.heap.size + 1), 0, none⟩ = some (vv 0) := Base.blk_cell hb 0
                have hbz0 : (wr).frozen? ⟨(w.heap.size + 1), 0, none⟩ = false := Base.blk_frozen hb 0
                have hbc1 : (wr).cell? ⟨(w.heap.size + 1), 1, none⟩ = some (.int .i64 0) := Base.blk_cell hb 1
                have hbz1 : (wr).frozen? ⟨(w.heap.size + 1), 1, none⟩ = false := Base.blk_frozen hb 1
                have hbc2 : (wr).cell? ⟨(w.heap.size + 1), 2, none⟩ = some (.int .i64 0) := Base.blk_cell hb 2
                have hbz2 : (wr).frozen? ⟨(w.heap.size + 1), 2, none⟩ = false := Base.blk_frozen hb 2
                have hbc3 : (wr).cell? ⟨(w.heap.size + 1), 3, none⟩ = some (vv 1) := Base.blk_cell hb 3
                have hbz3 : (wr).frozen? ⟨(w.heap.size + 1), 3, none⟩ = false := Base.blk_frozen hb 3
                have hbc4 : (wr).cell? ⟨(w.heap.size + 1), 4, none⟩ = some (.int .i64 0) := Base.blk_cell hb 4
                have hbz4 : (wr).frozen? ⟨(w.heap.size + 1), 4, none⟩ = false := Base.blk_frozen hb 4
                have hbc5 : (wr).cell? ⟨(w.heap.size + 1), 5, none⟩ = some (.int .i64 0) := Base.blk_cell hb 5
                have hbz5 : (wr).frozen? ⟨(w.heap.size + 1), 5, none⟩ = false := Base.blk_frozen hb 5
                have hbc6 : (wr).cell? ⟨(w.heap.size + 1), 6, none⟩ = some (vv 2) := Base.blk_cell hb 6
                have hbz6 : (wr).frozen? ⟨(w.heap.size + 1), 6, none⟩ = false := Base.blk_frozen hb 6
                have hbc7 : (wr).cell? ⟨(w.heap.size + 1), 7, none⟩ = some (.int .i64 0) := Base.blk_cell hb 7
                have hbz7 : (wr).frozen? ⟨(w.heap.size + 1), 7, none⟩ = false := Base.blk_frozen hb 7
                have hbc8 : (wr).cell? ⟨(w.heap.size + 1), 8, none⟩ = some (.int .i64 0) := Base.blk_cell hb 8
                have hbz8 : (wr).frozen? ⟨(w.heap.size + 1), 8, none⟩ = false := Base.blk_frozen hb 8
                have hbc9 : (wr).cell? ⟨(w.heap.size + 1), 9, none⟩ = some (vv 3) := Base.blk_cell hb 9
                have hbz9 : (wr).frozen? ⟨(w.heap.size + 1), 9, none⟩ = false := Base.blk_frozen hb 9
                have hbc10 : (wr).cell? ⟨(w.heap.size + 1), 10, none⟩ = some (.int .i64 0) := Base.blk_cell hb 10
                have hbz10 : (wr).frozen? ⟨(w.heap.size + 1), 10, none⟩ = false := Base.blk_frozen hb 10
                have hbc11 : (wr).cell? ⟨(w.heap.size + 1), 11, none⟩ = some (.int .i64 0) := Base.blk_cell hb 11
                have hbz11 : (wr).frozen? ⟨(w.heap.size + 1), 11, none⟩ = false := Base.blk_frozen hb 11
                (go_wp2_with fail; refine kmin.mono ?_; rintro e w' ⟨rfl, rfl⟩; go_wp2_with fail)
                refine wp_region_lex (Only (w.heap.size + 1)) [0, 1, 2, 4, 5, 3, 6, 7, 8] (by kernel_rfl) (by kernel_rfl) rfl (by kernel_rfl) ?_
                simp only [inOrder, List.filterMap_cons, List.filterMap_nil, List.getElem?_cons_zero, List.getElem?_cons_succ]
                try simp only [Act.put, List.setIfInBounds_toArray, List.set_cons_zero, List.set_cons_succ]
                repeat
                  first
                  | (refine lex_pure (v := ?_) rfl rfl ?_ ?_
                     rotate_left
                     · intro w' hU'
                       go_simp
                       try with_reducible rfl
                     try simp only [Act.put, List.setIfInBounds_toArray, List.set_cons_zero, List.set_cons_succ])
                  | (refine lex_skip rfl ?_
                     try simp only [Act.put, List.setIfInBounds_toArray, List.set_cons_zero, List.set_cons_succ])
                refine lex_fn (f := 13) (args := _) rfl rfl (by go_simp) ((kcl _ hUd).mono ?_)
                rintro e w5 ⟨x5, rfl, hx5, hU5⟩
                refine ⟨_, rfl, hU5.mono (fun _ h => h.elim), ?_⟩
                try simp only [Act.put, List.setIfInBounds_toArray, List.set_cons_zero, List.set_cons_succ]
                repeat
                  first
                  | (refine lex_pure (v := ?_) rfl rfl ?_ ?_
                     rotate_left
                     · intro w' hU'
                       go_simp
                       try with_reducible rfl
                     try simp only [Act.put, List.setIfInBounds_toArray, List.set_cons_zero, List.set_cons_succ])
                  | (refine lex_skip rfl ?_
                     try simp only [Act.put, List.setIfInBounds_toArray, List.set_cons_zero, List.set_cons_succ])
                have hb5 := hU5.blk (blk_drew hb) (fun h => h)
                have g5 : w5.cell? ⟨w.heap.size + 1, 6, none⟩ = some (vv 2) := blk_cell hb5 6
                have q5 : w5.frozen? ⟨w.heap.size + 1, 6, none⟩ = false := blk_frozen hb5 6
                have hvi : vv 2 = .slice none 0 0 := hrest 2 (by omega)
                rw [hvi] at g5
                obtain ⟨A5, c5, rfl, hc5⟩ := hx5.form
                refine lex_store (w' := w5.setCell ⟨w.heap.size + 1, 6, none⟩ (.slice A5 (fa 2).length c5)) rfl rfl (by go_simp) ((Upd.refl (Only (w.heap.size + 1)) w5).set1 _) ?_
                try simp only [Act.put, List.setIfInBounds_toArray, List.set_cons_zero, List.set_cons_succ]
                refine lex_done ?_
                have hb6 : (w5.setCell ⟨w.heap.size + 1, 6, none⟩ (.slice A5 (fa 2).length c5)).heap[w.heap.size + 1]? = some (.cells (drC (up vv 2 (.slice A5 (fa 2).length c5)) zeros zeros) 47 (0, 0)) := blk_put hb5 6 _ rfl
                have hU6 : Upd (Only (w.heap.size + 1)) w5 (w5.setCell ⟨w.heap.size + 1, 6, none⟩ (.slice A5 (fa 2).length c5)) := (Upd.refl _ _).set1 _
                have hrel6 : ∀ j, j < 2 + 1 → Sl (w5.setCell ⟨w.heap.size + 1, 6, none⟩ (.slice A5 (fa 2).length c5)) w.heap.size 3 1 ic (up vv 2 (.slice A5 (fa 2).length c5) j) (fa j) ∧ ∀ x ∈ fa j, 1 ≤ x := by
                  intro j hj
                  by_cases e : j = 2
                  · subst e
                    refine ⟨?_, hlowH.out⟩
                    have e2 : up vv 2 (.slice A5 (fa 2).length c5) 2 = .slice A5 (fa 2).length c5 := rfl
                    rw [e2]
                    exact (hx5.lower (Nat.le_trans hU.size (Nat.le_refl _))).upd hU6 (fun k hk e => hx5.ne hb5 (by decide) k hk e)
                  · have e2 : up vv 2 (.slice A5 (fa 2).length c5) j = vv j := by unfold up; rw [if_neg e]
                    rw [e2]
                    obtain ⟨s1, s2⟩ := hdoneH.out j (by omega)
                    have s3 := (s1.drew).upd0 hU5
                    exact ⟨s3.upd hU6 (fun k hk e => s3.ne hb5 (by decide) k hk e), s2⟩
                have hrest6 : ∀ j, 2 + 1 ≤ j → up vv 2 (.slice A5 (fa 2).length c5) j = .slice none 0 0 := fun j hj => by
                  have e2 : up vv 2 (.slice A5 (fa 2).length c5) j = vv j := by unfold up; rw [if_neg (by omega)]
                  rw [e2]
                  exact hrest j (by omega)
                have hU7 : Upd Nil w (w5.setCell ⟨w.heap.size + 1, 6, none⟩ (.slice A5 (fa 2).length c5)) := (hUd.tr hU5).newOnly hU6 (by omega)
                generalize w5.setCell ⟨w.heap.size + 1, 6, none⟩ (.slice A5 (fa 2).length c5) = w6 at *
                have hfinH := Lib.hid (And.intro hrel6 hrest6)
                clear hrel6 hrest6 g5 q5 hbc0 hbc1 hbc2 hbc3 hbc4 hbc5 hbc6 hbc7 hbc8 hbc9 hbc10 hbc11 hbz0 hbz1 hbz2 hbz3 hbz4 hbz5 hbz6 hbz7 hbz8 hbz9 hbz10 hbz11
                go_wp2_with fail
                go_roundw
                case measure => simp [intOf]
                case rel => exact ⟨2 + 1, _, by omega, rfl, hb6, Lib.hid hfinH.out.1, hfinH.out.2, hU7⟩
          · skip
            by_cases hz : fa 3 = []
            · have hlen : ((fa 3).length : Int) = 0 := by rw [hz]; rfl
              have hzz := Lib.hid hz
              clear hz
              have kcl := fun w' (u : Upd Nil w w') => cloneI (A 3) (c 3) (fa 3) w' ((h.upd u).arg 3 (by omega)) (by have := hshH.out 3 (by omega); omega)
              have hUd := (hU.tr ((Upd.refl Nil wr).drew))
              have hN := hU.size
              have hbc0 : (wr).cell? ⟨(w.heap.size + 1), 0, none⟩ = some (vv 0) := Base.blk_cell hb 0
              have hbz0 : (wr).frozen? ⟨(w.heap.size + 1), 0, none⟩ = false := Base.blk_frozen hb 0
              have hbc1 : (wr).cell? ⟨(w.heap.size + 1), 1, none⟩ = some (.int .i64 0) := Base.blk_cell hb 1
              have hbz1 : (wr).frozen? ⟨(w.heap.size + 1), 1, none⟩ = false := Base.blk_frozen hb 1
              have hbc2 : (wr).cell? ⟨(w.heap.size + 1), 2, none⟩ = some (.int .i64 0) := Base.blk_cell hb 2
              have hbz2 : (wr).frozen? ⟨(w.heap.size + 1), 2, none⟩ = false := Base.blk_frozen hb 2
              have hbc3 : (wr).cell? ⟨(w.heap.size + 1), 3, none⟩ = some (vv 1) := Base.blk_cell hb 3
              have hbz3 : (wr).frozen? ⟨(w.heap.size + 1), 3, none⟩ = false := Base.blk_frozen hb 3
              have hbc4 : (wr).cell? ⟨(w.heap.size + 1), 4, none⟩ = some (.int .i64 0) := Base.blk_cell hb 4
              have hbz4 : (wr).frozen? ⟨(w.heap.size + 1), 4, none⟩ = false := Base.blk_frozen hb 4
              have hbc5 : (wr).cell? ⟨(w.heap.size + 1), 5, none⟩ = some (.int .i64 0) := Base.blk_cell hb 5
              have hbz5 : (wr).frozen? ⟨(w.heap.size + 1), 5, none⟩ = false := Base.blk_frozen hb 5
              have hbc6 : (wr).cell? ⟨(w.heap.size + 1), 6, none⟩ = some (vv 2) := Base.blk_cell hb 6
              have hbz6 : (wr).frozen? ⟨(w.heap.size + 1), 6, none⟩ = false := Base.blk_frozen hb 6
              have hbc7 : (wr).cell? ⟨(w.heap.size + 1), 7, none⟩ = some (.int .i64 0) := Base.blk_cell hb 7
              have hbz7 : (wr).frozen? ⟨(w.heap.size + 1), 7, none⟩ = false := Base.blk_frozen hb 7
              have hbc8 : (wr).cell? ⟨(w.heap.size + 1), 8, none⟩ = some (.int .i64 0) := Base.blk_cell hb 8
              have hbz8 : (wr).frozen? ⟨(w.heap.size + 1), 8, none⟩ = false := Base.blk_frozen hb 8
              have hbc9 : (wr).cell? ⟨(w.heap.size + 1), 9, none⟩ = some (vv 3) := Base.blk_cell hb 9
              have hbz9 : (wr).frozen? ⟨(w.heap.size + 1), 9, none⟩ = false := Base.blk_frozen hb 9
              have hbc10 : (wr).cell? ⟨(w.heap.size + 1), 10, none⟩ = some (.int .i64 0) := Base.blk_cell hb 10
              have hbz10 : (wr).frozen? ⟨(w.heap.size + 1), 10, none⟩ = false := Base.blk_frozen hb 10
              have hbc11 : (wr).cell? ⟨(w.heap.size + 1), 11, none⟩ = some (.int .i64 0) := Base.blk_cell hb 11
              have hbz11 : (wr).frozen? ⟨(w.heap.size + 1), 11, none⟩ = false := Base.blk_frozen hb 11
              go_wp2_with fail
              refine wp_region_lex (Only (w.heap.size + 1)) [0, 1, 2, 4, 5, 3, 6, 7, 8] (by kernel_rfl) (by kernel_rfl) rfl (by kernel_rfl) ?_
              simp only [inOrder, List.filterMap_cons, List.filterMap_nil, List.getElem?_cons_zero, List.getElem?_cons_succ]
              try simp only [Act.put, List.setIfInBounds_toArray, List.set_cons_zero, List.set_cons_succ]
              repeat
                first
                | (refine lex_pure (v := ?_) rfl rfl ?_ ?_
                   rotate_left
                   · intro w' hU'
                     go_simp
                     try with_reducible rfl
                   try simp only [Act.put, List.setIfInBounds_toArray, List.set_cons_zero, List.set_cons_succ])
                | (refine lex_skip rfl ?_
                   try simp only [Act.put, List.setIfInBounds_toArray, List.set_cons_zero, List.set_cons_succ])
              refine lex_fn (f := 13) (args := _) rfl rfl (by go_simp) ((kcl _ hUd).mono ?_)
              rintro e w5 ⟨x5, rfl, hx5, hU5⟩
              refine ⟨_, rfl, hU5.mono (fun _ h => h.elim), ?_⟩
              try simp only [Act.put, List.setIfInBounds_toArray, List.set_cons_zero, List.set_cons_succ]
              repeat
                first
                | (refine lex_pure (v := ?_) rfl rfl ?_ ?_
                   rotate_left
                   · intro w' hU'
                     go_simp
                     try with_reducible rfl
                   try simp only [Act.put, List.setIfInBounds_toArray, List.set_cons_zero, List.set_cons_succ])
                | (refine lex_skip rfl ?_
                   try simp only [Act.put, List.setIfInBounds_toArray, List.set_cons_zero, List.set_cons_succ])
              have hb5 := hU5.blk (blk_drew hb) (fun h => h)
              have g5 : w5.cell? ⟨w.heap.size + 1, 9, none⟩ = some (vv 3) := blk_cell hb5 9
              have q5 : w5.frozen? ⟨w.heap.size + 1, 9, none⟩ = false := blk_frozen hb5 9
              have hvi : vv 3 = .slice none 0 0 := hrest 3 (by omega)
              rw [hvi] at g5
              obtain ⟨A5, c5, rfl, hc5⟩ := hx5.form
              refine lex_store (w' := w5.setCell ⟨w.heap.size + 1, 9, none⟩ (.slice A5 (fa 3).length c5)) rfl rfl (by go_simp) ((Upd.refl (Only (w.heap.size + 1)) w5).set1 _) ?_
              try simp only [Act.put, List.setIfInBounds_toArray, List.set_cons_zero, List.set_cons_succ]
              refine lex_done ?_
              have hb6 : (w5.setCell ⟨w.heap.size + 1, 9, none⟩ (.slice A5 (fa 3).length c5)).heap[w.heap.size + 1]? = some (.cells (drC (up vv 3 (.slice A5 (fa 3).length c5)) zeros zeros) 47 (0, 0)) := blk_put hb5 9 _ rfl
              have hU6 : Upd (Only (w.heap.size + 1)) w5 (w5.setCell ⟨w.heap.size + 1, 9, none⟩ (.slice A5 (fa 3).length c5)) := (Upd.refl _ _).set1 _
              have hrel6 : ∀ j, j < 3 + 1 → Sl (w5.setCell ⟨w.heap.size + 1, 9, none⟩ (.slice A5 (fa 3).length c5)) w.heap.size 3 1 ic (up vv 3 (.slice A5 (fa 3).length c5) j) (fa j) ∧ ∀ x ∈ fa j, 1 ≤ x := by
                intro j hj
                by_cases e : j = 3
                · subst e
                  refine ⟨?_, (fun x hx => by rw [hzz.out] at hx; cases hx)⟩
                  have e2 : up vv 3 (.slice A5 (fa 3).length c5) 3 = .slice A5 (fa 3).length c5 := rfl
                  rw [e2]
                  exact (hx5.lower (Nat.le_trans hU.size (Nat.le_refl _))).upd hU6 (fun k hk e => hx5.ne hb5 (by decide) k hk e)
                · have e2 : up vv 3 (.slice A5 (fa 3).length c5) j = vv j := by unfold up; rw [if_neg e]
                  rw [e2]
                  obtain ⟨s1, s2⟩ := hdoneH.out j (by omega)
                  have s3 := (s1.drew).upd0 hU5
                  exact ⟨s3.upd hU6 (fun k hk e => s3.ne hb5 (by decide) k hk e), s2⟩
              have hrest6 : ∀ j, 3 + 1 ≤ j → up vv 3 (.slice A5 (fa 3).length c5) j = .slice none 0 0 := fun j hj => by
                have e2 : up vv 3 (.slice A5 (fa 3).length c5) j = vv j := by unfold up; rw [if_neg (by omega)]
                rw [e2]
                exact hrest j (by omega)
              have hU7 : Upd Nil w (w5.setCell ⟨w.heap.size + 1, 9, none⟩ (.slice A5 (fa 3).length c5)) := (hUd.tr hU5).newOnly hU6 (by omega)
              generalize w5.setCell ⟨w.heap.size + 1, 9, none⟩ (.slice A5 (fa 3).length c5) = w6 at *
              have hfinH := Lib.hid (And.intro hrel6 hrest6)
              clear hrel6 hrest6 g5 q5 hbc0 hbc1 hbc2 hbc3 hbc4 hbc5 hbc6 hbc7 hbc8 hbc9 hbc10 hbc11 hbz0 hbz1 hbz2 hbz3 hbz4 hbz5 hbz6 hbz7 hbz8 hbz9 hbz10 hbz11
              go_wp2_with fail
              go_roundw
              case measure => simp [intOf]
              case rel => exact ⟨3 + 1, _, by omega, rfl, hb6, Lib.hid hfinH.out.1, hfinH.out.2, hU7⟩
            · obtain ⟨x0, l0, hxl⟩ := List.exists_cons_of_ne_nil hz
              have kmin := mins (A 3) (c 3) x0 l0 wr (by rw [← hxl]; exact (h.upd hU).arg 3 (by omega)) (by rw [← hxl]; have := h.le 3 (by omega); unfold maxLen; omega)
              have hpos : (0 : Int) < ((fa 3).length : Int) := by rw [hxl]; simp
              have hlow := minL_lt l0 x0 1
              rw [← hxl] at kmin
              have hxlH := Lib.hid hxl
              clear hxl hz
              by_cases hm : minL l0 x0 < 1
              · have hres : Hid (∀ w', Upd Nil w w' → NewR fa w (.returned (.tuple #[.pointer none, .int .i64 5])) w') := by
                  show ∀ _, _
                  intro w' u
                  have hnl : ¬ Long fa := fun ⟨i, hi, hx⟩ => absurd (hshH.out i hi) (by omega)
                  rcases hlow.1 hm with h1 | ⟨x, hx, h1⟩
                  · exact new_low u hnl 3 (by omega) x0 (by rw [hxlH.out]; simp) h1
                  · exact new_low u hnl 3 (by omega) x (by rw [hxlH.out]; simp [hx]) h1
                clear hlow
                go_wp2_with fail
                refine kmin.mono ?_
                rintro e w' ⟨rfl, rfl⟩
                go_wp2_with fail
                go_ret2
                exact hres.out _ hU
              · have hlowH : Hid (∀ x ∈ fa 3, 1 ≤ x) := by
                  show ∀ _, _
                  intro x hx
                  refine Int.not_lt.1 fun hx1 => ?_
                  rw [hxlH.out] at hx
                  rcases List.mem_cons.1 hx with rfl | hx
                  · exact hm (hlow.2 (.inl hx1))
                  · exact hm (hlow.2 (.inr ⟨x, hx, hx1⟩))
                clear hlow
                have kcl := fun w' (u : Upd Nil w w') => cloneI (A 3) (c 3) (fa 3) w' ((h.upd u).arg 3 (by omega)) (by have := hshH.out 3 (by omega); omega)
                have hUd := (hU.tr ((Upd.refl Nil wr).drew))
                have hN := hU.size
                have hbc0 : (wr).cell? ⟨(w.heap.size + 1), 0, none⟩ = some (vv 0) := Base.blk_cell hb 0
                have hbz0 : (wr).frozen? ⟨(w.heap.size + 1), 0, none⟩ = false := Base.blk_frozen hb 0
                have hbc1 : (wr).cell? ⟨(w.heap.size + 1), 1, none⟩ = some (.int .i64 0) := Base.blk_cell hb 1
                have hbz1 : (wr).frozen? ⟨(w.heap.size + 1), 1, none⟩ = false := Base.blk_frozen hb 1
                have hbc2 : (wr).cell? ⟨(w.heap.size + 1), 2, none⟩ = some (.int .i64 0) := Base.blk_cell hb 2
                have hbz2 : (wr).frozen? ⟨(w.heap.size + 1), 2, none⟩ = false := Base.blk_frozen hb 2
                have hbc3 : (wr).cell? ⟨(w.heap.size + 1), 3, none⟩ = some (vv 1) := Base.blk_cell hb 3
                have hbz3 : (wr).frozen? ⟨(w.heap.size + 1), 3, none⟩ = false := Base.blk_frozen hb 3
                have hbc4 : (wr).cell? ⟨(w.heap.size + 1), 4, none⟩ = some (.int .i64 0) := Base.blk_cell hb 4
                have hbz4 : (wr).frozen? ⟨(w.heap.size + 1), 4, none⟩ = false := Base.blk_frozen hb 4
                have hbc5 : (wr).cell? ⟨(w.heap.size + 1), 5, none⟩ = some (.int .i64 0) := Base.blk_cell hb 5
                have hbz5 : (wr).frozen? ⟨(w.heap.size + 1), 5, none⟩ = false := Base.blk_frozen hb 5
                have hbc6 : (wr).cell? ⟨(w.heap.size + 1), 6, none⟩ = some (vv 2) := Base.blk_cell hb 6
                have hbz6 : (wr).frozen? ⟨(w.heap.size + 1), 6, none⟩ = false := Base.blk_frozen hb 6
                have hbc7 : (wr).cell? ⟨(w.heap.size + 1), 7, none⟩ = some (.int .i64 0) := Base.blk_cell hb 7
                have hbz7 : (wr).frozen? ⟨(w.heap.size + 1), 7, none⟩ = false := Base.blk_frozen hb 7
                have hbc8 : (wr).cell? ⟨(w.heap.size + 1), 8, none⟩ = some (.int .i64 0) := Base.blk_cell hb 8
                have hbz8 : (wr).frozen? ⟨(w.heap.size + 1), 8, none⟩ = false := Base.blk_frozen hb 8
                have hbc9 : (wr).cell? ⟨(w.heap.size + 1), 9, none⟩ = some (vv 3) := Base.blk_cell hb 9
                have hbz9 : (wr).frozen? ⟨(w.heap.size + 1), 9, none⟩ = false := Base.blk_frozen hb 9
                have hbc10 : (wr).cell? ⟨(w.heap.size + 1), 10, none⟩ = some (.int .i64 0) := Base.blk_cell hb 10
                have hbz10 : (wr).frozen? ⟨(w.heap.size + 1), 10, none⟩ = false := Base.blk_frozen hb 10
                have hbc11 : (wr).cell? ⟨(w.heap.size + 1), 11, none⟩ = some (.int .i64 0) := Base.blk_cell hb 11
                have hbz11 : (wr).frozen? ⟨(w.heap.size + 1), 11, none⟩ = false := Base.blk_frozen hb 11
                (go_wp2_with fail; refine kmin.mono ?_; rintro e w' ⟨rfl, rfl⟩; go_wp2_with fail)
                refine wp_region_lex (Only (w.heap.size + 1)) [0, 1, 2, 4, 5, 3, 6, 7, 8] (by kernel_rfl) (by kernel_rfl) rfl (by kernel_rfl) ?_
                simp only [inOrder, List.filterMap_cons, List.filterMap_nil, List.getElem?_cons_zero, List.getElem?_cons_succ]
                try simp only [Act.put, List.setIfInBounds_toArray, List.set_cons_zero, List.set_cons_succ]
                repeat
                  first
                  | (refine lex_pure (v := ?_) rfl rfl ?_ ?_
                     rotate_left
                     · intro w' hU'
                       go_simp
                       try with_reducible rfl
                     try simp only [Act.put, List.setIfInBounds_toArray, List.set_cons_zero, List.set_cons_succ])
                  | (refine lex_skip rfl ?_
                     try simp only [Act.put, List.setIfInBounds_toArray, List.set_cons_zero, List.set_cons_succ])
                refine lex_fn (f := 13) (args := _) rfl rfl (by go_simp) ((kcl _ hUd).mono ?_)
                rintro e w5 ⟨x5, rfl, hx5, hU5⟩
                refine ⟨_, rfl, hU5.mono (fun _ h => h.elim), ?_⟩
                try simp only [Act.put, List.setIfInBounds_toArray, List.set_cons_zero, List.set_cons_succ]
                repeat
                  first
                  | (refine lex_pure (v := ?_) rfl rfl ?_ ?_
                     rotate_left
                     · intro w' hU'
                       go_simp
                       try with_reducible rfl
                     try simp only [Act.put, List.setIfInBounds_toArray, List.set_cons_zero, List.set_cons_succ])
                  | (refine lex_skip rfl ?_
                     try simp only [Act.put, List.setIfInBounds_toArray, List.set_cons_zero, List.set_cons_succ])
                have hb5 := hU5.blk (blk_drew hb) (fun h => h)
                have g5 : w5.cell? ⟨w.heap.size + 1, 9, none⟩ = some (vv 3) := blk_cell hb5 9
                have q5 : w5.frozen? ⟨w.heap.size + 1, 9, none⟩ = false := blk_frozen hb5 9
                have hvi : vv 3 = .slice none 0 0 := hrest 3 (by omega)
                rw [hvi] at g5
                obtain ⟨A5, c5, rfl, hc5⟩ := hx5.form
                refine lex_store (w' := w5.setCell ⟨w.heap.size + 1, 9, none⟩ (.slice A5 (fa 3).length c5)) rfl rfl (by go_simp) ((Upd.refl (Only (w.heap.size + 1)) w5).set1 _) ?_
                try simp only [Act.put, List.setIfInBounds_toArray, List.set_cons_zero, List.set_cons_succ]
                refine lex_done ?_
                have hb6 : (w5.setCell ⟨w.heap.size + 1, 9, none⟩ (.slice A5 (fa 3).length c5)).heap[w.heap.size + 1]? = some (.cells (drC (up vv 3 (.slice A5 (fa 3).length c5)) zeros zeros) 47 (0, 0)) := blk_put hb5 9 _ rfl
                have hU6 : Upd (Only (w.heap.size + 1)) w5 (w5.setCell ⟨w.heap.size + 1, 9, none⟩ (.slice A5 (fa 3).length c5)) := (Upd.refl _ _).set1 _
                have hrel6 : ∀ j, j < 3 + 1 → Sl (w5.setCell ⟨w.heap.size + 1, 9, none⟩ (.slice A5 (fa 3).length c5)) w.heap.size 3 1 ic (up vv 3 (.slice A5 (fa 3).length c5) j) (fa j) ∧ ∀ x ∈ fa j, 1 ≤ x := by
                  intro j hj
                  by_cases e : j = 3
                  · subst e
                    refine ⟨?_, hlowH.out⟩
                    have e2 : up vv 3 (.slice A5 (fa 3).length c5) 3 = .slice A5 (fa 3).length c5 := rfl
                    rw [e2]
                    exact (hx5.lower (Nat.le_trans hU.size (Nat.le_refl _))).upd hU6 (fun k hk e => hx5.ne hb5 (by decide) k hk e)
                  · have e2 : up vv 3 (.slice A5 (fa 3).length c5) j = vv j := by unfold up; rw [if_neg e]
                    rw [e2]
                    obtain ⟨s1, s2⟩ := hdoneH.out j (by omega)
                    have s3 := (s1.drew).upd0 hU5
                    exact ⟨s3.upd hU6 (fun k hk e => s3.ne hb5 (by decide) k hk e), s2⟩
                have hrest6 : ∀ j, 3 + 1 ≤ j → up vv 3 (.slice A5 (fa 3).length c5) j = .slice none 0 0 := fun j hj => by
                  have e2 : up vv 3 (.slice A5 (fa 3).length c5) j = vv j := by unfold up; rw [if_neg (by omega)]
                  rw [e2]
                  exact hrest j (by omega)
                have hU7 : Upd Nil w (w5.setCell ⟨w.heap.size + 1, 9, none⟩ (.slice A5 (fa 3).length c5)) := (hUd.tr hU5).newOnly hU6 (by omega)
                generalize w5.setCell ⟨w.heap.size + 1, 9, none⟩ (.slice A5 (fa 3).length c5) = w6 at *
                have hfinH := Lib.hid (And.intro hrel6 hrest6)
                clear hrel6 hrest6 g5 q5 hbc0 hbc1 hbc2 hbc3 hbc4 hbc5 hbc6 hbc7 hbc8 hbc9 hbc10 hbc11 hbz0 hbz1 hbz2 hbz3 hbz4 hbz5 hbz6 hbz7 hbz8 hbz9 hbz10 hbz11
                go_wp2_with fail
                go_roundw
                case measure => simp [intOf]
                case rel => exact ⟨3 + 1, _, by omega, rfl, hb6, Lib.hid hfinH.out.1, hfinH.out.2, hU7⟩
        · obtain rfl : i = 4 := by omega
          have hfin : Hid (NewR fa w (.returned (.tuple #[.pointer (some ⟨w.heap.size + 1, 0, none⟩), .int .i64 0])) wr) := by
            show NewR _ _ _ _
            refine ⟨hU, .inr (.inr ⟨fun ⟨i, hi, hx⟩ => absurd (hshH.out i hi) (by omega), fun ⟨i, hi, x, hx, h1⟩ => absurd ((hdoneH.out i hi).2 x hx) (by omega), _, vv, rfl, by omega, hb, fun i hi => (hdoneH.out i hi).1⟩)⟩
          go_wp2_with fail
          go_ret2
          exact hfin.out
end Go.Proofs.Ytbadgmfhlaedoaa.Draw
