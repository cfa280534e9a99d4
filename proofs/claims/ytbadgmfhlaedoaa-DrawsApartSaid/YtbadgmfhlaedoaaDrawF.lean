/-
  Draws: the walk of the law DrawsApart. Conditions: what the slices hold.
-/
import Derived.Test.YtbadgmfhlaedoaaDrawE
namespace Go.Proofs.Ytbadgmfhlaedoaa.Draw
open Go.RowKit Go.Proofs.Ytbadgmfhlaedoaa.Base Go.Proofs.Ytbadgmfhlaedoaa.Ints
set_option linter.unusedVariables false
set_option linter.unusedSimpArgs false
theorem args_one {w : World} {A : Nat → Option Addr} {c : Nat → Nat} {fa : Nat → List Int} (h : Args w A c fa) (k : Nat) (hk : k < 4) : Args w (up (fun _ => none) k (A k)) (up (fun _ => 0) k (c k)) (up (fun _ => []) k (fa k)) := by
  refine ⟨fun i hi => ?_, fun i hi => ?_⟩
  · by_cases e : i = k
    · subst e
      have := h.arg i hi
      unfold up
      rw [if_pos rfl, if_pos rfl]
      exact this
    · refine .inl ?_
      unfold up
      rw [if_neg e]
  · unfold up
    split
    · exact h.le k hk
    · simp
theorem one_long {fa : Nat → List Int} {k : Nat} (hk : k < 4) (h : ¬ Long fa) : ¬ Long (up (fun _ => []) k (fa k)) := by
  rintro ⟨i, hi, hx⟩
  unfold up at hx
  split at hx
  · exact h ⟨k, hk, hx⟩
  · simp at hx
theorem one_low {fa : Nat → List Int} {k : Nat} (hk : k < 4) (h : ¬ Low fa) : ¬ Low (up (fun _ => []) k (fa k)) := by
  rintro ⟨i, hi, x, hx, hx1⟩
  unfold up at hx
  split at hx
  · exact h ⟨k, hk, x, hx, hx1⟩
  · simp at hx
theorem up_at {α : Type} (f : Nat → α) (k : Nat) (x : α) : up f k x k = x := if_pos rfl
theorem up_ne {α : Type} (f : Nat → α) {k j : Nat} (x : α) (h : ¬ j = k) : up f k x j = f j := if_neg h
set_option maxHeartbeats 16000000 in
set_option maxRecDepth 100000 in
theorem apart (A : Nat → Option Addr) (c : Nat → Nat) (fa : Nat → List Int) (AW : Option Addr) (cW : Nat) (who : List Int) (m : Nat) (hm : m ≤ 255) (w : World) (h : Args w A c fa) (hW : Arg w AW 1 ic who) (hl : who.length ≤ maxLen) :
    Calls Try.prog 4 #[aggV A c fa, .slice AW who.length cW, .int .u8 m] w (RetB true w) := by
  unfold maxLen at hl
  obtain ⟨n, hn⟩ := code_of fa
  have kN := fun w' (u : Upd Nil w w') (h0 : n ≠ 0) => new_no (h.upd u) hn h0
  have kY := fun w' (u : Upd Nil w w') (h0 : n = 0) => new_ok (h.upd u) (code_zero (h0 ▸ hn)).1 (code_zero (h0 ▸ hn)).2
  have hargs := Lib.hid h
  unfold aggV at *
  have hsl : ∀ i, slv A c fa i = .slice (A i) (fa i).length (c i) := fun _ => rfl
  rw [hsl 0, hsl 1, hsl 2, hsl 3] at *
  clear hsl h
  by_cases h3 : 300 < who.length
  · have h3I : (300 : Int) < who.length := by omega
    go_enter Try.func4, Try.ntmps4
    go_wp2_with fail
    refine (fixed _).mono ?_
    rintro e w1 ⟨rfl, hU1⟩
    go_wp2_with fail
    go_ret
    exact ⟨rfl, ((Upd.refl _ _).alloc _).tr hU1⟩
  · have h3I : ¬ (300 : Int) < who.length := by omega
    clear h3
    go_enter Try.func4, Try.ntmps4
    go_wp2_with fail
    refine (fixed _).mono ?_
    rintro e w1 ⟨rfl, hU1⟩
    have hbx := hU1.block w.heap.size (by simp) (fun h => h)
    rw [blk_new] at hbx
    have hV1 := ((Upd.refl Nil w).alloc _).tr hU1
    have hbxc0 : (w1).cell? ⟨w.heap.size, 0, none⟩ = some (.slice (A 0) (fa 0).length (c 0)) := Base.blk_cell hbx 0
    have hbxz0 : (w1).frozen? ⟨w.heap.size, 0, none⟩ = false := Base.blk_frozen hbx 0
    have hbxc1 : (w1).cell? ⟨w.heap.size, 1, none⟩ = some (.slice (A 1) (fa 1).length (c 1)) := Base.blk_cell hbx 1
    have hbxz1 : (w1).frozen? ⟨w.heap.size, 1, none⟩ = false := Base.blk_frozen hbx 1
    have hbxc2 : (w1).cell? ⟨w.heap.size, 2, none⟩ = some (.slice (A 2) (fa 2).length (c 2)) := Base.blk_cell hbx 2
    have hbxz2 : (w1).frozen? ⟨w.heap.size, 2, none⟩ = false := Base.blk_frozen hbx 2
    have hbxc3 : (w1).cell? ⟨w.heap.size, 3, none⟩ = some (.slice (A 3) (fa 3).length (c 3)) := Base.blk_cell hbx 3
    have hbxz3 : (w1).frozen? ⟨w.heap.size, 3, none⟩ = false := Base.blk_frozen hbx 3
    by_cases h0 : n = 0
    · subst h0
      have hok := code_zero hn
      go_wp2_with fail
      refine (kY _ hV1 (by trivial)).mono ?_
      rintro e w2 ⟨hU2, b, v, rfl, hb, hD2⟩
      have hb2 := hU2.blk hbx (fun h => h)
      have hV2 := hV1.tr hU2
      have hbw : w.heap.size ≤ b := Nat.le_trans hV1.size hb
      clear hbxc0 hbxc1 hbxc2 hbxc3 hbxz0 hbxz1 hbxz2 hbxz3 kN kY hn hU1 hU2 hbx hV1 hb
      have hb2c0 : (w2).cell? ⟨w.heap.size, 0, none⟩ = some (.slice (A 0) (fa 0).length (c 0)) := Base.blk_cell hb2 0
      have hb2z0 : (w2).frozen? ⟨w.heap.size, 0, none⟩ = false := Base.blk_frozen hb2 0
      have hb2c1 : (w2).cell? ⟨w.heap.size, 1, none⟩ = some (.slice (A 1) (fa 1).length (c 1)) := Base.blk_cell hb2 1
      have hb2z1 : (w2).frozen? ⟨w.heap.size, 1, none⟩ = false := Base.blk_frozen hb2 1
      have hb2c2 : (w2).cell? ⟨w.heap.size, 2, none⟩ = some (.slice (A 2) (fa 2).length (c 2)) := Base.blk_cell hb2 2
      have hb2z2 : (w2).frozen? ⟨w.heap.size, 2, none⟩ = false := Base.blk_frozen hb2 2
      have hb2c3 : (w2).cell? ⟨w.heap.size, 3, none⟩ = some (.slice (A 3) (fa 3).length (c 3)) := Base.blk_cell hb2 3
      have hb2z3 : (w2).frozen? ⟨w.heap.size, 3, none⟩ = false := Base.blk_frozen hb2 3
      have hk4 : m % 4 = 0 ∨ m % 4 = 1 ∨ m % 4 = 2 ∨ m % 4 = 3 := by omega
      have hb2a := blk_alloc hb2 (.cells #[.slice none 0 0, .slice none 0 0, .slice none 0 0, .slice none 0 0] 23)
      have hb2ac0 : (w2.alloc (.cells #[.slice none 0 0, .slice none 0 0, .slice none 0 0, .slice none 0 0] 23)).cell? ⟨w.heap.size, 0, none⟩ = some (.slice (A 0) (fa 0).length (c 0)) := Base.blk_cell hb2a 0
      have hb2az0 : (w2.alloc (.cells #[.slice none 0 0, .slice none 0 0, .slice none 0 0, .slice none 0 0] 23)).frozen? ⟨w.heap.size, 0, none⟩ = false := Base.blk_frozen hb2a 0
      have hb2ac1 : (w2.alloc (.cells #[.slice none 0 0, .slice none 0 0, .slice none 0 0, .slice none 0 0] 23)).cell? ⟨w.heap.size, 1, none⟩ = some (.slice (A 1) (fa 1).length (c 1)) := Base.blk_cell hb2a 1
      have hb2az1 : (w2.alloc (.cells #[.slice none 0 0, .slice none 0 0, .slice none 0 0, .slice none 0 0] 23)).frozen? ⟨w.heap.size, 1, none⟩ = false := Base.blk_frozen hb2a 1
      have hb2ac2 : (w2.alloc (.cells #[.slice none 0 0, .slice none 0 0, .slice none 0 0, .slice none 0 0] 23)).cell? ⟨w.heap.size, 2, none⟩ = some (.slice (A 2) (fa 2).length (c 2)) := Base.blk_cell hb2a 2
      have hb2az2 : (w2.alloc (.cells #[.slice none 0 0, .slice none 0 0, .slice none 0 0, .slice none 0 0] 23)).frozen? ⟨w.heap.size, 2, none⟩ = false := Base.blk_frozen hb2a 2
      have hb2ac3 : (w2.alloc (.cells #[.slice none 0 0, .slice none 0 0, .slice none 0 0, .slice none 0 0] 23)).cell? ⟨w.heap.size, 3, none⟩ = some (.slice (A 3) (fa 3).length (c 3)) := Base.blk_cell hb2a 3
      have hb2az3 : (w2.alloc (.cells #[.slice none 0 0, .slice none 0 0, .slice none 0 0, .slice none 0 0] 23)).frozen? ⟨w.heap.size, 3, none⟩ = false := Base.blk_frozen hb2a 3
      clear hb2 hb2a
      rcases hk4 with hk4 | hk4 | hk4 | hk4
      · skip
        have hk1 : (m : Int) % 4 = 0 := by omega
        have hk2 : Int.tmod (m : Int) 4 = 0 := by rw [Int.tmod_eq_emod_of_nonneg (by omega)]; omega
        have kO := fun w' (u : Upd Nil w w') => new_ok (args_one (hargs.out.upd u) 0 (by omega)) (one_long (by omega) hok.1) (one_low (by omega) hok.2)
        have hag : aggV (up (fun _ => none) 0 (A 0)) (up (fun _ => 0) 0 (c 0)) (up (fun _ => []) 0 (fa 0)) = .agg #[.slice (A 0) (fa 0).length (c 0), .slice none 0 0, .slice none 0 0, .slice none 0 0] := by simp [aggV, slv, up]
        rw [hag] at kO
        clear hag hk4
        go_wp2_with fail
        have hV3 : Upd Nil w (w2.alloc (.cells #[.slice (A 0) (fa 0).length (c 0), .slice none 0 0, .slice none 0 0, .slice none 0 0] 23)) := hV2.alloc _
        have hD3 : DrM w1.heap.size (w2.alloc (.cells #[.slice (A 0) (fa 0).length (c 0), .slice none 0 0, .slice none 0 0, .slice none 0 0] 23)) b v fa zeros zeros := hD2.upd ((Upd.refl _ _).alloc _)
        refine (kO _ hV3).mono ?_
        rintro e w4 ⟨hU4, b2, v2, rfl, hb2, hE4⟩
        have hD4 := hD3.upd hU4
        have hV4 := hV3.tr hU4
        have hb2w : w.heap.size ≤ b2 := Nat.le_trans hV3.size hb2
        have hne : b ≠ b2 := by
          have h1 := blk_lt hD3.blk
          omega
        clear hD3 hV3 hU4 hb2 hD2 hV2 hok kO
        go_wp2_with fail
        go_loopw [14, 15, 43] (fun s14 s15 s43 wr => ∃ (i : Nat) (op bad op2 bad2 : Nat → Int) (base2 : Nat), i ≤ who.length ∧ s43 = .int .i64 i ∧ DrM w1.heap.size wr b v fa op bad ∧ DrM base2 wr b2 v2 (up (fun _ => []) 0 (fa 0)) op2 bad2 ∧ (Bd i op bad ∧ Bd i op2 bad2 ∧ op 0 = op2 0 ∧ bad 0 = bad2 0) ∧ Upd Nil w wr) (fun _ _ s43 _ => who.length - (intOf s43).toNat)
        case atStart => exact ⟨0, zeros, zeros, zeros, zeros, _, by omega, rfl, hD4, hE4, ⟨fun k => by simp [zeros], fun k => by simp [zeros], rfl, rfl⟩, hV4⟩
        case round =>
          clear hD4 hE4 hV4
          obtain ⟨i, op, bad, op2, bad2, base2, hi, rfl, hD, hE, hall, hV⟩ := hrel
          have hallH := Lib.hid hall
          clear hall
          by_cases hlt : i < who.length
          · obtain ⟨g, o, rfl, _, hc⟩ := ic_cell (hW.upd hV) hlt
            by_cases hin : 0 ≤ who[i] ∧ who[i] < 4
            · obtain ⟨k, hk⟩ := Int.eq_ofNat_of_zero_le hin.1
              have hk4 : k < 4 := by omega
              rw [hk] at hc
              clear hin hk
              by_cases hkK : k = 0
              · subst hkK
                have k1 := next _ b v fa op bad 0 (by omega) wr hD (by have := hallH.out.1 0; omega) (by have := hallH.out.1 0; omega)
                go_wp2_with fail
                refine k1.mono ?_
                rintro e w5 ⟨rfl, hD5, hU5⟩
                have hE5 := hE.far hU5 hD.blk (by decide) (Ne.symm hne)
                have k2 := next _ b2 v2 _ op2 bad2 0 (by omega) w5 hE5 (by have := hallH.out.2.1 0; omega) (by have := hallH.out.2.1 0; omega)
                have hopE := hallH.out.2.2.1
                have hbadE := hallH.out.2.2.2
                have hres : NextR base2 b2 v2 (up (fun _ => []) 0 (fa 0)) op2 bad2 0 w5 = fun e w' => e = .returned (.bool (decide (op 0 + 1 ∈ fa 0))) ∧ DrM base2 w' b2 v2 (up (fun _ => []) 0 (fa 0)) (up op2 0 (op 0 + 1)) (if op 0 + 1 ∈ fa 0 then up bad2 0 (bad 0 + 1) else bad2) ∧ Upd (Only b2) w5 w' := by
                  unfold NextR
                  rw [up_at, ← hopE, ← hbadE]
                rw [hres] at k2
                have hB1 := hallH.out.1.next 0 (ite_or (op 0 + 1 ∈ fa 0) (up bad 0 (bad 0 + 1)) bad)
                have hB2 : Bd (i + 1) (up op2 0 (op 0 + 1)) (if op 0 + 1 ∈ fa 0 then up bad2 0 (bad 0 + 1) else bad2) := by
                  rw [hopE, hbadE]
                  exact hallH.out.2.1.next 0 (ite_or _ _ _)
                have hE1 : up op 0 (op 0 + 1) 0 = up op2 0 (op 0 + 1) 0 := by rw [up_at, up_at]
                have hE2 : (if op 0 + 1 ∈ fa 0 then up bad 0 (bad 0 + 1) else bad) 0 = (if op 0 + 1 ∈ fa 0 then up bad2 0 (bad 0 + 1) else bad2) 0 := by
                  split
                  · rw [up_at, up_at]
                  · exact hbadE
                have hfin := Lib.hid (And.intro hB1 (And.intro hB2 (And.intro hE1 hE2)))
                clear hres hopE hbadE hB1 hB2 hE1 hE2 k1 hallH hD hE
                generalize (if op 0 + 1 ∈ fa 0 then up bad 0 (bad 0 + 1) else bad) = badN at *
                generalize (if op 0 + 1 ∈ fa 0 then up bad2 0 (bad 0 + 1) else bad2) = badN2 at *
                generalize up op 0 (op 0 + 1) = opN at *
                generalize up op2 0 (op 0 + 1) = opN2 at *
                generalize decide (op 0 + 1 ∈ fa 0) = d at *
                have hV5 := hV.newOnly hU5 hbw
                cases d
                all_goals
                  go_wp2_with fail
                  refine k2.mono ?_
                  rintro e w6 ⟨rfl, hE6, hU6⟩
                  have hD6 := hD5.far hU6 hE5.blk (by decide) hne
                  have hV6 := hV5.newOnly hU6 hb2w
                  go_wp2_with fail
                  go_roundw
                  case measure => simp [intOf]; omega
                  case rel => exact ⟨i + 1, opN, badN, opN2, badN2, base2, by omega, by go_num, hD6, hE6, hfin.out, hV6⟩
              · have hkb : ((k : Int) == 0) = false := beq_eq_false_iff_ne.mpr (by omega)
                have k1 := next _ b v fa op bad k hk4 wr hD (by have := hallH.out.1 k; omega) (by have := hallH.out.1 k; omega)
                go_wp2_with fail
                refine k1.mono ?_
                rintro e w5 ⟨rfl, hD5, hU5⟩
                have hE5 := hE.far hU5 hD.blk (by decide) (Ne.symm hne)
                have hV5 := hV.newOnly hU5 hbw
                have hB1 := hallH.out.1.next k (ite_or (op k + 1 ∈ fa k) (up bad k (bad k + 1)) bad)
                have hE1 : up op k (op k + 1) 0 = op2 0 := by rw [up_ne _ _ (fun e => hkK e.symm)]; exact hallH.out.2.2.1
                have hE2 : (if op k + 1 ∈ fa k then up bad k (bad k + 1) else bad) 0 = bad2 0 := by
                  split
                  · rw [up_ne _ _ (fun e => hkK e.symm)]; exact hallH.out.2.2.2
                  · exact hallH.out.2.2.2
                have hfin := Lib.hid (And.intro hB1 (And.intro hallH.out.2.1.more (And.intro hE1 hE2)))
                clear hB1 hE1 hE2 k1 hallH hD hE hV hkK
                generalize (if op k + 1 ∈ fa k then up bad k (bad k + 1) else bad) = badN at *
                generalize up op k (op k + 1) = opN at *
                generalize decide (op k + 1 ∈ fa k) = d at *
                go_wp2_with fail
                go_roundw
                case measure => simp [intOf]; omega
                case rel => exact ⟨i + 1, opN, badN, op2, bad2, base2, by omega, by go_num, hD5, hE5, hfin.out, hV5⟩
            · have hkb : (who[i] == 0) = false := beq_eq_false_iff_ne.mpr (by omega)
              have hout : who[i] < 0 ∨ 4 ≤ who[i] := by omega
              have k1 := next_no b who[i] hout wr
              clear hin
              go_wp2_with fail
              refine k1.mono ?_
              rintro e w5 ⟨rfl, hU5⟩
              have hfin := Lib.hid (And.intro hallH.out.1.more (And.intro hallH.out.2.1.more hallH.out.2.2))
              have hD5 := hD.upd hU5
              have hE5 := hE.upd hU5
              have hV5 := hV.tr hU5
              clear hallH
              go_wp2_with fail
              go_roundw
              case measure => simp [intOf]; omega
              case rel => exact ⟨i + 1, op, bad, op2, bad2, base2, by omega, by go_num, hD5, hE5, hfin.out, hV5⟩
          · obtain rfl : i = who.length := by omega
            have k1 := opsOf _ b v fa op bad 0 (by omega) wr hD
            have k2 := opsOf _ b2 v2 _ op2 bad2 0 (by omega) wr hE
            have k3 := badOf _ b v fa op bad 0 (by omega) wr hD
            have k4 := badOf _ b2 v2 _ op2 bad2 0 (by omega) wr hE
            rw [← hallH.out.2.2.1] at k2
            rw [← hallH.out.2.2.2] at k4
            clear hD hE
            go_wp2_with fail
            refine k1.mono ?_
            rintro e w' ⟨rfl, rfl⟩
            go_wp2_with fail
            refine k2.mono ?_
            rintro e w' ⟨rfl, rfl⟩
            go_wp2_with fail
            refine k3.mono ?_
            rintro e w' ⟨rfl, rfl⟩
            go_wp2_with fail
            refine k4.mono ?_
            rintro e w' ⟨rfl, rfl⟩
            go_wp2_with fail
            go_ret
            exact ⟨rfl, hV⟩
      · skip
        have hk1 : (m : Int) % 4 = 1 := by omega
        have hk2 : Int.tmod (m : Int) 4 = 1 := by rw [Int.tmod_eq_emod_of_nonneg (by omega)]; omega
        have kO := fun w' (u : Upd Nil w w') => new_ok (args_one (hargs.out.upd u) 1 (by omega)) (one_long (by omega) hok.1) (one_low (by omega) hok.2)
        have hag : aggV (up (fun _ => none) 1 (A 1)) (up (fun _ => 0) 1 (c 1)) (up (fun _ => []) 1 (fa 1)) = .agg #[.slice none 0 0, .slice (A 1) (fa 1).length (c 1), .slice none 0 0, .slice none 0 0] := by simp [aggV, slv, up]
        rw [hag] at kO
        clear hag hk4
        go_wp2_with fail
        have hV3 : Upd Nil w (w2.alloc (.cells #[.slice none 0 0, .slice (A 1) (fa 1).length (c 1), .slice none 0 0, .slice none 0 0] 23)) := hV2.alloc _
        have hD3 : DrM w1.heap.size (w2.alloc (.cells #[.slice none 0 0, .slice (A 1) (fa 1).length (c 1), .slice none 0 0, .slice none 0 0] 23)) b v fa zeros zeros := hD2.upd ((Upd.refl _ _).alloc _)
        refine (kO _ hV3).mono ?_
        rintro e w4 ⟨hU4, b2, v2, rfl, hb2, hE4⟩
        have hD4 := hD3.upd hU4
        have hV4 := hV3.tr hU4
        have hb2w : w.heap.size ≤ b2 := Nat.le_trans hV3.size hb2
        have hne : b ≠ b2 := by
          have h1 := blk_lt hD3.blk
          omega
        clear hD3 hV3 hU4 hb2 hD2 hV2 hok kO
        go_wp2_with fail
        go_loopw [14, 15, 43] (fun s14 s15 s43 wr => ∃ (i : Nat) (op bad op2 bad2 : Nat → Int) (base2 : Nat), i ≤ who.length ∧ s43 = .int .i64 i ∧ DrM w1.heap.size wr b v fa op bad ∧ DrM base2 wr b2 v2 (up (fun _ => []) 1 (fa 1)) op2 bad2 ∧ (Bd i op bad ∧ Bd i op2 bad2 ∧ op 1 = op2 1 ∧ bad 1 = bad2 1) ∧ Upd Nil w wr) (fun _ _ s43 _ => who.length - (intOf s43).toNat)
        case atStart => exact ⟨0, zeros, zeros, zeros, zeros, _, by omega, rfl, hD4, hE4, ⟨fun k => by simp [zeros], fun k => by simp [zeros], rfl, rfl⟩, hV4⟩
        case round =>
          clear hD4 hE4 hV4
          obtain ⟨i, op, bad, op2, bad2, base2, hi, rfl, hD, hE, hall, hV⟩ := hrel
          have hallH := Lib.hid hall
          clear hall
          by_cases hlt : i < who.length
          · obtain ⟨g, o, rfl, _, hc⟩ := ic_cell (hW.upd hV) hlt
            by_cases hin : 0 ≤ who[i] ∧ who[i] < 4
            · obtain ⟨k, hk⟩ := Int.eq_ofNat_of_zero_le hin.1
              have hk4 : k < 4 := by omega
              rw [hk] at hc
              clear hin hk
              by_cases hkK : k = 1
              · subst hkK
                have k1 := next _ b v fa op bad 1 (by omega) wr hD (by have := hallH.out.1 1; omega) (by have := hallH.out.1 1; omega)
                go_wp2_with fail
                refine k1.mono ?_
                rintro e w5 ⟨rfl, hD5, hU5⟩
                have hE5 := hE.far hU5 hD.blk (by decide) (Ne.symm hne)
                have k2 := next _ b2 v2 _ op2 bad2 1 (by omega) w5 hE5 (by have := hallH.out.2.1 1; omega) (by have := hallH.out.2.1 1; omega)
                have hopE := hallH.out.2.2.1
                have hbadE := hallH.out.2.2.2
                have hres : NextR base2 b2 v2 (up (fun _ => []) 1 (fa 1)) op2 bad2 1 w5 = fun e w' => e = .returned (.bool (decide (op 1 + 1 ∈ fa 1))) ∧ DrM base2 w' b2 v2 (up (fun _ => []) 1 (fa 1)) (up op2 1 (op 1 + 1)) (if op 1 + 1 ∈ fa 1 then up bad2 1 (bad 1 + 1) else bad2) ∧ Upd (Only b2) w5 w' := by
                  unfold NextR
                  rw [up_at, ← hopE, ← hbadE]
                rw [hres] at k2
                have hB1 := hallH.out.1.next 1 (ite_or (op 1 + 1 ∈ fa 1) (up bad 1 (bad 1 + 1)) bad)
                have hB2 : Bd (i + 1) (up op2 1 (op 1 + 1)) (if op 1 + 1 ∈ fa 1 then up bad2 1 (bad 1 + 1) else bad2) := by
                  rw [hopE, hbadE]
                  exact hallH.out.2.1.next 1 (ite_or _ _ _)
                have hE1 : up op 1 (op 1 + 1) 1 = up op2 1 (op 1 + 1) 1 := by rw [up_at, up_at]
                have hE2 : (if op 1 + 1 ∈ fa 1 then up bad 1 (bad 1 + 1) else bad) 1 = (if op 1 + 1 ∈ fa 1 then up bad2 1 (bad 1 + 1) else bad2) 1 := by
                  split
                  · rw [up_at, up_at]
                  · exact hbadE
                have hfin := Lib.hid (And.intro hB1 (And.intro hB2 (And.intro hE1 hE2)))
                clear hres hopE hbadE hB1 hB2 hE1 hE2 k1 hallH hD hE
                generalize (if op 1 + 1 ∈ fa 1 then up bad 1 (bad 1 + 1) else bad) = badN at *
                generalize (if op 1 + 1 ∈ fa 1 then up bad2 1 (bad 1 + 1) else bad2) = badN2 at *
                generalize up op 1 (op 1 + 1) = opN at *
                generalize up op2 1 (op 1 + 1) = opN2 at *
                generalize decide (op 1 + 1 ∈ fa 1) = d at *
                have hV5 := hV.newOnly hU5 hbw
                cases d
                all_goals
                  go_wp2_with fail
                  refine k2.mono ?_
                  rintro e w6 ⟨rfl, hE6, hU6⟩
                  have hD6 := hD5.far hU6 hE5.blk (by decide) hne
                  have hV6 := hV5.newOnly hU6 hb2w
                  go_wp2_with fail
                  go_roundw
                  case measure => simp [intOf]; omega
                  case rel => exact ⟨i + 1, opN, badN, opN2, badN2, base2, by omega, by go_num, hD6, hE6, hfin.out, hV6⟩
              · have hkb : ((k : Int) == 1) = false := beq_eq_false_iff_ne.mpr (by omega)
                have k1 := next _ b v fa op bad k hk4 wr hD (by have := hallH.out.1 k; omega) (by have := hallH.out.1 k; omega)
                go_wp2_with fail
                refine k1.mono ?_
                rintro e w5 ⟨rfl, hD5, hU5⟩
                have hE5 := hE.far hU5 hD.blk (by decide) (Ne.symm hne)
                have hV5 := hV.newOnly hU5 hbw
                have hB1 := hallH.out.1.next k (ite_or (op k + 1 ∈ fa k) (up bad k (bad k + 1)) bad)
                have hE1 : up op k (op k + 1) 1 = op2 1 := by rw [up_ne _ _ (fun e => hkK e.symm)]; exact hallH.out.2.2.1
                have hE2 : (if op k + 1 ∈ fa k then up bad k (bad k + 1) else bad) 1 = bad2 1 := by
                  split
                  · rw [up_ne _ _ (fun e => hkK e.symm)]; exact hallH.out.2.2.2
                  · exact hallH.out.2.2.2
                have hfin := Lib.hid (And.intro hB1 (And.intro hallH.out.2.1.more (And.intro hE1 hE2)))
                clear hB1 hE1 hE2 k1 hallH hD hE hV hkK
                generalize (if op k + 1 ∈ fa k then up bad k (bad k + 1) else bad) = badN at *
                generalize up op k (op k + 1) = opN at *
                generalize decide (op k + 1 ∈ fa k) = d at *
                go_wp2_with fail
                go_roundw
                case measure => simp [intOf]; omega
                case rel => exact ⟨i + 1, opN, badN, op2, bad2, base2, by omega, by go_num, hD5, hE5, hfin.out, hV5⟩
            · have hkb : (who[i] == 1) = false := beq_eq_false_iff_ne.mpr (by omega)
              have hout : who[i] < 0 ∨ 4 ≤ who[i] := by omega
              have k1 := next_no b who[i] hout wr
              clear hin
              go_wp2_with fail
              refine k1.mono ?_
              rintro e w5 ⟨rfl, hU5⟩
              have hfin := Lib.hid (And.intro hallH.out.1.more (And.intro hallH.out.2.1.more hallH.out.2.2))
              have hD5 := hD.upd hU5
              have hE5 := hE.upd hU5
              have hV5 := hV.tr hU5
              clear hallH
              go_wp2_with fail
              go_roundw
              case measure => simp [intOf]; omega
              case rel => exact ⟨i + 1, op, bad, op2, bad2, base2, by omega, by go_num, hD5, hE5, hfin.out, hV5⟩
          · obtain rfl : i = who.length := by omega
            have k1 := opsOf _ b v fa op bad 1 (by omega) wr hD
            have k2 := opsOf _ b2 v2 _ op2 bad2 1 (by omega) wr hE
            have k3 := badOf _ b v fa op bad 1 (by omega) wr hD
            have k4 := badOf _ b2 v2 _ op2 bad2 1 (by omega) wr hE
            rw [← hallH.out.2.2.1] at k2
            rw [← hallH.out.2.2.2] at k4
            clear hD hE
            go_wp2_with fail
            refine k1.mono ?_
            rintro e w' ⟨rfl, rfl⟩
            go_wp2_with fail
            refine k2.mono ?_
            rintro e w' ⟨rfl, rfl⟩
            go_wp2_with fail
            refine k3.mono ?_
            rintro e w' ⟨rfl, rfl⟩
            go_wp2_with fail
            refine k4.mono ?_
            rintro e w' ⟨rfl, rfl⟩
            go_wp2_with fail
            go_ret
            exact ⟨rfl, hV⟩
      · skip
        have hk1 : (m : Int) % 4 = 2 := by omega
        have hk2 : Int.tmod (m : Int) 4 = 2 := by rw [Int.tmod_eq_emod_of_nonneg (by omega)]; omega
        have kO := fun w' (u : Upd Nil w w') => new_ok (args_one (hargs.out.upd u) 2 (by omega)) (one_long (by omega) hok.1) (one_low (by omega) hok.2)
        have hag : aggV (up (fun _ => none) 2 (A 2)) (up (fun _ => 0) 2 (c 2)) (up (fun _ => []) 2 (fa 2)) = .agg #[.slice none 0 0, .slice none 0 0, .slice (A 2) (fa 2).length (c 2), .slice none 0 0] := by simp [aggV, slv, up]
        rw [hag] at kO
        clear hag hk4
        go_wp2_with fail
        have hV3 : Upd Nil w (w2.alloc (.cells #[.slice none 0 0, .slice none 0 0, .slice (A 2) (fa 2).length (c 2), .slice none 0 0] 23)) := hV2.alloc _
        have hD3 : DrM w1.heap.size (w2.alloc (.cells #[.slice none 0 0, .slice none 0 0, .slice (A 2) (fa 2).length (c 2), .slice none 0 0] 23)) b v fa zeros zeros := hD2.upd ((Upd.refl _ _).alloc _)
        refine (kO _ hV3).mono ?_
        rintro e w4 ⟨hU4, b2, v2, rfl, hb2, hE4⟩
        have hD4 := hD3.upd hU4
        have hV4 := hV3.tr hU4
        have hb2w : w.heap.size ≤ b2 := Nat.le_trans hV3.size hb2
        have hne : b ≠ b2 := by
          have h1 := blk_lt hD3.blk
          omega
        clear hD3 hV3 hU4 hb2 hD2 hV2 hok kO
        go_wp2_with fail
        go_loopw [14, 15, 43] (fun s14 s15 s43 wr => ∃ (i : Nat) (op bad op2 bad2 : Nat → Int) (base2 : Nat), i ≤ who.length ∧ s43 = .int .i64 i ∧ DrM w1.heap.size wr b v fa op bad ∧ DrM base2 wr b2 v2 (up (fun _ => []) 2 (fa 2)) op2 bad2 ∧ (Bd i op bad ∧ Bd i op2 bad2 ∧ op 2 = op2 2 ∧ bad 2 = bad2 2) ∧ Upd Nil w wr) (fun _ _ s43 _ => who.length - (intOf s43).toNat)
        case atStart => exact ⟨0, zeros, zeros, zeros, zeros, _, by omega, rfl, hD4, hE4, ⟨fun k => by simp [zeros], fun k => by simp [zeros], rfl, rfl⟩, hV4⟩
        case round =>
          clear hD4 hE4 hV4
          obtain ⟨i, op, bad, op2, bad2, base2, hi, rfl, hD, hE, hall, hV⟩ := hrel
          have hallH := Lib.hid hall
          clear hall
          by_cases hlt : i < who.length
          · obtain ⟨g, o, rfl, _, hc⟩ := ic_cell (hW.upd hV) hlt
            by_cases hin : 0 ≤ who[i] ∧ who[i] < 4
            · obtain ⟨k, hk⟩ := Int.eq_ofNat_of_zero_le hin.1
              have hk4 : k < 4 := by omega
              rw [hk] at hc
              clear hin hk
              by_cases hkK : k = 2
              · subst hkK
                have k1 := next _ b v fa op bad 2 (by omega) wr hD (by have := hallH.out.1 2; omega) (by have := hallH.out.1 2; omega)
                go_wp2_with fail
                refine k1.mono ?_
                rintro e w5 ⟨rfl, hD5, hU5⟩
                have hE5 := hE.far hU5 hD.blk (by decide) (Ne.symm hne)
                have k2 := next _ b2 v2 _ op2 bad2 2 (by omega) w5 hE5 (by have := hallH.out.2.1 2; omega) (by have := hallH.out.2.1 2; omega)
                have hopE := hallH.out.2.2.1
                have hbadE := hallH.out.2.2.2
                have hres : NextR base2 b2 v2 (up (fun _ => []) 2 (fa 2)) op2 bad2 2 w5 = fun e w' => e = .returned (.bool (decide (op 2 + 1 ∈ fa 2))) ∧ DrM base2 w' b2 v2 (up (fun _ => []) 2 (fa 2)) (up op2 2 (op 2 + 1)) (if op 2 + 1 ∈ fa 2 then up bad2 2 (bad 2 + 1) else bad2) ∧ Upd (Only b2) w5 w' := by
                  unfold NextR
                  rw [up_at, ← hopE, ← hbadE]
                rw [hres] at k2
                have hB1 := hallH.out.1.next 2 (ite_or (op 2 + 1 ∈ fa 2) (up bad 2 (bad 2 + 1)) bad)
                have hB2 : Bd (i + 1) (up op2 2 (op 2 + 1)) (if op 2 + 1 ∈ fa 2 then up bad2 2 (bad 2 + 1) else bad2) := by
                  rw [hopE, hbadE]
                  exact hallH.out.2.1.next 2 (ite_or _ _ _)
                have hE1 : up op 2 (op 2 + 1) 2 = up op2 2 (op 2 + 1) 2 := by rw [up_at, up_at]
                have hE2 : (if op 2 + 1 ∈ fa 2 then up bad 2 (bad 2 + 1) else bad) 2 = (if op 2 + 1 ∈ fa 2 then up bad2 2 (bad 2 + 1) else bad2) 2 := by
                  split
                  · rw [up_at, up_at]
                  · exact hbadE
                have hfin := Lib.hid (And.intro hB1 (And.intro hB2 (And.intro hE1 hE2)))
                clear hres hopE hbadE hB1 hB2 hE1 hE2 k1 hallH hD hE
                generalize (if op 2 + 1 ∈ fa 2 then up bad 2 (bad 2 + 1) else bad) = badN at *
                generalize (if op 2 + 1 ∈ fa 2 then up bad2 2 (bad 2 + 1) else bad2) = badN2 at *
                generalize up op 2 (op 2 + 1) = opN at *
                generalize up op2 2 (op 2 + 1) = opN2 at *
                generalize decide (op 2 + 1 ∈ fa 2) = d at *
                have hV5 := hV.newOnly hU5 hbw
                cases d
                all_goals
                  go_wp2_with fail
                  refine k2.mono ?_
                  rintro e w6 ⟨rfl, hE6, hU6⟩
                  have hD6 := hD5.far hU6 hE5.blk (by decide) hne
                  have hV6 := hV5.newOnly hU6 hb2w
                  go_wp2_with fail
                  go_roundw
                  case measure => simp [intOf]; omega
                  case rel => exact ⟨i + 1, opN, badN, opN2, badN2, base2, by omega, by go_num, hD6, hE6, hfin.out, hV6⟩
              · have hkb : ((k : Int) == 2) = false := beq_eq_false_iff_ne.mpr (by omega)
                have k1 := next _ b v fa op bad k hk4 wr hD (by have := hallH.out.1 k; omega) (by have := hallH.out.1 k; omega)
                go_wp2_with fail
                refine k1.mono ?_
                rintro e w5 ⟨rfl, hD5, hU5⟩
                have hE5 := hE.far hU5 hD.blk (by decide) (Ne.symm hne)
                have hV5 := hV.newOnly hU5 hbw
                have hB1 := hallH.out.1.next k (ite_or (op k + 1 ∈ fa k) (up bad k (bad k + 1)) bad)
                have hE1 : up op k (op k + 1) 2 = op2 2 := by rw [up_ne _ _ (fun e => hkK e.symm)]; exact hallH.out.2.2.1
                have hE2 : (if op k + 1 ∈ fa k then up bad k (bad k + 1) else bad) 2 = bad2 2 := by
                  split
                  · rw [up_ne _ _ (fun e => hkK e.symm)]; exact hallH.out.2.2.2
                  · exact hallH.out.2.2.2
                have hfin := Lib.hid (And.intro hB1 (And.intro hallH.out.2.1.more (And.intro hE1 hE2)))
                clear hB1 hE1 hE2 k1 hallH hD hE hV hkK
                generalize (if op k + 1 ∈ fa k then up bad k (bad k + 1) else bad) = badN at *
                generalize up op k (op k + 1) = opN at *
                generalize decide (op k + 1 ∈ fa k) = d at *
                go_wp2_with fail
                go_roundw
                case measure => simp [intOf]; omega
                case rel => exact ⟨i + 1, opN, badN, op2, bad2, base2, by omega, by go_num, hD5, hE5, hfin.out, hV5⟩
            · have hkb : (who[i] == 2) = false := beq_eq_false_iff_ne.mpr (by omega)
              have hout : who[i] < 0 ∨ 4 ≤ who[i] := by omega
              have k1 := next_no b who[i] hout wr
              clear hin
              go_wp2_with fail
              refine k1.mono ?_
              rintro e w5 ⟨rfl, hU5⟩
              have hfin := Lib.hid (And.intro hallH.out.1.more (And.intro hallH.out.2.1.more hallH.out.2.2))
              have hD5 := hD.upd hU5
              have hE5 := hE.upd hU5
              have hV5 := hV.tr hU5
              clear hallH
              go_wp2_with fail
              go_roundw
              case measure => simp [intOf]; omega
              case rel => exact ⟨i + 1, op, bad, op2, bad2, base2, by omega, by go_num, hD5, hE5, hfin.out, hV5⟩
          · obtain rfl : i = who.length := by omega
            have k1 := opsOf _ b v fa op bad 2 (by omega) wr hD
            have k2 := opsOf _ b2 v2 _ op2 bad2 2 (by omega) wr hE
            have k3 := badOf _ b v fa op bad 2 (by omega) wr hD
            have k4 := badOf _ b2 v2 _ op2 bad2 2 (by omega) wr hE
            rw [← hallH.out.2.2.1] at k2
            rw [← hallH.out.2.2.2] at k4
            clear hD hE
            go_wp2_with fail
            refine k1.mono ?_
            rintro e w' ⟨rfl, rfl⟩
            go_wp2_with fail
            refine k2.mono ?_
            rintro e w' ⟨rfl, rfl⟩
            go_wp2_with fail
            refine k3.mono ?_
            rintro e w' ⟨rfl, rfl⟩
            go_wp2_with fail
            refine k4.mono ?_
            rintro e w' ⟨rfl, rfl⟩
            go_wp2_with fail
            go_ret
            exact ⟨rfl, hV⟩
      · skip
        have hk1 : (m : Int) % 4 = 3 := by omega
        have hk2 : Int.tmod (m : Int) 4 = 3 := by rw [Int.tmod_eq_emod_of_nonneg (by omega)]; omega
        have kO := fun w' (u : Upd Nil w w') => new_ok (args_one (hargs.out.upd u) 3 (by omega)) (one_long (by omega) hok.1) (one_low (by omega) hok.2)
        have hag : aggV (up (fun _ => none) 3 (A 3)) (up (fun _ => 0) 3 (c 3)) (up (fun _ => []) 3 (fa 3)) = .agg #[.slice none 0 0, .slice none 0 0, .slice none 0 0, .slice (A 3) (fa 3).length (c 3)] := by simp [aggV, slv, up]
        rw [hag] at kO
        clear hag hk4
        go_wp2_with fail
        have hV3 : Upd Nil w (w2.alloc (.cells #[.slice none 0 0, .slice none 0 0, .slice none 0 0, .slice (A 3) (fa 3).length (c 3)] 23)) := hV2.alloc _
        have hD3 : DrM w1.heap.size (w2.alloc (.cells #[.slice none 0 0, .slice none 0 0, .slice none 0 0, .slice (A 3) (fa 3).length (c 3)] 23)) b v fa zeros zeros := hD2.upd ((Upd.refl _ _).alloc _)
        refine (kO _ hV3).mono ?_
        rintro e w4 ⟨hU4, b2, v2, rfl, hb2, hE4⟩
        have hD4 := hD3.upd hU4
        have hV4 := hV3.tr hU4
        have hb2w : w.heap.size ≤ b2 := Nat.le_trans hV3.size hb2
        have hne : b ≠ b2 := by
          have h1 := blk_lt hD3.blk
          omega
        clear hD3 hV3 hU4 hb2 hD2 hV2 hok kO
        go_wp2_with fail
        go_loopw [14, 15, 43] (fun s14 s15 s43 wr => ∃ (i : Nat) (op bad op2 bad2 : Nat → Int) (base2 : Nat), i ≤ who.length ∧ s43 = .int .i64 i ∧ DrM w1.heap.size wr b v fa op bad ∧ DrM base2 wr b2 v2 (up (fun _ => []) 3 (fa 3)) op2 bad2 ∧ (Bd i op bad ∧ Bd i op2 bad2 ∧ op 3 = op2 3 ∧ bad 3 = bad2 3) ∧ Upd Nil w wr) (fun _ _ s43 _ => who.length - (intOf s43).toNat)
        case atStart => exact ⟨0, zeros, zeros, zeros, zeros, _, by omega, rfl, hD4, hE4, ⟨fun k => by simp [zeros], fun k => by simp [zeros], rfl, rfl⟩, hV4⟩
        case round =>
          clear hD4 hE4 hV4
          obtain ⟨i, op, bad, op2, bad2, base2, hi, rfl, hD, hE, hall, hV⟩ := hrel
          have hallH := Lib.hid hall
          clear hall
          by_cases hlt : i < who.length
          · obtain ⟨g, o, rfl, _, hc⟩ := ic_cell (hW.upd hV) hlt
            by_cases hin : 0 ≤ who[i] ∧ who[i] < 4
            · obtain ⟨k, hk⟩ := Int.eq_ofNat_of_zero_le hin.1
              have hk4 : k < 4 := by omega
              rw [hk] at hc
              clear hin hk
              by_cases hkK : k = 3
              · subst hkK
                have k1 := next _ b v fa op bad 3 (by omega) wr hD (by have := hallH.out.1 3; omega) (by have := hallH.out.1 3; omega)
                go_wp2_with fail
                refine k1.mono ?_
                rintro e w5 ⟨rfl, hD5, hU5⟩
                have hE5 := hE.far hU5 hD.blk (by decide) (Ne.symm hne)
                have k2 := next _ b2 v2 _ op2 bad2 3 (by omega) w5 hE5 (by have := hallH.out.2.1 3; omega) (by have := hallH.out.2.1 3; omega)
                have hopE := hallH.out.2.2.1
                have hbadE := hallH.out.2.2.2
                have hres : NextR base2 b2 v2 (up (fun _ => []) 3 (fa 3)) op2 bad2 3 w5 = fun e w' => e = .returned (.bool (decide (op 3 + 1 ∈ fa 3))) ∧ DrM base2 w' b2 v2 (up (fun _ => []) 3 (fa 3)) (up op2 3 (op 3 + 1)) (if op 3 + 1 ∈ fa 3 then up bad2 3 (bad 3 + 1) else bad2) ∧ Upd (Only b2) w5 w' := by
                  unfold NextR
                  rw [up_at, ← hopE, ← hbadE]
                rw [hres] at k2
                have hB1 := hallH.out.1.next 3 (ite_or (op 3 + 1 ∈ fa 3) (up bad 3 (bad 3 + 1)) bad)
                have hB2 : Bd (i + 1) (up op2 3 (op 3 + 1)) (if op 3 + 1 ∈ fa 3 then up bad2 3 (bad 3 + 1) else bad2) := by
                  rw [hopE, hbadE]
                  exact hallH.out.2.1.next 3 (ite_or _ _ _)
                have hE1 : up op 3 (op 3 + 1) 3 = up op2 3 (op 3 + 1) 3 := by rw [up_at, up_at]
                have hE2 : (if op 3 + 1 ∈ fa 3 then up bad 3 (bad 3 + 1) else bad) 3 = (if op 3 + 1 ∈ fa 3 then up bad2 3 (bad 3 + 1) else bad2) 3 := by
                  split
                  · rw [up_at, up_at]
                  · exact hbadE
                have hfin := Lib.hid (And.intro hB1 (And.intro hB2 (And.intro hE1 hE2)))
                clear hres hopE hbadE hB1 hB2 hE1 hE2 k1 hallH hD hE
                generalize (if op 3 + 1 ∈ fa 3 then up bad 3 (bad 3 + 1) else bad) = badN at *
                generalize (if op 3 + 1 ∈ fa 3 then up bad2 3 (bad 3 + 1) else bad2) = badN2 at *
                generalize up op 3 (op 3 + 1) = opN at *
                generalize up op2 3 (op 3 + 1) = opN2 at *
                generalize decide (op 3 + 1 ∈ fa 3) = d at *
                have hV5 := hV.newOnly hU5 hbw
                cases d
                all_goals
                  go_wp2_with fail
                  refine k2.mono ?_
                  rintro e w6 ⟨rfl, hE6, hU6⟩
                  have hD6 := hD5.far hU6 hE5.blk (by decide) hne
                  have hV6 := hV5.newOnly hU6 hb2w
                  go_wp2_with fail
                  go_roundw
                  case measure => simp [intOf]; omega
                  case rel => exact ⟨i + 1, opN, badN, opN2, badN2, base2, by omega, by go_num, hD6, hE6, hfin.out, hV6⟩
              · have hkb : ((k : Int) == 3) = false := beq_eq_false_iff_ne.mpr (by omega)
                have k1 := next _ b v fa op bad k hk4 wr hD (by have := hallH.out.1 k; omega) (by have := hallH.out.1 k; omega)
                go_wp2_with fail
                refine k1.mono ?_
                rintro e w5 ⟨rfl, hD5, hU5⟩
                have hE5 := hE.far hU5 hD.blk (by decide) (Ne.symm hne)
                have hV5 := hV.newOnly hU5 hbw
                have hB1 := hallH.out.1.next k (ite_or (op k + 1 ∈ fa k) (up bad k (bad k + 1)) bad)
                have hE1 : up op k (op k + 1) 3 = op2 3 := by rw [up_ne _ _ (fun e => hkK e.symm)]; exact hallH.out.2.2.1
                have hE2 : (if op k + 1 ∈ fa k then up bad k (bad k + 1) else bad) 3 = bad2 3 := by
                  split
                  · rw [up_ne _ _ (fun e => hkK e.symm)]; exact hallH.out.2.2.2
                  · exact hallH.out.2.2.2
                have hfin := Lib.hid (And.intro hB1 (And.intro hallH.out.2.1.more (And.intro hE1 hE2)))
                clear hB1 hE1 hE2 k1 hallH hD hE hV hkK
                generalize (if op k + 1 ∈ fa k then up bad k (bad k + 1) else bad) = badN at *
                generalize up op k (op k + 1) = opN at *
                generalize decide (op k + 1 ∈ fa k) = d at *
                go_wp2_with fail
                go_roundw
                case measure => simp [intOf]; omega
                case rel => exact ⟨i + 1, opN, badN, op2, bad2, base2, by omega, by go_num, hD5, hE5, hfin.out, hV5⟩
            · have hkb : (who[i] == 3) = false := beq_eq_false_iff_ne.mpr (by omega)
              have hout : who[i] < 0 ∨ 4 ≤ who[i] := by omega
              have k1 := next_no b who[i] hout wr
              clear hin
              go_wp2_with fail
              refine k1.mono ?_
              rintro e w5 ⟨rfl, hU5⟩
              have hfin := Lib.hid (And.intro hallH.out.1.more (And.intro hallH.out.2.1.more hallH.out.2.2))
              have hD5 := hD.upd hU5
              have hE5 := hE.upd hU5
              have hV5 := hV.tr hU5
              clear hallH
              go_wp2_with fail
              go_roundw
              case measure => simp [intOf]; omega
              case rel => exact ⟨i + 1, op, bad, op2, bad2, base2, by omega, by go_num, hD5, hE5, hfin.out, hV5⟩
          · obtain rfl : i = who.length := by omega
            have k1 := opsOf _ b v fa op bad 3 (by omega) wr hD
            have k2 := opsOf _ b2 v2 _ op2 bad2 3 (by omega) wr hE
            have k3 := badOf _ b v fa op bad 3 (by omega) wr hD
            have k4 := badOf _ b2 v2 _ op2 bad2 3 (by omega) wr hE
            rw [← hallH.out.2.2.1] at k2
            rw [← hallH.out.2.2.2] at k4
            clear hD hE
            go_wp2_with fail
            refine k1.mono ?_
            rintro e w' ⟨rfl, rfl⟩
            go_wp2_with fail
            refine k2.mono ?_
            rintro e w' ⟨rfl, rfl⟩
            go_wp2_with fail
            refine k3.mono ?_
            rintro e w' ⟨rfl, rfl⟩
            go_wp2_with fail
            refine k4.mono ?_
            rintro e w' ⟨rfl, rfl⟩
            go_wp2_with fail
            go_ret
            exact ⟨rfl, hV⟩
    · have h0b : (n != 0) = true := by simpa using h0
      go_wp2_with fail
      refine (kN _ hV1 h0).mono ?_
      rintro e w2 ⟨hU2, rfl⟩
      go_wp2_with fail
      go_ret
      exact ⟨rfl, hV1.tr hU2⟩
end Go.Proofs.Ytbadgmfhlaedoaa.Draw
