/-
  Tables: the walk of the law TableMoves. Conditions: what the argument's slice holds.
-/
import Derived.Test.YtcifkccaiekkeaaTableV
namespace Go.Proofs.Ytcifkccaiekkeaa.Table
open Go.RowKit Go.Proofs.Ytcifkccaiekkeaa.Base Go.Proofs.Ytcifkccaiekkeaa.Ints
set_option linter.unusedVariables false
set_option linter.unusedSimpArgs false
theorem moved {R : List Row3} {n m : Nat} (h : PW R) (hi : In R n m) (q i p : Int) (h0 : (setV R n m q i p).1 = 0) (hw : (atV R q).2.2 = true) (hne : (atV R q).1 ≠ i ∨ (atV R q).2.1 ≠ p) : placeV (setV R n m q i p).2 n m (atV R q).1 (atV R q).2.1 = -1 := by
  unfold setV at *
  by_cases hb : ¬ (0 ≤ q ∧ q < 64) ∨ isB n m i p = false
  · rw [if_pos hb] at h0; cases h0
  · rw [if_neg hb] at h0 ⊢
    have hq : 0 ≤ q ∧ q < 64 := Classical.byContradiction fun e => hb (.inl e)
    have hib : isB n m i p = true := by cases e : isB n m i p <;> simp_all
    obtain ⟨a, c, rfl, rfl, ha, hc⟩ := is_true hib
    obtain ⟨k, rfl⟩ := Int.eq_ofNat_of_zero_le hq.1
    simp only [Int.toNat_natCast] at h0 ⊢
    cases hs : spotOf R k with
    | none =>
      unfold atV at hw
      rw [if_pos hq, Int.toNat_natCast, hs] at hw
      cases hw
    | some s =>
      have hat : atV R k = ((s.1 : Int), (s.2 : Int), true) := by
        unfold atV
        rw [if_pos hq, Int.toNat_natCast, hs]
      rw [hat] at hne ⊢
      have hsne : s ≠ (a, c) := by
        rintro rfl
        rcases hne with e | e <;> exact e rfl
      have hsc : spotOf (clr R k) k = none := by rw [spot_clr h, if_pos rfl]
      have key : ownOf R (a, c) = none ∨ ownOf R (a, c) = some k → placeV (put (clr R k) k (a, c)) n m s.1 s.2 = -1 := by
        intro ho
        unfold placeV
        split
        · simp only [Int.toNat_natCast]
          rw [own_put (h.clr k) hsc (own_free h ho), if_neg hsne, own_clr h hs, if_pos rfl]
          rfl
        · rfl
      cases ho : ownOf R (a, c) with
      | none => exact key (.inl ho)
      | some j =>
        rw [ho] at h0
        simp only at h0 ⊢
        split
        · rename_i e
          exact key (.inr (by rw [ho]; congr 1; omega))
        · rename_i e
          rw [if_neg e] at h0
          cases h0
def T1 (lo hi : Nat) (w : World) (b : Nat) (R : List Row3) (n m : Nat) : Prop := ∃ F, Tb F w b R n m ∧ (∀ x, F x → Bt lo hi x) ∧ hi ≤ w.heap.size
set_option maxHeartbeats 16000000 in
set_option maxRecDepth 100000 in
theorem moves (A : Option Addr) (c : Nat) (l : List Ac) (w : World) (hA : Arg w A 4 acC l) (hm : l.length ≤ maxLen) :
    Calls Try.prog 4 #[.slice A l.length c] w (RetB true w) := by
  unfold maxLen at hm
  by_cases hl : 150 < l.length
  · have hlI : (150 : Int) < l.length := by omega
    go_enter Try.func4, Try.ntmps4
    go_wp2_with fail
    refine (fixed _).mono ?_
    rintro e w1 ⟨rfl, hU1⟩
    go_wp2_with fail
    go_ret
    exact ⟨rfl, hU1⟩
  · have hlI : ¬ (150 : Int) < l.length := by omega
    have kN := fun w => new_yes 8 8 (by omega) (by omega) w
    go_enter Try.func4, Try.ntmps4
    go_wp2_with fail
    refine (fixed _).mono ?_
    rintro e w1 ⟨rfl, hU1⟩
    go_wp2_with fail
    refine (kN _).mono ?_
    rintro e w2 ⟨b, rfl, hb, hT2, hU2⟩
    have hT0 : T1 w.heap.size w2.heap.size w2 b [] 8 8 := ⟨_, hT2, fun x hx => hx.elim (fun h => h.elim) (fun ⟨h1, h2⟩ => ⟨Nat.le_trans hU1.size h1, h2⟩), Nat.le_refl _⟩
    have hV0 := hU1.tr hU2
    clear hT2 hU1 hU2 kN hb
    go_wp2_with fail
    go_loopw [5, 20] (fun s5 s20 wr => ∃ (j : Nat) (R : List Row3) (hi1 : Nat), j ≤ l.length ∧ s20 = .int .i64 j ∧ T1 w.heap.size hi1 wr b R 8 8 ∧ Upd Nil w wr) (fun _ s20 _ => l.length - (intOf s20).toNat)
    case atStart => exact ⟨0, [], _, by omega, rfl, hT0, hV0⟩
    case round =>
      clear hT0 hV0
      obtain ⟨j, R, hi1, hj, rfl, hT, hV⟩ := hrel
      by_cases hlt : j < l.length
      · obtain ⟨g, o, rfl, e0, e1, e2, e3⟩ := ac_cell (hA.upd hV) hlt
        obtain ⟨F, hTb, hFB, hle⟩ := hT
        have hTa := hTb.upd0 ((Upd.refl Nil wr).alloc (.cells (acC l[j]).toArray 39))
        have hVa := hV.alloc (.cells (acC l[j]).toArray 39)
        have hba := blk_new wr (.cells (acC l[j]).toArray 39)
        have hNF : ¬ F wr.heap.size := fun h => by have := (hFB _ h).2; omega
        have hlea : hi1 ≤ (wr.alloc (.cells (acC l[j]).toArray 39)).heap.size := Nat.le_trans hle (by simp)
        generalize l[j] = a at *
        obtain ⟨ak, aq, ai, ap⟩ := a
        obtain ⟨hpw, hin⟩ : PW R ∧ In R 8 8 := by obtain ⟨gs, V, W, h⟩ := hTb; exact ⟨h.pw, h.inn⟩
        have hmv := Lib.hid (moved hpw hin aq ai ap)
        have k1 := at_ F b R 8 8 aq _ hTa
        have k2 := fun w' (u : Upd Nil _ w') => set F b R 8 8 aq ai ap w' (hTa.upd0 u)
        simp only [acC] at hTa hVa hba hlea k1 k2
        clear hpw hin hTb
        unfold AtR at k1
        go_wp2_with fail
        generalize wr.alloc (.cells #[.int .u8 ak, .int .i64 aq, .int .i64 ai, .int .i64 ap] 39) = wa at *
        refine k1.mono ?_
        rintro e w3 ⟨rfl, hU3⟩
        have hb3 := hU3.blk hba (fun h => h)
        have hb3c0 : (w3).cell? ⟨wr.heap.size, 0, none⟩ = some (.int .u8 ak) := Base.blk_cell hb3 0
        have hb3z0 : (w3).frozen? ⟨wr.heap.size, 0, none⟩ = false := Base.blk_frozen hb3 0
        have hb3c1 : (w3).cell? ⟨wr.heap.size, 1, none⟩ = some (.int .i64 aq) := Base.blk_cell hb3 1
        have hb3z1 : (w3).frozen? ⟨wr.heap.size, 1, none⟩ = false := Base.blk_frozen hb3 1
        have hb3c2 : (w3).cell? ⟨wr.heap.size, 2, none⟩ = some (.int .i64 ai) := Base.blk_cell hb3 2
        have hb3z2 : (w3).frozen? ⟨wr.heap.size, 2, none⟩ = false := Base.blk_frozen hb3 2
        have hb3c3 : (w3).cell? ⟨wr.heap.size, 3, none⟩ = some (.int .i64 ap) := Base.blk_cell hb3 3
        have hb3z3 : (w3).frozen? ⟨wr.heap.size, 3, none⟩ = false := Base.blk_frozen hb3 3
        have hmv2 : Hid (∀ av, atV R aq = av → ∀ sv, setV R 8 8 aq ai ap = sv → sv.1 = 0 → av.2.2 = true → (av.1 ≠ ai ∨ av.2.1 ≠ ap) → placeV sv.2 8 8 av.1 av.2.1 = -1) := Lib.hid (fun av h1 sv h2 h3 h4 h5 => by subst h1 h2; exact hmv.out h3 h4 h5)
        clear hmv k1
        replace k2 := k2 w3 hU3
        generalize hav : atV R aq = av at *
        generalize hsv : setV R 8 8 aq ai ap = sv at *
        obtain ⟨av1, av2, av3⟩ := av
        obtain ⟨se, sR⟩ := sv
        have hmv3 := Lib.hid (hmv2.out _ rfl _ rfl)
        clear hav hsv hmv2
        go_wp2_with fail
        refine k2.mono ?_
        rintro e w4 ⟨rfl, hTs, hU4⟩
        have hb4 := hU4.blk hb3 hNF
        have hV4 := (hVa.tr hU3).trans hU4 (fun x hx => .inr (hFB x hx).1)
        have hle4 := Nat.le_trans hlea (Nat.le_trans hU3.size hU4.size)
        clear hb3c0 hb3c1 hb3c2 hb3c3 hb3z0 hb3z1 hb3z2 hb3z3 hb3 hba hU3 hU4 hTa hVa hlea hV k2
        have hb4c0 : (w4).cell? ⟨wr.heap.size, 0, none⟩ = some (.int .u8 ak) := Base.blk_cell hb4 0
        have hb4z0 : (w4).frozen? ⟨wr.heap.size, 0, none⟩ = false := Base.blk_frozen hb4 0
        have hb4c1 : (w4).cell? ⟨wr.heap.size, 1, none⟩ = some (.int .i64 aq) := Base.blk_cell hb4 1
        have hb4z1 : (w4).frozen? ⟨wr.heap.size, 1, none⟩ = false := Base.blk_frozen hb4 1
        have hb4c2 : (w4).cell? ⟨wr.heap.size, 2, none⟩ = some (.int .i64 ai) := Base.blk_cell hb4 2
        have hb4z2 : (w4).frozen? ⟨wr.heap.size, 2, none⟩ = false := Base.blk_frozen hb4 2
        have hb4c3 : (w4).cell? ⟨wr.heap.size, 3, none⟩ = some (.int .i64 ap) := Base.blk_cell hb4 3
        have hb4z3 : (w4).frozen? ⟨wr.heap.size, 3, none⟩ = false := Base.blk_frozen hb4 3
        simp only at hTs
        by_cases hse : se = 0
        · subst hse
          cases av3
          · clear hmv3
            go_wp2_with fail
            have hT7 : T1 w.heap.size hi1 w4 b sR 8 8 := ⟨F, hTs, hFB, hle4⟩
            have hws := fun k w' (u : Upd Nil w4 w') => worth F b sR 8 8 k w' (hTs.upd0 u)
            have hct := count F b sR 8 8
            have hctT := Lib.hid hTs
            obtain ⟨hpw2, hin2⟩ : PW sR ∧ In sR 8 8 := by obtain ⟨gs, V, W, h⟩ := hTs; exact ⟨h.pw, h.inn⟩
            have hall := Lib.hid (cnt_all hin2)
            have hz0 := Lib.hid (cnt_zero sR)
            have hl64 := len64 hpw2 hin2
            have hcn := Lib.hid (fun (k : Nat) => (Nat.le_trans List.countP_le_length hl64 : cntL sR k ≤ 64))
            have hwv := Lib.hid (fun (k : Nat) (hk : k < 8) => (show worthV sR 8 8 (k : Int) = (worthOf sR k : Nat) by unfold worthV isB; rw [if_pos (by simp; omega)]; rfl))
            clear hTs hpw2 hin2
            go_loopw [10, 64] (fun s10 s64 wi => ∃ k : Nat, k ≤ 8 ∧ s64 = .int .i64 k ∧ s10 = .int .i64 (cntL sR k : Nat) ∧ w4 = wi) (fun _ s64 _ => 8 - (intOf s64).toNat)
            case atStart => exact ⟨0, by omega, rfl, by rw [hz0.out]; rfl, rfl⟩
            case round =>
              obtain ⟨k, hk8, rfl, rfl, rfl⟩ := hrel
              by_cases hlt8 : k < 8
              · have q1 := hws k _ (Upd.refl _ _)
                rw [hwv.out k hlt8] at q1
                have h1 := hcn.out k
                have hs := Lib.hid (cnt_succ sR k)
                have h2 : worthOf sR k ≤ 64 := by have := hcn.out (k + 1); rw [hs.out] at this; omega
                generalize worthOf sR k = x at *
                clear hws hct
                go_wp2_with fail
                refine q1.mono ?_
                rintro e w' ⟨rfl, rfl⟩
                go_wp2_with fail
                go_roundw
                case measure => simp [intOf]; omega
                case rel => exact ⟨k + 1, by omega, by go_num, by rw [hs.out]; go_num, by first | rfl | trivial⟩
              · obtain rfl : k = 8 := by omega
                have q1 := hct _ hctT.out
                rw [hall.out]
                clear hws hct
                go_wp2_with fail
                refine q1.mono ?_
                rintro e w' ⟨rfl, rfl⟩
                go_wp2_with fail
                go_roundw
                case measure => simp [intOf]; omega
                case rel => exact ⟨j + 1, sR, _, by omega, by go_num, hT7, hV4⟩
          · by_cases h1 : av1 = ai
            · by_cases h2 : av2 = ap
              · subst h1 h2
                clear hmv3
                go_wp2_with fail
                have hT7 : T1 w.heap.size hi1 w4 b sR 8 8 := ⟨F, hTs, hFB, hle4⟩
                have hws := fun k w' (u : Upd Nil w4 w') => worth F b sR 8 8 k w' (hTs.upd0 u)
                have hct := count F b sR 8 8
                have hctT := Lib.hid hTs
                obtain ⟨hpw2, hin2⟩ : PW sR ∧ In sR 8 8 := by obtain ⟨gs, V, W, h⟩ := hTs; exact ⟨h.pw, h.inn⟩
                have hall := Lib.hid (cnt_all hin2)
                have hz0 := Lib.hid (cnt_zero sR)
                have hl64 := len64 hpw2 hin2
                have hcn := Lib.hid (fun (k : Nat) => (Nat.le_trans List.countP_le_length hl64 : cntL sR k ≤ 64))
                have hwv := Lib.hid (fun (k : Nat) (hk : k < 8) => (show worthV sR 8 8 (k : Int) = (worthOf sR k : Nat) by unfold worthV isB; rw [if_pos (by simp; omega)]; rfl))
                clear hTs hpw2 hin2
                go_loopw [10, 64] (fun s10 s64 wi => ∃ k : Nat, k ≤ 8 ∧ s64 = .int .i64 k ∧ s10 = .int .i64 (cntL sR k : Nat) ∧ w4 = wi) (fun _ s64 _ => 8 - (intOf s64).toNat)
                case atStart => exact ⟨0, by omega, rfl, by rw [hz0.out]; rfl, rfl⟩
                case round =>
                  obtain ⟨k, hk8, rfl, rfl, rfl⟩ := hrel
                  by_cases hlt8 : k < 8
                  · have q1 := hws k _ (Upd.refl _ _)
                    rw [hwv.out k hlt8] at q1
                    have h1 := hcn.out k
                    have hs := Lib.hid (cnt_succ sR k)
                    have h2 : worthOf sR k ≤ 64 := by have := hcn.out (k + 1); rw [hs.out] at this; omega
                    generalize worthOf sR k = x at *
                    clear hws hct
                    go_wp2_with fail
                    refine q1.mono ?_
                    rintro e w' ⟨rfl, rfl⟩
                    go_wp2_with fail
                    go_roundw
                    case measure => simp [intOf]; omega
                    case rel => exact ⟨k + 1, by omega, by go_num, by rw [hs.out]; go_num, by first | rfl | trivial⟩
                  · obtain rfl : k = 8 := by omega
                    have q1 := hct _ hctT.out
                    rw [hall.out]
                    clear hws hct
                    go_wp2_with fail
                    refine q1.mono ?_
                    rintro e w' ⟨rfl, rfl⟩
                    go_wp2_with fail
                    go_roundw
                    case measure => simp [intOf]; omega
                    case rel => exact ⟨j + 1, sR, _, by omega, by go_num, hT7, hV4⟩
              · have hpl := hmv3.out rfl rfl (.inr h2)
                have hpc := place F b sR 8 8 av1 av2 w4 hTs
                try simp only at hpl
                rw [hpl] at hpc
                subst h1
                have hb2 : (av2 != ap) = true := by simpa using h2
                clear hmv3 hpl h2
                go_wp2_with fail
                refine hpc.mono ?_
                rintro e w' ⟨rfl, rfl⟩
                go_wp2_with fail
                have hT7 : T1 w.heap.size hi1 w4 b sR 8 8 := ⟨F, hTs, hFB, hle4⟩
                have hws := fun k w' (u : Upd Nil w4 w') => worth F b sR 8 8 k w' (hTs.upd0 u)
                have hct := count F b sR 8 8
                have hctT := Lib.hid hTs
                obtain ⟨hpw2, hin2⟩ : PW sR ∧ In sR 8 8 := by obtain ⟨gs, V, W, h⟩ := hTs; exact ⟨h.pw, h.inn⟩
                have hall := Lib.hid (cnt_all hin2)
                have hz0 := Lib.hid (cnt_zero sR)
                have hl64 := len64 hpw2 hin2
                have hcn := Lib.hid (fun (k : Nat) => (Nat.le_trans List.countP_le_length hl64 : cntL sR k ≤ 64))
                have hwv := Lib.hid (fun (k : Nat) (hk : k < 8) => (show worthV sR 8 8 (k : Int) = (worthOf sR k : Nat) by unfold worthV isB; rw [if_pos (by simp; omega)]; rfl))
                clear hTs hpw2 hin2
                go_loopw [10, 64] (fun s10 s64 wi => ∃ k : Nat, k ≤ 8 ∧ s64 = .int .i64 k ∧ s10 = .int .i64 (cntL sR k : Nat) ∧ w4 = wi) (fun _ s64 _ => 8 - (intOf s64).toNat)
                case atStart => exact ⟨0, by omega, rfl, by rw [hz0.out]; rfl, rfl⟩
                case round =>
                  obtain ⟨k, hk8, rfl, rfl, rfl⟩ := hrel
                  by_cases hlt8 : k < 8
                  · have q1 := hws k _ (Upd.refl _ _)
                    rw [hwv.out k hlt8] at q1
                    have h1 := hcn.out k
                    have hs := Lib.hid (cnt_succ sR k)
                    have h2 : worthOf sR k ≤ 64 := by have := hcn.out (k + 1); rw [hs.out] at this; omega
                    generalize worthOf sR k = x at *
                    clear hws hct
                    go_wp2_with fail
                    refine q1.mono ?_
                    rintro e w' ⟨rfl, rfl⟩
                    go_wp2_with fail
                    go_roundw
                    case measure => simp [intOf]; omega
                    case rel => exact ⟨k + 1, by omega, by go_num, by rw [hs.out]; go_num, by first | rfl | trivial⟩
                  · obtain rfl : k = 8 := by omega
                    have q1 := hct _ hctT.out
                    rw [hall.out]
                    clear hws hct
                    go_wp2_with fail
                    refine q1.mono ?_
                    rintro e w' ⟨rfl, rfl⟩
                    go_wp2_with fail
                    go_roundw
                    case measure => simp [intOf]; omega
                    case rel => exact ⟨j + 1, sR, _, by omega, by go_num, hT7, hV4⟩
            · have hpl := hmv3.out rfl rfl (.inl h1)
              have hpc := place F b sR 8 8 av1 av2 w4 hTs
              try simp only at hpl
              rw [hpl] at hpc
              have hb2 : (av1 != ai) = true := by simpa using h1
              clear hmv3 hpl h1
              go_wp2_with fail
              refine hpc.mono ?_
              rintro e w' ⟨rfl, rfl⟩
              go_wp2_with fail
              have hT7 : T1 w.heap.size hi1 w4 b sR 8 8 := ⟨F, hTs, hFB, hle4⟩
              have hws := fun k w' (u : Upd Nil w4 w') => worth F b sR 8 8 k w' (hTs.upd0 u)
              have hct := count F b sR 8 8
              have hctT := Lib.hid hTs
              obtain ⟨hpw2, hin2⟩ : PW sR ∧ In sR 8 8 := by obtain ⟨gs, V, W, h⟩ := hTs; exact ⟨h.pw, h.inn⟩
              have hall := Lib.hid (cnt_all hin2)
              have hz0 := Lib.hid (cnt_zero sR)
              have hl64 := len64 hpw2 hin2
              have hcn := Lib.hid (fun (k : Nat) => (Nat.le_trans List.countP_le_length hl64 : cntL sR k ≤ 64))
              have hwv := Lib.hid (fun (k : Nat) (hk : k < 8) => (show worthV sR 8 8 (k : Int) = (worthOf sR k : Nat) by unfold worthV isB; rw [if_pos (by simp; omega)]; rfl))
              clear hTs hpw2 hin2
              go_loopw [10, 64] (fun s10 s64 wi => ∃ k : Nat, k ≤ 8 ∧ s64 = .int .i64 k ∧ s10 = .int .i64 (cntL sR k : Nat) ∧ w4 = wi) (fun _ s64 _ => 8 - (intOf s64).toNat)
              case atStart => exact ⟨0, by omega, rfl, by rw [hz0.out]; rfl, rfl⟩
              case round =>
                obtain ⟨k, hk8, rfl, rfl, rfl⟩ := hrel
                by_cases hlt8 : k < 8
                · have q1 := hws k _ (Upd.refl _ _)
                  rw [hwv.out k hlt8] at q1
                  have h1 := hcn.out k
                  have hs := Lib.hid (cnt_succ sR k)
                  have h2 : worthOf sR k ≤ 64 := by have := hcn.out (k + 1); rw [hs.out] at this; omega
                  generalize worthOf sR k = x at *
                  clear hws hct
                  go_wp2_with fail
                  refine q1.mono ?_
                  rintro e w' ⟨rfl, rfl⟩
                  go_wp2_with fail
                  go_roundw
                  case measure => simp [intOf]; omega
                  case rel => exact ⟨k + 1, by omega, by go_num, by rw [hs.out]; go_num, by first | rfl | trivial⟩
                · obtain rfl : k = 8 := by omega
                  have q1 := hct _ hctT.out
                  rw [hall.out]
                  clear hws hct
                  go_wp2_with fail
                  refine q1.mono ?_
                  rintro e w' ⟨rfl, rfl⟩
                  go_wp2_with fail
                  go_roundw
                  case measure => simp [intOf]; omega
                  case rel => exact ⟨j + 1, sR, _, by omega, by go_num, hT7, hV4⟩
        · have hseb : (se == 0) = false := beq_eq_false_iff_ne.mpr hse
          clear hmv3 hse
          go_wp2_with fail
          have hT7 : T1 w.heap.size hi1 w4 b sR 8 8 := ⟨F, hTs, hFB, hle4⟩
          have hws := fun k w' (u : Upd Nil w4 w') => worth F b sR 8 8 k w' (hTs.upd0 u)
          have hct := count F b sR 8 8
          have hctT := Lib.hid hTs
          obtain ⟨hpw2, hin2⟩ : PW sR ∧ In sR 8 8 := by obtain ⟨gs, V, W, h⟩ := hTs; exact ⟨h.pw, h.inn⟩
          have hall := Lib.hid (cnt_all hin2)
          have hz0 := Lib.hid (cnt_zero sR)
          have hl64 := len64 hpw2 hin2
          have hcn := Lib.hid (fun (k : Nat) => (Nat.le_trans List.countP_le_length hl64 : cntL sR k ≤ 64))
          have hwv := Lib.hid (fun (k : Nat) (hk : k < 8) => (show worthV sR 8 8 (k : Int) = (worthOf sR k : Nat) by unfold worthV isB; rw [if_pos (by simp; omega)]; rfl))
          clear hTs hpw2 hin2
          go_loopw [10, 64] (fun s10 s64 wi => ∃ k : Nat, k ≤ 8 ∧ s64 = .int .i64 k ∧ s10 = .int .i64 (cntL sR k : Nat) ∧ w4 = wi) (fun _ s64 _ => 8 - (intOf s64).toNat)
          case atStart => exact ⟨0, by omega, rfl, by rw [hz0.out]; rfl, rfl⟩
          case round =>
            obtain ⟨k, hk8, rfl, rfl, rfl⟩ := hrel
            by_cases hlt8 : k < 8
            · have q1 := hws k _ (Upd.refl _ _)
              rw [hwv.out k hlt8] at q1
              have h1 := hcn.out k
              have hs := Lib.hid (cnt_succ sR k)
              have h2 : worthOf sR k ≤ 64 := by have := hcn.out (k + 1); rw [hs.out] at this; omega
              generalize worthOf sR k = x at *
              clear hws hct
              go_wp2_with fail
              refine q1.mono ?_
              rintro e w' ⟨rfl, rfl⟩
              go_wp2_with fail
              go_roundw
              case measure => simp [intOf]; omega
              case rel => exact ⟨k + 1, by omega, by go_num, by rw [hs.out]; go_num, by first | rfl | trivial⟩
            · obtain rfl : k = 8 := by omega
              have q1 := hct _ hctT.out
              rw [hall.out]
              clear hws hct
              go_wp2_with fail
              refine q1.mono ?_
              rintro e w' ⟨rfl, rfl⟩
              go_wp2_with fail
              go_roundw
              case measure => simp [intOf]; omega
              case rel => exact ⟨j + 1, sR, _, by omega, by go_num, hT7, hV4⟩
      · obtain rfl : j = l.length := by omega
        go_wp2_with fail
        go_ret
        exact ⟨rfl, hV⟩
end Go.Proofs.Ytcifkccaiekkeaa.Table
