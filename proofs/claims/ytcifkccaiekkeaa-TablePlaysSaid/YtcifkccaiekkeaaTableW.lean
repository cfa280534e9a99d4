/-
  Tables: the walk of the law TablePlays. Conditions: what the argument's slice holds.
-/
import Derived.Test.YtcifkccaiekkeaaTableV
namespace Go.Proofs.Ytcifkccaiekkeaa.Table
open Go.RowKit Go.Proofs.Ytcifkccaiekkeaa.Base Go.Proofs.Ytcifkccaiekkeaa.Ints
set_option linter.unusedVariables false
set_option linter.unusedSimpArgs false
set_option maxHeartbeats 16000000 in
set_option maxRecDepth 100000 in
theorem plays_yes (n0 m : Nat) (hn : 1 ≤ n0 ∧ n0 ≤ 64) (hm : 2 ≤ m ∧ m ≤ 16) (A : Option Addr) (c : Nat) (l : List Ac) (w : World) (hA : Arg w A 4 acC l) (hl : l.length ≤ 150) (hk : ∀ a ∈ l, a.k ≤ 255) :
    Calls Try.prog 3 #[.int .i64 n0, .int .i64 m, .slice A l.length c] w (RetB true w) := by
  have kN := fun w => new_yes n0 m hn hm w
  obtain ⟨hn1, hn2⟩ := hn
  obtain ⟨hm1, hm2⟩ := hm
  have i1 : ¬ (n0 : Int) < 1 := by omega
  have i2 : ¬ (64 : Int) < (n0 : Int) := by omega
  have i3 : ¬ (m : Int) < 2 := by omega
  have i4 : ¬ (16 : Int) < (m : Int) := by omega
  have i5 : ¬ (150 : Int) < (l.length : Int) := by omega
  go_enter Try.func3, Try.ntmps3
  go_wp2_with fail
  refine (fixed _).mono ?_
  rintro e w1 ⟨rfl, hU1⟩
  go_wp2_with fail
  refine (kN _).mono ?_
  rintro e w2 ⟨b, rfl, hb, hT2, hU2⟩
  have hV2 := hU1.tr hU2
  go_wp2_with fail
  have hV3 := hV2.alloc (.cells #[.int .i64 n0, .int .i64 m, .slice none 0 0] 37)
  have hTw : Two w.heap.size (w2.alloc (.cells #[.int .i64 n0, .int .i64 m, .slice none 0 0] 37)).heap.size (w2.alloc (.cells #[.int .i64 n0, .int .i64 m, .slice none 0 0] 37)) b w2.heap.size [] n0 [] n0 m := by
    refine ⟨⟨More (fun _ => False) w1.heap.size w2.heap.size, Only w2.heap.size, hT2.upd0 ((Upd.refl _ _).alloc _), ⟨.slice none 0 0, blk_new _ _, Sl.nil _ _ _ _ _, rfl, fun k hk => by simp [Value.ownBlock] at hk⟩, ?_, ?_, ?_⟩, Nat.le_refl _⟩
    · intro x hx
      rcases hx with hx | ⟨h1, h2⟩
      · exact hx.elim
      · exact ⟨Nat.le_trans hU1.size h1, by simp; omega⟩
    · intro x hx
      have hx : x = w2.heap.size := hx
      subst hx
      exact ⟨hV2.size, by simp⟩
    · intro x hx hx2
      have hx2 : x = w2.heap.size := hx2
      rcases hx with hx | ⟨h1, h2⟩
      · exact hx.elim
      · omega
  clear kN hT2 hU2 hU1 hV2 hb
  generalize w2.heap.size = bR at *
  go_loopw [13, 90] (fun s13 s90 wr => ∃ (j : Nat) (R : List Row3) (n : Nat), j ≤ l.length ∧ s90 = .int .i64 j ∧ Two w.heap.size wr.heap.size wr b bR R n R n m ∧ Upd Nil w wr) (fun _ s90 _ => l.length - (intOf s90).toNat)
  case atStart => exact ⟨0, [], n0, by omega, rfl, hTw, hV3⟩
  case round =>
    clear hTw hV3
    obtain ⟨j, R, n, hj, rfl, hT, hV⟩ := hrel
    by_cases hlt : j < l.length
    · obtain ⟨g, o, rfl, e0, e1, e2, e3⟩ := ac_cell (hA.upd hV) hlt
      have hk255 := hk l[j] (List.getElem_mem hlt)
      have hTa := hT.upd0 ((Upd.refl Nil wr).alloc (.cells (acC l[j]).toArray 39))
      have hVa := hV.alloc (.cells (acC l[j]).toArray 39)
      have hba := blk_new wr (.cells (acC l[j]).toArray 39)
      have hlo : w.heap.size ≤ wr.heap.size := hV.size
      have hNB : ¬ Bt w.heap.size wr.heap.size wr.heap.size := fun h => Nat.lt_irrefl _ h.2
      generalize l[j] = a at *
      obtain ⟨ak, aq, ai, ap⟩ := a
      have hk3 : ak % 3 = 0 ∨ ak % 3 = 1 ∨ ak % 3 = 2 := by omega
      obtain ⟨hpw, hin, hn64, _⟩ := hT.ok
      have hrl64 : R.length ≤ 1000000 := Nat.le_trans (len64 hpw hin) (by omega)
      have hseq := Lib.hid (rSet_eq hpw hin aq ai ap)
      have hclt := Lib.hid (rClr_lt hpw hin aq)
      simp only [acC] at hTa hVa hba
      clear hT hpw hin
      rcases hk3 with hk3 | hk3 | hk3
      · have hk1 : (ak : Int) % 3 = 0 := by omega
        have hk2 : Int.tmod (ak : Int) 3 = 0 := by rw [Int.tmod_eq_emod_of_nonneg (by omega)]; omega
        clear hk3
        go_wp2_with fail
        generalize wr.alloc (.cells #[.int .u8 ak, .int .i64 aq, .int .i64 ai, .int .i64 ap] 39) = wa at *
        have hTd := hTa.upd0 (Upd.refl Nil wa).drew
        have x0 : ∀ w', Upd (Bt w.heap.size wr.heap.size) wa.drew w' → w'.cell? ⟨wr.heap.size, 0, none⟩ = some (.int .u8 ak) := fun w' u => blk_cell (u.blk (blk_drew hba) hNB) 0
        have x1 : ∀ w', Upd (Bt w.heap.size wr.heap.size) wa.drew w' → w'.cell? ⟨wr.heap.size, 1, none⟩ = some (.int .i64 aq) := fun w' u => blk_cell (u.blk (blk_drew hba) hNB) 1
        have x2 : ∀ w', Upd (Bt w.heap.size wr.heap.size) wa.drew w' → w'.cell? ⟨wr.heap.size, 2, none⟩ = some (.int .i64 ai) := fun w' u => blk_cell (u.blk (blk_drew hba) hNB) 2
        have x3 : ∀ w', Upd (Bt w.heap.size wr.heap.size) wa.drew w' → w'.cell? ⟨wr.heap.size, 3, none⟩ = some (.int .i64 ap) := fun w' u => blk_cell (u.blk (blk_drew hba) hNB) 3
        refine wp_region_lex (Bt w.heap.size wr.heap.size) [0, 1, 2, 3, 4, 5, 6, 8, 9, 10, 11, 12, 13, 14, 7, 15, 16] (by kernel_rfl) (by kernel_rfl) rfl (by kernel_rfl) ?_
        simp only [inOrder, List.filterMap_cons, List.filterMap_nil, List.getElem?_cons_zero, List.getElem?_cons_succ]
        try simp only [Act.put, List.setIfInBounds_toArray, List.set_cons_zero, List.set_cons_succ]
        repeat
          first
          | (refine lex_pure (v := ?_) rfl rfl ?_ ?_
             rotate_left
             · intro w' hU'
               go_simp
               try with_reducible rfl
             try simp only [Act.put, List.setIfInBounds_toArray, List.set_cons_zero, List.set_cons_succ])
          | (refine lex_skip rfl ?_
             try simp only [Act.put, List.setIfInBounds_toArray, List.set_cons_zero, List.set_cons_succ])
        refine lex_fn (f := 18) (args := _) rfl rfl (by go_simp) ((hTd.set aq ai ap).mono ?_)
        rintro e w2 ⟨rfl, hT2, hU2⟩
        refine ⟨_, rfl, hU2, ?_⟩
        try simp only [Act.put, List.setIfInBounds_toArray, List.set_cons_zero, List.set_cons_succ]
        repeat
          first
          | (refine lex_pure (v := ?_) rfl rfl ?_ ?_
             rotate_left
             · intro w' hU'
               go_simp
               try with_reducible rfl
             try simp only [Act.put, List.setIfInBounds_toArray, List.set_cons_zero, List.set_cons_succ])
          | (refine lex_skip rfl ?_
             try simp only [Act.put, List.setIfInBounds_toArray, List.set_cons_zero, List.set_cons_succ])
        refine lex_fn (f := 23) (args := _) rfl rfl (by go_simp) ((hT2.rset hlo hrl64 aq ai ap).mono ?_)
        rintro e w3 ⟨rfl, hT3, hU3⟩
        refine ⟨_, rfl, hU3, ?_⟩
        rw [hseq.out] at hT3 ⊢
        try simp only [Act.put, List.setIfInBounds_toArray, List.set_cons_zero, List.set_cons_succ]
        repeat
          first
          | (refine lex_pure (v := ?_) rfl rfl ?_ ?_
             rotate_left
             · intro w' hU'
               go_simp
               try with_reducible rfl
             try simp only [Act.put, List.setIfInBounds_toArray, List.set_cons_zero, List.set_cons_succ])
          | (refine lex_skip rfl ?_
             try simp only [Act.put, List.setIfInBounds_toArray, List.set_cons_zero, List.set_cons_succ])
        refine lex_done ?_
        have hV3 : Upd Nil w w3 := ((hVa.drew).trans hU2 (fun x hx => .inr hx.1)).trans hU3 (fun x hx => .inr hx.1)
        have hb3 := hU3.blk (hU2.blk (blk_drew hba) hNB) hNB
        clear x0 x1 x2 x3
        clear hU2 hU3 hT2
        clear hTd hTa hVa hba
        clear hseq hclt
        generalize setV R n m aq ai ap = sv at *
        obtain ⟨se, sR⟩ := sv
        simp only at hT3
        as_aux_lemma =>
          have hTN := hT3
          obtain ⟨F3, hF3⟩ := hT3.tb
          obtain ⟨G3, hG3⟩ := hT3.rtb
          obtain ⟨hpw3, hin3, hn3, hm3⟩ := hT3.ok
          have k1 := at_ F3 b sR n m aq w3 hF3
          have k2 := fun w' (u : Upd Nil w3 w') => rat G3 bR sR n m aq w' (hG3.upd0 u)
          have k3 := fun w' (u : Upd Nil w3 w') => place F3 b sR n m ai ap w' (hF3.upd0 u)
          have k4 := fun w' (u : Upd Nil w3 w') => rplace G3 bR sR n m ai ap w' (hG3.upd0 u)
          have k5 := fun w' (u : Upd Nil w3 w') => worth F3 b sR n m ai w' (hF3.upd0 u)
          have k6 := fun w' (u : Upd Nil w3 w') => rworth G3 bR sR n m ai (Nat.le_trans (len64 hpw3 hin3) (by omega)) w' (hG3.upd0 u)
          have k7 := fun w' (u : Upd Nil w3 w') => count F3 b sR n m w' (hF3.upd0 u)
          obtain ⟨AR, cR, hbR⟩ := hT3.rblk
          have hrl : Hid ((sR).length ≤ 64) := Lib.hid (len64 hpw3 hin3)
          unfold AtR at k1
          unfold RAtR at k2
          unfold RPlR at k4
          unfold RWoR at k6
          rw [rAt_eq hin3] at k2
          rw [rPlace_eq hin3] at k4
          rw [rWorth_eq hin3 (by omega)] at k6
          generalize atV sR aq = av at *
          obtain ⟨av1, av2, av3⟩ := av
          generalize placeV sR n m ai ap = pv at *
          generalize worthV sR n m ai = wv at *
          generalize (sR).length = rl at *
          simp only at k1 k2
          clear hF3 hG3 hpw3 hin3
          have b0 := blk_cell hb3 1
          simp only [acC, List.getElem?_toArray, List.getElem?_cons_zero, List.getElem?_cons_succ] at b0
          go_wp2_with fail
          refine k1.mono ?_
          rintro e w4 ⟨rfl, hU4⟩
          have hb4 := hU4.blk hb3 (fun h => h)
          have b0 := blk_cell hb4 1
          simp only [acC, List.getElem?_toArray, List.getElem?_cons_zero, List.getElem?_cons_succ] at b0
          go_wp2_with fail
          refine (k2 _ hU4).mono ?_
          rintro e w5 ⟨rfl, hU5⟩
          have hb5 := hU5.blk hb4 (fun h => h)
          have hW5 := hU4.tr hU5
          have hbR5 := hW5.blk hbR (fun h => h)
          have y0 : ∀ w', Upd Nil w5.drew w' → w'.cell? ⟨wr.heap.size, 0, none⟩ = some (.int .u8 ak) := fun w' u => blk_cell (u.blk hb5 (fun h => h)) 0
          have y1 : ∀ w', Upd Nil w5.drew w' → w'.cell? ⟨wr.heap.size, 1, none⟩ = some (.int .i64 aq) := fun w' u => blk_cell (u.blk hb5 (fun h => h)) 1
          have y2 : ∀ w', Upd Nil w5.drew w' → w'.cell? ⟨wr.heap.size, 2, none⟩ = some (.int .i64 ai) := fun w' u => blk_cell (u.blk hb5 (fun h => h)) 2
          have y3 : ∀ w', Upd Nil w5.drew w' → w'.cell? ⟨wr.heap.size, 3, none⟩ = some (.int .i64 ap) := fun w' u => blk_cell (u.blk hb5 (fun h => h)) 3
          have hbRc : ∀ w', Upd Nil w5.drew w' → w'.cell? ⟨bR, 2, none⟩ = some (.slice AR rl cR) := fun w' u => blk_cell (u.blk hbR5 (fun h => h)) 2
          have hbRd : ∀ w', Upd Nil w5.drew w' → w'.cell? ⟨bR, 0, none⟩ = some (.int .i64 n) := fun w' u => blk_cell (u.blk hbR5 (fun h => h)) 0
          have hWd : Upd Nil w3 w5.drew := hW5.drew
          clear k1 k2 hb4 b0 hU4 hU5
          go_wp2_with fail
          refine wp_region_lex Nil [0, 1, 2, 3, 4, 5, 6, 7, 8, 9, 10, 11, 12, 13, 14, 15, 16, 17, 18, 20, 21, 22, 23, 24, 19, 25, 26, 27, 28, 29, 30, 31, 33, 34, 35, 32, 36, 37, 38, 39, 40, 42, 43, 44, 45, 46, 41, 47, 48] (by kernel_rfl) (by kernel_rfl) rfl (by kernel_rfl) ?_
          simp only [inOrder, List.filterMap_cons, List.filterMap_nil, List.getElem?_cons_zero, List.getElem?_cons_succ]
          try simp only [Act.put, List.setIfInBounds_toArray, List.set_cons_zero, List.set_cons_succ]
          repeat
            first
            | (refine lex_pure (v := ?_) rfl rfl ?_ ?_
               rotate_left
               · intro w' hU'
                 go_simp
                 try with_reducible rfl
               try simp only [Act.put, List.setIfInBounds_toArray, List.set_cons_zero, List.set_cons_succ])
            | (refine lex_skip rfl ?_
               try simp only [Act.put, List.setIfInBounds_toArray, List.set_cons_zero, List.set_cons_succ])
          refine lex_fn (f := 20) (args := _) rfl rfl (by go_simp) ((k3 _ hWd).mono ?_)
          rintro e w' ⟨rfl, rfl⟩
          refine ⟨_, rfl, Upd.refl _ _, ?_⟩
          try simp only [Act.put, List.setIfInBounds_toArray, List.set_cons_zero, List.set_cons_succ]
          repeat
            first
            | (refine lex_pure (v := ?_) rfl rfl ?_ ?_
               rotate_left
               · intro w' hU'
                 go_simp
                 try with_reducible rfl
               try simp only [Act.put, List.setIfInBounds_toArray, List.set_cons_zero, List.set_cons_succ])
            | (refine lex_skip rfl ?_
               try simp only [Act.put, List.setIfInBounds_toArray, List.set_cons_zero, List.set_cons_succ])
          refine lex_fn (f := 27) (args := _) rfl rfl (by go_simp) ((k4 _ hWd).mono ?_)
          rintro e w6 ⟨rfl, hU6⟩
          refine ⟨_, rfl, hU6, ?_⟩
          replace y0 := fun w' (u : Upd Nil w6 w') => y0 w' (hU6.tr u)
          replace y1 := fun w' (u : Upd Nil w6 w') => y1 w' (hU6.tr u)
          replace y2 := fun w' (u : Upd Nil w6 w') => y2 w' (hU6.tr u)
          replace y3 := fun w' (u : Upd Nil w6 w') => y3 w' (hU6.tr u)
          replace hbRc := fun w' (u : Upd Nil w6 w') => hbRc w' (hU6.tr u)
          replace hbRd := fun w' (u : Upd Nil w6 w') => hbRd w' (hU6.tr u)
          have hW6 := hWd.tr hU6
          try simp only [Act.put, List.setIfInBounds_toArray, List.set_cons_zero, List.set_cons_succ]
          repeat
            first
            | (refine lex_pure (v := ?_) rfl rfl ?_ ?_
               rotate_left
               · intro w' hU'
                 go_simp
                 try with_reducible rfl
               try simp only [Act.put, List.setIfInBounds_toArray, List.set_cons_zero, List.set_cons_succ])
            | (refine lex_skip rfl ?_
               try simp only [Act.put, List.setIfInBounds_toArray, List.set_cons_zero, List.set_cons_succ])
          refine lex_fn (f := 21) (args := _) rfl rfl (by go_simp) ((k5 _ hW6).mono ?_)
          rintro e w' ⟨rfl, rfl⟩
          refine ⟨_, rfl, Upd.refl _ _, ?_⟩
          try simp only [Act.put, List.setIfInBounds_toArray, List.set_cons_zero, List.set_cons_succ]
          repeat
            first
            | (refine lex_pure (v := ?_) rfl rfl ?_ ?_
               rotate_left
               · intro w' hU'
                 go_simp
                 try with_reducible rfl
               try simp only [Act.put, List.setIfInBounds_toArray, List.set_cons_zero, List.set_cons_succ])
            | (refine lex_skip rfl ?_
               try simp only [Act.put, List.setIfInBounds_toArray, List.set_cons_zero, List.set_cons_succ])
          refine lex_fn (f := 28) (args := _) rfl rfl (by go_simp) ((k6 _ hW6).mono ?_)
          rintro e w7 ⟨rfl, hU7⟩
          refine ⟨_, rfl, hU7, ?_⟩
          replace y0 := fun w' (u : Upd Nil w7 w') => y0 w' (hU7.tr u)
          replace y1 := fun w' (u : Upd Nil w7 w') => y1 w' (hU7.tr u)
          replace y2 := fun w' (u : Upd Nil w7 w') => y2 w' (hU7.tr u)
          replace y3 := fun w' (u : Upd Nil w7 w') => y3 w' (hU7.tr u)
          replace hbRc := fun w' (u : Upd Nil w7 w') => hbRc w' (hU7.tr u)
          replace hbRd := fun w' (u : Upd Nil w7 w') => hbRd w' (hU7.tr u)
          have hW7 := hW6.tr hU7
          try simp only [Act.put, List.setIfInBounds_toArray, List.set_cons_zero, List.set_cons_succ]
          repeat
            first
            | (refine lex_pure (v := ?_) rfl rfl ?_ ?_
               rotate_left
               · intro w' hU'
                 go_simp
                 try with_reducible rfl
               try simp only [Act.put, List.setIfInBounds_toArray, List.set_cons_zero, List.set_cons_succ])
            | (refine lex_skip rfl ?_
               try simp only [Act.put, List.setIfInBounds_toArray, List.set_cons_zero, List.set_cons_succ])
          refine lex_fn (f := 22) (args := _) rfl rfl (by go_simp) ((k7 _ hW7).mono ?_)
          rintro e w' ⟨rfl, rfl⟩
          refine ⟨_, rfl, Upd.refl _ _, ?_⟩
          try simp only [Act.put, List.setIfInBounds_toArray, List.set_cons_zero, List.set_cons_succ]
          repeat
            first
            | (refine lex_pure (v := ?_) rfl rfl ?_ ?_
               rotate_left
               · intro w' hU'
                 go_simp
                 try with_reducible rfl
               try simp only [Act.put, List.setIfInBounds_toArray, List.set_cons_zero, List.set_cons_succ])
            | (refine lex_skip rfl ?_
               try simp only [Act.put, List.setIfInBounds_toArray, List.set_cons_zero, List.set_cons_succ])
          refine lex_done ?_
          clear y0 y1 y2 y3 hbRc hbRd k3 k4 k5 k6 k7
          have hT7 := (hTN.upd0 hW7).mono hW7.size (Nat.le_refl _)
          have hV7 := hV3.tr hW7
          go_wp2_with fail
          go_roundw
          case measure => simp [intOf]; omega
          case rel => exact ⟨j + 1, sR, n, by omega, by go_num, hT7, hV7⟩
      · have hk1 : (ak : Int) % 3 = 1 := by omega
        have hk2 : Int.tmod (ak : Int) 3 = 1 := by rw [Int.tmod_eq_emod_of_nonneg (by omega)]; omega
        clear hk3
        go_wp2_with fail
        generalize wr.alloc (.cells #[.int .u8 ak, .int .i64 aq, .int .i64 ai, .int .i64 ap] 39) = wa at *
        have hTd := hTa.upd0 (Upd.refl Nil wa).drew
        have x0 : ∀ w', Upd (Bt w.heap.size wr.heap.size) wa.drew w' → w'.cell? ⟨wr.heap.size, 0, none⟩ = some (.int .u8 ak) := fun w' u => blk_cell (u.blk (blk_drew hba) hNB) 0
        have x1 : ∀ w', Upd (Bt w.heap.size wr.heap.size) wa.drew w' → w'.cell? ⟨wr.heap.size, 1, none⟩ = some (.int .i64 aq) := fun w' u => blk_cell (u.blk (blk_drew hba) hNB) 1
        have x2 : ∀ w', Upd (Bt w.heap.size wr.heap.size) wa.drew w' → w'.cell? ⟨wr.heap.size, 2, none⟩ = some (.int .i64 ai) := fun w' u => blk_cell (u.blk (blk_drew hba) hNB) 2
        have x3 : ∀ w', Upd (Bt w.heap.size wr.heap.size) wa.drew w' → w'.cell? ⟨wr.heap.size, 3, none⟩ = some (.int .i64 ap) := fun w' u => blk_cell (u.blk (blk_drew hba) hNB) 3
        refine wp_region_lex (Bt w.heap.size wr.heap.size) [0, 1, 2, 4, 5, 6, 3, 7, 8] (by kernel_rfl) (by kernel_rfl) rfl (by kernel_rfl) ?_
        simp only [inOrder, List.filterMap_cons, List.filterMap_nil, List.getElem?_cons_zero, List.getElem?_cons_succ]
        try simp only [Act.put, List.setIfInBounds_toArray, List.set_cons_zero, List.set_cons_succ]
        repeat
          first
          | (refine lex_pure (v := ?_) rfl rfl ?_ ?_
             rotate_left
             · intro w' hU'
               go_simp
               try with_reducible rfl
             try simp only [Act.put, List.setIfInBounds_toArray, List.set_cons_zero, List.set_cons_succ])
          | (refine lex_skip rfl ?_
             try simp only [Act.put, List.setIfInBounds_toArray, List.set_cons_zero, List.set_cons_succ])
        refine lex_fn (f := 19) (args := _) rfl rfl (by go_simp) ((hTd.clear aq).mono ?_)
        rintro e w2 ⟨rfl, hT2, hU2⟩
        refine ⟨_, rfl, hU2, ?_⟩
        try simp only [Act.put, List.setIfInBounds_toArray, List.set_cons_zero, List.set_cons_succ]
        repeat
          first
          | (refine lex_pure (v := ?_) rfl rfl ?_ ?_
             rotate_left
             · intro w' hU'
               go_simp
               try with_reducible rfl
             try simp only [Act.put, List.setIfInBounds_toArray, List.set_cons_zero, List.set_cons_succ])
          | (refine lex_skip rfl ?_
             try simp only [Act.put, List.setIfInBounds_toArray, List.set_cons_zero, List.set_cons_succ])
        refine lex_fn (f := 24) (args := _) rfl rfl (by go_simp) ((hT2.rclear hlo hrl64 aq).mono ?_)
        rintro e w3 ⟨rfl, hT3, hU3⟩
        refine ⟨_, rfl, hU3, ?_⟩
        rw [hclt.out]
        generalize (atV R aq).2.2 = cb at *
        try simp only [Act.put, List.setIfInBounds_toArray, List.set_cons_zero, List.set_cons_succ]
        repeat
          first
          | (refine lex_pure (v := ?_) rfl rfl ?_ ?_
             rotate_left
             · intro w' hU'
               go_simp
               try with_reducible rfl
             try simp only [Act.put, List.setIfInBounds_toArray, List.set_cons_zero, List.set_cons_succ])
          | (refine lex_skip rfl ?_
             try simp only [Act.put, List.setIfInBounds_toArray, List.set_cons_zero, List.set_cons_succ])
        refine lex_done ?_
        have hV3 : Upd Nil w w3 := ((hVa.drew).trans hU2 (fun x hx => .inr hx.1)).trans hU3 (fun x hx => .inr hx.1)
        have hb3 := hU3.blk (hU2.blk (blk_drew hba) hNB) hNB
        clear x0 x1 x2 x3
        clear hU2 hU3 hT2
        clear hTd hTa hVa hba
        clear hseq hclt
        generalize rClr R aq = sR at *
        as_aux_lemma =>
          have hTN := hT3
          obtain ⟨F3, hF3⟩ := hT3.tb
          obtain ⟨G3, hG3⟩ := hT3.rtb
          obtain ⟨hpw3, hin3, hn3, hm3⟩ := hT3.ok
          have k1 := at_ F3 b sR n m aq w3 hF3
          have k2 := fun w' (u : Upd Nil w3 w') => rat G3 bR sR n m aq w' (hG3.upd0 u)
          have k3 := fun w' (u : Upd Nil w3 w') => place F3 b sR n m ai ap w' (hF3.upd0 u)
          have k4 := fun w' (u : Upd Nil w3 w') => rplace G3 bR sR n m ai ap w' (hG3.upd0 u)
          have k5 := fun w' (u : Upd Nil w3 w') => worth F3 b sR n m ai w' (hF3.upd0 u)
          have k6 := fun w' (u : Upd Nil w3 w') => rworth G3 bR sR n m ai (Nat.le_trans (len64 hpw3 hin3) (by omega)) w' (hG3.upd0 u)
          have k7 := fun w' (u : Upd Nil w3 w') => count F3 b sR n m w' (hF3.upd0 u)
          obtain ⟨AR, cR, hbR⟩ := hT3.rblk
          have hrl : Hid ((sR).length ≤ 64) := Lib.hid (len64 hpw3 hin3)
          unfold AtR at k1
          unfold RAtR at k2
          unfold RPlR at k4
          unfold RWoR at k6
          rw [rAt_eq hin3] at k2
          rw [rPlace_eq hin3] at k4
          rw [rWorth_eq hin3 (by omega)] at k6
          generalize atV sR aq = av at *
          obtain ⟨av1, av2, av3⟩ := av
          generalize placeV sR n m ai ap = pv at *
          generalize worthV sR n m ai = wv at *
          generalize (sR).length = rl at *
          simp only at k1 k2
          clear hF3 hG3 hpw3 hin3
          have b0 := blk_cell hb3 1
          simp only [acC, List.getElem?_toArray, List.getElem?_cons_zero, List.getElem?_cons_succ] at b0
          go_wp2_with fail
          refine k1.mono ?_
          rintro e w4 ⟨rfl, hU4⟩
          have hb4 := hU4.blk hb3 (fun h => h)
          have b0 := blk_cell hb4 1
          simp only [acC, List.getElem?_toArray, List.getElem?_cons_zero, List.getElem?_cons_succ] at b0
          go_wp2_with fail
          refine (k2 _ hU4).mono ?_
          rintro e w5 ⟨rfl, hU5⟩
          have hb5 := hU5.blk hb4 (fun h => h)
          have hW5 := hU4.tr hU5
          have hbR5 := hW5.blk hbR (fun h => h)
          have y0 : ∀ w', Upd Nil w5.drew w' → w'.cell? ⟨wr.heap.size, 0, none⟩ = some (.int .u8 ak) := fun w' u => blk_cell (u.blk hb5 (fun h => h)) 0
          have y1 : ∀ w', Upd Nil w5.drew w' → w'.cell? ⟨wr.heap.size, 1, none⟩ = some (.int .i64 aq) := fun w' u => blk_cell (u.blk hb5 (fun h => h)) 1
          have y2 : ∀ w', Upd Nil w5.drew w' → w'.cell? ⟨wr.heap.size, 2, none⟩ = some (.int .i64 ai) := fun w' u => blk_cell (u.blk hb5 (fun h => h)) 2
          have y3 : ∀ w', Upd Nil w5.drew w' → w'.cell? ⟨wr.heap.size, 3, none⟩ = some (.int .i64 ap) := fun w' u => blk_cell (u.blk hb5 (fun h => h)) 3
          have hbRc : ∀ w', Upd Nil w5.drew w' → w'.cell? ⟨bR, 2, none⟩ = some (.slice AR rl cR) := fun w' u => blk_cell (u.blk hbR5 (fun h => h)) 2
          have hbRd : ∀ w', Upd Nil w5.drew w' → w'.cell? ⟨bR, 0, none⟩ = some (.int .i64 n) := fun w' u => blk_cell (u.blk hbR5 (fun h => h)) 0
          have hWd : Upd Nil w3 w5.drew := hW5.drew
          clear k1 k2 hb4 b0 hU4 hU5
          go_wp2_with fail
          refine wp_region_lex Nil [0, 1, 2, 3, 4, 5, 6, 7, 8, 9, 10, 11, 12, 13, 14, 15, 16, 17, 18, 20, 21, 22, 23, 24, 19, 25, 26, 27, 28, 29, 30, 31, 33, 34, 35, 32, 36, 37, 38, 39, 40, 42, 43, 44, 45, 46, 41, 47, 48] (by kernel_rfl) (by kernel_rfl) rfl (by kernel_rfl) ?_
          simp only [inOrder, List.filterMap_cons, List.filterMap_nil, List.getElem?_cons_zero, List.getElem?_cons_succ]
          try simp only [Act.put, List.setIfInBounds_toArray, List.set_cons_zero, List.set_cons_succ]
          repeat
            first
            | (refine lex_pure (v := ?_) rfl rfl ?_ ?_
               rotate_left
               · intro w' hU'
                 go_simp
                 try with_reducible rfl
               try simp only [Act.put, List.setIfInBounds_toArray, List.set_cons_zero, List.set_cons_succ])
            | (refine lex_skip rfl ?_
               try simp only [Act.put, List.setIfInBounds_toArray, List.set_cons_zero, List.set_cons_succ])
          refine lex_fn (f := 20) (args := _) rfl rfl (by go_simp) ((k3 _ hWd).mono ?_)
          rintro e w' ⟨rfl, rfl⟩
          refine ⟨_, rfl, Upd.refl _ _, ?_⟩
          try simp only [Act.put, List.setIfInBounds_toArray, List.set_cons_zero, List.set_cons_succ]
          repeat
            first
            | (refine lex_pure (v := ?_) rfl rfl ?_ ?_
               rotate_left
               · intro w' hU'
                 go_simp
                 try with_reducible rfl
               try simp only [Act.put, List.setIfInBounds_toArray, List.set_cons_zero, List.set_cons_succ])
            | (refine lex_skip rfl ?_
               try simp only [Act.put, List.setIfInBounds_toArray, List.set_cons_zero, List.set_cons_succ])
          refine lex_fn (f := 27) (args := _) rfl rfl (by go_simp) ((k4 _ hWd).mono ?_)
          rintro e w6 ⟨rfl, hU6⟩
          refine ⟨_, rfl, hU6, ?_⟩
          replace y0 := fun w' (u : Upd Nil w6 w') => y0 w' (hU6.tr u)
          replace y1 := fun w' (u : Upd Nil w6 w') => y1 w' (hU6.tr u)
          replace y2 := fun w' (u : Upd Nil w6 w') => y2 w' (hU6.tr u)
          replace y3 := fun w' (u : Upd Nil w6 w') => y3 w' (hU6.tr u)
          replace hbRc := fun w' (u : Upd Nil w6 w') => hbRc w' (hU6.tr u)
          replace hbRd := fun w' (u : Upd Nil w6 w') => hbRd w' (hU6.tr u)
          have hW6 := hWd.tr hU6
          try simp only [Act.put, List.setIfInBounds_toArray, List.set_cons_zero, List.set_cons_succ]
          repeat
            first
            | (refine lex_pure (v := ?_) rfl rfl ?_ ?_
               rotate_left
               · intro w' hU'
                 go_simp
                 try with_reducible rfl
               try simp only [Act.put, List.setIfInBounds_toArray, List.set_cons_zero, List.set_cons_succ])
            | (refine lex_skip rfl ?_
               try simp only [Act.put, List.setIfInBounds_toArray, List.set_cons_zero, List.set_cons_succ])
          refine lex_fn (f := 21) (args := _) rfl rfl (by go_simp) ((k5 _ hW6).mono ?_)
          rintro e w' ⟨rfl, rfl⟩
          refine ⟨_, rfl, Upd.refl _ _, ?_⟩
          try simp only [Act.put, List.setIfInBounds_toArray, List.set_cons_zero, List.set_cons_succ]
          repeat
            first
            | (refine lex_pure (v := ?_) rfl rfl ?_ ?_
               rotate_left
               · intro w' hU'
                 go_simp
                 try with_reducible rfl
               try simp only [Act.put, List.setIfInBounds_toArray, List.set_cons_zero, List.set_cons_succ])
            | (refine lex_skip rfl ?_
               try simp only [Act.put, List.setIfInBounds_toArray, List.set_cons_zero, List.set_cons_succ])
          refine lex_fn (f := 28) (args := _) rfl rfl (by go_simp) ((k6 _ hW6).mono ?_)
          rintro e w7 ⟨rfl, hU7⟩
          refine ⟨_, rfl, hU7, ?_⟩
          replace y0 := fun w' (u : Upd Nil w7 w') => y0 w' (hU7.tr u)
          replace y1 := fun w' (u : Upd Nil w7 w') => y1 w' (hU7.tr u)
          replace y2 := fun w' (u : Upd Nil w7 w') => y2 w' (hU7.tr u)
          replace y3 := fun w' (u : Upd Nil w7 w') => y3 w' (hU7.tr u)
          replace hbRc := fun w' (u : Upd Nil w7 w') => hbRc w' (hU7.tr u)
          replace hbRd := fun w' (u : Upd Nil w7 w') => hbRd w' (hU7.tr u)
          have hW7 := hW6.tr hU7
          try simp only [Act.put, List.setIfInBounds_toArray, List.set_cons_zero, List.set_cons_succ]
          repeat
            first
            | (refine lex_pure (v := ?_) rfl rfl ?_ ?_
               rotate_left
               · intro w' hU'
                 go_simp
                 try with_reducible rfl
               try simp only [Act.put, List.setIfInBounds_toArray, List.set_cons_zero, List.set_cons_succ])
            | (refine lex_skip rfl ?_
               try simp only [Act.put, List.setIfInBounds_toArray, List.set_cons_zero, List.set_cons_succ])
          refine lex_fn (f := 22) (args := _) rfl rfl (by go_simp) ((k7 _ hW7).mono ?_)
          rintro e w' ⟨rfl, rfl⟩
          refine ⟨_, rfl, Upd.refl _ _, ?_⟩
          try simp only [Act.put, List.setIfInBounds_toArray, List.set_cons_zero, List.set_cons_succ]
          repeat
            first
            | (refine lex_pure (v := ?_) rfl rfl ?_ ?_
               rotate_left
               · intro w' hU'
                 go_simp
                 try with_reducible rfl
               try simp only [Act.put, List.setIfInBounds_toArray, List.set_cons_zero, List.set_cons_succ])
            | (refine lex_skip rfl ?_
               try simp only [Act.put, List.setIfInBounds_toArray, List.set_cons_zero, List.set_cons_succ])
          refine lex_done ?_
          clear y0 y1 y2 y3 hbRc hbRd k3 k4 k5 k6 k7
          have hT7 := (hTN.upd0 hW7).mono hW7.size (Nat.le_refl _)
          have hV7 := hV3.tr hW7
          go_wp2_with fail
          go_roundw
          case measure => simp [intOf]; omega
          case rel => exact ⟨j + 1, sR, n, by omega, by go_num, hT7, hV7⟩
      · have hk1 : (ak : Int) % 3 = 2 := by omega
        have hk2 : Int.tmod (ak : Int) 3 = 2 := by rw [Int.tmod_eq_emod_of_nonneg (by omega)]; omega
        clear hk3
        go_wp2_with fail
        generalize wr.alloc (.cells #[.int .u8 ak, .int .i64 aq, .int .i64 ai, .int .i64 ap] 39) = wa at *
        have y2 := blk_cell hba 2
        refine (hTa.grow hlo ai).mono ?_
        rintro e w2 ⟨rfl, hT2, hU2⟩
        have hb2 := hU2.blk hba hNB
        have hV2 : Upd Nil w w2 := hVa.trans hU2 (fun x hx => .inr hx.1)
        have hsz2 := hU2.size
        obtain ⟨AR, cR, hbR⟩ := hT2.rblk
        have z2 := blk_cell hb2 2
        have z0 := blk_cell hbR 0
        have f0 := blk_frozen hbR 0
        simp only [List.getElem?_toArray, List.getElem?_cons_zero, List.getElem?_cons_succ] at z2 z0
        have hcnt : Hid (∀ x : Int, x = (n : Int) + (cntG n ai : Nat) → Two w.heap.size w2.heap.size (w2.setCell ⟨bR, 0, none⟩ (.int .i64 x)) b bR R (n + cntG n ai) R ((n + cntG n ai : Nat) : Int) m ∧ Upd (Bt w.heap.size w2.heap.size) w2 (w2.setCell ⟨bR, 0, none⟩ (.int .i64 x))) := by
          show ∀ _, _
          intro x hx
          rw [hx, ← Int.natCast_add]
          exact hT2.setN _
        have hbR0 := hbR
        clear hTa hVa hba y2 hU2 hT2 hbR
        by_cases g0 : ai < 0
        · have hc := Lib.hid (show cntG n ai = 0 by unfold cntG; omega)
          go_wp2_with fail
          go_region
          obtain ⟨hT3, hu3⟩ := hcnt.out (n) (by rw [hc.out]; simp)
          as_aux_lemma =>
            replace hT3 := hT3.upd0 (Upd.refl Nil (w2.setCell ⟨bR, 0, none⟩ (.int .i64 (n)))).drew
            have hV3 : Upd Nil w (w2.setCell ⟨bR, 0, none⟩ (.int .i64 (n))).drew := (hV2.trans hu3 (fun x hx => .inr hx.1)).drew
            have hNbR : wr.heap.size ≠ bR := fun e => by
              rw [e] at hb2
              rw [hb2] at hbR0
              injection hbR0 with hbR0
              injection hbR0 with _ hbR0
              exact absurd hbR0 (by decide)
            have hb3 : (w2.setCell ⟨bR, 0, none⟩ (.int .i64 (n))).drew.heap[wr.heap.size]? = _ := blk_drew (blk_other hb2 (p := ⟨bR, 0, none⟩) hNbR _)
            have hsz3 : (w2.setCell ⟨bR, 0, none⟩ (.int .i64 (n))).drew.heap.size = w2.heap.size := by simp [World.setCell]
            rw [← hsz3] at hT3
            clear hu3 hcnt hc z2 z0 f0 hb2 hbR0 hNbR hsz3 hsz2
            generalize (w2.setCell ⟨bR, 0, none⟩ (.int .i64 (n))).drew = w3 at *
            generalize n + cntG n ai = nn at *
            have hTN := hT3
            obtain ⟨F3, hF3⟩ := hT3.tb
            obtain ⟨G3, hG3⟩ := hT3.rtb
            obtain ⟨hpw3, hin3, hn3, hm3⟩ := hT3.ok
            have k1 := at_ F3 b R nn m aq w3 hF3
            have k2 := fun w' (u : Upd Nil w3 w') => rat G3 bR R nn m aq w' (hG3.upd0 u)
            have k3 := fun w' (u : Upd Nil w3 w') => place F3 b R nn m ai ap w' (hF3.upd0 u)
            have k4 := fun w' (u : Upd Nil w3 w') => rplace G3 bR R nn m ai ap w' (hG3.upd0 u)
            have k5 := fun w' (u : Upd Nil w3 w') => worth F3 b R nn m ai w' (hF3.upd0 u)
            have k6 := fun w' (u : Upd Nil w3 w') => rworth G3 bR R nn m ai (Nat.le_trans (len64 hpw3 hin3) (by omega)) w' (hG3.upd0 u)
            have k7 := fun w' (u : Upd Nil w3 w') => count F3 b R nn m w' (hF3.upd0 u)
            obtain ⟨AR, cR, hbR⟩ := hT3.rblk
            have hrl : Hid ((R).length ≤ 64) := Lib.hid (len64 hpw3 hin3)
            unfold AtR at k1
            unfold RAtR at k2
            unfold RPlR at k4
            unfold RWoR at k6
            rw [rAt_eq hin3] at k2
            rw [rPlace_eq hin3] at k4
            rw [rWorth_eq hin3 (by omega)] at k6
            generalize atV R aq = av at *
            obtain ⟨av1, av2, av3⟩ := av
            generalize placeV R nn m ai ap = pv at *
            generalize worthV R nn m ai = wv at *
            generalize (R).length = rl at *
            simp only at k1 k2
            clear hF3 hG3 hpw3 hin3
            have b0 := blk_cell hb3 1
            simp only [acC, List.getElem?_toArray, List.getElem?_cons_zero, List.getElem?_cons_succ] at b0
            go_wp2_with fail
            refine k1.mono ?_
            rintro e w4 ⟨rfl, hU4⟩
            have hb4 := hU4.blk hb3 (fun h => h)
            have b0 := blk_cell hb4 1
            simp only [acC, List.getElem?_toArray, List.getElem?_cons_zero, List.getElem?_cons_succ] at b0
            go_wp2_with fail
            refine (k2 _ hU4).mono ?_
            rintro e w5 ⟨rfl, hU5⟩
            have hb5 := hU5.blk hb4 (fun h => h)
            have hW5 := hU4.tr hU5
            have hbR5 := hW5.blk hbR (fun h => h)
            have y0 : ∀ w', Upd Nil w5.drew w' → w'.cell? ⟨wr.heap.size, 0, none⟩ = some (.int .u8 ak) := fun w' u => blk_cell (u.blk hb5 (fun h => h)) 0
            have y1 : ∀ w', Upd Nil w5.drew w' → w'.cell? ⟨wr.heap.size, 1, none⟩ = some (.int .i64 aq) := fun w' u => blk_cell (u.blk hb5 (fun h => h)) 1
            have y2 : ∀ w', Upd Nil w5.drew w' → w'.cell? ⟨wr.heap.size, 2, none⟩ = some (.int .i64 ai) := fun w' u => blk_cell (u.blk hb5 (fun h => h)) 2
            have y3 : ∀ w', Upd Nil w5.drew w' → w'.cell? ⟨wr.heap.size, 3, none⟩ = some (.int .i64 ap) := fun w' u => blk_cell (u.blk hb5 (fun h => h)) 3
            have hbRc : ∀ w', Upd Nil w5.drew w' → w'.cell? ⟨bR, 2, none⟩ = some (.slice AR rl cR) := fun w' u => blk_cell (u.blk hbR5 (fun h => h)) 2
            have hbRd : ∀ w', Upd Nil w5.drew w' → w'.cell? ⟨bR, 0, none⟩ = some (.int .i64 nn) := fun w' u => blk_cell (u.blk hbR5 (fun h => h)) 0
            have hWd : Upd Nil w3 w5.drew := hW5.drew
            clear k1 k2 hb4 b0 hU4 hU5
            go_wp2_with fail
            refine wp_region_lex Nil [0, 1, 2, 3, 4, 5, 6, 7, 8, 9, 10, 11, 12, 13, 14, 15, 16, 17, 18, 20, 21, 22, 23, 24, 19, 25, 26, 27, 28, 29, 30, 31, 33, 34, 35, 32, 36, 37, 38, 39, 40, 42, 43, 44, 45, 46, 41, 47, 48] (by kernel_rfl) (by kernel_rfl) rfl (by kernel_rfl) ?_
            simp only [inOrder, List.filterMap_cons, List.filterMap_nil, List.getElem?_cons_zero, List.getElem?_cons_succ]
            try simp only [Act.put, List.setIfInBounds_toArray, List.set_cons_zero, List.set_cons_succ]
            repeat
              first
              | (refine lex_pure (v := ?_) rfl rfl ?_ ?_
                 rotate_left
                 · intro w' hU'
                   go_simp
                   try with_reducible rfl
                 try simp only [Act.put, List.setIfInBounds_toArray, List.set_cons_zero, List.set_cons_succ])
              | (refine lex_skip rfl ?_
                 try simp only [Act.put, List.setIfInBounds_toArray, List.set_cons_zero, List.set_cons_succ])
            refine lex_fn (f := 20) (args := _) rfl rfl (by go_simp) ((k3 _ hWd).mono ?_)
            rintro e w' ⟨rfl, rfl⟩
            refine ⟨_, rfl, Upd.refl _ _, ?_⟩
            try simp only [Act.put, List.setIfInBounds_toArray, List.set_cons_zero, List.set_cons_succ]
            repeat
              first
              | (refine lex_pure (v := ?_) rfl rfl ?_ ?_
                 rotate_left
                 · intro w' hU'
                   go_simp
                   try with_reducible rfl
                 try simp only [Act.put, List.setIfInBounds_toArray, List.set_cons_zero, List.set_cons_succ])
              | (refine lex_skip rfl ?_
                 try simp only [Act.put, List.setIfInBounds_toArray, List.set_cons_zero, List.set_cons_succ])
            refine lex_fn (f := 27) (args := _) rfl rfl (by go_simp) ((k4 _ hWd).mono ?_)
            rintro e w6 ⟨rfl, hU6⟩
            refine ⟨_, rfl, hU6, ?_⟩
            replace y0 := fun w' (u : Upd Nil w6 w') => y0 w' (hU6.tr u)
            replace y1 := fun w' (u : Upd Nil w6 w') => y1 w' (hU6.tr u)
            replace y2 := fun w' (u : Upd Nil w6 w') => y2 w' (hU6.tr u)
            replace y3 := fun w' (u : Upd Nil w6 w') => y3 w' (hU6.tr u)
            replace hbRc := fun w' (u : Upd Nil w6 w') => hbRc w' (hU6.tr u)
            replace hbRd := fun w' (u : Upd Nil w6 w') => hbRd w' (hU6.tr u)
            have hW6 := hWd.tr hU6
            try simp only [Act.put, List.setIfInBounds_toArray, List.set_cons_zero, List.set_cons_succ]
            repeat
              first
              | (refine lex_pure (v := ?_) rfl rfl ?_ ?_
                 rotate_left
                 · intro w' hU'
                   go_simp
                   try with_reducible rfl
                 try simp only [Act.put, List.setIfInBounds_toArray, List.set_cons_zero, List.set_cons_succ])
              | (refine lex_skip rfl ?_
                 try simp only [Act.put, List.setIfInBounds_toArray, List.set_cons_zero, List.set_cons_succ])
            refine lex_fn (f := 21) (args := _) rfl rfl (by go_simp) ((k5 _ hW6).mono ?_)
            rintro e w' ⟨rfl, rfl⟩
            refine ⟨_, rfl, Upd.refl _ _, ?_⟩
            try simp only [Act.put, List.setIfInBounds_toArray, List.set_cons_zero, List.set_cons_succ]
            repeat
              first
              | (refine lex_pure (v := ?_) rfl rfl ?_ ?_
                 rotate_left
                 · intro w' hU'
                   go_simp
                   try with_reducible rfl
                 try simp only [Act.put, List.setIfInBounds_toArray, List.set_cons_zero, List.set_cons_succ])
              | (refine lex_skip rfl ?_
                 try simp only [Act.put, List.setIfInBounds_toArray, List.set_cons_zero, List.set_cons_succ])
            refine lex_fn (f := 28) (args := _) rfl rfl (by go_simp) ((k6 _ hW6).mono ?_)
            rintro e w7 ⟨rfl, hU7⟩
            refine ⟨_, rfl, hU7, ?_⟩
            replace y0 := fun w' (u : Upd Nil w7 w') => y0 w' (hU7.tr u)
            replace y1 := fun w' (u : Upd Nil w7 w') => y1 w' (hU7.tr u)
            replace y2 := fun w' (u : Upd Nil w7 w') => y2 w' (hU7.tr u)
            replace y3 := fun w' (u : Upd Nil w7 w') => y3 w' (hU7.tr u)
            replace hbRc := fun w' (u : Upd Nil w7 w') => hbRc w' (hU7.tr u)
            replace hbRd := fun w' (u : Upd Nil w7 w') => hbRd w' (hU7.tr u)
            have hW7 := hW6.tr hU7
            try simp only [Act.put, List.setIfInBounds_toArray, List.set_cons_zero, List.set_cons_succ]
            repeat
              first
              | (refine lex_pure (v := ?_) rfl rfl ?_ ?_
                 rotate_left
                 · intro w' hU'
                   go_simp
                   try with_reducible rfl
                 try simp only [Act.put, List.setIfInBounds_toArray, List.set_cons_zero, List.set_cons_succ])
              | (refine lex_skip rfl ?_
                 try simp only [Act.put, List.setIfInBounds_toArray, List.set_cons_zero, List.set_cons_succ])
            refine lex_fn (f := 22) (args := _) rfl rfl (by go_simp) ((k7 _ hW7).mono ?_)
            rintro e w' ⟨rfl, rfl⟩
            refine ⟨_, rfl, Upd.refl _ _, ?_⟩
            try simp only [Act.put, List.setIfInBounds_toArray, List.set_cons_zero, List.set_cons_succ]
            repeat
              first
              | (refine lex_pure (v := ?_) rfl rfl ?_ ?_
                 rotate_left
                 · intro w' hU'
                   go_simp
                   try with_reducible rfl
                 try simp only [Act.put, List.setIfInBounds_toArray, List.set_cons_zero, List.set_cons_succ])
              | (refine lex_skip rfl ?_
                 try simp only [Act.put, List.setIfInBounds_toArray, List.set_cons_zero, List.set_cons_succ])
            refine lex_done ?_
            clear y0 y1 y2 y3 hbRc hbRd k3 k4 k5 k6 k7
            have hT7 := (hTN.upd0 hW7).mono hW7.size (Nat.le_refl _)
            have hV7 := hV3.tr hW7
            go_wp2_with fail
            go_roundw
            case measure => simp [intOf]; omega
            case rel => exact ⟨j + 1, R, nn, by omega, by go_num, hT7, hV7⟩
        · by_cases g1 : 64 - (n : Int) < ai
          · have hc := Lib.hid (show cntG n ai = 64 - n by unfold cntG; omega)
            go_wp2_with fail
            go_region
            obtain ⟨hT3, hu3⟩ := hcnt.out ((n : Int) + (64 - (n : Int))) (by rw [hc.out]; omega)
            as_aux_lemma =>
              replace hT3 := hT3.upd0 (Upd.refl Nil (w2.setCell ⟨bR, 0, none⟩ (.int .i64 ((n : Int) + (64 - (n : Int)))))).drew
              have hV3 : Upd Nil w (w2.setCell ⟨bR, 0, none⟩ (.int .i64 ((n : Int) + (64 - (n : Int))))).drew := (hV2.trans hu3 (fun x hx => .inr hx.1)).drew
              have hNbR : wr.heap.size ≠ bR := fun e => by
                rw [e] at hb2
                rw [hb2] at hbR0
                injection hbR0 with hbR0
                injection hbR0 with _ hbR0
                exact absurd hbR0 (by decide)
              have hb3 : (w2.setCell ⟨bR, 0, none⟩ (.int .i64 ((n : Int) + (64 - (n : Int))))).drew.heap[wr.heap.size]? = _ := blk_drew (blk_other hb2 (p := ⟨bR, 0, none⟩) hNbR _)
              have hsz3 : (w2.setCell ⟨bR, 0, none⟩ (.int .i64 ((n : Int) + (64 - (n : Int))))).drew.heap.size = w2.heap.size := by simp [World.setCell]
              rw [← hsz3] at hT3
              clear hu3 hcnt hc z2 z0 f0 hb2 hbR0 hNbR hsz3 hsz2
              generalize (w2.setCell ⟨bR, 0, none⟩ (.int .i64 ((n : Int) + (64 - (n : Int))))).drew = w3 at *
              generalize n + cntG n ai = nn at *
              have hTN := hT3
              obtain ⟨F3, hF3⟩ := hT3.tb
              obtain ⟨G3, hG3⟩ := hT3.rtb
              obtain ⟨hpw3, hin3, hn3, hm3⟩ := hT3.ok
              have k1 := at_ F3 b R nn m aq w3 hF3
              have k2 := fun w' (u : Upd Nil w3 w') => rat G3 bR R nn m aq w' (hG3.upd0 u)
              have k3 := fun w' (u : Upd Nil w3 w') => place F3 b R nn m ai ap w' (hF3.upd0 u)
              have k4 := fun w' (u : Upd Nil w3 w') => rplace G3 bR R nn m ai ap w' (hG3.upd0 u)
              have k5 := fun w' (u : Upd Nil w3 w') => worth F3 b R nn m ai w' (hF3.upd0 u)
              have k6 := fun w' (u : Upd Nil w3 w') => rworth G3 bR R nn m ai (Nat.le_trans (len64 hpw3 hin3) (by omega)) w' (hG3.upd0 u)
              have k7 := fun w' (u : Upd Nil w3 w') => count F3 b R nn m w' (hF3.upd0 u)
              obtain ⟨AR, cR, hbR⟩ := hT3.rblk
              have hrl : Hid ((R).length ≤ 64) := Lib.hid (len64 hpw3 hin3)
              unfold AtR at k1
              unfold RAtR at k2
              unfold RPlR at k4
              unfold RWoR at k6
              rw [rAt_eq hin3] at k2
              rw [rPlace_eq hin3] at k4
              rw [rWorth_eq hin3 (by omega)] at k6
              generalize atV R aq = av at *
              obtain ⟨av1, av2, av3⟩ := av
              generalize placeV R nn m ai ap = pv at *
              generalize worthV R nn m ai = wv at *
              generalize (R).length = rl at *
              simp only at k1 k2
              clear hF3 hG3 hpw3 hin3
              have b0 := blk_cell hb3 1
              simp only [acC, List.getElem?_toArray, List.getElem?_cons_zero, List.getElem?_cons_succ] at b0
              go_wp2_with fail
              refine k1.mono ?_
              rintro e w4 ⟨rfl, hU4⟩
              have hb4 := hU4.blk hb3 (fun h => h)
              have b0 := blk_cell hb4 1
              simp only [acC, List.getElem?_toArray, List.getElem?_cons_zero, List.getElem?_cons_succ] at b0
              go_wp2_with fail
              refine (k2 _ hU4).mono ?_
              rintro e w5 ⟨rfl, hU5⟩
              have hb5 := hU5.blk hb4 (fun h => h)
              have hW5 := hU4.tr hU5
              have hbR5 := hW5.blk hbR (fun h => h)
              have y0 : ∀ w', Upd Nil w5.drew w' → w'.cell? ⟨wr.heap.size, 0, none⟩ = some (.int .u8 ak) := fun w' u => blk_cell (u.blk hb5 (fun h => h)) 0
              have y1 : ∀ w', Upd Nil w5.drew w' → w'.cell? ⟨wr.heap.size, 1, none⟩ = some (.int .i64 aq) := fun w' u => blk_cell (u.blk hb5 (fun h => h)) 1
              have y2 : ∀ w', Upd Nil w5.drew w' → w'.cell? ⟨wr.heap.size, 2, none⟩ = some (.int .i64 ai) := fun w' u => blk_cell (u.blk hb5 (fun h => h)) 2
              have y3 : ∀ w', Upd Nil w5.drew w' → w'.cell? ⟨wr.heap.size, 3, none⟩ = some (.int .i64 ap) := fun w' u => blk_cell (u.blk hb5 (fun h => h)) 3
              have hbRc : ∀ w', Upd Nil w5.drew w' → w'.cell? ⟨bR, 2, none⟩ = some (.slice AR rl cR) := fun w' u => blk_cell (u.blk hbR5 (fun h => h)) 2
              have hbRd : ∀ w', Upd Nil w5.drew w' → w'.cell? ⟨bR, 0, none⟩ = some (.int .i64 nn) := fun w' u => blk_cell (u.blk hbR5 (fun h => h)) 0
              have hWd : Upd Nil w3 w5.drew := hW5.drew
              clear k1 k2 hb4 b0 hU4 hU5
              go_wp2_with fail
              refine wp_region_lex Nil [0, 1, 2, 3, 4, 5, 6, 7, 8, 9, 10, 11, 12, 13, 14, 15, 16, 17, 18, 20, 21, 22, 23, 24, 19, 25, 26, 27, 28, 29, 30, 31, 33, 34, 35, 32, 36, 37, 38, 39, 40, 42, 43, 44, 45, 46, 41, 47, 48] (by kernel_rfl) (by kernel_rfl) rfl (by kernel_rfl) ?_
              simp only [inOrder, List.filterMap_cons, List.filterMap_nil, List.getElem?_cons_zero, List.getElem?_cons_succ]
              try simp only [Act.put, List.setIfInBounds_toArray, List.set_cons_zero, List.set_cons_succ]
              repeat
                first
                | (refine lex_pure (v := ?_) rfl rfl ?_ ?_
                   rotate_left
                   · intro w' hU'
                     go_simp
                     try with_reducible rfl
                   try simp only [Act.put, List.setIfInBounds_toArray, List.set_cons_zero, List.set_cons_succ])
                | (refine lex_skip rfl ?_
                   try simp only [Act.put, List.setIfInBounds_toArray, List.set_cons_zero, List.set_cons_succ])
              refine lex_fn (f := 20) (args := _) rfl rfl (by go_simp) ((k3 _ hWd).mono ?_)
              rintro e w' ⟨rfl, rfl⟩
              refine ⟨_, rfl, Upd.refl _ _, ?_⟩
              try simp only [Act.put, List.setIfInBounds_toArray, List.set_cons_zero, List.set_cons_succ]
              repeat
                first
                | (refine lex_pure (v := ?_) rfl rfl ?_ ?_
                   rotate_left
                   · intro w' hU'
                     go_simp
                     try with_reducible rfl
                   try simp only [Act.put, List.setIfInBounds_toArray, List.set_cons_zero, List.set_cons_succ])
                | (refine lex_skip rfl ?_
                   try simp only [Act.put, List.setIfInBounds_toArray, List.set_cons_zero, List.set_cons_succ])
              refine lex_fn (f := 27) (args := _) rfl rfl (by go_simp) ((k4 _ hWd).mono ?_)
              rintro e w6 ⟨rfl, hU6⟩
              refine ⟨_, rfl, hU6, ?_⟩
              replace y0 := fun w' (u : Upd Nil w6 w') => y0 w' (hU6.tr u)
              replace y1 := fun w' (u : Upd Nil w6 w') => y1 w' (hU6.tr u)
              replace y2 := fun w' (u : Upd Nil w6 w') => y2 w' (hU6.tr u)
              replace y3 := fun w' (u : Upd Nil w6 w') => y3 w' (hU6.tr u)
              replace hbRc := fun w' (u : Upd Nil w6 w') => hbRc w' (hU6.tr u)
              replace hbRd := fun w' (u : Upd Nil w6 w') => hbRd w' (hU6.tr u)
              have hW6 := hWd.tr hU6
              try simp only [Act.put, List.setIfInBounds_toArray, List.set_cons_zero, List.set_cons_succ]
              repeat
                first
                | (refine lex_pure (v := ?_) rfl rfl ?_ ?_
                   rotate_left
                   · intro w' hU'
                     go_simp
                     try with_reducible rfl
                   try simp only [Act.put, List.setIfInBounds_toArray, List.set_cons_zero, List.set_cons_succ])
                | (refine lex_skip rfl ?_
                   try simp only [Act.put, List.setIfInBounds_toArray, List.set_cons_zero, List.set_cons_succ])
              refine lex_fn (f := 21) (args := _) rfl rfl (by go_simp) ((k5 _ hW6).mono ?_)
              rintro e w' ⟨rfl, rfl⟩
              refine ⟨_, rfl, Upd.refl _ _, ?_⟩
              try simp only [Act.put, List.setIfInBounds_toArray, List.set_cons_zero, List.set_cons_succ]
              repeat
                first
                | (refine lex_pure (v := ?_) rfl rfl ?_ ?_
                   rotate_left
                   · intro w' hU'
                     go_simp
                     try with_reducible rfl
                   try simp only [Act.put, List.setIfInBounds_toArray, List.set_cons_zero, List.set_cons_succ])
                | (refine lex_skip rfl ?_
                   try simp only [Act.put, List.setIfInBounds_toArray, List.set_cons_zero, List.set_cons_succ])
              refine lex_fn (f := 28) (args := _) rfl rfl (by go_simp) ((k6 _ hW6).mono ?_)
              rintro e w7 ⟨rfl, hU7⟩
              refine ⟨_, rfl, hU7, ?_⟩
              replace y0 := fun w' (u : Upd Nil w7 w') => y0 w' (hU7.tr u)
              replace y1 := fun w' (u : Upd Nil w7 w') => y1 w' (hU7.tr u)
              replace y2 := fun w' (u : Upd Nil w7 w') => y2 w' (hU7.tr u)
              replace y3 := fun w' (u : Upd Nil w7 w') => y3 w' (hU7.tr u)
              replace hbRc := fun w' (u : Upd Nil w7 w') => hbRc w' (hU7.tr u)
              replace hbRd := fun w' (u : Upd Nil w7 w') => hbRd w' (hU7.tr u)
              have hW7 := hW6.tr hU7
              try simp only [Act.put, List.setIfInBounds_toArray, List.set_cons_zero, List.set_cons_succ]
              repeat
                first
                | (refine lex_pure (v := ?_) rfl rfl ?_ ?_
                   rotate_left
                   · intro w' hU'
                     go_simp
                     try with_reducible rfl
                   try simp only [Act.put, List.setIfInBounds_toArray, List.set_cons_zero, List.set_cons_succ])
                | (refine lex_skip rfl ?_
                   try simp only [Act.put, List.setIfInBounds_toArray, List.set_cons_zero, List.set_cons_succ])
              refine lex_fn (f := 22) (args := _) rfl rfl (by go_simp) ((k7 _ hW7).mono ?_)
              rintro e w' ⟨rfl, rfl⟩
              refine ⟨_, rfl, Upd.refl _ _, ?_⟩
              try simp only [Act.put, List.setIfInBounds_toArray, List.set_cons_zero, List.set_cons_succ]
              repeat
                first
                | (refine lex_pure (v := ?_) rfl rfl ?_ ?_
                   rotate_left
                   · intro w' hU'
                     go_simp
                     try with_reducible rfl
                   try simp only [Act.put, List.setIfInBounds_toArray, List.set_cons_zero, List.set_cons_succ])
                | (refine lex_skip rfl ?_
                   try simp only [Act.put, List.setIfInBounds_toArray, List.set_cons_zero, List.set_cons_succ])
              refine lex_done ?_
              clear y0 y1 y2 y3 hbRc hbRd k3 k4 k5 k6 k7
              have hT7 := (hTN.upd0 hW7).mono hW7.size (Nat.le_refl _)
              have hV7 := hV3.tr hW7
              go_wp2_with fail
              go_roundw
              case measure => simp [intOf]; omega
              case rel => exact ⟨j + 1, R, nn, by omega, by go_num, hT7, hV7⟩
          · have hc := Lib.hid (show cntG n ai = ai.toNat by unfold cntG; omega)
            go_wp2_with fail
            go_region
            obtain ⟨hT3, hu3⟩ := hcnt.out ((n : Int) + ai) (by rw [hc.out]; omega)
            as_aux_lemma =>
              replace hT3 := hT3.upd0 (Upd.refl Nil (w2.setCell ⟨bR, 0, none⟩ (.int .i64 ((n : Int) + ai)))).drew
              have hV3 : Upd Nil w (w2.setCell ⟨bR, 0, none⟩ (.int .i64 ((n : Int) + ai))).drew := (hV2.trans hu3 (fun x hx => .inr hx.1)).drew
              have hNbR : wr.heap.size ≠ bR := fun e => by
                rw [e] at hb2
                rw [hb2] at hbR0
                injection hbR0 with hbR0
                injection hbR0 with _ hbR0
                exact absurd hbR0 (by decide)
              have hb3 : (w2.setCell ⟨bR, 0, none⟩ (.int .i64 ((n : Int) + ai))).drew.heap[wr.heap.size]? = _ := blk_drew (blk_other hb2 (p := ⟨bR, 0, none⟩) hNbR _)
              have hsz3 : (w2.setCell ⟨bR, 0, none⟩ (.int .i64 ((n : Int) + ai))).drew.heap.size = w2.heap.size := by simp [World.setCell]
              rw [← hsz3] at hT3
              clear hu3 hcnt hc z2 z0 f0 hb2 hbR0 hNbR hsz3 hsz2
              generalize (w2.setCell ⟨bR, 0, none⟩ (.int .i64 ((n : Int) + ai))).drew = w3 at *
              generalize n + cntG n ai = nn at *
              have hTN := hT3
              obtain ⟨F3, hF3⟩ := hT3.tb
              obtain ⟨G3, hG3⟩ := hT3.rtb
              obtain ⟨hpw3, hin3, hn3, hm3⟩ := hT3.ok
              have k1 := at_ F3 b R nn m aq w3 hF3
              have k2 := fun w' (u : Upd Nil w3 w') => rat G3 bR R nn m aq w' (hG3.upd0 u)
              have k3 := fun w' (u : Upd Nil w3 w') => place F3 b R nn m ai ap w' (hF3.upd0 u)
              have k4 := fun w' (u : Upd Nil w3 w') => rplace G3 bR R nn m ai ap w' (hG3.upd0 u)
              have k5 := fun w' (u : Upd Nil w3 w') => worth F3 b R nn m ai w' (hF3.upd0 u)
              have k6 := fun w' (u : Upd Nil w3 w') => rworth G3 bR R nn m ai (Nat.le_trans (len64 hpw3 hin3) (by omega)) w' (hG3.upd0 u)
              have k7 := fun w' (u : Upd Nil w3 w') => count F3 b R nn m w' (hF3.upd0 u)
              obtain ⟨AR, cR, hbR⟩ := hT3.rblk
              have hrl : Hid ((R).length ≤ 64) := Lib.hid (len64 hpw3 hin3)
              unfold AtR at k1
              unfold RAtR at k2
              unfold RPlR at k4
              unfold RWoR at k6
              rw [rAt_eq hin3] at k2
              rw [rPlace_eq hin3] at k4
              rw [rWorth_eq hin3 (by omega)] at k6
              generalize atV R aq = av at *
              obtain ⟨av1, av2, av3⟩ := av
              generalize placeV R nn m ai ap = pv at *
              generalize worthV R nn m ai = wv at *
              generalize (R).length = rl at *
              simp only at k1 k2
              clear hF3 hG3 hpw3 hin3
              have b0 := blk_cell hb3 1
              simp only [acC, List.getElem?_toArray, List.getElem?_cons_zero, List.getElem?_cons_succ] at b0
              go_wp2_with fail
              refine k1.mono ?_
              rintro e w4 ⟨rfl, hU4⟩
              have hb4 := hU4.blk hb3 (fun h => h)
              have b0 := blk_cell hb4 1
              simp only [acC, List.getElem?_toArray, List.getElem?_cons_zero, List.getElem?_cons_succ] at b0
              go_wp2_with fail
              refine (k2 _ hU4).mono ?_
              rintro e w5 ⟨rfl, hU5⟩
              have hb5 := hU5.blk hb4 (fun h => h)
              have hW5 := hU4.tr hU5
              have hbR5 := hW5.blk hbR (fun h => h)
              have y0 : ∀ w', Upd Nil w5.drew w' → w'.cell? ⟨wr.heap.size, 0, none⟩ = some (.int .u8 ak) := fun w' u => blk_cell (u.blk hb5 (fun h => h)) 0
              have y1 : ∀ w', Upd Nil w5.drew w' → w'.cell? ⟨wr.heap.size, 1, none⟩ = some (.int .i64 aq) := fun w' u => blk_cell (u.blk hb5 (fun h => h)) 1
              have y2 : ∀ w', Upd Nil w5.drew w' → w'.cell? ⟨wr.heap.size, 2, none⟩ = some (.int .i64 ai) := fun w' u => blk_cell (u.blk hb5 (fun h => h)) 2
              have y3 : ∀ w', Upd Nil w5.drew w' → w'.cell? ⟨wr.heap.size, 3, none⟩ = some (.int .i64 ap) := fun w' u => blk_cell (u.blk hb5 (fun h => h)) 3
              have hbRc : ∀ w', Upd Nil w5.drew w' → w'.cell? ⟨bR, 2, none⟩ = some (.slice AR rl cR) := fun w' u => blk_cell (u.blk hbR5 (fun h => h)) 2
              have hbRd : ∀ w', Upd Nil w5.drew w' → w'.cell? ⟨bR, 0, none⟩ = some (.int .i64 nn) := fun w' u => blk_cell (u.blk hbR5 (fun h => h)) 0
              have hWd : Upd Nil w3 w5.drew := hW5.drew
              clear k1 k2 hb4 b0 hU4 hU5
              go_wp2_with fail
              refine wp_region_lex Nil [0, 1, 2, 3, 4, 5, 6, 7, 8, 9, 10, 11, 12, 13, 14, 15, 16, 17, 18, 20, 21, 22, 23, 24, 19, 25, 26, 27, 28, 29, 30, 31, 33, 34, 35, 32, 36, 37, 38, 39, 40, 42, 43, 44, 45, 46, 41, 47, 48] (by kernel_rfl) (by kernel_rfl) rfl (by kernel_rfl) ?_
              simp only [inOrder, List.filterMap_cons, List.filterMap_nil, List.getElem?_cons_zero, List.getElem?_cons_succ]
              try simp only [Act.put, List.setIfInBounds_toArray, List.set_cons_zero, List.set_cons_succ]
              repeat
                first
                | (refine lex_pure (v := ?_) rfl rfl ?_ ?_
                   rotate_left
                   · intro w' hU'
                     go_simp
                     try with_reducible rfl
                   try simp only [Act.put, List.setIfInBounds_toArray, List.set_cons_zero, List.set_cons_succ])
                | (refine lex_skip rfl ?_
                   try simp only [Act.put, List.setIfInBounds_toArray, List.set_cons_zero, List.set_cons_succ])
              refine lex_fn (f := 20) (args := _) rfl rfl (by go_simp) ((k3 _ hWd).mono ?_)
              rintro e w' ⟨rfl, rfl⟩
              refine ⟨_, rfl, Upd.refl _ _, ?_⟩
              try simp only [Act.put, List.setIfInBounds_toArray, List.set_cons_zero, List.set_cons_succ]
              repeat
                first
                | (refine lex_pure (v := ?_) rfl rfl ?_ ?_
                   rotate_left
                   · intro w' hU'
                     go_simp
                     try with_reducible rfl
                   try simp only [Act.put, List.setIfInBounds_toArray, List.set_cons_zero, List.set_cons_succ])
                | (refine lex_skip rfl ?_
                   try simp only [Act.put, List.setIfInBounds_toArray, List.set_cons_zero, List.set_cons_succ])
              refine lex_fn (f := 27) (args := _) rfl rfl (by go_simp) ((k4 _ hWd).mono ?_)
              rintro e w6 ⟨rfl, hU6⟩
              refine ⟨_, rfl, hU6, ?_⟩
              replace y0 := fun w' (u : Upd Nil w6 w') => y0 w' (hU6.tr u)
              replace y1 := fun w' (u : Upd Nil w6 w') => y1 w' (hU6.tr u)
              replace y2 := fun w' (u : Upd Nil w6 w') => y2 w' (hU6.tr u)
              replace y3 := fun w' (u : Upd Nil w6 w') => y3 w' (hU6.tr u)
              replace hbRc := fun w' (u : Upd Nil w6 w') => hbRc w' (hU6.tr u)
              replace hbRd := fun w' (u : Upd Nil w6 w') => hbRd w' (hU6.tr u)
              have hW6 := hWd.tr hU6
              try simp only [Act.put, List.setIfInBounds_toArray, List.set_cons_zero, List.set_cons_succ]
              repeat
                first
                | (refine lex_pure (v := ?_) rfl rfl ?_ ?_
                   rotate_left
                   · intro w' hU'
                     go_simp
                     try with_reducible rfl
                   try simp only [Act.put, List.setIfInBounds_toArray, List.set_cons_zero, List.set_cons_succ])
                | (refine lex_skip rfl ?_
                   try simp only [Act.put, List.setIfInBounds_toArray, List.set_cons_zero, List.set_cons_succ])
              refine lex_fn (f := 21) (args := _) rfl rfl (by go_simp) ((k5 _ hW6).mono ?_)
              rintro e w' ⟨rfl, rfl⟩
              refine ⟨_, rfl, Upd.refl _ _, ?_⟩
              try simp only [Act.put, List.setIfInBounds_toArray, List.set_cons_zero, List.set_cons_succ]
              repeat
                first
                | (refine lex_pure (v := ?_) rfl rfl ?_ ?_
                   rotate_left
                   · intro w' hU'
                     go_simp
                     try with_reducible rfl
                   try simp only [Act.put, List.setIfInBounds_toArray, List.set_cons_zero, List.set_cons_succ])
                | (refine lex_skip rfl ?_
                   try simp only [Act.put, List.setIfInBounds_toArray, List.set_cons_zero, List.set_cons_succ])
              refine lex_fn (f := 28) (args := _) rfl rfl (by go_simp) ((k6 _ hW6).mono ?_)
              rintro e w7 ⟨rfl, hU7⟩
              refine ⟨_, rfl, hU7, ?_⟩
              replace y0 := fun w' (u : Upd Nil w7 w') => y0 w' (hU7.tr u)
              replace y1 := fun w' (u : Upd Nil w7 w') => y1 w' (hU7.tr u)
              replace y2 := fun w' (u : Upd Nil w7 w') => y2 w' (hU7.tr u)
              replace y3 := fun w' (u : Upd Nil w7 w') => y3 w' (hU7.tr u)
              replace hbRc := fun w' (u : Upd Nil w7 w') => hbRc w' (hU7.tr u)
              replace hbRd := fun w' (u : Upd Nil w7 w') => hbRd w' (hU7.tr u)
              have hW7 := hW6.tr hU7
              try simp only [Act.put, List.setIfInBounds_toArray, List.set_cons_zero, List.set_cons_succ]
              repeat
                first
                | (refine lex_pure (v := ?_) rfl rfl ?_ ?_
                   rotate_left
                   · intro w' hU'
                     go_simp
                     try with_reducible rfl
                   try simp only [Act.put, List.setIfInBounds_toArray, List.set_cons_zero, List.set_cons_succ])
                | (refine lex_skip rfl ?_
                   try simp only [Act.put, List.setIfInBounds_toArray, List.set_cons_zero, List.set_cons_succ])
              refine lex_fn (f := 22) (args := _) rfl rfl (by go_simp) ((k7 _ hW7).mono ?_)
              rintro e w' ⟨rfl, rfl⟩
              refine ⟨_, rfl, Upd.refl _ _, ?_⟩
              try simp only [Act.put, List.setIfInBounds_toArray, List.set_cons_zero, List.set_cons_succ]
              repeat
                first
                | (refine lex_pure (v := ?_) rfl rfl ?_ ?_
                   rotate_left
                   · intro w' hU'
                     go_simp
                     try with_reducible rfl
                   try simp only [Act.put, List.setIfInBounds_toArray, List.set_cons_zero, List.set_cons_succ])
                | (refine lex_skip rfl ?_
                   try simp only [Act.put, List.setIfInBounds_toArray, List.set_cons_zero, List.set_cons_succ])
              refine lex_done ?_
              clear y0 y1 y2 y3 hbRc hbRd k3 k4 k5 k6 k7
              have hT7 := (hTN.upd0 hW7).mono hW7.size (Nat.le_refl _)
              have hV7 := hV3.tr hW7
              go_wp2_with fail
              go_roundw
              case measure => simp [intOf]; omega
              case rel => exact ⟨j + 1, R, nn, by omega, by go_num, hT7, hV7⟩
    · obtain rfl : j = l.length := by omega
      obtain ⟨F3, hF3⟩ := hT.tb
      obtain ⟨G3, hG3⟩ := hT.rtb
      obtain ⟨_, hin3, _, _⟩ := hT.ok
      have k1 := fun q w' (u : Upd Nil wr w') => at_ F3 b R n m q w' (hF3.upd0 u)
      have k2 := fun q w' (u : Upd Nil wr w') => rat G3 bR R n m q w' (hG3.upd0 u)
      have hae := Lib.hid (fun q => rAt_eq hin3 q)
      clear hF3 hG3 hT hin3
      go_wp2_with fail
      go_loopw [215] (fun s215 wi => ∃ i : Nat, i ≤ 64 ∧ s215 = .int .i64 i ∧ Upd Nil wr wi) (fun s215 _ => 64 - (intOf s215).toNat)
      case atStart => exact ⟨0, by omega, rfl, Upd.refl _ _⟩
      case round =>
        rename World => wi
        obtain ⟨i, hi, rfl, hU⟩ := hrel
        by_cases h64 : i < 64
        · have q1 := k1 i wi hU
          have q2 := fun w' (u : Upd Nil wi w') => k2 i w' (hU.tr u)
          unfold AtR at q1
          unfold RAtR at q2
          rw [hae.out] at q2
          generalize atV R i = av at *
          obtain ⟨av1, av2, av3⟩ := av
          simp only at q1 q2
          clear k1 k2
          go_wp2_with fail
          refine q1.mono ?_
          rintro e w4 ⟨rfl, hU4⟩
          go_wp2_with fail
          refine (q2 _ hU4).mono ?_
          rintro e w5 ⟨rfl, hU5⟩
          go_wp2_with fail
          go_roundw
          case measure => simp [intOf]; omega
          case rel => exact ⟨i + 1, by omega, by go_num, (hU.tr hU4).tr hU5⟩
        · obtain rfl : i = 64 := by omega
          go_wp2_with fail
          go_ret
          exact ⟨rfl, hV.tr hU⟩
end Go.Proofs.Ytcifkccaiekkeaa.Table
