/-
  Levelling: the walk of LevelAfter. Conditions: what the slices hold.
-/
import Derived.Test.YtenhimaclecdpaaLevelK
namespace Go.Proofs.Ytenhimaclecdpaa.Level
open Go.RowKit Go.Proofs.Ytenhimaclecdpaa.Base Go.Proofs.Ytenhimaclecdpaa.Ints
set_option linter.unusedVariables false
set_option linter.unusedSimpArgs false
set_option maxHeartbeats 8000000 in
set_option maxRecDepth 100000 in
theorem lafter (A B C : Option Addr) (cA cB cC : Nat) (a b : List Int) (l : List (Int × Int)) (w : World) (hA : Arg w A 1 ic a) (hB : Arg w B 1 ic b) (hC : Arg w C 2 tiC l) : Calls Try.prog 5 #[.slice A a.length cA, .slice B b.length cB, .slice C l.length cC] w (RetB true w) := by
  have kf := fun w => few_lit w A B cA cB a.length b.length
  go_enter Try.func5, Try.ntmps5
  go_wp2_with fail
  refine (fixed _).mono ?_
  rintro e w1 ⟨rfl, hU1⟩
  go_wp2_with fail
  refine (kf _).mono ?_
  rintro e w' ⟨rfl, rfl⟩
  have hU2 := hU1.alloc (.cells #[.slice A a.length cA, .slice B b.length cB] 22)
  by_cases hf : fewB a.length b.length = true
  · have hab : a.length ≤ 30 ∧ b.length ≤ 30 := by unfold fewB at hf; simpa using hf
    obtain ⟨ha, hb⟩ := hab
    rw [hf]
    generalize w1.alloc (.cells #[.slice A a.length cA, .slice B b.length cB] 22) = w2 at *
    clear hf kf hU1
    by_cases hl : l.length ≤ 30
    · have hl2 : ¬ (30 : Int) < (l.length : Int) := by omega
      have kA := fun w' (u : Upd Nil w w') => afterC A B C cA cB cC a b l w' (hA.upd u) (hB.upd u) (hC.upd u) (by omega) (by omega) (by omega)
      obtain ⟨r, hr0⟩ : ∃ r, after a b l = r := ⟨_, rfl⟩
      rw [hr0] at kA
      have hr := Lib.hid (show after a b (l.drop 0) = r from hr0)
      clear hr0
      have hz1 := Sl.zero w2 w2.heap.size 3 1 ic #[] (Nat.le_refl _)
      have hsA := Src.ofArg (P := Try.prog) (tx := 22) ⟨_, elemI.ht⟩ ic_len ic_one (hA.upd (hU2.alloc (.cells #[] 3))) cA
      go_wp2_with (at_builtin; first
        | (refine wp_app w2.heap.size rfl (.tmp 29) (.tmp 30) elemI rfl _ [] a _ rfl rfl hsA hz1 (by simp) (by simp; omega) (by simp; unfold maxLen; omega) ?_; intro A1 c1 w3 hv1 hg1 hat; rw [List.nil_append] at hv1; simp only [List.length_nil, Nat.zero_add] at hv1; simp only [List.length_nil, Nat.zero_add]; have u23 := ((Upd.refl Nil w2).alloc (.cells #[] 3)).grownOwn hz1 (Nat.le_refl _) hg1; have hU3 := hU2.tr u23; have hz2 := Sl.zero w3 w3.heap.size 3 1 ic #[] (Nat.le_refl _); have hsB := Src.ofArg (P := Try.prog) (tx := 22) ⟨_, elemI.ht⟩ ic_len ic_one (hB.upd (hU3.alloc (.cells #[] 3))) cB)
        | (refine wp_app w3.heap.size rfl (.tmp 32) (.tmp 33) elemI rfl _ [] b _ rfl rfl hsB hz2 (by simp) (by simp; omega) (by simp; unfold maxLen; omega) ?_; intro A2 c2 w4 hv2 hg2 hat2; rw [List.nil_append] at hv2; simp only [List.length_nil, Nat.zero_add] at hv2; simp only [List.length_nil, Nat.zero_add]; have u34 := ((Upd.refl Nil w3).alloc (.cells #[] 3)).grownOwn hz2 (Nat.le_refl _) hg2))
      have hU := hU3.tr u34
      have hs1 := hU2.size
      have hs2 := u23.size
      have hs3 := u34.size
      have hx0 := pair_nil (F := Bt w2.heap.size w3.heap.size) ((hv1.upd0 u34).lower (Nat.zero_le _)) (fun k hk => ⟨(hv1.typed k hk).1, hv1.lt k hk⟩)
      have hy0 := pair_nil (F := Bt w3.heap.size w4.heap.size) (hv2.lower (Nat.zero_le _)) (fun k hk => ⟨(hv2.typed k hk).1, hv2.lt k hk⟩)
      have hFG : ∀ z, Bt w2.heap.size w3.heap.size z → ¬ Bt w3.heap.size w4.heap.size z := fun z h1 h2 => by unfold Bt at *; omega
      have hFx : ∀ z, Bt w2.heap.size w3.heap.size z → w.heap.size ≤ z ∧ z < w4.heap.size := fun z h1 => by unfold Bt at *; omega
      have hFy : ∀ z, Bt w3.heap.size w4.heap.size z → w.heap.size ≤ z ∧ z < w4.heap.size := fun z h1 => by unfold Bt at *; omega
      clear hv1 hv2 hz1 hz2 hsA hsB hU2 hU3 u23 u34 hg1 hg2 hat hat2 hs1 hs2 hs3
      generalize Bt w2.heap.size w3.heap.size = Fx at *
      generalize Bt w3.heap.size w4.heap.size = Fy at *
      go_loopw [9, 37] (fun s9 s37 wr => ∃ (j : Nat) (x y : List Int), j ≤ l.length ∧ s37 = .int .i64 j ∧ s9 = .bool true ∧ Pair Fx wr x [] (.slice A1 a.length c1) (.slice none 0 0) ∧ Pair Fy wr y [] (.slice A2 b.length c2) (.slice none 0 0) ∧ Upd Nil w wr ∧ w4.heap.size ≤ wr.heap.size ∧ Hid (x.length = a.length) ∧ Hid (y.length = b.length) ∧ Hid (after x y (l.drop j) = r)) (fun _ s37 _ => l.length - (intOf s37).toNat)
      case atStart => exact ⟨0, a, b, by omega, rfl, rfl, hx0, hy0, hU, Nat.le_refl _, Lib.hid rfl, Lib.hid rfl, hr⟩
      case round =>
        clear hx0 hy0 hU hr
        obtain ⟨j, x, y, hj, rfl, rfl, hx, hy, hU, hsz, hlx, hly, hr⟩ := hrel
        by_cases hlt : j < l.length
        · skip
          obtain ⟨g0, o0, hC0, e0, e1⟩ := ti_cell (hC.upd hU) hlt
          subst hC0
          have had := after_drop (x := x) (y := y) hlt
          generalize l[j].1 = i at *
          generalize l[j].2 = k at *
          by_cases h1 : i < 0
          · rw [if_pos (.inl h1), hr.out] at had
            subst had
            have k5 := kA _ (hU.alloc (.cells #[.int .i64 i, .int .i64 k] 33))
            go_wp2_with fail
            refine k5.mono ?_
            rintro e w6 ⟨X5, Y5, x5, y5, rfl, hX5, hY5, hU5, hr5⟩
            obtain ⟨rfl, rfl⟩ : x5 = [] ∧ y5 = [] := hr5.elim (fun h => by cases h) (fun h => h.2)
            obtain ⟨AX5, cX5, rfl, -⟩ := hX5.form
            obtain ⟨AY5, cY5, rfl, -⟩ := hY5.form
            clear hr5
            go_wp2_with fail
            go_ret
            exact ⟨rfl, (hU.alloc _).tr hU5⟩
          by_cases h2 : (a.length : Int) ≤ i
          · rw [if_pos (.inr (.inl (by rw [hlx.out]; exact h2))), hr.out] at had
            subst had
            have k5 := kA _ (hU.alloc (.cells #[.int .i64 i, .int .i64 k] 33))
            go_wp2_with fail
            refine k5.mono ?_
            rintro e w6 ⟨X5, Y5, x5, y5, rfl, hX5, hY5, hU5, hr5⟩
            obtain ⟨rfl, rfl⟩ : x5 = [] ∧ y5 = [] := hr5.elim (fun h => by cases h) (fun h => h.2)
            obtain ⟨AX5, cX5, rfl, -⟩ := hX5.form
            obtain ⟨AY5, cY5, rfl, -⟩ := hY5.form
            clear hr5
            go_wp2_with fail
            go_ret
            exact ⟨rfl, (hU.alloc _).tr hU5⟩
          by_cases h3 : k < 0
          · rw [if_pos (.inr (.inr (.inl h3))), hr.out] at had
            subst had
            have k5 := kA _ (hU.alloc (.cells #[.int .i64 i, .int .i64 k] 33))
            go_wp2_with fail
            refine k5.mono ?_
            rintro e w6 ⟨X5, Y5, x5, y5, rfl, hX5, hY5, hU5, hr5⟩
            obtain ⟨rfl, rfl⟩ : x5 = [] ∧ y5 = [] := hr5.elim (fun h => by cases h) (fun h => h.2)
            obtain ⟨AX5, cX5, rfl, -⟩ := hX5.form
            obtain ⟨AY5, cY5, rfl, -⟩ := hY5.form
            clear hr5
            go_wp2_with fail
            go_ret
            exact ⟨rfl, (hU.alloc _).tr hU5⟩
          by_cases h4 : (b.length : Int) ≤ k
          · rw [if_pos (.inr (.inr (.inr (by rw [hly.out]; exact h4)))), hr.out] at had
            subst had
            have k5 := kA _ (hU.alloc (.cells #[.int .i64 i, .int .i64 k] 33))
            go_wp2_with fail
            refine k5.mono ?_
            rintro e w6 ⟨X5, Y5, x5, y5, rfl, hX5, hY5, hU5, hr5⟩
            obtain ⟨rfl, rfl⟩ : x5 = [] ∧ y5 = [] := hr5.elim (fun h => by cases h) (fun h => h.2)
            obtain ⟨AX5, cX5, rfl, -⟩ := hX5.form
            obtain ⟨AY5, cY5, rfl, -⟩ := hY5.form
            clear hr5
            go_wp2_with fail
            go_ret
            exact ⟨rfl, (hU.alloc _).tr hU5⟩
          rw [if_neg (by rw [hlx.out, hly.out]; omega), hr.out] at had
          obtain ⟨i, rfl⟩ := Int.eq_ofNat_of_zero_le (Int.not_lt.1 h1)
          obtain ⟨k, rfl⟩ := Int.eq_ofNat_of_zero_le (Int.not_lt.1 h3)
          rw [Int.toNat_natCast, Int.toNat_natCast] at had
          have hi : i < x.length := by have := hlx.out; omega
          have hk : k < y.length := by have := hly.out; omega
          have hps := Lib.hid had.symm
          clear had hr
          have hbt := blk_new wr (.cells #[.int .i64 i, .int .i64 k] 33)
          have hxW := hx.upd0 ((Upd.refl Nil wr).alloc (.cells #[.int .i64 i, .int .i64 k] 33))
          have hyW := hy.upd0 ((Upd.refl Nil wr).alloc (.cells #[.int .i64 i, .int .i64 k] 33))
          have hUW := hU.alloc (.cells #[.int .i64 i, .int .i64 k] 33)
          have hnx : ∀ z, Fx z → z < wr.heap.size := fun z h => Nat.lt_of_lt_of_le (hFx z h).2 hsz
          have hny : ∀ z, Fy z → z < wr.heap.size := fun z h => Nat.lt_of_lt_of_le (hFy z h).2 hsz
          have hszW : w4.heap.size ≤ (wr.alloc (.cells #[.int .i64 i, .int .i64 k] 33)).heap.size := by simp; omega
          obtain ⟨gx, ox, hA1, -, c0⟩ := ic_cell (hxW.sx.cells ic_len (by omega)) hi
          obtain ⟨gy, oy, hA2, lty, c1⟩ := ic_cell (hyW.sx.cells ic_len (by omega)) hk
          subst hA1 hA2
          rw [gD hi, gD hk] at hps
          go_wp2_with fail
          generalize wr.alloc (.cells #[.int .i64 i, .int .i64 k] 33) = W at *
          generalize wr.heap.size = nb at *
          clear hx hy hU hsz
          generalize x[i] = vi at *
          generalize y[k] = vk at *
          have hl1 := Lib.hid (show (x.set i vk).length = x.length by simp)
          have hl2 := Lib.hid (show (y.set k vi).length = y.length by simp)
          have fy0 := (hyW.setX hk vi).2.2.2
          obtain ⟨hx5, u5, F5, fz5⟩ := hxW.setX hi vk
          have hy5 := hyW.upd u5 (fun z e h2 => hFG _ F5 (by have e : z = gx := e; subst e; exact h2))
          obtain ⟨hy6, u6, G6, fz6⟩ := hy5.setX hk vi
          have c5 := (u5.cell (p := ⟨gy, oy + k, none⟩) lty (fun e => hFG _ F5 (by have e : gy = gx := e; rw [← e]; exact G6))).trans c1
          have hx6 := (hx5.upd u6 (fun z e h2 => hFG _ h2 (by have e : z = gy := e; subst e; exact G6))).upd0 (Upd.refl Nil _).drew
          have hy6 := hy6.upd0 (Upd.refl Nil _).drew
          have hU6 := ((hUW.setOwn (g := gx) (i := ox + i) (.inr (hFx _ F5).1) (.int .i64 vk)).setOwn (g := gy) (i := oy + k) (.inr (hFy _ G6).1) (.int .i64 vi)).drew
          have hsz6 : ((W.setCell ⟨gx, ox + i, none⟩ (.int .i64 vk)).setCell ⟨gy, oy + k, none⟩ (.int .i64 vi)).drew.heap.size = W.heap.size := by simp [World.setCell]
          rw [← hsz6] at hszW
          have t0 : ∀ w', Upd (fun z => z = gx ∨ z = gy) W.drew w' → w'.cell? ⟨nb, 0, none⟩ = some (.int .i64 i) := fun w' u => blk_cell (u.blk (blk_drew hbt) (fun e => e.elim (fun e => by have := hnx _ F5; omega) (fun e => by have := hny _ G6; omega))) 0
          have t1 : ∀ w', Upd (fun z => z = gx ∨ z = gy) W.drew w' → w'.cell? ⟨nb, 1, none⟩ = some (.int .i64 k) := fun w' u => blk_cell (u.blk (blk_drew hbt) (fun e => e.elim (fun e => by have := hnx _ F5; omega) (fun e => by have := hny _ G6; omega))) 1
          have t0'' : W.cell? ⟨nb, 0, none⟩ = _ := t0 W.drew (Upd.refl _ _)
          have t1'' : W.cell? ⟨nb, 1, none⟩ = _ := t1 W.drew (Upd.refl _ _)
          have hs1' : ∀ v, Upd (fun z => z = gx ∨ z = gy) W.drew (W.setCell ⟨gx, ox + i, none⟩ v).drew := fun v => Upd.ofDrew ((Upd.refl _ W).set (p := ⟨gx, ox + i, none⟩) (.inl (.inl rfl)) v).drew
          have hs2' : ∀ v, Upd (fun z => z = gx ∨ z = gy) (W.setCell ⟨gx, ox + i, none⟩ (.int .i64 vk)).drew ((W.setCell ⟨gx, ox + i, none⟩ (.int .i64 vk)).setCell ⟨gy, oy + k, none⟩ v).drew := fun v => Upd.ofDrew ((Upd.refl _ _).set (p := ⟨gy, oy + k, none⟩) (.inl (.inr rfl)) v).drew
          clear hxW hyW hUW hx5 hy5 u5 u6 hsz6 hnx hny F5 G6
          refine wp_region_lexW (Upd (fun z => z = gx ∨ z = gy)) (fun _ => Upd.refl _ _) (fun _ _ _ h k => h.tr k) [(0, true), (1, true), (2, true), (3, false), (4, false), (5, false), (6, true), (7, true), (8, true), (9, true), (10, true), (11, false), (12, false), (13, false), (14, false), (15, true), (16, true), (17, false), (18, false), (19, false)] (by kernel_rfl) (by kernel_rfl) rfl (by kernel_rfl) (by kernel_rfl) ?_
          simp only [inOrderW, List.filterMap_cons, List.filterMap_nil, List.getElem?_cons_zero, List.getElem?_cons_succ, Option.map_some]
          try simp only [Act.put, List.setIfInBounds_toArray, List.set_cons_zero, List.set_cons_succ]
          repeat
            first
            | (refine lexW_sure (v := ?_) rfl rfl ?_ ?_
               rotate_left
               · go_simp
                 try with_reducible rfl
               try simp only [Act.put, List.setIfInBounds_toArray, List.set_cons_zero, List.set_cons_succ])
            | (refine lexW_pure (v := ?_) rfl rfl ?_ ?_
               rotate_left
               · intro w' hU'
                 go_simp
                 try with_reducible rfl
               try simp only [Act.put, List.setIfInBounds_toArray, List.set_cons_zero, List.set_cons_succ])
            | (refine lexW_skip rfl ?_
               try simp only [Act.put, List.setIfInBounds_toArray, List.set_cons_zero, List.set_cons_succ])
          refine lexW_store (w' := (W.setCell ⟨gx, ox + i, none⟩ (.int .i64 vk)).drew) rfl rfl (by go_simp) (hs1' _) ?_
          try simp only [Act.put, List.setIfInBounds_toArray, List.set_cons_zero, List.set_cons_succ]
          repeat
            first
            | (refine lexW_sure (v := ?_) rfl rfl ?_ ?_
               rotate_left
               · go_simp
                 try with_reducible rfl
               try simp only [Act.put, List.setIfInBounds_toArray, List.set_cons_zero, List.set_cons_succ])
            | (refine lexW_pure (v := ?_) rfl rfl ?_ ?_
               rotate_left
               · intro w' hU'
                 go_simp
                 try with_reducible rfl
               try simp only [Act.put, List.setIfInBounds_toArray, List.set_cons_zero, List.set_cons_succ])
            | (refine lexW_skip rfl ?_
               try simp only [Act.put, List.setIfInBounds_toArray, List.set_cons_zero, List.set_cons_succ])
          refine lexW_store (w' := ((W.setCell ⟨gx, ox + i, none⟩ (.int .i64 vk)).setCell ⟨gy, oy + k, none⟩ (.int .i64 vi)).drew) rfl rfl (by go_simp) (hs2' _) ?_
          refine lexW_done ?_
          clear hs1' hs2' t0 t1 t0'' t1'' c0 c1 c5 fz5 fz6 fy0
          generalize ((W.setCell ⟨gx, ox + i, none⟩ (.int .i64 vk)).setCell ⟨gy, oy + k, none⟩ (.int .i64 vi)).drew = W6 at *
          go_wp2_with fail
          go_roundw
          case measure => simp [intOf]; omega
          case rel => exact ⟨j + 1, _, _, by omega, by go_num, rfl, hx6, hy6, hU6, hszW, Lib.hid (hl1.out.trans hlx.out), Lib.hid (hl2.out.trans hly.out), hps⟩
        · obtain rfl : j = l.length := by omega
          rw [List.drop_length] at hr
          have hd := hr.out
          simp only [after] at hd
          subst hd
          have k5 := kA _ hU
          go_wp2_with fail
          refine k5.mono ?_
          rintro e w6 ⟨X5, Y5, x5, y5, rfl, hX5, hY5, hU5, hr5⟩
          obtain ⟨rfl, rfl⟩ : x = x5 ∧ y = y5 := hr5.elim (fun h => by injection h with h; injection h with h1 h2; exact ⟨h1, h2⟩) (fun h => by cases h.1)
          obtain ⟨AX5, cX5, rfl, -⟩ := hX5.form
          obtain ⟨AY5, cY5, rfl, -⟩ := hY5.form
          have hp := (hx.sx.upd0 hU5).cells ic_len (by omega)
          have hq := (hy.sx.upd0 hU5).cells ic_len (by omega)
          have hX := hX5.cells ic_len (by omega)
          have hY := hY5.cells ic_len (by omega)
          have hUe := hU.tr hU5
          rw [hlx.out, hly.out]
          have hlx := hlx.out
          have hly := hly.out
          have hnx : a.length = x.length := hlx.symm
          have hny : b.length = y.length := hly.symm
          rw [hnx, hny]
          clear hr5 k5 kA hx hy hU hU5 hr hFG hFx hFy hX5 hY5 hA hB hC hlx hly hsz
          have hxb : x.length ≤ 30 := by omega
          have hyb : y.length ≤ 30 := by omega
          clear hnx hny
          go_wp2_with fail
          go_loopw [104] (fun s wc => ∃ j : Nat, j ≤ x.length ∧ s = .int .i64 j ∧ Upd Nil w6 wc) (fun s _ => x.length - (intOf s).toNat)
          case atStart => exact ⟨0, by omega, rfl, Upd.refl _ _⟩
          case round =>
            rename World => wc
            obtain ⟨j, hj, rfl, hUc⟩ := hrel
            by_cases hlt : j < x.length
            · obtain ⟨g1, o1, hE1, -, p0⟩ := ic_cell ((hX).upd hUc) (i := j) (by omega)
              obtain ⟨g2, o2, hE2, -, q0⟩ := ic_cell ((hp).upd hUc) (i := j) (by omega)
              subst hE1 hE2
              have hj0 : decide ((x.length : Int) ≤ (j : Int)) = false := by simp; omega
              have hj2 : decide (x.length ≤ j) = false := by simp; omega
              have hj1 : (j : Int) < (x.length : Int) := by omega
              generalize (x)[j] = v at *
              go_wp2_with fail
              refine wp_region_lexW (Upd Nil) (fun _ => Upd.refl _ _) (fun _ _ _ h k => h.tr k) [(0, true), (1, true), (2, true), (3, true), (4, true), (5, true), (6, true), (7, true), (8, true), (9, true), (10, true), (11, true), (12, true), (13, true), (14, true)] (by kernel_rfl) (by kernel_rfl) rfl (by kernel_rfl) (by kernel_rfl) ?_
              simp only [inOrderW, List.filterMap_cons, List.filterMap_nil, List.getElem?_cons_zero, List.getElem?_cons_succ, Option.map_some]
              try simp only [Act.put, List.setIfInBounds_toArray, List.set_cons_zero, List.set_cons_succ]
              repeat
                first
                | (refine lexW_sure (v := ?_) rfl rfl ?_ ?_
                   rotate_left
                   · go_simp
                     try with_reducible rfl
                   try simp only [Act.put, List.setIfInBounds_toArray, List.set_cons_zero, List.set_cons_succ])
                | (refine lexW_pure (v := ?_) rfl rfl ?_ ?_
                   rotate_left
                   · intro w' hU'
                     go_simp
                     try with_reducible rfl
                   try simp only [Act.put, List.setIfInBounds_toArray, List.set_cons_zero, List.set_cons_succ])
                | (refine lexW_skip rfl ?_
                   try simp only [Act.put, List.setIfInBounds_toArray, List.set_cons_zero, List.set_cons_succ])
              refine lexW_done ?_
              go_wp2_with fail
              go_roundw
              case measure => simp [intOf]; omega
              case rel => exact ⟨j + 1, by omega, by go_num, hUc.drew⟩
            · obtain rfl : j = x.length := by omega
              have hUe := hUe.tr hUc
              have hY := hY.upd hUc
              have hq := hq.upd hUc
              clear hX hp
              go_wp2_with fail
              rename World => w6
              go_loopw [125] (fun s wc => ∃ j : Nat, j ≤ y.length ∧ s = .int .i64 j ∧ Upd Nil w6 wc) (fun s _ => y.length - (intOf s).toNat)
              case atStart => exact ⟨0, by omega, rfl, Upd.refl _ _⟩
              case round =>
                rename World => wc
                obtain ⟨j, hj, rfl, hUc⟩ := hrel
                by_cases hlt : j < y.length
                · obtain ⟨g1, o1, hE1, -, p0⟩ := ic_cell ((hY).upd hUc) (i := j) (by omega)
                  obtain ⟨g2, o2, hE2, -, q0⟩ := ic_cell ((hq).upd hUc) (i := j) (by omega)
                  subst hE1 hE2
                  have hj0 : decide ((y.length : Int) ≤ (j : Int)) = false := by simp; omega
                  have hj2 : decide (y.length ≤ j) = false := by simp; omega
                  have hj1 : (j : Int) < (y.length : Int) := by omega
                  generalize (y)[j] = v at *
                  go_wp2_with fail
                  refine wp_region_lexW (Upd Nil) (fun _ => Upd.refl _ _) (fun _ _ _ h k => h.tr k) [(0, true), (1, true), (2, true), (3, true), (4, true), (5, true), (6, true), (7, true), (8, true), (9, true), (10, true), (11, true), (12, true), (13, true), (14, true)] (by kernel_rfl) (by kernel_rfl) rfl (by kernel_rfl) (by kernel_rfl) ?_
                  simp only [inOrderW, List.filterMap_cons, List.filterMap_nil, List.getElem?_cons_zero, List.getElem?_cons_succ, Option.map_some]
                  try simp only [Act.put, List.setIfInBounds_toArray, List.set_cons_zero, List.set_cons_succ]
                  repeat
                    first
                    | (refine lexW_sure (v := ?_) rfl rfl ?_ ?_
                       rotate_left
                       · go_simp
                         try with_reducible rfl
                       try simp only [Act.put, List.setIfInBounds_toArray, List.set_cons_zero, List.set_cons_succ])
                    | (refine lexW_pure (v := ?_) rfl rfl ?_ ?_
                       rotate_left
                       · intro w' hU'
                         go_simp
                         try with_reducible rfl
                       try simp only [Act.put, List.setIfInBounds_toArray, List.set_cons_zero, List.set_cons_succ])
                    | (refine lexW_skip rfl ?_
                       try simp only [Act.put, List.setIfInBounds_toArray, List.set_cons_zero, List.set_cons_succ])
                  refine lexW_done ?_
                  go_wp2_with fail
                  go_roundw
                  case measure => simp [intOf]; omega
                  case rel => exact ⟨j + 1, by omega, by go_num, hUc.drew⟩
                · obtain rfl : j = y.length := by omega
                  go_wp2_with fail
                  go_ret
                  exact ⟨rfl, hUe.tr hUc⟩
    · have hl2 : (30 : Int) < (l.length : Int) := by omega
      go_wp2_with fail
      go_ret
      exact ⟨rfl, hU2⟩
  · have hf : fewB a.length b.length = false := by simpa using hf
    rw [hf]
    go_wp2_with fail
    go_ret
    exact ⟨rfl, hU2⟩
end Go.Proofs.Ytenhimaclecdpaa.Level
