/-
  The clock: the walk of ClockBounds. Conditions: what the slices hold.
-/
import Derived.Test.YtcifkccaiekkeaaClockH
namespace Go.Proofs.Ytcifkccaiekkeaa.Clock
open Go.RowKit Go.Proofs.Ytcifkccaiekkeaa.Base Go.Maps Go.Proofs.Ytcifkccaiekkeaa.Maps Go.Proofs.Ytcifkccaiekkeaa.Ints
set_option linter.unusedVariables false
set_option linter.unusedSimpArgs false
theorem mxL_le {C D B P : Int} {l : List (Int × Int)} (h : Good C D B P l) : mxL (stN C D l l.length).2 ≤ sumA l l.length := by
  unfold mxL
  have hl := stN_len C D l l.length
  have hs := (sum_bd h.k l.length (Nat.le_refl _)).1
  split
  · exact hs
  · exact mxN_le (fun j hj => (stN_ends h.k l.length (Nat.le_refl _) j hj).2) _ (by omega)
theorem sum_one (l : List (Int × Int)) (i : Nat) (hi : i ≤ l.length) : sumA (oneL l l.length) i = sumA l i := by
  induction i with
  | zero => rfl
  | succ i ih =>
    have h2 := oneL_len l l.length (Nat.le_refl _)
    simp only [sumA]
    rw [ih (by omega), gD (by omega), gD (by omega)]
    unfold oneL
    rw [List.getElem_append_left (by simp; omega)]
    simp
theorem good_one {C D B P : Int} {l : List (Int × Int)} (h : Good C D B P l) : Good C D B P (oneL l l.length) := by
  have e : oneL l l.length = l.map (fun o => (o.1, (0 : Int))) := by unfold oneL; simp
  rw [e]
  refine ⟨h.v, fun o ho => ?_, fun o ho => ?_⟩
  · obtain ⟨p, hp, rfl⟩ := List.mem_map.1 ho
    exact h.k p hp
  · obtain ⟨p, hp, rfl⟩ := List.mem_map.1 ho
    exact ⟨Int.le_refl _, by have := h.v.n; show (0 : Int) < _; omega⟩
theorem mxL_one {C D B P : Int} {l : List (Int × Int)} (h : Good C D B P l) (hz : ∀ o ∈ l, o.2 = 0) : mxL (stN C D l l.length).2 = sumA l l.length := by
  apply Int.le_antisymm (mxL_le h)
  have hl := stN_len C D l l.length
  by_cases h0 : l.length = 0
  · unfold mxL
    rw [if_pos (by omega), h0]
    simp [sumA]
  · unfold mxL
    rw [if_neg (by omega)]
    obtain ⟨n, hn⟩ : ∃ n, l.length = n + 1 := ⟨l.length - 1, by omega⟩
    have hg := one_g (C := C) (D := D) h.k hz l.length (Nat.le_refl _)
    have hge := mxN_ge (l := (stN C D l l.length).2) (l.length - 1) (by omega)
    have hlast : (stN C D l l.length).1.g (0, 0) = (stN C D l l.length).2[l.length - 1]'(by omega) := by
      have hln := stN_len C D l n
      have h00 := hz _ (List.getElem_mem (show n < l.length by omega))
      have e : l.getD n (0, 0) = l[n] := gD (by omega)
      have hb := stp_bd (stN_bd (C := C) (D := D) h.k n (by omega)) (h.k _ (List.getElem_mem (show n < l.length by omega))) 0 0
      simp only [hn, stN, e, h00, Int.zero_tdiv, Int.zero_tmod, show toF 0 = 0 from rfl]
      rw [hb.2.2.2.2, List.getElem_append_right (by omega)]
      simp [hln]
    rw [hl]
    omega
set_option maxHeartbeats 8000000 in
set_option maxRecDepth 100000 in
theorem bounds (C D B P : Int) (A : Option Addr) (cA : Nat) (l : List (Int × Int)) (w : World) (hA : Arg w A 2 opC l) : Calls Try.prog 14 #[gC C D B P, .slice A l.length cA] w (RetB true w) := by
  have hb := blk_new w (.cells #[.int .i64 C, .int .i64 D, .int .i64 B, .int .i64 P] 99)
  have hU0 := (Upd.refl Nil w).alloc (.cells #[.int .i64 C, .int .i64 D, .int .i64 B, .int .i64 P] 99)
  have km := fun w (h : Arg w A 2 opC l) hl => mayC C D B P A cA l w h hl
  have ke := fun w (h : Arg w A 2 opC l) hl (hG : Good C D B P l) => ends A cA l hG w h hl
  have kt := fun w (h : Arg w A 2 opC l) hl (hG : Good C D B P l) => total A cA l hG w h hl
  have kt2 := fun w A cA (hG : Good C D B P (oneL l l.length)) (h : Arg w A 2 opC (oneL l l.length)) hl => total A cA (oneL l l.length) hG w h hl
  rw [oneL_len l l.length (Nat.le_refl _)] at kt2
  unfold gC at *
  go_enter Try.func14, Try.ntmps14
  go_wp2_with fail
  refine (fixed _).mono ?_
  rintro e w1 ⟨rfl, hU1⟩
  have hU := hU0.tr hU1
  have hb1 := hU1.blk hb (fun h => h)
  clear hb hU0 hU1
  by_cases hl : l.length ≤ 60
  · have hl2 : ¬ (60 : Int) < (l.length : Int) := by omega
    have y0 := blk_cell hb1 0
    have y1 := blk_cell hb1 1
    have y2 := blk_cell hb1 2
    have y3 := blk_cell hb1 3
    simp only [List.getElem?_toArray, List.getElem?_cons_zero, List.getElem?_cons_succ] at y0 y1 y2 y3
    go_wp2_with fail
    clear y0 y1 y2 y3
    refine (km _ (hA.upd hU) (by omega)).mono ?_
    rintro e w2 ⟨v, rfl, hv, hU2⟩
    have hb2 := hU2.blk hb1 (fun h => h)
    replace hU := hU.tr hU2
    by_cases h0 : v = 0
    · have hG := hv h0
      subst h0
      have hle := mxL_le hG
      have heq := mxL_one (good_one hG) (fun o ho => by
        have e : oneL l l.length = l.map (fun o => (o.1, (0 : Int))) := by unfold oneL; simp
        rw [e] at ho
        obtain ⟨p, hp, rfl⟩ := List.mem_map.1 ho
        rfl)
      rw [oneL_len l l.length (Nat.le_refl _), sum_one l l.length (Nat.le_refl _)] at heq
      have k3 := ke w2 (hA.upd hU) (by omega) hG
      have k4 := fun w' (u : Upd Nil w2 w') => kt w' (hA.upd (hU.tr u)) (by omega) hG
      have k5 := fun w' A' cA' h => kt2 w' A' cA' (good_one hG) h (by omega)
      have hen := Lib.hid (stN_ends (C := C) (D := D) hG.k l.length (Nat.le_refl _))
      have hrl := stN_len C D l l.length
      generalize mxL (stN C D l l.length).2 = mt at *
      generalize mxL (stN C D (oneL l l.length) l.length).2 = mo at *
      generalize (stN C D l l.length).2 = r at *
      clear hv hb1 hU2 km ke kt kt2
      have y0 := blk_cell hb2 0
      have y1 := blk_cell hb2 1
      have y2 := blk_cell hb2 2
      have y3 := blk_cell hb2 3
      simp only [List.getElem?_toArray, List.getElem?_cons_zero, List.getElem?_cons_succ] at y0 y1 y2 y3
      go_wp2_with fail
      clear y0 y1 y2 y3
      refine k3.mono ?_
      rintro e w3 ⟨V, rfl, hV, hU3⟩
      obtain ⟨A1, c1, rfl, -⟩ := hV.form
      have hr := hV.cells ic_len (by omega)
      have hb3 := hU3.blk hb2 (fun h => h)
      rw [hrl]
      clear hV
      have y0 := blk_cell hb3 0
      have y1 := blk_cell hb3 1
      have y2 := blk_cell hb3 2
      have y3 := blk_cell hb3 3
      simp only [List.getElem?_toArray, List.getElem?_cons_zero, List.getElem?_cons_succ] at y0 y1 y2 y3
      go_wp2_with fail
      clear y0 y1 y2 y3
      refine (k4 _ hU3).mono ?_
      rintro e w4 ⟨rfl, hU4⟩
      have hb4 := hU4.blk hb3 (fun h => h)
      have hr4 := hr.upd hU4
      have hU5 := (hU.tr hU3).tr hU4
      clear hb2 hb3 hr hU hU3 hU4 k3 k4
      have hrlH := Lib.hid hrl
      have heqH := Lib.hid heq
      have hleH := Lib.hid hle
      clear hrl heq hle
      go_wp2_with fail
      go_loopw [9, 42] (fun s9 s42 wr => ∃ i : Nat, i ≤ l.length ∧ s42 = .int .i64 i ∧ s9 = .int .i64 (sumA l i) ∧ Upd Nil w4 wr) (fun _ s42 _ => l.length - (intOf s42).toNat)
      case atStart => exact ⟨0, by omega, rfl, rfl, Upd.refl _ _⟩
      case round =>
        rename World => wr
        obtain ⟨i, hi, rfl, rfl, hUr⟩ := hrel
        by_cases hlt : i < l.length
        · obtain ⟨g, o, hE, e0, e1⟩ := op_cell ((hA.upd hU5).upd hUr) hlt
          subst hE
          have hir : i < r.length := by have := hrlH.out; omega
          obtain ⟨g2, o2, hE2, hg2, c0⟩ := ic_cell (hr4.upd hUr) hir
          subst hE2
          have hen1 := (hen.out i hir).1
          rw [gD hlt] at hen1
          have hkk := hG.k _ (List.getElem_mem hlt)
          have hab := alone_bd hkk
          have hsb := sum_bd hG.k i hi
          have hst := Lib.hid (show sumA l (i + 1) = sumA l i + alone l[i].1 by simp only [sumA]; rw [gD hlt])
          have hUa := hUr.alloc (.cells #[.int .i64 l[i].1, .int .i64 l[i].2] 108)
          have hop := blk_new wr (.cells #[.int .i64 l[i].1, .int .i64 l[i].2] 108)
          have c1' := ((Upd.refl Nil wr).alloc (.cells #[.int .i64 l[i].1, .int .i64 l[i].2] 108)).cell (p := ⟨g2, o2 + i, none⟩) hg2 (fun h => h) |>.trans c0
          have hg3 := Nat.lt_of_lt_of_le hg2 ((Upd.refl Nil wr).alloc (.cells #[.int .i64 l[i].1, .int .i64 l[i].2] 108)).size
          generalize l[i].1 = k at *
          generalize l[i].2 = b at *
          generalize r[i] = en at *
          have qa := aloneC k hkk
          generalize alone k = al at *
          generalize sumA l i = su at *
          have hj0 : decide ((l.length : Int) ≤ (i : Int)) = false := by simp; omega
          have hj2 : decide (l.length ≤ i) = false := by simp; omega
          have hj3 : decide (en < al) = false := by simp; omega
          have hj4 : (i : Int) < (l.length : Int) := by omega
          go_wp2_with fail
          generalize wr.alloc (.cells #[.int .i64 k, .int .i64 b] 108) = W at *
          generalize wr.heap.size = nb at *
          have x0 := fun w' (u : Upd Nil W.drew w') => blk_cell (u.blk (blk_drew hop) (fun h => h)) 0
          have z0 := fun w' (u : Upd Nil W.drew w') => (u.cell (p := ⟨g2, o2 + i, none⟩) hg3 (fun h => h)).trans c1'
          have x0' := blk_cell hop 0
          simp only [List.getElem?_toArray, List.getElem?_cons_zero, List.getElem?_cons_succ] at x0 x0'
          refine wp_region_lexW (Upd Nil) (fun _ => Upd.refl _ _) (fun _ _ _ h k => h.tr k) [(0, false), (1, false), (2, false), (3, false), (4, true), (5, false), (6, false), (7, false), (8, false), (9, false), (10, true), (11, false), (12, false), (13, false)] (by kernel_rfl) (by kernel_rfl) rfl (by kernel_rfl) (by kernel_rfl) ?_
          simp only [inOrderW, List.filterMap_cons, List.filterMap_nil, List.getElem?_cons_zero, List.getElem?_cons_succ, Option.map_some]
          try simp only [Act.put, List.setIfInBounds_toArray, List.set_cons_zero, List.set_cons_succ]
          repeat
            first
            | (refine lexW_sure (v := ?_) rfl rfl ?_ ?_
               rotate_left
               · go_simp
                 try with_reducible rfl
               try simp only [Act.put, List.setIfInBounds_toArray, List.set_cons_zero, List.set_cons_succ])
            | (refine lexW_pure (v := ?_) rfl rfl ?_ ?_
               rotate_left
               · intro w' hU'
                 go_simp
                 try with_reducible rfl
               try simp only [Act.put, List.setIfInBounds_toArray, List.set_cons_zero, List.set_cons_succ])
            | (refine lexW_skip rfl ?_
               try simp only [Act.put, List.setIfInBounds_toArray, List.set_cons_zero, List.set_cons_succ])
          refine lexW_fn (f := 69) (args := _) rfl rfl (by go_simp) ((qa _).mono ?_)
          rintro e w' ⟨rfl, rfl⟩
          refine ⟨_, rfl, Upd.refl _ _, ?_⟩
          try simp only [Act.put, List.setIfInBounds_toArray, List.set_cons_zero, List.set_cons_succ]
          repeat
            first
            | (refine lexW_sure (v := ?_) rfl rfl ?_ ?_
               rotate_left
               · go_simp
                 try with_reducible rfl
               try simp only [Act.put, List.setIfInBounds_toArray, List.set_cons_zero, List.set_cons_succ])
            | (refine lexW_pure (v := ?_) rfl rfl ?_ ?_
               rotate_left
               · intro w' hU'
                 go_simp
                 try with_reducible rfl
               try simp only [Act.put, List.setIfInBounds_toArray, List.set_cons_zero, List.set_cons_succ])
            | (refine lexW_skip rfl ?_
               try simp only [Act.put, List.setIfInBounds_toArray, List.set_cons_zero, List.set_cons_succ])
          refine lexW_done ?_
          have hop' := blk_drew hop
          have hUd := hUa.drew
          clear x0 z0 x0' hop hUa c1'
          generalize W.drew = W2 at *
          have x0 := blk_cell hop' 0
          simp only [List.getElem?_toArray, List.getElem?_cons_zero] at x0
          go_wp2_with fail
          refine (qa _).mono ?_
          rintro e w' ⟨rfl, rfl⟩
          go_wp2_with fail
          go_roundw
          case measure => simp [intOf]; omega
          case rel => exact ⟨i + 1, by omega, by go_num, by rw [hst.out], hUd⟩
        · obtain rfl : i = l.length := by omega
          have hmk := mkOp l.length (by omega)
          have hs0 := sl_ops wr l.length (by omega)
          have hU6 := hUr.alloc (.cells (List.replicate (l.length * 2) (.int .i64 0)).toArray 108)
          rw [List.toArray_replicate] at hs0 hU6
          have hnbs := hUr.size
          have hnbw := hU5.size
          have heq := heqH.out
          rw [heq] at k5
          have hle := hleH.out
          generalize sumA l l.length = su at *
          clear heq heqH hleH hen hrlH
          go_wp2_with fail
          clear hmk
          generalize wr.alloc (.cells (Array.replicate (l.length * 2) (.int .i64 0)) 108) = w5 at *
          generalize wr.heap.size = nb at *
          go_loopw [72] (fun s72 w7 => ∃ i : Nat, i ≤ l.length ∧ s72 = .int .i64 i ∧ Sl w7 nb 108 2 opC (.slice (some ⟨nb, 0, none⟩) l.length l.length) (oneL l i) ∧ Upd Nil w4 w7) (fun s72 _ => l.length - (intOf s72).toNat)
          case atStart => exact ⟨0, by omega, rfl, by unfold oneL; simpa using hs0, hU6⟩
          case round =>
            rename World => w7
            clear hs0 hU6 hUr
            obtain ⟨i, hi, rfl, hS, hU7⟩ := hrel
            by_cases hlt : i < l.length
            · obtain ⟨g, o, hE, e0, e1⟩ := op_cell ((hA.upd hU5).upd hU7) hlt
              subst hE
              have hSa := hS.alloc (.cells #[.int .i64 l[i].1, .int .i64 l[i].2] 108)
              have hUa := hU7.alloc (.cells #[.int .i64 l[i].1, .int .i64 l[i].2] 108)
              have hst := one_store hSa hlt
              obtain ⟨_, cs, hgb⟩ := hSa.typed nb rfl
              have f0 := blk_frozen hgb (i * 2)
              have f1 := blk_frozen hgb (i * 2 + 1)
              obtain ⟨g', o', hE', z0, z1⟩ := op_cell (hSa.cells opC_len (by omega)) (i := i) (by rw [oneL_len l i (by omega)]; exact hlt)
              injection hE' with hE'
              injection hE' with q1 q2
              subst q1 q2
              rw [Nat.zero_add] at z0 z1
              have hUs := (hUa.setOwn (g := nb) (i := i * 2) (.inr hnbs) (.int .i64 l[i].1)).setOwn (g := nb) (i := i * 2 + 1) (.inr hnbs) (.int .i64 0)
              have hi1 : (i : Int) < (l.length : Int) := by omega
              generalize l[i].1 = k at *
              generalize l[i].2 = b at *
              clear hgb
              go_wp2_with fail
              go_roundw
              case measure => simp [intOf]; omega
              case rel => exact ⟨i + 1, by omega, by go_num, hst, hUs⟩
            · obtain rfl : i = l.length := by omega
              have hb7 := hU7.blk hb4 (fun h => h)
              have k6 := k5 w7 (some ⟨nb, 0, none⟩) l.length (by
                obtain ⟨A', c', e, _⟩ := hS.form
                rw [oneL_len l l.length (Nat.le_refl _)] at e
                have := hS.cells (A := some ⟨nb, 0, none⟩) opC_len (by omega)
                exact this)
              have y0 := blk_cell hb7 0
              have y1 := blk_cell hb7 1
              have y2 := blk_cell hb7 2
              have y3 := blk_cell hb7 3
              simp only [List.getElem?_toArray, List.getElem?_cons_zero, List.getElem?_cons_succ] at y0 y1 y2 y3
              go_wp2_with fail
              clear y0 y1 y2 y3
              refine k6.mono ?_
              rintro e w8 ⟨rfl, hU8⟩
              go_wp2_with fail
              go_ret
              exact ⟨rfl, (hU5.tr hU7).tr hU8⟩
    · have hnb : (v == 0) = false := by simpa using h0
      have hnb2 : (v != 0) = true := by simpa using h0
      have hnb3 : ¬ v = 0 := h0
      clear hv km ke kt kt2
      go_wp2_with fail
      go_ret
      exact ⟨rfl, hU⟩
  · have hl2 : (60 : Int) < (l.length : Int) := by omega
    have hl3 : decide ((60 : Int) < (l.length : Int)) = true := by simp; omega
    have hl4 : decide (60 < l.length) = true := by simp; omega
    clear km ke kt kt2
    go_wp2_with fail
    go_ret
    exact ⟨rfl, hU⟩
end Go.Proofs.Ytcifkccaiekkeaa.Clock
