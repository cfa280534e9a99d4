/-
  Whatever was put: a tenant that is forgotten has no keys, all others have theirs, in the order that they had. Conditions: none.
-/
import Derived.Test.YtcifkccaiekkeaaCacheH
namespace Go.Proofs.Ytcifkccaiekkeaa.Cache
open Go.RowKit Go.Proofs.Ytcifkccaiekkeaa.Base Go.Maps Go.Proofs.Ytcifkccaiekkeaa.Ints
set_option linter.unusedVariables false
set_option linter.unusedSimpArgs false
theorem keys_forget (rows : List (Key × ByteArray)) (t : Int) : Keys (forgetT rows t) = (Keys rows).filter (fun k => k.1 != t) := by
  unfold Keys forgetT
  rw [List.filter_map]
  rfl
theorem count_forget (rows : List (Key × ByteArray)) (t : Int) : (rows.filter (fun r => r.1.1 == t)).length = ((Keys rows).filter (fun k => k.1 == t)).length := by
  unfold Keys
  rw [List.filter_map, List.length_map]
  rfl
theorem none_forget (rows : List (Key × ByteArray)) (t : Int) : ((forgetT rows t).filter (fun r => r.1.1 == t)).length = 0 := by
  unfold forgetT
  rw [List.filter_filter, List.length_eq_zero_iff, List.filter_eq_nil_iff]
  intro a _
  simp
set_option maxHeartbeats 2000000 in
set_option maxRecDepth 100000 in
theorem forgets (A : Option Addr) (cA : Nat) (l : List Key) (t : Int) (w : World) (hA : Arg w A 2 kc2 l) (hw : ∀ k ∈ l, Wk k) (hl : l.length ≤ maxLen) :
    Calls Try.prog 6 #[.slice A l.length cA, .int .i64 t] w (RetB true w) := by
  have hlH := Lib.hid hl
  clear hl
  go_enter Try.func6, Try.ntmps6
  go_wp2_with fail
  refine (fixedC w).mono ?_
  rintro e w1 ⟨rfl, u1⟩
  by_cases h200 : 200 < (l.length : Int)
  · go_wp2_with fail
    go_ret
    exact ⟨rfl, u1⟩
  have h201 : l.length ≤ 200 := by omega
  clear h200
  go_wp2_with fail
  refine (Ca.new 1000 (by omega) w1).mono ?_
  rintro e w2 ⟨c, rfl, x2, u2⟩
  have hU2 := u1.tr u2
  have hs2 := u2.size
  go_wp2_with fail
  go_loopw [23] (fun s23 wr => ∃ (i : Nat) (rows : List (Key × ByteArray)), i ≤ l.length ∧ s23 = .int .i64 (i : Int) ∧ Ca (Bt w1.heap.size wr.heap.size) wr c 1000 rows 0 0 ∧ rows.length ≤ 1000 ∧ Upd Nil w1 wr) (fun s23 _ => l.length - (intOf s23).toNat)
  case atStart => exact ⟨0, [], by omega, rfl, x2, by simp, u2⟩
  case round =>
    clear x2 hU2 u2 hs2
    obtain ⟨i, rows, hi, rfl, x, hr, hU⟩ := hrel
    by_cases hlt : i < l.length
    · have hwk := hw _ (List.getElem_mem hlt)
      obtain ⟨gA, oA, rfl, _, y0, y1⟩ := kc2_cell ((hA.upd u1).upd hU) hlt
      have x3 := x.upd0 ((Upd.refl Nil wr).alloc (.cells #[.int .i64 l[i].1, .int .i64 l[i].2] 47))
      have hU3 := hU.alloc (.cells #[.int .i64 l[i].1, .int .i64 l[i].2] 47)
      have hs3 := ((Upd.refl Nil wr).alloc (.cells #[.int .i64 l[i].1, .int .i64 l[i].2] 47)).size
      generalize l[i] = k at *
      go_wp2_with fail
      generalize wr.alloc (.cells #[.int .i64 k.1, .int .i64 k.2] 47) = w3 at *
      have x4 := x3.mono (F' := Bt w1.heap.size w3.heap.size) (fun y hy => ⟨hy.1, by have := hy.2; omega⟩)
      refine (x4.putB hU3.size hr k hwk ⟨#[120]⟩).mono ?_
      rintro e w5 ⟨rfl, x5, u5⟩
      go_wp2_with fail
      go_roundw
      case measure => simp [intOf]; omega
      case rel => exact ⟨i + 1, _, by omega, by go_num, x5, put_len hr k _, hU3.trans u5 (fun y hy => .inr hy.1)⟩
    · obtain rfl : i = l.length := by omega
      clear hi hlt
      obtain ⟨w2b, rfl⟩ : ∃ x, x = wr := ⟨wr, rfl⟩
      have hFl : ∀ y, Bt w1.heap.size w2b.heap.size y → y < w2b.heap.size := fun y hy => hy.2
      generalize hF : Bt w1.heap.size w2b.heap.size = F at *
      have hF1 : ∀ y, F y → w1.heap.size ≤ y := fun y hy => by rw [← hF] at hy; exact hy.1
      clear hF
      go_wp2_with fail
      refine (x.keys (by omega)).mono ?_
      rintro e w3 ⟨v, rfl, hv, u3⟩
      obtain ⟨B, cB, rfl, _⟩ := hv.form
      have x3 := x.upd0 u3
      have hU3 := hU.tr u3
      have hkl : (Keys rows).length ≤ 1000 := by unfold Keys; simp; exact hr
      have hkf := keys_forget rows t
      have hct := count_forget rows t
      have hnf := none_forget rows t
      have hfl : (forgetT rows t).length ≤ 1000 := Nat.le_trans (List.length_filter_le _ _) hr
      generalize Keys rows = ks at *
      have hn : Sl w3 w3.heap.size 47 2 kc2 (.slice none 0 0) ((ks.take 0).filter (fun k => k.1 != t)) := Sl.nil _ _ _ _ _
      have hpk := Lib.hid (And.intro hkf (And.intro hct (And.intro hnf hfl)))
      clear hkf hct hnf hfl
      go_wp2_with fail
      go_loopw [8, 9, 34] (fun s8 s9 s34 w4 => ∃ (i : Nat) (U : Value), i ≤ ks.length ∧ s34 = .int .i64 (i : Int) ∧ s8 = U ∧ s9 = .int .i64 (((ks.take i).filter (fun k => k.1 == t)).length : Int) ∧ Sl w4 w3.heap.size 47 2 kc2 U ((ks.take i).filter (fun k => k.1 != t)) ∧ Upd Nil w3 w4) (fun _ _ s34 _ => ks.length - (intOf s34).toNat)
      case atStart => exact ⟨0, _, by omega, rfl, rfl, rfl, hn, Upd.refl _ _⟩
      case round =>
        clear hn
        obtain ⟨i, U, hi, rfl, rfl, rfl, hV, hU4⟩ := hrel
        have hsz := hU4.size
        by_cases hlt : i < ks.length
        · obtain ⟨gA, oA, rfl, _, y0, y1⟩ := kc2_cell ((hv.upd0 hU4).cells kc2_len (by omega)) hlt
          have htk := List.take_succ_eq_append_getElem hlt
          have hfl1 : ((ks.take i).filter (fun k => k.1 == t)).length ≤ 1000 := by
            refine Nat.le_trans (List.length_filter_le _ _) ?_
            simp
            omega
          have hfl2 : ((ks.take i).filter (fun k => k.1 != t)).length ≤ 1000 := by
            refine Nat.le_trans (List.length_filter_le _ _) ?_
            simp
            omega
          have ua := (Upd.refl Nil wr).alloc (.cells #[.int .i64 ks[i].1, .int .i64 ks[i].2] 47)
          have hx := blk_new wr (.cells #[.int .i64 ks[i].1, .int .i64 ks[i].2] 47)
          have hV2 := hV.upd0 ua
          have hU5 := hU4.tr ua
          generalize hk : ks[i] = k at *
          have hkH := Lib.hid (And.intro hk htk)
          clear hk htk
          by_cases ht : k.1 = t
          · have e1 : (ks.take (i + 1)).filter (fun k => k.1 == t) = (ks.take i).filter (fun k => k.1 == t) ++ [k] := by rw [hkH.out.2, List.filter_append]; simp [ht]
            have e2 : (ks.take (i + 1)).filter (fun k => k.1 != t) = (ks.take i).filter (fun k => k.1 != t) := by rw [hkH.out.2, List.filter_append]; simp [ht]
            have eH := Lib.hid (And.intro e1 e2)
            clear e1 e2
            generalize (ks.take i).filter (fun k => k.1 == t) = l1 at *
            generalize (ks.take i).filter (fun k => k.1 != t) = l2 at *
            have hw1 := wr2 (x := (l1.length : Int) + 1) (by omega)
            go_wp2_with fail
            go_roundw
            case measure => simp [intOf]; omega
            case rel => exact ⟨i + 1, _, by omega, by go_num, rfl, by rw [eH.out.1]; go_num, by rw [eH.out.2, ← ht]; exact hV2, by rw [← ht]; exact hU5⟩
          · have e1 : (ks.take (i + 1)).filter (fun k => k.1 == t) = (ks.take i).filter (fun k => k.1 == t) := by rw [hkH.out.2, List.filter_append]; simp [ht]
            have e2 : (ks.take (i + 1)).filter (fun k => k.1 != t) = (ks.take i).filter (fun k => k.1 != t) ++ [k] := by rw [hkH.out.2, List.filter_append]; simp [ht]
            have eH := Lib.hid (And.intro e1 e2)
            clear e1 e2
            generalize (ks.take i).filter (fun k => k.1 == t) = l1 at *
            generalize (ks.take i).filter (fun k => k.1 != t) = l2 at *
            have hs5 := ua.size
            go_wp2_with (at_builtin; refine wp_app1 w3.heap.size rfl (.tmp 44) (.tmp 46) elemK rfl (wr.alloc (.cells #[.int .i64 k.1, .int .i64 k.2] 47)) k (by rfl) _ l2 rfl (by simp [Act.eval]) hV2 (by omega) (by omega) (by unfold maxLen; omega) ?_; intro A1 c1 w6 hv1 hg1 hat)
            go_roundw
            case measure => simp [intOf]; omega
            case rel => exact ⟨i + 1, _, by omega, by go_num, rfl, by rw [eH.out.1], by rw [eH.out.2]; exact hv1, hU5.grownOwn hV2 (Nat.le_refl _) hg1⟩
        · obtain rfl : i = ks.length := by omega
          rw [List.take_length] at hV ⊢
          obtain ⟨w4, rfl⟩ : ∃ x, x = wr := ⟨wr, rfl⟩
          have x4 := x3.upd0 hU4
          have hFl4 : ∀ y, F y → y < w4.heap.size := fun y hy => by
            have := hFl y hy
            have := u3.size
            omega
          obtain ⟨C, cC, rfl, _⟩ := hV.form
          clear hi hlt
          have hFC : ∀ k, (Value.slice C (ks.filter (fun k => k.1 != t)).length cC).ownBlock = some k → ¬ F k := fun k hk e => by
            have := hFl k e
            have := u3.size
            have := (hV.typed k hk).1
            omega
          obtain ⟨p1, p2, p3, p4⟩ := hpk.out
          have hwl : (ks.filter (fun k => k.1 != t)).length ≤ 1000 := Nat.le_trans (List.length_filter_le _ _) hkl
          have hU4 := hU3.tr hU4
          generalize ks.filter (fun k => k.1 != t) = want at *
          generalize (ks.filter (fun k => k.1 == t)).length = mine at *
          have qf := fun w (x : Ca F w c 1000 rows 0 0) (hF : ∀ y, F y → y < w.heap.size) => x.forget hF (by omega) t
          rw [p2] at qf
          have qf2 := fun w (x : Ca F w c 1000 (forgetT rows t) 0 0) (hF : ∀ y, F y → y < w.heap.size) => x.forget hF (by omega) t
          rw [p3] at qf2
          have qk := fun w (x : Ca F w c 1000 (forgetT rows t) 0 0) => x.keys (by omega)
          rw [p1] at qk
          clear p1 p2 p3 p4 hpk
          go_wp2_with fail
          refine (qf w4 x4 hFl4).mono ?_
          rintro e w5 ⟨rfl, x5, u5⟩
          have hV5 := hV.upd u5 hFC
          have hU5 := hU4.trans u5 (fun y hy => .inr (hF1 y hy))
          go_wp2_with fail
          refine (qk w5 x5).mono ?_
          rintro e w6 ⟨v6, rfl, hG, u6⟩
          obtain ⟨G, cG, rfl, _⟩ := hG.form
          have hV6 := hV5.upd0 u6
          have hU6 := hU5.tr u6
          have x6 := x5.upd0 u6
          have hFl6 : ∀ y, F y → y < w6.heap.size := fun y hy => by
            have := hFl4 y hy
            have := u5.size
            have := u6.size
            omega
          go_wp2_with fail
          go_loopw [14, 66] (fun s14 s66 wr => ∃ i : Nat, i ≤ want.length ∧ s66 = .int .i64 (i : Int) ∧ Upd Nil w6 wr) (fun _ s66 _ => want.length - (intOf s66).toNat)
          case atStart => exact ⟨0, by omega, rfl, Upd.refl _ _⟩
          case round =>
            obtain ⟨i, hi, rfl, hUr⟩ := hrel
            by_cases hlt : i < want.length
            · obtain ⟨gA, oA, hCe, _, y0, y1⟩ := kc2_cell ((hV6.upd0 hUr).cells kc2_len (by omega)) hlt
              obtain ⟨gB, oB, hGe, _, z0, z1⟩ := kc2_cell ((hG.upd0 hUr).cells kc2_len (by omega)) hlt
              generalize want[i] = k at *
              subst hCe hGe
              go_wp2_with fail
              refine wp_region_lexW (Upd Nil) (fun _ => Upd.refl _ _) (fun _ _ _ h k => h.tr k) [(0, true), (1, true), (2, true), (3, true), (4, true), (5, true), (6, true), (7, true), (8, true)] (by kernel_rfl) (by kernel_rfl) rfl (by kernel_rfl) (by kernel_rfl) ?_
              simp only [inOrderW, List.filterMap_cons, List.filterMap_nil, List.getElem?_cons_zero, List.getElem?_cons_succ, Option.map_some]
              try simp only [Act.put, List.setIfInBounds_toArray, List.set_cons_zero, List.set_cons_succ]
              repeat
                first
                | (refine lexW_sure (v := ?_) rfl rfl ?_ ?_
                   rotate_left
                   · go_simp
                     try with_reducible rfl
                   try simp only [Act.put, List.setIfInBounds_toArray, List.set_cons_zero, List.set_cons_succ])
                | (refine lexW_pure (v := ?_) rfl rfl ?_ ?_
                   rotate_left
                   · intro w' hU'
                     go_simp
                     try with_reducible rfl
                   try simp only [Act.put, List.setIfInBounds_toArray, List.set_cons_zero, List.set_cons_succ])
                | (refine lexW_skip rfl ?_
                   try simp only [Act.put, List.setIfInBounds_toArray, List.set_cons_zero, List.set_cons_succ])
              refine lexW_done ?_
              go_wp2_with fail
              go_roundw
              case measure => simp [intOf]; omega
              case rel => exact ⟨i + 1, by omega, by go_num, hUr.drew⟩
            · obtain rfl : i = want.length := by omega
              have x7 := x6.upd0 hUr
              have hFl7 : ∀ y, F y → y < wr.heap.size := fun y hy => by
                have := hFl6 y hy
                have := hUr.size
                omega
              go_wp2_with fail
              refine (qf2 wr x7 hFl7).mono ?_
              rintro e w8 ⟨rfl, x8, u8⟩
              go_wp2_with fail
              go_ret
              exact ⟨rfl, u1.tr ((hU6.tr hUr).trans u8 (fun y hy => .inr (hF1 y hy)))⟩
end Go.Proofs.Ytcifkccaiekkeaa.Cache
