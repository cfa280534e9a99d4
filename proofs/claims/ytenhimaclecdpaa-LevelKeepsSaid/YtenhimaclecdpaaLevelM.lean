/-
  Levelling: the walks of the law's count, and of LevelKeeps. Conditions: what the slices hold.
-/
import Derived.Test.YtenhimaclecdpaaLevelK
namespace Go.Proofs.Ytenhimaclecdpaa.Level
open Go.RowKit Go.Proofs.Ytenhimaclecdpaa.Base Go.Proofs.Ytenhimaclecdpaa.Ints
set_option linter.unusedVariables false
set_option linter.unusedSimpArgs false
theorem count_take {n : Int} {l : List Int} {i : Nat} (hi : i < l.length) : (l.take (i + 1)).count n = (l.take i).count n + if l[i] = n then 1 else 0 := by
  rw [List.take_succ_eq_append_getElem hi, List.count_append, List.count_singleton]
  simp
theorem count_le (n : Int) (l : List Int) (i : Nat) : (l.take i).count n ≤ l.length := Nat.le_trans List.count_le_length (by simp; omega)
set_option maxHeartbeats 4000000 in
set_option maxRecDepth 100000 in
theorem countC (A B : Option Addr) (cA cB : Nat) (a b : List Int) (n : Int) (g : Nat) (w : World) (hA : Arg w A 1 ic a) (hB : Arg w B 1 ic b) (ha : a.length ≤ 1000) (hb : b.length ≤ 1000) (hg : w.heap[g]? = some (.cells #[.slice A a.length cA, .slice B b.length cB] 22 (0, 0))) :
    Calls Try.prog 18 #[.int .i64 n, .slice (some ⟨g, 0, none⟩) 2 2] w (IntR ((cnt n a b : Nat) : Int) w) := by
  have g0 := blk_cell hg 0
  have g1 := blk_cell hg 1
  simp only [List.getElem?_toArray, List.getElem?_cons_zero, List.getElem?_cons_succ] at g0 g1
  unfold cnt
  go_enter Try.func18, Try.ntmps18
  go_wp2_with fail
  go_loopw [5, 12] (fun s5 s12 wr => ((s12 = .int .i64 0 ∧ s5 = .int .i64 0) ∨ (s12 = .int .i64 1 ∧ s5 = .int .i64 ((a.count n : Nat) : Int)) ∨ (s12 = .int .i64 2 ∧ s5 = .int .i64 ((a.count n + b.count n : Nat) : Int))) ∧ w = wr) (fun _ s12 _ => 2 - (intOf s12).toNat)
  case atStart => exact ⟨.inl ⟨rfl, rfl⟩, rfl⟩
  case round =>
    obtain ⟨h, rfl⟩ := hrel
    rcases h with ⟨rfl, rfl⟩ | ⟨rfl, rfl⟩ | ⟨rfl, rfl⟩
    · skip
      go_wp2_with fail
      go_loopw [5, 18] (fun s5 s18 wr => ∃ i : Nat, i ≤ (a).length ∧ s18 = .int .i64 i ∧ s5 = .int .i64 ((0 + ((a).take i).count n : Nat) : Int) ∧ w = wr) (fun _ s18 _ => (a).length - (intOf s18).toNat)
      case atStart => exact ⟨0, by omega, rfl, by simp, rfl⟩
      case round =>
        obtain ⟨i, hi, rfl, rfl, rfl⟩ := hrel
        by_cases hlt : i < (a).length
        · obtain ⟨g, o, hE, _, c0⟩ := ic_cell hA hlt
          subst hE
          have e1 := Lib.hid (count_take (n := n) hlt)
          have hcl := count_le n a i
          have hcb : a.count n ≤ a.length := List.count_le_length
          generalize ((a).take i).count n = q at *
          by_cases hv : (a)[i] = n
          · rw [if_pos hv] at e1
            rw [hv] at c0
            clear hv
            go_wp2_with fail
            go_roundw
            case measure => simp [intOf]; omega
            case rel => exact ⟨i + 1, by omega, by go_num, by rw [e1.out]; simp <;> omega, trivial⟩
          · rw [if_neg hv] at e1
            have hvb : ((a)[i] == n) = false := by simpa using hv
            generalize (a)[i] = v at *
            clear hv
            go_wp2_with fail
            go_roundw
            case measure => simp [intOf]; omega
            case rel => exact ⟨i + 1, by omega, by go_num, by rw [e1.out]; simp, trivial⟩
        · obtain rfl : i = (a).length := by omega
          rw [List.take_length]
          go_wp2_with fail
          go_roundw
          case measure => simp [intOf]
          case rel => exact ⟨.inr (.inl ⟨rfl, by simp⟩), trivial⟩
    · skip
      go_wp2_with fail
      go_loopw [5, 18] (fun s5 s18 wr => ∃ i : Nat, i ≤ (b).length ∧ s18 = .int .i64 i ∧ s5 = .int .i64 ((a.count n + ((b).take i).count n : Nat) : Int) ∧ w = wr) (fun _ s18 _ => (b).length - (intOf s18).toNat)
      case atStart => exact ⟨0, by omega, rfl, by simp, rfl⟩
      case round =>
        obtain ⟨i, hi, rfl, rfl, rfl⟩ := hrel
        by_cases hlt : i < (b).length
        · obtain ⟨g, o, hE, _, c0⟩ := ic_cell hB hlt
          subst hE
          have e1 := Lib.hid (count_take (n := n) hlt)
          have hcl := count_le n b i
          have hcb : a.count n ≤ a.length := List.count_le_length
          generalize ((b).take i).count n = q at *
          by_cases hv : (b)[i] = n
          · rw [if_pos hv] at e1
            rw [hv] at c0
            clear hv
            go_wp2_with fail
            go_roundw
            case measure => simp [intOf]; omega
            case rel => exact ⟨i + 1, by omega, by go_num, by rw [e1.out]; simp <;> omega, trivial⟩
          · rw [if_neg hv] at e1
            have hvb : ((b)[i] == n) = false := by simpa using hv
            generalize (b)[i] = v at *
            clear hv
            go_wp2_with fail
            go_roundw
            case measure => simp [intOf]; omega
            case rel => exact ⟨i + 1, by omega, by go_num, by rw [e1.out]; simp, trivial⟩
        · obtain rfl : i = (b).length := by omega
          rw [List.take_length]
          go_wp2_with fail
          go_roundw
          case measure => simp [intOf]
          case rel => exact ⟨.inr (.inr ⟨rfl, by simp⟩), trivial⟩
    · go_wp2_with fail
      go_ret
      exact ⟨rfl, rfl⟩
theorem tr_cell {w : World} {A : Option Addr} {l : List (Nat × Nat)} (h : Arg w A 2 trC l) {i : Nat} (hi : i < l.length) : ∃ g o, A = some ⟨g, o, none⟩ ∧ w.cell? ⟨g, o + i * 2, none⟩ = some (.int .i64 l[i].1) ∧ w.cell? ⟨g, o + i * 2 + 1, none⟩ = some (.int .i64 l[i].2) := by
  rcases h with rfl | ⟨g, o, rfl, h2, h3⟩
  · simp at hi
  · exact ⟨g, o, rfl, h3 i hi 0 (by omega), h3 i hi 1 (by omega)⟩
theorem plan_len (limit : Int) : ∀ (f : Nat) (x y : List Int) (s t : List Bool) (out : List (Nat × Nat)), s.length = x.length → (plan limit f x y s t out).1.length ≤ out.length + free s := by
  intro f
  induction f with
  | zero => intro x y s t out _; simp [plan]
  | succ f ih =>
    intro x y s t out hs
    simp only [plan]
    split
    · simp
    · split
      · simp
      · rename_i i k htr
        obtain ⟨h1, _, h3, _⟩ := trade_lt htr
        have h4 := ih (x.set i (y.getD k 0)) (y.set k (x.getD i 0)) (s.set i true) (t.set k true) (out ++ [(i, k)]) (by simpa using hs)
        have h5 := free_set (s := s) (i := i) (by omega) h3
        simp only [List.length_append, List.length_cons, List.length_nil] at h4
        omega
theorem planOf_len (a b : List Int) (limit : Int) : (planOf a b limit).1.length ≤ a.length := by
  unfold planOf
  split
  · simp
  · have := plan_len limit (free (List.replicate a.length false) + 1) (row a) (row b) (List.replicate a.length false) (List.replicate b.length false) [] (by simp [row])
    unfold planF
    rw [free_rep] at this ⊢
    simpa using this
theorem count_lit (w : World) (A B : Option Addr) (cA cB : Nat) (a b : List Int) (n : Int) (hA : Arg w A 1 ic a) (hB : Arg w B 1 ic b) (ha : a.length ≤ 1000) (hb : b.length ≤ 1000) : Calls Try.prog 18 #[.int .i64 n, .slice (some ⟨w.heap.size, 0, none⟩) 2 2] (w.alloc (.cells #[.slice A a.length cA, .slice B b.length cB] 22)) (IntR ((cnt n a b : Nat) : Int) (w.alloc (.cells #[.slice A a.length cA, .slice B b.length cB] 22))) :=
  countC A B cA cB a b n _ _ (hA.upd ((Upd.refl _ _).alloc _)) (hB.upd ((Upd.refl _ _).alloc _)) ha hb (blk_new _ _)
set_option maxHeartbeats 8000000 in
set_option maxRecDepth 100000 in
theorem keeps (A B : Option Addr) (cA cB : Nat) (a b : List Int) (limit : Int) (w : World) (hA : Arg w A 1 ic a) (hB : Arg w B 1 ic b) : Calls Try.prog 4 #[.slice A a.length cA, .slice B b.length cB, .int .i64 limit] w (RetB true w) := by
  have kf := fun w => few_lit w A B cA cB a.length b.length
  go_enter Try.func4, Try.ntmps4
  go_wp2_with fail
  refine (fixed _).mono ?_
  rintro e w1 ⟨rfl, hU1⟩
  go_wp2_with fail
  refine (kf _).mono ?_
  rintro e w' ⟨rfl, rfl⟩
  have hU2 := hU1.alloc (.cells #[.slice A a.length cA, .slice B b.length cB] 22)
  by_cases hf : fewB a.length b.length = true
  · have hab : a.length ≤ 30 ∧ b.length ≤ 30 := by unfold fewB at hf; simpa using hf
    obtain ⟨ha, hb⟩ := hab
    rw [hf]
    generalize w1.alloc (.cells #[.slice A a.length cA, .slice B b.length cB] 22) = w2 at *
    clear hf kf hU1
    obtain ⟨x, y, hK⟩ := planOf_kept a b limit
    have k1 := planC A B cA cB a b limit w2 (hA.upd hU2) (hB.upd hU2) (by omega) (by omega)
    have hpl := planOf_len a b limit
    generalize planOf a b limit = r at *
    obtain ⟨l, ok⟩ := r
    have hll : l.length ≤ 30 := Nat.le_trans hpl ha
    clear hpl
    obtain ⟨ha1, hlx, hly, hcn, hds, hwi⟩ := hK
    have ha1 := Lib.hid ha1
    have hwi := Lib.hid hwi
    have hcn := Lib.hid hcn
    have hds := Lib.hid (List.pairwise_iff_getElem.1 hds)
    go_wp2_with fail
    refine k1.mono ?_
    rintro e w3 ⟨v, rfl, hv, hU3⟩
    obtain ⟨A1, c1, rfl, -⟩ := hv.form
    have hU := hU2.tr hU3
    have hc1 := hv.cells trC_len (by omega)
    simp only at hc1
    have k2 := afterC A B A1 cA cB c1 a b (castL l) w3 (hA.upd hU) (hB.upd hU) (arg_cast hc1) (by omega) (by omega) (by rw [cast_len]; omega)
    rw [cast_len, ha1.out] at k2
    clear hv k1
    go_wp2_with fail
    refine k2.mono ?_
    rintro e w4 ⟨X5, Y5, x5, y5, rfl, hX5, hY5, hU5, hr5⟩
    obtain ⟨rfl, rfl⟩ : x = x5 ∧ y = y5 := hr5.elim (fun h => by injection h with h; injection h with h1 h2; exact ⟨h1, h2⟩) (fun h => by cases h.1)
    obtain ⟨AX5, cX5, rfl, -⟩ := hX5.form
    obtain ⟨AY5, cY5, rfl, -⟩ := hY5.form
    have hUe := hU.tr hU5
    have hX := hX5.cells ic_len (by omega)
    have hY := hY5.cells ic_len (by omega)
    have hA4 := hA.upd hUe
    have hB4 := hB.upd hUe
    have hC4 := hc1.upd hU5
    rw [hlx, hly]
    clear hr5 k2 hX5 hY5 hU5 hA hB hc1 hU hU3
    have hz1 := Sl.zero w4 w4.heap.size 3 1 ic #[] (Nat.le_refl _)
    have hU0 : Upd Nil w4 (w4.alloc (.cells #[] 3)) := (Upd.refl _ _).alloc _
    have hsA := Src.ofArg (P := Try.prog) (tx := 22) ⟨_, elemI.ht⟩ ic_len ic_one (hA4.upd hU0) cA
    have hlxH := Lib.hid hlx
    have hlyH := Lib.hid hly
    clear hlx hly
    go_wp2_with (at_builtin; first
      | (refine wp_app w4.heap.size rfl (.tmp 55) (.tmp 56) elemI rfl _ [] a _ rfl rfl hsA hz1 (by simp) (by simp; omega) (by simp; unfold maxLen; omega) ?_; intro A6 c6 w5 hv1 hg1 hat; rw [List.nil_append] at hv1; simp only [List.length_nil, Nat.zero_add] at hv1; simp only [List.length_nil, Nat.zero_add]; have u45 := hU0.grownOwn hz1 (Nat.le_refl _) hg1; have hsz5 := u45.size; have hsB := Src.ofArg (P := Try.prog) (tx := 22) ⟨_, elemI.ht⟩ ic_len ic_one (hB4.upd u45) cB)
      | (refine wp_app w4.heap.size rfl (.tmp 57) (.tmp 58) elemI rfl _ a b _ rfl rfl hsB hv1 hsz5 (by omega) (by unfold maxLen; omega) ?_; intro A7 c7 w6 hv2 hg2 hat2; have u46 := u45.grownOwn hv1 (Nat.le_refl _) hg2))
    have hD := hv2.cells ic_len (by omega)
    have hdl : (a ++ b).length = a.length + b.length := by simp
    have hUf := hUe.tr u46
    have hA6 := hA4.upd u46
    have hB6 := hB4.upd u46
    have hX6 := hX.upd u46
    have hY6 := hY.upd u46
    have hC6 := hC4.upd u46
    clear hA4 hB4 hX hY hC4 hv1 hv2 hsA hsB hz1 hU0 u45 u46 hg1 hg2 hat hat2 hUe hU2 hsz5
    generalize a ++ b = d at *
    go_loopw [61] (fun s61 wr => ∃ j : Nat, j ≤ d.length ∧ s61 = .int .i64 j ∧ Upd Nil w6 wr) (fun s61 _ => d.length - (intOf s61).toNat)
    case atStart => exact ⟨0, by omega, rfl, Upd.refl _ _⟩
    case round =>
      rename World => wr
      obtain ⟨j, hj, rfl, hUr⟩ := hrel
      by_cases hlt : j < d.length
      · obtain ⟨g, o, hE, _, c0⟩ := ic_cell (hD.upd hUr) hlt
        subst hE
        have hj1 : (j : Int) < (a.length : Int) + (b.length : Int) := by omega
        generalize d[j] = v at *
        have q1 := count_lit wr A B cA cB a b v (hA6.upd hUr) (hB6.upd hUr) (by omega) (by omega)
        have hUa := hUr.alloc (.cells #[.slice A a.length cA, .slice B b.length cB] 22)
        generalize hcv : ((cnt v a b : Nat) : Int) = cv at *
        have hcv := Lib.hid hcv
        go_wp2_with fail
        refine q1.mono ?_
        rintro e w' ⟨rfl, rfl⟩
        generalize wr.alloc (.cells #[.slice A a.length cA, .slice B b.length cB] 22) = wa at *
        have q2 := count_lit wa AX5 AY5 cX5 cY5 x y v (hX6.upd hUa) (hY6.upd hUa) (by have := hlxH.out; omega) (by have := hlyH.out; omega)
        rw [hlxH.out, hlyH.out, hcn.out v, hcv.out] at q2
        have hUb := hUa.alloc (.cells #[.slice AX5 a.length cX5, .slice AY5 b.length cY5] 22)
        go_wp2_with fail
        refine q2.mono ?_
        rintro e w' ⟨rfl, rfl⟩
        go_wp2_with fail
        go_roundw
        case measure => simp [intOf]; omega
        case rel => exact ⟨j + 1, by omega, by go_num, hUb⟩
      · obtain rfl : j = d.length := by omega
        have hje : ¬ (d.length : Int) < (a.length : Int) + (b.length : Int) := by omega
        go_wp2_with fail
        go_loopw [79] (fun s79 w7 => ∃ i : Nat, i ≤ l.length ∧ s79 = .int .i64 i ∧ Upd Nil w6 w7) (fun s79 _ => l.length - (intOf s79).toNat)
        case atStart => exact ⟨0, by omega, rfl, hUr⟩
        case round =>
          rename World => w7
          obtain ⟨i, hi, rfl, hU7⟩ := hrel
          by_cases hil : i < l.length
          · obtain ⟨g, o, hE, p0, p1⟩ := tr_cell (hC6.upd hU7) hil
            subst hE
            have hi1 : (i : Int) < (l.length : Int) := by omega
            have hdi : Hid (∀ (k : Nat) (hk : k < i), l[k].1 ≠ l[i].1 ∧ l[k].2 ≠ l[i].2) := Lib.hid (fun k hk => hds.out k i (by omega) hil hk)
            generalize l[i].1 = ti at *
            generalize l[i].2 = tk at *
            have hbt := blk_new w7 (.cells #[.int .i64 ti, .int .i64 tk] 33)
            have hUa := hU7.alloc (.cells #[.int .i64 ti, .int .i64 tk] 33)
            go_wp2_with fail
            generalize w7.alloc (.cells #[.int .i64 ti, .int .i64 tk] 33) = wa at *
            generalize w7.heap.size = nb at *
            go_loopw [85] (fun s85 wi => ∃ k : Nat, k ≤ i ∧ s85 = .int .i64 k ∧ Upd Nil wa wi) (fun s85 _ => i - (intOf s85).toNat)
            case atStart => exact ⟨0, by omega, rfl, Upd.refl _ _⟩
            case round =>
              rename World => wi
              obtain ⟨k, hk, rfl, hUi⟩ := hrel
              by_cases hki : k < i
              · obtain ⟨g2, o2, hE2, r0, r1⟩ := tr_cell (hC6.upd (hUa.tr hUi)) (i := k) (by omega)
                injection hE2 with hE2
                injection hE2 with e1 e2
                subst e1 e2
                have hk1 : (k : Int) < (l.length : Int) := by omega
                have hk2 : (k : Int) < (i : Int) := by omega
                obtain ⟨n1, n2⟩ := hdi.out k hki
                have n1 : ((l[k].1 : Int) == (ti : Int)) = false := by simp; omega
                have n2 : ((l[k].2 : Int) == (tk : Int)) = false := by simp; omega
                generalize (l[k].1 : Int) = u1 at *
                generalize (l[k].2 : Int) = u2 at *
                generalize (ti : Int) = ti' at *
                generalize (tk : Int) = tk' at *
                have hb := hUi.blk hbt (fun h => h)
                have t0 := blk_cell hb 0
                have t1 := blk_cell hb 1
                simp only [List.getElem?_toArray, List.getElem?_cons_zero, List.getElem?_cons_succ] at t0 t1
                go_wp2_with fail
                refine wp_region_lexW (Upd Nil) (fun _ => Upd.refl _ _) (fun _ _ _ h k => h.tr k) [(0, true), (1, true), (2, true), (3, true), (4, true), (5, true), (6, true), (7, true), (8, true), (9, true), (10, true), (11, true), (12, true), (13, true), (14, true), (15, true), (16, true), (17, true)] (by kernel_rfl) (by kernel_rfl) rfl (by kernel_rfl) (by kernel_rfl) ?_
                simp only [inOrderW, List.filterMap_cons, List.filterMap_nil, List.getElem?_cons_zero, List.getElem?_cons_succ, Option.map_some]
                try simp only [Act.put, List.setIfInBounds_toArray, List.set_cons_zero, List.set_cons_succ]
                repeat
                  first
                  | (refine lexW_sure (v := ?_) rfl rfl ?_ ?_
                     rotate_left
                     · go_simp
                       try with_reducible rfl
                     try simp only [Act.put, List.setIfInBounds_toArray, List.set_cons_zero, List.set_cons_succ])
                  | (refine lexW_pure (v := ?_) rfl rfl ?_ ?_
                     rotate_left
                     · intro w' hU'
                       go_simp
                       try with_reducible rfl
                     try simp only [Act.put, List.setIfInBounds_toArray, List.set_cons_zero, List.set_cons_succ])
                  | (refine lexW_skip rfl ?_
                     try simp only [Act.put, List.setIfInBounds_toArray, List.set_cons_zero, List.set_cons_succ])
                refine lexW_done ?_
                go_wp2_with fail
                go_roundw
                case measure => simp [intOf]; omega
                case rel => exact ⟨k + 1, by omega, by go_num, hUi.drew⟩
              · obtain rfl : k = i := by omega
                go_wp2_with fail
                go_roundw
                case measure => simp [intOf]; omega
                case rel => exact ⟨k + 1, by omega, by go_num, hUa.tr hUi⟩
          · obtain rfl : i = l.length := by omega
            have hli := Lib.hid (show x.length ≤ 30 ∧ y.length ≤ 30 from ⟨by have := hlxH.out; omega, by have := hlyH.out; omega⟩)
            cases ok with
            | false =>
              go_wp2_with fail
              go_ret
              exact ⟨rfl, hUf.tr hU7⟩
            | true =>
              have hsp := hwi.out rfl
              have m1 := rrow AX5 cX5 x w7 (hX6.upd hU7) (by have := hli.out; omega)
              rw [hlxH.out] at m1
              go_wp2_with fail
              refine m1.mono ?_
              rintro e w8 ⟨v8, rfl, hv8, hU8⟩
              obtain ⟨A8, c8, rfl, -⟩ := hv8.form
              have m2 := rrow AY5 cY5 y w8 (hY6.upd (hU7.tr hU8)) (by have := hli.out; omega)
              rw [hlyH.out] at m2
              go_wp2_with fail
              refine m2.mono ?_
              rintro e w9 ⟨v9, rfl, hv9, hU9⟩
              obtain ⟨A9, c9, rfl, -⟩ := hv9.form
              have m3 := rspread A8 A9 c8 c9 (row x) (row y) w9 ((hv8.upd0 hU9).cells ic_len (by omega)) (hv9.cells ic_len (by omega)) (by rw [row_len]; have := hli.out; omega) (by rw [row_len]; have := hli.out; omega) (row_bnd x) (row_bnd y)
              generalize spread (row x ++ row y) = sp at *
              go_wp2_with fail
              refine m3.mono ?_
              rintro e w10 ⟨rfl, hU10⟩
              go_wp2_with fail
              go_ret
              exact ⟨rfl, (((hUf.tr hU7).tr hU8).tr hU9).tr hU10⟩
  · have hf : fewB a.length b.length = false := by simpa using hf
    rw [hf]
    go_wp2_with fail
    go_ret
    exact ⟨rfl, hU2⟩
end Go.Proofs.Ytenhimaclecdpaa.Level
