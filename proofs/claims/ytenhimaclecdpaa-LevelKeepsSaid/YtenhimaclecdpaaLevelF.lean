/-
  Levelling: the walks of spread and of the reference's Row and Spread. Conditions: what the slices hold.
-/
import Derived.Test.YtenhimaclecdpaaLevelE
namespace Go.Proofs.Ytenhimaclecdpaa.Level
open Go.RowKit Go.Proofs.Ytenhimaclecdpaa.Base Go.Proofs.Ytenhimaclecdpaa.Ints
set_option linter.unusedVariables false
set_option linter.unusedSimpArgs false
def IntU (v : Int) (w : World) (e : Ending) (w' : World) : Prop := e = .returned (.int .i64 v) ∧ Upd Nil w w'
theorem bnd_app {a b : List Int} (ha : Bnd a) (hb : Bnd b) : Bnd (a ++ b) := fun v hv => (List.mem_append.1 hv).elim (ha v) (hb v)
set_option maxHeartbeats 2000000 in
set_option maxRecDepth 100000 in
theorem spreadC (F G : Nat → Prop) (b1 b2 : Nat) (a b : List Int) (s t : List Bool) (X S Y T : Value) (w : World) (hx : Lane F w b1 a s X S) (hy : Lane G w b2 b t Y T) (ha : a.length ≤ 1000) (hb : b.length ≤ 1000) (hBa : Bnd a) (hBb : Bnd b) :
    Calls Try.prog 44 #[.pointer (some ⟨b1, 0, none⟩), .pointer (some ⟨b2, 0, none⟩)] w (IntU (spread (a ++ b)) w) := by
  obtain ⟨A, cA, hX, hcA⟩ := hx.sx.form
  obtain ⟨B, cB, hY, hcB⟩ := hy.sx.form
  subst hX hY
  have hxs := hx.sx.cells ic_len (by omega)
  have hys := hy.sx.cells ic_len (by omega)
  have hk1 := fun w' (u : Upd Nil w w') => blk_cell (hx.upd0 u).blk 0
  have hk2 := fun w' (u : Upd Nil w w') => blk_cell (hy.upd0 u).blk 0
  simp only [List.getElem?_toArray, List.getElem?_cons_zero, List.getElem?_cons_succ] at hk1 hk2
  have hw1 : ∀ w', Upd Nil w.drew w' → w'.cell? ⟨b1, 0, none⟩ = some (.slice A a.length cA) := fun w' u => hk1 w' ((Upd.refl Nil w).drew.tr u)
  have hw2 : ∀ w', Upd Nil w.drew w' → w'.cell? ⟨b2, 0, none⟩ = some (.slice B b.length cB) := fun w' u => hk2 w' ((Upd.refl Nil w).drew.tr u)
  have hU1 : Upd Nil w (w.drew.alloc (.cells #[.slice A a.length cA, .slice B b.length cB] 22)) := (Upd.refl Nil w).drew.alloc _
  have q := concat A B cA cB a b w.drew.heap.size _ (hxs.upd hU1) (hys.upd hU1) (blk_new _ _) ha hb
  have hB := bnd_app hBa hBb
  have hlen : (a ++ b).length ≤ 10000 := by simp; omega
  clear hk1 hk2
  go_enter Try.func44, Try.ntmps44
  go_wp2_with fail
  refine wp_region_lex Nil [0, 1, 2, 3, 4, 5, 6, 7, 8, 9, 10, 11] (by kernel_rfl) (by kernel_rfl) rfl (by kernel_rfl) ?_
  simp only [inOrder, List.filterMap_cons, List.filterMap_nil, List.getElem?_cons_zero, List.getElem?_cons_succ]
  try simp only [Act.put, List.setIfInBounds_toArray, List.set_cons_zero, List.set_cons_succ]
  repeat
    first
    | (refine lex_pure (v := ?_) rfl rfl ?_ ?_
       rotate_left
       · intro w' hU'
         go_simp
         try with_reducible rfl
       try simp only [Act.put, List.setIfInBounds_toArray, List.set_cons_zero, List.set_cons_succ])
    | (refine lex_skip rfl ?_
       try simp only [Act.put, List.setIfInBounds_toArray, List.set_cons_zero, List.set_cons_succ])
  refine lex_run (v := .slice (some ⟨w.drew.heap.size, 0, none⟩) 2 2) (w' := w.drew.alloc (.cells #[.slice A a.length cA, .slice B b.length cB] 22)) rfl rfl (by go_simp) ((Upd.refl _ _).alloc _) ?_
  try simp only [Act.put, List.setIfInBounds_toArray, List.set_cons_zero, List.set_cons_succ]
  repeat
    first
    | (refine lex_pure (v := ?_) rfl rfl ?_ ?_
       rotate_left
       · intro w' hU'
         go_simp
         try with_reducible rfl
       try simp only [Act.put, List.setIfInBounds_toArray, List.set_cons_zero, List.set_cons_succ])
    | (refine lex_skip rfl ?_
       try simp only [Act.put, List.setIfInBounds_toArray, List.set_cons_zero, List.set_cons_succ])
  refine lex_fn (f := 76) (args := _) rfl rfl (by go_simp) (q.mono ?_)
  rintro e w1 ⟨v, rfl, hv, hU⟩
  refine ⟨_, rfl, hU, ?_⟩
  obtain ⟨C, cC, rfl, hcC⟩ := hv.form
  have q2 := vspread C cC (a ++ b) w1 (hv.cells ic_len (by omega)) hlen hB
  generalize (a ++ b).length = n at *
  generalize spread (a ++ b) = sp at *
  try simp only [Act.put, List.setIfInBounds_toArray, List.set_cons_zero, List.set_cons_succ]
  repeat
    first
    | (refine lex_pure (v := ?_) rfl rfl ?_ ?_
       rotate_left
       · intro w' hU'
         go_simp
         try with_reducible rfl
       try simp only [Act.put, List.setIfInBounds_toArray, List.set_cons_zero, List.set_cons_succ])
    | (refine lex_skip rfl ?_
       try simp only [Act.put, List.setIfInBounds_toArray, List.set_cons_zero, List.set_cons_succ])
  refine lex_fn (f := 75) (args := _) rfl rfl (by go_simp) (q2.mono ?_)
  rintro e w' ⟨rfl, rfl⟩
  refine ⟨_, rfl, Upd.refl _ _, ?_⟩
  try simp only [Act.put, List.setIfInBounds_toArray, List.set_cons_zero, List.set_cons_succ]
  repeat
    first
    | (refine lex_pure (v := ?_) rfl rfl ?_ ?_
       rotate_left
       · intro w' hU'
         go_simp
         try with_reducible rfl
       try simp only [Act.put, List.setIfInBounds_toArray, List.set_cons_zero, List.set_cons_succ])
    | (refine lex_skip rfl ?_
       try simp only [Act.put, List.setIfInBounds_toArray, List.set_cons_zero, List.set_cons_succ])
  refine lex_done ?_
  go_wp2_with fail
  go_ret
  exact ⟨rfl, hU1.tr hU⟩
set_option maxHeartbeats 2000000 in
set_option maxRecDepth 100000 in
theorem rrow (A : Option Addr) (c : Nat) (l : List Int) (w : World) (h : Arg w A 1 ic l) (hl : l.length ≤ 1000) : Calls Try.prog 20 #[.slice A l.length c] w (SlR (row l) w) := by
  have hn : Sl w w.heap.size 3 1 ic (.slice none 0 0) (row (l.take 0)) := Sl.nil _ _ _ _ _
  go_enter Try.func20, Try.ntmps20
  go_wp2_with fail
  go_loopw [3, 8] (fun s3 s8 wr => ∃ (i : Nat) (V : Value), i ≤ l.length ∧ s8 = .int .i64 i ∧ s3 = V ∧ Sl wr w.heap.size 3 1 ic V (row (l.take i)) ∧ Upd Nil w wr) (fun _ s8 _ => l.length - (intOf s8).toNat)
  case atStart => exact ⟨0, _, by omega, rfl, rfl, hn, Upd.refl _ _⟩
  case round =>
    clear hn
    obtain ⟨i, V, hi, rfl, rfl, hV, hU⟩ := hrel
    have hsz := hU.size
    by_cases hlt : i < l.length
    · obtain ⟨g, o, rfl, _, c0⟩ := ic_cell (h.upd hU) hlt
      have hrt := Lib.hid (row_take hlt)
      have hal : (row (l.take i)).length ≤ 1000 := by unfold row; simp; omega
      generalize row (l.take i) = a at *
      generalize l[i] = v at *
      go_wp2_with fail
      refine (rclamp v _).mono ?_
      rintro e w' ⟨rfl, rfl⟩
      go_wp2_with (at_builtin; refine wp_app1 w.heap.size rfl (.tmp 12) (.tmp 15) elemI rfl wr (cl v) (by rfl) _ a rfl (by simp [Act.eval]) hV hsz (by omega) (by unfold maxLen; omega) ?_; intro A1 c1 w1 hv1 hg1 hat)
      go_roundw
      case measure => simp [intOf]; omega
      case rel => exact ⟨i + 1, _, by omega, by go_num, rfl, by rw [hrt.out]; exact hv1, hU.grownOwn hV (Nat.le_refl _) hg1⟩
    · obtain rfl : i = l.length := by omega
      rw [List.take_length] at hV
      go_wp2_with fail
      go_ret
      exact ⟨_, rfl, hV, hU⟩
theorem sprJ_bnd {a : List Int} (h : Bnd a) (x best : Int) (hx : 0 ≤ x ∧ x ≤ 1073741824) (hb : 0 ≤ best ∧ best ≤ 1073741824) (n : Nat) (hn : n ≤ a.length) : 0 ≤ sprJ a x best n ∧ sprJ a x best n ≤ 1073741824 := by
  induction n with
  | zero => exact hb
  | succ n ih =>
    have := ih (by omega)
    have := bnd_D h (i := n) (by omega)
    simp only [sprJ]
    split <;> omega
theorem sprI_bnd {a : List Int} (h : Bnd a) (n : Nat) (hn : n ≤ a.length) : 0 ≤ sprI a n ∧ sprI a n ≤ 1073741824 := by
  induction n with
  | zero => simp [sprI]
  | succ n ih => exact sprJ_bnd h _ _ (bnd_D h (by omega)) (ih (by omega)) _ (Nat.le_refl _)
set_option maxHeartbeats 4000000 in
set_option maxRecDepth 100000 in
theorem rspread (A B : Option Addr) (cA cB : Nat) (a b : List Int) (w : World) (hA : Arg w A 1 ic a) (hB : Arg w B 1 ic b) (ha : a.length ≤ 1000) (hb : b.length ≤ 1000) (hBa : Bnd a) (hBb : Bnd b) : Calls Try.prog 19 #[.slice A a.length cA, .slice B b.length cB] w (IntU (spread (a ++ b)) w) := by
  rw [← spread_eq (bnd_app hBa hBb)]
  have hbn := bnd_app hBa hBb
  have hz : Sl (w.alloc (.cells #[] 3)) w.heap.size 3 1 ic (.slice (some ⟨w.heap.size, 0, none⟩) 0 0) [] := Sl.zero _ _ _ _ _ _ (Nat.le_refl _)
  have hU0 : Upd Nil w (w.alloc (.cells #[] 3)) := (Upd.refl _ _).alloc _
  have hsA := Src.ofArg (P := Try.prog) (tx := 22) ⟨_, elemI.ht⟩ ic_len ic_one (hA.upd hU0) cA
  go_enter Try.func19, Try.ntmps19
  go_wp2_with (at_builtin; first
    | (refine wp_app w.heap.size rfl (.tmp 11) (.tmp 12) elemI rfl (.slice (some ⟨w.heap.size, 0, none⟩) 0 0) [] a _ rfl rfl hsA hz (by simp) (by simp; omega) (by simp; unfold maxLen; omega) ?_; intro A1 c1 w1 hv1 hg1 hat; have hU1 := hU0.grownOwn hz (Nat.le_refl _) hg1; have hsB := Src.ofArg (P := Try.prog) (tx := 22) ⟨_, elemI.ht⟩ ic_len ic_one (hB.upd hU1) cB; have hsz1 := hU1.size; rw [List.nil_append] at hv1; simp only [List.length_nil, Nat.zero_add] at hv1; simp only [List.length_nil, Nat.zero_add])
    | (refine wp_app w.heap.size rfl (.tmp 13) (.tmp 14) elemI rfl _ a b _ rfl rfl hsB hv1 hsz1 (by omega) (by unfold maxLen; omega) ?_; intro A2 c2 w2 hv2 hg2 hat2; have hU2 := hU1.grownOwn hv1 (Nat.le_refl _) hg2))
  have hC := hv2.cells ic_len (by omega)
  have hcl : (a ++ b).length ≤ 2000 := by simp; omega
  have hab : a.length + b.length = (a ++ b).length := by simp
  have hab2 : (a.length : Int) + (b.length : Int) = ((a ++ b).length : Int) := by simp
  simp only [hab, hab2]
  clear hv1 hv2 hsA hsB hz hab hab2
  generalize a ++ b = l at *
  clear hA hB hBa hBb ha hb
  go_loopw [5, 18] (fun s5 s18 wr => ∃ (i : Nat), i ≤ l.length ∧ s18 = .int .i64 i ∧ s5 = .int .i64 (sprI l i) ∧ w2 = wr) (fun _ s18 _ => l.length - (intOf s18).toNat)
  case atStart => exact ⟨0, by omega, rfl, rfl, rfl⟩
  case round =>
    obtain ⟨i, hi, rfl, rfl, rfl⟩ := hrel
    by_cases hlt : i < l.length
    · obtain ⟨g, o, rfl, _, c0⟩ := ic_cell hC hlt
      have hx := bnd_get hbn hlt
      have hI := sprI_bnd hbn i hi
      have e1 := Lib.hid (show sprI l (i + 1) = sprJ l l[i] (sprI l i) l.length by simp only [sprI]; rw [gD hlt])
      generalize l[i] = x at *
      generalize sprI l i = bst at *
      go_wp2_with fail
      go_loopw [5, 24] (fun s5 s24 wr => ∃ (j : Nat), j ≤ l.length ∧ s24 = .int .i64 j ∧ s5 = .int .i64 (sprJ l x bst j) ∧ w2 = wr) (fun _ s24 _ => l.length - (intOf s24).toNat)
      case atStart => exact ⟨0, by omega, rfl, rfl, rfl⟩
      case round =>
        obtain ⟨j, hj, rfl, rfl, rfl⟩ := hrel
        by_cases hlj : j < l.length
        · obtain ⟨g2, o2, hA2, _, c1⟩ := ic_cell hC hlj
          injection hA2 with hA2
          injection hA2 with e3 e4
          subst e3 e4
          have hy := bnd_get hbn hlj
          have hJ := sprJ_bnd hbn x bst hx hI j hj
          have e2 := Lib.hid (show sprJ l x bst (j + 1) = if sprJ l x bst j < x - l[j] then x - l[j] else sprJ l x bst j by simp only [sprJ]; rw [gD hlj])
          generalize l[j] = y at *
          generalize sprJ l x bst j = bj at *
          by_cases hc : bj < x - y
          · rw [if_pos hc] at e2
            go_wp2_with fail
            go_roundw
            case measure => simp [intOf]; omega
            case rel => exact ⟨j + 1, by omega, by go_num, by rw [e2.out], trivial⟩
          · rw [if_neg hc] at e2
            go_wp2_with fail
            go_roundw
            case measure => simp [intOf]; omega
            case rel => exact ⟨j + 1, by omega, by go_num, by rw [e2.out], trivial⟩
        · obtain rfl : j = l.length := by omega
          go_wp2_with fail
          go_roundw
          case measure => simp [intOf]; omega
          case rel => exact ⟨i + 1, by omega, by go_num, by rw [e1.out], trivial⟩
    · obtain rfl : i = l.length := by omega
      go_wp2_with fail
      go_ret
      exact ⟨rfl, hU2⟩
end Go.Proofs.Ytenhimaclecdpaa.Level
