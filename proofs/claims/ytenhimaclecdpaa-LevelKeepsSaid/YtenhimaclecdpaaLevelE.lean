/-
  Levelling: the walks of Concat, of Spread, of spread. Conditions: what the slices hold.
-/
import Derived.Test.YtenhimaclecdpaaLevelD
import Derived.Lib.AppendZeros
namespace Go.Proofs.Ytenhimaclecdpaa.Level
open Go.RowKit Go.Proofs.Ytenhimaclecdpaa.Base Go.Proofs.Ytenhimaclecdpaa.Ints
set_option linter.unusedVariables false
set_option linter.unusedSimpArgs false
def SlR (l : List Int) (w : World) (e : Ending) (w' : World) : Prop := ∃ v, e = .returned v ∧ Sl w' w.heap.size 3 1 ic v l ∧ Upd Nil w w'
set_option maxRecDepth 100000 in
theorem growC (n : Nat) (hn : n ≤ 1000000) (w : World) : Calls Try.prog 94 #[.slice none 0 0, .int .i64 n] w (SlR [] w) := by
  obtain ⟨ti, hti, hts⟩ : ∃ ti, Try.prog.info? 3 = some ti ∧ (ti.zero, ti.size, ti.bytes) = (some (.int .i64 0), 1, 8) := by
    have h : (Try.prog.info? 3).map (fun i => (i.zero, i.size, i.bytes)) = some (some (.int .i64 0), 1, 8) := by kernel_rfl
    obtain ⟨ti, h1, h2⟩ := Option.map_eq_some_iff.1 h
    exact ⟨ti, h1, h2⟩
  simp only [Prod.mk.injEq] at hts
  by_cases h0 : n = 0
  · subst h0
    go_enter Try.func94, Try.ntmps94
    go_wp2_with fail
    go_ret
    exact ⟨_, rfl, Sl.nil _ _ _ _ _, Upd.refl _ _⟩
  · have h1 : (0 : Int) < n := by omega
    have h2 : ¬ (n : Int) < 0 := by omega
    have hr := Lib.run_append_nil_zeros (P := Try.prog) w 22 3 22 3 ti (.int .i64 0) .i64 .i64 Try.underlying22 Try.underlying3 hti hts.1 n (by omega) (by omega) (by omega) (by rw [hts.2.2]; omega)
    have hcm : grownCap w n 0 3 ≤ maxLen := grownCap_le_maxLen w _ 0 _ (by unfold maxLen; omega)
    have hcg := grownCap_ge w n 0 3
    generalize grownCap w n 0 3 = c at *
    go_enter Try.func94, Try.ntmps94
    go_wp2_with (at_builtin; refine Lib.wpList_append_run _ rfl (.tmp 20) (.tmp 21) 22 3 rfl _ _ rfl rfl _ _ hr ?_)
    go_ret
    refine ⟨_, rfl, ⟨rfl, .inr ⟨w.heap.size, 0, c, _, rfl, Nat.le_refl _, blk_new w.drew _, Nat.zero_le _, hcm, ?_, by simp⟩⟩, (Upd.refl Nil w).drew.alloc _⟩
    simp [size_zeroCells, Value.cells]
    omega
set_option maxHeartbeats 1000000 in
set_option maxRecDepth 100000 in
theorem concat (A B : Option Addr) (cA cB : Nat) (a b : List Int) (g : Nat) (w : World) (hA : Arg w A 1 ic a) (hB : Arg w B 1 ic b) (hg : w.heap[g]? = some (.cells #[.slice A a.length cA, .slice B b.length cB] 22 (0, 0))) (ha : a.length ≤ 1000) (hb : b.length ≤ 1000) :
    Calls Try.prog 76 #[.slice (some ⟨g, 0, none⟩) 2 2] w (SlR (a ++ b) w) := by
  have g0 := blk_cell hg 0
  have g1 := blk_cell hg 1
  simp only [List.getElem?_toArray, List.getElem?_cons_zero, List.getElem?_cons_succ] at g0 g1
  have hn1 : ¬ (a.length : Int) < 0 := by omega
  have hn2 : ¬ (a.length : Int) + (b.length : Int) < 0 := by omega
  go_enter Try.func76, Try.ntmps76
  go_wp2_with fail
  go_loopw [3, 11] (fun s3 s11 wr => ((s11 = .int .i64 0 ∧ s3 = .int .i64 0) ∨ (s11 = .int .i64 1 ∧ s3 = .int .i64 a.length) ∨ (s11 = .int .i64 2 ∧ s3 = .int .i64 ((a.length + b.length : Nat) : Int))) ∧ w = wr) (fun _ s11 _ => 2 - (intOf s11).toNat)
  case atStart => exact ⟨.inl ⟨rfl, rfl⟩, rfl⟩
  case round =>
    obtain ⟨h, rfl⟩ := hrel
    rcases h with ⟨rfl, rfl⟩ | ⟨rfl, rfl⟩ | ⟨rfl, rfl⟩
    · go_wp2_with fail
      go_roundw
      case measure => simp [intOf]
      case rel => exact ⟨.inr (.inl ⟨rfl, by simp⟩), trivial⟩
    · go_wp2_with fail
      go_roundw
      case measure => simp [intOf]
      case rel => exact ⟨.inr (.inr ⟨rfl, by simp⟩), trivial⟩
    · have q := growC (a.length + b.length) (by omega) w
      go_wp2_with fail
      refine q.mono ?_
      rintro e w1 ⟨v, rfl, hv, hU⟩
      go_wp2_with fail
      go_loopw [6, 27] (fun s6 s27 wr => ∃ V, s6 = V ∧ Upd Nil w wr ∧ ((s27 = .int .i64 0 ∧ Sl wr w.heap.size 3 1 ic V []) ∨ (s27 = .int .i64 1 ∧ Sl wr w.heap.size 3 1 ic V a) ∨ (s27 = .int .i64 2 ∧ Sl wr w.heap.size 3 1 ic V (a ++ b)))) (fun _ s27 _ => 2 - (intOf s27).toNat)
      case atStart => exact ⟨v, rfl, hU, .inl ⟨rfl, hv⟩⟩
      case round =>
        rename World => wr
        clear hv hU q hn1 hn2
        obtain ⟨V, rfl, hU, h⟩ := hrel
        have hgr := hU.blk hg (fun h => h)
        have g0 := blk_cell hgr 0
        have g1 := blk_cell hgr 1
        simp only [List.getElem?_toArray, List.getElem?_cons_zero, List.getElem?_cons_succ] at g0 g1
        have hsz := hU.size
        rcases h with ⟨rfl, hV⟩ | ⟨rfl, hV⟩ | ⟨rfl, hV⟩
        · go_wp2_with (at_builtin; refine wp_app w.heap.size rfl (.tmp 31) (.tmp 32) elemI rfl _ [] a (.slice A a.length cA) rfl rfl (Src.ofArg ⟨_, elemI.ht⟩ ic_len ic_one (hA.upd hU) cA) hV hsz (by simp; omega) (by simp; unfold maxLen; omega) ?_; intro A1 c1 w2 hv2 hg2 hat)
          go_roundw
          case measure => simp [intOf]
          case rel => exact ⟨_, rfl, hU.grownOwn hV (Nat.le_refl _) hg2, .inr (.inl ⟨rfl, by simpa using hv2⟩)⟩
        · go_wp2_with (at_builtin; refine wp_app w.heap.size rfl (.tmp 31) (.tmp 32) elemI rfl _ a b (.slice B b.length cB) rfl rfl (Src.ofArg ⟨_, elemI.ht⟩ ic_len ic_one (hB.upd hU) cB) hV hsz (by omega) (by unfold maxLen; omega) ?_; intro A1 c1 w2 hv2 hg2 hat)
          go_roundw
          case measure => simp [intOf]
          case rel => exact ⟨_, rfl, hU.grownOwn hV (Nat.le_refl _) hg2, .inr (.inr ⟨rfl, hv2⟩)⟩
        · go_wp2_with fail
          go_ret
          exact ⟨_, rfl, hV, hU⟩
set_option maxHeartbeats 1000000 in
set_option maxRecDepth 100000 in
theorem vspread (A : Option Addr) (c : Nat) (l : List Int) (w : World) (h : Arg w A 1 ic l) (hl : l.length ≤ 10000) (hB : Bnd l) : Calls Try.prog 75 #[.slice A l.length c] w (IntR (spread l) w) := by
  by_cases h0 : l = []
  · subst h0
    go_enter Try.func75, Try.ntmps75
    go_wp2_with fail
    go_ret
    exact ⟨rfl, rfl⟩
  have hn0 : ((l.length : Int) == 0) = false := by
    have := List.length_pos_iff.2 h0
    simp; omega
  have hsp := Lib.hid (show spread l = highN l l.length - lowN l l.length by unfold spread; rw [if_neg (by have := List.length_pos_iff.2 h0; omega)])
  have hlo := low_bnd hB l.length (Nat.le_refl _)
  have hhi := high_bnd hB l.length (Nat.le_refl _)
  rw [hsp.out]
  clear hsp
  go_enter Try.func75, Try.ntmps75
  go_wp2_with fail
  go_loopw [3, 4, 12] (fun s3 s4 s12 wr => ∃ i : Nat, i ≤ l.length ∧ s12 = .int .i64 i ∧ s3 = .int .i64 (lowN l i) ∧ s4 = .int .i64 (highN l i) ∧ w = wr) (fun _ _ s12 _ => l.length - (intOf s12).toNat)
  case atStart => exact ⟨0, by omega, rfl, rfl, rfl, rfl⟩
  case round =>
    obtain ⟨i, hi, rfl, rfl, rfl, rfl⟩ := hrel
    by_cases hlt : i < l.length
    · obtain ⟨g, o, rfl, _, c0⟩ := ic_cell h hlt
      have hv := bnd_get hB hlt
      have e1 := Lib.hid (show lowN l (i + 1) = min (lowN l i) l[i] by simp only [lowN]; rw [gD hlt])
      have e2 := Lib.hid (show highN l (i + 1) = max (highN l i) l[i] by simp only [highN]; rw [gD hlt])
      generalize l[i] = v at *
      generalize lowN l i = lo at *
      generalize highN l i = hi at *
      clear hlo hhi hB
      obtain ⟨v1, v2⟩ := hv
      have v3 : ¬ v < 0 := by omega
      have v4 : v ≤ 1099511627776 := by omega
      have v5 : ¬ 1099511627776 < v := by omega
      go_wp2_with fail
      go_roundw
      case measure => simp [intOf]; omega
      case rel => exact ⟨i + 1, by omega, by go_num, by rw [e1.out]; congr 1; split <;> omega, by rw [e2.out]; congr 1; split <;> omega, trivial⟩
    · obtain rfl : i = l.length := by omega
      go_wp2_with fail
      go_ret
      exact ⟨rfl, rfl⟩
end Go.Proofs.Ytenhimaclecdpaa.Level
