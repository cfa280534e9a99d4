/-
  The clock: the walks of Max, of Total, of the law's may. Conditions: what the slices hold.
-/
import Derived.Test.YtcifkccaiekkeaaClockE
namespace Go.Proofs.Ytcifkccaiekkeaa.Clock
open Go.RowKit Go.Proofs.Ytcifkccaiekkeaa.Base Go.Maps Go.Proofs.Ytcifkccaiekkeaa.Maps Go.Proofs.Ytcifkccaiekkeaa.Ints
set_option linter.unusedVariables false
set_option linter.unusedSimpArgs false
def mxN (l : List Int) : Nat → Int
  | 0 => l.getD 0 0
  | i + 1 => max (mxN l i) (l.getD (i + 1) 0)
def mxL (l : List Int) : Int := if l.length = 0 then 0 else mxN l (l.length - 1)
theorem mxN_le {l : List Int} {M : Int} (h : ∀ j (hj : j < l.length), l[j] ≤ M) (i : Nat) (hi : i < l.length) : mxN l i ≤ M := by
  induction i with
  | zero => simp only [mxN]; rw [gD hi]; exact h 0 hi
  | succ i ih =>
    have h1 := ih (by omega)
    have h2 := h (i + 1) hi
    simp only [mxN]
    rw [gD hi]
    omega
theorem mxN_ge {l : List Int} (i : Nat) (hi : i < l.length) : l[i] ≤ mxN l i := by
  cases i with
  | zero => simp only [mxN]; rw [gD hi]; omega
  | succ i => simp only [mxN]; rw [gD hi]; omega
set_option maxHeartbeats 1000000 in
theorem maxC (A : Option Addr) (c : Nat) (l : List Int) (w : World) (h : Arg w A 1 ic l) (hl : l.length ≤ 1000) (h0 : 0 < l.length) : Calls Try.prog 86 #[.slice A l.length c] w fun e w' => e = .returned (.int .i64 (mxN l (l.length - 1))) ∧ w = w' := by
  obtain ⟨g, o, rfl, _, c0⟩ := ic_cell h h0
  have hn : ¬ (l.length : Int) < 1 := by omega
  have hp : (0 : Int) < (l.length : Int) := by omega
  have e0 := Lib.hid (show mxN l 0 = l[0] by simp only [mxN]; rw [gD h0])
  rw [Nat.add_zero] at c0
  generalize hx : l[0] = x at *
  have hx := Lib.hid hx
  go_enter Try.func86, Try.ntmps86
  go_wp2_with fail
  go_loopw [3, 4] (fun s3 s4 wr => ∃ i : Nat, 1 ≤ i ∧ i ≤ l.length ∧ s4 = .int .i64 i ∧ s3 = .int .i64 (mxN l (i - 1)) ∧ w = wr) (fun _ s4 _ => l.length - (intOf s4).toNat)
  case atStart => exact ⟨1, by omega, by omega, rfl, by rw [show (1 : Nat) - 1 = 0 from rfl, e0.out], rfl⟩
  case round =>
    obtain ⟨i, hi1, hi, rfl, rfl, rfl⟩ := hrel
    by_cases hlt : i < l.length
    · obtain ⟨g', o', hA, _, c1⟩ := ic_cell h hlt
      injection hA with hA
      injection hA with e1 e2
      subst e1 e2
      have e2 := Lib.hid (show mxN l (i + 1 - 1) = max (mxN l (i - 1)) l[i] by
        obtain ⟨k, rfl⟩ : ∃ k, i = k + 1 := ⟨i - 1, by omega⟩
        simp only [Nat.add_sub_cancel, mxN]
        rw [gD hlt])
      have hi2 : (i : Int) < (l.length : Int) := by omega
      generalize l[i] = v at *
      generalize mxN l (i - 1) = m at *
      go_wp2_with fail
      go_roundw
      case measure => simp [intOf]; omega
      case rel => exact ⟨i + 1, by omega, by omega, by go_num, by rw [e2.out]; congr 1; split <;> omega, trivial⟩
    · obtain rfl : i = l.length := by omega
      go_wp2_with fail
      go_ret
      exact ⟨rfl, rfl⟩
def TotR (v : Int) (w : World) (e : Ending) (w' : World) : Prop := e = .returned (.tuple #[.int .i64 v, .int .i64 0]) ∧ Upd Nil w w'
set_option maxHeartbeats 1000000 in
theorem total {C D B P : Int} (A : Option Addr) (cA : Nat) (l : List (Int × Int)) (h : Good C D B P l) (w : World) (hA : Arg w A 2 opC l) (hl : l.length ≤ 100) : Calls Try.prog 68 #[gC C D B P, .slice A l.length cA] w (TotR (mxL (stN C D l l.length).2) w) := by
  have q := ends A cA l h _ (hA.upd ((Upd.refl Nil w).alloc (.cells #[.int .i64 C, .int .i64 D, .int .i64 B, .int .i64 P] 99))) hl
  have hn := stN_len C D l l.length
  generalize (stN C D l l.length).2 = r at *
  have hrl : r.length ≤ 100 := by omega
  clear h hA hn
  unfold gC at *
  by_cases h0 : r.length = 0
  · have hm : mxL r = 0 := by unfold mxL; rw [if_pos h0]
    have hz : ((r.length : Int) == 0) = true := by rw [h0]; rfl
    rw [hm]
    clear hm h0
    go_enter Try.func68, Try.ntmps68
    go_wp2_with fail
    refine q.mono ?_
    rintro e w1 ⟨v, rfl, hv, hU⟩
    obtain ⟨A1, c1, rfl, -⟩ := hv.form
    have hU1 := ((Upd.refl Nil w).alloc (.cells #[.int .i64 C, .int .i64 D, .int .i64 B, .int .i64 P] 99)).tr hU
    go_wp2_with fail
    go_ret2
    exact ⟨rfl, hU1⟩
  · have hm : mxL r = mxN r (r.length - 1) := by unfold mxL; rw [if_neg h0]
    have hz : ((r.length : Int) == 0) = false := by rw [beq_eq_false_iff_ne]; omega
    rw [hm]
    clear hm
    go_enter Try.func68, Try.ntmps68
    go_wp2_with fail
    refine q.mono ?_
    rintro e w1 ⟨v, rfl, hv, hU⟩
    obtain ⟨A1, c1, rfl, -⟩ := hv.form
    have hU1 := ((Upd.refl Nil w).alloc (.cells #[.int .i64 C, .int .i64 D, .int .i64 B, .int .i64 P] 99)).tr hU
    have q2 := maxC A1 c1 r w1 (hv.cells ic_len (by omega)) (by omega) (by omega)
    clear h0
    go_wp2_with fail
    refine q2.mono ?_
    rintro e w' ⟨rfl, rfl⟩
    go_wp2_with fail
    go_ret2
    exact ⟨rfl, hU1⟩
def MayR (C D B P : Int) (l : List (Int × Int)) (w : World) (e : Ending) (w' : World) : Prop := ∃ v, e = .returned (.int .i64 v) ∧ (v = 0 → Good C D B P l) ∧ Upd Nil w w'
set_option maxHeartbeats 4000000 in
set_option maxRecDepth 100000 in
theorem mayC (C D B P : Int) (A : Option Addr) (cA : Nat) (l : List (Int × Int)) (w : World) (hA : Arg w A 2 opC l) (hl : l.length ≤ 100) : Calls Try.prog 66 #[gC C D B P, .slice A l.length cA] w (MayR C D B P l w) := by
  have hb := blk_new w (.cells #[.int .i64 C, .int .i64 D, .int .i64 B, .int .i64 P] 99)
  have hU0 := (Upd.refl Nil w).alloc (.cells #[.int .i64 C, .int .i64 D, .int .i64 B, .int .i64 P] 99)
  obtain ⟨e, q, he⟩ := rcheck C D B P (w.alloc (.cells #[.int .i64 C, .int .i64 D, .int .i64 B, .int .i64 P] 99))
  unfold gC at *
  rcases he with ⟨rfl, hV⟩ | ⟨hne, -⟩
  · have hcd := wrap_cd hV.c hV.d
    have hcdb := wrap_cdb hV.c hV.d hV.b
    go_enter Try.func66, Try.ntmps66
    go_wp2_with fail
    refine q.mono ?_
    rintro e w1 ⟨rfl, hU1⟩
    have hb1 := hU1.blk hb (fun h => h)
    have hU := hU0.tr hU1
    clear hb hU0 hU1 q
    go_wp2_with fail
    go_loopw [15] (fun s15 wr => ∃ i : Nat, i ≤ l.length ∧ s15 = .int .i64 i ∧ Upd Nil w1 wr ∧ Hid (∀ j (hj : j < l.length), j < i → (l[j].1 = 1 ∨ l[j].1 = 2 ∨ l[j].1 = 3) ∧ 0 ≤ l[j].2 ∧ l[j].2 < C * D * B)) (fun s15 _ => l.length - (intOf s15).toNat)
    case atStart => exact ⟨0, by omega, rfl, Upd.refl _ _, Lib.hid (fun j hj h => by omega)⟩
    case round =>
      rename World => wr
      obtain ⟨i, hi, rfl, hUr, hG⟩ := hrel
      by_cases hlt : i < l.length
      · obtain ⟨g, o, rfl, e0, e1⟩ := op_cell ((hA.upd hU).upd hUr) hlt
        have hbr := hUr.blk hb1 (fun h => h)
        have hop := blk_new wr (.cells #[.int .i64 l[i].1, .int .i64 l[i].2] 108)
        have hba := blk_alloc hbr (.cells #[.int .i64 l[i].1, .int .i64 l[i].2] 108)
        have hUa := hUr.alloc (.cells #[.int .i64 l[i].1, .int .i64 l[i].2] 108)
        have hstep : ∀ k b : Int, l[i].1 = k → l[i].2 = b → (k = 1 ∨ k = 2 ∨ k = 3) → 0 ≤ b → b < C * D * B → Hid (∀ j (hj : j < l.length), j < i + 1 → (l[j].1 = 1 ∨ l[j].1 = 2 ∨ l[j].1 = 3) ∧ 0 ≤ l[j].2 ∧ l[j].2 < C * D * B) := fun k b hk hb h1 h2 h3 => Lib.hid (fun j hj h => by
          by_cases e : j = i
          · subst e
            rw [hk, hb]
            exact ⟨h1, h2, h3⟩
          · exact hG.out j hj (by omega))
        have hst := Lib.hid (hstep l[i].1 l[i].2 rfl rfl)
        clear hstep
        generalize l[i].1 = k at *
        generalize l[i].2 = b at *
        have x0 := blk_cell hop 0
        have x1 := blk_cell hop 1
        have y0 := blk_cell hba 0
        have y1 := blk_cell hba 1
        have y2 := blk_cell hba 2
        simp only [List.getElem?_toArray, List.getElem?_cons_zero, List.getElem?_cons_succ] at x0 x1 y0 y1 y2
        by_cases k1 : k < 1
        · go_wp2_with fail
          go_ret
          exact ⟨1, rfl, (fun h => absurd h (by decide)), hU.tr hUa⟩
        by_cases k2 : 3 < k
        · go_wp2_with fail
          go_ret
          exact ⟨1, rfl, (fun h => absurd h (by decide)), hU.tr hUa⟩
        by_cases b1 : b < 0
        · go_wp2_with fail
          go_ret
          exact ⟨5, rfl, (fun h => absurd h (by decide)), hU.tr hUa⟩
        by_cases b2 : C * D * B ≤ b
        · go_wp2_with fail
          go_ret
          exact ⟨5, rfl, (fun h => absurd h (by decide)), hU.tr hUa⟩
        have hfin := hst.out (by omega) (by omega) (by omega)
        go_wp2_with fail
        go_roundw
        case measure => simp [intOf]; omega
        case rel => exact ⟨i + 1, by omega, by go_num, hUa, hfin⟩
      · obtain rfl : i = l.length := by omega
        go_wp2_with fail
        go_ret
        refine ⟨0, rfl, fun _ => ⟨hV, fun o ho => ?_, fun o ho => ?_⟩, hU.tr hUr⟩
        · obtain ⟨j, hj, rfl⟩ := List.mem_iff_getElem.1 ho
          exact (hG.out j hj hj).1
        · obtain ⟨j, hj, rfl⟩ := List.mem_iff_getElem.1 ho
          exact (hG.out j hj hj).2
  · have hnb : (e == 0) = false := by simpa using hne
    go_enter Try.func66, Try.ntmps66
    go_wp2_with fail
    refine q.mono ?_
    rintro e w1 ⟨rfl, hU1⟩
    go_wp2_with fail
    go_ret
    exact ⟨_, rfl, fun h => absurd h hne, hU0.tr hU1⟩
end Go.Proofs.Ytcifkccaiekkeaa.Clock
