/-
  Moves: which may be; a record's bytes. Conditions: what the arguments' slices hold.
-/
import Derived.Test.YthppheklnplljaaDeltaP
import Derived.Test.YthppheklnplljaaLexA
namespace Go.Proofs.Ythppheklnplljaa.Delta
open Go.RowKit Go.Proofs.Ythppheklnplljaa.Base Go.Proofs.Ythppheklnplljaa.Word Go.Proofs.Ythppheklnplljaa.Frame
set_option linter.unusedVariables false
set_option linter.unusedSimpArgs false
def mvC (m : Mv) : List Value := [.int .i64 m.place, .int .i64 m.block, .int .i64 m.page, .bool m.gone]
theorem mvC_len (m : Mv) : (mvC m).length = 4 := rfl
theorem withinC (n k : Int) (w : World) : Calls Try.prog 59 #[.int .i64 n, .int .i64 k] w fun e w' => e = .returned (.bool (inR n k)) ∧ w = w' := by
  by_cases h1 : 0 ≤ n
  · by_cases h2 : n < k
    · go_enter Try.func59, Try.ntmps59
      go_wp2_with fail
      go_ret
      exact ⟨by simp [inR, h1, h2], rfl⟩
    · go_enter Try.func59, Try.ntmps59
      go_wp2_with fail
      go_ret
      exact ⟨by simp [inR, h1, h2], rfl⟩
  · go_enter Try.func59, Try.ntmps59
    go_wp2_with fail
    go_ret
    exact ⟨ret_b (by unfold inR; rw [decide_eq_false (Int.not_le.2 h1)]; rfl), rfl⟩
def BoolR (b : Bool) (w : World) (e : Ending) (w' : World) : Prop := e = .returned (.bool b) ∧ Upd Nil w w'
set_option maxRecDepth 100000 in
theorem right (m : Mv) (w : World) : Calls Try.prog 30 #[.agg #[.int .i64 m.place, .int .i64 m.block, .int .i64 m.page, .bool m.gone]] w (BoolR (rightM m) w) := by
  obtain ⟨p, q, s, g⟩ := m
  have hU := (Upd.refl Nil w).alloc (.cells #[.int .i64 p, .int .i64 q, .int .i64 s, .bool g] 45)
  cases g with
  | false =>
    go_enter Try.func30, Try.ntmps30
    go_wp2_with fail
    refine (withinC _ _ _).mono ?_
    rintro e w1 ⟨rfl, rfl⟩
    cases h0 : inR p 64 with
    | false =>
      go_wp2_with fail
      go_ret
      exact ⟨by simp [rightM, h0], hU⟩
    | true =>
      go_wp2_with fail
      refine (withinC _ _ _).mono ?_
      rintro e w1 ⟨rfl, rfl⟩
      cases h1 : inR q 64 with
      | false =>
        go_wp2_with fail
        go_ret
        exact ⟨by simp [rightM, h1], hU⟩
      | true =>
        go_wp2_with fail
        refine (withinC _ _ _).mono ?_
        rintro e w1 ⟨rfl, rfl⟩
        cases h2 : inR s 16 with
        | false =>
          go_wp2_with fail
          go_ret
          exact ⟨by simp [rightM, h2], hU⟩
        | true =>
          go_wp2_with fail
          go_ret
          exact ⟨by simp [rightM, h0, h1, h2]; try omega, hU⟩
  | true =>
    by_cases hq : q = 0 ∧ s = 0
    · obtain ⟨rfl, rfl⟩ := hq
      go_enter Try.func30, Try.ntmps30
      go_wp2_with fail
      refine (withinC _ _ _).mono ?_
      rintro e w1 ⟨rfl, rfl⟩
      cases h0 : inR p 64 with
      | false =>
        go_wp2_with fail
        go_ret
        exact ⟨by simp [rightM, h0], hU⟩
      | true =>
        go_wp2_with fail
        refine (withinC _ _ _).mono ?_
        rintro e w1 ⟨rfl, rfl⟩
        rw [show inR 0 64 = true from rfl]
        go_wp2_with fail
        refine (withinC _ _ _).mono ?_
        rintro e w1 ⟨rfl, rfl⟩
        rw [show inR 0 16 = true from rfl]
        go_wp2_with fail
        go_ret
        exact ⟨ret_b (by unfold rightM; simp only; rw [h0]; rfl), hU⟩
    · by_cases hq0 : q = 0
      · subst hq0
        have hs0 : s ≠ 0 := fun e => hq ⟨rfl, e⟩
        go_enter Try.func30, Try.ntmps30
        go_wp2_with fail
        go_ret
        exact ⟨by simp [rightM, hs0], hU⟩
      · go_enter Try.func30, Try.ntmps30
        go_wp2_with fail
        go_ret
        exact ⟨by simp [rightM, hq0], hU⟩
set_option maxRecDepth 100000 in
theorem rright (m : Mv) (w : World) : Calls Try.prog 31 #[.agg #[.int .i64 m.place, .int .i64 m.block, .int .i64 m.page, .bool m.gone]] w (BoolR (rightM m) w) := by
  obtain ⟨p, q, s, g⟩ := m
  have hU := (Upd.refl Nil w).alloc (.cells #[.int .i64 p, .int .i64 q, .int .i64 s, .bool g] 48)
  cases g with
  | false =>
    by_cases a1 : 0 ≤ p
    case neg =>
      go_enter Try.func31, Try.ntmps31
      go_wp2_with fail
      go_ret
      exact ⟨ret_b (by unfold rightM inR; simp; try omega), hU⟩
    by_cases a2 : p ≤ 63
    case neg =>
      go_enter Try.func31, Try.ntmps31
      go_wp2_with fail
      go_ret
      exact ⟨ret_b (by unfold rightM inR; simp; try omega), hU⟩
    by_cases a3 : 0 ≤ q
    case neg =>
      go_enter Try.func31, Try.ntmps31
      go_wp2_with fail
      go_ret
      exact ⟨ret_b (by unfold rightM inR; simp; try omega), hU⟩
    by_cases a4 : q ≤ 63
    case neg =>
      go_enter Try.func31, Try.ntmps31
      go_wp2_with fail
      go_ret
      exact ⟨ret_b (by unfold rightM inR; simp; try omega), hU⟩
    by_cases a5 : 0 ≤ s
    case neg =>
      go_enter Try.func31, Try.ntmps31
      go_wp2_with fail
      go_ret
      exact ⟨ret_b (by unfold rightM inR; simp; try omega), hU⟩
    by_cases a6 : s ≤ 15
    case neg =>
      go_enter Try.func31, Try.ntmps31
      go_wp2_with fail
      go_ret
      exact ⟨ret_b (by unfold rightM inR; simp; try omega), hU⟩
    go_enter Try.func31, Try.ntmps31
    go_wp2_with fail
    go_ret
    exact ⟨ret_b (by unfold rightM inR; simp; try omega), hU⟩
  | true =>
    by_cases hq : q = 0
    · subst hq
      by_cases hs : s = 0
      · subst hs
        by_cases a1 : 0 ≤ p
        case neg =>
          go_enter Try.func31, Try.ntmps31
          go_wp2_with fail
          go_ret
          exact ⟨ret_b (by unfold rightM inR; simp; try omega), hU⟩
        by_cases a2 : p ≤ 63
        case neg =>
          go_enter Try.func31, Try.ntmps31
          go_wp2_with fail
          go_ret
          exact ⟨ret_b (by unfold rightM inR; simp; try omega), hU⟩
        go_enter Try.func31, Try.ntmps31
        go_wp2_with fail
        go_ret
        exact ⟨ret_b (by unfold rightM inR; simp; try omega), hU⟩
      · skip
        go_enter Try.func31, Try.ntmps31
        go_wp2_with fail
        go_ret
        exact ⟨ret_b (by unfold rightM inR; simp; try omega), hU⟩
    · skip
      go_enter Try.func31, Try.ntmps31
      go_wp2_with fail
      go_ret
      exact ⟨ret_b (by unfold rightM inR; simp; try omega), hU⟩
end Go.Proofs.Ythppheklnplljaa.Delta
