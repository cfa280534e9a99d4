/-
  Tags: the walks of Right, the program's and the reference's. Conditions: none.
-/
import Derived.Test.YthppheklnplljaaTagA
namespace Go.Proofs.Ythppheklnplljaa.Tag
open Go.RowKit Go.Proofs.Ythppheklnplljaa.Base Go.Proofs.Ythppheklnplljaa.Word
set_option linter.unusedVariables false
set_option linter.unusedSimpArgs false
def rightB (t : Tg) : Bool := inB t.tenant 3 && inB t.epoch 2147483647 && inB t.place 63 && inB t.seq 2147483647 && (decide (t.kind = 1) || decide (t.kind = 2))
theorem right (t : Tg) (w : World) : Calls Try.prog 23 #[tgV t] w (RetB (rightB t) w) := by
  obtain ⟨t0, t1, t2, t3, t4, t5⟩ := t
  have hall : ∀ b, Hid (rightB ⟨t0, t1, t2, t3, t4, t5⟩ = b) → Calls Try.prog 23 #[tgV ⟨t0, t1, t2, t3, t4, t5⟩] w (RetB b w) := by
    intro b hr
    unfold tgV
    cases e0 : inB t0 3
    · replace hr : Hid (b = false) := by have := hr.out; show _ = _; rw [← this]; simp [rightB, e0]
      obtain rfl := hr.out
      replace hr : Hid (false = false) := Lib.hid rfl
      go_enter Try.func23, Try.ntmps23
      go_wp2_with (go_at_call 54; refine (within _ _ _).mono ?_; rintro e w1 ⟨rfl, rfl⟩)
      go_ret
      exact ⟨by first | rfl | exact ret_b (by simp), (Upd.refl _ _).alloc _⟩
    · cases e1 : inB t1 2147483647
      · replace hr : Hid (b = false) := by have := hr.out; show _ = _; rw [← this]; simp [rightB, e1]
        obtain rfl := hr.out
        replace hr : Hid (false = false) := Lib.hid rfl
        go_enter Try.func23, Try.ntmps23
        go_wp2_with (go_at_call 54; refine (within _ _ _).mono ?_; rintro e w1 ⟨rfl, rfl⟩)
        go_ret
        exact ⟨by first | rfl | exact ret_b (by simp), (Upd.refl _ _).alloc _⟩
      · cases e2 : inB t2 63
        · replace hr : Hid (b = false) := by have := hr.out; show _ = _; rw [← this]; simp [rightB, e2]
          obtain rfl := hr.out
          replace hr : Hid (false = false) := Lib.hid rfl
          go_enter Try.func23, Try.ntmps23
          go_wp2_with (go_at_call 54; refine (within _ _ _).mono ?_; rintro e w1 ⟨rfl, rfl⟩)
          go_ret
          exact ⟨by first | rfl | exact ret_b (by simp), (Upd.refl _ _).alloc _⟩
        · cases e3 : inB t3 2147483647
          · replace hr : Hid (b = false) := by have := hr.out; show _ = _; rw [← this]; simp [rightB, e3]
            obtain rfl := hr.out
            replace hr : Hid (false = false) := Lib.hid rfl
            go_enter Try.func23, Try.ntmps23
            go_wp2_with (go_at_call 54; refine (within _ _ _).mono ?_; rintro e w1 ⟨rfl, rfl⟩)
            go_ret
            exact ⟨by first | rfl | exact ret_b (by simp), (Upd.refl _ _).alloc _⟩
          · by_cases h1 : t4 = 1
            · subst h1
              replace hr : Hid (b = true) := by have := hr.out; show _ = _; rw [← this]; simp [rightB, e0, e1, e2, e3]
              obtain rfl := hr.out
              replace hr : Hid (true = true) := Lib.hid rfl
              go_enter Try.func23, Try.ntmps23
              go_wp2_with (go_at_call 54; refine (within _ _ _).mono ?_; rintro e w1 ⟨rfl, rfl⟩)
              go_ret
              exact ⟨by first | rfl | exact ret_b (by simp), (Upd.refl _ _).alloc _⟩
            · have hb : (t4 == 1) = false := beq_eq_false_iff_ne.mpr h1
              replace hr : Hid (b = (t4 == 2)) := by have := hr.out; show _ = _; rw [← this]; simp [rightB, e0, e1, e2, e3, h1]; rfl
              obtain rfl := hr.out
              replace hr : Hid ((t4 == 2) = (t4 == 2)) := Lib.hid rfl
              go_enter Try.func23, Try.ntmps23
              go_wp2_with (go_at_call 54; refine (within _ _ _).mono ?_; rintro e w1 ⟨rfl, rfl⟩)
              go_ret
              exact ⟨by first | rfl | exact ret_b (by simp), (Upd.refl _ _).alloc _⟩
  exact hall _ (Lib.hid rfl)
theorem rright (t : Tg) (w : World) : Calls Try.prog 24 #[tgV t] w (RetB (rightB t) w) := by
  obtain ⟨t0, t1, t2, t3, t4, t5⟩ := t
  have hall : ∀ b, Hid (rightB ⟨t0, t1, t2, t3, t4, t5⟩ = b) → Calls Try.prog 24 #[tgV ⟨t0, t1, t2, t3, t4, t5⟩] w (RetB b w) := by
    intro b hr
    unfold tgV
    by_cases g0 : 0 ≤ t0
    case neg =>
      replace hr : Hid (b = false) := by
        have := hr.out
        show _ = _
        rw [← this]
        simp only [rightB, inB, Bool.and_eq_false_iff, decide_eq_false_iff_not]
        omega
      obtain rfl := hr.out
      clear hr
      go_enter Try.func24, Try.ntmps24
      go_wp2
      go_ret
      exact ⟨by first | rfl | exact ret_b (by simp), (Upd.refl _ _).alloc _⟩
    by_cases g1 : t0 ≤ 3
    case neg =>
      replace hr : Hid (b = false) := by
        have := hr.out
        show _ = _
        rw [← this]
        simp only [rightB, inB, Bool.and_eq_false_iff, decide_eq_false_iff_not]
        omega
      obtain rfl := hr.out
      clear hr
      go_enter Try.func24, Try.ntmps24
      go_wp2
      go_ret
      exact ⟨by first | rfl | exact ret_b (by simp), (Upd.refl _ _).alloc _⟩
    by_cases g2 : 0 ≤ t1
    case neg =>
      replace hr : Hid (b = false) := by
        have := hr.out
        show _ = _
        rw [← this]
        simp only [rightB, inB, Bool.and_eq_false_iff, decide_eq_false_iff_not]
        omega
      obtain rfl := hr.out
      clear hr
      go_enter Try.func24, Try.ntmps24
      go_wp2
      go_ret
      exact ⟨by first | rfl | exact ret_b (by simp), (Upd.refl _ _).alloc _⟩
    by_cases g3 : t1 < 2147483648
    case neg =>
      replace hr : Hid (b = false) := by
        have := hr.out
        show _ = _
        rw [← this]
        simp only [rightB, inB, Bool.and_eq_false_iff, decide_eq_false_iff_not]
        omega
      obtain rfl := hr.out
      clear hr
      go_enter Try.func24, Try.ntmps24
      go_wp2
      go_ret
      exact ⟨by first | rfl | exact ret_b (by simp), (Upd.refl _ _).alloc _⟩
    by_cases g4 : 0 ≤ t2
    case neg =>
      replace hr : Hid (b = false) := by
        have := hr.out
        show _ = _
        rw [← this]
        simp only [rightB, inB, Bool.and_eq_false_iff, decide_eq_false_iff_not]
        omega
      obtain rfl := hr.out
      clear hr
      go_enter Try.func24, Try.ntmps24
      go_wp2
      go_ret
      exact ⟨by first | rfl | exact ret_b (by simp), (Upd.refl _ _).alloc _⟩
    by_cases g5 : t2 ≤ 63
    case neg =>
      replace hr : Hid (b = false) := by
        have := hr.out
        show _ = _
        rw [← this]
        simp only [rightB, inB, Bool.and_eq_false_iff, decide_eq_false_iff_not]
        omega
      obtain rfl := hr.out
      clear hr
      go_enter Try.func24, Try.ntmps24
      go_wp2
      go_ret
      exact ⟨by first | rfl | exact ret_b (by simp), (Upd.refl _ _).alloc _⟩
    by_cases g6 : 0 ≤ t3
    case neg =>
      replace hr : Hid (b = false) := by
        have := hr.out
        show _ = _
        rw [← this]
        simp only [rightB, inB, Bool.and_eq_false_iff, decide_eq_false_iff_not]
        omega
      obtain rfl := hr.out
      clear hr
      go_enter Try.func24, Try.ntmps24
      go_wp2
      go_ret
      exact ⟨by first | rfl | exact ret_b (by simp), (Upd.refl _ _).alloc _⟩
    by_cases g7 : t3 < 2147483648
    case neg =>
      replace hr : Hid (b = false) := by
        have := hr.out
        show _ = _
        rw [← this]
        simp only [rightB, inB, Bool.and_eq_false_iff, decide_eq_false_iff_not]
        omega
      obtain rfl := hr.out
      clear hr
      go_enter Try.func24, Try.ntmps24
      go_wp2
      go_ret
      exact ⟨by first | rfl | exact ret_b (by simp), (Upd.refl _ _).alloc _⟩
    replace hr : Hid (b = (decide (t4 = 1) || decide (t4 = 2))) := by
      have := hr.out
      show _ = _
      rw [← this]
      have q0 : inB t0 3 = true := by simp only [inB, Bool.and_eq_true, decide_eq_true_eq]; omega
      have q1 : inB t1 2147483647 = true := by simp only [inB, Bool.and_eq_true, decide_eq_true_eq]; omega
      have q2 : inB t2 63 = true := by simp only [inB, Bool.and_eq_true, decide_eq_true_eq]; omega
      have q3 : inB t3 2147483647 = true := by simp only [inB, Bool.and_eq_true, decide_eq_true_eq]; omega
      simp [rightB, q0, q1, q2, q3]
    obtain rfl := hr.out
    clear hr
    by_cases h1 : t4 = 1
    · subst h1
      go_enter Try.func24, Try.ntmps24
      go_wp2
      go_ret
      exact ⟨by first | rfl | exact ret_b (by simp), (Upd.refl _ _).alloc _⟩
    · have hb : (t4 == 1) = false := beq_eq_false_iff_ne.mpr h1
      go_enter Try.func24, Try.ntmps24
      go_wp2
      go_ret
      exact ⟨ret_b (by simp [h1]; first | rfl | done), (Upd.refl _ _).alloc _⟩
  exact hall _ (Lib.hid rfl)
end Go.Proofs.Ythppheklnplljaa.Tag
