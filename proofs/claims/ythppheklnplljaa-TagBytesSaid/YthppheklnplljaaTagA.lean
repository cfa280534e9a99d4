/-
  Tags: what one is, and the walks of Newer, the program's and the reference's. Conditions: none.
-/
import Derived.Test.YthppheklnplljaaWordA
namespace Go.Proofs.Ythppheklnplljaa.Tag
open Go.RowKit Go.Proofs.Ythppheklnplljaa.Base Go.Proofs.Ythppheklnplljaa.Word
set_option linter.unusedVariables false
set_option linter.unusedSimpArgs false
structure Tg where
  tenant : Int
  epoch : Int
  place : Int
  seq : Int
  kind : Int
  copy : Bool
def tgV (t : Tg) : Value := .agg #[.int .i64 t.tenant, .int .i64 t.epoch, .int .i64 t.place, .int .i64 t.seq, .int .i64 t.kind, .bool t.copy]
/-- The count's tests. -/
def inB (n m : Int) : Bool := decide (0 ≤ n) && decide (n ≤ m)
def newB (a b : Tg) : Bool := if a.seq = b.seq then !a.copy && b.copy else decide (b.seq < a.seq)
theorem within (n m : Int) (w : World) : Calls Try.prog 54 #[.int .i64 n, .int .i64 m] w fun e w' => e = .returned (.bool (inB n m)) ∧ w = w' := by
  by_cases h : 0 ≤ n
  · have hr : Hid (inB n m = decide (n ≤ m)) := by show _ = _; simp [inB, h]
    go_enter Try.func54, Try.ntmps54
    go_wp2
    go_ret
    exact ⟨ret_b hr.out.symm, rfl⟩
  · have hr : Hid (inB n m = false) := by show _ = _; simp [inB, h]
    go_enter Try.func54, Try.ntmps54
    go_wp2
    go_ret
    exact ⟨ret_b hr.out.symm, rfl⟩
theorem newer (a b : Tg) (w : World) : Calls Try.prog 25 #[tgV a, tgV b] w (RetB (newB a b) w) := by
  obtain ⟨a0, a1, a2, a3, a4, a5⟩ := a
  obtain ⟨b0, b1, b2, b3, b4, b5⟩ := b
  by_cases h : a3 = b3
  · subst h
    have hr : Hid (newB ⟨a0, a1, a2, a3, a4, a5⟩ ⟨b0, b1, b2, a3, b4, b5⟩ = (!a5 && b5)) := by show _ = _; simp [newB]
    cases a5 <;> cases b5 <;> (
    unfold tgV
    go_enter Try.func25, Try.ntmps25
    go_wp2
    go_ret
    exact ⟨ret_b hr.out.symm, ((Upd.refl _ _).alloc _).alloc _⟩)
  · have hr : Hid (newB ⟨a0, a1, a2, a3, a4, a5⟩ ⟨b0, b1, b2, b3, b4, b5⟩ = decide (b3 < a3)) := by show _ = _; simp [newB, h]
    have hb : (a3 == b3) = false := beq_eq_false_iff_ne.mpr h
    have hb2 : (a3 != b3) = true := bne_iff_ne.mpr h
    unfold tgV
    go_enter Try.func25, Try.ntmps25
    go_wp2
    go_ret
    exact ⟨ret_b hr.out.symm, ((Upd.refl _ _).alloc _).alloc _⟩
theorem rnewer (a b : Tg) (w : World) : Calls Try.prog 26 #[tgV a, tgV b] w (RetB (newB a b) w) := by
  obtain ⟨a0, a1, a2, a3, a4, a5⟩ := a
  obtain ⟨b0, b1, b2, b3, b4, b5⟩ := b
  by_cases h : a3 = b3
  · subst h
    have hr : Hid (newB ⟨a0, a1, a2, a3, a4, a5⟩ ⟨b0, b1, b2, a3, b4, b5⟩ = (!a5 && b5)) := by show _ = _; simp [newB]
    cases a5 <;> cases b5 <;> (
    unfold tgV
    go_enter Try.func26, Try.ntmps26
    go_wp2
    go_ret
    exact ⟨ret_b hr.out.symm, ((Upd.refl _ _).alloc _).alloc _⟩)
  · have hr : Hid (newB ⟨a0, a1, a2, a3, a4, a5⟩ ⟨b0, b1, b2, b3, b4, b5⟩ = decide (b3 < a3)) := by show _ = _; simp [newB, h]
    have hb : (a3 == b3) = false := beq_eq_false_iff_ne.mpr h
    have hb2 : (a3 != b3) = true := bne_iff_ne.mpr h
    unfold tgV
    go_enter Try.func26, Try.ntmps26
    go_wp2
    go_ret
    exact ⟨ret_b hr.out.symm, ((Upd.refl _ _).alloc _).alloc _⟩
end Go.Proofs.Ythppheklnplljaa.Tag
