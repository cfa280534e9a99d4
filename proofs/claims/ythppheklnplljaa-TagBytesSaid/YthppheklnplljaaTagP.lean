/-
  Tags: what the bytes of one are. Conditions: each lemma's own.
-/
import Derived.Test.YthppheklnplljaaTagB
import Derived.Test.YthppheklnplljaaFrameP
namespace Go.Proofs.Ythppheklnplljaa.Tag
open Go.Proofs.Ythppheklnplljaa.Word Go.Proofs.Ythppheklnplljaa.Frame
def c01 (b : Bool) : Int := if b then 1 else 0
/-- The body, as both build it. -/
def bodyL (t : Tg) : List UInt8 := putL (putL (putL (putL (putL (putL [] t.tenant 1) t.epoch 4) t.place 1) t.seq 4) t.kind 1) (c01 t.copy) 1
def bytesB (t : Tg) : List UInt8 × Int := if rightB t then mk 84 (bodyL t) else ([], 1)
theorem bodyL_le (t : Tg) : (bodyL t).length ≤ 24 := by
  unfold bodyL
  have h1 := (putL_len [] t.tenant 1).2
  have h2 := (putL_len (putL [] t.tenant 1) t.epoch 4).2
  have h3 := (putL_len (putL (putL [] t.tenant 1) t.epoch 4) t.place 1).2
  have h4 := (putL_len (putL (putL (putL [] t.tenant 1) t.epoch 4) t.place 1) t.seq 4).2
  have h5 := (putL_len (putL (putL (putL (putL [] t.tenant 1) t.epoch 4) t.place 1) t.seq 4) t.kind 1).2
  have h6 := (putL_len (putL (putL (putL (putL (putL [] t.tenant 1) t.epoch 4) t.place 1) t.seq 4) t.kind 1) (c01 t.copy) 1).2
  simp only [List.length_nil] at h1
  omega
theorem right_bounds {t : Tg} (h : rightB t = true) : (0 ≤ t.tenant ∧ t.tenant ≤ 3) ∧ (0 ≤ t.epoch ∧ t.epoch ≤ 2147483647) ∧ (0 ≤ t.place ∧ t.place ≤ 63) ∧ (0 ≤ t.seq ∧ t.seq ≤ 2147483647) ∧ (t.kind = 1 ∨ t.kind = 2) := by
  simpa [rightB, inB, and_assoc] using h
theorem bytes_right {t : Tg} (h : rightB t = true) : bytesB t = (frameL 84 (bodyL t), 0) := by
  have hl := bodyL_le t
  unfold bytesB
  rw [if_pos h]
  unfold mk
  rw [if_neg (by decide), if_neg (by omega)]
  rfl
theorem newB_self (t : Tg) : newB t t = false := by
  unfold newB
  rw [if_pos rfl]
  cases t.copy <;> rfl
theorem newB_not (a b : Tg) : (newB a b && newB b a) = false := by
  unfold newB
  by_cases h : a.seq = b.seq
  · rw [if_pos h, if_pos h.symm]
    cases a.copy <;> cases b.copy <;> rfl
  · rw [if_neg h, if_neg (fun e => h e.symm)]
    simp
    omega
theorem newB_trans (a b c : Tg) (h1 : newB a b = true) (h2 : newB b c = true) : newB a c = true := by
  unfold newB at *
  split at h1 <;> split at h2 <;> simp at h1 h2
  · rw [if_pos (by omega)]
    simp_all
  · rw [if_neg (by omega)]
    simp
    omega
  · rw [if_neg (by omega)]
    simp
    omega
  · rw [if_neg (by omega)]
    simp
    omega
theorem newB_some (a b : Tg) : (newB a b || newB b a) = (a.seq != b.seq || a.copy != b.copy) := by
  unfold newB
  by_cases h : a.seq = b.seq
  · rw [if_pos h, if_pos h.symm, h]
    cases a.copy <;> cases b.copy <;> simp
  · rw [if_neg h, if_neg (fun e => h e.symm)]
    have : (a.seq != b.seq) = true := bne_iff_ne.mpr h
    rw [this]
    simp
    omega
end Go.Proofs.Ythppheklnplljaa.Tag
