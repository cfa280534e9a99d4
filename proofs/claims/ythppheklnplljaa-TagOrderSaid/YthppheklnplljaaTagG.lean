/-
  Tags: a right tag's bytes are parsed to it. Conditions: each lemma's own.
-/
import Derived.Test.YthppheklnplljaaTagE
namespace Go.Proofs.Ythppheklnplljaa.Tag
open Go.Proofs.Ythppheklnplljaa.Word Go.Proofs.Ythppheklnplljaa.Frame
theorem num_read (v k : Nat) (r : List UInt8) (h : szd (k : Int) = true) (hv : v < 256 ^ k) : (⟨le v k ++ r, 0⟩ : Rd).number (k : Int) = (v, ⟨r, 0⟩) := by
  have hl := le_len v k
  unfold Rd.number Rd.next
  rw [if_pos h, Int.toNat_natCast, if_neg (by simp), if_neg (by simp [hl])]
  rw [List.take_append_of_le_length (by omega), List.take_of_length_le (by omega), num_le, Nat.mod_eq_of_lt hv, List.drop_append_of_le_length (by omega), List.drop_of_length_le (by omega)]
  rfl
theorem body_right {t : Tg} (h : rightB t = true) : bodyL t = le t.tenant.toNat 1 ++ (le t.epoch.toNat 4 ++ (le t.place.toNat 1 ++ (le t.seq.toNat 4 ++ (le t.kind.toNat 1 ++ le (c01 t.copy).toNat 1)))) := by
  obtain ⟨t0, t1, t2, t3, t4, t5⟩ := t
  obtain ⟨⟨a0, a1⟩, ⟨b0, b1⟩, ⟨c0, c1⟩, ⟨d0, d1⟩, hk⟩ := right_bounds h
  simp only at *
  obtain ⟨n0, rfl⟩ := Int.eq_ofNat_of_zero_le a0
  obtain ⟨n1, rfl⟩ := Int.eq_ofNat_of_zero_le b0
  obtain ⟨n2, rfl⟩ := Int.eq_ofNat_of_zero_le c0
  obtain ⟨n3, rfl⟩ := Int.eq_ofNat_of_zero_le d0
  obtain ⟨n4, rfl⟩ : ∃ n : Nat, t4 = n := Int.eq_ofNat_of_zero_le (by omega)
  obtain ⟨n5, h5, h5b⟩ : ∃ n : Nat, c01 t5 = n ∧ n ≤ 1 := by
    cases t5
    · exact ⟨0, rfl, by omega⟩
    · exact ⟨1, rfl, by omega⟩
  unfold bodyL
  simp only [h5]
  rw [putL_1' n0 (by omega), putL_4' _ n1 (by omega), putL_1' n2 (by omega), putL_4' _ n3 (by omega), putL_1' n4 (by omega), putL_1' n5 (by omega)]
  simp
theorem body_len {t : Tg} (h : rightB t = true) : (bodyL t).length = 12 := by
  rw [body_right h]
  simp [le_len]
theorem bytes_len {t : Tg} (h : rightB t = true) : (bytesB t).1.length = 19 := by
  rw [bytes_right h, frameL_len, body_len h]
theorem got_right {t : Tg} (h : rightB t = true) : got (bodyL t) = ⟨t.tenant.toNat, t.epoch.toNat, t.place.toNat, t.seq.toNat, t.kind.toNat, t.copy, 0⟩ := by
  obtain ⟨⟨a0, a1⟩, ⟨b0, b1⟩, ⟨c0, c1⟩, ⟨d0, d1⟩, hk⟩ := right_bounds h
  rw [body_right h]
  unfold got
  have e1 : ∀ v r, v < 256 → (⟨le v 1 ++ r, 0⟩ : Rd).number 1 = (v, ⟨r, 0⟩) := fun v r h => num_read v 1 r rfl h
  have e4 : ∀ v r, v < 4294967296 → (⟨le v 4 ++ r, 0⟩ : Rd).number 4 = (v, ⟨r, 0⟩) := fun v r h => num_read v 4 r rfl h
  have q1 := e1 t.tenant.toNat (le t.epoch.toNat 4 ++ (le t.place.toNat 1 ++ (le t.seq.toNat 4 ++ (le t.kind.toNat 1 ++ le (c01 t.copy).toNat 1)))) (by omega)
  have q2 := e4 t.epoch.toNat (le t.place.toNat 1 ++ (le t.seq.toNat 4 ++ (le t.kind.toNat 1 ++ le (c01 t.copy).toNat 1))) (by omega)
  have q3 := e1 t.place.toNat (le t.seq.toNat 4 ++ (le t.kind.toNat 1 ++ le (c01 t.copy).toNat 1)) (by omega)
  have q4 := e4 t.seq.toNat (le t.kind.toNat 1 ++ le (c01 t.copy).toNat 1) (by omega)
  have q5 := e1 t.kind.toNat (le (c01 t.copy).toNat 1) (by omega)
  have q6 := e1 (c01 t.copy).toNat [] (by cases t.copy <;> decide)
  rw [List.append_nil] at q6
  simp only [q1, q2, q3, q4, q5]
  have hf : (⟨le (c01 t.copy).toNat 1, 0⟩ : Rd).flag = (t.copy, ⟨[], 0⟩) := by
    unfold Rd.flag
    rw [q6]
    cases t.copy <;> rfl
  rw [hf]
  rfl
theorem whl_mk (k : Nat) (body : List UInt8) (hk : k ≤ 255) (hb : body.length ≤ 65535) : whl (frameL k body) k = (body, 0) := by
  have h := opn_mk k body [] hk hb
  rw [List.append_nil] at h
  unfold whl
  rw [h]
  simp [frameL_len]
theorem parse_right {t : Tg} (h : rightB t = true) : parseT (bytesB t).1 = (t, 0) := by
  have hl := body_len h
  have hw : whl (bytesB t).1 84 = (bodyL t, 0) := by rw [bytes_right h]; exact whl_mk 84 _ (by omega) (by omega)
  have hg : gotT (got (bodyL t)) = t := by
    obtain ⟨⟨a0, a1⟩, ⟨b0, b1⟩, ⟨c0, c1⟩, ⟨d0, d1⟩, hk⟩ := right_bounds h
    rw [got_right h]
    obtain ⟨t0, t1, t2, t3, t4, t5⟩ := t
    simp only at *
    unfold gotT
    simp only [Tg.mk.injEq, and_true]
    omega
  unfold parseT
  rw [hw, if_neg (by simp), hg, if_neg (by rw [got_right h, h]; simp)]
end Go.Proofs.Ythppheklnplljaa.Tag
