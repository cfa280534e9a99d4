/-
  Frames: what is made, with one byte turned, is not opened. Conditions: each lemma's own.
-/
import Derived.Test.YthppheklnplljaaFrameP
namespace Go.Proofs.Ythppheklnplljaa.Frame
open Go.Proofs.Ythppheklnplljaa.Word Go.Proofs.Ythppheklnplljaa.Sum
theorem tb_ne (c : UInt8) {y : Nat} (h : y < 256) (h0 : y ≠ 0) : tb c y ≠ c := by
  intro e
  have h1 := congrArg UInt8.toNat e
  rw [tb_nat c h] at h1
  have := congrArg (c.toNat ^^^ ·) h1
  simp only [← Nat.xor_assoc, Nat.xor_self, Nat.zero_xor] at this
  exact h0 this
theorem stp_ne {v : Nat} (hv : v < 4294967296) {c d : UInt8} (h : c ≠ d) : stp v c ≠ stp v d := by
  intro e
  rw [stp_eq, stp_eq] at e
  have hl : ∀ c : UInt8, v ^^^ c.toNat < 4294967296 := fun c => xor_lt hv (Nat.lt_of_lt_of_le c.toNat_lt (by decide))
  have h1 : bsN 8 (v ^^^ c.toNat) ^^^ bsN 8 (v ^^^ d.toNat) = 0 := by rw [e, Nat.xor_self]
  rw [← bsN_xor] at h1
  have h2 := bsN_inj 8 (xor_lt (hl c) (hl d)) h1
  have h3 : v ^^^ c.toNat = v ^^^ d.toNat := by
    have := congrArg (· ^^^ (v ^^^ d.toNat)) h2
    simpa [Nat.xor_assoc] using this
  have h4 := congrArg (v ^^^ ·) h3
  simp only [← Nat.xor_assoc, Nat.xor_self, Nat.zero_xor] at h4
  exact h (UInt8.toNat_inj.1 h4)
theorem onL_ne (l : List UInt8) {i : Nat} (hi : i < l.length) {d : UInt8} (h : d ≠ l[i]) : onL 0 (l.set i d) ≠ onL 0 l := by
  have e : crc (nt 0) (l.set i d) ≠ crc (nt 0) l := by
    have e1 : l.set i d = l.take i ++ (d :: l.drop (i + 1)) := by rw [List.set_eq_take_append_cons_drop, if_pos hi]
    have e2 : l = l.take i ++ (l[i] :: l.drop (i + 1)) := by rw [← List.drop_eq_getElem_cons hi, List.take_append_drop]
    rw [e1, crc_append]
    conv => rhs; rw [e2, crc_append]
    have hc := crc_lt (nt_lt 0) (l.take i)
    exact crc_ne (stp_lt hc d) (stp_lt hc l[i]) (stp_ne hc h) _
  have h1 := crc_lt (nt_lt 0) (l.set i d)
  have h2 := crc_lt (nt_lt 0) l
  unfold onL nt at *
  omega
theorem set_self {l : List UInt8} {i : Nat} (hi : i < l.length) {d : UInt8} (h : d ≠ l[i]) : l.set i d ≠ l := by
  intro e
  have h1 : (l.set i d)[i]? = some d := by rw [List.getElem?_set]; simp [hi]
  rw [e, List.getElem?_eq_getElem hi] at h1
  injection h1 with h1
  exact h h1.symm
/-- One byte turned, but none of the size. -/
theorem opn_turned (k : Nat) (body r F : List UInt8) (hF : F = frameL k body ++ r) (hb : body.length ≤ 65535) (i : Nat) (hi : i < 7 + body.length) (hiF : i < F.length) (h1 : i ≠ 1) (h2 : i ≠ 2) (d : UInt8) (hd : d ≠ F[i]) :
    (opn (F.set i d)).e = 14 := by
  have hhl := headL_len k body
  have hl : F.length = 7 + body.length + r.length := by rw [hF, List.length_append, frameL_len]
  have hh : F = le k 1 ++ (le body.length 2 ++ (body ++ (le (onL 0 (headL k body)) 4 ++ r))) := by rw [hF]; simp [frameL, headL]
  have hs0 : (F.drop 1).take 2 = le body.length 2 := by
    rw [hh, List.drop_left' (le_len k 1), List.take_left' (le_len _ 2)]
  have ht : F.take (3 + body.length) = headL k body := by
    rw [hF]
    unfold frameL
    rw [List.append_assoc, List.take_left' hhl]
  have hdr : (F.drop (3 + body.length)).take 4 = le (onL 0 (headL k body)) 4 := by
    rw [hF]
    unfold frameL
    rw [List.append_assoc, List.drop_left' hhl, List.take_left' (le_len _ _)]
  have hs : sz (F.set i d) = body.length := by
    have e : ((F.set i d).drop 1).take 2 = (F.drop 1).take 2 := by
      by_cases h0 : i = 0
      · rw [List.drop_set, if_pos (by omega)]
      · rw [List.drop_set, if_neg (by omega), List.take_set, List.set_eq_of_length_le (by rw [List.length_take]; omega)]
    unfold sz
    rw [e, hs0, num_le, Nat.mod_eq_of_lt (by omega)]
  have hne : num (((F.set i d).drop (3 + body.length)).take 4) ≠ onL 0 ((F.set i d).take (3 + body.length)) := by
    by_cases hc : i < 3 + body.length
    · rw [List.drop_set, if_pos hc, hdr, List.take_set, num_le, Nat.mod_eq_of_lt (onL_lt _ _), ← ht]
      refine fun e => onL_ne (F.take (3 + body.length)) (i := i) (by rw [List.length_take]; omega) (d := d) ?_ e.symm
      rw [List.getElem_take]
      exact hd
    · rw [List.drop_set, if_neg hc, List.take_set, List.take_set, ht, List.set_eq_of_length_le (by omega : (headL k body).length ≤ i)]
      intro e
      have hxl : ((F.drop (3 + body.length)).take 4).length = 4 := by rw [hdr, le_len]
      have hlt : i - (3 + body.length) < ((F.drop (3 + body.length)).take 4).length := by omega
      have h3 := le_num ((((F.drop (3 + body.length)).take 4)).set (i - (3 + body.length)) d)
      rw [List.length_set, hxl, e, ← hdr] at h3
      refine set_self hlt (d := d) ?_ h3.symm
      rw [List.getElem_take, List.getElem_drop]
      simpa [show 3 + body.length + (i - (3 + body.length)) = i by omega] using hd
  unfold opn
  rw [hs, if_neg (by rw [List.length_set]; omega), if_pos hne]
end Go.Proofs.Ythppheklnplljaa.Frame
