/-
  The bytes of a set. Conditions: each lemma's own.
-/
import Derived.Test.YtjkojhebgkgdaaaDoorBitN
import Derived.Test.YtjkojhebgkgdaaaDoorWordR
import Derived.Test.YtjkojhebgkgdaaaDoorWordGx
namespace Go.Proofs.YtjkojhebgkgdaaaDoor.Bit
open Go.RowKit Go.Proofs.YtjkojhebgkgdaaaDoor.Base Go.Proofs.YtjkojhebgkgdaaaDoor.Ecc Go.Proofs.YtjkojhebgkgdaaaDoor.Word
set_option linter.unusedVariables false
set_option linter.unusedSimpArgs false
set_option maxRecDepth 100000
def bytesL (L : List Bool) : List UInt8 := le L.length 2 ++ bodyL L
theorem bytesL_len (L : List Bool) : (bytesL L).length = 2 + (L.length + 7) / 8 := by
  unfold bytesL
  rw [List.length_append, le_len, bodyL_len]
theorem put_head {n : Nat} (h : n ≤ 4096) : putL [] (n : Int) 2 = le n 2 := by
  unfold putL
  rw [fits_2, if_pos (by simp; omega)]
  rfl
theorem shr_byte {L : List Bool} {i : Nat} : (wordL L (i / 8) : Int) / 2 ^ (i % 8 * 8) % 256 = ((UInt8.ofNat (byteL L i)).toNat : Int) := by
  rw [UInt8.toNat_ofNat', Nat.mod_eq_of_lt (byteL_lt L i), ← byte_word]
  have h : ((2 : Int) ^ (8 * (i % 8))) = ((2 ^ (8 * (i % 8)) : Nat) : Int) := by rw [Int.natCast_pow]; rfl
  rw [Nat.mul_comm (i % 8), h, ← Int.natCast_ediv]
  omega
set_option maxHeartbeats 4000000 in
theorem bytesC (L : List Bool) (g gb : Nat) (w : World) (h : SetAt w g gb L) (hl : L.length ≤ 4096) : Calls Tryd.prog 11 #[.pointer (some ⟨g, 0, none⟩)] w fun e w' => ∃ v, e = .returned v ∧ Sl w' w.heap.size 5 1 bc v (bytesL L) ∧ Upd Nil w w' := by
  have kp := Word.put none 0 [] (L.length : Int) 2 w (.inl rfl) (by simp)
  unfold PutR at kp
  rw [put_head hl] at kp
  have c0 := blk_cell h.1 0
  simp only [List.getElem?_toArray, List.getElem?_cons_zero, List.getElem?_cons_succ] at c0
  have hm := Lib.hid (show ∀ i, i < (L.length + 7) / 8 → i / 8 < nw L.length from fun i hi => by unfold nw; omega)
  have hst := fun i (hi : i < (L.length + 7) / 8) => bodyL_step L hi
  have hq : Int.tdiv ((L.length : Int) + 7) 8 = (((L.length + 7) / 8 : Nat) : Int) := by rw [Int.tdiv_eq_ediv_of_nonneg (by omega)]; omega
  have hbl := bodyL_len L
  obtain ⟨n, hn⟩ : ∃ n, n = (L.length + 7) / 8 := ⟨_, rfl⟩
  rw [← hn] at hm hst hq hbl
  have hn5 : n ≤ 512 := by omega
  have hstH := Lib.hid hst
  clear hn hst
  have hnw : nw L.length ≤ 64 := by unfold nw; omega
  obtain ⟨m, hml⟩ : ∃ m, m = L.length := ⟨_, rfl⟩
  have hmlH := Lib.hid hml
  rw [← hml] at c0 kp hq hl
  clear hml
  go_enter Tryd.func11, Tryd.ntmps11
  go_wp2_with fail
  refine kp.mono ?_
  rintro e w1 ⟨v, rfl, hv, hU1⟩
  have h1 := h.upd0 hU1
  have c1 := blk_cell h1.1 0
  simp only [List.getElem?_toArray, List.getElem?_cons_zero, List.getElem?_cons_succ] at c1
  rw [← hmlH.out] at c1
  go_wp2_with fail
  clear c0 c1 kp hq
  go_loopw [3, 18] (fun s3 s18 wr => ∃ (i : Nat) (V : Value), i ≤ n ∧ s18 = .int .i64 (i : Int) ∧ s3 = V ∧ Sl wr w.heap.size 5 1 bc V (le m 2 ++ (bodyL L).take i) ∧ Upd Nil w wr) (fun _ s18 _ => n - (intOf s18).toNat)
  case atStart => exact ⟨0, _, by omega, by go_num, rfl, by rw [List.take_zero, List.append_nil]; exact hv, hU1⟩
  case round =>
    clear hv hU1 h1
    obtain ⟨i, V, hi, rfl, rfl, hV, hU⟩ := hrel
    by_cases hlt : i < n
    · have hI : (i : Int) < (n : Int) := by omega
      have hs := h.upd0 hU
      have c1 := blk_cell hs.1 1
      simp only [List.getElem?_toArray, List.getElem?_cons_zero, List.getElem?_cons_succ] at c1
      have hq8 := hm.out i hlt
      have y := hs.word hq8
      have hcv := shr_byte (L := L) (i := i)
      have hdq : Int.tdiv (i : Int) 8 = ((i / 8 : Nat) : Int) := by rw [Int.tdiv_eq_ediv_of_nonneg (by omega)]; omega
      have hdr : Int.tmod (i : Int) 8 = ((i % 8 : Nat) : Int) := by rw [Int.tmod_eq_emod_of_nonneg (by omega)]; omega
      have hr8 : i % 8 < 8 := Nat.mod_lt _ (by omega)
      have hqI : ((i / 8 : Nat) : Int) < (nw L.length : Nat) := by omega
      have hstep := Lib.hid (hstH.out i hlt)
      have hl2 : (le m 2 ++ (bodyL L).take i).length ≤ 600 := by rw [List.length_append, le_len, List.length_take]; omega
      obtain ⟨Eo, co, rfl, hco⟩ := hV.form
      have hss := hU.size
      have hlw := wordL_lt L (i / 8)
      generalize UInt8.ofNat (byteL L i) = nb at *
      generalize wordL L (i / 8) = W at *
      generalize i / 8 = q at *
      generalize i % 8 = r at *
      generalize (bodyL L).take i = B at *
      generalize nw L.length = nn at *
      generalize hD : le m 2 ++ B = D at *
      have hl3 : (D.length + 1) * 1 ≤ 140737488355328 ∧ D.length + 1 ≤ maxLen := by unfold maxLen; omega
      have hlH := Lib.hid hl3
      have hDH := Lib.hid hD
      clear hl3 hD
      go_wp2_with (at_builtin; refine wp_app1 w.heap.size rfl (.tmp 21) (.tmp 36) Word.elemU8 rfl wr nb (by rfl) (.slice Eo D.length co) D rfl (by simp [Act.eval]) hV hss hlH.out.1 hlH.out.2 ?_; intro A6 c6 w6 hv6 hg6 hat6)
      have hU6 := hU.grownOwn hV (Nat.le_refl _) hg6
      go_roundw
      case measure => simp [intOf]; omega
      case rel => exact ⟨i + 1, _, by omega, by go_num, rfl, by rw [hstep.out, ← List.append_assoc, hDH.out]; exact hv6, hU6⟩
    · obtain rfl : i = n := by omega
      rw [List.take_of_length_le (by omega), hmlH.out] at hV
      go_wp2_with fail
      go_ret
      exact ⟨_, rfl, hV, hU⟩
end Go.Proofs.YtjkojhebgkgdaaaDoor.Bit
