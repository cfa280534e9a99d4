/-
  The reference's Bytes and Parse. Conditions: each lemma's own.
-/
import Derived.Test.YtjkojhebgkgdaaaDoorBitS
import Derived.Test.YtjkojhebgkgdaaaDoorLex
namespace Go.Proofs.YtjkojhebgkgdaaaDoor.Bit
open Go.RowKit Go.Proofs.YtjkojhebgkgdaaaDoor.Base Go.Proofs.YtjkojhebgkgdaaaDoor.Word
set_option linter.unusedVariables false
set_option linter.unusedSimpArgs false
set_option maxRecDepth 100000
theorem byte_step (L : List Bool) (t j : Nat) : wv (fun q => bitAt L (8 * t + q)) (j + 1) = wv (fun q => bitAt L (8 * t + q)) j + if bitAt L (8 * t + j) then 2 ^ j else 0 := rfl
theorem byte_u8 (L : List Bool) (t : Nat) : IntKind.u8.wrap ((byteL L t : Nat) : Int) = ((UInt8.ofNat (byteL L t)).toNat : Int) := by
  have := byteL_lt L t
  rw [UInt8.toNat_ofNat', Nat.mod_eq_of_lt this]
  simp [IntKind.wrap, IntKind.bits, IntKind.signed]
  omega
set_option maxHeartbeats 4000000 in
theorem rbytesC (L : List Bool) (A : Option Addr) (c : Nat) (w : World) (hA : Arg w A 1 bc1 L) (hl : L.length ≤ 4096) : Calls Tryd.prog 31 #[.slice A L.length c] w fun e w' => ∃ v, e = .returned v ∧ Sl w' w.heap.size 5 1 bc v (bytesL L) ∧ Upd Nil w w' := by
  have kp := Word.rput none 0 [] (L.length : Int) 2 w (.inl rfl) (by simp)
  unfold PutR at kp
  rw [put_head hl] at kp
  have kh := fun n : Nat => fun w hA => rhasC L A c (n : Int) w hA hl
  simp only [hasI_nat] at kh
  have hbl := bodyL_len L
  have hst := fun i (hi : i < (L.length + 7) / 8) => bodyL_step L hi
  obtain ⟨n, hn⟩ : ∃ n, n = (L.length + 7) / 8 := ⟨_, rfl⟩
  have hpk := Lib.hid (show (∀ t, t < n → 8 * t < L.length) ∧ L.length ≤ 8 * n from ⟨fun t ht => by omega, by omega⟩)
  rw [← hn] at hst hbl
  have hn5 : n ≤ 512 := by omega
  have hstH := Lib.hid hst
  clear hst hn
  unfold bytesL
  obtain ⟨m, hml⟩ : ∃ m, m = L.length := ⟨_, rfl⟩
  rw [← hml] at kp hl kh hpk ⊢
  clear hml
  go_enter Tryd.func31, Tryd.ntmps31
  go_wp2_with fail
  refine kp.mono ?_
  rintro e w1 ⟨v, rfl, hv, hU1⟩
  go_wp2_with fail
  clear kp
  go_loopw [3, 4] (fun s3 s4 wr => ∃ (t : Nat) (V : Value), t ≤ n ∧ s4 = .int .i64 ((8 * t : Nat) : Int) ∧ s3 = V ∧ Sl wr w.heap.size 5 1 bc V (le m 2 ++ (bodyL L).take t) ∧ Upd Nil w wr) (fun _ s4 _ => 8 * n + 8 - (intOf s4).toNat)
  case atStart => exact ⟨0, _, by omega, by go_num, rfl, by rw [List.take_zero, List.append_nil]; exact hv, hU1⟩
  case round =>
    clear hv hU1
    obtain ⟨t, V, ht, rfl, rfl, hV, hU⟩ := hrel
    by_cases hlt : t < n
    · have h8 := hpk.out.1 t hlt
      have hstep := Lib.hid (hstH.out t hlt)
      have hl2 : (le m 2 ++ (bodyL L).take t).length ≤ 600 := by rw [List.length_append, le_len, List.length_take]; omega
      have hbu := byte_u8 L t
      have hbs := Lib.hid (fun j => byte_step L t j)
      have hbz : Hid (byteL L t = wv (fun q => bitAt L (8 * t + q)) 8) := Lib.hid rfl
      have hvl := fun j => wv_lt (fun q => bitAt L (8 * t + q)) j
      have hb0 : Hid (wv (fun q => bitAt L (8 * t + q)) 0 = 0) := Lib.hid rfl
      generalize (bodyL L).take t = B at *
      have kht := fun j : Nat => kh (8 * t + j)
      obtain ⟨f, hf⟩ : ∃ f, f = wv (fun q => bitAt L (8 * t + q)) := ⟨_, rfl⟩
      rw [← hf] at hbs hbz hvl hb0
      clear hf
      generalize UInt8.ofNat (byteL L t) = nb at *
      generalize byteL L t = bl at *
      obtain ⟨t8, ht8⟩ : ∃ t8, t8 = 8 * t := ⟨_, rfl⟩
      rw [← ht8] at hbs kht h8 ⊢
      have ht8H := Lib.hid ht8
      have ht9 : t8 ≤ 4096 := by omega
      clear ht8
      have h8I : (t8 : Int) < (m : Int) := by omega
      obtain ⟨Eo, co, rfl, hco⟩ := hV.form
      generalize hD : le m 2 ++ B = D at *
      have hDH := Lib.hid hD
      clear hD
      go_wp2_with fail
      go_loopw [5, 6, 7] (fun s5 s6 s7 wq => ∃ j : Nat, j ≤ 8 ∧ s5 = .int .i64 (f j : Nat) ∧ s6 = .int .i64 ((2 ^ j : Nat) : Int) ∧ s7 = .int .i64 ((t8 + j : Nat) : Int) ∧ wq = wr) (fun _ _ s7 _ => t8 + 8 - (intOf s7).toNat)
      case atStart => exact ⟨0, by omega, by rw [hb0.out]; go_num, by go_num, by go_num, rfl⟩
      case round =>
        obtain ⟨j, hj, rfl, rfl, rfl, rfl⟩ := hrel
        by_cases hj8 : j < 8
        · have hjI : ((t8 + j : Nat) : Int) < (t8 : Int) + 8 := by omega
          have hp : 2 ^ j ≤ 2 ^ 7 := Nat.pow_le_pow_right (by omega) (by omega)
          have hp2 : 2 ^ (j + 1) = 2 ^ j * 2 := Nat.pow_succ ..
          have hfj := hvl j
          have hfs := hbs.out j
          have khj := kht j _ (hA.upd hU)
          have hpH := Lib.hid (And.intro hfs hp2)
          clear hfs hp2
          generalize hx : bitAt L (t8 + j) = x at *
          generalize 2 ^ j = p at *
          generalize f j = fj at *
          generalize hq : t8 + j = q at *
          clear hx
          cases x with
          | true =>
            have h1 := Lib.hid (show f (j + 1) = fj + p by have := hpH.out.1; simpa using this)
            go_wp2_with fail
            refine khj.mono ?_
            rintro e w' ⟨rfl, rfl⟩
            go_wp2_with fail
            go_roundw
            case measure => simp [intOf]; omega
            case rel => exact ⟨j + 1, by omega, by rw [h1.out]; go_num, by rw [hpH.out.2]; go_num, by rw [← Nat.add_assoc, hq]; go_num, trivial⟩
          | false =>
            have h1 := Lib.hid (show f (j + 1) = fj by have := hpH.out.1; simpa using this)
            go_wp2_with fail
            refine khj.mono ?_
            rintro e w' ⟨rfl, rfl⟩
            go_wp2_with fail
            go_roundw
            case measure => simp [intOf]; omega
            case rel => exact ⟨j + 1, by omega, by rw [h1.out], by rw [hpH.out.2]; go_num, by rw [← Nat.add_assoc, hq]; go_num, trivial⟩
        · obtain rfl : j = 8 := by omega
          rw [← hbz.out]
          have hss := hU.size
          have hl3 : (D.length + 1) * 1 ≤ 140737488355328 ∧ D.length + 1 ≤ maxLen := by unfold maxLen; omega
          have hlH := Lib.hid hl3
          have hbl9 : bl < 256 := by rw [hbz.out]; exact hvl 8
          clear hl3 hvl kh kht hbz hbs
          go_wp2_with (at_builtin; refine wp_app1 w.heap.size rfl (.tmp 32) (.tmp 35) Word.elemU8 rfl wr nb (by rfl) (.slice Eo D.length co) D rfl (by simp [Act.eval]) hV hss hlH.out.1 hlH.out.2 ?_; intro A6 c6 w6 hv6 hg6 hat6)
          have hU6 := hU.grownOwn hV (Nat.le_refl _) hg6
          have h89 := ht8H.out
          refine ⟨⟨t + 1, _, by omega, by go_num, rfl, by rw [hstep.out, ← List.append_assoc, hDH.out]; exact hv6, hU6⟩, ?_⟩
          simp [intOf]
          omega
    · obtain rfl : t = n := by omega
      rw [List.take_of_length_le (by omega)] at hV
      have h8I : ¬ ((8 * t : Nat) : Int) < (m : Int) := by have := hpk.out.2; omega
      generalize 8 * t = t8 at *
      go_wp2_with fail
      go_ret
      exact ⟨_, rfl, hV, hU⟩
theorem far_of {w : World} {A : Option Addr} {n c : Nat} {l : List UInt8} (h : Arg w A 1 bc l) : Far (· < w.heap.size) (.slice A n c) l := by
  rcases h with h | ⟨b, off, rfl, h2, _⟩
  · exact .inl h
  · refine .inr (fun k hk => ?_)
    have : b = k := by simpa [Value.ownBlock] using hk
    subst this
    exact h2
theorem preL_set {b : List UInt8} {n : Nat} (h : n < sizeB b) : (preL b n).set n (bitB b n) = preL b (n + 1) := by
  refine bit_ext (by simp [preL_len]) (fun i hi => ?_)
  rw [List.length_set, preL_len] at hi
  rw [bit_set _ _ _ (by rw [preL_len]; exact h), preL_bit _ _ _ hi, preL_bit _ _ _ hi]
  by_cases e : i = n
  · subst e
    rw [if_pos rfl]
    simp
  · rw [if_neg e]
    simp only [show decide (i < n + 1) = decide (i < n) by simp; omega]
theorem preL_all (b : List UInt8) : preL b (sizeB b) = rawL b := by
  unfold preL rawL
  refine List.map_congr_left fun i hi => ?_
  rw [List.mem_range] at hi
  simp [hi]
theorem parse_short {b : List UInt8} {n : Nat} (h : n < sizeB b) (hn : b.length ≤ 2 + n / 8) : parseL b = none := by
  unfold parseL
  split
  · rfl
  · rw [if_neg]
    intro e
    have := bytesL_len (rawL b)
    rw [e] at this
    simp only [rawL, List.length_map, List.length_range] at this
    omega
def RParR (r : Option (List Bool)) (w : World) (e : Ending) (w' : World) : Prop := Upd Nil w w' ∧ match r with
  | none => e = .returned (.tuple #[.slice none 0 0, .int .i64 2])
  | some L => ∃ g, e = .returned (.tuple #[.slice (some ⟨g, 0, none⟩) L.length L.length, .int .i64 0]) ∧ w.heap.size ≤ g ∧ Sl w' w.heap.size 4 1 bc1 (.slice (some ⟨g, 0, none⟩) L.length L.length) L
theorem qnum_short {b : List UInt8} (h : b.length < 2) : (⟨b, 0⟩ : Rd).number 2 = (0, ⟨b, 2⟩) := by
  unfold Rd.number
  rw [if_pos (by rfl)]
  unfold Rd.next
  rw [if_neg (by simp), if_pos (by simpa using h)]
  rfl
theorem qnum_long {b : List UInt8} (h : ¬ b.length < 2) : (⟨b, 0⟩ : Rd).number 2 = (sizeB b, ⟨b.drop 2, 0⟩) := by
  unfold Rd.number
  rw [if_pos (by rfl)]
  unfold Rd.next
  rw [if_neg (by simp), if_neg (by simpa using h)]
  rfl
set_option maxHeartbeats 8000000 in
theorem rparseC (A : Option Addr) (c : Nat) (b : List UInt8) (w : World) (hA : Arg w A 1 bc b) (hc : b.length ≤ c) (hcm : c ≤ maxLen) (hb : b.length ≤ 1000000) : Calls Tryd.prog 8 #[.slice A b.length c] w (RParR (parseL b) w) := by
  by_cases h2 : b.length < 2
  · have hzN := Lib.hid (show parseL b = none by unfold parseL; rw [if_pos (.inl h2)])
    have hnum := qnum_short h2
    have hU0 : Upd Nil w (w.alloc (.cells #[.slice A b.length c, .int .i64 0] 57)) := (Upd.refl _ _).alloc _
    have hQ0 : QRd (· < w.heap.size) (w.alloc (.cells #[.slice A b.length c, .int .i64 0] 57)) w.heap.size ⟨b, 0⟩ := ⟨A, c, blk_new _ _, hA.upd hU0, hc, hcm, far_of hA⟩
    have hq1 := qnumber (· < w.heap.size) w.heap.size (Nat.lt_irrefl _) ⟨b, 0⟩ 2 _ hQ0
    rw [hnum] at hq1
    unfold QR at hq1
    simp only at hq1
    go_enter Tryd.func8, Tryd.ntmps8
    go_wp2_with fail
    refine hq1.mono ?_
    rintro e w2 ⟨rfl, ⟨A3, c3, hb3, _, _, _, _⟩, hU2⟩
    have hU02 := hU0.trans hU2 (fun x hx => .inr (Nat.le_of_eq (by have hx : x = w.heap.size := hx; exact hx.symm)))
    have hcell0 := blk_cell hb3 0
    have hcell1 := blk_cell hb3 1
    simp only [List.getElem?_toArray, List.getElem?_cons_zero, List.getElem?_cons_succ] at hcell0 hcell1
    clear hq1 hQ0 hU0 hU2 hb3 hnum
    go_wp2_with fail
    exact bodyPost_ret (v := .tuple #[.slice none 0 0, .int .i64 2]) (by simp [results, Tryd.results8, go_sem]) rfl (show RParR (parseL b) w _ _ by rw [hzN.out]; exact ⟨hU02, rfl⟩)
  have hnum := qnum_long h2
  have hsz := size_lt b
  by_cases h3 : 4096 < sizeB b
  · have hzN := Lib.hid (show parseL b = none by unfold parseL; rw [if_pos (.inr h3)])
    generalize sizeB b = sz at *
    have h3I : (4096 : Int) < (sz : Int) := by omega
    have hU0 : Upd Nil w (w.alloc (.cells #[.slice A b.length c, .int .i64 0] 57)) := (Upd.refl _ _).alloc _
    have hQ0 : QRd (· < w.heap.size) (w.alloc (.cells #[.slice A b.length c, .int .i64 0] 57)) w.heap.size ⟨b, 0⟩ := ⟨A, c, blk_new _ _, hA.upd hU0, hc, hcm, far_of hA⟩
    have hq1 := qnumber (· < w.heap.size) w.heap.size (Nat.lt_irrefl _) ⟨b, 0⟩ 2 _ hQ0
    rw [hnum] at hq1
    unfold QR at hq1
    simp only at hq1
    go_enter Tryd.func8, Tryd.ntmps8
    go_wp2_with fail
    refine hq1.mono ?_
    rintro e w2 ⟨rfl, ⟨A3, c3, hb3, _, _, _, _⟩, hU2⟩
    have hU02 := hU0.trans hU2 (fun x hx => .inr (Nat.le_of_eq (by have hx : x = w.heap.size := hx; exact hx.symm)))
    have hcell0 := blk_cell hb3 0
    have hcell1 := blk_cell hb3 1
    simp only [List.getElem?_toArray, List.getElem?_cons_zero, List.getElem?_cons_succ] at hcell0 hcell1
    clear hq1 hQ0 hU0 hU2 hb3 hnum
    go_wp2_with fail
    exact bodyPost_ret (v := .tuple #[.slice none 0 0, .int .i64 2]) (by simp [results, Tryd.results8, go_sem]) rfl (show RParR (parseL b) w _ _ by rw [hzN.out]; exact ⟨hU02, rfl⟩)
  have hz : Hid (parseL b = if bytesL (rawL b) = b then some (rawL b) else none) := by
    show _ = _
    unfold parseL
    rw [if_neg (by omega)]
  obtain ⟨sz, hsb⟩ : ∃ sz, sz = sizeB b := ⟨_, rfl⟩
  have hsbH := Lib.hid hsb
  rw [← hsb] at hnum hsz h3
  clear hsb
  have h3I : ¬ (4096 : Int) < (sz : Int) := by omega
  have hU0 : Upd Nil w (w.alloc (.cells #[.slice A b.length c, .int .i64 0] 57)) := (Upd.refl _ _).alloc _
  have hQ0 : QRd (· < w.heap.size) (w.alloc (.cells #[.slice A b.length c, .int .i64 0] 57)) w.heap.size ⟨b, 0⟩ := ⟨A, c, blk_new _ _, hA.upd hU0, hc, hcm, far_of hA⟩
  have hq1 := qnumber (· < w.heap.size) w.heap.size (Nat.lt_irrefl _) ⟨b, 0⟩ 2 _ hQ0
  rw [hnum] at hq1
  unfold QR at hq1
  simp only at hq1
  go_enter Tryd.func8, Tryd.ntmps8
  go_wp2_with fail
  refine hq1.mono ?_
  rintro e w2 ⟨rfl, ⟨A3, c3, hb3, _, _, _, _⟩, hU2⟩
  have hU02 := hU0.trans hU2 (fun x hx => .inr (Nat.le_of_eq (by have hx : x = w.heap.size := hx; exact hx.symm)))
  have hcell0 := blk_cell hb3 0
  have hcell1 := blk_cell hb3 1
  simp only [List.getElem?_toArray, List.getElem?_cons_zero, List.getElem?_cons_succ] at hcell0 hcell1
  clear hq1 hQ0 hU0 hU2 hb3 hnum
  have hmk := mkB sz (by omega) w2
  have hs0 : Sl (w2.alloc (.cells (List.replicate sz (.bool false)).toArray 4)) w2.heap.size 4 1 bc1 (.slice (some ⟨w2.heap.size, 0, none⟩) sz sz) (preL b 0) := by
    rw [preL_zero, ← hsbH.out]
    exact sl_madeB w2 w2.heap.size sz (by omega) (Nat.le_refl _)
  have hU3 := hU02.alloc (.cells (List.replicate sz (.bool false)).toArray 4)
  obtain ⟨W, hW⟩ : ∃ W, W = w2.alloc (.cells (List.replicate sz (.bool false)).toArray 4) := ⟨_, rfl⟩
  rw [← hW] at hmk hU3 hs0
  obtain ⟨g, hg⟩ : ∃ g, g = w2.heap.size := ⟨_, rfl⟩
  rw [← hg] at hs0 hmk
  have hwg : w.heap.size ≤ g := by rw [hg]; exact hU02.size
  clear hW hg hU02
  go_wp2_with fail
  clear hmk hcell0 hcell1
  go_loopw [28] (fun s28 wr => ∃ n : Nat, n ≤ sz ∧ s28 = .int .i64 (n : Int) ∧ Sl wr g 4 1 bc1 (.slice (some ⟨g, 0, none⟩) sz sz) (preL b n) ∧ Upd Nil w wr) (fun s28 _ => sz - (intOf s28).toNat)
  case atStart => exact ⟨0, by omega, by go_num, hs0, hU3⟩
  case round =>
    clear hs0 hU3
    obtain ⟨n, hn, rfl, hs, hU⟩ := hrel
    by_cases hlt : n < sz
    · have hI : (n : Int) < (sz : Int) := by omega
      have hdq : Int.tdiv (n : Int) 8 = ((n / 8 : Nat) : Int) := by rw [Int.tdiv_eq_ediv_of_nonneg (by omega)]; omega
      have hq9 : n / 8 ≤ 512 := by omega
      have hw2 : IntKind.i64.wrap (2 + ((n / 8 : Nat) : Int)) = ((2 + n / 8 : Nat) : Int) := by rw [IntKind.wrap_i64]; omega
      by_cases hin : 2 + n / 8 < b.length
      · obtain ⟨ga, oa, rfl, hga, hcell⟩ : ∃ g o, A = some ⟨g, o, none⟩ ∧ g < wr.heap.size ∧ wr.cell? ⟨g, o + (2 + n / 8), none⟩ = some (.int .u8 (b[2 + n / 8].toNat : Nat)) := by
          rcases hA.upd hU with h | ⟨g, o, h1, h2, h3⟩
          · rw [h] at hin; simp at hin
          · exact ⟨g, o, h1, h2, by simpa [bc] using h3 (2 + n / 8) hin 0 (by omega)⟩
        have hinI : ((2 + n / 8 : Nat) : Int) < (b.length : Int) := by omega
        have hdr : Int.tmod (n : Int) 8 = ((n % 8 : Nat) : Int) := by rw [Int.tmod_eq_emod_of_nonneg (by omega)]; omega
        have hr8 : n % 8 < 8 := Nat.mod_lt _ (by omega)
        have hbb : bitB b n = b[2 + n / 8].toNat.testBit (n % 8) := by
          unfold bitB
          rw [List.getD_eq_getElem?_getD, List.getElem?_eq_getElem hin]
          rfl
        have hx8 := b[2 + n / 8].toNat_lt
        have hst := preL_set (b := b) (n := n) (by rw [← hsbH.out]; exact hlt)
        have hpl := preL_len b n
        rw [← hsbH.out] at hpl
        -- the cell that is stored into
        obtain ⟨hbg, cur, hcur⟩ := hs.typed g rfl
        obtain ⟨g', o', eg, _, hco⟩ := bit_cell (hs.cells bc1_len (by omega)) (i := n) (by rw [hpl]; exact hlt)
        injection eg with eg
        injection eg with eg1 eg2
        subst eg1 eg2
        rw [Nat.zero_add] at hco
        have z := blk_frozen hcur n
        have hs1 := Sl.set1 (f := fun x : Bool => .bool x) hs (i := n) (by rw [hpl]; exact hlt) (bitB b n)
        rw [Nat.zero_add] at hs1
        have hU2 := hU.setNew (i := n) hwg (.bool (bitB b n))
        have hstH := Lib.hid hst
        clear hst hpl
        generalize bitAt (preL b n) n = old at *
        generalize b[2 + n / 8].toNat = x at *
        clear hin
        generalize 2 + n / 8 = q2 at *
        generalize n / 8 = q at *
        have hbit := bit_mod x (n % 8)
        rw [← hbb] at hbit
        have hbitH := Lib.hid hbit
        clear hbb hbit
        generalize n % 8 = r at *
        go_wp2_with fail
        go_loopw [8, 9] (fun s8 s9 wq => ∃ i : Nat, i ≤ r ∧ s9 = .int .i64 (i : Int) ∧ s8 = .int .i64 ((x / 2 ^ i : Nat) : Int) ∧ wq = wr) (fun _ s9 _ => r - (intOf s9).toNat)
        case atStart => exact ⟨0, by omega, by go_num, by rw [Nat.pow_zero, Nat.div_one], rfl⟩
        case round =>
          obtain ⟨i, hi, rfl, rfl, rfl⟩ := hrel
          by_cases hir : i < r
          · have hiI : (i : Int) < (r : Int) := by omega
            have hdv : x / 2 ^ (i + 1) = x / 2 ^ i / 2 := by rw [Nat.pow_succ, Nat.div_div_eq_div_mul]
            have hdvH := Lib.hid hdv
            have hle : x / 2 ^ i ≤ 255 := Nat.le_trans (Nat.div_le_self _ _) (by omega)
            clear hdv
            generalize x / 2 ^ i = y at *
            have hty : Int.tdiv (y : Int) 2 = ((y / 2 : Nat) : Int) := by rw [Int.tdiv_eq_ediv_of_nonneg (by omega)]; omega
            go_wp2_with fail
            go_roundw
            case measure => simp [intOf]; omega
            case rel => exact ⟨i + 1, by omega, by go_num, by rw [hdvH.out]; go_num, trivial⟩
          · obtain rfl : i = r := by omega
            have hle : x / 2 ^ i ≤ 255 := Nat.le_trans (Nat.div_le_self _ _) (by omega)
            have hbit := hbitH.out
            generalize x / 2 ^ i = y at *
            have hty : Int.tmod (y : Int) 2 = ((y % 2 : Nat) : Int) := by rw [Int.tmod_eq_emod_of_nonneg (by omega)]; omega
            rw [hbit] at hty
            clear hbit hbitH
            cases hy : bitB b n with
            | true =>
              rw [hy] at hty hstH hs1 hU2
              have hty : Int.tmod (y : Int) 2 = 1 := hty
              go_wp2_with fail
              go_roundw
              case measure => simp [intOf]; omega
              case rel => exact ⟨n + 1, by omega, by go_num, by rw [← hstH.out]; exact hs1, hU2⟩
            | false =>
              rw [hy] at hty hstH hs1 hU2
              have hty : Int.tmod (y : Int) 2 = 0 := hty
              go_wp2_with fail
              go_roundw
              case measure => simp [intOf]; omega
              case rel => exact ⟨n + 1, by omega, by go_num, by rw [← hstH.out]; exact hs1, hU2⟩
      · have hzN := Lib.hid (parse_short (b := b) (n := n) (by rw [← hsbH.out]; exact hlt) (by omega))
        have hinI : ¬ ((2 + n / 8 : Nat) : Int) < (b.length : Int) := by omega
        generalize 2 + n / 8 = q2 at *
        generalize n / 8 = q at *
        go_wp2_with fail
        exact bodyPost_ret (v := .tuple #[.slice none 0 0, .int .i64 2]) (by simp [results, Tryd.results8, go_sem]) rfl (show RParR (parseL b) w _ _ by rw [hzN.out]; exact ⟨hU, rfl⟩)
    · obtain rfl : n = sz := by omega
      have hpa := preL_all b
      rw [← hsbH.out] at hpa
      rw [hpa] at hs
      have hRl : (rawL b).length = n := by simp [rawL, hsbH.out]
      have hzH := hz
      clear hpa hsbH hz
      generalize rawL b = R at *
      have kb := rbytesC R (some ⟨g, 0, none⟩) n wr.drew ((hs.drew).cells bc1_len (by omega)) (by omega)
      rw [hRl] at kb
      have c1 := fun w' (u : Upd Nil wr.drew w') => cvS ((hA.upd hU.drew).upd u) c
      have hm2 := ByteArray.toList_mk b
      generalize (⟨b.toArray⟩ : ByteArray) = sb at *
      by_cases heq : bytesL R = b
      · have hzz := hzH.out
        rw [if_pos heq] at hzz
        have hzG := Lib.hid hzz
        have hbq : (bytesL R == b) = true := by simpa using heq
        clear hzz hzH heq
        go_upto_region 18 with fail
        refine wp_region_lex Nil [0, 3, 4, 1, 2, 5] (by kernel_rfl) (by kernel_rfl) rfl (by kernel_rfl) ?_
        simp only [inOrder, List.filterMap_cons, List.filterMap_nil, List.getElem?_cons_zero, List.getElem?_cons_succ]
        try simp only [Act.put, List.setIfInBounds_toArray, List.set_cons_zero, List.set_cons_succ]
        repeat
          first
          | (refine lex_pure (v := ?_) rfl rfl ?_ ?_
             rotate_left
             · intro w' hU'
               go_simp
               try with_reducible rfl
             try simp only [Act.put, List.setIfInBounds_toArray, List.set_cons_zero, List.set_cons_succ])
          | (refine lex_skip rfl ?_
             try simp only [Act.put, List.setIfInBounds_toArray, List.set_cons_zero, List.set_cons_succ])
        refine lex_fn (f := 31) (args := _) rfl rfl (by go_simp) (kb.mono ?_)
        rintro e w4 ⟨v4, rfl, hv4, hU4⟩
        obtain ⟨A4, c4, rfl, _⟩ := hv4.form
        refine ⟨_, rfl, hU4, ?_⟩
        have c2 := fun w' (u : Upd Nil w4 w') => cvS ((hv4.cells bc_len (by omega)).upd u) c4
        have hm4 := ByteArray.toList_mk (bytesL R)
        generalize (⟨(bytesL R).toArray⟩ : ByteArray) = s4 at *
        have d1 := fun w' (u : Upd Nil w4 w') => c1 w' (hU4.tr u)
        have hU5 := hU.drew.tr hU4
        clear c1 kb
        try simp only [Act.put, List.setIfInBounds_toArray, List.set_cons_zero, List.set_cons_succ]
        repeat
          first
          | (refine lex_pure (v := ?_) rfl rfl ?_ ?_
             rotate_left
             · intro w' hU'
               go_simp
               try with_reducible rfl
             try simp only [Act.put, List.setIfInBounds_toArray, List.set_cons_zero, List.set_cons_succ])
          | (refine lex_skip rfl ?_
             try simp only [Act.put, List.setIfInBounds_toArray, List.set_cons_zero, List.set_cons_succ])
        refine lex_done ?_
        have hs5 := (hs.drew).upd0 hU4
        clear d1 c2 hv4
        go_wp2_with fail
        exact bodyPost_ret (v := .tuple #[.slice (some ⟨g, 0, none⟩) n n, .int .i64 0]) (by simp [results, Tryd.results8, go_sem]) rfl (show RParR (parseL b) w _ _ by rw [hzG.out]; exact ⟨hU5, g, by rw [hRl], hwg, by rw [hRl]; exact hs5.lower hwg⟩)
      · have hzz := hzH.out
        rw [if_neg heq] at hzz
        have hzN := Lib.hid hzz
        have hbq : (bytesL R == b) = false := by simpa using heq
        clear hzz hzH heq
        go_upto_region 18 with fail
        refine wp_region_lex Nil [0, 3, 4, 1, 2, 5] (by kernel_rfl) (by kernel_rfl) rfl (by kernel_rfl) ?_
        simp only [inOrder, List.filterMap_cons, List.filterMap_nil, List.getElem?_cons_zero, List.getElem?_cons_succ]
        try simp only [Act.put, List.setIfInBounds_toArray, List.set_cons_zero, List.set_cons_succ]
        repeat
          first
          | (refine lex_pure (v := ?_) rfl rfl ?_ ?_
             rotate_left
             · intro w' hU'
               go_simp
               try with_reducible rfl
             try simp only [Act.put, List.setIfInBounds_toArray, List.set_cons_zero, List.set_cons_succ])
          | (refine lex_skip rfl ?_
             try simp only [Act.put, List.setIfInBounds_toArray, List.set_cons_zero, List.set_cons_succ])
        refine lex_fn (f := 31) (args := _) rfl rfl (by go_simp) (kb.mono ?_)
        rintro e w4 ⟨v4, rfl, hv4, hU4⟩
        obtain ⟨A4, c4, rfl, _⟩ := hv4.form
        refine ⟨_, rfl, hU4, ?_⟩
        have c2 := fun w' (u : Upd Nil w4 w') => cvS ((hv4.cells bc_len (by omega)).upd u) c4
        have hm4 := ByteArray.toList_mk (bytesL R)
        generalize (⟨(bytesL R).toArray⟩ : ByteArray) = s4 at *
        have d1 := fun w' (u : Upd Nil w4 w') => c1 w' (hU4.tr u)
        have hU5 := hU.drew.tr hU4
        clear c1 kb
        try simp only [Act.put, List.setIfInBounds_toArray, List.set_cons_zero, List.set_cons_succ]
        repeat
          first
          | (refine lex_pure (v := ?_) rfl rfl ?_ ?_
             rotate_left
             · intro w' hU'
               go_simp
               try with_reducible rfl
             try simp only [Act.put, List.setIfInBounds_toArray, List.set_cons_zero, List.set_cons_succ])
          | (refine lex_skip rfl ?_
             try simp only [Act.put, List.setIfInBounds_toArray, List.set_cons_zero, List.set_cons_succ])
        refine lex_done ?_
        clear d1 c2 hv4
        go_wp2_with fail
        exact bodyPost_ret (v := .tuple #[.slice none 0 0, .int .i64 2]) (by simp [results, Tryd.results8, go_sem]) rfl (show RParR (parseL b) w _ _ by rw [hzN.out]; exact ⟨hU5, rfl⟩)
end Go.Proofs.YtjkojhebgkgdaaaDoor.Bit
