/-
  What two sets make: the program's. Conditions: each lemma's own.
-/
import Derived.Test.YtjkojhebgkgdaaaDoorBitX
import Derived.Test.YtjkojhebgkgdaaaDoorLexU
namespace Go.Proofs.YtjkojhebgkgdaaaDoor.Bit
open Go.RowKit Go.Proofs.YtjkojhebgkgdaaaDoor.Base Go.Proofs.YtjkojhebgkgdaaaDoor.Ints Go.Proofs.YtjkojhebgkgdaaaDoor.Ecc
set_option linter.unusedVariables false
set_option linter.unusedSimpArgs false
set_option maxRecDepth 100000
def mixL (h : Bool → Bool → Bool) (L M : List Bool) : List Bool := (List.range L.length).map fun n => h (bitAt L n) (bitAt M n)
theorem mixL_len (h : Bool → Bool → Bool) (L M : List Bool) : (mixL h L M).length = L.length := by simp [mixL]
theorem mixL_bit (h : Bool → Bool → Bool) (L M : List Bool) {n : Nat} (hn : n < L.length) : bitAt (mixL h L M) n = h (bitAt L n) (bitAt M n) := by
  unfold mixL
  rw [bitAt, List.getD_eq_getElem?_getD, List.getElem?_map, List.getElem?_range hn]
  rfl
/-- A way to mix words that mixes their bits. -/
def Mixes (h : Bool → Bool → Bool) (H : Nat → Nat → Nat) : Prop := ∀ a b, a < 18446744073709551616 → b < 18446744073709551616 → H a b < 18446744073709551616 ∧ ∀ j, j < 64 → (H a b).testBit j = h (a.testBit j) (b.testBit j)
theorem mixes_or : Mixes (· || ·) (· ||| ·) := fun a b ha hb => ⟨Nat.or_lt_two_pow (n := 64) ha hb, fun j _ => Nat.testBit_or ..⟩
theorem mixes_and : Mixes (· && ·) (· &&& ·) := fun a b ha hb => ⟨Nat.lt_of_le_of_lt Nat.and_le_left ha, fun j _ => Nat.testBit_and ..⟩
theorem mixes_but : Mixes (fun x y => x && !y) (fun a b => a &&& (18446744073709551615 - b)) := fun a b ha hb => ⟨Nat.lt_of_le_of_lt Nat.and_le_left ha, fun j _ => not_bit ha hb j⟩
def wsI (H : Nat → Nat → Nat) (L M : List Bool) (i : Nat) : List Nat := (List.range (nw L.length)).map fun k => if k < i then H (wordL L k) (wordL M k) else 0
theorem wsI_len (H : Nat → Nat → Nat) (L M : List Bool) (i : Nat) : (wsI H L M i).length = nw L.length := by simp [wsI]
theorem wsI_get {H : Nat → Nat → Nat} {L M : List Bool} {i k : Nat} (hk : k < nw L.length) : (wsI H L M i)[k]? = some (if k < i then H (wordL L k) (wordL M k) else 0) := by
  unfold wsI
  rw [List.getElem?_map, List.getElem?_range hk]
  rfl
theorem wsI_zero (H : Nat → Nat → Nat) (L M : List Bool) : wsI H L M 0 = List.replicate (nw L.length) 0 := by
  unfold wsI
  simp only [Nat.not_lt_zero, if_false]
  rw [List.map_const', List.length_range]
theorem wsI_step {H : Nat → Nat → Nat} {L M : List Bool} {i : Nat} (hi : i < nw L.length) : (wsI H L M i).set i (H (wordL L i) (wordL M i)) = wsI H L M (i + 1) := by
  refine List.ext_getElem? fun k => ?_
  rcases Nat.lt_or_ge k (nw L.length) with hk | hk
  · rw [wsI_get hk]
    by_cases e : k = i
    · subst e
      rw [List.getElem?_set_self (by rw [wsI_len]; exact hk), if_pos (by omega)]
    · rw [List.getElem?_set_ne (fun h => e h.symm), wsI_get hk]
      congr 1
      by_cases h1 : k < i
      · rw [if_pos h1, if_pos (by omega)]
      · rw [if_neg h1, if_neg (by omega)]
  · rw [List.getElem?_eq_none (by rw [List.length_set, wsI_len]; exact hk), List.getElem?_eq_none (by rw [wsI_len]; exact hk)]
theorem mix_word {h : Bool → Bool → Bool} {H : Nat → Nat → Nat} (hH : Mixes h H) {L M : List Bool} {k : Nat} (hk : 64 * (k + 1) ≤ L.length) : H (wordL L k) (wordL M k) = wordL (mixL h L M) k := by
  obtain ⟨h1, h2⟩ := hH _ _ (wordL_lt L k) (wordL_lt M k)
  refine wv_ext h1 (fun j hj => ?_)
  rw [h2 j hj, wordL_bit, wordL_bit, mixL_bit h L M (by omega)]
  simp [hj]
theorem mix_last {h : Bool → Bool → Bool} {H : Nat → Nat → Nat} (hH : Mixes h H) {L M : List Bool} {k r : Nat} (hk : L.length = 64 * k + r) (hr : r < 64) : H (wordL L k) (wordL M k) &&& (2 ^ r - 1) = wordL (mixL h L M) k := by
  obtain ⟨h1, h2⟩ := hH _ _ (wordL_lt L k) (wordL_lt M k)
  refine wv_ext (Nat.lt_of_le_of_lt Nat.and_le_left h1) (fun j hj => ?_)
  rw [Nat.testBit_and, h2 j hj, wordL_bit, wordL_bit, Nat.testBit_two_pow_sub_one]
  by_cases hjr : j < r
  · rw [mixL_bit h L M (by omega)]
    simp [hj, hjr]
  · rw [bit_out (L := mixL h L M) (by rw [mixL_len]; omega)]
    simp [hjr]
theorem mix_end {h : Bool → Bool → Bool} {H : Nat → Nat → Nat} (hH : Mixes h H) {L M : List Bool} (hr : L.length % 64 = 0) : wsI H L M (nw L.length) = wds (mixL h L M) := by
  refine List.ext_getElem? fun k => ?_
  rcases Nat.lt_or_ge k (nw L.length) with hk | hk
  · rw [wsI_get hk, if_pos hk, wds_get (by rw [mixL_len]; exact hk), mix_word hH (by unfold nw at hk; omega)]
  · rw [List.getElem?_eq_none (by rw [wsI_len]; exact hk), List.getElem?_eq_none (by rw [wds_len, mixL_len]; exact hk)]
theorem mix_endr {h : Bool → Bool → Bool} {H : Nat → Nat → Nat} (hH : Mixes h H) {L M : List Bool} {q r : Nat} (hr : L.length = 64 * q + r) (hr0 : 0 < r) (hr64 : r < 64) : (wsI H L M (nw L.length)).set q (H (wordL L q) (wordL M q) &&& (2 ^ r - 1)) = wds (mixL h L M) := by
  have hn : nw L.length = q + 1 := by unfold nw; omega
  refine List.ext_getElem? fun k => ?_
  rcases Nat.lt_or_ge k (nw L.length) with hk | hk
  · rw [wds_get (by rw [mixL_len]; exact hk)]
    by_cases e : k = q
    · subst e
      rw [List.getElem?_set_self (by rw [wsI_len]; exact hk), mix_last hH hr hr64]
    · rw [List.getElem?_set_ne (fun h => e h.symm), wsI_get hk, if_pos hk, mix_word hH (by omega)]
  · rw [List.getElem?_eq_none (by rw [List.length_set, wsI_len]; exact hk), List.getElem?_eq_none (by rw [wds_len, mixL_len]; exact hk)]
theorem word_out {M : List Bool} {k : Nat} (h : nw M.length ≤ k) : wordL M k = 0 := by
  unfold wordL
  rw [wv_congr (g := fun _ => false) 64 (fun j _ => bit_out (by unfold nw at h; omega)), wv_none]
/-- The other set, or none. -/
def Oth (w : World) (pv : Value) (M : List Bool) : Prop := (pv = .pointer none ∧ M = []) ∨ ∃ g gb, pv = .pointer (some ⟨g, 0, none⟩) ∧ SetAt w g gb M
theorem Oth.upd0 {w w' : World} {pv : Value} {M : List Bool} (h : Oth w pv M) (u : Upd Nil w w') : Oth w' pv M := h.imp id (fun ⟨g, gb, e, hs⟩ => ⟨g, gb, e, hs.upd0 u⟩)
theorem wordsO {w : World} {pv : Value} {M : List Bool} (h : Oth w pv M) : ∃ X, (∀ w', Upd Nil w w' → Calls Tryd.prog 34 #[pv] w' fun e w'' => e = .returned (.slice X (nw M.length) (nw M.length)) ∧ w'' = w') ∧ ∀ k, k < nw M.length → ∃ g, X = some ⟨g, 0, none⟩ ∧ g < w.heap.size ∧ w.cell? ⟨g, k, none⟩ = some (.int .u64 (wordL M k : Nat)) := by
  rcases h with ⟨rfl, rfl⟩ | ⟨g, gb, rfl, hs⟩
  · exact ⟨none, fun w' _ => wordsN w', fun k hk => by simp [nw] at hk⟩
  · exact ⟨some ⟨gb, 0, none⟩, fun w' u => wordsC M g gb w' (hs.upd0 u), fun k hk => ⟨gb, rfl, blk_lt hs.2, hs.word hk⟩⟩
set_option maxHeartbeats 8000000 in
theorem mixC (f : Nat) (hcf : ∀ (args : Array Value) (w : World), (callFunc f args).run Tryd.prog w = .ok (.enter f args) w) (h : Bool → Bool → Bool) (H : Nat → Nat → Nat) (hH : Mixes h H) (kf : ∀ (a b : Nat) (w : World), a < 18446744073709551616 → b < 18446744073709551616 → Calls Tryd.prog f #[.int .u64 a, .int .u64 b] w fun e w' => e = .returned (.int .u64 (H a b : Nat)) ∧ w' = w)
    (L M : List Bool) (g gb : Nat) (pv : Value) (w : World) (hs : SetAt w g gb L) (hO : Oth w pv M) (hl : L.length ≤ 4096) (hlM : M.length ≤ 4096) : Calls Tryd.prog 36 #[.pointer (some ⟨g, 0, none⟩), pv, .func (.func f) #[] #[]] w fun e w' =>
    ∃ g2 gb2, e = .returned (.pointer (some ⟨g2, 0, none⟩)) ∧ w.heap.size ≤ g2 ∧ w.heap.size ≤ gb2 ∧ SetAt w' g2 gb2 (mixL h L M) ∧ Upd Nil w w' := by
  obtain ⟨X, kw, hX⟩ := wordsO hO
  have c0 := blk_cell hs.1 0
  have c1 := blk_cell hs.1 1
  simp only [List.getElem?_toArray, List.getElem?_cons_zero, List.getElem?_cons_succ] at c0 c1
  obtain ⟨n, hn⟩ : ∃ n, n = L.length := ⟨_, rfl⟩
  have hnH := Lib.hid hn
  have kn := newC n (by omega) none 0 [] w (.inl rfl) (by simp)
  rw [← hn] at c0 c1 hl
  clear hn
  have hnM := show nw M.length ≤ 64 by unfold nw; omega
  have hn64 := show nw n ≤ 64 by unfold nw; omega
  go_enter Tryd.func36, Tryd.ntmps36
  go_wp2_with fail
  refine kn.mono ?_
  rintro e w1 ⟨g2, gb2, rfl, hg2, hgb2, hs1, hU1⟩
  have kw1 := kw w1 hU1
  go_wp2_with fail
  refine kw1.mono ?_
  rintro e w' ⟨rfl, rfl⟩
  obtain ⟨w1, rfl⟩ : ∃ x, x = w' := ⟨w', rfl⟩
  have hsa := hs.upd0 hU1
  have d1 := blk_cell hsa.1 1
  simp only [List.getElem?_toArray, List.getElem?_cons_zero, List.getElem?_cons_succ] at d1
  rw [← hnH.out] at d1
  go_wp2_with fail
  have hnl : newL n [] = List.replicate n false := rfl
  have e0 : wds (newL n []) = wsI H L M 0 := by rw [hnl, wds_none, wsI_zero, ← hnH.out]
  have hb2 := hs1.2
  have hg9 := hs1.1
  rw [e0] at hb2
  rw [newL_len] at hg9
  have hne := hs1.ne
  clear kn kw kw1 hs1 d1 c0 c1 e0 hnl hsa
  go_loopw [27] (fun s27 wr => ∃ i : Nat, i ≤ nw n ∧ s27 = .int .i64 (i : Int) ∧ wr.heap[g2]? = some (.cells #[.int .i64 (n : Nat), .slice (some ⟨gb2, 0, none⟩) (nw n) (nw n)] 52 (0, 0)) ∧ wr.heap[gb2]? = some (.cells (wC (wsI H L M i)) 59 (0, 0)) ∧ Upd Nil w wr) (fun s27 _ => nw n - (intOf s27).toNat)
  case atStart => exact ⟨0, by omega, by go_num, hg9, hb2, hU1⟩
  case round =>
    clear hg9 hb2 hU1
    obtain ⟨i, hi, rfl, hg9, hb9, hU⟩ := hrel
    by_cases hlt : i < nw n
    · have hI : (i : Int) < (nw n : Nat) := by omega
      have hiL : i < nw L.length := by rw [← hnH.out]; exact hlt
      have y := (hs.upd0 hU).word hiL
      have hlw := wordL_lt L i
      have hlx := wordL_lt M i
      have kfi := kf (wordL L i) (wordL M i) wr.drew hlw hlx
      have hmx := (hH _ _ hlw hlx).1
      have hst := wsI_step (H := H) (M := M) hiL
      have d1 := blk_cell hg9 1
      simp only [List.getElem?_toArray, List.getElem?_cons_zero, List.getElem?_cons_succ] at d1
      have dl : ∀ w', Upd (Only gb2) wr.drew w' → w'.cell? ⟨g2, 1, none⟩ = some (.slice (some ⟨gb2, 0, none⟩) (nw n) (nw n)) := fun w' u => by rw [u.cell (p := ⟨g2, 1, none⟩) (blk_lt hg9) (fun h => hne h)]; exact d1
      have hold := blk_cell (blk_drew hb9) i
      rw [wC_get (wsI_get hiL), if_neg (Nat.lt_irrefl i)] at hold
      have z := blk_frozen (blk_drew hb9) i
      have hput := blk_put (blk_drew hb9) i (.int .u64 (H (wordL L i) (wordL M i) : Nat)) (wC_set _ _ _)
      rw [hst] at hput
      have hg10 := blk_other (blk_drew hg9) (p := ⟨gb2, i, none⟩) hne (.int .u64 (H (wordL L i) (wordL M i) : Nat))
      have hU10 := hU.drew.setNew (i := i) hgb2 (.int .u64 (H (wordL L i) (wordL M i) : Nat))
      have hfH := Lib.hid (And.intro hg10 (And.intro hput hU10))
      have hXi := hX i
      have hwo := word_out (M := M) (k := i)
      clear hst hput hg10 hU10 d1
      generalize H (wordL L i) (wordL M i) = V at *
      generalize wordL L i = W at *
      generalize wordL M i = Y at *
      by_cases hiM : i < nw M.length
      · obtain ⟨gx, rfl, hgx, hcx⟩ := hXi hiM
        have hcx2 := hcx
        rw [← hU.cell (p := ⟨gx, i, none⟩) hgx (fun h => h)] at hcx2
        have hiMI : (i : Int) < (nw M.length : Nat) := by omega
        clear hcx hwo
        generalize nw M.length = mm at *
        generalize nw n = nn at *
        go_upto_region 11 with fail
        refine wp_region_lex (Only gb2) [0, 1, 2, 3, 4, 5, 6, 7, 8, 9, 10] (by kernel_rfl) (by kernel_rfl) rfl (by kernel_rfl) ?_
        simp only [inOrder, List.filterMap_cons, List.filterMap_nil, List.getElem?_cons_zero, List.getElem?_cons_succ]
        try simp only [Act.put, List.setIfInBounds_toArray, List.set_cons_zero, List.set_cons_succ]
        repeat
          first
          | (refine lex_pure (v := ?_) rfl rfl ?_ ?_
             rotate_left
             · intro w' hU'
               go_simp
               try with_reducible rfl
             try simp only [Act.put, List.setIfInBounds_toArray, List.set_cons_zero, List.set_cons_succ])
          | (refine lex_skip rfl ?_
             try simp only [Act.put, List.setIfInBounds_toArray, List.set_cons_zero, List.set_cons_succ])
        refine lex_fn (f := f) (args := _) rfl rfl (by go_simp) (kfi.mono ?_)
        rintro e w' ⟨rfl, rfl⟩
        refine ⟨_, rfl, Upd.refl _ _, ?_⟩
        try simp only [Act.put, List.setIfInBounds_toArray, List.set_cons_zero, List.set_cons_succ]
        repeat
          first
          | (refine lex_pure (v := ?_) rfl rfl ?_ ?_
             rotate_left
             · intro w' hU'
               go_simp
               try with_reducible rfl
             try simp only [Act.put, List.setIfInBounds_toArray, List.set_cons_zero, List.set_cons_succ])
          | (refine lex_skip rfl ?_
             try simp only [Act.put, List.setIfInBounds_toArray, List.set_cons_zero, List.set_cons_succ])
        refine lex_store (w' := wr.drew.setCell ⟨gb2, i, none⟩ (.int .u64 (V : Nat))) rfl rfl (by go_simp) ((Upd.refl (Only gb2) wr.drew).set1 _) ?_
        try simp only [Act.put, List.setIfInBounds_toArray, List.set_cons_zero, List.set_cons_succ]
        repeat
          first
          | (refine lex_pure (v := ?_) rfl rfl ?_ ?_
             rotate_left
             · intro w' hU'
               go_simp
               try with_reducible rfl
             try simp only [Act.put, List.setIfInBounds_toArray, List.set_cons_zero, List.set_cons_succ])
          | (refine lex_skip rfl ?_
             try simp only [Act.put, List.setIfInBounds_toArray, List.set_cons_zero, List.set_cons_succ])
        refine lex_done ?_
        have hg10 := hfH.out.1
        have hb10 := hfH.out.2.1
        have hU10 := hfH.out.2.2
        generalize wr.drew.setCell ⟨gb2, i, none⟩ (.int .u64 (V : Nat)) = w10 at *
        clear hfH dl hold z
        go_wp2_with fail
        go_roundw
        case measure => simp [intOf]; omega
        case rel => exact ⟨i + 1, by omega, by go_num, hg10, hb10, hU10⟩
      · obtain rfl := hwo (by omega)
        have hiMI : ¬ (i : Int) < (nw M.length : Nat) := by omega
        clear hXi hwo
        generalize nw M.length = mm at *
        generalize nw n = nn at *
        go_upto_region 11 with fail
        refine wp_region_lex (Only gb2) [0, 1, 2, 3, 4, 5, 6, 7, 8, 9, 10] (by kernel_rfl) (by kernel_rfl) rfl (by kernel_rfl) ?_
        simp only [inOrder, List.filterMap_cons, List.filterMap_nil, List.getElem?_cons_zero, List.getElem?_cons_succ]
        try simp only [Act.put, List.setIfInBounds_toArray, List.set_cons_zero, List.set_cons_succ]
        repeat
          first
          | (refine lex_pure (v := ?_) rfl rfl ?_ ?_
             rotate_left
             · intro w' hU'
               go_simp
               try with_reducible rfl
             try simp only [Act.put, List.setIfInBounds_toArray, List.set_cons_zero, List.set_cons_succ])
          | (refine lex_skip rfl ?_
             try simp only [Act.put, List.setIfInBounds_toArray, List.set_cons_zero, List.set_cons_succ])
        refine lex_fn (f := f) (args := _) rfl rfl (by go_simp) (kfi.mono ?_)
        rintro e w' ⟨rfl, rfl⟩
        refine ⟨_, rfl, Upd.refl _ _, ?_⟩
        try simp only [Act.put, List.setIfInBounds_toArray, List.set_cons_zero, List.set_cons_succ]
        repeat
          first
          | (refine lex_pure (v := ?_) rfl rfl ?_ ?_
             rotate_left
             · intro w' hU'
               go_simp
               try with_reducible rfl
             try simp only [Act.put, List.setIfInBounds_toArray, List.set_cons_zero, List.set_cons_succ])
          | (refine lex_skip rfl ?_
             try simp only [Act.put, List.setIfInBounds_toArray, List.set_cons_zero, List.set_cons_succ])
        refine lex_store (w' := wr.drew.setCell ⟨gb2, i, none⟩ (.int .u64 (V : Nat))) rfl rfl (by go_simp) ((Upd.refl (Only gb2) wr.drew).set1 _) ?_
        try simp only [Act.put, List.setIfInBounds_toArray, List.set_cons_zero, List.set_cons_succ]
        repeat
          first
          | (refine lex_pure (v := ?_) rfl rfl ?_ ?_
             rotate_left
             · intro w' hU'
               go_simp
               try with_reducible rfl
             try simp only [Act.put, List.setIfInBounds_toArray, List.set_cons_zero, List.set_cons_succ])
          | (refine lex_skip rfl ?_
             try simp only [Act.put, List.setIfInBounds_toArray, List.set_cons_zero, List.set_cons_succ])
        refine lex_done ?_
        have hg10 := hfH.out.1
        have hb10 := hfH.out.2.1
        have hU10 := hfH.out.2.2
        generalize wr.drew.setCell ⟨gb2, i, none⟩ (.int .u64 (V : Nat)) = w10 at *
        clear hfH dl hold z
        go_wp2_with fail
        go_roundw
        case measure => simp [intOf]; omega
        case rel => exact ⟨i + 1, by omega, by go_num, hg10, hb10, hU10⟩
    · obtain rfl : i = nw n := by omega
      have hdr : Int.tmod (n : Int) 64 = ((n % 64 : Nat) : Int) := by rw [Int.tmod_eq_emod_of_nonneg (by omega)]; omega
      have hsw := hs.upd0 hU
      have c0 := blk_cell hsw.1 0
      simp only [List.getElem?_toArray, List.getElem?_cons_zero, List.getElem?_cons_succ] at c0
      rw [← hnH.out] at c0
      have hr64 : n % 64 < 64 := Nat.mod_lt _ (by omega)
      rcases Nat.eq_zero_or_pos (n % 64) with hr0 | hr0
      · have he := mix_end hH (L := L) (M := M) (by rw [← hnH.out]; exact hr0)
        rw [← hnH.out] at he
        rw [he] at hb9
        rw [hr0] at hdr
        have hdr : Int.tmod (n : Int) 64 = 0 := hdr
        have hfin : SetAt wr g2 gb2 (mixL h L M) := ⟨by rw [mixL_len, ← hnH.out]; exact hg9, hb9⟩
        clear hr0 hr64 he hb9 hg9 hsw
        go_wp2_with fail
        go_ret
        exact ⟨g2, gb2, rfl, hg2, hgb2, hfin, hU⟩
      · obtain ⟨r, hr⟩ : ∃ r, r = n % 64 := ⟨_, rfl⟩
        obtain ⟨q, hq⟩ : ∃ q, q = n / 64 := ⟨_, rfl⟩
        have hnq : n = 64 * q + r := by omega
        have hnw : nw n = q + 1 := by unfold nw; omega
        rw [← hr] at hdr hr64 hr0
        have hrI : (0 : Int) < (r : Int) := by omega
        have he := mix_endr hH (L := L) (M := M) (q := q) (r := r) (by rw [← hnH.out]; exact hnq) hr0 hr64
        rw [← hnH.out] at he
        have hold := blk_cell (blk_drew hb9) q
        rw [wC_get (wsI_get (by rw [← hnH.out, hnw]; omega)), if_pos (by rw [hnw]; omega)] at hold
        have z := blk_frozen (blk_drew hb9) q
        have hmx := (hH _ _ (wordL_lt L q) (wordL_lt M q)).1
        have hput := blk_put (blk_drew hb9) q (.int .u64 (H (wordL L q) (wordL M q) &&& (2 ^ r - 1) : Nat)) (wC_set _ _ _)
        rw [he] at hput
        have hg10 := blk_other (blk_drew hg9) (p := ⟨gb2, q, none⟩) hne (.int .u64 (H (wordL L q) (wordL M q) &&& (2 ^ r - 1) : Nat))
        have hU10 := hU.drew.setNew (i := q) hgb2 (.int .u64 (H (wordL L q) (wordL M q) &&& (2 ^ r - 1) : Nat))
        have hfin : SetAt (wr.drew.setCell ⟨gb2, q, none⟩ (.int .u64 (H (wordL L q) (wordL M q) &&& (2 ^ r - 1) : Nat))) g2 gb2 (mixL h L M) := ⟨by rw [mixL_len, ← hnH.out]; exact hg10, hput⟩
        have hfH := Lib.hid (And.intro hfin hU10)
        have hpw := pow_wrap hr64
        have hp2 : 2 ^ r < 18446744073709551616 := show 2 ^ r < 2 ^ 64 from Nat.pow_lt_pow_right (by omega) hr64
        have hp1 : 1 ≤ 2 ^ r := Nat.one_le_two_pow
        have ha := and64 (H (wordL L q) (wordL M q)) (2 ^ r - 1) hmx (by omega) _ rfl
        have hw1 : IntKind.u64.wrap ((2 : Int) ^ r - 1) = ((2 ^ r - 1 : Nat) : Int) := by
          rw [show ((2 : Int) ^ r) = ((2 ^ r : Nat) : Int) by rw [Int.natCast_pow]; rfl, IntKind.wrap_u64]
          omega
        have d1 := blk_cell hg9 1
        simp only [List.getElem?_toArray, List.getElem?_cons_zero, List.getElem?_cons_succ] at d1
        rw [hnw] at d1
        have dl : ∀ w', Upd Nil wr.drew w' → w'.cell? ⟨g2, 1, none⟩ = some (.slice (some ⟨gb2, 0, none⟩) (q + 1) (q + 1)) := fun w' u => by rw [u.cell (p := ⟨g2, 1, none⟩) (blk_lt hg9) (fun h => h)]; exact d1
        have dx : ∀ w', Upd Nil wr.drew w' → w'.cell? ⟨gb2, q, none⟩ = some (.int .u64 (H (wordL L q) (wordL M q) : Nat)) := fun w' u => by rw [u.cell (p := ⟨gb2, q, none⟩) (blk_lt hb9) (fun h => h)]; exact hold
        have hq9 : q ≤ 64 := by omega
        have hwq : IntKind.i64.wrap (q : Int) = (q : Int) := by rw [IntKind.wrap_i64]; omega
        have hqlt : (q : Int) < (q : Int) + 1 := by omega
        have hwr : IntKind.u64.wrap (r : Int) = (r : Int) := by rw [IntKind.wrap_u64]; omega
        have hmin : min r 64 = r := by omega
        clear he hput hg10 hU10 hfin d1 hr hq hnq hb9 hg9 hsw hmx
        generalize H (wordL L q) (wordL M q) &&& (2 ^ r - 1) = V at *
        generalize H (wordL L q) (wordL M q) = Y at *
        generalize 2 ^ r - 1 = mk at *
        rw [hnw]
        go_upto_region 15 with fail
        refine wp_region_lexT (Upd (Only gb2)) (Upd Nil) (fun _ => Upd.refl _ _) (fun _ _ _ h k => h.tr k) (fun _ => Upd.refl _ _) (fun _ _ _ h k => h.tr k) (fun _ _ h => h.mono (fun _ h => h.elim)) [(0, true), (1, true), (2, true), (3, true), (4, true), (5, true), (6, true), (7, true), (8, true), (9, true), (10, true), (11, true), (12, true), (13, true), (14, true), (15, true), (16, true), (17, true), (18, false)] (by kernel_rfl) (by kernel_rfl) rfl (by kernel_rfl) (by kernel_rfl) ?_
        simp only [inOrderT, List.filterMap_cons, List.filterMap_nil, List.getElem?_cons_zero, List.getElem?_cons_succ, Option.map_some]
        try simp only [Act.put, List.setIfInBounds_toArray, List.set_cons_zero, List.set_cons_succ]
        repeat
          first
          | (refine lexT_sure (v := ?_) rfl rfl ?_ ?_
             rotate_left
             · intro w' hU'
               go_simp
               try with_reducible rfl
             try simp only [Act.put, List.setIfInBounds_toArray, List.set_cons_zero, List.set_cons_succ])
          | (refine lexT_pure (v := ?_) rfl rfl ?_ ?_
             rotate_left
             · intro w' hU'
               go_simp
               try with_reducible rfl
             try simp only [Act.put, List.setIfInBounds_toArray, List.set_cons_zero, List.set_cons_succ])
          | (refine lexT_skip rfl ?_
             try simp only [Act.put, List.setIfInBounds_toArray, List.set_cons_zero, List.set_cons_succ])
        refine lexT_store (w' := wr.drew.setCell ⟨gb2, q, none⟩ (.int .u64 (V : Nat))) rfl rfl rfl (by go_simp) ((Upd.refl (Only gb2) wr.drew).set1 _) ?_
        try simp only [Act.put, List.setIfInBounds_toArray, List.set_cons_zero, List.set_cons_succ]
        repeat
          first
          | (refine lexT_sure (v := ?_) rfl rfl ?_ ?_
             rotate_left
             · intro w' hU'
               go_simp
               try with_reducible rfl
             try simp only [Act.put, List.setIfInBounds_toArray, List.set_cons_zero, List.set_cons_succ])
          | (refine lexT_pure (v := ?_) rfl rfl ?_ ?_
             rotate_left
             · intro w' hU'
               go_simp
               try with_reducible rfl
             try simp only [Act.put, List.setIfInBounds_toArray, List.set_cons_zero, List.set_cons_succ])
          | (refine lexT_skip rfl ?_
             try simp only [Act.put, List.setIfInBounds_toArray, List.set_cons_zero, List.set_cons_succ])
        refine lexT_done ?_
        have hfin := hfH.out.1
        have hU10 := hfH.out.2
        generalize wr.drew.setCell ⟨gb2, q, none⟩ (.int .u64 (V : Nat)) = w10 at *
        clear hfH dl dx hold z
        go_wp2_with fail
        go_ret
        exact ⟨g2, gb2, rfl, hg2, hgb2, hfin, hU10⟩
end Go.Proofs.YtjkojhebgkgdaaaDoor.Bit
