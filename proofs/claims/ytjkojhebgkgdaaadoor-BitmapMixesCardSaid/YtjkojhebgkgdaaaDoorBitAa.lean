/-
  What two sets make: With, Both, But, and the reference's Mix. Conditions: each lemma's own.
-/
import Derived.Test.YtjkojhebgkgdaaaDoorBitZ
namespace Go.Proofs.YtjkojhebgkgdaaaDoor.Bit
open Go.RowKit Go.Proofs.YtjkojhebgkgdaaaDoor.Base Go.Proofs.YtjkojhebgkgdaaaDoor.Ints Go.Proofs.YtjkojhebgkgdaaaDoor.Ecc
set_option linter.unusedVariables false
set_option linter.unusedSimpArgs false
set_option maxRecDepth 100000
def MixR (h : Bool → Bool → Bool) (L M : List Bool) (w : World) (e : Ending) (w' : World) : Prop := ∃ g2 gb2, e = .returned (.pointer (some ⟨g2, 0, none⟩)) ∧ w.heap.size ≤ g2 ∧ w.heap.size ≤ gb2 ∧ SetAt w' g2 gb2 (mixL h L M) ∧ Upd Nil w w'
theorem bor64 (a b : Nat) (ha : a < 18446744073709551616) (hb : b < 18446744073709551616) : bits BinOp.or IntKind.u64 (a : Int) (b : Int) = ((a ||| b : Nat) : Int) := bits_or_u64_nat a b ha hb
theorem band64 (a b : Nat) (ha : a < 18446744073709551616) (hb : b < 18446744073709551616) : bits BinOp.and IntKind.u64 (a : Int) (b : Int) = ((a &&& b : Nat) : Int) := bits_and_u64_nat a b ha hb
theorem bbut64 (a b : Nat) (ha : a < 18446744073709551616) (hb : b < 18446744073709551616) : bits BinOp.andNot IntKind.u64 (a : Int) (b : Int) = ((a &&& (18446744073709551615 - b) : Nat) : Int) := u64_andNot_nat a b ha hb
theorem fnwithC (args : Array Value) (w : World) : (callFunc 37 args).run Tryd.prog w = .ok (.enter 37 args) w := by
  simp [callFunc, go_sem, Tryd.f37]
theorem clowithC (a b : Nat) (w : World) (ha : a < 18446744073709551616) (hb : b < 18446744073709551616) : Calls Tryd.prog 37 #[.int .u64 a, .int .u64 b] w fun e w' => e = .returned (.int .u64 (((· ||| ·)) a b : Nat)) ∧ w' = w := by
  have hbit := bor64 a b ha hb
  go_enter Tryd.func37, Tryd.ntmps37
  go_wp2_with fail
  go_ret
  exact ⟨rfl, rfl⟩
theorem withC (L M : List Bool) (g gb : Nat) (pv : Value) (w : World) (hs : SetAt w g gb L) (hO : Oth w pv M) (hl : L.length ≤ 4096) (hlM : M.length ≤ 4096) : Calls Tryd.prog 16 #[.pointer (some ⟨g, 0, none⟩), pv] w (MixR ((· || ·)) L M w) := by
  have k := mixC 37 fnwithC ((· || ·)) ((· ||| ·)) mixes_or clowithC L M g gb pv w hs hO hl hlM
  go_enter Tryd.func16, Tryd.ntmps16
  go_wp2_with fail
  refine k.mono ?_
  rintro e w' ⟨g2, gb2, rfl, h1, h2, h3, h4⟩
  go_wp2_with fail
  go_ret
  exact ⟨g2, gb2, rfl, h1, h2, h3, h4⟩
theorem fnbothC (args : Array Value) (w : World) : (callFunc 38 args).run Tryd.prog w = .ok (.enter 38 args) w := by
  simp [callFunc, go_sem, Tryd.f38]
theorem clobothC (a b : Nat) (w : World) (ha : a < 18446744073709551616) (hb : b < 18446744073709551616) : Calls Tryd.prog 38 #[.int .u64 a, .int .u64 b] w fun e w' => e = .returned (.int .u64 (((· &&& ·)) a b : Nat)) ∧ w' = w := by
  have hbit := band64 a b ha hb
  go_enter Tryd.func38, Tryd.ntmps38
  go_wp2_with fail
  go_ret
  exact ⟨rfl, rfl⟩
theorem bothC (L M : List Bool) (g gb : Nat) (pv : Value) (w : World) (hs : SetAt w g gb L) (hO : Oth w pv M) (hl : L.length ≤ 4096) (hlM : M.length ≤ 4096) : Calls Tryd.prog 18 #[.pointer (some ⟨g, 0, none⟩), pv] w (MixR ((· && ·)) L M w) := by
  have k := mixC 38 fnbothC ((· && ·)) ((· &&& ·)) mixes_and clobothC L M g gb pv w hs hO hl hlM
  go_enter Tryd.func18, Tryd.ntmps18
  go_wp2_with fail
  refine k.mono ?_
  rintro e w' ⟨g2, gb2, rfl, h1, h2, h3, h4⟩
  go_wp2_with fail
  go_ret
  exact ⟨g2, gb2, rfl, h1, h2, h3, h4⟩
theorem fnbutC (args : Array Value) (w : World) : (callFunc 39 args).run Tryd.prog w = .ok (.enter 39 args) w := by
  simp [callFunc, go_sem, Tryd.f39]
theorem clobutC (a b : Nat) (w : World) (ha : a < 18446744073709551616) (hb : b < 18446744073709551616) : Calls Tryd.prog 39 #[.int .u64 a, .int .u64 b] w fun e w' => e = .returned (.int .u64 (((fun a b => a &&& (18446744073709551615 - b))) a b : Nat)) ∧ w' = w := by
  have hbit := bbut64 a b ha hb
  go_enter Tryd.func39, Tryd.ntmps39
  go_wp2_with fail
  go_ret
  exact ⟨rfl, rfl⟩
theorem butC (L M : List Bool) (g gb : Nat) (pv : Value) (w : World) (hs : SetAt w g gb L) (hO : Oth w pv M) (hl : L.length ≤ 4096) (hlM : M.length ≤ 4096) : Calls Tryd.prog 19 #[.pointer (some ⟨g, 0, none⟩), pv] w (MixR ((fun x y => x && !y)) L M w) := by
  have k := mixC 39 fnbutC ((fun x y => x && !y)) ((fun a b => a &&& (18446744073709551615 - b))) mixes_but clobutC L M g gb pv w hs hO hl hlM
  go_enter Tryd.func19, Tryd.ntmps19
  go_wp2_with fail
  refine k.mono ?_
  rintro e w' ⟨g2, gb2, rfl, h1, h2, h3, h4⟩
  go_wp2_with fail
  go_ret
  exact ⟨g2, gb2, rfl, h1, h2, h3, h4⟩
def preM (h : Bool → Bool → Bool) (L M : List Bool) (i : Nat) : List Bool := (List.range L.length).map fun n => if n < i then h (bitAt L n) (bitAt M n) else false
theorem preM_len (h : Bool → Bool → Bool) (L M : List Bool) (i : Nat) : (preM h L M i).length = L.length := by simp [preM]
theorem preM_bit {h : Bool → Bool → Bool} {L M : List Bool} {i n : Nat} (hn : n < L.length) : bitAt (preM h L M i) n = if n < i then h (bitAt L n) (bitAt M n) else false := by
  unfold preM
  rw [bitAt, List.getD_eq_getElem?_getD, List.getElem?_map, List.getElem?_range hn]
  rfl
theorem preM_zero (h : Bool → Bool → Bool) (L M : List Bool) : preM h L M 0 = List.replicate L.length false := by
  unfold preM
  simp only [Nat.not_lt_zero, if_false]
  rw [List.map_const', List.length_range]
theorem preM_step {h : Bool → Bool → Bool} {L M : List Bool} {i : Nat} (hi : i < L.length) : (preM h L M i).set i (h (bitAt L i) (bitAt M i)) = preM h L M (i + 1) := by
  refine bit_ext (by simp [preM_len]) (fun k hk => ?_)
  rw [List.length_set, preM_len] at hk
  rw [bit_set _ _ _ (by rw [preM_len]; exact hi), preM_bit hk, preM_bit hk]
  by_cases e : k = i
  · subst e
    rw [if_pos rfl, if_pos (by omega)]
  · rw [if_neg e]
    by_cases h1 : k < i
    · rw [if_pos h1, if_pos (by omega)]
    · rw [if_neg h1, if_neg (by omega)]
theorem preM_end (h : Bool → Bool → Bool) (L M : List Bool) : preM h L M L.length = mixL h L M := by
  unfold preM mixL
  refine List.map_congr_left fun n hn => ?_
  rw [List.mem_range] at hn
  rw [if_pos hn]
def RMixR (h : Bool → Bool → Bool) (L M : List Bool) (w : World) (e : Ending) (w' : World) : Prop := ∃ g, e = .returned (.slice (some ⟨g, 0, none⟩) L.length L.length) ∧ w.heap.size ≤ g ∧ Sl w' w.heap.size 4 1 bc1 (.slice (some ⟨g, 0, none⟩) L.length L.length) (mixL h L M) ∧ Upd Nil w w'
set_option maxHeartbeats 8000000 in
theorem rmix0 (L M : List Bool) (A B : Option Addr) (ca cb : Nat) (w : World) (hA : Arg w A 1 bc1 L) (hB : Arg w B 1 bc1 M) (hl : L.length ≤ 4096) (hlM : M.length ≤ 4096) : Calls Tryd.prog 17 #[.slice A L.length ca, .slice B M.length cb, .int .i64 0] w (RMixR ((· || ·)) L M w) := by
  obtain ⟨m, hm⟩ : ∃ m, m = L.length := ⟨_, rfl⟩
  have hmH := Lib.hid hm
  have hmk := mkB m (by omega) w
  have hs0 := sl_madeB w w.heap.size m (by omega) (Nat.le_refl _)
  rw [show List.replicate m false = preM ((· || ·)) L M 0 by rw [preM_zero, ← hm]] at hs0
  have hU1 := (Upd.refl Nil w).alloc (.cells (List.replicate m (.bool false)).toArray 4)
  obtain ⟨W, hW⟩ : ∃ W, W = w.alloc (.cells (List.replicate m (.bool false)).toArray 4) := ⟨_, rfl⟩
  rw [← hW] at hmk hU1 hs0
  obtain ⟨g, hg⟩ : ∃ g, g = w.heap.size := ⟨_, rfl⟩
  unfold RMixR
  rw [← hg] at hs0 hmk ⊢
  have hgH := Lib.hid hg
  rw [← hm] at hl ⊢
  clear hW hg hm
  go_enter Tryd.func17, Tryd.ntmps17
  go_wp2_with fail
  clear hmk
  go_loopw [14] (fun s14 wr => ∃ i : Nat, i ≤ m ∧ s14 = .int .i64 (i : Int) ∧ Sl wr g 4 1 bc1 (.slice (some ⟨g, 0, none⟩) m m) (preM ((· || ·)) L M i) ∧ Upd Nil w wr) (fun s14 _ => m - (intOf s14).toNat)
  case atStart => exact ⟨0, by omega, by go_num, hs0, hU1⟩
  case round =>
    clear hs0 hU1
    obtain ⟨i, hi, rfl, hs, hU⟩ := hrel
    by_cases hlt : i < m
    · have hI : (i : Int) < (m : Int) := by omega
      have hiL : i < L.length := by rw [← hmH.out]; exact hlt
      obtain ⟨ga, oa, rfl, hga, hca⟩ := bit_cell (hA.upd hU) hiL
      have kh := rhasC M B cb (i : Int) wr (hB.upd hU) hlM
      rw [hasI_nat] at kh
      have hpl := preM_len ((· || ·)) L M i
      rw [← hmH.out] at hpl
      obtain ⟨hbg, cur, hcur⟩ := hs.typed g rfl
      obtain ⟨g', o', eg, _, hco⟩ := bit_cell (hs.cells bc1_len (by omega)) (i := i) (by rw [hpl]; exact hlt)
      injection eg with eg
      injection eg with eg1 eg2
      subst eg1 eg2
      rw [Nat.zero_add] at hco
      have z := blk_frozen hcur i
      have hs1 := Sl.set1 (f := fun x : Bool => .bool x) hs (i := i) (by rw [hpl]; exact hlt) (((· || ·)) (bitAt L i) (bitAt M i))
      rw [Nat.zero_add, preM_step hiL] at hs1
      have hU2 := hU.setNew (i := i) (Nat.le_of_eq hgH.out.symm) (.bool (((· || ·)) (bitAt L i) (bitAt M i)))
      have hfH := Lib.hid (And.intro hs1 hU2)
      clear hs1 hU2 hpl hcur hs
      generalize bitAt (preM ((· || ·)) L M i) i = old at *
      cases hx : bitAt L i with
      | true =>
        rw [hx] at hca hfH
        clear hx
        cases hy : bitAt M i with
        | true =>
          rw [hy] at kh hfH
          clear hy
          go_wp2_with fail
          have hs1 := hfH.out.1
          have hU2 := hfH.out.2
          go_roundw
          case measure => simp [intOf]; omega
          case rel => exact ⟨i + 1, by omega, by go_num, hs1, hU2⟩
        | false =>
          rw [hy] at kh hfH
          clear hy
          go_wp2_with fail
          have hs1 := hfH.out.1
          have hU2 := hfH.out.2
          go_roundw
          case measure => simp [intOf]; omega
          case rel => exact ⟨i + 1, by omega, by go_num, hs1, hU2⟩
      | false =>
        rw [hx] at hca hfH
        clear hx
        cases hy : bitAt M i with
        | true =>
          rw [hy] at kh hfH
          clear hy
          go_wp2_with fail
          refine kh.mono ?_
          rintro e w' ⟨rfl, rfl⟩
          go_wp2_with fail
          have hs1 := hfH.out.1
          have hU2 := hfH.out.2
          go_roundw
          case measure => simp [intOf]; omega
          case rel => exact ⟨i + 1, by omega, by go_num, hs1, hU2⟩
        | false =>
          rw [hy] at kh hfH
          clear hy
          go_wp2_with fail
          refine kh.mono ?_
          rintro e w' ⟨rfl, rfl⟩
          go_wp2_with fail
          have hs1 := hfH.out.1
          have hU2 := hfH.out.2
          go_roundw
          case measure => simp [intOf]; omega
          case rel => exact ⟨i + 1, by omega, by go_num, hs1, hU2⟩
    · obtain rfl : i = m := by omega
      have he := preM_end ((· || ·)) L M
      rw [← hmH.out] at he
      rw [he] at hs
      go_wp2_with fail
      go_ret
      exact ⟨g, rfl, by rw [hgH.out]; exact Nat.le_refl _, hs, hU⟩
set_option maxHeartbeats 8000000 in
theorem rmix1 (L M : List Bool) (A B : Option Addr) (ca cb : Nat) (w : World) (hA : Arg w A 1 bc1 L) (hB : Arg w B 1 bc1 M) (hl : L.length ≤ 4096) (hlM : M.length ≤ 4096) : Calls Tryd.prog 17 #[.slice A L.length ca, .slice B M.length cb, .int .i64 1] w (RMixR ((· && ·)) L M w) := by
  obtain ⟨m, hm⟩ : ∃ m, m = L.length := ⟨_, rfl⟩
  have hmH := Lib.hid hm
  have hmk := mkB m (by omega) w
  have hs0 := sl_madeB w w.heap.size m (by omega) (Nat.le_refl _)
  rw [show List.replicate m false = preM ((· && ·)) L M 0 by rw [preM_zero, ← hm]] at hs0
  have hU1 := (Upd.refl Nil w).alloc (.cells (List.replicate m (.bool false)).toArray 4)
  obtain ⟨W, hW⟩ : ∃ W, W = w.alloc (.cells (List.replicate m (.bool false)).toArray 4) := ⟨_, rfl⟩
  rw [← hW] at hmk hU1 hs0
  obtain ⟨g, hg⟩ : ∃ g, g = w.heap.size := ⟨_, rfl⟩
  unfold RMixR
  rw [← hg] at hs0 hmk ⊢
  have hgH := Lib.hid hg
  rw [← hm] at hl ⊢
  clear hW hg hm
  go_enter Tryd.func17, Tryd.ntmps17
  go_wp2_with fail
  clear hmk
  go_loopw [14] (fun s14 wr => ∃ i : Nat, i ≤ m ∧ s14 = .int .i64 (i : Int) ∧ Sl wr g 4 1 bc1 (.slice (some ⟨g, 0, none⟩) m m) (preM ((· && ·)) L M i) ∧ Upd Nil w wr) (fun s14 _ => m - (intOf s14).toNat)
  case atStart => exact ⟨0, by omega, by go_num, hs0, hU1⟩
  case round =>
    clear hs0 hU1
    obtain ⟨i, hi, rfl, hs, hU⟩ := hrel
    by_cases hlt : i < m
    · have hI : (i : Int) < (m : Int) := by omega
      have hiL : i < L.length := by rw [← hmH.out]; exact hlt
      obtain ⟨ga, oa, rfl, hga, hca⟩ := bit_cell (hA.upd hU) hiL
      have kh := rhasC M B cb (i : Int) wr (hB.upd hU) hlM
      rw [hasI_nat] at kh
      have hpl := preM_len ((· && ·)) L M i
      rw [← hmH.out] at hpl
      obtain ⟨hbg, cur, hcur⟩ := hs.typed g rfl
      obtain ⟨g', o', eg, _, hco⟩ := bit_cell (hs.cells bc1_len (by omega)) (i := i) (by rw [hpl]; exact hlt)
      injection eg with eg
      injection eg with eg1 eg2
      subst eg1 eg2
      rw [Nat.zero_add] at hco
      have z := blk_frozen hcur i
      have hs1 := Sl.set1 (f := fun x : Bool => .bool x) hs (i := i) (by rw [hpl]; exact hlt) (((· && ·)) (bitAt L i) (bitAt M i))
      rw [Nat.zero_add, preM_step hiL] at hs1
      have hU2 := hU.setNew (i := i) (Nat.le_of_eq hgH.out.symm) (.bool (((· && ·)) (bitAt L i) (bitAt M i)))
      have hfH := Lib.hid (And.intro hs1 hU2)
      clear hs1 hU2 hpl hcur hs
      generalize bitAt (preM ((· && ·)) L M i) i = old at *
      cases hx : bitAt L i with
      | true =>
        rw [hx] at hca hfH
        clear hx
        cases hy : bitAt M i with
        | true =>
          rw [hy] at kh hfH
          clear hy
          go_wp2_with fail
          refine kh.mono ?_
          rintro e w' ⟨rfl, rfl⟩
          go_wp2_with fail
          have hs1 := hfH.out.1
          have hU2 := hfH.out.2
          go_roundw
          case measure => simp [intOf]; omega
          case rel => exact ⟨i + 1, by omega, by go_num, hs1, hU2⟩
        | false =>
          rw [hy] at kh hfH
          clear hy
          go_wp2_with fail
          refine kh.mono ?_
          rintro e w' ⟨rfl, rfl⟩
          go_wp2_with fail
          have hs1 := hfH.out.1
          have hU2 := hfH.out.2
          go_roundw
          case measure => simp [intOf]; omega
          case rel => exact ⟨i + 1, by omega, by go_num, hs1, hU2⟩
      | false =>
        rw [hx] at hca hfH
        clear hx
        cases hy : bitAt M i with
        | true =>
          rw [hy] at kh hfH
          clear hy
          go_wp2_with fail
          have hs1 := hfH.out.1
          have hU2 := hfH.out.2
          go_roundw
          case measure => simp [intOf]; omega
          case rel => exact ⟨i + 1, by omega, by go_num, hs1, hU2⟩
        | false =>
          rw [hy] at kh hfH
          clear hy
          go_wp2_with fail
          have hs1 := hfH.out.1
          have hU2 := hfH.out.2
          go_roundw
          case measure => simp [intOf]; omega
          case rel => exact ⟨i + 1, by omega, by go_num, hs1, hU2⟩
    · obtain rfl : i = m := by omega
      have he := preM_end ((· && ·)) L M
      rw [← hmH.out] at he
      rw [he] at hs
      go_wp2_with fail
      go_ret
      exact ⟨g, rfl, by rw [hgH.out]; exact Nat.le_refl _, hs, hU⟩
set_option maxHeartbeats 8000000 in
theorem rmix2 (L M : List Bool) (A B : Option Addr) (ca cb : Nat) (w : World) (hA : Arg w A 1 bc1 L) (hB : Arg w B 1 bc1 M) (hl : L.length ≤ 4096) (hlM : M.length ≤ 4096) : Calls Tryd.prog 17 #[.slice A L.length ca, .slice B M.length cb, .int .i64 2] w (RMixR ((fun x y => x && !y)) L M w) := by
  obtain ⟨m, hm⟩ : ∃ m, m = L.length := ⟨_, rfl⟩
  have hmH := Lib.hid hm
  have hmk := mkB m (by omega) w
  have hs0 := sl_madeB w w.heap.size m (by omega) (Nat.le_refl _)
  rw [show List.replicate m false = preM ((fun x y => x && !y)) L M 0 by rw [preM_zero, ← hm]] at hs0
  have hU1 := (Upd.refl Nil w).alloc (.cells (List.replicate m (.bool false)).toArray 4)
  obtain ⟨W, hW⟩ : ∃ W, W = w.alloc (.cells (List.replicate m (.bool false)).toArray 4) := ⟨_, rfl⟩
  rw [← hW] at hmk hU1 hs0
  obtain ⟨g, hg⟩ : ∃ g, g = w.heap.size := ⟨_, rfl⟩
  unfold RMixR
  rw [← hg] at hs0 hmk ⊢
  have hgH := Lib.hid hg
  rw [← hm] at hl ⊢
  clear hW hg hm
  go_enter Tryd.func17, Tryd.ntmps17
  go_wp2_with fail
  clear hmk
  go_loopw [14] (fun s14 wr => ∃ i : Nat, i ≤ m ∧ s14 = .int .i64 (i : Int) ∧ Sl wr g 4 1 bc1 (.slice (some ⟨g, 0, none⟩) m m) (preM ((fun x y => x && !y)) L M i) ∧ Upd Nil w wr) (fun s14 _ => m - (intOf s14).toNat)
  case atStart => exact ⟨0, by omega, by go_num, hs0, hU1⟩
  case round =>
    clear hs0 hU1
    obtain ⟨i, hi, rfl, hs, hU⟩ := hrel
    by_cases hlt : i < m
    · have hI : (i : Int) < (m : Int) := by omega
      have hiL : i < L.length := by rw [← hmH.out]; exact hlt
      obtain ⟨ga, oa, rfl, hga, hca⟩ := bit_cell (hA.upd hU) hiL
      have kh := rhasC M B cb (i : Int) wr (hB.upd hU) hlM
      rw [hasI_nat] at kh
      have hpl := preM_len ((fun x y => x && !y)) L M i
      rw [← hmH.out] at hpl
      obtain ⟨hbg, cur, hcur⟩ := hs.typed g rfl
      obtain ⟨g', o', eg, _, hco⟩ := bit_cell (hs.cells bc1_len (by omega)) (i := i) (by rw [hpl]; exact hlt)
      injection eg with eg
      injection eg with eg1 eg2
      subst eg1 eg2
      rw [Nat.zero_add] at hco
      have z := blk_frozen hcur i
      have hs1 := Sl.set1 (f := fun x : Bool => .bool x) hs (i := i) (by rw [hpl]; exact hlt) (((fun x y => x && !y)) (bitAt L i) (bitAt M i))
      rw [Nat.zero_add, preM_step hiL] at hs1
      have hU2 := hU.setNew (i := i) (Nat.le_of_eq hgH.out.symm) (.bool (((fun x y => x && !y)) (bitAt L i) (bitAt M i)))
      have hfH := Lib.hid (And.intro hs1 hU2)
      clear hs1 hU2 hpl hcur hs
      generalize bitAt (preM ((fun x y => x && !y)) L M i) i = old at *
      cases hx : bitAt L i with
      | true =>
        rw [hx] at hca hfH
        clear hx
        cases hy : bitAt M i with
        | true =>
          rw [hy] at kh hfH
          clear hy
          go_wp2_with fail
          refine kh.mono ?_
          rintro e w' ⟨rfl, rfl⟩
          go_wp2_with fail
          have hs1 := hfH.out.1
          have hU2 := hfH.out.2
          go_roundw
          case measure => simp [intOf]; omega
          case rel => exact ⟨i + 1, by omega, by go_num, hs1, hU2⟩
        | false =>
          rw [hy] at kh hfH
          clear hy
          go_wp2_with fail
          refine kh.mono ?_
          rintro e w' ⟨rfl, rfl⟩
          go_wp2_with fail
          have hs1 := hfH.out.1
          have hU2 := hfH.out.2
          go_roundw
          case measure => simp [intOf]; omega
          case rel => exact ⟨i + 1, by omega, by go_num, hs1, hU2⟩
      | false =>
        rw [hx] at hca hfH
        clear hx
        cases hy : bitAt M i with
        | true =>
          rw [hy] at kh hfH
          clear hy
          go_wp2_with fail
          have hs1 := hfH.out.1
          have hU2 := hfH.out.2
          go_roundw
          case measure => simp [intOf]; omega
          case rel => exact ⟨i + 1, by omega, by go_num, hs1, hU2⟩
        | false =>
          rw [hy] at kh hfH
          clear hy
          go_wp2_with fail
          have hs1 := hfH.out.1
          have hU2 := hfH.out.2
          go_roundw
          case measure => simp [intOf]; omega
          case rel => exact ⟨i + 1, by omega, by go_num, hs1, hU2⟩
    · obtain rfl : i = m := by omega
      have he := preM_end ((fun x y => x && !y)) L M
      rw [← hmH.out] at he
      rw [he] at hs
      go_wp2_with fail
      go_ret
      exact ⟨g, rfl, by rw [hgH.out]; exact Nat.le_refl _, hs, hU⟩
end Go.Proofs.YtjkojhebgkgdaaaDoor.Bit
