/-
  The reference's sets: New, Has, All, First. Conditions: each lemma's own.
-/
import Derived.Test.YtjkojhebgkgdaaaDoorBitR
namespace Go.Proofs.YtjkojhebgkgdaaaDoor.Bit
open Go.RowKit Go.Proofs.YtjkojhebgkgdaaaDoor.Base Go.Proofs.YtjkojhebgkgdaaaDoor.Ints
set_option linter.unusedVariables false
set_option linter.unusedSimpArgs false
set_option maxRecDepth 100000
def bc1 (b : Bool) : List Value := [.bool b]
theorem bc1_len (x : Bool) : (bc1 x).length = 1 := rfl
theorem bc1_one (x : Bool) : ∀ u ∈ bc1 x, u.oneCell' = true := by
  intro u hu
  obtain rfl : u = .bool x := by simpa [bc1] using hu
  rfl
theorem mkB (n : Nat) (hn : n ≤ 1000000) (w : World) : (Instr.makeSlice 30 (.int .i64 (n : Int)) (.int .i64 (n : Int))).run Tryd.prog w = .ok (.slice (some ⟨w.heap.size, 0, none⟩) n n) (w.alloc (.cells (List.replicate n (.bool false)).toArray 4)) := by
  rw [run_make_row' 30 4 (.bool false) 1 Tryd.underlying30 (by kernel_rfl) rfl .i64 .i64 n (by omega) (by omega) w, made_rep]
theorem sl_madeB (w : World) (base n : Nat) (hn : n ≤ 1000000) (hb : base ≤ w.heap.size) : Sl (w.alloc (.cells (List.replicate n (.bool false)).toArray 4)) base 4 1 bc1 (.slice (some ⟨w.heap.size, 0, none⟩) n n) (List.replicate n false) := by
  refine sl_lit bc1_len hb (blk_new _ _) ?_ (by simp) (by simp) (by simp; unfold maxLen; omega)
  rw [List.toList_toArray]
  clear hn
  induction n with
  | zero => rfl
  | succ n ih => rw [List.replicate_succ, List.replicate_succ, List.flatMap_cons, ih]; rfl
theorem bit_cell {w : World} {A : Option Addr} {L : List Bool} (h : Arg w A 1 bc1 L) {i : Nat} (hi : i < L.length) : ∃ g o, A = some ⟨g, o, none⟩ ∧ g < w.heap.size ∧ w.cell? ⟨g, o + i, none⟩ = some (.bool (bitAt L i)) := by
  rcases h with rfl | ⟨g, o, rfl, h2, h3⟩
  · simp at hi
  · refine ⟨g, o, rfl, h2, ?_⟩
    have := h3 i hi 0 (by omega)
    rw [← bit_get hi]
    simpa [bc1] using this
theorem rhasC (L : List Bool) (A : Option Addr) (c : Nat) (n : Int) (w : World) (hA : Arg w A 1 bc1 L) (hl : L.length ≤ 4096) : Calls Tryd.prog 25 #[.slice A L.length c, .int .i64 n] w fun e w' => e = .returned (.bool (hasI L n)) ∧ w' = w := by
  unfold hasI
  by_cases hi : inI L n = true
  · have hi2 : 0 ≤ n ∧ n < (L.length : Int) := by simpa [inI] using hi
    obtain ⟨k, rfl⟩ := Int.eq_ofNat_of_zero_le hi2.1
    obtain ⟨g, o, rfl, hg, hc⟩ := bit_cell hA (i := k) (by omega)
    rw [hi, Int.toNat_natCast, Bool.true_and]
    have hkI := hi2.2
    clear hi2 hi
    generalize bitAt L k = x at *
    go_enter Tryd.func25, Tryd.ntmps25
    go_wp2_with fail
    go_ret
    exact ⟨rfl, rfl⟩
  · rw [show inI L n = false by simpa using hi]
    have hno : ¬ (0 ≤ n ∧ n < (L.length : Int)) := by simpa [inI] using hi
    clear hi
    by_cases h0 : 0 ≤ n
    · have h1 : ¬ n < (L.length : Int) := fun h => hno ⟨h0, h⟩
      clear hno
      go_enter Tryd.func25, Tryd.ntmps25
      go_wp2_with fail
      go_ret
      exact ⟨rfl, rfl⟩
    · clear hno
      go_enter Tryd.func25, Tryd.ntmps25
      go_wp2_with fail
      go_ret
      exact ⟨rfl, rfl⟩
set_option maxHeartbeats 4000000 in
theorem rallC (L : List Bool) (A : Option Addr) (c : Nat) (w : World) (hA : Arg w A 1 bc1 L) (hl : L.length ≤ 4096) : Calls Tryd.prog 32 #[.slice A L.length c] w fun e w' => ∃ v, e = .returned v ∧ Sl w' w.heap.size 3 1 ic v (allI L) ∧ Upd Nil w w' := by
  obtain ⟨n, hn⟩ : ∃ n, n = L.length := ⟨_, rfl⟩
  have hnH := Lib.hid hn
  unfold allI allL
  rw [← hn] at hl ⊢
  clear hn
  go_enter Tryd.func32, Tryd.ntmps32
  go_wp2_with fail
  go_loopw [3, 8] (fun s3 s8 wr => ∃ (i : Nat) (V : Value), i ≤ n ∧ s8 = .int .i64 (i : Int) ∧ s3 = V ∧ Sl wr w.heap.size 3 1 ic V ((upto L i).map fun (n : Nat) => (n : Int)) ∧ Upd Nil w wr) (fun _ s8 _ => n - (intOf s8).toNat)
  case atStart => exact ⟨0, _, by omega, by go_num, rfl, Sl.nil _ _ _ _ _, Upd.refl _ _⟩
  case round =>
    obtain ⟨i, V, hi, rfl, rfl, hV, hU⟩ := hrel
    by_cases hlt : i < n
    · have hI : (i : Int) < (n : Int) := by omega
      obtain ⟨g, o, rfl, hg, hc⟩ := bit_cell (hA.upd hU) (i := i) (by rw [← hnH.out]; exact hlt)
      have hsu := upto_succ L i
      have hsuH := Lib.hid hsu
      have hlen := upto_len L i
      obtain ⟨Eo, co, rfl, hco⟩ := hV.form
      rw [List.length_map] at hV ⊢
      have hss := hU.size
      have hbd : ((upto L i).length + 1) * 8 ≤ 140737488355328 ∧ (upto L i).length + 1 ≤ maxLen := by unfold maxLen; omega
      have hbdH := Lib.hid hbd
      clear hsu hbd hlen
      generalize upto L i = U at *
      cases hx : bitAt L i with
      | true =>
        rw [hx] at hc hsuH
        clear hx
        go_wp2_with (at_builtin; refine wp_app1 w.heap.size rfl (.tmp 14) (.tmp 16) elemI rfl wr (i : Int) (by rfl) (.slice Eo U.length co) (U.map fun (n : Nat) => (n : Int)) rfl (by simp [Act.eval]) hV hss (by rw [List.length_map]; exact hbdH.out.1) (by rw [List.length_map]; exact hbdH.out.2) ?_; intro A6 c6 w6 hv6 hg6 hat6)
        have hU6 := hU.grownOwn hV (Nat.le_refl _) hg6
        rw [List.length_map] at hv6
        have hnx : (upto L (i + 1)).map (fun (n : Nat) => (n : Int)) = U.map (fun (n : Nat) => (n : Int)) ++ [(i : Int)] := by rw [hsuH.out, List.map_append]; rfl
        go_roundw
        case measure => simp [intOf]; omega
        case rel => exact ⟨i + 1, _, by omega, by go_num, rfl, by rw [hnx]; exact hv6, hU6⟩
      | false =>
        rw [hx] at hc hsuH
        clear hx
        have hnx : upto L (i + 1) = U := by rw [hsuH.out]; simp
        go_wp2_with fail
        go_roundw
        case measure => simp [intOf]; omega
        case rel => exact ⟨i + 1, _, by omega, by go_num, rfl, by rw [hnx]; exact hV, hU⟩
    · obtain rfl : i = n := by omega
      go_wp2_with fail
      go_ret
      exact ⟨_, rfl, hV, hU⟩
set_option maxHeartbeats 4000000 in
theorem rfirstC (L : List Bool) (A : Option Addr) (c : Nat) (a : Int) (has : Bool) (w : World) (hA : Arg w A 1 bc1 L) (hl : L.length ≤ 4096) : Calls Tryd.prog 26 #[.slice A L.length c, .int .i64 a, .bool has] w fun e w' => e = .returned (.int .i64 (firstL L a has)) ∧ w' = w := by
  obtain ⟨r, hr⟩ : ∃ r, r = firstL L a has := ⟨_, rfl⟩
  rw [← hr]
  have hrH := Lib.hid hr
  obtain ⟨n, hn⟩ : ∃ n, n = L.length := ⟨_, rfl⟩
  have hnH := Lib.hid hn
  rw [← hn] at hl ⊢
  clear hr hn
  go_enter Tryd.func26, Tryd.ntmps26
  go_wp2_with fail
  go_loopw [11] (fun s11 wr => ∃ j : Nat, j ≤ n ∧ s11 = .int .i64 (j : Int) ∧ Hid (∀ i : Nat, i < j → a ≤ (i : Int) → bitAt L i ≠ has) ∧ wr = w) (fun s11 _ => n - (intOf s11).toNat)
  case atStart => exact ⟨0, by omega, by go_num, Lib.hid (fun i h1 => by omega), rfl⟩
  case round =>
    obtain ⟨j, hj, rfl, hno, rfl⟩ := hrel
    by_cases hlt : j < n
    · have hI : (j : Int) < (n : Int) := by omega
      obtain ⟨g, o, rfl, hg, hc⟩ := bit_cell hA (i := j) (by rw [← hnH.out]; exact hlt)
      by_cases ha : a ≤ (j : Int)
      · by_cases hx : bitAt L j = has
        · have hz : r = (j : Int) := by rw [hrH.out]; exact first_at (by rw [← hnH.out]; exact hlt) ha hx hno.out
          rw [hx] at hc
          clear hno hrH hx
          subst hz
          go_wp2_with fail
          go_ret
          exact ⟨rfl, rfl⟩
        · have hnx := Lib.hid (show ∀ i : Nat, i < j + 1 → a ≤ (i : Int) → bitAt L i ≠ has from fun i h1 h2 => by
            rcases Nat.lt_or_ge i j with h3 | h3
            · exact hno.out i h3 h2
            · obtain rfl : i = j := by omega
              exact hx)
          have hxb : (bitAt L j == has) = false := by simpa using hx
          clear hno hx
          go_wp2_with fail
          go_roundw
          case measure => simp [intOf]; omega
          case rel => exact ⟨j + 1, by omega, by go_num, Lib.hid hnx.out, trivial⟩
      · have hnx := Lib.hid (show ∀ i : Nat, i < j + 1 → a ≤ (i : Int) → bitAt L i ≠ has from fun i h1 h2 => by
          rcases Nat.lt_or_ge i j with h3 | h3
          · exact hno.out i h3 h2
          · omega)
        clear hno
        go_wp2_with fail
        go_roundw
        case measure => simp [intOf]; omega
        case rel => exact ⟨j + 1, by omega, by go_num, Lib.hid hnx.out, trivial⟩
    · obtain rfl : j = n := by omega
      have hz : r = -1 := by rw [hrH.out]; exact first_no (fun i h1 h2 => hno.out i (by rw [hnH.out]; exact h1) h2)
      clear hno hrH
      subst hz
      go_wp2_with fail
      go_ret
      exact ⟨rfl, rfl⟩
theorem putI_set {L : List Bool} {k : Nat} (h : k < L.length) : putI L (k : Int) = L.set k true := by
  unfold putI
  rw [if_pos (by unfold inI; simp; omega), Int.toNat_natCast]
theorem putI_out {L : List Bool} {n : Int} (h : ¬ (0 ≤ n ∧ n < (L.length : Int))) : putI L n = L := by
  unfold putI
  rw [if_neg (by unfold inI; simpa using h)]
set_option maxHeartbeats 4000000 in
theorem rnewC (m : Nat) (hm : m ≤ 4096) (A : Option Addr) (c : Nat) (l : List Int) (w : World) (hA : Arg w A 1 ic l) (hl : l.length ≤ 1000000) : Calls Tryd.prog 15 #[.int .i64 m, .slice A l.length c] w fun e w' =>
    ∃ g, e = .returned (.slice (some ⟨g, 0, none⟩) m m) ∧ w.heap.size ≤ g ∧ Sl w' w.heap.size 4 1 bc1 (.slice (some ⟨g, 0, none⟩) m m) (newL m l) ∧ Upd Nil w w' := by
  have hmk := mkB m (by omega) w
  have hU1 := (Upd.refl Nil w).alloc (.cells (List.replicate m (.bool false)).toArray 4)
  have hs0 : Sl (w.alloc (.cells (List.replicate m (.bool false)).toArray 4)) w.heap.size 4 1 bc1 (.slice (some ⟨w.heap.size, 0, none⟩) m m) (newL m (l.take 0)) := sl_madeB w w.heap.size m (by omega) (Nat.le_refl _)
  obtain ⟨W, hW⟩ : ∃ W, W = w.alloc (.cells (List.replicate m (.bool false)).toArray 4) := ⟨_, rfl⟩
  rw [← hW] at hmk hU1 hs0
  clear hW
  go_enter Tryd.func15, Tryd.ntmps15
  go_wp2_with fail
  obtain ⟨g, hg⟩ : ∃ g, g = w.heap.size := ⟨_, rfl⟩
  rw [← hg] at hs0 ⊢
  have hgH := Lib.hid hg
  clear hg hmk
  go_loopw [12] (fun s12 wr => ∃ i : Nat, i ≤ l.length ∧ s12 = .int .i64 (i : Int) ∧ Sl wr g 4 1 bc1 (.slice (some ⟨g, 0, none⟩) m m) (newL m (l.take i)) ∧ Upd Nil w wr) (fun s12 _ => l.length - (intOf s12).toNat)
  case atStart => exact ⟨0, by omega, by go_num, hs0, hU1⟩
  case round =>
    clear hs0 hU1
    obtain ⟨i, hi, rfl, hs, hU⟩ := hrel
    by_cases hlt : i < l.length
    · have hI : (i : Int) < (l.length : Int) := by omega
      obtain ⟨ga, oa, rfl, hga, hcell⟩ := ic_cell (hA.upd hU) hlt
      have hst := newL_step m l hlt
      have hnl := newL_len m (l.take i)
      generalize l[i] = x at *
      by_cases hx : 0 ≤ x ∧ x < (m : Int)
      · obtain ⟨k, rfl⟩ := Int.eq_ofNat_of_zero_le hx.1
        have hkm : k < m := by omega
        have hxI := hx.2
        rw [putI_set (by rw [hnl]; exact hkm)] at hst
        obtain ⟨hbg, cur, hcur⟩ := hs.typed g rfl
        obtain ⟨g', o', eg, _, hc⟩ := bit_cell (hs.cells bc1_len (by omega)) (i := k) (by rw [hnl]; exact hkm)
        injection eg with eg
        injection eg with eg1 eg2
        subst eg1 eg2
        rw [Nat.zero_add] at hc
        have z := blk_frozen hcur k
        have hs1 := Sl.set1 (f := fun x : Bool => .bool x) hs (i := k) (by rw [hnl]; exact hkm) true
        rw [Nat.zero_add] at hs1
        have hU2 := hU.setNew (i := k) (Nat.le_of_eq hgH.out.symm) (.bool true)
        have hstH := Lib.hid hst
        clear hst hx hnl
        generalize bitAt (newL m (l.take i)) k = old at *
        go_wp2_with fail
        go_roundw
        case measure => simp [intOf]; omega
        case rel => exact ⟨i + 1, by omega, by go_num, by rw [hstH.out]; exact hs1, hU2⟩
      · rw [putI_out (by rw [hnl]; exact hx)] at hst
        have hstH := Lib.hid hst
        clear hst hnl
        by_cases h0 : 0 ≤ x
        · have h1 : ¬ x < (m : Int) := fun h => hx ⟨h0, h⟩
          clear hx
          go_wp2_with fail
          go_roundw
          case measure => simp [intOf]; omega
          case rel => exact ⟨i + 1, by omega, by go_num, by rw [hstH.out]; exact hs, hU⟩
        · clear hx
          go_wp2_with fail
          go_roundw
          case measure => simp [intOf]; omega
          case rel => exact ⟨i + 1, by omega, by go_num, by rw [hstH.out]; exact hs, hU⟩
    · obtain rfl : i = l.length := by omega
      rw [List.take_length] at hs
      go_wp2_with fail
      go_ret
      exact ⟨g, rfl, by rw [hgH.out]; exact Nat.le_refl _, by rw [← hgH.out]; exact hs, hU⟩
end Go.Proofs.YtjkojhebgkgdaaaDoor.Bit
