/-
  The reference's Groups. Conditions: what the argument's slice holds.
-/
import Derived.Test.YtenhimaclecdpaaDoorEccU
namespace Go.Proofs.YtenhimaclecdpaaDoor.Ecc
open Go.RowKit Go.Proofs.YtenhimaclecdpaaDoor.Base
set_option linter.unusedVariables false
set_option linter.unusedSimpArgs false
set_option maxRecDepth 100000
/-- A group's cells. -/
def g8f (G : List UInt8) : List Value := ((G ++ List.replicate 8 0).take 8).map fun (x : UInt8) => Value.int .u8 (x.toNat : Nat)
theorem g8f_len (G : List UInt8) : (g8f G).length = 8 := by
  unfold g8f
  rw [List.length_map, List.length_take, List.length_append, List.length_replicate]
  omega
theorem g8f_one (G : List UInt8) : ∀ u ∈ g8f G, u.oneCell' = true := by
  intro u hu
  obtain ⟨x, _, rfl⟩ := List.mem_map.1 hu
  rfl
theorem elemG : Elem Tryd.prog 51 22 (.agg (gC z8)) 8 8 g8f := ⟨Tryd.underlying51, by kernel_rfl, rfl, by omega, g8f_len, g8f_one⟩
theorem g8f_lit (a b c d e f g h : UInt8) : g8f [a, b, c, d, e, f, g, h] = [.int .u8 (a.toNat : Nat), .int .u8 (b.toNat : Nat), .int .u8 (c.toNat : Nat), .int .u8 (d.toNat : Nat), .int .u8 (e.toNat : Nat), .int .u8 (f.toNat : Nat), .int .u8 (g.toNat : Nat), .int .u8 (h.toNat : Nat)] := rfl
/-- A group under way. -/
def rowG (b : List UInt8) (i j : Nat) : List Nat := (List.range 8).map fun q => if q < j then (b.getD (8 * i + q) 0).toNat else 0
theorem rowG_zero (b : List UInt8) (i : Nat) : rowG b i 0 = z8 := by
  unfold rowG z8
  simp only [Nat.not_lt_zero, if_false]
  rfl
theorem rowG_len (b : List UInt8) (i j : Nat) : (rowG b i j).length = 8 := by simp [rowG]
theorem rowG_get {b : List UInt8} {i j q : Nat} (hq : q < 8) : (rowG b i j)[q]? = some (if q < j then (b.getD (8 * i + q) 0).toNat else 0) := by
  unfold rowG
  rw [List.getElem?_map, List.getElem?_range hq]
  rfl
theorem rowG_yes {b : List UInt8} {i j : Nat} (hj : j < 8) (h : 8 * i + j < b.length) : (rowG b i j).set j b[8 * i + j].toNat = rowG b i (j + 1) := by
  refine List.ext_getElem? fun q => ?_
  rcases Nat.lt_or_ge q 8 with hq | hq
  · rw [rowG_get hq]
    rcases Nat.decEq j q with hne | he
    · rw [List.getElem?_set_ne hne, rowG_get hq]
      congr 1
      by_cases h1 : q < j
      · rw [if_pos h1, if_pos (by omega)]
      · rw [if_neg h1, if_neg (by omega)]
    · subst he
      rw [List.getElem?_set_self (by rw [rowG_len]; omega), if_pos (by omega), List.getD_eq_getElem?_getD, List.getElem?_eq_getElem h]
      rfl
  · rw [List.getElem?_eq_none (by rw [List.length_set, rowG_len]; omega), List.getElem?_eq_none (by rw [rowG_len]; omega)]
theorem rowG_no {b : List UInt8} {i j : Nat} (h : b.length ≤ 8 * i + j) : rowG b i (j + 1) = rowG b i j := by
  refine List.ext_getElem? fun q => ?_
  rcases Nat.lt_or_ge q 8 with hq | hq
  · rw [rowG_get hq, rowG_get hq]
    congr 1
    by_cases h1 : q < j
    · rw [if_pos h1, if_pos (by omega)]
    · rw [if_neg h1]
      by_cases h2 : q = j
      · subst h2
        rw [if_pos (by omega), List.getD_eq_getElem?_getD, List.getElem?_eq_none h]
        rfl
      · rw [if_neg (by omega)]
  · rw [List.getElem?_eq_none (by rw [rowG_len]; omega), List.getElem?_eq_none (by rw [rowG_len]; omega)]
theorem grpB_get {b : List UInt8} {i q : Nat} (hq : q < 8) : (grpB b i)[q]? = some (b.getD (8 * i + q) 0) := by
  unfold grpB
  rw [List.getElem?_take, if_pos hq, List.getD_eq_getElem?_getD]
  rcases Nat.lt_or_ge (8 * i + q) b.length with h | h
  · rw [List.getElem?_append_left (by rw [List.length_drop]; omega), List.getElem?_drop, List.getElem?_eq_getElem h]
    rfl
  · rw [List.getElem?_append_right (by rw [List.length_drop]; omega), List.getElem?_replicate, if_pos (by rw [List.length_drop]; omega), List.getElem?_eq_none h]
    rfl
theorem rowG_end (b : List UInt8) (i : Nat) : rowG b i 8 = (grpB b i).map UInt8.toNat := by
  refine List.ext_getElem? fun q => ?_
  rcases Nat.lt_or_ge q 8 with hq | hq
  · rw [rowG_get hq, if_pos hq, List.getElem?_map, grpB_get hq]
    rfl
  · rw [List.getElem?_eq_none (by rw [rowG_len]; omega), List.getElem?_eq_none (by rw [List.length_map, grpB_len]; omega)]
/-- The first groups of bytes. -/
def grs (b : List UInt8) (n : Nat) : List (List UInt8) := (List.range n).map (grpB b)
theorem grs_succ (b : List UInt8) (n : Nat) : grs b (n + 1) = grs b n ++ [grpB b n] := by
  unfold grs
  rw [List.range_succ, List.map_append]
  rfl
theorem grs_len (b : List UInt8) (n : Nat) : (grs b n).length = n := by simp [grs]
set_option maxHeartbeats 8000000 in
theorem groupsR (A : Option Addr) (c : Nat) (b : List UInt8) (w : World) (hA : Arg w A 1 bc b) (hc : b.length ≤ c) (hcm : c ≤ 9223372036854775807) (hb : b.length ≤ 1000) :
    Calls Tryd.prog 26 #[.slice A b.length c] w fun e w' => ∃ v, e = .returned v ∧ Sl w' w.heap.size 22 8 g8f v (grs b ((b.length + 7) / 8)) ∧ Upd Nil w w' := by
  obtain ⟨n, hn⟩ : ∃ n, n = (b.length + 7) / 8 := ⟨_, rfl⟩
  rw [← hn]
  have hn2 : n ≤ 126 := by omega
  have hpk := Lib.hid (show (∀ i, i < n → 8 * i < b.length) ∧ b.length ≤ 8 * n from ⟨fun i h => by omega, by omega⟩)
  clear hn
  go_enter Tryd.func26, Tryd.ntmps26
  go_wp2_with fail
  go_loopw [3, 4] (fun s3 s4 wr => ∃ (k : Nat) (V : Value), k ≤ n ∧ s3 = V ∧ s4 = .int .i64 ((8 * k : Nat) : Int) ∧ Sl wr w.heap.size 22 8 g8f V (grs b k) ∧ Upd Nil w wr) (fun _ s4 _ => 8 * n + 8 - (intOf s4).toNat)
  case atStart => exact ⟨0, _, by omega, rfl, rfl, Sl.nil _ _ _ _ _, Upd.refl _ _⟩
  case round =>
    obtain ⟨k, V, hk, rfl, rfl, hV, hU⟩ := hrel
    by_cases hlt : k < n
    · have h8 := hpk.out.1 k hlt
      obtain ⟨i8, hi8⟩ : ∃ i8, i8 = 8 * k := ⟨_, rfl⟩
      rw [← hi8] at h8 ⊢
      have h8I : (i8 : Int) < (b.length : Int) := by omega
      have hi8H := Lib.hid hi8
      clear hi8
      have hz := blk_new wr (.cells (gC z8) 22)
      have hU1 := (Upd.refl Nil wr).alloc (.cells (gC z8) 22)
      obtain ⟨W, hW⟩ : ∃ W, W = wr.alloc (.cells (gC z8) 22) := ⟨_, rfl⟩
      rw [← hW] at hz hU1
      obtain ⟨gk, hgk⟩ : ∃ gk, gk = wr.heap.size := ⟨_, rfl⟩
      rw [← hgk] at hz
      have hgkH := Lib.hid hgk
      obtain ⟨Eo, co, rfl, hco⟩ := hV.form
      rw [grs_len] at hV ⊢
      go_upto_region 6 with fail
      rw [show wr.alloc (.cells #[.int .u8 0, .int .u8 0, .int .u8 0, .int .u8 0, .int .u8 0, .int .u8 0, .int .u8 0, .int .u8 0] 22) = W by rw [hW]; rfl]
      try rw [← hgk]
      clear hW hgk
      go_wp2_with fail
      go_loopw [13] (fun s13 wq => ∃ j : Nat, j ≤ 8 ∧ s13 = .int .i64 (j : Int) ∧ wq.heap[gk]? = some (.cells (gC (rowG b k j)) 22 (0, 0)) ∧ Upd Nil wr wq) (fun s13 _ => 8 - (intOf s13).toNat)
      case atStart => exact ⟨0, by omega, by go_num, by rw [rowG_zero]; exact hz, hU1⟩
      case round =>
        clear hz hU1
        obtain ⟨j, hj, rfl, hz, hR⟩ := hrel
        by_cases hj8 : j < 8
        · have hjI : (j : Int) < 8 := by omega
          by_cases hin : i8 + j < b.length
          · obtain ⟨gb, ob, rfl, hgb, hcell⟩ := byte_at (hA.upd (hU.tr hR)) hin
            have hfz := blk_frozen hz j
            have hcl := blk_cell hz j
            rw [gC_get (by rw [rowG_len]; omega)] at hcl
            have hput := blk_put hz j (.int .u8 (b[i8 + j].toNat : Nat)) (gC_set _ _ _)
            have hry := rowG_yes (b := b) (i := k) hj8 (by rw [← hi8H.out]; exact hin)
            simp only [← hi8H.out] at hry
            rw [hry] at hput
            have hR' := hR.setNew (i := j) (Nat.le_of_eq hgkH.out.symm) (.int .u8 (b[i8 + j].toNat : Nat))
            generalize b[i8 + j].toNat = x at *
            generalize (rowG b k j)[j]'(by rw [rowG_len]; omega) = old at *
            have hq9 := hgkH.out
            have hw : IntKind.i64.wrap ((i8 : Int) + (j : Int)) = ((i8 + j : Nat) : Int) := by rw [IntKind.wrap_i64]; omega
            generalize i8 + j = q at *
            have hqI : (q : Int) < (b.length : Int) := by omega
            clear hq9 hry
            go_wp2_with fail
            go_roundw
            case measure => simp [intOf]; omega
            case rel => exact ⟨j + 1, by omega, by go_num, hput, hR'⟩
          · have hw : IntKind.i64.wrap ((i8 : Int) + (j : Int)) = ((i8 + j : Nat) : Int) := by rw [IntKind.wrap_i64]; omega
            have hrn := rowG_no (b := b) (i := k) (j := j) (by rw [← hi8H.out]; omega)
            generalize i8 + j = q at *
            have hqI : ¬ (q : Int) < (b.length : Int) := by omega
            go_wp2_with fail
            go_roundw
            case measure => simp [intOf]; omega
            case rel => exact ⟨j + 1, by omega, by go_num, by rw [hrn]; exact hz, hR⟩
        · obtain rfl : j = 8 := by omega
          rw [rowG_end] at hz
          obtain ⟨x0, x1, x2, x3, x4, x5, x6, x7, hG⟩ := len8 (grpB b k) (grpB_len b k)
          have hsu := grs_succ b k
          have hgl := grs_len b k
          rw [hG] at hz hsu
          have hV' := hV.upd0 hR
          have hUs := hU.tr hR
          have hss := hUs.size
          have hbd : (k + 1) * 8 ≤ 140737488355328 ∧ k + 1 ≤ maxLen := by unfold maxLen; omega
          have hbdH := Lib.hid hbd
          have hsuH := Lib.hid hsu
          change _ = some (Obj.cells #[Value.int .u8 (x0.toNat : Nat), .int .u8 (x1.toNat : Nat), .int .u8 (x2.toNat : Nat), .int .u8 (x3.toNat : Nat), .int .u8 (x4.toNat : Nat), .int .u8 (x5.toNat : Nat), .int .u8 (x6.toNat : Nat), .int .u8 (x7.toNat : Nat)] 22 (0, 0)) at hz
          clear hbd hG hsu hV
          generalize grs b k = L at *
          have hiX : (Tryd.prog.info? 22).map (·.size) = some (#[Value.int .u8 (x0.toNat : Nat), .int .u8 (x1.toNat : Nat), .int .u8 (x2.toNat : Nat), .int .u8 (x3.toNat : Nat), .int .u8 (x4.toNat : Nat), .int .u8 (x5.toNat : Nat), .int .u8 (x6.toNat : Nat), .int .u8 (x7.toNat : Nat)] : Array Value).size := by kernel_rfl
          go_wp2_with (first
            | (refine wpList_load_row rfl 22 (.tmp 5) rfl gk rfl 22 #[.int .u8 (x0.toNat : Nat), .int .u8 (x1.toNat : Nat), .int .u8 (x2.toNat : Nat), .int .u8 (x3.toNat : Nat), .int .u8 (x4.toNat : Nat), .int .u8 (x5.toNat : Nat), .int .u8 (x6.toNat : Nat), .int .u8 (x7.toNat : Nat)] (0, 0) _ hz Tryd.underlying22 rfl hiX ?_)
            | (at_builtin; refine wp_app1 w.heap.size rfl (.tmp 31) (.tmp 33) elemG rfl wr ([x0, x1, x2, x3, x4, x5, x6, x7] : List UInt8) (by rfl) (.slice Eo k co) L rfl (by simp [Act.eval]) hV' hss (by rw [hgl]; exact hbdH.out.1) (by rw [hgl]; exact hbdH.out.2) ?_; intro A6 c6 w6 hv6 hg6 hat6))
          have hU6 := hUs.grownOwn hV' (Nat.le_refl _) hg6
          rw [hgl] at hv6
          have h89 := hi8H.out
          go_roundw
          case measure => simp [intOf]; omega
          case rel => exact ⟨k + 1, _, by omega, rfl, by go_num, by rw [hsuH.out]; exact hv6, hU6⟩
    · obtain rfl : k = n := by omega
      have h8I : ¬ ((8 * k : Nat) : Int) < (b.length : Int) := by have := hpk.out.2; omega
      generalize 8 * k = i8 at *
      go_wp2_with fail
      go_ret
      exact ⟨_, rfl, hV, hU⟩
end Go.Proofs.YtenhimaclecdpaaDoor.Ecc
