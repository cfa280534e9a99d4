/-
  New, Len, All and First of a set. Conditions: each lemma's own.
-/
import Derived.Test.YtjkojhebgkgdaaaDoorBitM
import Derived.Test.YtjkojhebgkgdaaaDoorRow2
import Derived.Deep.OwnRows
namespace Go.Proofs.YtjkojhebgkgdaaaDoor.Bit
open Go.RowKit Go.Proofs.YtjkojhebgkgdaaaDoor.Base Go.Proofs.YtjkojhebgkgdaaaDoor.Ecc Go.Proofs.YtjkojhebgkgdaaaDoor.Ints
set_option linter.unusedVariables false
set_option linter.unusedSimpArgs false
set_option maxRecDepth 100000
def u64c (v : Nat) : List Value := [.int .u64 (v : Nat)]
theorem u64c_len (x : Nat) : (u64c x).length = 1 := rfl
theorem u64c_one (x : Nat) : ∀ u ∈ u64c x, u.oneCell' = true := by
  intro u hu
  obtain rfl : u = .int .u64 (x : Nat) := by simpa [u64c] using hu
  rfl
theorem elemW : Elem Tryd.prog 50 59 (.int .u64 0) 1 8 u64c := ⟨Tryd.underlying50, by kernel_rfl, rfl, by omega, u64c_len, u64c_one⟩
theorem mkW (n : Nat) (hn : n ≤ 1000000) (w : World) : (Instr.makeSlice 50 (.int .i64 (n : Int)) (.int .i64 (n : Int))).run Tryd.prog w = .ok (.slice (some ⟨w.heap.size, 0, none⟩) n n) (w.alloc (.cells (madeCells #[.int .u64 0] n) 59)) := by
  obtain ⟨i, hi, hzz⟩ := Option.map_eq_some_iff.1 elemW.info
  simp only [Prod.mk.injEq] at hzz
  obtain ⟨hz, hs, hb⟩ := hzz
  have hr := run_make (P := Tryd.prog) w 50 59 i (.int .u64 0) Tryd.underlying50 hi hz .i64 .i64 n n (by omega) (by omega) (by rw [hb]; omega) (by omega)
  rw [hs] at hr
  simpa [Value.cells] using hr
def newL (m : Nat) (l : List Int) : List Bool := l.foldl putI (List.replicate m false)
theorem fold_len (l : List Int) : ∀ L : List Bool, (l.foldl putI L).length = L.length := by
  induction l with
  | nil => intro L; rfl
  | cons x l ih => intro L; rw [List.foldl_cons, ih, putI_len]
theorem newL_len (m : Nat) (l : List Int) : (newL m l).length = m := by
  unfold newL
  rw [fold_len, List.length_replicate]
theorem newL_step (m : Nat) (l : List Int) {i : Nat} (h : i < l.length) : newL m (l.take (i + 1)) = putI (newL m (l.take i)) l[i] := by
  unfold newL
  rw [List.take_succ_eq_append_getElem h, List.foldl_append]
  rfl
theorem newN (n : Int) (hn : n < 0 ∨ 4096 < n) (v : Value) (w : World) : Calls Tryd.prog 10 #[.int .i64 n, v] w fun e w' => e = .returned (.pointer none) ∧ w' = w := by
  by_cases h0 : n < 0
  · go_enter Tryd.func10, Tryd.ntmps10
    go_wp2_with fail
    go_ret
    exact ⟨rfl, rfl⟩
  · have h1 : 4096 < n := by omega
    go_enter Tryd.func10, Tryd.ntmps10
    go_wp2_with fail
    go_ret
    exact ⟨rfl, rfl⟩
set_option maxHeartbeats 4000000 in
theorem newC (m : Nat) (hm : m ≤ 4096) (A : Option Addr) (c : Nat) (l : List Int) (w : World) (hA : Arg w A 1 ic l) (hl : l.length ≤ 1000000) : Calls Tryd.prog 10 #[.int .i64 m, .slice A l.length c] w fun e w' =>
    ∃ g gb, e = .returned (.pointer (some ⟨g, 0, none⟩)) ∧ w.heap.size ≤ g ∧ w.heap.size ≤ gb ∧ SetAt w' g gb (newL m l) ∧ Upd Nil w w' := by
  have hmk := mkW (nw m) (by unfold nw; omega)
  have hq : Int.tdiv ((m : Int) + 64 - 1) 64 = ((nw m : Nat) : Int) := by rw [Int.tdiv_eq_ediv_of_nonneg (by omega)]; unfold nw; omega
  have hn64 : nw m ≤ 64 := by unfold nw; omega
  have hmI : ¬ (4096 : Int) < (m : Int) := by omega
  have hU1 := (Upd.refl Nil w).alloc (.cells (madeCells #[.int .u64 0] (nw m)) 59)
  have hb1 := blk_new w (.cells (madeCells #[.int .u64 0] (nw m)) 59)
  rw [wC_made] at hmk hU1 hb1
  have hs : SetAt ((w.alloc (.cells (wC (List.replicate (nw m) 0)) 59)).alloc (.cells #[.int .i64 (m : Int), .slice (some ⟨w.heap.size, 0, none⟩) (nw m) (nw m)] 52)) (w.heap.size + 1) w.heap.size (newL m (l.take 0)) := by
    have h0 : newL m (l.take 0) = List.replicate m false := rfl
    refine ⟨?_, ?_⟩
    · rw [h0, List.length_replicate]
      exact heap_alloc2_new w _ _
    · rw [h0, wds_none]
      exact heap_alloc2_old w _ _
  have hU2 := hU1.alloc (.cells #[.int .i64 (m : Int), .slice (some ⟨w.heap.size, 0, none⟩) (nw m) (nw m)] 52)
  have hsH := Lib.hid hs
  clear hs hb1 hU1
  go_enter Tryd.func10, Tryd.ntmps10
  go_wp2_with fail
  have hs0 := hsH.out
  generalize (w.alloc (.cells (wC (List.replicate (nw m) 0)) 59)).alloc (.cells #[.int .i64 (m : Int), .slice (some ⟨w.heap.size, 0, none⟩) (nw m) (nw m)] 52) = W at *
  clear hmk hq hmI hsH
  go_loopw [24] (fun s24 wr => ∃ i : Nat, i ≤ l.length ∧ s24 = .int .i64 (i : Int) ∧ SetAt wr (w.heap.size + 1) w.heap.size (newL m (l.take i)) ∧ Upd Nil w wr) (fun s24 _ => l.length - (intOf s24).toNat)
  case atStart => exact ⟨0, by omega, by go_num, hs0, hU2⟩
  case round =>
    clear hs0 hU2
    obtain ⟨i, hi, rfl, hs, hU⟩ := hrel
    by_cases hlt : i < l.length
    · have hI : (i : Int) < (l.length : Int) := by omega
      obtain ⟨ga, oa, rfl, hga, hcell⟩ := ic_cell (hA.upd hU) hlt
      have kp := putC (newL m (l.take i)) (w.heap.size + 1) w.heap.size l[i] wr hs (by rw [newL_len]; exact hm)
      rw [← newL_step m l hlt] at kp
      clear hs
      generalize l[i] = x at *
      go_wp2_with fail
      refine kp.mono ?_
      rintro e w2 ⟨rfl, hs2, hU2⟩
      have hU3 := hU.trans hU2 (fun x hx => .inr (Nat.le_of_eq hx.symm))
      go_wp2_with fail
      go_roundw
      case measure => simp [intOf]; omega
      case rel => exact ⟨i + 1, by omega, by go_num, hs2, hU3⟩
    · obtain rfl : i = l.length := by omega
      rw [List.take_length] at hs
      go_wp2_with fail
      go_ret
      exact ⟨_, _, rfl, by omega, by omega, hs, hU⟩
theorem ones_le (L : List Bool) (q : Nat) : popN (wordL L q) 64 ≤ 64 := pop_le _ 64
set_option maxHeartbeats 4000000 in
theorem lenC (L : List Bool) (g gb : Nat) (w : World) (h : SetAt w g gb L) (hl : L.length ≤ 4096) : Calls Tryd.prog 22 #[.pointer (some ⟨g, 0, none⟩)] w fun e w' => e = .returned (.int .i64 ((allL L).length : Nat)) ∧ w' = w := by
  have kw := wordsC L g gb w h
  have hn64 : nw L.length ≤ 64 := by unfold nw; omega
  obtain ⟨n, hn⟩ : ∃ n, n = nw L.length := ⟨_, rfl⟩
  have hnH := Lib.hid hn
  rw [← hn] at kw hn64
  clear hn
  go_enter Tryd.func22, Tryd.ntmps22
  go_wp2_with fail
  refine kw.mono ?_
  rintro e w' ⟨rfl, rfl⟩
  go_wp2_with fail
  clear kw
  obtain ⟨w, rfl⟩ : ∃ x, x = w' := ⟨w', rfl⟩
  go_loopw [3, 9] (fun s3 s9 wr => ∃ i : Nat, i ≤ n ∧ s9 = .int .i64 (i : Int) ∧ s3 = .int .i64 ((upto L (64 * i)).length : Nat) ∧ wr = w) (fun _ s9 _ => n - (intOf s9).toNat)
  case atStart => exact ⟨0, by omega, by go_num, by go_num, rfl⟩
  case round =>
    obtain ⟨i, hi, rfl, rfl, rfl⟩ := hrel
    by_cases hlt : i < n
    · have hI : (i : Int) < (n : Int) := by omega
      have hw := h.word (q := i) (by rw [← hnH.out]; exact hlt)
      have ko := ones64 (wordL L i) (wordL_lt L i) wr
      have hst := pop_step L i
      have hu := upto_len L (64 * i)
      have hol := ones_le L i
      have hstH := Lib.hid hst
      clear hst
      generalize popN (wordL L i) 64 = p at *
      generalize wordL L i = W at *
      generalize (upto L (64 * i)).length = q at *
      have hw2 : IntKind.i64.wrap ((q : Int) + (p : Int)) = ((q + p : Nat) : Int) := by rw [IntKind.wrap_i64]; omega
      go_wp2_with fail
      refine ko.mono ?_
      rintro e w2 ⟨rfl, rfl⟩
      go_wp2_with fail
      go_roundw
      case measure => simp [intOf]; omega
      case rel => exact ⟨i + 1, by omega, by go_num, by rw [hstH.out]; go_num, trivial⟩
    · obtain rfl : i = n := by omega
      have he := all_end L
      rw [← hnH.out] at he
      rw [he]
      go_wp2_with fail
      go_ret
      exact ⟨rfl, rfl⟩
def allI (L : List Bool) : List Int := (allL L).map fun (n : Nat) => (n : Int)
theorem allI_len (L : List Bool) : (allI L).length = (allL L).length := by simp [allI]
set_option maxHeartbeats 4000000 in
theorem allC (L : List Bool) (g gb : Nat) (w : World) (h : SetAt w g gb L) (hl : L.length ≤ 4096) (hT : Tab w) : Calls Tryd.prog 13 #[.pointer (some ⟨g, 0, none⟩)] w fun e w' => ∃ v, e = .returned v ∧ Sl w' w.heap.size 3 1 ic v (allI L) ∧ Upd Nil w w' := by
  have kw := wordsC L g gb w h
  have hn64 : nw L.length ≤ 64 := by unfold nw; omega
  obtain ⟨n, hn⟩ : ∃ n, n = nw L.length := ⟨_, rfl⟩
  have hnH := Lib.hid hn
  rw [← hn] at kw hn64
  clear hn
  go_enter Tryd.func13, Tryd.ntmps13
  go_wp2_with fail
  refine kw.mono ?_
  rintro e w' ⟨rfl, rfl⟩
  go_wp2_with fail
  clear kw
  obtain ⟨w, rfl⟩ : ∃ x, x = w' := ⟨w', rfl⟩
  go_loopw [3, 9] (fun s3 s9 wr => ∃ (i : Nat) (V : Value), i ≤ n ∧ s9 = .int .i64 (i : Int) ∧ s3 = V ∧ Sl wr w.heap.size 3 1 ic V ((upto L (64 * i)).map fun (n : Nat) => (n : Int)) ∧ Upd Nil w wr) (fun _ s9 _ => n - (intOf s9).toNat)
  case atStart => exact ⟨0, _, by omega, by go_num, rfl, Sl.nil _ _ _ _ _, Upd.refl _ _⟩
  case round =>
    obtain ⟨i, V, hi, rfl, rfl, hV, hU⟩ := hrel
    by_cases hlt : i < n
    · have hI : (i : Int) < (n : Int) := by omega
      have hw := (h.upd0 hU).word (q := i) (by rw [← hnH.out]; exact hlt)
      have hwl := wordL_lt L i
      have h0 := hi_zero (wordL L i)
      have hn12 := Lib.hid (And.intro hn64 hlt)
      have hi9 : i ≤ 63 := by omega
      go_wp2_with fail
      clear hw
      go_loopw [3, 5] (fun s3 s5 wq => ∃ (k : Nat) (V : Value), k ≤ 64 ∧ s5 = .int .u64 (Ecc.hi (wordL L i) k : Nat) ∧ s3 = V ∧ Sl wq w.heap.size 3 1 ic V ((upto L (64 * i + k)).map fun (n : Nat) => (n : Int)) ∧ Upd Nil w wq) (fun _ s5 _ => (intOf s5).toNat)
      case atStart => exact ⟨0, _, by omega, by rw [h0], rfl, hV, hU⟩
      case round =>
        clear hV hU h0
        obtain ⟨k, V, hk, rfl, rfl, hV, hU⟩ := hrel
        by_cases hz : Ecc.hi (wordL L i) k = 0
        · have hsame := upto_none (L := L) (i := i) hk (no_one hz)
          have hsH := Lib.hid hsame
          rw [hz]
          clear hz hsame
          go_wp2_with fail
          go_roundw
          case measure => simp [intOf]; omega
          case rel => exact ⟨i + 1, _, by omega, by go_num, rfl, by rw [hsH.out]; exact hV, hU⟩
        · obtain ⟨t, ht, ht64, hkt, hand, hbit, hno⟩ := next_one hwl hz
          have hx : Ecc.hi (wordL L i) k < 18446744073709551616 := Nat.lt_of_le_of_lt (hi_le _ _) hwl
          have ktz := tz64 _ hx hz _ (hT.upd hU)
          rw [ht] at ktz
          have hnext := upto_next hkt ht64 hbit hno
          have hlen := upto_len L (64 * i + k)
          have hm : Ecc.hi (wordL L i) (t + 1) < Ecc.hi (wordL L i) k := by
            rw [← hand]
            exact Nat.lt_of_le_of_lt Nat.and_le_right (by omega)
          have hpH := Lib.hid (And.intro hnext hm)
          obtain ⟨Eo, co, rfl, hco⟩ := hV.form
          have hss := hU.size
          rw [List.length_map] at hV ⊢
          have hbd : ((upto L (64 * i + k)).length + 1) * 8 ≤ 140737488355328 ∧ (upto L (64 * i + k)).length + 1 ≤ maxLen := by unfold maxLen; omega
          have hbdH := Lib.hid hbd
          have ha := and64 _ (Ecc.hi (wordL L i) k - 1) hx (by omega) _ hand.symm
          have hw1 : IntKind.u64.wrap ((Ecc.hi (wordL L i) k : Int) - 1) = ((Ecc.hi (wordL L i) k - 1 : Nat) : Int) := by rw [IntKind.wrap_u64]; omega
          have hw2 : IntKind.i64.wrap ((i : Int) * 64 + (t : Int)) = ((64 * i + t : Nat) : Int) := by rw [IntKind.wrap_i64]; omega
          have hzI : ¬ ((Ecc.hi (wordL L i) k : Nat) : Int) = 0 := by omega
          clear hnext hm hbd hand hbit hno ht hz hx hlen
          generalize hu : upto L (64 * i + k) = U at *
          generalize Ecc.hi (wordL L i) k - 1 = x1 at *
          generalize hxx : Ecc.hi (wordL L i) k = x at *
          clear hxx
          go_wp2_with fail
          refine ktz.mono ?_
          rintro e w3 ⟨rfl, rfl⟩
          go_wp2_with (at_builtin; refine wp_app1 w.heap.size rfl (.tmp 20) (.tmp 26) elemI rfl _ ((64 * i + t : Nat) : Int) (by rfl) (.slice Eo U.length co) (U.map fun (n : Nat) => (n : Int)) rfl (by simp [Act.eval]) hV hss (by rw [List.length_map]; exact hbdH.out.1) (by rw [List.length_map]; exact hbdH.out.2) ?_; intro A6 c6 w6 hv6 hg6 hat6)
          have hU6 := hU.grownOwn hV (Nat.le_refl _) hg6
          rw [List.length_map] at hv6
          have hnx : (upto L (64 * i + (t + 1))).map (fun (n : Nat) => (n : Int)) = U.map (fun (n : Nat) => (n : Int)) ++ [((64 * i + t : Nat) : Int)] := by rw [hpH.out.1, List.map_append]; rfl
          have hlt9 := hpH.out.2
          go_roundw
          case measure => simp [intOf]; omega
          case rel => exact ⟨t + 1, _, by omega, rfl, rfl, by rw [hnx]; exact hv6, hU6⟩
    · obtain rfl : i = n := by omega
      have he := all_end L
      rw [← hnH.out] at he
      rw [he] at hV
      go_wp2_with fail
      go_ret
      exact ⟨_, rfl, hV, hU⟩
theorem hasI_nat (L : List Bool) (n : Nat) : hasI L (n : Int) = bitAt L n := by
  unfold hasI inI
  rw [Int.toNat_natCast]
  by_cases h : n < L.length
  · rw [show decide (0 ≤ (n : Int) ∧ (n : Int) < (L.length : Int)) = true by simp; omega, Bool.true_and]
  · rw [bit_out (by omega), Bool.and_false]
set_option maxHeartbeats 4000000 in
theorem firstC (L : List Bool) (g gb : Nat) (a : Int) (has : Bool) (w : World) (h : SetAt w g gb L) (hl : L.length ≤ 4096) : Calls Tryd.prog 23 #[.pointer (some ⟨g, 0, none⟩), .int .i64 a, .bool has] w fun e w' => e = .returned (.int .i64 (firstL L a has)) ∧ w' = w := by
  have ks := sizeC L g gb w h
  have kh := fun n : Nat => hasC L g gb n w h hl
  simp only [hasI_nat] at kh
  obtain ⟨b, hb⟩ : ∃ b : Nat, (b : Int) = max a 0 := ⟨(max a 0).toNat, by omega⟩
  obtain ⟨r, hr⟩ : ∃ r, r = firstL L a has := ⟨_, rfl⟩
  rw [← hr]
  have hrH := Lib.hid hr
  have hbH := Lib.hid (show ∀ i : Nat, a ≤ (i : Int) ↔ b ≤ i from fun i => by omega)
  clear hr
  go_enter Tryd.func23, Tryd.ntmps23
  go_wp2_with fail
  rw [← hb]
  clear hb
  have hlI : (L.length : Int) ≤ 4096 := by omega
  go_loopw [7] (fun s7 wr => ∃ j : Nat, b ≤ j ∧ s7 = .int .i64 (j : Int) ∧ Hid (∀ i : Nat, b ≤ i → i < j → bitAt L i ≠ has) ∧ wr = w) (fun s7 _ => L.length - (intOf s7).toNat)
  case atStart => exact ⟨b, by omega, by go_num, Lib.hid (fun i h1 h2 => by omega), rfl⟩
  case round =>
    obtain ⟨j, hj, rfl, hno, rfl⟩ := hrel
    by_cases hlt : j < L.length
    · have hI : (j : Int) < (L.length : Int) := by omega
      have khj := kh j
      by_cases hx : bitAt L j = has
      · have hz : r = (j : Int) := by rw [hrH.out]; exact first_at hlt ((hbH.out j).2 hj) hx (fun i h1 h2 => hno.out i ((hbH.out i).1 h2) h1)
        rw [hx] at khj
        clear hno hrH hx
        subst hz
        go_wp2_with fail
        refine ks.mono ?_
        rintro e w' ⟨rfl, rfl⟩
        go_wp2_with fail
        refine khj.mono ?_
        rintro e w' ⟨rfl, rfl⟩
        go_wp2_with fail
        go_ret
        exact ⟨rfl, rfl⟩
      · have hnx : ∀ i : Nat, b ≤ i → i < j + 1 → bitAt L i ≠ has := fun i h1 h2 => by
          rcases Nat.lt_or_ge i j with h3 | h3
          · exact hno.out i h1 h3
          · obtain rfl : i = j := by omega
            exact hx
        have hnxH := Lib.hid hnx
        have hxb : (bitAt L j == has) = false := by simpa using hx
        clear hno hnx hx
        go_wp2_with fail
        refine ks.mono ?_
        rintro e w' ⟨rfl, rfl⟩
        go_wp2_with fail
        refine khj.mono ?_
        rintro e w' ⟨rfl, rfl⟩
        go_wp2_with fail
        go_roundw
        case measure => simp [intOf]; omega
        case rel => exact ⟨j + 1, by omega, by go_num, Lib.hid hnxH.out, trivial⟩
    · have hI : ¬ (j : Int) < (L.length : Int) := by omega
      have hz : r = -1 := by rw [hrH.out]; exact first_no (fun i h1 h2 => hno.out i ((hbH.out i).1 h2) (by omega))
      clear hno hrH
      subst hz
      go_wp2_with fail
      refine ks.mono ?_
      rintro e w' ⟨rfl, rfl⟩
      go_wp2_with fail
      go_ret
      exact ⟨rfl, rfl⟩
end Go.Proofs.YtjkojhebgkgdaaaDoor.Bit
