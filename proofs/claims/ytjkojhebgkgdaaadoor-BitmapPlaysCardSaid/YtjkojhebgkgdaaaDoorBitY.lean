/-
  Whatever is put and dropped, each answer, and all numbers, are the document's: the walk. Conditions: what the arguments' slices hold; the table of Go's library is as it was laid.
-/
import Derived.Test.YtjkojhebgkgdaaaDoorBitX
namespace Go.Proofs.YtjkojhebgkgdaaaDoor.Bit
open Go.RowKit Go.Proofs.YtjkojhebgkgdaaaDoor.Base Go.Proofs.YtjkojhebgkgdaaaDoor.Ints Go.Proofs.YtjkojhebgkgdaaaDoor.Ecc
set_option linter.unusedVariables false
set_option linter.unusedSimpArgs false
set_option maxRecDepth 100000
theorem bne_self (x : Bool) : (x != x) = false := by cases x <;> rfl
theorem dropI_no {L : List Bool} {n : Int} (h : hasI L n = false) : dropI L n = L := by
  unfold dropI
  split
  · rename_i hi
    have hi2 : 0 ≤ n ∧ n < (L.length : Int) := by simpa [inI] using hi
    unfold hasI at h
    rw [hi, Bool.true_and] at h
    exact set_same (by omega) h
  · rfl
theorem has_yes {L : List Bool} {n : Int} (h : hasI L n = true) : ∃ k : Nat, n = (k : Int) ∧ k < L.length ∧ dropI L n = L.set k false := by
  unfold hasI at h
  simp only [Bool.and_eq_true] at h
  have hi2 : 0 ≤ n ∧ n < (L.length : Int) := by simpa [inI] using h.1
  obtain ⟨k, rfl⟩ := Int.eq_ofNat_of_zero_le hi2.1
  refine ⟨k, rfl, by omega, ?_⟩
  unfold dropI
  rw [if_pos h.1, Int.toNat_natCast]
set_option maxHeartbeats 16000000 in
theorem playsC (A B : Option Addr) (ca cb : Nat) (size a : Int) (l acts : List Int) (w : World) (hA : Arg w A 1 ic l) (hB : Arg w B 1 ic acts) (hT : Tab w) :
    Calls Tryd.prog 5 #[.int .i64 size, .slice A l.length ca, .slice B acts.length cb, .int .i64 a] w (RetB true w) := by
  have hF := fixedC w hT
  by_cases h1 : 100 < l.length
  · have h1I : (100 : Int) < (l.length : Int) := by omega
    go_enter Tryd.func5, Tryd.ntmps5
    go_wp2_with fail
    refine hF.mono ?_
    rintro e w1 ⟨rfl, hU1⟩
    go_wp2_with fail
    go_ret
    exact ⟨rfl, hU1⟩
  have h1I : ¬ (100 : Int) < (l.length : Int) := by omega
  by_cases h2 : 100 < acts.length
  · have h2I : (100 : Int) < (acts.length : Int) := by omega
    go_enter Tryd.func5, Tryd.ntmps5
    go_wp2_with fail
    refine hF.mono ?_
    rintro e w1 ⟨rfl, hU1⟩
    go_wp2_with fail
    go_ret
    exact ⟨rfl, hU1⟩
  have h2I : ¬ (100 : Int) < (acts.length : Int) := by omega
  by_cases h3 : size < 0
  · skip
    have kn := newN size (by omega) (.slice A l.length ca)
    go_enter Tryd.func5, Tryd.ntmps5
    go_wp2_with fail
    refine hF.mono ?_
    rintro e w1 ⟨rfl, hU1⟩
    go_wp2_with fail
    refine (kn w1).mono ?_
    rintro e w' ⟨rfl, rfl⟩
    go_wp2_with fail
    refine (putN 0 _).mono ?_
    rintro e w' ⟨rfl, rfl⟩
    go_wp2_with fail
    refine (hasN 0 _).mono ?_
    rintro e w' ⟨rfl, rfl⟩
    go_wp2_with fail
    refine (lenN _).mono ?_
    rintro e w' ⟨rfl, rfl⟩
    go_wp2_with fail
    refine (sizeN _).mono ?_
    rintro e w' ⟨rfl, rfl⟩
    go_wp2_with fail
    refine (allN _).mono ?_
    rintro e w' ⟨rfl, rfl⟩
    go_wp2_with fail
    refine (bytesN _).mono ?_
    rintro e w' ⟨rfl, rfl⟩
    go_wp2_with fail
    refine (firstN true _).mono ?_
    rintro e w' ⟨rfl, rfl⟩
    go_wp2_with fail
    refine (withN (.pointer none) _).mono ?_
    rintro e w' ⟨rfl, rfl⟩
    go_wp2_with fail
    go_ret
    exact ⟨rfl, hU1⟩
  by_cases h4 : 4096 < size
  · skip
    have kn := newN size (by omega) (.slice A l.length ca)
    go_enter Tryd.func5, Tryd.ntmps5
    go_wp2_with fail
    refine hF.mono ?_
    rintro e w1 ⟨rfl, hU1⟩
    go_wp2_with fail
    refine (kn w1).mono ?_
    rintro e w' ⟨rfl, rfl⟩
    go_wp2_with fail
    refine (putN 0 _).mono ?_
    rintro e w' ⟨rfl, rfl⟩
    go_wp2_with fail
    refine (hasN 0 _).mono ?_
    rintro e w' ⟨rfl, rfl⟩
    go_wp2_with fail
    refine (lenN _).mono ?_
    rintro e w' ⟨rfl, rfl⟩
    go_wp2_with fail
    refine (sizeN _).mono ?_
    rintro e w' ⟨rfl, rfl⟩
    go_wp2_with fail
    refine (allN _).mono ?_
    rintro e w' ⟨rfl, rfl⟩
    go_wp2_with fail
    refine (bytesN _).mono ?_
    rintro e w' ⟨rfl, rfl⟩
    go_wp2_with fail
    refine (firstN true _).mono ?_
    rintro e w' ⟨rfl, rfl⟩
    go_wp2_with fail
    refine (withN (.pointer none) _).mono ?_
    rintro e w' ⟨rfl, rfl⟩
    go_wp2_with fail
    go_ret
    exact ⟨rfl, hU1⟩
  obtain ⟨m, rfl⟩ := Int.eq_ofNat_of_zero_le (show 0 ≤ size by omega)
  have hm : m ≤ 4096 := by omega
  have k1 := fun w hA => newC m hm A ca l w hA (by omega)
  have k2 := fun w hA => rnewC m hm A ca l w hA (by omega)
  go_enter Tryd.func5, Tryd.ntmps5
  go_wp2_with fail
  refine hF.mono ?_
  rintro e w1 ⟨rfl, hU1⟩
  go_wp2_with fail
  refine (k1 _ (hA.upd hU1)).mono ?_
  rintro e w2 ⟨g, gb, rfl, hg, hgb, hs, hU2⟩
  have hU02 := hU1.tr hU2
  have hw1 := hU1.size
  go_wp2_with fail
  refine (k2 _ (hA.upd hU02)).mono ?_
  rintro e w3 ⟨gr, rfl, hgr, hr, hU3⟩
  have hU03 := hU02.tr hU3
  have hs3 := hs.upd0 hU3
  have hw2 := hU02.size
  have hrl := hr.lower (Nat.zero_le _)
  have hLl := newL_len m l
  clear k1 k2 hF hs hr hU02 hU1 hU2 hU3
  have hgb9 : w.heap.size ≤ gb := by omega
  have hgr9 : w.heap.size ≤ gr := by omega
  generalize newL m l = L0 at *
  go_wp2_with fail
  go_loopw [76] (fun s76 wr => ∃ (i : Nat) (L : List Bool), i ≤ acts.length ∧ s76 = .int .i64 (i : Int) ∧ L.length = m ∧ SetAt wr g gb L ∧ Sl wr 0 4 1 bc1 (.slice (some ⟨gr, 0, none⟩) m m) L ∧ Upd Nil w wr) (fun s76 _ => acts.length - (intOf s76).toNat)
  case atStart => exact ⟨0, L0, by omega, by go_num, hLl, hs3, hrl, hU03⟩
  case round =>
    clear hs3 hrl hU03 hLl
    obtain ⟨i, L, hi, rfl, hLl, hs, hr, hU⟩ := hrel
    by_cases hlt : i < acts.length
    · have hI : (i : Int) < (acts.length : Int) := by omega
      obtain ⟨ga, oa, rfl, hga, hcell⟩ := ic_cell (hB.upd hU) hlt
      have hmod : Int.tmod (i : Int) 2 = ((i % 2 : Nat) : Int) := by rw [Int.tmod_eq_emod_of_nonneg (by omega)]; omega
      have hm2 : i % 2 < 2 := Nat.mod_lt _ (by omega)
      generalize acts[i] = n at *
      have hne1 := fun k hk => hr.ne hs.1 (by decide) k hk
      have hne2 := fun k hk => hr.ne hs.2 (by decide) k hk
      have hgrg : gr ≠ g := hne1 gr rfl
      have hgrb : gr ≠ gb := hne2 gr rfl
      clear hne1 hne2
      rcases (show i % 2 = 0 ∨ i % 2 = 1 by omega) with hp | hp
      · rw [hp] at hmod
        have hmod : Int.tmod (i : Int) 2 = 0 := hmod
        have kp := putC L g gb n wr hs (by rw [hLl]; exact hm)
        clear hp hm2
        by_cases hin : 0 ≤ n ∧ n < (m : Int)
        · obtain ⟨k, rfl⟩ := Int.eq_ofNat_of_zero_le hin.1
          have hkm : k < m := by omega
          have hkI := hin.2
          rw [putI_set (by rw [hLl]; exact hkm), show inI L (k : Int) = true by unfold inI; rw [hLl]; simp; omega, Int.toNat_natCast, Bool.true_and] at kp
          cases hb : bitAt L k with
          | true =>
            rw [hb] at kp
            go_wp2_with fail
            refine kp.mono ?_
            rintro e w4 ⟨rfl, hs4, hU34⟩
            have hr4 := hr.upd hU34 (fun b hb1 hb2 => hgrb ((Option.some.inj (show some gr = some b from hb1)).trans hb2))
            have hU4 := hU.trans hU34 (fun x hx => .inr (by have hx : x = gb := hx; omega))
            clear kp hs hr hU hU34
            obtain ⟨_, cur, hcur⟩ := hr4.typed gr rfl
            obtain ⟨g', o', eg, _, hco⟩ := bit_cell (hr4.cells bc1_len (by omega)) (i := k) (by rw [hLl]; exact hkm)
            injection eg with eg
            injection eg with eg1 eg2
            subst eg1 eg2
            rw [Nat.zero_add] at hco
            have z := blk_frozen hcur k
            have hr5 := Sl.set1 (f := fun x : Bool => .bool x) hr4 (i := k) (by rw [hLl]; exact hkm) true
            rw [Nat.zero_add] at hr5
            have hs5 : SetAt (w4.setCell ⟨gr, k, none⟩ (.bool true)) g gb (L.set k true) := ⟨blk_other hs4.1 (p := ⟨gr, k, none⟩) (fun e => hgrg e.symm) _, blk_other hs4.2 (p := ⟨gr, k, none⟩) (fun e => hgrb e.symm) _⟩
            have hU5 := hU4.setNew (i := k) hgr9 (.bool true)
            have hLs : (L.set k true).length = m := by rw [List.length_set, hLl]
            have hfH := Lib.hid (And.intro hr5 (And.intro hs5 hU5))
            clear hcur hr5 hs5 hU5 hr4 hs4
            rw [hb] at hco
            go_upto_region 17 with fail
            have hr5 := hfH.out.1
            have hs5 := hfH.out.2.1
            have hU5 := hfH.out.2.2
            generalize w4.setCell ⟨gr, k, none⟩ (.bool true) = w5 at *
            generalize hn : (k : Int) = n at *
            clear hfH hco z hb
            have kh1 := hasC (L.set k true) g gb n w5 hs5 (by rw [hLs]; exact hm)
            have kh2 := rhasC (L.set k true) (some ⟨gr, 0, none⟩) m n w5 (hr5.cells bc1_len (by omega)) (by rw [hLs]; exact hm)
            rw [hLs] at kh2
            generalize hasI (L.set k true) n = xh at *
            go_wp2_with fail
            refine kh1.mono ?_
            rintro e w' ⟨rfl, rfl⟩
            go_wp2_with fail
            refine kh2.mono ?_
            rintro e w' ⟨rfl, rfl⟩
            have hne := bne_self xh
            clear kh1 kh2
            go_wp2_with fail
            go_roundw
            case measure => simp [intOf]; omega
            case rel => exact ⟨i + 1, (L.set k true), by omega, by go_num, hLs, hs5, hr5, hU5⟩
          | false =>
            rw [hb] at kp
            go_wp2_with fail
            refine kp.mono ?_
            rintro e w4 ⟨rfl, hs4, hU34⟩
            have hr4 := hr.upd hU34 (fun b hb1 hb2 => hgrb ((Option.some.inj (show some gr = some b from hb1)).trans hb2))
            have hU4 := hU.trans hU34 (fun x hx => .inr (by have hx : x = gb := hx; omega))
            clear kp hs hr hU hU34
            obtain ⟨_, cur, hcur⟩ := hr4.typed gr rfl
            obtain ⟨g', o', eg, _, hco⟩ := bit_cell (hr4.cells bc1_len (by omega)) (i := k) (by rw [hLl]; exact hkm)
            injection eg with eg
            injection eg with eg1 eg2
            subst eg1 eg2
            rw [Nat.zero_add] at hco
            have z := blk_frozen hcur k
            have hr5 := Sl.set1 (f := fun x : Bool => .bool x) hr4 (i := k) (by rw [hLl]; exact hkm) true
            rw [Nat.zero_add] at hr5
            have hs5 : SetAt (w4.setCell ⟨gr, k, none⟩ (.bool true)) g gb (L.set k true) := ⟨blk_other hs4.1 (p := ⟨gr, k, none⟩) (fun e => hgrg e.symm) _, blk_other hs4.2 (p := ⟨gr, k, none⟩) (fun e => hgrb e.symm) _⟩
            have hU5 := hU4.setNew (i := k) hgr9 (.bool true)
            have hLs : (L.set k true).length = m := by rw [List.length_set, hLl]
            have hfH := Lib.hid (And.intro hr5 (And.intro hs5 hU5))
            clear hcur hr5 hs5 hU5 hr4 hs4
            rw [hb] at hco
            go_upto_region 17 with fail
            have hr5 := hfH.out.1
            have hs5 := hfH.out.2.1
            have hU5 := hfH.out.2.2
            generalize w4.setCell ⟨gr, k, none⟩ (.bool true) = w5 at *
            generalize hn : (k : Int) = n at *
            clear hfH hco z hb
            have kh1 := hasC (L.set k true) g gb n w5 hs5 (by rw [hLs]; exact hm)
            have kh2 := rhasC (L.set k true) (some ⟨gr, 0, none⟩) m n w5 (hr5.cells bc1_len (by omega)) (by rw [hLs]; exact hm)
            rw [hLs] at kh2
            generalize hasI (L.set k true) n = xh at *
            go_wp2_with fail
            refine kh1.mono ?_
            rintro e w' ⟨rfl, rfl⟩
            go_wp2_with fail
            refine kh2.mono ?_
            rintro e w' ⟨rfl, rfl⟩
            have hne := bne_self xh
            clear kh1 kh2
            go_wp2_with fail
            go_roundw
            case measure => simp [intOf]; omega
            case rel => exact ⟨i + 1, (L.set k true), by omega, by go_num, hLs, hs5, hr5, hU5⟩
        · rw [putI_out (by rw [hLl]; exact hin), show inI L n = false by unfold inI; rw [hLl]; simpa using hin, Bool.false_and] at kp
          by_cases h0 : 0 ≤ n
          · have h1 : ¬ n < (m : Int) := fun h => hin ⟨h0, h⟩
            clear hin
            go_wp2_with fail
            refine kp.mono ?_
            rintro e w4 ⟨rfl, hs4, hU34⟩
            have hr4 := hr.upd hU34 (fun b hb1 hb2 => hgrb ((Option.some.inj (show some gr = some b from hb1)).trans hb2))
            have hU4 := hU.trans hU34 (fun x hx => .inr (by have hx : x = gb := hx; omega))
            clear kp hs hr hU hU34
            have kh1 := hasC L g gb n w4 hs4 (by rw [hLl]; exact hm)
            have kh2 := rhasC L (some ⟨gr, 0, none⟩) m n w4 (hr4.cells bc1_len (by omega)) (by rw [hLl]; exact hm)
            rw [hLl] at kh2
            generalize hasI L n = xh at *
            go_wp2_with fail
            refine kh1.mono ?_
            rintro e w' ⟨rfl, rfl⟩
            go_wp2_with fail
            refine kh2.mono ?_
            rintro e w' ⟨rfl, rfl⟩
            have hne := bne_self xh
            clear kh1 kh2
            go_wp2_with fail
            go_roundw
            case measure => simp [intOf]; omega
            case rel => exact ⟨i + 1, L, by omega, by go_num, hLl, hs4, hr4, hU4⟩
          · clear hin
            go_wp2_with fail
            refine kp.mono ?_
            rintro e w4 ⟨rfl, hs4, hU34⟩
            have hr4 := hr.upd hU34 (fun b hb1 hb2 => hgrb ((Option.some.inj (show some gr = some b from hb1)).trans hb2))
            have hU4 := hU.trans hU34 (fun x hx => .inr (by have hx : x = gb := hx; omega))
            clear kp hs hr hU hU34
            have kh1 := hasC L g gb n w4 hs4 (by rw [hLl]; exact hm)
            have kh2 := rhasC L (some ⟨gr, 0, none⟩) m n w4 (hr4.cells bc1_len (by omega)) (by rw [hLl]; exact hm)
            rw [hLl] at kh2
            generalize hasI L n = xh at *
            go_wp2_with fail
            refine kh1.mono ?_
            rintro e w' ⟨rfl, rfl⟩
            go_wp2_with fail
            refine kh2.mono ?_
            rintro e w' ⟨rfl, rfl⟩
            have hne := bne_self xh
            clear kh1 kh2
            go_wp2_with fail
            go_roundw
            case measure => simp [intOf]; omega
            case rel => exact ⟨i + 1, L, by omega, by go_num, hLl, hs4, hr4, hU4⟩
      · rw [hp] at hmod
        have hmod : Int.tmod (i : Int) 2 = 1 := hmod
        have kd := dropC L g gb n wr hs (by rw [hLl]; exact hm)
        clear hp hm2
        cases hh : hasI L n with
        | true =>
          obtain ⟨k, rfl, hkm, hdr⟩ := has_yes hh
          rw [hLl] at hkm
          rw [hh, hdr] at kd
          have hkI : (k : Int) < (m : Int) := by omega
          have kr := fun w' hA => rhasC L (some ⟨gr, 0, none⟩) m (k : Int) w' hA (by rw [hLl]; exact hm)
          rw [hh, hLl] at kr
          clear hdr hh
          go_wp2_with fail
          refine kd.mono ?_
          rintro e w4 ⟨rfl, hs4, hU34⟩
          have hr4 := hr.upd hU34 (fun b hb1 hb2 => hgrb ((Option.some.inj (show some gr = some b from hb1)).trans hb2))
          have hU4 := hU.trans hU34 (fun x hx => .inr (by have hx : x = gb := hx; omega))
          have kr4 := kr w4 (hr4.cells bc1_len (by omega))
          clear kd hs hr hU hU34 kr
          obtain ⟨_, cur, hcur⟩ := hr4.typed gr rfl
          obtain ⟨g', o', eg, _, hco⟩ := bit_cell (hr4.cells bc1_len (by omega)) (i := k) (by rw [hLl]; exact hkm)
          injection eg with eg
          injection eg with eg1 eg2
          subst eg1 eg2
          rw [Nat.zero_add] at hco
          have z := blk_frozen hcur k
          have hr5 := Sl.set1 (f := fun x : Bool => .bool x) hr4 (i := k) (by rw [hLl]; exact hkm) false
          rw [Nat.zero_add] at hr5
          have hs5 : SetAt (w4.setCell ⟨gr, k, none⟩ (.bool false)) g gb (L.set k false) := ⟨blk_other hs4.1 (p := ⟨gr, k, none⟩) (fun e => hgrg e.symm) _, blk_other hs4.2 (p := ⟨gr, k, none⟩) (fun e => hgrb e.symm) _⟩
          have hU5 := hU4.setNew (i := k) hgr9 (.bool false)
          have hLs : (L.set k false).length = m := by rw [List.length_set, hLl]
          have hfH := Lib.hid (And.intro hr5 (And.intro hs5 hU5))
          clear hcur hr5 hs5 hU5 hr4 hs4
          go_wp2_with fail
          refine kr4.mono ?_
          rintro e w' ⟨rfl, rfl⟩
          go_wp2_with fail
          refine kr4.mono ?_
          rintro e w' ⟨rfl, rfl⟩
          obtain ⟨w4, rfl⟩ : ∃ x, x = w' := ⟨w', rfl⟩
          generalize hxb : bitAt L k = xb at *
          go_upto_region 21 with fail
          have hr5 := hfH.out.1
          have hs5 := hfH.out.2.1
          have hU5 := hfH.out.2.2
          generalize w4.setCell ⟨gr, k, none⟩ (.bool false) = w5 at *
          generalize hn : (k : Int) = n at *
          clear hfH hco z kr4 hxb
          have kh1 := hasC (L.set k false) g gb n w5 hs5 (by rw [hLs]; exact hm)
          have kh2 := rhasC (L.set k false) (some ⟨gr, 0, none⟩) m n w5 (hr5.cells bc1_len (by omega)) (by rw [hLs]; exact hm)
          rw [hLs] at kh2
          generalize hasI (L.set k false) n = xh at *
          go_wp2_with fail
          refine kh1.mono ?_
          rintro e w' ⟨rfl, rfl⟩
          go_wp2_with fail
          refine kh2.mono ?_
          rintro e w' ⟨rfl, rfl⟩
          have hne := bne_self xh
          clear kh1 kh2
          go_wp2_with fail
          go_roundw
          case measure => simp [intOf]; omega
          case rel => exact ⟨i + 1, (L.set k false), by omega, by go_num, hLs, hs5, hr5, hU5⟩
        | false =>
          rw [hh, dropI_no hh] at kd
          have kr := fun w' hA => rhasC L (some ⟨gr, 0, none⟩) m n w' hA (by rw [hLl]; exact hm)
          rw [hh, hLl] at kr
          go_wp2_with fail
          refine kd.mono ?_
          rintro e w4 ⟨rfl, hs4, hU34⟩
          have hr4 := hr.upd hU34 (fun b hb1 hb2 => hgrb ((Option.some.inj (show some gr = some b from hb1)).trans hb2))
          have hU4 := hU.trans hU34 (fun x hx => .inr (by have hx : x = gb := hx; omega))
          have kr4 := kr w4 (hr4.cells bc1_len (by omega))
          clear kd hs hr hU hU34 kr hh
          go_wp2_with fail
          refine kr4.mono ?_
          rintro e w' ⟨rfl, rfl⟩
          go_wp2_with fail
          refine kr4.mono ?_
          rintro e w' ⟨rfl, rfl⟩
          obtain ⟨w4, rfl⟩ : ∃ x, x = w' := ⟨w', rfl⟩
          clear kr4
          have kh1 := hasC L g gb n w4 hs4 (by rw [hLl]; exact hm)
          have kh2 := rhasC L (some ⟨gr, 0, none⟩) m n w4 (hr4.cells bc1_len (by omega)) (by rw [hLl]; exact hm)
          rw [hLl] at kh2
          generalize hasI L n = xh at *
          go_wp2_with fail
          refine kh1.mono ?_
          rintro e w' ⟨rfl, rfl⟩
          go_wp2_with fail
          refine kh2.mono ?_
          rintro e w' ⟨rfl, rfl⟩
          have hne := bne_self xh
          clear kh1 kh2
          go_wp2_with fail
          go_roundw
          case measure => simp [intOf]; omega
          case rel => exact ⟨i + 1, L, by omega, by go_num, hLl, hs4, hr4, hU4⟩
    · obtain rfl : i = acts.length := by omega
      have kl := likeC L g gb (some ⟨gr, 0, none⟩) m wr hs (hr.cells bc1_len (by omega)) (by rw [hLl]; exact hm) (hT.upd hU)
      rw [hLl] at kl
      have kf := fun has w' (u : Upd Nil wr w') => firstC L g gb a has w' (hs.upd0 u) (by rw [hLl]; exact hm)
      have kg := fun has w' (u : Upd Nil wr w') => rfirstC L (some ⟨gr, 0, none⟩) m a has w' ((hr.upd0 u).cells bc1_len (by omega)) (by rw [hLl]; exact hm)
      rw [hLl] at kg
      generalize firstL L a = ff at *
      go_wp2_with fail
      refine kl.mono ?_
      rintro e w4 ⟨rfl, hU4⟩
      have hU5 := hU.tr hU4
      clear kl
      go_wp2_with fail
      refine (kf true w4 hU4).mono ?_
      rintro e w' ⟨rfl, rfl⟩
      go_wp2_with fail
      refine (kg true _ hU4).mono ?_
      rintro e w' ⟨rfl, rfl⟩
      go_wp2_with fail
      refine (kf false _ hU4).mono ?_
      rintro e w' ⟨rfl, rfl⟩
      go_wp2_with fail
      refine (kg false _ hU4).mono ?_
      rintro e w' ⟨rfl, rfl⟩
      go_wp2_with fail
      go_ret
      exact ⟨rfl, hU5⟩
end Go.Proofs.YtjkojhebgkgdaaaDoor.Bit
