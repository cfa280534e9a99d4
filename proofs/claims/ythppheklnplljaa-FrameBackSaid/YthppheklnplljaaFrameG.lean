/-
  The walk of almshouselaw03.FrameBack: it returns true and turns nothing that there was. Conditions: what the arguments' slices hold.
-/
import Derived.Test.YthppheklnplljaaFrameF
import Derived.Test.YthppheklnplljaaFrameQ
namespace Go.Proofs.Ythppheklnplljaa.Frame
open Go.RowKit Go.Proofs.Ythppheklnplljaa.Base Go.Proofs.Ythppheklnplljaa.Word Go.Proofs.Ythppheklnplljaa.Sum
set_option linter.unusedVariables false
set_option linter.unusedSimpArgs false
set_option maxHeartbeats 8000000 in
set_option maxRecDepth 100000 in
theorem back (k : Nat) (A : Option Addr) (c : Nat) (l : List UInt8) (B : Option Addr) (cb : Nat) (r : List UInt8) (a : Int) (y : Nat) (w : World) (hk : k ≤ 255) (hA : Arg w A 1 bc l) (hB : Arg w B 1 bc r) (a0 : 0 ≤ a) (a1 : a ≤ 65535) (hy : y < 256) :
    Calls Try.prog 5 #[.int .u8 k, .slice A l.length c, .slice B r.length cb, .int .u16 a, .int .u8 y] w (RetB true w) := by
  have hyH := Lib.hid hy
  clear hy
  by_cases h1 : 500 < l.length
  · have h1I : (500 : Int) < l.length := by omega
    go_enter Try.func5, Try.ntmps5
    go_wp2_with (go_at_call 13; refine (fixed _).mono ?_; rintro e w1 ⟨rfl, hU1⟩)
    go_ret
    exact ⟨rfl, hU1⟩
  · by_cases h2 : 500 < r.length
    · have h2I : (500 : Int) < r.length := by omega
      go_enter Try.func5, Try.ntmps5
      go_wp2_with (go_at_call 13; refine (fixed _).mono ?_; rintro e w1 ⟨rfl, hU1⟩)
      go_ret
      exact ⟨rfl, hU1⟩
    · have km := fun w' (u : Upd Nil w w') => make k A c l w' (hA.upd u) (by unfold maxLen; omega)
      have hmk : mk (k : Int) l = (frameL k l, 0) := by
        unfold mk
        rw [if_neg (by rw [fits_1]; simp; omega), if_neg (by omega)]
        simp
      rw [hmk] at km
      have hF0 := Lib.hid (rfl : frameL k l ++ r = frameL k l ++ r)
      have hFl : (frameL k l).length = 7 + l.length := frameL_len k l
      have hopn : opn (frameL k l ++ r) = ⟨k, l, (frameL k l).length, 0⟩ := by rw [opn_mk k l r hk (by omega), hFl]
      have hQl : (frameL k l ++ r).length = (frameL k l).length + r.length := List.length_append
      have hturn := Lib.hid (fun i hi hiF h1 h2 d hd => opn_turned k l r _ rfl (by omega) i hi hiF h1 h2 d hd)
      clear hmk hF0
      generalize frameL k l = F at *
      have hFI : (7 : Int) ≤ F.length := by omega
      have hF5 : F.length ≤ 507 := by omega
      have hFlH := Lib.hid hFl
      clear hFl
      obtain ⟨n, hn, hnl⟩ : ∃ n : Nat, a % (F.length : Int) = n ∧ n < F.length := by
        refine ⟨(a % (F.length : Int)).toNat, ?_, ?_⟩
        · have := Int.emod_nonneg a (b := (F.length : Int)) (by omega); omega
        · have := Int.emod_lt_of_pos a (b := (F.length : Int)) (by omega); omega
      have hz : ∀ w : World, Sl (w.alloc (.cells #[] 5)) w.heap.size 5 1 bc (.slice (some ⟨w.heap.size, 0, none⟩) 0 0) [] := fun w => Sl.zero _ _ _ _ _ _ (Nat.le_refl _)
      by_cases hy0 : y = 0
      · subst hy0
        go_enter Try.func5, Try.ntmps5
        go_wp2_with fail
        refine (fixed _).mono ?_
        rintro e w1 ⟨rfl, hU1⟩
        go_wp2_with fail
        refine (km _ hU1).mono ?_
        rintro e w2 ⟨x2, rfl, hx2, hU2⟩
        obtain ⟨A2, c2, rfl, hc2⟩ := hx2.form
        have hA2 := hx2.cells bc_len (by omega)
        have hU02 := hU1.tr hU2
        clear hx2 hU1 hU2 km
        have hs3 := Src.ofArg (P := Try.prog) (tx := 22) ⟨_, elemU8.ht⟩ elemU8.len elemU8.one (hA2.upd ((Upd.refl _ _).alloc (.cells #[] 5))) c2
        go_wp2_with (at_builtin; first
          | (refine wp_app w2.heap.size rfl (.tmp 40) (.tmp 41) elemU8 rfl _ [] F _ rfl rfl hs3 (hz w2) (by simp) (by simp; omega) (by unfold maxLen; simp; omega) ?_
             intro A3 c3 w3 hv3 hg3 hat3
             have hU3 : Upd Nil w w3 := (hU02.alloc _).grownOwn (hz w2) hU02.size hg3
             have hS3 : Sl w3 w2.heap.size 5 1 bc (.slice A3 F.length c3) F := by simpa using hv3
             have hwb : w.heap.size ≤ w2.heap.size := hU02.size
             have hB3 : w2.heap.size ≤ w3.heap.size := ((show Upd Nil w2 (w2.alloc (.cells #[] 5)) from (Upd.refl _ _).alloc _).grownOwn (hz w2) (Nat.le_refl _) hg3).size
             have hs4 := Src.ofArg (P := Try.prog) (tx := 22) ⟨_, elemU8.ht⟩ elemU8.len elemU8.one (hB.upd hU3) cb
             clear hs3 hv3 hg3 hat3 hz hA2)
          | (refine wp_app w2.heap.size rfl (.tmp 42) (.tmp 43) elemU8 rfl _ F r _ rfl rfl hs4 hS3 hB3 (by omega) (by unfold maxLen; omega) ?_
             intro A4 c4 w4 hv4 hg4 hat4))
        have hU4 : Upd Nil w w4 := hU3.grownOwn hS3 hwb hg4
        have hm4 := hv4.capMax
        obtain ⟨A4', c4', e4, hc4⟩ := hv4.form
        injection e4 with e41 e42 e43
        subst e41 e43
        rw [hQl] at hc4
        have hA4 := hv4.cells bc_len (by omega)
        clear hs4 hS3 hg4 hat4 hU3 hU02 hB3 e42
        have ko := opens A4 c4 (F ++ r) w4 hA4 (by rw [hQl]; exact hc4) (by unfold maxLen; omega) (by rw [hQl]; omega)
        rw [hopn, hQl] at ko
        go_wp2_with fail
        refine ko.mono ?_
        clear ko
        rintro e w5 ⟨x5, rfl, hx5, hU5⟩
        obtain ⟨A5, c5, rfl, hc5⟩ := hx5.form
        have hA5 := hx5.cells bc_len (by omega)
        have hcvx := cv hA5 c5
        have hcvb := cv ((hA.upd hU4).upd hU5) c
        have hU05 := hU4.tr hU5
        have hS5 := hv4.upd0 hU5
        clear hx5 hA5 hv4 hA4 hc5
        go_wp2_with fail
        go_ret
        exact ⟨rfl, hU05⟩
      · have hyb : ((y : Int) == 0) = false := by simp [hy0]
        by_cases hn1 : n = 1
        · subst hn1
          go_enter Try.func5, Try.ntmps5
          go_wp2_with fail
          refine (fixed _).mono ?_
          rintro e w1 ⟨rfl, hU1⟩
          go_wp2_with fail
          refine (km _ hU1).mono ?_
          rintro e w2 ⟨x2, rfl, hx2, hU2⟩
          obtain ⟨A2, c2, rfl, hc2⟩ := hx2.form
          have hA2 := hx2.cells bc_len (by omega)
          have hU02 := hU1.tr hU2
          clear hx2 hU1 hU2 km
          have hs3 := Src.ofArg (P := Try.prog) (tx := 22) ⟨_, elemU8.ht⟩ elemU8.len elemU8.one (hA2.upd ((Upd.refl _ _).alloc (.cells #[] 5))) c2
          go_wp2_with (at_builtin; first
            | (refine wp_app w2.heap.size rfl (.tmp 40) (.tmp 41) elemU8 rfl _ [] F _ rfl rfl hs3 (hz w2) (by simp) (by simp; omega) (by unfold maxLen; simp; omega) ?_
               intro A3 c3 w3 hv3 hg3 hat3
               have hU3 : Upd Nil w w3 := (hU02.alloc _).grownOwn (hz w2) hU02.size hg3
               have hS3 : Sl w3 w2.heap.size 5 1 bc (.slice A3 F.length c3) F := by simpa using hv3
               have hwb : w.heap.size ≤ w2.heap.size := hU02.size
               have hB3 : w2.heap.size ≤ w3.heap.size := ((show Upd Nil w2 (w2.alloc (.cells #[] 5)) from (Upd.refl _ _).alloc _).grownOwn (hz w2) (Nat.le_refl _) hg3).size
               have hs4 := Src.ofArg (P := Try.prog) (tx := 22) ⟨_, elemU8.ht⟩ elemU8.len elemU8.one (hB.upd hU3) cb
               clear hs3 hv3 hg3 hat3 hz hA2)
            | (refine wp_app w2.heap.size rfl (.tmp 42) (.tmp 43) elemU8 rfl _ F r _ rfl rfl hs4 hS3 hB3 (by omega) (by unfold maxLen; omega) ?_
               intro A4 c4 w4 hv4 hg4 hat4))
          have hU4 : Upd Nil w w4 := hU3.grownOwn hS3 hwb hg4
          have hm4 := hv4.capMax
          obtain ⟨A4', c4', e4, hc4⟩ := hv4.form
          injection e4 with e41 e42 e43
          subst e41 e43
          rw [hQl] at hc4
          have hA4 := hv4.cells bc_len (by omega)
          clear hs4 hS3 hg4 hat4 hU3 hU02 hB3 e42
          have ko := opens A4 c4 (F ++ r) w4 hA4 (by rw [hQl]; exact hc4) (by unfold maxLen; omega) (by rw [hQl]; omega)
          rw [hopn, hQl] at ko
          go_wp2_with fail
          refine ko.mono ?_
          clear ko
          rintro e w5 ⟨x5, rfl, hx5, hU5⟩
          obtain ⟨A5, c5, rfl, hc5⟩ := hx5.form
          have hA5 := hx5.cells bc_len (by omega)
          have hcvx := cv hA5 c5
          have hcvb := cv ((hA.upd hU4).upd hU5) c
          have hU05 := hU4.tr hU5
          have hS5 := hv4.upd0 hU5
          clear hx5 hA5 hv4 hA4 hc5
          go_wp2_with fail
          go_ret
          exact ⟨rfl, hU05⟩
        · by_cases hn2 : n = 2
          · subst hn2
            go_enter Try.func5, Try.ntmps5
            go_wp2_with fail
            refine (fixed _).mono ?_
            rintro e w1 ⟨rfl, hU1⟩
            go_wp2_with fail
            refine (km _ hU1).mono ?_
            rintro e w2 ⟨x2, rfl, hx2, hU2⟩
            obtain ⟨A2, c2, rfl, hc2⟩ := hx2.form
            have hA2 := hx2.cells bc_len (by omega)
            have hU02 := hU1.tr hU2
            clear hx2 hU1 hU2 km
            have hs3 := Src.ofArg (P := Try.prog) (tx := 22) ⟨_, elemU8.ht⟩ elemU8.len elemU8.one (hA2.upd ((Upd.refl _ _).alloc (.cells #[] 5))) c2
            go_wp2_with (at_builtin; first
              | (refine wp_app w2.heap.size rfl (.tmp 40) (.tmp 41) elemU8 rfl _ [] F _ rfl rfl hs3 (hz w2) (by simp) (by simp; omega) (by unfold maxLen; simp; omega) ?_
                 intro A3 c3 w3 hv3 hg3 hat3
                 have hU3 : Upd Nil w w3 := (hU02.alloc _).grownOwn (hz w2) hU02.size hg3
                 have hS3 : Sl w3 w2.heap.size 5 1 bc (.slice A3 F.length c3) F := by simpa using hv3
                 have hwb : w.heap.size ≤ w2.heap.size := hU02.size
                 have hB3 : w2.heap.size ≤ w3.heap.size := ((show Upd Nil w2 (w2.alloc (.cells #[] 5)) from (Upd.refl _ _).alloc _).grownOwn (hz w2) (Nat.le_refl _) hg3).size
                 have hs4 := Src.ofArg (P := Try.prog) (tx := 22) ⟨_, elemU8.ht⟩ elemU8.len elemU8.one (hB.upd hU3) cb
                 clear hs3 hv3 hg3 hat3 hz hA2)
              | (refine wp_app w2.heap.size rfl (.tmp 42) (.tmp 43) elemU8 rfl _ F r _ rfl rfl hs4 hS3 hB3 (by omega) (by unfold maxLen; omega) ?_
                 intro A4 c4 w4 hv4 hg4 hat4))
            have hU4 : Upd Nil w w4 := hU3.grownOwn hS3 hwb hg4
            have hm4 := hv4.capMax
            obtain ⟨A4', c4', e4, hc4⟩ := hv4.form
            injection e4 with e41 e42 e43
            subst e41 e43
            rw [hQl] at hc4
            have hA4 := hv4.cells bc_len (by omega)
            clear hs4 hS3 hg4 hat4 hU3 hU02 hB3 e42
            have ko := opens A4 c4 (F ++ r) w4 hA4 (by rw [hQl]; exact hc4) (by unfold maxLen; omega) (by rw [hQl]; omega)
            rw [hopn, hQl] at ko
            go_wp2_with fail
            refine ko.mono ?_
            clear ko
            rintro e w5 ⟨x5, rfl, hx5, hU5⟩
            obtain ⟨A5, c5, rfl, hc5⟩ := hx5.form
            have hA5 := hx5.cells bc_len (by omega)
            have hcvx := cv hA5 c5
            have hcvb := cv ((hA.upd hU4).upd hU5) c
            have hU05 := hU4.tr hU5
            have hS5 := hv4.upd0 hU5
            clear hx5 hA5 hv4 hA4 hc5
            go_wp2_with fail
            go_ret
            exact ⟨rfl, hU05⟩
          · have hnb1 : ((n : Int) == 1) = false := by rw [beq_eq_false_iff_ne]; omega
            have hnb2 : ((n : Int) == 2) = false := by rw [beq_eq_false_iff_ne]; omega
            have hy0H := Lib.hid hy0
            have hn1H := Lib.hid hn1
            have hn2H := Lib.hid hn2
            clear hy0 hn1 hn2
            go_enter Try.func5, Try.ntmps5
            go_wp2_with fail
            refine (fixed _).mono ?_
            rintro e w1 ⟨rfl, hU1⟩
            go_wp2_with fail
            refine (km _ hU1).mono ?_
            rintro e w2 ⟨x2, rfl, hx2, hU2⟩
            obtain ⟨A2, c2, rfl, hc2⟩ := hx2.form
            have hA2 := hx2.cells bc_len (by omega)
            have hU02 := hU1.tr hU2
            clear hx2 hU1 hU2 km
            have hs3 := Src.ofArg (P := Try.prog) (tx := 22) ⟨_, elemU8.ht⟩ elemU8.len elemU8.one (hA2.upd ((Upd.refl _ _).alloc (.cells #[] 5))) c2
            go_wp2_with (at_builtin; first
              | (refine wp_app w2.heap.size rfl (.tmp 40) (.tmp 41) elemU8 rfl _ [] F _ rfl rfl hs3 (hz w2) (by simp) (by simp; omega) (by unfold maxLen; simp; omega) ?_
                 intro A3 c3 w3 hv3 hg3 hat3
                 have hU3 : Upd Nil w w3 := (hU02.alloc _).grownOwn (hz w2) hU02.size hg3
                 have hS3 : Sl w3 w2.heap.size 5 1 bc (.slice A3 F.length c3) F := by simpa using hv3
                 have hwb : w.heap.size ≤ w2.heap.size := hU02.size
                 have hB3 : w2.heap.size ≤ w3.heap.size := ((show Upd Nil w2 (w2.alloc (.cells #[] 5)) from (Upd.refl _ _).alloc _).grownOwn (hz w2) (Nat.le_refl _) hg3).size
                 have hs4 := Src.ofArg (P := Try.prog) (tx := 22) ⟨_, elemU8.ht⟩ elemU8.len elemU8.one (hB.upd hU3) cb
                 clear hs3 hv3 hg3 hat3 hz hA2)
              | (refine wp_app w2.heap.size rfl (.tmp 42) (.tmp 43) elemU8 rfl _ F r _ rfl rfl hs4 hS3 hB3 (by omega) (by unfold maxLen; omega) ?_
                 intro A4 c4 w4 hv4 hg4 hat4))
            have hU4 : Upd Nil w w4 := hU3.grownOwn hS3 hwb hg4
            have hm4 := hv4.capMax
            obtain ⟨A4', c4', e4, hc4⟩ := hv4.form
            injection e4 with e41 e42 e43
            subst e41 e43
            rw [hQl] at hc4
            have hA4 := hv4.cells bc_len (by omega)
            clear hs4 hS3 hg4 hat4 hU3 hU02 hB3 e42
            have ko := opens A4 c4 (F ++ r) w4 hA4 (by rw [hQl]; exact hc4) (by unfold maxLen; omega) (by rw [hQl]; omega)
            rw [hopn, hQl] at ko
            go_wp2_with fail
            refine ko.mono ?_
            clear ko
            rintro e w5 ⟨x5, rfl, hx5, hU5⟩
            obtain ⟨A5, c5, rfl, hc5⟩ := hx5.form
            have hA5 := hx5.cells bc_len (by omega)
            have hcvx := cv hA5 c5
            have hcvb := cv ((hA.upd hU4).upd hU5) c
            have hU05 := hU4.tr hU5
            have hS5 := hv4.upd0 hU5
            clear hx5 hA5 hv4 hA4 hc5
            have hnQ : n < (F ++ r).length := by omega
            have hnI : (n : Int) < ((F.length + r.length : Nat) : Int) := by omega
            obtain ⟨g, o, rfl, hg, qx⟩ := (hS5.cells bc_len (by omega)).resolve_left (fun e => by rw [e] at hQl; simp at hQl; omega)
            have x0 := qx n hnQ 0 (by omega)
            obtain ⟨hBg, cur, hcur⟩ := hS5.typed g rfl
            have hz1 := blk_frozen hcur (o + n)
            have hset := Sl.set1 (f := fun x : UInt8 => .int .u8 (x.toNat : Int)) hS5 (i := n) hnQ (tb ((F ++ r)[n]'hnQ) y)
            have htb := tb_nat ((F ++ r)[n]'hnQ) hyH.out
            have hc8 := ((F ++ r)[n]'hnQ).toNat_lt
            have hxr : bits .xor .u8 (((F ++ r)[n]'hnQ).toNat : Int) (y : Int) = ((tb ((F ++ r)[n]'hnQ) y).toNat : Int) := by rw [htb]; exact xor_u8 hc8 hyH.out
            have hop2 := hturn.out n (by rw [← hFlH.out]; exact hnl) hnQ hn1H.out hn2H.out (tb ((F ++ r)[n]'hnQ) y) (tb_ne _ hyH.out hy0H.out)
            rw [← hxr] at hset
            clear qx htb hopn
            simp only [bc, List.getElem?_cons_zero, Nat.add_zero, Nat.mul_one] at x0
            generalize tb ((F ++ r)[n]'hnQ) y = nb at *
            generalize ((F ++ r)[n]'hnQ).toNat = ob at *
            have hUn := Lib.hid (hU05.set (p := ⟨g, o + n, none⟩) (.inr (Nat.le_trans hwb hBg)) (.int .u8 (bits .xor .u8 (ob : Int) (y : Int))))
            have hl2 : ((F ++ r).set n nb).length = F.length + r.length := by rw [List.length_set, hQl]
            have ko := Lib.hid (opens (some ⟨g, o, none⟩) c4 ((F ++ r).set n nb) _ (hset.cells bc_len (by omega)) (by rw [hl2]; exact hc4) (by unfold maxLen; omega) (by rw [hl2]; omega))
            rw [hl2] at ko
            generalize opn ((F ++ r).set n nb) = z at *
            obtain ⟨zk, zb, zn, ze⟩ := z
            obtain rfl : ze = 14 := hop2
            clear hset hxr hl2 hS5 hQl hturn
            go_wp2_with fail
            refine ko.out.mono ?_
            rintro e w6 ⟨x6, rfl, hx6, hU6⟩
            clear hx6 ko
            go_wp2_with fail
            go_ret
            exact ⟨rfl, hUn.out.tr hU6⟩
end Go.Proofs.Ythppheklnplljaa.Frame
