/-
  The walks of frame.Make and of the reference's. Conditions: each lemma's own.
-/
import Derived.Test.YthppheklnplljaaWordR
import Derived.Test.YthppheklnplljaaSumB
import Derived.Test.YthppheklnplljaaFrameP
import Derived.Test.YthppheklnplljaaLex
namespace Go.Proofs.Ythppheklnplljaa.Frame
open Go.RowKit Go.Proofs.Ythppheklnplljaa.Base Go.Proofs.Ythppheklnplljaa.Word Go.Proofs.Ythppheklnplljaa.Sum
set_option linter.unusedVariables false
def MkR (r : List UInt8 × Int) (w : World) (e : Ending) (w' : World) : Prop := ∃ v, e = .returned (.tuple #[v, .int .i64 r.2]) ∧ Sl w' w.heap.size 5 1 bc v r.1 ∧ Upd Nil w w'
theorem putL_1' (k : Nat) (h : k ≤ 255) (b : List UInt8) : putL b k 1 = b ++ le k 1 := by
  unfold putL
  rw [if_pos (by rw [fits_1]; simp; omega)]
  simp
theorem putL_4' (b : List UInt8) (k : Nat) (h : k < 4294967296) : putL b k 4 = b ++ le k 4 := by
  unfold putL
  rw [if_pos (by rw [fits_4]; simp; omega)]
  simp
set_option maxHeartbeats 4000000 in
set_option maxRecDepth 100000 in
theorem make (k : Int) (A : Option Addr) (c : Nat) (body : List UInt8) (w : World) (hA : Arg w A 1 bc body) (hl : body.length ≤ maxLen) :
    Calls Try.prog 14 #[.int .i64 k, .slice A body.length c] w (MkR (mk k body) w) := by
  unfold maxLen at hl
  have hfw := fun w => fits_w k 1 w
  cases hf : fitsB k 1 with
  | false =>
    have hmkH : Hid (mk k body = ([], 1)) := by show _ = _; unfold mk; rw [hf]; rfl
    rw [hf] at hfw
    clear hf
    go_enter Try.func14, Try.ntmps14
    go_wp2_with (go_at_call 44; refine (hfw _).mono ?_; rintro e w' ⟨rfl, rfl⟩)
    go_ret2
    rw [hmkH.out]
    exact ⟨_, rfl, Sl.nil _ _ _ _ _, Upd.refl _ _⟩
  | true =>
    rw [hf] at hfw
    obtain ⟨h0, h1⟩ : 0 ≤ k ∧ k ≤ 255 := by rw [fits_1] at hf; simpa using hf
    obtain ⟨kn, rfl⟩ := Int.eq_ofNat_of_zero_le h0
    by_cases hb : 65535 < body.length
    · have hmkH : Hid (mk kn body = ([], 3)) := by show _ = _; unfold mk; rw [hf, if_neg (by simp), if_pos hb]
      clear hf
      go_enter Try.func14, Try.ntmps14
      go_wp2_with (go_at_call 44; refine (hfw _).mono ?_; rintro e w' ⟨rfl, rfl⟩)
      go_ret2
      rw [hmkH.out]
      exact ⟨_, rfl, Sl.nil _ _ _ _ _, Upd.refl _ _⟩
    · have hbI : decide ((65535 : Int) < (body.length : Int)) = false := decide_eq_false (by omega)
      have e2 : putL (le kn 1) (body.length : Nat) 2 = le kn 1 ++ le body.length 2 := putL_2 _ _ (by omega)
      have e1 := putL_1' kn (by omega) []
      rw [List.nil_append] at e1
      have k1 : ∀ w, Calls Try.prog 45 #[.slice none 0 0, .int .i64 kn, .int .i64 1] w (PutR [] kn 1 w) := fun w => put none 0 [] kn 1 w (.inl rfl) (by simp)
      have hL0 : (le kn 1).length = 1 := le_len _ _
      have hL1 : (le kn 1 ++ le body.length 2).length = 3 := by simp [le_len]
      have hL2 := headL_len kn body
      have hmkH : Hid (mk kn body = (frameL kn body, 0)) := by
        show _ = _
        unfold mk
        rw [hf, if_neg (by simp), if_neg hb]
        rfl
      have hfr : Hid (frameL kn body = headL kn body ++ le (onL 0 (headL kn body)) 4) := rfl
      have hhd : le kn 1 ++ le body.length 2 ++ body = headL kn body := rfl
      have hsm := onL_lt 0 (headL kn body)
      have e4 := fun b => putL_4' b _ hsm
      have hsw : wrap64 ((onL 0 (headL kn body) : Nat) : Int) = (onL 0 (headL kn body) : Nat) := by unfold wrap64; omega
      have eH := Lib.hid (And.intro e1 (And.intro e2 e4))
      have lH := Lib.hid (And.intro hL0 (And.intro hL1 hL2))
      have hblH : Hid (body.length ≤ 65535) := by show _ ≤ _; omega
      generalize hHD : headL kn body = HD at *
      generalize hSM : onL 0 HD = sm at *
      have hsmE := Lib.hid hSM
      generalize le kn 1 ++ le body.length 2 = H1 at *
      have hhdH := Lib.hid hhd
      generalize le kn 1 = H0 at *
      have hrest := Lib.hid hHD
      have hsmH := Lib.hid hsm
      clear e1 e2 e4 hL0 hL1 hL2 hhd hHD hsm hf hb hSM
      go_enter Try.func14, Try.ntmps14
      go_wp2_with (go_at_call 44; refine (hfw _).mono ?_; rintro e w' ⟨rfl, rfl⟩)
      go_wp2_with fail
      refine (k1 _).mono ?_
      rintro e w1 ⟨x1, rfl, hx1, hU1⟩
      rw [eH.out.1] at hx1
      obtain ⟨A1, c1, rfl, hc1⟩ := hx1.form
      go_wp2_with fail
      refine (put A1 c1 H0 body.length 2 _ (hx1.cells bc_len (by omega)) (by have := lH.out.1; omega)).mono ?_
      rintro e w2 ⟨x2, rfl, hx2, hU2⟩
      rw [eH.out.2.1] at hx2
      skip
      obtain ⟨A2, c2, rfl, hc2⟩ := hx2.form
      have hU02 := hU1.tr hU2
      have hsrc := Src.ofArg (P := Try.prog) (tx := 22) ⟨_, elemU8.ht⟩ elemU8.len elemU8.one (hA.upd hU02) c
      go_wp2_with (at_builtin; (refine wp_app w1.heap.size rfl (.tmp 19) (.tmp 20) elemU8 rfl _ H1 body _ rfl rfl hsrc hx2 hU2.size (by have := lH.out.2.1; have := hblH.out; omega) (by have := lH.out.2.1; have := hblH.out; unfold maxLen; omega) ?_); intro A3 c3 w3 hv3 hg3 hat3)
      have hU03 := hU02.grown hg3 (fun k hk => .inr (Nat.le_trans hU1.size (hx2.typed k hk).1))
      have hx3 : Sl w3 w1.heap.size 5 1 bc (.slice A3 HD.length c3) HD := by
        have h3 := hv3
        rw [← List.length_append, hhdH.out] at h3
        exact h3
      have hl3 : (H1.length + body.length) = HD.length := by rw [← hhdH.out, List.length_append]
      rw [hl3]
      have hA3 := hx3.cells bc_len (by omega)
      clear hl3 hv3 hx2 hx1 hg3 hat3 hsrc k1
      go_wp2_with fail
      refine (Sum.Of A3 c3 HD _ hA3 (by have := lH.out.2.2; have := hblH.out; unfold maxLen; omega)).mono ?_
      rintro e w4 ⟨rfl, hU4⟩
      rw [hsmE.out]
      go_wp2_with fail
      refine (put A3 c3 HD sm 4 _ (hA3.upd hU4) (by have := lH.out.2.2; have := hblH.out; omega)).mono ?_
      rintro e w5 ⟨x5, rfl, hx5, hU5⟩
      rw [eH.out.2.2] at hx5
      go_wp2_with fail
      go_ret2
      rw [hmkH.out, hfr.out]
      exact ⟨_, rfl, hx5.lower (Nat.le_trans hU03.size hU4.size), (hU03.tr hU4).tr hU5⟩
set_option maxHeartbeats 4000000 in
set_option maxRecDepth 100000 in
theorem rmake (k : Int) (A : Option Addr) (c : Nat) (body : List UInt8) (w : World) (hA : Arg w A 1 bc body) (hl : body.length ≤ maxLen) :
    Calls Try.prog 15 #[.int .i64 k, .slice A body.length c] w (MkR (mk k body) w) := by
  unfold maxLen at hl
  by_cases h0 : k < 0
  · have hmkH : Hid (mk k body = ([], 1)) := by
      show _ = _
      unfold mk
      rw [if_pos (by rw [fits_1]; simp; omega)]
    go_enter Try.func15, Try.ntmps15
    go_wp2
    go_ret2
    rw [hmkH.out]
    exact ⟨_, rfl, Sl.nil _ _ _ _ _, Upd.refl _ _⟩
  · obtain ⟨kn, rfl⟩ := Int.eq_ofNat_of_zero_le (Int.not_lt.1 h0)
    by_cases h1 : 255 < kn
    · have hmkH : Hid (mk kn body = ([], 1)) := by
        show _ = _
        unfold mk
        rw [if_pos (by rw [fits_1]; simp; omega)]
      have h1I : (255 : Int) < kn := by omega
      go_enter Try.func15, Try.ntmps15
      go_wp2
      go_ret2
      rw [hmkH.out]
      exact ⟨_, rfl, Sl.nil _ _ _ _ _, Upd.refl _ _⟩
    · have hf : fitsB kn 1 = true := by rw [fits_1]; simp; omega
      have h1I : ¬ ((255 : Int) < kn) := by omega
      by_cases hb : 65535 < body.length
      · have hmkH : Hid (mk kn body = ([], 3)) := by show _ = _; unfold mk; rw [hf, if_neg (by simp), if_pos hb]
        clear hf
        go_enter Try.func15, Try.ntmps15
        go_wp2
        go_ret2
        rw [hmkH.out]
        exact ⟨_, rfl, Sl.nil _ _ _ _ _, Upd.refl _ _⟩
      · have hbI : decide ((65535 : Int) < (body.length : Int)) = false := decide_eq_false (by omega)
        have e2 : putL (le kn 1) (body.length : Nat) 2 = le kn 1 ++ le body.length 2 := putL_2 _ _ (by omega)
        have e1 := putL_1' kn (by omega) []
        rw [List.nil_append] at e1
        have k1 : ∀ w, Calls Try.prog 47 #[.slice none 0 0, .int .i64 kn, .int .i64 1] w (PutR [] kn 1 w) := fun w => rput none 0 [] kn 1 w (.inl rfl) (by simp)
        have hL0 : (le kn 1).length = 1 := le_len _ _
        have hL1 : (le kn 1 ++ le body.length 2).length = 3 := by simp [le_len]
        have hL2 := headL_len kn body
        have hmkH : Hid (mk kn body = (frameL kn body, 0)) := by
          show _ = _
          unfold mk
          rw [hf, if_neg (by simp), if_neg hb]
          rfl
        have hfr : Hid (frameL kn body = headL kn body ++ le (onL 0 (headL kn body)) 4) := rfl
        have hhd : le kn 1 ++ le body.length 2 ++ body = headL kn body := rfl
        have hsm := onL_lt 0 (headL kn body)
        have e4 := fun b => putL_4' b _ hsm
        have hsw : wrap64 ((onL 0 (headL kn body) : Nat) : Int) = (onL 0 (headL kn body) : Nat) := by unfold wrap64; omega
        have eH := Lib.hid (And.intro e1 (And.intro e2 e4))
        have lH := Lib.hid (And.intro hL0 (And.intro hL1 hL2))
        have hblH : Hid (body.length ≤ 65535) := by show _ ≤ _; omega
        generalize hHD : headL kn body = HD at *
        generalize hSM : onL 0 HD = sm at *
        have hsmE := Lib.hid hSM
        generalize le kn 1 ++ le body.length 2 = H1 at *
        have hhdH := Lib.hid hhd
        generalize le kn 1 = H0 at *
        have hrest := Lib.hid hHD
        have hsmH := Lib.hid hsm
        clear e1 e2 e4 hL0 hL1 hL2 hhd hHD hsm hf hb hSM
        go_enter Try.func15, Try.ntmps15
        go_wp2_with fail
        refine (k1 _).mono ?_
        rintro e w1 ⟨x1, rfl, hx1, hU1⟩
        rw [eH.out.1] at hx1
        obtain ⟨A1, c1, rfl, hc1⟩ := hx1.form
        go_wp2_with fail
        refine (rput A1 c1 H0 body.length 2 _ (hx1.cells bc_len (by omega)) (by have := lH.out.1; omega)).mono ?_
        rintro e w2 ⟨x2, rfl, hx2, hU2⟩
        rw [eH.out.2.1] at hx2
        skip
        obtain ⟨A2, c2, rfl, hc2⟩ := hx2.form
        have hU02 := hU1.tr hU2
        have hsrc := Src.ofArg (P := Try.prog) (tx := 22) ⟨_, elemU8.ht⟩ elemU8.len elemU8.one (hA.upd hU02) c
        go_wp2_with (at_builtin; (refine wp_app w1.heap.size rfl (.tmp 20) (.tmp 21) elemU8 rfl _ H1 body _ rfl rfl hsrc hx2 hU2.size (by have := lH.out.2.1; have := hblH.out; omega) (by have := lH.out.2.1; have := hblH.out; unfold maxLen; omega) ?_); intro A3 c3 w3 hv3 hg3 hat3)
        have hU03 := hU02.grown hg3 (fun k hk => .inr (Nat.le_trans hU1.size (hx2.typed k hk).1))
        have hx3 : Sl w3 w1.heap.size 5 1 bc (.slice A3 HD.length c3) HD := by
          have h3 := hv3
          rw [← List.length_append, hhdH.out] at h3
          exact h3
        have hl3 : (H1.length + body.length) = HD.length := by rw [← hhdH.out, List.length_append]
        rw [hl3]
        have hA3 := hx3.cells bc_len (by omega)
        clear hl3 hv3 hx2 hx1 hg3 hat3 hsrc k1
        go_wp2_with fail
        refine (Sum.rOf A3 c3 HD _ hA3 (by have := lH.out.2.2; have := hblH.out; unfold maxLen; omega)).mono ?_
        rintro e w4 ⟨rfl, hU4⟩
        rw [hsmE.out]
        go_wp2_with fail
        refine (rput A3 c3 HD sm 4 _ (hA3.upd hU4) (by have := lH.out.2.2; have := hblH.out; omega)).mono ?_
        rintro e w5 ⟨x5, rfl, hx5, hU5⟩
        rw [eH.out.2.2] at hx5
        go_wp2_with fail
        go_ret2
        rw [hmkH.out, hfr.out]
        exact ⟨_, rfl, hx5.lower (Nat.le_trans hU03.size hU4.size), (hU03.tr hU4).tr hU5⟩
end Go.Proofs.Ythppheklnplljaa.Frame
