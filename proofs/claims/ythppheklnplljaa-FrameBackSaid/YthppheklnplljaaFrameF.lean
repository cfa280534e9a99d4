/-
  The walk of almshouselaw03.FrameOpens: it returns true and turns nothing that there was. Conditions: what the argument's slice holds.
-/
import Derived.Test.YthppheklnplljaaFrameE
namespace Go.Proofs.Ythppheklnplljaa.Frame
open Go.RowKit Go.Proofs.Ythppheklnplljaa.Base Go.Proofs.Ythppheklnplljaa.Word Go.Proofs.Ythppheklnplljaa.Sum
set_option linter.unusedVariables false
set_option linter.unusedSimpArgs false
set_option maxHeartbeats 4000000 in
set_option maxRecDepth 100000 in
theorem asks (k : Int) (A : Option Addr) (c : Nat) (b : List UInt8) (w : World) (hA : Arg w A 1 bc b) (hc : b.length ≤ c) (hcm : c ≤ maxLen) :
    Calls Try.prog 4 #[.slice A b.length c, .int .i64 k] w (RetB true w) := by
  have hlm := Lib.hid hcm
  unfold maxLen at hcm
  by_cases h2 : 1000 < b.length
  · have h2I : (1000 : Int) < b.length := by omega
    go_enter Try.func4, Try.ntmps4
    go_wp2_with (go_at_call 13; refine (fixed _).mono ?_; rintro e w1 ⟨rfl, hU1⟩)
    go_ret
    exact ⟨rfl, hU1⟩
  · have ko := fun w' (u : Upd Nil w w') => opens A c b w' (hA.upd u) hc hlm.out (by omega)
    have kr := fun w' (u : Upd Nil w w') => ropens A c b w' (hA.upd u) hc hlm.out (by omega)
    have kw := fun w' (u : Upd Nil w w') => whole A c b k w' (hA.upd u) hc hlm.out (by omega)
    have kv := fun w' (u : Upd Nil w w') => rwhole A c b k w' (hA.upd u) hc hlm.out (by omega)
    generalize opn b = r at *
    generalize whl b k = q at *
    obtain ⟨rk, rl, rn, re⟩ := r
    obtain ⟨ql, qe⟩ := q
    go_enter Try.func4, Try.ntmps4
    go_wp2_with fail
    refine (fixed _).mono ?_
    rintro e w1 ⟨rfl, hU1⟩
    go_wp2_with fail
    refine (ko _ hU1).mono ?_
    rintro e w2 ⟨x2, rfl, hx2, hU2⟩
    obtain ⟨A2, c2, rfl, hc2⟩ := hx2.form
    have hA2 := hx2.cells bc_len (by omega)
    have hU02 := hU1.tr hU2
    clear hx2
    go_wp2_with fail
    refine (kr _ hU02).mono ?_
    rintro e w3 ⟨x3, rfl, hx3, hU3⟩
    obtain ⟨A3, c3, rfl, hc3⟩ := hx3.form
    have hA3 := hx3.cells bc_len (by omega)
    have hU03 := hU02.tr hU3
    clear hx3
    go_wp2_with fail
    refine (kw _ hU03).mono ?_
    rintro e w4 ⟨x4, rfl, hx4, hU4⟩
    obtain ⟨A4, c4, rfl, hc4⟩ := hx4.form
    have hA4 := hx4.cells bc_len (by omega)
    have hU04 := hU03.tr hU4
    clear hx4
    go_wp2_with fail
    refine (kv _ hU04).mono ?_
    rintro e w5 ⟨x5, rfl, hx5, hU5⟩
    obtain ⟨A5, c5, rfl, hc5⟩ := hx5.form
    have hA5 := hx5.cells bc_len (by omega)
    have hcv2 := cv (((hA2.upd hU3).upd hU4).upd hU5) c2
    have hcv3 := cv ((hA3.upd hU4).upd hU5) c3
    have hcv4 := cv (hA4.upd hU5) c4
    have hcv5 := cv hA5 c5
    clear hx5 hA2 hA3 hA4 hA5
    go_wp2_with fail
    go_ret
    exact ⟨ret_b (by simp), hU04.tr hU5⟩
end Go.Proofs.Ythppheklnplljaa.Frame
