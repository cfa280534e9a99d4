/-
  The walks of almshouselaw03.fixed, FrameMakes and FrameOpens: they return true and turn nothing that there was. Conditions: what the arguments' slices hold.
-/
import Derived.Test.YthppheklnplljaaFrameD
import Derived.Lib.SlBytesConst
namespace Go.Proofs.Ythppheklnplljaa.Frame
open Go.RowKit Go.Proofs.Ythppheklnplljaa.Base Go.Proofs.Ythppheklnplljaa.Word Go.Proofs.Ythppheklnplljaa.Sum
set_option linter.unusedVariables false
set_option linter.unusedSimpArgs false
theorem arg_litF {w : World} {g t : Nat} {cs : Array Value} {fr : Nat × Nat} {l : List UInt8} (hb : w.heap[g]? = some (.cells cs t fr)) (hcs : cs.toList = l.flatMap bc) : Arg w (some ⟨g, 0, none⟩) 1 bc l := by
  refine .inr ⟨g, 0, rfl, blk_lt hb, fun i hi j hj => ?_⟩
  have h2 := flat_get bc_len l i j hi hj
  rw [← hcs, Array.getElem?_toList] at h2
  rw [Nat.zero_add, ← h2]
  simp [World.cell?, hb]
theorem m1 : ∃ B, mk 1 [] = (B, 0) ∧ B.length = 7 := ⟨(mk 1 []).1, by decide +kernel, by decide +kernel⟩
theorem m2 : ∃ C, mk 2 [104, 105] = (C, 0) ∧ whl C 2 = ([104, 105], 0) ∧ whl C 1 = ([], 2) ∧ C.length = 9 := ⟨(mk 2 [104, 105]).1, by decide +kernel, by decide +kernel, by decide +kernel, by decide +kernel⟩
theorem m3 : mk 256 [] = ([], 1) := by decide +kernel
set_option maxHeartbeats 4000000 in
set_option maxRecDepth 100000 in
theorem fixed (w : World) : Calls Try.prog 13 #[] w (RetB true w) := by
  have kc := fun (w : World) (C : Array Value) (n c : Nat) => Lib.run_convert_bytes_const (P := Try.prog) w 22 5 C n c Try.underlying22 Try.underlying5
  obtain ⟨B, b1, b2⟩ := m1
  obtain ⟨C, c1, c2, c3, c4⟩ := m2
  have hH := Lib.hid (And.intro b1 (And.intro b2 (And.intro c1 (And.intro c2 (And.intro c3 c4)))))
  clear b1 b2 c1 c2 c3 c4
  go_enter Try.func13, Try.ntmps13
  go_wp2_with fail
  refine (make 1 none 0 [] _ (.inl rfl) (by unfold maxLen; simp)).mono ?_
  rw [hH.out.1]
  rintro e w1 ⟨x1, rfl, hx1, hU1⟩
  obtain ⟨A1, d1, rfl, hd1⟩ := hx1.form
  have hl1 : (B.length : Int) = 7 := by have := hH.out.2.1; omega
  clear hx1 hd1
  go_wp2_with fail
  refine (make 2 (some ⟨w1.heap.size, 0, none⟩) 2 [104, 105] _ (arg_litF (blk_new _ _) rfl) (by unfold maxLen; simp)).mono ?_
  rw [hH.out.2.2.1]
  rintro e w2 ⟨x2, rfl, hx2, hU2⟩
  have hU02 : Upd Nil w w2 := (hU1.alloc _).tr hU2
  obtain ⟨A2, d2, rfl, hd2⟩ := hx2.form
  have hm2 := hx2.capMax
  have hA2 := hx2.cells bc_len (by omega)
  have hcl := Lib.hid hH.out.2.2.2.2.2
  clear hx2 hU1 hU2
  go_wp2_with fail
  refine (whole A2 d2 C 2 _ hA2 hd2 (by unfold maxLen; omega) (by have := hcl.out; omega)).mono ?_
  rw [hH.out.2.2.2.1]
  rintro e w3 ⟨x3, rfl, hx3, hU3⟩
  obtain ⟨A3, d3, rfl, hd3⟩ := hx3.form
  have hA3 := hx3.cells bc_len (by omega)
  have hU03 := hU02.tr hU3
  clear hx3
  go_wp2_with fail
  refine (whole A2 d2 C 1 _ (hA2.upd hU3) hd2 (by unfold maxLen; omega) (by have := hcl.out; omega)).mono ?_
  rw [hH.out.2.2.2.2.1]
  rintro e w4 ⟨x4, rfl, hx4, hU4⟩
  have hU04 := hU03.tr hU4
  clear hx4
  go_wp2_with fail
  refine (make 256 none 0 [] _ (.inl rfl) (by unfold maxLen; simp)).mono ?_
  rw [m3]
  rintro e w5 ⟨x5, rfl, hx5, hU5⟩
  have hcv : (convert 22 9 (.slice A3 2 d3)).run Try.prog w5 = .ok (.string ⟨#[104, 105]⟩) w5 := cv (l := [104, 105]) ((hA3.upd hU4).upd hU5) d3
  clear hx5
  go_wp2_with fail
  go_ret
  exact ⟨rfl, hU04.tr hU5⟩
set_option maxHeartbeats 4000000 in
set_option maxRecDepth 100000 in
theorem makes (k : Int) (A : Option Addr) (c : Nat) (l : List UInt8) (w : World) (hA : Arg w A 1 bc l) (hl : l.length ≤ maxLen) :
    Calls Try.prog 3 #[.int .i64 k, .slice A l.length c] w (RetB true w) := by
  have hlm := Lib.hid hl
  unfold maxLen at hl
  by_cases h2 : 70000 < l.length
  · have h2I : (70000 : Int) < l.length := by omega
    go_enter Try.func3, Try.ntmps3
    go_wp2_with (go_at_call 13; refine (fixed _).mono ?_; rintro e w1 ⟨rfl, hU1⟩)
    go_ret
    exact ⟨rfl, hU1⟩
  · have km := fun w' (u : Upd Nil w w') => make k A c l w' (hA.upd u) hlm.out
    have kr := fun w' (u : Upd Nil w w') => rmake k A c l w' (hA.upd u) hlm.out
    generalize mk k l = r at *
    obtain ⟨rl, re⟩ := r
    go_enter Try.func3, Try.ntmps3
    go_wp2_with fail
    refine (fixed _).mono ?_
    rintro e w1 ⟨rfl, hU1⟩
    go_wp2_with fail
    refine (km _ hU1).mono ?_
    rintro e w2 ⟨x2, rfl, hx2, hU2⟩
    obtain ⟨A2, c2, rfl, hc2⟩ := hx2.form
    have hA2 := hx2.cells bc_len (by omega)
    have hU02 := hU1.tr hU2
    clear hx2
    go_wp2_with fail
    refine (kr _ hU02).mono ?_
    rintro e w3 ⟨x3, rfl, hx3, hU3⟩
    obtain ⟨A3, c3, rfl, hc3⟩ := hx3.form
    have hA3 := hx3.cells bc_len (by omega)
    have hcv2 := cv (hA2.upd hU3) c2
    have hcv3 := cv hA3 c3
    clear hx3 hA2 hA3
    go_wp2_with fail
    go_ret
    exact ⟨ret_b (by simp), hU02.tr hU3⟩
end Go.Proofs.Ythppheklnplljaa.Frame
