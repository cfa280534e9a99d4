/-
  The calls whose answers are fixed. Conditions: the table of Go's library is as it was laid.
-/
import Derived.Test.YtjkojhebgkgdaaaDoorBitU
namespace Go.Proofs.YtjkojhebgkgdaaaDoor.Bit
open Go.RowKit Go.Proofs.YtjkojhebgkgdaaaDoor.Base Go.Proofs.YtjkojhebgkgdaaaDoor.Ints Go.Proofs.YtjkojhebgkgdaaaDoor.Ecc
set_option linter.unusedVariables false
set_option linter.unusedSimpArgs false
set_option maxRecDepth 100000
def L9 : List Bool := newL 9 [8]
theorem fx_parse : parseL [9, 0, 0, 1] = some L9 := by decide +kernel
theorem fx_none : parseL [9, 0, 0, 2] = none := by decide +kernel
theorem fx_bytes : bytesL L9 = [9, 0, 0, 1] := by decide +kernel
theorem fx_has : hasI L9 8 = true := by decide +kernel
theorem fx_len : (allL L9).length = 1 := by decide +kernel
theorem fx_f0 : firstL L9 0 false = 0 := by decide +kernel
theorem fx_f1 : firstL L9 0 true = 8 := by decide +kernel
theorem fx_le : L9.length ≤ 4096 := by decide +kernel
set_option maxHeartbeats 8000000 in
theorem fixedC (w : World) (hT : Tab w) : Calls Tryd.prog 6 #[] w (RetB true w) := by
  have a1 : Arg (w.alloc (.cells #[.int .i64 8] 3)) (some ⟨w.heap.size, 0, none⟩) 1 ic [8] := arg_lit ic_len (blk_new _ _) rfl
  have k1 : Calls Tryd.prog 10 #[.int .i64 9, .slice (some ⟨w.heap.size, 0, none⟩) 1 1] (w.alloc (.cells #[.int .i64 8] 3)) _ := newC 9 (by omega) _ 1 [8] _ a1 (by simp)
  have hU1 := (Upd.refl Nil w).alloc (.cells #[.int .i64 8] 3)
  go_enter Tryd.func6, Tryd.ntmps6
  go_wp2_with fail
  refine k1.mono ?_
  rintro e w2 ⟨g, gb, rfl, _, _, hs, hU2⟩
  have hs : SetAt w2 g gb L9 := hs
  have hU02 := hU1.tr hU2
  clear k1 a1 hU1 hU2
  have a2 : Arg (w2.alloc (.cells #[.int .u8 9, .int .u8 0, .int .u8 0, .int .u8 1] 5)) (some ⟨w2.heap.size, 0, none⟩) 1 bc [9, 0, 0, 1] := arg_lit bc_len (blk_new _ _) rfl
  have k2 : Calls Tryd.prog 7 #[.slice (some ⟨w2.heap.size, 0, none⟩) 4 4] (w2.alloc (.cells #[.int .u8 9, .int .u8 0, .int .u8 0, .int .u8 1] 5)) _ := parseC _ 4 [9, 0, 0, 1] _ a2 (by simp)
  rw [fx_parse] at k2
  have hU3 := hU02.alloc (.cells #[.int .u8 9, .int .u8 0, .int .u8 0, .int .u8 1] 5)
  have hs3 := hs.upd0 ((Upd.refl Nil w2).alloc (.cells #[.int .u8 9, .int .u8 0, .int .u8 0, .int .u8 1] 5))
  go_wp2_with fail
  refine k2.mono ?_
  rintro e w3 ⟨hU23, g2, gb2, rfl, _, _, ht, _⟩
  have hs4 := hs3.upd0 hU23
  have hU4 := hU3.tr hU23
  clear k2 a2 hU3 hs3 hs hU02 hU23
  have a3 : Arg (w3.alloc (.cells #[.int .u8 9, .int .u8 0, .int .u8 0, .int .u8 2] 5)) (some ⟨w3.heap.size, 0, none⟩) 1 bc [9, 0, 0, 2] := arg_lit bc_len (blk_new _ _) rfl
  have k3 : Calls Tryd.prog 7 #[.slice (some ⟨w3.heap.size, 0, none⟩) 4 4] (w3.alloc (.cells #[.int .u8 9, .int .u8 0, .int .u8 0, .int .u8 2] 5)) _ := parseC _ 4 [9, 0, 0, 2] _ a3 (by simp)
  rw [fx_none] at k3
  have hU5 := hU4.alloc (.cells #[.int .u8 9, .int .u8 0, .int .u8 0, .int .u8 2] 5)
  have hd := (Upd.refl Nil w3).alloc (.cells #[.int .u8 9, .int .u8 0, .int .u8 0, .int .u8 2] 5)
  have hs5 := hs4.upd0 hd
  have ht5 := ht.upd0 hd
  go_wp2_with fail
  refine k3.mono ?_
  rintro e w4 ⟨hU34, rfl⟩
  have hs6 := hs5.upd0 hU34
  have ht6 := ht5.upd0 hU34
  have hU6 := hU5.tr hU34
  clear k3 a3 hU5 hs5 ht5 hd hs4 ht hU4 hU34
  have kb := bytesC L9 g gb w4 hs6 fx_le
  rw [fx_bytes] at kb
  go_wp2_with fail
  refine kb.mono ?_
  rintro e w5 ⟨v, rfl, hv, hU45⟩
  obtain ⟨A5, c5, rfl, _⟩ := hv.form
  have cs : (convert 22 9 (.slice A5 4 c5)).run Tryd.prog w5 = .ok (.string ⟨#[9, 0, 0, 1]⟩) w5 := cvS (hv.cells bc_len (by omega)) c5
  have hs7 := hs6.upd0 hU45
  have ht7 := ht6.upd0 hU45
  have hU7 := hU6.tr hU45
  have kh := hasC L9 g2 gb2 8 w5 ht7 fx_le
  rw [fx_has] at kh
  have kl := lenC L9 g2 gb2 w5 ht7 fx_le
  rw [fx_len] at kl
  have kf0 := firstC L9 g gb 0 false w5 hs7 fx_le
  rw [fx_f0] at kf0
  have kf1 := firstC L9 g gb 0 true w5 hs7 fx_le
  rw [fx_f1] at kf1
  have kn := newN (-1) (by omega) (.slice none 0 0) w5
  clear kb hs6 ht6 hU6 hU45 hv
  go_wp2_with fail
  refine kh.mono ?_
  rintro e w' ⟨rfl, rfl⟩
  go_wp2_with fail
  refine kl.mono ?_
  rintro e w' ⟨rfl, rfl⟩
  go_wp2_with fail
  refine kf0.mono ?_
  rintro e w' ⟨rfl, rfl⟩
  go_wp2_with fail
  refine kf1.mono ?_
  rintro e w' ⟨rfl, rfl⟩
  go_wp2_with fail
  refine kn.mono ?_
  rintro e w' ⟨rfl, rfl⟩
  go_wp2_with fail
  go_ret
  exact ⟨rfl, hU7⟩
end Go.Proofs.YtjkojhebgkgdaaaDoor.Bit
