/-
  The calls whose answers are fixed. Conditions: the table of Go's library is as it was laid.
-/
import Derived.Test.YtenhimaclecdpaaDoorEccL
import Derived.Lib.SlBytesConst
namespace Go.Proofs.YtenhimaclecdpaaDoor.Ecc
open Go.RowKit Go.Proofs.YtenhimaclecdpaaDoor.Base
set_option linter.unusedVariables false
set_option linter.unusedSimpArgs false
set_option maxRecDepth 100000
theorem cvS {A : Option Addr} {l : List UInt8} {w : World} (h : Arg w A 1 bc l) (c : Nat) : (convert 31 9 (.slice A l.length c)).run Tryd.prog w = .ok (.string ⟨l.toArray⟩) w := run_bstr (P := Tryd.prog) Tryd.underlying31 Tryd.underlying5 Tryd.underlying9 h c
def hello : List UInt8 := [104, 101, 108, 108, 111]
theorem fx : ∃ B : List UInt8, guardV hello = B ∧ B.length = 9 ∧ openV (B.set 1 (B.getD 1 0 ^^^ 4)) 5 = (hello, 1, 0) ∧ (openV ((B.set 1 (B.getD 1 0 ^^^ 4)).set 2 (B.getD 2 0 ^^^ 1)) 5).2.2 = 14 := ⟨guardV hello, rfl, by decide +kernel, by decide +kernel, by decide +kernel⟩
theorem chk0 : chk (wdN z8) = 0 := by decide +kernel
theorem arg_marked {w : World} {e : Nat} {fr : Nat × Nat} {C : Array Value} {l : List UInt8} (hC : C.toList = l.flatMap bc) : Arg (w.alloc (.cells C e fr)) (some ⟨w.heap.size, 0, none⟩) 1 bc l := by
  refine .inr ⟨_, 0, rfl, by simp, fun i hi j hj => ?_⟩
  have hb : (w.alloc (.cells C e fr)).heap[w.heap.size]? = some (.cells C e fr) := by
    show (w.heap.push _)[w.heap.size]? = _
    simp
  have h2 := flat_get bc_len l i j hi hj
  rw [← hC, Array.getElem?_toList] at h2
  rw [← h2, Nat.zero_add]
  unfold World.cell?
  rw [hb]
  rfl
theorem xb (x y : UInt8) : bits BinOp.xor IntKind.u8 (x.toNat : Int) (y.toNat : Int) = ((x ^^^ y).toNat : Int) := by
  rw [xor_u8 _ _ x.toNat_lt y.toNat_lt, UInt8.toNat_xor]
set_option maxHeartbeats 8000000 in
theorem fixedC (w : World) (hT : Tab w) : Calls Tryd.prog 7 #[] w (RetB true w) := by
  obtain ⟨B, hB, hB9, ho1, ho2⟩ := fx
  have hU0 := (Upd.refl Nil w).alloc (.cells #[.int .u8 104, .int .u8 101, .int .u8 108, .int .u8 108, .int .u8 111] 5 (5, 6))
  have hA0 : Arg (w.alloc (.cells #[.int .u8 104, .int .u8 101, .int .u8 108, .int .u8 108, .int .u8 111] 5 (5, 6))) (some ⟨w.heap.size, 0, none⟩) 1 bc hello := arg_marked rfl
  have q1 := guardC (some ⟨w.heap.size, 0, none⟩) 5 hello _ hA0 (by decide) (by decide) (by decide) (hT.upd hU0)
  rw [hB, show hello.length = 5 from rfl] at q1
  have hbH := Lib.hid (And.intro hB9 (And.intro ho1 ho2))
  clear hB hA0 ho1 ho2
  have hcv := Lib.run_convert_bytes_const (P := Tryd.prog) w 31 5 #[.int .u8 104, .int .u8 101, .int .u8 108, .int .u8 108, .int .u8 111] 5 5 Tryd.underlying31 Tryd.underlying5
  go_enter Tryd.func7, Tryd.ntmps7
  go_wp2_with fail
  refine q1.mono ?_
  clear q1
  rintro e w2 ⟨v1, rfl, hv1, hU2⟩
  obtain ⟨A1, c1, rfl, _⟩ := hv1.form
  have hU02 := hU0.tr hU2
  have hA1 := hv1.cells bc_len (by omega)
  have hS0 := Sl.zero w2 w.heap.size 5 1 bc #[] hU02.size
  have hA1a := hA1.upd ((Upd.refl Nil w2).alloc (.cells #[] 5))
  have hUa := hU02.alloc (.cells #[] 5)
  have hsa := hUa.size
  have hbd : (([] : List UInt8).length + B.length) * 1 ≤ 140737488355328 ∧ ([] : List UInt8).length + B.length ≤ maxLen := by rw [hB9]; unfold maxLen; simp
  have hbdH := Lib.hid hbd
  clear hbd hv1 hA1 hU02 hU2 hU0 hB9
  go_upto_region 3 with (at_builtin; refine wp_app w.heap.size rfl (.tmp 12) (.tmp 13) elemU8 rfl (.slice (some ⟨w2.heap.size, 0, none⟩) 0 0) [] B _ rfl rfl (Src.ofArg (P := Tryd.prog) (tx := 31) ⟨_, elemU8.ht⟩ bc_len bc_one hA1a c1) hS0 hsa hbdH.out.1 hbdH.out.2 ?_; intro A3 c3 w3 hv3 hg3 hat3)
  have hU3 := hUa.grownOwn hS0 (Nat.le_refl _) hg3
  have hl9 : ([] : List UInt8).length + B.length = 9 := by rw [hbH.out.1]; rfl
  rw [hl9, List.nil_append] at hv3
  rw [hbH.out.1]
  clear hS0 hg3 hat3 hA1a hUa hsa hl9 hbdH
  obtain ⟨g, o, rfl, hg, hc⟩ := (hv3.cells bc_len (by omega)).resolve_left (fun e => by have := hbH.out.1; rw [e] at this; simp at this)
  obtain ⟨hbg, cur, hcur⟩ := hv3.typed g rfl
  have hB9 := hbH.out.1
  obtain ⟨b1, hb1⟩ : ∃ b1, b1 = B.getD 1 0 := ⟨_, rfl⟩
  obtain ⟨b2, hb2⟩ : ∃ b2, b2 = B.getD 2 0 := ⟨_, rfl⟩
  obtain ⟨d1, hd1⟩ : ∃ d1, d1 = b1 ^^^ 4 := ⟨_, rfl⟩
  obtain ⟨d2, hd2⟩ : ∃ d2, d2 = b2 ^^^ 1 := ⟨_, rfl⟩
  have ho1 := hbH.out.2.1
  have ho2 := hbH.out.2.2
  rw [← hb1, ← hd1] at ho1 ho2
  rw [← hb2, ← hd2] at ho2
  have e1 : B[1] = b1 := by rw [hb1, List.getD_eq_getElem?_getD, List.getElem?_eq_getElem (by omega)]; rfl
  have e2 : B[2] = b2 := by rw [hb2, List.getD_eq_getElem?_getD, List.getElem?_eq_getElem (by omega)]; rfl
  have y1 := hc 1 (by omega) 0 (by omega)
  rw [e1] at y1
  have y2 := hc 2 (by omega) 0 (by omega)
  rw [e2] at y2
  simp only [bc, List.getElem?_cons_zero, Nat.add_zero, Nat.mul_one] at y1 y2
  have z1 := blk_frozen hcur (o + 1)
  have x1 := xb b1 4
  rw [show (((4 : UInt8).toNat : Nat) : Int) = 4 from rfl, ← hd1] at x1
  have x2 := xb b2 1
  rw [show (((1 : UInt8).toNat : Nat) : Int) = 1 from rfl, ← hd2] at x2
  have hn1 := b1.toNat_lt
  have hn2 := b2.toNat_lt
  have hs1 := Sl.set1 (f := fun x : UInt8 => .int .u8 (x.toNat : Int)) hv3 (i := 1) (by omega) d1
  have hU4 := hU3.setNew (i := o + 1) hbg (.int .u8 (d1.toNat : Int))
  have hl1 : (B.set 1 d1).length = 9 := by rw [List.length_set, hB9]
  have hc39 : 9 ≤ c3 := by
    obtain ⟨A', c', e, hle⟩ := hv3.form
    injection e with _ _ e
    omega
  have q2 := openC (some ⟨g, o, none⟩) c3 (B.set 1 d1) 5 _ (hs1.cells bc_len (by omega)) (by rw [hl1]; exact hc39) hv3.capMax (by rw [hl1]; omega) (hT.upd hU4)
  rw [hl1, ho1] at q2
  unfold OpenR at q2
  simp only at q2
  have y2' : (w3.setCell ⟨g, o + 1, none⟩ (.int .u8 (d1.toNat : Int))).cell? ⟨g, o + 2, none⟩ = some (.int .u8 (b2.toNat : Int)) := by
    have hk := (hs1.cells bc_len (by omega)).resolve_left (fun e => by rw [e] at hl1; simp at hl1)
    obtain ⟨g', o', eg, _, h3⟩ := hk
    injection eg with eg
    injection eg with eg1 eg2
    subst eg1 eg2
    have h4 := h3 2 (by omega) 0 (by omega)
    rw [List.getElem_set_ne (by omega), e2] at h4
    simpa [bc] using h4
  clear hc hbH ho1 hb1 hb2 hd1 hd2 e1 e2 y2
  have z2 := blk_frozen (blk_put hcur (o + 1) (.int .u8 (d1.toNat : Int)) rfl) (o + 2)
  have hbl := blk_put hcur (o + 1) (.int .u8 (d1.toNat : Int)) rfl
  have hg4 : g < (w3.setCell ⟨g, o + 1, none⟩ (.int .u8 (d1.toNat : Int))).heap.size := blk_lt hbl
  go_upto_region 6 with fail
  generalize w3.setCell ⟨g, o + 1, none⟩ (.int .u8 (d1.toNat : Int)) = w4 at *
  clear y1 z1 x1 hv3 hU3 hcur hn1
  go_wp2_with fail
  refine q2.mono ?_
  clear q2
  rintro e w5 ⟨v5, rfl, hv5, hU5⟩
  obtain ⟨Ax, cx, rfl, _⟩ := hv5.form
  have hs5 := Sl.upd0 hs1 hU5
  have hb5 := hU5.blk hbl (fun h => h)
  have y5 := y2'
  rw [← hU5.cell (p := ⟨g, o + 2, none⟩) hg4 (fun h => h)] at y5
  have z5 := blk_frozen hb5 (o + 2)
  have hU05 := hU4.tr hU5
  have hs2 := Sl.set1 (f := fun x : UInt8 => .int .u8 (x.toNat : Int)) hs5 (i := 2) (by omega) d2
  have hU6 := hU05.setNew (i := o + 2) hbg (.int .u8 (d2.toNat : Int))
  have hl2 : ((B.set 1 d1).set 2 d2).length = 9 := by rw [List.length_set, hl1]
  have hv6 := hv5.upd ((Upd.refl (Only g) w5).set1 (i := o + 2) (.int .u8 (d2.toNat : Int))) (fun k hk e => by have h1 := (hv5.typed k hk).1; have e : k = g := e; omega)
  have q3 := openC (some ⟨g, o, none⟩) c3 ((B.set 1 d1).set 2 d2) 5 _ (hs2.cells bc_len (by omega)) (by rw [hl2]; exact hc39) hs1.capMax (by rw [hl2]; omega) (hT.upd hU6)
  rw [hl2] at q3
  unfold OpenR at q3
  rw [ho2] at q3
  generalize openV ((B.set 1 d1).set 2 d2) 5 = r3 at *
  clear y2' z2 hs5 hb5 hU05 hs2 hl2 hv5 hbl hU5 hs1 ho2
  go_upto_region 8 with fail
  generalize w5.setCell ⟨g, o + 2, none⟩ (.int .u8 (d2.toNat : Int)) = w6 at *
  clear y5 z5 x2
  go_wp2_with fail
  refine q3.mono ?_
  clear q3
  rintro e w7 ⟨v7, rfl, hv7, hU7⟩
  obtain ⟨A7, c7, rfl, _⟩ := hv7.form
  have hU07 := hU6.tr hU7
  have hx7 := hv6.upd0 hU7
  have q4 : Calls Tryd.prog 10 #[.agg #[.int .u8 0, .int .u8 0, .int .u8 0, .int .u8 0, .int .u8 0, .int .u8 0, .int .u8 0, .int .u8 0]] w7 fun e w' => e = .returned (.int .u8 (chk (wdN z8) : Nat)) ∧ Upd Nil w7 w' := checkC z8 z8_ok.1 z8_ok.2 w7 (hT.upd hU07)
  rw [chk0] at q4
  clear hv7 hv6
  go_wp2_with fail
  refine q4.mono ?_
  rintro e w8 ⟨rfl, hU8⟩
  have hx8 := hx7.upd0 hU8
  have hUz := hU07.tr hU8
  have hcs := cvS (hx8.cells bc_len (by omega)) cx
  rw [show (⟨hello.toArray⟩ : ByteArray) = ⟨#[104, 101, 108, 108, 111]⟩ from rfl] at hcs
  clear q4 hx7 hx8
  go_wp2_with fail
  go_ret
  exact ⟨rfl, hUz⟩
end Go.Proofs.YtenhimaclecdpaaDoor.Ecc
