/-
  Whole; the law's moves and fixed. Conditions: what the arguments' slices hold.
-/
import Derived.Test.YthppheklnplljaaDeltaB
import Derived.Test.YthppheklnplljaaDeltaE
import Derived.Test.YthppheklnplljaaRow2
namespace Go.Proofs.Ythppheklnplljaa.Delta
open Go.RowKit Go.Proofs.Ythppheklnplljaa.Base Go.Proofs.Ythppheklnplljaa.Word Go.Proofs.Ythppheklnplljaa.Frame
set_option linter.unusedVariables false
set_option linter.unusedSimpArgs false
theorem elemRM : Elem Try.prog 51 48 (.agg #[.int .i64 0, .int .i64 0, .int .i64 0, .bool false]) 4 32 mvC := ⟨Try.underlying51, by kernel_rfl, rfl, by omega, mvC_len, mvC_one⟩
set_option maxRecDepth 100000 in
theorem whole (A : Option Addr) (c : Nat) (b : List UInt8) (first : Int) (w : World) (hA : Arg w A 1 bc b) (hc : b.length ≤ c) (hcm : c ≤ maxLen) (hb : b.length ≤ 100000) (hf : -2199023255552 ≤ first ∧ first ≤ 2199023255552) :
    Calls Try.prog 38 #[.slice A b.length c, .int .i64 first] w fun e w' => (∃ v, e = .returned (.tuple #[v, .int .i64 (if (readV b first).2 < b.length then 2 else 0)])) ∧ Upd Nil w w' := by
  have q := readC A c b first w hA hc hcm hb hf
  unfold ReadsR at q
  generalize readV b first = r at *
  obtain ⟨r1, r2⟩ := r
  simp only at q ⊢
  clear hf hcm
  by_cases h : r2 < b.length
  · rw [if_pos h]
    have hI : (r2 : Int) < (b.length : Int) := by omega
    go_enter Try.func38, Try.ntmps38
    go_wp2_with fail
    refine q.mono ?_
    rintro e w1 ⟨v, rfl, _, hU⟩
    go_wp2_with fail
    go_ret2
    exact ⟨⟨_, rfl⟩, hU⟩
  · rw [if_neg h]
    have hI : ¬ (r2 : Int) < (b.length : Int) := by omega
    go_enter Try.func38, Try.ntmps38
    go_wp2_with fail
    refine q.mono ?_
    rintro e w1 ⟨v, rfl, _, hU⟩
    go_wp2_with fail
    go_ret2
    exact ⟨⟨_, rfl⟩, hU⟩
def MovesR (l : List Mv) (w : World) (e : Ending) (w' : World) : Prop := ∃ v, e = .returned v ∧ Sl w' w.heap.size 48 4 mvC v l ∧ Upd Nil w w'
theorem app32 {n : Nat} (h : n ≤ 4398046511000) : (n + 1) * 32 ≤ 140737488355328 ∧ n + 1 ≤ maxLen := by unfold maxLen; omega
set_option maxRecDepth 100000 in
theorem movesC (A : Option Addr) (c : Nat) (l : List Mv) (w : World) (hA : Arg w A 4 mvC l) (hl : l.length ≤ 4398046511000) :
    Calls Try.prog 34 #[.slice A l.length c] w (MovesR l w) := by
  go_enter Try.func34, Try.ntmps34
  go_wp2_with fail
  go_loopw [3, 8] (fun s3 s8 wr => ∃ (i : Nat) (V : Value), i ≤ l.length ∧ s8 = .int .i64 (i : Int) ∧ s3 = V ∧ Sl wr w.heap.size 48 4 mvC V (l.take i) ∧ Upd Nil w wr) (fun _ s8 _ => l.length - (intOf s8).toNat)
  case atStart => exact ⟨0, _, by omega, rfl, rfl, Sl.nil _ _ _ _ _, Upd.refl _ _⟩
  case round =>
    obtain ⟨i, V, hi, rfl, rfl, hV, hU⟩ := hrel
    by_cases hlt : i < l.length
    · obtain ⟨g, o, rfl, _, y0, y1, y2, y3⟩ := mv_cell (hA.upd hU) hlt
      have htk := Lib.hid (List.take_succ_eq_append_getElem hlt)
      have hal : (l.take i).length ≤ 4398046511000 := by simp; omega
      generalize l.take i = a at *
      generalize l[i] = m at *
      have ua := (Upd.refl Nil wr).alloc (.cells #[.int .i64 m.place, .int .i64 m.block, .int .i64 m.page, .bool m.gone] 45)
      have hV2 := hV.upd0 ua
      have hU2 := hU.tr ua
      have hs2 := hU2.size
      go_wp2_with (at_builtin; refine wp_app1 w.heap.size rfl (.tmp 12) (.tmp 22) elemRM rfl (wr.alloc (.cells #[.int .i64 m.place, .int .i64 m.block, .int .i64 m.page, .bool m.gone] 45)) m (by rfl) _ a rfl (by simp [Act.eval]) hV2 hs2 (app32 hal).1 (app32 hal).2 ?_; intro A1 c1 w1 hv1 hg1 hat)
      go_roundw
      case measure => simp [intOf]; omega
      case rel => exact ⟨i + 1, _, by omega, by go_num, rfl, by rw [htk.out]; exact hv1, hU2.grownOwn hV2 (Nat.le_refl _) hg1⟩
    · obtain rfl : i = l.length := by omega
      rw [List.take_length] at hV
      go_wp2_with fail
      go_ret
      exact ⟨_, rfl, hV, hU⟩
theorem fx1 : ∃ B, recB 3 [] = (B, 0) ∧ B.length = 12 := ⟨(recB 3 []).1, by decide +kernel, by decide +kernel⟩
theorem fx2 : ∃ B C, recB 3 [] = (B, 0) ∧ recB 4 [⟨1, 2, 3, false⟩] = (C, 0) ∧ B.length = 12 ∧ C.length = 16 ∧ (readV (B ++ C ++ [1]) 3).2 = 28 ∧ (readV (B ++ [1]) 3).2 = 12 := ⟨(recB 3 []).1, (recB 4 [⟨1, 2, 3, false⟩]).1, by decide +kernel, by decide +kernel, by decide +kernel, by decide +kernel, by decide +kernel, by decide +kernel⟩
end Go.Proofs.Ythppheklnplljaa.Delta
