/-
  The clock: the walk of the law's fixed. Conditions: none.
-/
import Derived.Test.YtcifkccaiekkeaaClockF
namespace Go.Proofs.Ytcifkccaiekkeaa.Clock
open Go.RowKit Go.Proofs.Ytcifkccaiekkeaa.Base Go.Maps Go.Proofs.Ytcifkccaiekkeaa.Maps Go.Proofs.Ytcifkccaiekkeaa.Ints
set_option linter.unusedVariables false
set_option linter.unusedSimpArgs false
theorem gv0 : GV 2 1 4 4 := ⟨by omega, by omega, by omega, by omega, by omega⟩
set_option maxHeartbeats 4000000 in
set_option maxRecDepth 100000 in
theorem ends4 (A : Option Addr) (cA : Nat) (w : World) (hA : Arg w A 2 opC [(4, 0)]) : Calls Try.prog 67 #[gC 2 1 4 4, .slice A 1 cA] w fun e w' => e = .returned (.tuple #[.slice none 0 0, .int .i64 1]) ∧ Upd Nil w w' := by
  have hmm := @run_makeMap Try.prog
  have q := check gv0
  have qt := ticks 4
  rw [show tick 4 = 0 from rfl] at qt
  unfold gC at *
  go_enter Try.func67, Try.ntmps67
  go_wp2_with fail
  refine (q _).mono ?_
  rintro e w1 ⟨rfl, hU1⟩
  have hU := ((Upd.refl Nil w).alloc (.cells #[.int .i64 2, .int .i64 1, .int .i64 4, .int .i64 4] 99)).tr hU1
  have hU3 := hU.tr ((((Upd.refl Nil w1).alloc (.map #[] 0)).alloc (.map #[] 0)).alloc (.cells #[.int .i64 0, .map (some w1.heap.size), .map (some (w1.heap.size + 1))] 152))
  go_wp2_with fail
  clear hmm
  go_loopw [24] (fun s24 wr => s24 = .int .i64 0 ∧ Upd Nil w wr) (fun s24 _ => 0)
  case atStart => exact ⟨rfl, hU3⟩
  case round =>
    clear hU hU3
    obtain ⟨rfl, hU⟩ := hrel
    obtain ⟨g, o, rfl, e0, e1⟩ := op_cell (hA.upd hU) (i := 0) (by simp)
    simp only [List.getElem_cons_zero, Nat.zero_mul, Nat.add_zero] at e0 e1
    go_wp2_with fail
    refine (qt _).mono ?_
    rintro e w' ⟨rfl, rfl⟩
    go_wp2_with fail
    go_ret2
    exact ⟨rfl, hU.alloc _⟩
set_option maxHeartbeats 4000000 in
set_option maxRecDepth 100000 in
theorem fixed (w : World) : Calls Try.prog 65 #[] w (RetB true w) := by
  have hG : Good 2 1 4 4 [(2, 2), (2, 3), (1, 2)] := ⟨gv0, by simp, by simp⟩
  have hG0 : Good 2 1 4 4 [] := ⟨gv0, by simp, by simp⟩
  have e1 : (stN 2 1 [(2, 2), (2, 3), (1, 2)] 3).2 = [5, 5, 7] := by decide +kernel
  have e2 : mxL (stN 2 1 [] 0).2 = 0 := by decide +kernel
  have k1 := fun (w : World) (cs : Array Value) (hcs : cs = #[.int .i64 2, .int .i64 2, .int .i64 2, .int .i64 3, .int .i64 1, .int .i64 2]) => ends (some ⟨w.heap.size, 0, none⟩) 3 [(2, 2), (2, 3), (1, 2)] hG (w.alloc (.cells cs 108)) (arg_lit (fun _ => rfl) (blk_new _ _) (by rw [hcs]; rfl)) (by simp)
  have k2 := fun (w : World) (cs : Array Value) (hcs : cs = #[.int .i64 4, .int .i64 0]) => ends4 (some ⟨w.heap.size, 0, none⟩) 1 (w.alloc (.cells cs 108)) (arg_lit (fun _ => rfl) (blk_new _ _) (by rw [hcs]; rfl))
  have k3 := fun (w : World) => total none 0 [] hG0 w (.inl rfl) (by simp)
  have k4 := aloneC 3 (by omega)
  rw [show alone 3 = 16 from rfl] at k4
  simp only [List.length_cons, List.length_nil, Nat.zero_add, Nat.reduceAdd] at k1 k3
  rw [e1] at k1
  rw [e2] at k3
  unfold gC at *
  have hb := blk_new w (.cells #[.int .i64 2, .int .i64 1, .int .i64 4, .int .i64 4] 99)
  have hU0 := (Upd.refl Nil w).alloc (.cells #[.int .i64 2, .int .i64 1, .int .i64 4, .int .i64 4] 99)
  clear hG hG0 e1 e2
  have hsz0 : (w.alloc (.cells #[.int .i64 2, .int .i64 1, .int .i64 4, .int .i64 4] 99)).heap.size = w.heap.size + 1 := by simp
  go_enter Try.func65, Try.ntmps65
  go_wp2_with fail
  generalize w.alloc (.cells #[.int .i64 2, .int .i64 1, .int .i64 4, .int .i64 4] 99) = w0 at *
  have k1' := k1 w0 _ rfl
  rw [hsz0] at k1'
  clear hsz0
  refine k1'.mono ?_
  rintro e w1 ⟨v, rfl, hv, hU1⟩
  have hU1' := ((Upd.refl Nil w0).alloc (.cells #[.int .i64 2, .int .i64 2, .int .i64 2, .int .i64 3, .int .i64 1, .int .i64 2] 108)).tr hU1
  have hb1 := hU1'.blk hb (fun h => h)
  have hV1 := hU0.tr hU1'
  obtain ⟨A1, c1, rfl, -⟩ := hv.form
  have x0 := blk_cell hb1 0
  have x1 := blk_cell hb1 1
  have x2 := blk_cell hb1 2
  have x3 := blk_cell hb1 3
  simp only [List.getElem?_toArray, List.getElem?_cons_zero, List.getElem?_cons_succ] at x0 x1 x2 x3
  go_wp2_with fail
  refine (k2 w1 _ rfl).mono ?_
  rintro e w2 ⟨rfl, hU2⟩
  have hU2' := ((Upd.refl Nil w1).alloc (.cells #[.int .i64 4, .int .i64 0] 108)).tr hU2
  have hb2 := hU2'.blk hb1 (fun h => h)
  have y0 := blk_cell hb2 0
  have y1 := blk_cell hb2 1
  have y2 := blk_cell hb2 2
  have y3 := blk_cell hb2 3
  simp only [List.getElem?_toArray, List.getElem?_cons_zero, List.getElem?_cons_succ] at y0 y1 y2 y3
  go_wp2_with fail
  refine (k3 w2).mono ?_
  rintro e w3 ⟨rfl, hU3⟩
  have hvc := (hv.upd0 (hU2'.tr hU3)).cells ic_len (by omega)
  obtain ⟨g, o, hA, _, c0⟩ := ic_cell hvc (i := 0) (by simp)
  obtain ⟨g', o', hA', _, c01⟩ := ic_cell hvc (i := 1) (by simp)
  obtain ⟨g'', o'', hA'', _, c02⟩ := ic_cell hvc (i := 2) (by simp)
  subst hA
  injection hA' with hA'
  injection hA' with q1 q2
  subst q1 q2
  injection hA'' with hA''
  injection hA'' with q1 q2
  subst q1 q2
  simp only [List.getElem_cons_zero, List.getElem_cons_succ, Nat.add_zero] at c0 c01 c02
  clear k1 k1' k2 k3
  go_wp2_with fail
  refine (k4 _).mono ?_
  rintro e w' ⟨rfl, rfl⟩
  go_wp2_with fail
  go_ret
  exact ⟨rfl, (hV1.tr hU2').tr hU3⟩
end Go.Proofs.Ytcifkccaiekkeaa.Clock
