/-
  Tags: the walk of the program's Bytes. Conditions: none.
-/
import Derived.Test.YthppheklnplljaaTagP
import Derived.Test.YthppheklnplljaaFrameA
namespace Go.Proofs.Ythppheklnplljaa.Tag
open Go.RowKit Go.Proofs.Ythppheklnplljaa.Base Go.Proofs.Ythppheklnplljaa.Word Go.Proofs.Ythppheklnplljaa.Frame
set_option linter.unusedVariables false
set_option linter.unusedSimpArgs false
def rowsL (t : Tg) : List (Int × Int) := [(t.tenant, 1), (t.epoch, 4), (t.place, 1), (t.seq, 4), (t.kind, 1)]
def upTo (t : Tg) (i : Nat) : List UInt8 := ((rowsL t).take i).foldl (fun b r => putL b r.1 r.2) []
theorem bytes_no (t : Tg) (w : World) (h : rightB t = false) : Calls Try.prog 21 #[tgV t] w (MkR (bytesB t) w) := by
  have hr : Hid (bytesB t = ([], 1)) := by show _ = _; unfold bytesB; rw [h]; rfl
  rw [hr.out]
  have hk := fun w => right t w
  obtain ⟨t0, t1, t2, t3, t4, t5⟩ := t
  unfold tgV at *
  rw [h] at hk
  go_enter Try.func21, Try.ntmps21
  go_wp2_with fail
  refine (hk _).mono ?_
  rintro e w1 ⟨rfl, hU1⟩
  go_wp2_with fail
  exact bodyPost_ret (v := .tuple #[.slice none 0 0, .int .i64 1]) (by simp [results, Try.results21, go_sem]) rfl ⟨_, rfl, Sl.nil _ _ _ _ _, ((Upd.refl _ _).alloc _).tr hU1⟩
set_option maxHeartbeats 4000000 in
set_option maxRecDepth 100000 in
theorem bytes_yes (t : Tg) (w : World) (h : rightB t = true) : Calls Try.prog 21 #[tgV t] w (MkR (bytesB t) w) := by
  have hr : Hid (bytesB t = mk 84 (bodyL t)) := by show _ = _; unfold bytesB; rw [h]; rfl
  rw [hr.out]
  have hk := fun w => right t w
  obtain ⟨t0, t1, t2, t3, t4, t5⟩ := t
  unfold tgV at *
  rw [h] at hk
  clear hr h
  go_enter Try.func21, Try.ntmps21
  go_wp2_with fail
  refine (hk _).mono ?_
  rintro e w1 ⟨rfl, hU1⟩
  have hbx := hU1.block w.heap.size (by simp) (fun h => h)
  rw [blk_new] at hbx
  have x0 := blk_cell hbx 0
  have x1 := blk_cell hbx 1
  have x2 := blk_cell hbx 2
  have x3 := blk_cell hbx 3
  have x4 := blk_cell hbx 4
  have x5 := blk_cell hbx 5
  simp only [List.getElem?_toArray, List.getElem?_cons_zero, List.getElem?_cons_succ] at x0 x1 x2 x3 x4 x5
  go_wp2_with fail

  have hlit := blk_new w1 (.cells #[.int .i64 t0, .int .i64 1, .int .i64 t1, .int .i64 4, .int .i64 t2, .int .i64 1, .int .i64 t3, .int .i64 4, .int .i64 t4, .int .i64 1] 87)
  have hU2 := ((Upd.refl Nil w).alloc _).tr hU1
  have hU3 := hU2.alloc (.cells #[.int .i64 t0, .int .i64 1, .int .i64 t1, .int .i64 4, .int .i64 t2, .int .i64 1, .int .i64 t3, .int .i64 4, .int .i64 t4, .int .i64 1] 87)
  go_loopw [4, 28] (fun s4 s28 wr => ∃ (i : Nat) (l : List UInt8) (A : Option Addr) (c : Nat), i ≤ 5 ∧ s28 = .int .i64 i ∧ s4 = .slice A l.length c ∧ Arg wr A 1 bc l ∧ l = upTo ⟨t0, t1, t2, t3, t4, t5⟩ i ∧ l.length ≤ 4 * i ∧ Upd Nil w wr ∧ Upd Nil w1 wr ∧ wr.heap[w1.heap.size]? = some (.cells #[.int .i64 t0, .int .i64 1, .int .i64 t1, .int .i64 4, .int .i64 t2, .int .i64 1, .int .i64 t3, .int .i64 4, .int .i64 t4, .int .i64 1] 87)) (fun _ s28 _ => 5 - (intOf s28).toNat)
  case atStart => exact ⟨0, [], none, 0, by omega, rfl, rfl, .inl rfl, rfl, by simp, hU3, (Upd.refl _ _).alloc _, hlit⟩
  case round =>

    obtain ⟨i, l, A, c, hi, rfl, rfl, hA, hl, hll, hU, hV, hlt⟩ := hrel
    replace hl := Lib.hid hl
    have hcs := fun j => blk_cell hlt j
    by_cases h5 : i < 5
    · have hi5 : i = 0 ∨ i = 1 ∨ i = 2 ∨ i = 3 ∨ i = 4 := by omega
      rcases hi5 with rfl | rfl | rfl | rfl | rfl
      ·
        have y0 := hcs (0)
        have y1 := hcs (0 + 1)
        simp only [List.getElem?_toArray, List.getElem?_cons_zero, List.getElem?_cons_succ, Nat.reduceAdd] at y0 y1
        have kp := fun w' (u : Upd Nil wr w') => put A c l t0 1 w' (hA.upd u) (by omega)
        clear hcs x0 x1 x2 x3 x4 x5 hbx hk hU1 hU2 hU3 hlit
        go_wp2_with fail
        refine (kp _ ((Upd.refl _ _).alloc _)).mono ?_
        rintro e w2 ⟨x, rfl, hx, hU4⟩
        obtain ⟨A', c', rfl, hc'⟩ := hx.form
        have hA' := hx.cells bc_len (by omega)
        have hpl := (putL_len l t0 1).2
        have hUr := ((Upd.refl Nil wr).alloc _).tr hU4
        go_wp2_with fail
        go_roundw
        case measure => simp [intOf]
        case rel => exact ⟨0 + 1, putL l t0 1, A', c', by omega, rfl, rfl, hA', by rw [hl.out]; rfl, by omega, hU.tr hUr, hV.tr hUr, (hUr.block _ (blk_lt hlt) (fun h => h)).trans hlt⟩
      ·
        have y0 := hcs (2)
        have y1 := hcs (2 + 1)
        simp only [List.getElem?_toArray, List.getElem?_cons_zero, List.getElem?_cons_succ, Nat.reduceAdd] at y0 y1
        have kp := fun w' (u : Upd Nil wr w') => put A c l t1 4 w' (hA.upd u) (by omega)
        clear hcs x0 x1 x2 x3 x4 x5 hbx hk hU1 hU2 hU3 hlit
        go_wp2_with fail
        refine (kp _ ((Upd.refl _ _).alloc _)).mono ?_
        rintro e w2 ⟨x, rfl, hx, hU4⟩
        obtain ⟨A', c', rfl, hc'⟩ := hx.form
        have hA' := hx.cells bc_len (by omega)
        have hpl := (putL_len l t1 4).2
        have hUr := ((Upd.refl Nil wr).alloc _).tr hU4
        go_wp2_with fail
        go_roundw
        case measure => simp [intOf]
        case rel => exact ⟨1 + 1, putL l t1 4, A', c', by omega, rfl, rfl, hA', by rw [hl.out]; rfl, by omega, hU.tr hUr, hV.tr hUr, (hUr.block _ (blk_lt hlt) (fun h => h)).trans hlt⟩
      ·
        have y0 := hcs (4)
        have y1 := hcs (4 + 1)
        simp only [List.getElem?_toArray, List.getElem?_cons_zero, List.getElem?_cons_succ, Nat.reduceAdd] at y0 y1
        have kp := fun w' (u : Upd Nil wr w') => put A c l t2 1 w' (hA.upd u) (by omega)
        clear hcs x0 x1 x2 x3 x4 x5 hbx hk hU1 hU2 hU3 hlit
        go_wp2_with fail
        refine (kp _ ((Upd.refl _ _).alloc _)).mono ?_
        rintro e w2 ⟨x, rfl, hx, hU4⟩
        obtain ⟨A', c', rfl, hc'⟩ := hx.form
        have hA' := hx.cells bc_len (by omega)
        have hpl := (putL_len l t2 1).2
        have hUr := ((Upd.refl Nil wr).alloc _).tr hU4
        go_wp2_with fail
        go_roundw
        case measure => simp [intOf]
        case rel => exact ⟨2 + 1, putL l t2 1, A', c', by omega, rfl, rfl, hA', by rw [hl.out]; rfl, by omega, hU.tr hUr, hV.tr hUr, (hUr.block _ (blk_lt hlt) (fun h => h)).trans hlt⟩
      ·
        have y0 := hcs (6)
        have y1 := hcs (6 + 1)
        simp only [List.getElem?_toArray, List.getElem?_cons_zero, List.getElem?_cons_succ, Nat.reduceAdd] at y0 y1
        have kp := fun w' (u : Upd Nil wr w') => put A c l t3 4 w' (hA.upd u) (by omega)
        clear hcs x0 x1 x2 x3 x4 x5 hbx hk hU1 hU2 hU3 hlit
        go_wp2_with fail
        refine (kp _ ((Upd.refl _ _).alloc _)).mono ?_
        rintro e w2 ⟨x, rfl, hx, hU4⟩
        obtain ⟨A', c', rfl, hc'⟩ := hx.form
        have hA' := hx.cells bc_len (by omega)
        have hpl := (putL_len l t3 4).2
        have hUr := ((Upd.refl Nil wr).alloc _).tr hU4
        go_wp2_with fail
        go_roundw
        case measure => simp [intOf]
        case rel => exact ⟨3 + 1, putL l t3 4, A', c', by omega, rfl, rfl, hA', by rw [hl.out]; rfl, by omega, hU.tr hUr, hV.tr hUr, (hUr.block _ (blk_lt hlt) (fun h => h)).trans hlt⟩
      ·
        have y0 := hcs (8)
        have y1 := hcs (8 + 1)
        simp only [List.getElem?_toArray, List.getElem?_cons_zero, List.getElem?_cons_succ, Nat.reduceAdd] at y0 y1
        have kp := fun w' (u : Upd Nil wr w') => put A c l t4 1 w' (hA.upd u) (by omega)
        clear hcs x0 x1 x2 x3 x4 x5 hbx hk hU1 hU2 hU3 hlit
        go_wp2_with fail
        refine (kp _ ((Upd.refl _ _).alloc _)).mono ?_
        rintro e w2 ⟨x, rfl, hx, hU4⟩
        obtain ⟨A', c', rfl, hc'⟩ := hx.form
        have hA' := hx.cells bc_len (by omega)
        have hpl := (putL_len l t4 1).2
        have hUr := ((Upd.refl Nil wr).alloc _).tr hU4
        go_wp2_with fail
        go_roundw
        case measure => simp [intOf]
        case rel => exact ⟨4 + 1, putL l t4 1, A', c', by omega, rfl, rfl, hA', by rw [hl.out]; rfl, by omega, hU.tr hUr, hV.tr hUr, (hUr.block _ (blk_lt hlt) (fun h => h)).trans hlt⟩
    · obtain rfl : i = 5 := by omega
      have hbl := (hV.block w.heap.size (blk_lt hbx) (fun h => h)).trans hbx
      have z5 := blk_cell hbl 5
      simp only [List.getElem?_toArray, List.getElem?_cons_zero, List.getElem?_cons_succ] at z5
      have kp := fun w' (u : Upd Nil wr w') => put A c l (c01 t5) 1 w' (hA.upd u) (by omega)
      have hpl := (putL_len l (c01 t5) 1).2
      have hbo : Hid (bodyL ⟨t0, t1, t2, t3, t4, t5⟩ = putL l (c01 t5) 1) := by show _ = _; rw [hl.out]; rfl
      clear hcs x0 x1 x2 x3 x4 x5 hbx hk hU1 hU2 hU3 hlit hlt hbl
      cases t5
      all_goals
        go_wp2_with fail
        refine (kp _ (Upd.refl _ _)).mono ?_
        rintro e w2 ⟨x, rfl, hx, hU4⟩
        obtain ⟨A', c', rfl, hc'⟩ := hx.form
        have hA' := hx.cells bc_len (by omega)
        have km := make 84 A' c' _ w2 hA' (by unfold maxLen; omega)
        clear hx kp
        go_wp2_with fail
        refine km.mono ?_
        rintro e w3 ⟨v, rfl, hv, hU5⟩
        go_wp2_with fail
        go_ret2
        rw [hbo.out]
        exact ⟨_, rfl, hv.lower (Nat.le_trans hU.size hU4.size), (hU.tr hU4).tr hU5⟩
theorem bytes (t : Tg) (w : World) : Calls Try.prog 21 #[tgV t] w (MkR (bytesB t) w) := by
  cases h : rightB t
  · exact bytes_no t w h
  · exact bytes_yes t w h
end Go.Proofs.Ythppheklnplljaa.Tag
