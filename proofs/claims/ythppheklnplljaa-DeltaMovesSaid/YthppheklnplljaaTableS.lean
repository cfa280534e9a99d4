/-
  The reference's tables: the walks of Clear, Set. Conditions: what the table holds.
-/
import Derived.Test.YthppheklnplljaaTableR
namespace Go.Proofs.Ythppheklnplljaa.Table
open Go.RowKit Go.Proofs.Ythppheklnplljaa.Base Go.Proofs.Ythppheklnplljaa.Ints
set_option linter.unusedVariables false
set_option linter.unusedSimpArgs false
/-- The rows of other places. -/
def rClr (R : List Row3) (q : Int) : List Row3 := R.filter (fun r => !placeAt q r)
def RClR (G : Nat → Prop) (b : Nat) (R : List Row3) (n m q : Int) (w : World) (e : Ending) (w' : World) : Prop :=
  e = .returned (.bool (decide ((rClr R q).length < R.length))) ∧ RTb (More G w.heap.size w'.heap.size) w' b (rClr R q) n m ∧ Upd G w w'
theorem rClr_take {R : List Row3} {q : Int} {k : Nat} (hk : k < R.length) : rClr (R.take (k + 1)) q = rClr (R.take k) q ++ if placeAt q R[k] then [] else [R[k]] := by
  unfold rClr
  rw [List.take_succ_eq_append_getElem hk, List.filter_append]
  congr 1
  cases h : placeAt q R[k] <;> simp [h]
theorem rClr_len (R : List Row3) (q : Int) (k : Nat) : (rClr (R.take k) q).length ≤ R.length := Nat.le_trans (List.length_filter_le _ _) (by simp; omega)
set_option maxHeartbeats 4000000 in
set_option maxRecDepth 100000 in
theorem rclear (G : Nat → Prop) (b : Nat) (R : List Row3) (n m q : Int) (hlen : R.length ≤ 1000000) (w : World) (h : RTb G w b R n m) : Calls Try.prog 63 #[.pointer (some ⟨b, 0, none⟩), .int .i64 q] w (RClR G b R n m q w) := by
  obtain ⟨V, h⟩ := h
  have hbk := h.blk
  have hG := h.ob
  obtain ⟨A, c, rfl, hc⟩ := h.sl.form
  have hA := h.sl.cells r3_len (by omega)
  have c2 : w.cell? ⟨b, 2, none⟩ = some (.slice A R.length c) := blk_cell hbk 2
  have c0 : w.cell? ⟨b, 0, none⟩ = some (.int .i64 n) := blk_cell hbk 0
  clear h
  go_enter Try.func63, Try.ntmps63
  go_wp2_with fail
  go_loopw [5, 7, 14] (fun s5 s7 s14 wr => ∃ k : Nat, k ≤ R.length ∧ s14 = .int .i64 k ∧ Sl wr w.heap.size 101 3 r3 s5 (rClr (R.take k) q) ∧ Upd Nil w wr) (fun _ _ s14 _ => R.length - (intOf s14).toNat)
  case atStart => exact ⟨0, by omega, rfl, Sl.nil _ _ _ _ _, Upd.refl _ _⟩
  case round =>
    obtain ⟨k, hk, rfl, hS, hU⟩ := hrel
    by_cases hlt : k < R.length
    · obtain ⟨g, o, rfl, e0, e1, e2⟩ := r3_cell (hA.upd hU) hlt
      have hst := Lib.hid (rClr_take (q := q) hlt)
      have hfl := rClr_len R q k
      have hUa : Upd Nil w (wr.alloc (.cells (r3 R[k]).toArray 101)) := hU.alloc _
      have hSa := hS.alloc (.cells (r3 R[k]).toArray 101)
      by_cases h1 : (R[k].1 : Int) = q
      · have hxb : ((R[k].1 : Int) != q) = false := by simpa using h1
        have hn : Hid (rClr (R.take (k + 1)) q = rClr (R.take k) q) := by show _ = _; rw [hst.out, if_pos (by unfold placeAt; simpa using h1)]; simp
        clear h1
        go_wp2_with fail
        go_roundw
        case measure => simp [intOf]; omega
        case rel => exact ⟨k + 1, by omega, by go_num, by rw [hn.out]; exact hSa, hUa⟩
      · have hb : ((R[k].1 : Int) != q) = true := by simpa using h1
        have hn : Hid (rClr (R.take (k + 1)) q = rClr (R.take k) q ++ [R[k]]) := by show _ = _; rw [hst.out, if_neg (by unfold placeAt; simpa using h1)]
        clear h1 hst
        generalize hL : rClr (R.take k) q = L at *
        replace hL := Lib.hid hL
        generalize hr : R[k] = r at *
        clear hr
        have hB := hUa.size
        go_wp2_with (at_builtin; (refine wp_app1 w.heap.size rfl (.tmp 22) (.tmp 24) elemR rfl _ r rfl u5 L rfl (by simp [Act.eval]) hSa hB (by omega) (by unfold maxLen; omega) ?_); intro A8 c8 w8 hv8 hg8 hat8)
        go_roundw
        case measure => simp [intOf]; omega
        case rel => exact ⟨k + 1, by omega, by go_num, by rw [hn.out]; exact hv8, hUa.grownOwn hSa (Nat.le_refl _) hg8⟩
    · obtain rfl : k = R.length := by omega
      rw [List.take_length] at hS
      have hb2 := hU.blk hbk (fun h => h)
      obtain ⟨A5, c5, rfl, hc5⟩ := hS.form
      have hfl : (rClr R q).length ≤ R.length := List.length_filter_le _ _
      have hd : Hid (decide (((rClr R q).length : Int) < (R.length : Int)) = decide ((rClr R q).length < R.length)) := by show _ = _; rw [decide_eq_decide]; omega
      have x2 := blk_cell hb2 2
      have z2 := blk_frozen hb2 2
      have hb3 := blk_put hb2 2 (.slice A5 (rClr R q).length c5) rfl
      have hu3 : Upd (Only b) wr (wr.setCell ⟨b, 2, none⟩ (.slice A5 (rClr R q).length c5)) := (Upd.refl _ _).set1 _
      have hs3 := hS.upd hu3 (fun k hk e => hS.ne hb2 (by decide) k hk e)
      have hfin : Hid (RTb (More G w.heap.size (wr.setCell ⟨b, 2, none⟩ (.slice A5 (rClr R q).length c5)).heap.size) (wr.setCell ⟨b, 2, none⟩ (.slice A5 (rClr R q).length c5)) b (rClr R q) n m ∧ Upd G w (wr.setCell ⟨b, 2, none⟩ (.slice A5 (rClr R q).length c5))) :=
        Lib.hid ⟨⟨_, hb3, hs3.lower (Nat.zero_le _), .inl hG, fun k hk => .inr ⟨(hS.typed k hk).1, hs3.lt k hk⟩⟩, (hU.mono (fun _ h => h.elim)).set (p := ⟨b, 2, none⟩) (.inl hG) _⟩
      simp only [List.getElem?_toArray, List.getElem?_cons_zero, List.getElem?_cons_succ] at x2
      clear hb3 hu3 hs3 hS hb2
      go_wp2_with fail
      go_ret
      exact ⟨by first | rfl | exact ret_b hd.out, hfin.out⟩
/-- Set, as the reference tells it. -/
def rSetV (R : List Row3) (n m : Int) (q i p : Int) : Int × List Row3 :=
  if q < 0 ∨ 63 < q ∨ i < 0 ∨ n ≤ i ∨ p < 0 ∨ m ≤ p then (5, R)
  else if 0 ≤ rPlaceV R i p ∧ rPlaceV R i p ≠ q then (7, R)
  else (0, rClr R q ++ [(q.toNat, (i.toNat, p.toNat))])
def RSetR (G : Nat → Prop) (b : Nat) (r : Int × List Row3) (n m : Int) (w : World) (e : Ending) (w' : World) : Prop := e = .returned (.int .i64 r.1) ∧ RTb (More G w.heap.size w'.heap.size) w' b r.2 n m ∧ Upd G w w'
theorem RTb.more {G : Nat → Prop} {w : World} {b : Nat} {R : List Row3} {n m : Int} (h : RTb G w b R n m) (lo hi : Nat) : RTb (More G lo hi) w b R n m := by
  obtain ⟨V, h⟩ := h
  exact ⟨V, h.blk, h.sl, .inl h.ob, fun k hk => .inl (h.oV k hk)⟩
set_option maxHeartbeats 4000000 in
set_option maxRecDepth 100000 in
theorem rset (G : Nat → Prop) (b : Nat) (R : List Row3) (n m q i p : Int) (hlen : R.length ≤ 1000000) (w : World) (h : RTb G w b R n m) : Calls Try.prog 65 #[.pointer (some ⟨b, 0, none⟩), .int .i64 q, .int .i64 i, .int .i64 p] w (RSetR G b (rSetV R n m q i p) n m w) := by
  have hT := h
  obtain ⟨V, h⟩ := h
  have hbk := h.blk
  have c0 : w.cell? ⟨b, 0, none⟩ = some (.int .i64 n) := blk_cell hbk 0
  have c1 : w.cell? ⟨b, 1, none⟩ = some (.int .i64 m) := blk_cell hbk 1
  have kp := rplace G b R n m i p w hT
  clear h hbk
  by_cases g0 : q < 0
  case pos =>
    have hr : Hid (rSetV R n m q i p = (5, R)) := by show _ = _; unfold rSetV; rw [if_pos (by omega)]
    rw [hr.out]
    go_enter Try.func65, Try.ntmps65
    go_wp2_with fail
    go_ret
    exact ⟨rfl, hT.more _ _, Upd.refl _ _⟩
  by_cases g1 : 63 < q
  case pos =>
    have hr : Hid (rSetV R n m q i p = (5, R)) := by show _ = _; unfold rSetV; rw [if_pos (by omega)]
    rw [hr.out]
    go_enter Try.func65, Try.ntmps65
    go_wp2_with fail
    go_ret
    exact ⟨rfl, hT.more _ _, Upd.refl _ _⟩
  by_cases g2 : i < 0
  case pos =>
    have hr : Hid (rSetV R n m q i p = (5, R)) := by show _ = _; unfold rSetV; rw [if_pos (by omega)]
    rw [hr.out]
    go_enter Try.func65, Try.ntmps65
    go_wp2_with fail
    go_ret
    exact ⟨rfl, hT.more _ _, Upd.refl _ _⟩
  by_cases g3 : n ≤ i
  case pos =>
    have hr : Hid (rSetV R n m q i p = (5, R)) := by show _ = _; unfold rSetV; rw [if_pos (by omega)]
    rw [hr.out]
    go_enter Try.func65, Try.ntmps65
    go_wp2_with fail
    go_ret
    exact ⟨rfl, hT.more _ _, Upd.refl _ _⟩
  by_cases g4 : p < 0
  case pos =>
    have hr : Hid (rSetV R n m q i p = (5, R)) := by show _ = _; unfold rSetV; rw [if_pos (by omega)]
    rw [hr.out]
    go_enter Try.func65, Try.ntmps65
    go_wp2_with fail
    go_ret
    exact ⟨rfl, hT.more _ _, Upd.refl _ _⟩
  by_cases g5 : m ≤ p
  case pos =>
    have hr : Hid (rSetV R n m q i p = (5, R)) := by show _ = _; unfold rSetV; rw [if_pos (by omega)]
    rw [hr.out]
    go_enter Try.func65, Try.ntmps65
    go_wp2_with fail
    go_ret
    exact ⟨rfl, hT.more _ _, Upd.refl _ _⟩
  have hv : rSetV R n m q i p = if 0 ≤ rPlaceV R i p ∧ rPlaceV R i p ≠ q then (7, R) else (0, rClr R q ++ [(q.toNat, (i.toNat, p.toNat))]) := by unfold rSetV; rw [if_neg (by omega)]
  unfold RPlR at kp
  generalize rPlaceV R i p = x at *
  by_cases hx : 0 ≤ x ∧ x ≠ q
  · rw [if_pos hx] at hv
    rw [hv]
    obtain ⟨hx0, hx1⟩ := hx
    have hxb : (x != q) = true := by simpa using hx1
    clear hv hx1
    go_enter Try.func65, Try.ntmps65
    go_wp2_with fail
    refine kp.mono ?_
    rintro e w1 ⟨rfl, hU1⟩
    go_wp2_with fail
    go_ret
    exact ⟨rfl, (hT.upd0 hU1).more _ _, hU1.mono (fun _ h => h.elim)⟩
  · rw [if_neg hx] at hv
    rw [hv]
    have hvH := Lib.hid hv
    clear hv
    have hxx : x < 0 ∨ x = q := by omega
    clear hx
    obtain ⟨qn, rfl⟩ := Int.eq_ofNat_of_zero_le (Int.not_lt.1 g0)
    obtain ⟨iN, rfl⟩ := Int.eq_ofNat_of_zero_le (Int.not_lt.1 g2)
    obtain ⟨pn, rfl⟩ := Int.eq_ofNat_of_zero_le (Int.not_lt.1 g4)
    simp only [Int.toNat_natCast]
    have hcl : (rClr R qn).length ≤ 1000000 := Nat.le_trans (List.length_filter_le _ _) hlen
    rcases hxx with hxx | rfl
    all_goals
      go_enter Try.func65, Try.ntmps65
      go_wp2_with fail
      refine kp.mono ?_
      rintro e w1 ⟨rfl, hU1⟩
      have hT1 := hT.upd0 hU1
      go_wp2_with fail
      refine (rclear G b R n m qn hlen w1 hT1).mono ?_
      rintro e w2 ⟨rfl, ⟨V2, h2⟩, hU2⟩
      have hU02 : Upd G w w2 := (hU1.mono (fun _ h => h.elim)).tr hU2
      have hb2 := h2.blk
      have y2 := blk_cell hb2 2
      simp only [List.getElem?_toArray, List.getElem?_cons_zero, List.getElem?_cons_succ] at y2
      have hsl2 := h2.sl
      have hG2 := h2.ob
      have hoV2 := h2.oV
      have hsz1 := hU1.size
      have hsz2 := hU2.size
      clear h2 hT hT1 kp hU2
      generalize hL : rClr R qn = L at *
      replace hL := Lib.hid hL
      go_wp2_with (at_builtin; (refine wp_app1 0 rfl (.tmp 58) (.tmp 63) elemR rfl _ (qn, (iN, pn)) rfl V2 L rfl (by simp [Act.eval]) hsl2 (Nat.zero_le _) (by omega) (by unfold maxLen; omega) ?_); intro A8 c8 w8 hv8 hg8 hat8; have hb8 := blk_grown hb2 hg8 (fun k hk => hsl2.ne hb2 (by decide) k hk); have y8 := blk_cell hb8 2; have f8 := blk_frozen hb8 2; simp only [List.getElem?_toArray, List.getElem?_cons_zero, List.getElem?_cons_succ] at y8)
      have hown : ∀ k, More G w1.heap.size w2.heap.size k → G k ∨ w.heap.size ≤ k := fun k hk => hk.elim .inl (fun ⟨h, _⟩ => .inr (by omega))
      have hU8 := hU02.grown hg8 (fun k hk => hown k (hoV2 k hk))
      have hb9 := blk_put hb8 2 (.slice A8 (L.length + 1) c8) rfl
      have hu9 : Upd (Only b) w8 (w8.setCell ⟨b, 2, none⟩ (.slice A8 (L.length + 1) c8)) := (Upd.refl _ _).set1 _
      have hs9 := hv8.upd hu9 (fun k hk e => hv8.ne hb8 (by decide) k hk e)
      have hU9 := hU8.set (p := ⟨b, 2, none⟩) (hown b hG2) (.slice A8 (L.length + 1) c8)
      have hsz9 : (w8.setCell ⟨b, 2, none⟩ (.slice A8 (L.length + 1) c8)).heap.size = w8.heap.size := by simp [World.setCell]
      have hsz8 := hg8.size
      have hup : ∀ k, More G w1.heap.size w2.heap.size k → More G w.heap.size (w8.setCell ⟨b, 2, none⟩ (.slice A8 (L.length + 1) c8)).heap.size k := fun k hk => hk.elim .inl (fun ⟨h, h'⟩ => .inr ⟨by omega, by omega⟩)
      go_ret
      refine ⟨rfl, ⟨_, hb9, hs9, hup b hG2, fun k hk => ?_⟩, hU9⟩
      have hk9 := hs9.lt k hk
      rcases hat8 with e | ⟨y, e, hy⟩
      · exact hup k (hoV2 k (by rw [← e]; exact hk))
      · rw [hk] at e
        injection e with e
        subst e
        exact .inr ⟨by omega, hk9⟩
end Go.Proofs.Ythppheklnplljaa.Table
