/-
  Tables of pages: the walks of is, At, Clear, Set. Conditions: what the table holds.
-/
import Derived.Test.YthppheklnplljaaTableM
import Derived.RegionTactic
import Derived.Deep.QuietTactic
import Derived.BigQuiet
namespace Go.Proofs.Ythppheklnplljaa.Table
open Go.RowKit Go.Proofs.Ythppheklnplljaa.Base Go.Proofs.Ythppheklnplljaa.Ints
set_option linter.unusedVariables false
set_option linter.unusedSimpArgs false
/-- A place's page, as At tells it. -/
def atV (R : List Row3) (q : Int) : Int × Int × Bool := if 0 ≤ q ∧ q < 64 then (match spotOf R q.toNat with | some s => (s.1, s.2, true) | none => (0, 0, false)) else (0, 0, false)
def AtR (R : List Row3) (q : Int) (w : World) (e : Ending) (w' : World) : Prop := e = .returned (.tuple #[.int .i64 (atV R q).1, .int .i64 (atV R q).2.1, .bool (atV R q).2.2]) ∧ Upd Nil w w'
theorem at_nil (q : Int) (w : World) : Calls Try.prog 67 #[.pointer none, .int .i64 q] w fun e w' => e = .returned (.tuple #[.int .i64 0, .int .i64 0, .bool false]) ∧ w = w' := by
  go_enter Try.func67, Try.ntmps67
  go_wp2_with fail
  go_ret3
  exact ⟨rfl, rfl⟩
theorem at_no (b : Nat) (R : List Row3) (q : Int) (h : q < 0 ∨ 64 ≤ q) (w : World) : Calls Try.prog 67 #[.pointer (some ⟨b, 0, none⟩), .int .i64 q] w (AtR R q w) := by
  have hr : Hid (AtR R q w = fun e w' => e = .returned (.tuple #[.int .i64 0, .int .i64 0, .bool false]) ∧ Upd Nil w w') := by
    show _ = _
    unfold AtR atV
    rw [if_neg (by omega)]
  rw [hr.out]
  rcases h with h | h
  · go_enter Try.func67, Try.ntmps67
    go_wp2_with fail
    go_ret3
    exact ⟨rfl, Upd.refl _ _⟩
  · have h0 : ¬ q < 0 := by omega
    go_enter Try.func67, Try.ntmps67
    go_wp2_with fail
    go_ret3
    exact ⟨rfl, Upd.refl _ _⟩
set_option maxRecDepth 100000 in
theorem at_in (F : Nat → Prop) (b : Nat) (R : List Row3) (n m : Nat) (q : Nat) (hq : q < 64) (w : World) (h : Tb F w b R n m) : Calls Try.prog 67 #[.pointer (some ⟨b, 0, none⟩), .int .i64 q] w (AtR R q w) := by
  obtain ⟨gs, V, W, h⟩ := h
  have c0 := h.spot hq (j := 0) (by omega)
  have c1 := h.spot hq (j := 1) (by omega)
  have c2 := h.spot hq (j := 2) (by omega)
  have cp := h.pages
  have hqI : ¬ (64 : Int) ≤ (q : Int) := by omega
  cases hs : spotOf R q with
  | none =>
    have hr : Hid (AtR R q w = fun e w' => e = .returned (.tuple #[.int .i64 0, .int .i64 0, .bool false]) ∧ Upd Nil w w') := by
      show _ = _
      unfold AtR atV
      rw [if_pos (by omega), Int.toNat_natCast, hs]
    rw [hr.out]
    rw [hs] at c0 c1 c2
    simp only [spC, List.getElem?_cons_zero, List.getElem?_cons_succ, Nat.add_zero] at c0 c1 c2
    clear h hs
    go_enter Try.func67, Try.ntmps67
    go_wp2_with fail
    go_quiet (fail)
    go_wp2_with fail
    go_ret3
    exact ⟨rfl, ((Upd.refl _ _).alloc _).drewN _⟩
  | some s =>
    have hr : Hid (AtR R q w = fun e w' => e = .returned (.tuple #[.int .i64 s.1, .int .i64 s.2, .bool true]) ∧ Upd Nil w w') := by
      show _ = _
      unfold AtR atV
      rw [if_pos (by omega), Int.toNat_natCast, hs]
    rw [hr.out]
    rw [hs] at c0 c1 c2
    simp only [spC, List.getElem?_cons_zero, List.getElem?_cons_succ, Nat.add_zero] at c0 c1 c2
    clear h hs
    go_enter Try.func67, Try.ntmps67
    go_wp2_with fail
    go_quiet (fail)
    go_wp2_with fail
    go_ret3
    exact ⟨rfl, ((Upd.refl _ _).alloc _).drewN _⟩
theorem at_ (F : Nat → Prop) (b : Nat) (R : List Row3) (n m : Nat) (q : Int) (w : World) (h : Tb F w b R n m) : Calls Try.prog 67 #[.pointer (some ⟨b, 0, none⟩), .int .i64 q] w (AtR R q w) := by
  by_cases hq : 0 ≤ q ∧ q < 64
  · obtain ⟨k, rfl⟩ := Int.eq_ofNat_of_zero_le hq.1
    exact at_in F b R n m k (by omega) w h
  · exact at_no b R q (by omega) w
def isB (n m : Nat) (i p : Int) : Bool := decide (0 ≤ i ∧ i < n ∧ 0 ≤ p ∧ p < m)
theorem is_nil (i p : Int) (w : World) : Calls Try.prog 75 #[.pointer none, .int .i64 i, .int .i64 p] w fun e w' => e = .returned (.bool false) ∧ w = w' := by
  go_enter Try.func75, Try.ntmps75
  go_wp2_with fail
  go_ret
  exact ⟨rfl, rfl⟩
set_option maxRecDepth 100000 in
theorem is_w (F : Nat → Prop) (b : Nat) (R : List Row3) (n m : Nat) (i p : Int) (w : World) (h : Tb F w b R n m) : Calls Try.prog 75 #[.pointer (some ⟨b, 0, none⟩), .int .i64 i, .int .i64 p] w fun e w' => e = .returned (.bool (isB n m i p)) ∧ w = w' := by
  obtain ⟨gs, V, W, h⟩ := h
  have cp := h.pages
  have cW := h.cW
  obtain ⟨A, c, rfl, hc⟩ := h.formW
  have hn := h.hn
  have hm := h.hm
  have hr : ∀ v, isB n m i p = v → Hid (isB n m i p = v) := fun v h => Lib.hid h
  by_cases h0 : 0 ≤ i
  case neg =>
    have := hr false (by unfold isB; simp; omega)
    go_enter Try.func75, Try.ntmps75
    go_wp2_with fail
    go_ret
    exact ⟨ret_b this.out.symm, rfl⟩
  by_cases h1 : i < n
  case neg =>
    have := hr false (by unfold isB; simp; omega)
    go_enter Try.func75, Try.ntmps75
    go_wp2_with fail
    go_ret
    exact ⟨ret_b this.out.symm, rfl⟩
  by_cases h2 : 0 ≤ p
  case neg =>
    have := hr false (by unfold isB; simp; omega)
    go_enter Try.func75, Try.ntmps75
    go_wp2_with fail
    go_ret
    exact ⟨ret_b this.out.symm, rfl⟩
  by_cases h3 : p < m
  case neg =>
    have := hr false (by unfold isB; simp; omega)
    go_enter Try.func75, Try.ntmps75
    go_wp2_with fail
    go_ret
    exact ⟨ret_b this.out.symm, rfl⟩
  have := hr true (by unfold isB; simp; omega)
  go_enter Try.func75, Try.ntmps75
  go_wp2_with fail
  go_ret
  exact ⟨ret_b this.out.symm, rfl⟩
/-! ### Clear -/
def ClrR (F : Nat → Prop) (b : Nat) (R : List Row3) (n m : Nat) (q : Int) (w : World) (e : Ending) (w' : World) : Prop :=
  e = .returned (.bool (atV R q).2.2) ∧ Tb F w' b (if 0 ≤ q ∧ q < 64 then clr R q.toNat else R) n m ∧ Upd F w w'
theorem clear_nil (q : Int) (w : World) : Calls Try.prog 42 #[.pointer none, .int .i64 q] w fun e w' => e = .returned (.bool false) ∧ w = w' := by
  have k := fun w => at_nil q w
  go_enter Try.func42, Try.ntmps42
  go_wp2_with fail
  refine (k _).mono ?_
  rintro e w' ⟨rfl, rfl⟩
  go_wp2_with fail
  go_ret
  exact ⟨rfl, rfl⟩
theorem upd_nilF {F : Nat → Prop} {w w' : World} (u : Upd Nil w w') : Upd F w w' := u.mono (fun _ h => h.elim)
set_option maxHeartbeats 4000000 in
set_option maxRecDepth 100000 in
theorem clear (F : Nat → Prop) (b : Nat) (R : List Row3) (n m : Nat) (q : Int) (w : World) (h : Tb F w b R n m) : Calls Try.prog 42 #[.pointer (some ⟨b, 0, none⟩), .int .i64 q] w (ClrR F b R n m q w) := by
  have k := at_ F b R n m q w h
  cases hs : (atV R q).2.2 with
  | false =>
    have hz : atV R q = (0, 0, false) ∧ (if 0 ≤ q ∧ q < 64 then clr R q.toNat else R) = R := by
      unfold atV at *
      split at hs
      · rename_i hq
        rw [if_pos hq, if_pos hq]
        cases hx : spotOf R q.toNat with
        | none => obtain ⟨gs, V, W, h⟩ := h; exact ⟨rfl, clr_none h.pw hx⟩
        | some s => rw [hx] at hs; cases hs
      · rename_i hq
        rw [if_neg hq, if_neg hq]
        exact ⟨rfl, rfl⟩
    have hr : Hid (ClrR F b R n m q w = fun e w' => e = .returned (.bool false) ∧ Tb F w' b R n m ∧ Upd F w w') := by
      show _ = _
      unfold ClrR
      rw [hz.1, hz.2]
    rw [hr.out]
    unfold AtR at k
    rw [hz.1] at k
    clear hz hs
    go_enter Try.func42, Try.ntmps42
    go_wp2_with fail
    refine k.mono ?_
    rintro e w1 ⟨rfl, hU1⟩
    go_wp2_with fail
    go_ret
    exact ⟨rfl, h.upd0 hU1, upd_nilF hU1⟩
  | true =>
    have hq : 0 ≤ q ∧ q < 64 := by
      unfold atV at hs
      split at hs
      · assumption
      · cases hs
    obtain ⟨kq, rfl⟩ := Int.eq_ofNat_of_zero_le hq.1
    have hq64 : kq < 64 := by omega
    obtain ⟨i, p, hx⟩ : ∃ i p, spotOf R kq = some (i, p) := by
      unfold atV at hs
      rw [if_pos hq, Int.toNat_natCast] at hs
      cases hx : spotOf R kq with
      | none => rw [hx] at hs; cases hs
      | some s => exact ⟨s.1, s.2, rfl⟩
    have hat : atV R kq = ((i : Int), (p : Int), true) := by
      unfold atV
      rw [if_pos hq, Int.toNat_natCast, hx]
    have hr : Hid (ClrR F b R n m kq w = fun e w' => e = .returned (.bool true) ∧ Tb F w' b (clr R kq) n m ∧ Upd F w w') := by
      show _ = _
      unfold ClrR
      rw [hat, if_pos hq, Int.toNat_natCast]
    rw [hr.out]
    unfold AtR at k
    rw [hat] at k
    obtain ⟨gs, V, W, h⟩ := h
    have hin := h.inn _ ((spot_iff h.pw kq (i, p)).1 hx)
    have hi : i < n := hin.2.1
    have hp : p < m := hin.2.2
    have hown : ownOf R (i, p) = some kq := (own_iff h.pw kq (i, p)).2 ((spot_iff h.pw kq (i, p)).1 hx)
    have hwor := fun j => worth_clr h.pw hx j
    obtain ⟨gw, ow, cw, rfl, hcw, _, _⟩ := h.wor hi
    obtain ⟨gv, ov, c, g, rfl, hc, hg, _, _, _⟩ := h.row hi hp
    clear hs hat hin
    go_enter Try.func42, Try.ntmps42
    go_wp2_with fail
    refine k.mono ?_
    rintro e w1 ⟨rfl, hU1⟩
    have h1 := h.upd0 hU1
    obtain ⟨gv', ov', c', g', e1, _, hg', r1, r2, r3⟩ := h1.row hi hp
    injection e1 with e1 _ _
    injection e1 with e1
    injection e1 with e1 e2
    rw [hg] at hg'
    injection hg' with hg'
    subst e1 e2 hg'
    obtain ⟨gw', ow', cw', e1, _, s1, s2⟩ := h1.wor hi
    injection e1 with e1 _ _
    injection e1 with e1
    injection e1 with e1 e2
    subst e1 e2
    have cV := h1.cV
    have cW := h1.cW
    have hw1 : (1 : Int) ≤ (worthOf R i : Nat) := by have := hwor i; rw [if_pos rfl] at this; omega
    have hn := h.hn
    have hm := h.hm
    have hw64 := worth64 h.pw h.inn i
    have hgb : g ≠ b := h1.bne (List.mem_of_getElem? hg)
    have ho2 : ∀ s, s ≠ (i, p) → ownOf (clr R kq) s = ownOf R s := fun s hs => by rw [own_clr h.pw hx, if_neg hs]
    have ho1 : ownI (ownOf (clr R kq) (i, p)) = -1 := by rw [own_clr h.pw hx, if_pos rfl]; rfl
    obtain ⟨x2, u2⟩ := h1.toTbX.setRow (R' := clr R kq) hg hp ho1 ho2
    have hw2 : ((worthOf (clr R kq) i : Nat) : Int) = (worthOf R i : Nat) - 1 := by have := hwor i; rw [if_pos rfl] at this; omega
    obtain ⟨x3, u3⟩ := x2.setWorth (R' := clr R kq) hi hw2 (fun k hk => by have := hwor k; rw [if_neg hk] at this; omega)
    have hspn : spC (spotOf (clr R kq) kq) = [.int .i64 0, .int .i64 0, .bool false] := by rw [spot_clr h.pw, if_pos rfl]; rfl
    obtain ⟨x4, u4⟩ := x3.setSpot (R' := clr R kq) hq64 hspn (fun k hk => by rw [spot_clr h.pw, if_neg hk])
    have hfin : Hid (Tb F ((((((w1.setCell ⟨g, p, none⟩ (.int .i64 (-1))).setCell ⟨gw, ow + i, none⟩ (.int .i64 ((worthOf R i : Nat) - 1))).setCell ⟨b, 1 + kq * 3, none⟩ (.int .i64 0)).setCell ⟨b, 1 + kq * 3 + 1, none⟩ (.int .i64 0)).setCell ⟨b, 1 + kq * 3 + 2, none⟩ (.bool false))) b (clr R kq) n m ∧ Upd F w _) :=
      Lib.hid ⟨⟨gs, _, _, ⟨x4, h.pw.clr kq, h.inn.clr kq, h.hn, h.hm⟩⟩, (((upd_nilF hU1).tr u2).tr u3).tr u4⟩
    have cW2 := x2.cW
    obtain ⟨gw', ow', cw', e1, _, s3, s4⟩ := x2.wor hi
    injection e1 with e1 _ _
    injection e1 with e1
    injection e1 with e1 e2
    subst e1 e2
    have d0 := x3.spot hq64 (j := 0) (by omega)
    have d1 := x3.spot hq64 (j := 1) (by omega)
    have d2 := x3.spot hq64 (j := 2) (by omega)
    rw [hx] at d0 d1 d2
    simp only [spC, List.getElem?_cons_zero, List.getElem?_cons_succ, Nat.add_zero] at d0 d1 d2
    have f0 := x3.fz (1 + kq * 3)
    have f1 := x3.fz (1 + kq * 3 + 1)
    have f2 := x3.fz (1 + kq * 3 + 2)
    have cp3 := x3.pages
    clear h h1 x2 x3 x4 u2 u3 u4 hwor ho1 ho2 hw2 hspn hown hx k
    go_wp2_with fail
    go_ret
    exact ⟨rfl, hfin.out⟩
end Go.Proofs.Ythppheklnplljaa.Table
