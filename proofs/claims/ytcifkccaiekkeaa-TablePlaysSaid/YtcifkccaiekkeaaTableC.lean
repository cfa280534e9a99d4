/-
  Tables of pages: the walks of Place, Worth. Conditions: what the table holds.
-/
import Derived.Test.YtcifkccaiekkeaaTableB
namespace Go.Proofs.Ytcifkccaiekkeaa.Table
open Go.RowKit Go.Proofs.Ytcifkccaiekkeaa.Base Go.Proofs.Ytcifkccaiekkeaa.Ints
set_option linter.unusedVariables false
set_option linter.unusedSimpArgs false
def placeV (R : List Row3) (n m : Nat) (i p : Int) : Int := if isB n m i p then ownI (ownOf R (i.toNat, p.toNat)) else -1
def worthV (R : List Row3) (n m : Nat) (i : Int) : Int := if isB n m i 0 then (worthOf R i.toNat : Nat) else 0
theorem place_nil (i p : Int) (w : World) : Calls Try.prog 20 #[.pointer none, .int .i64 i, .int .i64 p] w fun e w' => e = .returned (.int .i64 (-1)) ∧ w = w' := by
  have k := fun w => is_nil i p w
  go_enter Try.func20, Try.ntmps20
  go_wp2_with fail
  refine (k _).mono ?_
  rintro e w' ⟨rfl, rfl⟩
  go_wp2_with fail
  go_ret
  exact ⟨rfl, rfl⟩
theorem is_true {n m : Nat} {i p : Int} (h : isB n m i p = true) : ∃ a b : Nat, i = a ∧ p = b ∧ a < n ∧ b < m := by
  unfold isB at h
  simp at h
  obtain ⟨h0, h1, h2, h3⟩ := h
  obtain ⟨a, rfl⟩ := Int.eq_ofNat_of_zero_le h0
  obtain ⟨b, rfl⟩ := Int.eq_ofNat_of_zero_le h2
  exact ⟨a, b, rfl, rfl, by omega, by omega⟩
set_option maxRecDepth 100000 in
theorem place (F : Nat → Prop) (b : Nat) (R : List Row3) (n m : Nat) (i p : Int) (w : World) (h : Tb F w b R n m) : Calls Try.prog 20 #[.pointer (some ⟨b, 0, none⟩), .int .i64 i, .int .i64 p] w fun e w' => e = .returned (.int .i64 (placeV R n m i p)) ∧ w = w' := by
  have k := is_w F b R n m i p w h
  cases hb : isB n m i p with
  | false =>
    have hr : Hid (placeV R n m i p = -1) := by show _ = _; unfold placeV; rw [hb]; rfl
    rw [hr.out]
    rw [hb] at k
    clear hb
    go_enter Try.func20, Try.ntmps20
    go_wp2_with fail
    refine k.mono ?_
    rintro e w' ⟨rfl, rfl⟩
    go_wp2_with fail
    go_ret
    exact ⟨rfl, rfl⟩
  | true =>
    obtain ⟨ki, kp, rfl, rfl, hi, hp⟩ := is_true hb
    have hr : Hid (placeV R n m ki kp = ownI (ownOf R (ki, kp))) := by show _ = _; unfold placeV; rw [hb]; rfl
    rw [hr.out]
    rw [hb] at k
    obtain ⟨gs, V, W, h⟩ := h
    obtain ⟨gv, ov, c, g, rfl, hc, hg, r1, r2, r3⟩ := h.row hi hp
    have cV := h.cV
    have cp := h.pages
    have hn := h.hn
    have hm := h.hm
    generalize ownI (ownOf R (ki, kp)) = x at *
    clear hb h
    go_enter Try.func20, Try.ntmps20
    go_wp2_with fail
    refine k.mono ?_
    rintro e w' ⟨rfl, rfl⟩
    go_wp2_with fail
    go_ret
    exact ⟨rfl, rfl⟩
theorem worth_nil (i : Int) (w : World) : Calls Try.prog 21 #[.pointer none, .int .i64 i] w fun e w' => e = .returned (.int .i64 0) ∧ w = w' := by
  have k := fun w => is_nil i 0 w
  go_enter Try.func21, Try.ntmps21
  go_wp2_with fail
  refine (k _).mono ?_
  rintro e w' ⟨rfl, rfl⟩
  go_wp2_with fail
  go_ret
  exact ⟨rfl, rfl⟩
set_option maxRecDepth 100000 in
theorem worth (F : Nat → Prop) (b : Nat) (R : List Row3) (n m : Nat) (i : Int) (w : World) (h : Tb F w b R n m) : Calls Try.prog 21 #[.pointer (some ⟨b, 0, none⟩), .int .i64 i] w fun e w' => e = .returned (.int .i64 (worthV R n m i)) ∧ w = w' := by
  have k := is_w F b R n m i 0 w h
  cases hb : isB n m i 0 with
  | false =>
    have hr : Hid (worthV R n m i = 0) := by show _ = _; unfold worthV; rw [hb]; rfl
    rw [hr.out]
    rw [hb] at k
    clear hb
    go_enter Try.func21, Try.ntmps21
    go_wp2_with fail
    refine k.mono ?_
    rintro e w' ⟨rfl, rfl⟩
    go_wp2_with fail
    go_ret
    exact ⟨rfl, rfl⟩
  | true =>
    obtain ⟨ki, kp, rfl, -, hi, -⟩ := is_true hb
    have hr : Hid (worthV R n m ki = (worthOf R ki : Nat)) := by show _ = _; unfold worthV; rw [hb]; rfl
    rw [hr.out]
    rw [hb] at k
    obtain ⟨gs, V, W, h⟩ := h
    obtain ⟨gw, ow, cw, rfl, hcw, s1, s2⟩ := h.wor hi
    have cW := h.cW
    have hn := h.hn
    generalize worthOf R ki = x at *
    clear hb h
    go_enter Try.func21, Try.ntmps21
    go_wp2_with fail
    refine k.mono ?_
    rintro e w' ⟨rfl, rfl⟩
    go_wp2_with fail
    go_ret
    exact ⟨rfl, rfl⟩
end Go.Proofs.Ytcifkccaiekkeaa.Table
