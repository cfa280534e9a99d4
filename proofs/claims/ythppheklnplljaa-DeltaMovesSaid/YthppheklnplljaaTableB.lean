/-
  Tables of pages: the walk of Set. Conditions: what the table holds.
-/
import Derived.Test.YthppheklnplljaaTableA
namespace Go.Proofs.Ythppheklnplljaa.Table
open Go.RowKit Go.Proofs.Ythppheklnplljaa.Base Go.Proofs.Ythppheklnplljaa.Ints
set_option linter.unusedVariables false
set_option linter.unusedSimpArgs false
def setV (R : List Row3) (n m : Nat) (q i p : Int) : Int × List Row3 :=
  if ¬ (0 ≤ q ∧ q < 64) ∨ isB n m i p = false then (5, R)
  else match ownOf R (i.toNat, p.toNat) with
    | some k => if (k : Int) = q then (0, put (clr R q.toNat) q.toNat (i.toNat, p.toNat)) else (7, R)
    | none => (0, put (clr R q.toNat) q.toNat (i.toNat, p.toNat))
def SetR (F : Nat → Prop) (b : Nat) (r : Int × List Row3) (n m : Nat) (w : World) (e : Ending) (w' : World) : Prop := e = .returned (.int .i64 r.1) ∧ Tb F w' b r.2 n m ∧ Upd F w w'
theorem set_nil (q i p : Int) (w : World) : Calls Try.prog 64 #[.pointer none, .int .i64 q, .int .i64 i, .int .i64 p] w fun e w' => e = .returned (.int .i64 1) ∧ w = w' := by
  go_enter Try.func64, Try.ntmps64
  go_wp2_with fail
  go_ret
  exact ⟨rfl, rfl⟩
theorem own_free {R : List Row3} (h : PW R) {q : Nat} {s : Nat × Nat} (ho : ownOf R s = none ∨ ownOf R s = some q) : ownOf (clr R q) s = none := by
  cases hx : spotOf R q with
  | none =>
    rw [clr_none h hx]
    rcases ho with ho | ho
    · exact ho
    · have := (spot_iff h q s).2 ((own_iff h q s).1 ho)
      rw [hx] at this
      cases this
  | some s0 =>
    rw [own_clr h hx]
    split
    · rfl
    · rename_i hne
      rcases ho with ho | ho
      · exact ho
      · have := (spot_iff h q s).2 ((own_iff h q s).1 ho)
        rw [hx] at this
        injection this with this
        exact absurd this.symm hne
set_option maxHeartbeats 4000000 in
set_option maxRecDepth 100000 in
theorem set_ok (F : Nat → Prop) (b : Nat) (R : List Row3) (n m q i p : Nat) (hq : q < 64) (hi : i < n) (hp : p < m) (w : World) (h : Tb F w b R n m) (ho : ownOf R (i, p) = none ∨ ownOf R (i, p) = some q) :
    Calls Try.prog 64 #[.pointer (some ⟨b, 0, none⟩), .int .i64 q, .int .i64 i, .int .i64 p] w (SetR F b (0, put (clr R q) q (i, p)) n m w) := by
  have kc := clear F b R n m q w h
  have hcr : ClrR F b R n m q w = fun e w' => e = .returned (.bool (atV R q).2.2) ∧ Tb F w' b (clr R q) n m ∧ Upd F w w' := by
    unfold ClrR
    rw [if_pos (by omega), Int.toNat_natCast]
  rw [hcr] at kc
  have ki := is_w F b R n m i p w h
  have hib : isB n m i p = true := by unfold isB; simp; omega
  rw [hib] at ki
  obtain ⟨gs, V, W, h⟩ := h
  obtain ⟨gv, ov, c, g, rfl, hc, hg, r1, r2, r3⟩ := h.row hi hp
  have hpc : PW (clr R q) := h.pw.clr q
  have hsq : spotOf (clr R q) q = none := by rw [spot_clr h.pw, if_pos rfl]
  have hof := own_free h.pw ho
  have cV := h.cV
  have cp := h.pages
  have hn := h.hn
  have hm := h.hm
  have hqI : ¬ (64 : Int) ≤ (q : Int) := by omega
  have hpost : ∀ w1, Tb F w1 b (clr R q) n m → Upd F w w1 → ∃ gv ov c g gw ow cw, n ≤ c ∧ n ≤ cw ∧ w1.cell? ⟨b, 0, none⟩ = some (.int .i64 m) ∧ w1.cell? ⟨b, 193, none⟩ = some (.slice (some ⟨gv, ov, none⟩) n c) ∧
      (∃ x y z, w1.cell? ⟨b, 1 + q * 3, none⟩ = some x ∧ w1.cell? ⟨b, 1 + q * 3 + 1, none⟩ = some y ∧ w1.cell? ⟨b, 1 + q * 3 + 2, none⟩ = some z) ∧ (w1.frozen? ⟨b, 1 + q * 3, none⟩ = false ∧ w1.frozen? ⟨b, 1 + q * 3 + 1, none⟩ = false ∧ w1.frozen? ⟨b, 1 + q * 3 + 2, none⟩ = false) ∧
      (∀ w2, w2 = (((w1.setCell ⟨b, 1 + q * 3, none⟩ (.int .i64 i)).setCell ⟨b, 1 + q * 3 + 1, none⟩ (.int .i64 p)).setCell ⟨b, 1 + q * 3 + 2, none⟩ (.bool true)) →
        w2.cell? ⟨b, 0, none⟩ = some (.int .i64 m) ∧ w2.cell? ⟨b, 193, none⟩ = some (.slice (some ⟨gv, ov, none⟩) n c) ∧ w2.cell? ⟨gv, ov + i, none⟩ = some (.slice (some ⟨g, 0, none⟩) m m) ∧ (∃ x, w2.cell? ⟨g, p, none⟩ = some (.int .i64 x)) ∧ w2.frozen? ⟨g, p, none⟩ = false ∧
        ∀ w3, w3 = w2.setCell ⟨g, p, none⟩ (.int .i64 q) →
          w3.cell? ⟨b, 194, none⟩ = some (.slice (some ⟨gw, ow, none⟩) n cw) ∧ w3.cell? ⟨gw, ow + i, none⟩ = some (.int .i64 (worthOf (clr R q) i : Nat)) ∧ w3.frozen? ⟨gw, ow + i, none⟩ = false ∧
          Tb F (w3.setCell ⟨gw, ow + i, none⟩ (.int .i64 ((worthOf (clr R q) i : Nat) + 1))) b (put (clr R q) q (i, p)) n m ∧ Upd F w (w3.setCell ⟨gw, ow + i, none⟩ (.int .i64 ((worthOf (clr R q) i : Nat) + 1)))) := by
    rintro w1 ⟨gs, V, W, h1⟩ hU1
    obtain ⟨gv, ov, c, g, rfl, hc, hg, r1, r2, r3⟩ := h1.row hi hp
    obtain ⟨gw, ow, cw, rfl, hcw, _, _⟩ := h1.wor hi
    refine ⟨gv, ov, c, g, gw, ow, cw, hc, hcw, h1.pages, h1.cV, ?_, ⟨h1.fz _, h1.fz _, h1.fz _⟩, ?_⟩
    · have d0 := h1.spot hq (j := 0) (by omega)
      have d1 := h1.spot hq (j := 1) (by omega)
      have d2 := h1.spot hq (j := 2) (by omega)
      rw [hsq] at d0 d1 d2
      exact ⟨_, _, _, d0, d1, d2⟩
    · rintro w2 rfl
      have hsp : spC (spotOf (put (clr R q) q (i, p)) q) = [.int .i64 i, .int .i64 p, .bool true] := by rw [spot_put hpc hsq hof, if_pos rfl]; rfl
      obtain ⟨x2, u2⟩ := h1.toTbX.setSpot (R' := put (clr R q) q (i, p)) hq hsp (fun k hk => by rw [spot_put hpc hsq hof, if_neg hk])
      obtain ⟨gv', ov', c', g', e1, _, hg', s1, s2, s3⟩ := x2.row hi hp
      injection e1 with e1 _ _
      injection e1 with e1
      injection e1 with e1 e2
      rw [hg] at hg'
      injection hg' with hg'
      subst e1 e2 hg'
      refine ⟨x2.pages, x2.cV, s1, ⟨_, s2⟩, s3, ?_⟩
      rintro w3 rfl
      have ho1 : ownI (ownOf (put (clr R q) q (i, p)) (i, p)) = q := by rw [own_put hpc hsq hof, if_pos rfl]; rfl
      obtain ⟨x3, u3⟩ := x2.setRow (R' := put (clr R q) q (i, p)) hg hp ho1 (fun s hs => by rw [own_put hpc hsq hof, if_neg hs])
      obtain ⟨gw', ow', cw', e1, _, t1, t2⟩ := x3.wor hi
      injection e1 with e1 _ _
      injection e1 with e1
      injection e1 with e1 e2
      subst e1 e2
      have hw2 : ((worthOf (put (clr R q) q (i, p)) i : Nat) : Int) = (worthOf (clr R q) i : Nat) + 1 := by rw [worth_put, if_pos rfl]; omega
      obtain ⟨x4, u4⟩ := x3.setWorth (R' := put (clr R q) q (i, p)) hi hw2 (fun k hk => by rw [worth_put, if_neg hk, Nat.add_zero])
      exact ⟨x3.cW, t1, t2, ⟨gs, _, _, ⟨x4, hpc.put hsq hof, (h1.inn).put hq hi hp, h1.hn, h1.hm⟩⟩, ((hU1.tr u2).tr u3).tr u4⟩
  have hpostH := Lib.hid hpost
  have hw64 := worth64 hpc (h.inn.clr q) i
  have hr2 : ownI (ownOf R (i, p)) = -1 ∨ ownI (ownOf R (i, p)) = q := by
    rcases ho with e | e
    · rw [e]; exact .inl rfl
    · rw [e]; exact .inr rfl
  clear hpost hof hsq hpc ho hib hcr h
  generalize ownI (ownOf R (i, p)) = ow at *
  have tail : True := trivial
  rcases hr2 with rfl | rfl
  all_goals
    go_enter Try.func64, Try.ntmps64
    go_wp2_with fail
    refine ki.mono ?_
    rintro e w' ⟨rfl, rfl⟩
    go_wp2_with fail
    refine kc.mono ?_
    rintro e w1 ⟨rfl, hT1, hU1⟩
    obtain ⟨gv2, ov2, c2, g2, gw2, ow2, cw2, hc2, hcw2, q1, q2, ⟨x, y, z, q3, q4, q5⟩, ⟨q6, q7, q8⟩, q9⟩ := hpostH.out w1 hT1 hU1
    obtain ⟨y1, y2, y3, ⟨xx, y4⟩, y5, y6⟩ := q9 _ rfl
    obtain ⟨z1, z2, z3, z4⟩ := y6 _ rfl
    have z4H := Lib.hid z4
    clear q9 y6 z4 hT1 hU1
    go_wp2_with fail
    go_ret
    exact ⟨rfl, z4H.out⟩
set_option maxHeartbeats 4000000 in
set_option maxRecDepth 100000 in
theorem set_range (F : Nat → Prop) (b : Nat) (R : List Row3) (n m : Nat) (q i p : Int) (w : World) (h : Tb F w b R n m) (hq : ¬ (0 ≤ q ∧ q < 64) ∨ isB n m i p = false) :
    Calls Try.prog 64 #[.pointer (some ⟨b, 0, none⟩), .int .i64 q, .int .i64 i, .int .i64 p] w (SetR F b (5, R) n m w) := by
  have ki := is_w F b R n m i p w h
  by_cases h0 : 0 ≤ q
  case neg =>
    clear hq
    go_enter Try.func64, Try.ntmps64
    go_wp2_with fail
    go_ret
    exact ⟨rfl, h, Upd.refl _ _⟩
  by_cases h1 : q < 64
  case neg =>
    clear hq
    go_enter Try.func64, Try.ntmps64
    go_wp2_with fail
    go_ret
    exact ⟨rfl, h, Upd.refl _ _⟩
  have hb := hq.resolve_left (fun e => e ⟨h0, h1⟩)
  rw [hb] at ki
  clear hq hb
  go_enter Try.func64, Try.ntmps64
  go_wp2_with fail
  refine ki.mono ?_
  rintro e w' ⟨rfl, rfl⟩
  go_wp2_with fail
  go_ret
  exact ⟨rfl, h, Upd.refl _ _⟩
set_option maxHeartbeats 4000000 in
set_option maxRecDepth 100000 in
theorem set_twice (F : Nat → Prop) (b : Nat) (R : List Row3) (n m q i p k : Nat) (hq : q < 64) (hi : i < n) (hp : p < m) (w : World) (h : Tb F w b R n m) (ho : ownOf R (i, p) = some k) (hk : k ≠ q) :
    Calls Try.prog 64 #[.pointer (some ⟨b, 0, none⟩), .int .i64 q, .int .i64 i, .int .i64 p] w (SetR F b (7, R) n m w) := by
  have ki := is_w F b R n m i p w h
  have hib : isB n m i p = true := by unfold isB; simp; omega
  rw [hib] at ki
  have hT := h
  obtain ⟨gs, V, W, h⟩ := h
  obtain ⟨gv, ov, c, g, rfl, hc, hg, r1, r2, r3⟩ := h.row hi hp
  have cV := h.cV
  have cp := h.pages
  have hn := h.hn
  have hm := h.hm
  have hqI : ¬ (64 : Int) ≤ (q : Int) := by omega
  rw [ho] at r2
  have e1 : ((k : Int) != -1) = true := by rw [bne_iff_ne]; omega
  have e2 : ((k : Int) != (q : Int)) = true := by rw [bne_iff_ne]; omega
  have e3 : ((k : Int) == (q : Int)) = false := by rw [beq_eq_false_iff_ne]; omega
  simp only [ownI] at r2
  clear ho hib h hk
  go_enter Try.func64, Try.ntmps64
  go_wp2_with fail
  refine ki.mono ?_
  rintro e w' ⟨rfl, rfl⟩
  go_wp2_with fail
  go_ret
  exact ⟨rfl, hT, Upd.refl _ _⟩
theorem set (F : Nat → Prop) (b : Nat) (R : List Row3) (n m : Nat) (q i p : Int) (w : World) (h : Tb F w b R n m) :
    Calls Try.prog 64 #[.pointer (some ⟨b, 0, none⟩), .int .i64 q, .int .i64 i, .int .i64 p] w (SetR F b (setV R n m q i p) n m w) := by
  unfold setV
  by_cases hq : ¬ (0 ≤ q ∧ q < 64) ∨ isB n m i p = false
  · rw [if_pos hq]
    exact set_range F b R n m q i p w h hq
  · rw [if_neg hq]
    have hq64 : 0 ≤ q ∧ q < 64 := Classical.byContradiction fun e => hq (.inl e)
    have hib : 0 ≤ i ∧ i < n ∧ 0 ≤ p ∧ p < m := by
      have : isB n m i p = true := by cases e : isB n m i p <;> simp_all
      unfold isB at this
      simpa using this
    obtain ⟨hi0, hi1, hp0, hp1⟩ := hib
    obtain ⟨kq, rfl⟩ := Int.eq_ofNat_of_zero_le hq64.1
    obtain ⟨ki, rfl⟩ := Int.eq_ofNat_of_zero_le hi0
    obtain ⟨kp, rfl⟩ := Int.eq_ofNat_of_zero_le hp0
    simp only [Int.toNat_natCast]
    cases ho : ownOf R (ki, kp) with
    | none => exact set_ok F b R n m kq ki kp (by omega) (by omega) (by omega) w h (.inl ho)
    | some k =>
      simp only
      by_cases hk : (k : Int) = kq
      · rw [if_pos hk]
        exact set_ok F b R n m kq ki kp (by omega) (by omega) (by omega) w h (.inr (by rw [ho]; congr 1; omega))
      · rw [if_neg hk]
        exact set_twice F b R n m kq ki kp k (by omega) (by omega) (by omega) w h ho (by omega)
end Go.Proofs.Ythppheklnplljaa.Table
