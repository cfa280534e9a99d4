/-
  A place's page, and what is told of two tables. Conditions: what the tables hold.
-/
import Derived.Test.YthppheklnplljaaDeltaU
import Derived.Test.YthppheklnplljaaDeltaG
import Derived.Test.YthppheklnplljaaTableU
namespace Go.Proofs.Ythppheklnplljaa.Delta
open Go.RowKit Go.Proofs.Ythppheklnplljaa.Base Go.Proofs.Ythppheklnplljaa.Table
set_option linter.unusedVariables false
set_option linter.unusedSimpArgs false
def mvA (m : Mv) : Value := .agg #[.int .i64 m.place, .int .i64 m.block, .int .i64 m.page, .bool m.gone]
def SpotR (m : Mv) (w : World) (e : Ending) (w' : World) : Prop := e = .returned (mvA m) ∧ Upd Nil w w'
set_option maxHeartbeats 4000000 in
set_option maxRecDepth 100000 in
theorem spotC (F : Nat → Prop) (b : Nat) (R : List Row3) (n m : Nat) (q : Nat) (hq : q < 64) (w : World) (h : Tb F w b R n m) : Calls Try.prog 66 #[.pointer (some ⟨b, 0, none⟩), .int .i64 q] w (SpotR (spotV R q) w) := by
  have k := fun w (h : Tb F w b R n m) => at_in F b R n m q hq w h
  unfold AtR at k
  have hat : atV R q = match spotOf R q with | some s => ((s.1 : Int), (s.2 : Int), true) | none => (0, 0, false) := by
    unfold atV
    rw [if_pos (by omega), Int.toNat_natCast]
    cases spotOf R q <;> rfl
  rw [hat] at k
  have hb0 := blk_new w (.cells #[.int .i64 0, .int .i64 0, .int .i64 0, .bool false] 45)
  have hU0 := (Upd.refl Nil w).alloc (.cells #[.int .i64 0, .int .i64 0, .int .i64 0, .bool false] 45)
  have hT := h.upd0 hU0
  unfold SpotR spotV
  cases hs : spotOf R q with
  | none =>
    rw [hs] at k
    simp only at k ⊢
    clear hs hat
    go_enter Try.func66, Try.ntmps66
    go_wp2_with fail
    refine (k _ hT).mono ?_
    rintro e w1 ⟨rfl, hU1⟩
    have hb1 := hU1.blk hb0 (fun h => h)
    have hU := hU0.tr hU1
    clear hb0 hU0 hT hU1
    have hlen : w.heap.size ≤ w.heap.size := Nat.le_refl _
    generalize hgg : w.heap.size = g at *
    have f0 := blk_frozen hb1 0
    have f1 := blk_frozen hb1 1
    have f2 := blk_frozen hb1 2
    have f3 := blk_frozen hb1 3
    have c0 := blk_cell hb1 0
    have c1 := blk_cell hb1 1
    have c2 := blk_cell hb1 2
    have c3 := blk_cell hb1 3
    go_wp2_with fail
    have hz := blk_put (blk_put (blk_put (blk_put hb1 0 (.int .i64 q) rfl) 1 (.int .i64 0) rfl) 2 (.int .i64 0) rfl) 3 (.bool true) rfl
    have z0 : World.cell? _ ⟨g, 0, none⟩ = some (.int .i64 q) := blk_cell hz 0
    have z1 : World.cell? _ ⟨g, 1, none⟩ = some (.int .i64 0) := blk_cell hz 1
    have z2 : World.cell? _ ⟨g, 2, none⟩ = some (.int .i64 0) := blk_cell hz 2
    have z3 : World.cell? _ ⟨g, 3, none⟩ = some (.bool true) := blk_cell hz 3
    exact bodyPost_ret (v := .agg #[.int .i64 q, .int .i64 0, .int .i64 0, .bool true]) (by simp [results, Try.results66, go_sem, z0, z1, z2, z3]) rfl ⟨rfl, (((hU.setNew (by omega) _).setNew (by omega) _).setNew (by omega) _).setNew (by omega) _⟩
  | some s =>
    obtain ⟨x, y⟩ := s
    rw [hs] at k
    simp only at k ⊢
    clear hs hat
    go_enter Try.func66, Try.ntmps66
    go_wp2_with fail
    refine (k _ hT).mono ?_
    rintro e w1 ⟨rfl, hU1⟩
    have hb1 := hU1.blk hb0 (fun h => h)
    have hU := hU0.tr hU1
    clear hb0 hU0 hT hU1
    have hlen : w.heap.size ≤ w.heap.size := Nat.le_refl _
    generalize hgg : w.heap.size = g at *
    have f0 := blk_frozen hb1 0
    have f1 := blk_frozen hb1 1
    have f2 := blk_frozen hb1 2
    have f3 := blk_frozen hb1 3
    have c0 := blk_cell hb1 0
    have c1 := blk_cell hb1 1
    have c2 := blk_cell hb1 2
    have c3 := blk_cell hb1 3
    go_wp2_with fail
    have hz := blk_put (blk_put (blk_put (blk_put hb1 0 (.int .i64 q) rfl) 1 (.int .i64 x) rfl) 2 (.int .i64 y) rfl) 3 (.bool false) rfl
    have z0 : World.cell? _ ⟨g, 0, none⟩ = some (.int .i64 q) := blk_cell hz 0
    have z1 : World.cell? _ ⟨g, 1, none⟩ = some (.int .i64 x) := blk_cell hz 1
    have z2 : World.cell? _ ⟨g, 2, none⟩ = some (.int .i64 y) := blk_cell hz 2
    have z3 : World.cell? _ ⟨g, 3, none⟩ = some (.bool false) := blk_cell hz 3
    exact bodyPost_ret (v := .agg #[.int .i64 q, .int .i64 x, .int .i64 y, .bool false]) (by simp [results, Try.results66, go_sem, z0, z1, z2, z3]) rfl ⟨rfl, (((hU.setNew (by omega) _).setNew (by omega) _).setNew (by omega) _).setNew (by omega) _⟩
theorem spot_cmp (A B : List Row3) (i : Nat) : (spotOf A i = spotOf B i ∧ ∃ x y g, spotV A i = ⟨i, x, y, g⟩ ∧ spotV B i = ⟨i, x, y, g⟩) ∨
    (spotOf A i ≠ spotOf B i ∧ ∃ x y g x' y' g', spotV A i = ⟨i, x, y, g⟩ ∧ spotV B i = ⟨i, x', y', g'⟩ ∧ (x ≠ x' ∨ (x = x' ∧ y ≠ y') ∨ (x = x' ∧ y = y' ∧ (g == g') = false))) := by
  unfold spotV
  cases spotOf A i with
  | none =>
    cases spotOf B i with
    | none => exact .inl ⟨rfl, _, _, _, rfl, rfl⟩
    | some t =>
      refine .inr ⟨by simp, _, _, _, _, _, _, rfl, rfl, ?_⟩
      simp
      omega
  | some s =>
    cases spotOf B i with
    | none =>
      refine .inr ⟨by simp, _, _, _, _, _, _, rfl, rfl, ?_⟩
      simp
      omega
    | some t =>
      by_cases h : s = t
      · exact .inl ⟨by rw [h], _, _, _, rfl, by rw [h]⟩
      · refine .inr ⟨by simpa using h, _, _, _, _, _, _, rfl, rfl, ?_⟩
        obtain ⟨s1, s2⟩ := s
        obtain ⟨t1, t2⟩ := t
        simp at h ⊢
        omega
theorem upd_own {w wa : World} {t t2 : Nat} {cs cs2 : Array Value} (h : Upd Nil w wa) : Upd Nil w ((wa.alloc (.cells cs t)).alloc (.cells cs2 t2)) := (h.alloc _).alloc _
set_option maxHeartbeats 4000000 in
set_option maxRecDepth 100000 in
theorem tellC (F G : Nat → Prop) (b c : Nat) (A B : List Row3) (n m : Nat) (w : World) (hA : Tb F w b A n m) (hB : Tb G w c B n m) :
    Calls Try.prog 40 #[.pointer (some ⟨b, 0, none⟩), .pointer (some ⟨c, 0, none⟩)] w (fun e w' => ∃ v, e = .returned v ∧ Sl w' w.heap.size 45 4 mvC v (movN A B 64) ∧ Upd Nil w w') := by
  go_enter Try.func40, Try.ntmps40
  go_wp2_with fail
  go_loopw [5, 9] (fun s5 s9 wr => ∃ (i : Nat) (V : Value), i ≤ 64 ∧ s9 = .int .i64 (i : Int) ∧ s5 = V ∧ Sl wr w.heap.size 45 4 mvC V (movN A B i) ∧ Upd Nil w wr) (fun _ s9 _ => 64 - (intOf s9).toNat)
  case atStart => exact ⟨0, _, by omega, rfl, rfl, Sl.nil _ _ _ _ _, Upd.refl _ _⟩
  case round =>
    obtain ⟨i, V, hi, rfl, rfl, hV, hU⟩ := hrel
    by_cases hlt : i < 64
    · have hI : (i : Int) < 64 := by omega
      have hml := mov_len A B i
      have hms : movN A B (i + 1) = movN A B i ++ if spotOf A i = spotOf B i then [] else [spotV B i] := rfl
      have hmsH := Lib.hid hms
      clear hms
      go_wp2_with fail
      refine (spotC F b A n m i hlt _ (hA.upd0 hU)).mono ?_
      rintro e w1 ⟨rfl, hU1⟩
      have hU01 := hU.tr hU1
      have hV1 := hV.upd0 hU1
      unfold mvA
      go_wp2_with fail
      refine (spotC G c B n m i hlt _ (hB.upd0 hU01)).mono ?_
      rintro e w2 ⟨rfl, hU2⟩
      have hU02 := hU01.tr hU2
      have hV2 := hV1.upd0 hU2
      clear hV hV1 hU hU1 hU01 hU2
      unfold mvA
      generalize movN A B i = M at *
      obtain ⟨EA, cA, rfl, hcA⟩ := hV2.form
      have hcmp := spot_cmp A B i
      generalize exx : spotV A i = xx at *
      generalize eyy : spotV B i = yy at *
      clear hA hB
      rcases hcmp with ⟨he, x, y, g, ex, ey⟩ | ⟨hne, x, y, g, x', y', g', ex, ey, hor⟩
      · subst ex ey
        clear exx eyy
        simp only
        have ua := (Upd.refl Nil w2).alloc (.cells #[.int .i64 i, .int .i64 x, .int .i64 y, .bool g] 45)
        have ub := ua.alloc (.cells #[.int .i64 i, .int .i64 x, .int .i64 y, .bool g] 45)
        go_wp2_with fail
        go_roundw
        case measure => simp [intOf]; omega
        case rel => exact ⟨i + 1, _, by omega, by go_num, rfl, by rw [hmsH.out, if_pos he, List.append_nil]; exact hV2.upd0 ub, hU02.tr ub⟩
      · subst ex ey
        clear exx eyy
        simp only
        rcases hor with h1 | ⟨rfl, h1⟩ | ⟨rfl, rfl, h1⟩
        · skip
          have ua := (Upd.refl Nil w2).alloc (.cells #[.int .i64 i, .int .i64 x, .int .i64 y, .bool g] 45)
          have ub := ua.alloc (.cells #[.int .i64 i, .int .i64 x', .int .i64 y', .bool g'] 45)
          have hVb := hV2.upd0 ub
          have hUb := hU02.tr ub
          have hsb := hUb.size
          have hbnd : (M.length + 1) * 32 ≤ 140737488355328 ∧ M.length + 1 ≤ maxLen := by unfold maxLen; omega
          have hbndH := Lib.hid hbnd
          clear hbnd
          go_wp2_with (at_builtin; refine wp_app1 w.heap.size rfl (.tmp 21) (.tmp 23) elemM rfl _ (⟨i, x', y', g'⟩ : Mv) (by rfl) _ M rfl (by simp [Act.eval]) hVb hsb hbndH.out.1 hbndH.out.2 ?_; intro A1 c1 w4 hv1 hg1 hat)
          go_roundw
          case measure => simp [intOf]; omega
          case rel => exact ⟨i + 1, _, by omega, by go_num, rfl, by rw [hmsH.out, if_neg hne]; exact hv1, hUb.grownOwn hVb (Nat.le_refl _) hg1⟩
        · skip
          have ua := (Upd.refl Nil w2).alloc (.cells #[.int .i64 i, .int .i64 x, .int .i64 y, .bool g] 45)
          have ub := ua.alloc (.cells #[.int .i64 i, .int .i64 x, .int .i64 y', .bool g'] 45)
          have hVb := hV2.upd0 ub
          have hUb := hU02.tr ub
          have hsb := hUb.size
          have hbnd : (M.length + 1) * 32 ≤ 140737488355328 ∧ M.length + 1 ≤ maxLen := by unfold maxLen; omega
          have hbndH := Lib.hid hbnd
          clear hbnd
          go_wp2_with (at_builtin; refine wp_app1 w.heap.size rfl (.tmp 21) (.tmp 23) elemM rfl _ (⟨i, x, y', g'⟩ : Mv) (by rfl) _ M rfl (by simp [Act.eval]) hVb hsb hbndH.out.1 hbndH.out.2 ?_; intro A1 c1 w4 hv1 hg1 hat)
          go_roundw
          case measure => simp [intOf]; omega
          case rel => exact ⟨i + 1, _, by omega, by go_num, rfl, by rw [hmsH.out, if_neg hne]; exact hv1, hUb.grownOwn hVb (Nat.le_refl _) hg1⟩
        · skip
          have ua := (Upd.refl Nil w2).alloc (.cells #[.int .i64 i, .int .i64 x, .int .i64 y, .bool g] 45)
          have ub := ua.alloc (.cells #[.int .i64 i, .int .i64 x, .int .i64 y, .bool g'] 45)
          have hVb := hV2.upd0 ub
          have hUb := hU02.tr ub
          have hsb := hUb.size
          have hbnd : (M.length + 1) * 32 ≤ 140737488355328 ∧ M.length + 1 ≤ maxLen := by unfold maxLen; omega
          have hbndH := Lib.hid hbnd
          clear hbnd
          go_wp2_with (at_builtin; refine wp_app1 w.heap.size rfl (.tmp 21) (.tmp 23) elemM rfl _ (⟨i, x, y, g'⟩ : Mv) (by rfl) _ M rfl (by simp [Act.eval]) hVb hsb hbndH.out.1 hbndH.out.2 ?_; intro A1 c1 w4 hv1 hg1 hat)
          go_roundw
          case measure => simp [intOf]; omega
          case rel => exact ⟨i + 1, _, by omega, by go_num, rfl, by rw [hmsH.out, if_neg hne]; exact hv1, hUb.grownOwn hVb (Nat.le_refl _) hg1⟩
    · obtain rfl : i = 64 := by omega
      go_wp2_with fail
      go_ret
      exact ⟨_, rfl, hV, hU⟩
end Go.Proofs.Ythppheklnplljaa.Delta
