/-
  Draws: the walks of the laws' fixed and DrawsTell. Conditions: what the slices hold.
-/
import Derived.Test.YtbadgmfhlaedoaaDrawD
namespace Go.Proofs.Ytbadgmfhlaedoaa.Draw
open Go.RowKit Go.Proofs.Ytbadgmfhlaedoaa.Base Go.Proofs.Ytbadgmfhlaedoaa.Ints
set_option linter.unusedVariables false
set_option linter.unusedSimpArgs false
/-- One tenant's list alone. -/
def fa1 (n : Int) : Nat → List Int := up (fun _ => []) 0 [n]
def A1 (b : Nat) : Nat → Option Addr := up (fun _ => none) 0 (some ⟨b, 0, none⟩)
def c1 : Nat → Nat := up (fun _ => 0) 0 1
theorem args1 (w : World) (b : Nat) (n : Int) (h : w.heap[b]? = some (.cells #[.int .i64 n] 3 (0, 0))) : Args w (A1 b) c1 (fa1 n) := by
  refine ⟨fun i hi => ?_, fun i hi => ?_⟩
  · by_cases e : i = 0
    · subst e
      exact arg_lit (f := ic) ic_len h rfl
    · exact .inl (by unfold fa1 up; rw [if_neg e])
  · unfold fa1 up; split <;> simp
theorem agg1 (b : Nat) (n : Int) : aggV (A1 b) c1 (fa1 n) = .agg #[.slice (some ⟨b, 0, none⟩) 1 1, .slice none 0 0, .slice none 0 0, .slice none 0 0] := by
  simp [aggV, slv, A1, c1, fa1, up]
theorem fa1_long (n : Int) : ¬ Long (fa1 n) := by
  rintro ⟨i, hi, h⟩
  unfold fa1 up at h
  split at h <;> simp at h
theorem fa1_low (n : Int) : Low (fa1 n) ↔ n < 1 := by
  constructor
  · rintro ⟨i, hi, x, hx, h⟩
    unfold fa1 up at hx
    split at hx
    · obtain rfl : x = n := by simpa using hx
      exact h
    · simp at hx
  · intro h
    exact ⟨0, by omega, n, by simp [fa1, up], h⟩
def NewOk (fa : Nat → List Int) (w : World) (e : Ending) (w' : World) : Prop := Upd Nil w w' ∧ ∃ b v, e = .returned (.tuple #[.pointer (some ⟨b, 0, none⟩), .int .i64 0]) ∧ w.heap.size ≤ b ∧ DrM w.heap.size w' b v fa zeros zeros
theorem new_ok {A : Nat → Option Addr} {c : Nat → Nat} {fa : Nat → List Int} {w : World} (h : Args w A c fa) (h1 : ¬ Long fa) (h2 : ¬ Low fa) : Calls Try.prog 6 #[aggV A c fa] w (NewOk fa w) :=
  (new A c fa w h).mono fun e w' ⟨u, k⟩ => by
    rcases k with ⟨k, _⟩ | ⟨_, k, _⟩ | ⟨_, _, k⟩
    · exact absurd k h1
    · exact absurd k h2
    · exact ⟨u, k⟩
def NewNo (n : Int) (w : World) (e : Ending) (w' : World) : Prop := Upd Nil w w' ∧ e = .returned (.tuple #[.pointer none, .int .i64 n])
theorem new_no {A : Nat → Option Addr} {c : Nat → Nat} {fa : Nat → List Int} {w : World} {n : Int} (h : Args w A c fa) (hn : codeOf fa n) (h0 : n ≠ 0) : Calls Try.prog 6 #[aggV A c fa] w (NewNo n w) :=
  (new A c fa w h).mono fun e w' ⟨u, k⟩ => by
    rcases hn with ⟨q, rfl⟩ | ⟨q, q2, rfl⟩ | ⟨_, _, rfl⟩
    · rcases k with ⟨_, k⟩ | ⟨k, _⟩ | ⟨k, _⟩
      · exact ⟨u, k⟩
      · exact absurd q k
      · exact absurd q k
    · rcases k with ⟨k, _⟩ | ⟨_, _, k⟩ | ⟨_, k, _⟩
      · exact absurd k q
      · exact ⟨u, k⟩
      · exact absurd q2 k
    · exact absurd rfl h0
set_option maxHeartbeats 4000000 in
set_option maxRecDepth 100000 in
theorem fixed (w : World) : Calls Try.prog 5 #[] w (RetB true w) := by
  have k1 : ∀ w : World, Calls Try.prog 6 #[.agg #[.slice (some ⟨w.heap.size, 0, none⟩) 1 1, .slice none 0 0, .slice none 0 0, .slice none 0 0]] (w.alloc (.cells #[.int .i64 2] 3)) (NewOk (fa1 2) (w.alloc (.cells #[.int .i64 2] 3))) :=
    fun w => agg1 w.heap.size 2 ▸ new_ok (args1 _ _ _ (blk_new _ _)) (fa1_long 2) (fun h => absurd ((fa1_low 2).1 h) (by omega))
  have k2 : ∀ w : World, Calls Try.prog 6 #[.agg #[.slice (some ⟨w.heap.size, 0, none⟩) 1 1, .slice none 0 0, .slice none 0 0, .slice none 0 0]] (w.alloc (.cells #[.int .i64 0] 3)) (NewNo 5 (w.alloc (.cells #[.int .i64 0] 3))) :=
    fun w => agg1 w.heap.size 0 ▸ new_no (args1 _ _ _ (blk_new _ _)) (.inr (.inl ⟨fa1_long 0, (fa1_low 0).2 (by omega), rfl⟩)) (by omega)
  go_enter Try.func5, Try.ntmps5
  go_wp2_with fail
  refine (k1 _).mono ?_
  rintro e w1 ⟨hU1, b, v, rfl, hb, hD⟩
  have hV1 := ((Upd.refl Nil w).alloc _).tr hU1
  go_wp2_with fail
  refine (next _ b v _ _ _ 0 (by omega) w1 hD ⟨by decide, by decide⟩ ⟨by decide, by decide⟩).mono ?_
  rintro e w2 ⟨rfl, hD2, hU2⟩
  have hn2 : (zeros 0 + 1 ∈ fa1 2 0) = False := by simp [zeros, fa1, up]
  rw [if_neg (by rw [hn2]; exact id)] at hD2
  simp only [hn2, decide_false]
  go_wp2_with fail
  refine (next _ b v _ _ _ 0 (by omega) w2 hD2 ⟨by decide, by decide⟩ ⟨by decide, by decide⟩).mono ?_
  rintro e w3 ⟨rfl, hD3, hU3⟩
  have hn3 : (up zeros 0 (zeros 0 + 1) 0 + 1 ∈ fa1 2 0) = True := by simp [zeros, fa1, up]
  rw [if_pos (by rw [hn3]; trivial)] at hD3
  simp only [hn3, decide_true]
  go_wp2_with fail
  refine (next_no b 4 (.inr (by omega)) w3).mono ?_
  rintro e w4 ⟨rfl, hU4⟩
  have hD4 := hD3.upd hU4
  have hb1 : w.heap.size ≤ b := by simp at hb; omega
  have hV4 := ((hV1.newOnly hU2 hb1).newOnly hU3 hb1).tr hU4
  go_wp2_with fail
  refine (k2 _).mono ?_
  rintro e w5 ⟨hU5, rfl⟩
  have hD5 := (hD4.upd ((Upd.refl Nil w4).alloc _)).upd hU5
  have hV5 := (hV4.alloc _).tr hU5
  have ko := opsOf _ b v _ _ _ 0 (by omega) w5 hD5
  have kb := badOf _ b v _ _ _ 0 (by omega) w5 hD5
  have e1 : up (up zeros 0 (zeros 0 + 1)) 0 (up zeros 0 (zeros 0 + 1) 0 + 1) 0 = 2 := by decide
  have e2 : up zeros 0 (zeros 0 + 1) 0 = 1 := by decide
  rw [e1] at ko
  rw [e2] at kb
  clear hD hD2 hD3 hD4 hD5
  go_wp2_with fail
  refine ko.mono ?_
  rintro e w6 ⟨rfl, rfl⟩
  go_wp2_with fail
  refine kb.mono ?_
  rintro e w6 ⟨rfl, rfl⟩
  go_wp2_with fail
  go_ret
  exact ⟨rfl, hV5⟩
theorem code_one {fa : Nat → List Int} {n m : Int} (h : codeOf fa n) (k : codeOf fa m) : m = n := by
  rcases h with ⟨q, rfl⟩ | ⟨q, q2, rfl⟩ | ⟨q, q2, rfl⟩ <;> rcases k with ⟨r, rfl⟩ | ⟨r, r2, rfl⟩ | ⟨r, r2, rfl⟩ <;> first | rfl | exact absurd q r | exact absurd r q | exact absurd q2 r2 | exact absurd r2 q2
theorem check_n {A : Nat → Option Addr} {c : Nat → Nat} {fa : Nat → List Int} {w : World} {n : Int} (h : Args w A c fa) (hn : codeOf fa n) : Calls Try.prog 7 #[aggV A c fa] w fun e w' => e = .returned (.int .i64 n) ∧ Upd Nil w w' :=
  (check A c fa w h).mono fun e w' ⟨u, m, he, hm⟩ => ⟨by rw [he, code_one hn hm], u⟩
theorem code_of (fa : Nat → List Int) : ∃ n, codeOf fa n := by
  by_cases h1 : Long fa
  · exact ⟨4, .inl ⟨h1, rfl⟩⟩
  · by_cases h2 : Low fa
    · exact ⟨5, .inr (.inl ⟨h1, h2, rfl⟩)⟩
    · exact ⟨0, .inr (.inr ⟨h1, h2, rfl⟩)⟩
theorem code_zero {fa : Nat → List Int} (h : codeOf fa 0) : ¬ Long fa ∧ ¬ Low fa := by
  rcases h with ⟨_, h⟩ | ⟨_, _, h⟩ | ⟨h1, h2, _⟩
  · cases h
  · cases h
  · exact ⟨h1, h2⟩
def Bd (i : Nat) (op bad : Nat → Int) : Prop := ∀ k, (0 ≤ op k ∧ op k ≤ i) ∧ (0 ≤ bad k ∧ bad k ≤ i)
theorem Bd.next {i : Nat} {op bad bad' : Nat → Int} (h : Bd i op bad) (k : Nat) (hb : bad' = bad ∨ bad' = up bad k (bad k + 1)) : Bd (i + 1) (up op k (op k + 1)) bad' := by
  intro j
  have hj := h j
  have hk := h k
  refine ⟨?_, ?_⟩
  · unfold up; split <;> omega
  · rcases hb with rfl | rfl
    · omega
    · unfold up; split <;> omega
theorem Bd.more {i : Nat} {op bad : Nat → Int} (h : Bd i op bad) : Bd (i + 1) op bad := fun k => by have := h k; omega
theorem ite_or {α : Type} (p : Prop) [Decidable p] (a b : α) : (if p then a else b) = b ∨ (if p then a else b) = a := by split <;> simp
set_option maxHeartbeats 16000000 in
set_option maxRecDepth 100000 in
theorem tells (A : Nat → Option Addr) (c : Nat → Nat) (fa : Nat → List Int) (AW : Option Addr) (cW : Nat) (who : List Int) (w : World) (h : Args w A c fa) (hW : Arg w AW 1 ic who) (hl : who.length ≤ maxLen) :
    Calls Try.prog 3 #[aggV A c fa, .slice AW who.length cW] w (RetB true w) := by
  unfold maxLen at hl
  obtain ⟨n, hn⟩ := code_of fa
  have kN := fun w' (u : Upd Nil w w') (h0 : n ≠ 0) => new_no (h.upd u) hn h0
  have kY := fun w' (u : Upd Nil w w') (h0 : n = 0) => new_ok (h.upd u) (code_zero (h0 ▸ hn)).1 (code_zero (h0 ▸ hn)).2
  have kC := fun w' (u : Upd Nil w w') => check_n (h.upd u) hn
  have hfar : ∀ i, i < 4 → ∀ g o, A i = some ⟨g, o, none⟩ → fa i ≠ [] → g < w.heap.size := fun i hi g o e hz => by
    rcases h.arg i hi with e2 | ⟨g2, o2, e2, h2, _⟩
    · exact absurd e2 hz
    · rw [e] at e2; injection e2 with e2; injection e2 with e2; subst e2; exact h2
  have hargs := Lib.hid h
  unfold aggV at *
  have hsl : ∀ i, slv A c fa i = .slice (A i) (fa i).length (c i) := fun _ => rfl
  rw [hsl 0, hsl 1, hsl 2, hsl 3] at *
  clear hsl
  have ix0 : ∀ w, (Instr.index 23 (.agg #[.slice (A 0) (fa 0).length (c 0), .slice (A 1) (fa 1).length (c 1), .slice (A 2) (fa 2).length (c 2), .slice (A 3) (fa 3).length (c 3)]) (.int .i64 0)).run Try.prog w = .ok (.slice (A 0) (fa 0).length (c 0)) w := fun _ => by kernel_rfl
  have ix1 : ∀ w, (Instr.index 23 (.agg #[.slice (A 0) (fa 0).length (c 0), .slice (A 1) (fa 1).length (c 1), .slice (A 2) (fa 2).length (c 2), .slice (A 3) (fa 3).length (c 3)]) (.int .i64 1)).run Try.prog w = .ok (.slice (A 1) (fa 1).length (c 1)) w := fun _ => by kernel_rfl
  have ix2 : ∀ w, (Instr.index 23 (.agg #[.slice (A 0) (fa 0).length (c 0), .slice (A 1) (fa 1).length (c 1), .slice (A 2) (fa 2).length (c 2), .slice (A 3) (fa 3).length (c 3)]) (.int .i64 2)).run Try.prog w = .ok (.slice (A 2) (fa 2).length (c 2)) w := fun _ => by kernel_rfl
  have ix3 : ∀ w, (Instr.index 23 (.agg #[.slice (A 0) (fa 0).length (c 0), .slice (A 1) (fa 1).length (c 1), .slice (A 2) (fa 2).length (c 2), .slice (A 3) (fa 3).length (c 3)]) (.int .i64 3)).run Try.prog w = .ok (.slice (A 3) (fa 3).length (c 3)) w := fun _ => by kernel_rfl
  by_cases h3 : 300 < who.length
  · have h3I : (300 : Int) < who.length := by omega
    go_enter Try.func3, Try.ntmps3
    go_wp2_with fail
    refine (fixed _).mono ?_
    rintro e w1 ⟨rfl, hU1⟩
    go_wp2_with fail
    go_ret
    exact ⟨rfl, ((Upd.refl _ _).alloc _).tr hU1⟩
  · have h3I : ¬ (300 : Int) < who.length := by omega
    go_enter Try.func3, Try.ntmps3
    go_wp2_with fail
    refine (fixed _).mono ?_
    rintro e w1 ⟨rfl, hU1⟩
    have hbx := hU1.block w.heap.size (by simp) (fun h => h)
    rw [blk_new] at hbx
    have hV1 := ((Upd.refl Nil w).alloc _).tr hU1
    have hbxc0 : (w1).cell? ⟨w.heap.size, 0, none⟩ = some (.slice (A 0) (fa 0).length (c 0)) := Base.blk_cell hbx 0
    have hbxz0 : (w1).frozen? ⟨w.heap.size, 0, none⟩ = false := Base.blk_frozen hbx 0
    have hbxc1 : (w1).cell? ⟨w.heap.size, 1, none⟩ = some (.slice (A 1) (fa 1).length (c 1)) := Base.blk_cell hbx 1
    have hbxz1 : (w1).frozen? ⟨w.heap.size, 1, none⟩ = false := Base.blk_frozen hbx 1
    have hbxc2 : (w1).cell? ⟨w.heap.size, 2, none⟩ = some (.slice (A 2) (fa 2).length (c 2)) := Base.blk_cell hbx 2
    have hbxz2 : (w1).frozen? ⟨w.heap.size, 2, none⟩ = false := Base.blk_frozen hbx 2
    have hbxc3 : (w1).cell? ⟨w.heap.size, 3, none⟩ = some (.slice (A 3) (fa 3).length (c 3)) := Base.blk_cell hbx 3
    have hbxz3 : (w1).frozen? ⟨w.heap.size, 3, none⟩ = false := Base.blk_frozen hbx 3
    go_wp2_with fail
    go_loop [6, 20] (fun s6 s20 => ∃ i : Nat, i ≤ 4 ∧ s20 = .int .i64 i) (fun _ s20 => 4 - (intOf s20).toNat)
    case atStart => exact ⟨0, by omega, rfl⟩
    case round =>
      obtain ⟨i, hi, rfl⟩ := hrel
      by_cases h4 : i < 4
      · have hi4 : i = 0 ∨ i = 1 ∨ i = 2 ∨ i = 3 := by omega
        rcases hi4 with rfl | rfl | rfl | rfl
        · skip
          by_cases hl : 100 < (fa 0).length
          · have hlI : (100 : Int) < ((fa 0).length : Int) := by omega
            go_wp2_with fail
            go_ret
            exact ⟨rfl, hV1⟩
          · have hlI : ¬ (100 : Int) < ((fa 0).length : Int) := by omega
            clear hl
            go_wp2_with fail
            go_round
            case measure => simp [intOf]
            case rel => exact ⟨0 + 1, by omega, rfl⟩
        · skip
          by_cases hl : 100 < (fa 1).length
          · have hlI : (100 : Int) < ((fa 1).length : Int) := by omega
            go_wp2_with fail
            go_ret
            exact ⟨rfl, hV1⟩
          · have hlI : ¬ (100 : Int) < ((fa 1).length : Int) := by omega
            clear hl
            go_wp2_with fail
            go_round
            case measure => simp [intOf]
            case rel => exact ⟨1 + 1, by omega, rfl⟩
        · skip
          by_cases hl : 100 < (fa 2).length
          · have hlI : (100 : Int) < ((fa 2).length : Int) := by omega
            go_wp2_with fail
            go_ret
            exact ⟨rfl, hV1⟩
          · have hlI : ¬ (100 : Int) < ((fa 2).length : Int) := by omega
            clear hl
            go_wp2_with fail
            go_round
            case measure => simp [intOf]
            case rel => exact ⟨2 + 1, by omega, rfl⟩
        · skip
          by_cases hl : 100 < (fa 3).length
          · have hlI : (100 : Int) < ((fa 3).length : Int) := by omega
            go_wp2_with fail
            go_ret
            exact ⟨rfl, hV1⟩
          · have hlI : ¬ (100 : Int) < ((fa 3).length : Int) := by omega
            clear hl
            go_wp2_with fail
            go_round
            case measure => simp [intOf]
            case rel => exact ⟨3 + 1, by omega, rfl⟩
      · obtain rfl : i = 4 := by omega
        by_cases h0 : n = 0
        · subst h0
          go_wp2_with fail
          refine (kY _ hV1 (by trivial)).mono ?_
          rintro e w2 ⟨hU2, b, v, rfl, hb, hD2⟩
          have hb2 := hU2.blk hbx (fun h => h)
          have hV2 := hV1.tr hU2
          clear hbxc0 hbxc1 hbxc2 hbxc3 hbxz0 hbxz1 hbxz2 hbxz3
          have hb2c0 : (w2).cell? ⟨w.heap.size, 0, none⟩ = some (.slice (A 0) (fa 0).length (c 0)) := Base.blk_cell hb2 0
          have hb2z0 : (w2).frozen? ⟨w.heap.size, 0, none⟩ = false := Base.blk_frozen hb2 0
          have hb2c1 : (w2).cell? ⟨w.heap.size, 1, none⟩ = some (.slice (A 1) (fa 1).length (c 1)) := Base.blk_cell hb2 1
          have hb2z1 : (w2).frozen? ⟨w.heap.size, 1, none⟩ = false := Base.blk_frozen hb2 1
          have hb2c2 : (w2).cell? ⟨w.heap.size, 2, none⟩ = some (.slice (A 2) (fa 2).length (c 2)) := Base.blk_cell hb2 2
          have hb2z2 : (w2).frozen? ⟨w.heap.size, 2, none⟩ = false := Base.blk_frozen hb2 2
          have hb2c3 : (w2).cell? ⟨w.heap.size, 3, none⟩ = some (.slice (A 3) (fa 3).length (c 3)) := Base.blk_cell hb2 3
          have hb2z3 : (w2).frozen? ⟨w.heap.size, 3, none⟩ = false := Base.blk_frozen hb2 3
          go_wp2_with fail
          refine (kC _ hV2).mono ?_
          rintro e w3 ⟨rfl, hU3⟩
          have hb3 := hU3.blk hb2 (fun h => h)
          have hV3 := hV2.tr hU3
          have hD3 := (hD2.upd hU3).upd ((Upd.refl Nil w3).alloc (.cells (rC A c fa zeros zeros) 35))
          have hbw : w.heap.size ≤ b := Nat.le_trans hV1.size hb
          have hblt : b < w3.heap.size := blk_lt ((hD2.upd hU3).blk)
          have hR3 : RM w.heap.size (w3.alloc (.cells (rC A c fa zeros zeros) 35)) w3.heap.size A c fa zeros zeros := ⟨blk_new _ _, hargs.out.upd (hV3.alloc _), hfar, hV3.size⟩
          have hV4 := hV3.alloc (.cells (rC A c fa zeros zeros) 35)
          clear hb2c0 hb2c1 hb2c2 hb2c3 hb2z0 hb2z1 hb2z2 hb2z3
          have hb3c0 : (w3).cell? ⟨w.heap.size, 0, none⟩ = some (.slice (A 0) (fa 0).length (c 0)) := Base.blk_cell hb3 0
          have hb3z0 : (w3).frozen? ⟨w.heap.size, 0, none⟩ = false := Base.blk_frozen hb3 0
          have hb3c1 : (w3).cell? ⟨w.heap.size, 1, none⟩ = some (.slice (A 1) (fa 1).length (c 1)) := Base.blk_cell hb3 1
          have hb3z1 : (w3).frozen? ⟨w.heap.size, 1, none⟩ = false := Base.blk_frozen hb3 1
          have hb3c2 : (w3).cell? ⟨w.heap.size, 2, none⟩ = some (.slice (A 2) (fa 2).length (c 2)) := Base.blk_cell hb3 2
          have hb3z2 : (w3).frozen? ⟨w.heap.size, 2, none⟩ = false := Base.blk_frozen hb3 2
          have hb3c3 : (w3).cell? ⟨w.heap.size, 3, none⟩ = some (.slice (A 3) (fa 3).length (c 3)) := Base.blk_cell hb3 3
          have hb3z3 : (w3).frozen? ⟨w.heap.size, 3, none⟩ = false := Base.blk_frozen hb3 3
          clear kN kY kC hbx hb2 hU1 hU2 hU3 hV1 hV2 hV3 hn ix0 ix1 ix2 ix3 hD2
          go_wp2_with fail
          generalize hbR : w3.heap.size = bR at *
          go_loopw [12, 61] (fun s12 s61 wr => ∃ (i : Nat) (op bad : Nat → Int), i ≤ who.length ∧ s61 = .int .i64 i ∧ DrM w1.heap.size wr b v fa op bad ∧ RM w.heap.size wr bR A c fa op bad ∧ Bd i op bad ∧ Upd Nil w wr) (fun _ s61 _ => who.length - (intOf s61).toNat)
          case atStart => exact ⟨0, zeros, zeros, by omega, rfl, hD3, hR3, fun k => by simp [zeros], hV4⟩
          case round =>
            obtain ⟨i, op, bad, hi, rfl, hD, hR, hbd, hV⟩ := hrel
            by_cases hlt : i < who.length
            · obtain ⟨g, o, rfl, _, hc⟩ := ic_cell (hW.upd hV) hlt
              have hne : b ≠ bR := by omega
              have hbRw : w.heap.size ≤ bR := hR.hb
              by_cases hin : 0 ≤ who[i] ∧ who[i] < 4
              · obtain ⟨k, hk⟩ := Int.eq_ofNat_of_zero_le hin.1
                have hk4 : k < 4 := by omega
                have hb1 := hbd k
                have k1 := next _ b v fa op bad k hk4 wr hD (by omega) (by omega)
                rw [hk] at hc
                clear hin hk
                go_wp2_with fail
                refine k1.mono ?_
                rintro e w4 ⟨rfl, hD4, hU4⟩
                have hR4 := hR.far' hbw (Ne.symm hne) hU4
                have k2 := rnext _ bR A c fa op bad k hk4 w4 hR4 (by omega) (by omega)
                go_wp2_with fail
                refine k2.mono ?_
                rintro e w5 ⟨rfl, hR5, hU5⟩
                have hD5 := hD4.far hU5 hR4.blk (by decide) hne
                have hbd2 := hbd.next k (ite_or (op k + 1 ∈ fa k) (up bad k (bad k + 1)) bad)
                have hV5 := (hV.newOnly hU4 hbw).newOnly hU5 hbRw
                clear hD hR hD4 hR4 k1 k2 hb1 hbd hU4 hU5 hD3 hR3 hV4 hV
                generalize (if op k + 1 ∈ fa k then up bad k (bad k + 1) else bad) = bad2 at *
                generalize up op k (op k + 1) = op2 at *
                generalize decide (op k + 1 ∈ fa k) = d at *
                cases d
                all_goals
                  go_wp2_with fail
                  go_roundw
                  case measure => simp [intOf]; omega
                  case rel => exact ⟨i + 1, op2, bad2, by omega, by go_num, hD5, hR5, hbd2, hV5⟩
              · have hout : who[i] < 0 ∨ 4 ≤ who[i] := by omega
                have k1 := next_no b who[i] hout wr
                clear hin
                go_wp2_with fail
                refine k1.mono ?_
                rintro e w4 ⟨rfl, hU4⟩
                have k2 := rnext_no bR who[i] hout w4
                go_wp2_with fail
                refine k2.mono ?_
                rintro e w5 ⟨rfl, hU5⟩
                have hD5 := (hD.upd hU4).upd hU5
                have hR5 := (hR.upd hU4).upd hU5
                have hV5 := (hV.tr hU4).tr hU5
                have hbd2 := hbd.more
                go_wp2_with fail
                go_roundw
                case measure => simp [intOf]; omega
                case rel => exact ⟨i + 1, op, bad, by omega, by go_num, hD5, hR5, hbd2, hV5⟩
            · obtain rfl : i = who.length := by omega
              have hne : b ≠ bR := by omega
              go_wp2_with fail
              go_loopw [13, 73] (fun s13 s73 wr => ∃ i : Nat, i ≤ 4 ∧ s73 = .int .i64 i ∧ DrM w1.heap.size wr b v fa op bad ∧ RM w.heap.size wr bR A c fa op bad ∧ Upd Nil w wr) (fun _ s73 _ => 4 - (intOf s73).toNat)
              case atStart => exact ⟨0, by omega, rfl, hD, hR, hV⟩
              case round =>
                clear hD hR hV
                obtain ⟨i, hi, rfl, hD, hR, hV⟩ := hrel
                by_cases h4 : i < 4
                · have hi4 : i = 0 ∨ i = 1 ∨ i = 2 ∨ i = 3 := by omega
                  rcases hi4 with rfl | rfl | rfl | rfl
                  · skip
                    have ko := fun w' (u : Upd Nil wr w') => opsOf _ b v fa op bad 0 (by omega) w' (hD.upd u)
                    have kb := fun w' (u : Upd Nil wr w') => badOf _ b v fa op bad 0 (by omega) w' (hD.upd u)
                    have hUd := (Upd.refl Nil wr).drew
                    have x0 : ∀ w', Upd Nil wr.drew w' → w'.cell? ⟨bR, 4, none⟩ = some (.int .i64 (op 0)) := fun w' u => blk_cell ((hR.upd (hUd.tr u)).blk) 4
                    have y0 : ∀ w', Upd Nil wr.drew w' → w'.cell? ⟨bR, 8, none⟩ = some (.int .i64 (bad 0)) := fun w' u => blk_cell ((hR.upd (hUd.tr u)).blk) 8
                    go_wp2_with fail
                    refine wp_region_lex Nil [0, 1, 3, 4, 5, 6, 7, 8, 2, 9, 10, 11, 12, 14, 15, 16, 17, 18, 19, 13, 20, 21] (by kernel_rfl) (by kernel_rfl) rfl (by kernel_rfl) ?_
                    simp only [inOrder, List.filterMap_cons, List.filterMap_nil, List.getElem?_cons_zero, List.getElem?_cons_succ]
                    try simp only [Act.put, List.setIfInBounds_toArray, List.set_cons_zero, List.set_cons_succ]
                    repeat
                      first
                      | (refine lex_pure (v := ?_) rfl rfl ?_ ?_
                         rotate_left
                         · intro w' hU'
                           go_simp
                           try with_reducible rfl
                         try simp only [Act.put, List.setIfInBounds_toArray, List.set_cons_zero, List.set_cons_succ])
                      | (refine lex_skip rfl ?_
                         try simp only [Act.put, List.setIfInBounds_toArray, List.set_cons_zero, List.set_cons_succ])
                    refine lex_fn (f := 9) (args := _) rfl rfl (by go_simp) ((ko _ hUd).mono ?_)
                    rintro e w' ⟨rfl, rfl⟩
                    refine ⟨_, rfl, Upd.refl _ _, ?_⟩
                    try simp only [Act.put, List.setIfInBounds_toArray, List.set_cons_zero, List.set_cons_succ]
                    repeat
                      first
                      | (refine lex_pure (v := ?_) rfl rfl ?_ ?_
                         rotate_left
                         · intro w' hU'
                           go_simp
                           try with_reducible rfl
                         try simp only [Act.put, List.setIfInBounds_toArray, List.set_cons_zero, List.set_cons_succ])
                      | (refine lex_skip rfl ?_
                         try simp only [Act.put, List.setIfInBounds_toArray, List.set_cons_zero, List.set_cons_succ])
                    refine lex_fn (f := 10) (args := _) rfl rfl (by go_simp) ((kb _ hUd).mono ?_)
                    rintro e w' ⟨rfl, rfl⟩
                    refine ⟨_, rfl, Upd.refl _ _, ?_⟩
                    try simp only [Act.put, List.setIfInBounds_toArray, List.set_cons_zero, List.set_cons_succ]
                    repeat
                      first
                      | (refine lex_pure (v := ?_) rfl rfl ?_ ?_
                         rotate_left
                         · intro w' hU'
                           go_simp
                           try with_reducible rfl
                         try simp only [Act.put, List.setIfInBounds_toArray, List.set_cons_zero, List.set_cons_succ])
                      | (refine lex_skip rfl ?_
                         try simp only [Act.put, List.setIfInBounds_toArray, List.set_cons_zero, List.set_cons_succ])
                    refine lex_done ?_
                    clear ko kb x0 y0
                    go_wp2_with fail
                    go_roundw
                    case measure => simp [intOf]
                    case rel => exact ⟨0 + 1, by omega, rfl, hD.upd hUd, hR.upd hUd, hV.tr hUd⟩
                  · skip
                    have ko := fun w' (u : Upd Nil wr w') => opsOf _ b v fa op bad 1 (by omega) w' (hD.upd u)
                    have kb := fun w' (u : Upd Nil wr w') => badOf _ b v fa op bad 1 (by omega) w' (hD.upd u)
                    have hUd := (Upd.refl Nil wr).drew
                    have x0 : ∀ w', Upd Nil wr.drew w' → w'.cell? ⟨bR, 5, none⟩ = some (.int .i64 (op 1)) := fun w' u => blk_cell ((hR.upd (hUd.tr u)).blk) 5
                    have y0 : ∀ w', Upd Nil wr.drew w' → w'.cell? ⟨bR, 9, none⟩ = some (.int .i64 (bad 1)) := fun w' u => blk_cell ((hR.upd (hUd.tr u)).blk) 9
                    go_wp2_with fail
                    refine wp_region_lex Nil [0, 1, 3, 4, 5, 6, 7, 8, 2, 9, 10, 11, 12, 14, 15, 16, 17, 18, 19, 13, 20, 21] (by kernel_rfl) (by kernel_rfl) rfl (by kernel_rfl) ?_
                    simp only [inOrder, List.filterMap_cons, List.filterMap_nil, List.getElem?_cons_zero, List.getElem?_cons_succ]
                    try simp only [Act.put, List.setIfInBounds_toArray, List.set_cons_zero, List.set_cons_succ]
                    repeat
                      first
                      | (refine lex_pure (v := ?_) rfl rfl ?_ ?_
                         rotate_left
                         · intro w' hU'
                           go_simp
                           try with_reducible rfl
                         try simp only [Act.put, List.setIfInBounds_toArray, List.set_cons_zero, List.set_cons_succ])
                      | (refine lex_skip rfl ?_
                         try simp only [Act.put, List.setIfInBounds_toArray, List.set_cons_zero, List.set_cons_succ])
                    refine lex_fn (f := 9) (args := _) rfl rfl (by go_simp) ((ko _ hUd).mono ?_)
                    rintro e w' ⟨rfl, rfl⟩
                    refine ⟨_, rfl, Upd.refl _ _, ?_⟩
                    try simp only [Act.put, List.setIfInBounds_toArray, List.set_cons_zero, List.set_cons_succ]
                    repeat
                      first
                      | (refine lex_pure (v := ?_) rfl rfl ?_ ?_
                         rotate_left
                         · intro w' hU'
                           go_simp
                           try with_reducible rfl
                         try simp only [Act.put, List.setIfInBounds_toArray, List.set_cons_zero, List.set_cons_succ])
                      | (refine lex_skip rfl ?_
                         try simp only [Act.put, List.setIfInBounds_toArray, List.set_cons_zero, List.set_cons_succ])
                    refine lex_fn (f := 10) (args := _) rfl rfl (by go_simp) ((kb _ hUd).mono ?_)
                    rintro e w' ⟨rfl, rfl⟩
                    refine ⟨_, rfl, Upd.refl _ _, ?_⟩
                    try simp only [Act.put, List.setIfInBounds_toArray, List.set_cons_zero, List.set_cons_succ]
                    repeat
                      first
                      | (refine lex_pure (v := ?_) rfl rfl ?_ ?_
                         rotate_left
                         · intro w' hU'
                           go_simp
                           try with_reducible rfl
                         try simp only [Act.put, List.setIfInBounds_toArray, List.set_cons_zero, List.set_cons_succ])
                      | (refine lex_skip rfl ?_
                         try simp only [Act.put, List.setIfInBounds_toArray, List.set_cons_zero, List.set_cons_succ])
                    refine lex_done ?_
                    clear ko kb x0 y0
                    go_wp2_with fail
                    go_roundw
                    case measure => simp [intOf]
                    case rel => exact ⟨1 + 1, by omega, rfl, hD.upd hUd, hR.upd hUd, hV.tr hUd⟩
                  · skip
                    have ko := fun w' (u : Upd Nil wr w') => opsOf _ b v fa op bad 2 (by omega) w' (hD.upd u)
                    have kb := fun w' (u : Upd Nil wr w') => badOf _ b v fa op bad 2 (by omega) w' (hD.upd u)
                    have hUd := (Upd.refl Nil wr).drew
                    have x0 : ∀ w', Upd Nil wr.drew w' → w'.cell? ⟨bR, 6, none⟩ = some (.int .i64 (op 2)) := fun w' u => blk_cell ((hR.upd (hUd.tr u)).blk) 6
                    have y0 : ∀ w', Upd Nil wr.drew w' → w'.cell? ⟨bR, 10, none⟩ = some (.int .i64 (bad 2)) := fun w' u => blk_cell ((hR.upd (hUd.tr u)).blk) 10
                    go_wp2_with fail
                    refine wp_region_lex Nil [0, 1, 3, 4, 5, 6, 7, 8, 2, 9, 10, 11, 12, 14, 15, 16, 17, 18, 19, 13, 20, 21] (by kernel_rfl) (by kernel_rfl) rfl (by kernel_rfl) ?_
                    simp only [inOrder, List.filterMap_cons, List.filterMap_nil, List.getElem?_cons_zero, List.getElem?_cons_succ]
                    try simp only [Act.put, List.setIfInBounds_toArray, List.set_cons_zero, List.set_cons_succ]
                    repeat
                      first
                      | (refine lex_pure (v := ?_) rfl rfl ?_ ?_
                         rotate_left
                         · intro w' hU'
                           go_simp
                           try with_reducible rfl
                         try simp only [Act.put, List.setIfInBounds_toArray, List.set_cons_zero, List.set_cons_succ])
                      | (refine lex_skip rfl ?_
                         try simp only [Act.put, List.setIfInBounds_toArray, List.set_cons_zero, List.set_cons_succ])
                    refine lex_fn (f := 9) (args := _) rfl rfl (by go_simp) ((ko _ hUd).mono ?_)
                    rintro e w' ⟨rfl, rfl⟩
                    refine ⟨_, rfl, Upd.refl _ _, ?_⟩
                    try simp only [Act.put, List.setIfInBounds_toArray, List.set_cons_zero, List.set_cons_succ]
                    repeat
                      first
                      | (refine lex_pure (v := ?_) rfl rfl ?_ ?_
                         rotate_left
                         · intro w' hU'
                           go_simp
                           try with_reducible rfl
                         try simp only [Act.put, List.setIfInBounds_toArray, List.set_cons_zero, List.set_cons_succ])
                      | (refine lex_skip rfl ?_
                         try simp only [Act.put, List.setIfInBounds_toArray, List.set_cons_zero, List.set_cons_succ])
                    refine lex_fn (f := 10) (args := _) rfl rfl (by go_simp) ((kb _ hUd).mono ?_)
                    rintro e w' ⟨rfl, rfl⟩
                    refine ⟨_, rfl, Upd.refl _ _, ?_⟩
                    try simp only [Act.put, List.setIfInBounds_toArray, List.set_cons_zero, List.set_cons_succ]
                    repeat
                      first
                      | (refine lex_pure (v := ?_) rfl rfl ?_ ?_
                         rotate_left
                         · intro w' hU'
                           go_simp
                           try with_reducible rfl
                         try simp only [Act.put, List.setIfInBounds_toArray, List.set_cons_zero, List.set_cons_succ])
                      | (refine lex_skip rfl ?_
                         try simp only [Act.put, List.setIfInBounds_toArray, List.set_cons_zero, List.set_cons_succ])
                    refine lex_done ?_
                    clear ko kb x0 y0
                    go_wp2_with fail
                    go_roundw
                    case measure => simp [intOf]
                    case rel => exact ⟨2 + 1, by omega, rfl, hD.upd hUd, hR.upd hUd, hV.tr hUd⟩
                  · skip
                    have ko := fun w' (u : Upd Nil wr w') => opsOf _ b v fa op bad 3 (by omega) w' (hD.upd u)
                    have kb := fun w' (u : Upd Nil wr w') => badOf _ b v fa op bad 3 (by omega) w' (hD.upd u)
                    have hUd := (Upd.refl Nil wr).drew
                    have x0 : ∀ w', Upd Nil wr.drew w' → w'.cell? ⟨bR, 7, none⟩ = some (.int .i64 (op 3)) := fun w' u => blk_cell ((hR.upd (hUd.tr u)).blk) 7
                    have y0 : ∀ w', Upd Nil wr.drew w' → w'.cell? ⟨bR, 11, none⟩ = some (.int .i64 (bad 3)) := fun w' u => blk_cell ((hR.upd (hUd.tr u)).blk) 11
                    go_wp2_with fail
                    refine wp_region_lex Nil [0, 1, 3, 4, 5, 6, 7, 8, 2, 9, 10, 11, 12, 14, 15, 16, 17, 18, 19, 13, 20, 21] (by kernel_rfl) (by kernel_rfl) rfl (by kernel_rfl) ?_
                    simp only [inOrder, List.filterMap_cons, List.filterMap_nil, List.getElem?_cons_zero, List.getElem?_cons_succ]
                    try simp only [Act.put, List.setIfInBounds_toArray, List.set_cons_zero, List.set_cons_succ]
                    repeat
                      first
                      | (refine lex_pure (v := ?_) rfl rfl ?_ ?_
                         rotate_left
                         · intro w' hU'
                           go_simp
                           try with_reducible rfl
                         try simp only [Act.put, List.setIfInBounds_toArray, List.set_cons_zero, List.set_cons_succ])
                      | (refine lex_skip rfl ?_
                         try simp only [Act.put, List.setIfInBounds_toArray, List.set_cons_zero, List.set_cons_succ])
                    refine lex_fn (f := 9) (args := _) rfl rfl (by go_simp) ((ko _ hUd).mono ?_)
                    rintro e w' ⟨rfl, rfl⟩
                    refine ⟨_, rfl, Upd.refl _ _, ?_⟩
                    try simp only [Act.put, List.setIfInBounds_toArray, List.set_cons_zero, List.set_cons_succ]
                    repeat
                      first
                      | (refine lex_pure (v := ?_) rfl rfl ?_ ?_
                         rotate_left
                         · intro w' hU'
                           go_simp
                           try with_reducible rfl
                         try simp only [Act.put, List.setIfInBounds_toArray, List.set_cons_zero, List.set_cons_succ])
                      | (refine lex_skip rfl ?_
                         try simp only [Act.put, List.setIfInBounds_toArray, List.set_cons_zero, List.set_cons_succ])
                    refine lex_fn (f := 10) (args := _) rfl rfl (by go_simp) ((kb _ hUd).mono ?_)
                    rintro e w' ⟨rfl, rfl⟩
                    refine ⟨_, rfl, Upd.refl _ _, ?_⟩
                    try simp only [Act.put, List.setIfInBounds_toArray, List.set_cons_zero, List.set_cons_succ]
                    repeat
                      first
                      | (refine lex_pure (v := ?_) rfl rfl ?_ ?_
                         rotate_left
                         · intro w' hU'
                           go_simp
                           try with_reducible rfl
                         try simp only [Act.put, List.setIfInBounds_toArray, List.set_cons_zero, List.set_cons_succ])
                      | (refine lex_skip rfl ?_
                         try simp only [Act.put, List.setIfInBounds_toArray, List.set_cons_zero, List.set_cons_succ])
                    refine lex_done ?_
                    clear ko kb x0 y0
                    go_wp2_with fail
                    go_roundw
                    case measure => simp [intOf]
                    case rel => exact ⟨3 + 1, by omega, rfl, hD.upd hUd, hR.upd hUd, hV.tr hUd⟩
                · obtain rfl : i = 4 := by omega
                  have k1 := fun w => opsOf_no b (-1) (.inl (by omega)) w
                  have k2 := fun w => badOf_no b 4 (.inr (by omega)) w
                  go_wp2_with fail
                  refine (k1 _).mono ?_
                  rintro e w' ⟨rfl, rfl⟩
                  go_wp2_with fail
                  refine (k2 _).mono ?_
                  rintro e w' ⟨rfl, rfl⟩
                  go_wp2_with fail
                  go_ret
                  exact ⟨rfl, hV⟩
        · have h0b : (n != 0) = true := by simpa using h0
          go_wp2_with fail
          refine (kN _ hV1 h0).mono ?_
          rintro e w2 ⟨hU2, rfl⟩
          have hb2 := hU2.blk hbx (fun h => h)
          have hV2 := hV1.tr hU2
          clear hbxc0 hbxc1 hbxc2 hbxc3 hbxz0 hbxz1 hbxz2 hbxz3
          have hb2c0 : (w2).cell? ⟨w.heap.size, 0, none⟩ = some (.slice (A 0) (fa 0).length (c 0)) := Base.blk_cell hb2 0
          have hb2z0 : (w2).frozen? ⟨w.heap.size, 0, none⟩ = false := Base.blk_frozen hb2 0
          have hb2c1 : (w2).cell? ⟨w.heap.size, 1, none⟩ = some (.slice (A 1) (fa 1).length (c 1)) := Base.blk_cell hb2 1
          have hb2z1 : (w2).frozen? ⟨w.heap.size, 1, none⟩ = false := Base.blk_frozen hb2 1
          have hb2c2 : (w2).cell? ⟨w.heap.size, 2, none⟩ = some (.slice (A 2) (fa 2).length (c 2)) := Base.blk_cell hb2 2
          have hb2z2 : (w2).frozen? ⟨w.heap.size, 2, none⟩ = false := Base.blk_frozen hb2 2
          have hb2c3 : (w2).cell? ⟨w.heap.size, 3, none⟩ = some (.slice (A 3) (fa 3).length (c 3)) := Base.blk_cell hb2 3
          have hb2z3 : (w2).frozen? ⟨w.heap.size, 3, none⟩ = false := Base.blk_frozen hb2 3
          go_wp2_with fail
          refine (kC _ hV2).mono ?_
          rintro e w3 ⟨rfl, hU3⟩
          have hV3 := hV2.tr hU3
          go_wp2_with fail
          refine (next_nil 0 _).mono ?_
          rintro e w4 ⟨rfl, hU4⟩
          go_wp2_with fail
          refine (opsOf_nil 0 _).mono ?_
          rintro e w' ⟨rfl, rfl⟩
          go_wp2_with fail
          refine (badOf_nil 0 _).mono ?_
          rintro e w' ⟨rfl, rfl⟩
          go_wp2_with fail
          go_ret
          exact ⟨rfl, hV3.tr hU4⟩
end Go.Proofs.Ytbadgmfhlaedoaa.Draw
