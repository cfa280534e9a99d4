/-
  Tables: the walks of the laws' fixed and TablePlays. Conditions: what the argument's slice holds.
-/
import Derived.Test.YtcifkccaiekkeaaTableT
import Derived.Test.YtcifkccaiekkeaaTableU
namespace Go.Proofs.Ytcifkccaiekkeaa.Table
open Go.RowKit Go.Proofs.Ytcifkccaiekkeaa.Base Go.Proofs.Ytcifkccaiekkeaa.Ints
set_option linter.unusedVariables false
set_option linter.unusedSimpArgs false
set_option maxHeartbeats 4000000 in
set_option maxRecDepth 100000 in
theorem fixed (w : World) : Calls Try.prog 15 #[] w (RetB true w) := by
  have e1 : setV [] 2 4 3 0 1 = (0, [(3, (0, 1))]) := by decide
  have e2 : setV [(3, (0, 1))] 2 4 4 0 1 = (7, [(3, (0, 1))]) := by decide
  have e3 : atV [(3, (0, 1))] 3 = (0, 1, true) := by decide
  have e4 : worthV [(3, (0, 1))] 2 4 0 = 1 := by decide
  have e5 : placeV [(3, (0, 1))] 2 4 0 1 = 3 := by decide
  have k1 := fun F b w h => set F b [] 2 4 3 0 1 w h
  have k2 := fun F b w h => set F b [(3, (0, 1))] 2 4 4 0 1 w h
  have k3 := fun F b w h => at_ F b [(3, (0, 1))] 2 4 3 w h
  have k4 := fun F b w h => worth F b [(3, (0, 1))] 2 4 0 w h
  have k5 := fun F b w h => place F b [(3, (0, 1))] 2 4 0 1 w h
  have k6 := fun F b w h => count F b [(3, (0, 1))] 2 4 w h
  have k7 := fun w => new_no 0 4 rfl w
  have k0 := fun w => new_yes 2 4 (by omega) (by omega) w
  unfold AtR at k3
  rw [e1] at k1
  rw [e2] at k2
  rw [e3] at k3
  rw [e4] at k4
  rw [e5] at k5
  clear e1 e2 e3 e4 e5
  go_enter Try.func15, Try.ntmps15
  go_wp2_with fail
  refine (k0 _).mono ?_
  rintro e w1 ⟨b, rfl, hb, hT1, hU1⟩
  have hF : ∀ x, More (fun _ => False) w.heap.size w1.heap.size x → w.heap.size ≤ x := fun x hx => hx.elim (fun h => h.elim) (fun h => h.1)
  go_wp2_with fail
  refine (k1 _ _ _ hT1).mono ?_
  rintro e w2 ⟨rfl, hT2, hU2⟩
  have hV2 := hU1.trans hU2 (fun x hx => .inr (hF x hx))
  go_wp2_with fail
  refine (k2 _ _ _ hT2).mono ?_
  rintro e w3 ⟨rfl, hT3, hU3⟩
  have hV3 := hV2.trans hU3 (fun x hx => .inr (hF x hx))
  go_wp2_with fail
  refine (k3 _ _ _ hT3).mono ?_
  rintro e w4 ⟨rfl, hU4⟩
  have hT4 := hT3.upd0 hU4
  have hV4 := hV3.tr hU4
  have q4 := k4 _ _ _ hT4
  have q5 := k5 _ _ _ hT4
  have q6 := k6 _ _ _ hT4
  clear k1 k2 k3 k4 k5 k6 k0 hT1 hT2 hT3 hU1 hU2 hU3 hU4
  go_wp2_with fail
  refine q4.mono ?_
  rintro e w' ⟨rfl, rfl⟩
  go_wp2_with fail
  refine q5.mono ?_
  rintro e w' ⟨rfl, rfl⟩
  go_wp2_with fail
  refine q6.mono ?_
  rintro e w' ⟨rfl, rfl⟩
  go_wp2_with fail
  refine (k7 _).mono ?_
  rintro e w' ⟨rfl, rfl⟩
  go_wp2_with fail
  go_ret
  exact ⟨rfl, hV4⟩
structure Ac where
  k : Nat
  q : Int
  i : Int
  p : Int
def acC (a : Ac) : List Value := [.int .u8 a.k, .int .i64 a.q, .int .i64 a.i, .int .i64 a.p]
theorem acC_len (a : Ac) : (acC a).length = 4 := rfl
theorem ac_cell {w : World} {A : Option Addr} {l : List Ac} (h : Arg w A 4 acC l) {k : Nat} (hk : k < l.length) : ∃ g o, A = some ⟨g, o, none⟩ ∧ w.cell? ⟨g, o + k * 4, none⟩ = some (.int .u8 l[k].k) ∧ w.cell? ⟨g, o + k * 4 + 1, none⟩ = some (.int .i64 l[k].q) ∧ w.cell? ⟨g, o + k * 4 + 2, none⟩ = some (.int .i64 l[k].i) ∧ w.cell? ⟨g, o + k * 4 + 3, none⟩ = some (.int .i64 l[k].p) := by
  rcases h with rfl | ⟨g, o, rfl, h2, h3⟩
  · simp at hk
  · exact ⟨g, o, rfl, h3 k hk 0 (by omega), h3 k hk 1 (by omega), h3 k hk 2 (by omega), h3 k hk 3 (by omega)⟩
theorem Two.grow {lo hi : Nat} {w : World} {b bR : Nat} {R : List Row3} {n : Nat} {R2 : List Row3} {n2 : Int} {m : Nat} (h : Two lo hi w b bR R n R2 n2 m) (hlo : lo ≤ hi) (k : Int) : Calls Try.prog 25 #[.pointer (some ⟨b, 0, none⟩), .int .i64 k] w fun e w' => e = .returned (.tuple #[]) ∧ Two lo w'.heap.size w' b bR R (n + cntG n k) R2 n2 m ∧ Upd (Bt lo hi) w w' := by
  obtain ⟨⟨F, G, h1, h2, h3, h4, h5⟩, h6⟩ := h
  refine (Table.grow F b R n m k w h1).mono ?_
  rintro e w' ⟨rfl, h1', hU⟩
  have hs := hU.size
  exact ⟨rfl, ⟨⟨_, G, h1', h2.upd hU (fun x hx hf => h5 x hf hx), fun x hx => more_lt h3 (by omega) (by omega) hx, fun x hx => ⟨(h4 x hx).1, by have := (h4 x hx).2; omega⟩, fun x hf hx => hf.elim (fun hf => h5 x hf hx) (fun ⟨p, _⟩ => by have := (h4 x hx).2; omega)⟩, Nat.le_refl _⟩, hU.mono h3⟩
/-- The reference's count of blocks is written. -/
theorem Two.setN {lo hi : Nat} {w : World} {b bR : Nat} {R : List Row3} {n : Nat} {R2 : List Row3} {n2 : Int} {m : Nat} (h : Two lo hi w b bR R n R2 n2 m) (x : Int) : Two lo hi (w.setCell ⟨bR, 0, none⟩ (.int .i64 x)) b bR R n R2 x m ∧ Upd (Bt lo hi) w (w.setCell ⟨bR, 0, none⟩ (.int .i64 x)) := by
  obtain ⟨⟨F, G, h1, ⟨V, h2⟩, h3, h4, h5⟩, h6⟩ := h
  have hu : Upd (Only bR) w (w.setCell ⟨bR, 0, none⟩ (.int .i64 x)) := (Upd.refl _ _).set1 _
  have hb := blk_put h2.blk 0 (.int .i64 x) rfl
  have hob := h2.ob
  refine ⟨⟨⟨F, G, h1.upd hu (fun y hy e => by have e : y = bR := e; subst e; exact h5 y hy hob), ⟨V, hb, h2.sl.upd hu (fun k hk e => h2.sl.ne h2.blk (by decide) k hk e), h2.ob, h2.oV⟩, h3, h4, h5⟩, by simpa [World.setCell] using h6⟩, hu.mono (fun y e => by have e : y = bR := e; subst e; exact h4 y hob)⟩
theorem Two.rblk {lo hi : Nat} {w : World} {b bR : Nat} {R : List Row3} {n : Nat} {R2 : List Row3} {n2 : Int} {m : Nat} (h : Two lo hi w b bR R n R2 n2 m) : ∃ A c, w.heap[bR]? = some (.cells #[.int .i64 n2, .int .i64 m, .slice A R2.length c] 37 (0, 0)) := by
  obtain ⟨G, V, h⟩ := h.rtb
  obtain ⟨A, c, e, _⟩ := h.sl.form
  have := h.blk
  rw [e] at this
  exact ⟨A, c, this⟩
end Go.Proofs.Ytcifkccaiekkeaa.Table
