/-
  The clock: one operation begins. Conditions: what the board holds.
-/
import Derived.Test.YtcifkccaiekkeaaClockM
namespace Go.Proofs.Ytcifkccaiekkeaa.Clock
open Go.RowKit Go.Proofs.Ytcifkccaiekkeaa.Base Go.Maps Go.Proofs.Ytcifkccaiekkeaa.Maps Go.Proofs.Ytcifkccaiekkeaa.Ints
set_option linter.unusedVariables false
set_option linter.unusedSimpArgs false
def alone (k : Int) : Int := if k = 1 then 2 else if k = 2 then 5 else if k = 3 then 16 else 0
def tick (k : Int) : Int := if k = 1 then 1 else if k = 2 then 4 else if k = 3 then 16 else 0
theorem ticks (k : Int) (w : World) : Calls Try.prog 82 #[.int .i64 k] w fun e w' => e = .returned (.int .i64 (tick k)) ∧ w = w' := by
  by_cases h1 : k = 1
  · subst h1
    go_enter Try.func82, Try.ntmps82
    go_wp2_with fail
    go_ret
    exact ⟨rfl, rfl⟩
  by_cases h2 : k = 2
  · subst h2
    go_enter Try.func82, Try.ntmps82
    go_wp2_with fail
    go_ret
    exact ⟨rfl, rfl⟩
  by_cases h3 : k = 3
  · subst h3
    go_enter Try.func82, Try.ntmps82
    go_wp2_with fail
    go_ret
    exact ⟨rfl, rfl⟩
  go_enter Try.func82, Try.ntmps82
  go_wp2_with fail
  go_ret
  exact ⟨by unfold tick; rw [if_neg h1, if_neg h2, if_neg h3]; rfl, rfl⟩
theorem aloneC (k : Int) (hk : k = 1 ∨ k = 2 ∨ k = 3) (w : World) : Calls Try.prog 69 #[.int .i64 k] w fun e w' => e = .returned (.int .i64 (alone k)) ∧ w = w' := by
  have q := ticks k w
  by_cases h1 : k = 1
  · subst h1
    rw [show tick 1 = 1 from rfl] at q
    go_enter Try.func69, Try.ntmps69
    go_wp2_with fail
    refine q.mono ?_
    rintro e w' ⟨rfl, rfl⟩
    go_wp2_with fail
    go_ret
    exact ⟨rfl, rfl⟩
  by_cases h2 : k = 2
  · subst h2
    rw [show tick 2 = 4 from rfl] at q
    go_enter Try.func69, Try.ntmps69
    go_wp2_with fail
    refine q.mono ?_
    rintro e w' ⟨rfl, rfl⟩
    go_wp2_with fail
    go_ret
    exact ⟨rfl, rfl⟩
  obtain rfl : k = 3 := by omega
  rw [show tick 3 = 16 from rfl] at q
  go_enter Try.func69, Try.ntmps69
  go_wp2_with fail
  refine q.mono ?_
  rintro e w' ⟨rfl, rfl⟩
  go_wp2_with fail
  go_ret
  exact ⟨rfl, rfl⟩
structure St where
  now : Int
  f : Fin 64 → Int
  g : Fin 64 × Fin 64 → Int
def put {ι : Type} [DecidableEq ι] (f : ι → Int) (i : ι) (v : Int) : ι → Int := fun j => if j = i then v else f j
def stp (s : St) (k : Int) (c d : Fin 64) : St × Int :=
  if k = 2 then (⟨max (max s.now (s.g (c, d))) (s.f c), put s.f c (max (max s.now (s.g (c, d))) (s.f c) + 1), put s.g (c, d) (max (max s.now (s.g (c, d))) (s.f c) + 5)⟩, max (max s.now (s.g (c, d))) (s.f c) + 5)
  else if k = 1 then (⟨max s.now (s.g (c, d)), put s.f c (max (max s.now (s.g (c, d)) + 1) (s.f c) + 1), put s.g (c, d) (max (max s.now (s.g (c, d)) + 1) (s.f c) + 1)⟩, max (max s.now (s.g (c, d)) + 1) (s.f c) + 1)
  else (⟨max s.now (s.g (c, d)), s.f, put s.g (c, d) (max s.now (s.g (c, d)) + 16)⟩, max s.now (s.g (c, d)) + 16)
/-- All within bounds. -/
structure Bds (s : St) (M : Int) : Prop where
  now : 0 ≤ s.now ∧ s.now ≤ M
  f : ∀ c, 0 ≤ s.f c ∧ s.f c ≤ M
  g : ∀ p, 0 ≤ s.g p ∧ s.g p ≤ M
structure Bd (F : Nat → Prop) (w : World) (b n : Nat) (s : St) (b1 b2 : Nat) : Prop where
  blk : w.heap[b]? = some (.cells #[.int .i64 s.now, .map (some b1), .map (some b2)] 152 (0, 0))
  mc : MapI w 3 kc b1 n s.f
  md : MapI w 160 kd b2 n s.g
  ne : b1 ≠ b2
  ob : F b
  o1 : F b1
  o2 : F b2
theorem Bd.upd {F : Nat → Prop} {w w' : World} {b n : Nat} {s : St} {b1 b2 : Nat} (h : Bd F w b n s b1 b2) {S : Nat → Prop} (u : Upd S w w') (hn : ∀ x, S x → ¬ F x) : Bd F w' b n s b1 b2 :=
  ⟨u.blk h.blk (fun e => hn _ e h.ob), h.mc.upd u (fun e => hn _ e h.o1), h.md.upd u (fun e => hn _ e h.o2), h.ne, h.ob, h.o1, h.o2⟩
theorem Bd.now {F : Nat → Prop} {w : World} {b n : Nat} {s : St} {b1 b2 : Nat} (h : Bd F w b n s b1 b2) (v : Int) : Bd F (w.setCell ⟨b, 0, none⟩ (.int .i64 v)) b n { s with now := v } b1 b2 ∧ Upd (Only b) w (w.setCell ⟨b, 0, none⟩ (.int .i64 v)) := by
  have hu : Upd (Only b) w (w.setCell ⟨b, 0, none⟩ (.int .i64 v)) := (Upd.refl _ _).set1 _
  exact ⟨⟨blk_put h.blk 0 (.int .i64 v) rfl, h.mc.upd hu (h.mc.ne h.blk), h.md.upd hu (h.md.ne h.blk), h.ne, h.ob, h.o1, h.o2⟩, hu⟩
theorem Bd.lookC {F : Nat → Prop} {w : World} {b n : Nat} {s : St} {b1 b2 : Nat} (h : Bd F w b n s b1 b2) (c : Fin 64) : (Instr.lookup 149 (.map (some b1)) (.int .i64 (c.val : Int)) false).run Try.prog w = .ok (.int .i64 (s.f c)) w :=
  h.mc.look lawC Try.underlying149 c (keyC c)
theorem Bd.lookD {F : Nat → Prop} {w : World} {b n : Nat} {s : St} {b1 b2 : Nat} (h : Bd F w b n s b1 b2) (p : Fin 64 × Fin 64) : (Instr.lookup 150 (.map (some b2)) (.agg #[.int .i64 (p.1.val : Int), .int .i64 (p.2.val : Int)]) false).run Try.prog w = .ok (.int .i64 (s.g p)) w :=
  h.md.look lawD Try.underlying150 p (keyD p)
theorem Bd.putC {F : Nat → Prop} {w : World} {b n : Nat} {s : St} {b1 b2 : Nat} (h : Bd F w b n s b1 b2) (hn : n < 1000000) (c : Fin 64) (v : Int) (hv : -1000000000 ≤ v ∧ v ≤ 1000000000) :
    ∃ w', (Instr.mapUpdate 149 (.map (some b1)) (.int .i64 (c.val : Int)) (.int .i64 v)).run Try.prog w = .ok () w' ∧ Bd F w' b (n + 1) { s with f := put s.f c v } b1 b2 ∧ Upd (Only b1) w w' := by
  obtain ⟨w', h1, h2, h3⟩ := h.mc.put lawC injC isC Try.underlying149 hn c (keyC c) v (wfi hv)
  obtain ⟨D, d1, d2⟩ := h.md.upd h3 (fun e => h.ne e.symm)
  exact ⟨w', h1, ⟨h3.blk h.blk (fun e => (h.mc.ne h.blk) e.symm), h2, ⟨D, d1.mono (by omega), d2⟩, h.ne, h.ob, h.o1, h.o2⟩, h3⟩
theorem Bd.putD {F : Nat → Prop} {w : World} {b n : Nat} {s : St} {b1 b2 : Nat} (h : Bd F w b n s b1 b2) (hn : n < 1000000) (p : Fin 64 × Fin 64) (v : Int) (hv : -1000000000 ≤ v ∧ v ≤ 1000000000) :
    ∃ w', (Instr.mapUpdate 150 (.map (some b2)) (.agg #[.int .i64 (p.1.val : Int), .int .i64 (p.2.val : Int)]) (.int .i64 v)).run Try.prog w = .ok () w' ∧ Bd F w' b (n + 1) { s with g := put s.g p v } b1 b2 ∧ Upd (Only b2) w w' := by
  obtain ⟨w', h1, h2, h3⟩ := h.md.put lawD injD isD Try.underlying150 hn p (keyD p) v (wfi hv)
  obtain ⟨D, d1, d2⟩ := h.mc.upd h3 (fun e => h.ne e)
  exact ⟨w', h1, ⟨h3.blk h.blk (fun e => (h.md.ne h.blk) e.symm), ⟨D, d1.mono (by omega), d2⟩, h2, h.ne, h.ob, h.o1, h.o2⟩, h3⟩
end Go.Proofs.Ytcifkccaiekkeaa.Clock
