/-
  Two tables side by side, the program's and the reference's: what each call makes of both. Conditions: what the tables hold.
-/
import Derived.Test.YthppheklnplljaaTableE
import Derived.Test.YthppheklnplljaaTableQ
namespace Go.Proofs.Ythppheklnplljaa.Table
open Go.RowKit Go.Proofs.Ythppheklnplljaa.Base Go.Proofs.Ythppheklnplljaa.Ints
set_option linter.unusedVariables false
set_option linter.unusedSimpArgs false
/-- Blocks from lo on, below hi. -/
def Bt (lo hi : Nat) : Nat → Prop := fun x => lo ≤ x ∧ x < hi
/-- Both tables; their blocks lie from lo on, below hi, apart. -/
structure Two (lo hi : Nat) (w : World) (b bR : Nat) (R : List Row3) (n : Nat) (R2 : List Row3) (n2 : Int) (m : Nat) : Prop where
  ex : ∃ F G, Tb F w b R n m ∧ RTb G w bR R2 n2 m ∧ (∀ x, F x → Bt lo hi x) ∧ (∀ x, G x → Bt lo hi x) ∧ (∀ x, F x → ¬ G x)
  hi : hi ≤ w.heap.size
theorem Two.upd {lo hi : Nat} {w w' : World} {b bR : Nat} {R : List Row3} {n : Nat} {R2 : List Row3} {n2 : Int} {m : Nat} (h : Two lo hi w b bR R n R2 n2 m) {S : Nat → Prop} (u : Upd S w w') (hs : ∀ x, Bt lo hi x → ¬ S x) : Two lo hi w' b bR R n R2 n2 m := by
  obtain ⟨⟨F, G, h1, h2, h3, h4, h5⟩, h6⟩ := h
  exact ⟨⟨F, G, h1.upd u (fun x hx => hs x (h3 x hx)), h2.upd u (fun x hx => hs x (h4 x hx)), h3, h4, h5⟩, Nat.le_trans h6 u.size⟩
theorem Two.upd0 {lo hi : Nat} {w w' : World} {b bR : Nat} {R : List Row3} {n : Nat} {R2 : List Row3} {n2 : Int} {m : Nat} (h : Two lo hi w b bR R n R2 n2 m) (u : Upd Nil w w') : Two lo hi w' b bR R n R2 n2 m := h.upd u (fun _ _ h => h)
theorem Two.mono {lo hi hi' : Nat} {w : World} {b bR : Nat} {R : List Row3} {n : Nat} {R2 : List Row3} {n2 : Int} {m : Nat} (h : Two lo hi w b bR R n R2 n2 m) (h1 : hi ≤ hi') (h2 : hi' ≤ w.heap.size) : Two lo hi' w b bR R n R2 n2 m := by
  obtain ⟨⟨F, G, a1, a2, a3, a4, a5⟩, h6⟩ := h
  exact ⟨⟨F, G, a1, a2, fun x hx => ⟨(a3 x hx).1, Nat.lt_of_lt_of_le (a3 x hx).2 h1⟩, fun x hx => ⟨(a4 x hx).1, Nat.lt_of_lt_of_le (a4 x hx).2 h1⟩, a5⟩, h2⟩
section
variable {lo hi : Nat} {w : World} {b bR : Nat} {R : List Row3} {n : Nat} {R2 : List Row3} {n2 : Int} {m : Nat}
theorem Two.tb (h : Two lo hi w b bR R n R2 n2 m) : ∃ F, Tb F w b R n m := by obtain ⟨⟨F, G, h1, _⟩, _⟩ := h; exact ⟨F, h1⟩
theorem Two.rtb (h : Two lo hi w b bR R n R2 n2 m) : ∃ G, RTb G w bR R2 n2 m := by obtain ⟨⟨F, G, _, h1, _⟩, _⟩ := h; exact ⟨G, h1⟩
theorem Two.ok (h : Two lo hi w b bR R n R2 n2 m) : PW R ∧ In R n m ∧ n ≤ 64 ∧ 2 ≤ m ∧ m ≤ 16 := by
  obtain ⟨F, gs, V, W, h⟩ := h.tb
  exact ⟨h.pw, h.inn, h.hn, h.hm⟩
theorem Two.set (h : Two lo hi w b bR R n R2 n2 m) (q i p : Int) : Calls Try.prog 64 #[.pointer (some ⟨b, 0, none⟩), .int .i64 q, .int .i64 i, .int .i64 p] w fun e w' => e = .returned (.int .i64 (setV R n m q i p).1) ∧ Two lo hi w' b bR (setV R n m q i p).2 n R2 n2 m ∧ Upd (Bt lo hi) w w' := by
  obtain ⟨⟨F, G, h1, h2, h3, h4, h5⟩, h6⟩ := h
  refine (Table.set F b R n m q i p w h1).mono ?_
  rintro e w' ⟨rfl, h1', hU⟩
  exact ⟨rfl, ⟨⟨F, G, h1', h2.upd hU (fun x hx hf => h5 x hf hx), h3, h4, h5⟩, Nat.le_trans h6 hU.size⟩, hU.mono h3⟩
theorem Two.clear (h : Two lo hi w b bR R n R2 n2 m) (q : Int) : Calls Try.prog 42 #[.pointer (some ⟨b, 0, none⟩), .int .i64 q] w fun e w' => e = .returned (.bool (atV R q).2.2) ∧ Two lo hi w' b bR (rClr R q) n R2 n2 m ∧ Upd (Bt lo hi) w w' := by
  obtain ⟨_, hin, _⟩ := h.ok
  obtain ⟨⟨F, G, h1, h2, h3, h4, h5⟩, h6⟩ := h
  refine (Table.clear F b R n m q w h1).mono ?_
  rintro e w' ⟨rfl, h1', hU⟩
  rw [← rClr_eq hin] at h1'
  exact ⟨rfl, ⟨⟨F, G, h1', h2.upd hU (fun x hx hf => h5 x hf hx), h3, h4, h5⟩, Nat.le_trans h6 hU.size⟩, hU.mono h3⟩
theorem more_lt {G : Nat → Prop} {lo hi a c x : Nat} (h : ∀ x, G x → Bt lo hi x) (h1 : lo ≤ a) (h2 : hi ≤ c) (hx : More G a c x) : Bt lo c x :=
  hx.elim (fun hx => ⟨(h x hx).1, Nat.lt_of_lt_of_le (h x hx).2 h2⟩) (fun ⟨p, q⟩ => ⟨Nat.le_trans h1 p, q⟩)
theorem Two.rset (h : Two lo hi w b bR R n R2 n2 m) (hlo : lo ≤ hi) (hl : R2.length ≤ 1000000) (q i p : Int) : Calls Try.prog 65 #[.pointer (some ⟨bR, 0, none⟩), .int .i64 q, .int .i64 i, .int .i64 p] w fun e w' => e = .returned (.int .i64 (rSetV R2 n2 m q i p).1) ∧ Two lo w'.heap.size w' b bR R n (rSetV R2 n2 m q i p).2 n2 m ∧ Upd (Bt lo hi) w w' := by
  obtain ⟨⟨F, G, h1, h2, h3, h4, h5⟩, h6⟩ := h
  refine (Table.rset G bR R2 n2 m q i p hl w h2).mono ?_
  rintro e w' ⟨rfl, h2', hU⟩
  have hs := hU.size
  exact ⟨rfl, ⟨⟨F, _, h1.upd hU h5, h2', fun x hx => ⟨(h3 x hx).1, by have := (h3 x hx).2; omega⟩, fun x hx => more_lt h4 (by omega) (by omega) hx, fun x hf hx => hx.elim (h5 x hf) (fun ⟨p, _⟩ => by have := (h3 x hf).2; omega)⟩, Nat.le_refl _⟩, hU.mono h4⟩
theorem Two.rclear (h : Two lo hi w b bR R n R2 n2 m) (hlo : lo ≤ hi) (hl : R2.length ≤ 1000000) (q : Int) : Calls Try.prog 63 #[.pointer (some ⟨bR, 0, none⟩), .int .i64 q] w fun e w' => e = .returned (.bool (decide ((rClr R2 q).length < R2.length))) ∧ Two lo w'.heap.size w' b bR R n (rClr R2 q) n2 m ∧ Upd (Bt lo hi) w w' := by
  obtain ⟨⟨F, G, h1, h2, h3, h4, h5⟩, h6⟩ := h
  refine (Table.rclear G bR R2 n2 m q hl w h2).mono ?_
  rintro e w' ⟨rfl, h2', hU⟩
  have hs := hU.size
  exact ⟨rfl, ⟨⟨F, _, h1.upd hU h5, h2', fun x hx => ⟨(h3 x hx).1, by have := (h3 x hx).2; omega⟩, fun x hx => more_lt h4 (by omega) (by omega) hx, fun x hf hx => hx.elim (h5 x hf) (fun ⟨p, _⟩ => by have := (h3 x hf).2; omega)⟩, Nat.le_refl _⟩, hU.mono h4⟩
end
end Go.Proofs.Ythppheklnplljaa.Table
