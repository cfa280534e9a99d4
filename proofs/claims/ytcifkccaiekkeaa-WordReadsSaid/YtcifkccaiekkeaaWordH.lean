/-
  The walk of almshouselaw01.WordReads: it returns true and turns nothing that there was. Conditions: what the arguments' slices hold.
-/
import Derived.Test.YtcifkccaiekkeaaWordD
import Derived.Test.YtcifkccaiekkeaaWordG
import Derived.Test.YtcifkccaiekkeaaLex
namespace Go.Proofs.Ytcifkccaiekkeaa.Word
open Go.RowKit Go.Proofs.Ytcifkccaiekkeaa.Base
set_option linter.unusedVariables false
set_option linter.unusedSimpArgs false
abbrev As := Int × Int
def asC (a : As) : List Value := [.int .u8 a.1, .int .i64 a.2]
theorem asC_len (x : As) : (asC x).length = 2 := rfl
/-- Both readers, in one state. -/
structure Pair (B W0 : Nat) (w : World) (b q : Nat) (r : Rd) : Prop where
  rd : ∃ v, Rdr B w b v r
  qr : QRd (· < W0) w q r
theorem Pair.upd0 {B W0 : Nat} {w w' : World} {b q : Nat} {r : Rd} (h : Pair B W0 w b q r) (u : Upd Nil w w') : Pair B W0 w' b q r :=
  ⟨let ⟨v, hv⟩ := h.rd; ⟨v, hv.upd0 u⟩, h.qr.upd u (fun h => h) (fun _ _ h => h)⟩
/-- A step of one reader's leaves the other's. -/
theorem Pair.step {B W0 : Nat} {w w1 w2 : World} {b q : Nat} {r r' : Rd} (h : Pair B W0 w b q r) (hbq : b ≠ q) (hb : W0 ≤ b) (u1 : Upd (Only b) w w1) (h1 : ∃ v, Rdr B w1 b v r') (u2 : Upd (Only q) w1 w2) (h2 : QRd (· < W0) w2 q r') : Pair B W0 w2 b q r' := by
  obtain ⟨v, hv⟩ := h1
  refine ⟨⟨v, hv.upd u2 hbq (fun k hk e => ?_)⟩, h2⟩
  obtain ⟨A, c, hq, _⟩ := h.qr
  have := u1.blk hq (fun e => hbq e.symm)
  exact hv.sl.ne this (by decide) k hk e
theorem Pair.mid {B W0 : Nat} {w w1 : World} {b q : Nat} {r : Rd} (h : Pair B W0 w b q r) (hbq : b ≠ q) (hb : W0 ≤ b) (u1 : Upd (Only b) w w1) : QRd (· < W0) w1 q r :=
  h.qr.upd u1 (fun e => hbq e.symm) (fun k hk e => by have : k = b := e; omega)
def Two2 (b q : Nat) : Nat → Prop := fun x => x = b ∨ x = q
theorem ask_mod {x : Int} (h0 : 0 ≤ x) (h1 : x ≤ 255) : x % 4 = 0 ∨ x % 4 = 1 ∨ x % 4 = 2 ∨ x % 4 = 3 := by omega
set_option maxHeartbeats 8000000 in
set_option maxRecDepth 100000 in
theorem reads (A D : Option Addr) (c d : Nat) (s : List UInt8) (l : List As) (w : World) (hA : Arg w A 1 bc s) (hD : Arg w D 2 asC l) (hc : s.length ≤ c) (hcm : c ≤ maxLen) (hl : l.length ≤ maxLen) (hp : ∀ y ∈ l, 0 ≤ y.1 ∧ y.1 ≤ 255)
    (hAw : Far (· < w.heap.size) (.slice A s.length c) s) :
    Calls Try.prog 8 #[.slice A s.length c, .slice D l.length d] w (RetB true w) := by
  unfold maxLen at hcm hl
  by_cases hs : 500 < s.length
  · go_enter Try.func8, Try.ntmps8
    go_wp2_with (go_at_call 44; refine (fixed _).mono ?_; rintro e w1 ⟨rfl, hU1⟩)
    go_ret
    exact ⟨rfl, hU1⟩
  · by_cases hl1 : 100 < l.length
    · go_enter Try.func8, Try.ntmps8
      go_wp2_with (go_at_call 44; refine (fixed _).mono ?_; rintro e w1 ⟨rfl, hU1⟩)
      go_ret
      exact ⟨rfl, hU1⟩
    · go_enter Try.func8, Try.ntmps8
      go_wp2_with fail
      refine (fixed _).mono ?_
      rintro e w1 ⟨rfl, hU1⟩
      go_wp2_with fail
      refine (read A c s w1 (hA.upd hU1) (by omega)).mono ?_
      rintro e w2 ⟨b, v2, rfl, hb, hR, hU2⟩
      have hU02 := hU1.tr hU2
      have hbw : w.heap.size ≤ b := Nat.le_trans hU1.size hb
      have hbs := blk_lt hR.blk
      have hpair : Pair w1.heap.size w.heap.size (w2.alloc (.cells #[.slice A s.length c, .int .i64 0] 79)) b w2.heap.size ⟨s, 0⟩ :=
        ⟨⟨_, hR.upd0 ((Upd.refl _ _).alloc _)⟩, A, c, blk_new _ _, (hA.upd hU02).upd ((Upd.refl _ _).alloc _), hc, hcm, hAw⟩
      have hU03 := hU02.alloc (.cells #[.slice A s.length c, .int .i64 0] 79)
      have hbq : b ≠ w2.heap.size := by omega
      have hqw : w.heap.size ≤ w2.heap.size := hU02.size
      clear hR hU2 hb
      have hqn : ∀ {k : Nat}, k < w.heap.size → k < w.heap.size := fun h => h
      have hFq : ¬ (w2.heap.size < w.heap.size) := by omega
      go_wp2_with fail
      generalize hq : w2.heap.size = q at *
      have hqH := Lib.hid hq
      clear hq hbs hqn hU02 hU1
      generalize hB : w1.heap.size = B at *
      have hBH := Lib.hid hB
      clear hB
      go_loopw [27] (fun s27 wr => ∃ (k : Nat) (r : Rd), k ≤ l.length ∧ s27 = .int .i64 k ∧ Pair B w.heap.size wr b q r ∧ Upd Nil w wr) (fun s27 _ => l.length - (intOf s27).toNat)
      case atStart => exact ⟨0, _, Nat.zero_le _, rfl, hpair, hU03⟩
      case round =>
        obtain ⟨k, r, hk, rfl, hP, hU⟩ := hrel
        clear hpair hU03
        by_cases hkl : k < l.length
        · obtain ⟨g, o, rfl, hg, qx⟩ := (hD.upd hU).resolve_left (fun e => by rw [e] at hkl; simp at hkl)
          have x0 := qx k hkl 0 (by omega)
          have x1 := qx k hkl 1 (by omega)
          clear qx
          obtain ⟨hy0, hy1⟩ := hp _ (List.getElem_mem hkl)
          generalize l[k] = y at *
          obtain ⟨ya, yn⟩ := y
          simp only [asC, List.getElem?_cons_zero, List.getElem?_cons_succ, Nat.add_zero] at x0 x1 hy0 hy1
          have hbs : b < wr.heap.size := by obtain ⟨v, hv⟩ := hP.rd; exact blk_lt hv.blk
          have hqs : q < wr.heap.size := by obtain ⟨A, c, hq, _⟩ := hP.qr; exact blk_lt hq
          rcases ask_mod hy0 hy1 with hm | hm | hm | hm
          · go_wp2_with fail
            have hP1 : Pair B w.heap.size (wr.alloc (.cells #[.int .u8 ya, .int .i64 yn] 81)).drew b q r := hP.upd0 ((Upd.refl Nil wr).alloc _).drew
            have hU1 : Upd Nil w (wr.alloc (.cells #[.int .u8 ya, .int .i64 yn] 81)).drew := (hU.alloc _).drew
            have hx1 : ∀ w', Upd (Two2 b q) (wr.alloc (.cells #[.int .u8 ya, .int .i64 yn] 81)).drew w' → w'.cell? ⟨wr.heap.size, 1, none⟩ = some (.int .i64 yn) := fun w' u =>
              (u.cell (p := ⟨wr.heap.size, 1, none⟩) (by simp) (fun e => by rcases e with e | e <;> (have : wr.heap.size = _ := e; omega))).trans (blk_cell (blk_drew (blk_new wr (.cells #[.int .u8 ya, .int .i64 yn] 81))) 1)
            refine wp_region_lex (Two2 b q) [0, 1, 2, 4, 5, 6, 3, 7, 8, 9] (by kernel_rfl) (by kernel_rfl) rfl (by kernel_rfl) ?_
            simp only [inOrder, List.filterMap_cons, List.filterMap_nil, List.getElem?_cons_zero, List.getElem?_cons_succ]
            try simp only [Act.put, List.setIfInBounds_toArray, List.set_cons_zero, List.set_cons_succ]
            repeat
              first
              | (refine lex_pure (v := ?_) rfl rfl ?_ ?_
                 rotate_left
                 · intro w' hU'
                   go_simp
                   try with_reducible rfl
                 try simp only [Act.put, List.setIfInBounds_toArray, List.set_cons_zero, List.set_cons_succ])
              | (refine lex_skip rfl ?_
                 try simp only [Act.put, List.setIfInBounds_toArray, List.set_cons_zero, List.set_cons_succ])
            obtain ⟨v3, hR3⟩ := hP1.rd
            refine lex_fn (f := 46) (args := #[.pointer (some ⟨b, 0, none⟩), .int .i64 yn]) rfl rfl (by go_simp) ((number B b v3 r yn _ hR3).mono ?_)
            rintro e w4 ⟨rfl, hR4, hU4⟩
            refine ⟨_, rfl, hU4.mono (fun x hx => .inl hx), ?_⟩
            have hQ4 := hP1.mid hbq hbw hU4
            have hx4 : ∀ w', Upd (Two2 b q) w4 w' → w'.cell? ⟨wr.heap.size, 1, none⟩ = some (.int .i64 yn) := fun w' u => hx1 w' ((hU4.mono (fun x hx => .inl hx)).tr u)
            try simp only [Act.put, List.setIfInBounds_toArray, List.set_cons_zero, List.set_cons_succ]
            repeat
              first
              | (refine lex_pure (v := ?_) rfl rfl ?_ ?_
                 rotate_left
                 · intro w' hU'
                   go_simp
                   try with_reducible rfl
                 try simp only [Act.put, List.setIfInBounds_toArray, List.set_cons_zero, List.set_cons_succ])
              | (refine lex_skip rfl ?_
                 try simp only [Act.put, List.setIfInBounds_toArray, List.set_cons_zero, List.set_cons_succ])
            refine lex_fn (f := 47) (args := #[.pointer (some ⟨q, 0, none⟩), .int .i64 yn]) rfl rfl (by go_simp) ((qnumber (· < w.heap.size) q hFq r yn _ hQ4).mono ?_)
            rintro e w5 ⟨rfl, hQ5, hU5'⟩
            refine ⟨_, rfl, hU5'.mono (fun x hx => .inr hx), ?_⟩
            try simp only [Act.put, List.setIfInBounds_toArray, List.set_cons_zero, List.set_cons_succ]
            repeat
              first
              | (refine lex_pure (v := ?_) rfl rfl ?_ ?_
                 rotate_left
                 · intro w' hU'
                   go_simp
                   try with_reducible rfl
                 try simp only [Act.put, List.setIfInBounds_toArray, List.set_cons_zero, List.set_cons_succ])
              | (refine lex_skip rfl ?_
                 try simp only [Act.put, List.setIfInBounds_toArray, List.set_cons_zero, List.set_cons_succ])
            refine lex_done ?_
            have hP5 := hP1.step hbq hbw hU4 hR4 hU5' hQ5
            have hU5 := (hU1.newOnly hU4 hbw).newOnly hU5' hqw
            clear hP1 hx1 hx4 hQ4 hR4 hR3 hQ5
            obtain ⟨v6, hv6⟩ := hP5.rd
            have hq6 := hP5.qr
            have hbl6 := blk_lt hv6.blk
            obtain ⟨A6, c6, hb6, hA6, hc6, hcm6, hF6⟩ := hq6
            have hz6 : ∀ w', Upd Nil w5.drew w' → w'.cell? ⟨q, 0, none⟩ = some (.slice A6 _ c6) := fun w' u => blk_cell (u.blk (blk_drew hb6) (fun h => h)) 0
            go_wp2_with fail
            refine wp_region_lex Nil [0, 1, 2, 3, 5, 6, 7, 8, 9, 4, 10, 11] (by kernel_rfl) (by kernel_rfl) rfl (by kernel_rfl) ?_
            simp only [inOrder, List.filterMap_cons, List.filterMap_nil, List.getElem?_cons_zero, List.getElem?_cons_succ]
            try simp only [Act.put, List.setIfInBounds_toArray, List.set_cons_zero, List.set_cons_succ]
            repeat
              first
              | (refine lex_pure (v := ?_) rfl rfl ?_ ?_
                 rotate_left
                 · intro w' hU'
                   go_simp
                   try with_reducible rfl
                 try simp only [Act.put, List.setIfInBounds_toArray, List.set_cons_zero, List.set_cons_succ])
              | (refine lex_skip rfl ?_
                 try simp only [Act.put, List.setIfInBounds_toArray, List.set_cons_zero, List.set_cons_succ])
            refine lex_fn (f := 54) (args := #[.pointer (some ⟨b, 0, none⟩)]) rfl rfl (by go_simp) ((left B b v6 _ _ (hv6.upd0 (Upd.refl Nil w5).drew)).mono ?_)
            rintro e w7 ⟨rfl, rfl⟩
            refine ⟨_, rfl, Upd.refl _ _, ?_⟩
            try simp only [Act.put, List.setIfInBounds_toArray, List.set_cons_zero, List.set_cons_succ]
            repeat
              first
              | (refine lex_pure (v := ?_) rfl rfl ?_ ?_
                 rotate_left
                 · intro w' hU'
                   go_simp
                   try with_reducible rfl
                 try simp only [Act.put, List.setIfInBounds_toArray, List.set_cons_zero, List.set_cons_succ])
              | (refine lex_skip rfl ?_
                 try simp only [Act.put, List.setIfInBounds_toArray, List.set_cons_zero, List.set_cons_succ])
            refine lex_done ?_
            go_wp2_with fail
            go_roundw
            case measure => simp [intOf]; omega
            case rel => exact ⟨k + 1, _, by omega, by simp, hP5.upd0 (Upd.refl Nil w5).drew, hU5.drew⟩
          · go_wp2_with fail
            have hP1 : Pair B w.heap.size (wr.alloc (.cells #[.int .u8 ya, .int .i64 yn] 81)).drew b q r := hP.upd0 ((Upd.refl Nil wr).alloc _).drew
            have hU1 : Upd Nil w (wr.alloc (.cells #[.int .u8 ya, .int .i64 yn] 81)).drew := (hU.alloc _).drew
            have hx1 : ∀ w', Upd (Two2 b q) (wr.alloc (.cells #[.int .u8 ya, .int .i64 yn] 81)).drew w' → w'.cell? ⟨wr.heap.size, 1, none⟩ = some (.int .i64 yn) := fun w' u =>
              (u.cell (p := ⟨wr.heap.size, 1, none⟩) (by simp) (fun e => by rcases e with e | e <;> (have : wr.heap.size = _ := e; omega))).trans (blk_cell (blk_drew (blk_new wr (.cells #[.int .u8 ya, .int .i64 yn] 81))) 1)
            refine wp_region_lex (Two2 b q) [0, 1, 2, 4, 5, 6, 3, 7, 8, 9] (by kernel_rfl) (by kernel_rfl) rfl (by kernel_rfl) ?_
            simp only [inOrder, List.filterMap_cons, List.filterMap_nil, List.getElem?_cons_zero, List.getElem?_cons_succ]
            try simp only [Act.put, List.setIfInBounds_toArray, List.set_cons_zero, List.set_cons_succ]
            repeat
              first
              | (refine lex_pure (v := ?_) rfl rfl ?_ ?_
                 rotate_left
                 · intro w' hU'
                   go_simp
                   try with_reducible rfl
                 try simp only [Act.put, List.setIfInBounds_toArray, List.set_cons_zero, List.set_cons_succ])
              | (refine lex_skip rfl ?_
                 try simp only [Act.put, List.setIfInBounds_toArray, List.set_cons_zero, List.set_cons_succ])
            obtain ⟨v3, hR3⟩ := hP1.rd
            refine lex_fn (f := 48) (args := #[.pointer (some ⟨b, 0, none⟩), .int .i64 yn]) rfl rfl (by go_simp) ((rdText B b v3 r yn _ hR3).mono ?_)
            rintro e w4 ⟨rfl, hR4, hU4⟩
            refine ⟨_, rfl, hU4.mono (fun x hx => .inl hx), ?_⟩
            have hQ4 := hP1.mid hbq hbw hU4
            have hx4 : ∀ w', Upd (Two2 b q) w4 w' → w'.cell? ⟨wr.heap.size, 1, none⟩ = some (.int .i64 yn) := fun w' u => hx1 w' ((hU4.mono (fun x hx => .inl hx)).tr u)
            try simp only [Act.put, List.setIfInBounds_toArray, List.set_cons_zero, List.set_cons_succ]
            repeat
              first
              | (refine lex_pure (v := ?_) rfl rfl ?_ ?_
                 rotate_left
                 · intro w' hU'
                   go_simp
                   try with_reducible rfl
                 try simp only [Act.put, List.setIfInBounds_toArray, List.set_cons_zero, List.set_cons_succ])
              | (refine lex_skip rfl ?_
                 try simp only [Act.put, List.setIfInBounds_toArray, List.set_cons_zero, List.set_cons_succ])
            refine lex_fn (f := 49) (args := #[.pointer (some ⟨q, 0, none⟩), .int .i64 yn]) rfl rfl (by go_simp) ((qtext (· < w.heap.size) q hFq r yn _ hQ4).mono ?_)
            rintro e w5 ⟨rfl, hQ5, hU5'⟩
            refine ⟨_, rfl, hU5'.mono (fun x hx => .inr hx), ?_⟩
            try simp only [Act.put, List.setIfInBounds_toArray, List.set_cons_zero, List.set_cons_succ]
            repeat
              first
              | (refine lex_pure (v := ?_) rfl rfl ?_ ?_
                 rotate_left
                 · intro w' hU'
                   go_simp
                   try with_reducible rfl
                 try simp only [Act.put, List.setIfInBounds_toArray, List.set_cons_zero, List.set_cons_succ])
              | (refine lex_skip rfl ?_
                 try simp only [Act.put, List.setIfInBounds_toArray, List.set_cons_zero, List.set_cons_succ])
            refine lex_done ?_
            have hP5 := hP1.step hbq hbw hU4 hR4 hU5' hQ5
            have hU5 := (hU1.newOnly hU4 hbw).newOnly hU5' hqw
            clear hP1 hx1 hx4 hQ4 hR4 hR3 hQ5
            obtain ⟨v6, hv6⟩ := hP5.rd
            have hq6 := hP5.qr
            have hbl6 := blk_lt hv6.blk
            obtain ⟨A6, c6, hb6, hA6, hc6, hcm6, hF6⟩ := hq6
            have hz6 : ∀ w', Upd Nil w5.drew w' → w'.cell? ⟨q, 0, none⟩ = some (.slice A6 _ c6) := fun w' u => blk_cell (u.blk (blk_drew hb6) (fun h => h)) 0
            go_wp2_with fail
            refine wp_region_lex Nil [0, 1, 2, 3, 5, 6, 7, 8, 9, 4, 10, 11] (by kernel_rfl) (by kernel_rfl) rfl (by kernel_rfl) ?_
            simp only [inOrder, List.filterMap_cons, List.filterMap_nil, List.getElem?_cons_zero, List.getElem?_cons_succ]
            try simp only [Act.put, List.setIfInBounds_toArray, List.set_cons_zero, List.set_cons_succ]
            repeat
              first
              | (refine lex_pure (v := ?_) rfl rfl ?_ ?_
                 rotate_left
                 · intro w' hU'
                   go_simp
                   try with_reducible rfl
                 try simp only [Act.put, List.setIfInBounds_toArray, List.set_cons_zero, List.set_cons_succ])
              | (refine lex_skip rfl ?_
                 try simp only [Act.put, List.setIfInBounds_toArray, List.set_cons_zero, List.set_cons_succ])
            refine lex_fn (f := 54) (args := #[.pointer (some ⟨b, 0, none⟩)]) rfl rfl (by go_simp) ((left B b v6 _ _ (hv6.upd0 (Upd.refl Nil w5).drew)).mono ?_)
            rintro e w7 ⟨rfl, rfl⟩
            refine ⟨_, rfl, Upd.refl _ _, ?_⟩
            try simp only [Act.put, List.setIfInBounds_toArray, List.set_cons_zero, List.set_cons_succ]
            repeat
              first
              | (refine lex_pure (v := ?_) rfl rfl ?_ ?_
                 rotate_left
                 · intro w' hU'
                   go_simp
                   try with_reducible rfl
                 try simp only [Act.put, List.setIfInBounds_toArray, List.set_cons_zero, List.set_cons_succ])
              | (refine lex_skip rfl ?_
                 try simp only [Act.put, List.setIfInBounds_toArray, List.set_cons_zero, List.set_cons_succ])
            refine lex_done ?_
            go_wp2_with fail
            go_roundw
            case measure => simp [intOf]; omega
            case rel => exact ⟨k + 1, _, by omega, by simp, hP5.upd0 (Upd.refl Nil w5).drew, hU5.drew⟩
          · have hP1 : Pair B w.heap.size (wr.alloc (.cells #[.int .u8 ya, .int .i64 yn] 81)) b q r := hP.upd0 ((Upd.refl Nil wr).alloc _)
            have hU1 : Upd Nil w (wr.alloc (.cells #[.int .u8 ya, .int .i64 yn] 81)) := hU.alloc _
            obtain ⟨v3, hR3⟩ := hP1.rd
            go_wp2_with fail
            refine (flag B b v3 r _ hR3).mono ?_
            rintro e w4 ⟨rfl, hR4, hU4⟩
            have hQ4 := hP1.mid hbq hbw hU4
            go_wp2_with fail
            refine (qflag (· < w.heap.size) q hFq r _ hQ4).mono ?_
            rintro e w5 ⟨rfl, hQ5, hU5'⟩
            have hP5 := hP1.step hbq hbw hU4 hR4 hU5' hQ5
            have hU5 := (hU1.newOnly hU4 hbw).newOnly hU5' hqw
            clear hP1 hQ4 hR4 hR3 hQ5
            obtain ⟨v6, hv6⟩ := hP5.rd
            have hq6 := hP5.qr
            have hbl6 := blk_lt hv6.blk
            obtain ⟨A6, c6, hb6, hA6, hc6, hcm6, hF6⟩ := hq6
            have hz6 : ∀ w', Upd Nil w5.drew w' → w'.cell? ⟨q, 0, none⟩ = some (.slice A6 _ c6) := fun w' u => blk_cell (u.blk (blk_drew hb6) (fun h => h)) 0
            go_wp2_with fail
            refine wp_region_lex Nil [0, 1, 2, 3, 5, 6, 7, 8, 9, 4, 10, 11] (by kernel_rfl) (by kernel_rfl) rfl (by kernel_rfl) ?_
            simp only [inOrder, List.filterMap_cons, List.filterMap_nil, List.getElem?_cons_zero, List.getElem?_cons_succ]
            try simp only [Act.put, List.setIfInBounds_toArray, List.set_cons_zero, List.set_cons_succ]
            repeat
              first
              | (refine lex_pure (v := ?_) rfl rfl ?_ ?_
                 rotate_left
                 · intro w' hU'
                   go_simp
                   try with_reducible rfl
                 try simp only [Act.put, List.setIfInBounds_toArray, List.set_cons_zero, List.set_cons_succ])
              | (refine lex_skip rfl ?_
                 try simp only [Act.put, List.setIfInBounds_toArray, List.set_cons_zero, List.set_cons_succ])
            refine lex_fn (f := 54) (args := #[.pointer (some ⟨b, 0, none⟩)]) rfl rfl (by go_simp) ((left B b v6 _ _ (hv6.upd0 (Upd.refl Nil w5).drew)).mono ?_)
            rintro e w7 ⟨rfl, rfl⟩
            refine ⟨_, rfl, Upd.refl _ _, ?_⟩
            try simp only [Act.put, List.setIfInBounds_toArray, List.set_cons_zero, List.set_cons_succ]
            repeat
              first
              | (refine lex_pure (v := ?_) rfl rfl ?_ ?_
                 rotate_left
                 · intro w' hU'
                   go_simp
                   try with_reducible rfl
                 try simp only [Act.put, List.setIfInBounds_toArray, List.set_cons_zero, List.set_cons_succ])
              | (refine lex_skip rfl ?_
                 try simp only [Act.put, List.setIfInBounds_toArray, List.set_cons_zero, List.set_cons_succ])
            refine lex_done ?_
            go_wp2_with fail
            go_roundw
            case measure => simp [intOf]; omega
            case rel => exact ⟨k + 1, _, by omega, by simp, hP5.upd0 (Upd.refl Nil w5).drew, hU5.drew⟩
          · have hP1 : Pair B w.heap.size (wr.alloc (.cells #[.int .u8 ya, .int .i64 yn] 81)) b q r := hP.upd0 ((Upd.refl Nil wr).alloc _)
            have hU1 : Upd Nil w (wr.alloc (.cells #[.int .u8 ya, .int .i64 yn] 81)) := hU.alloc _
            obtain ⟨v3, hR3⟩ := hP1.rd
            go_wp2_with fail
            refine (done B b v3 r _ hR3).mono ?_
            rintro e w4 ⟨rfl, hR4, hU4⟩
            have hQ4 := hP1.mid hbq hbw hU4
            go_wp2_with fail
            refine (qdone (· < w.heap.size) q hFq r _ hQ4).mono ?_
            rintro e w5 ⟨rfl, hQ5, hU5'⟩
            have hP5 := hP1.step hbq hbw hU4 hR4 hU5' hQ5
            have hU5 := (hU1.newOnly hU4 hbw).newOnly hU5' hqw
            clear hP1 hQ4 hR4 hR3 hQ5
            obtain ⟨v6, hv6⟩ := hP5.rd
            have hq6 := hP5.qr
            have hbl6 := blk_lt hv6.blk
            obtain ⟨A6, c6, hb6, hA6, hc6, hcm6, hF6⟩ := hq6
            have hz6 : ∀ w', Upd Nil w5.drew w' → w'.cell? ⟨q, 0, none⟩ = some (.slice A6 _ c6) := fun w' u => blk_cell (u.blk (blk_drew hb6) (fun h => h)) 0
            go_wp2_with fail
            refine wp_region_lex Nil [0, 1, 2, 3, 5, 6, 7, 8, 9, 4, 10, 11] (by kernel_rfl) (by kernel_rfl) rfl (by kernel_rfl) ?_
            simp only [inOrder, List.filterMap_cons, List.filterMap_nil, List.getElem?_cons_zero, List.getElem?_cons_succ]
            try simp only [Act.put, List.setIfInBounds_toArray, List.set_cons_zero, List.set_cons_succ]
            repeat
              first
              | (refine lex_pure (v := ?_) rfl rfl ?_ ?_
                 rotate_left
                 · intro w' hU'
                   go_simp
                   try with_reducible rfl
                 try simp only [Act.put, List.setIfInBounds_toArray, List.set_cons_zero, List.set_cons_succ])
              | (refine lex_skip rfl ?_
                 try simp only [Act.put, List.setIfInBounds_toArray, List.set_cons_zero, List.set_cons_succ])
            refine lex_fn (f := 54) (args := #[.pointer (some ⟨b, 0, none⟩)]) rfl rfl (by go_simp) ((left B b v6 _ _ (hv6.upd0 (Upd.refl Nil w5).drew)).mono ?_)
            rintro e w7 ⟨rfl, rfl⟩
            refine ⟨_, rfl, Upd.refl _ _, ?_⟩
            try simp only [Act.put, List.setIfInBounds_toArray, List.set_cons_zero, List.set_cons_succ]
            repeat
              first
              | (refine lex_pure (v := ?_) rfl rfl ?_ ?_
                 rotate_left
                 · intro w' hU'
                   go_simp
                   try with_reducible rfl
                 try simp only [Act.put, List.setIfInBounds_toArray, List.set_cons_zero, List.set_cons_succ])
              | (refine lex_skip rfl ?_
                 try simp only [Act.put, List.setIfInBounds_toArray, List.set_cons_zero, List.set_cons_succ])
            refine lex_done ?_
            go_wp2_with fail
            go_roundw
            case measure => simp [intOf]; omega
            case rel => exact ⟨k + 1, _, by omega, by simp, hP5.upd0 (Upd.refl Nil w5).drew, hU5.drew⟩
        · obtain rfl : k = l.length := by omega
          obtain ⟨v3, hR3⟩ := hP.rd
          go_wp2_with fail
          refine (done B b v3 r _ hR3).mono ?_
          rintro e w4 ⟨rfl, hR4, hU4⟩
          have hQ4 := hP.mid hbq hbw hU4
          go_wp2_with fail
          refine (qdone (· < w.heap.size) q hFq r _ hQ4).mono ?_
          rintro e w5 ⟨rfl, hQ5, hU5'⟩
          have hU5 := (hU.newOnly hU4 hbw).newOnly hU5' hqw
          go_wp2_with fail
          go_ret
          exact ⟨ret_b (by simp), hU5⟩
end Go.Proofs.Ytcifkccaiekkeaa.Word
