/-
  The walk of almshouselaw01.WordPuts: it returns true and turns nothing that there was. Conditions: what the argument's slice holds.
-/
import Derived.Test.YtcifkccaiekkeaaWordD
import Derived.Test.YtcifkccaiekkeaaLex
namespace Go.Proofs.Ytcifkccaiekkeaa.Word
open Go.RowKit Go.Proofs.Ytcifkccaiekkeaa.Base
set_option linter.unusedVariables false
set_option linter.unusedSimpArgs false
/-- What a call that hands back bytes gives. -/
def Got (l : List UInt8) (w : World) (e : Ending) (w' : World) : Prop := ∃ A c, e = .returned (.slice A l.length c) ∧ Arg w' A 1 bc l ∧ Upd Nil w w'
theorem PutR.got {b : List UInt8} {v n : Int} {w w' : World} {e : Ending} (h : PutR b v n w e w') : Got (putL b v n) w e w' := by
  obtain ⟨x, rfl, hx, hU⟩ := h
  obtain ⟨A, c, rfl, hc⟩ := hx.form
  exact ⟨A, c, rfl, hx.cells bc_len (by omega), hU⟩
theorem TextR.got {b : List UInt8} {s : ByteArray} {w w' : World} {e : Ending} (h : TextR b s w e w') : Got (textL b s) w e w' := by
  obtain ⟨x, rfl, hx, hU⟩ := h
  obtain ⟨A, c, rfl, hc⟩ := hx.form
  exact ⟨A, c, rfl, hx.cells bc_len (by omega), hU⟩
theorem cv {A : Option Addr} {l : List UInt8} {w : World} (h : Arg w A 1 bc l) (c : Nat) : (convert 50 9 (.slice A l.length c)).run Try.prog w = .ok (.string ⟨l.toArray⟩) w := run_bstr (P := Try.prog) Try.underlying50 Try.underlying5 Try.underlying9 h c
set_option maxHeartbeats 4000000 in
set_option maxRecDepth 100000 in
theorem puts (A : Option Addr) (c : Nat) (b : List UInt8) (v n : Int) (s : ByteArray) (w : World) (hA : Arg w A 1 bc b) (hcl : b.length ≤ maxLen) (hsl : s.size ≤ maxLen) :
    Calls Try.prog 9 #[.slice A b.length c, .int .i64 v, .int .i64 n, .string s] w (RetB true w) := by
  unfold maxLen at hcl hsl
  by_cases hb : 500 < b.length
  · go_enter Try.func9, Try.ntmps9
    go_wp2_with (go_at_call 44; refine (fixed _).mono ?_; rintro e w1 ⟨rfl, hU1⟩)
    go_ret
    exact ⟨rfl, hU1⟩
  · by_cases hs : 70000 < s.size
    · go_enter Try.func9, Try.ntmps9
      go_wp2_with (go_at_call 44; refine (fixed _).mono ?_; rintro e w1 ⟨rfl, hU1⟩)
      go_ret
      exact ⟨rfl, hU1⟩
    · have k1 := fun w (hA : Arg w A 1 bc b) => (put A c b v n w hA (by omega)).mono (fun e w' h => PutR.got h)
      have k2 := fun w (hA : Arg w A 1 bc b) => (rput A c b v n w hA (by omega)).mono (fun e w' h => PutR.got h)
      have k3 := fun w (hA : Arg w A 1 bc b) => (text A c b s w hA (by omega)).mono (fun e w' h => TextR.got h)
      have k4 := fun w (hA : Arg w A 1 bc b) => (rtext A c b s w hA (by omega)).mono (fun e w' h => TextR.got h)
      have k5 := fun w => fits_w v n w
      have k6 := fun w => rfits v n w
      generalize putL b v n = p at *
      generalize textL b s = q at *
      generalize fitsB v n = ff at *
      have hpl := Lib.hid hb
      have hsl2 := Lib.hid hs
      go_enter Try.func9, Try.ntmps9
      go_wp2_with (go_at_call 44; refine (fixed _).mono ?_; rintro e w1 ⟨rfl, hU1⟩; have hA1 := hA.upd hU1; have hc1 := cv hA1 c)
      have hU1d := hU1.drew
      have hAd := hA.upd hU1d
      clear hb hs hc1 hA1 hU1 hA
      go_wp2_with fail
      refine wp_region_lex Nil [0, 1, 2, 5, 6, 7, 3, 4, 8, 9, 10, 11, 12, 13, 16, 17, 14, 15, 18, 19, 20, 21, 22, 23, 24, 26, 27, 25, 28, 29, 30, 31, 32, 33, 34, 35, 36, 37] (by kernel_rfl) (by kernel_rfl) rfl (by kernel_rfl) ?_
      simp only [inOrder, List.filterMap_cons, List.filterMap_nil, List.getElem?_cons_zero, List.getElem?_cons_succ]
      try simp only [Act.put, List.setIfInBounds_toArray, List.set_cons_zero, List.set_cons_succ]
      repeat
        first
        | (refine lex_pure (v := ?_) rfl rfl ?_ ?_
           rotate_left
           · intro w' hU'
             go_simp
             try with_reducible rfl
           try simp only [Act.put, List.setIfInBounds_toArray, List.set_cons_zero, List.set_cons_succ])
        | (refine lex_skip rfl ?_
           try simp only [Act.put, List.setIfInBounds_toArray, List.set_cons_zero, List.set_cons_succ])
      refine lex_fn (f := 55) (args := #[.slice A b.length c, .int .i64 v, .int .i64 n]) rfl rfl (by go_simp) ((k1 _ hAd).mono ?_)
      rintro e w2 ⟨A2, c2, rfl, hA2, hU2⟩
      refine ⟨_, rfl, hU2, ?_⟩
      have hc2 : ∀ w', Upd Nil w2 w' → (convert 50 9 (.slice A2 p.length c2)).run Try.prog w' = .ok (.string ⟨p.toArray⟩) w' := fun w' u => cv (hA2.upd u) c2
      try simp only [Act.put, List.setIfInBounds_toArray, List.set_cons_zero, List.set_cons_succ]
      repeat
        first
        | (refine lex_pure (v := ?_) rfl rfl ?_ ?_
           rotate_left
           · intro w' hU'
             go_simp
             try with_reducible rfl
           try simp only [Act.put, List.setIfInBounds_toArray, List.set_cons_zero, List.set_cons_succ])
        | (refine lex_skip rfl ?_
           try simp only [Act.put, List.setIfInBounds_toArray, List.set_cons_zero, List.set_cons_succ])
      refine lex_fn (f := 56) (args := #[.slice A b.length c, .int .i64 v, .int .i64 n]) rfl rfl (by go_simp) ((k2 _ (hAd.upd hU2)).mono ?_)
      rintro e w3 ⟨A3, c3, rfl, hA3, hU3⟩
      refine ⟨_, rfl, hU3, ?_⟩
      have hc3 : ∀ w', Upd Nil w3 w' → (convert 50 9 (.slice A3 p.length c3)).run Try.prog w' = .ok (.string ⟨p.toArray⟩) w' := fun w' u => cv (hA3.upd u) c3
      have hU03 := hU2.tr hU3
      clear hc2
      try simp only [Act.put, List.setIfInBounds_toArray, List.set_cons_zero, List.set_cons_succ]
      repeat
        first
        | (refine lex_pure (v := ?_) rfl rfl ?_ ?_
           rotate_left
           · intro w' hU'
             go_simp
             try with_reducible rfl
           try simp only [Act.put, List.setIfInBounds_toArray, List.set_cons_zero, List.set_cons_succ])
        | (refine lex_skip rfl ?_
           try simp only [Act.put, List.setIfInBounds_toArray, List.set_cons_zero, List.set_cons_succ])
      refine lex_fn (f := 57) (args := #[.slice A b.length c, .string s]) rfl rfl (by go_simp) ((k3 _ (hAd.upd hU03)).mono ?_)
      rintro e w4 ⟨A4, c4, rfl, hA4, hU4⟩
      refine ⟨_, rfl, hU4, ?_⟩
      have hc4 : ∀ w', Upd Nil w4 w' → (convert 50 9 (.slice A4 q.length c4)).run Try.prog w' = .ok (.string ⟨q.toArray⟩) w' := fun w' u => cv (hA4.upd u) c4
      have hU04 := hU03.tr hU4
      clear hc3
      try simp only [Act.put, List.setIfInBounds_toArray, List.set_cons_zero, List.set_cons_succ]
      repeat
        first
        | (refine lex_pure (v := ?_) rfl rfl ?_ ?_
           rotate_left
           · intro w' hU'
             go_simp
             try with_reducible rfl
           try simp only [Act.put, List.setIfInBounds_toArray, List.set_cons_zero, List.set_cons_succ])
        | (refine lex_skip rfl ?_
           try simp only [Act.put, List.setIfInBounds_toArray, List.set_cons_zero, List.set_cons_succ])
      refine lex_fn (f := 58) (args := #[.slice A b.length c, .string s]) rfl rfl (by go_simp) ((k4 _ (hAd.upd hU04)).mono ?_)
      rintro e w5 ⟨A5, c5, rfl, hA5, hU5⟩
      refine ⟨_, rfl, hU5, ?_⟩
      have hc5 : ∀ w', Upd Nil w5 w' → (convert 50 9 (.slice A5 q.length c5)).run Try.prog w' = .ok (.string ⟨q.toArray⟩) w' := fun w' u => cv (hA5.upd u) c5
      have hU05 := hU04.tr hU5
      clear hc4
      have hcb : ∀ w', Upd Nil w5 w' → (convert 50 9 (.slice A b.length c)).run Try.prog w' = .ok (.string ⟨b.toArray⟩) w' := fun w' u => cv ((hAd.upd hU05).upd u) c
      try simp only [Act.put, List.setIfInBounds_toArray, List.set_cons_zero, List.set_cons_succ]
      repeat
        first
        | (refine lex_pure (v := ?_) rfl rfl ?_ ?_
           rotate_left
           · intro w' hU'
             go_simp
             try with_reducible rfl
           try simp only [Act.put, List.setIfInBounds_toArray, List.set_cons_zero, List.set_cons_succ])
        | (refine lex_skip rfl ?_
           try simp only [Act.put, List.setIfInBounds_toArray, List.set_cons_zero, List.set_cons_succ])
      refine lex_fn (f := 59) (args := #[.int .i64 v, .int .i64 n]) rfl rfl (by go_simp) ((k5 _).mono ?_)
      rintro e w6 ⟨rfl, rfl⟩
      refine ⟨_, rfl, Upd.refl _ _, ?_⟩
      try simp only [Act.put, List.setIfInBounds_toArray, List.set_cons_zero, List.set_cons_succ]
      repeat
        first
        | (refine lex_pure (v := ?_) rfl rfl ?_ ?_
           rotate_left
           · intro w' hU'
             go_simp
             try with_reducible rfl
           try simp only [Act.put, List.setIfInBounds_toArray, List.set_cons_zero, List.set_cons_succ])
        | (refine lex_skip rfl ?_
           try simp only [Act.put, List.setIfInBounds_toArray, List.set_cons_zero, List.set_cons_succ])
      refine lex_fn (f := 60) (args := #[.int .i64 v, .int .i64 n]) rfl rfl (by go_simp) ((k6 _).mono ?_)
      rintro e w6 ⟨rfl, rfl⟩
      refine ⟨_, rfl, Upd.refl _ _, ?_⟩
      try simp only [Act.put, List.setIfInBounds_toArray, List.set_cons_zero, List.set_cons_succ]
      repeat
        first
        | (refine lex_pure (v := ?_) rfl rfl ?_ ?_
           rotate_left
           · intro w' hU'
             go_simp
             try with_reducible rfl
           try simp only [Act.put, List.setIfInBounds_toArray, List.set_cons_zero, List.set_cons_succ])
        | (refine lex_skip rfl ?_
           try simp only [Act.put, List.setIfInBounds_toArray, List.set_cons_zero, List.set_cons_succ])
      refine lex_done ?_
      go_wp2
      go_ret
      exact ⟨ret_b (by simp), hU1d.tr hU05⟩
end Go.Proofs.Ytcifkccaiekkeaa.Word
