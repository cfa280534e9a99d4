/-
  The walks of frame.Open and frame.Whole. Conditions: each lemma's own.
-/
import Derived.Test.YthppheklnplljaaFrameA
import Derived.Test.YthppheklnplljaaWordC
namespace Go.Proofs.Ythppheklnplljaa.Frame
open Go.RowKit Go.Proofs.Ythppheklnplljaa.Base Go.Proofs.Ythppheklnplljaa.Word Go.Proofs.Ythppheklnplljaa.Sum
set_option linter.unusedVariables false
set_option linter.unusedSimpArgs false
def OpR (r : Op) (w : World) (e : Ending) (w' : World) : Prop := ∃ v, e = .returned (.tuple #[.int .i64 r.k, v, .int .i64 r.n, .int .i64 r.e]) ∧ Sl w' w.heap.size 5 1 bc v r.body ∧ Upd Nil w w'
/-- What the first two numbers are. -/
theorem heads (b : List UInt8) (h : 3 ≤ b.length) : (⟨b, 0⟩ : Rd).number 1 = (num (b.take 1), ⟨b.drop 1, 0⟩) ∧ (⟨b.drop 1, 0⟩ : Rd).number 2 = (sz b, ⟨b.drop 3, 0⟩) := by
  constructor
  · have : szd 1 = true := rfl
    have hl : ¬ b.length < (1 : Int).toNat := by show ¬ b.length < 1; omega
    unfold Rd.number Rd.next
    rw [if_pos this]
    simp only [ne_eq, not_true_eq_false, if_false, hl]
    rfl
  · have : szd 2 = true := rfl
    have hl : ¬ (b.drop 1).length < (2 : Int).toNat := by show ¬ (b.drop 1).length < 2; rw [List.length_drop]; omega
    unfold Rd.number Rd.next sz
    rw [if_pos this]
    simp only [ne_eq, not_true_eq_false, if_false, hl]
    rw [show (2 : Int).toNat = 2 from rfl, List.drop_drop]
theorem heads_no (b : List UInt8) (h : b.length < 3) : ∃ x r1 r2, (⟨b, 0⟩ : Rd).number 1 = (x, r1) ∧ r1.number 2 = (0, r2) ∧ r2.l.length < 4 := by
  match b, h with
  | [], _ => exact ⟨_, _, ⟨[], 2⟩, rfl, rfl, by decide⟩
  | [x], _ => exact ⟨_, _, ⟨[], 2⟩, rfl, rfl, by decide⟩
  | [x, y], _ => exact ⟨_, _, ⟨[y], 2⟩, rfl, rfl, by simp⟩
/-- New blocks alone are written to. -/
def New (n : Nat) : Nat → Prop := fun x => n ≤ x
theorem arg_new {A : Option Addr} {l : List UInt8} {w w' : World} {n : Nat} (h : Arg w A 1 bc l) (hn : w.heap.size ≤ n) (u : Upd (New n) w w') : Arg w' A 1 bc l := by
  rcases h with h | ⟨b, off, h1, h2, h3⟩
  · exact .inl h
  · exact .inr ⟨b, off, h1, Nat.lt_of_lt_of_le h2 u.size, fun i hi j hj => (u.cell (p := ⟨b, off + i * 1 + j, none⟩) h2 (fun e => by have : n ≤ b := e; omega)).trans (h3 i hi j hj)⟩
theorem upd_new {w w' : World} {n : Nat} (u : Upd (New n) w w') (hn : w.heap.size ≤ n) : Upd Nil w w' := ⟨u.os, u.output, u.size, fun k hk _ => u.block k hk (fun e => by have : n ≤ k := e; omega)⟩
/-- The number of the last four bytes. -/
theorem tail4 (l : List UInt8) (h : 4 ≤ l.length) : (⟨l, 0⟩ : Rd).number 4 = (num (l.take 4), ⟨l.drop 4, 0⟩) := by
  have : szd 4 = true := rfl
  have hl : ¬ l.length < (4 : Int).toNat := by show ¬ l.length < 4; omega
  unfold Rd.number Rd.next
  rw [if_pos this]
  simp only [ne_eq, not_true_eq_false, if_false, hl]
  rfl
theorem mul1 {A : Option Addr} {k : Nat} : A.map (fun x => x.add (k * 1)) = A.map (fun x => x.add k) := by rw [Nat.mul_one]
theorem left_n (B b : Nat) (v : Value) (r : Rd) (n : Nat) (hn : r.l.length = n) (w : World) (h : Rdr B w b v r) : Calls Try.prog 51 #[.pointer (some ⟨b, 0, none⟩)] w fun e w' => e = .returned (.int .i64 (n : Nat)) ∧ w = w' := by
  subst hn
  exact left B b v r w h
set_option maxHeartbeats 8000000 in
set_option maxRecDepth 100000 in
theorem opens (A : Option Addr) (c : Nat) (b : List UInt8) (w : World) (hA : Arg w A 1 bc b) (hc : b.length ≤ c) (hcm : c ≤ maxLen) (hb : b.length ≤ 140737488355328) :
    Calls Try.prog 16 #[.slice A b.length c] w (OpR (opn b) w) := by
  unfold maxLen at hcm
  by_cases h3 : b.length < 3
  · have ho : Hid (opn b = ⟨0, [], 0, 2⟩) := by show _ = _; unfold opn; rw [if_pos (.inl h3)]
    obtain ⟨x, r1, r2, e1, e2, hlt⟩ := heads_no b h3
    have eH := Lib.hid (And.intro e1 e2)
    clear e1 e2
    go_enter Try.func16, Try.ntmps16
    go_wp2_with fail
    refine (read A c b w hA hb).mono ?_
    rintro e w1 ⟨p, v1, rfl, hp, hR, hU1⟩
    go_wp2_with fail
    refine (number _ _ _ _ 1 _ hR).mono ?_
    rw [eH.out.1]
    rintro e w2 ⟨rfl, ⟨v2, hR2⟩, hU2⟩
    go_wp2_with fail
    refine (number _ _ _ _ 2 _ hR2).mono ?_
    rw [eH.out.2]
    rintro e w3 ⟨rfl, ⟨v3, hR3⟩, hU3⟩
    have hU03 := (hU1.newOnly hU2 hp).newOnly hU3 hp
    have hz0 : ((0 : Nat) : Int) = 0 := rfl
    have hltI : (r2.l.length : Int) < 4 := by omega
    go_wp2_with fail
    refine (left _ _ _ _ _ hR3).mono ?_
    rintro e w4 ⟨rfl, rfl⟩
    go_wp2_with fail
    rw [ho.out]
    exact bodyPost_ret (v := .tuple #[.int .i64 0, .slice none 0 0, .int .i64 0, .int .i64 2]) (by simp [results, Try.results16, go_sem]) rfl ⟨_, rfl, Sl.nil _ _ _ _ _, hU03⟩
  · obtain ⟨e1, e2⟩ := heads b (by omega)
    have eH := Lib.hid (And.intro e1 e2)
    clear e1 e2
    have hszl := sz_lt b
    obtain ⟨m, hm⟩ : ∃ m, b.length = m + 3 := ⟨b.length - 3, by omega⟩
    have hdl : Hid ((b.drop 3).length = m) := by show _ = _; rw [List.length_drop]; omega
    have hbl : ¬ ((b.length : Int) < 3) := by omega
    have hmH := Lib.hid hm
    by_cases h7 : b.length < sz b + 7
    · have ho : Hid (opn b = ⟨0, [], 0, 2⟩) := by show _ = _; unfold opn; rw [if_pos (.inr h7)]
      generalize sz b = n at *
      have hmn : (m : Int) < (n : Int) + 4 := by omega
      clear hm
      go_enter Try.func16, Try.ntmps16
      go_wp2_with fail
      refine (read A c b w hA hb).mono ?_
      rintro e w1 ⟨p, v1, rfl, hp, hR, hU1⟩
      go_wp2_with fail
      refine (number _ _ _ _ 1 _ hR).mono ?_
      rw [eH.out.1]
      rintro e w2 ⟨rfl, ⟨v2, hR2⟩, hU2⟩
      go_wp2_with fail
      refine (number _ _ _ _ 2 _ hR2).mono ?_
      rw [eH.out.2]
      rintro e w3 ⟨rfl, ⟨v3, hR3⟩, hU3⟩
      have hU03 := (hU1.newOnly hU2 hp).newOnly hU3 hp
      go_wp2_with fail
      refine (left_n _ _ _ _ m hdl.out _ hR3).mono ?_
      rintro e w4 ⟨rfl, rfl⟩
      go_wp2_with fail
      rw [ho.out]
      exact bodyPost_ret (v := .tuple #[.int .i64 0, .slice none 0 0, .int .i64 0, .int .i64 2]) (by simp [results, Try.results16, go_sem]) rfl ⟨_, rfl, Sl.nil _ _ _ _ _, hU03⟩
    · have hopn : opn b = if num ((b.drop (3 + sz b)).take 4) ≠ onL 0 (b.take (3 + sz b)) then ⟨0, [], 0, 14⟩ else ⟨num (b.take 1), (b.take (3 + sz b)).drop 3, 3 + sz b + 4, 0⟩ := by
        unfold opn
        rw [if_neg (by omega)]
      have ht4 := tail4 (b.drop (3 + sz b)) (by rw [List.length_drop]; omega)
      have hT := arg_take hA (3 + sz b)
      have hD := arg_drop hA (3 + sz b) c hc (by omega)
      rw [if_neg (by omega), mul1] at hD
      have hB := arg_drop hT 3 c (by rw [List.length_take]; omega) (by rw [List.length_take]; omega)
      rw [if_neg (by omega)] at hB
      have hTl : (b.take (3 + sz b)).length = 3 + sz b := List.length_take_of_le (by omega)
      have hDl : (b.drop (3 + sz b)).length = b.length - (3 + sz b) := List.length_drop
      have hBl : ((b.take (3 + sz b)).drop 3).length = sz b := by rw [List.length_drop, hTl]; omega
      have kRead := fun w' (u : Upd Nil w w') => read (A.map (fun x => x.add (3 + sz b))) (c - (3 + sz b)) (b.drop (3 + sz b)) w' (hD.upd u) (by rw [hDl]; omega)
      have kOf := fun w' (h : Arg w' A 1 bc (b.take (3 + sz b))) => Sum.Of A c (b.take (3 + sz b)) w' h (by rw [hTl]; unfold maxLen; omega)
      have kCl := fun w' (u : Upd Nil w w') => cloneU8 (A.map (fun x => x.add (3 * 1))) (c - 3) ((b.take (3 + sz b)).drop 3) w' (hB.upd u) (by rw [hBl]; omega)
      rw [hDl] at kRead
      rw [hTl] at kOf
      rw [hBl] at kCl
      have hsm := onL_lt 0 (b.take (3 + sz b))
      have hnm : num ((b.drop (3 + sz b)).take 4) < 4294967296 := by
        have h1 := num_lt ((b.drop (3 + sz b)).take 4)
        rw [show ((b.drop (3 + sz b)).take 4).length = 4 by rw [List.length_take, List.length_drop]; omega] at h1
        exact h1
      generalize onL 0 (b.take (3 + sz b)) = sm at *
      generalize num ((b.drop (3 + sz b)).take 4) = nm at *
      have hsw : IntKind.i64.wrap (sm : Int) = sm := IntWalk.i64_in _ (by omega)
      generalize hbody : (b.take (3 + sz b)).drop 3 = body at *
      generalize num (b.take 1) = kn at *
      generalize b.drop (3 + sz b) = rest at *
      generalize b.take (3 + sz b) = front at *
      generalize sz b = n at *
      have t4H := Lib.hid ht4
      have opH := Lib.hid hopn
      have lens := Lib.hid (And.intro hTl (And.intro hDl hBl))
      have hnc : (3 + n : Nat) ≤ c := by omega
      have hnl : (3 + n : Nat) ≤ b.length := by omega
      have hmn : ¬ ((m : Int) < (n : Int) + 4) := by omega
      have hadd : A.map (fun x => x.add 0) = A := by cases A <;> rfl
      clear ht4 hopn hTl hDl hBl hbody hm hsm hnm
      go_enter Try.func16, Try.ntmps16
      go_wp2_with fail
      refine (read A c b w hA hb).mono ?_
      rintro e w1 ⟨p, v1, rfl, hp, hR, hU1⟩
      go_wp2_with fail
      refine (number _ _ _ _ 1 _ hR).mono ?_
      rw [eH.out.1]
      rintro e w2 ⟨rfl, ⟨v2, hR2⟩, hU2⟩
      go_wp2_with fail
      refine (number _ _ _ _ 2 _ hR2).mono ?_
      rw [eH.out.2]
      rintro e w3 ⟨rfl, ⟨v3, hR3⟩, hU3⟩
      have hU03 := (hU1.newOnly hU2 hp).newOnly hU3 hp
      go_wp2_with fail
      refine (left_n _ _ _ _ m hdl.out _ hR3).mono ?_
      rintro e w4 ⟨rfl, rfl⟩
      go_wp2_with fail
      have hU3d := hU03.drew
      have f1 : ((3 : Int) + (n : Int)).toNat = 3 + n := by omega
      have f2 : (0 : Int) ≤ 3 + (n : Int) := by omega
      have f3 : (3 : Int) + (n : Int) ≤ (b.length : Int) := by omega
      have f4 : (3 : Int) + (n : Int) ≤ (c : Int) := by omega
      have f5 : ¬ c = 3 + n := by omega
      have hN3 : w.heap.size ≤ w3.drew.heap.size := hU3d.size
      refine wp_region_lex (New w3.drew.heap.size) [0, 1, 2, 5, 6, 7, 3, 4, 8, 9, 10] (by kernel_rfl) (by kernel_rfl) rfl (by kernel_rfl) ?_
      simp only [inOrder, List.filterMap_cons, List.filterMap_nil, List.getElem?_cons_zero, List.getElem?_cons_succ]
      try simp only [Act.put, List.setIfInBounds_toArray, List.set_cons_zero, List.set_cons_succ]
      repeat
        first
        | (refine lex_pure (v := ?_) rfl rfl ?_ ?_
           rotate_left
           · intro w' hU'
             go_simp
             try with_reducible rfl
           try simp only [Act.put, List.setIfInBounds_toArray, List.set_cons_zero, List.set_cons_succ])
        | (refine lex_skip rfl ?_
           try simp only [Act.put, List.setIfInBounds_toArray, List.set_cons_zero, List.set_cons_succ])
      refine lex_fn (f := 49) (args := #[.slice (A.map (fun x => x.add (3 + n))) (b.length - (3 + n)) (c - (3 + n))]) rfl rfl (by go_simp) ((kRead _ hU3d).mono ?_)
      rintro e w5 ⟨p5, v5, rfl, hp5, hR5, hU5⟩
      refine ⟨_, rfl, hU5.mono (fun _ h => h.elim), ?_⟩
      have hU05 := hU3d.tr hU5
      try simp only [Act.put, List.setIfInBounds_toArray, List.set_cons_zero, List.set_cons_succ]
      repeat
        first
        | (refine lex_pure (v := ?_) rfl rfl ?_ ?_
           rotate_left
           · intro w' hU'
             go_simp
             try with_reducible rfl
           try simp only [Act.put, List.setIfInBounds_toArray, List.set_cons_zero, List.set_cons_succ])
        | (refine lex_skip rfl ?_
           try simp only [Act.put, List.setIfInBounds_toArray, List.set_cons_zero, List.set_cons_succ])
      refine lex_fn (f := 50) (args := #[.pointer (some ⟨p5, 0, none⟩), .int .i64 4]) rfl rfl (by go_simp) ((number _ _ _ _ 4 _ hR5).mono ?_)
      rw [t4H.out]
      rintro e w6 ⟨rfl, -, hU6⟩
      refine ⟨_, rfl, hU6.mono (fun x hx => by have : x = p5 := hx; subst this; exact hp5), ?_⟩
      have hU06 := hU05.newOnly hU6 (Nat.le_trans hN3 hp5)
      try simp only [Act.put, List.setIfInBounds_toArray, List.set_cons_zero, List.set_cons_succ]
      repeat
        first
        | (refine lex_pure (v := ?_) rfl rfl ?_ ?_
           rotate_left
           · intro w' hU'
             go_simp
             try with_reducible rfl
           try simp only [Act.put, List.setIfInBounds_toArray, List.set_cons_zero, List.set_cons_succ])
        | (refine lex_skip rfl ?_
           try simp only [Act.put, List.setIfInBounds_toArray, List.set_cons_zero, List.set_cons_succ])
      refine lex_fn (f := 46) (args := #[.slice A (3 + n) c]) rfl rfl (by go_simp) ((kOf _ (hT.upd hU06)).mono ?_)
      rintro e w7 ⟨rfl, hU7⟩
      refine ⟨_, rfl, hU7.mono (fun _ h => h.elim), ?_⟩
      have hU07 := hU06.tr hU7
      try simp only [Act.put, List.setIfInBounds_toArray, List.set_cons_zero, List.set_cons_succ]
      repeat
        first
        | (refine lex_pure (v := ?_) rfl rfl ?_ ?_
           rotate_left
           · intro w' hU'
             go_simp
             try with_reducible rfl
           try simp only [Act.put, List.setIfInBounds_toArray, List.set_cons_zero, List.set_cons_succ])
        | (refine lex_skip rfl ?_
           try simp only [Act.put, List.setIfInBounds_toArray, List.set_cons_zero, List.set_cons_succ])
      refine lex_done ?_
      by_cases he : nm = sm
      · have ho : Hid (opn b = ⟨kn, body, 3 + n + 4, 0⟩) := by
          show _ = _
          rw [opH.out, if_neg (by simpa using he)]
        subst he
        have hneb : ((nm : Int) != (nm : Int)) = false := by simp
        rw [mul1] at kCl
        go_wp2_with fail
        refine (kCl _ hU07).mono ?_
        rintro e w8 ⟨x8, rfl, hx8, hU8⟩
        go_wp2_with fail
        rw [ho.out]
        exact bodyPost_ret (v := .tuple #[.int .i64 kn, x8, .int .i64 (3 + (n : Int) + 4), .int .i64 0]) (by simp [results, Try.results16, go_sem]) rfl ⟨_, rfl, hx8.lower hU07.size, hU07.tr hU8⟩
      · have ho : Hid (opn b = ⟨0, [], 0, 14⟩) := by
          show _ = _
          rw [opH.out, if_pos he]
        have hneb : ((nm : Int) != (sm : Int)) = true := by rw [bne_iff_ne]; intro e; exact he (by exact_mod_cast e)
        go_wp2_with fail
        rw [ho.out]
        exact bodyPost_ret (v := .tuple #[.int .i64 0, .slice none 0 0, .int .i64 0, .int .i64 14]) (by simp [results, Try.results16, go_sem]) rfl ⟨_, rfl, Sl.nil _ _ _ _ _, hU07⟩
end Go.Proofs.Ythppheklnplljaa.Frame
