/-
  The reference reads the records at the beginning of bytes. Conditions: what the argument's slice holds.
-/
import Derived.Test.YthppheklnplljaaDeltaE
import Derived.Test.YthppheklnplljaaDeltaI
namespace Go.Proofs.Ythppheklnplljaa.Delta
open Go.RowKit Go.Proofs.Ythppheklnplljaa.Base Go.Proofs.Ythppheklnplljaa.Word Go.Proofs.Ythppheklnplljaa.Frame
set_option linter.unusedVariables false
set_option linter.unusedSimpArgs false
theorem next_one (b : List UInt8) (first : Int) (s : List (List Mv) × Nat) : nextV b first s = if (oneV (b.drop s.2) (first + s.1.length)).2 = 0 then none else some (s.1 ++ [(oneV (b.drop s.2) (first + s.1.length)).1], s.2 + (oneV (b.drop s.2) (first + s.1.length)).2) := by
  unfold nextV oneV
  by_cases h1 : (opn (b.drop s.2)).e ≠ 0 ∨ (opn (b.drop s.2)).k ≠ 68
  · rw [if_pos h1, if_pos h1, if_pos rfl]
  · rw [if_neg h1, if_neg h1]
    by_cases h2 : (bodyV (opn (b.drop s.2)).body (first + s.1.length)).2 = false
    · rw [if_pos h2, if_pos h2, if_pos rfl]
    · rw [if_neg h2, if_neg h2]
      have hn := (opn_n (b.drop s.2) (by simpa using fun e => h1 (.inl e))).1
      rw [if_neg (by simp only; omega)]
theorem one_n (b : List UInt8) (number : Int) : (oneV b number).2 ≤ b.length := by
  unfold oneV
  by_cases h1 : (opn b).e ≠ 0 ∨ (opn b).k ≠ 68
  · rw [if_pos h1]; exact Nat.zero_le _
  · rw [if_neg h1]
    by_cases h2 : (bodyV (opn b).body number).2 = false
    · rw [if_pos h2]; exact Nat.zero_le _
    · rw [if_neg h2]
      exact (opn_n b (by simpa using fun e => h1 (.inl e))).2.1
theorem elemSRM : Elem Try.prog 57 51 (.slice none 0 0) 1 24 sv := ⟨Try.underlying57, by kernel_rfl, rfl, by omega, sv_len, sv_one⟩
/-- A row of rows of the reference's moves. -/
def RRecs (w : World) (base : Nat) (V : Value) (recs : List (List Mv)) : Prop := ∃ xs : List SlV, Sl w base 51 1 sv V xs ∧ xs.length = recs.length ∧ ∀ i (h : i < xs.length) (h2 : i < recs.length), Sl w base 48 4 mvC (.slice xs[i].1 xs[i].2.1 xs[i].2.2) recs[i]
theorem RRecs.upd0 {w w' : World} {base : Nat} {V : Value} {recs : List (List Mv)} (h : RRecs w base V recs) (u : Upd Nil w w') : RRecs w' base V recs := by
  obtain ⟨xs, h1, h2, h3⟩ := h
  exact ⟨xs, h1.upd0 u, h2, fun i hi hi2 => (h3 i hi hi2).upd0 u⟩
theorem RRecs.nil (w : World) (base : Nat) : RRecs w base (.slice none 0 0) [] := ⟨[], Sl.nil _ _ _ _ _, rfl, fun i hi => absurd hi (by simp)⟩
theorem rapart_types {w : World} {base : Nat} {V v : Value} {xs : List SlV} {l : List Mv} (h : Sl w base 51 1 sv V xs) (h2 : Sl w base 48 4 mvC v l) (k : Nat) (hk : v.ownBlock = some k) : some k ≠ V.ownBlock := fun e => by
  obtain ⟨_, c1, e1⟩ := h.typed k e.symm
  obtain ⟨_, c2, e2⟩ := h2.typed k hk
  rw [e1] at e2
  cases e2
theorem RRecs.add {w w' : World} {base : Nat} {V V' : Value} {recs : List (List Mv)} {xs : List SlV} (h1 : Sl w base 51 1 sv V xs) (h2 : xs.length = recs.length) (h3 : ∀ i (h : i < xs.length) (h2 : i < recs.length), Sl w base 48 4 mvC (.slice xs[i].1 xs[i].2.1 xs[i].2.2) recs[i])
    {p : SlV} {rec : List Mv} (hp : Sl w base 48 4 mvC (.slice p.1 p.2.1 p.2.2) rec) (hg : w.grownBy w' V.ownBlock) (h4 : Sl w' base 51 1 sv V' (xs ++ [p])) : RRecs w' base V' (recs ++ [rec]) := by
  refine ⟨_, h4, by simp [h2], fun i hi hi2 => ?_⟩
  by_cases hlt : i < xs.length
  · rw [List.getElem_append_left hlt, List.getElem_append_left (by omega)]
    exact (h3 i hlt (by omega)).grown hg (rapart_types h1 (h3 i hlt (by omega)))
  · have hie : i = xs.length := by simp at hi; omega
    subst hie
    rw [List.getElem_append_right (by omega), List.getElem_append_right (by omega)]
    simp only [h2, Nat.sub_self, List.getElem_cons_zero]
    exact hp.grown hg (rapart_types h1 hp)
def RReadsR (r : List (List Mv) × Nat) (w : World) (e : Ending) (w' : World) : Prop := ∃ v, e = .returned (.tuple #[v, .int .i64 (r.2 : Int)]) ∧ RRecs w' w.heap.size v r.1 ∧ Upd Nil w w'
set_option maxHeartbeats 4000000 in
set_option maxRecDepth 100000 in
theorem rreadC (A : Option Addr) (c : Nat) (b : List UInt8) (first : Int) (w : World) (hA : Arg w A 1 bc b) (hc : b.length ≤ c) (hcm : c ≤ maxLen) (hb : b.length ≤ 100000) (hf : -2199023255552 ≤ first ∧ first ≤ 2199023255552) :
    Calls Try.prog 36 #[.slice A b.length c, .int .i64 first] w (RReadsR (readV b first) w) := by
  generalize hRR : RReadsR (readV b first) w = RR
  have hRH := Lib.hid hRR
  clear hRR
  go_enter Try.func36, Try.ntmps36
  go_wp2_with fail
  go_loopw [6, 7] (fun s6 s7 wr => ∃ (recs : List (List Mv)) (at' f : Nat) (V : Value), s6 = V ∧ s7 = .int .i64 (at' : Int) ∧ at' ≤ b.length ∧ b.length - at' < f ∧ readF b first f (recs, at') = readV b first ∧ RRecs wr w.heap.size V recs ∧ recs.length ≤ at' ∧ Upd Nil w wr) (fun _ s7 _ => b.length - (intOf s7).toNat)
  case atStart => exact ⟨[], 0, b.length + 1, _, rfl, rfl, by omega, by omega, rfl, RRecs.nil _ _, by simp, Upd.refl _ _⟩
  case round =>
    obtain ⟨recs, at', f, V, rfl, rfl, hat, hfu, hrf, hV, hrl, hU⟩ := hrel
    have hD := arg_drop (hA.upd hU) at' c hc hat
    have hBl : b.length - at' = (b.drop at').length := by rw [List.length_drop]
    have hDl : (b.drop at').length ≤ c - at' := by rw [List.length_drop]; omega
    have hcx : c ≤ 9223372036854775807 := by unfold maxLen at hcm; omega
    have hcm2 : c - at' ≤ maxLen := by unfold maxLen at *; omega
    have hi1 : (0 : Int) ≤ (at' : Int) := by omega
    have hi2 : (at' : Int) ≤ (b.length : Int) := by omega
    have hi3 : (b.length : Int) ≤ (c : Int) := by omega
    have hnx := next_one b first (recs, at')
    have hon := one_n (b.drop at') (first + recs.length)
    simp only at hnx
    have hdl2 : (b.drop at').length ≤ 140737488355328 := by rw [List.length_drop]; omega
    obtain ⟨xs, hS, hxl, hrr⟩ := hV
    rw [← hBl] at hon
    rw [← hxl] at hnx hon
    simp only [Nat.mul_one] at hD
    generalize hbd : b.drop at' = bd at *
    have hbdH := Lib.hid hbd
    clear hbd
    have hw1 := wr2 (x := first + (xs.length : Int)) (by omega)
    have hcl : xs.length ≤ 100000 := by rw [hxl]; omega
    have q := fun A c h h1 h2 => oneC A c bd (first + (xs.length : Int)) wr h h1 h2 hdl2
    generalize oneV bd (first + (xs.length : Int)) = ov at *
    obtain ⟨rec, n⟩ := ov
    unfold OneR at q
    simp only at q hnx hon
    have hpk := Lib.hid (And.intro hat (And.intro hfu (And.intro hrf (And.intro hrl (And.intro hon (And.intro hnx hxl))))))
    have hw2 := wr2 (x := (at' : Int) + (n : Int)) (by omega)
    clear hfu hrf hnx hon hxl
    obtain ⟨Ax, cx, rfl, _⟩ := hS.form
    by_cases hca : c = at'
    · subst hca
      rw [if_pos rfl] at hD
      have hbl0 : bd.length = 0 := by omega
      have hn0 : n = 0 := by have := hpk.out.2.2.2.2.1; omega
      have hex : readV b first = (recs, c) := by
        rw [← hpk.out.2.2.1]
        exact readF_none (by rw [hpk.out.2.2.2.2.2.1, if_pos hn0])
      have hxH := Lib.hid hex
      have qo := q A 0 hD (by omega) (by unfold maxLen; omega)
      clear hex hbl0
      subst hn0
      go_wp2_with fail
      refine qo.mono ?_
      rintro e w2 ⟨v, rfl, hv, hU2⟩
      have hS2 := hS.upd0 hU2
      have hrr2 := fun i h h2 => (hrr i h h2).upd0 hU2
      have hU02 := hU.tr hU2
      go_wp2_with fail
      rw [← hRH.out, hxH.out]
      exact ⟨_, rfl, ⟨xs, hS2, hpk.out.2.2.2.2.2.2, hrr2⟩, hU02⟩
    · rw [if_neg hca] at hD
      go_wp2_with fail
      generalize A.map (fun x => x.add at') = A' at *
      refine (q A' (c - at') hD hDl hcm2).mono ?_
      rintro e w2 ⟨v, rfl, hv, hU2⟩
      obtain ⟨C, cc, rfl, _⟩ := hv.form
      have hS3 := hS.upd0 hU2
      have hrr3 := fun i h h2 => (hrr i h h2).upd0 hU2
      have hU03 := hU.tr hU2
      have hsz3 := hU03.size
      by_cases h1 : n = 0
      · have hex : readV b first = (recs, at') := by
          rw [← hpk.out.2.2.1]
          exact readF_none (by rw [hpk.out.2.2.2.2.2.1, if_pos h1])
        have hxH := Lib.hid hex
        clear hex
        subst h1
        go_wp2_with fail
        rw [← hRH.out, hxH.out]
        exact ⟨_, rfl, ⟨xs, hS3, hpk.out.2.2.2.2.2.2, hrr3⟩, hU03⟩
      · have h1b : ((n : Int) == 0) = false := by simp [h1]
        have hvl := hv.lower hU.size
        go_wp2_with (at_builtin; refine wp_app1 w.heap.size rfl (.tmp 25) (.tmp 27) elemSRM rfl w2 ((C, rec.length, cc) : SlV) (by rfl) _ xs rfl (by simp [Act.eval]) hS3 hsz3 (app_bytes hcl).1 (app_bytes hcl).2 ?_; intro A12 c12 w12 hv12 hg12 hat12)
        obtain ⟨z1, z2, z3, z4, z5, z6, z7⟩ := hpk.out
        rw [hw2]
        clear hw1 hw2 hf hcm hcm2 hcx
        obtain ⟨f', hf'⟩ : ∃ f', f = f' + 1 := ⟨f - 1, by omega⟩
        subst hf'
        have e1 : at' + n ≤ b.length := by omega
        have e2 : b.length - (at' + n) < f' := by omega
        have e3 : (recs ++ [rec]).length ≤ at' + n := by rw [List.length_append, List.length_singleton]; omega
        have e4 : b.length - (at' + n) < b.length - at' := by omega
        refine ⟨⟨recs ++ [rec], at' + n, f', _, rfl, rfl, e1, e2, ?_, RRecs.add hS3 z7 hrr3 hvl hg12 hv12, e3, hU03.grownOwn hS3 (Nat.le_refl _) hg12⟩, ?_⟩
        · rw [← z3]
          exact (readF_some (by rw [z6, if_neg h1])).symm
        · exact e4
end Go.Proofs.Ythppheklnplljaa.Delta
