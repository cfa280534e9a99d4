/-
  The records at the beginning of bytes are read. Conditions: what the argument's slice holds.
-/
import Derived.Test.YthppheklnplljaaDeltaD
import Derived.Test.YthppheklnplljaaFrameC
namespace Go.Proofs.Ythppheklnplljaa.Delta
open Go.RowKit Go.Proofs.Ythppheklnplljaa.Base Go.Proofs.Ythppheklnplljaa.Word Go.Proofs.Ythppheklnplljaa.Frame
set_option linter.unusedVariables false
set_option linter.unusedSimpArgs false
def nextV (b : List UInt8) (first : Int) (s : List (List Mv) × Nat) : Option (List (List Mv) × Nat) :=
  if (opn (b.drop s.2)).e ≠ 0 ∨ (opn (b.drop s.2)).k ≠ 68 then none
  else if (bodyV (opn (b.drop s.2)).body (first + s.1.length)).2 = false then none
  else some (s.1 ++ [(bodyV (opn (b.drop s.2)).body (first + s.1.length)).1], s.2 + (opn (b.drop s.2)).n)
def readF (b : List UInt8) (first : Int) : Nat → List (List Mv) × Nat → List (List Mv) × Nat
  | 0, s => s
  | f + 1, s => match nextV b first s with
    | none => s
    | some s' => readF b first f s'
def readV (b : List UInt8) (first : Int) : List (List Mv) × Nat := readF b first (b.length + 1) ([], 0)
theorem readF_none {b : List UInt8} {first : Int} {f : Nat} {s : List (List Mv) × Nat} (h : nextV b first s = none) : readF b first f s = s := by
  cases f with
  | zero => rfl
  | succ f => unfold readF; rw [h]
theorem readF_some {b : List UInt8} {first : Int} {f : Nat} {s s' : List (List Mv) × Nat} (h : nextV b first s = some s') : readF b first (f + 1) s = readF b first f s' := by
  conv => lhs; unfold readF
  rw [h]
open Go.Proofs.Ythppheklnplljaa.Sum in
theorem opn_n (b : List UInt8) (h : (opn b).e = 0) : 7 ≤ (opn b).n ∧ (opn b).n ≤ b.length ∧ (opn b).body.length ≤ 65535 := by
  have hs := sz_lt b
  unfold opn at h ⊢
  by_cases h1 : b.length < 3 ∨ b.length < sz b + 7
  · rw [if_pos h1] at h
    simp at h
  · rw [if_neg h1] at h ⊢
    by_cases h2 : num ((b.drop (3 + sz b)).take 4) ≠ onL 0 (b.take (3 + sz b))
    · rw [if_pos h2] at h
      simp at h
    · rw [if_neg h2]
      simp only [List.length_drop, List.length_take]
      omega
abbrev SlV := Option Addr × Nat × Nat
def sv (x : SlV) : List Value := [.slice x.1 x.2.1 x.2.2]
theorem sv_len (x : SlV) : (sv x).length = 1 := rfl
theorem sv_one (x : SlV) : ∀ u ∈ sv x, u.oneCell' = true := by
  intro u hu
  obtain rfl : u = .slice x.1 x.2.1 x.2.2 := by simpa [sv] using hu
  rfl
theorem elemSM : Elem Try.prog 54 43 (.slice none 0 0) 1 24 sv := ⟨Try.underlying54, by kernel_rfl, rfl, by omega, sv_len, sv_one⟩
/-- A row of rows of moves. -/
def Recs (w : World) (base : Nat) (V : Value) (recs : List (List Mv)) : Prop := ∃ xs : List SlV, Sl w base 43 1 sv V xs ∧ xs.length = recs.length ∧ ∀ i (h : i < xs.length) (h2 : i < recs.length), Sl w base 45 4 mvC (.slice xs[i].1 xs[i].2.1 xs[i].2.2) recs[i]
theorem Recs.upd0 {w w' : World} {base : Nat} {V : Value} {recs : List (List Mv)} (h : Recs w base V recs) (u : Upd Nil w w') : Recs w' base V recs := by
  obtain ⟨xs, h1, h2, h3⟩ := h
  exact ⟨xs, h1.upd0 u, h2, fun i hi hi2 => (h3 i hi hi2).upd0 u⟩
theorem Recs.nil (w : World) (base : Nat) : Recs w base (.slice none 0 0) [] := ⟨[], Sl.nil _ _ _ _ _, rfl, fun i hi => absurd hi (by simp)⟩
theorem wr2 {x : Int} (h : -1152921504606846976 ≤ x ∧ x ≤ 1152921504606846976) : wrap64 x = x := by unfold wrap64; omega
theorem app_bytes {n : Nat} (h : n ≤ 100000) : (n + 1) * 24 ≤ 140737488355328 ∧ n + 1 ≤ maxLen := by unfold maxLen; omega
theorem apart_types {w : World} {base : Nat} {V v : Value} {xs : List SlV} {l : List Mv} (h : Sl w base 43 1 sv V xs) (h2 : Sl w base 45 4 mvC v l) (k : Nat) (hk : v.ownBlock = some k) : some k ≠ V.ownBlock := fun e => by
  obtain ⟨_, c1, e1⟩ := h.typed k e.symm
  obtain ⟨_, c2, e2⟩ := h2.typed k hk
  rw [e1] at e2
  cases e2
theorem Recs.add {w w' : World} {base : Nat} {V V' : Value} {recs : List (List Mv)} {xs : List SlV} (h1 : Sl w base 43 1 sv V xs) (h2 : xs.length = recs.length) (h3 : ∀ i (h : i < xs.length) (h2 : i < recs.length), Sl w base 45 4 mvC (.slice xs[i].1 xs[i].2.1 xs[i].2.2) recs[i])
    {p : SlV} {rec : List Mv} (hp : Sl w base 45 4 mvC (.slice p.1 p.2.1 p.2.2) rec) (hg : w.grownBy w' V.ownBlock) (h4 : Sl w' base 43 1 sv V' (xs ++ [p])) : Recs w' base V' (recs ++ [rec]) := by
  refine ⟨_, h4, by simp [h2], fun i hi hi2 => ?_⟩
  by_cases hlt : i < xs.length
  · rw [List.getElem_append_left hlt, List.getElem_append_left (by omega)]
    exact (h3 i hlt (by omega)).grown hg (apart_types h1 (h3 i hlt (by omega)))
  · have hie : i = xs.length := by simp at hi; omega
    subst hie
    rw [List.getElem_append_right (by omega), List.getElem_append_right (by omega)]
    simp only [h2, Nat.sub_self, List.getElem_cons_zero]
    exact hp.grown hg (apart_types h1 hp)
def ReadsR (r : List (List Mv) × Nat) (w : World) (e : Ending) (w' : World) : Prop := ∃ v, e = .returned (.tuple #[v, .int .i64 (r.2 : Int)]) ∧ Recs w' w.heap.size v r.1 ∧ Upd Nil w w'
set_option maxHeartbeats 4000000 in
set_option maxRecDepth 100000 in
theorem readC (A : Option Addr) (c : Nat) (b : List UInt8) (first : Int) (w : World) (hA : Arg w A 1 bc b) (hc : b.length ≤ c) (hcm : c ≤ maxLen) (hb : b.length ≤ 100000) (hf : -2199023255552 ≤ first ∧ first ≤ 2199023255552) :
    Calls Try.prog 35 #[.slice A b.length c, .int .i64 first] w (ReadsR (readV b first) w) := by
  generalize hRR : ReadsR (readV b first) w = RR
  have hRH := Lib.hid hRR
  clear hRR
  go_enter Try.func35, Try.ntmps35
  go_wp2_with fail
  go_loopw [6, 7] (fun s6 s7 wr => ∃ (recs : List (List Mv)) (at' f : Nat) (V : Value), s6 = V ∧ s7 = .int .i64 (at' : Int) ∧ at' ≤ b.length ∧ b.length - at' < f ∧ readF b first f (recs, at') = readV b first ∧ Recs wr w.heap.size V recs ∧ recs.length ≤ at' ∧ Upd Nil w wr) (fun _ s7 _ => b.length - (intOf s7).toNat)
  case atStart => exact ⟨[], 0, b.length + 1, _, rfl, rfl, by omega, by omega, rfl, Recs.nil _ _, by simp, Upd.refl _ _⟩
  case round =>
    obtain ⟨recs, at', f, V, rfl, rfl, hat, hfu, hrf, hV, hrl, hU⟩ := hrel
    have hD := arg_drop (hA.upd hU) at' c hc hat
    have hBl : b.length - at' = (b.drop at').length := by rw [List.length_drop]
    have hDl : (b.drop at').length ≤ c - at' := by rw [List.length_drop]; omega
    have hcx : c ≤ 9223372036854775807 := by unfold maxLen at hcm; omega
    have hcm2 : c - at' ≤ maxLen := by unfold maxLen at *; omega
    have hi1 : (0 : Int) ≤ (at' : Int) := by omega
    have hi2 : (at' : Int) ≤ (b.length : Int) := by omega
    have hi3 : (b.length : Int) ≤ (c : Int) := by omega
    have hon := opn_n (b.drop at')
    have hnx : nextV b first (recs, at') = if (opn (b.drop at')).e ≠ 0 ∨ (opn (b.drop at')).k ≠ 68 then none
      else if (bodyV (opn (b.drop at')).body (first + recs.length)).2 = false then none
      else some (recs ++ [(bodyV (opn (b.drop at')).body (first + recs.length)).1], at' + (opn (b.drop at')).n) := rfl
    have hdl2 : (b.drop at').length ≤ 100000 := by rw [List.length_drop]; omega
    rw [← hBl] at hon
    simp only [Nat.mul_one] at hD
    generalize hbd : b.drop at' = bd at *
    have hbdH := Lib.hid hbd
    clear hbd
    have hpk := Lib.hid (And.intro hat (And.intro hfu (And.intro hrf (And.intro hrl hon))))
    have hnH := Lib.hid hnx
    clear hfu hrf hnx hon
    by_cases hca : c = at'
    · subst hca
      rw [if_pos rfl] at hD
      have hbl0 : bd.length = 0 := by omega
      have hb0 : bd = [] := List.eq_nil_of_length_eq_zero hbl0
      have hex : readV b first = (recs, c) := by
        rw [← hpk.out.2.2.1]
        exact readF_none (by rw [hnH.out, hb0]; rfl)
      have hxH := Lib.hid hex
      have ho : opn bd = ⟨0, [], 0, 2⟩ := by rw [hb0]; rfl
      have qo := opens A 0 bd wr hD (by omega) (by unfold maxLen; omega) (by omega)
      rw [ho] at qo
      unfold OpR at qo
      simp only at qo
      clear hex hb0 hbl0 ho
      go_wp2_with fail
      refine qo.mono ?_
      rintro e w2 ⟨v, rfl, hv, hU2⟩
      have hV2 := hV.upd0 hU2
      have hU02 := hU.tr hU2
      go_wp2_with fail
      rw [← hRH.out, hxH.out]
      exact ⟨_, rfl, hV2, hU02⟩
    · rw [if_neg hca] at hD
      go_wp2_with fail
      generalize A.map (fun x => x.add at') = A' at *
      have qo := opens A' (c - at') bd wr hD hDl hcm2 (by omega)
      unfold OpR at qo
      generalize opn bd = o at *
      obtain ⟨ok, obody, on, oe⟩ := o
      simp only at qo
      refine qo.mono ?_
      rintro e w2 ⟨v, rfl, hv, hU2⟩
      have hV2 := hV.upd0 hU2
      have hU02 := hU.tr hU2
      by_cases h1 : oe = 0
      · subst h1
        by_cases h2 : ok = 68
        · subst h2
          obtain ⟨B, cb, rfl, _⟩ := hv.form
          have hB := hv.cells bc_len (by omega)
          obtain ⟨xs, hS, hxl, hrr⟩ := hV2
          obtain ⟨Ax, cx, rfl, _⟩ := hS.form
          obtain ⟨p1, p2, p3, p4, p5⟩ := hpk.out
          obtain ⟨p6, p7, p8⟩ := p5 rfl
          replace p6 : 7 ≤ on := p6
          replace p7 : on ≤ b.length - at' := p7
          replace p8 : obody.length ≤ 65535 := p8
          have hw1 := wr2 (x := first + (xs.length : Int)) (by omega)
          have hw2 := wr2 (x := (at' : Int) + (on : Int)) (by omega)
          have hnx := hnH.out
          rw [← hxl] at hnx
          have qb := bodyC B cb obody (first + (xs.length : Int)) w2 hB (Nat.le_trans p8 (by decide))
          simp only [ne_eq, not_true_eq_false, or_self, if_false] at hnx
          generalize bodyV obody (first + (xs.length : Int)) = bv at *
          obtain ⟨rec, okb⟩ := bv
          unfold BodyR at qb
          simp only at qb hnx
          have hnxH := Lib.hid hnx
          have hcl : xs.length ≤ 100000 := by rw [hxl]; exact Nat.le_trans p4 (Nat.le_trans hat hb)
          have hkk := Lib.hid (And.intro p6 (And.intro p7 (And.intro hxl hrl)))
          clear hnx p6 p7 p8 p5 p4 p3 p2 p1 hxl hrl hV
          go_wp2_with fail
          refine qb.mono ?_
          rintro e w3 ⟨v3, rfl, hv3, hU3⟩
          obtain ⟨C, cc, rfl, _⟩ := hv3.form
          have hS3 := hS.upd0 hU3
          have hrr3 := fun i h h2 => (hrr i h h2).upd0 hU3
          have hU03 := hU02.tr hU3
          have hsz3 := hU03.size
          cases okb with
          | false =>
            go_wp2_with fail
            rw [← hRH.out, ← hpk.out.2.2.1, readF_none (by rw [hnxH.out]; simp)]
            exact ⟨_, rfl, ⟨xs, hS3, hkk.out.2.2.1, hrr3⟩, hU03⟩
          | true =>
            have hvl := hv3.lower hU02.size
            go_wp2_with (at_builtin; refine wp_app1 w.heap.size rfl (.tmp 44) (.tmp 46) elemSM rfl w3 ((C, rec.length, cc) : SlV) (by rfl) _ xs rfl (by simp [Act.eval]) hS3 hsz3 (app_bytes hcl).1 (app_bytes hcl).2 ?_; intro A12 c12 w12 hv12 hg12 hat12)
            obtain ⟨k1, k2, k3, k4⟩ := hkk.out
            obtain ⟨_, z2, z3, _⟩ := hpk.out
            rw [hw2]
            clear hw1 hw2 hf hcm hcm2 hcx
            obtain ⟨f', hf'⟩ : ∃ f', f = f' + 1 := ⟨f - 1, by omega⟩
            subst hf'
            have e1 : at' + on ≤ b.length := by omega
            have e2 : b.length - (at' + on) < f' := by omega
            have e3 : (recs ++ [rec]).length ≤ at' + on := by rw [List.length_append, List.length_singleton]; omega
            have e4 : b.length - (at' + on) < b.length - at' := by omega
            refine ⟨⟨recs ++ [rec], at' + on, f', _, rfl, rfl, e1, e2, ?_, Recs.add hS3 k3 hrr3 hvl hg12 hv12, e3, hU03.grownOwn hS3 (Nat.le_refl _) hg12⟩, ?_⟩
            · rw [← z3]
              exact (readF_some (by rw [hnxH.out]; simp)).symm
            · exact e4
        · have hex : readV b first = (recs, at') := by
            rw [← hpk.out.2.2.1]
            exact readF_none (by rw [hnH.out, if_pos (.inr h2)])
          have h2b : ((ok : Int) == 68) = false := by simp; omega
          have hxH := Lib.hid hex
          clear hex
          go_wp2_with fail
          rw [← hRH.out, hxH.out]
          exact ⟨_, rfl, hV2, hU02⟩
      · have hex : readV b first = (recs, at') := by
          rw [← hpk.out.2.2.1]
          exact readF_none (by rw [hnH.out, if_pos (.inl h1)])
        have hxH := Lib.hid hex
        clear hex
        go_wp2_with fail
        rw [← hRH.out, hxH.out]
        exact ⟨_, rfl, hV2, hU02⟩
end Go.Proofs.Ythppheklnplljaa.Delta
