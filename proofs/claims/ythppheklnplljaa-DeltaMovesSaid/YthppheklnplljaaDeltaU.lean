/-
  What is told of two tables: plain law. Conditions: each lemma's own.
-/
import Derived.Test.YthppheklnplljaaDeltaP
import Derived.Test.YthppheklnplljaaTableQ
namespace Go.Proofs.Ythppheklnplljaa.Delta
set_option linter.unusedVariables false
open Go.Proofs.Ythppheklnplljaa.Table
/-- A place's page, as a move. -/
def spotV (R : List Row3) (q : Nat) : Mv := match spotOf R q with | some s => ⟨q, s.1, s.2, false⟩ | none => ⟨q, 0, 0, true⟩
/-- The moves of the places below k. -/
def movN (A B : List Row3) : Nat → List Mv
  | 0 => []
  | k + 1 => movN A B k ++ if spotOf A k = spotOf B k then [] else [spotV B k]
/-- The moves of d places from i on. -/
def restN (A B : List Row3) : Nat → Nat → List Mv
  | _, 0 => []
  | i, d + 1 => (if spotOf A i = spotOf B i then [] else [spotV B i]) ++ restN A B (i + 1) d
theorem mov_rest (A B : List Row3) : ∀ d i, movN A B i ++ restN A B i d = movN A B (i + d)
  | 0, i => by simp [restN]
  | d + 1, i => by
    have := mov_rest A B d (i + 1)
    rw [restN, ← List.append_assoc, show i + (d + 1) = (i + 1) + d by omega, ← this]
    rfl
theorem mov_len (A B : List Row3) : ∀ k, (movN A B k).length ≤ k
  | 0 => by simp [movN]
  | k + 1 => by
    have := mov_len A B k
    rw [movN, List.length_append]
    split <;> simp <;> omega
theorem mov_get {A B : List Row3} {k N : Nat} (hk : k < N) (h : spotOf A k ≠ spotOf B k) : ∃ h2 : (movN A B k).length < (movN A B N).length, (movN A B N)[(movN A B k).length] = spotV B k := by
  have e := mov_rest A B (N - k) k
  obtain ⟨d, hd⟩ : ∃ d, N - k = d + 1 := ⟨N - k - 1, by omega⟩
  rw [show k + (N - k) = N by omega, hd, restN, if_neg h] at e
  have hl : (movN A B k).length < (movN A B N).length := by rw [← e]; simp
  refine ⟨hl, ?_⟩
  have h1 := List.getElem?_eq_getElem hl
  have h2 : (movN A B N)[(movN A B k).length]? = some (spotV B k) := by rw [← e]; simp
  rw [h1] at h2
  exact Option.some.inj h2
theorem mov_nil {A B : List Row3} {k : Nat} (h : ∀ i, i < k → spotOf A i = spotOf B i) : movN A B k = [] := by
  induction k with
  | zero => rfl
  | succ k ih => rw [movN, ih (fun i hi => h i (by omega)), if_pos (h k (by omega))]; rfl
theorem mov_mem {A B : List Row3} {m : Mv} : ∀ {k : Nat}, m ∈ movN A B k → ∃ q, q < k ∧ m = spotV B q ∧ spotOf A q ≠ spotOf B q
  | 0, h => by simp [movN] at h
  | k + 1, h => by
    rw [movN, List.mem_append] at h
    rcases h with h | h
    · obtain ⟨q, h1, h2, h3⟩ := mov_mem h
      exact ⟨q, by omega, h2, h3⟩
    · split at h
      · simp at h
      · rename_i hne
        exact ⟨k, by omega, by simpa using h, hne⟩
theorem spotV_place (R : List Row3) (q : Nat) : (spotV R q).place = q := by
  unfold spotV
  cases spotOf R q <;> rfl
/-- Places are cleared one after the other. -/
def clrN (R : List Row3) (l : List Mv) : List Row3 := l.foldl (fun R m => rClr R m.place) R
theorem clrN_ok {n m : Nat} : ∀ (l : List Mv) {R : List Row3}, PW R → In R n m → PW (clrN R l) ∧ In (clrN R l) n m
  | [], R, h, hi => ⟨h, hi⟩
  | x :: l, R, h, hi => by
    show PW (clrN (rClr R x.place) l) ∧ In (clrN (rClr R x.place) l) n m
    have e := rClr_eq hi x.place
    by_cases hq : 0 ≤ x.place ∧ x.place < 64
    · rw [if_pos hq] at e
      exact clrN_ok l (by rw [e]; exact h.clr _) (by rw [e]; exact hi.clr _)
    · rw [if_neg hq] at e
      rw [e]
      exact clrN_ok l h hi
theorem clr_spot {R : List Row3} {n m : Nat} (h : PW R) (hi : In R n m) (q k : Nat) (hq : q < 64) : spotOf (rClr R q) k = if k = q then none else spotOf R k := by
  rw [rClr_eq hi, if_pos (by omega), Int.toNat_natCast, spot_clr h]
theorem clrN_spot {A B : List Row3} {n m : Nat} : ∀ k, k ≤ 64 → ∀ R : List Row3, PW R → In R n m → ∀ q, spotOf (clrN R (movN A B k)) q = if q < k ∧ spotOf A q ≠ spotOf B q then none else spotOf R q
  | 0, _, R, h, hi, q => by rw [if_neg (by omega)]; rfl
  | k + 1, hk, R, h, hi, q => by
    have ih := clrN_spot (A := A) (B := B) k (by omega) R h hi q
    obtain ⟨h1, h2⟩ := clrN_ok (movN A B k) h hi
    have e : clrN R (movN A B (k + 1)) = if spotOf A k = spotOf B k then clrN R (movN A B k) else rClr (clrN R (movN A B k)) k := by
      unfold clrN
      rw [movN, List.foldl_append]
      split
      · rfl
      · show rClr _ (spotV B k).place = _
        rw [spotV_place]
    rw [e]
    by_cases hs : spotOf A k = spotOf B k
    · rw [if_pos hs, ih]
      by_cases hq : q < k ∧ spotOf A q ≠ spotOf B q
      · rw [if_pos hq, if_pos ⟨by omega, hq.2⟩]
      · rw [if_neg hq, if_neg]
        rintro ⟨a, b⟩
        rcases Nat.lt_or_ge q k with h3 | h3
        · exact hq ⟨h3, b⟩
        · obtain rfl : q = k := by omega
          exact b hs
    · rw [if_neg hs, clr_spot h1 h2 k q (by omega), ih]
      by_cases hqk : q = k
      · subst hqk
        rw [if_pos rfl, if_pos ⟨by omega, hs⟩]
      · rw [if_neg hqk]
        by_cases hq : q < k ∧ spotOf A q ≠ spotOf B q
        · rw [if_pos hq, if_pos ⟨by omega, hq.2⟩]
        · rw [if_neg hq, if_neg]
          rintro ⟨a, b⟩
          exact hq ⟨by omega, b⟩
/-- Moves are done: how it ends, and the rows. -/
def aplV (n m : Nat) : List Row3 → List Mv → Int × List Row3
  | R, [] => (0, R)
  | R, x :: l => if rightM x = false then (1, R) else if x.gone then aplV n m (rClr R x.place) l
    else if (setV R n m x.place x.block x.page).1 ≠ 0 then setV R n m x.place x.block x.page else aplV n m (setV R n m x.place x.block x.page).2 l
theorem spotV_right {B : List Row3} (hb : In B 8 8) (hp : PW B) {q : Nat} (hq : q < 64) : rightM (spotV B q) = true := by
  unfold spotV
  cases hs : spotOf B q with
  | none =>
    unfold rightM inR
    simp
    omega
  | some s =>
    have := hb _ ((spot_iff hp q s).1 hs)
    unfold rightM inR
    simp only at this ⊢
    simp
    omega
theorem apl_rest {A B : List Row3} (hpB : PW B) (hiB : In B 8 8) : ∀ d i, i + d = 64 → ∀ R : List Row3, PW R → In R 8 8 → (∀ k, k < 64 → spotOf R k = if spotOf A k ≠ spotOf B k ∧ i ≤ k then none else spotOf B k) →
    ∃ R2, aplV 8 8 R (restN A B i d) = (0, R2) ∧ PW R2 ∧ In R2 8 8 ∧ ∀ k, k < 64 → spotOf R2 k = spotOf B k
  | 0, i, hd, R, h, hi, hs => ⟨R, rfl, h, hi, fun k hk => by rw [hs k hk, if_neg (by omega)]⟩
  | d + 1, i, hd, R, h, hi, hs => by
    rw [restN]
    by_cases he : spotOf A i = spotOf B i
    · rw [if_pos he, List.nil_append]
      refine apl_rest hpB hiB d (i + 1) (by omega) R h hi (fun k hk => ?_)
      rw [hs k hk]
      by_cases h1 : spotOf A k ≠ spotOf B k ∧ i + 1 ≤ k
      · rw [if_pos h1, if_pos ⟨h1.1, by omega⟩]
      · rw [if_neg h1, if_neg]
        rintro ⟨a, b⟩
        rcases Nat.lt_or_ge i k with h3 | h3
        · exact h1 ⟨a, h3⟩
        · obtain rfl : i = k := by omega
          exact a he
    · rw [if_neg he, List.singleton_append]
      have h0 : spotOf R i = none := by rw [hs i (by omega), if_pos ⟨he, Nat.le_refl _⟩]
      have hr := spotV_right hiB hpB (q := i) (by omega)
      unfold aplV
      rw [if_neg (by rw [hr]; simp)]
      cases hb : spotOf B i with
      | none =>
        have e : spotV B i = ⟨i, 0, 0, true⟩ := by unfold spotV; rw [hb]
        rw [e]
        simp only [if_true]
        have e2 : rClr R (i : Nat) = R := by rw [rClr_eq hi, if_pos (by omega), Int.toNat_natCast, clr_none h h0]
        rw [e2]
        refine apl_rest hpB hiB d (i + 1) (by omega) R h hi (fun k hk => ?_)
        rw [hs k hk]
        by_cases h1 : spotOf A k ≠ spotOf B k ∧ i + 1 ≤ k
        · rw [if_pos h1, if_pos ⟨h1.1, by omega⟩]
        · rw [if_neg h1]
          by_cases h2 : spotOf A k ≠ spotOf B k ∧ i ≤ k
          · obtain rfl : k = i := by
              rcases Nat.lt_or_ge i k with h3 | h3
              · exact absurd ⟨h2.1, h3⟩ h1
              · omega
            rw [if_pos h2, hb]
          · rw [if_neg h2]
      | some s =>
        have e : spotV B i = ⟨i, s.1, s.2, false⟩ := by unfold spotV; rw [hb]
        have hin := hiB _ ((spot_iff hpB i s).1 hb)
        simp only at hin
        have ho : ownOf R s = none := by
          cases ho : ownOf R s with
          | none => rfl
          | some q =>
            exfalso
            have hm := (own_iff h q s).1 ho
            have hq : q < 64 := (hi _ hm).1
            have h1 := (spot_iff h q s).2 hm
            rw [hs q hq] at h1
            split at h1
            · simp at h1
            · rename_i hne
              have h2 := (own_iff hpB q s).2 ((spot_iff hpB q s).1 h1)
              have h3 := (own_iff hpB i s).2 ((spot_iff hpB i s).1 hb)
              rw [h2] at h3
              injection h3 with h3
              subst h3
              exact hne ⟨he, Nat.le_refl _⟩
        have hset : setV R 8 8 (i : Nat) (s.1 : Nat) (s.2 : Nat) = (0, put R i s) := by
          unfold setV
          rw [if_neg (by unfold isB; simp; omega)]
          simp only [Int.toNat_natCast]
          rw [ho]
          simp only
          rw [clr_none h h0]
        rw [e]
        simp only [Bool.false_eq_true, if_false]
        rw [hset]
        simp only [ne_eq, not_true_eq_false, if_false]
        refine apl_rest hpB hiB d (i + 1) (by omega) _ (h.put h0 ho) (hi.put (by omega) hin.2.1 hin.2.2) (fun k hk => ?_)
        rw [spot_put h h0 ho]
        by_cases hki : k = i
        · subst hki
          rw [if_pos rfl, if_neg (by omega), hb]
        · rw [if_neg hki, hs k hk]
          by_cases h1 : spotOf A k ≠ spotOf B k ∧ i + 1 ≤ k
          · rw [if_pos h1, if_pos ⟨h1.1, by omega⟩]
          · rw [if_neg h1, if_neg]
            rintro ⟨a, b⟩
            exact h1 ⟨a, by omega⟩
/-- Cleared and told anew, the first table is the second one. -/
theorem moves_make {A B : List Row3} (hpA : PW A) (hiA : In A 8 8) (hpB : PW B) (hiB : In B 8 8) : ∃ R2, aplV 8 8 (clrN A (movN A B 64)) (movN A B 64) = (0, R2) ∧ PW R2 ∧ In R2 8 8 ∧ movN R2 B 64 = [] := by
  obtain ⟨h1, h2⟩ := clrN_ok (movN A B 64) hpA hiA
  have hs := clrN_spot (A := A) (B := B) 64 (Nat.le_refl _) A hpA hiA
  have e := mov_rest A B 64 0
  rw [show movN A B 0 = [] from rfl, List.nil_append, Nat.zero_add] at e
  obtain ⟨R2, g1, g2, g3, g4⟩ := apl_rest (A := A) hpB hiB 64 0 rfl _ h1 h2 (fun k hk => by
    rw [hs k]
    by_cases hd : spotOf A k = spotOf B k
    · rw [if_neg (by simp [hd]), if_neg (by simp [hd]), hd]
    · rw [if_pos ⟨hk, hd⟩, if_pos ⟨hd, Nat.zero_le _⟩])
  rw [e] at g1
  exact ⟨R2, g1, g2, g3, mov_nil (fun i hi => g4 i hi)⟩
/-- The table by moves. -/
def doM (R : List Row3) (m : Mv) : List Row3 := if m.gone then rClr R m.place else (setV R 8 8 m.place m.block m.page).2
def madeN (l : List Mv) : List Row3 := l.foldl doM []
theorem doM_ok {R : List Row3} (h : PW R) (hi : In R 8 8) (m : Mv) : PW (doM R m) ∧ In (doM R m) 8 8 := by
  unfold doM
  split
  · rw [rClr_eq hi]
    split
    · exact ⟨h.clr _, hi.clr _⟩
    · exact ⟨h, hi⟩
  · exact setV_ok h hi _ _ _
end Go.Proofs.Ythppheklnplljaa.Delta
