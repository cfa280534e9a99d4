/-
  Plain facts on the printed functions of package geom and of its reference: what they answer at a geometry that may be. Conditions: each lemma's own.
-/
import Derived.Test.YtobhpfbldmobfaaPGeomPlacesx1
import Derived.Test.YtobhpfbldmobfaaPGeomPlacesx2
import Derived.Test.YtobhpfbldmobfaaPGeomPlacesx3
import Derived.Test.YtobhpfbldmobfaaPGeomPlacesx4
import Derived.Test.YtobhpfbldmobfaaPGeomPlacesx5
namespace Go.Proofs.Ytobhpfbldmobfaa.GeomP
open Go.RowKit Go.Proofs.Ytobhpfbldmobfaa.PGeomPlaces Go.Proofs.YtobhpfbldmobfaaW.PrintWords Go.Proofs.YtobhpfbldmobfaaW.PrintLast Go.Proofs.YtobhpfbldmobfaaW.PrintMore
set_option linter.unusedVariables false

/-- A geometry that may be. -/
structure V (C D B P : Int) : Prop where
  c : 1 ≤ C ∧ C ≤ 64
  d : 1 ≤ D ∧ D ≤ 64
  b : 1 ≤ B ∧ B ≤ 64
  p : 2 ≤ P ∧ P ≤ 16
  n : 3 ≤ C * D * B ∧ C * D * B ≤ 64

theorem prod_bd {a b m n : Int} (ha : 0 ≤ a) (ha' : a ≤ m) (hb : 0 ≤ b) (hb' : b ≤ n) : 0 ≤ a * b ∧ a * b ≤ m * n :=
  ⟨Int.mul_nonneg ha hb, Int.le_trans (Int.mul_le_mul_of_nonneg_right ha' hb) (Int.mul_le_mul_of_nonneg_left hb' (by omega))⟩
theorem wrap_small {x : Int} (h0 : -1000000000000 ≤ x) (h1 : x ≤ 1000000000000) : wrap64 x = x := by unfold wrap64; omega

theorem wrap_cdb {C D B : Int} (hc : 1 ≤ C ∧ C ≤ 64) (hd : 1 ≤ D ∧ D ≤ 64) (hb : 1 ≤ B ∧ B ≤ 64) : wrap64 (wrap64 (C * D) * B) = C * D * B := by
  have h1 := prod_bd (a := C) (b := D) (m := 64) (n := 64) (by omega) hc.2 (by omega) hd.2
  rw [wrap_small (x := C * D) (by omega) (by omega)]
  have h2 := prod_bd (a := C * D) (b := B) (m := 64 * 64) (n := 64) h1.1 h1.2 (by omega) hb.2
  exact wrap_small (x := C * D * B) (by omega) (by omega)

/-- The reference's look at a geometry: it may be, or the answer is not 0. -/
theorem refcheck (k : Nat) (C D B P : Int) : ∃ r, almshouseref04_Check.f (k + 2) C D B P = some r ∧ (r = 0 → V C D B P) ∧ (V C D B P → r = 0) := by
  have one : ∀ b : Bool, b = true → almshouseref04_Check.j0 (k + 2) b C D B P = some 1 := fun b hb => by
    simp only [almshouseref04_Check.j0]; rw [if_pos hb]
  have many : ∀ b : Bool, b = true → almshouseref04_Check.j1 (k + 1) b C D B P = some 4 := fun b hb => by
    simp only [almshouseref04_Check.j1]; rw [if_pos hb]
  unfold almshouseref04_Check.f
  by_cases h1 : C < 1
  · rw [if_pos h1, one _ rfl]; exact ⟨1, rfl, by omega, fun h => by have := h.c; omega⟩
  · rw [if_neg h1]
    by_cases h2 : D < 1
    · rw [if_pos h2, one _ rfl]; exact ⟨1, rfl, by omega, fun h => by have := h.d; omega⟩
    · rw [if_neg h2]
      by_cases h3 : B < 1
      · rw [if_pos h3, one _ rfl]; exact ⟨1, rfl, by omega, fun h => by have := h.b; omega⟩
      · rw [if_neg h3]
        by_cases h4 : P < 2
        · rw [one _ (decide_eq_true h4)]; exact ⟨1, rfl, by omega, fun h => by have := h.p; omega⟩
        · simp only [almshouseref04_Check.j0]
          rw [if_neg (by simpa using h4)]
          by_cases g1 : C > 64
          · rw [if_pos g1, many _ rfl]; exact ⟨4, rfl, by omega, fun h => by have := h.c; omega⟩
          · rw [if_neg g1]
            by_cases g2 : D > 64
            · rw [if_pos g2, many _ rfl]; exact ⟨4, rfl, by omega, fun h => by have := h.d; omega⟩
            · rw [if_neg g2]
              by_cases g3 : B > 64
              · rw [if_pos g3, many _ rfl]; exact ⟨4, rfl, by omega, fun h => by have := h.b; omega⟩
              · rw [if_neg g3]
                by_cases g4 : P > 16
                · rw [many _ (decide_eq_true g4)]; exact ⟨4, rfl, by omega, fun h => by have := h.p; omega⟩
                · simp only [almshouseref04_Check.j1]
                  rw [if_neg (by simpa using g4), wrap_cdb (by omega) (by omega) (by omega)]
                  by_cases e1 : C * D * B < 3
                  · rw [if_pos e1]; exact ⟨1, rfl, by omega, fun h => by have := h.n; omega⟩
                  · rw [if_neg e1]
                    by_cases e2 : C * D * B > 64
                    · rw [if_pos e2]; exact ⟨4, rfl, by omega, fun h => by have := h.n; omega⟩
                    · rw [if_neg e2]; exact ⟨0, rfl, fun _ => ⟨by omega, by omega, by omega, by omega, by omega⟩, fun _ => rfl⟩

theorem check_ok (k : Nat) {C D B P : Int} (h : V C D B P) : geom_Check.f (k + 1) C D B P = some 0 := by
  obtain ⟨c, d, b, p, n⟩ := h
  have m1 : ¬ mn (mn C D) B < 1 := by unfold mn; repeat' split <;> omega
  have m2 : ¬ mx (mx C D) B > 64 := by unfold mx; repeat' split <;> omega
  unfold geom_Check.f
  rw [if_neg m1, decide_eq_false (by omega)]
  simp only [geom_Check.j0]
  rw [if_neg (by decide), if_neg m2, if_neg (by omega), wrap_cdb c d b, if_neg (by omega), if_neg (by omega)]

theorem blocks_ok (k : Nat) {C D B P : Int} (h : V C D B P) : geom_Blocks.f (k + 1) C D B P = some (C * D * B) := by
  unfold geom_Blocks.f
  rw [check_ok k h]
  simp only [Option.bind_some, if_true]
  rw [wrap_cdb h.c h.d h.b]

/-- How many pages. -/
def tot (C D B P : Int) : Int := C * D * B * P
theorem tot_bd {C D B P : Int} (h : V C D B P) : 6 ≤ tot C D B P ∧ tot C D B P ≤ 1024 := by
  have h1 := prod_bd (a := C * D * B) (b := P) (m := 64) (n := 16) (by have := h.n; omega) h.n.2 (by have := h.p; omega) h.p.2
  have h2 : 3 * P ≤ C * D * B * P := Int.mul_le_mul_of_nonneg_right h.n.1 (by have := h.p; omega)
  have := h.p
  unfold tot
  omega

/-- The place of a page. -/
def plc (C D P : Int) (i : Int) : S48 := ⟨i / P % C, i / P / C % D, i / P / C / D, i % P⟩
/-- A place's number. -/
def idx (C D P : Int) (b d c p : Int) : Int := ((b * D + d) * C + c) * P + p

theorem div_mul_add {a q m : Int} (hq0 : 0 ≤ q) (hq : q < m) : (a * m + q) / m = a := by
  rw [Int.add_comm, Int.add_mul_ediv_right _ _ (by omega), Int.ediv_eq_zero_of_lt hq0 hq]; omega
theorem mod_mul_add {a q m : Int} (hq0 : 0 ≤ q) (hq : q < m) : (a * m + q) % m = q := by
  rw [Int.add_comm, Int.add_mul_emod_self_right, Int.emod_eq_of_lt hq0 hq]

theorem plc_idx {C D P b d c p : Int} (hd : 0 ≤ d ∧ d < D) (hc : 0 ≤ c ∧ c < C) (hp : 0 ≤ p ∧ p < P) : plc C D P (idx C D P b d c p) = ⟨c, d, b, p⟩ := by
  unfold plc idx
  rw [div_mul_add hp.1 hp.2, mod_mul_add hp.1 hp.2, mod_mul_add hc.1 hc.2, div_mul_add hc.1 hc.2, mod_mul_add hd.1 hd.2, div_mul_add hd.1 hd.2]

theorem idx_plc {C D P i : Int} : idx C D P (i / P / C / D) (i / P / C % D) (i / P % C) (i % P) = i := by
  unfold idx
  rw [Int.ediv_mul_add_emod, Int.ediv_mul_add_emod, Int.ediv_mul_add_emod]

theorem idx_bd {C D B P b d c p : Int} (hb : 0 ≤ b ∧ b < B) (hd : 0 ≤ d ∧ d < D) (hc : 0 ≤ c ∧ c < C) (hp : 0 ≤ p ∧ p < P) : 0 ≤ idx C D P b d c p ∧ idx C D P b d c p < tot C D B P := by
  have s1 : b * D + d + 1 ≤ B * D := by
    have : (b + 1) * D ≤ B * D := Int.mul_le_mul_of_nonneg_right (by omega) (by omega)
    rw [Int.add_mul] at this; omega
  have n1 : 0 ≤ b * D + d := by have := Int.mul_nonneg hb.1 (show 0 ≤ D by omega); omega
  have s2 : (b * D + d) * C + c + 1 ≤ B * D * C := by
    have : (b * D + d + 1) * C ≤ B * D * C := Int.mul_le_mul_of_nonneg_right s1 (by omega)
    rw [Int.add_mul] at this; omega
  have n2 : 0 ≤ (b * D + d) * C + c := by have := Int.mul_nonneg n1 (show 0 ≤ C by omega); omega
  have s3 : ((b * D + d) * C + c) * P + p + 1 ≤ B * D * C * P := by
    have : ((b * D + d) * C + c + 1) * P ≤ B * D * C * P := Int.mul_le_mul_of_nonneg_right s2 (by omega)
    rw [Int.add_mul] at this; omega
  have n3 : 0 ≤ ((b * D + d) * C + c) * P + p := by have := Int.mul_nonneg n2 (show 0 ≤ P by omega); omega
  have e : B * D * C * P = tot C D B P := by unfold tot; rw [Int.mul_comm B D, Int.mul_assoc D B C, Int.mul_comm D (B * C), Int.mul_comm B C, Int.mul_assoc C B D, Int.mul_comm B D, ← Int.mul_assoc]
  unfold idx
  omega

theorem plc_in {C D B P i : Int} (h : V C D B P) (h0 : 0 ≤ i) (h1 : i < tot C D B P) : (0 ≤ i / P / C / D ∧ i / P / C / D < B) ∧ (0 ≤ i / P / C % D ∧ i / P / C % D < D) ∧ (0 ≤ i / P % C ∧ i / P % C < C) ∧ (0 ≤ i % P ∧ i % P < P) := by
  have hc := h.c; have hd := h.d; have hb := h.b; have hp := h.p
  refine ⟨⟨Int.ediv_nonneg (Int.ediv_nonneg (Int.ediv_nonneg h0 (by omega)) (by omega)) (by omega), ?_⟩, ⟨Int.emod_nonneg _ (by omega), Int.emod_lt_of_pos _ (by omega)⟩, ⟨Int.emod_nonneg _ (by omega), Int.emod_lt_of_pos _ (by omega)⟩, ⟨Int.emod_nonneg _ (by omega), Int.emod_lt_of_pos _ (by omega)⟩⟩
  refine Int.ediv_lt_of_lt_mul (by omega) (Int.ediv_lt_of_lt_mul (by omega) (Int.ediv_lt_of_lt_mul (by omega) ?_))
  have e : B * D * C * P = tot C D B P := by unfold tot; rw [Int.mul_comm B D, Int.mul_assoc D B C, Int.mul_comm D (B * C), Int.mul_comm B C, Int.mul_assoc C B D, Int.mul_comm B D, ← Int.mul_assoc]
  omega

/-! ### all places -/
def lst (C D P : Int) (n : Nat) : List S48 := (List.range n).map fun j => plc C D P (j : Nat)
theorem lst_len (C D P : Int) (n : Nat) : (lst C D P n).length = n := by simp [lst]
theorem lst_get (C D P : Int) (n j : Nat) (h : j < (lst C D P n).length) : (lst C D P n)[j] = plc C D P j := by simp [lst]
theorem lst_snoc (C D P : Int) (n : Nat) : lst C D P n ++ [plc C D P n] = lst C D P (n + 1) := by simp [lst, List.range_succ]

theorem within_f (n m : Int) : geom_within.f n m = some (decide (0 ≤ n ∧ n < m)) := by
  unfold geom_within.f
  by_cases a : n ≥ 0
  · rw [if_pos a]; congr 1; rw [Bool.eq_iff_iff]; simp; omega
  · rw [if_neg a]; congr 1; symm; simp; omega

section
variable {C D B P : Int} (h : V C D B P) {R : List S48}
include h
theorem l3_ev (b d c : Int) (hb : 0 ≤ b ∧ b < B) (hd : 0 ≤ d ∧ d < D) (hc : 0 ≤ c ∧ c < C) (e : Nat) : ∀ (p : Int) (m m' : Nat), 0 ≤ p → P - p = e → (m : Int) = idx C D P b d c p → (m' : Int) = idx C D P b d (c + 1) 0 →
    Ev (fun k => almshouseref04_All.l2 k (lst C D P m') b d (c + 1) C D B P) R → Ev (fun k => almshouseref04_All.l3 k (lst C D P m) b d c p C D B P) R := by
  have hC := h.c
  induction e with
  | zero =>
    intro p m m' h0 he hm hm' hn
    obtain rfl : p = P := by omega
    obtain rfl : m = m' := by
      have : idx C D p b d c p = idx C D p b d (c + 1) 0 := by unfold idx; rw [← Int.add_assoc ((b * D + d) * C) c 1, Int.add_mul ((b * D + d) * C + c) 1 p]; omega
      omega
    exact Ev.step (fun k => by simp only [almshouseref04_All.l3]; rw [if_neg (by omega), wrap_small (by omega) (by omega)]) hn
  | succ e ih =>
    intro p m m' h0 he hm hm' hn
    have hP := h.p
    have hi := idx_bd (B := B) hb hd hc (show 0 ≤ p ∧ p < P by omega)
    have ht := tot_bd h
    have hstep := ih (p + 1) (m + 1) m' (by omega) (by omega) (by unfold idx at *; omega) hm' hn
    refine Ev.step (fun k => ?_) hstep
    simp only [almshouseref04_All.l3]
    rw [if_pos (by omega), if_pos (by rw [lst_len]; omega), wrap_small (by omega) (by omega), ← lst_snoc, hm, plc_idx hd hc (by omega)]

theorem l2_ev (b d : Int) (hb : 0 ≤ b ∧ b < B) (hd : 0 ≤ d ∧ d < D) (e : Nat) : ∀ (c : Int) (m m' : Nat), 0 ≤ c → C - c = e → (m : Int) = idx C D P b d c 0 → (m' : Int) = idx C D P b (d + 1) 0 0 →
    Ev (fun k => almshouseref04_All.l1 k (lst C D P m') b (d + 1) C D B P) R → Ev (fun k => almshouseref04_All.l2 k (lst C D P m) b d c C D B P) R := by
  have hD := h.d; have hP := h.p; have hC := h.c
  induction e with
  | zero =>
    intro c m m' h0 he hm hm' hn
    obtain rfl : c = C := by omega
    obtain rfl : m = m' := by
      have : idx c D P b d c 0 = idx c D P b (d + 1) 0 0 := by
        have e : (b * D + d) * c + c = (b * D + (d + 1)) * c + 0 := by rw [← Int.add_assoc (b * D) d 1, Int.add_mul (b * D + d) 1 c]; omega
        unfold idx; rw [e]
      omega
    exact Ev.step (fun k => by simp only [almshouseref04_All.l2]; rw [if_neg (by omega), wrap_small (by omega) (by omega)]) hn
  | succ e ih =>
    intro c m m' h0 he hm hm' hn
    have hi := idx_bd (B := B) hb hd (show 0 ≤ c ∧ c < C by omega) (show 0 ≤ (0 : Int) ∧ 0 < P by omega)
    have hi2 : 0 ≤ idx C D P b d (c + 1) 0 := by unfold idx at *; have : ((b * D + d) * C + c) * P ≤ ((b * D + d) * C + (c + 1)) * P := Int.mul_le_mul_of_nonneg_right (by omega) (by omega); omega
    obtain ⟨m2, hm2⟩ := Int.eq_ofNat_of_zero_le hi2
    have hstep := ih (c + 1) m2 m' (by omega) (by omega) hm2.symm hm' hn
    exact Ev.step (fun k => by simp only [almshouseref04_All.l2]; rw [if_pos (by omega)]) (l3_ev h b d c hb hd (by omega) P.toNat 0 m m2 (by omega) (by omega) hm hm2.symm hstep)

theorem l1_ev (b : Int) (hb : 0 ≤ b ∧ b < B) (e : Nat) : ∀ (d : Int) (m m' : Nat), 0 ≤ d → D - d = e → (m : Int) = idx C D P b d 0 0 → (m' : Int) = idx C D P (b + 1) 0 0 0 →
    Ev (fun k => almshouseref04_All.l0 k (lst C D P m') (b + 1) C D B P) R → Ev (fun k => almshouseref04_All.l1 k (lst C D P m) b d C D B P) R := by
  have hD := h.d; have hP := h.p; have hC := h.c; have hB := h.b
  induction e with
  | zero =>
    intro d m m' h0 he hm hm' hn
    obtain rfl : d = D := by omega
    obtain rfl : m = m' := by
      have : idx C d P b d 0 0 = idx C d P (b + 1) 0 0 0 := by
        have e : b * d + d = (b + 1) * d + 0 := by rw [Int.add_mul b 1 d]; omega
        unfold idx; rw [e]
      omega
    exact Ev.step (fun k => by simp only [almshouseref04_All.l1]; rw [if_neg (by omega), wrap_small (by omega) (by omega)]) hn
  | succ e ih =>
    intro d m m' h0 he hm hm' hn
    have hi := idx_bd (B := B) hb (show 0 ≤ d ∧ d < D by omega) (show 0 ≤ (0 : Int) ∧ 0 < C by omega) (show 0 ≤ (0 : Int) ∧ 0 < P by omega)
    have hi2 : 0 ≤ idx C D P b (d + 1) 0 0 := by
      unfold idx at *
      have a1 : 0 ≤ b * D := Int.mul_nonneg hb.1 (by omega)
      have a2 : 0 ≤ (b * D + (d + 1)) * C := Int.mul_nonneg (by omega) (by omega)
      have a3 : 0 ≤ ((b * D + (d + 1)) * C + 0) * P := Int.mul_nonneg (by omega) (by omega)
      omega
    obtain ⟨m2, hm2⟩ := Int.eq_ofNat_of_zero_le hi2
    have hstep := ih (d + 1) m2 m' (by omega) (by omega) hm2.symm hm' hn
    exact Ev.step (fun k => by simp only [almshouseref04_All.l1]; rw [if_pos (by omega)]) (l2_ev h b d hb (by omega) C.toNat 0 m m2 (by omega) (by omega) hm hm2.symm hstep)

theorem l0_ev (e : Nat) : ∀ (b : Int) (m : Nat), 0 ≤ b → B - b = e → (m : Int) = idx C D P b 0 0 0 → Ev (fun k => almshouseref04_All.l0 k (lst C D P m) b C D B P) (lst C D P (tot C D B P).toNat) := by
  have hD := h.d; have hP := h.p; have hC := h.c; have hB := h.b
  induction e with
  | zero =>
    intro b m h0 he hm
    obtain rfl : b = B := by omega
    have : idx C D P b 0 0 0 = tot C D b P := by
      unfold idx tot
      rw [Int.add_zero, Int.add_zero, Int.add_zero, Int.mul_comm b D, Int.mul_assoc D b C, Int.mul_comm D (b * C), Int.mul_comm b C, Int.mul_assoc C b D, Int.mul_comm b D, ← Int.mul_assoc]
    obtain rfl : m = (tot C D b P).toNat := by omega
    exact Ev.step (fun k => by simp only [almshouseref04_All.l0]; rw [if_neg (by omega)]) (Ev.now _)
  | succ e ih =>
    intro b m h0 he hm
    have hi2 : 0 ≤ idx C D P (b + 1) 0 0 0 := by
      unfold idx
      have a1 : 0 ≤ (b + 1) * D := Int.mul_nonneg (by omega) (by omega)
      have a2 : 0 ≤ ((b + 1) * D + 0) * C := Int.mul_nonneg (by omega) (by omega)
      have a3 : 0 ≤ (((b + 1) * D + 0) * C + 0) * P := Int.mul_nonneg (by omega) (by omega)
      omega
    obtain ⟨m2, hm2⟩ := Int.eq_ofNat_of_zero_le hi2
    exact Ev.step (fun k => by simp only [almshouseref04_All.l0]; rw [if_pos (by omega)]) (l1_ev h b (by omega) D.toNat 0 m m2 (by omega) (by omega) hm hm2.symm (ih (b + 1) m2 (by omega) (by omega) hm2.symm))

theorem all_ok : ∃ k, almshouseref04_All.f k C D B P = some (lst C D P (tot C D B P).toNat) := by
  have := (l0_ev h B.toNat 0 0 (by omega) (by have := h.b; omega) (by unfold idx; simp)).rounds
  exact this

theorem split_in (k : Nat) (n : Int) (h0 : 0 ≤ n) (h1 : n < tot C D B P) : geom_Split.f (k + 1) C D B P n = some ((plc C D P n).f0, (plc C D P n).f1, (plc C D P n).f2, (plc C D P n).f3, 0) := by
  have hD := h.d; have hP := h.p; have hC := h.c; have ht := tot_bd h
  unfold geom_Split.f
  rw [check_ok k h]
  simp only [Option.bind_some, if_true]
  rw [if_neg (by omega), blocks_ok k h]
  simp only [Option.bind_some]
  rw [show C * D * B * P = tot C D B P from rfl, wrap_small (by omega) (by omega), if_neg (by omega), if_neg (by omega), if_neg (by omega), if_neg (by omega)]
  have q0 : 0 ≤ n / P := Int.ediv_nonneg h0 (by omega)
  have q1 : n / P ≤ n := Int.ediv_le_self _ h0
  have q2 : 0 ≤ n / P / C := Int.ediv_nonneg q0 (by omega)
  have q3 : n / P / C ≤ n / P := Int.ediv_le_self _ q0
  have q4 : 0 ≤ n / P / C / D := Int.ediv_nonneg q2 (by omega)
  have q5 : n / P / C / D ≤ n / P / C := Int.ediv_le_self _ q2
  rw [Int.tdiv_eq_ediv_of_nonneg h0, wrap_small (by omega) (by omega), Int.tdiv_eq_ediv_of_nonneg q0, wrap_small (by omega) (by omega), Int.tdiv_eq_ediv_of_nonneg q2, wrap_small (by omega) (by omega), Int.tmod_eq_emod_of_nonneg q0, Int.tmod_eq_emod_of_nonneg q2, Int.tmod_eq_emod_of_nonneg h0]
  rfl
theorem split_out (k : Nat) (n : Int) (hn : n < 0 ∨ tot C D B P ≤ n) : geom_Split.f (k + 1) C D B P n = some (0, 0, 0, 0, 5) := by
  have ht := tot_bd h
  unfold geom_Split.f
  rw [check_ok k h]
  simp only [Option.bind_some, if_true]
  by_cases h0 : n < 0
  · rw [if_pos h0]
  · rw [if_neg h0, blocks_ok k h]
    simp only [Option.bind_some]
    rw [show C * D * B * P = tot C D B P from rfl, wrap_small (by omega) (by omega), if_pos (by omega)]

/-- Is a place one of the array's? -/
def inB (C D B : Int) (x : S48) : Prop := (0 ≤ x.f0 ∧ x.f0 < C) ∧ (0 ≤ x.f1 ∧ x.f1 < D) ∧ (0 ≤ x.f2 ∧ x.f2 < B)

theorem block_in (k : Nat) (x : S48) (hx : inB C D B x) : geom_Block.f (k + 1) C D B P x.f0 x.f1 x.f2 x.f3 = some ((x.f2 * D + x.f1) * C + x.f0, 0) := by
  have hD := h.d; have hP := h.p; have hC := h.c; have hB := h.b
  obtain ⟨x0, x1, x2⟩ := hx
  unfold geom_Block.f
  rw [check_ok k h]
  simp only [Option.bind_some, if_true]
  rw [within_f, decide_eq_true x0]
  simp only [Option.bind_some, if_true]
  rw [within_f, decide_eq_true x1]
  simp only [Option.bind_some, if_true]
  rw [within_f, decide_eq_true x2]
  simp only [Option.bind_some, if_true]
  have b1 := prod_bd (a := x.f2) (b := D) (m := 64) (n := 64) (by omega) (by omega) (by omega) (by omega)
  have b2 := prod_bd (a := x.f2 * D + x.f1) (b := C) (m := 64 * 64 + 64) (n := 64) (by omega) (by omega) (by omega) (by omega)
  rw [wrap_small (x := x.f2 * D) (by omega) (by omega), wrap_small (x := x.f2 * D + x.f1) (by omega) (by omega), wrap_small (x := (x.f2 * D + x.f1) * C) (by omega) (by omega), wrap_small (by omega) (by omega)]
theorem block_out (k : Nat) (x : S48) (hx : ¬ inB C D B x) : geom_Block.f (k + 1) C D B P x.f0 x.f1 x.f2 x.f3 = some (0, 5) := by
  unfold geom_Block.f
  rw [check_ok k h]
  simp only [Option.bind_some, if_true]
  rw [within_f]
  simp only [Option.bind_some, decide_eq_true_eq]
  by_cases x0 : 0 ≤ x.f0 ∧ x.f0 < C
  · rw [if_pos x0, within_f]
    simp only [Option.bind_some, decide_eq_true_eq]
    by_cases x1 : 0 ≤ x.f1 ∧ x.f1 < D
    · rw [if_pos x1, within_f]
      simp only [Option.bind_some, decide_eq_true_eq]
      rw [if_neg (fun x2 => hx ⟨x0, x1, x2⟩)]
    · rw [if_neg x1]
  · rw [if_neg x0]

theorem join_in (k : Nat) (x : S48) (hx : inB C D B x) (hp : 0 ≤ x.f3 ∧ x.f3 < P) : geom_Join.f (k + 1) C D B P x.f0 x.f1 x.f2 x.f3 = some (idx C D P x.f2 x.f1 x.f0 x.f3, 0) := by
  have ht := tot_bd h
  have hi := idx_bd hx.2.2 hx.2.1 hx.1 hp
  have hi0 := idx_bd hx.2.2 hx.2.1 hx.1 (show 0 ≤ (0 : Int) ∧ 0 < P by have := h.p; omega)
  unfold geom_Join.f
  rw [block_in h k x hx]
  simp only [Option.bind_some, if_true]
  rw [within_f, decide_eq_true hp]
  simp only [Option.bind_some, if_true]
  unfold idx at *
  rw [wrap_small (x := ((x.f2 * D + x.f1) * C + x.f0) * P) (by omega) (by omega), wrap_small (by omega) (by omega)]
theorem join_out (k : Nat) (x : S48) (hx : ¬ (inB C D B x ∧ 0 ≤ x.f3 ∧ x.f3 < P)) : geom_Join.f (k + 1) C D B P x.f0 x.f1 x.f2 x.f3 = some (0, 5) := by
  unfold geom_Join.f
  by_cases hb : inB C D B x
  · rw [block_in h k x hb]
    simp only [Option.bind_some, if_true]
    rw [within_f]
    simp only [Option.bind_some, decide_eq_true_eq]
    rw [if_neg (fun hp => hx ⟨hb, hp⟩)]
  · rw [block_out h k x hb]
    simp only [Option.bind_some]
    rw [if_neg (by decide)]
end

theorem fixed_ok (k : Nat) : almshouselaw04_fixed.f (k + 1) = some true := by
  simp (config := { decide := true }) [almshouselaw04_fixed.f, geom_Split.f, geom_Join.f, geom_Block.f, geom_Blocks.f, geom_Check.f, geom_Check.j0, geom_within.f, wrap64]
end Go.Proofs.Ytobhpfbldmobfaa.GeomP
