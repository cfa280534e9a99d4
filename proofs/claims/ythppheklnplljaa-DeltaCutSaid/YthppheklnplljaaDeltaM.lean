/-
  A journal that is cut: plain law. Conditions: each lemma's own.
-/
import Derived.Test.YthppheklnplljaaDeltaK
namespace Go.Proofs.Ythppheklnplljaa.Delta
set_option linter.unusedVariables false
open Go.Proofs.Ythppheklnplljaa.Word Go.Proofs.Ythppheklnplljaa.Frame
theorem number1_cons (x : UInt8) (t : List UInt8) : (⟨x :: t, 0⟩ : Rd).number 1 = (x.toNat, ⟨t, 0⟩) := by
  rw [number1, if_neg (by simp), if_neg (by simp)]
  simp [num]
theorem rm_bounds {m : Mv} (h : rightM m = true) : (0 ≤ m.place ∧ m.place ≤ 63) ∧ (0 ≤ m.block ∧ m.block ≤ 63) ∧ (0 ≤ m.page ∧ m.page ≤ 15) := by
  unfold rightM inR at h
  simp only [Bool.and_eq_true, decide_eq_true_eq] at h
  obtain ⟨_, ⟨h1, h2⟩, h3⟩ := h
  omega
theorem le1n (n : Nat) (h : n ≤ 255) : ∃ x : UInt8, le n 1 = [x] ∧ x.toNat = n := by
  refine ⟨UInt8.ofNat n, ?_, ?_⟩
  · have := le1 (UInt8.ofNat n)
    rwa [UInt8.toNat_ofNat', Nat.mod_eq_of_lt (by omega)] at this
  · rw [UInt8.toNat_ofNat', Nat.mod_eq_of_lt (by omega)]
theorem flag_cons (g : Bool) (t : List UInt8) : (⟨le (c01 g).toNat 1 ++ t, 0⟩ : Rd).flag = (g, ⟨t, 0⟩) := by
  cases g
  · show (⟨(0 : UInt8) :: t, 0⟩ : Rd).flag = _
    unfold Rd.flag
    rw [number1_cons]
    rfl
  · show (⟨(1 : UInt8) :: t, 0⟩ : Rd).flag = _
    unfold Rd.flag
    rw [number1_cons]
    rfl
theorem step_enc {m : Mv} (h : rightM m = true) (t : List UInt8) : step ⟨mvL m ++ t, 0⟩ = (m, ⟨t, 0⟩) := by
  obtain ⟨⟨h1, h2⟩, ⟨h3, h4⟩, h5, h6⟩ := rm_bounds h
  obtain ⟨p, q, s, g⟩ := m
  simp only at h1 h2 h3 h4 h5 h6
  obtain ⟨p, rfl⟩ := Int.eq_ofNat_of_zero_le h1
  obtain ⟨q, rfl⟩ := Int.eq_ofNat_of_zero_le h3
  obtain ⟨s, rfl⟩ := Int.eq_ofNat_of_zero_le h5
  obtain ⟨x, ex, nx⟩ := le1n p (by omega)
  obtain ⟨y, ey, ny⟩ := le1n q (by omega)
  obtain ⟨z, ez, nz⟩ := le1n s (by omega)
  unfold step mvL
  simp only [Int.toNat_natCast, ex, ey, ez]
  rw [show [x] ++ [y] ++ [z] ++ le (c01 g).toNat 1 ++ t = x :: y :: z :: (le (c01 g).toNat 1 ++ t) by simp]
  simp only [number1_cons, flag_cons, nx, ny, nz]
theorem body_enc {l : List Mv} (h : ∀ m ∈ l, rightM m = true) (t : List UInt8) : ∀ i, i ≤ l.length → bodyN ⟨flatM l ++ t, 0⟩ i = (l.take i, ⟨flatM (l.drop i) ++ t, 0⟩)
  | 0, _ => by simp [bodyN]
  | i + 1, hi => by
    have ih := body_enc h t i (by omega)
    unfold bodyN
    rw [ih]
    simp only
    have hd : l.drop i = l[i] :: l.drop (i + 1) := List.drop_eq_getElem_cons (by omega)
    have hs := step_enc (h l[i] (List.getElem_mem (by omega))) (flatM (l.drop (i + 1)) ++ t)
    have hfm : flatM (l.drop i) ++ t = mvL l[i] ++ (flatM (l.drop (i + 1)) ++ t) := by
      rw [hd]
      show (mvL l[i] ++ flatM (l.drop (i + 1))) ++ t = _
      rw [List.append_assoc]
    rw [hfm, hs, ← List.take_succ_eq_append_getElem (by omega)]
theorem number4_enc (n : Nat) (h : n < 4294967296) (t : List UInt8) : (⟨le n 4 ++ t, 0⟩ : Rd).number 4 = (n, ⟨t, 0⟩) := by
  unfold Rd.number Rd.next
  have hl := le_len n 4
  rw [if_pos (by decide), show ((4 : Int)).toNat = 4 from rfl]
  simp only [ne_eq, not_true_eq_false, if_false]
  rw [if_neg (by rw [List.length_append, hl]; omega)]
  simp only
  rw [List.take_append_of_le_length (by omega), List.take_of_length_le (by omega), num_le, Nat.mod_eq_of_lt (by omega), List.drop_append_of_le_length (by omega), List.drop_of_length_le (by omega)]
  rfl
theorem recBody_eq {n : Int} {l : List Mv} (hn : 0 ≤ n ∧ n ≤ 2147483647) (hr : ∀ m ∈ l, rightM m = true) (hl : l.length ≤ 32) : recBody n l = le n.toNat 4 ++ (le l.length 1 ++ flatM l) := by
  obtain ⟨n, rfl⟩ := Int.eq_ofNat_of_zero_le hn.1
  unfold recBody recHead
  rw [fold_eq l _ (fun m hm => by have := rm_bounds (hr m hm); omega), show max (n : Int) 0 = (n : Int) by omega, putL_4' _ _ (by omega), putL_1' _ (by omega)]
  simp
/-- What is written is read so again. -/
theorem round_trip {n : Int} {l : List Mv} (hn : 0 ≤ n ∧ n ≤ 2147483647) (hr : ∀ m ∈ l, rightM m = true) (hl : l.length ≤ 32) : bodyV (recBody n l) n = (l, true) := by
  rw [recBody_eq hn hr hl]
  obtain ⟨n, rfl⟩ := Int.eq_ofNat_of_zero_le hn.1
  rw [Int.toNat_natCast]
  obtain ⟨x, ex, nx⟩ := le1n l.length (by omega)
  have h1 : headR (le n 4 ++ (le l.length 1 ++ flatM l)) = (n, ⟨x :: flatM l, 0⟩) := by
    unfold headR
    rw [number4_enc n (by omega), ex]
    rfl
  have h2 : manyR (le n 4 ++ (le l.length 1 ++ flatM l)) = (l.length, ⟨flatM l, 0⟩) := by
    unfold manyR
    rw [h1]
    simp only
    rw [number1_cons, nx]
  have h3 : parsed (le n 4 ++ (le l.length 1 ++ flatM l)) = (l, ⟨[], 0⟩) := by
    unfold parsed
    rw [h2]
    simp only
    have := body_enc hr [] l.length (Nat.le_refl _)
    rw [List.append_nil, List.take_length, List.drop_length] at this
    rw [this]
    rfl
  unfold bodyV
  rw [h3, h2, h1]
  simp only
  have h4 : l.all rightM = true := List.all_eq_true.2 hr
  rw [h4]
  simp [Rd.done]
  omega
theorem rec_ok {n : Int} {l : List Mv} (h : (recB n l).2 = 0) : (0 ≤ n ∧ n ≤ 2147483647) ∧ (∀ m ∈ l, rightM m = true) ∧ l.length ≤ 32 ∧ (recB n l).1 = frameL 68 (recBody n l) ∧ (recBody n l).length ≤ 65535 := by
  unfold recB at h ⊢
  by_cases h1 : (numOk n && l.all rightM) = false
  · rw [if_pos h1] at h
    simp at h
  · rw [if_neg h1] at h ⊢
    have h1 : (numOk n && l.all rightM) = true := by simpa using h1
    rw [Bool.and_eq_true] at h1
    by_cases h2 : 32 < l.length
    · rw [if_pos h2] at h
      simp at h
    · rw [if_neg h2] at h ⊢
      have hlen : (recBody n l).length ≤ 600 := by
        have g1 := fold_len l (recHead n l.length)
        have g2 := recHead_len n l.length
        unfold recBody
        omega
      have hmk : mk 68 (recBody n l) = (frameL 68 (recBody n l), 0) := by
        unfold mk
        rw [if_neg (by decide), if_neg (by omega)]
        rfl
      refine ⟨?_, List.all_eq_true.1 h1.2, by omega, by rw [hmk], by omega⟩
      have := h1.1
      unfold numOk inR at this
      simp at this
      omega
/-- The bytes of the first records. -/
def cat (first : Int) (l : List (List Mv)) : Nat → List UInt8
  | 0 => []
  | i + 1 => cat first l i ++ (recB (first + i) (l.getD i [])).1
theorem cat_mono (first : Int) (l : List (List Mv)) {i j : Nat} (h : i ≤ j) : ∃ t, cat first l j = cat first l i ++ t := by
  induction j with
  | zero =>
    obtain rfl : i = 0 := by omega
    exact ⟨[], by simp⟩
  | succ j ih =>
    rcases Nat.lt_or_ge i (j + 1) with h1 | h1
    · obtain ⟨t, e⟩ := ih (by omega)
      exact ⟨t ++ (recB (first + j) (l.getD j [])).1, by rw [cat, e, List.append_assoc]⟩
    · obtain rfl : i = j + 1 := by omega
      exact ⟨[], by simp⟩
theorem next_rec {b : List UInt8} {first : Int} {recs : List (List Mv)} {at' : Nat} {l : List Mv} {t : List UInt8} (hok : (recB (first + recs.length) l).2 = 0) (hb : b.drop at' = (recB (first + recs.length) l).1 ++ t) :
    nextV b first (recs, at') = some (recs ++ [l], at' + (recB (first + recs.length) l).1.length) := by
  obtain ⟨g1, g2, g3, g4, g5⟩ := rec_ok hok
  unfold nextV
  simp only
  rw [hb, g4, opn_mk 68 _ t (by omega) g5]
  simp only
  rw [round_trip g1 g2 g3]
  simp [frameL_len]
theorem opn_short {b : List UInt8} (h : b.length < 7) : (opn b).e ≠ 0 := by
  unfold opn
  rw [if_pos (by omega)]
  simp
theorem opn_cut_frame {k : Nat} {body : List UInt8} (hb : body.length ≤ 65535) {m : Nat} (h : m < (frameL k body).length) : (opn ((frameL k body).take m)).e ≠ 0 := by
  rw [frameL_len] at h
  have hl : ((frameL k body).take m).length = m := List.length_take_of_le (by rw [frameL_len]; omega)
  unfold opn
  by_cases h3 : m < 3
  · rw [if_pos (.inl (by omega))]
    simp
  · have hs : sz ((frameL k body).take m) = body.length := by
      unfold sz
      rw [List.drop_take, List.take_take, Nat.min_eq_left (by omega)]
      rw [show frameL k body = le k 1 ++ (le body.length 2 ++ (body ++ le (Sum.onL 0 (headL k body)) 4)) by simp [frameL, headL], List.drop_left' (le_len k 1), List.take_left' (le_len _ 2), num_le, Nat.mod_eq_of_lt (by omega)]
    rw [if_pos (.inr (by rw [hs, hl]; omega))]
    simp
theorem next_none {b : List UInt8} {first : Int} {recs : List (List Mv)} {at' : Nat} (h : (opn (b.drop at')).e ≠ 0) : nextV b first (recs, at') = none := by
  unfold nextV
  rw [if_pos (.inl h)]
/-- Reading comes to the last whole record. -/
theorem read_to {b : List UInt8} {first : Int} {l : List (List Mv)} {k : Nat} (hk : k ≤ l.length) (hok : ∀ j, j < k → (recB (first + j) (l.getD j [])).2 = 0) {t : List UInt8} (hb : b = cat first l k ++ t) (ht : (opn t).e ≠ 0) :
    readV b first = (l.take k, (cat first l k).length) := by
  have key : ∀ (d i : Nat), i + d = k → ∀ f, d < f → readF b first f (l.take i, (cat first l i).length) = (l.take k, (cat first l k).length) := by
    intro d
    induction d with
    | zero =>
      intro i hi f hf
      obtain rfl : i = k := by omega
      refine readF_none (next_none ?_)
      rw [hb, List.drop_left]
      exact ht
    | succ d ih =>
      intro i hi f hf
      obtain ⟨f', rfl⟩ : ∃ f', f = f' + 1 := ⟨f - 1, by omega⟩
      have hil : (l.take i).length = i := List.length_take_of_le (by omega)
      obtain ⟨u, hu⟩ := cat_mono first l (show i + 1 ≤ k by omega)
      have hd : b.drop (cat first l i).length = (recB (first + (l.take i).length) (l.getD i [])).1 ++ (u ++ t) := by
        rw [hb, hu, hil, cat, List.append_assoc, List.append_assoc, List.drop_left]
      have hn := next_rec (by rw [hil]; exact hok i (by omega)) hd
      rw [readF_some hn]
      have := ih (i + 1) (by omega) f' (by omega)
      rw [show l.take i ++ [l.getD i []] = l.take (i + 1) by rw [List.take_succ_eq_append_getElem (by omega), List.getD_eq_getElem?_getD, List.getElem?_eq_getElem (by omega)]; rfl, hil,
        show (cat first l i).length + (recB (first + i) (l.getD i [])).1.length = (cat first l (i + 1)).length by rw [cat, List.length_append]]
      exact this
  have hlen : k ≤ b.length := by
    have : ∀ i, i ≤ k → i ≤ (cat first l i).length := by
      intro i
      induction i with
      | zero => intro _; simp
      | succ i ih =>
        intro hi
        have h1 := ih (by omega)
        obtain ⟨_, _, _, g4, _⟩ := rec_ok (hok i (by omega))
        rw [cat, List.length_append, g4, frameL_len]
        omega
    have h1 := this k (Nat.le_refl _)
    rw [hb, List.length_append]
    omega
  have := key k 0 (by omega) (b.length + 1) (by omega)
  simpa [cat, readV] using this
end Go.Proofs.Ythppheklnplljaa.Delta
