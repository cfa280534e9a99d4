/-
  How many ones a word has: plain law. Conditions: each lemma's own.
-/
import Derived.Deep.Draws
namespace Go.Proofs.YtjkojhebgkgdaaaDoor.Ecc
set_option linter.unusedVariables false
/-- The ones among the first k bits. -/
def popN (v : Nat) : Nat → Nat
  | 0 => 0
  | k + 1 => popN v k + (v.testBit k).toNat
theorem and_cons (a b x y : Nat) (ha : a < 256) (hb : b < 256) : (a + 256 * x) &&& (b + 256 * y) = (a &&& b) + 256 * (x &&& y) := by
  have h1 : ((a + 256 * x) &&& (b + 256 * y)) / 2 ^ 8 = ((a + 256 * x) / 2 ^ 8) &&& ((b + 256 * y) / 2 ^ 8) := Nat.and_div_two_pow
  have h2 : ((a + 256 * x) &&& (b + 256 * y)) % 2 ^ 8 = ((a + 256 * x) % 2 ^ 8) &&& ((b + 256 * y) % 2 ^ 8) := Nat.and_mod_two_pow
  rw [show (a + 256 * x) / 2 ^ 8 = x by omega, show (b + 256 * y) / 2 ^ 8 = y by omega] at h1
  rw [show (a + 256 * x) % 2 ^ 8 = a by omega, show (b + 256 * y) % 2 ^ 8 = b by omega] at h2
  omega
/-- k bytes of one. -/
def mk (c : Nat) : Nat → Nat
  | 0 => 0
  | k + 1 => c + 256 * mk c k
def f1 (a : Nat) : Nat := (a / 2 &&& 0x55) + (a &&& 0x55)
def f2 (a : Nat) : Nat := (a / 4 &&& 0x33) + (a &&& 0x33)
def f3 (a : Nat) : Nat := (a / 16 + a) &&& 0x0f
theorem f1_bit : ∀ a : Fin 256, ∀ t : Fin 2, (a.val / 2 + 128 * t.val) &&& 0x55 = a.val / 2 &&& 0x55 := by decide +kernel
theorem f2_bit : ∀ a : Fin 256, ∀ t : Fin 4, (a.val / 4 + 64 * t.val) &&& 0x33 = a.val / 4 &&& 0x33 := by decide +kernel
theorem f3_bit : ∀ a : Fin 256, ∀ t : Fin 16, (a.val / 16 + a.val + 16 * t.val) % 256 &&& 0x0f = f3 a.val := by decide +kernel
theorem f_pop : ∀ a : Fin 256, f3 (f2 (f1 a.val)) = popN a.val 8 ∧ f1 a.val < 171 ∧ f2 (f1 a.val) / 16 ≤ 4 ∧ f2 (f1 a.val) % 16 ≤ 4 := by decide +kernel
theorem step1 (a r k : Nat) (ha : a < 256) : (((a + 256 * r) / 2) &&& mk 0x55 (k + 1)) + ((a + 256 * r) &&& mk 0x55 (k + 1)) = f1 a + 256 * ((r / 2 &&& mk 0x55 k) + (r &&& mk 0x55 k)) := by
  have h := f1_bit ⟨a, ha⟩ ⟨r % 2, by omega⟩
  simp only at h
  have e : (a + 256 * r) / 2 = (a / 2 + 128 * (r % 2)) + 256 * (r / 2) := by omega
  rw [e]
  rw [show mk 0x55 (k + 1) = 0x55 + 256 * mk 0x55 k from rfl]
  unfold f1
  rw [and_cons _ _ _ _ (by omega) (by omega), and_cons _ _ _ _ ha (by omega), h]
  omega
theorem step2 (a r k : Nat) (ha : a < 256) : (((a + 256 * r) / 4) &&& mk 0x33 (k + 1)) + ((a + 256 * r) &&& mk 0x33 (k + 1)) = f2 a + 256 * ((r / 4 &&& mk 0x33 k) + (r &&& mk 0x33 k)) := by
  have h := f2_bit ⟨a, ha⟩ ⟨r % 4, by omega⟩
  simp only at h
  have e : (a + 256 * r) / 4 = (a / 4 + 64 * (r % 4)) + 256 * (r / 4) := by omega
  rw [e]
  rw [show mk 0x33 (k + 1) = 0x33 + 256 * mk 0x33 k from rfl]
  unfold f2
  rw [and_cons _ _ _ _ (by omega) (by omega), and_cons _ _ _ _ ha (by omega), h]
  omega
theorem step3 (a r k : Nat) (ha : a / 16 ≤ 4 ∧ a % 16 ≤ 4) (hr : r % 16 ≤ 4) : ((a + 256 * r) / 16 + (a + 256 * r)) &&& mk 0x0f (k + 1) = f3 a + 256 * ((r / 16 + r) &&& mk 0x0f k) := by
  have h := f3_bit ⟨a, by omega⟩ ⟨r % 16, by omega⟩
  simp only at h
  have e : (a + 256 * r) / 16 + (a + 256 * r) = (a / 16 + a + 16 * (r % 16)) + 256 * (r / 16 + r) := by omega
  rw [e]
  rw [show mk 0x0f (k + 1) = 0x0f + 256 * mk 0x0f k from rfl]
  rw [and_cons _ _ _ _ (by omega) (by omega)]
  rw [Nat.mod_eq_of_lt (by omega)] at h
  rw [h]
theorem pop_cons (a r : Nat) (ha : a < 256) : ∀ k, popN (a + 256 * r) (8 + k) = popN a 8 + popN r k
  | 0 => by
    have : ∀ j, j ≤ 8 → popN (a + 256 * r) j = popN a j := by
      intro j
      induction j with
      | zero => intro _; rfl
      | succ j ih =>
        intro hj
        unfold popN
        rw [ih (by omega)]
        have : (a + 256 * r).testBit j = a.testBit j := by
          have h1 := Nat.testBit_mod_two_pow (a + 256 * r) 8 j
          rw [show (a + 256 * r) % 2 ^ 8 = a by omega] at h1
          rw [h1]
          simp
          omega
        rw [this]
    rw [Nat.add_zero, this 8 (by omega)]
    rfl
  | k + 1 => by
    have ih := pop_cons a r ha k
    rw [show 8 + (k + 1) = (8 + k) + 1 by omega]
    show popN (a + 256 * r) (8 + k) + ((a + 256 * r).testBit (8 + k)).toNat = popN a 8 + (popN r k + (r.testBit k).toNat)
    rw [ih]
    have : (a + 256 * r).testBit (8 + k) = r.testBit k := by
      have h1 : ((a + 256 * r) / 2 ^ 8).testBit k = (a + 256 * r).testBit (k + 8) := Nat.testBit_div_two_pow _ _
      rw [show (a + 256 * r) / 2 ^ 8 = r by omega] at h1
      rw [h1, Nat.add_comm k 8]
    rw [this]
    exact Nat.add_assoc _ _ _
/-- The word's bytes. -/
def bs (x : Nat) : Nat → List Nat
  | 0 => []
  | k + 1 => x % 256 :: bs (x / 256) k
def wdN : List Nat → Nat
  | [] => 0
  | a :: l => a + 256 * wdN l
theorem wd_bs (k : Nat) : ∀ x, x < 256 ^ k → wdN (bs x k) = x := by
  induction k with
  | zero => intro x h; simp at h; subst h; rfl
  | succ k ih =>
    intro x h
    unfold bs wdN
    rw [ih (x / 256) (by rw [Nat.pow_succ] at h; omega)]
    omega
theorem s1_all (l : List Nat) (h : ∀ a ∈ l, a < 256) : ((wdN l / 2) &&& mk 0x55 l.length) + (wdN l &&& mk 0x55 l.length) = wdN (l.map f1) := by
  induction l with
  | nil => rfl
  | cons a l ih =>
    rw [List.length_cons]
    show (((a + 256 * wdN l) / 2) &&& mk 0x55 (l.length + 1)) + ((a + 256 * wdN l) &&& mk 0x55 (l.length + 1)) = f1 a + 256 * wdN (l.map f1)
    rw [step1 a _ _ (h a (by simp)), ih (fun x hx => h x (by simp [hx]))]
theorem s2_all (l : List Nat) (h : ∀ a ∈ l, a < 256) : ((wdN l / 4) &&& mk 0x33 l.length) + (wdN l &&& mk 0x33 l.length) = wdN (l.map f2) := by
  induction l with
  | nil => rfl
  | cons a l ih =>
    rw [List.length_cons]
    show (((a + 256 * wdN l) / 4) &&& mk 0x33 (l.length + 1)) + ((a + 256 * wdN l) &&& mk 0x33 (l.length + 1)) = f2 a + 256 * wdN (l.map f2)
    rw [step2 a _ _ (h a (by simp)), ih (fun x hx => h x (by simp [hx]))]
theorem s3_all (l : List Nat) (h : ∀ a ∈ l, a / 16 ≤ 4 ∧ a % 16 ≤ 4) : (wdN l / 16 + wdN l) &&& mk 0x0f l.length = wdN (l.map f3) := by
  induction l with
  | nil => rfl
  | cons a l ih =>
    rw [List.length_cons]
    show ((a + 256 * wdN l) / 16 + (a + 256 * wdN l)) &&& mk 0x0f (l.length + 1) = f3 a + 256 * wdN (l.map f3)
    rw [step3 a _ _ (h a (by simp)) ?_, ih (fun x hx => h x (by simp [hx]))]
    cases l with
    | nil => simp [wdN]
    | cons b l =>
      have := h b (by simp)
      show (b + 256 * wdN l) % 16 ≤ 4
      omega
theorem pop_all (l : List Nat) (h : ∀ a ∈ l, a < 256) : popN (wdN l) (8 * l.length) = (l.map fun a => popN a 8).sum := by
  induction l with
  | nil => rfl
  | cons a l ih =>
    rw [List.length_cons, show 8 * (l.length + 1) = 8 + 8 * l.length by omega]
    show popN (a + 256 * wdN l) _ = _
    rw [pop_cons a _ (h a (by simp)), ih (fun x hx => h x (by simp [hx]))]
    rfl
theorem bs_lt (k : Nat) : ∀ x, ∀ a ∈ bs x k, a < 256 := by
  induction k with
  | zero => intro x a h; simp [bs] at h
  | succ k ih =>
    intro x a h
    rcases List.mem_cons.1 h with rfl | h
    · omega
    · exact ih _ a h
theorem bs_len (k : Nat) : ∀ x, (bs x k).length = k := by
  induction k with
  | zero => intro x; rfl
  | succ k ih => intro x; simp [bs, ih]
theorem pop_le (a : Nat) : ∀ k, popN a k ≤ k
  | 0 => Nat.le_refl _
  | k + 1 => by
    have := pop_le a k
    unfold popN
    cases a.testBit k <;> simp <;> omega
theorem wd_div (a : Nat) (l : List Nat) (h : a < 256) : wdN (a :: l) / 256 = wdN l := by
  show (a + 256 * wdN l) / 256 = _
  omega
theorem wd_add (a b : Nat) (l m : List Nat) : wdN (a :: l) + wdN (b :: m) = (a + b) + 256 * (wdN l + wdN m) := by
  show (a + 256 * wdN l) + (b + 256 * wdN m) = _
  omega
def rep1 : Nat → Nat
  | 0 => 0
  | k + 1 => 1 + 256 * rep1 k
theorem wd_le {n : Nat} : ∀ (l : List Nat), (∀ a ∈ l, a < n) → wdN l + rep1 l.length ≤ n * rep1 l.length
  | [], _ => by simp [wdN, rep1]
  | a :: l, h => by
    have h1 := wd_le l (fun x hx => h x (by simp [hx]))
    have h2 := h a (by simp)
    rw [List.length_cons]
    show a + 256 * wdN l + (1 + 256 * rep1 l.length) ≤ n * (1 + 256 * rep1 l.length)
    have e : n * (1 + 256 * rep1 l.length) = n + 256 * (n * rep1 l.length) := by rw [Nat.mul_add, Nat.mul_one, Nat.mul_left_comm]
    rw [e]
    generalize n * rep1 l.length = q at *
    omega
theorem rep8 : rep1 8 = 72340172838076673 := by decide +kernel
theorem wd_lt8 {a b c d e f g h n : Nat} (ha : a < n) (hb : b < n) (hc : c < n) (hd : d < n) (he : e < n) (hf : f < n) (hg : g < n) (hh : h < n) : wdN [a, b, c, d, e, f, g, h] < n * 72340172838076673 := by
  have h1 := wd_le (n := n) [a, b, c, d, e, f, g, h] (by
    intro x hx
    simp only [List.mem_cons, List.not_mem_nil, or_false] at hx
    rcases hx with rfl | rfl | rfl | rfl | rfl | rfl | rfl | rfl <;> assumption)
  rw [show [a, b, c, d, e, f, g, h].length = 8 from rfl, rep8] at h1
  exact Nat.lt_of_lt_of_le (Nat.lt_add_of_pos_right (by decide)) h1
theorem len8 {α : Type} : ∀ (l : List α), l.length = 8 → ∃ a b c d e f g h, l = [a, b, c, d, e, f, g, h]
  | [a, b, c, d, e, f, g, h], _ => ⟨a, b, c, d, e, f, g, h, rfl⟩
/-- The steps of a word's count, as Go's library has them. -/
theorem count64 (x : Nat) (hx : x < 18446744073709551616) (y z p : Nat) (hy : y = (x / 2 &&& 6148914691236517205) + (x &&& 6148914691236517205)) (hz : z = (y / 4 &&& 3689348814741910323) + (y &&& 3689348814741910323)) (hp : p = (z / 16 + z) &&& 1085102592571150095) :
    y < 18446744073709551616 ∧ z < 18446744073709551616 ∧ z / 16 + z < 18446744073709551616 ∧ ∃ p0 p1 p2 p3 p4 p5 p6 p7, p = wdN [p0, p1, p2, p3, p4, p5, p6, p7] ∧ popN x 64 = p0 + p1 + p2 + p3 + p4 + p5 + p6 + p7 ∧ p0 ≤ 8 ∧ p1 ≤ 8 ∧ p2 ≤ 8 ∧ p3 ≤ 8 ∧ p4 ≤ 8 ∧ p5 ≤ 8 ∧ p6 ≤ 8 ∧ p7 ≤ 8 := by
  have e := wd_bs 8 x (by simpa using hx)
  have hl := bs_len 8 x
  have hb := bs_lt 8 x
  generalize bs x 8 = l at *
  subst e
  have e1 := s1_all l hb
  have e2 := s2_all (l.map f1) (by
    intro a ha
    obtain ⟨b, hb2, rfl⟩ := List.mem_map.1 ha
    exact Nat.lt_trans (f_pop ⟨b, hb b hb2⟩).2.1 (by decide))
  have e3 := s3_all ((l.map f1).map f2) (by
    intro a ha
    obtain ⟨c, hc, rfl⟩ := List.mem_map.1 ha
    obtain ⟨b, hb2, rfl⟩ := List.mem_map.1 hc
    exact ⟨(f_pop ⟨b, hb b hb2⟩).2.2.1, (f_pop ⟨b, hb b hb2⟩).2.2.2⟩)
  have e4 := pop_all l hb
  simp only [List.length_map, hl] at e1 e2 e3 e4
  rw [show mk 0x55 8 = 6148914691236517205 by decide +kernel] at e1
  rw [show mk 0x33 8 = 3689348814741910323 by decide +kernel] at e2
  rw [show mk 0x0f 8 = 1085102592571150095 by decide +kernel] at e3
  rw [e1] at hy
  rw [← hy] at e2
  rw [e2] at hz
  rw [← hz] at e3
  rw [e3] at hp
  obtain ⟨a, b, c, d, e, f, g, h, rfl⟩ := len8 l hl
  have ka := f_pop ⟨a, hb a (by simp)⟩
  have kb := f_pop ⟨b, hb b (by simp)⟩
  have kc := f_pop ⟨c, hb c (by simp)⟩
  have kd := f_pop ⟨d, hb d (by simp)⟩
  have ke := f_pop ⟨e, hb e (by simp)⟩
  have kf := f_pop ⟨f, hb f (by simp)⟩
  have kg := f_pop ⟨g, hb g (by simp)⟩
  have kh := f_pop ⟨h, hb h (by simp)⟩
  simp only [List.map_cons, List.map_nil] at hy hz hp
  simp only [List.map_cons, List.map_nil, List.sum_cons, List.sum_nil, Nat.add_zero] at e4
  simp only at ka kb kc kd ke kf kg kh
  have la := pop_le a 8
  have lb := pop_le b 8
  have lc := pop_le c 8
  have ld := pop_le d 8
  have le := pop_le e 8
  have lf := pop_le f 8
  have lg := pop_le g 8
  have lh := pop_le h 8
  rw [ka.1, kb.1, kc.1, kd.1, ke.1, kf.1, kg.1, kh.1] at hp
  have b1 := wd_lt8 (n := 171) ka.2.1 kb.2.1 kc.2.1 kd.2.1 ke.2.1 kf.2.1 kg.2.1 kh.2.1
  have hb2 : ∀ x : Nat, f2 (f1 x) / 16 ≤ 4 → f2 (f1 x) % 16 ≤ 4 → f2 (f1 x) < 69 := fun x h1 h2 => by omega
  have b2 := wd_lt8 (n := 69) (hb2 _ ka.2.2.1 ka.2.2.2) (hb2 _ kb.2.2.1 kb.2.2.2) (hb2 _ kc.2.2.1 kc.2.2.2) (hb2 _ kd.2.2.1 kd.2.2.2) (hb2 _ ke.2.2.1 ke.2.2.2) (hb2 _ kf.2.2.1 kf.2.2.2) (hb2 _ kg.2.2.1 kg.2.2.2) (hb2 _ kh.2.2.1 kh.2.2.2)
  rw [← hy] at b1
  rw [← hz] at b2
  clear hy hz e1 e2 e3 hb2 hb hx ka kb kc kd ke kf kg kh
  refine ⟨Nat.lt_of_lt_of_le b1 (by decide), Nat.lt_of_lt_of_le b2 (by decide), by omega, _, _, _, _, _, _, _, _, hp, by rw [show 8 * 8 = 64 from rfl] at e4; rw [e4]; omega, la, lb, lc, ld, le, lf, lg, lh⟩
theorem count_end {p p0 p1 p2 p3 p4 p5 p6 p7 : Nat} (hp : p = wdN [p0, p1, p2, p3, p4, p5, p6, p7]) (h0 : p0 ≤ 8) (h1 : p1 ≤ 8) (h2 : p2 ≤ 8) (h3 : p3 ≤ 8) (h4 : p4 ≤ 8) (h5 : p5 ≤ 8) (h6 : p6 ≤ 8) (h7 : p7 ≤ 8)
    {q r s : Nat} (hq : q = p + p / 256) (hr : r = q + q / 65536) (hs : s = r + r / 4294967296) : q < 18446744073709551616 ∧ r < 18446744073709551616 ∧ s < 9223372036854775808 ∧ s % 128 = p0 + p1 + p2 + p3 + p4 + p5 + p6 + p7 := by
  have eq : q = wdN [p0 + p1, p1 + p2, p2 + p3, p3 + p4, p4 + p5, p5 + p6, p6 + p7, p7] := by
    rw [hq, hp, wd_div _ _ (by omega)]
    simp only [wdN]
    omega
  have e2 : q / 65536 = wdN [p2 + p3, p3 + p4, p4 + p5, p5 + p6, p6 + p7, p7] := by
    rw [show 65536 = 256 * 256 by rfl, ← Nat.div_div_eq_div_mul, eq, wd_div _ _ (by omega), wd_div _ _ (by omega)]
  have er : r = wdN [p0 + p1 + (p2 + p3), p1 + p2 + (p3 + p4), p2 + p3 + (p4 + p5), p3 + p4 + (p5 + p6), p4 + p5 + (p6 + p7), p5 + p6 + p7, p6 + p7, p7] := by
    rw [hr, e2, eq]
    simp only [wdN]
    omega
  have e3 : r / 4294967296 = wdN [p4 + p5 + (p6 + p7), p5 + p6 + p7, p6 + p7, p7] := by
    rw [show 4294967296 = 256 * 256 * 256 * 256 by rfl, ← Nat.div_div_eq_div_mul, ← Nat.div_div_eq_div_mul, ← Nat.div_div_eq_div_mul, er, wd_div _ _ (by omega), wd_div _ _ (by omega), wd_div _ _ (by omega), wd_div _ _ (by omega)]
  have es : s = wdN [p0 + p1 + (p2 + p3) + (p4 + p5 + (p6 + p7)), p1 + p2 + (p3 + p4) + (p5 + p6 + p7), p2 + p3 + (p4 + p5) + (p6 + p7), p3 + p4 + (p5 + p6) + p7, p4 + p5 + (p6 + p7), p5 + p6 + p7, p6 + p7, p7] := by
    rw [hs, e3, er]
    simp only [wdN]
    omega
  clear hp hq hr hs e2 e3
  have b1 := wd_lt8 (n := 100) (show p0 + p1 < 100 by omega) (show p1 + p2 < 100 by omega) (show p2 + p3 < 100 by omega) (show p3 + p4 < 100 by omega) (show p4 + p5 < 100 by omega) (show p5 + p6 < 100 by omega) (show p6 + p7 < 100 by omega) (show p7 < 100 by omega)
  have b2 := wd_lt8 (n := 100) (show p0 + p1 + (p2 + p3) < 100 by omega) (show p1 + p2 + (p3 + p4) < 100 by omega) (show p2 + p3 + (p4 + p5) < 100 by omega) (show p3 + p4 + (p5 + p6) < 100 by omega) (show p4 + p5 + (p6 + p7) < 100 by omega) (show p5 + p6 + p7 < 100 by omega) (show p6 + p7 < 100 by omega) (show p7 < 100 by omega)
  have b3 := wd_lt8 (n := 100) (show p0 + p1 + (p2 + p3) + (p4 + p5 + (p6 + p7)) < 100 by omega) (show p1 + p2 + (p3 + p4) + (p5 + p6 + p7) < 100 by omega) (show p2 + p3 + (p4 + p5) + (p6 + p7) < 100 by omega) (show p3 + p4 + (p5 + p6) + p7 < 100 by omega) (show p4 + p5 + (p6 + p7) < 100 by omega) (show p5 + p6 + p7 < 100 by omega) (show p6 + p7 < 100 by omega) (show p7 < 100 by omega)
  rw [← eq] at b1
  rw [← er] at b2
  rw [← es] at b3
  refine ⟨Nat.lt_trans b1 (by decide), Nat.lt_trans b2 (by decide), Nat.lt_trans b3 (by decide), ?_⟩
  rw [es]
  show (_ + 256 * wdN _) % 128 = _
  generalize wdN _ = z
  omega
end Go.Proofs.YtjkojhebgkgdaaaDoor.Ecc
