/-
  A cyclic sum: the plain law. Conditions: each lemma's own.
-/
import Derived.WalkKit
import Derived.Laws.BitsLemmas
namespace Go.Proofs.Ythppheklnplljaa.Sum
open Go.RowKit
/-- One bit. -/
def bs (v : Nat) : Nat := if v % 2 = 1 then (v / 2) ^^^ 2197175160 else v / 2
def bsN : Nat → Nat → Nat
  | 0, v => v
  | n + 1, v => bsN n (bs v)
def tab (i : Nat) : Nat := bsN 8 i
def stp (v : Nat) (c : UInt8) : Nat := (v / 256) ^^^ tab ((v % 256) ^^^ c.toNat)
def crc (v : Nat) (l : List UInt8) : Nat := l.foldl stp v
theorem xor_div2 (a b : Nat) : (a ^^^ b) / 2 = a / 2 ^^^ b / 2 := by
  have := Nat.shiftRight_xor_distrib (a := a) (b := b) (i := 1)
  simpa [Nat.shiftRight_succ] using this
theorem xor_mod2 (a b : Nat) : (a ^^^ b) % 2 = (a % 2 + b % 2) % 2 := by
  have h := Nat.xor_mod_two_pow (a := a) (b := b) (n := 1)
  rw [show (2 : Nat) ^ 1 = 2 from rfl] at h
  rw [h]
  have ha := Nat.mod_two_eq_zero_or_one a
  have hb := Nat.mod_two_eq_zero_or_one b
  rcases ha with ha | ha <;> rcases hb with hb | hb <;> rw [ha, hb] <;> rfl
theorem xrc (a b c : Nat) : a ^^^ b ^^^ c = a ^^^ c ^^^ b := by rw [Nat.xor_assoc, Nat.xor_comm b c, ← Nat.xor_assoc]
theorem xor_lt {a b : Nat} (ha : a < 4294967296) (hb : b < 4294967296) : a ^^^ b < 4294967296 := Nat.xor_lt_two_pow (n := 32) ha hb
theorem bs_lt {v : Nat} (h : v < 4294967296) : bs v < 4294967296 := by
  unfold bs
  split
  · exact xor_lt (by omega) (by decide)
  · omega
theorem bsN_lt {v : Nat} (n : Nat) (h : v < 4294967296) : bsN n v < 4294967296 := by
  induction n generalizing v with
  | zero => exact h
  | succ n ih => exact ih (bs_lt h)
theorem bs_xor (a b : Nat) : bs (a ^^^ b) = bs a ^^^ bs b := by
  unfold bs
  rw [xor_mod2, xor_div2]
  have ha := Nat.mod_two_eq_zero_or_one a
  have hb := Nat.mod_two_eq_zero_or_one b
  rcases ha with ha | ha <;> rcases hb with hb | hb <;> simp only [ha, hb]
  · simp
  · simp [Nat.xor_assoc]
  · simp only [show ((0 : Nat) = 1) = False by simp, if_false, if_true]
    rw [xrc]
  · simp only [show ((1 + 1) % 2 = 1) = False by simp, if_false, if_true]
    rw [Nat.xor_assoc, ← Nat.xor_assoc 2197175160, Nat.xor_comm 2197175160 (b / 2), Nat.xor_assoc (b / 2), Nat.xor_self, Nat.xor_zero]
theorem bsN_xor (n a b : Nat) : bsN n (a ^^^ b) = bsN n a ^^^ bsN n b := by
  induction n generalizing a b with
  | zero => rfl
  | succ n ih => show bsN n (bs (a ^^^ b)) = _; rw [bs_xor, ih]; rfl
theorem bs_even (v : Nat) : bs (2 * v) = v := by
  unfold bs
  rw [if_neg (by omega)]
  omega
theorem bsN_shift (n v : Nat) : bsN n (2 ^ n * v) = v := by
  induction n generalizing v with
  | zero => simp [bsN]
  | succ n ih =>
    show bsN n (bs (2 ^ (n + 1) * v)) = v
    rw [Nat.pow_succ, Nat.mul_comm (2 ^ n) 2, Nat.mul_assoc, bs_even, ih]
/-- A number is its low byte and the rest. -/
theorem split_byte (v : Nat) : v = 256 * (v / 256) ^^^ v % 256 := by
  have h := Nat.two_pow_add_eq_or_of_lt (i := 8) (b := v % 256) (Nat.mod_lt _ (by omega)) (v / 256)
  have h2 : 2 ^ 8 * (v / 256) + v % 256 = v := by omega
  have h3 : (2 ^ 8 * (v / 256)) ^^^ (v % 256) = 2 ^ 8 * (v / 256) ||| v % 256 := by
    apply Nat.eq_of_testBit_eq
    intro i
    rw [Nat.testBit_xor, Nat.testBit_or, Nat.testBit_two_pow_mul]
    by_cases hi : 8 ≤ i
    · have : (v % 256).testBit i = false := Nat.testBit_lt_two_pow (Nat.lt_of_lt_of_le (Nat.mod_lt _ (by omega)) (Nat.pow_le_pow_right (n := 2) (by omega) hi))
      simp [this]
    · simp [hi]
  rw [show (2 : Nat) ^ 8 = 256 from rfl] at *
  rw [h3, ← h, h2]
theorem bs8 (v : Nat) : bsN 8 v = v / 256 ^^^ tab (v % 256) := by
  conv => lhs; rw [split_byte v]
  rw [bsN_xor]
  have := bsN_shift 8 (v / 256)
  rw [show (2 : Nat) ^ 8 = 256 from rfl] at this
  rw [this]
  rfl
theorem xor_low (v c : Nat) (hc : c < 256) : (v ^^^ c) % 256 = (v % 256) ^^^ c ∧ (v ^^^ c) / 256 = v / 256 := by
  constructor
  · have h := Nat.xor_mod_two_pow (a := v) (b := c) (n := 8)
    rw [show (2 : Nat) ^ 8 = 256 from rfl] at h
    rw [h, Nat.mod_eq_of_lt hc]
  · have := Nat.shiftRight_xor_distrib (a := v) (b := c) (i := 8)
    simp only [Nat.shiftRight_eq_div_pow] at this
    rw [show (2 : Nat) ^ 8 = 256 from rfl] at this
    rw [this, Nat.div_eq_of_lt hc, Nat.xor_zero]
/-- A byte, by the table. -/
theorem stp_eq (v : Nat) (c : UInt8) : stp v c = bsN 8 (v ^^^ c.toNat) := by
  obtain ⟨h1, h2⟩ := xor_low v c.toNat c.toNat_lt
  rw [bs8, h1, h2]
  rfl
theorem stp_lt {v : Nat} (h : v < 4294967296) (c : UInt8) : stp v c < 4294967296 := by
  rw [stp_eq]
  exact bsN_lt 8 (xor_lt h (Nat.lt_of_lt_of_le c.toNat_lt (by decide)))
theorem crc_lt {v : Nat} (h : v < 4294967296) (l : List UInt8) : crc v l < 4294967296 := by
  induction l generalizing v with
  | nil => exact h
  | cons c l ih => exact ih (stp_lt h c)
theorem crc_append (v : Nat) (l m : List UInt8) : crc v (l ++ m) = crc (crc v l) m := List.foldl_append
/-- The reference's byte: bit by bit, the number and what is left of the byte. -/
def rb (v c : Nat) : Nat := if v % 2 ≠ c % 2 then (v / 2) ^^^ 2197175160 else v / 2
def rbN : Nat → Nat → Nat → Nat
  | 0, v, _ => v
  | n + 1, v, c => rbN n (rb v c) (c / 2)
theorem rb_eq (v c : Nat) : rb v c = bs (v ^^^ c) ^^^ c / 2 := by
  unfold rb bs
  rw [xor_mod2, xor_div2]
  have ha := Nat.mod_two_eq_zero_or_one v
  have hb := Nat.mod_two_eq_zero_or_one c
  have e : ∀ a b p : Nat, (a ^^^ b ^^^ p) ^^^ b = a ^^^ p := fun a b p => by
    rw [xrc, Nat.xor_assoc a b b, Nat.xor_self, Nat.xor_zero]
  have e2 : ∀ a b : Nat, a ^^^ b ^^^ b = a := fun a b => by rw [Nat.xor_assoc, Nat.xor_self, Nat.xor_zero]
  rcases ha with ha | ha <;> rcases hb with hb | hb <;> simp [ha, hb, e, e2]
theorem rbN_eq (n : Nat) : ∀ v c : Nat, c < 2 ^ n → rbN n v c = bsN n (v ^^^ c) := by
  induction n with
  | zero => intro v c h; have : c = 0 := by omega
            subst this; simp [rbN, bsN]
  | succ n ih =>
    intro v c h
    show rbN n (rb v c) (c / 2) = bsN n (bs (v ^^^ c))
    rw [ih _ _ (by rw [Nat.pow_succ] at h; omega), rb_eq, Nat.xor_assoc, Nat.xor_self, Nat.xor_zero]
theorem rb8 (v : Nat) (c : UInt8) : rbN 8 v c.toNat = stp v c := by rw [rbN_eq 8 v c.toNat c.toNat_lt, stp_eq]
/-! ### what is turned is seen -/
theorem bs_inj {v : Nat} (h : v < 4294967296) (h0 : bs v = 0) : v = 0 := by
  unfold bs at h0
  split at h0
  · rename_i hm
    have h1 : v / 2 = 2197175160 := by
      have := congrArg (· ^^^ 2197175160) h0
      simpa [Nat.xor_assoc] using this
    omega
  · omega
theorem bsN_inj {v : Nat} (n : Nat) (h : v < 4294967296) (h0 : bsN n v = 0) : v = 0 := by
  induction n generalizing v with
  | zero => exact h0
  | succ n ih => exact bs_inj h (ih (bs_lt h) h0)
theorem bsN_add (m n v : Nat) : bsN (m + n) v = bsN n (bsN m v) := by
  induction m generalizing v with
  | zero => rw [Nat.zero_add]; rfl
  | succ m ih => rw [Nat.succ_add]; exact ih (bs v)
theorem xor_ne {a b : Nat} (h : a ≠ b) : a ^^^ b ≠ 0 := fun e => h (by
  have := congrArg (· ^^^ b) e
  simpa [Nat.xor_assoc] using this)
/-- Two states that differ differ behind the same bytes. -/
theorem crc_ne {a b : Nat} (ha : a < 4294967296) (hb : b < 4294967296) (h : a ≠ b) (l : List UInt8) : crc a l ≠ crc b l := by
  induction l generalizing a b with
  | nil => exact h
  | cons c l ih =>
    refine ih (stp_lt ha c) (stp_lt hb c) (fun e => ?_)
    rw [stp_eq, stp_eq] at e
    have h1 : bsN 8 (a ^^^ c.toNat) ^^^ bsN 8 (b ^^^ c.toNat) = 0 := by rw [e, Nat.xor_self]
    rw [← bsN_xor] at h1
    have h2 := bsN_inj 8 (xor_lt (xor_lt ha (Nat.lt_of_lt_of_le c.toNat_lt (by decide))) (xor_lt hb (Nat.lt_of_lt_of_le c.toNat_lt (by decide)))) h1
    have h3 : a ^^^ c.toNat = b ^^^ c.toNat := by
      have := congrArg (· ^^^ (b ^^^ c.toNat)) h2
      simpa [Nat.xor_assoc] using this
    have := congrArg (· ^^^ c.toNat) h3
    exact h (by simpa [Nat.xor_assoc] using this)
/-! ### the words of the walk -/
theorem wraps_u32 (n : Int) (h₀ : 0 ≤ n) (h₁ : n < 2 ^ 32) : IntKind.u32.wrap n = n := by rw [IntKind.wrap_u32]; omega
theorem bits_xor (k : IntKind) (j : Nat) (hj : j ≤ k.bits) (hk : ∀ n : Int, 0 ≤ n → n < 2 ^ j → k.wrap n = n) (a b : Nat) (ha : a < 2 ^ j) (hb : b < 2 ^ j) : bits .xor k a b = ((a ^^^ b : Nat) : Int) := by
  have hp : 2 ^ j ≤ 2 ^ k.bits := Nat.pow_le_pow_right (by decide) hj
  have ha' : a % 2 ^ k.bits = a := Nat.mod_eq_of_lt (Nat.lt_of_lt_of_le ha hp)
  have hb' : b % 2 ^ k.bits = b := Nat.mod_eq_of_lt (Nat.lt_of_lt_of_le hb hp)
  have cast : ∀ n : Nat, n < 2 ^ j → ((n : Nat) : Int) < 2 ^ j := fun n h => by exact_mod_cast h
  simp only [bits, BitVec.ofInt_natCast, BitVec.toNat_xor, BitVec.toNat_ofNat, ha', hb']
  exact hk _ (Int.natCast_nonneg _) (cast _ (Nat.xor_lt_two_pow ha hb))
theorem xor_u32 {a b : Nat} (ha : a < 4294967296) (hb : b < 4294967296) : bits .xor .u32 (a : Int) (b : Int) = ((a ^^^ b : Nat) : Int) := bits_xor .u32 32 (by decide) wraps_u32 a b ha hb
theorem xor_u8 {a b : Nat} (ha : a < 256) (hb : b < 256) : bits .xor .u8 (a : Int) (b : Int) = ((a ^^^ b : Nat) : Int) := bits_xor .u8 8 (by decide) wraps_u8 a b ha hb
theorem and_u32 {a : Nat} (ha : a < 4294967296) : bits .and .u32 (a : Int) 1 = ((a % 2 : Nat) : Int) := by
  have := (bits_nat .u32 32 (by decide) wraps_u32 a 1 ha (by decide)).1
  rw [Nat.and_one_is_mod] at this
  exact this
def nt (x : Nat) : Nat := 4294967295 - x
theorem nt_lt (x : Nat) : nt x < 4294967296 := by unfold nt; omega
theorem nt_nt {x : Nat} (h : x < 4294967296) : nt (nt x) = x := by unfold nt; omega
theorem ones_xor {x : Nat} (h : x < 4294967296) : 4294967295 ^^^ x = nt x := by
  have e := congrArg BitVec.toNat (BitVec.allOnes_xor (x := BitVec.ofNat 32 x))
  rw [BitVec.toNat_xor, BitVec.toNat_not, BitVec.toNat_allOnes, BitVec.toNat_ofNat] at e
  rw [show (2 : Nat) ^ 32 = 4294967296 from rfl, Nat.mod_eq_of_lt h] at e
  unfold nt
  omega
theorem not_u32 {x : Nat} (h : x < 4294967296) : bits .xor .u32 IntKind.u32.max (x : Int) = (nt x : Int) := by
  rw [← ones_xor h]
  exact xor_u32 (a := 4294967295) (by decide) h
/-- The sum of bytes behind a sum. -/
def onL (v : Nat) (l : List UInt8) : Nat := nt (crc (nt v) l)
theorem onL_lt (v : Nat) (l : List UInt8) : onL v l < 4294967296 := nt_lt _
theorem onL_append (v : Nat) (l m : List UInt8) : onL (onL v l) m = onL v (l ++ m) := by
  unfold onL
  rw [nt_nt (crc_lt (nt_lt v) l), crc_append]
end Go.Proofs.Ythppheklnplljaa.Sum
