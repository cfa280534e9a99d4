/-
  Numbers as bytes: the plain law. Conditions: each lemma's own.
-/
import Derived.WalkKit
import Derived.Deep.AppendSrc
import Derived.Laws.BitsLemmas
namespace Go.Proofs.YtjkojhebgkgdaaaDoor.Word
open Go.RowKit
/-- May a number have so many bytes? -/
def szd (n : Int) : Bool := n == 1 || n == 2 || n == 4
def fitsB (v n : Int) : Bool := szd n && decide (0 ≤ v ∧ v < 256 ^ n.toNat)
def byteAt (v i : Nat) : UInt8 := UInt8.ofNat (v / 256 ^ i)
/-- The least n bytes of a number, the least first. -/
def le (v n : Nat) : List UInt8 := (List.range n).map (byteAt v)
theorem le_len (v n : Nat) : (le v n).length = n := by simp [le]
theorem le_succ (v n : Nat) : le v (n + 1) = le v n ++ [byteAt v n] := by simp [le, List.range_succ]
def putL (b : List UInt8) (v n : Int) : List UInt8 := if fitsB v n then b ++ le v.toNat n.toNat else b
theorem szd_cases {n : Int} (h : szd n = true) : n = 1 ∨ n = 2 ∨ n = 4 := by
  simp [szd] at h
  omega
theorem szd_no {n : Int} (h1 : ¬ n = 1) (h2 : ¬ n = 2) (h4 : ¬ n = 4) : szd n = false := by simp [szd, h1, h2, h4]
theorem fits_no {v n : Int} (h : szd n = false) : fitsB v n = false := by simp [fitsB, h]
theorem fits_1 (v : Int) : fitsB v 1 = decide (0 ≤ v ∧ v ≤ 255) := by
  have : szd 1 = true := rfl
  simp only [fitsB, this, Bool.true_and, decide_eq_decide]
  simp; omega
theorem fits_2 (v : Int) : fitsB v 2 = decide (0 ≤ v ∧ v ≤ 65535) := by
  have : szd 2 = true := rfl
  simp only [fitsB, this, Bool.true_and, decide_eq_decide]
  simp; omega
theorem fits_4 (v : Int) : fitsB v 4 = decide (0 ≤ v ∧ v ≤ 4294967295) := by
  have : szd 4 = true := rfl
  simp only [fitsB, this, Bool.true_and, decide_eq_decide]
  simp; omega
theorem fits_sz {v n : Int} (h : fitsB v n = true) : szd n = true := by
  unfold fitsB at h
  simp at h
  exact h.1
theorem fits_lo {v n : Int} (h : fitsB v n = true) : 0 ≤ v ∧ v < 4294967296 := by
  rcases szd_cases (fits_sz h) with rfl | rfl | rfl
  · rw [fits_1] at h; simp at h; omega
  · rw [fits_2] at h; simp at h; omega
  · rw [fits_4] at h; simp at h; omega
theorem putL_len (b : List UInt8) (v n : Int) : b.length ≤ (putL b v n).length ∧ (putL b v n).length ≤ b.length + 4 := by
  unfold putL
  split
  · rename_i h
    rcases szd_cases (fits_sz h) with rfl | rfl | rfl <;> simp [le_len]
  · omega
/-- The number that bytes are. -/
def num : List UInt8 → Nat
  | [] => 0
  | c :: r => c.toNat + 256 * num r
theorem num_lt (l : List UInt8) : num l < 256 ^ l.length := by
  induction l with
  | nil => simp [num]
  | cons c r ih =>
    have := c.toNat_lt
    simp only [num, List.length_cons, Nat.pow_succ]
    omega
theorem num_append (l m : List UInt8) : num (l ++ m) = num l + 256 ^ l.length * num m := by
  induction l with
  | nil => simp [num]
  | cons c r ih =>
    simp only [List.cons_append, num, ih, List.length_cons, Nat.pow_succ]
    rw [Nat.mul_add, Nat.mul_comm (256 ^ r.length) 256, Nat.mul_assoc, Nat.add_assoc]
theorem num_le (v n : Nat) : num (le v n) = v % 256 ^ n := by
  induction n with
  | zero => simp [le, num, Nat.mod_one]
  | succ n ih =>
    rw [le_succ, num_append, ih, le_len]
    simp only [num, byteAt, Nat.mul_zero, Nat.add_zero, UInt8.toNat_ofNat']
    have := Nat.mod_mul (x := v) (a := 256 ^ n) (b := 256)
    rw [show (256 : Nat) ^ (n + 1) = 256 ^ n * 256 from rfl, this]
theorem wraps_i64 (n : Int) (h₀ : 0 ≤ n) (h₁ : n < 2 ^ 62) : IntKind.i64.wrap n = n := by rw [IntKind.wrap_i64]; omega
theorem or_num (x y k : Nat) (hx : x < 256 ^ k) (hy : y < 256) (hk : k < 4) : bits .or .i64 (x : Int) (wrap64 ((y : Int) * 2 ^ (8 * k))) = ((x + 256 ^ k * y : Nat) : Int) := by
  have h256 : (256 : Nat) ^ k = 2 ^ (8 * k) := by rw [Nat.pow_mul]
  have hsm : 2 ^ (8 * k) ≤ 16777216 := by
    have : 8 * k ≤ 24 := by omega
    exact Nat.le_trans (Nat.pow_le_pow_right (by omega) this) (by decide)
  have hmul : 2 ^ (8 * k) * y < 4294967296 := by
    have := Nat.mul_le_mul hsm (show y ≤ 255 by omega)
    omega
  have e : wrap64 ((y : Int) * 2 ^ (8 * k)) = ((2 ^ (8 * k) * y : Nat) : Int) := by
    have e2 : (y : Int) * 2 ^ (8 * k) = ((2 ^ (8 * k) * y : Nat) : Int) := by
      rw [Int.natCast_mul, Int.mul_comm]
      norm_cast
    rw [e2]
    generalize 2 ^ (8 * k) * y = z at *
    unfold wrap64
    omega
  rw [h256] at hx
  rw [e, h256]
  rw [(bits_nat .i64 62 (by decide) wraps_i64 x _ (by omega) (by omega)).2, Nat.or_comm, ← Nat.two_pow_add_eq_or_of_lt hx, Nat.add_comm]
/-- A reader's state: what is left, and the error. -/
structure Rd where
  l : List UInt8
  e : Int
def Rd.fail (r : Rd) (x : Int) : Rd := if r.e = 0 then ⟨r.l, x⟩ else r
/-- What 'next' hands back, and leaves. -/
def Rd.next (r : Rd) (n : Nat) : List UInt8 × Rd := if r.e ≠ 0 then ([], r) else if r.l.length < n then ([], ⟨r.l, 2⟩) else (r.l.take n, ⟨r.l.drop n, 0⟩)
def Rd.number (r : Rd) (n : Int) : Nat × Rd := if szd n then (num (r.next n.toNat).1, (r.next n.toNat).2) else (0, r.fail 1)
def Rd.text (r : Rd) (most : Int) : List UInt8 × Rd :=
  if (r.number 2).2.e ≠ 0 then ([], (r.number 2).2) else if most < (r.number 2).1 then ([], (r.number 2).2.fail 3) else (r.number 2).2.next (r.number 2).1
def Rd.flag (r : Rd) : Bool × Rd := (decide ((r.number 1).1 = 1), if 1 < (r.number 1).1 then (r.number 1).2.fail 2 else (r.number 1).2)
def Rd.done (r : Rd) : Int × Rd := ((if 0 < r.l.length then r.fail 2 else r).e, if 0 < r.l.length then r.fail 2 else r)
end Go.Proofs.YtjkojhebgkgdaaaDoor.Word
