/-
  What is turned is seen: the plain law. Conditions: each lemma's own.
-/
import Derived.Test.YthppheklnplljaaSumP
namespace Go.Proofs.Ythppheklnplljaa.Sum
def ys (y k : Nat) : Nat := y / 256 ^ k % 256
def En (y : Nat) : Nat → Nat
  | 0 => 0
  | k + 1 => bsN 8 (En y k ^^^ ys y k)
theorem en_eq (y k : Nat) : bsN (8 * k) y = En y k ^^^ y / 256 ^ k := by
  induction k with
  | zero => simp [bsN, En]
  | succ k ih =>
    rw [show 8 * (k + 1) = 8 * k + 8 by omega, bsN_add, ih]
    have hs := split_byte (y / 256 ^ k)
    have hd : y / 256 ^ k / 256 = y / 256 ^ (k + 1) := by rw [Nat.div_div_eq_div_mul]; rfl
    rw [hd] at hs
    have h8 := bsN_shift 8 (y / 256 ^ (k + 1))
    rw [show (2 : Nat) ^ 8 = 256 from rfl] at h8
    show bsN 8 (En y k ^^^ y / 256 ^ k) = bsN 8 (En y k ^^^ y / 256 ^ k % 256) ^^^ _
    rw [bsN_xor, bsN_xor 8 (En y k)]
    conv => lhs; rw [hs]
    rw [bsN_xor, h8, Nat.xor_comm (y / 256 ^ (k + 1)), ← Nat.xor_assoc]
theorem en4 {y : Nat} (h : y < 4294967296) (h0 : y ≠ 0) : En y 4 ≠ 0 := by
  have h1 := en_eq y 4
  rw [Nat.div_eq_of_lt (by simpa using h), Nat.xor_zero] at h1
  rw [← h1]
  exact fun e => h0 (bsN_inj _ h e)
def tb (c : UInt8) (y : Nat) : UInt8 := UInt8.ofNat (c.toNat ^^^ y)
theorem tb_nat (c : UInt8) {y : Nat} (h : y < 256) : (tb c y).toNat = c.toNat ^^^ y := by
  unfold tb
  rw [UInt8.toNat_ofNat', Nat.mod_eq_of_lt (Nat.xor_lt_two_pow (n := 8) c.toNat_lt h)]
/-- q is l, of which the bytes from n on, i of them, are turned. -/
def Turned (l : List UInt8) (n y i : Nat) (q : List UInt8) : Prop := q.length = l.length ∧ ∀ j, q[j]? = if n ≤ j ∧ j < n + i then l[j]?.map fun c => tb c (ys y (j - n)) else l[j]?
theorem ys_lt (y k : Nat) : ys y k < 256 := Nat.mod_lt _ (by omega)
theorem turned_0 (l : List UInt8) (n y : Nat) : Turned l n y 0 l := ⟨rfl, fun j => by rw [if_neg (by omega)]⟩
theorem turned_succ {l q : List UInt8} {n y i : Nat} (h : Turned l n y i q) (hn : n + i < l.length) : q[n + i]? = some l[n + i] ∧ Turned l n y (i + 1) (q.set (n + i) (tb l[n + i] (ys y i))) := by
  have h1 : q[n + i]? = some l[n + i] := by rw [h.2, if_neg (by omega), List.getElem?_eq_getElem hn]
  refine ⟨h1, by rw [List.length_set]; exact h.1, fun j => ?_⟩
  rw [List.getElem?_set]
  by_cases e : n + i = j
  · subst e
    rw [if_pos rfl, if_pos (by rw [h.1]; exact hn), if_pos (by omega), List.getElem?_eq_getElem hn, Nat.add_sub_cancel_left]
    rfl
  · rw [if_neg e, h.2]
    by_cases e2 : n ≤ j ∧ j < n + i
    · rw [if_pos e2, if_pos (by omega)]
    · rw [if_neg e2, if_neg (by omega)]
theorem crc_take' {v : Nat} {l : List UInt8} {k : Nat} (h : k < l.length) : crc v (l.take (k + 1)) = stp (crc v (l.take k)) l[k] := by
  unfold crc
  rw [List.take_succ_eq_append_getElem h, List.foldl_append]
  rfl
theorem turned_get {l q : List UInt8} {n y : Nat} (h : Turned l n y 4 q) {j : Nat} (hj : j < l.length) : q[j]'(by rw [h.1]; exact hj) = if n ≤ j ∧ j < n + 4 then tb l[j] (ys y (j - n)) else l[j] := by
  have := h.2 j
  rw [List.getElem?_eq_getElem (by rw [h.1]; exact hj), List.getElem?_eq_getElem hj] at this
  split at this <;> rename_i hc
  · rw [if_pos hc]; simpa using this
  · rw [if_neg hc]; simpa using this
theorem turned_ne {l q : List UInt8} {n y v : Nat} (h : Turned l n y 4 q) (hn : n + 4 ≤ l.length) (hy : y < 4294967296) (h0 : y ≠ 0) (hv : v < 4294967296) : crc v q ≠ crc v l := by
  have before : ∀ j, j ≤ n → crc v (q.take j) = crc v (l.take j) := by
    intro j
    induction j with
    | zero => intro _; rfl
    | succ j ih =>
      intro hj
      rw [crc_take' (by rw [h.1]; omega), crc_take' (by omega), ih (by omega), turned_get h (by omega), if_neg (by omega)]
  have mid : ∀ k, k ≤ 4 → crc v (q.take (n + k)) = crc v (l.take (n + k)) ^^^ En y k := by
    intro k
    induction k with
    | zero => intro _; rw [Nat.add_zero, before n (Nat.le_refl _)]; simp [En]
    | succ k ih =>
      intro hk
      have hg := turned_get h (j := n + k) (by omega)
      rw [if_pos (by omega), Nat.add_sub_cancel_left] at hg
      rw [← Nat.add_assoc, crc_take' (by rw [h.1]; omega), crc_take' (by omega), ih (by omega), hg, stp_eq, stp_eq, tb_nat _ (ys_lt y k)]
      show _ = _ ^^^ bsN 8 (En y k ^^^ ys y k)
      rw [← bsN_xor]
      congr 1
      generalize crc v (l.take (n + k)) = a
      generalize En y k = b
      generalize (l[n + k]'(by omega)).toNat = c
      generalize ys y k = d
      show a ^^^ b ^^^ (c ^^^ d) = a ^^^ c ^^^ (b ^^^ d)
      rw [← Nat.xor_assoc, ← Nat.xor_assoc, xrc a b c]
  have after : ∀ m, n + 4 + m ≤ l.length → crc v (q.take (n + 4 + m)) ≠ crc v (l.take (n + 4 + m)) := by
    intro m
    induction m with
    | zero =>
      intro _
      rw [Nat.add_zero, mid 4 (Nat.le_refl _)]
      intro e
      have := congrArg (crc v (l.take (n + 4)) ^^^ ·) e
      simp only [← Nat.xor_assoc, Nat.xor_self, Nat.zero_xor] at this
      exact en4 hy h0 this
    | succ m ih =>
      intro hm
      have hg := turned_get h (j := n + 4 + m) (by omega)
      rw [if_neg (by omega)] at hg
      rw [← Nat.add_assoc, crc_take' (by rw [h.1]; omega), crc_take' (by omega), hg]
      exact crc_ne (crc_lt hv _) (crc_lt hv _) (ih (by omega)) [_]
  have := after (l.length - (n + 4)) (by omega)
  rw [show n + 4 + (l.length - (n + 4)) = l.length by omega, List.take_length, List.take_of_length_le (by rw [h.1]; exact Nat.le_refl _)] at this
  exact this
end Go.Proofs.Ythppheklnplljaa.Sum
