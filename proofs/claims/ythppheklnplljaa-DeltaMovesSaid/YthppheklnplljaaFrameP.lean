/-
  Frames: the plain law. Conditions: each lemma's own.
-/
import Derived.Test.YthppheklnplljaaWordP
import Derived.Test.YthppheklnplljaaSumQ
namespace Go.Proofs.Ythppheklnplljaa.Frame
open Go.Proofs.Ythppheklnplljaa.Word Go.Proofs.Ythppheklnplljaa.Sum
/-- Head and body. -/
def headL (k : Nat) (body : List UInt8) : List UInt8 := le k 1 ++ le body.length 2 ++ body
def frameL (k : Nat) (body : List UInt8) : List UInt8 := headL k body ++ le (onL 0 (headL k body)) 4
/-- What Make answers. -/
def mk (k : Int) (body : List UInt8) : List UInt8 × Int := if fitsB k 1 = false then ([], 1) else if 65535 < body.length then ([], 3) else (frameL k.toNat body, 0)
theorem headL_len (k : Nat) (body : List UInt8) : (headL k body).length = 3 + body.length := by
  simp [headL, le_len]
  omega
theorem frameL_len (k : Nat) (body : List UInt8) : (frameL k body).length = 7 + body.length := by
  simp [frameL, headL_len, le_len]
  omega
/-- The size that is told. -/
def sz (b : List UInt8) : Nat := num ((b.drop 1).take 2)
structure Op where
  k : Nat
  body : List UInt8
  n : Nat
  e : Int
/-- What Open answers. -/
def opn (b : List UInt8) : Op :=
  if b.length < 3 ∨ b.length < sz b + 7 then ⟨0, [], 0, 2⟩
  else if num ((b.drop (3 + sz b)).take 4) ≠ onL 0 (b.take (3 + sz b)) then ⟨0, [], 0, 14⟩
  else ⟨num (b.take 1), (b.take (3 + sz b)).drop 3, 3 + sz b + 4, 0⟩
/-- What Whole answers. -/
def whl (b : List UInt8) (k : Int) : List UInt8 × Int :=
  if (opn b).e ≠ 0 then ([], (opn b).e) else if (opn b).n ≠ b.length ∨ ((opn b).k : Int) ≠ k then ([], 2) else ((opn b).body, 0)
theorem sz_lt (b : List UInt8) : sz b ≤ 65535 := by
  have h1 := num_lt ((b.drop 1).take 2)
  have h2 : ((b.drop 1).take 2).length ≤ 2 := by rw [List.length_take]; omega
  have h3 : 256 ^ ((b.drop 1).take 2).length ≤ 256 ^ 2 := Nat.pow_le_pow_right (by omega) h2
  unfold sz
  omega
theorem le_cons (v n : Nat) : le v (n + 1) = UInt8.ofNat v :: le (v / 256) n := by
  unfold le
  rw [List.range_succ_eq_map, List.map_cons, List.map_map]
  congr 1
  · simp [byteAt]
  · apply List.map_congr_left
    intro i _
    show byteAt v (i + 1) = byteAt (v / 256) i
    unfold byteAt
    rw [Nat.div_div_eq_div_mul, Nat.pow_succ, Nat.mul_comm]
theorem le_num (l : List UInt8) : le (num l) l.length = l := by
  induction l with
  | nil => rfl
  | cons c r ih =>
    have hc := c.toNat_lt
    rw [List.length_cons, le_cons]
    show UInt8.ofNat (c.toNat + 256 * num r) :: le ((c.toNat + 256 * num r) / 256) r.length = c :: r
    rw [show (c.toNat + 256 * num r) / 256 = num r by omega, ih]
    congr 1
    apply UInt8.toNat_inj.1
    rw [UInt8.toNat_ofNat']
    omega
theorem le_inj {a b n : Nat} (ha : a < 256 ^ n) (hb : b < 256 ^ n) (h : le a n = le b n) : a = b := by
  have := congrArg num h
  rwa [num_le, num_le, Nat.mod_eq_of_lt ha, Nat.mod_eq_of_lt hb] at this
/-- What stands at the beginning, in parts. -/
theorem parts (b : List UInt8) (h3 : 3 ≤ b.length) (hn : 3 + sz b ≤ b.length) : b.take (3 + sz b) = headL (num (b.take 1)) ((b.take (3 + sz b)).drop 3) := by
  unfold headL
  have h1 : le (num (b.take 1)) 1 = b.take 1 := by
    have := le_num (b.take 1)
    rwa [List.length_take_of_le (by omega)] at this
  have hl : ((b.take (3 + sz b)).drop 3).length = sz b := by rw [List.length_drop, List.length_take_of_le hn]; omega
  have h2 : le (sz b) 2 = (b.drop 1).take 2 := by
    have := le_num ((b.drop 1).take 2)
    rwa [List.length_take_of_le (by rw [List.length_drop]; omega)] at this
  rw [h1, hl, h2]
  have e3 : b.take 1 ++ (b.drop 1).take 2 = b.take 3 := by
    rw [show 3 = 1 + 2 from rfl, List.take_add]
  rw [e3]
  conv => lhs; rw [← List.take_append_drop 3 (b.take (3 + sz b))]
  rw [List.take_take, Nat.min_eq_left (by omega)]
/-- The reference's test is the program's. -/
theorem same_test (b : List UInt8) (h7 : sz b + 7 ≤ b.length) : (frameL (num (b.take 1)) ((b.take (3 + sz b)).drop 3) = b.take (sz b + 7)) ↔ num ((b.drop (3 + sz b)).take 4) = onL 0 (b.take (3 + sz b)) := by
  have hp := parts b (by omega) (by omega)
  have ht : b.take (sz b + 7) = b.take (3 + sz b) ++ (b.drop (3 + sz b)).take 4 := by
    rw [show sz b + 7 = (3 + sz b) + 4 by omega]
    exact List.take_add
  unfold frameL
  rw [← hp, ht, List.append_cancel_left_eq]
  have hl : ((b.drop (3 + sz b)).take 4).length = 4 := by rw [List.length_take, List.length_drop]; omega
  constructor
  · intro h
    rw [← h, num_le, Nat.mod_eq_of_lt (onL_lt _ _)]
  · intro h
    rw [← h]
    have := le_num ((b.drop (3 + sz b)).take 4)
    rwa [hl] at this
/-- What is made is opened, whatever stands behind. -/
theorem opn_mk (k : Nat) (body r : List UInt8) (hk : k ≤ 255) (hb : body.length ≤ 65535) : opn (frameL k body ++ r) = ⟨k, body, 7 + body.length, 0⟩ := by
  have hh : frameL k body ++ r = le k 1 ++ (le body.length 2 ++ (body ++ (le (onL 0 (headL k body)) 4 ++ r))) := by simp [frameL, headL]
  have hs : sz (frameL k body ++ r) = body.length := by
    unfold sz
    rw [hh, List.drop_left' (le_len k 1), List.take_left' (le_len _ 2), num_le, Nat.mod_eq_of_lt (by omega)]
  have hl : (frameL k body ++ r).length = 7 + body.length + r.length := by rw [List.length_append, frameL_len]
  have hhl := headL_len k body
  have ht : (frameL k body ++ r).take (3 + body.length) = headL k body := by
    unfold frameL
    rw [List.append_assoc, List.take_left' hhl]
  have hd : ((frameL k body ++ r).drop (3 + body.length)).take 4 = le (onL 0 (headL k body)) 4 := by
    unfold frameL
    rw [List.append_assoc, List.drop_left' hhl, List.take_left' (le_len _ _)]
  unfold opn
  rw [hs, if_neg (by rw [hl]; omega), ht, hd, num_le, if_neg (by rw [Nat.mod_eq_of_lt (onL_lt _ _)]; simp)]
  have h1 : num ((frameL k body ++ r).take 1) = k := by
    rw [hh, List.take_left' (le_len k 1), num_le, Nat.mod_eq_of_lt (by omega)]
  have h2 : (headL k body).drop 3 = body := by
    unfold headL
    exact List.drop_left' (by simp [le_len])
  rw [h1, h2]
  congr 1
  omega
end Go.Proofs.Ythppheklnplljaa.Frame
