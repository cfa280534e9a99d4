/-
  Moves and records: plain law. Conditions: each lemma's own.
-/
import Derived.Test.YthppheklnplljaaFrameD
namespace Go.Proofs.Ythppheklnplljaa.Delta
set_option linter.unusedVariables false
open Go.Proofs.Ythppheklnplljaa.Word Go.Proofs.Ythppheklnplljaa.Frame
def c01 (b : Bool) : Int := if b then 1 else 0
structure Mv where
  place : Int
  block : Int
  page : Int
  gone : Bool
def inR (n k : Int) : Bool := decide (0 ≤ n) && decide (n < k)
def rightM (m : Mv) : Bool := (!m.gone || (decide (m.block = 0) && decide (m.page = 0))) && (inR m.place 64 && inR m.block 64 && inR m.page 16)
def encM (b : List UInt8) (m : Mv) : List UInt8 := putL (putL (putL (putL b m.place 1) m.block 1) m.page 1) (c01 m.gone) 1
def recHead (n : Int) (k : Nat) : List UInt8 := putL (putL [] (max n 0) 4) k 1
def recBody (n : Int) (l : List Mv) : List UInt8 := l.foldl encM (recHead n l.length)
def numOk (n : Int) : Bool := inR n 2147483648
def recB (n : Int) (l : List Mv) : List UInt8 × Int := if (numOk n && l.all rightM) = false then ([], 1) else if 32 < l.length then ([], 4) else mk 68 (recBody n l)
theorem encM_len (b : List UInt8) (m : Mv) : (encM b m).length ≤ b.length + 16 := by
  unfold encM
  have h1 := (putL_len b m.place 1).2
  have h2 := (putL_len (putL b m.place 1) m.block 1).2
  have h3 := (putL_len (putL (putL b m.place 1) m.block 1) m.page 1).2
  have h4 := (putL_len (putL (putL (putL b m.place 1) m.block 1) m.page 1) (c01 m.gone) 1).2
  omega
theorem recHead_len (n : Int) (k : Nat) : (recHead n k).length ≤ 8 := by
  unfold recHead
  have h1 := (putL_len [] (max n 0) 4).2
  have h2 := (putL_len (putL [] (max n 0) 4) k 1).2
  simp only [List.length_nil] at h1
  omega
theorem fold_len (l : List Mv) (b : List UInt8) : (l.foldl encM b).length ≤ b.length + 16 * l.length := by
  induction l generalizing b with
  | nil => simp
  | cons m l ih =>
    rw [List.foldl_cons]
    have h1 := ih (encM b m)
    have h2 := encM_len b m
    simp only [List.length_cons]
    omega
theorem fold_take {l : List Mv} {k : Nat} (h : k < l.length) (b : List UInt8) : (l.take (k + 1)).foldl encM b = encM ((l.take k).foldl encM b) l[k] := by
  rw [List.take_succ_eq_append_getElem h, List.foldl_append]
  rfl
theorem all_take {l : List Mv} {k : Nat} (h : k < l.length) (f : Mv → Bool) : (l.take (k + 1)).all f = ((l.take k).all f && f l[k]) := by
  rw [List.take_succ_eq_append_getElem h, List.all_append]
  simp
end Go.Proofs.Ythppheklnplljaa.Delta
