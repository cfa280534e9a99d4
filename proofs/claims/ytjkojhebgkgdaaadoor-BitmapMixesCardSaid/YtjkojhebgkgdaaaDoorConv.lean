/-
  Bytes and texts: string(b), []byte(s), append(b, s...). Conditions: each lemma's own.
-/
import Derived.Test.YtjkojhebgkgdaaaDoorRow
import Derived.Lib.ConvBytes
import Derived.Laws.IdiomStrings
import Derived.Laws.BytesArg
namespace Go.Proofs.YtjkojhebgkgdaaaDoor.Base
open Go.RowKit
def bc (c : UInt8) : List Value := [.int .u8 (c.toNat : Int)]
theorem bc_len (x : UInt8) : (bc x).length = 1 := rfl
theorem bc_one (x : UInt8) : ∀ u ∈ bc x, u.oneCell' = true := by
  intro u hu
  simp [bc] at hu
  subst hu
  rfl
theorem bc_flat (l : List UInt8) : l.flatMap bc = l.map fun b => Value.int .u8 b.toNat := by induction l <;> simp_all [List.flatMap_cons, bc]
section
variable {P : Program} {w : World}
theorem size_list (s : ByteArray) : s.data.toList.length = s.size := by rw [Array.length_toList]; rfl
/-- append(b, s...) -/
theorem Src.ofStr {tx : TypeId} (hk : P.underlying tx = some .string) (s : ByteArray) : Src P 1 tx (.string s) s.data.toList.length (s.data.toList.flatMap bc) w := by
  rw [bc_flat, size_list]
  exact Src.ofString w hk s
/-- string(b) -/
theorem run_bstr {src dst e : TypeId} (hs : P.underlying src = some (.slice e)) (he : P.underlying e = some (.int .u8)) (hd : P.underlying dst = some .string) {A : Option Addr} {l : List UInt8} (h : Arg w A 1 bc l) (c : Nat) :
    (convert src dst (.slice A l.length c)).run P w = .ok (.string ⟨l.toArray⟩) w := by
  rcases h with rfl | ⟨b, off, rfl, h2, h3⟩
  · cases A with
    | none => exact run_convert_bytes_nil w src e hs he _ _ dst hd
    | some a => exact run_convert_bytes_back w src dst e a c [] hs he hd (fun j hj => absurd hj (by simp))
  · exact run_convert_bytes_back w src dst e ⟨b, off, none⟩ c l hs he hd (fun j hj => by
      have := h3 j hj 0 (by omega)
      rw [Addr.add_lit]
      simpa [bc] using this)
/-- []byte(s) -/
theorem run_sbytes {src dst e : TypeId} (hs : P.underlying src = some .string) (hd : P.underlying dst = some (.slice e)) (he : P.underlying e = some (.int .u8)) (w : World) (s : ByteArray) :
    (convert src dst (.string s)).run P w = .ok (.slice (some ⟨w.heap.size, 0, none⟩) s.size (grownCap w s.size 0 e)) (Lib.bytesWorld w e s) := Lib.run_convert_string_bytes w src dst e s hs hd he
theorem Upd.bytes {S : Nat → Prop} {a w : World} (h : Upd S a w) (e : TypeId) (s : ByteArray) : Upd S a (Lib.bytesWorld w e s) :=
  ⟨h.os, h.output, by rw [Lib.bytesWorld_size]; exact Nat.le_succ_of_le h.size, fun k hk hn => (Lib.bytesWorld_at_old w e s k (Nat.lt_of_lt_of_le hk h.size)).trans (h.block k hk hn)⟩
theorem arg_bytes (w : World) (e : TypeId) (s : ByteArray) : Arg (Lib.bytesWorld w e s) (some ⟨w.heap.size, 0, none⟩) 1 bc s.data.toList := by
  refine .inr ⟨_, _, rfl, by rw [Lib.bytesWorld_size]; omega, fun i hi j hj => ?_⟩
  obtain rfl : j = 0 := by omega
  rw [Nat.zero_add, Nat.mul_one, Nat.add_zero, Lib.bytesWorld_cell w e s i (by rw [size_list] at hi; exact hi)]
  simp [bc, List.getD, List.getElem?_eq_getElem hi]
theorem str_eq_iff (l m : List UInt8) : ((⟨l.toArray⟩ : ByteArray) = ⟨m.toArray⟩) = (l = m) := by simp
end
end Go.Proofs.YtjkojhebgkgdaaaDoor.Base
