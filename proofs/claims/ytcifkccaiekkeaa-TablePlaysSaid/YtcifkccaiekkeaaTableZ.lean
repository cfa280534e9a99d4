/-
  Tables: the walk of the law TablePlays, of all inputs. Conditions: what the argument's slice holds.
-/
import Derived.Test.YtcifkccaiekkeaaTableW
import Derived.Test.YtcifkccaiekkeaaTableX
namespace Go.Proofs.Ytcifkccaiekkeaa.Table
open Go.RowKit Go.Proofs.Ytcifkccaiekkeaa.Base
theorem plays (n m : Int) (A : Option Addr) (c : Nat) (l : List Ac) (w : World) (hA : Arg w A 4 acC l) (hk : ∀ a ∈ l, a.k ≤ 255) :
    Calls Try.prog 3 #[.int .i64 n, .int .i64 m, .slice A l.length c] w (RetB true w) := by
  by_cases hl : 150 < l.length
  · exact plays_long n m A c l w hl
  · cases h : newOk n m with
    | false => exact plays_no n m A c l w (by omega) h
    | true =>
      unfold newOk at h
      simp at h
      obtain ⟨h1, h2, h3, h4⟩ := h
      obtain ⟨a, rfl⟩ := Int.eq_ofNat_of_zero_le (show 0 ≤ n by omega)
      obtain ⟨b, rfl⟩ := Int.eq_ofNat_of_zero_le (show 0 ≤ m by omega)
      exact plays_yes a b (by omega) (by omega) A c l w hA (by omega) hk
end Go.Proofs.Ytcifkccaiekkeaa.Table
