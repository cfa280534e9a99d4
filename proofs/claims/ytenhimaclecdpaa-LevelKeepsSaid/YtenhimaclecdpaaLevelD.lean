/-
  Levelling: the walk of the reference's pick. Conditions: what the rows hold.
-/
import Derived.Test.YtenhimaclecdpaaLevelC
namespace Go.Proofs.Ytenhimaclecdpaa.Level
open Go.RowKit Go.Proofs.Ytenhimaclecdpaa.Base Go.Proofs.Ytenhimaclecdpaa.Ints
set_option linter.unusedVariables false
set_option linter.unusedSimpArgs false
set_option maxHeartbeats 4000000 in
set_option maxRecDepth 100000 in
theorem pick_most (A B : Option Addr) (cA cB : Nat) (a : List Int) (t : List Bool) (w : World) (hxs : Arg w A 1 ic a) (hts : Arg w B 1 bc1 t) (hl : t.length = a.length) (hm : a.length ≤ 1000) : Calls Try.prog 46 #[.slice A a.length cA, .slice B t.length cB, .bool true] w (IntR (optI (pick a t true)) w) := by
    have hlen := Lib.hid hl
    clear hl
    go_enter Try.func46, Try.ntmps46
    go_wp2_with fail
    go_loopw [7, 12] (fun s7 s12 wr => ∃ i : Nat, i ≤ a.length ∧ s12 = .int .i64 i ∧ s7 = .int .i64 (optI (pickN a t true i)) ∧ w = wr) (fun _ s12 _ => a.length - (intOf s12).toNat)
    case atStart => exact ⟨0, by omega, rfl, rfl, rfl⟩
    case round =>
      obtain ⟨i, hi, rfl, rfl, rfl⟩ := hrel
      by_cases hlt : i < a.length
      · have hlt2 : i < t.length := by have := hlen.out; omega
        obtain ⟨g, o, hA, _, c0⟩ := ic_cell hxs hlt
        obtain ⟨g2, o2, hA2, _, c1⟩ := bc_cell hts hlt2
        subst hA hA2
        have hb2 : ¬ t.length ≤ i := by omega
        have i1 : (i : Int) < (t.length : Int) := by omega
        by_cases ht : t[i] = true
        · have hp := Lib.hid (pick_skip (a := a) (most := true) hlt2 ht)
          rw [ht] at c1
          clear hlen
          go_wp2_with fail
          go_roundw
          case measure => simp [intOf]; omega
          case rel => exact ⟨i + 1, by omega, by go_num, by rw [hp.out], trivial⟩
        · have ht : t[i] = false := by simpa using ht
          rw [ht] at c1
          clear hlen
          cases hn : pickN a t true i with
          | none =>
            have hp := Lib.hid (pick_new hlt2 ht hn)
            rw [show optI none = -1 from rfl]
            clear hn ht
            go_wp2_with fail
            go_roundw
            case measure => simp [intOf]; omega
            case rel => exact ⟨i + 1, by omega, by go_num, by rw [hp.out]; rfl, trivial⟩
          | some k =>
            have hk := (pickN_lt _ _ _ _ _ hn).1
            obtain ⟨g3, o3, hA3, _, c2⟩ := ic_cell hxs (show k < a.length by omega)
            injection hA3 with hA3
            injection hA3 with e1 e2
            subst e1 e2
            have hp := Lib.hid (pick_beat hlt2 hlt ht hn (show k < a.length by omega))
            rw [show optI (some k) = (k : Int) from rfl]
            have hklt : (k : Int) < (a.length : Int) := by omega
            have hkn : ¬ (k : Int) < 0 := by omega
            generalize hvi : a[i] = vi at *
            generalize hvk : a[k] = vk at *
            clear hn ht hvi hvk
            by_cases hc : vk < vi
            · rw [if_pos (by simp [beat, hc])] at hp
              go_wp2_with fail
              go_roundw
              case measure => simp [intOf]; omega
              case rel => exact ⟨i + 1, by omega, by go_num, by rw [hp.out]; rfl, trivial⟩
            · rw [if_neg (by simp [beat]; omega)] at hp
              go_wp2_with fail
              go_roundw
              case measure => simp [intOf]; omega
              case rel => exact ⟨i + 1, by omega, by go_num, by rw [hp.out]; rfl, trivial⟩
      · obtain rfl : i = a.length := by omega
        go_wp2_with fail
        go_ret
        exact ⟨rfl, rfl⟩
set_option maxHeartbeats 4000000 in
set_option maxRecDepth 100000 in
theorem pick_least (A B : Option Addr) (cA cB : Nat) (a : List Int) (t : List Bool) (w : World) (hxs : Arg w A 1 ic a) (hts : Arg w B 1 bc1 t) (hl : t.length = a.length) (hm : a.length ≤ 1000) : Calls Try.prog 46 #[.slice A a.length cA, .slice B t.length cB, .bool false] w (IntR (optI (pick a t false)) w) := by
    have hlen := Lib.hid hl
    clear hl
    go_enter Try.func46, Try.ntmps46
    go_wp2_with fail
    go_loopw [7, 12] (fun s7 s12 wr => ∃ i : Nat, i ≤ a.length ∧ s12 = .int .i64 i ∧ s7 = .int .i64 (optI (pickN a t false i)) ∧ w = wr) (fun _ s12 _ => a.length - (intOf s12).toNat)
    case atStart => exact ⟨0, by omega, rfl, rfl, rfl⟩
    case round =>
      obtain ⟨i, hi, rfl, rfl, rfl⟩ := hrel
      by_cases hlt : i < a.length
      · have hlt2 : i < t.length := by have := hlen.out; omega
        obtain ⟨g, o, hA, _, c0⟩ := ic_cell hxs hlt
        obtain ⟨g2, o2, hA2, _, c1⟩ := bc_cell hts hlt2
        subst hA hA2
        have hb2 : ¬ t.length ≤ i := by omega
        have i1 : (i : Int) < (t.length : Int) := by omega
        by_cases ht : t[i] = true
        · have hp := Lib.hid (pick_skip (a := a) (most := false) hlt2 ht)
          rw [ht] at c1
          clear hlen
          go_wp2_with fail
          go_roundw
          case measure => simp [intOf]; omega
          case rel => exact ⟨i + 1, by omega, by go_num, by rw [hp.out], trivial⟩
        · have ht : t[i] = false := by simpa using ht
          rw [ht] at c1
          clear hlen
          cases hn : pickN a t false i with
          | none =>
            have hp := Lib.hid (pick_new hlt2 ht hn)
            rw [show optI none = -1 from rfl]
            clear hn ht
            go_wp2_with fail
            go_roundw
            case measure => simp [intOf]; omega
            case rel => exact ⟨i + 1, by omega, by go_num, by rw [hp.out]; rfl, trivial⟩
          | some k =>
            have hk := (pickN_lt _ _ _ _ _ hn).1
            obtain ⟨g3, o3, hA3, _, c2⟩ := ic_cell hxs (show k < a.length by omega)
            injection hA3 with hA3
            injection hA3 with e1 e2
            subst e1 e2
            have hp := Lib.hid (pick_beat hlt2 hlt ht hn (show k < a.length by omega))
            rw [show optI (some k) = (k : Int) from rfl]
            have hklt : (k : Int) < (a.length : Int) := by omega
            have hkn : ¬ (k : Int) < 0 := by omega
            generalize hvi : a[i] = vi at *
            generalize hvk : a[k] = vk at *
            clear hn ht hvi hvk
            by_cases hc : vi < vk
            · rw [if_pos (by simp [beat, hc])] at hp
              go_wp2_with fail
              go_roundw
              case measure => simp [intOf]; omega
              case rel => exact ⟨i + 1, by omega, by go_num, by rw [hp.out]; rfl, trivial⟩
            · rw [if_neg (by simp [beat]; omega)] at hp
              go_wp2_with fail
              go_roundw
              case measure => simp [intOf]; omega
              case rel => exact ⟨i + 1, by omega, by go_num, by rw [hp.out]; rfl, trivial⟩
      · obtain rfl : i = a.length := by omega
        go_wp2_with fail
        go_ret
        exact ⟨rfl, rfl⟩
theorem pickC (A B : Option Addr) (cA cB : Nat) (a : List Int) (t : List Bool) (w : World) (hxs : Arg w A 1 ic a) (hts : Arg w B 1 bc1 t) (hl : t.length = a.length) (hm : a.length ≤ 1000) (most : Bool) : Calls Try.prog 46 #[.slice A a.length cA, .slice B t.length cB, .bool most] w (IntR (optI (pick a t most)) w) := by
  cases most with
  | true => exact pick_most A B cA cB a t w hxs hts hl hm
  | false => exact pick_least A B cA cB a t w hxs hts hl hm
end Go.Proofs.Ytenhimaclecdpaa.Level
