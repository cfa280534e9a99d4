/-
  Levelling: the walks of best and of the reference's pick. Conditions: what the rows hold.
-/
import Derived.Test.YtenhimaclecdpaaLevelB
namespace Go.Proofs.Ytenhimaclecdpaa.Level
open Go.RowKit Go.Proofs.Ytenhimaclecdpaa.Base Go.Proofs.Ytenhimaclecdpaa.Ints
set_option linter.unusedVariables false
set_option linter.unusedSimpArgs false
def BoolR (v : Bool) (w : World) (e : Ending) (w' : World) : Prop := e = .returned (.bool v) ∧ w = w'
theorem moreC (a b : Int) (w : World) : Calls Try.prog 77 #[.int .i64 a, .int .i64 b] w (BoolR (beat true a b) w) := by
  rw [show beat true a b = decide (b < a) from rfl]
  go_enter Try.func77, Try.ntmps77
  go_wp2_with fail
  go_ret
  exact ⟨rfl, rfl⟩
theorem lessC (a b : Int) (w : World) : Calls Try.prog 78 #[.int .i64 a, .int .i64 b] w (BoolR (beat false a b) w) := by
  rw [show beat false a b = decide (a < b) from rfl]
  go_enter Try.func78, Try.ntmps78
  go_wp2_with fail
  go_ret
  exact ⟨rfl, rfl⟩
def fnOf (most : Bool) : Value := .func (.func (if most then 77 else 78)) #[] #[]
theorem bc_cell {w : World} {A : Option Addr} {l : List Bool} (h : Arg w A 1 bc1 l) {i : Nat} (hi : i < l.length) : ∃ g o, A = some ⟨g, o, none⟩ ∧ g < w.heap.size ∧ w.cell? ⟨g, o + i, none⟩ = some (.bool l[i]) := by
  rcases h with rfl | ⟨g, o, rfl, h2, h3⟩
  · simp at hi
  · refine ⟨g, o, rfl, h2, ?_⟩
    have := h3 i hi 0 (by omega)
    simpa [bc1] using this
theorem pick_skip {a : List Int} {t : List Bool} {most : Bool} {i : Nat} (hi : i < t.length) (h : t[i] = true) : pickN a t most (i + 1) = pickN a t most i := by
  simp only [pickN]
  rw [gD hi, h]
  simp
theorem pick_new {a : List Int} {t : List Bool} {most : Bool} {i : Nat} (hi : i < t.length) (h : t[i] = false) (hn : pickN a t most i = none) : pickN a t most (i + 1) = some i := by
  simp only [pickN]
  rw [gD hi, h, if_pos ⟨rfl, fun k hk => by rw [hn] at hk; cases hk⟩]
theorem pick_beat {a : List Int} {t : List Bool} {most : Bool} {i k : Nat} (hi : i < t.length) (hia : i < a.length) (h : t[i] = false) (hn : pickN a t most i = some k) (hk : k < a.length) :
    pickN a t most (i + 1) = if beat most a[i] a[k] = true then some i else some k := by
  simp only [pickN]
  rw [gD hi, h, gD hia]
  split
  · rename_i hc
    have := hc.2 k hn
    rw [gD hk] at this
    rw [if_pos this]
  · rename_i hc
    rw [if_neg, hn]
    intro e
    refine hc ⟨rfl, fun k' hk' => ?_⟩
    rw [hn] at hk'
    injection hk' with hk'
    subst hk'
    rw [gD hk]
    exact e
set_option maxHeartbeats 4000000 in
set_option maxRecDepth 100000 in
theorem best_most (F : Nat → Prop) (b : Nat) (a : List Int) (t : List Bool) (X T : Value) (w : World) (h : Lane F w b a t X T) (hl : t.length = a.length) (hm : a.length ≤ 1000) : Calls Try.prog 79 #[.pointer (some ⟨b, 0, none⟩), fnOf true] w (IntR (optI (pick a t true)) w) := by
    obtain ⟨AX, cX, hX, hcX⟩ := h.sx.form
    obtain ⟨AT, cT, hT, hcT⟩ := h.st.form
    subst hX hT
    have hxs := h.sx.cells ic_len (by omega)
    have hts := h.st.cells bc1_len (by omega)
    have b0 := blk_cell h.blk 0
    have b1 := blk_cell h.blk 1
    simp only [List.getElem?_toArray, List.getElem?_cons_zero, List.getElem?_cons_succ] at b0 b1
    clear h
    have hlen := Lib.hid hl
    clear hl
    unfold fnOf
    go_enter Try.func79, Try.ntmps79
    go_wp2_with fail
    go_loopw [5, 13] (fun s5 s13 wr => ∃ i : Nat, i ≤ a.length ∧ s13 = .int .i64 i ∧ s5 = .int .i64 (optI (pickN a t true i)) ∧ w = wr) (fun _ s13 _ => a.length - (intOf s13).toNat)
    case atStart => exact ⟨0, by omega, rfl, rfl, rfl⟩
    case round =>
      obtain ⟨i, hi, rfl, rfl, rfl⟩ := hrel
      by_cases hlt : i < a.length
      · have hlt2 : i < t.length := by have := hlen.out; omega
        obtain ⟨g, o, hA, _, c0⟩ := ic_cell hxs hlt
        obtain ⟨g2, o2, hA2, _, c1⟩ := bc_cell hts hlt2
        subst hA hA2
        have hb2 : ¬ t.length ≤ i := by omega
        have i1 : (i : Int) < (t.length : Int) := by omega
        by_cases ht : t[i] = true
        · have hp := Lib.hid (pick_skip (a := a) (most := true) hlt2 ht)
          rw [ht] at c1
          clear hlen
          go_wp2_with fail
          go_roundw
          case measure => simp [intOf]; omega
          case rel => exact ⟨i + 1, by omega, by go_num, by rw [hp.out], trivial⟩
        · have ht : t[i] = false := by simpa using ht
          rw [ht] at c1
          clear hlen
          cases hn : pickN a t true i with
          | none =>
            have hp := Lib.hid (pick_new hlt2 ht hn)
            rw [show optI none = -1 from rfl]
            clear hn ht
            go_wp2_with fail
            go_roundw
            case measure => simp [intOf]; omega
            case rel => exact ⟨i + 1, by omega, by go_num, by rw [hp.out]; rfl, trivial⟩
          | some k =>
            have hk := (pickN_lt _ _ _ _ _ hn).1
            obtain ⟨g3, o3, hA3, _, c2⟩ := ic_cell hxs (show k < a.length by omega)
            injection hA3 with hA3
            injection hA3 with e1 e2
            subst e1 e2
            have hp := Lib.hid (pick_beat hlt2 hlt ht hn (show k < a.length by omega))
            rw [show optI (some k) = (k : Int) from rfl]
            have hneg : ((k : Int) == -1) = false := by simp
            have hklt : (k : Int) < (a.length : Int) := by omega
            have q := moreC a[i] a[k] w
            generalize beat true a[i] a[k] = r at *
            generalize a[i] = vi at *
            generalize a[k] = vk at *
            clear hn ht
            cases r with
            | true =>
              rw [if_pos rfl] at hp
              go_wp2_with fail
              refine q.mono ?_
              rintro e w' ⟨rfl, rfl⟩
              go_wp2_with fail
              go_roundw
              case measure => simp [intOf]; omega
              case rel => exact ⟨i + 1, by omega, by go_num, by rw [hp.out]; rfl, trivial⟩
            | false =>
              rw [if_neg (by simp)] at hp
              go_wp2_with fail
              refine q.mono ?_
              rintro e w' ⟨rfl, rfl⟩
              go_wp2_with fail
              go_roundw
              case measure => simp [intOf]; omega
              case rel => exact ⟨i + 1, by omega, by go_num, by rw [hp.out]; rfl, trivial⟩
      · obtain rfl : i = a.length := by omega
        go_wp2_with fail
        go_ret
        exact ⟨rfl, rfl⟩
set_option maxHeartbeats 4000000 in
set_option maxRecDepth 100000 in
theorem best_least (F : Nat → Prop) (b : Nat) (a : List Int) (t : List Bool) (X T : Value) (w : World) (h : Lane F w b a t X T) (hl : t.length = a.length) (hm : a.length ≤ 1000) : Calls Try.prog 79 #[.pointer (some ⟨b, 0, none⟩), fnOf false] w (IntR (optI (pick a t false)) w) := by
    obtain ⟨AX, cX, hX, hcX⟩ := h.sx.form
    obtain ⟨AT, cT, hT, hcT⟩ := h.st.form
    subst hX hT
    have hxs := h.sx.cells ic_len (by omega)
    have hts := h.st.cells bc1_len (by omega)
    have b0 := blk_cell h.blk 0
    have b1 := blk_cell h.blk 1
    simp only [List.getElem?_toArray, List.getElem?_cons_zero, List.getElem?_cons_succ] at b0 b1
    clear h
    have hlen := Lib.hid hl
    clear hl
    unfold fnOf
    go_enter Try.func79, Try.ntmps79
    go_wp2_with fail
    go_loopw [5, 13] (fun s5 s13 wr => ∃ i : Nat, i ≤ a.length ∧ s13 = .int .i64 i ∧ s5 = .int .i64 (optI (pickN a t false i)) ∧ w = wr) (fun _ s13 _ => a.length - (intOf s13).toNat)
    case atStart => exact ⟨0, by omega, rfl, rfl, rfl⟩
    case round =>
      obtain ⟨i, hi, rfl, rfl, rfl⟩ := hrel
      by_cases hlt : i < a.length
      · have hlt2 : i < t.length := by have := hlen.out; omega
        obtain ⟨g, o, hA, _, c0⟩ := ic_cell hxs hlt
        obtain ⟨g2, o2, hA2, _, c1⟩ := bc_cell hts hlt2
        subst hA hA2
        have hb2 : ¬ t.length ≤ i := by omega
        have i1 : (i : Int) < (t.length : Int) := by omega
        by_cases ht : t[i] = true
        · have hp := Lib.hid (pick_skip (a := a) (most := false) hlt2 ht)
          rw [ht] at c1
          clear hlen
          go_wp2_with fail
          go_roundw
          case measure => simp [intOf]; omega
          case rel => exact ⟨i + 1, by omega, by go_num, by rw [hp.out], trivial⟩
        · have ht : t[i] = false := by simpa using ht
          rw [ht] at c1
          clear hlen
          cases hn : pickN a t false i with
          | none =>
            have hp := Lib.hid (pick_new hlt2 ht hn)
            rw [show optI none = -1 from rfl]
            clear hn ht
            go_wp2_with fail
            go_roundw
            case measure => simp [intOf]; omega
            case rel => exact ⟨i + 1, by omega, by go_num, by rw [hp.out]; rfl, trivial⟩
          | some k =>
            have hk := (pickN_lt _ _ _ _ _ hn).1
            obtain ⟨g3, o3, hA3, _, c2⟩ := ic_cell hxs (show k < a.length by omega)
            injection hA3 with hA3
            injection hA3 with e1 e2
            subst e1 e2
            have hp := Lib.hid (pick_beat hlt2 hlt ht hn (show k < a.length by omega))
            rw [show optI (some k) = (k : Int) from rfl]
            have hneg : ((k : Int) == -1) = false := by simp
            have hklt : (k : Int) < (a.length : Int) := by omega
            have q := lessC a[i] a[k] w
            generalize beat false a[i] a[k] = r at *
            generalize a[i] = vi at *
            generalize a[k] = vk at *
            clear hn ht
            cases r with
            | true =>
              rw [if_pos rfl] at hp
              go_wp2_with fail
              refine q.mono ?_
              rintro e w' ⟨rfl, rfl⟩
              go_wp2_with fail
              go_roundw
              case measure => simp [intOf]; omega
              case rel => exact ⟨i + 1, by omega, by go_num, by rw [hp.out]; rfl, trivial⟩
            | false =>
              rw [if_neg (by simp)] at hp
              go_wp2_with fail
              refine q.mono ?_
              rintro e w' ⟨rfl, rfl⟩
              go_wp2_with fail
              go_roundw
              case measure => simp [intOf]; omega
              case rel => exact ⟨i + 1, by omega, by go_num, by rw [hp.out]; rfl, trivial⟩
      · obtain rfl : i = a.length := by omega
        go_wp2_with fail
        go_ret
        exact ⟨rfl, rfl⟩
theorem bestC (F : Nat → Prop) (b : Nat) (a : List Int) (t : List Bool) (X T : Value) (w : World) (h : Lane F w b a t X T) (hl : t.length = a.length) (hm : a.length ≤ 1000) (most : Bool) : Calls Try.prog 79 #[.pointer (some ⟨b, 0, none⟩), fnOf most] w (IntR (optI (pick a t most)) w) := by
  cases most with
  | true => exact best_most F b a t X T w h hl hm
  | false => exact best_least F b a t X T w h hl hm
end Go.Proofs.Ytenhimaclecdpaa.Level
