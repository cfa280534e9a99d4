/-
  The walk of almshouselaw24.PrefixFinds: it returns true and turns nothing that there was. Conditions: what an argument's slices hold, and their bytes.
-/
import Derived.Test.YtobhpfbldmobfaaPrefixM
import Derived.IntWalk
namespace Go.Proofs.Ytobhpfbldmobfaa.PrefixN
open Go.RowKit Go.Proofs.Ytobhpfbldmobfaa.Base Go.Proofs.Ytobhpfbldmobfaa.Prefix Go.Proofs.Ytobhpfbldmobfaa.PrefixF Go.Proofs.Ytobhpfbldmobfaa.PrefixG Go.Proofs.Ytobhpfbldmobfaa.PrefixH Go.Proofs.Ytobhpfbldmobfaa.PrefixI Go.Proofs.Ytobhpfbldmobfaa.PrefixJ Go.Proofs.Ytobhpfbldmobfaa.PrefixK Go.Proofs.Ytobhpfbldmobfaa.PrefixM
set_option linter.unusedVariables false
theorem cc_one (x : Ch) : ∀ u ∈ cc x, u.oneCell' = true := by
  intro u hu
  simp [cc] at hu
  rcases hu with rfl | rfl <;> rfl
def Built (l : List Ch) (w : World) (s : Value) (w' : World) : Prop := Sl w' w.heap.size 63 2 cc s l ∧ Upd Nil w w'
set_option maxHeartbeats 8000000 in
set_option maxRecDepth 100000 in
theorem finds (A D N : Option Addr) (c d n : Nat) (ps : List ByteArray) (l : List Ch) (now : List ByteArray) (w : World) (hA : Arg w A 1 sc ps) (hD : Arg w D 2 cc l) (hN : Arg w N 1 sc now)
    (hd : l.length ≤ d) (hdm : d ≤ maxLen) (hb : (ps.length + now.length) * 16 ≤ 140737488355328) :
    Calls Try.prog 10 #[.slice A ps.length c, .slice D l.length d, .slice N now.length n] w (RetB true w) := by
  unfold maxLen at hdm
  have hfew := fun w' (hU : Upd Nil w w') => few A D N c d n ps l now w' (hA.upd hU) (hD.upd hU) (hN.upd hU) hb (by unfold maxLen; omega)
  go_enter Try.func10, Try.ntmps10
  go_wp2_with (go_at_call 39; refine (fixed _).mono ?_; rintro e w1 ⟨rfl, hU1⟩)
  refine (hfew _ hU1).mono ?_
  rintro e w2 ⟨b, rfl, hbb, hU2⟩
  have hU12 := hU1.trans hU2 (fun x hx => .inl hx)
  clear hfew hU1 hU2
  cases b with
  | false =>
    go_wp2
    go_ret
    exact ⟨rfl, hU12⟩
  | true =>
    obtain ⟨hps, hnow, hll⟩ := hbb rfl
    clear hbb
    go_wp2_with fail
    go_loopw [7, 24] (fun s7 s24 wr => ∃ (k : Nat), k ≤ l.length ∧ s24 = .int .i64 k ∧ Sl wr w.heap.size 63 2 cc s7 (l.take k) ∧ Upd Nil w wr) (fun _ s24 _ => l.length - (intOf s24).toNat)
    case atStart => exact ⟨0, Nat.zero_le _, rfl, Sl.nil _ _ _ _ _, hU12⟩
    case round =>
      obtain ⟨k, hk, rfl, hS, hU⟩ := hrel
      clear hU12
      by_cases hkl : k < l.length
      · have htake := Lib.hid (List.take_succ_eq_append_getElem hkl)
        obtain ⟨g, o, rfl, hg, qx⟩ := (hD.upd hU).resolve_left (fun e => by rw [e] at hkl; simp at hkl)
        have x0 := qx k hkl 0 (by omega)
        have x1 := qx k hkl 1 (by omega)
        clear qx
        generalize l[k] = y at *
        obtain ⟨x, s⟩ := y
        simp only [cc, List.getElem?_cons_zero, List.getElem?_cons_succ, Nat.add_zero] at x0 x1
        have htl : (l.take k).length = k := List.length_take_of_le (by omega)
        have htlH := Lib.hid htl
        clear htl
        have hS2 : Sl (wr.alloc (.cells #[.int .i64 x, .string s] 62)) w.heap.size 63 2 cc _ (l.take k) := hS.move (fun j hj => Below.heap_alloc _ _ _ (hS.lt j hj))
        have hB2 := hU.size
        obtain ⟨A7, c7, rfl, hc7⟩ := hS2.form
        have hl60 : (l.take k).length + 1 ≤ 61 := by have := htlH.out; omega
        generalize hL : l.take k = L at *
        have hLH := Lib.hid hL
        clear hL
        go_wp2_with (at_builtin; (refine wp_append1 (sz := 2) (f := cc) w.heap.size rfl (.tmp 28) (.tmp 34) 60 63 (.agg #[.int .i64 0, .string ByteArray.empty]) 24 rfl Try.underlying60 (by kernel_rfl) rfl (by omega) cc_len cc_one (wr.alloc (.cells #[.int .i64 x, .string s] 62)) (x, s) (by rfl) (.slice A7 L.length c7) L rfl (by simp [Act.eval]) hS2 (by simp; omega) (by omega) (by unfold maxLen; omega) ?_); intro A8 c8 w8 hv8 hg8 hat8)
        have hU8 : Upd Nil w w8 := (hU.alloc _).grown hg8 (fun j hj => .inr (hS2.typed j hj).1)
        go_roundw
        case measure => simp [intOf]; omega
        case rel => exact ⟨k + 1, by omega, by simp, by rw [htake.out]; exact hv8, hU8⟩
      · obtain rfl : k = l.length := by omega
        rw [List.take_length] at hS
        obtain ⟨A7, c7, rfl, hc7⟩ := hS.form
        have hA7 := hS.cells cc_len (by omega)
        have hc7m : c7 ≤ maxLen := by
          rcases hS.2 with ⟨_, A, he, _⟩ | ⟨g, off, cap, cur, he, _, _, _, hm, _⟩
          · injection he with e1 e2 e3
            rw [e3]
            exact Nat.zero_le _
          · injection he with e1 e2 e3
            rw [e3]
            omega
        go_wp2_with fail
        refine (all A A7 N c c7 n ps l now wr (hA.upd hU) hA7 (hN.upd hU) hc7 hc7m hll (by omega)).mono ?_
        rintro e w3 ⟨v3, rfl, hv3, hU3⟩
        have hU03 := hU.trans hU3 (fun x hx => .inl hx)
        have hA73 := hA7.upd hU3
        obtain ⟨A3, c3, rfl, hc3⟩ := hv3.form
        have hI3 := hv3.cells ic_len (by omega)
        clear hv3 hS hA7
        go_wp2_with fail
        refine (find A D N c d n ps l now w3 (hA.upd hU03) (hD.upd hU03) (hN.upd hU03) (by omega) (by unfold maxLen; omega)).mono ?_
        rintro e w4 ⟨rfl, hU4⟩
        have hU04 := hU03.trans hU4 (fun x hx => .inl hx)
        go_wp2_with fail
        refine (longest A D N c d n ps l now w4 (hA.upd hU04) (hD.upd hU04) (hN.upd hU04) (by omega) (by unfold maxLen; omega)).mono ?_
        rintro e w5 ⟨rfl, hU5⟩
        have hU05 := hU04.trans hU5 (fun x hx => .inl hx)
        go_wp2_with fail
        refine (after A D c d ps l w5 (hA.upd hU05) (hD.upd hU05) (by omega) (by unfold maxLen; omega)).mono ?_
        rintro e w6 ⟨v6, rfl, hv6, hU6⟩
        have hU06 := hU05.trans hU6 (fun x hx => .inl hx)
        obtain ⟨A6, c6, rfl, hc6⟩ := hv6.form
        have hA6 := hv6.cells sc_len (by omega)
        go_wp2_with fail
        refine (rafter A A7 c c7 ps l w6 (hA.upd hU06) (((hA73.upd hU4).upd hU5).upd hU6) (by omega) (by unfold maxLen; omega)).mono ?_
        rintro e w7 ⟨v7, rfl, hv7, hU7⟩
        have hU07 := hU06.trans hU7 (fun x hx => .inl hx)
        obtain ⟨A9, c9, rfl, hc9⟩ := hv7.form
        have hA9 := hv7.cells sc_len (by omega)
        go_wp2_with fail
        refine (same A6 A9 c6 c9 (aft ps l) (aft ps l) w7 (hA6.upd hU7) hA9 (by rw [aft_len]; unfold maxLen; omega)).mono ?_
        rintro e w10 ⟨rfl, hU10⟩
        have hU010 := hU07.trans hU10 (fun x hx => .inl hx)
        have hI10 := ((((((hI3.upd hU4).upd hU5).upd hU6).upd hU7).upd hU10))
        have hdd : decide (aft ps l = aft ps l) = true := by simp
        clear hv6 hA6 hv7 hA9 hA73 hI3
        rw [hdd]
        have hMl := ms_le ps l now (l.length + 1)
        generalize ms ps l now (l.length + 1) = M at *
        cases M with
        | nil =>
          simp only [List.head?_nil, List.getLast?_nil, Option.getD_none, Option.isSome_none, List.length_nil]
          go_wp2_with fail
          go_ret
          exact ⟨rfl, hU010⟩
        | cons m0 r =>
          obtain ⟨z, hz⟩ : ∃ z, (m0 :: r).getLast? = some z := ⟨_, List.getLast?_eq_some_getLast (by simp)⟩
          have hzi : (m0 :: r)[r.length]? = some z := by rw [← hz, List.getLast?_eq_getElem?]; rfl
          obtain ⟨g, o, rfl, hg, qx⟩ := hI10.resolve_left (by simp)
          have x0 := qx 0 (by simp) 0 (by omega)
          have xL := qx r.length (by simp) 0 (by omega)
          rw [(List.getElem?_eq_some_iff.1 hzi).2] at xL
          have hrl : r.length ≤ 60 := by simp at hMl; omega
          simp only [ic, List.getElem_cons_zero, List.getElem?_cons_zero, Nat.add_zero, Nat.mul_one] at x0 xL
          rw [hz]
          clear hz hzi qx hMl hI10
          simp only [List.head?_cons, Option.getD_some, Option.isSome_some, List.length_cons]
          have hrl2 : ((r.length : Int) + 1 > 0) = True := by simp
          go_wp2_with fail
          go_ret
          exact ⟨rfl, hU010⟩
end Go.Proofs.Ytobhpfbldmobfaa.PrefixN
