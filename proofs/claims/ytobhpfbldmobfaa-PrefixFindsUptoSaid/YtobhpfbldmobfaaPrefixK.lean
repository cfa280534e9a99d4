/-
  The walk of almshouselaw24.PrefixBack: it returns true and turns nothing that there was. Conditions: what an argument's slices hold, and their bytes.
-/
import Derived.Test.YtobhpfbldmobfaaPrefixI
import Derived.IntWalk
namespace Go.Proofs.Ytobhpfbldmobfaa.PrefixK
open Go.RowKit Go.Proofs.Ytobhpfbldmobfaa.Base Go.Proofs.Ytobhpfbldmobfaa.Prefix Go.Proofs.Ytobhpfbldmobfaa.PrefixF Go.Proofs.Ytobhpfbldmobfaa.PrefixG Go.Proofs.Ytobhpfbldmobfaa.PrefixH Go.Proofs.Ytobhpfbldmobfaa.PrefixI
set_option linter.unusedVariables false
theorem ms_mem {ps : List ByteArray} {l : List Ch} {now : List ByteArray} {k n : Nat} : k ∈ ms ps l now n ↔ k < n ∧ aft ps (l.take k) = now := by
  unfold ms
  simp
/-- The least and the greatest of the numbers. -/
theorem ms_ends {ps : List ByteArray} {l : List Ch} {now : List ByteArray} {n N : Nat} (hn : n < N) (h : aft ps (l.take n) = now) :
    ∃ k m, (ms ps l now N).head? = some k ∧ (ms ps l now N).getLast? = some m ∧ k ≤ n ∧ n ≤ m ∧ m < N ∧ aft ps (l.take k) = now ∧ aft ps (l.take m) = now := by
  have hmem : n ∈ ms ps l now N := ms_mem.2 ⟨hn, h⟩
  have hs : (ms ps l now N).Pairwise (· < ·) := List.pairwise_lt_range.filter _
  have hne : ms ps l now N ≠ [] := List.ne_nil_of_mem hmem
  have k1 : (ms ps l now N).head hne ∈ ms ps l now N := List.head_mem hne
  have m1 : (ms ps l now N).getLast hne ∈ ms ps l now N := List.getLast_mem hne
  refine ⟨_, _, List.head?_eq_some_head hne, List.getLast?_eq_some_getLast hne, ?_, ?_, (ms_mem.1 m1).1, (ms_mem.1 k1).2, (ms_mem.1 m1).2⟩
  · generalize ms ps l now N = q at *
    cases q with
    | nil => simp at hmem
    | cons a q =>
      simp only [List.head_cons]
      rcases List.mem_cons.1 hmem with e | e
      · omega
      · have := (List.pairwise_cons.1 hs).1 n e; omega
  · generalize ms ps l now N = q at *
    obtain ⟨i, hi, rfl⟩ := List.mem_iff_getElem.1 hmem
    rw [List.getLast_eq_getElem hne]
    by_cases e : i = q.length - 1
    · subst e; exact Nat.le_refl _
    · exact Nat.le_of_lt (List.pairwise_iff_getElem.1 hs i (q.length - 1) hi (by omega) (by omega))
/-- A slice cut to its first k. -/
theorem arg_take {α : Type} {W : World} {A : Option Addr} {sz : Nat} {f : α → List Value} {l : List α} (h : Arg W A sz f l) (k : Nat) : Arg W A sz f (l.take k) := by
  rcases h with rfl | ⟨b, off, h1, h2, h3⟩
  · exact .inl (by simp)
  · refine .inr ⟨b, off, h1, h2, fun i hi j hj => ?_⟩
    have hi2 : i < l.length := by simp at hi; omega
    rw [h3 i hi2 j hj, List.getElem_take]
def FindR2 (k : Nat) (w : World) (e : Ending) (w' : World) : Prop := e = .returned (.tuple #[.int .i64 (k : Int), .bool true]) ∧ Upd Nil w w'
theorem find_some {r : Option Nat} {k : Nat} (h : r = some k) {w : World} {e : Ending} {w' : World} (hr : FindR r w e w') : FindR2 k w e w' := by
  subst h
  exact hr
set_option maxHeartbeats 8000000 in
set_option maxRecDepth 100000 in
theorem back (A D : Option Addr) (c d : Nat) (ps : List ByteArray) (l : List Ch) (a : Int) (w : World) (ha0 : 0 ≤ a) (ha1 : a ≤ 255) (hA : Arg w A 1 sc ps) (hD : Arg w D 2 cc l) (hD0 : D = none → d = 0)
    (hd : l.length ≤ d) (hdm : d ≤ maxLen) (hb : ps.length * 16 ≤ 140737488351232) :
    Calls Try.prog 11 #[.slice A ps.length c, .slice D l.length d, .int .u8 a] w (RetB true w) := by
  unfold maxLen at hdm
  have hfew := fun w' (hU : Upd Nil w w') => few A D none c d 0 ps l [] w' (hA.upd hU) (hD.upd hU) (.inl rfl) (by simp; omega) (by unfold maxLen; omega)
  go_enter Try.func11, Try.ntmps11
  go_wp2_with (go_at_call 39; refine (fixed _).mono ?_; rintro e w1 ⟨rfl, hU1⟩)
  refine (hfew _ hU1).mono ?_
  rintro e w2 ⟨b, rfl, hbb, hU2⟩
  have hU12 := hU1.trans hU2 (fun x hx => .inl hx)
  clear hfew hU1 hU2
  cases b with
  | false =>
    go_wp2
    go_ret
    exact ⟨rfl, hU12⟩
  | true =>
    obtain ⟨hps, -, hll⟩ := hbb rfl
    clear hbb
    obtain ⟨n, hn, hnl⟩ : ∃ n : Nat, a % ((l.length : Int) + 1) = n ∧ n ≤ l.length := by
      refine ⟨(a % ((l.length : Int) + 1)).toNat, ?_, ?_⟩
      · have := Int.emod_nonneg a (b := (l.length : Int) + 1) (by omega); omega
      · have := Int.emod_lt_of_pos a (b := (l.length : Int) + 1) (by omega); omega
    obtain ⟨k, m, hk, hm, hkn, hnm, hml, hke, hme⟩ := ms_ends (ps := ps) (l := l) (n := n) (N := l.length + 1) (by omega) rfl
    have hH := Lib.hid (And.intro hk (And.intro hm (And.intro hke hme)))
    clear hk hm hke hme
    have hnd : n ≤ d := by omega
    have hkd : k ≤ d := by omega
    have hmd : m ≤ d := by omega
    have hadd : D.map (fun x => x.add 0) = D := by cases D <;> rfl
    have haft : ∀ n, n ≤ l.length → ∀ w', Upd Nil w w' → Calls Try.prog 45 #[.slice A ps.length c, .slice D n d] w' (AftR ps (l.take n) w') := by
      intro n hn w' hU
      have := after A D c d ps (l.take n) w' (hA.upd hU) ((arg_take hD n).upd hU) (by omega) (by unfold maxLen; rw [List.length_take]; omega)
      rwa [List.length_take_of_le hn] at this
    have hkn' : (k : Int) ≤ a % ((l.length : Int) + 1) := by omega
    have hnm' : a % ((l.length : Int) + 1) ≤ (m : Int) := by omega
    generalize hnow : aft ps (l.take n) = now at *
    have hnl' : now.length = ps.length := by rw [← hnow]; exact aft_len _ _
    have hnowH := Lib.hid hnow
    clear hnow
    go_wp2_with fail
    refine (haft n hnl _ hU12).mono ?_
    rintro e w3 ⟨v, rfl, hv, hU3⟩
    rw [hnowH.out] at hv
    obtain ⟨A1, c1, rfl, hc1⟩ := hv.form
    have hN := hv.cells sc_len (by omega)
    have hU13 := hU12.trans hU3 (fun x hx => .inl hx)
    clear hn hnl' hv hc1
    have hl63 : l.length < maxLen := by unfold maxLen; omega
    go_wp2_with fail
    refine (find A D A1 c d c1 ps l now w3 (hA.upd hU13) (hD.upd hU13) hN (by omega) hl63).mono ?_
    intro e w4 he
    obtain ⟨rfl, hU4⟩ := find_some hH.out.1 he
    clear he
    have hU14 := hU13.trans hU4 (fun x hx => .inl hx)
    go_wp2_with fail
    refine (longest A D A1 c d c1 ps l now w4 (hA.upd hU14) (hD.upd hU14) (hN.upd hU4) (by omega) hl63).mono ?_
    intro e w5 he
    obtain ⟨rfl, hU5⟩ := find_some hH.out.2.1 he
    clear he
    have hU15 := hU14.trans hU5 (fun x hx => .inl hx)
    have hN5 := (hN.upd hU4).upd hU5
    go_wp2_with fail
    refine (haft k (by omega) _ hU15).mono ?_
    rintro e w6 ⟨v, rfl, hv, hU6⟩
    rw [hH.out.2.2.1] at hv
    obtain ⟨A2, c2, rfl, hc2⟩ := hv.form
    have hN6 := hv.cells sc_len (by omega)
    have hU16 := hU15.trans hU6 (fun x hx => .inl hx)
    have hNl : now.length ≤ maxLen := by have := congrArg List.length hnowH.out; rw [aft_len] at this; unfold maxLen; omega
    clear hv hc2
    go_wp2_with fail
    refine (same A2 A1 c2 c1 now now w6 hN6 (hN5.upd hU6) hNl).mono ?_
    rintro e w7 ⟨rfl, hU7⟩
    have hd7 : decide (now = now) = true := by simp
    have hU17 := hU16.trans hU7 (fun x hx => .inl hx)
    go_wp2_with fail
    refine (haft m (by omega) _ hU17).mono ?_
    rintro e w8 ⟨v, rfl, hv, hU8⟩
    rw [hH.out.2.2.2] at hv
    obtain ⟨A3, c3, rfl, hc3⟩ := hv.form
    have hN8 := hv.cells sc_len (by omega)
    have hU18 := hU17.trans hU8 (fun x hx => .inl hx)
    clear hv hc3
    go_wp2_with fail
    refine (same A3 A1 c3 c1 now now w8 hN8 (((hN5.upd hU6).upd hU7).upd hU8) hNl).mono ?_
    rintro e w9 ⟨rfl, hU9⟩
    have hU19 := hU18.trans hU9 (fun x hx => .inl hx)
    go_wp2_with fail
    go_ret
    exact ⟨rfl, hU19⟩
end Go.Proofs.Ytobhpfbldmobfaa.PrefixK
