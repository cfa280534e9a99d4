/-
  The walks of prefix.Find, prefix.Longest and almshouselaw24.few. Conditions: each lemma's own.
-/
import Derived.Test.YtobhpfbldmobfaaPrefixG
import Derived.Test.YtobhpfbldmobfaaApp
namespace Go.Proofs.Ytobhpfbldmobfaa.PrefixH
open Go.RowKit Go.Proofs.Ytobhpfbldmobfaa.Base Go.Proofs.Ytobhpfbldmobfaa.Prefix Go.Proofs.Ytobhpfbldmobfaa.PrefixF Go.Proofs.Ytobhpfbldmobfaa.PrefixG
set_option linter.unusedVariables false
def FindR (r : Option Nat) (w : World) (e : Ending) (w' : World) : Prop := e = .returned (.tuple #[.int .i64 ((r.getD 0 : Nat) : Int), .bool r.isSome]) ∧ Upd Nil w w'
set_option maxHeartbeats 4000000 in
set_option maxRecDepth 100000 in
theorem find (A D N : Option Addr) (c d n : Nat) (ps : List ByteArray) (l : List Ch) (now : List ByteArray) (w : World) (hA : Arg w A 1 sc ps) (hD : Arg w D 2 cc l) (hN : Arg w N 1 sc now) (hb : ps.length * 16 ≤ 140737488355328) (hl : l.length < maxLen) :
    Calls Try.prog 42 #[.slice A ps.length c, .slice D l.length d, .slice N now.length n] w (FindR (ms ps l now (l.length + 1)).head? w) := by
  have hU0 := ((Upd.refl Nil w).alloc (.cells #[.int .i64 0] 3)).alloc (.cells #[.bool false] 4)
  have hT : TwoCells ((w.alloc (.cells #[.int .i64 0] 3)).alloc (.cells #[.bool false] 4)) w.heap.size (w.heap.size + 1) none :=
    ⟨blk_alloc (blk_new _ _) _, by have := blk_new (w.alloc (.cells #[.int .i64 0] 3)) (.cells #[.bool false] 4); simpa using this, by omega⟩
  go_enter Try.func42, Try.ntmps42
  go_wp2_with fail
  refine (eachF A D N c d n w.heap.size (w.heap.size + 1) ps l now w _ hA hD hN hU0 (Nat.le_refl _) (Nat.le_succ _) hT hb hl).mono ?_
  rintro e w2 ⟨rfl, hT2, hU2⟩
  have hp := hT2.at_
  have hq := hT2.ok
  generalize (ms ps l now (l.length + 1)).head? = r at *
  have hpc0 : (w2).cell? ⟨w.heap.size, 0, none⟩ = some (.int .i64 ((r.getD 0 : Nat) : Int)) := Base.blk_cell hp 0
  have hpz0 : (w2).frozen? ⟨w.heap.size, 0, none⟩ = false := Base.blk_frozen hp 0
  have hqc0 : (w2).cell? ⟨w.heap.size + 1, 0, none⟩ = some (.bool r.isSome) := Base.blk_cell hq 0
  have hqz0 : (w2).frozen? ⟨w.heap.size + 1, 0, none⟩ = false := Base.blk_frozen hq 0
  go_wp2_with fail
  go_region
  have hp3 := blk_drew (blk_other (blk_put hp 0 (.int .i64 ((r.getD 0 : Nat) : Int)) rfl) (p := ⟨w.heap.size + 1, 0, none⟩) (by simp) (.bool r.isSome))
  have hq3 := blk_drew (blk_put (blk_other hq (p := ⟨w.heap.size, 0, none⟩) (by simp) (.int .i64 ((r.getD 0 : Nat) : Int))) 0 (.bool r.isSome) rfl)
  have hU3 := ((hU2.setNew (b := w.heap.size) (i := 0) (Nat.le_refl _) (.int .i64 ((r.getD 0 : Nat) : Int))).setNew (b := w.heap.size + 1) (i := 0) (Nat.le_succ _) (.bool r.isSome)).drew
  have hp3c := blk_cell hp3 0
  have hq3c := blk_cell hq3 0
  go_wp2
  exact bodyPost_ret (v := .tuple #[.int .i64 ((r.getD 0 : Nat) : Int), .bool r.isSome]) (by simp [results, Try.results42, go_sem, hp3c, hq3c]) rfl ⟨rfl, hU3⟩
set_option maxHeartbeats 4000000 in
set_option maxRecDepth 100000 in
theorem longest (A D N : Option Addr) (c d n : Nat) (ps : List ByteArray) (l : List Ch) (now : List ByteArray) (w : World) (hA : Arg w A 1 sc ps) (hD : Arg w D 2 cc l) (hN : Arg w N 1 sc now) (hb : ps.length * 16 ≤ 140737488355328) (hl : l.length < maxLen) :
    Calls Try.prog 43 #[.slice A ps.length c, .slice D l.length d, .slice N now.length n] w (FindR (ms ps l now (l.length + 1)).getLast? w) := by
  have hU0 := ((Upd.refl Nil w).alloc (.cells #[.int .i64 0] 3)).alloc (.cells #[.bool false] 4)
  have hT : TwoCells ((w.alloc (.cells #[.int .i64 0] 3)).alloc (.cells #[.bool false] 4)) w.heap.size (w.heap.size + 1) none :=
    ⟨blk_alloc (blk_new _ _) _, by have := blk_new (w.alloc (.cells #[.int .i64 0] 3)) (.cells #[.bool false] 4); simpa using this, by omega⟩
  go_enter Try.func43, Try.ntmps43
  go_wp2_with fail
  refine (eachL A D N c d n w.heap.size (w.heap.size + 1) ps l now w _ hA hD hN hU0 (Nat.le_refl _) (Nat.le_succ _) hT hb hl).mono ?_
  rintro e w2 ⟨rfl, hT2, hU2⟩
  have hp := hT2.at_
  have hq := hT2.ok
  generalize (ms ps l now (l.length + 1)).getLast? = r at *
  have hpc0 : (w2).cell? ⟨w.heap.size, 0, none⟩ = some (.int .i64 ((r.getD 0 : Nat) : Int)) := Base.blk_cell hp 0
  have hpz0 : (w2).frozen? ⟨w.heap.size, 0, none⟩ = false := Base.blk_frozen hp 0
  have hqc0 : (w2).cell? ⟨w.heap.size + 1, 0, none⟩ = some (.bool r.isSome) := Base.blk_cell hq 0
  have hqz0 : (w2).frozen? ⟨w.heap.size + 1, 0, none⟩ = false := Base.blk_frozen hq 0
  go_wp2_with fail
  go_region
  have hp3 := blk_drew (blk_other (blk_put hp 0 (.int .i64 ((r.getD 0 : Nat) : Int)) rfl) (p := ⟨w.heap.size + 1, 0, none⟩) (by simp) (.bool r.isSome))
  have hq3 := blk_drew (blk_put (blk_other hq (p := ⟨w.heap.size, 0, none⟩) (by simp) (.int .i64 ((r.getD 0 : Nat) : Int))) 0 (.bool r.isSome) rfl)
  have hU3 := ((hU2.setNew (b := w.heap.size) (i := 0) (Nat.le_refl _) (.int .i64 ((r.getD 0 : Nat) : Int))).setNew (b := w.heap.size + 1) (i := 0) (Nat.le_succ _) (.bool r.isSome)).drew
  have hp3c := blk_cell hp3 0
  have hq3c := blk_cell hq3 0
  go_wp2
  exact bodyPost_ret (v := .tuple #[.int .i64 ((r.getD 0 : Nat) : Int), .bool r.isSome]) (by simp [results, Try.results43, go_sem, hp3c, hq3c]) rfl ⟨rfl, hU3⟩

def FewR (ps now : List ByteArray) (l : List Ch) (w : World) (e : Ending) (w' : World) : Prop := ∃ b : Bool, e = .returned (.bool b) ∧ (b = true → ps.length ≤ 64 ∧ now.length ≤ 64 ∧ l.length ≤ 60) ∧ Upd Nil w w'
set_option maxHeartbeats 4000000 in
set_option maxRecDepth 100000 in
theorem few (A D N : Option Addr) (c d n : Nat) (ps : List ByteArray) (l : List Ch) (now : List ByteArray) (w : World) (hA : Arg w A 1 sc ps) (hD : Arg w D 2 cc l) (hN : Arg w N 1 sc now) (hb : (ps.length + now.length) * 16 ≤ 140737488355328) (hl : l.length ≤ maxLen) :
    Calls Try.prog 40 #[.slice A ps.length c, .slice N now.length n, .slice D l.length d] w (FewR ps now l w) := by
  unfold maxLen at hl
  have hz : Sl (w.alloc (.cells #[] 9)) w.heap.size 9 1 sc (.slice (some ⟨w.heap.size, 0, none⟩) 0 0) [] := Sl.zero _ _ _ _ _ _ (Nat.le_refl _)
  have hA2 : Arg (w.alloc (.cells #[] 9)) A 1 sc ps := hA.upd ((Upd.refl _ _).alloc _)
  have hU0 : Upd Nil w (w.alloc (.cells #[] 9)) := (Upd.refl _ _).alloc _
  have no : ∀ w', Upd Nil w w' → FewR ps now l w (.returned (.bool false)) w' := fun w' u => ⟨false, rfl, fun h => absurd h (by simp), u⟩
  have yes : ∀ w', ps.length ≤ 64 → now.length ≤ 64 → Upd Nil w w' → FewR ps now l w (.returned (.bool (decide ((l.length : Int) ≤ 60)))) w' := fun w' h1 h2 u => ⟨_, rfl, fun h => ⟨h1, h2, by have := of_decide_eq_true h; omega⟩, u⟩
  go_enter Try.func40, Try.ntmps40
  go_wp2_with (first
    | (at_builtin; (refine wp_appendA (sz := 1) w.heap.size rfl (.tmp 12) (.tmp 13) 57 9 (.string ByteArray.empty) 16 rfl Try.underlying57 (by kernel_rfl) rfl (by omega) sc_len sc_one (.slice (some ⟨w.heap.size, 0, none⟩) 0 0) [] ps A c rfl rfl hA2 hz (by simp) (by simp; omega) (by unfold maxLen; simp; omega) ?_); intro A1 c1 w1 hv1 hg1 hat1; have hU1 := hU0.grown hg1 (fun k hk => .inr (by simp [Value.ownBlock] at hk; omega)); have hv1' : Sl w1 w.heap.size 9 1 sc (.slice A1 ps.length c1) ps := by simpa using hv1)
    | (at_builtin; (refine wp_appendA (sz := 1) w.heap.size rfl (.tmp 14) (.tmp 15) 57 9 (.string ByteArray.empty) 16 rfl Try.underlying57 (by kernel_rfl) rfl (by omega) sc_len sc_one (.slice A1 ps.length c1) ps now N n (by simp [Act.eval]) rfl (hN.upd hU1) hv1' hU1.size hb (by unfold maxLen; omega) ?_); intro A2 c2 w2 hv2 hg2 hat2; have hU2 := hU1.grown hg2 (fun k hk => .inr (hv1'.typed k hk).1)))
  have h2 := hv2.cells sc_len (by omega)
  clear hz hA2 hU0 hv1 hv1' hg1 hat1 hg2 hat2
  go_loopw [7, 18] (fun s7 i wr => ∃ (k : Nat) (x : Int), k ≤ (ps ++ now).length ∧ i = .int .i64 k ∧ s7 = .int .i64 x ∧ Upd Nil w2 wr) (fun _ i _ => (ps ++ now).length - (intOf i).toNat)
  case atStart => exact ⟨0, 0, Nat.zero_le _, rfl, rfl, Upd.refl _ _⟩
  case round =>
    obtain ⟨k, x, hk, rfl, rfl, hUk⟩ := hrel
    have hlen : (ps ++ now).length = ps.length + now.length := List.length_append
    by_cases hlt : k < (ps ++ now).length
    · obtain ⟨g, o, rfl, hg, qx⟩ := (h2.upd hUk).resolve_left (fun e => by rw [e] at hlt; simp at hlt)
      have x0 := qx k hlt 0 (by omega)
      clear qx
      generalize (ps ++ now)[k] = y at *
      simp only [sc, List.getElem?_cons_zero, Nat.add_zero, Nat.mul_one] at x0
      go_wp2_with fail
      go_roundw
      case measure => simp [intOf]; omega
      case rel => exact ⟨k + 1, _, by omega, by simp, rfl, hUk⟩
    · obtain rfl : k = (ps ++ now).length := by omega
      go_wp2_with fail
      have hUw := hU2.trans hUk (fun x hx => .inl hx)
      go_loopw [7, 30] (fun s7 i wr => ∃ (k : Nat) (x : Int), k ≤ l.length ∧ i = .int .i64 k ∧ s7 = .int .i64 x ∧ Upd Nil w wr) (fun _ i _ => l.length - (intOf i).toNat)
      case atStart => exact ⟨0, _, Nat.zero_le _, rfl, rfl, hUw⟩
      case round =>
        obtain ⟨k, x, hk, rfl, rfl, hUk⟩ := hrel
        by_cases hlt : k < l.length
        · obtain ⟨g, o, rfl, hg, qx⟩ := (hD.upd hUk).resolve_left (fun e => by rw [e] at hlt; simp at hlt)
          have x0 := qx k hlt 0 (by omega)
          have x1 := qx k hlt 1 (by omega)
          clear qx
          generalize l[k] = y at *
          obtain ⟨yx, ys⟩ := y
          simp only [cc, List.getElem?_cons_zero, List.getElem?_cons_succ, Nat.add_zero] at x0 x1
          go_wp2_with fail
          go_roundw
          case measure => simp [intOf]; omega
          case rel => exact ⟨k + 1, _, by omega, by simp, rfl, hUk.alloc _⟩
        · obtain rfl : k = l.length := by omega
          by_cases hx : x ≤ 2000
          · by_cases h1 : ps.length ≤ 64
            · by_cases h2 : now.length ≤ 64
              · go_wp2_with fail
                go_ret
                exact yes _ h1 h2 hUk
              · have h3b : ((now.length : Int) ≤ 64) = False := eq_false (by omega)
                go_wp2_with fail
                go_ret
                exact no _ hUk
            · have h3b : ((ps.length : Int) ≤ 64) = False := eq_false (by omega)
              go_wp2_with fail
              go_ret
              exact no _ hUk
          · have h3b : (x ≤ 2000) = False := eq_false (by omega)
            go_wp2_with fail
            go_ret
            exact no _ hUk
end Go.Proofs.Ytobhpfbldmobfaa.PrefixH
