/-
  The walks of almshouseref24.After and almshouseref24.All. Conditions: each lemma's own.
-/
import Derived.Test.YtobhpfbldmobfaaPrefixH
namespace Go.Proofs.Ytobhpfbldmobfaa.PrefixJ
open Go.RowKit Go.Proofs.Ytobhpfbldmobfaa.Base Go.Proofs.Ytobhpfbldmobfaa.Prefix Go.Proofs.Ytobhpfbldmobfaa.PrefixF Go.Proofs.Ytobhpfbldmobfaa.PrefixG Go.Proofs.Ytobhpfbldmobfaa.PrefixH
set_option linter.unusedVariables false
/-- What place i holds behind changes, if it held s. -/
def rf (i : Nat) (s : ByteArray) (l : List Ch) : ByteArray := l.foldl (fun s c => if c.1 = (i : Int) then c.2 else s) s
theorem rf_take (i : Nat) (s : ByteArray) (l : List Ch) (k : Nat) (h : k < l.length) : rf i s (l.take (k + 1)) = if l[k].1 = (i : Int) then l[k].2 else rf i s (l.take k) := by
  unfold rf
  rw [List.take_succ_eq_append_getElem h, List.foldl_append]
  rfl
theorem aft_get (i : Nat) (l : List Ch) : ∀ ps : List ByteArray, (aft ps l)[i]? = ps[i]?.map fun s => rf i s l := by
  induction l with
  | nil => intro ps; simp [aft, rf]
  | cons c l ih =>
    intro ps
    have h1 := ih (app ps c)
    show (aft (app ps c) l)[i]? = _
    rw [h1]
    unfold app
    by_cases h : 0 ≤ c.1 ∧ c.1 < ps.length
    · rw [if_pos h, List.getElem?_set]
      by_cases e : c.1.toNat = i
      · have e2 : c.1 = (i : Int) := by omega
        have h3 : i < ps.length := by omega
        rw [if_pos e, if_pos (by omega), List.getElem?_eq_getElem h3]
        simp [rf, e2]
      · have e2 : ¬ c.1 = (i : Int) := by omega
        rw [if_neg e]
        simp [rf, e2]
    · rw [if_neg h]
      cases hi : ps[i]? with
      | none => rfl
      | some s =>
        have h3 := (List.getElem?_eq_some_iff.1 hi).1
        have e2 : ¬ c.1 = (i : Int) := by omega
        simp [rf, e2]
/-- The places when those below i have gone through all changes, and place i through m. -/
def mid (ps : List ByteArray) (l : List Ch) (i m : Nat) (q : List ByteArray) : Prop :=
  q.length = ps.length ∧ ∀ j, q[j]? = ps[j]?.map fun s => if j < i then rf j s l else if j = i then rf j s (l.take m) else s
theorem mid_start (ps : List ByteArray) (l : List Ch) : mid ps l 0 0 ps := ⟨rfl, fun j => by cases h : ps[j]? <;> simp [rf]⟩
theorem mid_next {ps : List ByteArray} {l : List Ch} {i : Nat} {q : List ByteArray} (h : mid ps l i l.length q) : mid ps l (i + 1) 0 q := by
  refine ⟨h.1, fun j => ?_⟩
  rw [h.2 j, List.take_length]
  congr 1
  funext s
  by_cases h1 : j < i
  · rw [if_pos h1, if_pos (by omega)]
  · by_cases h2 : j = i
    · rw [if_neg h1, if_pos h2, if_pos (by omega)]
    · rw [if_neg h1, if_neg h2, if_neg (by omega)]
      split <;> simp [rf]
theorem mid_skip {ps : List ByteArray} {l : List Ch} {i m : Nat} {q : List ByteArray} (h : mid ps l i m q) (hm : m < l.length) (hn : ¬ l[m].1 = (i : Int)) : mid ps l i (m + 1) q := by
  refine ⟨h.1, fun j => ?_⟩
  rw [h.2 j]
  congr 1
  funext s
  by_cases e : j = i
  · subst e; rw [rf_take _ _ _ _ hm, if_neg hn]
  · simp [e]
theorem mid_set {ps : List ByteArray} {l : List Ch} {i m : Nat} {q : List ByteArray} (h : mid ps l i m q) (hm : m < l.length) (hy : l[m].1 = (i : Int)) (hi : i < ps.length) : mid ps l i (m + 1) (q.set i l[m].2) := by
  refine ⟨by rw [List.length_set]; exact h.1, fun j => ?_⟩
  rw [List.getElem?_set]
  by_cases e : i = j
  · subst e
    rw [if_pos rfl, if_pos (by rw [h.1]; exact hi), List.getElem?_eq_getElem hi]
    simp only [Option.map_some, Nat.lt_irrefl, if_false, if_true]
    rw [rf_take _ _ _ _ hm, if_pos hy]
  · have e2 : ¬ j = i := fun x => e x.symm
    rw [if_neg e, h.2 j]
    simp [e2]
theorem mid_end {ps : List ByteArray} {l : List Ch} {q : List ByteArray} (h : mid ps l ps.length 0 q) : q = aft ps l := by
  apply List.ext_getElem?
  intro j
  rw [h.2 j, aft_get]
  cases hj : ps[j]? with
  | none => rfl
  | some s =>
    have h3 := (List.getElem?_eq_some_iff.1 hj).1
    simp [h3]
set_option maxHeartbeats 8000000 in
set_option maxRecDepth 100000 in
theorem rafter (A D : Option Addr) (c d : Nat) (ps : List ByteArray) (l : List Ch) (w : World) (hA : Arg w A 1 sc ps) (hD : Arg w D 2 cc l) (hb : ps.length * 16 ≤ 140737488355328) (hl : l.length ≤ maxLen) :
    Calls Try.prog 46 #[.slice A ps.length c, .slice D l.length d] w (AftR ps l w) := by
  unfold maxLen at hl
  have hz : Sl (w.alloc (.cells #[] 9)) w.heap.size 9 1 sc (.slice (some ⟨w.heap.size, 0, none⟩) 0 0) [] := Sl.zero _ _ _ _ _ _ (Nat.le_refl _)
  have hU0 : Upd Nil w (w.alloc (.cells #[] 9)) := (Upd.refl _ _).alloc _
  go_enter Try.func46, Try.ntmps46
  go_wp2_with (at_builtin; (refine wp_appendA (sz := 1) w.heap.size rfl (.tmp 9) (.tmp 10) 57 9 (.string ByteArray.empty) 16 rfl Try.underlying57 (by kernel_rfl) rfl (by omega) sc_len sc_one (.slice (some ⟨w.heap.size, 0, none⟩) 0 0) [] ps A c rfl rfl (hA.upd hU0) hz (by simp) (by simp; omega) (by unfold maxLen; simp; omega) ?_); intro A1 c1 w1 hv1 hg1 hat1)
  have hU1 : Upd Nil w w1 := hU0.grown hg1 (fun k hk => .inr (by simp [Value.ownBlock] at hk; omega))
  have hv : Sl w1 w.heap.size 9 1 sc (.slice A1 ps.length c1) ps := by simpa using hv1
  clear hz hU0 hv1 hg1 hat1
  have hbb : ps.length ≤ 140737488355328 := by omega
  go_loopw [14, 19] (fun s14 s19 wr => ∃ (i : Nat) (q : List ByteArray), i ≤ ps.length ∧ s14 = .int .i64 i ∧ mid ps l i 0 q ∧ Sl wr w.heap.size 9 1 sc (.slice A1 ps.length c1) q ∧ Upd Nil w wr) (fun s14 _ _ => ps.length - (intOf s14).toNat)
  case atStart => exact ⟨0, ps, Nat.zero_le _, rfl, mid_start ps l, hv, hU1⟩
  case round =>
    obtain ⟨i, q, hi, rfl, hmid, hS, hU⟩ := hrel
    clear hv hU1
    by_cases hlt : i < ps.length
    · go_wp2_with fail
      obtain ⟨wo, rfl⟩ : ∃ wo : World, wo = wr := ⟨_, rfl⟩
      go_loopw [19] (fun s19 wi => ∃ (m : Nat) (q : List ByteArray), m ≤ l.length ∧ s19 = .int .i64 m ∧ mid ps l i m q ∧ Sl wi w.heap.size 9 1 sc (.slice A1 ps.length c1) q ∧ Upd Nil w wi) (fun s19 _ => l.length - (intOf s19).toNat)
      case atStart => exact ⟨0, q, Nat.zero_le _, rfl, hmid, hS, hU⟩
      case round =>
        clear hmid hS hU
        obtain ⟨m, q, hm, rfl, hmid, hS, hU⟩ := hrel
        by_cases hml : m < l.length
        · obtain ⟨g, o, rfl, hg, qx⟩ := (hD.upd hU).resolve_left (fun e => by rw [e] at hml; simp at hml)
          have x0 := qx m hml 0 (by omega)
          have x1 := qx m hml 1 (by omega)
          have hset := fun hy => Lib.hid (mid_set hmid hml hy hlt)
          have hskip := fun hn => Lib.hid (mid_skip hmid hml hn)
          have hql : q.length = ps.length := hmid.1
          have hqlH := Lib.hid hql
          have hS' : Sl wr w.heap.size 9 1 sc (.slice A1 q.length c1) q := by rw [hql]; exact hS
          clear qx hmid hql
          generalize l[m] = y at *
          obtain ⟨x, s⟩ := y
          simp only [cc, List.getElem?_cons_zero, List.getElem?_cons_succ, Nat.add_zero] at x0 x1
          by_cases hx : x = (i : Int)
          · have hset2 := hset hx
            subst hx
            have hA1 := hS'.cells sc_len (by omega)
            obtain ⟨g1, o1, rfl, hg1, q1⟩ := hA1.resolve_left (fun e => by have := hqlH.out; rw [e] at this; simp at this; omega)
            obtain ⟨hB, cur, hcur⟩ := hS.typed g1 rfl
            have hz1 := blk_frozen hcur (o1 + i)
            have y0 := q1 i (by have := hqlH.out; omega) 0 (by omega)
            simp only [sc, List.getElem?_cons_zero, Nat.add_zero, Nat.mul_one] at y0
            have hgw : g1 ≠ wr.heap.size := by omega
            have hS2 : Sl (wr.setCell ⟨g1, o1 + i, none⟩ (.string s)) w.heap.size 9 1 sc (.slice (some ⟨g1, o1, none⟩) ps.length c1) (q.set i s) := Sl.set1 (f := fun x => .string x) hS (i := i) (by have := hqlH.out; omega) s
            have hS3 : Sl ((wr.setCell ⟨g1, o1 + i, none⟩ (.string s)).alloc (.cells #[.int .i64 i, .string s] 63)) w.heap.size 9 1 sc (.slice (some ⟨g1, o1, none⟩) ps.length c1) (q.set i s) := hS2.move (fun j hj => Below.heap_alloc _ _ _ (hS2.lt j hj))
            have hU3 : Upd Nil w ((wr.setCell ⟨g1, o1 + i, none⟩ (.string s)).alloc (.cells #[.int .i64 i, .string s] 63)) := (hU.set (p := ⟨g1, o1 + i, none⟩) (.inr hB) _).alloc _
            go_wp2_with fail
            go_roundw
            case measure => simp [intOf]; omega
            case rel => exact ⟨m + 1, _, by omega, by simp, hset2.out, hS3, hU3⟩
          · have hxb : (x == (i : Int)) = false := beq_eq_false_iff_ne.mpr hx
            have hskip2 := hskip hx
            have hS2 : Sl (wr.alloc (.cells #[.int .i64 x, .string s] 63)) w.heap.size 9 1 sc (.slice A1 ps.length c1) q := hS.move (fun j hj => Below.heap_alloc _ _ _ (hS.lt j hj))
            go_wp2_with fail
            go_roundw
            case measure => simp [intOf]; omega
            case rel => exact ⟨m + 1, q, by omega, by simp, hskip2.out, hS2, hU.alloc _⟩
        · obtain rfl : m = l.length := by omega
          go_wp2_with fail
          go_roundw
          case measure => simp [intOf]; omega
          case rel => exact ⟨i + 1, q, by omega, by simp, mid_next hmid, hS, hU⟩
    · obtain rfl : i = ps.length := by omega
      go_wp2_with fail
      go_ret
      rw [mid_end hmid] at hS
      exact ⟨_, rfl, hS, hU⟩
end Go.Proofs.Ytobhpfbldmobfaa.PrefixJ
