/-
  The walks of slices.Clone, slices.Equal, almshouseref24.Same and prefix.apply over texts: what each hands back, and what it writes. Conditions: each lemma's own.
-/
import Derived.Test.YtobhpfbldmobfaaSet
import Derived.Test.YtobhpfbldmobfaaProg
import Derived.KernelRfl
import Derived.Lib.Hide
import Derived.Deep.RegionLaw
import Derived.Deep.RegionWith
import Derived.Lib.SlicesS
namespace Go.Proofs.Ytobhpfbldmobfaa.Prefix
open Go.RowKit Go.Proofs.Ytobhpfbldmobfaa.Base
set_option linter.unusedVariables false
def sc : ByteArray → List Value := fun s => [.string s]
theorem sc_len (x : ByteArray) : (sc x).length = 1 := rfl
theorem sc_one (x : ByteArray) : ∀ u ∈ sc x, u.oneCell' = true := by
  intro u hu
  simp [sc] at hu
  subst hu
  rfl
abbrev Ch := Int × ByteArray
def cc (c : Ch) : List Value := [.int .i64 c.1, .string c.2]
theorem cc_len (x : Ch) : (cc x).length = 2 := rfl
def app (ps : List ByteArray) (c : Ch) : List ByteArray := if 0 ≤ c.1 ∧ c.1 < ps.length then ps.set c.1.toNat c.2 else ps
def aft (ps : List ByteArray) (l : List Ch) : List ByteArray := l.foldl app ps
theorem app_len (ps : List ByteArray) (c : Ch) : (app ps c).length = ps.length := by unfold app; split <;> simp
theorem aft_len (l : List Ch) : ∀ ps : List ByteArray, (aft ps l).length = ps.length := by
  induction l with
  | nil => intro ps; rfl
  | cons c l ih => intro ps; exact (ih _).trans (app_len ps c)
/-- slices.Clone: the same elements in a slice of one's own. -/
def ClonedStr (l : List (ByteArray)) (w : World) (e : Ending) (w' : World) : Prop := ∃ v, e = .returned v ∧ Sl w' w.heap.size 9 1 sc v l ∧ Upd Nil w w'
set_option maxRecDepth 100000 in
theorem cloneStr (A : Option Addr) (c : Nat) (l : List (ByteArray)) (w : World) (hA : Arg w A 1 sc l) (hb : l.length * 16 ≤ 140737488355328) :
    Calls Try.prog 83 #[.slice A l.length c] w (ClonedStr l w) := by
  have hq : ∀ (w : World) (a : Option Addr) (n c n' c' : Nat), (binOp .eql 57 (.slice a n c) (.slice none n' c')).run Try.prog w = .ok (.bool a.isNone) w := fun w a n c n' c' => Lib.run_eql_slice_nil w _ _ a n c n' c' Try.underlying57
  cases A with
  | none =>
    obtain rfl : l = [] := hA.resolve_right (fun ⟨b, off, h, _⟩ => by cases h)
    go_enter Try.func83, Try.ntmps83
    go_wp2
    go_ret
    exact ⟨_, rfl, Sl.nil _ _ _ _ _, Upd.refl _ _⟩
  | some A =>
    have hz : Sl (w.alloc (.cells #[] 9)) w.heap.size 9 1 sc (.slice (some ⟨w.heap.size, 0, none⟩) 0 0) [] := Sl.zero _ _ _ _ _ _ (Nat.le_refl _)
    by_cases h0 : l = []
    · subst h0
      obtain ⟨ti, hti⟩ : ∃ ti, Try.prog.info? 9 = some ti := Option.isSome_iff_exists.1 (by kernel_rfl)
      go_enter Try.func83, Try.ntmps83
      go_wp2_with (at_builtin; refine wp_append0 rfl _ _ 57 9 rfl Try.underlying57 hti (some ⟨w.heap.size, 0, none⟩) (some A) 0 0 c rfl rfl (Nat.le_refl _) ?_)
      go_ret
      exact ⟨_, rfl, hz, (Upd.refl _ _).alloc _⟩
    · have hpos : 0 < l.length := List.length_pos_iff.2 h0
      have hA2 : Arg (w.alloc (.cells #[] 9)) (some A) 1 sc l := hA.upd ((Upd.refl _ _).alloc _)
      have hm : l.length ≤ maxLen := by unfold maxLen; omega
      go_enter Try.func83, Try.ntmps83
      go_wp2_with (at_builtin; (refine wp_append (sz := 1) w.heap.size rfl (.tmp 5) (.tmp 6) 57 9 (.string ByteArray.empty) 16 rfl Try.underlying57 (by kernel_rfl) rfl (by omega) sc_len sc_one (.slice (some ⟨w.heap.size, 0, none⟩) 0 0) [] l A c rfl rfl hpos hA2 hz (by simp) (by simp; omega) (by simp; omega) ?_); intro A1 c1 w1 hv1 hg1 hat)
      go_ret
      exact ⟨_, rfl, by simpa using hv1, ((Upd.refl Nil w).alloc _).grown hg1 (fun k hk => .inr (by simp [Value.ownBlock] at hk; omega))⟩

set_option maxHeartbeats 4000000 in
set_option maxRecDepth 100000 in
theorem equal (A B : Option Addr) (c d : Nat) (l m : List ByteArray) (w : World) (hA : Arg w A 1 sc l) (hB : Arg w B 1 sc m) (hl : l.length ≤ maxLen) :
    Calls Try.prog 96 #[.slice A l.length c, .slice B m.length d] w (RetB (decide (l = m)) w) := by
  unfold maxLen at hl
  have hgoal : ∀ b wr, decide (l = m) = b → Upd Nil w wr → RetB (decide (l = m)) w (.returned (.bool b)) wr := fun b wr h u => ⟨by rw [h], u⟩
  by_cases hlen : l.length = m.length
  · have hlenb : ((l.length : Int) != m.length) = false := by simp [hlen]
    have hlenH := Lib.hid hlen
    clear hlen
    go_enter Try.func96, Try.ntmps96
    go_wp2_with fail
    go_loopw [13] (fun i wr => ∃ k : Nat, k ≤ l.length ∧ i = .int .i64 k ∧ (∀ j, j < k → l[j]? = m[j]?) ∧ Upd Nil w wr) (fun i _ => l.length - (intOf i).toNat)
    case atStart => exact ⟨0, Nat.zero_le _, rfl, fun j hj => by omega, Upd.refl _ _⟩
    case round =>
      obtain ⟨k, hk, rfl, hall, hU⟩ := hrel
      have hallH := Lib.hid hall
      clear hall
      by_cases hkl : k < l.length
      · have hkm : k < m.length := by rw [← hlenH.out]; exact hkl
        obtain ⟨g1, o1, rfl, hg1, q1⟩ := (hA.upd hU).resolve_left (fun e => by rw [e] at hkl; simp at hkl)
        obtain ⟨g2, o2, rfl, hg2, q2⟩ := (hB.upd hU).resolve_left (fun e => by rw [e] at hkm; simp at hkm)
        have x0 := q1 k hkl 0 (by omega)
        have y0 := q2 k hkm 0 (by omega)
        clear q1 q2
        have hmm : Hid (l[k]? = some l[k] ∧ m[k]? = some m[k]) := ⟨List.getElem?_eq_getElem hkl, List.getElem?_eq_getElem hkm⟩
        generalize l[k] = x at *
        generalize m[k] = y at *
        simp only [sc, List.getElem?_cons_zero, Nat.add_zero, Nat.mul_one] at x0 y0
        by_cases hxy : x = y
        · subst hxy
          go_wp2_with fail
          go_quiet (fail)
          go_wp2_with fail
          go_roundw
          case measure => simp [intOf]; omega
          case rel =>
            refine ⟨k + 1, by omega, by simp, fun j hj => ?_, hU.drewN _⟩
            by_cases hjk : j < k
            · exact hallH.out j hjk
            · obtain rfl : j = k := by omega
              rw [hmm.out.1, hmm.out.2]
        · have h1 : (x.toList == y.toList) = false := (Lib.bytes_beq_false_iff x y).2 hxy
          have h2 : (x = y) = False := eq_false hxy
          have hne : l ≠ m := fun e => hxy (by have := hmm.out.1; rw [e, hmm.out.2] at this; injection this with this; exact this.symm)
          go_wp2_with fail
          go_quiet (fail)
          go_wp2_with fail
          go_ret
          exact hgoal _ _ (decide_eq_false hne) (hU.drewN _)
      · obtain rfl : k = l.length := by omega
        have heq : l = m := by
          apply List.ext_getElem?
          intro j
          by_cases hj : j < l.length
          · exact hallH.out j hj
          · rw [List.getElem?_eq_none (by omega), List.getElem?_eq_none (by have := hlenH.out; omega)]
        have heqd := decide_eq_true heq
        clear heq
        go_wp2_with fail
        go_ret
        exact hgoal _ _ heqd hU
  · have hlenb : ((l.length : Int) != m.length) = true := by simp; omega
    have hne : l ≠ m := fun e => hlen (by rw [e])
    go_enter Try.func96, Try.ntmps96
    go_wp2_with fail
    go_ret
    exact hgoal _ _ (decide_eq_false hne) (Upd.refl _ _)
set_option maxHeartbeats 4000000 in
set_option maxRecDepth 100000 in
theorem same (A B : Option Addr) (c d : Nat) (l m : List ByteArray) (w : World) (hA : Arg w A 1 sc l) (hB : Arg w B 1 sc m) (hl : l.length ≤ maxLen) :
    Calls Try.prog 44 #[.slice A l.length c, .slice B m.length d] w (RetB (decide (l = m)) w) := by
  unfold maxLen at hl
  have hgoal : ∀ b wr, decide (l = m) = b → Upd Nil w wr → RetB (decide (l = m)) w (.returned (.bool b)) wr := fun b wr h u => ⟨by rw [h], u⟩
  by_cases hlen : l.length = m.length
  · have hlenb : ((l.length : Int) != m.length) = false := by simp [hlen]
    have hlenH := Lib.hid hlen
    clear hlen
    go_enter Try.func44, Try.ntmps44
    go_wp2_with fail
    go_loopw [13] (fun i wr => ∃ k : Nat, k ≤ l.length ∧ i = .int .i64 k ∧ (∀ j, j < k → l[j]? = m[j]?) ∧ Upd Nil w wr) (fun i _ => l.length - (intOf i).toNat)
    case atStart => exact ⟨0, Nat.zero_le _, rfl, fun j hj => by omega, Upd.refl _ _⟩
    case round =>
      obtain ⟨k, hk, rfl, hall, hU⟩ := hrel
      have hallH := Lib.hid hall
      clear hall
      by_cases hkl : k < l.length
      · have hkm : k < m.length := by rw [← hlenH.out]; exact hkl
        obtain ⟨g1, o1, rfl, hg1, q1⟩ := (hA.upd hU).resolve_left (fun e => by rw [e] at hkl; simp at hkl)
        obtain ⟨g2, o2, rfl, hg2, q2⟩ := (hB.upd hU).resolve_left (fun e => by rw [e] at hkm; simp at hkm)
        have x0 := q1 k hkl 0 (by omega)
        have y0 := q2 k hkm 0 (by omega)
        clear q1 q2
        have hmm : Hid (l[k]? = some l[k] ∧ m[k]? = some m[k]) := ⟨List.getElem?_eq_getElem hkl, List.getElem?_eq_getElem hkm⟩
        generalize l[k] = x at *
        generalize m[k] = y at *
        simp only [sc, List.getElem?_cons_zero, Nat.add_zero, Nat.mul_one] at x0 y0
        by_cases hxy : x = y
        · subst hxy
          go_wp2_with fail
          go_quiet (fail)
          go_wp2_with fail
          go_roundw
          case measure => simp [intOf]; omega
          case rel =>
            refine ⟨k + 1, by omega, by simp, fun j hj => ?_, hU.drewN _⟩
            by_cases hjk : j < k
            · exact hallH.out j hjk
            · obtain rfl : j = k := by omega
              rw [hmm.out.1, hmm.out.2]
        · have h1 : (x.toList == y.toList) = false := (Lib.bytes_beq_false_iff x y).2 hxy
          have h2 : (x = y) = False := eq_false hxy
          have hne : l ≠ m := fun e => hxy (by have := hmm.out.1; rw [e, hmm.out.2] at this; injection this with this; exact this.symm)
          go_wp2_with fail
          go_quiet (fail)
          go_wp2_with fail
          go_ret
          exact hgoal _ _ (decide_eq_false hne) (hU.drewN _)
      · obtain rfl : k = l.length := by omega
        have heq : l = m := by
          apply List.ext_getElem?
          intro j
          by_cases hj : j < l.length
          · exact hallH.out j hj
          · rw [List.getElem?_eq_none (by omega), List.getElem?_eq_none (by have := hlenH.out; omega)]
        have heqd := decide_eq_true heq
        clear heq
        go_wp2_with fail
        go_ret
        exact hgoal _ _ heqd hU
  · have hlenb : ((l.length : Int) != m.length) = true := by simp; omega
    have hne : l ≠ m := fun e => hlen (by rw [e])
    go_enter Try.func44, Try.ntmps44
    go_wp2_with fail
    go_ret
    exact hgoal _ _ (decide_eq_false hne) (Upd.refl _ _)

/-- The block of a slice's own. -/
def Own (v : Value) : Nat → Prop := fun x => v.ownBlock = some x
def AppR (B : Nat) (v : Value) (ps : List ByteArray) (c : Ch) (w : World) (e : Ending) (w' : World) : Prop := e = .returned (.tuple #[]) ∧ Sl w' B 9 1 sc v (app ps c) ∧ Upd (Own v) w w'
set_option maxRecDepth 100000 in
theorem apply (B : Nat) (v : Value) (ps : List ByteArray) (x : Int) (s : ByteArray) (w : World) (h : Sl w B 9 1 sc v ps) :
    Calls Try.prog 84 #[v, .agg #[.int .i64 x, .string s]] w (AppR B v ps (x, s) w) := by
  obtain ⟨A, c, rfl, hc⟩ := h.form
  have hU := (Upd.refl (Own (.slice A ps.length c)) w).alloc (.cells #[.int .i64 x, .string s] 62)
  have hS : Sl (w.alloc (.cells #[.int .i64 x, .string s] 62)) B 9 1 sc (.slice A ps.length c) ps := h.move (fun k hk => Below.heap_alloc _ _ _ (h.lt k hk))
  by_cases h0 : 0 ≤ x
  · obtain ⟨k, rfl⟩ := Int.eq_ofNat_of_zero_le h0
    by_cases hlt : k < ps.length
    · have hA := h.cells sc_len (by omega)
      obtain ⟨g, o, rfl, hg, q⟩ := hA.resolve_left (fun e => by rw [e] at hlt; simp at hlt)
      obtain ⟨hB, cur, hcur⟩ := h.typed g rfl
      have hz := blk_frozen hcur (o + k)
      have x0 := q k hlt 0 (by omega)
      simp only [sc, List.getElem?_cons_zero, Nat.add_zero, Nat.mul_one] at x0
      have hset : Sl _ B 9 1 sc (.slice (some ⟨g, o, none⟩) ps.length c) (ps.set k s) := Sl.set1 (f := fun x => .string x) h hlt s
      have hU2 := ((Upd.refl (Own (.slice (some ⟨g, o, none⟩) ps.length c)) w).setOwn (g := g) (i := o + k) (.inl rfl) (.string s)).alloc (.cells #[.int .i64 k, .string s] 62)
      have hset2 := hset.upd ((Upd.refl Nil _).alloc (.cells #[.int .i64 k, .string s] 62)) (fun _ _ h => h)
      have happ : app ps ((k : Int), s) = ps.set k s := by unfold app; rw [if_pos ⟨by simp, by simp; omega⟩]; rfl
      have hgw : g ≠ w.heap.size := by omega
      go_enter Try.func84, Try.ntmps84
      go_wp2
      go_end0
      exact ⟨rfl, by rw [happ]; exact hset2, hU2⟩
    · have happ : app ps ((k : Int), s) = ps := by unfold app; rw [if_neg (by simp; omega)]
      have hnl : ((k : Int) < ps.length) = False := eq_false (by omega)
      go_enter Try.func84, Try.ntmps84
      go_wp2
      go_end0
      exact ⟨rfl, by rw [happ]; exact hS, hU⟩
  · have happ : app ps (x, s) = ps := by unfold app; rw [if_neg (by simp; omega)]
    go_enter Try.func84, Try.ntmps84
    go_wp2
    go_end0
    exact ⟨rfl, by rw [happ]; exact hS, hU⟩
end Go.Proofs.Ytobhpfbldmobfaa.Prefix
