/-
  The walks of a word.Reader's functions: a reader whose bytes and error are known. Conditions: each lemma's own.
-/
import Derived.Test.YtjkojhebgkgdaaaDoorWordA
namespace Go.Proofs.YtjkojhebgkgdaaaDoor.Word
open Go.RowKit Go.Proofs.YtjkojhebgkgdaaaDoor.Base
set_option linter.unusedVariables false
/-- A reader's block, and what its bytes are. -/
structure Rdr (B : Nat) (w : World) (b : Nat) (v : Value) (r : Rd) : Prop where
  blk : w.heap[b]? = some (.cells #[v, .int .i64 r.e] 66 (0, 0))
  sl : Sl w B 5 1 bc v r.l
theorem Rdr.upd {B : Nat} {w w' : World} {b : Nat} {v : Value} {r : Rd} (h : Rdr B w b v r) {S : Nat → Prop} (u : Upd S w w') (hb : ¬ S b) (hv : ∀ k, v.ownBlock = some k → ¬ S k) : Rdr B w' b v r := ⟨u.blk h.blk hb, h.sl.upd u hv⟩
theorem Rdr.upd0 {B : Nat} {w w' : World} {b : Nat} {v : Value} {r : Rd} (h : Rdr B w b v r) (u : Upd Nil w w') : Rdr B w' b v r := h.upd u (fun h => h) (fun _ _ h => h)
theorem Rdr.ne {B : Nat} {w : World} {b : Nat} {v : Value} {r : Rd} (h : Rdr B w b v r) : ∀ k, v.ownBlock = some k → ¬ Only b k := fun k hk e => h.sl.ne h.blk (by decide) k hk e
def ReadR (l : List UInt8) (w : World) (e : Ending) (w' : World) : Prop := ∃ b v, e = .returned (.pointer (some ⟨b, 0, none⟩)) ∧ w.heap.size ≤ b ∧ Rdr w.heap.size w' b v ⟨l, 0⟩ ∧ Upd Nil w w'
set_option maxRecDepth 100000 in
theorem read (A : Option Addr) (c : Nat) (l : List UInt8) (w : World) (hA : Arg w A 1 bc l) (hb : l.length ≤ 140737488355328) : Calls Tryd.prog 27 #[.slice A l.length c] w (ReadR l w) := by
  have hcl := cloneU8 A c l w hA (by omega)
  go_enter Tryd.func27, Tryd.ntmps27
  go_wp2_with (go_at_call 42; refine hcl.mono ?_; rintro e w1 ⟨x, rfl, hx, hU⟩; obtain ⟨A1, c1, rfl, hc1⟩ := hx.form)
  go_ret
  exact ⟨_, _, rfl, hU.size, ⟨blk_new _ _, hx.alloc _⟩, hU.alloc _⟩
/-- What an operation on a reader hands back, and leaves. -/
def RdR (B b : Nat) (x : Value) (r : Rd) (w : World) (e : Ending) (w' : World) : Prop := e = .returned x ∧ (∃ v, Rdr B w' b v r) ∧ Upd (Only b) w w'
set_option maxRecDepth 100000 in
theorem fail (B b : Nat) (v : Value) (r : Rd) (x : Int) (hx : x ≠ 0) (w : World) (h : Rdr B w b v r) : Calls Tryd.prog 44 #[.pointer (some ⟨b, 0, none⟩), .int .i64 x] w fun e w' => e = .returned (.bool true) ∧ Rdr B w' b v (r.fail x) ∧ Upd (Only b) w w' := by
  have hbk := h.blk
  obtain ⟨l, e⟩ := r
  have hsl := h.sl
  have hne := h.ne
  have hbkc0 : (w).cell? ⟨b, 0, none⟩ = some (v) := Base.blk_cell hbk 0
  have hbkz0 : (w).frozen? ⟨b, 0, none⟩ = false := Base.blk_frozen hbk 0
  have hbkc1 : (w).cell? ⟨b, 1, none⟩ = some (.int .i64 e) := Base.blk_cell hbk 1
  have hbkz1 : (w).frozen? ⟨b, 1, none⟩ = false := Base.blk_frozen hbk 1
  have hxb : (x != 0) = true := by simp [hx]
  by_cases he : e = 0
  · subst he
    have hf : Hid ((⟨l, 0⟩ : Rd).fail x = ⟨l, x⟩) := rfl
    have hb2 : (w.setCell ⟨b, 1, none⟩ (.int .i64 x)).heap[b]? = some (.cells #[v, .int .i64 x] 66 (0, 0)) := blk_put hbk 1 _ rfl
    go_enter Tryd.func44, Tryd.ntmps44
    go_wp2
    go_ret
    exact ⟨rfl, by rw [hf.out]; exact ⟨hb2, hsl.upd ((Upd.refl (Only b) w).set1 _) hne⟩, (Upd.refl (Only b) w).set1 _⟩
  · have hf : Hid ((⟨l, e⟩ : Rd).fail x = ⟨l, e⟩) := if_neg he
    have heb : (e == 0) = false := beq_eq_false_iff_ne.mpr he
    have hen : (e != 0) = true := by simp [he]
    go_enter Tryd.func44, Tryd.ntmps44
    go_wp2
    go_ret
    exact ⟨rfl, by rw [hf.out]; exact h, Upd.refl _ _⟩
set_option maxRecDepth 100000 in
theorem _root_.Go.Proofs.YtjkojhebgkgdaaaDoor.Base.Arg.set {w : World} {A : Option Addr} {l : List UInt8} {b i n c : Nat} {u : Value} (h : Arg w A 1 bc l) (hne : ∀ k, (Value.slice A n c).ownBlock = some k → ¬ Only b k) : Arg (w.setCell ⟨b, i, none⟩ u) A 1 bc l := by
  rcases h with h | ⟨g, off, rfl, h2, h3⟩
  · exact .inl h
  · have hg : g ≠ b := fun e => hne g rfl e
    exact .inr ⟨g, off, rfl, by simpa [World.setCell] using h2, fun i' hi j hj => by rw [World.cell?_of_block (w := w) (Below.heap_setCell w _ u _ hg)]; exact h3 i' hi j hj⟩
def NextR (B b : Nat) (l : List UInt8) (r : Rd) (w : World) (e : Ending) (w' : World) : Prop := (∃ A c, e = .returned (.slice A l.length c) ∧ Arg w' A 1 bc l) ∧ (∃ v, Rdr B w' b v r) ∧ Upd (Only b) w w'
set_option maxRecDepth 100000 in
theorem next (B b : Nat) (v : Value) (r : Rd) (n : Nat) (w : World) (h : Rdr B w b v r) : Calls Tryd.prog 45 #[.pointer (some ⟨b, 0, none⟩), .int .i64 n] w (NextR B b (r.next n).1 (r.next n).2 w) := by
  have hbk := h.blk
  have hfl := fail B b v r 2 (by omega) w h
  have hne := h.ne
  obtain ⟨A, c, rfl, hc⟩ := h.sl.form
  obtain ⟨l, e⟩ := r
  have hsl : Sl w B 5 1 bc (.slice A l.length c) l := h.sl
  have hcm := hsl.capMax
  have hc' : l.length ≤ c := hc
  clear hc
  have hbk2 : w.heap[b]? = some (.cells #[.slice A l.length c, .int .i64 e] 66 (0, 0)) := hbk
  have hbk2c0 : (w).cell? ⟨b, 0, none⟩ = some (.slice A l.length c) := Base.blk_cell hbk2 0
  have hbk2z0 : (w).frozen? ⟨b, 0, none⟩ = false := Base.blk_frozen hbk2 0
  have hbk2c1 : (w).cell? ⟨b, 1, none⟩ = some (.int .i64 e) := Base.blk_cell hbk2 1
  have hbk2z1 : (w).frozen? ⟨b, 1, none⟩ = false := Base.blk_frozen hbk2 1
  have hadd : A.map (fun x => x.add 0) = A := by cases A <;> rfl
  by_cases he : e = 0
  · subst he
    by_cases hn : l.length < n
    · have hr : Hid ((⟨l, 0⟩ : Rd).next n = ([], ⟨l, 2⟩)) := by show _ = _; simp [Rd.next, hn]
      have hf : Hid ((⟨l, 0⟩ : Rd).fail 2 = ⟨l, 2⟩) := rfl
      go_enter Tryd.func45, Tryd.ntmps45
      go_wp2_with (go_at_call 44; refine hfl.mono ?_; rintro e w1 ⟨rfl, h1, hU⟩)
      go_ret
      rw [hr.out]
      rw [hf.out] at h1
      exact ⟨⟨_, _, rfl, .inl rfl⟩, ⟨_, h1⟩, hU⟩
    · have hr : Hid ((⟨l, 0⟩ : Rd).next n = (l.take n, ⟨l.drop n, 0⟩)) := by show _ = _; simp [Rd.next, hn]
      have hnl : n ≤ l.length := by omega
      have hnc : n ≤ c := by omega
      have htl : Hid ((l.take n).length = n) := List.length_take_of_le hnl
      have hA := arg_take (hsl.cells bc_len (by omega)) n
      have hD := Lib.hid (hsl.drop (k := n) bc_len hnl)
      have hU : ∀ u, Upd (Only b) w (w.setCell ⟨b, 0, none⟩ u) := fun u => (Upd.refl (Only b) w).set1 u
      by_cases hcn : c = n
      · subst hcn
        have hl : l.length = c := by omega
        have hlH := Lib.hid hl
        clear hl
        have hb2 : (w.setCell ⟨b, 0, none⟩ (.slice A 0 0)).heap[b]? = some (.cells #[.slice A 0 0, .int .i64 0] 66 (0, 0)) := blk_put hbk 0 _ rfl
        have hS0 : Sl w B 5 1 bc (.slice A 0 0) (l.drop c) := by
          have := hD.out
          rw [if_pos rfl, hlH.out, Nat.sub_self] at this
          exact this
        clear hD
        go_enter Tryd.func45, Tryd.ntmps45
        go_wp2_with fail
        go_ret
        rw [hr.out]
        exact ⟨⟨A, c, by rw [htl.out]; rfl, hA.set hne⟩, ⟨_, hb2, hS0.upd (hU _) (fun k hk e => hS0.ne hbk (by decide) k hk e)⟩, hU _⟩
      · have hS0 : Sl w B 5 1 bc (.slice (A.map (fun x => x.add n)) (l.length - n) (c - n)) (l.drop n) := by
          have := hD.out
          rw [if_neg hcn, Nat.mul_one] at this
          exact this
        have hb2 : (w.setCell ⟨b, 0, none⟩ (.slice (A.map (fun x => x.add n)) (l.length - n) (c - n))).heap[b]? = some (.cells #[.slice (A.map (fun x => x.add n)) (l.length - n) (c - n), .int .i64 0] 66 (0, 0)) := blk_put hbk 0 _ rfl
        have hne2 : ∀ k, (Value.slice (A.map (fun x => x.add n)) (l.length - n) (c - n)).ownBlock = some k → ¬ Only b k := fun k hk e => hS0.ne hbk (by decide) k hk e
        clear hD
        go_enter Tryd.func45, Tryd.ntmps45
        go_wp2_with fail
        go_ret
        rw [hr.out]
        exact ⟨⟨A, n, by rw [htl.out]; rfl, hA.set hne⟩, ⟨_, hb2, hS0.upd (hU _) hne2⟩, hU _⟩
  · have hr : Hid ((⟨l, e⟩ : Rd).next n = ([], ⟨l, e⟩)) := by show _ = _; simp [Rd.next, he]
    have hen : (e != 0) = true := by simp [he]
    go_enter Tryd.func45, Tryd.ntmps45
    go_wp2
    go_ret
    rw [hr.out]
    exact ⟨⟨_, _, rfl, .inl rfl⟩, ⟨_, h⟩, Upd.refl _ _⟩
/-! ### Number -/
theorem number_fail {r : Rd} {n : Int} (h : szd n = false) : r.number n = (0, r.fail 1) := by simp [Rd.number, h]
theorem next_len (r : Rd) (n : Nat) : (r.next n).1.length ≤ n := by
  unfold Rd.next
  split
  · simp
  · split
    · simp
    · simp; omega
theorem num_take {l : List UInt8} {k : Nat} (h : k < l.length) : num (l.take (k + 1)) = num (l.take k) + 256 ^ k * l[k].toNat := by
  rw [List.take_succ_eq_append_getElem h, num_append, List.length_take_of_le (by omega)]
  simp [num]
set_option maxHeartbeats 4000000 in
set_option maxRecDepth 100000 in
theorem number (B b : Nat) (v : Value) (r : Rd) (n : Int) (w : World) (h : Rdr B w b v r) : Calls Tryd.prog 28 #[.pointer (some ⟨b, 0, none⟩), .int .i64 n] w (RdR B b (.int .i64 ((r.number n).1 : Nat)) (r.number n).2 w) := by
  have hz := fun w => sized n w
  cases hs : szd n with
  | false =>
    rw [number_fail hs]
    rw [hs] at hz
    have hfl := fail B b v r 1 (by omega) w h
    clear hs
    go_enter Tryd.func28, Tryd.ntmps28
    go_wp2_with (first
      | (go_at_call 43; refine (hz _).mono ?_; rintro e w' ⟨rfl, rfl⟩)
      | (go_at_call 44; refine hfl.mono ?_; rintro e w1 ⟨rfl, h1, hU⟩))
    go_ret
    exact ⟨rfl, ⟨_, h1⟩, hU⟩
  | true =>
    rw [hs] at hz
    have hr : Hid (r.number n = (num (r.next n.toNat).1, (r.next n.toNat).2)) := by show _ = _; simp [Rd.number, hs]
    have hn : 0 ≤ n ∧ n ≤ 4 := by rcases szd_cases hs with rfl | rfl | rfl <;> omega
    obtain ⟨hn0, hn4⟩ := hn
    obtain ⟨m, rfl⟩ := Int.eq_ofNat_of_zero_le hn0
    have hnx := next B b v r m w h
    have hln := next_len r m
    rw [Int.toNat_natCast] at hr
    generalize r.next m = q at *
    obtain ⟨l, r2⟩ := q
    simp only at hr hnx hln
    clear hs hn0
    go_enter Tryd.func28, Tryd.ntmps28
    go_wp2_with (first
      | (go_at_call 43; refine (hz _).mono ?_; rintro e w' ⟨rfl, rfl⟩)
      | (go_at_call 45; refine hnx.mono ?_; rintro e w1 ⟨⟨A1, c1, rfl, hA1⟩, h1, hU⟩))
    have hll : l.length ≤ 4 := by omega
    clear hnx hz hln hn4
    go_loopw [5, 23] (fun s5 s23 wr => ∃ (k : Nat), k ≤ l.length ∧ s23 = .int .i64 k ∧ s5 = .int .i64 (num (l.take k) : Nat) ∧ wr = w1) (fun _ s23 _ => l.length - (intOf s23).toNat)
    case atStart => exact ⟨0, Nat.zero_le _, rfl, rfl, rfl⟩
    case round =>
      obtain ⟨k, hk, rfl, rfl, rfl⟩ := hrel
      by_cases hlt : k < l.length
      · obtain ⟨g, o, rfl, hg, qx⟩ := hA1.resolve_left (fun e => by rw [e] at hlt; simp at hlt)
        have x0 := qx k hlt 0 (by omega)
        have ht := Lib.hid (num_take hlt)
        have hlt2 := num_lt (l.take k)
        rw [List.length_take_of_le (by omega)] at hlt2
        have hy := l[k].toNat_lt
        clear qx
        simp only [bc, List.getElem?_cons_zero, Nat.add_zero, Nat.mul_one] at x0
        generalize l[k].toNat = y at *
        generalize num (l.take k) = x at *
        have hk4 : k < 4 := by omega
        have hor := Lib.hid (or_num x y k hlt2 hy hk4)
        clear hlt2
        go_wp2_with fail
        go_roundw
        case measure => simp [intOf]; omega
        case rel => exact ⟨k + 1, by omega, by simp, by rw [hor.out, ht.out], trivial⟩
      · obtain rfl : k = l.length := by omega
        go_wp2_with fail
        go_ret
        rw [hr.out, List.take_length]
        exact ⟨rfl, h1, hU⟩
/-! ### Flag -/
end Go.Proofs.YtjkojhebgkgdaaaDoor.Word
