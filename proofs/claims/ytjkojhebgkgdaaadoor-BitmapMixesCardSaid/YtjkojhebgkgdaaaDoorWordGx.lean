/-
  The walks of the reference's Reader: the same states. Conditions: each lemma's own.
-/
import Derived.Test.YtjkojhebgkgdaaaDoorWordCx
namespace Go.Proofs.YtjkojhebgkgdaaaDoor.Word
open Go.RowKit Go.Proofs.YtjkojhebgkgdaaaDoor.Base
set_option linter.unusedVariables false
/-- What is held lies in blocks that F tells, if anything is held. -/
def Far (F : Nat → Prop) (v : Value) (l : List UInt8) : Prop := l = [] ∨ ∀ k, v.ownBlock = some k → F k
theorem Far.same {F : Nat → Prop} {A : Option Addr} {n c n' c' : Nat} {l l' : List UInt8} (h : Far F (.slice A n c) l) (hl : l = [] → l' = []) : Far F (.slice A n' c') l' :=
  h.imp hl (fun h k hk => h k (by cases A <;> exact hk))
theorem Far.add {F : Nat → Prop} {A : Option Addr} {n c n' c' m : Nat} {l : List UInt8} (h : Far F (.slice A n c) l) : Far F (.slice (A.map (fun x => x.add m)) n' c') (l.drop m) := by
  refine h.imp (fun e => by subst e; exact List.drop_nil) (fun h k hk => ?_)
  cases A with
  | none => simp [Value.ownBlock] at hk
  | some a => exact h k (by simp [Value.ownBlock] at hk ⊢; rw [← hk]; unfold Addr.add; split <;> rfl)
/-- A reader of the reference's: its block, and what its bytes are. -/
def QRd (F : Nat → Prop) (w : World) (b : Nat) (r : Rd) : Prop := ∃ A c, w.heap[b]? = some (.cells #[.slice A r.l.length c, .int .i64 r.e] 57 (0, 0)) ∧ Arg w A 1 bc r.l ∧ r.l.length ≤ c ∧ c ≤ 9223372036854775807 ∧ Far F (.slice A r.l.length c) r.l
theorem QRd.upd {F : Nat → Prop} {w w' : World} {b : Nat} {r : Rd} (h : QRd F w b r) {S : Nat → Prop} (u : Upd S w w') (hb : ¬ S b) (hF : ∀ k, F k → ¬ S k) : QRd F w' b r := by
  obtain ⟨A, c, h1, h2, h3, h4, h5⟩ := h
  refine ⟨A, c, u.blk h1 hb, ?_, h3, h4, h5⟩
  rcases h2 with h2 | ⟨g, off, rfl, g2, g3⟩
  · exact .inl h2
  · rcases h5 with h5 | h5
    · exact .inl h5
    · exact .inr ⟨g, off, rfl, Nat.lt_of_lt_of_le g2 u.size, fun i hi j hj => (u.cell (p := ⟨g, off + i * 1 + j, none⟩) g2 (hF g (h5 g rfl))).trans (g3 i hi j hj)⟩
theorem argSetF {F : Nat → Prop} {w : World} {A : Option Addr} {l : List UInt8} {b i n c : Nat} {u : Value} (hFb : ¬ F b) (h : Arg w A 1 bc l) (hne : Far F (.slice A n c) l) : Arg (w.setCell ⟨b, i, none⟩ u) A 1 bc l := by
  rcases hne with e | hne
  · exact .inl e
  · exact h.set (n := n) (c := c) (fun k hk e => hFb (by have := hne k hk; rwa [show k = b from e] at this))
def QR (F : Nat → Prop) (b : Nat) (x : Value) (r : Rd) (w : World) (e : Ending) (w' : World) : Prop := e = .returned x ∧ QRd F w' b r ∧ Upd (Only b) w w'
theorem num_drop {l : List UInt8} {k : Nat} (h : k < l.length) : num (l.drop k) = l[k].toNat + 256 * num (l.drop (k + 1)) := by
  rw [List.drop_eq_getElem_cons h]
  rfl
theorem num_cut (l : List UInt8) (n k : Nat) (h : k < n) (hn : n ≤ l.length) : num ((l.take n).drop k) = l[k].toNat + 256 * num ((l.take n).drop (k + 1)) := by
  rw [num_drop (by rw [List.length_take]; omega), List.getElem_take]
theorem num_cut_lt (l : List UInt8) (n k : Nat) (hn : n ≤ 4) : num ((l.take n).drop k) < 4294967296 := by
  have h1 := num_lt ((l.take n).drop k)
  have h2 : ((l.take n).drop k).length ≤ 4 := by rw [List.length_drop, List.length_take]; omega
  have h3 : 256 ^ ((l.take n).drop k).length ≤ 256 ^ 4 := Nat.pow_le_pow_right (by omega) h2
  omega
set_option maxHeartbeats 4000000 in
set_option maxRecDepth 100000 in
theorem qnumber (F : Nat → Prop) (b : Nat) (hFb : ¬ F b) (r : Rd) (n : Int) (w : World) (h : QRd F w b r) : Calls Tryd.prog 30 #[.pointer (some ⟨b, 0, none⟩), .int .i64 n] w (QR F b (.int .i64 ((r.number n).1 : Nat)) (r.number n).2 w) := by
  have h0 := h
  obtain ⟨A, c, hbk, hA, hc, hcm, hne⟩ := h
  obtain ⟨l, e⟩ := r
  have hbk2 : w.heap[b]? = some (.cells #[.slice A l.length c, .int .i64 e] 57 (0, 0)) := hbk
  have hc' : l.length ≤ c := hc
  have hA' : Arg w A 1 bc l := hA
  clear hc hA
  have hbk2c0 : (w).cell? ⟨b, 0, none⟩ = some (.slice A l.length c) := Base.blk_cell hbk2 0
  have hbk2z0 : (w).frozen? ⟨b, 0, none⟩ = false := Base.blk_frozen hbk2 0
  have hbk2c1 : (w).cell? ⟨b, 1, none⟩ = some (.int .i64 e) := Base.blk_cell hbk2 1
  have hbk2z1 : (w).frozen? ⟨b, 1, none⟩ = false := Base.blk_frozen hbk2 1
  by_cases he : e = 0
  · subst he
    cases hs : szd n with
    | false =>
      have hr : Hid ((⟨l, 0⟩ : Rd).number n = (0, ⟨l, 1⟩)) := by show _ = _; simp [Rd.number, hs, Rd.fail]
      have e1 : (n != 1) = true := by rw [bne_iff_ne]; rintro rfl; cases hs
      have e2 : (n != 2) = true := by rw [bne_iff_ne]; rintro rfl; cases hs
      have e4 : (n != 4) = true := by rw [bne_iff_ne]; rintro rfl; cases hs
      have hb2 : (w.setCell ⟨b, 1, none⟩ (.int .i64 1)).heap[b]? = some (.cells #[.slice A l.length c, .int .i64 1] 57 (0, 0)) := blk_put hbk 1 _ rfl
      clear hs
      go_enter Tryd.func30, Tryd.ntmps30
      go_wp2
      go_ret
      rw [hr.out]
      exact ⟨rfl, ⟨A, c, hb2, argSetF (n := l.length) (c := c) hFb hA' hne, hc', hcm, hne⟩, (Upd.refl (Only b) w).set1 _⟩
    | true =>
      have hn4 : 0 ≤ n ∧ n ≤ 4 := by rcases szd_cases hs with rfl | rfl | rfl <;> omega
      have h3 : (n != 1) = false ∨ ((n != 1) = true ∧ (n != 2) = false) ∨ ((n != 1) = true ∧ (n != 2) = true ∧ (n != 4) = false) := by rcases szd_cases hs with rfl | rfl | rfl <;> simp
      obtain ⟨hn0, hn4⟩ := hn4
      obtain ⟨m, rfl⟩ := Int.eq_ofNat_of_zero_le hn0
      by_cases hlen : l.length < m
      · have hr : Hid ((⟨l, 0⟩ : Rd).number m = (0, ⟨l, 2⟩)) := by show _ = _; simp [Rd.number, hs, Rd.next, hlen, num]
        have hb2 : (w.setCell ⟨b, 1, none⟩ (.int .i64 2)).heap[b]? = some (.cells #[.slice A l.length c, .int .i64 2] 57 (0, 0)) := blk_put hbk 1 _ rfl
        rcases h3 with e1 | ⟨e1, e2⟩ | ⟨e1, e2, e4⟩
        all_goals
          clear hs
          go_enter Tryd.func30, Tryd.ntmps30
          go_wp2
          go_ret
          rw [hr.out]
          exact ⟨rfl, ⟨A, c, hb2, argSetF (n := l.length) (c := c) hFb hA' hne, hc', hcm, hne⟩, (Upd.refl (Only b) w).set1 _⟩
      · have hr : Hid ((⟨l, 0⟩ : Rd).number m = (num (l.take m), ⟨l.drop m, 0⟩)) := by show _ = _; simp [Rd.number, hs, Rd.next, hlen]
        have hml : m ≤ l.length := by omega
        have hm1 : 1 ≤ m := by rcases szd_cases hs with e | e | e <;> omega
        have hmc : m ≤ c := by omega
        have hD := Lib.hid (arg_drop hA' m c hc' hml)
        have hU : ∀ u, Upd (Only b) w (w.setCell ⟨b, 0, none⟩ u) := fun u => (Upd.refl (Only b) w).set1 u
        rcases h3 with e1 | ⟨e1, e2⟩ | ⟨e1, e2, e4⟩
        all_goals
          clear hs
          go_enter Tryd.func30, Tryd.ntmps30
          go_wp2_with fail
          have hm4 : m ≤ 4 := by omega
          clear hn0 hn4 hbk2
          go_loopw [5, 6] (fun s5 s6 wr => ∃ k : Nat, k ≤ m ∧ s6 = .int .i64 ((k : Int) - 1) ∧ s5 = .int .i64 (num ((l.take m).drop k) : Nat) ∧ wr = w) (fun _ s6 _ => (intOf s6 + 1).toNat)
          case atStart => exact ⟨m, Nat.le_refl _, rfl, by rw [List.drop_eq_nil_of_le (by rw [List.length_take]; omega)]; rfl, rfl⟩
          case round =>
            obtain ⟨k, hk, h6, rfl, rfl⟩ := hrel
            cases k with
            | zero =>
              have h6' : _ = Value.int .i64 (-1) := h6
              subst h6'
              clear h6
              by_cases hcm2 : c = m
              · subst hcm2
                have hlc : l.length = c := by omega
                have hlH := Lib.hid hlc
                have hS0 : Hid (Arg wr A 1 bc (l.drop c)) := by have := hD.out; rw [if_pos rfl] at this; exact this
                have hd0 : (l.drop c).length = 0 := by simp; omega
                have hb2 : (wr.setCell ⟨b, 0, none⟩ (.slice A 0 0)).heap[b]? = some (.cells #[.slice A 0 0, .int .i64 0] 57 (0, 0)) := blk_put hbk 0 _ rfl
                have hdH := Lib.hid hd0
                clear hD hlc hd0
                go_wp2_with fail
                go_ret
                rw [hr.out]
                refine ⟨rfl, ⟨A, 0, ?_, argSetF (n := l.length) (c := c) hFb hS0.out (Far.same (n := l.length) (c := c) hne (fun e => by subst e; exact List.drop_nil)), ?_, by omega, ?_⟩, hU _⟩
                · rw [hdH.out]; exact hb2
                · rw [hdH.out]; exact Nat.le_refl _
                · exact Far.same (n := l.length) (c := c) hne (fun e => by subst e; exact List.drop_nil)
              · have hS0 : Hid (Arg wr (A.map (fun x => x.add m)) 1 bc (l.drop m)) := by have := hD.out; rw [if_neg hcm2, Nat.mul_one] at this; exact this
                have hb2 : (wr.setCell ⟨b, 0, none⟩ (.slice (A.map (fun x => x.add m)) (l.length - m) (c - m))).heap[b]? = some (.cells #[.slice (A.map (fun x => x.add m)) (l.length - m) (c - m), .int .i64 0] 57 (0, 0)) := blk_put hbk 0 _ rfl
                have hdl : Hid ((l.drop m).length = l.length - m) := List.length_drop
                have hne2 : Far F (.slice (A.map (fun x => x.add m)) (l.length - m) (c - m)) (l.drop m) := Far.add (n := l.length) (c := c) hne
                clear hD
                go_wp2_with fail
                go_ret
                rw [hr.out]
                refine ⟨rfl, ⟨_, c - m, ?_, argSetF (n := l.length - m) (c := c - m) hFb hS0.out hne2, ?_, by omega, ?_⟩, hU _⟩
                · rw [hdl.out]; exact hb2
                · rw [hdl.out]; omega
                · rw [hdl.out]; exact hne2
            | succ j =>
              have h6' : _ = Value.int .i64 (j : Int) := h6.trans (by congr 1; omega)
              subst h6'
              clear h6
              obtain ⟨g, o, rfl, hg, qx⟩ := hA'.resolve_left (fun e => by rw [e] at hml; simp at hml; omega)
              have x0 := qx j (by omega) 0 (by omega)
              have hcut := Lib.hid (num_cut l m j (by omega) hml)
              have hlt := num_cut_lt l m (j + 1) hm4
              have hy := (l[j]'(by omega)).toNat_lt
              clear qx
              simp only [bc, List.getElem?_cons_zero, Nat.add_zero, Nat.mul_one] at x0
              generalize (l[j]'(by omega)).toNat = y at *
              generalize num ((l.take m).drop (j + 1)) = x at *
              have hw : wrap64 (wrap64 ((x : Int) * 256) + y) = ((y + 256 * x : Nat) : Int) := by unfold wrap64; omega
              have hw2 : wrap64 ((x : Int) * 256 + y) = ((y + 256 * x : Nat) : Int) := by unfold wrap64; omega
              have hwH := Lib.hid hw
              have hwH2 := Lib.hid hw2
              clear hlt hw hw2
              go_wp2_with fail
              go_roundw
              case measure => simp [intOf]
              case rel => exact ⟨j, by omega, by simp, by rw [hcut.out]; first | rw [hwH.out] | rw [hwH2.out] | (congr 1; omega), trivial⟩
  · have hr : Hid ((⟨l, e⟩ : Rd).number n = (0, ⟨l, e⟩)) := by
      show _ = _
      unfold Rd.number
      cases szd n <;> simp [Rd.fail, Rd.next, he, num]
    have hen : (e != 0) = true := by simp [he]
    go_enter Tryd.func30, Tryd.ntmps30
    go_wp2
    go_ret
    rw [hr.out]
    exact ⟨rfl, h0, Upd.refl _ _⟩
set_option maxRecDepth 100000 in
theorem next_ne {r : Rd} {n : Nat} (h : (r.next n).2.e ≠ 0) : (r.next n).1 = [] := by
  unfold Rd.next at h ⊢
  by_cases he : r.e ≠ 0
  · rw [if_pos he]
  · rw [if_neg he] at h ⊢
    by_cases hl : r.l.length < n
    · rw [if_pos hl]
    · rw [if_neg hl] at h
      exact absurd rfl h
theorem number_ne {r : Rd} {n : Int} (h : (r.number n).2.e ≠ 0) : (r.number n).1 = 0 := by
  unfold Rd.number at h ⊢
  by_cases hs : szd n = true
  · rw [if_pos hs] at h ⊢
    show num _ = 0
    rw [next_ne h]
    rfl
  · rw [if_neg hs]
end Go.Proofs.YtjkojhebgkgdaaaDoor.Word
