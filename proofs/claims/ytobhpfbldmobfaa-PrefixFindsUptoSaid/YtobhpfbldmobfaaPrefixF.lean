/-
  The walks of prefix.After, prefix.each, prefix.Find and prefix.Longest. Conditions: each lemma's own.
-/
import Derived.Test.YtobhpfbldmobfaaPrefix
namespace Go.Proofs.Ytobhpfbldmobfaa.PrefixF
open Go.RowKit Go.Proofs.Ytobhpfbldmobfaa.Base Go.Proofs.Ytobhpfbldmobfaa.Prefix
set_option linter.unusedVariables false
theorem aft_take (ps : List ByteArray) (l : List Ch) (k : Nat) (h : k < l.length) : aft ps (l.take (k + 1)) = app (aft ps (l.take k)) l[k] := by
  unfold aft
  rw [List.take_succ_eq_append_getElem h, List.foldl_append]
  rfl
def AftR (ps : List ByteArray) (l : List Ch) (w : World) (e : Ending) (w' : World) : Prop := ∃ v, e = .returned v ∧ Sl w' w.heap.size 9 1 sc v (aft ps l) ∧ Upd Nil w w'
theorem own_new {B : Nat} {w w' W : World} {v : Value} {l : List ByteArray} {e : Nat} (h : Sl w W.heap.size e 1 sc v l) (u : Upd (Own v) w w') (k : Upd Nil W w) : Upd Nil W w' :=
  k.trans u (fun x hx => .inr (h.typed x hx).1)
set_option maxHeartbeats 4000000 in
set_option maxRecDepth 100000 in
theorem after (A D : Option Addr) (c d : Nat) (ps : List ByteArray) (l : List Ch) (w : World) (hA : Arg w A 1 sc ps) (hD : Arg w D 2 cc l) (hb : ps.length * 16 ≤ 140737488355328) (hl : l.length ≤ maxLen) :
    Calls Try.prog 45 #[.slice A ps.length c, .slice D l.length d] w (AftR ps l w) := by
  unfold maxLen at hl
  go_enter Try.func45, Try.ntmps45
  go_wp2_with fail
  refine (cloneStr A c ps w hA hb).mono ?_
  rintro e w1 ⟨v, rfl, hv, hU⟩
  go_wp2_with fail
  go_loopw [12] (fun i wr => ∃ k : Nat, k ≤ l.length ∧ i = .int .i64 k ∧ Sl wr w.heap.size 9 1 sc v (aft ps (l.take k)) ∧ Upd Nil w wr) (fun i _ => l.length - (intOf i).toNat)
  case atStart => exact ⟨0, Nat.zero_le _, rfl, hv, hU⟩
  case round =>
    obtain ⟨k, hk, rfl, hS, hUk⟩ := hrel
    clear hv hU
    by_cases hkl : k < l.length
    · have ht := Lib.hid (aft_take ps l k hkl)
      obtain ⟨g, o, rfl, hg, q⟩ := (hD.upd hUk).resolve_left (fun e => by rw [e] at hkl; simp at hkl)
      have x0 := q k hkl 0 (by omega)
      have x1 := q k hkl 1 (by omega)
      clear q
      generalize l[k] = y at *
      obtain ⟨x, s⟩ := y
      simp only [cc, List.getElem?_cons_zero, List.getElem?_cons_succ, Nat.add_zero] at x0 x1
      have hS2 : Sl (wr.alloc (.cells #[.int .i64 x, .string s] 62)) w.heap.size 9 1 sc v (aft ps (l.take k)) := hS.move (fun j hj => Below.heap_alloc _ _ _ (hS.lt j hj))
      have hU2 := hUk.alloc (.cells #[.int .i64 x, .string s] 62)
      go_wp2_with (go_at_call 84; refine (apply w.heap.size v _ x s _ hS2).mono ?_; rintro e w2 ⟨rfl, hS3, hU3⟩)
      go_roundw
      case measure => simp [intOf]; omega
      case rel => exact ⟨k + 1, by omega, by simp, by rw [ht.out]; exact hS3, own_new (B := 0) hS2 hU3 hU2⟩
    · obtain rfl : k = l.length := by omega
      go_wp2_with fail
      go_ret
      rw [List.take_length] at hS
      exact ⟨v, rfl, hS, hUk⟩

/-! ### each -/
/-- The numbers below k for which the places are now. -/
def ms (ps : List ByteArray) (l : List Ch) (now : List ByteArray) (k : Nat) : List Nat := (List.range k).filter fun j => decide (aft ps (l.take j) = now)
theorem ms_succ (ps : List ByteArray) (l : List Ch) (now : List ByteArray) (k : Nat) : ms ps l now (k + 1) = ms ps l now k ++ (if aft ps (l.take k) = now then [k] else []) := by
  unfold ms
  rw [List.range_succ, List.filter_append]
  by_cases h : aft ps (l.take k) = now <;> simp [h]
theorem ms_head {ps : List ByteArray} {l : List Ch} {now : List ByteArray} {k : Nat} (h0 : ms ps l now k = []) (h : aft ps (l.take k) = now) : ∀ n, k < n → (ms ps l now n).head? = some k := by
  intro n
  induction n with
  | zero => intro h; omega
  | succ n ih =>
    intro hn
    rw [ms_succ]
    by_cases e : k = n
    · subst e; rw [h0, if_pos h]; rfl
    · have := ih (by omega)
      rw [List.head?_append, this]; rfl
/-- The two cells that a closure writes to. -/
structure TwoCells (w : World) (p q : Nat) (r : Option Nat) : Prop where
  at_ : w.heap[p]? = some (.cells #[.int .i64 ((r.getD 0 : Nat) : Int)] 3 (0, 0))
  ok : w.heap[q]? = some (.cells #[.bool r.isSome] 4 (0, 0))
  ne : p ≠ q
theorem TwoCells.upd {w w' : World} {p q : Nat} {r : Option Nat} (h : TwoCells w p q r) {S : Nat → Prop} (u : Upd S w w') (hp : ¬ S p) (hq : ¬ S q) : TwoCells w' p q r := ⟨u.blk h.at_ hp, u.blk h.ok hq, h.ne⟩
def Two (p q : Nat) : Nat → Prop := fun x => x = p ∨ x = q
def TellR (b : Bool) (p q k : Nat) (w : World) (e : Ending) (w' : World) : Prop := e = .returned (.bool b) ∧ TwoCells w' p q (some k) ∧ Upd (Two p q) w w'
set_option maxRecDepth 100000 in
theorem tellF (p q k : Nat) (r : Option Nat) (w : World) (h : TwoCells w p q r) : Calls Try.prog 81 #[.int .i64 k, .pointer (some ⟨p, 0, none⟩), .pointer (some ⟨q, 0, none⟩)] w (TellR false p q k w) := by
  have hp := h.at_
  have hq := h.ok
  have hne := h.ne
  have hpc0 : (w).cell? ⟨p, 0, none⟩ = some (.int .i64 ((r.getD 0 : Nat) : Int)) := Base.blk_cell hp 0
  have hpz0 : (w).frozen? ⟨p, 0, none⟩ = false := Base.blk_frozen hp 0
  have hqc0 : (w).cell? ⟨q, 0, none⟩ = some (.bool r.isSome) := Base.blk_cell hq 0
  have hqz0 : (w).frozen? ⟨q, 0, none⟩ = false := Base.blk_frozen hq 0
  have hp2 : (w.setCell ⟨p, 0, none⟩ (.int .i64 k)).heap[p]? = some (.cells #[.int .i64 k] 3 (0, 0)) := blk_put hp 0 _ rfl
  have hq2 : (w.setCell ⟨p, 0, none⟩ (.int .i64 k)).heap[q]? = some (.cells #[.bool r.isSome] 4 (0, 0)) := blk_other hq (fun e => hne e.symm) _
  go_enter Try.func81, Try.ntmps81
  go_wp2
  go_ret
  exact ⟨rfl, ⟨blk_other hp2 (p := ⟨q, 0, none⟩) hne _, blk_put hq2 0 _ rfl, hne⟩, ((Upd.refl (Two p q) w).set (p := ⟨p, 0, none⟩) (.inl (.inl rfl)) _).set (p := ⟨q, 0, none⟩) (.inl (.inr rfl)) _⟩
set_option maxRecDepth 100000 in
theorem tellL (p q k : Nat) (r : Option Nat) (w : World) (h : TwoCells w p q r) : Calls Try.prog 82 #[.int .i64 k, .pointer (some ⟨p, 0, none⟩), .pointer (some ⟨q, 0, none⟩)] w (TellR true p q k w) := by
  have hp := h.at_
  have hq := h.ok
  have hne := h.ne
  have hpc0 : (w).cell? ⟨p, 0, none⟩ = some (.int .i64 ((r.getD 0 : Nat) : Int)) := Base.blk_cell hp 0
  have hpz0 : (w).frozen? ⟨p, 0, none⟩ = false := Base.blk_frozen hp 0
  have hqc0 : (w).cell? ⟨q, 0, none⟩ = some (.bool r.isSome) := Base.blk_cell hq 0
  have hqz0 : (w).frozen? ⟨q, 0, none⟩ = false := Base.blk_frozen hq 0
  have hp2 : (w.setCell ⟨p, 0, none⟩ (.int .i64 k)).heap[p]? = some (.cells #[.int .i64 k] 3 (0, 0)) := blk_put hp 0 _ rfl
  have hq2 : (w.setCell ⟨p, 0, none⟩ (.int .i64 k)).heap[q]? = some (.cells #[.bool r.isSome] 4 (0, 0)) := blk_other hq (fun e => hne e.symm) _
  go_enter Try.func82, Try.ntmps82
  go_wp2
  go_ret
  exact ⟨rfl, ⟨blk_other hp2 (p := ⟨q, 0, none⟩) hne _, blk_put hq2 0 _ rfl, hne⟩, ((Upd.refl (Two p q) w).set (p := ⟨p, 0, none⟩) (.inl (.inl rfl)) _).set (p := ⟨q, 0, none⟩) (.inl (.inr rfl)) _⟩
end Go.Proofs.Ytobhpfbldmobfaa.PrefixF
