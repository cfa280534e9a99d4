/-
  The walks of word.sized, word.Fits, slices.Clone, slices.Clip, word.Put, word.Text and of the reference's. Conditions: each lemma's own.
-/
import Derived.Test.YtjkojhebgkgdaaaDoorProg
import Derived.Test.YtjkojhebgkgdaaaDoorConv
import Derived.Test.YtjkojhebgkgdaaaDoorWordP
import Derived.KernelRfl
import Derived.Lib.Hide
import Derived.Deep.RegionLaw
import Derived.IntWalk
namespace Go.Proofs.YtjkojhebgkgdaaaDoor.Word
open Go.RowKit Go.Proofs.YtjkojhebgkgdaaaDoor.Base
set_option linter.unusedVariables false
theorem elemU8 : Elem Tryd.prog 22 5 (.int .u8 0) 1 1 bc := ⟨Tryd.underlying22, by kernel_rfl, rfl, by omega, bc_len, bc_one⟩
/-- slices.Clone: the same elements in a slice of one's own. -/
def ClonedU8 (l : List (UInt8)) (w : World) (e : Ending) (w' : World) : Prop := ∃ v, e = .returned v ∧ Sl w' w.heap.size 5 1 bc v l ∧ Upd Nil w w'
set_option maxRecDepth 100000 in
theorem cloneU8 (A : Option Addr) (c : Nat) (l : List (UInt8)) (w : World) (hA : Arg w A 1 bc l) (hb : l.length * 1 ≤ 140737488355328) :
    Calls Tryd.prog 42 #[.slice A l.length c] w (ClonedU8 l w) := by
  have hq : ∀ (w : World) (a : Option Addr) (n c n' c' : Nat), (binOp .eql 22 (.slice a n c) (.slice none n' c')).run Tryd.prog w = .ok (.bool a.isNone) w := fun w a n c n' c' => Lib.run_eql_slice_nil w _ _ a n c n' c' Tryd.underlying22
  cases A with
  | none =>
    obtain rfl : l = [] := hA.resolve_right (fun ⟨b, off, h, _⟩ => by cases h)
    go_enter Tryd.func42, Tryd.ntmps42
    go_wp2
    go_ret
    exact ⟨_, rfl, Sl.nil _ _ _ _ _, Upd.refl _ _⟩
  | some A =>
    have hz : Sl (w.alloc (.cells #[] 5)) w.heap.size 5 1 bc (.slice (some ⟨w.heap.size, 0, none⟩) 0 0) [] := Sl.zero _ _ _ _ _ _ (Nat.le_refl _)
    have hA2 := Src.ofArg (P := Tryd.prog) (tx := 22) ⟨_, elemU8.ht⟩ elemU8.len elemU8.one (hA.upd ((Upd.refl _ _).alloc (.cells #[] 5))) c
    have hm : l.length ≤ maxLen := by unfold maxLen; omega
    go_enter Tryd.func42, Tryd.ntmps42
    go_wp2_with (at_builtin; (refine wp_app w.heap.size rfl (.tmp 5) (.tmp 6) elemU8 rfl (.slice (some ⟨w.heap.size, 0, none⟩) 0 0) [] l _ rfl rfl hA2 hz (by simp) (by simp; omega) (by simp; omega) ?_); intro A1 c1 w1 hv1 hg1 hat)
    go_ret
    exact ⟨_, rfl, by simpa using hv1, ((Upd.refl Nil w).alloc _).grown hg1 (fun k hk => .inr (by simp [Value.ownBlock] at hk; omega))⟩
theorem clip (B : Nat) (v : Value) (l : List UInt8) (w : World) (h : Sl w B 5 1 bc v l) : Calls Tryd.prog 47 #[v] w fun e w' => (∃ A, e = .returned (.slice A l.length l.length) ∧ Sl w B 5 1 bc (.slice A l.length l.length) l) ∧ w = w' := by
  obtain ⟨A, c, rfl, hc⟩ := h.form
  have hm := h.capMax
  have hadd : A.map (fun x => x.add 0) = A := by cases A <;> rfl
  have hcl := h.clip (Nat.le_refl _) hc
  go_enter Tryd.func47, Tryd.ntmps47
  go_wp2
  go_ret
  exact ⟨⟨A, rfl, hcl⟩, rfl⟩
theorem ret_b {a b : Bool} (h : a = b) : Ending.returned (.bool a) = .returned (.bool b) := by rw [h]
theorem ret_i {k : IntKind} {a b : Int} (h : a = b) : Ending.returned (.int k a) = .returned (.int k b) := by rw [h]
theorem sized (n : Int) (w : World) : Calls Tryd.prog 43 #[.int .i64 n] w fun e w' => e = .returned (.bool (szd n)) ∧ w = w' := by
  by_cases h1 : n = 1
  · subst h1
    go_enter Tryd.func43, Tryd.ntmps43
    go_wp2
    go_ret
    exact ⟨rfl, rfl⟩
  · by_cases h2 : n = 2
    · subst h2
      go_enter Tryd.func43, Tryd.ntmps43
      go_wp2
      go_ret
      exact ⟨rfl, rfl⟩
    · by_cases h4 : n = 4
      · subst h4
        go_enter Tryd.func43, Tryd.ntmps43
        go_wp2
        go_ret
        exact ⟨rfl, rfl⟩
      · have e1 : (n == 1) = false := beq_eq_false_iff_ne.mpr h1
        have e2 : (n == 2) = false := beq_eq_false_iff_ne.mpr h2
        have e4 : (n == 4) = false := beq_eq_false_iff_ne.mpr h4
        have hno := Lib.hid (szd_no h1 h2 h4)
        go_enter Tryd.func43, Tryd.ntmps43
        go_wp2
        go_ret
        exact ⟨ret_b hno.out.symm, rfl⟩
theorem fits_w (v n : Int) (w : World) : Calls Tryd.prog 48 #[.int .i64 v, .int .i64 n] w fun e w' => e = .returned (.bool (fitsB v n)) ∧ w = w' := by
  have hall : ∀ b, fitsB v n = b → Calls Tryd.prog 48 #[.int .i64 v, .int .i64 n] w fun e w' => e = .returned (.bool b) ∧ w = w' := by
    intro b hb
    cases hs : szd n with
    | false =>
      have hz := fun w => sized n w
      rw [hs] at hz
      rw [fits_no hs] at hb
      subst hb
      clear hs
      go_enter Tryd.func48, Tryd.ntmps48
      go_wp2_with (go_at_call 43; refine (hz _).mono ?_; rintro e w' ⟨rfl, rfl⟩)
      go_ret
      exact ⟨rfl, rfl⟩
    | true =>
      have hz := fun w => sized n w
      rw [hs] at hz
      rcases szd_cases hs with rfl | rfl | rfl
      · have hd : Hid ((v / 256 == 0) = b) := by
          show _ = _
          rw [← hb, fits_1, Bool.eq_iff_iff]
          simp
          omega
        clear hs hb
        go_enter Tryd.func48, Tryd.ntmps48
        go_wp2_with (go_at_call 43; refine (hz _).mono ?_; rintro e w' ⟨rfl, rfl⟩)
        go_ret
        exact ⟨ret_b hd.out, rfl⟩
      · have hd : Hid ((v / 65536 == 0) = b) := by
          show _ = _
          rw [← hb, fits_2, Bool.eq_iff_iff]
          simp
          omega
        clear hs hb
        go_enter Tryd.func48, Tryd.ntmps48
        go_wp2_with (go_at_call 43; refine (hz _).mono ?_; rintro e w' ⟨rfl, rfl⟩)
        go_ret
        exact ⟨ret_b hd.out, rfl⟩
      · have hd : Hid ((v / 4294967296 == 0) = b) := by
          show _ = _
          rw [← hb, fits_4, Bool.eq_iff_iff]
          simp
          omega
        clear hs hb
        go_enter Tryd.func48, Tryd.ntmps48
        go_wp2_with (go_at_call 43; refine (hz _).mono ?_; rintro e w' ⟨rfl, rfl⟩)
        go_ret
        exact ⟨ret_b hd.out, rfl⟩
  exact hall _ rfl


/-! ### Put -/
theorem byteAt_of (v k : Nat) : ((byteAt v k).toNat : Int) = ((v / 256 ^ k : Nat) : Int) % 256 := by
  simp [byteAt]
def PutR (b : List UInt8) (v n : Int) (w : World) (e : Ending) (w' : World) : Prop := ∃ x, e = .returned x ∧ Sl w' w.heap.size 5 1 bc x (putL b v n) ∧ Upd Nil w w'
set_option maxHeartbeats 4000000 in
set_option maxRecDepth 100000 in
theorem put (A : Option Addr) (c : Nat) (b : List UInt8) (v n : Int) (w : World) (hA : Arg w A 1 bc b) (hb : b.length + 4 ≤ 140737488355328) :
    Calls Tryd.prog 33 #[.slice A b.length c, .int .i64 v, .int .i64 n] w (PutR b v n w) := by
  have hcl := fun (w : World) (hA : Arg w A 1 bc b) => cloneU8 A c b w hA (by omega)
  cases hf : fitsB v n with
  | false =>
    have hput : Hid (putL b v n = b) := by show _ = _; simp [putL, hf]
    have hfw := fun w => fits_w v n w
    rw [hf] at hfw
    clear hf
    go_enter Tryd.func33, Tryd.ntmps33
    go_wp2_with (first
      | (go_at_call 42; refine (hcl _ hA).mono ?_; rintro e w1 ⟨x, rfl, hx, hU⟩)
      | (go_at_call 47; refine (clip _ x _ _ hx).mono ?_; rintro e w2 ⟨⟨A2, rfl, hx2⟩, rfl⟩)
      | (go_at_call 48; refine (hfw _).mono ?_; rintro e w2 ⟨rfl, rfl⟩))
    go_ret
    exact ⟨_, rfl, by rw [hput.out]; exact hx2, hU⟩
  | true =>
    have hfw := fun w => fits_w v n w
    rw [hf] at hfw
    have hput : Hid (putL b v n = b ++ le v.toNat n.toNat) := by show _ = _; simp [putL, hf]
    obtain ⟨hv0, hv1⟩ := fits_lo hf
    have hn : 0 ≤ n ∧ n ≤ 4 := by rcases szd_cases (fits_sz hf) with rfl | rfl | rfl <;> omega
    obtain ⟨hn0, hn4⟩ := hn
    obtain ⟨vn, rfl⟩ := Int.eq_ofNat_of_zero_le hv0
    obtain ⟨nn, rfl⟩ := Int.eq_ofNat_of_zero_le hn0
    simp only [Int.toNat_natCast] at hput
    clear hf
    go_enter Tryd.func33, Tryd.ntmps33
    go_wp2_with (first
      | (go_at_call 42; refine (hcl _ hA).mono ?_; rintro e w1 ⟨x, rfl, hx, hU⟩)
      | (go_at_call 47; refine (clip _ x _ _ hx).mono ?_; rintro e w2 ⟨⟨A2, rfl, hx2⟩, rfl⟩)
      | (go_at_call 48; refine (hfw _).mono ?_; rintro e w2 ⟨rfl, rfl⟩))
    go_loopw [1, 7, 17] (fun s1 s7 s17 wr => ∃ (k : Nat), k ≤ nn ∧ s17 = .int .i64 k ∧ s1 = .int .i64 ((vn / 256 ^ k : Nat) : Int) ∧ Sl wr w.heap.size 5 1 bc s7 (b ++ le vn k) ∧ Upd Nil w wr) (fun _ _ s17 _ => nn - (intOf s17).toNat)
    case atStart => exact ⟨0, Nat.zero_le _, rfl, by simp, by simpa [le] using hx2, hU⟩
    case round =>
      obtain ⟨k, hk, rfl, rfl, hS, hU⟩ := hrel
      by_cases hlt : k < nn
      · have hl := le_succ vn k
        have hlH := Lib.hid hl
        have hby := Lib.hid (byteAt_of vn k)
        have hdv : Hid (((vn / 256 ^ (k + 1) : Nat) : Int) = ((vn / 256 ^ k : Nat) : Int) / 256) := by
          show _ = _
          rw [show (256 : Nat) ^ (k + 1) = 256 ^ k * 256 from rfl, ← Nat.div_div_eq_div_mul]
          simp
        have hlen : (b ++ le vn k).length = b.length + k := by rw [List.length_append, le_len]
        have hlenH := Lib.hid hlen
        clear hl hlen
        generalize vn / 256 ^ k = q at *
        clear hv1 hv0
        generalize hL : b ++ le vn k = L at *
        have hLH := Lib.hid hL
        clear hL
        obtain ⟨A7, c7, rfl, hc7⟩ := hS.form
        have hB := hU.size
        have hl1 : L.length + 1 ≤ 140737488355328 := by have := hlenH.out; omega
        go_wp2_with (at_builtin; (refine wp_app1 w.heap.size rfl (.tmp 19) (.tmp 22) elemU8 rfl wr (byteAt vn k) (by show _ = World.alloc _ (.cells #[.int .u8 _] _); rw [hby.out]) _ L rfl (by simp [Act.eval]) hS hB (by omega) (by unfold maxLen; omega) ?_); intro A8 c8 w8 hv8 hg8 hat8)
        go_roundw
        case measure => simp [intOf]; omega
        case rel => exact ⟨k + 1, by omega, by simp, by rw [hdv.out], by rw [hlH.out, ← List.append_assoc, hLH.out]; exact hv8, hU.grownOwn hS (Nat.le_refl _) hg8⟩
      · obtain rfl : k = nn := by omega
        go_wp2_with fail
        go_ret
        exact ⟨_, rfl, by rw [hput.out]; exact hS, hU⟩
end Go.Proofs.YtjkojhebgkgdaaaDoor.Word
