/-
  Contracts of package power: the operations of a Power, whatever its block holds. Conditions: each contract's own (the block is known whole).
-/
import Derived.Test.YtobhpfbldmobfaaProg
import Derived.Test.YtobhpfbldmobfaaBase
import Derived.KernelRfl
namespace Go.Proofs.Ytobhpfbldmobfaa.PowerW
open Go.RowKit Go.Proofs.Ytobhpfbldmobfaa.Base

set_option linter.unusedVariables false
/-- A flag as the model has it. -/
def b01 (x : Bool) : Int := if x then 1 else 0
theorem b01_true : b01 true = 1 := rfl
theorem b01_false : b01 false = 0 := rfl
/-! ### sync/atomic -/
set_option maxRecDepth 100000 in
theorem istore (a : Addr) (v u : Int) (w : World) (h : w.cell? a = some (.int .i64 v)) (z : w.frozen? a = false) :
    Calls Try.prog 68 #[.pointer (some a), .int .i64 u] w fun e w' => e = .returned (.tuple #[]) ∧ w.setCell a (.int .i64 u) = w' := by
  have hs := run_call_store (P := Try.prog) (k := .i64) (y := u) Try.func90 (by kernel_rfl) (by kernel_rfl) (by kernel_rfl) (by kernel_rfl) h z
  go_enter Try.func68, Try.ntmps68
  go_wp2
  go_end0
  exact ⟨rfl, rfl⟩
set_option maxRecDepth 100000 in
theorem iload (a : Addr) (v : Int) (w : World) (h : w.cell? a = some (.int .i64 v)) :
    Calls Try.prog 70 #[.pointer (some a)] w fun e w' => e = .returned (.int .i64 v) ∧ w = w' := by
  have hs := run_call_load (P := Try.prog) Try.func92 (by kernel_rfl) (by kernel_rfl) (by kernel_rfl) .i64 (by kernel_rfl) h
  go_enter Try.func70, Try.ntmps70
  go_wp2
  go_ret
  exact ⟨rfl, rfl⟩
set_option maxRecDepth 100000 in
theorem iadd (a : Addr) (v u : Int) (w : World) (h : w.cell? a = some (.int .i64 v)) (z : w.frozen? a = false) :
    Calls Try.prog 69 #[.pointer (some a), .int .i64 u] w fun e w' => e = .returned (.int .i64 (wrap64 (v + u))) ∧ w.setCell a (.int .i64 (wrap64 (v + u))) = w' := by
  have hs := run_call_add (P := Try.prog) (y := u) (s := wrap64 (v + u)) Try.func91 (by kernel_rfl) (by kernel_rfl) (by kernel_rfl) .i64 (by kernel_rfl) h z (by simp [go_sem, wrap64, IntKind.wrap_i64])
  go_enter Try.func69, Try.ntmps69
  go_wp2
  go_ret
  exact ⟨rfl, rfl⟩
set_option maxRecDepth 100000 in
theorem bload (a : Addr) (x : Bool) (w : World) (h : w.cell? a = some (.int .u32 (b01 x))) :
    Calls Try.prog 72 #[.pointer (some a)] w fun e w' => e = .returned (.bool x) ∧ w = w' := by
  cases x with
  | true =>
    rw [b01_true] at h
    have hs := run_call_load (P := Try.prog) Try.func95 (by kernel_rfl) (by kernel_rfl) (by kernel_rfl) .u32 (by kernel_rfl) h
    go_enter Try.func72, Try.ntmps72
    go_wp2
    go_ret
    exact ⟨rfl, rfl⟩
  | false =>
    rw [b01_false] at h
    have hs := run_call_load (P := Try.prog) Try.func95 (by kernel_rfl) (by kernel_rfl) (by kernel_rfl) .u32 (by kernel_rfl) h
    go_enter Try.func72, Try.ntmps72
    go_wp2
    go_ret
    exact ⟨rfl, rfl⟩

set_option maxRecDepth 100000 in
theorem bstore (a : Addr) (x : Value) (v : Bool) (w : World) (h : w.cell? a = some x) (z : w.frozen? a = false) :
    Calls Try.prog 71 #[.pointer (some a), .bool v] w fun e w' => e = .returned (.tuple #[]) ∧ w'.Alike (w.setCell a (.int .u32 (b01 v))) := by
  cases v with
  | true =>
    have hs := fun (W : World) (h : W.cell? a = some x) (z : W.frozen? a = false) => run_call_store (P := Try.prog) (k := .u32) (y := 1) Try.func93 (by kernel_rfl) (by kernel_rfl) (by kernel_rfl) (by kernel_rfl) h z
    go_enter Try.func71, Try.ntmps71
    go_wp2
    go_region_calls
    go_end0
    exact ⟨rfl, rfl, rfl, rfl⟩
  | false =>
    have hs := fun (W : World) (h : W.cell? a = some x) (z : W.frozen? a = false) => run_call_store (P := Try.prog) (k := .u32) (y := 0) Try.func93 (by kernel_rfl) (by kernel_rfl) (by kernel_rfl) (by kernel_rfl) h z
    go_enter Try.func71, Try.ntmps71
    go_wp2
    go_region_calls
    go_end0
    exact ⟨rfl, rfl, rfl, rfl⟩

/-! ### power -/
/-- A Power's block: what is left, whether it is gone, how many operations there were. -/
def Pw (w : World) (b : Nat) (l : Int) (g : Bool) (n : Int) : Prop := w.heap[b]? = some (.cells #[.int .i64 l, .int .u32 (b01 g), .int .i64 n] 113 (0, 0))

def Same (b : Nat) (w : World) (v : Value) (l : Int) (g : Bool) (n : Int) (e : Ending) (w' : World) : Prop := e = .returned v ∧ Pw w' b l g n ∧ Upd (Only b) w w'

set_option maxRecDepth 100000 in
theorem gone (b : Nat) (l : Int) (g : Bool) (n : Int) (w : World) (h : Pw w b l g n) :
    Calls Try.prog 21 #[.pointer (some ⟨b, 0, none⟩)] w fun e w' => e = .returned (.bool g) ∧ w = w' := by
  have h1 := bload ⟨b, 1, none⟩ g w (blk_cell h 1)
  have hq : (binOp .eql 26 (.pointer (some ⟨b, 0, none⟩)) (.pointer none)).run Try.prog w = .ok (.bool false) w := rfl
  go_enter Try.func21, Try.ntmps21
  go_wp2_with (go_at_call 72; refine h1.mono ?_; rintro e w' ⟨rfl, rfl⟩)
  go_ret
  exact ⟨rfl, rfl⟩

set_option maxRecDepth 100000 in
theorem gone_nil (w : World) :
    Calls Try.prog 21 #[.pointer none] w fun e w' => e = .returned (.bool true) ∧ w = w' := by
  go_enter Try.func21, Try.ntmps21
  go_wp2
  go_ret
  exact ⟨rfl, rfl⟩

set_option maxRecDepth 100000 in
theorem ops (b : Nat) (l : Int) (g : Bool) (n : Int) (w : World) (h : Pw w b l g n) :
    Calls Try.prog 22 #[.pointer (some ⟨b, 0, none⟩)] w fun e w' => e = .returned (.int .i64 n) ∧ w = w' := by
  have h1 := iload ⟨b, 2, none⟩ n w (blk_cell h 2)
  go_enter Try.func22, Try.ntmps22
  go_wp2_with (go_at_call 70; refine h1.mono ?_; rintro e w' ⟨rfl, rfl⟩)
  go_ret
  exact ⟨rfl, rfl⟩

/-- What an operation makes of left, gone, count; and what it answers. -/
def spendS (l : Int) (g : Bool) (n : Int) : Int × Bool × Int × Int :=
  if g then (l, true, n, 12) else if l = 0 then (0, true, wrap64 (n + 1), 11) else if 0 < l then (wrap64 (l - 1), false, wrap64 (n + 1), 0) else (l, false, wrap64 (n + 1), 0)

set_option maxRecDepth 100000 in
theorem spend (b : Nat) (l : Int) (g : Bool) (n : Int) (w : World) (h : Pw w b l g n) :
    Calls Try.prog 20 #[.pointer (some ⟨b, 0, none⟩)] w (Same b w (.int .i64 (spendS l g n).2.2.2) (spendS l g n).1 (spendS l g n).2.1 (spendS l g n).2.2.1) := by
  cases g with
  | true =>
    go_enter Try.func20, Try.ntmps20
    go_wp2_with (go_at_call 21; refine (gone b l true n w h).mono ?_; rintro e w' ⟨rfl, rfl⟩)
    go_ret
    exact ⟨rfl, h, Upd.refl _ _⟩
  | false =>
    have hA : Pw (w.setCell ⟨b, 2, none⟩ (.int .i64 (wrap64 (n + 1)))) b l false (wrap64 (n + 1)) := blk_put h 2 _ rfl
    have c1 := iadd ⟨b, 2, none⟩ n 1 w (blk_cell h 2) (blk_frozen h 2)
    have c2 := iload ⟨b, 0, none⟩ l _ (blk_cell hA 0)
    have c3 := bstore ⟨b, 1, none⟩ _ true _ (blk_cell hA 1) (blk_frozen hA 1)
    have c4 := istore ⟨b, 0, none⟩ l (wrap64 (l - 1)) _ (blk_cell hA 0) (blk_frozen hA 0)
    by_cases h0 : l = 0
    · subst h0
      go_enter Try.func20, Try.ntmps20
      go_wp2_with (first | (go_at_call 21; refine (gone b 0 false n w h).mono ?_; rintro e w' ⟨rfl, rfl⟩) | (go_at_call 69; refine c1.mono ?_; rintro e w' ⟨rfl, rfl⟩) | (go_at_call 70; refine c2.mono ?_; rintro e w' ⟨rfl, rfl⟩) | (go_at_call 71; refine c3.mono ?_; rintro e w' ⟨rfl, hal⟩))
      go_ret
      exact ⟨rfl, blk_alike (blk_put hA 1 _ rfl) hal, (((Upd.refl (Only b) w).set1 _).set1 _).alike hal⟩
    · have e0 : (l == 0) = false := beq_eq_false_iff_ne.mpr h0
      by_cases h1 : 0 < l
      · have hsp : spendS l false n = (wrap64 (l - 1), false, wrap64 (n + 1), 0) := by simp [spendS, h0, h1]
        rw [hsp]
        clear hsp
        go_enter Try.func20, Try.ntmps20
        go_wp2_with (first | (go_at_call 21; refine (gone b l false n w h).mono ?_; rintro e w' ⟨rfl, rfl⟩) | (go_at_call 69; refine c1.mono ?_; rintro e w' ⟨rfl, rfl⟩) | (go_at_call 70; refine c2.mono ?_; rintro e w' ⟨rfl, rfl⟩) | (go_at_call 68; refine c4.mono ?_; rintro e w' ⟨rfl, rfl⟩))
        go_ret
        exact ⟨rfl, blk_put hA 0 _ rfl, (((Upd.refl (Only b) w).set1 _).set1 _)⟩
      · have hsp : spendS l false n = (l, false, wrap64 (n + 1), 0) := by simp [spendS, h0, h1]
        rw [hsp]
        clear hsp
        go_enter Try.func20, Try.ntmps20
        go_wp2_with (first | (go_at_call 21; refine (gone b l false n w h).mono ?_; rintro e w' ⟨rfl, rfl⟩) | (go_at_call 69; refine c1.mono ?_; rintro e w' ⟨rfl, rfl⟩) | (go_at_call 70; refine c2.mono ?_; rintro e w' ⟨rfl, rfl⟩))
        go_ret
        exact ⟨rfl, hA, ((Upd.refl (Only b) w).set1 _)⟩

/-- What is handed back: a pointer to a block that was not there, and nothing else has turned. -/
def Made (w : World) (l : Int) (e : Ending) (w' : World) : Prop := ∃ b, e = .returned (.pointer (some ⟨b, 0, none⟩)) ∧ w.heap.size ≤ b ∧ Pw w' b l false 0 ∧ Upd Nil w w'

set_option maxRecDepth 100000 in
theorem new (l : Int) (w : World) :
    Calls Try.prog 19 #[.int .i64 l] w (Made w l) := by
  have hN : Pw (w.alloc (.cells #[.int .i64 0, .int .u32 0, .int .i64 0] 113)) w.heap.size 0 false 0 := blk_new _ _
  have c1 := istore ⟨w.heap.size, 0, none⟩ 0 l _ (blk_cell hN 0) (blk_frozen hN 0)
  go_enter Try.func19, Try.ntmps19
  go_wp2_with (go_at_call 68; refine c1.mono ?_; rintro e w' ⟨rfl, rfl⟩)
  go_ret
  exact ⟨_, rfl, Nat.le_refl _, blk_new _ _, (Upd.refl _ _).alloc _⟩

set_option maxRecDepth 100000 in
theorem back (b : Nat) (l : Int) (g : Bool) (n k : Int) (w : World) (h : Pw w b l g n) :
    Calls Try.prog 31 #[.pointer (some ⟨b, 0, none⟩), .int .i64 k] w (Same b w (.tuple #[]) k false n) := by
  have hA : Pw (w.setCell ⟨b, 0, none⟩ (.int .i64 k)) b k g n := blk_put h 0 _ rfl
  have c1 := istore ⟨b, 0, none⟩ l k w (blk_cell h 0) (blk_frozen h 0)
  have c3 := bstore ⟨b, 1, none⟩ _ false _ (blk_cell hA 1) (blk_frozen hA 1)
  go_enter Try.func31, Try.ntmps31
  go_wp2_with (first | (go_at_call 68; refine c1.mono ?_; rintro e w' ⟨rfl, rfl⟩) | (go_at_call 71; refine c3.mono ?_; rintro e w' ⟨rfl, hal⟩))
  go_end0
  exact ⟨rfl, blk_alike (blk_put hA 1 _ rfl) hal, (((Upd.refl (Only b) w).set1 _).set1 _).alike hal⟩

set_option maxRecDepth 100000 in
theorem cut (b : Nat) (l : Int) (g : Bool) (n : Int) (w : World) (h : Pw w b l g n) :
    Calls Try.prog 32 #[.pointer (some ⟨b, 0, none⟩)] w (Same b w (.tuple #[]) l true n) := by
  have c3 := bstore ⟨b, 1, none⟩ _ true _ (blk_cell h 1) (blk_frozen h 1)
  go_enter Try.func32, Try.ntmps32
  go_wp2_with (go_at_call 71; refine c3.mono ?_; rintro e w' ⟨rfl, hal⟩)
  go_end0
  exact ⟨rfl, blk_alike (blk_put h 1 _ rfl) hal, ((Upd.refl (Only b) w).set1 _).alike hal⟩

set_option maxRecDepth 100000 in
theorem nils (k : Int) (w : World) : Calls Try.prog 31 #[.pointer none, .int .i64 k] w (fun e w' => e = .returned (.tuple #[]) ∧ w = w') ∧ Calls Try.prog 32 #[.pointer none] w (fun e w' => e = .returned (.tuple #[]) ∧ w = w') ∧
    Calls Try.prog 22 #[.pointer none] w (fun e w' => e = .returned (.int .i64 0) ∧ w = w') ∧ Calls Try.prog 20 #[.pointer none] w (fun e w' => e = .returned (.int .i64 12) ∧ w = w') := by
  refine ⟨?_, ?_, ?_, ?_⟩
  · go_enter Try.func31, Try.ntmps31
    go_wp2
    go_end0
    exact ⟨rfl, rfl⟩
  · go_enter Try.func32, Try.ntmps32
    go_wp2
    go_end0
    exact ⟨rfl, rfl⟩
  · go_enter Try.func22, Try.ntmps22
    go_wp2
    go_ret
    exact ⟨rfl, rfl⟩
  · go_enter Try.func20, Try.ntmps20
    go_wp2_with (go_at_call 21; refine (gone_nil _).mono ?_; rintro e w' ⟨rfl, rfl⟩)
    go_ret
    exact ⟨rfl, rfl⟩

theorem spendQ {l n l' n' r : Int} {g g' : Bool} (b : Nat) (w : World) (h : Pw w b l g n) (hs : spendS l g n = (l', g', n', r)) :
    Calls Try.prog 20 #[.pointer (some ⟨b, 0, none⟩)] w (Same b w (.int .i64 r) l' g' n') := by
  have := spend b l g n w h
  rw [hs] at this
  exact this

end Go.Proofs.Ytobhpfbldmobfaa.PowerW
