/-
  sync.Once, of one goroutine, not yet done: the walks of its parts. Conditions: each lemma's own.
-/
import Derived.Test.YthppheklnplljaaProg
import Derived.Test.YthppheklnplljaaBase
import Derived.KernelRfl
import Derived.Lib.Hide
import Derived.Tactics
import Derived.Tactics2
import Derived.Defers
import Derived.Laws.Pointers
import Derived.Laws.LoneSync
import Derived.RegionTactic
import Derived.RegionCalls
import Derived.ChangeAlike
import Derived.Laws.NewBlocks
namespace Go.Proofs.Ythppheklnplljaa.Once
open Go.RowKit Go.Proofs.Ythppheklnplljaa.Base
set_option linter.unusedVariables false
theorem disable (w : World) : (callFunc 90 #[]).run Try.prog w = .ok (.value (.tuple #[])) w := run_call_mark0 Try.func90 (by kernel_rfl) (by kernel_rfl) (by kernel_rfl) .disable (by kernel_rfl) w
theorem enable (w : World) : (callFunc 92 #[]).run Try.prog w = .ok (.value (.tuple #[])) w := run_call_mark0 Try.func92 (by kernel_rfl) (by kernel_rfl) (by kernel_rfl) .enable (by kernel_rfl) w
theorem acquire (a : Addr) (w : World) : (callFunc 93 #[.pointer (some a)]).run Try.prog w = .ok (.value (.tuple #[])) w := run_call_marked Try.func93 (by kernel_rfl) (by kernel_rfl) (by kernel_rfl) .acquire (by kernel_rfl) a w
theorem releaseMerge (a : Addr) (w : World) : (callFunc 95 #[.pointer (some a)]).run Try.prog w = .ok (.value (.tuple #[])) w := run_call_marked Try.func95 (by kernel_rfl) (by kernel_rfl) (by kernel_rfl) .releaseMerge (by kernel_rfl) a w
theorem store_deferred (a : Addr) (x : Value) (u : FrameMode) (w : World) (hc : w.cell? a = some x) (hz : w.frozen? a = false) :
    CallsD Try.prog 85 #[.pointer (some a), .bool true] u w fun e u' w' => u' = u ∧ (e = .returned (.tuple #[]) ∧ w' = w.drew.setCell a (.int .u32 1)) := by
  have hc' : w.drew.cell? a = some x := by go_simp
  have hz' : w.drew.frozen? a = false := by go_simp
  have hst := run_call_store (P := Try.prog) Try.func88 (by kernel_rfl) (by kernel_rfl) (by kernel_rfl) (by kernel_rfl) (k := .u32) (y := 1) hc' hz'
  go_enter_d Try.func85, Try.ntmps85
  go_wp2
  go_region_calls
  all_goals (go_end0; exact ⟨rfl, rfl⟩)
set_option maxRecDepth 100000 in
set_option maxHeartbeats 1600000 in
theorem unlock_deferred (a : Addr) (u : FrameMode) (w : World) (hc : w.cell? a = some (.int .i32 1)) (hz : w.frozen? a = false) :
    CallsD Try.prog 84 #[.pointer (some a)] u w fun e u' w' => u' = u ∧ (e = .returned (.tuple #[]) ∧ w' = w.setCell a (.int .i32 0)) := by
  have hd := disable
  have he := enable
  have hr := releaseMerge
  have hadd := run_call_add (P := Try.prog) Try.func96 (by kernel_rfl) (by kernel_rfl) (by kernel_rfl) .i32 (by kernel_rfl) (y := -1) (s := 0) hc hz (by simp [go_sem]; rfl)
  have hcv := run_convert_to_unsafe (P := Try.prog) (src := 140) (dst := 144) Try.underlying140 Try.underlying144 (by kernel_rfl) hc
  go_enter_d Try.func84, Try.ntmps84
  go_wp2
  go_end0
  go_wp2
  go_end0
  exact ⟨rfl, rfl⟩
set_option maxRecDepth 100000 in
set_option maxHeartbeats 1600000 in
theorem lock_free (a : Addr) (w : World) (hc : w.cell? a = some (.int .i32 0)) (hz : w.frozen? a = false) :
    Calls Try.prog 83 #[.pointer (some a)] w fun e w' => e = .returned (.tuple #[]) ∧ w' = w.setCell a (.int .i32 1) := by
  have hd := disable
  have he := enable
  have ha := acquire
  have hcas := run_call_cas_hit (P := Try.prog) Try.func91 (by kernel_rfl) (by kernel_rfl) (by kernel_rfl) .i32 (by kernel_rfl) (y := 1) hc hz
  have hc' : (w.setCell a (.int .i32 1)).cell? a = some (.int .i32 1) := World.cell?_setCell_same w a _ hc
  have hcv := run_convert_to_unsafe (P := Try.prog) (src := 140) (dst := 144) Try.underlying140 Try.underlying144 (by kernel_rfl) hc'
  go_enter Try.func83, Try.ntmps83
  go_wp2
  first | go_end0 | (simp only [Exit.inBlock, Exit.then]; refine bodyPost_ret (results_none rfl _ _ _) rfl ?_) | refine bodyPost_ret (results_none rfl _ _ _) rfl ?_
  go_wp2
  go_end0
  exact ⟨rfl, rfl⟩
theorem bload (a : Addr) (x : Int) (b : Bool) (hx : (x != 0) = b) (w : World) (hc : w.cell? a = some (.int .u32 x)) : Calls Try.prog 80 #[.pointer (some a)] w fun e w' => e = .returned (.bool b) ∧ w = w' := by
  have hl := run_call_load (P := Try.prog) Try.func82 (by kernel_rfl) (by kernel_rfl) (by kernel_rfl) .u32 (by kernel_rfl) hc
  have hxH := Lib.hid hx
  clear hx
  go_enter Try.func80, Try.ntmps80
  go_wp2
  go_ret
  rw [← hxH.out]
  exact ⟨rfl, rfl⟩
/-- What is called once: it writes to block b alone, and leaves the first three cells. -/
def Kept (b : Nat) (R : World → Prop) (w : World) (e : Ending) (w' : World) : Prop :=
  e = .returned (.tuple #[]) ∧ R w' ∧ Upd (Only b) w w' ∧ w'.cell? ⟨b, 0, none⟩ = w.cell? ⟨b, 0, none⟩ ∧ w'.cell? ⟨b, 1, none⟩ = w.cell? ⟨b, 1, none⟩ ∧ w'.frozen? ⟨b, 0, none⟩ = w.frozen? ⟨b, 0, none⟩ ∧ w'.frozen? ⟨b, 1, none⟩ = w.frozen? ⟨b, 1, none⟩
/-- What is known stays known, whatever the first two cells hold. -/
def Stays (b : Nat) (R : World → Prop) : Prop := (∀ w u, R w → R (w.setCell ⟨b, 0, none⟩ u)) ∧ (∀ w u, R w → R (w.setCell ⟨b, 1, none⟩ u)) ∧ ∀ w, R w → R w.drew
set_option maxRecDepth 100000 in
set_option maxHeartbeats 1600000 in
theorem slow_any (b m : Nat) (R : World → Prop) (hR : Stays b R) (w : World) (h0 : w.cell? ⟨b, 0, none⟩ = some (.int .u32 0)) (h1 : w.cell? ⟨b, 1, none⟩ = some (.int .i32 0)) (f0 : w.frozen? ⟨b, 0, none⟩ = false) (f1 : w.frozen? ⟨b, 1, none⟩ = false)
    (hcf : ∀ w, (callFunc m #[.pointer (some ⟨b, 0, none⟩)]).run Try.prog w = .ok (.enter m #[.pointer (some ⟨b, 0, none⟩)]) w)
    (hm : Calls Try.prog m #[.pointer (some ⟨b, 0, none⟩)] (w.setCell ⟨b, 1, none⟩ (.int .i32 1)) (Kept b R (w.setCell ⟨b, 1, none⟩ (.int .i32 1)))) :
    Calls Try.prog 81 #[.pointer (some ⟨b, 0, none⟩), .func (.func m) #[.pointer (some ⟨b, 0, none⟩)] #[]] w fun e w' => e = .returned (.tuple #[]) ∧ R w' ∧ Upd (Only b) w w' := by
  have hc1 : (w.setCell ⟨b, 1, none⟩ (.int .i32 1)).cell? ⟨b, 0, none⟩ = some (.int .u32 0) := (World.cell?_setCell_other _ ⟨b, 1, none⟩ ⟨b, 0, none⟩ _ (by simp)).trans h0
  have hc2 : (w.setCell ⟨b, 1, none⟩ (.int .i32 1)).cell? ⟨b, 1, none⟩ = some (.int .i32 1) := World.cell?_setCell_same w _ _ h1
  have hz1 : (w.setCell ⟨b, 1, none⟩ (.int .i32 1)).frozen? ⟨b, 0, none⟩ = false := by simp [f0]
  have hz2 : (w.setCell ⟨b, 1, none⟩ (.int .i32 1)).frozen? ⟨b, 1, none⟩ = false := by simp [f1]
  have hnot : ∀ (x : Bool) (w : World), (Op.unary .not (.bool x)).run Try.prog w = .ok (.bool (!x)) w := fun _ _ => rfl
  have hmH := Lib.hid hm
  have hU1 : Upd (Only b) w (w.setCell ⟨b, 1, none⟩ (.int .i32 1)) := (Upd.refl _ _).set1 _
  clear hm
  go_enter_defers Try.func81, Try.ntmps81
  go_wp2_with (first
    | (go_at_call 83; refine (lock_free ⟨b, 1, none⟩ _ (by go_simp) (by go_simp)).mono ?_; rintro e w' ⟨rfl, rfl⟩)
    | (go_at_call 80; refine (bload ⟨b, 0, none⟩ 0 false rfl _ hc1).mono ?_; rintro e w' ⟨rfl, rfl⟩))
  refine hmH.out.mono ?_
  rintro e w1 ⟨rfl, hr1, hU2, k1, k2, k3, k4⟩
  go_wp2
  refine leaves_cons (f := 85) (args := #[.pointer (some ⟨b, 0, none⟩), .bool true]) (by simp) (by simp [go_sem]) ?_
  refine (store_deferred ⟨b, 0, none⟩ (.int .u32 0) .returning _ (k1.trans hc1) (k3.trans hz1)).mono ?_
  rintro e u' w'' ⟨rfl, rfl, rfl⟩
  refine leaves_cons (f := 84) (args := #[.pointer (some ⟨b, 1, none⟩)]) (by simp [settle]) (by simp [go_sem]) ?_
  refine (unlock_deferred ⟨b, 1, none⟩ _ _ ?_ (by simp [k4, hz2])).mono ?_
  · refine (World.cell?_setCell_other _ ⟨b, 0, none⟩ ⟨b, 1, none⟩ _ (by simp)).trans ?_
    rw [World.cell?_drew]
    exact k2.trans hc2
  rintro e u' w'' ⟨rfl, rfl, rfl⟩
  have hres : R ((w1.drew.setCell ⟨b, 0, none⟩ (.int .u32 1)).setCell ⟨b, 1, none⟩ (.int .i32 0)) := hR.2.1 _ _ (hR.1 _ _ (hR.2.2 _ hr1))
  have hU3 : Upd (Only b) w ((w1.drew.setCell ⟨b, 0, none⟩ (.int .u32 1)).setCell ⟨b, 1, none⟩ (.int .i32 0)) := (((hU1.trans hU2 (fun x hx => .inl hx)).drew.set1 _).set1 _)
  simp [Leaves, settle, results, Try.results81, hres, hU3]
/-- Do, not yet done, the lock free. -/
theorem do_first (b m : Nat) (R : World → Prop) (hR : Stays b R) (w : World) (h0 : w.cell? ⟨b, 0, none⟩ = some (.int .u32 0)) (h1 : w.cell? ⟨b, 1, none⟩ = some (.int .i32 0)) (f0 : w.frozen? ⟨b, 0, none⟩ = false) (f1 : w.frozen? ⟨b, 1, none⟩ = false)
    (hcf : ∀ w, (callFunc m #[.pointer (some ⟨b, 0, none⟩)]).run Try.prog w = .ok (.enter m #[.pointer (some ⟨b, 0, none⟩)]) w)
    (hm : Calls Try.prog m #[.pointer (some ⟨b, 0, none⟩)] (w.setCell ⟨b, 1, none⟩ (.int .i32 1)) (Kept b R (w.setCell ⟨b, 1, none⟩ (.int .i32 1)))) :
    Calls Try.prog 78 #[.pointer (some ⟨b, 0, none⟩), .func (.func m) #[.pointer (some ⟨b, 0, none⟩)] #[]] w fun e w' => e = .returned (.tuple #[]) ∧ R w' ∧ Upd (Only b) w w' := by
  have hs := slow_any b m R hR w h0 h1 f0 f1 hcf hm
  have hnot : ∀ (x : Bool) (w : World), (Op.unary .not (.bool x)).run Try.prog w = .ok (.bool (!x)) w := fun _ _ => rfl
  clear hm
  go_enter Try.func78, Try.ntmps78
  go_wp2_with (first
    | (go_at_call 80; refine (bload ⟨b, 0, none⟩ 0 false rfl _ h0).mono ?_; rintro e w' ⟨rfl, rfl⟩)
    | (go_at_call 81; refine hs.mono ?_; rintro e w' ⟨rfl, hr, hU⟩))
  go_end0
  exact ⟨rfl, hr, hU⟩
end Go.Proofs.Ythppheklnplljaa.Once
