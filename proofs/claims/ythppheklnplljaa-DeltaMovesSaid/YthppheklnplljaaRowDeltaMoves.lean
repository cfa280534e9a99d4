/-
  The row of 'almshouselaw34.DeltaMoves': the given statement. Conditions: none beyond the statement's own.
-/
import Derived.Test.YthppheklnplljaaRows
import Derived.Test.YthppheklnplljaaDeltaY
import Derived.Test.YthppheklnplljaaDeltaO
import Derived.WalkKit
import Derived.ProofKit
import Derived.OpenShut
import Derived.ShutString
import Derived.ChangeOld
import Derived.Below
import Derived.SizedLaws
namespace Go.Proofs.Ythppheklnplljaa.deltaMoves
open Go.ChangeShapes Go.WideShapes Go.ChangeAt Go.RowKit Go.Proofs.Ythppheklnplljaa.Base
open Go.ChangeMaps (open_string shut_string)
set_option linter.unusedVariables false
theorem own : ownKnob Try.prog.godebug = none := by kernel_rfl
theorem laidOut : laidOutB Try.prog = true := by kernel_rfl
set_option maxRecDepth 100000 in
theorem lifted (os : Os) (started : os.Started) (H : Type) (enc : TypeId × Value → H) :
    ReturnsInHanded {} Try.checked os 12 .any (Rows.deltaMovesSpec.pre6 enc Try.prog Try.f12 Rows.deltaMovesRow.domain false) (Rows.deltaMovesSpec.post enc Try.prog Try.f12 false true false false) := by
  refine returnsInHanded_of_change_sized (C := Try.checked) own started (by kernel_rfl) Try.func12
    (ChangeSpec.witness6 (enc := enc) (C := Try.checked) false ⟨#[], #[.slice none 0 0, .slice none 0 0], []⟩ 8 (by kernel_rfl) (by kernel_rfl) (by kernel_rfl) (by kernel_rfl)) ?_
  intro W base args ds gs before hval0 hW hcnd hsz0 _
  have hsz : (DataW.weightsEach Try.prog (Try.f12.params.toList ++ Rows.deltaMovesSpec.plain.varTypes Try.prog) (ds ++ gs)).all (· ≤ reachBytes) = true := hsz0
  have hval : ∀ (j : Nat) t v, Try.f12.params[j]? = some t → args[j]? = some v → Value.okWide Try.prog W .any base t v := hval0
  have hW' := hW
  obtain ⟨p, q, hA0, hV, rfl, hfz, hnd⟩ := hW
  have hA : DataW.TrodAll enc Try.prog W 0 (fun _ => true) true Try.f12.params.toList args.toList ds p := hA0
  rw [Try.params12] at hA hval hsz
  obtain ⟨v0, vs0, d0, ds0, p0, q0, hargs, rfl, rfl, h0, r0⟩ := trodAll_cons hA
  obtain ⟨v1, vs1, d1, ds1, p1, q1, rfl, rfl, rfl, h1, r1⟩ := trodAll_cons r0
  obtain ⟨rfl, rfl, rfl⟩ := trodAll_nil r1
  obtain rfl : args = #[v0, v1] := by cases args; simp_all
  obtain ⟨rfl, rfl⟩ := trodVars_none hV
  have hv0 := hval 0 43 v0 rfl rfl
  have lt0 : ∀ x ∈ p0, x.block < W.heap.size := by obtain ⟨m, hm⟩ := h0; exact DataW.trod_lt m _ _ _ hm
  have hv1 := hval 1 43 v1 rfl rfl
  have lt1 : ∀ x ∈ p1, x.block < W.heap.size := by obtain ⟨m, hm⟩ := h1; exact DataW.trod_lt m _ _ _ hm
  clear hA0 hval0 hsz0
  obtain ⟨rx, lx, cx, rfl⟩ := okWide_slice Try.underlying43 hv0
  obtain ⟨x, rfl, hcap0, hm0, hp0, hA0⟩ := open_arg (f := Delta.mvC) Try.underlying43 DeltaO.cells_move (by omega) DeltaO.move_open h0
  obtain ⟨ry, ly, cy, rfl⟩ := okWide_slice Try.underlying43 hv1
  obtain ⟨y, rfl, hcap1, hm1, hp1, hA1⟩ := open_arg (f := Delta.mvC) Try.underlying43 DeltaO.cells_move (by omega) DeltaO.move_open h1
  refine (Delta.movesD rx cx x ry cy y W hA0 hA1).mono fun e W' ⟨he, bel⟩ => ?_
  subst he
  exact ⟨_, rfl, _, _, _, [], _, [], hW', trodAll_mk1 (shut_bool Try.underlying4 _), (trodAll_cons_mk (Upd.trod laidOut (by kernel_rfl) (of_decide_eq_true (by kernel_rfl)) h0 bel (fun _ _ h => h) lt0) (trodAll_cons_mk (Upd.trod laidOut (by kernel_rfl) (of_decide_eq_true (by kernel_rfl)) h1 bel (fun _ _ h => h) lt1) trodAll_mk0)), rfl, bel.frame (fun _ _ h => h) _, fun h => by cases h⟩
theorem over : Rows.deltaMovesRow.holds Try.pinned (OpenSpec.ofChange Rows.deltaMovesSpec) :=
  OpenClaim.holds_of_wide 12 Try.f12 rfl rfl rfl rfl rfl rfl rfl ⟨rfl, rfl, rfl, rfl, rfl⟩ rfl rfl rfl rfl rfl (by kernel_rfl) Try.func12 (by kernel_rfl)
    (of_decide_eq_true (by kernel_rfl)) (by unfold Func.isWrapper; first | (rw [if_pos (by decide +kernel)]; kernel_rfl) | (rw [if_neg (by decide +kernel)]; exact ⟨rfl, rfl⟩))
    (fun os started H enc _ => lifted os started H enc)
theorem proved : Rows.DeltaMovesSaid := over
#print axioms proved
end Go.Proofs.Ythppheklnplljaa.deltaMoves
namespace Go.Proofs.Ythppheklnplljaa
/-- The row, under a short name, for the claim. -/
theorem deltaMoves_holds : Rows.DeltaMovesSaid := deltaMoves.proved
end Go.Proofs.Ythppheklnplljaa
