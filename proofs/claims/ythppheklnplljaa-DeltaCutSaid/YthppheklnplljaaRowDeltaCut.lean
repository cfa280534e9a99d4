/-
  The row of 'almshouselaw34.DeltaCut': the given statement. Conditions: none beyond the statement's own.
-/
import Derived.Test.YthppheklnplljaaRows
import Derived.Test.YthppheklnplljaaDeltaS
import Derived.Test.YthppheklnplljaaDeltaT
import Derived.Test.YthppheklnplljaaWordO
import Derived.WalkKit
import Derived.ProofKit
import Derived.OpenShut
import Derived.ShutString
import Derived.ChangeOld
import Derived.Below
import Derived.SizedLaws
namespace Go.Proofs.Ythppheklnplljaa.deltaCut
open Go.ChangeShapes Go.WideShapes Go.ChangeAt Go.RowKit Go.Proofs.Ythppheklnplljaa.Base
open Go.ChangeMaps (open_string shut_string)
set_option linter.unusedVariables false
theorem own : ownKnob Try.prog.godebug = none := by kernel_rfl
theorem laidOut : laidOutB Try.prog = true := by kernel_rfl
set_option maxRecDepth 100000 in
theorem lifted (os : Os) (started : os.Started) (H : Type) (enc : TypeId × Value → H) :
    ReturnsInHanded {} Try.checked os 11 .any (Rows.deltaCutSpec.pre6 enc Try.prog Try.f11 Rows.deltaCutRow.domain false) (Rows.deltaCutSpec.post enc Try.prog Try.f11 false true false false) := by
  refine returnsInHanded_of_change_sized (C := Try.checked) own started (by kernel_rfl) Try.func11
    (ChangeSpec.witness6 (enc := enc) (C := Try.checked) false ⟨#[], #[.slice none 0 0, .int .u16 0, .int .u16 0, .slice none 0 0], []⟩ 8 (by kernel_rfl) (by kernel_rfl) (by kernel_rfl) (by kernel_rfl)) ?_
  intro W base args ds gs before hval0 hW hcnd hsz0 _
  have hsz : (DataW.weightsEach Try.prog (Try.f11.params.toList ++ Rows.deltaCutSpec.plain.varTypes Try.prog) (ds ++ gs)).all (· ≤ reachBytes) = true := hsz0
  have hval : ∀ (j : Nat) t v, Try.f11.params[j]? = some t → args[j]? = some v → Value.okWide Try.prog W .any base t v := hval0
  have hW' := hW
  obtain ⟨p, q, hA0, hV, rfl, hfz, hnd⟩ := hW
  have hA : DataW.TrodAll enc Try.prog W 0 (fun _ => true) true Try.f11.params.toList args.toList ds p := hA0
  rw [Try.params11] at hA hval hsz
  obtain ⟨v0, vs0, d0, ds0, p0, q0, hargs, rfl, rfl, h0, r0⟩ := trodAll_cons hA
  obtain ⟨v1, vs1, d1, ds1, p1, q1, rfl, rfl, rfl, h1, r1⟩ := trodAll_cons r0
  obtain ⟨v2, vs2, d2, ds2, p2, q2, rfl, rfl, rfl, h2, r2⟩ := trodAll_cons r1
  obtain ⟨v3, vs3, d3, ds3, p3, q3, rfl, rfl, rfl, h3, r3⟩ := trodAll_cons r2
  obtain ⟨rfl, rfl, rfl⟩ := trodAll_nil r3
  obtain rfl : args = #[v0, v1, v2, v3] := by cases args; simp_all
  obtain ⟨rfl, rfl⟩ := trodVars_none hV
  have hv0 := hval 0 54 v0 rfl rfl
  have lt0 : ∀ x ∈ p0, x.block < W.heap.size := by obtain ⟨m, hm⟩ := h0; exact DataW.trod_lt m _ _ _ hm
  obtain ⟨a1, rfl, rfl, rfl, w1⟩ := open_int Try.underlying32 (hval 1 32 v1 rfl rfl) h1
  obtain ⟨a2, rfl, rfl, rfl, w2⟩ := open_int Try.underlying32 (hval 2 32 v2 rfl rfl) h2
  have hv3 := hval 3 22 v3 rfl rfl
  have lt3 : ∀ x ∈ p3, x.block < W.heap.size := by obtain ⟨m, hm⟩ := h3; exact DataW.trod_lt m _ _ _ hm
  clear hA0 hval0 hsz0
  obtain ⟨rl, ll, cl, rfl⟩ := okWide_slice Try.underlying54 hv0
  have hwt : ∀ m ∈ d0.weights Try.prog 54, m ≤ 140737488351232 := fun m hm => by have := List.all_eq_true.1 hsz _ (DataW.weights_mem_each (j := 0) rfl rfl m hm); exact of_decide_eq_true this
  obtain ⟨l, rfl, _, _, _, hp0, hA0⟩ := open_argW (f := inC) Try.underlying54 DeltaO.cells_moves (by omega) DeltaO.moves_open hwt h0
  obtain ⟨rm, lm, cm, rfl⟩ := okWide_slice Try.underlying22 hv3
  obtain ⟨more, rfl, hcap3, hm3, hp3, hA3⟩ := open_arg (f := bc) Try.underlying22 WordO.cells_u8 (by omega) WordO.u8_open h3
  obtain ⟨b0, b1⟩ := bounds_u16 w1
  obtain ⟨c0, c1⟩ := bounds_u16 w2
  obtain ⟨k, rfl⟩ := Int.eq_ofNat_of_zero_le c0
  refine (Delta.cutD rl cl l a1 k rm cm more W hA0 hp0 b0 b1 (by omega) hA3).mono fun e W' ⟨he, bel⟩ => ?_
  subst he
  exact ⟨_, rfl, _, _, _, [], _, [], hW', trodAll_mk1 (shut_bool Try.underlying4 _), (trodAll_cons_mk (Upd.trod laidOut (by kernel_rfl) (of_decide_eq_true (by kernel_rfl)) h0 bel (fun _ _ h => h) lt0) (trodAll_cons_mk (shut_int Try.underlying32 w1) (trodAll_cons_mk (shut_int Try.underlying32 w2) (trodAll_cons_mk (Upd.trod laidOut (by kernel_rfl) (of_decide_eq_true (by kernel_rfl)) h3 bel (fun _ _ h => h) lt3) trodAll_mk0)))), rfl, bel.frame (fun _ _ h => h) _, fun h => by cases h⟩
theorem over : Rows.deltaCutRow.holds Try.pinned (OpenSpec.ofChange Rows.deltaCutSpec) :=
  OpenClaim.holds_of_wide 11 Try.f11 rfl rfl rfl rfl rfl rfl rfl ⟨rfl, rfl, rfl, rfl, rfl⟩ rfl rfl rfl rfl rfl (by kernel_rfl) Try.func11 (by kernel_rfl)
    (of_decide_eq_true (by kernel_rfl)) (by unfold Func.isWrapper; first | (rw [if_pos (by decide +kernel)]; kernel_rfl) | (rw [if_neg (by decide +kernel)]; exact ⟨rfl, rfl⟩))
    (fun os started H enc _ => lifted os started H enc)
theorem proved : Rows.DeltaCutSaid := over
#print axioms proved
end Go.Proofs.Ythppheklnplljaa.deltaCut
namespace Go.Proofs.Ythppheklnplljaa
/-- The row, under a short name, for the claim. -/
theorem deltaCut_holds : Rows.DeltaCutSaid := deltaCut.proved
end Go.Proofs.Ythppheklnplljaa
