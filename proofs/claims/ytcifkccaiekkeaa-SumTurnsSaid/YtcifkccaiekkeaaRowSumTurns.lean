/-
  The row of 'almshouselaw02.SumTurns': the given statement. Conditions: none beyond the statement's own.
-/
import Derived.Test.YtcifkccaiekkeaaRows
import Derived.Test.YtcifkccaiekkeaaSumD
import Derived.Test.YtcifkccaiekkeaaWordO
import Derived.WalkKit
import Derived.ProofKit
import Derived.OpenShut
import Derived.ShutString
import Derived.ChangeOld
import Derived.Below
import Derived.SizedLaws
namespace Go.Proofs.Ytcifkccaiekkeaa.sumTurns
open Go.ChangeShapes Go.WideShapes Go.ChangeAt Go.RowKit Go.Proofs.Ytcifkccaiekkeaa.Base
open Go.ChangeMaps (open_string shut_string)
set_option linter.unusedVariables false
theorem own : ownKnob Try.prog.godebug = none := by kernel_rfl
theorem laidOut : laidOutB Try.prog = true := by kernel_rfl
set_option maxRecDepth 100000 in
theorem lifted (os : Os) (started : os.Started) (H : Type) (enc : TypeId × Value → H) :
    ReturnsInHanded {} Try.checked os 13 .any (Rows.sumTurnsSpec.pre6 enc Try.prog Try.f13 Rows.sumTurnsRow.domain false) (Rows.sumTurnsSpec.post enc Try.prog Try.f13 false true false false) := by
  refine returnsInHanded_of_change_sized (C := Try.checked) own started (by kernel_rfl) Try.func13
    (ChangeSpec.witness6 (enc := enc) (C := Try.checked) false ⟨#[], #[.slice none 0 0, .int .u16 0, .int .u32 0], []⟩ 8 (by kernel_rfl) (by kernel_rfl) (by kernel_rfl) (by kernel_rfl)) ?_
  intro W base args ds gs before hval0 hW hcnd hsz0 _
  have hsz : (DataW.weightsEach Try.prog (Try.f13.params.toList ++ Rows.sumTurnsSpec.plain.varTypes Try.prog) (ds ++ gs)).all (· ≤ reachBytes) = true := hsz0
  have hval : ∀ (j : Nat) t v, Try.f13.params[j]? = some t → args[j]? = some v → Value.okWide Try.prog W .any base t v := hval0
  have hW' := hW
  obtain ⟨p, q, hA0, hV, rfl, hfz, hnd⟩ := hW
  have hA : DataW.TrodAll enc Try.prog W 0 (fun _ => true) true Try.f13.params.toList args.toList ds p := hA0
  rw [Try.params13] at hA hval hsz
  obtain ⟨v0, vs0, d0, ds0, p0, q0, hargs, rfl, rfl, h0, r0⟩ := trodAll_cons hA
  obtain ⟨v1, vs1, d1, ds1, p1, q1, rfl, rfl, rfl, h1, r1⟩ := trodAll_cons r0
  obtain ⟨v2, vs2, d2, ds2, p2, q2, rfl, rfl, rfl, h2, r2⟩ := trodAll_cons r1
  obtain ⟨rfl, rfl, rfl⟩ := trodAll_nil r2
  obtain rfl : args = #[v0, v1, v2] := by cases args; simp_all
  obtain ⟨rfl, rfl⟩ := trodVars_none hV
  have hv0 := hval 0 50 v0 rfl rfl
  have lt0 : ∀ x ∈ p0, x.block < W.heap.size := by obtain ⟨m, hm⟩ := h0; exact DataW.trod_lt m _ _ _ hm
  obtain ⟨a1, rfl, rfl, rfl, w1⟩ := open_int Try.underlying93 (hval 1 93 v1 rfl rfl) h1
  obtain ⟨a2, rfl, rfl, rfl, w2⟩ := open_int Try.underlying89 (hval 2 89 v2 rfl rfl) h2
  clear hA0 hval0 hsz0
  obtain ⟨ra, la, ca, rfl⟩ := okWide_slice Try.underlying50 hv0
  have hz0 := arg_sized hsz (j := 0) (t := 50) rfl rfl Try.underlying50 (B := 1) (by kernel_rfl) h0
  obtain ⟨b, rfl, hcap0, hm0, hp0, hA0⟩ := open_arg (f := bc) Try.underlying50 WordO.cells_u8 (by omega) WordO.u8_open h0
  obtain ⟨b0, b1⟩ := bounds_u16 w1
  obtain ⟨c0, c1⟩ := bounds_u32 w2
  obtain ⟨y, rfl⟩ := Int.eq_ofNat_of_zero_le c0
  refine (Sum.turns ra ca b a1 y W hA0 hcap0 (by omega) b0 b1 (by omega)).mono fun e W' ⟨he, bel⟩ => ?_
  subst he
  exact ⟨_, rfl, _, _, _, [], _, [], hW', trodAll_mk1 (shut_bool Try.underlying4 _), (trodAll_cons_mk (Upd.trod laidOut (by kernel_rfl) (of_decide_eq_true (by kernel_rfl)) h0 bel (fun _ _ h => h) lt0) (trodAll_cons_mk (shut_int Try.underlying93 w1) (trodAll_cons_mk (shut_int Try.underlying89 w2) trodAll_mk0))), rfl, bel.frame (fun _ _ h => h) _, fun h => by cases h⟩
theorem over : Rows.sumTurnsRow.holds Try.pinned (OpenSpec.ofChange Rows.sumTurnsSpec) :=
  OpenClaim.holds_of_wide 13 Try.f13 rfl rfl rfl rfl rfl rfl rfl ⟨rfl, rfl, rfl, rfl, rfl⟩ rfl rfl rfl rfl rfl (by kernel_rfl) Try.func13 (by kernel_rfl)
    (of_decide_eq_true (by kernel_rfl)) (by unfold Func.isWrapper; first | (rw [if_pos (by decide +kernel)]; kernel_rfl) | (rw [if_neg (by decide +kernel)]; exact ⟨rfl, rfl⟩))
    (fun os started H enc _ => lifted os started H enc)
theorem proved : Rows.SumTurnsSaid := over
#print axioms proved
end Go.Proofs.Ytcifkccaiekkeaa.sumTurns
namespace Go.Proofs.Ytcifkccaiekkeaa
/-- The row, under a short name, for the claim. -/
theorem sumTurns_holds : Rows.SumTurnsSaid := sumTurns.proved
end Go.Proofs.Ytcifkccaiekkeaa
