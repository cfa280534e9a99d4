/-
  The row of 'almshouselaw24.PrefixFinds': the given statement. Conditions: none beyond the statement's own.
-/
import Derived.Test.YtobhpfbldmobfaaRows
import Derived.Test.YtobhpfbldmobfaaPrefixN
import Derived.Test.YtobhpfbldmobfaaPrefixO
import Derived.Test.YtobhpfbldmobfaaBulk
import Derived.WalkKit
import Derived.ProofKit
import Derived.OpenShut
import Derived.ShutString
import Derived.ChangeOld
import Derived.Below
import Derived.SizedLaws
import Derived.Deep.CondSized
namespace Go.Proofs.Ytobhpfbldmobfaa.prefixFinds
open Go.ChangeShapes Go.WideShapes Go.ChangeAt Go.RowKit Go.Proofs.Ytobhpfbldmobfaa.Base
open Go.ChangeMaps (open_string shut_string)
set_option linter.unusedVariables false
theorem own : ownKnob Try.prog.godebug = none := by kernel_rfl
theorem laidOut : laidOutB Try.prog = true := by kernel_rfl
set_option maxRecDepth 100000 in
theorem lifted (os : Os) (started : os.Started) (H : Type) (enc : TypeId × Value → H) (F : Stop.Interp) :
    ReturnsInHanded {} Try.checked os 10 .any ((Rows.OpenSpec.upto Rows.prefixFindsSpec).pre6 enc Try.prog Try.f10 Rows.prefixFindsUptoRow.domain false) (((Rows.OpenSpec.upto Rows.prefixFindsSpec).at F).post enc Try.prog Try.f10 false true false false) := by
  refine returnsInHanded_of_cond_sized (C := Try.checked) (s := Rows.OpenSpec.upto Rows.prefixFindsSpec) (k := Rows.uptoSmall) rfl own started (by kernel_rfl) Try.func10
    (OpenSpec.witness (enc := enc) (C := Try.checked) (s := Rows.OpenSpec.upto Rows.prefixFindsSpec) (k := Rows.uptoSmall) rfl false ⟨#[], #[.slice none 0 0, .slice none 0 0, .slice none 0 0], []⟩ 8 (by kernel_rfl) (by kernel_rfl) (by kernel_rfl)
      (x := ([.nil, .nil, .nil], [], [])) (by kernel_rfl) rfl (by kernel_rfl)) ?_
  intro W base args ds gs before hval0 hW hcnd hk hsz0 _
  have hsz : (DataW.weightsEach Try.prog (Try.f10.params.toList ++ Rows.prefixFindsSpec.plain.varTypes Try.prog) (ds ++ gs)).all (· ≤ reachBytes) = true := hsz0
  have hval : ∀ (j : Nat) t v, Try.f10.params[j]? = some t → args[j]? = some v → Value.okWide Try.prog W .any base t v := hval0
  have hW' := hW
  obtain ⟨p, q, hA0, hV, rfl, hfz, hnd⟩ := hW
  have hA : DataW.TrodAll enc Try.prog W 0 (fun _ => true) true Try.f10.params.toList args.toList ds p := hA0
  rw [Try.params10] at hA hval hsz
  obtain ⟨v0, vs0, d0, ds0, p0, q0, hargs, rfl, rfl, h0, r0⟩ := trodAll_cons hA
  obtain ⟨v1, vs1, d1, ds1, p1, q1, rfl, rfl, rfl, h1, r1⟩ := trodAll_cons r0
  obtain ⟨v2, vs2, d2, ds2, p2, q2, rfl, rfl, rfl, h2, r2⟩ := trodAll_cons r1
  obtain ⟨rfl, rfl, rfl⟩ := trodAll_nil r2
  obtain rfl : args = #[v0, v1, v2] := by cases args; simp_all
  obtain ⟨rfl, rfl⟩ := trodVars_none hV
  have hv0 := hval 0 57 v0 rfl rfl
  have lt0 : ∀ x ∈ p0, x.block < W.heap.size := by obtain ⟨m, hm⟩ := h0; exact DataW.trod_lt m _ _ _ hm
  have hv1 := hval 1 58 v1 rfl rfl
  have lt1 : ∀ x ∈ p1, x.block < W.heap.size := by obtain ⟨m, hm⟩ := h1; exact DataW.trod_lt m _ _ _ hm
  have hv2 := hval 2 57 v2 rfl rfl
  have lt2 : ∀ x ∈ p2, x.block < W.heap.size := by obtain ⟨m, hm⟩ := h2; exact DataW.trod_lt m _ _ _ hm
  clear hA0 hval0 hsz0
  obtain ⟨ra, la, ca, rfl⟩ := okWide_slice Try.underlying57 hv0
  obtain ⟨rd, ld, cd, rfl⟩ := okWide_slice Try.underlying58 hv1
  obtain ⟨rn, ln, cn, rfl⟩ := okWide_slice Try.underlying57 hv2
  have hz0 := Bulk.slice_len hk (d := d0) (by simp) Try.underlying57 h0
  have hz2 := Bulk.slice_len hk (d := d2) (by simp) Try.underlying57 h2
  obtain ⟨ps, rfl, hcap0, hm0, hp0, hA0⟩ := open_arg (f := Prefix.sc) Try.underlying57 PrefixO.cells_str (by omega) PrefixO.str_open h0
  obtain ⟨l, rfl, hcap1, hm1, hp1, hA1⟩ := open_arg (f := Prefix.cc) Try.underlying58 PrefixO.cells_chg (by omega) PrefixO.chg_open h1
  obtain ⟨now, rfl, hcap2, hm2, hp2, hA2⟩ := open_arg (f := Prefix.sc) Try.underlying57 PrefixO.cells_str (by omega) PrefixO.str_open h2
  refine (PrefixN.finds ra rd rn ca cd cn ps l now W hA0 hA1 hA2 hcap1 hm1 (by omega)).mono fun e W' ⟨he, bel⟩ => ?_
  subst he
  exact ⟨_, rfl, _, _, _, [], _, [], hW', trodAll_mk1 (shut_bool Try.underlying4 _), (trodAll_cons_mk (Upd.trod laidOut (by kernel_rfl) (of_decide_eq_true (by kernel_rfl)) h0 bel (fun _ _ h => h) lt0) (trodAll_cons_mk (Upd.trod laidOut (by kernel_rfl) (of_decide_eq_true (by kernel_rfl)) h1 bel (fun _ _ h => h) lt1) (trodAll_cons_mk (Upd.trod laidOut (by kernel_rfl) (of_decide_eq_true (by kernel_rfl)) h2 bel (fun _ _ h => h) lt2) trodAll_mk0))), rfl, bel.frame (fun _ _ h => h) _, fun h => by cases h⟩
theorem over : Rows.prefixFindsUptoRow.holds Try.pinned (Rows.OpenSpec.upto Rows.prefixFindsSpec) :=
  OpenClaim.holds_of_cond 10 Try.f10 rfl rfl rfl rfl rfl rfl rfl ⟨rfl, rfl, rfl, rfl, rfl⟩ rfl rfl rfl rfl rfl (by kernel_rfl) Try.func10 (by kernel_rfl)
    (of_decide_eq_true (by kernel_rfl)) (by unfold Func.isWrapper; first | (rw [if_pos (by decide +kernel)]; kernel_rfl) | (rw [if_neg (by decide +kernel)]; exact ⟨rfl, rfl⟩))
    (fun os started H enc _ F => lifted os started H enc F)
theorem proved : Rows.PrefixFindsUptoSaid := over
#print axioms proved
end Go.Proofs.Ytobhpfbldmobfaa.prefixFinds
namespace Go.Proofs.Ytobhpfbldmobfaa
/-- The row, under a short name, for the claim. -/
theorem prefixFinds_holds : Rows.PrefixFindsUptoSaid := prefixFinds.proved
end Go.Proofs.Ytobhpfbldmobfaa
