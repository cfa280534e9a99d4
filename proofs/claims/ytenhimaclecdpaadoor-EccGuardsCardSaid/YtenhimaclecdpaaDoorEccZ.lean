/-
  Any bytes, guarded, are the document's, and opened as they were: the plain law and the walk. Conditions: what the argument's slice holds; the table of Go's library is as it was laid.
-/
import Derived.Test.YtenhimaclecdpaaDoorEccY
namespace Go.Proofs.YtenhimaclecdpaaDoor.Ecc
open Go.RowKit Go.Proofs.YtenhimaclecdpaaDoor.Base
set_option linter.unusedVariables false
set_option linter.unusedSimpArgs false
set_option maxRecDepth 100000
theorem dat_get (b : List UInt8) : ∀ i q, q < 8 * i → (datV b i)[q]? = some (b.getD q 0)
  | 0, q, h => by omega
  | i + 1, q, h => by
    have hl := dat_len b i
    rw [datV]
    rcases Nat.lt_or_ge q (8 * i) with h1 | h1
    · rw [List.getElem?_append_left (by omega)]
      exact dat_get b i q h1
    · rw [List.getElem?_append_right (by omega), hl, grpB_get (by omega), show 8 * i + (q - 8 * i) = q by omega]
theorem cks_get (b : List UInt8) : ∀ i k, k < i → (cksV b i)[k]? = some (ckB (grpB b k))
  | 0, k, h => by omega
  | i + 1, k, h => by
    have hl := cks_len b i
    rw [cksV]
    rcases Nat.lt_or_ge k i with h1 | h1
    · rw [List.getElem?_append_left (by omega)]
      exact cks_get b i k h1
    · obtain rfl : k = i := by omega
      rw [List.getElem?_append_right (by omega), hl, Nat.sub_self]
      rfl
theorem guard_len (b : List UInt8) : (guardV b).length = (b.length + 7) / 8 * 9 := by
  unfold guardV
  rw [List.length_append, dat_len, cks_len]
  omega
theorem guard_dat {b : List UInt8} {q : Nat} (h : q < 8 * ((b.length + 7) / 8)) : (guardV b).getD q 0 = b.getD q 0 := by
  unfold guardV
  rw [List.getD_eq_getElem?_getD, List.getElem?_append_left (by rw [dat_len]; exact h), dat_get _ _ _ h]
  rfl
theorem guard_cks {b : List UInt8} {i : Nat} (h : i < (b.length + 7) / 8) : (guardV b).getD (8 * ((b.length + 7) / 8) + i) 0 = ckB (grpB b i) := by
  unfold guardV
  rw [List.getD_eq_getElem?_getD, List.getElem?_append_right (by rw [dat_len]; omega), dat_len, Nat.add_sub_cancel_left, cks_get _ _ _ h]
  rfl
theorem guard_grp {b : List UInt8} {i : Nat} (h : i < (b.length + 7) / 8) : grpB (guardV b) i = grpB b i := by
  refine List.ext_getElem? fun q => ?_
  rcases Nat.lt_or_ge q 8 with hq | hq
  · rw [grpB_get hq, grpB_get hq, guard_dat (by omega)]
  · rw [List.getElem?_eq_none (by rw [grpB_len]; omega), List.getElem?_eq_none (by rw [grpB_len]; omega)]
theorem toB_map (G : List UInt8) : toB (G.map UInt8.toNat) = G := by
  unfold toB
  rw [List.map_map]
  induction G with
  | nil => rfl
  | cons x G ih =>
    rw [List.map_cons, ih]
    congr 1
    simp
theorem opn_guard (b : List UInt8) : ∀ i, i ≤ (b.length + 7) / 8 → opnS (guardV b) ((b.length + 7) / 8) i = some (datV b i, 0)
  | 0, _ => rfl
  | i + 1, h => by
    have ih := opn_guard b i (by omega)
    have hz := mendV_zero (G := (grpB b i).map UInt8.toNat) (c := (ckB (grpB b i)).toNat) (ckB_nat (grpB b i)).symm
    unfold opnS
    rw [ih, guard_cks (by omega), grp_B, guard_grp (by omega)]
    simp only
    rw [hz]
    simp only [if_true]
    rw [toB_map]
    rfl
theorem open_guard (b : List UInt8) : openV (guardV b) (b.length : Int) = (b, 0, 0) := by
  have hl := guard_len b
  have hdl := dat_len b ((b.length + 7) / 8)
  have hany : ((datV b ((b.length + 7) / 8)).drop b.length).any (· != 0) = false := any_no (fun j hj => by
    rw [List.length_drop] at hj
    have h2 := dat_get b ((b.length + 7) / 8) (b.length + j) (by omega)
    rw [List.getElem_drop]
    rw [List.getElem?_eq_getElem (by omega), List.getD_eq_getElem?_getD, List.getElem?_eq_none (by omega)] at h2
    exact Option.some.inj h2)
  have htake : (datV b ((b.length + 7) / 8)).take b.length = b := by
    refine List.ext_getElem? fun q => ?_
    rw [List.getElem?_take]
    split
    · rename_i h
      rw [dat_get _ _ _ (by omega), List.getD_eq_getElem?_getD, List.getElem?_eq_getElem h]
      rfl
    · rename_i h
      rw [List.getElem?_eq_none (by omega)]
  unfold openV
  rw [if_neg (by rw [Int.toNat_natCast, hl]; omega), Int.toNat_natCast, opn_guard b _ (Nat.le_refl _)]
  simp only
  rw [hany, htake]
  rfl
set_option maxHeartbeats 8000000 in
theorem guardsC (A : Option Addr) (c : Nat) (b : List UInt8) (w : World) (hA : Arg w A 1 bc b) (hc : b.length ≤ c) (hcm : c ≤ 9223372036854775807) (hT : Tab w) :
    Calls Tryd.prog 5 #[.slice A b.length c] w (RetB true w) := by
  have hF := fixedC w hT
  by_cases h400 : 400 < b.length
  · have h2I : (400 : Int) < (b.length : Int) := by omega
    go_enter Tryd.func5, Tryd.ntmps5
    go_wp2_with fail
    refine hF.mono ?_
    rintro e w1 ⟨rfl, hU1⟩
    go_wp2_with fail
    go_ret
    exact ⟨rfl, hU1⟩
  have hlI : ¬ (400 : Int) < (b.length : Int) := by omega
  have k1 := fun w hA hT => guardC A c b w hA hc hcm (by omega) hT
  have kR := fun w hA => rguardC A c b w hA hc hcm (by omega)
  have kO := fun A' c' w hA hc hcm hT => openC A' c' (guardV b) (b.length : Int) w hA hc hcm (by rw [guard_len]; omega) hT
  rw [open_guard] at kO
  unfold OpenR at kO
  go_enter Tryd.func5, Tryd.ntmps5
  go_wp2_with fail
  refine hF.mono ?_
  rintro e w1 ⟨rfl, hU1⟩
  have hA1 := hA.upd hU1
  have hT1 := hT.upd hU1
  go_wp2_with fail
  refine (k1 _ hA1 hT1).mono ?_
  rintro e w2 ⟨v, rfl, hv, hU2⟩
  obtain ⟨Ag, cg, rfl, hcg⟩ := hv.form
  have hU02 := hU1.tr hU2
  have hT2 := hT.upd hU02
  have kO2 := kO Ag cg _ (hv.cells bc_len (by omega)) hcg hv.capMax hT2
  clear k1 kO hF
  go_wp2_with fail
  refine kO2.mono ?_
  rintro e w3 ⟨v, rfl, hx, hU3⟩
  simp only at hx ⊢
  obtain ⟨Ax, cx, rfl, _⟩ := hx.form
  have hU03 := hU02.tr hU3
  have hv3 := hv.upd0 hU3
  have hA3 := hA.upd hU03
  have kR3 := kR w3.drew (hA3.upd (Upd.refl Nil w3).drew)
  have c0 := fun w' (u : Upd Nil w3.drew w') => cvS ((hv3.drew.cells bc_len (by omega)).upd u) cg
  have c1 := fun w' (u : Upd Nil w3.drew w') => cvS ((hx.drew.cells bc_len (by omega)).upd u) cx
  have c2 := fun w' (u : Upd Nil w3.drew w') => cvS ((hA3.upd (Upd.refl Nil w3).drew).upd u) c
  clear kO2 hA hA1 hv hv3 hx hT hT1 hT2 hA3 kR
  go_upto_region 7 with fail
  generalize (⟨b.toArray⟩ : ByteArray) = bs at *
  refine wp_region_lex Nil [0, 1, 2, 3, 4, 5, 6, 7, 8, 9, 10, 11, 12, 13, 14, 15, 16, 17, 18, 19, 20, 21] (by kernel_rfl) (by kernel_rfl) rfl (by kernel_rfl) ?_
  simp only [inOrder, List.filterMap_cons, List.filterMap_nil, List.getElem?_cons_zero, List.getElem?_cons_succ]
  try simp only [Act.put, List.setIfInBounds_toArray, List.set_cons_zero, List.set_cons_succ]
  repeat
    first
    | (refine lex_pure (v := ?_) rfl rfl ?_ ?_
       rotate_left
       · intro w' hU'
         go_simp
         try with_reducible rfl
       try simp only [Act.put, List.setIfInBounds_toArray, List.set_cons_zero, List.set_cons_succ])
    | (refine lex_skip rfl ?_
       try simp only [Act.put, List.setIfInBounds_toArray, List.set_cons_zero, List.set_cons_succ])
  refine lex_fn (f := 15) (args := _) rfl rfl (by go_simp) (kR3.mono ?_)
  rintro e w4 ⟨v, rfl, hr, hU4⟩
  obtain ⟨Ar, cr, rfl, _⟩ := hr.form
  refine ⟨_, rfl, hU4, ?_⟩
  have c3 := fun w' (u : Upd Nil w4 w') => cvS ((hr.cells bc_len (by omega)).upd u) cr
  have d1 := fun w' (u : Upd Nil w4 w') => c1 w' (hU4.tr u)
  have d2 := fun w' (u : Upd Nil w4 w') => c2 w' (hU4.tr u)
  clear c0 c1 c2 kR3 hr
  try simp only [Act.put, List.setIfInBounds_toArray, List.set_cons_zero, List.set_cons_succ]
  repeat
    first
    | (refine lex_pure (v := ?_) rfl rfl ?_ ?_
       rotate_left
       · intro w' hU'
         go_simp
         try with_reducible rfl
       try simp only [Act.put, List.setIfInBounds_toArray, List.set_cons_zero, List.set_cons_succ])
    | (refine lex_skip rfl ?_
       try simp only [Act.put, List.setIfInBounds_toArray, List.set_cons_zero, List.set_cons_succ])
  refine lex_done ?_
  go_wp2_with fail
  go_ret
  exact ⟨rfl, hU03.drew.tr hU4⟩
end Go.Proofs.YtenhimaclecdpaaDoor.Ecc
