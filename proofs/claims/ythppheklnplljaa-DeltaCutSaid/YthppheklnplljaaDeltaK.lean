/-
  DeltaReads: both sides read the same. Conditions: what the argument's slice holds.
-/
import Derived.Test.YthppheklnplljaaDeltaH
import Derived.Test.YthppheklnplljaaDeltaJ
import Derived.Test.YthppheklnplljaaLexW
namespace Go.Proofs.Ythppheklnplljaa.Delta
open Go.RowKit Go.Proofs.Ythppheklnplljaa.Base Go.Proofs.Ythppheklnplljaa.Word Go.Proofs.Ythppheklnplljaa.Frame
set_option linter.unusedVariables false
set_option linter.unusedSimpArgs false
set_option maxHeartbeats 4000000 in
set_option maxRecDepth 100000 in
/-- The same moves are the same. -/
theorem sameC (A B : Option Addr) (c d : Nat) (l : List Mv) (w : World) (hA : Arg w A 4 mvC l) (hB : Arg w B 4 mvC l) (hl : l.length ≤ 4398046511000) :
    Calls Try.prog 37 #[.slice A l.length c, .slice B l.length d] w (RetB true w) := by
  go_enter Try.func37, Try.ntmps37
  go_wp2_with fail
  refine (movesC A c l w hA hl).mono ?_
  rintro e w1 ⟨v1, rfl, hv1, hU1⟩
  obtain ⟨C, cc, rfl, _⟩ := hv1.form
  have hB1 := hB.upd hU1
  go_wp2_with fail
  go_loopw [6, 16] (fun s6 s16 wr => ∃ i : Nat, i ≤ l.length ∧ s16 = .int .i64 (i : Int) ∧ Upd Nil w1 wr) (fun _ s16 _ => l.length - (intOf s16).toNat)
  case atStart => exact ⟨0, by omega, rfl, Upd.refl _ _⟩
  case round =>
    obtain ⟨i, hi, rfl, hUr⟩ := hrel
    by_cases hlt : i < l.length
    · obtain ⟨gA, oA, hCe, _, y0, y1, y2, y3⟩ := mv_cell ((hv1.upd0 hUr).cells mvC_len (by omega)) hlt
      obtain ⟨gB, oB, hGe, _, z0, z1, z2, z3⟩ := mv_cell (hB1.upd hUr) hlt
      generalize l[i] = k at *
      subst hCe hGe
      go_wp2_with fail
      refine wp_region_lexW (Upd Nil) (fun _ => Upd.refl _ _) (fun _ _ _ h k => h.tr k) [(0, true), (1, true), (2, true), (3, true), (4, true), (5, true), (6, true), (7, true), (8, true)] (by kernel_rfl) (by kernel_rfl) rfl (by kernel_rfl) (by kernel_rfl) ?_
      simp only [inOrderW, List.filterMap_cons, List.filterMap_nil, List.getElem?_cons_zero, List.getElem?_cons_succ, Option.map_some]
      try simp only [Act.put, List.setIfInBounds_toArray, List.set_cons_zero, List.set_cons_succ]
      repeat
        first
        | (refine lexW_sure (v := ?_) rfl rfl ?_ ?_
           rotate_left
           · go_simp
             try with_reducible rfl
           try simp only [Act.put, List.setIfInBounds_toArray, List.set_cons_zero, List.set_cons_succ])
        | (refine lexW_pure (v := ?_) rfl rfl ?_ ?_
           rotate_left
           · intro w' hU'
             go_simp
             try with_reducible rfl
           try simp only [Act.put, List.setIfInBounds_toArray, List.set_cons_zero, List.set_cons_succ])
        | (refine lexW_skip rfl ?_
           try simp only [Act.put, List.setIfInBounds_toArray, List.set_cons_zero, List.set_cons_succ])
      refine lexW_done ?_
      go_wp2_with fail
      go_roundw
      case measure => simp [intOf]; omega
      case rel => exact ⟨i + 1, by omega, by go_num, hUr.drew⟩
    · obtain rfl : i = l.length := by omega
      go_wp2_with fail
      go_ret
      exact ⟨rfl, hU1.tr hUr⟩
theorem readF_le (b : List UInt8) (first : Int) : ∀ (f : Nat) (s : List (List Mv) × Nat), s.2 ≤ b.length → (readF b first f s).2 ≤ b.length
  | 0, s, h => h
  | f + 1, s, h => by
    unfold readF
    rw [next_one]
    have hn := one_n (b.drop s.2) (first + s.1.length)
    rw [List.length_drop] at hn
    split
    · exact h
    · rename_i s' e
      split at e
      · simp at e
      · injection e with e
        refine readF_le b first f s' ?_
        rw [← e]
        simp only
        omega
theorem readV_le (b : List UInt8) (first : Int) : (readV b first).2 ≤ b.length := readF_le b first _ _ (Nat.zero_le _)
theorem readF_few (b : List UInt8) (first : Int) : ∀ (f : Nat) (s : List (List Mv) × Nat), (∀ r ∈ s.1, r.length ≤ 255) → ∀ r ∈ (readF b first f s).1, r.length ≤ 255
  | 0, s, h => h
  | f + 1, s, h => by
    unfold readF nextV
    split
    · exact h
    · rename_i s' e
      refine readF_few b first f s' ?_
      split at e
      · simp at e
      · split at e
        · simp at e
        · injection e with e
          rw [← e]
          intro r hr
          rcases List.mem_append.1 hr with hr | hr
          · exact h r hr
          · rw [List.mem_singleton.1 hr]
            show (parsed _).1.length ≤ 255
            unfold parsed
            rw [bodyN_len]
            exact many_le _
theorem readV_few (b : List UInt8) (first : Int) : ∀ r ∈ (readV b first).1, r.length ≤ 255 := readF_few b first _ _ (fun r hr => by simp at hr)
end Go.Proofs.Ythppheklnplljaa.Delta
