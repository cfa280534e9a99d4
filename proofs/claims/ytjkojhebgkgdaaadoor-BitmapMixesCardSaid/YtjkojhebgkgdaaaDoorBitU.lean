/-
  The same numbers; a set that has just the reference's numbers. Conditions: each lemma's own.
-/
import Derived.Test.YtjkojhebgkgdaaaDoorBitT
namespace Go.Proofs.YtjkojhebgkgdaaaDoor.Bit
open Go.RowKit Go.Proofs.YtjkojhebgkgdaaaDoor.Base Go.Proofs.YtjkojhebgkgdaaaDoor.Ints Go.Proofs.YtjkojhebgkgdaaaDoor.Ecc
set_option linter.unusedVariables false
set_option linter.unusedSimpArgs false
set_option maxRecDepth 100000
theorem sameC (A B : Option Addr) (l : List Int) (ca cb : Nat) (w : World) (hA : Arg w A 1 ic l) (hB : Arg w B 1 ic l) (hl : l.length ≤ 1000000) : Calls Tryd.prog 12 #[.slice A l.length ca, .slice B l.length cb] w (RetB true w) := by
  obtain ⟨n, hn⟩ : ∃ n, n = l.length := ⟨_, rfl⟩
  have hnH := Lib.hid hn
  rw [← hn] at hl ⊢
  clear hn
  go_enter Tryd.func12, Tryd.ntmps12
  go_wp2_with fail
  go_loopw [13] (fun s13 wr => ∃ i : Nat, i ≤ n ∧ s13 = .int .i64 (i : Int) ∧ Upd Nil w wr) (fun s13 _ => n - (intOf s13).toNat)
  case atStart => exact ⟨0, by omega, by go_num, Upd.refl _ _⟩
  case round =>
    obtain ⟨i, hi, rfl, hU⟩ := hrel
    by_cases hlt : i < n
    · have hI : (i : Int) < (n : Int) := by omega
      obtain ⟨ga, oa, rfl, hga, hca⟩ := ic_cell (hA.upd hU) (i := i) (by rw [← hnH.out]; exact hlt)
      obtain ⟨gb, ob, rfl, hgb, hcb⟩ := ic_cell (hB.upd hU) (i := i) (by rw [← hnH.out]; exact hlt)
      have hil : i < l.length := by rw [← hnH.out]; exact hlt
      generalize l[i] = x at *
      have d1 : ∀ w', Upd Nil wr.drew w' → w'.cell? ⟨ga, oa + i, none⟩ = some (.int .i64 x) := fun w' u => by rw [u.cell (p := ⟨ga, oa + i, none⟩) hga (fun h => h)]; exact hca
      have d2 : ∀ w', Upd Nil wr.drew w' → w'.cell? ⟨gb, ob + i, none⟩ = some (.int .i64 x) := fun w' u => by rw [u.cell (p := ⟨gb, ob + i, none⟩) hgb (fun h => h)]; exact hcb
      clear hca hcb hil
      go_upto_region 6 with fail
      refine wp_region_lex Nil [0, 1, 2, 3, 4, 5, 6, 7, 8] (by kernel_rfl) (by kernel_rfl) rfl (by kernel_rfl) ?_
      simp only [inOrder, List.filterMap_cons, List.filterMap_nil, List.getElem?_cons_zero, List.getElem?_cons_succ]
      try simp only [Act.put, List.setIfInBounds_toArray, List.set_cons_zero, List.set_cons_succ]
      repeat
        first
        | (refine lex_pure (v := ?_) rfl rfl ?_ ?_
           rotate_left
           · intro w' hU'
             go_simp
             try with_reducible rfl
           try simp only [Act.put, List.setIfInBounds_toArray, List.set_cons_zero, List.set_cons_succ])
        | (refine lex_skip rfl ?_
           try simp only [Act.put, List.setIfInBounds_toArray, List.set_cons_zero, List.set_cons_succ])
      refine lex_done ?_
      go_wp2_with fail
      go_roundw
      case measure => simp [intOf]; omega
      case rel => exact ⟨i + 1, by omega, by go_num, hU.drew⟩
    · obtain rfl : i = n := by omega
      go_wp2_with fail
      go_ret
      exact ⟨rfl, hU⟩
set_option maxHeartbeats 8000000 in
theorem likeC (L : List Bool) (g gb : Nat) (A : Option Addr) (c : Nat) (w : World) (h : SetAt w g gb L) (hA : Arg w A 1 bc1 L) (hl : L.length ≤ 4096) (hT : Tab w) : Calls Tryd.prog 9 #[.pointer (some ⟨g, 0, none⟩), .slice A L.length c] w (RetB true w) := by
  have hd := (Upd.refl Nil w).drew
  have k1 := sizeC L g gb w.drew (h.upd0 hd)
  have k2 := fun w' (u : Upd Nil w.drew w') => allC L g gb w' (h.upd0 (hd.tr u)) hl (hT.upd (hd.tr u))
  have k3 := fun w' (u : Upd Nil w.drew w') => rallC L A c w' (hA.upd (hd.tr u)) hl
  have k4 := fun w' (u : Upd Nil w.drew w') => lenC L g gb w' (h.upd0 (hd.tr u)) hl
  have k5 := fun w' (u : Upd Nil w.drew w') => bytesC L g gb w' (h.upd0 (hd.tr u)) hl
  have k6 := fun w' (u : Upd Nil w.drew w') => rbytesC L A c w' (hA.upd (hd.tr u)) hl
  have hal := allI_len L
  have hup : (allL L).length ≤ 4096 := Nat.le_trans (upto_len L L.length) hl
  generalize hm : L.length = m at *
  clear hm
  generalize hnn : (allL L).length = nn at *
  clear hnn
  go_enter Tryd.func9, Tryd.ntmps9
  go_upto_region 1 with fail
  refine wp_region_lex Nil [0, 2, 3, 1, 4, 5, 6, 8, 7, 9, 10, 11, 12, 13, 15, 14, 16, 17, 18, 19, 20, 21, 24, 22, 23, 25, 26, 27, 28, 29] (by kernel_rfl) (by kernel_rfl) rfl (by kernel_rfl) ?_
  simp only [inOrder, List.filterMap_cons, List.filterMap_nil, List.getElem?_cons_zero, List.getElem?_cons_succ]
  try simp only [Act.put, List.setIfInBounds_toArray, List.set_cons_zero, List.set_cons_succ]
  repeat
    first
    | (refine lex_pure (v := ?_) rfl rfl ?_ ?_
       rotate_left
       · intro w' hU'
         go_simp
         try with_reducible rfl
       try simp only [Act.put, List.setIfInBounds_toArray, List.set_cons_zero, List.set_cons_succ])
    | (refine lex_skip rfl ?_
       try simp only [Act.put, List.setIfInBounds_toArray, List.set_cons_zero, List.set_cons_succ])
  refine lex_fn (f := 14) (args := _) rfl rfl (by go_simp) (k1.mono ?_)
  rintro e w1 ⟨rfl, rfl⟩
  refine ⟨_, rfl, Upd.refl _ _, ?_⟩
  try simp only [Act.put, List.setIfInBounds_toArray, List.set_cons_zero, List.set_cons_succ]
  repeat
    first
    | (refine lex_pure (v := ?_) rfl rfl ?_ ?_
       rotate_left
       · intro w' hU'
         go_simp
         try with_reducible rfl
       try simp only [Act.put, List.setIfInBounds_toArray, List.set_cons_zero, List.set_cons_succ])
    | (refine lex_skip rfl ?_
       try simp only [Act.put, List.setIfInBounds_toArray, List.set_cons_zero, List.set_cons_succ])
  refine lex_fn (f := 13) (args := _) rfl rfl (by go_simp) ((k2 _ (Upd.refl _ _)).mono ?_)
  rintro e w2 ⟨v2, rfl, hv2, hU2⟩
  obtain ⟨A2, c2, rfl, _⟩ := hv2.form
  rw [hal] at hv2 ⊢
  refine ⟨_, rfl, hU2, ?_⟩
  try simp only [Act.put, List.setIfInBounds_toArray, List.set_cons_zero, List.set_cons_succ]
  repeat
    first
    | (refine lex_pure (v := ?_) rfl rfl ?_ ?_
       rotate_left
       · intro w' hU'
         go_simp
         try with_reducible rfl
       try simp only [Act.put, List.setIfInBounds_toArray, List.set_cons_zero, List.set_cons_succ])
    | (refine lex_skip rfl ?_
       try simp only [Act.put, List.setIfInBounds_toArray, List.set_cons_zero, List.set_cons_succ])
  refine lex_fn (f := 32) (args := _) rfl rfl (by go_simp) ((k3 _ hU2).mono ?_)
  rintro e w3 ⟨v3, rfl, hv3, hU3⟩
  obtain ⟨A3, c3, rfl, _⟩ := hv3.form
  rw [hal] at hv3 ⊢
  refine ⟨_, rfl, hU3, ?_⟩
  have ks := sameC A2 A3 (allI L) c2 c3 w3 ((hv2.upd0 hU3).cells ic_len (by omega)) (hv3.cells ic_len (by omega)) (by omega)
  rw [hal] at ks
  try simp only [Act.put, List.setIfInBounds_toArray, List.set_cons_zero, List.set_cons_succ]
  repeat
    first
    | (refine lex_pure (v := ?_) rfl rfl ?_ ?_
       rotate_left
       · intro w' hU'
         go_simp
         try with_reducible rfl
       try simp only [Act.put, List.setIfInBounds_toArray, List.set_cons_zero, List.set_cons_succ])
    | (refine lex_skip rfl ?_
       try simp only [Act.put, List.setIfInBounds_toArray, List.set_cons_zero, List.set_cons_succ])
  refine lex_fn (f := 12) (args := _) rfl rfl (by go_simp) (ks.mono ?_)
  rintro e w4 ⟨rfl, hU4⟩
  refine ⟨_, rfl, hU4, ?_⟩
  have hU04 := (hU2.tr hU3).tr hU4
  clear ks hv2 hv3
  try simp only [Act.put, List.setIfInBounds_toArray, List.set_cons_zero, List.set_cons_succ]
  repeat
    first
    | (refine lex_pure (v := ?_) rfl rfl ?_ ?_
       rotate_left
       · intro w' hU'
         go_simp
         try with_reducible rfl
       try simp only [Act.put, List.setIfInBounds_toArray, List.set_cons_zero, List.set_cons_succ])
    | (refine lex_skip rfl ?_
       try simp only [Act.put, List.setIfInBounds_toArray, List.set_cons_zero, List.set_cons_succ])
  refine lex_fn (f := 22) (args := _) rfl rfl (by go_simp) ((k4 _ hU04).mono ?_)
  rintro e w5 ⟨rfl, rfl⟩
  refine ⟨_, rfl, Upd.refl _ _, ?_⟩
  try simp only [Act.put, List.setIfInBounds_toArray, List.set_cons_zero, List.set_cons_succ]
  repeat
    first
    | (refine lex_pure (v := ?_) rfl rfl ?_ ?_
       rotate_left
       · intro w' hU'
         go_simp
         try with_reducible rfl
       try simp only [Act.put, List.setIfInBounds_toArray, List.set_cons_zero, List.set_cons_succ])
    | (refine lex_skip rfl ?_
       try simp only [Act.put, List.setIfInBounds_toArray, List.set_cons_zero, List.set_cons_succ])
  refine lex_fn (f := 32) (args := _) rfl rfl (by go_simp) ((k3 _ hU04).mono ?_)
  rintro e w6 ⟨v6, rfl, hv6, hU6⟩
  obtain ⟨A6, c6, rfl, _⟩ := hv6.form
  rw [hal]
  refine ⟨_, rfl, hU6, ?_⟩
  have hU06 := hU04.tr hU6
  clear hv6
  try simp only [Act.put, List.setIfInBounds_toArray, List.set_cons_zero, List.set_cons_succ]
  repeat
    first
    | (refine lex_pure (v := ?_) rfl rfl ?_ ?_
       rotate_left
       · intro w' hU'
         go_simp
         try with_reducible rfl
       try simp only [Act.put, List.setIfInBounds_toArray, List.set_cons_zero, List.set_cons_succ])
    | (refine lex_skip rfl ?_
       try simp only [Act.put, List.setIfInBounds_toArray, List.set_cons_zero, List.set_cons_succ])
  refine lex_fn (f := 11) (args := _) rfl rfl (by go_simp) ((k5 _ hU06).mono ?_)
  rintro e w7 ⟨v7, rfl, hv7, hU7⟩
  obtain ⟨A7, c7, rfl, _⟩ := hv7.form
  refine ⟨_, rfl, hU7, ?_⟩
  have hU07 := hU06.tr hU7
  have s7 := fun w' (u : Upd Nil w7 w') => cvS ((hv7.cells bc_len (by omega)).upd u) c7
  try simp only [Act.put, List.setIfInBounds_toArray, List.set_cons_zero, List.set_cons_succ]
  repeat
    first
    | (refine lex_pure (v := ?_) rfl rfl ?_ ?_
       rotate_left
       · intro w' hU'
         go_simp
         try with_reducible rfl
       try simp only [Act.put, List.setIfInBounds_toArray, List.set_cons_zero, List.set_cons_succ])
    | (refine lex_skip rfl ?_
       try simp only [Act.put, List.setIfInBounds_toArray, List.set_cons_zero, List.set_cons_succ])
  refine lex_fn (f := 31) (args := _) rfl rfl (by go_simp) ((k6 _ hU07).mono ?_)
  rintro e w8 ⟨v8, rfl, hv8, hU8⟩
  obtain ⟨A8, c8, rfl, _⟩ := hv8.form
  refine ⟨_, rfl, hU8, ?_⟩
  have s8 := fun w' (u : Upd Nil w8 w') => cvS ((hv8.cells bc_len (by omega)).upd u) c8
  try simp only [Act.put, List.setIfInBounds_toArray, List.set_cons_zero, List.set_cons_succ]
  repeat
    first
    | (refine lex_pure (v := ?_) rfl rfl ?_ ?_
       rotate_left
       · intro w' hU'
         go_simp
         try with_reducible rfl
       try simp only [Act.put, List.setIfInBounds_toArray, List.set_cons_zero, List.set_cons_succ])
    | (refine lex_skip rfl ?_
       try simp only [Act.put, List.setIfInBounds_toArray, List.set_cons_zero, List.set_cons_succ])
  refine lex_done ?_
  go_wp2_with fail
  go_ret
  exact ⟨rfl, (hd.tr hU07).tr hU8⟩
end Go.Proofs.YtjkojhebgkgdaaaDoor.Bit
