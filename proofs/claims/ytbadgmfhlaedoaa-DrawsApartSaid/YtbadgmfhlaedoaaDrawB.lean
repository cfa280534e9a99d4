/-
  Draws: the program's Next, Ops, Faults. Conditions: what the draws hold.
-/
import Derived.Test.YtbadgmfhlaedoaaDrawA
import Derived.Test.YtbadgmfhlaedoaaLexU
namespace Go.Proofs.Ytbadgmfhlaedoaa.Draw
open Go.RowKit Go.Proofs.Ytbadgmfhlaedoaa.Base Go.Proofs.Ytbadgmfhlaedoaa.Ints
set_option linter.unusedVariables false
set_option linter.unusedSimpArgs false
/-- One cell alone may turn. -/
def Spot (b o : Nat) (w w' : World) : Prop := Upd (Only b) w w' ∧ ∀ i, i ≠ o → w'.cell? ⟨b, i, none⟩ = w.cell? ⟨b, i, none⟩
theorem Spot.refl (b o : Nat) (w : World) : Spot b o w w := ⟨Upd.refl _ _, fun _ _ => rfl⟩
theorem Spot.trans (b o : Nat) (x y z : World) (h : Spot b o x y) (k : Spot b o y z) : Spot b o x z := ⟨h.1.tr k.1, fun i hi => (k.2 i hi).trans (h.2 i hi)⟩
def up {α : Type} (f : Nat → α) (k : Nat) (x : α) : Nat → α := fun i => if i = k then x else f i
def drC (v : Nat → Value) (op bad : Nat → Int) : Array Value :=
  #[v 0, .int .i64 (op 0), .int .i64 (bad 0), v 1, .int .i64 (op 1), .int .i64 (bad 1), v 2, .int .i64 (op 2), .int .i64 (bad 2), v 3, .int .i64 (op 3), .int .i64 (bad 3)]
structure DrM (base : Nat) (w : World) (b : Nat) (v : Nat → Value) (fa : Nat → List Int) (op bad : Nat → Int) : Prop where
  blk : w.heap[b]? = some (.cells (drC v op bad) 47 (0, 0))
  sl : ∀ i, i < 4 → Sl w base 3 1 ic (v i) (fa i)
theorem DrM.upd {base : Nat} {w w' : World} {b : Nat} {v : Nat → Value} {fa : Nat → List Int} {op bad : Nat → Int} (h : DrM base w b v fa op bad) (u : Upd Nil w w') : DrM base w' b v fa op bad := ⟨u.blk h.blk (fun h => h), fun i hi => (h.sl i hi).upd0 u⟩
/-- The block is written to, nothing else. -/
theorem DrM.own {base : Nat} {w w' : World} {b : Nat} {v : Nat → Value} {fa : Nat → List Int} {op bad op' bad' : Nat → Int} (h : DrM base w b v fa op bad) (u : Upd (Only b) w w') (hb : w'.heap[b]? = some (.cells (drC v op' bad') 47 (0, 0))) : DrM base w' b v fa op' bad' :=
  ⟨hb, fun i hi => (h.sl i hi).upd u (fun k hk e => (h.sl i hi).ne h.blk (by decide) k hk e)⟩
/-- Another block of draws is written to. -/
theorem DrM.far {base : Nat} {w w' : World} {b b' : Nat} {cs : Array Value} {t : TypeId} {v : Nat → Value} {fa : Nat → List Int} {op bad : Nat → Int} (h : DrM base w b v fa op bad) (u : Upd (Only b') w w') (hb : w.heap[b']? = some (.cells cs t (0, 0))) (ht : 3 ≠ t) (hne : b ≠ b') : DrM base w' b v fa op bad :=
  ⟨u.blk h.blk hne, fun i hi => (h.sl i hi).upd u (fun k hk e => (h.sl i hi).ne hb ht k hk e)⟩
theorem next_nil (k : Int) (w : World) : Calls Try.prog 8 #[.pointer none, .int .i64 k] w (RetB false w) := by
  have ko := fun w => of_nil k w
  go_enter Try.func8, Try.ntmps8
  go_wp2_with fail
  refine (ko _).mono ?_
  rintro e w1 ⟨rfl, rfl⟩
  go_wp2_with fail
  refine wp_region_lexV (Spot 0 0) (Spot.refl 0 0) (Spot.trans 0 0) [0, 1, 2, 3, 4, 5, 6, 7, 8, 9, 10, 11, 12, 13] (by kernel_rfl) (by kernel_rfl) rfl (by kernel_rfl) ?_
  simp only [inOrder, List.filterMap_cons, List.filterMap_nil, List.getElem?_cons_zero, List.getElem?_cons_succ]
  try simp only [Act.put, List.setIfInBounds_toArray, List.set_cons_zero, List.set_cons_succ]
  repeat
    first
    | (refine lexV_pure (v := ?_) rfl rfl ?_ ?_
       rotate_left
       · intro w' hU'
         go_simp
         try with_reducible rfl
       try simp only [Act.put, List.setIfInBounds_toArray, List.set_cons_zero, List.set_cons_succ])
    | (refine lexV_skip rfl ?_
       try simp only [Act.put, List.setIfInBounds_toArray, List.set_cons_zero, List.set_cons_succ])
  refine lexV_done ?_
  go_wp2_with fail
  go_ret
  exact ⟨rfl, (Upd.refl _ _).drew⟩
theorem next_no (b : Nat) (k : Int) (h : k < 0 ∨ 4 ≤ k) (w : World) : Calls Try.prog 8 #[.pointer (some ⟨b, 0, none⟩), .int .i64 k] w (RetB false w) := by
  have ko := fun w => of_no b k h w
  go_enter Try.func8, Try.ntmps8
  go_wp2_with fail
  refine (ko _).mono ?_
  rintro e w1 ⟨rfl, rfl⟩
  go_wp2_with fail
  refine wp_region_lexV (Spot 0 0) (Spot.refl 0 0) (Spot.trans 0 0) [0, 1, 2, 3, 4, 5, 6, 7, 8, 9, 10, 11, 12, 13] (by kernel_rfl) (by kernel_rfl) rfl (by kernel_rfl) ?_
  simp only [inOrder, List.filterMap_cons, List.filterMap_nil, List.getElem?_cons_zero, List.getElem?_cons_succ]
  try simp only [Act.put, List.setIfInBounds_toArray, List.set_cons_zero, List.set_cons_succ]
  repeat
    first
    | (refine lexV_pure (v := ?_) rfl rfl ?_ ?_
       rotate_left
       · intro w' hU'
         go_simp
         try with_reducible rfl
       try simp only [Act.put, List.setIfInBounds_toArray, List.set_cons_zero, List.set_cons_succ])
    | (refine lexV_skip rfl ?_
       try simp only [Act.put, List.setIfInBounds_toArray, List.set_cons_zero, List.set_cons_succ])
  refine lexV_done ?_
  go_wp2_with fail
  go_ret
  exact ⟨rfl, (Upd.refl _ _).drew⟩
def NextR (base b : Nat) (v : Nat → Value) (fa : Nat → List Int) (op bad : Nat → Int) (k : Nat) (w : World) (e : Ending) (w' : World) : Prop :=
  e = .returned (.bool (decide (op k + 1 ∈ fa k))) ∧ DrM base w' b v fa (up op k (op k + 1)) (if op k + 1 ∈ fa k then up bad k (bad k + 1) else bad) ∧ Upd (Only b) w w'
set_option maxHeartbeats 4000000 in
set_option maxRecDepth 100000 in
theorem next0 (base b : Nat) (v : Nat → Value) (fa : Nat → List Int) (op bad : Nat → Int) (w : World) (h : DrM base w b v fa op bad) (ho : 0 ≤ op 0 ∧ op 0 < 1000000) (hb : 0 ≤ bad 0 ∧ bad 0 < 1000000) :
    Calls Try.prog 8 #[.pointer (some ⟨b, 0, none⟩), .int .i64 0] w (NextR base b v fa op bad 0 w) := by
  have hbk := h.blk
  have ko : Calls Try.prog 14 #[.pointer (some ⟨b, 0, none⟩), .int .i64 0] w fun e w' => e = .returned (.pointer (some ⟨b, 0, none⟩)) ∧ w = w' := of_yes b 0 (by omega) w _ (blk_cell hbk 0)
  obtain ⟨A, c, hv, hc⟩ := (h.sl 0 (by omega)).form
  have hsl := h.sl 0 (by omega)
  have hmx := hsl.max
  rw [hv] at hsl
  have hA := hsl.cells ic_len (by omega)
  have hdw : w.drew.heap[b]? = some (.cells (drC v op bad) 47 (0, 0)) := hbk
  have x0 : ∀ w', Spot b 1 w.drew w' → w'.cell? ⟨b, 0, none⟩ = some (.slice A (fa 0).length c) := fun w' u => (u.2 0 (by decide)).trans ((blk_cell hdw 0).trans (by rw [← hv]; rfl))
  have y0 : w.drew.cell? ⟨b, 1, none⟩ = some (.int .i64 (op 0)) := blk_cell hdw 1
  have z0 : w.drew.frozen? ⟨b, 1, none⟩ = false := blk_frozen hdw 1
  have ka := addI ⟨b, 1, none⟩ (op 0) w.drew y0 z0 ho
  have hbl : (w.drew.setCell ⟨b, 1, none⟩ (.int .i64 (op 0 + 1))).heap[b]? = some (.cells (drC v (up op 0 (op 0 + 1)) bad) 47 (0, 0)) := blk_put hdw 1 _ rfl
  have hUs : Upd (Only b) w.drew (w.drew.setCell ⟨b, 1, none⟩ (.int .i64 (op 0 + 1))) := (Upd.refl _ _).set1 _
  have hD : DrM base (w.drew.setCell ⟨b, 1, none⟩ (.int .i64 (op 0 + 1))) b v fa (up op 0 (op 0 + 1)) bad := (h.upd ((Upd.refl _ _).drew)).own hUs hbl
  have hsl2 := hD.sl 0 (by omega)
  rw [hv] at hsl2
  have kc := contains A c (fa 0) (op 0 + 1) _ (hsl2.cells ic_len (by omega)) (by unfold maxLen; omega)
  have hsp : Spot b 1 w.drew (w.drew.setCell ⟨b, 1, none⟩ (.int .i64 (op 0 + 1))) := ⟨hUs, fun i hi => World.cell?_setCell_other _ _ _ _ (by simp only [ne_eq, Addr.mk.injEq, true_and, and_true]; omega)⟩
  generalize w.drew.setCell ⟨b, 1, none⟩ (.int .i64 (op 0 + 1)) = w2 at *
  clear hsl hsl2 hA hv
  by_cases hm : op 0 + 1 ∈ fa 0
  · have hmd : decide (op 0 + 1 ∈ fa 0) = true := decide_eq_true hm
    rw [hmd] at kc
    have hR : Hid (NextR base b v fa op bad 0 w = fun e w' => e = .returned (.bool true) ∧ DrM base w' b v fa (up op 0 (op 0 + 1)) (up bad 0 (bad 0 + 1)) ∧ Upd (Only b) w w') := by
      show _ = _
      funext e w'
      unfold NextR
      rw [hmd, if_pos hm]
    rw [hR.out]
    have y1 : w2.cell? ⟨b, 2, none⟩ = some (.int .i64 (bad 0)) := blk_cell hbl 2
    have z1 : w2.frozen? ⟨b, 2, none⟩ = false := blk_frozen hbl 2
    have kb := addI ⟨b, 2, none⟩ (bad 0) w2 y1 z1 hb
    have hbl2 : (w2.setCell ⟨b, 2, none⟩ (.int .i64 (bad 0 + 1))).heap[b]? = some (.cells (drC v (up op 0 (op 0 + 1)) (up bad 0 (bad 0 + 1))) 47 (0, 0)) := blk_put hbl 2 _ rfl
    have hUs2 : Upd (Only b) w2 (w2.setCell ⟨b, 2, none⟩ (.int .i64 (bad 0 + 1))) := (Upd.refl _ _).set1 _
    have hD2 := hD.own hUs2 hbl2
    generalize w2.setCell ⟨b, 2, none⟩ (.int .i64 (bad 0 + 1)) = w3 at *
    have hUn : Upd (Only b) w w3 := ((Upd.refl _ w).drew.tr hUs).tr hUs2
    clear hm hmd y1 z1
    go_enter Try.func8, Try.ntmps8
    go_wp2_with fail
    refine ko.mono ?_
    rintro e w1 ⟨rfl, rfl⟩
    go_wp2_with fail
    refine wp_region_lexV (Spot b 1) (Spot.refl b 1) (Spot.trans b 1) [0, 1, 2, 3, 4, 5, 6, 7, 8, 9, 10, 11, 12, 13] (by kernel_rfl) (by kernel_rfl) rfl (by kernel_rfl) ?_
    simp only [inOrder, List.filterMap_cons, List.filterMap_nil, List.getElem?_cons_zero, List.getElem?_cons_succ]
    try simp only [Act.put, List.setIfInBounds_toArray, List.set_cons_zero, List.set_cons_succ]
    repeat
      first
      | (refine lexV_pure (v := ?_) rfl rfl ?_ ?_
         rotate_left
         · intro w' hU'
           go_simp
           try with_reducible rfl
         try simp only [Act.put, List.setIfInBounds_toArray, List.set_cons_zero, List.set_cons_succ])
      | (refine lexV_skip rfl ?_
         try simp only [Act.put, List.setIfInBounds_toArray, List.set_cons_zero, List.set_cons_succ])
    refine lexV_fn (f := 16) (args := _) rfl rfl (by go_simp) (ka.mono ?_)
    rintro e w' ⟨rfl, rfl⟩
    refine ⟨_, rfl, hsp, ?_⟩
    try simp only [Act.put, List.setIfInBounds_toArray, List.set_cons_zero, List.set_cons_succ]
    repeat
      first
      | (refine lexV_pure (v := ?_) rfl rfl ?_ ?_
         rotate_left
         · intro w' hU'
           go_simp
           try with_reducible rfl
         try simp only [Act.put, List.setIfInBounds_toArray, List.set_cons_zero, List.set_cons_succ])
      | (refine lexV_skip rfl ?_
         try simp only [Act.put, List.setIfInBounds_toArray, List.set_cons_zero, List.set_cons_succ])
    refine lexV_fn (f := 15) (args := _) rfl rfl (by go_simp) (kc.mono ?_)
    rintro e w' ⟨rfl, rfl⟩
    refine ⟨_, rfl, Spot.refl _ _ _, ?_⟩
    try simp only [Act.put, List.setIfInBounds_toArray, List.set_cons_zero, List.set_cons_succ]
    repeat
      first
      | (refine lexV_pure (v := ?_) rfl rfl ?_ ?_
         rotate_left
         · intro w' hU'
           go_simp
           try with_reducible rfl
         try simp only [Act.put, List.setIfInBounds_toArray, List.set_cons_zero, List.set_cons_succ])
      | (refine lexV_skip rfl ?_
         try simp only [Act.put, List.setIfInBounds_toArray, List.set_cons_zero, List.set_cons_succ])
    refine lexV_done ?_
    go_wp2_with fail
    refine kb.mono ?_
    rintro e w' ⟨rfl, rfl⟩
    go_wp2_with fail
    go_ret
    exact ⟨rfl, hD2, hUn⟩
  · have hmd : decide (op 0 + 1 ∈ fa 0) = false := decide_eq_false hm
    rw [hmd] at kc
    have hR : Hid (NextR base b v fa op bad 0 w = fun e w' => e = .returned (.bool false) ∧ DrM base w' b v fa (up op 0 (op 0 + 1)) bad ∧ Upd (Only b) w w') := by
      show _ = _
      funext e w'
      unfold NextR
      rw [hmd, if_neg hm]
    rw [hR.out]
    have hUn : Upd (Only b) w w2 := (Upd.refl _ w).drew.tr hUs
    clear hm hmd
    go_enter Try.func8, Try.ntmps8
    go_wp2_with fail
    refine ko.mono ?_
    rintro e w1 ⟨rfl, rfl⟩
    go_wp2_with fail
    refine wp_region_lexV (Spot b 1) (Spot.refl b 1) (Spot.trans b 1) [0, 1, 2, 3, 4, 5, 6, 7, 8, 9, 10, 11, 12, 13] (by kernel_rfl) (by kernel_rfl) rfl (by kernel_rfl) ?_
    simp only [inOrder, List.filterMap_cons, List.filterMap_nil, List.getElem?_cons_zero, List.getElem?_cons_succ]
    try simp only [Act.put, List.setIfInBounds_toArray, List.set_cons_zero, List.set_cons_succ]
    repeat
      first
      | (refine lexV_pure (v := ?_) rfl rfl ?_ ?_
         rotate_left
         · intro w' hU'
           go_simp
           try with_reducible rfl
         try simp only [Act.put, List.setIfInBounds_toArray, List.set_cons_zero, List.set_cons_succ])
      | (refine lexV_skip rfl ?_
         try simp only [Act.put, List.setIfInBounds_toArray, List.set_cons_zero, List.set_cons_succ])
    refine lexV_fn (f := 16) (args := _) rfl rfl (by go_simp) (ka.mono ?_)
    rintro e w' ⟨rfl, rfl⟩
    refine ⟨_, rfl, hsp, ?_⟩
    try simp only [Act.put, List.setIfInBounds_toArray, List.set_cons_zero, List.set_cons_succ]
    repeat
      first
      | (refine lexV_pure (v := ?_) rfl rfl ?_ ?_
         rotate_left
         · intro w' hU'
           go_simp
           try with_reducible rfl
         try simp only [Act.put, List.setIfInBounds_toArray, List.set_cons_zero, List.set_cons_succ])
      | (refine lexV_skip rfl ?_
         try simp only [Act.put, List.setIfInBounds_toArray, List.set_cons_zero, List.set_cons_succ])
    refine lexV_fn (f := 15) (args := _) rfl rfl (by go_simp) (kc.mono ?_)
    rintro e w' ⟨rfl, rfl⟩
    refine ⟨_, rfl, Spot.refl _ _ _, ?_⟩
    try simp only [Act.put, List.setIfInBounds_toArray, List.set_cons_zero, List.set_cons_succ]
    repeat
      first
      | (refine lexV_pure (v := ?_) rfl rfl ?_ ?_
         rotate_left
         · intro w' hU'
           go_simp
           try with_reducible rfl
         try simp only [Act.put, List.setIfInBounds_toArray, List.set_cons_zero, List.set_cons_succ])
      | (refine lexV_skip rfl ?_
         try simp only [Act.put, List.setIfInBounds_toArray, List.set_cons_zero, List.set_cons_succ])
    refine lexV_done ?_
    go_wp2_with fail
    go_ret
    exact ⟨rfl, hD, hUn⟩
set_option maxHeartbeats 4000000 in
set_option maxRecDepth 100000 in
theorem next1 (base b : Nat) (v : Nat → Value) (fa : Nat → List Int) (op bad : Nat → Int) (w : World) (h : DrM base w b v fa op bad) (ho : 0 ≤ op 1 ∧ op 1 < 1000000) (hb : 0 ≤ bad 1 ∧ bad 1 < 1000000) :
    Calls Try.prog 8 #[.pointer (some ⟨b, 0, none⟩), .int .i64 1] w (NextR base b v fa op bad 1 w) := by
  have hbk := h.blk
  have ko : Calls Try.prog 14 #[.pointer (some ⟨b, 0, none⟩), .int .i64 1] w fun e w' => e = .returned (.pointer (some ⟨b, 3, none⟩)) ∧ w = w' := of_yes b 1 (by omega) w _ (blk_cell hbk 0)
  obtain ⟨A, c, hv, hc⟩ := (h.sl 1 (by omega)).form
  have hsl := h.sl 1 (by omega)
  have hmx := hsl.max
  rw [hv] at hsl
  have hA := hsl.cells ic_len (by omega)
  have hdw : w.drew.heap[b]? = some (.cells (drC v op bad) 47 (0, 0)) := hbk
  have x0 : ∀ w', Spot b 4 w.drew w' → w'.cell? ⟨b, 3, none⟩ = some (.slice A (fa 1).length c) := fun w' u => (u.2 3 (by decide)).trans ((blk_cell hdw 3).trans (by rw [← hv]; rfl))
  have y0 : w.drew.cell? ⟨b, 4, none⟩ = some (.int .i64 (op 1)) := blk_cell hdw 4
  have z0 : w.drew.frozen? ⟨b, 4, none⟩ = false := blk_frozen hdw 4
  have ka := addI ⟨b, 4, none⟩ (op 1) w.drew y0 z0 ho
  have hbl : (w.drew.setCell ⟨b, 4, none⟩ (.int .i64 (op 1 + 1))).heap[b]? = some (.cells (drC v (up op 1 (op 1 + 1)) bad) 47 (0, 0)) := blk_put hdw 4 _ rfl
  have hUs : Upd (Only b) w.drew (w.drew.setCell ⟨b, 4, none⟩ (.int .i64 (op 1 + 1))) := (Upd.refl _ _).set1 _
  have hD : DrM base (w.drew.setCell ⟨b, 4, none⟩ (.int .i64 (op 1 + 1))) b v fa (up op 1 (op 1 + 1)) bad := (h.upd ((Upd.refl _ _).drew)).own hUs hbl
  have hsl2 := hD.sl 1 (by omega)
  rw [hv] at hsl2
  have kc := contains A c (fa 1) (op 1 + 1) _ (hsl2.cells ic_len (by omega)) (by unfold maxLen; omega)
  have hsp : Spot b 4 w.drew (w.drew.setCell ⟨b, 4, none⟩ (.int .i64 (op 1 + 1))) := ⟨hUs, fun i hi => World.cell?_setCell_other _ _ _ _ (by simp only [ne_eq, Addr.mk.injEq, true_and, and_true]; omega)⟩
  generalize w.drew.setCell ⟨b, 4, none⟩ (.int .i64 (op 1 + 1)) = w2 at *
  clear hsl hsl2 hA hv
  by_cases hm : op 1 + 1 ∈ fa 1
  · have hmd : decide (op 1 + 1 ∈ fa 1) = true := decide_eq_true hm
    rw [hmd] at kc
    have hR : Hid (NextR base b v fa op bad 1 w = fun e w' => e = .returned (.bool true) ∧ DrM base w' b v fa (up op 1 (op 1 + 1)) (up bad 1 (bad 1 + 1)) ∧ Upd (Only b) w w') := by
      show _ = _
      funext e w'
      unfold NextR
      rw [hmd, if_pos hm]
    rw [hR.out]
    have y1 : w2.cell? ⟨b, 5, none⟩ = some (.int .i64 (bad 1)) := blk_cell hbl 5
    have z1 : w2.frozen? ⟨b, 5, none⟩ = false := blk_frozen hbl 5
    have kb := addI ⟨b, 5, none⟩ (bad 1) w2 y1 z1 hb
    have hbl2 : (w2.setCell ⟨b, 5, none⟩ (.int .i64 (bad 1 + 1))).heap[b]? = some (.cells (drC v (up op 1 (op 1 + 1)) (up bad 1 (bad 1 + 1))) 47 (0, 0)) := blk_put hbl 5 _ rfl
    have hUs2 : Upd (Only b) w2 (w2.setCell ⟨b, 5, none⟩ (.int .i64 (bad 1 + 1))) := (Upd.refl _ _).set1 _
    have hD2 := hD.own hUs2 hbl2
    generalize w2.setCell ⟨b, 5, none⟩ (.int .i64 (bad 1 + 1)) = w3 at *
    have hUn : Upd (Only b) w w3 := ((Upd.refl _ w).drew.tr hUs).tr hUs2
    clear hm hmd y1 z1
    go_enter Try.func8, Try.ntmps8
    go_wp2_with fail
    refine ko.mono ?_
    rintro e w1 ⟨rfl, rfl⟩
    go_wp2_with fail
    refine wp_region_lexV (Spot b 4) (Spot.refl b 4) (Spot.trans b 4) [0, 1, 2, 3, 4, 5, 6, 7, 8, 9, 10, 11, 12, 13] (by kernel_rfl) (by kernel_rfl) rfl (by kernel_rfl) ?_
    simp only [inOrder, List.filterMap_cons, List.filterMap_nil, List.getElem?_cons_zero, List.getElem?_cons_succ]
    try simp only [Act.put, List.setIfInBounds_toArray, List.set_cons_zero, List.set_cons_succ]
    repeat
      first
      | (refine lexV_pure (v := ?_) rfl rfl ?_ ?_
         rotate_left
         · intro w' hU'
           go_simp
           try with_reducible rfl
         try simp only [Act.put, List.setIfInBounds_toArray, List.set_cons_zero, List.set_cons_succ])
      | (refine lexV_skip rfl ?_
         try simp only [Act.put, List.setIfInBounds_toArray, List.set_cons_zero, List.set_cons_succ])
    refine lexV_fn (f := 16) (args := _) rfl rfl (by go_simp) (ka.mono ?_)
    rintro e w' ⟨rfl, rfl⟩
    refine ⟨_, rfl, hsp, ?_⟩
    try simp only [Act.put, List.setIfInBounds_toArray, List.set_cons_zero, List.set_cons_succ]
    repeat
      first
      | (refine lexV_pure (v := ?_) rfl rfl ?_ ?_
         rotate_left
         · intro w' hU'
           go_simp
           try with_reducible rfl
         try simp only [Act.put, List.setIfInBounds_toArray, List.set_cons_zero, List.set_cons_succ])
      | (refine lexV_skip rfl ?_
         try simp only [Act.put, List.setIfInBounds_toArray, List.set_cons_zero, List.set_cons_succ])
    refine lexV_fn (f := 15) (args := _) rfl rfl (by go_simp) (kc.mono ?_)
    rintro e w' ⟨rfl, rfl⟩
    refine ⟨_, rfl, Spot.refl _ _ _, ?_⟩
    try simp only [Act.put, List.setIfInBounds_toArray, List.set_cons_zero, List.set_cons_succ]
    repeat
      first
      | (refine lexV_pure (v := ?_) rfl rfl ?_ ?_
         rotate_left
         · intro w' hU'
           go_simp
           try with_reducible rfl
         try simp only [Act.put, List.setIfInBounds_toArray, List.set_cons_zero, List.set_cons_succ])
      | (refine lexV_skip rfl ?_
         try simp only [Act.put, List.setIfInBounds_toArray, List.set_cons_zero, List.set_cons_succ])
    refine lexV_done ?_
    go_wp2_with fail
    refine kb.mono ?_
    rintro e w' ⟨rfl, rfl⟩
    go_wp2_with fail
    go_ret
    exact ⟨rfl, hD2, hUn⟩
  · have hmd : decide (op 1 + 1 ∈ fa 1) = false := decide_eq_false hm
    rw [hmd] at kc
    have hR : Hid (NextR base b v fa op bad 1 w = fun e w' => e = .returned (.bool false) ∧ DrM base w' b v fa (up op 1 (op 1 + 1)) bad ∧ Upd (Only b) w w') := by
      show _ = _
      funext e w'
      unfold NextR
      rw [hmd, if_neg hm]
    rw [hR.out]
    have hUn : Upd (Only b) w w2 := (Upd.refl _ w).drew.tr hUs
    clear hm hmd
    go_enter Try.func8, Try.ntmps8
    go_wp2_with fail
    refine ko.mono ?_
    rintro e w1 ⟨rfl, rfl⟩
    go_wp2_with fail
    refine wp_region_lexV (Spot b 4) (Spot.refl b 4) (Spot.trans b 4) [0, 1, 2, 3, 4, 5, 6, 7, 8, 9, 10, 11, 12, 13] (by kernel_rfl) (by kernel_rfl) rfl (by kernel_rfl) ?_
    simp only [inOrder, List.filterMap_cons, List.filterMap_nil, List.getElem?_cons_zero, List.getElem?_cons_succ]
    try simp only [Act.put, List.setIfInBounds_toArray, List.set_cons_zero, List.set_cons_succ]
    repeat
      first
      | (refine lexV_pure (v := ?_) rfl rfl ?_ ?_
         rotate_left
         · intro w' hU'
           go_simp
           try with_reducible rfl
         try simp only [Act.put, List.setIfInBounds_toArray, List.set_cons_zero, List.set_cons_succ])
      | (refine lexV_skip rfl ?_
         try simp only [Act.put, List.setIfInBounds_toArray, List.set_cons_zero, List.set_cons_succ])
    refine lexV_fn (f := 16) (args := _) rfl rfl (by go_simp) (ka.mono ?_)
    rintro e w' ⟨rfl, rfl⟩
    refine ⟨_, rfl, hsp, ?_⟩
    try simp only [Act.put, List.setIfInBounds_toArray, List.set_cons_zero, List.set_cons_succ]
    repeat
      first
      | (refine lexV_pure (v := ?_) rfl rfl ?_ ?_
         rotate_left
         · intro w' hU'
           go_simp
           try with_reducible rfl
         try simp only [Act.put, List.setIfInBounds_toArray, List.set_cons_zero, List.set_cons_succ])
      | (refine lexV_skip rfl ?_
         try simp only [Act.put, List.setIfInBounds_toArray, List.set_cons_zero, List.set_cons_succ])
    refine lexV_fn (f := 15) (args := _) rfl rfl (by go_simp) (kc.mono ?_)
    rintro e w' ⟨rfl, rfl⟩
    refine ⟨_, rfl, Spot.refl _ _ _, ?_⟩
    try simp only [Act.put, List.setIfInBounds_toArray, List.set_cons_zero, List.set_cons_succ]
    repeat
      first
      | (refine lexV_pure (v := ?_) rfl rfl ?_ ?_
         rotate_left
         · intro w' hU'
           go_simp
           try with_reducible rfl
         try simp only [Act.put, List.setIfInBounds_toArray, List.set_cons_zero, List.set_cons_succ])
      | (refine lexV_skip rfl ?_
         try simp only [Act.put, List.setIfInBounds_toArray, List.set_cons_zero, List.set_cons_succ])
    refine lexV_done ?_
    go_wp2_with fail
    go_ret
    exact ⟨rfl, hD, hUn⟩
set_option maxHeartbeats 4000000 in
set_option maxRecDepth 100000 in
theorem next2 (base b : Nat) (v : Nat → Value) (fa : Nat → List Int) (op bad : Nat → Int) (w : World) (h : DrM base w b v fa op bad) (ho : 0 ≤ op 2 ∧ op 2 < 1000000) (hb : 0 ≤ bad 2 ∧ bad 2 < 1000000) :
    Calls Try.prog 8 #[.pointer (some ⟨b, 0, none⟩), .int .i64 2] w (NextR base b v fa op bad 2 w) := by
  have hbk := h.blk
  have ko : Calls Try.prog 14 #[.pointer (some ⟨b, 0, none⟩), .int .i64 2] w fun e w' => e = .returned (.pointer (some ⟨b, 6, none⟩)) ∧ w = w' := of_yes b 2 (by omega) w _ (blk_cell hbk 0)
  obtain ⟨A, c, hv, hc⟩ := (h.sl 2 (by omega)).form
  have hsl := h.sl 2 (by omega)
  have hmx := hsl.max
  rw [hv] at hsl
  have hA := hsl.cells ic_len (by omega)
  have hdw : w.drew.heap[b]? = some (.cells (drC v op bad) 47 (0, 0)) := hbk
  have x0 : ∀ w', Spot b 7 w.drew w' → w'.cell? ⟨b, 6, none⟩ = some (.slice A (fa 2).length c) := fun w' u => (u.2 6 (by decide)).trans ((blk_cell hdw 6).trans (by rw [← hv]; rfl))
  have y0 : w.drew.cell? ⟨b, 7, none⟩ = some (.int .i64 (op 2)) := blk_cell hdw 7
  have z0 : w.drew.frozen? ⟨b, 7, none⟩ = false := blk_frozen hdw 7
  have ka := addI ⟨b, 7, none⟩ (op 2) w.drew y0 z0 ho
  have hbl : (w.drew.setCell ⟨b, 7, none⟩ (.int .i64 (op 2 + 1))).heap[b]? = some (.cells (drC v (up op 2 (op 2 + 1)) bad) 47 (0, 0)) := blk_put hdw 7 _ rfl
  have hUs : Upd (Only b) w.drew (w.drew.setCell ⟨b, 7, none⟩ (.int .i64 (op 2 + 1))) := (Upd.refl _ _).set1 _
  have hD : DrM base (w.drew.setCell ⟨b, 7, none⟩ (.int .i64 (op 2 + 1))) b v fa (up op 2 (op 2 + 1)) bad := (h.upd ((Upd.refl _ _).drew)).own hUs hbl
  have hsl2 := hD.sl 2 (by omega)
  rw [hv] at hsl2
  have kc := contains A c (fa 2) (op 2 + 1) _ (hsl2.cells ic_len (by omega)) (by unfold maxLen; omega)
  have hsp : Spot b 7 w.drew (w.drew.setCell ⟨b, 7, none⟩ (.int .i64 (op 2 + 1))) := ⟨hUs, fun i hi => World.cell?_setCell_other _ _ _ _ (by simp only [ne_eq, Addr.mk.injEq, true_and, and_true]; omega)⟩
  generalize w.drew.setCell ⟨b, 7, none⟩ (.int .i64 (op 2 + 1)) = w2 at *
  clear hsl hsl2 hA hv
  by_cases hm : op 2 + 1 ∈ fa 2
  · have hmd : decide (op 2 + 1 ∈ fa 2) = true := decide_eq_true hm
    rw [hmd] at kc
    have hR : Hid (NextR base b v fa op bad 2 w = fun e w' => e = .returned (.bool true) ∧ DrM base w' b v fa (up op 2 (op 2 + 1)) (up bad 2 (bad 2 + 1)) ∧ Upd (Only b) w w') := by
      show _ = _
      funext e w'
      unfold NextR
      rw [hmd, if_pos hm]
    rw [hR.out]
    have y1 : w2.cell? ⟨b, 8, none⟩ = some (.int .i64 (bad 2)) := blk_cell hbl 8
    have z1 : w2.frozen? ⟨b, 8, none⟩ = false := blk_frozen hbl 8
    have kb := addI ⟨b, 8, none⟩ (bad 2) w2 y1 z1 hb
    have hbl2 : (w2.setCell ⟨b, 8, none⟩ (.int .i64 (bad 2 + 1))).heap[b]? = some (.cells (drC v (up op 2 (op 2 + 1)) (up bad 2 (bad 2 + 1))) 47 (0, 0)) := blk_put hbl 8 _ rfl
    have hUs2 : Upd (Only b) w2 (w2.setCell ⟨b, 8, none⟩ (.int .i64 (bad 2 + 1))) := (Upd.refl _ _).set1 _
    have hD2 := hD.own hUs2 hbl2
    generalize w2.setCell ⟨b, 8, none⟩ (.int .i64 (bad 2 + 1)) = w3 at *
    have hUn : Upd (Only b) w w3 := ((Upd.refl _ w).drew.tr hUs).tr hUs2
    clear hm hmd y1 z1
    go_enter Try.func8, Try.ntmps8
    go_wp2_with fail
    refine ko.mono ?_
    rintro e w1 ⟨rfl, rfl⟩
    go_wp2_with fail
    refine wp_region_lexV (Spot b 7) (Spot.refl b 7) (Spot.trans b 7) [0, 1, 2, 3, 4, 5, 6, 7, 8, 9, 10, 11, 12, 13] (by kernel_rfl) (by kernel_rfl) rfl (by kernel_rfl) ?_
    simp only [inOrder, List.filterMap_cons, List.filterMap_nil, List.getElem?_cons_zero, List.getElem?_cons_succ]
    try simp only [Act.put, List.setIfInBounds_toArray, List.set_cons_zero, List.set_cons_succ]
    repeat
      first
      | (refine lexV_pure (v := ?_) rfl rfl ?_ ?_
         rotate_left
         · intro w' hU'
           go_simp
           try with_reducible rfl
         try simp only [Act.put, List.setIfInBounds_toArray, List.set_cons_zero, List.set_cons_succ])
      | (refine lexV_skip rfl ?_
         try simp only [Act.put, List.setIfInBounds_toArray, List.set_cons_zero, List.set_cons_succ])
    refine lexV_fn (f := 16) (args := _) rfl rfl (by go_simp) (ka.mono ?_)
    rintro e w' ⟨rfl, rfl⟩
    refine ⟨_, rfl, hsp, ?_⟩
    try simp only [Act.put, List.setIfInBounds_toArray, List.set_cons_zero, List.set_cons_succ]
    repeat
      first
      | (refine lexV_pure (v := ?_) rfl rfl ?_ ?_
         rotate_left
         · intro w' hU'
           go_simp
           try with_reducible rfl
         try simp only [Act.put, List.setIfInBounds_toArray, List.set_cons_zero, List.set_cons_succ])
      | (refine lexV_skip rfl ?_
         try simp only [Act.put, List.setIfInBounds_toArray, List.set_cons_zero, List.set_cons_succ])
    refine lexV_fn (f := 15) (args := _) rfl rfl (by go_simp) (kc.mono ?_)
    rintro e w' ⟨rfl, rfl⟩
    refine ⟨_, rfl, Spot.refl _ _ _, ?_⟩
    try simp only [Act.put, List.setIfInBounds_toArray, List.set_cons_zero, List.set_cons_succ]
    repeat
      first
      | (refine lexV_pure (v := ?_) rfl rfl ?_ ?_
         rotate_left
         · intro w' hU'
           go_simp
           try with_reducible rfl
         try simp only [Act.put, List.setIfInBounds_toArray, List.set_cons_zero, List.set_cons_succ])
      | (refine lexV_skip rfl ?_
         try simp only [Act.put, List.setIfInBounds_toArray, List.set_cons_zero, List.set_cons_succ])
    refine lexV_done ?_
    go_wp2_with fail
    refine kb.mono ?_
    rintro e w' ⟨rfl, rfl⟩
    go_wp2_with fail
    go_ret
    exact ⟨rfl, hD2, hUn⟩
  · have hmd : decide (op 2 + 1 ∈ fa 2) = false := decide_eq_false hm
    rw [hmd] at kc
    have hR : Hid (NextR base b v fa op bad 2 w = fun e w' => e = .returned (.bool false) ∧ DrM base w' b v fa (up op 2 (op 2 + 1)) bad ∧ Upd (Only b) w w') := by
      show _ = _
      funext e w'
      unfold NextR
      rw [hmd, if_neg hm]
    rw [hR.out]
    have hUn : Upd (Only b) w w2 := (Upd.refl _ w).drew.tr hUs
    clear hm hmd
    go_enter Try.func8, Try.ntmps8
    go_wp2_with fail
    refine ko.mono ?_
    rintro e w1 ⟨rfl, rfl⟩
    go_wp2_with fail
    refine wp_region_lexV (Spot b 7) (Spot.refl b 7) (Spot.trans b 7) [0, 1, 2, 3, 4, 5, 6, 7, 8, 9, 10, 11, 12, 13] (by kernel_rfl) (by kernel_rfl) rfl (by kernel_rfl) ?_
    simp only [inOrder, List.filterMap_cons, List.filterMap_nil, List.getElem?_cons_zero, List.getElem?_cons_succ]
    try simp only [Act.put, List.setIfInBounds_toArray, List.set_cons_zero, List.set_cons_succ]
    repeat
      first
      | (refine lexV_pure (v := ?_) rfl rfl ?_ ?_
         rotate_left
         · intro w' hU'
           go_simp
           try with_reducible rfl
         try simp only [Act.put, List.setIfInBounds_toArray, List.set_cons_zero, List.set_cons_succ])
      | (refine lexV_skip rfl ?_
         try simp only [Act.put, List.setIfInBounds_toArray, List.set_cons_zero, List.set_cons_succ])
    refine lexV_fn (f := 16) (args := _) rfl rfl (by go_simp) (ka.mono ?_)
    rintro e w' ⟨rfl, rfl⟩
    refine ⟨_, rfl, hsp, ?_⟩
    try simp only [Act.put, List.setIfInBounds_toArray, List.set_cons_zero, List.set_cons_succ]
    repeat
      first
      | (refine lexV_pure (v := ?_) rfl rfl ?_ ?_
         rotate_left
         · intro w' hU'
           go_simp
           try with_reducible rfl
         try simp only [Act.put, List.setIfInBounds_toArray, List.set_cons_zero, List.set_cons_succ])
      | (refine lexV_skip rfl ?_
         try simp only [Act.put, List.setIfInBounds_toArray, List.set_cons_zero, List.set_cons_succ])
    refine lexV_fn (f := 15) (args := _) rfl rfl (by go_simp) (kc.mono ?_)
    rintro e w' ⟨rfl, rfl⟩
    refine ⟨_, rfl, Spot.refl _ _ _, ?_⟩
    try simp only [Act.put, List.setIfInBounds_toArray, List.set_cons_zero, List.set_cons_succ]
    repeat
      first
      | (refine lexV_pure (v := ?_) rfl rfl ?_ ?_
         rotate_left
         · intro w' hU'
           go_simp
           try with_reducible rfl
         try simp only [Act.put, List.setIfInBounds_toArray, List.set_cons_zero, List.set_cons_succ])
      | (refine lexV_skip rfl ?_
         try simp only [Act.put, List.setIfInBounds_toArray, List.set_cons_zero, List.set_cons_succ])
    refine lexV_done ?_
    go_wp2_with fail
    go_ret
    exact ⟨rfl, hD, hUn⟩
set_option maxHeartbeats 4000000 in
set_option maxRecDepth 100000 in
theorem next3 (base b : Nat) (v : Nat → Value) (fa : Nat → List Int) (op bad : Nat → Int) (w : World) (h : DrM base w b v fa op bad) (ho : 0 ≤ op 3 ∧ op 3 < 1000000) (hb : 0 ≤ bad 3 ∧ bad 3 < 1000000) :
    Calls Try.prog 8 #[.pointer (some ⟨b, 0, none⟩), .int .i64 3] w (NextR base b v fa op bad 3 w) := by
  have hbk := h.blk
  have ko : Calls Try.prog 14 #[.pointer (some ⟨b, 0, none⟩), .int .i64 3] w fun e w' => e = .returned (.pointer (some ⟨b, 9, none⟩)) ∧ w = w' := of_yes b 3 (by omega) w _ (blk_cell hbk 0)
  obtain ⟨A, c, hv, hc⟩ := (h.sl 3 (by omega)).form
  have hsl := h.sl 3 (by omega)
  have hmx := hsl.max
  rw [hv] at hsl
  have hA := hsl.cells ic_len (by omega)
  have hdw : w.drew.heap[b]? = some (.cells (drC v op bad) 47 (0, 0)) := hbk
  have x0 : ∀ w', Spot b 10 w.drew w' → w'.cell? ⟨b, 9, none⟩ = some (.slice A (fa 3).length c) := fun w' u => (u.2 9 (by decide)).trans ((blk_cell hdw 9).trans (by rw [← hv]; rfl))
  have y0 : w.drew.cell? ⟨b, 10, none⟩ = some (.int .i64 (op 3)) := blk_cell hdw 10
  have z0 : w.drew.frozen? ⟨b, 10, none⟩ = false := blk_frozen hdw 10
  have ka := addI ⟨b, 10, none⟩ (op 3) w.drew y0 z0 ho
  have hbl : (w.drew.setCell ⟨b, 10, none⟩ (.int .i64 (op 3 + 1))).heap[b]? = some (.cells (drC v (up op 3 (op 3 + 1)) bad) 47 (0, 0)) := blk_put hdw 10 _ rfl
  have hUs : Upd (Only b) w.drew (w.drew.setCell ⟨b, 10, none⟩ (.int .i64 (op 3 + 1))) := (Upd.refl _ _).set1 _
  have hD : DrM base (w.drew.setCell ⟨b, 10, none⟩ (.int .i64 (op 3 + 1))) b v fa (up op 3 (op 3 + 1)) bad := (h.upd ((Upd.refl _ _).drew)).own hUs hbl
  have hsl2 := hD.sl 3 (by omega)
  rw [hv] at hsl2
  have kc := contains A c (fa 3) (op 3 + 1) _ (hsl2.cells ic_len (by omega)) (by unfold maxLen; omega)
  have hsp : Spot b 10 w.drew (w.drew.setCell ⟨b, 10, none⟩ (.int .i64 (op 3 + 1))) := ⟨hUs, fun i hi => World.cell?_setCell_other _ _ _ _ (by simp only [ne_eq, Addr.mk.injEq, true_and, and_true]; omega)⟩
  generalize w.drew.setCell ⟨b, 10, none⟩ (.int .i64 (op 3 + 1)) = w2 at *
  clear hsl hsl2 hA hv
  by_cases hm : op 3 + 1 ∈ fa 3
  · have hmd : decide (op 3 + 1 ∈ fa 3) = true := decide_eq_true hm
    rw [hmd] at kc
    have hR : Hid (NextR base b v fa op bad 3 w = fun e w' => e = .returned (.bool true) ∧ DrM base w' b v fa (up op 3 (op 3 + 1)) (up bad 3 (bad 3 + 1)) ∧ Upd (Only b) w w') := by
      show _ = _
      funext e w'
      unfold NextR
      rw [hmd, if_pos hm]
    rw [hR.out]
    have y1 : w2.cell? ⟨b, 11, none⟩ = some (.int .i64 (bad 3)) := blk_cell hbl 11
    have z1 : w2.frozen? ⟨b, 11, none⟩ = false := blk_frozen hbl 11
    have kb := addI ⟨b, 11, none⟩ (bad 3) w2 y1 z1 hb
    have hbl2 : (w2.setCell ⟨b, 11, none⟩ (.int .i64 (bad 3 + 1))).heap[b]? = some (.cells (drC v (up op 3 (op 3 + 1)) (up bad 3 (bad 3 + 1))) 47 (0, 0)) := blk_put hbl 11 _ rfl
    have hUs2 : Upd (Only b) w2 (w2.setCell ⟨b, 11, none⟩ (.int .i64 (bad 3 + 1))) := (Upd.refl _ _).set1 _
    have hD2 := hD.own hUs2 hbl2
    generalize w2.setCell ⟨b, 11, none⟩ (.int .i64 (bad 3 + 1)) = w3 at *
    have hUn : Upd (Only b) w w3 := ((Upd.refl _ w).drew.tr hUs).tr hUs2
    clear hm hmd y1 z1
    go_enter Try.func8, Try.ntmps8
    go_wp2_with fail
    refine ko.mono ?_
    rintro e w1 ⟨rfl, rfl⟩
    go_wp2_with fail
    refine wp_region_lexV (Spot b 10) (Spot.refl b 10) (Spot.trans b 10) [0, 1, 2, 3, 4, 5, 6, 7, 8, 9, 10, 11, 12, 13] (by kernel_rfl) (by kernel_rfl) rfl (by kernel_rfl) ?_
    simp only [inOrder, List.filterMap_cons, List.filterMap_nil, List.getElem?_cons_zero, List.getElem?_cons_succ]
    try simp only [Act.put, List.setIfInBounds_toArray, List.set_cons_zero, List.set_cons_succ]
    repeat
      first
      | (refine lexV_pure (v := ?_) rfl rfl ?_ ?_
         rotate_left
         · intro w' hU'
           go_simp
           try with_reducible rfl
         try simp only [Act.put, List.setIfInBounds_toArray, List.set_cons_zero, List.set_cons_succ])
      | (refine lexV_skip rfl ?_
         try simp only [Act.put, List.setIfInBounds_toArray, List.set_cons_zero, List.set_cons_succ])
    refine lexV_fn (f := 16) (args := _) rfl rfl (by go_simp) (ka.mono ?_)
    rintro e w' ⟨rfl, rfl⟩
    refine ⟨_, rfl, hsp, ?_⟩
    try simp only [Act.put, List.setIfInBounds_toArray, List.set_cons_zero, List.set_cons_succ]
    repeat
      first
      | (refine lexV_pure (v := ?_) rfl rfl ?_ ?_
         rotate_left
         · intro w' hU'
           go_simp
           try with_reducible rfl
         try simp only [Act.put, List.setIfInBounds_toArray, List.set_cons_zero, List.set_cons_succ])
      | (refine lexV_skip rfl ?_
         try simp only [Act.put, List.setIfInBounds_toArray, List.set_cons_zero, List.set_cons_succ])
    refine lexV_fn (f := 15) (args := _) rfl rfl (by go_simp) (kc.mono ?_)
    rintro e w' ⟨rfl, rfl⟩
    refine ⟨_, rfl, Spot.refl _ _ _, ?_⟩
    try simp only [Act.put, List.setIfInBounds_toArray, List.set_cons_zero, List.set_cons_succ]
    repeat
      first
      | (refine lexV_pure (v := ?_) rfl rfl ?_ ?_
         rotate_left
         · intro w' hU'
           go_simp
           try with_reducible rfl
         try simp only [Act.put, List.setIfInBounds_toArray, List.set_cons_zero, List.set_cons_succ])
      | (refine lexV_skip rfl ?_
         try simp only [Act.put, List.setIfInBounds_toArray, List.set_cons_zero, List.set_cons_succ])
    refine lexV_done ?_
    go_wp2_with fail
    refine kb.mono ?_
    rintro e w' ⟨rfl, rfl⟩
    go_wp2_with fail
    go_ret
    exact ⟨rfl, hD2, hUn⟩
  · have hmd : decide (op 3 + 1 ∈ fa 3) = false := decide_eq_false hm
    rw [hmd] at kc
    have hR : Hid (NextR base b v fa op bad 3 w = fun e w' => e = .returned (.bool false) ∧ DrM base w' b v fa (up op 3 (op 3 + 1)) bad ∧ Upd (Only b) w w') := by
      show _ = _
      funext e w'
      unfold NextR
      rw [hmd, if_neg hm]
    rw [hR.out]
    have hUn : Upd (Only b) w w2 := (Upd.refl _ w).drew.tr hUs
    clear hm hmd
    go_enter Try.func8, Try.ntmps8
    go_wp2_with fail
    refine ko.mono ?_
    rintro e w1 ⟨rfl, rfl⟩
    go_wp2_with fail
    refine wp_region_lexV (Spot b 10) (Spot.refl b 10) (Spot.trans b 10) [0, 1, 2, 3, 4, 5, 6, 7, 8, 9, 10, 11, 12, 13] (by kernel_rfl) (by kernel_rfl) rfl (by kernel_rfl) ?_
    simp only [inOrder, List.filterMap_cons, List.filterMap_nil, List.getElem?_cons_zero, List.getElem?_cons_succ]
    try simp only [Act.put, List.setIfInBounds_toArray, List.set_cons_zero, List.set_cons_succ]
    repeat
      first
      | (refine lexV_pure (v := ?_) rfl rfl ?_ ?_
         rotate_left
         · intro w' hU'
           go_simp
           try with_reducible rfl
         try simp only [Act.put, List.setIfInBounds_toArray, List.set_cons_zero, List.set_cons_succ])
      | (refine lexV_skip rfl ?_
         try simp only [Act.put, List.setIfInBounds_toArray, List.set_cons_zero, List.set_cons_succ])
    refine lexV_fn (f := 16) (args := _) rfl rfl (by go_simp) (ka.mono ?_)
    rintro e w' ⟨rfl, rfl⟩
    refine ⟨_, rfl, hsp, ?_⟩
    try simp only [Act.put, List.setIfInBounds_toArray, List.set_cons_zero, List.set_cons_succ]
    repeat
      first
      | (refine lexV_pure (v := ?_) rfl rfl ?_ ?_
         rotate_left
         · intro w' hU'
           go_simp
           try with_reducible rfl
         try simp only [Act.put, List.setIfInBounds_toArray, List.set_cons_zero, List.set_cons_succ])
      | (refine lexV_skip rfl ?_
         try simp only [Act.put, List.setIfInBounds_toArray, List.set_cons_zero, List.set_cons_succ])
    refine lexV_fn (f := 15) (args := _) rfl rfl (by go_simp) (kc.mono ?_)
    rintro e w' ⟨rfl, rfl⟩
    refine ⟨_, rfl, Spot.refl _ _ _, ?_⟩
    try simp only [Act.put, List.setIfInBounds_toArray, List.set_cons_zero, List.set_cons_succ]
    repeat
      first
      | (refine lexV_pure (v := ?_) rfl rfl ?_ ?_
         rotate_left
         · intro w' hU'
           go_simp
           try with_reducible rfl
         try simp only [Act.put, List.setIfInBounds_toArray, List.set_cons_zero, List.set_cons_succ])
      | (refine lexV_skip rfl ?_
         try simp only [Act.put, List.setIfInBounds_toArray, List.set_cons_zero, List.set_cons_succ])
    refine lexV_done ?_
    go_wp2_with fail
    go_ret
    exact ⟨rfl, hD, hUn⟩
theorem next (base b : Nat) (v : Nat → Value) (fa : Nat → List Int) (op bad : Nat → Int) (k : Nat) (hk : k < 4) (w : World) (h : DrM base w b v fa op bad) (ho : 0 ≤ op k ∧ op k < 1000000) (hb : 0 ≤ bad k ∧ bad k < 1000000) :
    Calls Try.prog 8 #[.pointer (some ⟨b, 0, none⟩), .int .i64 k] w (NextR base b v fa op bad k w) := by
  have hcase : k = 0 ∨ k = 1 ∨ k = 2 ∨ k = 3 := by omega
  rcases hcase with rfl | rfl | rfl | rfl
  · exact next0 base b v fa op bad w h ho hb
  · exact next1 base b v fa op bad w h ho hb
  · exact next2 base b v fa op bad w h ho hb
  · exact next3 base b v fa op bad w h ho hb
theorem opsOf_nil (k : Int) (w : World) : Calls Try.prog 9 #[.pointer none, .int .i64 k] w fun e w' => e = .returned (.int .i64 0) ∧ w = w' := by
  have ko := fun w => of_nil k w
  go_enter Try.func9, Try.ntmps9
  go_wp2_with (go_at_call 14; refine (ko _).mono ?_; rintro e w1 ⟨rfl, rfl⟩)
  go_ret
  exact ⟨rfl, rfl⟩
theorem opsOf_no (b : Nat) (k : Int) (h : k < 0 ∨ 4 ≤ k) (w : World) : Calls Try.prog 9 #[.pointer (some ⟨b, 0, none⟩), .int .i64 k] w fun e w' => e = .returned (.int .i64 0) ∧ w = w' := by
  have ko := fun w => of_no b k h w
  go_enter Try.func9, Try.ntmps9
  go_wp2_with (go_at_call 14; refine (ko _).mono ?_; rintro e w1 ⟨rfl, rfl⟩)
  go_ret
  exact ⟨rfl, rfl⟩
theorem opsOf (base b : Nat) (v : Nat → Value) (fa : Nat → List Int) (op bad : Nat → Int) (k : Nat) (hk : k < 4) (w : World) (h : DrM base w b v fa op bad) :
    Calls Try.prog 9 #[.pointer (some ⟨b, 0, none⟩), .int .i64 k] w fun e w' => e = .returned (.int .i64 (op k)) ∧ w = w' := by
  have hbk := h.blk
  have hcase : k = 0 ∨ k = 1 ∨ k = 2 ∨ k = 3 := by omega
  rcases hcase with rfl | rfl | rfl | rfl
  · have kl := loadI ⟨b, 0 + 1, none⟩ (op 0) w (blk_cell hbk (0 + 1))
    have ko : Calls Try.prog 14 #[.pointer (some ⟨b, 0, none⟩), .int .i64 0] w fun e w' => e = .returned (.pointer (some ⟨b, 0, none⟩)) ∧ w = w' := of_yes b 0 (by omega) w _ (blk_cell hbk 0)
    simp only [Nat.reduceAdd, Nat.zero_add] at kl
    go_enter Try.func9, Try.ntmps9
    go_wp2_with fail
    refine ko.mono ?_
    rintro e w1 ⟨rfl, rfl⟩
    go_wp2_with fail
    refine kl.mono ?_
    rintro e w1 ⟨rfl, rfl⟩
    go_wp2_with fail
    go_ret
    exact ⟨rfl, rfl⟩
  · have kl := loadI ⟨b, 3 + 1, none⟩ (op 1) w (blk_cell hbk (3 + 1))
    have ko : Calls Try.prog 14 #[.pointer (some ⟨b, 0, none⟩), .int .i64 1] w fun e w' => e = .returned (.pointer (some ⟨b, 3, none⟩)) ∧ w = w' := of_yes b 1 (by omega) w _ (blk_cell hbk 0)
    simp only [Nat.reduceAdd, Nat.zero_add] at kl
    go_enter Try.func9, Try.ntmps9
    go_wp2_with fail
    refine ko.mono ?_
    rintro e w1 ⟨rfl, rfl⟩
    go_wp2_with fail
    refine kl.mono ?_
    rintro e w1 ⟨rfl, rfl⟩
    go_wp2_with fail
    go_ret
    exact ⟨rfl, rfl⟩
  · have kl := loadI ⟨b, 6 + 1, none⟩ (op 2) w (blk_cell hbk (6 + 1))
    have ko : Calls Try.prog 14 #[.pointer (some ⟨b, 0, none⟩), .int .i64 2] w fun e w' => e = .returned (.pointer (some ⟨b, 6, none⟩)) ∧ w = w' := of_yes b 2 (by omega) w _ (blk_cell hbk 0)
    simp only [Nat.reduceAdd, Nat.zero_add] at kl
    go_enter Try.func9, Try.ntmps9
    go_wp2_with fail
    refine ko.mono ?_
    rintro e w1 ⟨rfl, rfl⟩
    go_wp2_with fail
    refine kl.mono ?_
    rintro e w1 ⟨rfl, rfl⟩
    go_wp2_with fail
    go_ret
    exact ⟨rfl, rfl⟩
  · have kl := loadI ⟨b, 9 + 1, none⟩ (op 3) w (blk_cell hbk (9 + 1))
    have ko : Calls Try.prog 14 #[.pointer (some ⟨b, 0, none⟩), .int .i64 3] w fun e w' => e = .returned (.pointer (some ⟨b, 9, none⟩)) ∧ w = w' := of_yes b 3 (by omega) w _ (blk_cell hbk 0)
    simp only [Nat.reduceAdd, Nat.zero_add] at kl
    go_enter Try.func9, Try.ntmps9
    go_wp2_with fail
    refine ko.mono ?_
    rintro e w1 ⟨rfl, rfl⟩
    go_wp2_with fail
    refine kl.mono ?_
    rintro e w1 ⟨rfl, rfl⟩
    go_wp2_with fail
    go_ret
    exact ⟨rfl, rfl⟩
theorem badOf_nil (k : Int) (w : World) : Calls Try.prog 10 #[.pointer none, .int .i64 k] w fun e w' => e = .returned (.int .i64 0) ∧ w = w' := by
  have ko := fun w => of_nil k w
  go_enter Try.func10, Try.ntmps10
  go_wp2_with (go_at_call 14; refine (ko _).mono ?_; rintro e w1 ⟨rfl, rfl⟩)
  go_ret
  exact ⟨rfl, rfl⟩
theorem badOf_no (b : Nat) (k : Int) (h : k < 0 ∨ 4 ≤ k) (w : World) : Calls Try.prog 10 #[.pointer (some ⟨b, 0, none⟩), .int .i64 k] w fun e w' => e = .returned (.int .i64 0) ∧ w = w' := by
  have ko := fun w => of_no b k h w
  go_enter Try.func10, Try.ntmps10
  go_wp2_with (go_at_call 14; refine (ko _).mono ?_; rintro e w1 ⟨rfl, rfl⟩)
  go_ret
  exact ⟨rfl, rfl⟩
theorem badOf (base b : Nat) (v : Nat → Value) (fa : Nat → List Int) (op bad : Nat → Int) (k : Nat) (hk : k < 4) (w : World) (h : DrM base w b v fa op bad) :
    Calls Try.prog 10 #[.pointer (some ⟨b, 0, none⟩), .int .i64 k] w fun e w' => e = .returned (.int .i64 (bad k)) ∧ w = w' := by
  have hbk := h.blk
  have hcase : k = 0 ∨ k = 1 ∨ k = 2 ∨ k = 3 := by omega
  rcases hcase with rfl | rfl | rfl | rfl
  · have kl := loadI ⟨b, 0 + 2, none⟩ (bad 0) w (blk_cell hbk (0 + 2))
    have ko : Calls Try.prog 14 #[.pointer (some ⟨b, 0, none⟩), .int .i64 0] w fun e w' => e = .returned (.pointer (some ⟨b, 0, none⟩)) ∧ w = w' := of_yes b 0 (by omega) w _ (blk_cell hbk 0)
    simp only [Nat.reduceAdd, Nat.zero_add] at kl
    go_enter Try.func10, Try.ntmps10
    go_wp2_with fail
    refine ko.mono ?_
    rintro e w1 ⟨rfl, rfl⟩
    go_wp2_with fail
    refine kl.mono ?_
    rintro e w1 ⟨rfl, rfl⟩
    go_wp2_with fail
    go_ret
    exact ⟨rfl, rfl⟩
  · have kl := loadI ⟨b, 3 + 2, none⟩ (bad 1) w (blk_cell hbk (3 + 2))
    have ko : Calls Try.prog 14 #[.pointer (some ⟨b, 0, none⟩), .int .i64 1] w fun e w' => e = .returned (.pointer (some ⟨b, 3, none⟩)) ∧ w = w' := of_yes b 1 (by omega) w _ (blk_cell hbk 0)
    simp only [Nat.reduceAdd, Nat.zero_add] at kl
    go_enter Try.func10, Try.ntmps10
    go_wp2_with fail
    refine ko.mono ?_
    rintro e w1 ⟨rfl, rfl⟩
    go_wp2_with fail
    refine kl.mono ?_
    rintro e w1 ⟨rfl, rfl⟩
    go_wp2_with fail
    go_ret
    exact ⟨rfl, rfl⟩
  · have kl := loadI ⟨b, 6 + 2, none⟩ (bad 2) w (blk_cell hbk (6 + 2))
    have ko : Calls Try.prog 14 #[.pointer (some ⟨b, 0, none⟩), .int .i64 2] w fun e w' => e = .returned (.pointer (some ⟨b, 6, none⟩)) ∧ w = w' := of_yes b 2 (by omega) w _ (blk_cell hbk 0)
    simp only [Nat.reduceAdd, Nat.zero_add] at kl
    go_enter Try.func10, Try.ntmps10
    go_wp2_with fail
    refine ko.mono ?_
    rintro e w1 ⟨rfl, rfl⟩
    go_wp2_with fail
    refine kl.mono ?_
    rintro e w1 ⟨rfl, rfl⟩
    go_wp2_with fail
    go_ret
    exact ⟨rfl, rfl⟩
  · have kl := loadI ⟨b, 9 + 2, none⟩ (bad 3) w (blk_cell hbk (9 + 2))
    have ko : Calls Try.prog 14 #[.pointer (some ⟨b, 0, none⟩), .int .i64 3] w fun e w' => e = .returned (.pointer (some ⟨b, 9, none⟩)) ∧ w = w' := of_yes b 3 (by omega) w _ (blk_cell hbk 0)
    simp only [Nat.reduceAdd, Nat.zero_add] at kl
    go_enter Try.func10, Try.ntmps10
    go_wp2_with fail
    refine ko.mono ?_
    rintro e w1 ⟨rfl, rfl⟩
    go_wp2_with fail
    refine kl.mono ?_
    rintro e w1 ⟨rfl, rfl⟩
    go_wp2_with fail
    go_ret
    exact ⟨rfl, rfl⟩
end Go.Proofs.Ytbadgmfhlaedoaa.Draw
