/-
  The reference's cache: rows in memory; Find, Drop. Conditions: what it holds.
-/
import Derived.Test.YtcifkccaiekkeaaCacheH
import Derived.Test.YtcifkccaiekkeaaLexA
namespace Go.Proofs.Ytcifkccaiekkeaa.Cache
open Go.RowKit Go.Proofs.Ytcifkccaiekkeaa.Base Go.Maps Go.Proofs.Ytcifkccaiekkeaa.Ints
set_option linter.unusedVariables false
set_option linter.unusedSimpArgs false
abbrev RowT := Key × ByteArray
def rc (r : RowT) : List Value := [.int .i64 r.1.1, .int .i64 r.1.2, .string r.2]
theorem rc_len (x : RowT) : (rc x).length = 3 := rfl
theorem rc_one (x : RowT) : ∀ u ∈ rc x, u.oneCell' = true := by
  intro u hu
  simp [rc] at hu
  rcases hu with rfl | rfl | rfl <;> rfl
theorem elemR : Elem Try.prog 62 68 (.agg #[.int .i64 0, .int .i64 0, .string ⟨#[]⟩]) 3 32 rc := ⟨Try.underlying62, by kernel_rfl, rfl, by omega, rc_len, rc_one⟩
/-- What the reference's cache holds; G: all blocks that are its own. -/
structure RM (G : Nat → Prop) (w : World) (b : Nat) (room : Int) (R : List RowT) (V : Value) : Prop where
  blk : w.heap[b]? = some (.cells #[.int .i64 room, V] 64 (0, 0))
  sl : Sl w 0 68 3 rc V R
  ob : G b
  oV : ∀ k, V.ownBlock = some k → G k
def RC (G : Nat → Prop) (w : World) (b : Nat) (room : Int) (R : List RowT) : Prop := ∃ V, RM G w b room R V
section
variable {G : Nat → Prop} {w w' : World} {b : Nat} {room : Int} {R : List RowT} {V : Value}
theorem RM.upd (h : RM G w b room R V) {S : Nat → Prop} (u : Upd S w w') (hs : ∀ k, G k → ¬ S k) : RM G w' b room R V :=
  ⟨u.blk h.blk (hs _ h.ob), h.sl.upd u (fun k hk => hs _ (h.oV k hk)), h.ob, h.oV⟩
theorem RC.upd (h : RC G w b room R) {S : Nat → Prop} (u : Upd S w w') (hs : ∀ k, G k → ¬ S k) : RC G w' b room R := by
  obtain ⟨V, h⟩ := h
  exact ⟨V, h.upd u hs⟩
theorem RC.upd0 (h : RC G w b room R) (u : Upd Nil w w') : RC G w' b room R := h.upd u (fun _ _ h => h)
theorem RC.mono {G' : Nat → Prop} (h : RC G w b room R) (hg : ∀ k, G k → G' k) : RC G' w b room R := by
  obtain ⟨V, h⟩ := h
  exact ⟨V, h.blk, h.sl, hg _ h.ob, fun k hk => hg k (h.oV k hk)⟩
end
theorem rc_cell {w : World} {A : Option Addr} {l : List RowT} (h : Arg w A 3 rc l) {i : Nat} (hi : i < l.length) : ∃ g o, A = some ⟨g, o, none⟩ ∧ g < w.heap.size ∧ w.cell? ⟨g, o + i * 3, none⟩ = some (.int .i64 l[i].1.1) ∧ w.cell? ⟨g, o + i * 3 + 1, none⟩ = some (.int .i64 l[i].1.2) ∧ w.cell? ⟨g, o + i * 3 + 2, none⟩ = some (.string l[i].2) := by
  rcases h with h | ⟨b, off, h1, h2, h3⟩
  · subst h; simp at hi
  · exact ⟨b, off, h1, h2, by simpa [rc] using h3 i hi 0 (by omega), by simpa [rc] using h3 i hi 1 (by omega), by simpa [rc] using h3 i hi 2 (by omega)⟩
/-- Where a key's row is. -/
def posK : List RowT → Key → Nat
  | [], _ => 0
  | r :: l, k => if r.1 = k then 0 else posK l k + 1
def idxK (R : List RowT) (k : Key) : Int := if (findK R k).isSome then posK R k else -1
theorem pos_at : ∀ (R : List RowT) (k : Key) (i : Nat) (hi : i < R.length), R[i].1 = k → (∀ j (hj : j < R.length), j < i → R[j].1 ≠ k) → posK R k = i ∧ (findK R k).isSome = true
  | [], k, i, hi, _, _ => by simp at hi
  | r :: l, k, 0, hi, h, _ => by
    have h : r.1 = k := h
    simp [posK, findK, h]
  | r :: l, k, i + 1, hi, h, hn => by
    have h0 : r.1 ≠ k := hn 0 (by simp) (by omega)
    have ih := pos_at l k i (by simpa using hi) (by simpa using h) (fun j hj hji => by
      have := hn (j + 1) (by simpa using hj) (by omega)
      simpa using this)
    refine ⟨by rw [posK, if_neg h0, ih.1], ?_⟩
    rw [← ih.2]
    unfold findK
    rw [List.find?_cons_of_neg (by simpa using h0)]
theorem pos_none (R : List RowT) (k : Key) (h : ∀ j (hj : j < R.length), R[j].1 ≠ k) : findK R k = none := by
  unfold findK
  rw [Option.map_eq_none_iff, List.find?_eq_none]
  intro x hx
  obtain ⟨j, hj, rfl⟩ := List.getElem_of_mem hx
  simpa using h j hj
set_option maxRecDepth 100000 in
theorem rfind {G : Nat → Prop} {w : World} {b : Nat} {room : Int} {R : List RowT} (h : RC G w b room R) (hl : R.length ≤ 1000000) (k : Key) :
    Calls Try.prog 39 #[.pointer (some ⟨b, 0, none⟩), .int .i64 k.1, .int .i64 k.2] w fun e w' => e = .returned (.int .i64 (idxK R k)) ∧ Upd Nil w w' := by
  obtain ⟨V, h⟩ := h
  obtain ⟨A, c, rfl, hc⟩ := h.sl.form
  have hA := h.sl.cells rc_len (by omega)
  have c1 : w.cell? ⟨b, 1, none⟩ = some (.slice A R.length c) := blk_cell h.blk 1
  clear h
  go_enter Try.func39, Try.ntmps39
  go_wp2_with fail
  go_loopw [14] (fun s14 wr => ∃ i : Nat, i ≤ R.length ∧ s14 = .int .i64 (i : Int) ∧ (∀ j (hj : j < R.length), j < i → R[j].1 ≠ k) ∧ Upd Nil w wr) (fun s14 _ => R.length - (intOf s14).toNat)
  case atStart => exact ⟨0, by omega, rfl, fun j hj h => absurd h (by omega), Upd.refl _ _⟩
  case round =>
    obtain ⟨i, hi, rfl, hno, hU⟩ := hrel
    by_cases hlt : i < R.length
    · obtain ⟨g, o, rfl, _, e0, e1, e2⟩ := rc_cell (hA.upd hU) hlt
      have hU2 := hU.alloc (.cells (rc R[i]).toArray 68)
      have hnx : R[i].1 ≠ k → ∀ j (hj : j < R.length), j < i + 1 → R[j].1 ≠ k := fun h0 j hj hji => by
        rcases Nat.lt_or_ge j i with h1 | h1
        · exact hno j hj h1
        · obtain rfl : j = i := by omega
          exact h0
      have hps := fun h0 => pos_at R k i hlt h0 hno
      generalize R[i] = r at *
      obtain ⟨⟨r1, r2⟩, rs⟩ := r
      obtain ⟨k1, k2⟩ := k
      have hnxH := Lib.hid (And.intro hnx hps)
      clear hnx hps hno
      simp only at e0 e1 e2
      by_cases h1 : r1 = k1
      · subst h1
        by_cases h2 : r2 = k2
        · subst h2
          go_wp2_with fail
          go_ret
          obtain ⟨p1, p2⟩ := hnxH.out.2 trivial
          exact ⟨by unfold idxK; rw [p2, p1]; rfl, hU2⟩
        · have hnx := hnxH.out.1 (fun e => h2 (by simp at e; exact e))
          have hnxH2 := Lib.hid hnx
          clear hnx
          go_wp2_with fail
          go_roundw
          case measure => simp [intOf]; omega
          case rel => exact ⟨i + 1, by omega, by go_num, hnxH2.out, hU2⟩
      · have hnx := hnxH.out.1 (fun e => h1 (by simp at e; exact e.1))
        have hnxH2 := Lib.hid hnx
        clear hnx
        go_wp2_with fail
        go_roundw
        case measure => simp [intOf]; omega
        case rel => exact ⟨i + 1, by omega, by go_num, hnxH2.out, hU2⟩
    · obtain rfl : i = R.length := by omega
      have hn := pos_none R k (fun j hj => hno j hj hj)
      have hnH := Lib.hid hn
      clear hn hno
      go_wp2_with fail
      go_ret
      exact ⟨by unfold idxK; rw [hnH.out]; rfl, hU⟩
theorem lt_of {A B : List RowT} {r : RowT} : A.length < (A ++ r :: B).length := by simp
set_option maxRecDepth 100000 in
theorem rdrop {G : Nat → Prop} {w : World} {b : Nat} {room : Int} {A B : List RowT} {r : RowT} (h : RC G w b room (A ++ r :: B)) (hl : (A ++ r :: B).length ≤ 1000000) :
    Calls Try.prog 42 #[.pointer (some ⟨b, 0, none⟩), .int .i64 (A.length : Int)] w fun e w' => e = .returned (.tuple #[]) ∧ RC (More G w.heap.size w'.heap.size) w' b room (A ++ B) ∧ Upd (Only b) w w' := by
  obtain ⟨V, h⟩ := h
  have htk : (A ++ r :: B).take A.length = A := by simp
  have hdp : (A ++ r :: B).drop (A.length + 1) = B := by rw [List.drop_append]; simp
  have hlB : B.length ≤ 1000000 := by simp at hl; omega
  have hlA := lt_of (A := A) (B := B) (r := r)
  generalize hRR : A ++ r :: B = R at *
  have hRH := Lib.hid (And.intro htk hdp)
  clear hRR htk hdp
  obtain ⟨A0, c, rfl, hc⟩ := h.sl.form
  have hA := h.sl.cells rc_len (by omega)
  have hbl := blk_lt h.blk
  have hbn : ¬ From w.heap.size b := fun e => by unfold From at e; omega
  have c1 : ∀ w', Upd (From w.heap.size) w.drew w' → w'.cell? ⟨b, 1, none⟩ = some (.slice A0 R.length c) := fun w' u => blk_cell (u.blk (blk_drew h.blk) (fun h => hbn h)) 1
  have hcm := h.sl.capMax
  have hw1 := wr1 (x := (A.length : Int) + 1) (by omega)
  have hBl : R.length - (A.length + 1) = B.length := by rw [← hRH.out.2, List.length_drop]
  have b0 : (0 : Int) ≤ (A.length : Int) := by omega
  have b1 : (A.length : Int) ≤ (c : Int) := by omega
  have b2 : (A.length : Int) + 1 ≤ (R.length : Int) := by omega
  have b3 : (0 : Int) ≤ (A.length : Int) + 1 := by omega
  have b4 : (R.length : Int) ≤ (c : Int) := by omega
  go_enter Try.func42, Try.ntmps42
  go_wp2_with fail
  refine wp_region_lexT (Upd (OrFrom b w.heap.size)) (Upd (From w.heap.size)) (fun _ => Upd.refl _ _) (fun _ _ _ h k => h.tr k) (fun _ => Upd.refl _ _) (fun _ _ _ h k => h.tr k) (fun _ _ h => h.mono (fun _ h => .inr h)) [(0, true), (2, true), (3, true), (4, true), (5, true), (6, true), (7, true), (9, true), (10, true), (11, true), (12, true), (13, true), (14, true), (15, true), (1, false), (8, false), (16, false), (17, true), (18, true), (19, false)] (by kernel_rfl) (by kernel_rfl) rfl (by kernel_rfl) (by kernel_rfl) ?_
  simp only [inOrderT, List.filterMap_cons, List.filterMap_nil, List.getElem?_cons_zero, List.getElem?_cons_succ, Option.map_some]
  try simp only [Act.put, List.setIfInBounds_toArray, List.set_cons_zero, List.set_cons_succ]
  repeat
    first
    | (refine lexT_sure (v := ?_) rfl rfl ?_ ?_
       rotate_left
       · intro w' hU'
         go_simp
         try with_reducible rfl
       try simp only [Act.put, List.setIfInBounds_toArray, List.set_cons_zero, List.set_cons_succ])
    | (refine lexT_pure (v := ?_) rfl rfl ?_ ?_
       rotate_left
       · intro w' hU'
         go_simp
         try with_reducible rfl
       try simp only [Act.put, List.setIfInBounds_toArray, List.set_cons_zero, List.set_cons_succ])
    | (refine lexT_skip rfl ?_
       try simp only [Act.put, List.setIfInBounds_toArray, List.set_cons_zero, List.set_cons_succ])
  refine lexT_run (v := .slice (some ⟨w.drew.heap.size, 0, none⟩) 0 0) (w' := w.drew.alloc (.cells #[] 68)) rfl rfl rfl (by go_simp) ((Upd.refl _ _).alloc _) ?_
  try simp only [Act.put, List.setIfInBounds_toArray, List.set_cons_zero, List.set_cons_succ]
  repeat
    first
    | (refine lexT_sure (v := ?_) rfl rfl ?_ ?_
       rotate_left
       · intro w' hU'
         go_simp
         try with_reducible rfl
       try simp only [Act.put, List.setIfInBounds_toArray, List.set_cons_zero, List.set_cons_succ])
    | (refine lexT_pure (v := ?_) rfl rfl ?_ ?_
       rotate_left
       · intro w' hU'
         go_simp
         try with_reducible rfl
       try simp only [Act.put, List.setIfInBounds_toArray, List.set_cons_zero, List.set_cons_succ])
    | (refine lexT_skip rfl ?_
       try simp only [Act.put, List.setIfInBounds_toArray, List.set_cons_zero, List.set_cons_succ])
  have hz : Sl (w.drew.alloc (.cells #[] 68)) w.drew.heap.size 68 3 rc (.slice (some ⟨w.drew.heap.size, 0, none⟩) 0 0) [] := Sl.zero _ _ _ _ _ _ (Nat.le_refl _)
  have hU1 : Upd Nil w (w.drew.alloc (.cells #[] 68)) := (Upd.refl Nil w).drew.alloc _
  have hA1 : Arg (w.drew.alloc (.cells #[] 68)) A0 3 rc A := by
    have := arg_take (hA.upd hU1) A.length
    rw [hRH.out.1] at this
    exact this
  have hs1 := Src.ofArg (P := Try.prog) (tx := 62) ⟨_, elemR.ht⟩ rc_len rc_one hA1 c
  refine lexT_app w.drew.heap.size (.tmp 5) (.tmp 11) elemR rfl rfl rfl rfl (.slice (some ⟨w.drew.heap.size, 0, none⟩) 0 0) [] A _ rfl rfl hs1 hz (by simp) (by simp; omega) (by simp; unfold maxLen; omega) ?_
  intro A1 k1 w1 hv1 hg1 hat1
  simp only [List.length_nil, Nat.zero_add, List.nil_append] at hv1 ⊢
  have hU2 : Upd Nil w w1 := hU1.grown hg1 (fun k hk => .inr (by injection hk with hk; subst hk; exact Nat.le_refl _))
  refine ⟨(Upd.refl (From w.heap.size) _).grown hg1 (fun k hk => .inl (by injection hk with hk; subst hk; exact Nat.le_refl _)), ?_⟩
  have hB1 : Arg w1 (if c = A.length + 1 then A0 else A0.map (·.add ((A.length + 1) * 3))) 3 rc B := by
    have := arg_drop (hA.upd hU2) (A.length + 1) c hc (by omega)
    rw [hRH.out.2] at this
    exact this
  have hs2 := Src.ofArg (P := Try.prog) (tx := 62) ⟨_, elemR.ht⟩ rc_len rc_one hB1 (c - (A.length + 1))
  try simp only [Act.put, List.setIfInBounds_toArray, List.set_cons_zero, List.set_cons_succ]
  repeat
    first
    | (refine lexT_sure (v := ?_) rfl rfl ?_ ?_
       rotate_left
       · intro w' hU'
         go_simp
         try with_reducible rfl
       try simp only [Act.put, List.setIfInBounds_toArray, List.set_cons_zero, List.set_cons_succ])
    | (refine lexT_pure (v := ?_) rfl rfl ?_ ?_
       rotate_left
       · intro w' hU'
         go_simp
         try with_reducible rfl
       try simp only [Act.put, List.setIfInBounds_toArray, List.set_cons_zero, List.set_cons_succ])
    | (refine lexT_skip rfl ?_
       try simp only [Act.put, List.setIfInBounds_toArray, List.set_cons_zero, List.set_cons_succ])
  refine lexT_app w.drew.heap.size (.tmp 12) (.tmp 19) elemR rfl rfl rfl rfl (.slice A1 A.length k1) A B _ rfl rfl hs2 hv1 (by have := hU2.size; exact this) (by omega) (by unfold maxLen; omega) ?_
  intro A2 k2 w2 hv2 hg2 hat2
  have hU3 : Upd Nil w w2 := hU2.grown hg2 (fun k hk => .inr (hv1.typed k hk).1)
  refine ⟨(Upd.refl (From w.heap.size) _).grown hg2 (fun k hk => .inl (hv1.typed k hk).1), ?_⟩
  have hb2 := hU3.blk h.blk (fun h => h)
  have f1 := blk_frozen hb2 1
  have d1 : ∃ u, w2.cell? ⟨b, 1, none⟩ = some u := ⟨_, blk_cell hb2 1⟩
  obtain ⟨u1, d1⟩ := d1
  try simp only [Act.put, List.setIfInBounds_toArray, List.set_cons_zero, List.set_cons_succ]
  repeat
    first
    | (refine lexT_sure (v := ?_) rfl rfl ?_ ?_
       rotate_left
       · intro w' hU'
         go_simp
         try with_reducible rfl
       try simp only [Act.put, List.setIfInBounds_toArray, List.set_cons_zero, List.set_cons_succ])
    | (refine lexT_pure (v := ?_) rfl rfl ?_ ?_
       rotate_left
       · intro w' hU'
         go_simp
         try with_reducible rfl
       try simp only [Act.put, List.setIfInBounds_toArray, List.set_cons_zero, List.set_cons_succ])
    | (refine lexT_skip rfl ?_
       try simp only [Act.put, List.setIfInBounds_toArray, List.set_cons_zero, List.set_cons_succ])
  refine lexT_store (w' := w2.setCell ⟨b, 1, none⟩ (.slice A2 (A.length + B.length) k2)) rfl rfl rfl (by go_simp) ((Upd.refl _ _).set (p := ⟨b, 1, none⟩) (.inl (.inl rfl)) _) ?_
  refine lexT_done ?_
  have hb3 := blk_put hb2 1 (.slice A2 (A.length + B.length) k2) rfl
  have u3 : Upd (Only b) w2 (w2.setCell ⟨b, 1, none⟩ (.slice A2 (A.length + B.length) k2)) := (Upd.refl _ _).set1 _
  have hv3 := hv2.upd u3 (fun k hk e => hv2.ne hb2 (by decide) k hk (by cases e; rfl))
  have hU4 : Upd (Only b) w (w2.setCell ⟨b, 1, none⟩ (.slice A2 (A.length + B.length) k2)) := (hU3.mono (fun _ h => h.elim)).tr u3
  have hob := h.ob
  clear h hA c1
  go_wp2_with fail
  all_goals
    first | go_end0 | (simp only [Exit.inBlock, Exit.then]; refine bodyPost_ret (results_none rfl _ _ _) rfl ?_) | refine bodyPost_ret (results_none rfl _ _ _) rfl ?_
    exact ⟨rfl, ⟨_, hb3, hv3.lower (Nat.zero_le _), .inl hob, fun k hk => .inr ⟨(hv3.typed k hk).1, hv3.lt k hk⟩⟩, hU4⟩
end Go.Proofs.Ytcifkccaiekkeaa.Cache
