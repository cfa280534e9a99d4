/-
  The reference's cache: Get, Put. Conditions: what it holds.
-/
import Derived.Test.YtcifkccaiekkeaaCacheS
namespace Go.Proofs.Ytcifkccaiekkeaa.Cache
open Go.RowKit Go.Proofs.Ytcifkccaiekkeaa.Base Go.Maps Go.Proofs.Ytcifkccaiekkeaa.Ints
set_option linter.unusedVariables false
set_option linter.unusedSimpArgs false
theorem split_pos : ∀ {R : List RowT} {k : Key}, (findK R k).isSome = true → ∃ A v B, R = A ++ (k, v) :: B ∧ posK R k = A.length ∧ findK R k = some v
  | [], k, h => by simp [findK] at h
  | r :: l, k, h => by
    by_cases e : r.1 = k
    · obtain ⟨k', v⟩ := r
      have e : k' = k := e
      subst e
      exact ⟨[], v, l, rfl, by simp [posK], by simp [findK]⟩
    · have hf : findK (r :: l) k = findK l k := by
        unfold findK
        rw [List.find?_cons_of_neg (by simpa using e)]
      rw [hf] at h
      obtain ⟨A, v, B, h1, h2, h3⟩ := split_pos h
      exact ⟨r :: A, v, B, by rw [h1]; rfl, by rw [posK, if_neg e, h2]; rfl, by rw [hf, h3]⟩
theorem dropK_split {A B : List RowT} {k : Key} {v : ByteArray} (h : Apart (A ++ (k, v) :: B)) : dropK (A ++ (k, v) :: B) k = A ++ B := by
  unfold Apart Keys at h
  rw [List.map_append, List.map_cons, List.nodup_append, List.nodup_cons] at h
  obtain ⟨h1, ⟨h2, h3⟩, h4⟩ := h
  unfold dropK
  rw [List.filter_append, List.filter_cons]
  simp only [bne_self_eq_false, Bool.false_eq_true, if_false]
  congr 1
  · rw [List.filter_eq_self]
    intro a ha
    simp only [bne_iff_ne, ne_eq]
    intro e
    exact h4 a.1 (List.mem_map_of_mem ha) k (by simp) e
  · rw [List.filter_eq_self]
    intro a ha
    simp only [bne_iff_ne, ne_eq]
    intro e
    exact h2 (List.mem_map.2 ⟨a, ha, e⟩)
theorem dropK_none {R : List RowT} {k : Key} (h : findK R k = none) : dropK R k = R := by
  unfold dropK
  rw [List.filter_eq_self]
  intro a ha
  unfold findK at h
  rw [Option.map_eq_none_iff] at h
  have := List.find?_eq_none.1 h a ha
  simpa using this
def RGetR (G : Nat → Prop) (w : World) (b : Nat) (room : Int) (R : List RowT) (k : Key) (e : Ending) (w' : World) : Prop :=
  e = .returned (.tuple #[.string (textOf (findK R k)), .bool (findK R k).isSome]) ∧ RC (More G w.heap.size w'.heap.size) w' b room (getK R k) ∧ Upd (Only b) w w'
set_option maxRecDepth 100000 in
theorem rget {G : Nat → Prop} {w : World} {b : Nat} {room : Int} {R : List RowT} (h : RC G w b room R) (hap : Apart R) (hl : R.length ≤ 100000) (k : Key) :
    Calls Try.prog 41 #[.pointer (some ⟨b, 0, none⟩), .int .i64 k.1, .int .i64 k.2] w (RGetR G w b room R k) := by
  generalize hRR : RGetR G w b room R k = RR
  have hRH := Lib.hid hRR
  clear hRR
  go_enter Try.func41, Try.ntmps41
  go_wp2_with fail
  refine (rfind h (by omega) k).mono ?_
  rintro e w1 ⟨rfl, u1⟩
  have h1 := h.upd0 u1
  cases hf : (findK R k).isSome with
  | false =>
    have hn : findK R k = none := by simpa using hf
    have hi : idxK R k = -1 := by unfold idxK; rw [hf]; rfl
    rw [hi]
    have hnH := Lib.hid hn
    clear hf hn hi
    go_wp2_with fail
    rw [← hRH.out]
    refine ⟨by rw [hnH.out]; rfl, ?_, u1.mono (fun _ h => h.elim)⟩
    unfold getK
    rw [hnH.out]
    exact h1.mono (fun _ h => .inl h)
  | true =>
    obtain ⟨A, v, B, rfl, hp, hfv⟩ := split_pos hf
    have hi : idxK (A ++ (k, v) :: B) k = (A.length : Int) := by unfold idxK; rw [hf, hp]; rfl
    have hdr := dropK_split hap
    rw [hi]
    have hpk := Lib.hid (And.intro hfv hdr)
    clear hf hp hfv hdr hi
    obtain ⟨V, hm⟩ := h1
    obtain ⟨A1, c1, rfl, hc1⟩ := hm.sl.form
    have hlt := lt_of (A := A) (B := B) (r := (k, v))
    obtain ⟨g, o, rfl, _, y0, y1, y2⟩ := rc_cell (hm.sl.cells rc_len (by omega)) hlt
    have hget : (A ++ (k, v) :: B)[A.length] = (k, v) := by simp
    rw [hget] at y0 y1 y2
    clear hget
    simp only at y0 y1 y2
    have r1 : w1.cell? ⟨b, 1, none⟩ = some (.slice (some ⟨g, o, none⟩) (A ++ (k, v) :: B).length c1) := blk_cell hm.blk 1
    have ua := (Upd.refl Nil w1).alloc (.cells #[.int .i64 k.1, .int .i64 k.2, .string v] 68)
    have hx := blk_new w1 (.cells #[.int .i64 k.1, .int .i64 k.2, .string v] 68)
    have h2 : RC G (w1.alloc (.cells #[.int .i64 k.1, .int .i64 k.2, .string v] 68)) b room (A ++ (k, v) :: B) := ⟨_, hm.upd ua (fun _ _ h => h)⟩
    have hob := hm.ob
    have hbl := blk_lt hm.blk
    clear hm
    generalize hLL : (A ++ (k, v) :: B).length = LL at *
    have hAL : (A.length : Int) < (LL : Int) := by omega
    have u12 := u1.tr ua
    go_wp2_with fail
    generalize w1.alloc (.cells #[.int .i64 k.1, .int .i64 k.2, .string v] 68) = w2 at *
    have hxb : w1.heap.size ≠ b := by omega
    generalize w1.heap.size = xb at *
    refine (rdrop h2 (by rw [hLL]; omega)).mono ?_
    rintro e w5 ⟨rfl, ⟨V5, h5⟩, u5⟩
    replace hx := u5.blk hx (fun e => hxb (by cases e; rfl))
    have hU5 := (u12.mono (S' := Only b) (fun _ h => h.elim)).tr u5
    have hDl : (A ++ B).length ≤ 100000 := by simp at hLL ⊢; omega
    have hm5 : ∀ k, More G w2.heap.size w5.heap.size k → More G w.heap.size w5.heap.size k := fun k hk => hk.elim .inl (fun q => .inr ⟨by have := u12.size; have := q.1; omega, q.2⟩)
    clear y0 y1 y2 r1 ua h2 hAL hlt
    generalize hG5 : More G w2.heap.size w5.heap.size = G5 at *
    generalize hD : A ++ B = D at *
    have hDH := Lib.hid hD
    clear hD hG5
    obtain ⟨s, rfl⟩ : ∃ s, s = v := ⟨v, rfl⟩
    have hbl := blk_lt h5.blk
    have hbn : ¬ From w5.heap.size b := fun e => by unfold From at e; omega
    obtain ⟨A0, c0, rfl, hc0⟩ := h5.sl.form
    have hA := h5.sl.cells rc_len (by omega)
    have c1 : ∀ w', Upd (From w5.heap.size) w5.drew w' → w'.cell? ⟨b, 1, none⟩ = some (.slice A0 D.length c0) := fun w' u => blk_cell (u.blk (blk_drew h5.blk) (fun h => hbn h)) 1
    have hxl := blk_lt hx
    have x0 : ∀ w', Upd (From w5.heap.size) w5.drew w' → w'.cell? ⟨xb, 0, none⟩ = some (.int .i64 k.1) := fun w' u => blk_cell (u.blk (blk_drew hx) (fun e => by unfold From at e; omega)) 0
    have x1 : ∀ w', Upd (From w5.heap.size) w5.drew w' → w'.cell? ⟨xb, 1, none⟩ = some (.int .i64 k.2) := fun w' u => blk_cell (u.blk (blk_drew hx) (fun e => by unfold From at e; omega)) 1
    have x2 : ∀ w', Upd (From w5.heap.size) w5.drew w' → w'.cell? ⟨xb, 2, none⟩ = some (.string s) := fun w' u => blk_cell (u.blk (blk_drew hx) (fun e => by unfold From at e; omega)) 2
    go_wp2_with fail
    refine wp_region_lexT (Upd (OrFrom b w5.heap.size)) (Upd (From w5.heap.size)) (fun _ => Upd.refl _ _) (fun _ _ _ h k => h.tr k) (fun _ => Upd.refl _ _) (fun _ _ _ h k => h.tr k) (fun _ _ h => h.mono (fun _ h => .inr h)) [(0, true), (1, true), (3, true), (4, true), (5, true), (6, true), (2, false), (7, false), (8, true), (9, true), (10, false)] (by kernel_rfl) (by kernel_rfl) rfl (by kernel_rfl) (by kernel_rfl) ?_
    simp only [inOrderT, List.filterMap_cons, List.filterMap_nil, List.getElem?_cons_zero, List.getElem?_cons_succ, Option.map_some]
    try simp only [Act.put, List.setIfInBounds_toArray, List.set_cons_zero, List.set_cons_succ]
    repeat
      first
      | (refine lexT_sure (v := ?_) rfl rfl ?_ ?_
         rotate_left
         · intro w' hU'
           go_simp
           try with_reducible rfl
         try simp only [Act.put, List.setIfInBounds_toArray, List.set_cons_zero, List.set_cons_succ])
      | (refine lexT_pure (v := ?_) rfl rfl ?_ ?_
         rotate_left
         · intro w' hU'
           go_simp
           try with_reducible rfl
         try simp only [Act.put, List.setIfInBounds_toArray, List.set_cons_zero, List.set_cons_succ])
      | (refine lexT_skip rfl ?_
         try simp only [Act.put, List.setIfInBounds_toArray, List.set_cons_zero, List.set_cons_succ])
    refine lexT_run (v := .slice (some ⟨w5.drew.heap.size, 0, none⟩) 1 1) (w' := w5.drew.alloc (.cells #[.int .i64 k.1, .int .i64 k.2, .string s] 68)) rfl rfl rfl (by go_simp) ((Upd.refl _ _).alloc _) ?_
    try simp only [Act.put, List.setIfInBounds_toArray, List.set_cons_zero, List.set_cons_succ]
    repeat
      first
      | (refine lexT_sure (v := ?_) rfl rfl ?_ ?_
         rotate_left
         · intro w' hU'
           go_simp
           try with_reducible rfl
         try simp only [Act.put, List.setIfInBounds_toArray, List.set_cons_zero, List.set_cons_succ])
      | (refine lexT_pure (v := ?_) rfl rfl ?_ ?_
         rotate_left
         · intro w' hU'
           go_simp
           try with_reducible rfl
         try simp only [Act.put, List.setIfInBounds_toArray, List.set_cons_zero, List.set_cons_succ])
      | (refine lexT_skip rfl ?_
         try simp only [Act.put, List.setIfInBounds_toArray, List.set_cons_zero, List.set_cons_succ])
    have hU1 : Upd Nil w5 (w5.drew.alloc (.cells #[.int .i64 k.1, .int .i64 k.2, .string s] 68)) := (Upd.refl Nil w5).drew.alloc _
    have hz : Sl (w5.drew.alloc (.cells #[.int .i64 k.1, .int .i64 k.2, .string s] 68)) w5.drew.heap.size 68 3 rc (.slice (some ⟨w5.drew.heap.size, 0, none⟩) 1 1) [(k, s)] := sl_lit rc_len (Nat.le_refl _) (blk_new _ _) rfl (by simp) (by simp) (by simp [maxLen])
    have hs2 := Src.ofArg (P := Try.prog) (tx := 62) ⟨_, elemR.ht⟩ rc_len rc_one (hA.upd hU1) c0
    refine lexT_app w5.drew.heap.size (.tmp 28) (.tmp 32) elemR rfl rfl rfl rfl (.slice (some ⟨w5.drew.heap.size, 0, none⟩) 1 1) [(k, s)] D _ rfl rfl hs2 hz (by simp) (by simp; omega) (by simp; unfold maxLen; omega) ?_
    intro A2 k2 w6 hv2 hg2 hat2
    have hU3 : Upd Nil w5 w6 := hU1.grown hg2 (fun k hk => .inr (hz.typed k hk).1)
    refine ⟨(Upd.refl (From w5.heap.size) _).grown hg2 (fun k hk => .inl (hz.typed k hk).1), ?_⟩
    have hb2 := hU3.blk h5.blk (fun h => h)
    have f1 := blk_frozen hb2 1
    obtain ⟨u1, d1⟩ : ∃ u, w6.cell? ⟨b, 1, none⟩ = some u := ⟨_, blk_cell hb2 1⟩
    have hD1 : ([(k, s)] : List RowT).length + D.length = D.length + 1 := by simp; omega
    rw [hD1] at hv2 hat2 ⊢
    try simp only [Act.put, List.setIfInBounds_toArray, List.set_cons_zero, List.set_cons_succ]
    repeat
      first
      | (refine lexT_sure (v := ?_) rfl rfl ?_ ?_
         rotate_left
         · intro w' hU'
           go_simp
           try with_reducible rfl
         try simp only [Act.put, List.setIfInBounds_toArray, List.set_cons_zero, List.set_cons_succ])
      | (refine lexT_pure (v := ?_) rfl rfl ?_ ?_
         rotate_left
         · intro w' hU'
           go_simp
           try with_reducible rfl
         try simp only [Act.put, List.setIfInBounds_toArray, List.set_cons_zero, List.set_cons_succ])
      | (refine lexT_skip rfl ?_
         try simp only [Act.put, List.setIfInBounds_toArray, List.set_cons_zero, List.set_cons_succ])
    refine lexT_store (w' := w6.setCell ⟨b, 1, none⟩ (.slice A2 (D.length + 1) k2)) rfl rfl rfl (by go_simp) ((Upd.refl _ _).set (p := ⟨b, 1, none⟩) (.inl (.inl rfl)) _) ?_
    refine lexT_done ?_
    have hb3 := blk_put hb2 1 (.slice A2 (D.length + 1) k2) rfl
    have u3 : Upd (Only b) w6 (w6.setCell ⟨b, 1, none⟩ (.slice A2 (D.length + 1) k2)) := (Upd.refl _ _).set1 _
    have hv3 := hv2.upd u3 (fun k hk e => hv2.ne hb2 (by decide) k hk (by cases e; rfl))
    have hU4 : Upd (Only b) w5 (w6.setCell ⟨b, 1, none⟩ (.slice A2 (D.length + 1) k2)) := (hU3.mono (fun _ h => h.elim)).tr u3
    have hM7 : RM (More G5 w5.heap.size (w6.setCell ⟨b, 1, none⟩ (.slice A2 (D.length + 1) k2)).heap.size) (w6.setCell ⟨b, 1, none⟩ (.slice A2 (D.length + 1) k2)) b room ((k, s) :: D) (.slice A2 (D.length + 1) k2) :=
      ⟨hb3, hv3.lower (Nat.zero_le _), .inl h5.ob, fun k hk => .inr ⟨(hv3.typed k hk).1, hv3.lt k hk⟩⟩
    clear c1 x0 x1 x2 hv3 u3 hb3 d1 f1 hb2 hU3 hat2 hg2 hv2 hs2 hz hU1 hA
    have hx7 := hU4.blk hx (fun e => hxb (by cases e; rfl))
    generalize w6.setCell ⟨b, 1, none⟩ (.slice A2 (D.length + 1) k2) = w7 at *
    have z2 := blk_cell hx7 2
    simp only [List.getElem?_toArray, List.getElem?_cons_zero, List.getElem?_cons_succ] at z2
    go_wp2_with fail
    rw [← hRH.out]
    obtain ⟨hfv, hdr⟩ := hpk.out
    refine ⟨by rw [hfv]; rfl, ?_, hU5.tr hU4⟩
    have hgk : getK (A ++ (k, s) :: B) k = (k, s) :: D := by
      unfold getK
      rw [hfv, hdr]
    rw [hgk]
    refine RC.mono ⟨_, hM7⟩ (fun k hk => ?_)
    have := hU5.size
    have := hU4.size
    rcases hk with hk | hk
    · exact (hm5 k hk).elim .inl (fun q => .inr ⟨q.1, by have := q.2; omega⟩)
    · exact .inr ⟨by have := hk.1; omega, hk.2⟩
theorem alloc_alloc (w : World) (o o' : Obj) {S : Nat → Prop} (hs : ∀ y, w.heap.size ≤ y → S y) : Upd S (w.alloc o) (w.alloc o') :=
  ⟨rfl, rfl, by simp, fun k hk hn => by
    have hlt : k < w.heap.size := Nat.not_le.1 (fun h => hn (hs k h))
    rw [Below.heap_alloc _ _ _ hlt, Below.heap_alloc _ _ _ hlt]⟩
def RPutR (G : Nat → Prop) (w : World) (b : Nat) (room : Int) (R : List RowT) (k : Key) (s : ByteArray) (e : Ending) (w' : World) : Prop :=
  (∃ t, e = .returned (.tuple #[.agg #[.int .i64 (keyV (putK room.toNat R k s).2).1, .int .i64 (keyV (putK room.toNat R k s).2).2, .string t], .bool (putK room.toNat R k s).2.isSome])) ∧ RC (More G w.heap.size w'.heap.size) w' b room (putK room.toNat R k s).1 ∧ Upd (Only b) w w'
theorem three_set {w : World} {b : Nat} {u v z : Value} (x y t : Value) (h0 : w.cell? ⟨b, 0, none⟩ = some u) (h1 : w.cell? ⟨b, 1, none⟩ = some v) (h2 : w.cell? ⟨b, 2, none⟩ = some z) :
    (((w.setCell ⟨b, 0, none⟩ x).setCell ⟨b, 1, none⟩ y).setCell ⟨b, 2, none⟩ t).cell? ⟨b, 0, none⟩ = some x ∧ (((w.setCell ⟨b, 0, none⟩ x).setCell ⟨b, 1, none⟩ y).setCell ⟨b, 2, none⟩ t).cell? ⟨b, 1, none⟩ = some y ∧ (((w.setCell ⟨b, 0, none⟩ x).setCell ⟨b, 1, none⟩ y).setCell ⟨b, 2, none⟩ t).cell? ⟨b, 2, none⟩ = some t := by
  obtain ⟨a0, a1⟩ := two_set x y h0 h1
  refine ⟨?_, ?_, ?_⟩
  · rw [set_cell_other _ (by omega)]
    exact a0
  · rw [set_cell_other _ (by omega)]
    exact a1
  · exact set_cell_same (u := z) _ (by rw [set_cell_other _ (by omega), set_cell_other _ (by omega)]; exact h2)
set_option maxHeartbeats 4000000 in
set_option maxRecDepth 100000 in
theorem rput {G : Nat → Prop} {w : World} {b : Nat} {room : Int} {R : List RowT} (h : RC G w b room R) (hap : Apart R) (hl : R.length ≤ room.toNat) (hGl : ∀ y, G y → y < w.heap.size) (hroom : 0 ≤ room ∧ room ≤ 1024) (k : Key) (s : ByteArray) :
    Calls Try.prog 40 #[.pointer (some ⟨b, 0, none⟩), .agg #[.int .i64 k.1, .int .i64 k.2, .string s]] w (RPutR G w b room R k s) := by
  generalize hRR : RPutR G w b room R k s = RR
  have hRH := Lib.hid hRR
  clear hRR
  have hx := blk_alloc (blk_new w (.cells #[.int .i64 k.1, .int .i64 k.2, .string s] 68)) (.cells #[.int .i64 0, .int .i64 0, .string ⟨#[]⟩] 68)
  have hz := blk_new (w.alloc (.cells #[.int .i64 k.1, .int .i64 k.2, .string s] 68)) (.cells #[.int .i64 0, .int .i64 0, .string ⟨#[]⟩] 68)
  have hU := ((Upd.refl Nil w).alloc (.cells #[.int .i64 k.1, .int .i64 k.2, .string s] 68)).alloc (.cells #[.int .i64 0, .int .i64 0, .string ⟨#[]⟩] 68)
  rw [show (w.alloc (.cells #[.int .i64 k.1, .int .i64 k.2, .string s] 68)).heap.size = w.heap.size + 1 by simp] at hz
  have hbw : b < w.heap.size := by obtain ⟨V, hm⟩ := h; exact blk_lt hm.blk
  have h1 := h.upd0 hU
  go_enter Try.func40, Try.ntmps40
  go_wp2_with fail
  generalize (w.alloc (.cells #[.int .i64 k.1, .int .i64 k.2, .string s] 68)).alloc (.cells #[.int .i64 0, .int .i64 0, .string ⟨#[]⟩] 68) = W at *
  have hnr : w.heap.size ≠ b ∧ w.heap.size + 1 ≠ b ∧ w.heap.size ≤ w.heap.size + 1 ∧ w.heap.size ≠ w.heap.size + 1 := by omega
  generalize w.heap.size + 1 = rb at *
  generalize hxb0 : w.heap.size = xb at *
  have x0 := blk_cell hx 0
  have x1 := blk_cell hx 1
  simp only [List.getElem?_toArray, List.getElem?_cons_zero, List.getElem?_cons_succ] at x0 x1
  go_wp2_with fail
  clear x0 x1
  refine (rfind h1 (by omega) k).mono ?_
  rintro e w1 ⟨rfl, u1⟩
  have h2 := h1.upd0 u1
  have hU1 := hU.tr u1
  replace hx := u1.blk hx (fun h => h)
  replace hz := u1.blk hz (fun h => h)
  clear h1 u1
  cases hf : (findK R k).isSome with
  | false =>
    have hn : findK R k = none := by simpa using hf
    have hi : idxK R k = -1 := by unfold idxK; rw [hf]; rfl
    rw [hi]
    have hdr := Lib.hid (dropK_none hn)
    clear hf hn hi
    obtain ⟨w5, rfl⟩ : ∃ x, x = w1 := ⟨w1, rfl⟩
    obtain ⟨V5, h5⟩ := h2
    have hU5 := hU1.mono (S' := Only b) (fun _ h => h.elim)
    obtain ⟨G5, h5, hm5, hgr⟩ : ∃ G5 : Nat → Prop, RM G5 w5 b room R V5 ∧ (∀ k, G5 k → More G w.heap.size w5.heap.size k) ∧ (∀ k, G5 k → k ≠ rb) := ⟨G, h5, fun k hk => .inl hk, fun k hk => by have := hGl k hk; omega⟩
    obtain ⟨D, rfl⟩ : ∃ x, x = R := ⟨R, rfl⟩
    have hDl := hl
    have r0 := blk_cell h5.blk 0
    simp only [List.getElem?_toArray, List.getElem?_cons_zero, List.getElem?_cons_succ] at r0
    have hxb1 : w.heap.size ≤ xb := by omega
    have hnrH := Lib.hid hnr
    clear hnr
    clear hxb0
    by_cases hr0 : room = 0
    · subst hr0
      have f0 := blk_frozen hz 0
      have f1 := blk_frozen hz 1
      have f2 := blk_frozen hz 2
      have z0 := blk_cell hz 0
      have z1 := blk_cell hz 1
      have z2 := blk_cell hz 2
      simp only [List.getElem?_toArray, List.getElem?_cons_zero, List.getElem?_cons_succ] at z0 z1 z2
      go_wp2_with fail
      obtain ⟨d0, d1, d2⟩ := three_set (.int .i64 0) (.int .i64 0) (.string ⟨#[]⟩) z0 z1 z2
      rw [← hRH.out]
      refine bodyPost_ret (v := .tuple #[.agg #[.int .i64 0, .int .i64 0, .string ⟨#[]⟩], .bool false]) (by simp [results, Try.results40, go_sem, d0, d1, d2]) rfl ?_
      have hp : putK (0 : Int).toNat D k s = (D, none) := by unfold putK; rw [if_pos (by rfl), hdr.out]
      unfold RPutR
      rw [hp]
      have uz : Upd (Only rb) w5 (((w5.setCell ⟨rb, 0, none⟩ (.int .i64 0)).setCell ⟨rb, 1, none⟩ (.int .i64 0)).setCell ⟨rb, 2, none⟩ (.string ⟨#[]⟩)) := (((Upd.refl _ _).set1 _).set1 _).set1 _
      refine ⟨⟨_, rfl⟩, RC.mono ⟨V5, h5.upd uz (fun k hk e => hgr k hk (by cases e; rfl))⟩ (fun k hk => (hm5 k hk).elim .inl (fun q => .inr ⟨q.1, Nat.lt_of_lt_of_le q.2 uz.size⟩)), hU5.trans uz (fun y hy => .inr (by cases hy; have := hnrH.out; omega))⟩
    · obtain ⟨xk, hxk⟩ : ∃ x : Nat, x = D.length := ⟨_, rfl⟩
      have hDm : D.length ≤ 1024 := by omega
      have hbl := blk_lt h5.blk
      have hbn : ¬ From w5.heap.size b := fun e => by unfold From at e; omega
      obtain ⟨A0, c0, rfl, hc0⟩ := h5.sl.form
      have hA := h5.sl.cells rc_len (by omega)
      have c1 : ∀ w', Upd (From w5.heap.size) w5.drew w' → w'.cell? ⟨b, 1, none⟩ = some (.slice A0 D.length c0) := fun w' u => blk_cell (u.blk (blk_drew h5.blk) (fun h => hbn h)) 1
      have hxl := blk_lt hx
      have x0 : ∀ w', Upd (From w5.heap.size) w5.drew w' → w'.cell? ⟨xb, 0, none⟩ = some (.int .i64 k.1) := fun w' u => blk_cell (u.blk (blk_drew hx) (fun e => by unfold From at e; omega)) 0
      have x1 : ∀ w', Upd (From w5.heap.size) w5.drew w' → w'.cell? ⟨xb, 1, none⟩ = some (.int .i64 k.2) := fun w' u => blk_cell (u.blk (blk_drew hx) (fun e => by unfold From at e; omega)) 1
      have x2 : ∀ w', Upd (From w5.heap.size) w5.drew w' → w'.cell? ⟨xb, 2, none⟩ = some (.string s) := fun w' u => blk_cell (u.blk (blk_drew hx) (fun e => by unfold From at e; omega)) 2
      go_wp2_with fail
      refine wp_region_lexT (Upd (OrFrom b w5.heap.size)) (Upd (From w5.heap.size)) (fun _ => Upd.refl _ _) (fun _ _ _ h k => h.tr k) (fun _ => Upd.refl _ _) (fun _ _ _ h k => h.tr k) (fun _ _ h => h.mono (fun _ h => .inr h)) [(0, true), (1, true), (3, true), (4, true), (5, true), (6, true), (2, false), (7, false), (8, true), (9, true), (10, false)] (by kernel_rfl) (by kernel_rfl) rfl (by kernel_rfl) (by kernel_rfl) ?_
      simp only [inOrderT, List.filterMap_cons, List.filterMap_nil, List.getElem?_cons_zero, List.getElem?_cons_succ, Option.map_some]
      try simp only [Act.put, List.setIfInBounds_toArray, List.set_cons_zero, List.set_cons_succ]
      repeat
        first
        | (refine lexT_sure (v := ?_) rfl rfl ?_ ?_
           rotate_left
           · intro w' hU'
             go_simp
             try with_reducible rfl
           try simp only [Act.put, List.setIfInBounds_toArray, List.set_cons_zero, List.set_cons_succ])
        | (refine lexT_pure (v := ?_) rfl rfl ?_ ?_
           rotate_left
           · intro w' hU'
             go_simp
             try with_reducible rfl
           try simp only [Act.put, List.setIfInBounds_toArray, List.set_cons_zero, List.set_cons_succ])
        | (refine lexT_skip rfl ?_
           try simp only [Act.put, List.setIfInBounds_toArray, List.set_cons_zero, List.set_cons_succ])
      refine lexT_run (v := .slice (some ⟨w5.drew.heap.size, 0, none⟩) 1 1) (w' := w5.drew.alloc (.cells #[.int .i64 k.1, .int .i64 k.2, .string s] 68)) rfl rfl rfl (by go_simp) ((Upd.refl _ _).alloc _) ?_
      try simp only [Act.put, List.setIfInBounds_toArray, List.set_cons_zero, List.set_cons_succ]
      repeat
        first
        | (refine lexT_sure (v := ?_) rfl rfl ?_ ?_
           rotate_left
           · intro w' hU'
             go_simp
             try with_reducible rfl
           try simp only [Act.put, List.setIfInBounds_toArray, List.set_cons_zero, List.set_cons_succ])
        | (refine lexT_pure (v := ?_) rfl rfl ?_ ?_
           rotate_left
           · intro w' hU'
             go_simp
             try with_reducible rfl
           try simp only [Act.put, List.setIfInBounds_toArray, List.set_cons_zero, List.set_cons_succ])
        | (refine lexT_skip rfl ?_
           try simp only [Act.put, List.setIfInBounds_toArray, List.set_cons_zero, List.set_cons_succ])
      have hU1 : Upd Nil w5 (w5.drew.alloc (.cells #[.int .i64 k.1, .int .i64 k.2, .string s] 68)) := (Upd.refl Nil w5).drew.alloc _
      have hz : Sl (w5.drew.alloc (.cells #[.int .i64 k.1, .int .i64 k.2, .string s] 68)) w5.drew.heap.size 68 3 rc (.slice (some ⟨w5.drew.heap.size, 0, none⟩) 1 1) [(k, s)] := sl_lit rc_len (Nat.le_refl _) (blk_new _ _) rfl (by simp) (by simp) (by simp [maxLen])
      have hs2 := Src.ofArg (P := Try.prog) (tx := 62) ⟨_, elemR.ht⟩ rc_len rc_one (hA.upd hU1) c0
      refine lexT_app w5.drew.heap.size (.tmp 27) (.tmp 31) elemR rfl rfl rfl rfl (.slice (some ⟨w5.drew.heap.size, 0, none⟩) 1 1) [(k, s)] D _ rfl rfl hs2 hz (by simp) (by simp; omega) (by simp; unfold maxLen; omega) ?_
      intro A2 k2 w6 hv2 hg2 hat2
      have hU3 : Upd Nil w5 w6 := hU1.grown hg2 (fun k hk => .inr (hz.typed k hk).1)
      refine ⟨(Upd.refl (From w5.heap.size) _).grown hg2 (fun k hk => .inl (hz.typed k hk).1), ?_⟩
      have hb2 := hU3.blk h5.blk (fun h => h)
      have f1 := blk_frozen hb2 1
      obtain ⟨u1, d1⟩ : ∃ u, w6.cell? ⟨b, 1, none⟩ = some u := ⟨_, blk_cell hb2 1⟩
      have hD1 : ([(k, s)] : List RowT).length + D.length = D.length + 1 := by simp; omega
      rw [hD1] at hv2 hat2 ⊢
      try simp only [Act.put, List.setIfInBounds_toArray, List.set_cons_zero, List.set_cons_succ]
      repeat
        first
        | (refine lexT_sure (v := ?_) rfl rfl ?_ ?_
           rotate_left
           · intro w' hU'
             go_simp
             try with_reducible rfl
           try simp only [Act.put, List.setIfInBounds_toArray, List.set_cons_zero, List.set_cons_succ])
        | (refine lexT_pure (v := ?_) rfl rfl ?_ ?_
           rotate_left
           · intro w' hU'
             go_simp
             try with_reducible rfl
           try simp only [Act.put, List.setIfInBounds_toArray, List.set_cons_zero, List.set_cons_succ])
        | (refine lexT_skip rfl ?_
           try simp only [Act.put, List.setIfInBounds_toArray, List.set_cons_zero, List.set_cons_succ])
      refine lexT_store (w' := w6.setCell ⟨b, 1, none⟩ (.slice A2 (D.length + 1) k2)) rfl rfl rfl (by go_simp) ((Upd.refl _ _).set (p := ⟨b, 1, none⟩) (.inl (.inl rfl)) _) ?_
      refine lexT_done ?_
      have hb3 := blk_put hb2 1 (.slice A2 (D.length + 1) k2) rfl
      have u3 : Upd (Only b) w6 (w6.setCell ⟨b, 1, none⟩ (.slice A2 (D.length + 1) k2)) := (Upd.refl _ _).set1 _
      have hv3 := hv2.upd u3 (fun k hk e => hv2.ne hb2 (by decide) k hk (by cases e; rfl))
      have hU4 : Upd (Only b) w5 (w6.setCell ⟨b, 1, none⟩ (.slice A2 (D.length + 1) k2)) := (hU3.mono (fun _ h => h.elim)).tr u3
      have hM7 : RM (More G5 w5.heap.size (w6.setCell ⟨b, 1, none⟩ (.slice A2 (D.length + 1) k2)).heap.size) (w6.setCell ⟨b, 1, none⟩ (.slice A2 (D.length + 1) k2)) b room ((k, s) :: D) (.slice A2 (D.length + 1) k2) :=
        ⟨hb3, hv3.lower (Nat.zero_le _), .inl h5.ob, fun k hk => .inr ⟨(hv3.typed k hk).1, hv3.lt k hk⟩⟩
      clear c1 x0 x1 x2 hv3 u3 hb3 d1 f1 hb2 hU3 hat2 hg2 hv2 hs2 hz hU1 hA
      have hz7 := hU4.blk hz (fun e => hnrH.out.2.1 (by cases e; rfl))
      have hs7 := hU4.size
      have hrb5 := blk_lt hz
      have hm7 : ∀ k, More G5 w5.heap.size (w6.setCell ⟨b, 1, none⟩ (.slice A2 (D.length + 1) k2)).heap.size k → More G w.heap.size (w6.setCell ⟨b, 1, none⟩ (.slice A2 (D.length + 1) k2)).heap.size k ∧ k ≠ rb := fun k hk => by
        have := hU5.size
        rcases hk with hk | hk
        · exact ⟨(hm5 k hk).elim .inl (fun q => .inr ⟨q.1, by have := q.2; omega⟩), hgr k hk⟩
        · exact ⟨.inr ⟨by have := hk.1; omega, hk.2⟩, by have := hk.1; omega⟩
      generalize hG7 : More G5 w5.heap.size (w6.setCell ⟨b, 1, none⟩ (.slice A2 (D.length + 1) k2)).heap.size = G7 at *
      have hU7 := hU5.tr hU4
      generalize w6.setCell ⟨b, 1, none⟩ (.slice A2 (D.length + 1) k2) = w7 at *
      have r0 := blk_cell hM7.blk 0
      have r1 := blk_cell hM7.blk 1
      simp only [List.getElem?_toArray, List.getElem?_cons_zero, List.getElem?_cons_succ] at r0 r1
      replace hz := hz7
      have f0 := blk_frozen hz 0
      have f1 := blk_frozen hz 1
      have f2 := blk_frozen hz 2
      have z0 := blk_cell hz 0
      have z1 := blk_cell hz 1
      have z2 := blk_cell hz 2
      simp only [List.getElem?_toArray, List.getElem?_cons_zero, List.getElem?_cons_succ] at z0 z1 z2
      have hnb : D.length + 1 ≤ 2000 := by omega
      by_cases hle : (D.length : Int) + 1 ≤ room
      · go_wp2_with fail
        refine wp_region_lexW (Upd Nil) (fun _ => Upd.refl _ _) (fun _ _ _ h k => h.tr k) [(0, true), (1, true), (2, true), (3, true), (4, true), (5, true), (6, true), (7, true), (8, true), (9, true)] (by kernel_rfl) (by kernel_rfl) rfl (by kernel_rfl) (by kernel_rfl) ?_
        simp only [inOrderW, List.filterMap_cons, List.filterMap_nil, List.getElem?_cons_zero, List.getElem?_cons_succ, Option.map_some]
        try simp only [Act.put, List.setIfInBounds_toArray, List.set_cons_zero, List.set_cons_succ]
        repeat
          first
          | (refine lexW_sure (v := ?_) rfl rfl ?_ ?_
             rotate_left
             · go_simp
               try with_reducible rfl
             try simp only [Act.put, List.setIfInBounds_toArray, List.set_cons_zero, List.set_cons_succ])
          | (refine lexW_pure (v := ?_) rfl rfl ?_ ?_
             rotate_left
             · intro w' hU'
               go_simp
               try with_reducible rfl
             try simp only [Act.put, List.setIfInBounds_toArray, List.set_cons_zero, List.set_cons_succ])
          | (refine lexW_skip rfl ?_
             try simp only [Act.put, List.setIfInBounds_toArray, List.set_cons_zero, List.set_cons_succ])
        refine lexW_done ?_
        go_wp2_with fail
        obtain ⟨d0, d1, d2⟩ := three_set (.int .i64 0) (.int .i64 0) (.string ⟨#[]⟩) z0 z1 z2
        rw [← hRH.out]
        refine bodyPost_ret (v := .tuple #[.agg #[.int .i64 0, .int .i64 0, .string ⟨#[]⟩], .bool false]) (by simp [results, Try.results40, go_sem, d0, d1, d2]) rfl ?_
        have hp : putK room.toNat D k s = ((k, s) :: D, none) := by unfold putK; rw [if_neg (by omega), hdr.out, if_pos (by omega)]
        unfold RPutR
        rw [hp]
        have uz : Upd (Only rb) w7 (((w7.setCell ⟨rb, 0, none⟩ (.int .i64 0)).setCell ⟨rb, 1, none⟩ (.int .i64 0)).setCell ⟨rb, 2, none⟩ (.string ⟨#[]⟩)).drew := ((((Upd.refl _ _).set1 _).set1 _).set1 _).drew
        exact ⟨⟨_, rfl⟩, RC.mono ⟨_, hM7.upd uz (fun k hk e => (hm7 k hk).2 (by cases e; rfl))⟩ (fun k hk => (hm7 k hk).1.elim (fun q => .inl q) (fun q => .inr ⟨q.1, Nat.lt_of_lt_of_le q.2 uz.size⟩)), hU7.trans uz (fun y hy => .inr (by cases hy; have := hnrH.out; omega))⟩
      · have hre : room = (D.length : Int) := by omega
        subst hre
        go_wp2_with fail
        refine wp_region_lexW (Upd Nil) (fun _ => Upd.refl _ _) (fun _ _ _ h k => h.tr k) [(0, true), (1, true), (2, true), (3, true), (4, true), (5, true), (6, true), (7, true), (8, true), (9, true)] (by kernel_rfl) (by kernel_rfl) rfl (by kernel_rfl) (by kernel_rfl) ?_
        simp only [inOrderW, List.filterMap_cons, List.filterMap_nil, List.getElem?_cons_zero, List.getElem?_cons_succ, Option.map_some]
        try simp only [Act.put, List.setIfInBounds_toArray, List.set_cons_zero, List.set_cons_succ]
        repeat
          first
          | (refine lexW_sure (v := ?_) rfl rfl ?_ ?_
             rotate_left
             · go_simp
               try with_reducible rfl
             try simp only [Act.put, List.setIfInBounds_toArray, List.set_cons_zero, List.set_cons_succ])
          | (refine lexW_pure (v := ?_) rfl rfl ?_ ?_
             rotate_left
             · intro w' hU'
               go_simp
               try with_reducible rfl
             try simp only [Act.put, List.setIfInBounds_toArray, List.set_cons_zero, List.set_cons_succ])
          | (refine lexW_skip rfl ?_
             try simp only [Act.put, List.setIfInBounds_toArray, List.set_cons_zero, List.set_cons_succ])
        refine lexW_done ?_
        have hM8 := hM7.upd (Upd.refl Nil w7).drew (fun _ _ h => h)
        have hU8 := hU7.drew
        have hz8 := blk_drew hz
        have hs8 := Lib.hid (show w7.drew.heap.size = w7.heap.size from rfl)
        clear r0 r1 f0 f1 f2 z0 z1 z2
        generalize w7.drew = w8 at *
        have hlt : D.length < ((k, s) :: D).length := by simp
        obtain ⟨g, o, rfl, hgl, y0, y1, y2⟩ := rc_cell (hM8.sl.cells rc_len (by omega)) hlt
        have hl1 : ((k, s) :: D).getLast? = some ((k, s) :: D)[D.length] := by rw [List.getLast?_eq_getElem?]; simp
        have hl2 : ((k, s) :: D).take D.length = ((k, s) :: D).dropLast := by rw [List.dropLast_eq_take]; simp
        generalize ((k, s) :: D)[D.length] = lr at *
        obtain ⟨⟨l1, l2⟩, ls⟩ := lr
        simp only at y0 y1 y2
        have hlH := Lib.hid (And.intro hl1 hl2)
        have hbl8 := blk_lt hM8.blk
        have r0 : ∀ w', Upd (From w8.heap.size) w8.drew w' → w'.cell? ⟨b, 0, none⟩ = some (.int .i64 (D.length : Int)) := fun w' u => blk_cell (u.blk (blk_drew hM8.blk) (fun e => by unfold From at e; omega)) 0
        have r1 : ∀ w', Upd (From w8.heap.size) w8.drew w' → w'.cell? ⟨b, 1, none⟩ = some (.slice (some ⟨g, o, none⟩) (D.length + 1) k2) := fun w' u => blk_cell (u.blk (blk_drew hM8.blk) (fun e => by unfold From at e; omega)) 1
        have q0 : ∀ w', Upd (From w8.heap.size) w8.drew w' → w'.cell? ⟨g, o + D.length * 3, none⟩ = some (.int .i64 l1) := fun w' u => (u.cell (p := ⟨g, o + D.length * 3, none⟩) hgl (fun e => by have e : w8.heap.size ≤ g := e; omega)).trans y0
        have q1 : ∀ w', Upd (From w8.heap.size) w8.drew w' → w'.cell? ⟨g, o + D.length * 3 + 1, none⟩ = some (.int .i64 l2) := fun w' u => (u.cell (p := ⟨g, o + D.length * 3 + 1, none⟩) hgl (fun e => by have e : w8.heap.size ≤ g := e; omega)).trans y1
        have q2 : ∀ w', Upd (From w8.heap.size) w8.drew w' → w'.cell? ⟨g, o + D.length * 3 + 2, none⟩ = some (.string ls) := fun w' u => (u.cell (p := ⟨g, o + D.length * 3 + 2, none⟩) hgl (fun e => by have e : w8.heap.size ≤ g := e; omega)).trans y2
        have hib : (D.length : Int) < ((D.length + 1 : Nat) : Int) := by omega
        clear hl1 hl2 y0 y1 y2
        go_wp2_with fail
        refine wp_region_lexT (Upd (OrFrom b w8.heap.size)) (Upd (From w8.heap.size)) (fun _ => Upd.refl _ _) (fun _ _ _ h k => h.tr k) (fun _ => Upd.refl _ _) (fun _ _ _ h k => h.tr k) (fun _ _ h => h.mono (fun _ h => .inr h)) [(0, true), (1, true), (2, true), (3, true), (4, true), (5, true), (6, true), (7, true), (8, true), (9, true), (10, false), (11, false)] (by kernel_rfl) (by kernel_rfl) rfl (by kernel_rfl) (by kernel_rfl) ?_
        simp only [inOrderT, List.filterMap_cons, List.filterMap_nil, List.getElem?_cons_zero, List.getElem?_cons_succ, Option.map_some]
        try simp only [Act.put, List.setIfInBounds_toArray, List.set_cons_zero, List.set_cons_succ]
        repeat
          first
          | (refine lexT_sure (v := ?_) rfl rfl ?_ ?_
             rotate_left
             · intro w' hU'
               go_simp
               try with_reducible rfl
             try simp only [Act.put, List.setIfInBounds_toArray, List.set_cons_zero, List.set_cons_succ])
          | (refine lexT_pure (v := ?_) rfl rfl ?_ ?_
             rotate_left
             · intro w' hU'
               go_simp
               try with_reducible rfl
             try simp only [Act.put, List.setIfInBounds_toArray, List.set_cons_zero, List.set_cons_succ])
          | (refine lexT_skip rfl ?_
             try simp only [Act.put, List.setIfInBounds_toArray, List.set_cons_zero, List.set_cons_succ])
        refine lexT_run (v := .pointer (some ⟨w8.drew.heap.size, 0, none⟩)) (w' := w8.drew.alloc (.cells #[.int .i64 0, .int .i64 0, .string ⟨#[]⟩] 68)) rfl rfl rfl (by go_simp) ((Upd.refl _ _).alloc _) ?_
        try simp only [Act.put, List.setIfInBounds_toArray, List.set_cons_zero, List.set_cons_succ]
        repeat
          first
          | (refine lexT_sure (v := ?_) rfl rfl ?_ ?_
             rotate_left
             · intro w' hU'
               go_simp
               try with_reducible rfl
             try simp only [Act.put, List.setIfInBounds_toArray, List.set_cons_zero, List.set_cons_succ])
          | (refine lexT_pure (v := ?_) rfl rfl ?_ ?_
             rotate_left
             · intro w' hU'
               go_simp
               try with_reducible rfl
             try simp only [Act.put, List.setIfInBounds_toArray, List.set_cons_zero, List.set_cons_succ])
          | (refine lexT_skip rfl ?_
             try simp only [Act.put, List.setIfInBounds_toArray, List.set_cons_zero, List.set_cons_succ])
        refine lexT_store (w' := w8.drew.alloc (.cells #[.int .i64 l1, .int .i64 l2, .string ls] 68)) rfl rfl rfl (by go_simp) (alloc_alloc _ _ _ (fun y hy => .inr hy)) ?_
        refine lexT_done ?_
        clear r0 r1 q0 q1 q2
        have u9 := (Upd.refl Nil w8).drew.alloc (.cells #[.int .i64 l1, .int .i64 l2, .string ls] 68)
        have hM9 := hM8.upd u9 (fun _ _ h => h)
        have hz9 := u9.blk hz8 (fun h => h)
        have hg9 : (w8.drew.alloc (.cells #[.int .i64 l1, .int .i64 l2, .string ls] 68)).heap[w8.heap.size]? = some (.cells #[.int .i64 l1, .int .i64 l2, .string ls] 68 (0, 0)) := blk_new w8.drew _
        have hU9 := hU8.tr (u9.mono (fun _ h => h.elim))
        have hgb : w8.heap.size ≠ b := by have := hs8.out; omega
        have hgw : w.heap.size ≤ w8.heap.size := hU8.size
        have hs9 : w8.heap.size ≤ (w8.drew.alloc (.cells #[.int .i64 l1, .int .i64 l2, .string ls] 68)).heap.size := u9.size
        go_wp2_with fail
        generalize w8.drew.alloc (.cells #[.int .i64 l1, .int .i64 l2, .string ls] 68) = w9 at *
        have hgbH := Lib.hid (And.intro hgb (And.intro hgw (And.intro hs9 hs8.out)))
        clear hgb hgw hs9 hbl8 u9
        have hbl9 := blk_lt hM9.blk
        have hbn9 : ¬ From w9.heap.size b := fun e => by unfold From at e; omega
        have r0 : ∀ w', Upd (From w9.heap.size) w9.drew w' → w'.cell? ⟨b, 0, none⟩ = some (.int .i64 (D.length : Int)) := fun w' u => blk_cell (u.blk (blk_drew hM9.blk) hbn9) 0
        have r1 : ∀ w', Upd (From w9.heap.size) w9.drew w' → w'.cell? ⟨b, 1, none⟩ = some (.slice (some ⟨g, o, none⟩) (D.length + 1) k2) := fun w' u => blk_cell (u.blk (blk_drew hM9.blk) hbn9) 1
        have r2 := blk_cell (blk_drew hM9.blk) 1
        have fr := blk_frozen (blk_drew hM9.blk) 1
        simp only [List.getElem?_toArray, List.getElem?_cons_zero, List.getElem?_cons_succ] at r2
        have hkb := hM9.sl.capMax
        have hkc : D.length + 1 ≤ k2 := by
          obtain ⟨_, _, e, h⟩ := hM9.sl.form
          injection e with _ _ e
          subst e
          simpa using h
        have b1 : (D.length : Int) ≤ (k2 : Int) := by omega
        have b0 : (0 : Int) ≤ (D.length : Int) := by omega
        refine wp_region_lexT (Upd (OrFrom b w9.heap.size)) (Upd (From w9.heap.size)) (fun _ => Upd.refl _ _) (fun _ _ _ h k => h.tr k) (fun _ => Upd.refl _ _) (fun _ _ _ h k => h.tr k) (fun _ _ h => h.mono (fun _ h => .inr h)) [(0, true), (1, true), (2, true), (3, true), (4, true), (5, true), (6, true), (7, true), (8, true), (9, true), (10, true), (11, true), (12, false)] (by kernel_rfl) (by kernel_rfl) rfl (by kernel_rfl) (by kernel_rfl) ?_
        simp only [inOrderT, List.filterMap_cons, List.filterMap_nil, List.getElem?_cons_zero, List.getElem?_cons_succ, Option.map_some]
        try simp only [Act.put, List.setIfInBounds_toArray, List.set_cons_zero, List.set_cons_succ]
        repeat
          first
          | (refine lexT_sure (v := ?_) rfl rfl ?_ ?_
             rotate_left
             · intro w' hU'
               go_simp
               try with_reducible rfl
             try simp only [Act.put, List.setIfInBounds_toArray, List.set_cons_zero, List.set_cons_succ])
          | (refine lexT_pure (v := ?_) rfl rfl ?_ ?_
             rotate_left
             · intro w' hU'
               go_simp
               try with_reducible rfl
             try simp only [Act.put, List.setIfInBounds_toArray, List.set_cons_zero, List.set_cons_succ])
          | (refine lexT_skip rfl ?_
             try simp only [Act.put, List.setIfInBounds_toArray, List.set_cons_zero, List.set_cons_succ])
        clear r0 r1
        refine lexT_store (w' := (w9.setCell ⟨b, 1, none⟩ (.slice (some ⟨g, o, none⟩) D.length k2)).drew) rfl rfl rfl (by go_simp) (ofDrew ((Upd.refl (OrFrom b w9.heap.size) w9).set (p := ⟨b, 1, none⟩) (.inl (.inl rfl)) _).drew) ?_
        refine lexT_done ?_
        have u10 : Upd (Only b) w9 (w9.setCell ⟨b, 1, none⟩ (.slice (some ⟨g, o, none⟩) D.length k2)).drew := ((Upd.refl _ _).set1 _).drew
        have hb10 := blk_drew (blk_put hM9.blk 1 (.slice (some ⟨g, o, none⟩) D.length k2) rfl)
        have hsl10 := (hM9.sl.take rc_len (k := D.length) (by simp)).upd u10 (fun k hk e => hM9.sl.ne hM9.blk (by decide) k hk (by cases e; rfl))
        have hob10 := hM9.ob
        have hoV10 := hM9.oV
        have hz10 := u10.blk hz9 (fun e => hnrH.out.2.1 (by cases e; rfl))
        have hg10 := u10.blk hg9 (fun e => hgbH.out.1 (by cases e; rfl))
        have hU10 := hU9.tr u10
        have hs10 := u10.size
        clear hM9 hz9 hg9 hU9 r2 fr
        generalize (w9.setCell ⟨b, 1, none⟩ (.slice (some ⟨g, o, none⟩) D.length k2)).drew = w10 at *
        have hz := hz10
        have f0 := blk_frozen hz 0
        have f1 := blk_frozen hz 1
        have f2 := blk_frozen hz 2
        have z0 := blk_cell hz 0
        have z1 := blk_cell hz 1
        have z2 := blk_cell hz 2
        simp only [List.getElem?_toArray, List.getElem?_cons_zero, List.getElem?_cons_succ] at z0 z1 z2
        have g0 := blk_cell hg10 0
        have g1 := blk_cell hg10 1
        have g2 := blk_cell hg10 2
        simp only [List.getElem?_toArray, List.getElem?_cons_zero, List.getElem?_cons_succ] at g0 g1 g2
        go_wp2_with fail
        obtain ⟨d0, d1, d2⟩ := three_set (.int .i64 l1) (.int .i64 l2) (.string ls) z0 z1 z2
        rw [← hRH.out]
        refine bodyPost_ret (v := .tuple #[.agg #[.int .i64 l1, .int .i64 l2, .string ls], .bool true]) (by simp [results, Try.results40, go_sem, d0, d1, d2]) rfl ?_
        obtain ⟨hl1, hl2⟩ := hlH.out
        have hp : putK (D.length : Int).toNat D k s = (((k, s) :: D).dropLast, some (l1, l2)) := by
          unfold putK
          rw [if_neg (by omega), hdr.out, if_neg (by omega), hl1]
          rfl
        unfold RPutR
        rw [hp]
        have uz : Upd (Only rb) w10 (((w10.setCell ⟨rb, 0, none⟩ (.int .i64 l1)).setCell ⟨rb, 1, none⟩ (.int .i64 l2)).setCell ⟨rb, 2, none⟩ (.string ls)) := (((Upd.refl _ _).set1 _).set1 _).set1 _
        have hM10 : RM G7 w10 b (D.length : Int) ((k, s) :: D).dropLast (.slice (some ⟨g, o, none⟩) D.length k2) := ⟨hb10, by rw [← hl2]; exact hsl10, hob10, hoV10⟩
        refine ⟨⟨ls, rfl⟩, RC.mono ⟨_, hM10.upd uz (fun k hk e => (hm7 k hk).2 (by cases e; rfl))⟩ (fun k hk => (hm7 k hk).1.elim (fun q => .inl q) (fun q => .inr ⟨q.1, ?_⟩)), hU10.trans uz (fun y hy => .inr (by cases hy; have := hnrH.out; omega))⟩
        have := uz.size
        have := q.2
        have := hgbH.out
        omega
  | true =>
    obtain ⟨A, v, B, rfl, hp, hfv⟩ := split_pos hf
    have hi : idxK (A ++ (k, v) :: B) k = (A.length : Int) := by unfold idxK; rw [hf, hp]; rfl
    have hdr := Lib.hid (dropK_split hap)
    rw [hi]
    clear hf hp hfv hi
    go_wp2_with fail
    refine (rdrop h2 (by omega)).mono ?_
    have hrl := blk_lt hz
    rintro e w5 ⟨rfl, ⟨V5, h5⟩, u5⟩
    replace hx := u5.blk hx (fun e => hnr.1 (by cases e; rfl))
    replace hz := u5.blk hz (fun e => hnr.2.1 (by cases e; rfl))
    have hU5 := (hU1.mono (S' := Only b) (fun _ h => h.elim)).tr u5
    have hDl : (A ++ B).length ≤ room.toNat := by simp at hl ⊢; omega
    have hm5 : ∀ k, More G w1.heap.size w5.heap.size k → More G w.heap.size w5.heap.size k := fun k hk => hk.elim .inl (fun q => .inr ⟨by have := hU1.size; have := q.1; omega, q.2⟩)
    have hgr : ∀ k, More G w1.heap.size w5.heap.size k → k ≠ rb := fun k hk => hk.elim (fun q => by have := hGl k q; omega) (fun q => by have := q.1; omega)
    generalize hG5 : More G w1.heap.size w5.heap.size = G5 at *
    generalize hD : A ++ B = D at *
    have hDH := Lib.hid hD
    clear hD
    have r0 := blk_cell h5.blk 0
    simp only [List.getElem?_toArray, List.getElem?_cons_zero, List.getElem?_cons_succ] at r0
    have hxb1 : w.heap.size ≤ xb := by omega
    have hnrH := Lib.hid hnr
    clear hnr
    clear hxb0
    by_cases hr0 : room = 0
    · subst hr0
      have f0 := blk_frozen hz 0
      have f1 := blk_frozen hz 1
      have f2 := blk_frozen hz 2
      have z0 := blk_cell hz 0
      have z1 := blk_cell hz 1
      have z2 := blk_cell hz 2
      simp only [List.getElem?_toArray, List.getElem?_cons_zero, List.getElem?_cons_succ] at z0 z1 z2
      go_wp2_with fail
      obtain ⟨d0, d1, d2⟩ := three_set (.int .i64 0) (.int .i64 0) (.string ⟨#[]⟩) z0 z1 z2
      rw [← hRH.out]
      refine bodyPost_ret (v := .tuple #[.agg #[.int .i64 0, .int .i64 0, .string ⟨#[]⟩], .bool false]) (by simp [results, Try.results40, go_sem, d0, d1, d2]) rfl ?_
      have hp : putK (0 : Int).toNat (A ++ (k, v) :: B) k s = (D, none) := by unfold putK; rw [if_pos (by rfl), hdr.out]
      unfold RPutR
      rw [hp]
      have uz : Upd (Only rb) w5 (((w5.setCell ⟨rb, 0, none⟩ (.int .i64 0)).setCell ⟨rb, 1, none⟩ (.int .i64 0)).setCell ⟨rb, 2, none⟩ (.string ⟨#[]⟩)) := (((Upd.refl _ _).set1 _).set1 _).set1 _
      refine ⟨⟨_, rfl⟩, RC.mono ⟨V5, h5.upd uz (fun k hk e => hgr k hk (by cases e; rfl))⟩ (fun k hk => (hm5 k hk).elim .inl (fun q => .inr ⟨q.1, Nat.lt_of_lt_of_le q.2 uz.size⟩)), hU5.trans uz (fun y hy => .inr (by cases hy; have := hnrH.out; omega))⟩
    · obtain ⟨xk, hxk⟩ : ∃ x : Nat, x = D.length := ⟨_, rfl⟩
      have hDm : D.length ≤ 1024 := by omega
      have hbl := blk_lt h5.blk
      have hbn : ¬ From w5.heap.size b := fun e => by unfold From at e; omega
      obtain ⟨A0, c0, rfl, hc0⟩ := h5.sl.form
      have hA := h5.sl.cells rc_len (by omega)
      have c1 : ∀ w', Upd (From w5.heap.size) w5.drew w' → w'.cell? ⟨b, 1, none⟩ = some (.slice A0 D.length c0) := fun w' u => blk_cell (u.blk (blk_drew h5.blk) (fun h => hbn h)) 1
      have hxl := blk_lt hx
      have x0 : ∀ w', Upd (From w5.heap.size) w5.drew w' → w'.cell? ⟨xb, 0, none⟩ = some (.int .i64 k.1) := fun w' u => blk_cell (u.blk (blk_drew hx) (fun e => by unfold From at e; omega)) 0
      have x1 : ∀ w', Upd (From w5.heap.size) w5.drew w' → w'.cell? ⟨xb, 1, none⟩ = some (.int .i64 k.2) := fun w' u => blk_cell (u.blk (blk_drew hx) (fun e => by unfold From at e; omega)) 1
      have x2 : ∀ w', Upd (From w5.heap.size) w5.drew w' → w'.cell? ⟨xb, 2, none⟩ = some (.string s) := fun w' u => blk_cell (u.blk (blk_drew hx) (fun e => by unfold From at e; omega)) 2
      go_wp2_with fail
      refine wp_region_lexT (Upd (OrFrom b w5.heap.size)) (Upd (From w5.heap.size)) (fun _ => Upd.refl _ _) (fun _ _ _ h k => h.tr k) (fun _ => Upd.refl _ _) (fun _ _ _ h k => h.tr k) (fun _ _ h => h.mono (fun _ h => .inr h)) [(0, true), (1, true), (3, true), (4, true), (5, true), (6, true), (2, false), (7, false), (8, true), (9, true), (10, false)] (by kernel_rfl) (by kernel_rfl) rfl (by kernel_rfl) (by kernel_rfl) ?_
      simp only [inOrderT, List.filterMap_cons, List.filterMap_nil, List.getElem?_cons_zero, List.getElem?_cons_succ, Option.map_some]
      try simp only [Act.put, List.setIfInBounds_toArray, List.set_cons_zero, List.set_cons_succ]
      repeat
        first
        | (refine lexT_sure (v := ?_) rfl rfl ?_ ?_
           rotate_left
           · intro w' hU'
             go_simp
             try with_reducible rfl
           try simp only [Act.put, List.setIfInBounds_toArray, List.set_cons_zero, List.set_cons_succ])
        | (refine lexT_pure (v := ?_) rfl rfl ?_ ?_
           rotate_left
           · intro w' hU'
             go_simp
             try with_reducible rfl
           try simp only [Act.put, List.setIfInBounds_toArray, List.set_cons_zero, List.set_cons_succ])
        | (refine lexT_skip rfl ?_
           try simp only [Act.put, List.setIfInBounds_toArray, List.set_cons_zero, List.set_cons_succ])
      refine lexT_run (v := .slice (some ⟨w5.drew.heap.size, 0, none⟩) 1 1) (w' := w5.drew.alloc (.cells #[.int .i64 k.1, .int .i64 k.2, .string s] 68)) rfl rfl rfl (by go_simp) ((Upd.refl _ _).alloc _) ?_
      try simp only [Act.put, List.setIfInBounds_toArray, List.set_cons_zero, List.set_cons_succ]
      repeat
        first
        | (refine lexT_sure (v := ?_) rfl rfl ?_ ?_
           rotate_left
           · intro w' hU'
             go_simp
             try with_reducible rfl
           try simp only [Act.put, List.setIfInBounds_toArray, List.set_cons_zero, List.set_cons_succ])
        | (refine lexT_pure (v := ?_) rfl rfl ?_ ?_
           rotate_left
           · intro w' hU'
             go_simp
             try with_reducible rfl
           try simp only [Act.put, List.setIfInBounds_toArray, List.set_cons_zero, List.set_cons_succ])
        | (refine lexT_skip rfl ?_
           try simp only [Act.put, List.setIfInBounds_toArray, List.set_cons_zero, List.set_cons_succ])
      have hU1 : Upd Nil w5 (w5.drew.alloc (.cells #[.int .i64 k.1, .int .i64 k.2, .string s] 68)) := (Upd.refl Nil w5).drew.alloc _
      have hz : Sl (w5.drew.alloc (.cells #[.int .i64 k.1, .int .i64 k.2, .string s] 68)) w5.drew.heap.size 68 3 rc (.slice (some ⟨w5.drew.heap.size, 0, none⟩) 1 1) [(k, s)] := sl_lit rc_len (Nat.le_refl _) (blk_new _ _) rfl (by simp) (by simp) (by simp [maxLen])
      have hs2 := Src.ofArg (P := Try.prog) (tx := 62) ⟨_, elemR.ht⟩ rc_len rc_one (hA.upd hU1) c0
      refine lexT_app w5.drew.heap.size (.tmp 27) (.tmp 31) elemR rfl rfl rfl rfl (.slice (some ⟨w5.drew.heap.size, 0, none⟩) 1 1) [(k, s)] D _ rfl rfl hs2 hz (by simp) (by simp; omega) (by simp; unfold maxLen; omega) ?_
      intro A2 k2 w6 hv2 hg2 hat2
      have hU3 : Upd Nil w5 w6 := hU1.grown hg2 (fun k hk => .inr (hz.typed k hk).1)
      refine ⟨(Upd.refl (From w5.heap.size) _).grown hg2 (fun k hk => .inl (hz.typed k hk).1), ?_⟩
      have hb2 := hU3.blk h5.blk (fun h => h)
      have f1 := blk_frozen hb2 1
      obtain ⟨u1, d1⟩ : ∃ u, w6.cell? ⟨b, 1, none⟩ = some u := ⟨_, blk_cell hb2 1⟩
      have hD1 : ([(k, s)] : List RowT).length + D.length = D.length + 1 := by simp; omega
      rw [hD1] at hv2 hat2 ⊢
      try simp only [Act.put, List.setIfInBounds_toArray, List.set_cons_zero, List.set_cons_succ]
      repeat
        first
        | (refine lexT_sure (v := ?_) rfl rfl ?_ ?_
           rotate_left
           · intro w' hU'
             go_simp
             try with_reducible rfl
           try simp only [Act.put, List.setIfInBounds_toArray, List.set_cons_zero, List.set_cons_succ])
        | (refine lexT_pure (v := ?_) rfl rfl ?_ ?_
           rotate_left
           · intro w' hU'
             go_simp
             try with_reducible rfl
           try simp only [Act.put, List.setIfInBounds_toArray, List.set_cons_zero, List.set_cons_succ])
        | (refine lexT_skip rfl ?_
           try simp only [Act.put, List.setIfInBounds_toArray, List.set_cons_zero, List.set_cons_succ])
      refine lexT_store (w' := w6.setCell ⟨b, 1, none⟩ (.slice A2 (D.length + 1) k2)) rfl rfl rfl (by go_simp) ((Upd.refl _ _).set (p := ⟨b, 1, none⟩) (.inl (.inl rfl)) _) ?_
      refine lexT_done ?_
      have hb3 := blk_put hb2 1 (.slice A2 (D.length + 1) k2) rfl
      have u3 : Upd (Only b) w6 (w6.setCell ⟨b, 1, none⟩ (.slice A2 (D.length + 1) k2)) := (Upd.refl _ _).set1 _
      have hv3 := hv2.upd u3 (fun k hk e => hv2.ne hb2 (by decide) k hk (by cases e; rfl))
      have hU4 : Upd (Only b) w5 (w6.setCell ⟨b, 1, none⟩ (.slice A2 (D.length + 1) k2)) := (hU3.mono (fun _ h => h.elim)).tr u3
      have hM7 : RM (More G5 w5.heap.size (w6.setCell ⟨b, 1, none⟩ (.slice A2 (D.length + 1) k2)).heap.size) (w6.setCell ⟨b, 1, none⟩ (.slice A2 (D.length + 1) k2)) b room ((k, s) :: D) (.slice A2 (D.length + 1) k2) :=
        ⟨hb3, hv3.lower (Nat.zero_le _), .inl h5.ob, fun k hk => .inr ⟨(hv3.typed k hk).1, hv3.lt k hk⟩⟩
      clear c1 x0 x1 x2 hv3 u3 hb3 d1 f1 hb2 hU3 hat2 hg2 hv2 hs2 hz hU1 hA
      have hz7 := hU4.blk hz (fun e => hnrH.out.2.1 (by cases e; rfl))
      have hs7 := hU4.size
      have hrb5 := blk_lt hz
      have hm7 : ∀ k, More G5 w5.heap.size (w6.setCell ⟨b, 1, none⟩ (.slice A2 (D.length + 1) k2)).heap.size k → More G w.heap.size (w6.setCell ⟨b, 1, none⟩ (.slice A2 (D.length + 1) k2)).heap.size k ∧ k ≠ rb := fun k hk => by
        have := hU5.size
        rcases hk with hk | hk
        · exact ⟨(hm5 k hk).elim .inl (fun q => .inr ⟨q.1, by have := q.2; omega⟩), hgr k hk⟩
        · exact ⟨.inr ⟨by have := hk.1; omega, hk.2⟩, by have := hk.1; omega⟩
      generalize hG7 : More G5 w5.heap.size (w6.setCell ⟨b, 1, none⟩ (.slice A2 (D.length + 1) k2)).heap.size = G7 at *
      have hU7 := hU5.tr hU4
      generalize w6.setCell ⟨b, 1, none⟩ (.slice A2 (D.length + 1) k2) = w7 at *
      have r0 := blk_cell hM7.blk 0
      have r1 := blk_cell hM7.blk 1
      simp only [List.getElem?_toArray, List.getElem?_cons_zero, List.getElem?_cons_succ] at r0 r1
      replace hz := hz7
      have f0 := blk_frozen hz 0
      have f1 := blk_frozen hz 1
      have f2 := blk_frozen hz 2
      have z0 := blk_cell hz 0
      have z1 := blk_cell hz 1
      have z2 := blk_cell hz 2
      simp only [List.getElem?_toArray, List.getElem?_cons_zero, List.getElem?_cons_succ] at z0 z1 z2
      have hnb : D.length + 1 ≤ 2000 := by omega
      by_cases hle : (D.length : Int) + 1 ≤ room
      · go_wp2_with fail
        refine wp_region_lexW (Upd Nil) (fun _ => Upd.refl _ _) (fun _ _ _ h k => h.tr k) [(0, true), (1, true), (2, true), (3, true), (4, true), (5, true), (6, true), (7, true), (8, true), (9, true)] (by kernel_rfl) (by kernel_rfl) rfl (by kernel_rfl) (by kernel_rfl) ?_
        simp only [inOrderW, List.filterMap_cons, List.filterMap_nil, List.getElem?_cons_zero, List.getElem?_cons_succ, Option.map_some]
        try simp only [Act.put, List.setIfInBounds_toArray, List.set_cons_zero, List.set_cons_succ]
        repeat
          first
          | (refine lexW_sure (v := ?_) rfl rfl ?_ ?_
             rotate_left
             · go_simp
               try with_reducible rfl
             try simp only [Act.put, List.setIfInBounds_toArray, List.set_cons_zero, List.set_cons_succ])
          | (refine lexW_pure (v := ?_) rfl rfl ?_ ?_
             rotate_left
             · intro w' hU'
               go_simp
               try with_reducible rfl
             try simp only [Act.put, List.setIfInBounds_toArray, List.set_cons_zero, List.set_cons_succ])
          | (refine lexW_skip rfl ?_
             try simp only [Act.put, List.setIfInBounds_toArray, List.set_cons_zero, List.set_cons_succ])
        refine lexW_done ?_
        go_wp2_with fail
        obtain ⟨d0, d1, d2⟩ := three_set (.int .i64 0) (.int .i64 0) (.string ⟨#[]⟩) z0 z1 z2
        rw [← hRH.out]
        refine bodyPost_ret (v := .tuple #[.agg #[.int .i64 0, .int .i64 0, .string ⟨#[]⟩], .bool false]) (by simp [results, Try.results40, go_sem, d0, d1, d2]) rfl ?_
        have hp : putK room.toNat (A ++ (k, v) :: B) k s = ((k, s) :: D, none) := by unfold putK; rw [if_neg (by omega), hdr.out, if_pos (by omega)]
        unfold RPutR
        rw [hp]
        have uz : Upd (Only rb) w7 (((w7.setCell ⟨rb, 0, none⟩ (.int .i64 0)).setCell ⟨rb, 1, none⟩ (.int .i64 0)).setCell ⟨rb, 2, none⟩ (.string ⟨#[]⟩)).drew := ((((Upd.refl _ _).set1 _).set1 _).set1 _).drew
        exact ⟨⟨_, rfl⟩, RC.mono ⟨_, hM7.upd uz (fun k hk e => (hm7 k hk).2 (by cases e; rfl))⟩ (fun k hk => (hm7 k hk).1.elim (fun q => .inl q) (fun q => .inr ⟨q.1, Nat.lt_of_lt_of_le q.2 uz.size⟩)), hU7.trans uz (fun y hy => .inr (by cases hy; have := hnrH.out; omega))⟩
      · have hre : room = (D.length : Int) := by omega
        subst hre
        go_wp2_with fail
        refine wp_region_lexW (Upd Nil) (fun _ => Upd.refl _ _) (fun _ _ _ h k => h.tr k) [(0, true), (1, true), (2, true), (3, true), (4, true), (5, true), (6, true), (7, true), (8, true), (9, true)] (by kernel_rfl) (by kernel_rfl) rfl (by kernel_rfl) (by kernel_rfl) ?_
        simp only [inOrderW, List.filterMap_cons, List.filterMap_nil, List.getElem?_cons_zero, List.getElem?_cons_succ, Option.map_some]
        try simp only [Act.put, List.setIfInBounds_toArray, List.set_cons_zero, List.set_cons_succ]
        repeat
          first
          | (refine lexW_sure (v := ?_) rfl rfl ?_ ?_
             rotate_left
             · go_simp
               try with_reducible rfl
             try simp only [Act.put, List.setIfInBounds_toArray, List.set_cons_zero, List.set_cons_succ])
          | (refine lexW_pure (v := ?_) rfl rfl ?_ ?_
             rotate_left
             · intro w' hU'
               go_simp
               try with_reducible rfl
             try simp only [Act.put, List.setIfInBounds_toArray, List.set_cons_zero, List.set_cons_succ])
          | (refine lexW_skip rfl ?_
             try simp only [Act.put, List.setIfInBounds_toArray, List.set_cons_zero, List.set_cons_succ])
        refine lexW_done ?_
        have hM8 := hM7.upd (Upd.refl Nil w7).drew (fun _ _ h => h)
        have hU8 := hU7.drew
        have hz8 := blk_drew hz
        have hs8 := Lib.hid (show w7.drew.heap.size = w7.heap.size from rfl)
        clear r0 r1 f0 f1 f2 z0 z1 z2
        generalize w7.drew = w8 at *
        have hlt : D.length < ((k, s) :: D).length := by simp
        obtain ⟨g, o, rfl, hgl, y0, y1, y2⟩ := rc_cell (hM8.sl.cells rc_len (by omega)) hlt
        have hl1 : ((k, s) :: D).getLast? = some ((k, s) :: D)[D.length] := by rw [List.getLast?_eq_getElem?]; simp
        have hl2 : ((k, s) :: D).take D.length = ((k, s) :: D).dropLast := by rw [List.dropLast_eq_take]; simp
        generalize ((k, s) :: D)[D.length] = lr at *
        obtain ⟨⟨l1, l2⟩, ls⟩ := lr
        simp only at y0 y1 y2
        have hlH := Lib.hid (And.intro hl1 hl2)
        have hbl8 := blk_lt hM8.blk
        have r0 : ∀ w', Upd (From w8.heap.size) w8.drew w' → w'.cell? ⟨b, 0, none⟩ = some (.int .i64 (D.length : Int)) := fun w' u => blk_cell (u.blk (blk_drew hM8.blk) (fun e => by unfold From at e; omega)) 0
        have r1 : ∀ w', Upd (From w8.heap.size) w8.drew w' → w'.cell? ⟨b, 1, none⟩ = some (.slice (some ⟨g, o, none⟩) (D.length + 1) k2) := fun w' u => blk_cell (u.blk (blk_drew hM8.blk) (fun e => by unfold From at e; omega)) 1
        have q0 : ∀ w', Upd (From w8.heap.size) w8.drew w' → w'.cell? ⟨g, o + D.length * 3, none⟩ = some (.int .i64 l1) := fun w' u => (u.cell (p := ⟨g, o + D.length * 3, none⟩) hgl (fun e => by have e : w8.heap.size ≤ g := e; omega)).trans y0
        have q1 : ∀ w', Upd (From w8.heap.size) w8.drew w' → w'.cell? ⟨g, o + D.length * 3 + 1, none⟩ = some (.int .i64 l2) := fun w' u => (u.cell (p := ⟨g, o + D.length * 3 + 1, none⟩) hgl (fun e => by have e : w8.heap.size ≤ g := e; omega)).trans y1
        have q2 : ∀ w', Upd (From w8.heap.size) w8.drew w' → w'.cell? ⟨g, o + D.length * 3 + 2, none⟩ = some (.string ls) := fun w' u => (u.cell (p := ⟨g, o + D.length * 3 + 2, none⟩) hgl (fun e => by have e : w8.heap.size ≤ g := e; omega)).trans y2
        have hib : (D.length : Int) < ((D.length + 1 : Nat) : Int) := by omega
        clear hl1 hl2 y0 y1 y2
        go_wp2_with fail
        refine wp_region_lexT (Upd (OrFrom b w8.heap.size)) (Upd (From w8.heap.size)) (fun _ => Upd.refl _ _) (fun _ _ _ h k => h.tr k) (fun _ => Upd.refl _ _) (fun _ _ _ h k => h.tr k) (fun _ _ h => h.mono (fun _ h => .inr h)) [(0, true), (1, true), (2, true), (3, true), (4, true), (5, true), (6, true), (7, true), (8, true), (9, true), (10, false), (11, false)] (by kernel_rfl) (by kernel_rfl) rfl (by kernel_rfl) (by kernel_rfl) ?_
        simp only [inOrderT, List.filterMap_cons, List.filterMap_nil, List.getElem?_cons_zero, List.getElem?_cons_succ, Option.map_some]
        try simp only [Act.put, List.setIfInBounds_toArray, List.set_cons_zero, List.set_cons_succ]
        repeat
          first
          | (refine lexT_sure (v := ?_) rfl rfl ?_ ?_
             rotate_left
             · intro w' hU'
               go_simp
               try with_reducible rfl
             try simp only [Act.put, List.setIfInBounds_toArray, List.set_cons_zero, List.set_cons_succ])
          | (refine lexT_pure (v := ?_) rfl rfl ?_ ?_
             rotate_left
             · intro w' hU'
               go_simp
               try with_reducible rfl
             try simp only [Act.put, List.setIfInBounds_toArray, List.set_cons_zero, List.set_cons_succ])
          | (refine lexT_skip rfl ?_
             try simp only [Act.put, List.setIfInBounds_toArray, List.set_cons_zero, List.set_cons_succ])
        refine lexT_run (v := .pointer (some ⟨w8.drew.heap.size, 0, none⟩)) (w' := w8.drew.alloc (.cells #[.int .i64 0, .int .i64 0, .string ⟨#[]⟩] 68)) rfl rfl rfl (by go_simp) ((Upd.refl _ _).alloc _) ?_
        try simp only [Act.put, List.setIfInBounds_toArray, List.set_cons_zero, List.set_cons_succ]
        repeat
          first
          | (refine lexT_sure (v := ?_) rfl rfl ?_ ?_
             rotate_left
             · intro w' hU'
               go_simp
               try with_reducible rfl
             try simp only [Act.put, List.setIfInBounds_toArray, List.set_cons_zero, List.set_cons_succ])
          | (refine lexT_pure (v := ?_) rfl rfl ?_ ?_
             rotate_left
             · intro w' hU'
               go_simp
               try with_reducible rfl
             try simp only [Act.put, List.setIfInBounds_toArray, List.set_cons_zero, List.set_cons_succ])
          | (refine lexT_skip rfl ?_
             try simp only [Act.put, List.setIfInBounds_toArray, List.set_cons_zero, List.set_cons_succ])
        refine lexT_store (w' := w8.drew.alloc (.cells #[.int .i64 l1, .int .i64 l2, .string ls] 68)) rfl rfl rfl (by go_simp) (alloc_alloc _ _ _ (fun y hy => .inr hy)) ?_
        refine lexT_done ?_
        clear r0 r1 q0 q1 q2
        have u9 := (Upd.refl Nil w8).drew.alloc (.cells #[.int .i64 l1, .int .i64 l2, .string ls] 68)
        have hM9 := hM8.upd u9 (fun _ _ h => h)
        have hz9 := u9.blk hz8 (fun h => h)
        have hg9 : (w8.drew.alloc (.cells #[.int .i64 l1, .int .i64 l2, .string ls] 68)).heap[w8.heap.size]? = some (.cells #[.int .i64 l1, .int .i64 l2, .string ls] 68 (0, 0)) := blk_new w8.drew _
        have hU9 := hU8.tr (u9.mono (fun _ h => h.elim))
        have hgb : w8.heap.size ≠ b := by have := hs8.out; omega
        have hgw : w.heap.size ≤ w8.heap.size := hU8.size
        have hs9 : w8.heap.size ≤ (w8.drew.alloc (.cells #[.int .i64 l1, .int .i64 l2, .string ls] 68)).heap.size := u9.size
        go_wp2_with fail
        generalize w8.drew.alloc (.cells #[.int .i64 l1, .int .i64 l2, .string ls] 68) = w9 at *
        have hgbH := Lib.hid (And.intro hgb (And.intro hgw (And.intro hs9 hs8.out)))
        clear hgb hgw hs9 hbl8 u9
        have hbl9 := blk_lt hM9.blk
        have hbn9 : ¬ From w9.heap.size b := fun e => by unfold From at e; omega
        have r0 : ∀ w', Upd (From w9.heap.size) w9.drew w' → w'.cell? ⟨b, 0, none⟩ = some (.int .i64 (D.length : Int)) := fun w' u => blk_cell (u.blk (blk_drew hM9.blk) hbn9) 0
        have r1 : ∀ w', Upd (From w9.heap.size) w9.drew w' → w'.cell? ⟨b, 1, none⟩ = some (.slice (some ⟨g, o, none⟩) (D.length + 1) k2) := fun w' u => blk_cell (u.blk (blk_drew hM9.blk) hbn9) 1
        have r2 := blk_cell (blk_drew hM9.blk) 1
        have fr := blk_frozen (blk_drew hM9.blk) 1
        simp only [List.getElem?_toArray, List.getElem?_cons_zero, List.getElem?_cons_succ] at r2
        have hkb := hM9.sl.capMax
        have hkc : D.length + 1 ≤ k2 := by
          obtain ⟨_, _, e, h⟩ := hM9.sl.form
          injection e with _ _ e
          subst e
          simpa using h
        have b1 : (D.length : Int) ≤ (k2 : Int) := by omega
        have b0 : (0 : Int) ≤ (D.length : Int) := by omega
        refine wp_region_lexT (Upd (OrFrom b w9.heap.size)) (Upd (From w9.heap.size)) (fun _ => Upd.refl _ _) (fun _ _ _ h k => h.tr k) (fun _ => Upd.refl _ _) (fun _ _ _ h k => h.tr k) (fun _ _ h => h.mono (fun _ h => .inr h)) [(0, true), (1, true), (2, true), (3, true), (4, true), (5, true), (6, true), (7, true), (8, true), (9, true), (10, true), (11, true), (12, false)] (by kernel_rfl) (by kernel_rfl) rfl (by kernel_rfl) (by kernel_rfl) ?_
        simp only [inOrderT, List.filterMap_cons, List.filterMap_nil, List.getElem?_cons_zero, List.getElem?_cons_succ, Option.map_some]
        try simp only [Act.put, List.setIfInBounds_toArray, List.set_cons_zero, List.set_cons_succ]
        repeat
          first
          | (refine lexT_sure (v := ?_) rfl rfl ?_ ?_
             rotate_left
             · intro w' hU'
               go_simp
               try with_reducible rfl
             try simp only [Act.put, List.setIfInBounds_toArray, List.set_cons_zero, List.set_cons_succ])
          | (refine lexT_pure (v := ?_) rfl rfl ?_ ?_
             rotate_left
             · intro w' hU'
               go_simp
               try with_reducible rfl
             try simp only [Act.put, List.setIfInBounds_toArray, List.set_cons_zero, List.set_cons_succ])
          | (refine lexT_skip rfl ?_
             try simp only [Act.put, List.setIfInBounds_toArray, List.set_cons_zero, List.set_cons_succ])
        clear r0 r1
        refine lexT_store (w' := (w9.setCell ⟨b, 1, none⟩ (.slice (some ⟨g, o, none⟩) D.length k2)).drew) rfl rfl rfl (by go_simp) (ofDrew ((Upd.refl (OrFrom b w9.heap.size) w9).set (p := ⟨b, 1, none⟩) (.inl (.inl rfl)) _).drew) ?_
        refine lexT_done ?_
        have u10 : Upd (Only b) w9 (w9.setCell ⟨b, 1, none⟩ (.slice (some ⟨g, o, none⟩) D.length k2)).drew := ((Upd.refl _ _).set1 _).drew
        have hb10 := blk_drew (blk_put hM9.blk 1 (.slice (some ⟨g, o, none⟩) D.length k2) rfl)
        have hsl10 := (hM9.sl.take rc_len (k := D.length) (by simp)).upd u10 (fun k hk e => hM9.sl.ne hM9.blk (by decide) k hk (by cases e; rfl))
        have hob10 := hM9.ob
        have hoV10 := hM9.oV
        have hz10 := u10.blk hz9 (fun e => hnrH.out.2.1 (by cases e; rfl))
        have hg10 := u10.blk hg9 (fun e => hgbH.out.1 (by cases e; rfl))
        have hU10 := hU9.tr u10
        have hs10 := u10.size
        clear hM9 hz9 hg9 hU9 r2 fr
        generalize (w9.setCell ⟨b, 1, none⟩ (.slice (some ⟨g, o, none⟩) D.length k2)).drew = w10 at *
        have hz := hz10
        have f0 := blk_frozen hz 0
        have f1 := blk_frozen hz 1
        have f2 := blk_frozen hz 2
        have z0 := blk_cell hz 0
        have z1 := blk_cell hz 1
        have z2 := blk_cell hz 2
        simp only [List.getElem?_toArray, List.getElem?_cons_zero, List.getElem?_cons_succ] at z0 z1 z2
        have g0 := blk_cell hg10 0
        have g1 := blk_cell hg10 1
        have g2 := blk_cell hg10 2
        simp only [List.getElem?_toArray, List.getElem?_cons_zero, List.getElem?_cons_succ] at g0 g1 g2
        go_wp2_with fail
        obtain ⟨d0, d1, d2⟩ := three_set (.int .i64 l1) (.int .i64 l2) (.string ls) z0 z1 z2
        rw [← hRH.out]
        refine bodyPost_ret (v := .tuple #[.agg #[.int .i64 l1, .int .i64 l2, .string ls], .bool true]) (by simp [results, Try.results40, go_sem, d0, d1, d2]) rfl ?_
        obtain ⟨hl1, hl2⟩ := hlH.out
        have hp : putK (D.length : Int).toNat (A ++ (k, v) :: B) k s = (((k, s) :: D).dropLast, some (l1, l2)) := by
          unfold putK
          rw [if_neg (by omega), hdr.out, if_neg (by omega), hl1]
          rfl
        unfold RPutR
        rw [hp]
        have uz : Upd (Only rb) w10 (((w10.setCell ⟨rb, 0, none⟩ (.int .i64 l1)).setCell ⟨rb, 1, none⟩ (.int .i64 l2)).setCell ⟨rb, 2, none⟩ (.string ls)) := (((Upd.refl _ _).set1 _).set1 _).set1 _
        have hM10 : RM G7 w10 b (D.length : Int) ((k, s) :: D).dropLast (.slice (some ⟨g, o, none⟩) D.length k2) := ⟨hb10, by rw [← hl2]; exact hsl10, hob10, hoV10⟩
        refine ⟨⟨ls, rfl⟩, RC.mono ⟨_, hM10.upd uz (fun k hk e => (hm7 k hk).2 (by cases e; rfl))⟩ (fun k hk => (hm7 k hk).1.elim (fun q => .inl q) (fun q => .inr ⟨q.1, ?_⟩)), hU10.trans uz (fun y hy => .inr (by cases hy; have := hnrH.out; omega))⟩
        have := uz.size
        have := q.2
        have := hgbH.out
        omega
end Go.Proofs.Ytcifkccaiekkeaa.Cache
