/-
  Tables of pages: the walk of Grow. Conditions: what the table holds.
-/
import Derived.Test.YthppheklnplljaaTableB
import Derived.Deep.OwnRows
namespace Go.Proofs.Ythppheklnplljaa.Table
open Go.RowKit Go.Proofs.Ythppheklnplljaa.Base Go.Proofs.Ythppheklnplljaa.Ints
set_option linter.unusedVariables false
set_option linter.unusedSimpArgs false
theorem elemSS (m : Nat) : Elem Try.prog 105 63 (.slice none 0 0) 1 24 (gC m) := ⟨Try.underlying105, by kernel_rfl, rfl, by omega, gC_len m, gC_one m⟩
theorem made_rep (z : Value) (n : Nat) : madeCells #[z] n = (List.replicate n z).toArray := by
  apply Array.ext'
  unfold madeCells
  rw [Array.toList_map, Array.toList_range, List.toList_toArray]
  apply List.ext_getElem?
  intro i
  rw [List.getElem?_map, List.getElem?_replicate]
  by_cases h : i < n
  · rw [List.getElem?_range h, if_pos h]
    simp [Nat.mod_one]
  · rw [if_neg h, List.getElem?_eq_none (by simp; omega)]
    rfl
theorem mkI (n : Nat) (hn : n ≤ 1000000) (w : World) : (Instr.makeSlice 63 (.int .i64 (n : Int)) (.int .i64 (n : Int))).run Try.prog w = .ok (.slice (some ⟨w.heap.size, 0, none⟩) n n) (w.alloc (.cells (List.replicate n (.int .i64 0)).toArray 3)) := by
  rw [run_make_row' 63 3 (.int .i64 0) 8 Try.underlying63 (by kernel_rfl) rfl .i64 .i64 n (by omega) (by omega) w, made_rep]
theorem TbM.fresh {F : Nat → Prop} {w w' : World} {b : Nat} {R : List Row3} {n m : Nat} {gs : List Nat} {V W : Value} (h : TbM F w b R n m gs V W) (u : Upd (Fresh w.heap.size) w w') : TbM F w' b R n m gs V W :=
  ⟨⟨u.blk h.blk (fun e => by have e : w.heap.size ≤ b := e; have := blk_lt h.blk; omega), h.sv.upd u (fun k hk e => by have e : w.heap.size ≤ k := e; have := h.sv.lt k hk; omega), h.sw.upd u (fun k hk e => by have e : w.heap.size ≤ k := e; have := h.sw.lt k hk; omega),
    fun i hi => u.blk (h.rows i hi) (fun e => by have e : w.heap.size ≤ gs[i] := e; have := blk_lt (h.rows i hi); omega), h.len, h.nd, h.ob, h.og, h.oV, h.oW, h.wne⟩, h.pw, h.inn, h.hn, h.hm⟩
theorem rep_set (m i : Nat) (hi : i < m) : (List.replicate i (Value.int .i64 (-1)) ++ List.replicate (m - i) (Value.int .i64 0)).set i (.int .i64 (-1)) = List.replicate (i + 1) (Value.int .i64 (-1)) ++ List.replicate (m - (i + 1)) (Value.int .i64 0) := by
  obtain ⟨d, rfl⟩ : ∃ d, m = i + (d + 1) := ⟨m - i - 1, by omega⟩
  rw [show i + (d + 1) - i = d + 1 by omega, show i + (d + 1) - (i + 1) = d by omega, List.set_append_right _ _ (by simp), List.length_replicate, Nat.sub_self, List.replicate_succ (n := d), List.set_cons_zero, List.replicate_succ' (n := i)]
  simp
theorem grow_one {F : Nat → Prop} {wi w8 : World} {b : Nat} {R : List Row3} {n m g : Nat} {gs : List Nat} {V W : Value} {A8 : Option Addr} {c8 : Nat} (h1 : TbM F wi b R n m gs V W) (hv8 : Sl w8 0 63 1 (gC m) (.slice A8 (gs.length + 1) c8) (gs ++ [g])) (hg8 : wi.grownBy w8 V.ownBlock) :
    w8.heap[b]? = some (.cells (tabL m R V W).toArray 107 (0, 0)) ∧ (w8.setCell ⟨b, 193, none⟩ (.slice A8 (gs.length + 1) c8)).heap[b]? = some (.cells (tabL m R (.slice A8 (gs.length + 1) c8) W).toArray 107 (0, 0)) ∧
      Sl (w8.setCell ⟨b, 193, none⟩ (.slice A8 (gs.length + 1) c8)) 0 3 1 ic W (worthL R n) := by
  have hb8 := blk_grown h1.blk hg8 (fun k hk => h1.sv.ne h1.blk (by decide) k hk)
  have hb9 := blk_put hb8 193 (.slice A8 (gs.length + 1) c8) rfl
  rw [List.setIfInBounds_toArray, tab_setV] at hb9
  have hs8 := h1.sw.grown hg8 (fun k hk e => by
    obtain ⟨_, cs, hb⟩ := h1.sv.typed k e.symm
    exact h1.sw.ne hb (by decide) k hk rfl)
  exact ⟨hb8, hb9, hs8.upd ((Upd.refl (Only b) w8).set1 _) (fun k hk e => hs8.ne hb8 (by decide) k hk e)⟩
theorem own_new (R : List Row3) {n m : Nat} (h : In R n m) (p : Nat) : ownOf R (n, p) = none := by
  unfold ownOf
  rw [Option.map_eq_none_iff, List.find?_eq_none]
  intro r hr e
  have := (h r hr).2.1
  have e : r.2 = (n, p) := by simpa using e
  rw [e] at this
  exact absurd this (by simp)
theorem worth_new (R : List Row3) {n m : Nat} (h : In R n m) : worthOf R n = 0 := by
  unfold worthOf
  rw [List.countP_eq_zero]
  intro r hr e
  have := (h r hr).2.1
  have e : r.2.1 = n := by simpa using e
  omega
theorem row_new (R : List Row3) {n m : Nat} (h : In R n m) : rowL R m n = List.replicate m (.int .i64 (-1)) := by
  unfold rowL
  apply List.ext_getElem?
  intro i
  rw [List.getElem?_map, List.getElem?_replicate]
  by_cases hi : i < m
  · rw [List.getElem?_range hi, if_pos hi, Option.map_some, own_new R h i]
    rfl
  · rw [if_neg hi, List.getElem?_eq_none (by simp; omega)]
    rfl
theorem worthL_new (R : List Row3) {n m : Nat} (h : In R n m) : worthL R (n + 1) = worthL R n ++ [0] := by
  unfold worthL
  rw [List.range_succ, List.map_append, List.map_singleton, worth_new R h]
  rfl
theorem grow_two {F F' : Nat → Prop} {wr wi w8 w10 : World} {b : Nat} {R : List Row3} {n m : Nat} {gs : List Nat} {V W : Value} {A8 A10 : Option Addr} {c8 c10 : Nat} (h : TbM F wr b R n m gs V W) (u : Upd (Fresh wr.heap.size) wr wi) (hn : n + 1 ≤ 64)
    (hg : wi.heap[wr.heap.size]? = some (.cells (List.replicate m (Value.int .i64 (-1))).toArray 3 (0, 0)))
    (hv8 : Sl w8 0 63 1 (gC m) (.slice A8 (gs.length + 1) c8) (gs ++ [wr.heap.size])) (hg8 : wi.grownBy w8 V.ownBlock) (hat8 : (Value.slice A8 (gs.length + 1) c8).ownBlock = V.ownBlock ∨ ∃ b, (Value.slice A8 (gs.length + 1) c8).ownBlock = some b ∧ wi.heap.size ≤ b)
    (hv10 : Sl w10 0 3 1 ic (.slice A10 ((worthL R n).length + 1) c10) (worthL R n ++ [0])) (hg10 : (w8.setCell ⟨b, 193, none⟩ (.slice A8 (gs.length + 1) c8)).grownBy w10 W.ownBlock)
    (hat10 : (Value.slice A10 ((worthL R n).length + 1) c10).ownBlock = W.ownBlock ∨ ∃ y, (Value.slice A10 ((worthL R n).length + 1) c10).ownBlock = some y ∧ (w8.setCell ⟨b, 193, none⟩ (.slice A8 (gs.length + 1) c8)).heap.size ≤ y)
    (hF : ∀ x, F x → F' x) (hF2 : ∀ x, wr.heap.size ≤ x → x < w10.heap.size → F' x) :
    TbM F' (w10.setCell ⟨b, 194, none⟩ (.slice A10 ((worthL R n).length + 1) c10)) b R (n + 1) m (gs ++ [wr.heap.size]) (.slice A8 (gs.length + 1) c8) (.slice A10 ((worthL R n).length + 1) c10) := by
  have h1 := h.fresh u
  obtain ⟨hb8, hb9, hs9⟩ := grow_one h1 hv8 hg8
  have hb10 := blk_grown hb9 hg10 (fun k hk => hs9.ne hb9 (by decide) k hk)
  have hb11 := blk_put hb10 194 (.slice A10 ((worthL R n).length + 1) c10) rfl
  rw [List.setIfInBounds_toArray, tab_setW] at hb11
  have U9 : Upd (Only b) w8 (w8.setCell ⟨b, 193, none⟩ (.slice A8 (gs.length + 1) c8)) := (Upd.refl _ _).set1 _
  have U11 : Upd (Only b) w10 (w10.setCell ⟨b, 194, none⟩ (.slice A10 ((worthL R n).length + 1) c10)) := (Upd.refl _ _).set1 _
  have hv9 := hv8.upd U9 (fun k hk e => hv8.ne hb8 (by decide) k hk e)
  have hvA := hv9.grown hg10 (fun k hk e => by
    obtain ⟨_, cs, hb⟩ := hs9.typed k e.symm
    exact hv9.ne hb (by decide) k hk rfl)
  have hvB := hvA.upd U11 (fun k hk e => hvA.ne hb10 (by decide) k hk e)
  have hwB := hv10.upd U11 (fun k hk e => hv10.ne hb10 (by decide) k hk e)
  rw [← worthL_new R h.inn] at hwB
  have hsz : wr.heap.size < wi.heap.size := blk_lt hg
  have hs8 := hg8.size
  have hs9' : (w8.setCell ⟨b, 193, none⟩ (.slice A8 (gs.length + 1) c8)).heap.size = w8.heap.size := by simp [World.setCell]
  have hs10 := hg10.size
  have hs11 : (w10.setCell ⟨b, 194, none⟩ (.slice A10 ((worthL R n).length + 1) c10)).heap.size = w10.heap.size := by simp [World.setCell]
  have hlt : ∀ g ∈ gs, g < wr.heap.size := fun g hg => by
    obtain ⟨i, hi, rfl⟩ := List.getElem_of_mem hg
    exact blk_lt (h.rows i hi)
  have step : ∀ g cs, wi.heap[g]? = some (.cells cs 3 (0, 0)) → (∀ k, W.ownBlock = some k → k ≠ g) → (w10.setCell ⟨b, 194, none⟩ (.slice A10 ((worthL R n).length + 1) c10)).heap[g]? = some (.cells cs 3 (0, 0)) := by
    intro g cs hb hne
    have e8 := blk_grown hb hg8 (fun k hk => h1.sv.ne hb (by decide) k hk)
    have n8 : g ≠ b := by
      rintro rfl
      rw [hb8] at e8
      injection e8 with e8
      injection e8 with _ e8
      exact absurd e8 (by decide)
    have e9 := U9.blk e8 n8
    have e10 := blk_grown e9 hg10 hne
    exact U11.blk e10 n8
  refine ⟨⟨hb11, hvB, hwB, fun i hi => ?_, by simp [h.len], ?_, hF _ h.ob, ?_, ?_, ?_, ?_⟩, h.pw, h.inn.more (by omega), hn, h.hm⟩
  · by_cases hi2 : i < gs.length
    · rw [List.getElem_append_left hi2]
      exact step _ _ (h1.rows i hi2) (fun k hk e => h1.wne k hk (by rw [e]; exact List.getElem_mem hi2))
    · have : i = gs.length := by simp at hi; omega
      subst this
      rw [List.getElem_append_right (by omega)]
      simp only [Nat.sub_self, List.getElem_cons_zero]
      rw [show rowL R m gs.length = List.replicate m (.int .i64 (-1)) by rw [h.len]; exact row_new R h.inn]
      exact step _ _ hg (fun k hk e => by have := h.sw.lt k hk; omega)
  · rw [List.nodup_append]
    refine ⟨h.nd, by simp, ?_⟩
    intro a ha b' hb' e
    obtain rfl : b' = wr.heap.size := by simpa using hb'
    have := hlt a ha
    omega
  · intro g hg2
    rcases List.mem_append.1 hg2 with hg2 | hg2
    · exact hF _ (h.og g hg2)
    · obtain rfl : g = wr.heap.size := by simpa using hg2
      exact hF2 _ (Nat.le_refl _) (by omega)
  · intro k hk
    rcases hat8 with e | ⟨b0, e, hb0⟩
    · exact hF _ (h.oV k (by rw [← e]; exact hk))
    · rw [hk] at e
      injection e with e
      subst e
      have := hvA.lt k hk
      exact hF2 _ (by omega) this
  · intro k hk
    rcases hat10 with e | ⟨b0, e, hb0⟩
    · exact hF _ (h.oW k (by rw [← e]; exact hk))
    · rw [hk] at e
      injection e with e
      subst e
      have := hv10.lt k hk
      exact hF2 _ (by omega) this
  · intro k hk hmem
    rcases hat10 with e | ⟨b0, e, hb0⟩
    · rw [hk] at e
      rcases List.mem_append.1 hmem with hm | hm
      · exact h.wne k e.symm hm
      · obtain rfl : k = wr.heap.size := by simpa using hm
        have := h.sw.lt _ e.symm
        omega
    · rw [hk] at e
      injection e with e
      subst e
      rcases List.mem_append.1 hmem with hm | hm
      · have := hlt k hm; omega
      · obtain rfl : k = wr.heap.size := by simpa using hm
        omega
def cntG (n : Nat) (k : Int) : Nat := min k.toNat (64 - n)
def GrowR (F : Nat → Prop) (b : Nat) (R : List Row3) (n m : Nat) (w : World) (e : Ending) (w' : World) : Prop := e = .returned (.tuple #[]) ∧ Tb (More F w.heap.size w'.heap.size) w' b R n m ∧ Upd F w w'
set_option maxHeartbeats 8000000 in
set_option maxRecDepth 100000 in
theorem grow_k (F : Nat → Prop) (b : Nat) (R : List Row3) (n m : Nat) (k : Nat) (w : World) (h : Tb F w b R n m) (hk : (k : Int) ≤ 64 - (n : Int)) : Calls Try.prog 74 #[.pointer (some ⟨b, 0, none⟩), .int .i64 k] w (GrowR F b R (n + k) m w) := by
  obtain ⟨gs, V, W, h⟩ := h
  have cW := h.cW
  have cp := h.pages
  have hn := h.hn
  obtain ⟨A, c, hW, hc⟩ := h.formW
  rw [hW] at cW
  have h0 : ¬ (k : Int) < 0 := by omega
  have hk' : ¬ 64 - (n : Int) < (k : Int) := by omega
  go_enter Try.func74, Try.ntmps74
  go_wp2_with fail
  have hT0 : Tb (More F w.heap.size w.heap.size) w b R (n + 0) m := ⟨gs, V, W, { h with ob := .inl h.ob, og := fun g hg => .inl (h.og g hg), oV := fun k hk => .inl (h.oV k hk), oW := fun k hk => .inl (h.oW k hk) }⟩
  clear h cW cp hW
  go_loopw [17] (fun s17 wr => ∃ j : Nat, j ≤ k ∧ s17 = .int .i64 j ∧ Tb (More F w.heap.size wr.heap.size) wr b R (n + j) m ∧ Upd F w wr) (fun s17 _ => k - (intOf s17).toNat)
  case atStart => exact ⟨0, by omega, rfl, hT0, Upd.refl _ _⟩
  case round =>
    clear hT0
    obtain ⟨j, hj, rfl, hT, hU⟩ := hrel
    by_cases hlt : j < k
    · obtain ⟨gs, V, W, h⟩ := hT
      have cp := h.pages
      have hmI := h.hm
      obtain ⟨hm2, hm16⟩ := hmI
      have hmk := mkI m (by omega)
      go_wp2_with fail
      have hg0 := blk_new wr (.cells (List.replicate m (.int .i64 0)).toArray 3)
      have hU1 : Upd (Fresh wr.heap.size) wr (wr.alloc (.cells (List.replicate m (.int .i64 0)).toArray 3)) := (Upd.refl _ _).alloc _
      go_loopw [5, 26] (fun s5 s26 wi => ∃ i : Nat, i ≤ m ∧ s26 = .int .i64 i ∧ wi.heap[wr.heap.size]? = some (.cells (List.replicate i (Value.int .i64 (-1)) ++ List.replicate (m - i) (Value.int .i64 0)).toArray 3 (0, 0)) ∧ Upd (Fresh wr.heap.size) wr wi) (fun _ s26 _ => m - (intOf s26).toNat)
      case atStart => exact ⟨0, by omega, rfl, by simpa using hg0, hU1⟩
      case round =>
        clear hg0 hU1 hmk
        rename World => wi
        obtain ⟨i, hi, rfl, hg, hU1⟩ := hrel
        by_cases hli : i < m
        · have hz : (List.replicate i (Value.int .i64 (-1)) ++ List.replicate (m - i) (Value.int .i64 0))[i]? = some (Value.int .i64 0) := by
            rw [List.getElem?_append_right (by simp), List.length_replicate, Nat.sub_self, List.getElem?_replicate, if_pos (by omega)]
          have c1 := blk_cell hg i
          rw [List.getElem?_toArray, hz] at c1
          have f1 := blk_frozen hg i
          have hg2 := blk_put hg i (.int .i64 (-1)) rfl
          rw [List.setIfInBounds_toArray, rep_set m i hli] at hg2
          have hU2 : Upd (Fresh wr.heap.size) wr (wi.setCell ⟨wr.heap.size, i, none⟩ (.int .i64 (-1))) := hU1.set (p := ⟨wr.heap.size, i, none⟩) (.inl (Nat.le_refl _)) _
          have hg2H := Lib.hid hg2
          clear hz hg2 hg
          go_wp2_with fail
          go_roundw
          case measure => simp [intOf]; omega
          case rel => exact ⟨i + 1, by omega, by go_num, hg2H.out, hU2⟩
        · obtain rfl : m = i := by omega
          rw [Nat.sub_self, List.replicate_zero, List.append_nil] at hg
          have h1 := h.fresh hU1
          have cV := h1.cV
          have fV := h1.fz 193
          have hglI : gs.length ≤ 64 := by rw [h.len]; omega
          have hbase : 0 ≤ wi.heap.size := Nat.zero_le _
          have hwlI : (worthL R (n + j)).length ≤ 64 := by rw [worthL_len]; omega
          have hsv := h1.sv
          clear cp
          go_wp2_with (at_builtin; first
            | (refine wp_app1 0 rfl (.tmp 37) (.tmp 39) (elemSS m) rfl wi wr.heap.size rfl V gs rfl (by simp [Act.eval]) hsv hbase (by omega) (by unfold maxLen; omega) ?_; intro A8 c8 w8 hv8 hg8 hat8; obtain ⟨hb8, hb9, hs9⟩ := grow_one h1 hv8 hg8; have q1 := blk_cell hb8 193; have q2 := blk_frozen hb8 193; have q3 := blk_cell hb9 194; have q4 := blk_frozen hb9 194; rw [List.getElem?_toArray, tab_V] at q1; rw [List.getElem?_toArray, tab_W] at q3)
            | (refine wp_app1 0 rfl (.tmp 47) (.tmp 48) elemI rfl _ 0 rfl W (worthL R (n + j)) rfl (by simp [Act.eval]) hs9 (Nat.zero_le _) (by omega) (by unfold maxLen; omega) ?_; intro A10 c10 w10 hv10 hg10 hat10; have hb10 := blk_grown hb9 hg10 (fun k hk => hs9.ne hb9 (by decide) k hk); have q5 := blk_cell hb10 194; have q6 := blk_frozen hb10 194; rw [List.getElem?_toArray, tab_W] at q5))
          have hfin := Lib.hid (grow_two (F' := More F w.heap.size (w10.setCell ⟨b, 194, none⟩ (.slice A10 ((worthL R (n + j)).length + 1) c10)).heap.size) h hU1 (by omega) hg hv8 hg8 hat8 hv10 hg10 hat10 (fun x hx => hx.elim .inl (fun ⟨x1, x2⟩ => .inr ⟨x1, by
            have e1 := hU1.size
            have e2 := hg8.size
            have e3 : (w8.setCell ⟨b, 193, none⟩ (.slice A8 (gs.length + 1) c8)).heap.size = w8.heap.size := by simp [World.setCell]
            have e4 := hg10.size
            have e5 : (w10.setCell ⟨b, 194, none⟩ (.slice A10 ((worthL R (n + j)).length + 1) c10)).heap.size = w10.heap.size := by simp [World.setCell]
            omega⟩)) (fun x x1 x2 => .inr ⟨Nat.le_trans hU.size x1, by
            have e5 : (w10.setCell ⟨b, 194, none⟩ (.slice A10 ((worthL R (n + j)).length + 1) c10)).heap.size = w10.heap.size := by simp [World.setCell]
            omega⟩))
          have hown : ∀ x, More F w.heap.size wr.heap.size x → F x ∨ w.heap.size ≤ x := fun x hx => hx.elim .inl (fun ⟨x1, _⟩ => .inr x1)
          have hUi : Upd F w wi := hU.trans hU1 (fun x hx => .inr (Nat.le_trans hU.size hx))
          have hU8 := hUi.grown hg8 (fun k hk => hown k (h1.oV k hk))
          have hU9 := hU8.set (p := ⟨b, 193, none⟩) (hown b h1.ob) (.slice A8 (gs.length + 1) c8)
          have hU10 := hU9.grown hg10 (fun k hk => hown k (h1.oW k hk))
          have hU11 := hU10.set (p := ⟨b, 194, none⟩) (hown b h1.ob) (.slice A10 ((worthL R (n + j)).length + 1) c10)
          go_roundw
          case measure => simp [intOf]; omega
          case rel => exact ⟨j + 1, by omega, by go_num, ⟨_, _, _, hfin.out⟩, hU11⟩
    · obtain rfl : j = k := by omega
      go_wp2_with fail
      go_end0
      first
        | exact ⟨rfl, hT, hU⟩
        | (rw [Nat.add_sub_cancel' hn] at hT; exact ⟨rfl, hT, hU⟩)
set_option maxHeartbeats 8000000 in
set_option maxRecDepth 100000 in
theorem grow_big (F : Nat → Prop) (b : Nat) (R : List Row3) (n m : Nat) (k : Int) (w : World) (h : Tb F w b R n m) (hk0 : 0 ≤ k) (hk : 64 - (n : Int) < k) : Calls Try.prog 74 #[.pointer (some ⟨b, 0, none⟩), .int .i64 k] w (GrowR F b R (n + (64 - n)) m w) := by
  obtain ⟨gs, V, W, h⟩ := h
  have cW := h.cW
  have cp := h.pages
  have hn := h.hn
  obtain ⟨A, c, hW, hc⟩ := h.formW
  rw [hW] at cW
  have h0 : ¬ k < 0 := by omega
  go_enter Try.func74, Try.ntmps74
  go_wp2_with fail
  rw [show (64 : Int) - (n : Int) = ((64 - n : Nat) : Int) by omega]
  clear hk h0 hk0
  have hT0 : Tb (More F w.heap.size w.heap.size) w b R (n + 0) m := ⟨gs, V, W, { h with ob := .inl h.ob, og := fun g hg => .inl (h.og g hg), oV := fun k hk => .inl (h.oV k hk), oW := fun k hk => .inl (h.oW k hk) }⟩
  clear h cW cp hW
  go_loopw [17] (fun s17 wr => ∃ j : Nat, j ≤ (64 - n) ∧ s17 = .int .i64 j ∧ Tb (More F w.heap.size wr.heap.size) wr b R (n + j) m ∧ Upd F w wr) (fun s17 _ => (64 - n) - (intOf s17).toNat)
  case atStart => exact ⟨0, by omega, rfl, hT0, Upd.refl _ _⟩
  case round =>
    clear hT0
    obtain ⟨j, hj, rfl, hT, hU⟩ := hrel
    by_cases hlt : j < (64 - n)
    · obtain ⟨gs, V, W, h⟩ := hT
      have cp := h.pages
      have hmI := h.hm
      obtain ⟨hm2, hm16⟩ := hmI
      have hmk := mkI m (by omega)
      go_wp2_with fail
      have hg0 := blk_new wr (.cells (List.replicate m (.int .i64 0)).toArray 3)
      have hU1 : Upd (Fresh wr.heap.size) wr (wr.alloc (.cells (List.replicate m (.int .i64 0)).toArray 3)) := (Upd.refl _ _).alloc _
      go_loopw [5, 26] (fun s5 s26 wi => ∃ i : Nat, i ≤ m ∧ s26 = .int .i64 i ∧ wi.heap[wr.heap.size]? = some (.cells (List.replicate i (Value.int .i64 (-1)) ++ List.replicate (m - i) (Value.int .i64 0)).toArray 3 (0, 0)) ∧ Upd (Fresh wr.heap.size) wr wi) (fun _ s26 _ => m - (intOf s26).toNat)
      case atStart => exact ⟨0, by omega, rfl, by simpa using hg0, hU1⟩
      case round =>
        clear hg0 hU1 hmk
        rename World => wi
        obtain ⟨i, hi, rfl, hg, hU1⟩ := hrel
        by_cases hli : i < m
        · have hz : (List.replicate i (Value.int .i64 (-1)) ++ List.replicate (m - i) (Value.int .i64 0))[i]? = some (Value.int .i64 0) := by
            rw [List.getElem?_append_right (by simp), List.length_replicate, Nat.sub_self, List.getElem?_replicate, if_pos (by omega)]
          have c1 := blk_cell hg i
          rw [List.getElem?_toArray, hz] at c1
          have f1 := blk_frozen hg i
          have hg2 := blk_put hg i (.int .i64 (-1)) rfl
          rw [List.setIfInBounds_toArray, rep_set m i hli] at hg2
          have hU2 : Upd (Fresh wr.heap.size) wr (wi.setCell ⟨wr.heap.size, i, none⟩ (.int .i64 (-1))) := hU1.set (p := ⟨wr.heap.size, i, none⟩) (.inl (Nat.le_refl _)) _
          have hg2H := Lib.hid hg2
          clear hz hg2 hg
          go_wp2_with fail
          go_roundw
          case measure => simp [intOf]; omega
          case rel => exact ⟨i + 1, by omega, by go_num, hg2H.out, hU2⟩
        · obtain rfl : m = i := by omega
          rw [Nat.sub_self, List.replicate_zero, List.append_nil] at hg
          have h1 := h.fresh hU1
          have cV := h1.cV
          have fV := h1.fz 193
          have hglI : gs.length ≤ 64 := by rw [h.len]; omega
          have hbase : 0 ≤ wi.heap.size := Nat.zero_le _
          have hwlI : (worthL R (n + j)).length ≤ 64 := by rw [worthL_len]; omega
          have hsv := h1.sv
          clear cp
          go_wp2_with (at_builtin; first
            | (refine wp_app1 0 rfl (.tmp 37) (.tmp 39) (elemSS m) rfl wi wr.heap.size rfl V gs rfl (by simp [Act.eval]) hsv hbase (by omega) (by unfold maxLen; omega) ?_; intro A8 c8 w8 hv8 hg8 hat8; obtain ⟨hb8, hb9, hs9⟩ := grow_one h1 hv8 hg8; have q1 := blk_cell hb8 193; have q2 := blk_frozen hb8 193; have q3 := blk_cell hb9 194; have q4 := blk_frozen hb9 194; rw [List.getElem?_toArray, tab_V] at q1; rw [List.getElem?_toArray, tab_W] at q3)
            | (refine wp_app1 0 rfl (.tmp 47) (.tmp 48) elemI rfl _ 0 rfl W (worthL R (n + j)) rfl (by simp [Act.eval]) hs9 (Nat.zero_le _) (by omega) (by unfold maxLen; omega) ?_; intro A10 c10 w10 hv10 hg10 hat10; have hb10 := blk_grown hb9 hg10 (fun k hk => hs9.ne hb9 (by decide) k hk); have q5 := blk_cell hb10 194; have q6 := blk_frozen hb10 194; rw [List.getElem?_toArray, tab_W] at q5))
          have hfin := Lib.hid (grow_two (F' := More F w.heap.size (w10.setCell ⟨b, 194, none⟩ (.slice A10 ((worthL R (n + j)).length + 1) c10)).heap.size) h hU1 (by omega) hg hv8 hg8 hat8 hv10 hg10 hat10 (fun x hx => hx.elim .inl (fun ⟨x1, x2⟩ => .inr ⟨x1, by
            have e1 := hU1.size
            have e2 := hg8.size
            have e3 : (w8.setCell ⟨b, 193, none⟩ (.slice A8 (gs.length + 1) c8)).heap.size = w8.heap.size := by simp [World.setCell]
            have e4 := hg10.size
            have e5 : (w10.setCell ⟨b, 194, none⟩ (.slice A10 ((worthL R (n + j)).length + 1) c10)).heap.size = w10.heap.size := by simp [World.setCell]
            omega⟩)) (fun x x1 x2 => .inr ⟨Nat.le_trans hU.size x1, by
            have e5 : (w10.setCell ⟨b, 194, none⟩ (.slice A10 ((worthL R (n + j)).length + 1) c10)).heap.size = w10.heap.size := by simp [World.setCell]
            omega⟩))
          have hown : ∀ x, More F w.heap.size wr.heap.size x → F x ∨ w.heap.size ≤ x := fun x hx => hx.elim .inl (fun ⟨x1, _⟩ => .inr x1)
          have hUi : Upd F w wi := hU.trans hU1 (fun x hx => .inr (Nat.le_trans hU.size hx))
          have hU8 := hUi.grown hg8 (fun k hk => hown k (h1.oV k hk))
          have hU9 := hU8.set (p := ⟨b, 193, none⟩) (hown b h1.ob) (.slice A8 (gs.length + 1) c8)
          have hU10 := hU9.grown hg10 (fun k hk => hown k (h1.oW k hk))
          have hU11 := hU10.set (p := ⟨b, 194, none⟩) (hown b h1.ob) (.slice A10 ((worthL R (n + j)).length + 1) c10)
          go_roundw
          case measure => simp [intOf]; omega
          case rel => exact ⟨j + 1, by omega, by go_num, ⟨_, _, _, hfin.out⟩, hU11⟩
    · obtain rfl : j = (64 - n) := by omega
      go_wp2_with fail
      go_end0
      first
        | exact ⟨rfl, hT, hU⟩
        | (rw [Nat.add_sub_cancel' hn] at hT; exact ⟨rfl, hT, hU⟩)
set_option maxHeartbeats 8000000 in
set_option maxRecDepth 100000 in
theorem grow_neg (F : Nat → Prop) (b : Nat) (R : List Row3) (n m : Nat) (k : Int) (w : World) (h : Tb F w b R n m) (hk0 : k < 0) : Calls Try.prog 74 #[.pointer (some ⟨b, 0, none⟩), .int .i64 k] w (GrowR F b R (n + 0) m w) := by
  have hT0 : Tb (More F w.heap.size w.heap.size) w b R (n + 0) m := by
    obtain ⟨gs, V, W, h⟩ := h
    exact ⟨gs, V, W, { h with ob := .inl h.ob, og := fun g hg => .inl (h.og g hg), oV := fun k hk => .inl (h.oV k hk), oW := fun k hk => .inl (h.oW k hk) }⟩
  obtain ⟨gs, V, W, h⟩ := h
  have cW := h.cW
  have cp := h.pages
  have hn := h.hn
  obtain ⟨A, c, hW, hc⟩ := h.formW
  rw [hW] at cW
  have hnn : ¬ 64 - (n : Int) < 0 := by omega
  clear h hW
  go_enter Try.func74, Try.ntmps74
  go_wp2_with fail
  go_loopw [17] (fun s17 wr => s17 = .int .i64 0 ∧ w = wr) (fun s17 _ => 0)
  case atStart => exact ⟨rfl, rfl⟩
  case round =>
    obtain ⟨rfl, rfl⟩ := hrel
    go_wp2_with fail
    go_end0
    exact ⟨rfl, hT0, Upd.refl _ _⟩
theorem grow (F : Nat → Prop) (b : Nat) (R : List Row3) (n m : Nat) (k : Int) (w : World) (h : Tb F w b R n m) : Calls Try.prog 74 #[.pointer (some ⟨b, 0, none⟩), .int .i64 k] w (GrowR F b R (n + cntG n k) m w) := by
  have hn : n ≤ 64 := by obtain ⟨gs, V, W, h⟩ := h; exact h.hn
  by_cases h0 : k < 0
  · have : cntG n k = 0 := by unfold cntG; omega
    rw [this]
    exact grow_neg F b R n m k w h h0
  · by_cases h1 : 64 - (n : Int) < k
    · have : cntG n k = 64 - n := by unfold cntG; omega
      rw [this]
      exact grow_big F b R n m k w h (by omega) h1
    · obtain ⟨d, rfl⟩ := Int.eq_ofNat_of_zero_le (Int.not_lt.1 h0)
      have : cntG n d = d := by unfold cntG; omega
      rw [this]
      exact grow_k F b R n m d w h (by omega)
theorem grow_nil (k : Int) (w : World) : Calls Try.prog 74 #[.pointer none, .int .i64 k] w fun e w' => e = .returned (.tuple #[]) ∧ w = w' := by
  go_enter Try.func74, Try.ntmps74
  go_wp2_with fail
  first
    | refine bodyPost_ret (results_none rfl _ _ _) rfl ?_
    | (simp only [Exit.inBlock, Exit.then]; refine bodyPost_ret (results_none rfl _ _ _) rfl ?_)
  exact ⟨rfl, rfl⟩
theorem tb_blank (w : World) (m : Nat) (hm : 2 ≤ m ∧ m ≤ 16) (F : Nat → Prop) (hF : F w.heap.size) : TbM F (w.alloc (.cells (tabL m [] (.slice none 0 0) (.slice none 0 0)).toArray 107)) w.heap.size [] 0 m [] (.slice none 0 0) (.slice none 0 0) :=
  ⟨⟨blk_new _ _, Sl.nil _ _ _ _ _, Sl.nil _ _ _ _ _, fun i hi => absurd hi (by simp), rfl, List.nodup_nil, hF, fun g hg => absurd hg (by simp), fun k hk => by simp [Value.ownBlock] at hk, fun k hk => by simp [Value.ownBlock] at hk, fun k hk => by simp [Value.ownBlock] at hk⟩,
    ⟨List.Pairwise.nil, List.Pairwise.nil⟩, fun r hr => absurd hr (by simp), by omega, hm⟩
def TNewR (n m : Nat) (w : World) (e : Ending) (w' : World) : Prop := ∃ b, e = .returned (.pointer (some ⟨b, 0, none⟩)) ∧ w.heap.size ≤ b ∧ Tb (More (fun _ => False) w.heap.size w'.heap.size) w' b [] n m ∧ Upd Nil w w'
def newOk (n m : Int) : Bool := decide (1 ≤ n ∧ n ≤ 64 ∧ 2 ≤ m ∧ m ≤ 16)
set_option maxHeartbeats 8000000 in
set_option maxRecDepth 100000 in
theorem new_yes (n m : Nat) (hn : 1 ≤ n ∧ n ≤ 64) (hm : 2 ≤ m ∧ m ≤ 16) (w : World) : Calls Try.prog 62 #[.int .i64 n, .int .i64 m] w (TNewR n m w) := by
  have k := grow (Only w.heap.size) w.heap.size [] 0 m n _ ⟨_, _, _, tb_blank w m hm _ rfl⟩
  have hc : cntG 0 n = n := by unfold cntG; omega
  rw [hc, Nat.zero_add] at k
  obtain ⟨hn1, hn2⟩ := hn
  obtain ⟨hm1, hm2⟩ := hm
  have i1 : ¬ (n : Int) < 1 := by omega
  have i2 : ¬ (64 : Int) < (n : Int) := by omega
  have i3 : ¬ (m : Int) < 2 := by omega
  have i4 : ¬ (16 : Int) < (m : Int) := by omega
  have hz : Try.zeroCells107.setIfInBounds 0 (.int .i64 m) = (tabL m [] (.slice none 0 0) (.slice none 0 0)).toArray := by kernel_rfl
  rw [← hz] at k
  have hU0 : Upd Nil w (w.alloc (.cells (Try.zeroCells107.setIfInBounds 0 (.int .i64 m)) 107)) := (Upd.refl _ _).alloc _
  clear hc hz
  go_enter Try.func62, Try.ntmps62
  go_wp2_with fail
  refine k.mono ?_
  rintro e w1 ⟨rfl, hT, hU⟩
  go_wp2_with fail
  go_ret
  refine ⟨_, rfl, Nat.le_refl _, ?_, hU0.newOnly hU (Nat.le_refl _)⟩
  obtain ⟨gs, V, W, h⟩ := hT
  have hsz := hU.size
  have hup : ∀ x, More (Only w.heap.size) (w.alloc (.cells (Try.zeroCells107.setIfInBounds 0 (.int .i64 m)) 107)).heap.size w1.heap.size x → More (fun _ => False) w.heap.size w1.heap.size x := by
    intro x hx
    rcases hx with hx | ⟨h1, h2⟩
    · have hx : x = w.heap.size := hx
      subst hx
      exact .inr ⟨Nat.le_refl _, by simp at hsz; omega⟩
    · exact .inr ⟨by simp at h1; omega, h2⟩
  exact ⟨gs, V, W, { h with ob := hup _ h.ob, og := fun g hg => hup _ (h.og g hg), oV := fun k hk => hup _ (h.oV k hk), oW := fun k hk => hup _ (h.oW k hk) }⟩
theorem new_no (n m : Int) (h : newOk n m = false) (w : World) : Calls Try.prog 62 #[.int .i64 n, .int .i64 m] w fun e w' => e = .returned (.pointer none) ∧ w = w' := by
  by_cases h1 : n < 1
  · go_enter Try.func62, Try.ntmps62
    go_wp2_with fail
    go_ret
    exact ⟨rfl, rfl⟩
  by_cases h2 : 64 < n
  · go_enter Try.func62, Try.ntmps62
    go_wp2_with fail
    go_ret
    exact ⟨rfl, rfl⟩
  by_cases h3 : m < 2
  · go_enter Try.func62, Try.ntmps62
    go_wp2_with fail
    go_ret
    exact ⟨rfl, rfl⟩
  have h4 : 16 < m := by
    unfold newOk at h
    simp at h
    omega
  clear h
  go_enter Try.func62, Try.ntmps62
  go_wp2_with fail
  go_ret
  exact ⟨rfl, rfl⟩
end Go.Proofs.Ythppheklnplljaa.Table
