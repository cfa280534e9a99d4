/-
  A table of pages in memory: what its blocks hold; what a store makes of it. Conditions: each lemma's own.
-/
import Derived.Test.YthppheklnplljaaInts
import Derived.Test.YthppheklnplljaaLexU
import Derived.Test.YthppheklnplljaaTableP
namespace Go.Proofs.Ythppheklnplljaa.Table
open Go.RowKit Go.Proofs.Ythppheklnplljaa.Base Go.Proofs.Ythppheklnplljaa.Ints
set_option linter.unusedVariables false
set_option linter.unusedSimpArgs false
/-- The blocks that a table's own are, when the heap has grown. -/
def More (F : Nat → Prop) (a b : Nat) : Nat → Prop := fun x => F x ∨ (a ≤ x ∧ x < b)
/-- New blocks alone are written to. -/
def Fresh (n : Nat) : Nat → Prop := fun x => n ≤ x
def spC : Option (Nat × Nat) → List Value
  | some s => [.int .i64 s.1, .int .i64 s.2, .bool true]
  | none => [.int .i64 0, .int .i64 0, .bool false]
theorem spC_len (o : Option (Nat × Nat)) : (spC o).length = 3 := by cases o <;> rfl
def ownI : Option Nat → Int
  | some q => q
  | none => -1
def spotL (R : List Row3) : List Value := (List.range 64).flatMap fun q => spC (spotOf R q)
def tabL (m : Nat) (R : List Row3) (V W : Value) : List Value := .int .i64 m :: (spotL R ++ [V, W])
def rowL (R : List Row3) (m i : Nat) : List Value := (List.range m).map fun p => .int .i64 (ownI (ownOf R (i, p)))
def worthL (R : List Row3) (n : Nat) : List Int := (List.range n).map fun i => (worthOf R i : Int)
def gC (m : Nat) (g : Nat) : List Value := [.slice (some ⟨g, 0, none⟩) m m]
theorem gC_len (m : Nat) (g : Nat) : (gC m g).length = 1 := rfl
theorem gC_one (m : Nat) (g : Nat) : ∀ u ∈ gC m g, u.oneCell' = true := by
  intro u hu
  obtain rfl : u = .slice (some ⟨g, 0, none⟩) m m := by simpa [gC] using hu
  rfl
theorem spotL_len (R : List Row3) : (spotL R).length = 192 := by
  unfold spotL
  rw [flat_len (sz := 3) (fun q => spC_len _)]
  simp
theorem tab_0 (m : Nat) (R : List Row3) (V W : Value) : (tabL m R V W)[0]? = some (.int .i64 m) := rfl
theorem tab_spot (m : Nat) (R : List Row3) (V W : Value) {q j : Nat} (hq : q < 64) (hj : j < 3) : (tabL m R V W)[1 + q * 3 + j]? = (spC (spotOf R q))[j]? := by
  have h := flat_get (sz := 3) (f := fun q => spC (spotOf R q)) (fun q => spC_len _) (List.range 64) q j (by simpa using hq) hj
  rw [List.getElem_range] at h
  unfold tabL
  rw [show 1 + q * 3 + j = (q * 3 + j) + 1 by omega, List.getElem?_cons_succ, List.getElem?_append_left (by rw [spotL_len]; omega)]
  exact h
theorem tab_V (m : Nat) (R : List Row3) (V W : Value) : (tabL m R V W)[193]? = some V := by
  unfold tabL
  rw [List.getElem?_cons_succ, List.getElem?_append_right (by rw [spotL_len]; omega), spotL_len]
  rfl
theorem tab_W (m : Nat) (R : List Row3) (V W : Value) : (tabL m R V W)[194]? = some W := by
  unfold tabL
  rw [List.getElem?_cons_succ, List.getElem?_append_right (by rw [spotL_len]; omega), spotL_len]
  rfl
theorem tab_len (m : Nat) (R : List Row3) (V W : Value) : (tabL m R V W).length = 195 := by
  unfold tabL
  simp [spotL_len]
/-- A place's spot is written. -/
theorem tab_set {m : Nat} {R R' : List Row3} (V W : Value) {q : Nat} (hq : q < 64) {x y z : Value} (h : spC (spotOf R' q) = [x, y, z]) (hk : ∀ k, k ≠ q → spotOf R' k = spotOf R k) :
    (((tabL m R V W).set (1 + q * 3) x).set (1 + q * 3 + 1) y).set (1 + q * 3 + 2) z = tabL m R' V W := by
  apply List.ext_getElem?
  intro i
  have hl := tab_len m R V W
  have hl' := tab_len m R' V W
  by_cases hi : i < 195
  · rcases Nat.lt_or_ge i 193 with h1 | h1
    · rcases Nat.eq_zero_or_pos i with rfl | hpos
      · rw [List.getElem?_set_ne (by omega), List.getElem?_set_ne (by omega), List.getElem?_set_ne (by omega)]
        rfl
      · obtain ⟨k, j, hk64, hj, rfl⟩ : ∃ k j, k < 64 ∧ j < 3 ∧ i = 1 + k * 3 + j := ⟨(i - 1) / 3, (i - 1) % 3, by omega, by omega, by omega⟩
        rw [tab_spot m R' V W hk64 hj]
        by_cases e : k = q
        · subst e
          rw [h]
          have h3 : j = 0 ∨ j = 1 ∨ j = 2 := by omega
          rcases h3 with rfl | rfl | rfl
          · rw [List.getElem?_set_ne (by omega), List.getElem?_set_ne (by omega), Nat.add_zero, List.getElem?_set_self (by omega)]
            rfl
          · rw [List.getElem?_set_ne (by omega), List.getElem?_set_self (by simp; omega)]
            rfl
          · rw [List.getElem?_set_self (by simp; omega)]
            rfl
        · rw [List.getElem?_set_ne (by omega), List.getElem?_set_ne (by omega), List.getElem?_set_ne (by omega), tab_spot m R V W hk64 hj, hk k e]
    · rw [List.getElem?_set_ne (by omega), List.getElem?_set_ne (by omega), List.getElem?_set_ne (by omega)]
      have : i = 193 ∨ i = 194 := by omega
      rcases this with rfl | rfl
      · rw [tab_V, tab_V]
      · rw [tab_W, tab_W]
  · rw [List.getElem?_eq_none (by simp; omega), List.getElem?_eq_none (by omega)]
/-- The slice of rows, or of worths, is another one. -/
theorem tab_setV (m : Nat) (R : List Row3) (V V' W : Value) : (tabL m R V W).set 193 V' = tabL m R V' W := by
  unfold tabL
  rw [List.set_cons_succ, List.set_append_right _ _ (by rw [spotL_len]; omega), spotL_len]
  rfl
theorem tab_setW (m : Nat) (R : List Row3) (V W W' : Value) : (tabL m R V W).set 194 W' = tabL m R V W' := by
  unfold tabL
  rw [List.set_cons_succ, List.set_append_right _ _ (by rw [spotL_len]; omega), spotL_len]
  rfl
theorem row_len (R : List Row3) (m i : Nat) : (rowL R m i).length = m := by simp [rowL]
theorem row_get (R : List Row3) {m i p : Nat} (hp : p < m) : (rowL R m i)[p]? = some (.int .i64 (ownI (ownOf R (i, p)))) := by
  unfold rowL
  rw [List.getElem?_map, List.getElem?_range hp]
  rfl
theorem row_set {R R' : List Row3} {m i p : Nat} (hp : p < m) {x : Int} (hx : ownI (ownOf R' (i, p)) = x) (hk : ∀ k, k ≠ p → ownOf R' (i, k) = ownOf R (i, k)) : (rowL R m i).set p (.int .i64 x) = rowL R' m i := by
  apply List.ext_getElem?
  intro k
  by_cases hk2 : k < m
  · by_cases e : k = p
    · subst e
      rw [List.getElem?_set_self (by rw [row_len]; omega), row_get R' hk2, hx]
    · rw [List.getElem?_set_ne (by omega), row_get R hk2, row_get R' hk2, hk k e]
  · rw [List.getElem?_eq_none (by simp [row_len]; omega), List.getElem?_eq_none (by rw [row_len]; omega)]
theorem row_same {R R' : List Row3} {m i : Nat} (hk : ∀ k, k < m → ownOf R' (i, k) = ownOf R (i, k)) : rowL R' m i = rowL R m i := by
  unfold rowL
  apply List.map_congr_left
  intro p hp
  rw [hk p (List.mem_range.1 hp)]
theorem worthL_len (R : List Row3) (n : Nat) : (worthL R n).length = n := by simp [worthL]
theorem worthL_get (R : List Row3) {n i : Nat} (hi : i < (worthL R n).length) : (worthL R n)[i] = (worthOf R i : Int) := by simp [worthL]
theorem worthL_set {R R' : List Row3} {n i : Nat} (hi : i < n) {x : Int} (hx : (worthOf R' i : Int) = x) (hk : ∀ k, k ≠ i → worthOf R' k = worthOf R k) : (worthL R n).set i x = worthL R' n := by
  apply List.ext_getElem?
  intro k
  unfold worthL
  by_cases hk2 : k < n
  · by_cases e : k = i
    · subst e
      rw [List.getElem?_set_self (by simp; omega), List.getElem?_map, List.getElem?_range hk2, ← hx]
      rfl
    · rw [List.getElem?_set_ne (by omega), List.getElem?_map, List.getElem?_map, List.getElem?_range hk2]
      simp [hk k e]
  · rw [List.getElem?_eq_none (by simp; omega), List.getElem?_eq_none (by simp; omega)]
theorem nodup_lt : ∀ (N : Nat) (l : List Nat), l.Nodup → (∀ x ∈ l, x < N) → l.length ≤ N
  | 0, l, _, h => by
    cases l with
    | nil => simp
    | cons x l => exact absurd (h x (by simp)) (by omega)
  | N + 1, l, hn, h => by
    have h1 := nodup_lt N (l.erase N) (hn.erase N) (fun x hx => by
      have := (hn.mem_erase_iff).1 hx
      have := h x this.2
      omega)
    rw [List.length_erase] at h1
    split at h1 <;> omega
theorem len64 {R : List Row3} {n m : Nat} (h : PW R) (hi : In R n m) : R.length ≤ 64 := by
  have h1 : (R.map (·.1)).Nodup := by
    unfold List.Nodup
    rw [List.pairwise_map]
    exact h.1
  have := nodup_lt 64 _ h1 (fun x hx => by
    obtain ⟨r, hr, rfl⟩ := List.mem_map.1 hx
    exact (hi r hr).1)
  simpa using this
theorem worth64 {R : List Row3} {n m : Nat} (h : PW R) (hi : In R n m) (i : Nat) : worthOf R i ≤ 64 := Nat.le_trans List.countP_le_length (len64 h hi)
/-- What a table's blocks hold: spots, rows and worths of lists of their own; F: all blocks that are the table's. -/
structure TbX (F : Nat → Prop) (w : World) (b : Nat) (Rs Ro Rw : List Row3) (n m : Nat) (gs : List Nat) (V W : Value) : Prop where
  blk : w.heap[b]? = some (.cells (tabL m Rs V W).toArray 107 (0, 0))
  sv : Sl w 0 63 1 (gC m) V gs
  sw : Sl w 0 3 1 ic W (worthL Rw n)
  rows : ∀ i (h : i < gs.length), w.heap[gs[i]]? = some (.cells (rowL Ro m i).toArray 3 (0, 0))
  len : gs.length = n
  nd : gs.Nodup
  ob : F b
  og : ∀ g ∈ gs, F g
  oV : ∀ k, V.ownBlock = some k → F k
  oW : ∀ k, W.ownBlock = some k → F k
  wne : ∀ k, W.ownBlock = some k → k ∉ gs
structure TbM (F : Nat → Prop) (w : World) (b : Nat) (R : List Row3) (n m : Nat) (gs : List Nat) (V W : Value) : Prop extends TbX F w b R R R n m gs V W where
  pw : PW R
  inn : In R n m
  hn : n ≤ 64
  hm : 2 ≤ m ∧ m ≤ 16
section
variable {F : Nat → Prop} {w w' : World} {b : Nat} {Rs Ro Rw R' : List Row3} {n m : Nat} {gs : List Nat} {V W : Value}
theorem TbX.upd (h : TbX F w b Rs Ro Rw n m gs V W) {S : Nat → Prop} (u : Upd S w w') (hs : ∀ k, F k → ¬ S k) : TbX F w' b Rs Ro Rw n m gs V W :=
  ⟨u.blk h.blk (hs _ h.ob), h.sv.upd u (fun k hk => hs _ (h.oV k hk)), h.sw.upd u (fun k hk => hs _ (h.oW k hk)), fun i hi => u.blk (h.rows i hi) (hs _ (h.og _ (List.getElem_mem hi))), h.len, h.nd, h.ob, h.og, h.oV, h.oW, h.wne⟩
theorem TbX.bne (h : TbX F w b Rs Ro Rw n m gs V W) {g : Nat} (hg : g ∈ gs) : g ≠ b := by
  rintro rfl
  obtain ⟨i, hi, e⟩ := List.getElem_of_mem hg
  have h1 := h.rows i hi
  rw [e, h.blk] at h1
  injection h1 with h1
  injection h1 with _ h1
  exact absurd h1 (by decide)
/-- A place's spot is written. -/
theorem TbX.setSpot (h : TbX F w b Rs Ro Rw n m gs V W) {q : Nat} (hq : q < 64) {x y z : Value} (hx : spC (spotOf R' q) = [x, y, z]) (hk : ∀ k, k ≠ q → spotOf R' k = spotOf Rs k) :
    TbX F (((w.setCell ⟨b, 1 + q * 3, none⟩ x).setCell ⟨b, 1 + q * 3 + 1, none⟩ y).setCell ⟨b, 1 + q * 3 + 2, none⟩ z) b R' Ro Rw n m gs V W ∧ Upd F w (((w.setCell ⟨b, 1 + q * 3, none⟩ x).setCell ⟨b, 1 + q * 3 + 1, none⟩ y).setCell ⟨b, 1 + q * 3 + 2, none⟩ z) := by
  have hu : Upd (Only b) w (((w.setCell ⟨b, 1 + q * 3, none⟩ x).setCell ⟨b, 1 + q * 3 + 1, none⟩ y).setCell ⟨b, 1 + q * 3 + 2, none⟩ z) := (((Upd.refl _ _).set1 _).set1 _).set1 _
  have hb := blk_put (blk_put (blk_put h.blk (1 + q * 3) x rfl) (1 + q * 3 + 1) y rfl) (1 + q * 3 + 2) z rfl
  rw [List.setIfInBounds_toArray, List.setIfInBounds_toArray, List.setIfInBounds_toArray, tab_set V W hq hx hk] at hb
  exact ⟨⟨hb, h.sv.upd hu (fun k hk e => h.sv.ne h.blk (by decide) k hk e), h.sw.upd hu (fun k hk e => h.sw.ne h.blk (by decide) k hk e),
    fun i hi => hu.blk (h.rows i hi) (fun e => h.bne (List.getElem_mem hi) e), h.len, h.nd, h.ob, h.og, h.oV, h.oW, h.wne⟩, hu.mono (fun x e => by have e : x = b := e; subst e; exact h.ob)⟩
/-- A page's owner is written. -/
theorem TbX.setRow (h : TbX F w b Rs Ro Rw n m gs V W) {i g p : Nat} (hg : gs[i]? = some g) (hp : p < m) {x : Int} (hx : ownI (ownOf R' (i, p)) = x) (hk : ∀ s, s ≠ (i, p) → ownOf R' s = ownOf Ro s) :
    TbX F (w.setCell ⟨g, p, none⟩ (.int .i64 x)) b Rs R' Rw n m gs V W ∧ Upd F w (w.setCell ⟨g, p, none⟩ (.int .i64 x)) := by
  have hu : Upd (Only g) w (w.setCell ⟨g, p, none⟩ (.int .i64 x)) := (Upd.refl _ _).set1 _
  obtain ⟨hi, e⟩ := List.getElem?_eq_some_iff.1 hg
  subst e
  have hmem : gs[i] ∈ gs := List.getElem_mem hi
  refine ⟨⟨hu.blk h.blk (fun e => h.bne hmem e.symm), h.sv.upd hu (fun k hk e => h.sv.ne (h.rows i hi) (by decide) k hk e), h.sw.upd hu (fun k hk e => h.wne k hk (by have e : k = gs[i] := e; rw [e]; exact hmem)), fun j hj => ?_, h.len, h.nd, h.ob, h.og, h.oV, h.oW, h.wne⟩, hu.mono (fun x e => by have e : x = gs[i] := e; rw [e]; exact h.og _ hmem)⟩
  by_cases e : j = i
  · subst e
    have hb := blk_put (h.rows j hj) p (.int .i64 x) rfl
    rw [List.setIfInBounds_toArray, row_set hp hx (fun k hk2 => hk _ (by simp [hk2]))] at hb
    exact hb
  · rw [row_same (R := Ro) (R' := R') (fun k _ => hk _ (by simp [e]))]
    exact hu.blk (h.rows j hj) (fun e2 => e (by
      have e2 : gs[j] = gs[i] := e2
      exact (List.getElem_inj h.nd).1 e2))
/-- A block's worth is written. -/
theorem TbX.setWorth {gw ow c : Nat} (h : TbX F w b Rs Ro Rw n m gs V (.slice (some ⟨gw, ow, none⟩) n c)) {i : Nat} (hi : i < n) {x : Int} (hx : (worthOf R' i : Int) = x) (hk : ∀ k, k ≠ i → worthOf R' k = worthOf Rw k) :
    TbX F (w.setCell ⟨gw, ow + i, none⟩ (.int .i64 x)) b Rs Ro R' n m gs V (.slice (some ⟨gw, ow, none⟩) n c) ∧ Upd F w (w.setCell ⟨gw, ow + i, none⟩ (.int .i64 x)) := by
  have hu : Upd (Only gw) w (w.setCell ⟨gw, ow + i, none⟩ (.int .i64 x)) := (Upd.refl _ _).set1 _
  obtain ⟨_, cs, hgw⟩ := h.sw.typed gw rfl
  have hs := Sl.set1 (f := fun x => .int .i64 x) (g := gw) (o := ow) (n := n) (c := c) h.sw (i := i) (by rw [worthL_len]; exact hi) x
  rw [worthL_set hi hx hk] at hs
  refine ⟨⟨hu.blk h.blk (fun e => h.sw.ne h.blk (by decide) gw rfl e.symm), h.sv.upd hu (fun k hk e => h.sv.ne hgw (by decide) k hk e), hs, fun j hj => hu.blk (h.rows j hj) (fun e => h.wne gw rfl (by have e : gs[j] = gw := e; rw [← e]; exact List.getElem_mem hj)), h.len, h.nd, h.ob, h.og, h.oV, h.oW, h.wne⟩, hu.mono (fun x e => by have e : x = gw := e; rw [e]; exact h.oW gw rfl)⟩
end
theorem TbM.upd {F : Nat → Prop} {w w' : World} {b : Nat} {R : List Row3} {n m : Nat} {gs : List Nat} {V W : Value} (h : TbM F w b R n m gs V W) {S : Nat → Prop} (u : Upd S w w') (hs : ∀ k, F k → ¬ S k) : TbM F w' b R n m gs V W :=
  ⟨h.toTbX.upd u hs, h.pw, h.inn, h.hn, h.hm⟩
theorem TbM.upd0 {F : Nat → Prop} {w w' : World} {b : Nat} {R : List Row3} {n m : Nat} {gs : List Nat} {V W : Value} (h : TbM F w b R n m gs V W) (u : Upd Nil w w') : TbM F w' b R n m gs V W := h.upd u (fun _ _ h => h)
def Tb (F : Nat → Prop) (w : World) (b : Nat) (R : List Row3) (n m : Nat) : Prop := ∃ gs V W, TbM F w b R n m gs V W
theorem Tb.upd0 {F : Nat → Prop} {w w' : World} {b : Nat} {R : List Row3} {n m : Nat} (h : Tb F w b R n m) (u : Upd Nil w w') : Tb F w' b R n m := by
  obtain ⟨gs, V, W, h⟩ := h
  exact ⟨gs, V, W, h.upd0 u⟩
theorem Tb.upd {F : Nat → Prop} {w w' : World} {b : Nat} {R : List Row3} {n m : Nat} (h : Tb F w b R n m) {S : Nat → Prop} (u : Upd S w w') (hs : ∀ k, F k → ¬ S k) : Tb F w' b R n m := by
  obtain ⟨gs, V, W, h⟩ := h
  exact ⟨gs, V, W, h.upd u hs⟩
section
variable {F : Nat → Prop} {w : World} {b : Nat} {Rs Ro Rw : List Row3} {n m : Nat} {gs : List Nat} {V W : Value}
theorem TbX.cell (h : TbX F w b Rs Ro Rw n m gs V W) (i : Nat) : w.cell? ⟨b, i, none⟩ = (tabL m Rs V W)[i]? := by
  rw [blk_cell h.blk i]
  simp
theorem TbX.spot (h : TbX F w b Rs Ro Rw n m gs V W) {q j : Nat} (hq : q < 64) (hj : j < 3) : w.cell? ⟨b, 1 + q * 3 + j, none⟩ = (spC (spotOf Rs q))[j]? := (h.cell _).trans (tab_spot m Rs V W hq hj)
theorem TbX.pages (h : TbX F w b Rs Ro Rw n m gs V W) : w.cell? ⟨b, 0, none⟩ = some (.int .i64 m) := h.cell 0
theorem TbX.cV (h : TbX F w b Rs Ro Rw n m gs V W) : w.cell? ⟨b, 193, none⟩ = some V := (h.cell _).trans (tab_V m Rs V W)
theorem TbX.cW (h : TbX F w b Rs Ro Rw n m gs V W) : w.cell? ⟨b, 194, none⟩ = some W := (h.cell _).trans (tab_W m Rs V W)
theorem TbX.fz (h : TbX F w b Rs Ro Rw n m gs V W) (i : Nat) : w.frozen? ⟨b, i, none⟩ = false := blk_frozen h.blk i
/-- The forms of both slices. -/
theorem TbX.formV (h : TbX F w b Rs Ro Rw n m gs V W) : ∃ A c, V = .slice A n c ∧ n ≤ c := by
  obtain ⟨A, c, e, hc⟩ := h.sv.form
  rw [h.len] at e hc
  exact ⟨A, c, e, hc⟩
theorem TbX.formW (h : TbX F w b Rs Ro Rw n m gs V W) : ∃ A c, W = .slice A n c ∧ n ≤ c := by
  obtain ⟨A, c, e, hc⟩ := h.sw.form
  rw [worthL_len] at e hc
  exact ⟨A, c, e, hc⟩
/-- A block's row. -/
theorem TbX.row (h : TbX F w b Rs Ro Rw n m gs V W) {i p : Nat} (hi : i < n) (hp : p < m) : ∃ gv ov c g, V = .slice (some ⟨gv, ov, none⟩) n c ∧ n ≤ c ∧ gs[i]? = some g ∧ w.cell? ⟨gv, ov + i, none⟩ = some (.slice (some ⟨g, 0, none⟩) m m) ∧
    w.cell? ⟨g, p, none⟩ = some (.int .i64 (ownI (ownOf Ro (i, p)))) ∧ w.frozen? ⟨g, p, none⟩ = false := by
  obtain ⟨A, c, rfl, hc⟩ := h.formV
  have hl := h.len
  have hi2 : i < gs.length := by omega
  rcases h.sv.cells (gC_len m) (by omega) with e | ⟨gv, ov, rfl, _, hx⟩
  · rw [e] at hi2; simp at hi2
  · refine ⟨gv, ov, c, gs[i], rfl, hc, List.getElem?_eq_getElem hi2, ?_, ?_, blk_frozen (h.rows i hi2) p⟩
    · have := hx i hi2 0 (by omega)
      simpa [gC] using this
    · rw [blk_cell (h.rows i hi2) p, List.getElem?_toArray, row_get Ro hp]
theorem TbX.wor (h : TbX F w b Rs Ro Rw n m gs V W) {i : Nat} (hi : i < n) : ∃ gw ow c, W = .slice (some ⟨gw, ow, none⟩) n c ∧ n ≤ c ∧ w.cell? ⟨gw, ow + i, none⟩ = some (.int .i64 (worthOf Rw i : Nat)) ∧ w.frozen? ⟨gw, ow + i, none⟩ = false := by
  obtain ⟨A, c, rfl, hc⟩ := h.formW
  have hsw := h.sw
  rw [show n = (worthL Rw n).length from (worthL_len Rw n).symm] at hsw
  rw [worthL_len] at hsw
  have hi2 : i < (worthL Rw n).length := by rw [worthL_len]; exact hi
  obtain ⟨gw, ow, rfl, _, hx⟩ := ic_cell (hsw.cells ic_len (by omega)) hi2
  refine ⟨gw, ow, c, rfl, hc, by rw [hx, worthL_get], ?_⟩
  obtain ⟨_, cs, hb⟩ := hsw.typed gw rfl
  exact blk_frozen hb _
end
end Go.Proofs.Ythppheklnplljaa.Table
