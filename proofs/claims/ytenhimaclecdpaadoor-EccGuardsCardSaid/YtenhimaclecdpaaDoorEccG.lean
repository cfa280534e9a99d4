/-
  The places of a group's bits. Conditions: none.
-/
import Derived.Test.YtenhimaclecdpaaDoorEccF
namespace Go.Proofs.YtenhimaclecdpaaDoor.Ecc
open Go.RowKit Go.Proofs.YtenhimaclecdpaaDoor.Base
set_option linter.unusedVariables false
set_option linter.unusedSimpArgs false
set_option maxRecDepth 100000
/-- How many places lie below n. -/
def cnt (n : Nat) : Nat := ((List.range n).filter fun n => n &&& (n - 1) != 0).length
/-- The cells when all numbers below n have come. -/
def pre (n : Nat) : List Nat := (((List.range n).filter fun n => n &&& (n - 1) != 0) ++ List.replicate 64 0).take 64
theorem pre_len : ∀ n, n ≤ 72 → (pre n).length = 64 := by decide +kernel
theorem pre_one : pre 1 = List.replicate 64 0 := by decide +kernel
theorem pre_last : pre 72 = plL := by decide +kernel
theorem pre_no : ∀ n, n < 72 → n &&& (n - 1) = 0 → pre (n + 1) = pre n ∧ cnt (n + 1) = cnt n := by decide +kernel
theorem pre_yes : ∀ n, n < 72 → n &&& (n - 1) ≠ 0 → pre (n + 1) = (pre n).set (cnt n) n ∧ cnt (n + 1) = cnt n + 1 ∧ cnt n < 64 := by decide +kernel
theorem cnt_lt : ∀ n, n < 72 → cnt n < 64 := by decide +kernel
theorem cnt_last : cnt 72 = 64 := by decide +kernel
theorem and_i64 (a b : Nat) (ha : a < 256) (hb : b < 256) : bits BinOp.and IntKind.i64 (a : Int) (b : Int) = ((a &&& b : Nat) : Int) := by
  have h1 : (BitVec.ofInt 64 (a : Int)).toNat = a := by
    rw [BitVec.ofInt_natCast, BitVec.toNat_ofNat]; exact Nat.mod_eq_of_lt (by omega)
  have h2 : (BitVec.ofInt 64 (b : Int)).toNat = b := by
    rw [BitVec.ofInt_natCast, BitVec.toNat_ofNat]; exact Nat.mod_eq_of_lt (by omega)
  have hx : a &&& b < 2 ^ 8 := Nat.and_lt_two_pow _ (by omega)
  show IntKind.i64.wrap ((BitVec.ofInt 64 (a : Int) &&& BitVec.ofInt 64 (b : Int)).toNat : Int) = _
  rw [BitVec.toNat_and, h1, h2, IntKind.wrap_i64]
  omega
theorem load_row {P : Program} {w : World} {g t : Nat} {c : Array Value} (n : Nat) (hb : w.heap[g]? = some (.cells c t (0, 0))) (hn : c.size = n) : (loadCellsFrom ⟨g, 0, none⟩ 0 n #[]).run P w = .ok c w := by
  subst hn
  have := run_loadCells_list (P := P) w ⟨g, 0, none⟩ c.toList (fun j v hv => by
    have hadd : (⟨g, 0, none⟩ : Addr).add j = ⟨g, j, none⟩ := by unfold Addr.add; split <;> simp_all
    rw [hadd, cell_of_row _ _ j c t (0, 0) hb]
    simpa using hv)
  simpa [loadCells] using this
theorem store_row {P : Program} {w : World} {g t : Nat} {old c : Array Value} (hb : w.heap[g]? = some (.cells old t (0, 0))) (hn : old.size = c.size) (h1 : c.all (·.oneCell') = true) : (storeCells ⟨g, 0, none⟩ c.toList 0).run P w = .ok () (w.setRow g c) := by
  have := run_storeCells_from (P := P) g t c.toList 0 old w hb (by simp; omega) (fun v hv => (Array.all_eq_true_iff_forall_mem.1 h1) v (by simpa using hv))
  rw [this]
  congr 2
theorem updRow {S : Nat → Prop} {a w : World} (h : Upd S a w) {g : Nat} (hg : S g ∨ a.heap.size ≤ g) (c : Array Value) : Upd S a (w.setRow g c) :=
  ⟨h.os, h.output, by have := h.size; simp; omega, fun k hk hn => by
    rw [setRow_other w g k c (fun e => by subst e; exact hg.elim hn (fun h1 => absurd h1 (by omega)))]
    exact h.block k hk hn⟩
theorem wpList_store_row {P : Program} {ops : Array Oper} {rest : List Oper} {o : Oper} {a : Act} {w : World} {Q : Exit → Act → World → Prop} (hgd : o.guard = none) (ty : TypeId) (x y : Operand) (ho : o.op = .store ty x y)
    (g : Nat) (cells : Array Value) (hx : a.eval x = .pointer (some ⟨g, 0, none⟩)) (hy : a.eval y = .agg cells)
    (t : TypeId) (old : Array Value) (hg : w.heap[g]? = some (.cells old t (0, 0))) (hi : (P.info? ty).map (·.size) = some cells.size)
    (hold : old.size = cells.size) (h1 : cells.all (·.oneCell') = true)
    (h : wpList P ops Q rest (a.put o.dst undef) (w.setRow g cells)) : wpList P ops Q (o :: rest) a w :=
  wpList_plain hgd fun _ hK => wp_store_row ty x y ho g cells hx hy t old hg hi hold h1 (hK _ _ h)
theorem gC_set (G : List Nat) (i v : Nat) : (gC G).setIfInBounds i (.int .u8 (v : Nat)) = gC (G.set i v) := by
  unfold gC
  simp [List.map_set]
set_option maxHeartbeats 4000000 in
theorem placesC (w : World) : Calls Tryd.prog 19 #[] w fun e w' => e = .returned (.agg (gC plL)) ∧ Upd Nil w w' := by
  have hb0 : ((w.alloc (.cells (gC (List.replicate 64 0)) 42)).alloc (.cells (gC (List.replicate 64 0)) 42)).heap[w.heap.size]? = some (.cells (gC (List.replicate 64 0)) 42 (0, 0)) := heap_alloc2_old w _ _
  have hb1 : ((w.alloc (.cells (gC (List.replicate 64 0)) 42)).alloc (.cells (gC (List.replicate 64 0)) 42)).heap[w.heap.size + 1]? = some (.cells (gC (List.replicate 64 0)) 42 (0, 0)) := heap_alloc2_new w _ _
  have hU0 := ((Upd.refl Nil w).alloc (.cells (gC (List.replicate 64 0)) 42)).alloc (.cells (gC (List.replicate 64 0)) 42)
  go_enter Tryd.func19, Tryd.ntmps19
  go_upto_region 4 with fail
  go_loopw [2, 3] (fun s2 s3 wr => ∃ n : Nat, 1 ≤ n ∧ n ≤ 72 ∧ s2 = .int .i64 (cnt n : Nat) ∧ s3 = .int .i64 (n : Int) ∧ wr.heap[w.heap.size + 1]? = some (.cells (gC (pre n)) 42 (0, 0)) ∧ wr.heap[w.heap.size]? = some (.cells (gC (List.replicate 64 0)) 42 (0, 0)) ∧ Upd Nil w wr) (fun _ s3 _ => 72 - (intOf s3).toNat)
  case atStart => exact ⟨1, by omega, by omega, rfl, rfl, by rw [pre_one]; exact hb1, hb0, hU0⟩
  case round =>
    clear hb0 hb1 hU0
    obtain ⟨n, hn1, hn2, rfl, rfl, hb1, hb0, hU⟩ := hrel
    by_cases hlt : n < 72
    · have hc := cnt_lt n hlt
      have hcI : (cnt n : Int) < 64 := by omega
      have hand := and_i64 n (n - 1) (by omega) (by omega)
      rw [show ((n - 1 : Nat) : Int) = (n : Int) - 1 by omega] at hand
      by_cases hz : n &&& (n - 1) = 0
      · obtain ⟨h1, h2⟩ := pre_no n hlt hz
        rw [hz] at hand
        have hpH := Lib.hid (And.intro h1 h2)
        clear h1 h2 hz
        generalize cnt n = k at *
        go_wp2_with fail
        go_roundw
        case measure => simp [intOf]; omega
        case rel => exact ⟨n + 1, by omega, by omega, by rw [hpH.out.2], by go_num, by rw [hpH.out.1]; exact hb1, hb0, hU⟩
      · obtain ⟨h1, h2, _⟩ := pre_yes n hlt hz
        have hz' : ((n &&& (n - 1) : Nat) : Int) ≠ 0 := by omega
        have hpH := Lib.hid (And.intro h1 h2)
        have hpl := pre_len n (by omega)
        clear h1 h2 hz
        generalize (n &&& (n - 1) : Nat) = d at *
        generalize cnt n = k at *
        have hfz := blk_frozen hb1 k
        have hcl := blk_cell hb1 k
        rw [gC_get (by omega)] at hcl
        have hput := blk_put hb1 k (.int .u8 (n : Nat)) (gC_set _ _ _)
        have hn256 : n < 256 := by omega
        generalize (pre n)[k] = old at *
        go_wp2_with fail
        have hb0' := blk_other hb0 (p := ⟨w.heap.size + 1, k, none⟩) (by simp) (.int .u8 (n : Nat))
        have hU' := hU.setNew (i := k) (show w.heap.size ≤ w.heap.size + 1 by omega) (.int .u8 (n : Nat))
        go_roundw
        case measure => simp [intOf]; omega
        case rel => exact ⟨n + 1, by omega, by omega, by rw [hpH.out.2]; go_num, by go_num, by rw [hpH.out.1]; exact hput, hb0', hU'⟩
    · obtain rfl : n = 72 := by omega
      rw [pre_last] at hb1
      rw [cnt_last]
      have hcs : (gC plL).size = 64 := by rw [gC_size, plL_len]
      have hzs : (gC (List.replicate 64 0)).size = (gC plL).size := by rw [hcs, gC_size]; simp
      have hone := gC_one plL
      have hbz := setRow_heap wr w.heap.size _ (gC plL) _ _ hb0
      have hUz := updRow hU (.inr (Nat.le_refl w.heap.size)) (gC plL)
      have hi : (Tryd.prog.info? 42).map (·.size) = some (gC plL).size := by rw [hcs]; kernel_rfl
      generalize hcc : gC plL = c at *
      have hcH := Lib.hid hcc
      clear hcc
      generalize gC (List.replicate 64 0) = z at *
      clear hcs
      go_wp2_with (first
        | (refine wpList_load_row rfl 42 (.tmp 1) rfl (w.heap.size + 1) rfl 42 c (0, 0) _ hb1 Tryd.underlying42 rfl hi ?_)
        | (refine wpList_store_row rfl 42 (.tmp 0) (.tmp 19) rfl w.heap.size c rfl rfl 42 z hb0 hi hzs hone ?_))
      exact bodyPost_ret (v := .agg c) (results_cell_row Tryd.results19 _ _ w.heap.size 42 c (0, 0) _ rfl hbz Tryd.underlying42 rfl hi) rfl ⟨by rw [hcH.out], hUz⟩
end Go.Proofs.YtenhimaclecdpaaDoor.Ecc
