/-
  Levelling: rows with their marks in memory; how one is made. Conditions: what the slices hold.
-/
import Derived.Test.YtenhimaclecdpaaLevelA
import Derived.Deep.RegionLaw
import Derived.BigRegion
import Derived.Deep.OwnRows
namespace Go.Proofs.Ytenhimaclecdpaa.Level
open Go.RowKit Go.Proofs.Ytenhimaclecdpaa.Base Go.Proofs.Ytenhimaclecdpaa.Ints
set_option linter.unusedVariables false
set_option linter.unusedSimpArgs false
def bc1 (b : Bool) : List Value := [.bool b]
theorem bc1_len (x : Bool) : (bc1 x).length = 1 := rfl
theorem bc1_one (x : Bool) : ∀ u ∈ bc1 x, u.oneCell' = true := by
  intro u hu
  obtain rfl : u = .bool x := by simpa [bc1] using hu
  rfl
theorem made_rep (z : Value) (n : Nat) : madeCells #[z] n = (List.replicate n z).toArray := by
  apply Array.ext'
  unfold madeCells
  rw [Array.toList_map, Array.toList_range, List.toList_toArray]
  apply List.ext_getElem?
  intro i
  rw [List.getElem?_map, List.getElem?_replicate]
  by_cases h : i < n
  · rw [List.getElem?_range h, if_pos h]
    simp [Nat.mod_one]
  · rw [if_neg h, List.getElem?_eq_none (by simp; omega)]
    rfl
theorem mkB (n : Nat) (hn : n ≤ 1000000) (w : World) : (Instr.makeSlice 77 (.int .i64 (n : Int)) (.int .i64 (n : Int))).run Try.prog w = .ok (.slice (some ⟨w.heap.size, 0, none⟩) n n) (w.alloc (.cells (List.replicate n (.bool false)).toArray 4)) := by
  rw [run_make_row' 77 4 (.bool false) 1 Try.underlying77 (by kernel_rfl) rfl .i64 .i64 n (by omega) (by omega) w, made_rep]
theorem sl_made (w : World) (n : Nat) (hn : n ≤ 1000000) : Sl (w.alloc (.cells (List.replicate n (.bool false)).toArray 4)) 0 4 1 bc1 (.slice (some ⟨w.heap.size, 0, none⟩) n n) (List.replicate n false) := by
  refine sl_lit bc1_len (Nat.zero_le _) (blk_new _ _) ?_ (by simp) (by simp) (by simp; unfold maxLen; omega)
  rw [List.toList_toArray]
  clear hn
  induction n with
  | zero => rfl
  | succ n ih => rw [List.replicate_succ, List.replicate_succ, List.flatMap_cons, ih]; rfl
/-- A row and its marks behind a pointer. -/
structure Lane (F : Nat → Prop) (w : World) (b : Nat) (a : List Int) (t : List Bool) (X T : Value) : Prop where
  blk : w.heap[b]? = some (.cells #[X, T] 79 (0, 0))
  sx : Sl w 0 3 1 ic X a
  st : Sl w 0 4 1 bc1 T t
  ob : F b
  oX : ∀ k, X.ownBlock = some k → F k
  oT : ∀ k, T.ownBlock = some k → F k
theorem Lane.upd {F : Nat → Prop} {w w' : World} {b : Nat} {a : List Int} {t : List Bool} {X T : Value} (h : Lane F w b a t X T) {S : Nat → Prop} (u : Upd S w w') (hn : ∀ x, S x → ¬ F x) : Lane F w' b a t X T :=
  ⟨u.blk h.blk (fun e => hn _ e h.ob), h.sx.upd u (fun k hk e => hn _ e (h.oX k hk)), h.st.upd u (fun k hk e => hn _ e (h.oT k hk)), h.ob, h.oX, h.oT⟩
theorem Lane.upd0 {F : Nat → Prop} {w w' : World} {b : Nat} {a : List Int} {t : List Bool} {X T : Value} (h : Lane F w b a t X T) (u : Upd Nil w w') : Lane F w' b a t X T := h.upd u (fun _ hx => hx.elim)
theorem Lane.more {F F' : Nat → Prop} {w : World} {b : Nat} {a : List Int} {t : List Bool} {X T : Value} (h : Lane F w b a t X T) (hF : ∀ x, F x → F' x) : Lane F' w b a t X T :=
  ⟨h.blk, h.sx, h.st, hF _ h.ob, fun k hk => hF _ (h.oX k hk), fun k hk => hF _ (h.oT k hk)⟩
/-- The blocks of one call. -/
def Bt (lo hi : Nat) : Nat → Prop := fun x => lo ≤ x ∧ x < hi
def LaneR (a : List Int) (t : List Bool) (w : World) (e : Ending) (w' : World) : Prop := ∃ b X T, e = .returned (.pointer (some ⟨b, 0, none⟩)) ∧ Lane (Bt w.heap.size w'.heap.size) w' b a t X T ∧ Upd Nil w w'
theorem row_take {l : List Int} {i : Nat} (hi : i < l.length) : row (l.take (i + 1)) = row (l.take i) ++ [cl l[i]] := by
  unfold row
  rw [List.take_succ_eq_append_getElem hi, List.map_append]
  rfl
theorem Lane.app {F : Nat → Prop} {w w1 : World} {b : Nat} {a a' : List Int} {t : List Bool} {X T X' : Value} (h : Lane F w b a t X T) (hs : Sl w1 0 3 1 ic X' a') (hg : w.grownBy w1 X.ownBlock) (hat : X'.ownBlock = X.ownBlock ∨ ∃ k, X'.ownBlock = some k ∧ w.heap.size ≤ k) (hF : ∀ x, F x → x < w.heap.size) :
    Lane (fun x => F x ∨ Bt w.heap.size w1.heap.size x) (w1.setCell ⟨b, 0, none⟩ X') b a' t X' T ∧ w1.cell? ⟨b, 0, none⟩ = some X ∧ w1.frozen? ⟨b, 0, none⟩ = false := by
  have hb1 := blk_grown h.blk hg (fun k hk => h.sx.ne h.blk (by decide) k hk)
  have hu : Upd (Only b) w1 (w1.setCell ⟨b, 0, none⟩ X') := (Upd.refl _ _).set1 _
  refine ⟨⟨blk_put hb1 0 X' rfl, hs.upd hu (fun k hk e => hs.ne hb1 (by decide) k hk e), (h.st.grown hg (fun k hk e => ?_)).upd hu (fun k hk e => h.st.ne h.blk (by decide) k hk e), .inl h.ob, fun k hk => ?_, fun k hk => .inl (h.oT k hk)⟩, blk_cell hb1 0, blk_frozen hb1 0⟩
  · obtain ⟨_, cs, hb⟩ := h.sx.typed k e.symm
    exact h.st.ne hb (by decide) k hk rfl
  · rcases hat with e | ⟨g, e, hge⟩
    · exact .inl (h.oX k (by rw [← e]; exact hk))
    · rw [hk] at e
      injection e with e
      subst e
      exact .inr ⟨hge, hs.lt _ hk⟩
set_option maxHeartbeats 4000000 in
set_option maxRecDepth 100000 in
theorem laneOf (A : Option Addr) (c : Nat) (l : List Int) (w : World) (h : Arg w A 1 ic l) (hl : l.length ≤ 1000) : Calls Try.prog 43 #[.slice A l.length c] w (LaneR (row l) (List.replicate l.length false) w) := by
  have hmk := mkB l.length (by omega)
  have hsm := sl_made w l.length (by omega)
  have hU0 : Upd Nil w ((w.alloc (.cells (List.replicate l.length (.bool false)).toArray 4)).alloc (.cells #[.slice none 0 0, .slice (some ⟨w.heap.size, 0, none⟩) l.length l.length] 79)) := ((Upd.refl _ _).alloc _).alloc _
  have hL0 : Lane (Bt w.heap.size ((w.alloc (.cells (List.replicate l.length (.bool false)).toArray 4)).alloc (.cells #[.slice none 0 0, .slice (some ⟨w.heap.size, 0, none⟩) l.length l.length] 79)).heap.size) ((w.alloc (.cells (List.replicate l.length (.bool false)).toArray 4)).alloc (.cells #[.slice none 0 0, .slice (some ⟨w.heap.size, 0, none⟩) l.length l.length] 79)) (w.heap.size + 1) [] (List.replicate l.length false) (.slice none 0 0) (.slice (some ⟨w.heap.size, 0, none⟩) l.length l.length) := by
    refine ⟨?_, Sl.nil _ _ _ _ _, hsm.alloc _, ?_, fun k hk => by simp [Value.ownBlock] at hk, fun k hk => ?_⟩
    · have := blk_new (w.alloc (.cells (List.replicate l.length (.bool false)).toArray 4)) (.cells #[.slice none 0 0, .slice (some ⟨w.heap.size, 0, none⟩) l.length l.length] 79)
      simpa using this
    · unfold Bt; simp <;> omega
    · obtain rfl : w.heap.size = k := by simpa [Value.ownBlock] using hk
      unfold Bt; simp <;> omega
  clear hsm
  go_enter Try.func43, Try.ntmps43
  go_wp2_with fail
  go_loopw [13] (fun s13 wr => ∃ (i : Nat) (X : Value), i ≤ l.length ∧ s13 = .int .i64 i ∧ Lane (Bt w.heap.size wr.heap.size) wr (w.heap.size + 1) (row (l.take i)) (List.replicate l.length false) X (.slice (some ⟨w.heap.size, 0, none⟩) l.length l.length) ∧ Upd Nil w wr) (fun s13 _ => l.length - (intOf s13).toNat)
  case atStart => exact ⟨0, .slice none 0 0, by omega, rfl, hL0, hU0⟩
  case round =>
    clear hL0 hU0 hmk
    obtain ⟨i, X, hi, rfl, hL, hU⟩ := hrel
    by_cases hlt : i < l.length
    · obtain ⟨g, o, rfl, _, c0⟩ := ic_cell (h.upd hU) hlt
      obtain ⟨AX, cX, hX, hc⟩ := hL.sx.form
      have hrt := Lib.hid (row_take hlt)
      have hal : (row (l.take i)).length ≤ 1000 := by unfold row; simp; omega
      generalize row (l.take i) = a at *
      generalize l[i] = v at *
      subst hX
      have hLd := hL.upd0 (Upd.refl Nil wr).drew
      have hFlt : ∀ x, Bt w.heap.size wr.heap.size x → x < wr.drew.heap.size := fun x hx => hx.2
      have hs0 := hLd.sx
      have hb := blk_cell hLd.blk 0
      simp only [List.getElem?_toArray, List.getElem?_cons_zero, List.getElem?_cons_succ] at hb
      have hb0 : wr.cell? ⟨w.heap.size + 1, 0, none⟩ = some (.slice AX a.length cX) := hb
      have hb2 : (wr.alloc (.cells #[.int .i64 (cl v)] 3)).cell? ⟨w.heap.size + 1, 0, none⟩ = some (.slice AX a.length cX) := blk_cell (blk_alloc hLd.blk _) 0
      go_wp2_with fail
      go_region_law (first
        | (refine step_app1 0 rfl (.tmp 21) (.tmp 24) elemI rfl wr.drew (cl v) (by rfl) (.slice AX a.length cX) a rfl (by simp [Act.eval]) hs0 (Nat.zero_le _) (by omega) (by unfold maxLen; omega) ?_; intro A1 c1 w1 hv1 hg1 hat; obtain ⟨hL1, hb1, hf1⟩ := hLd.app hv1 hg1 hat hFlt)
        | (go_simp; go_at_call 47; refine (clamp v _).mono ?_; rintro e w' ⟨rfl, rfl⟩))
      all_goals
        have hsz1 := hg1.size
        have hszw := hU.size
        have hfin := Lib.hid (hL1.more (F' := Bt w.heap.size (w1.setCell ⟨w.heap.size + 1, 0, none⟩ (.slice A1 (a.length + 1) c1)).heap.size) (fun x hx => by
          have e5 : (w1.setCell ⟨w.heap.size + 1, 0, none⟩ (.slice A1 (a.length + 1) c1)).heap.size = w1.heap.size := by simp [World.setCell]
          simp only [World.drew] at hsz1 hx
          rcases hx with hx | hx
          · exact ⟨hx.1, by have := hx.2; omega⟩
          · exact ⟨by have := hx.1; omega, by have := hx.2; omega⟩))
        have hU1 := (hU.drew.grown hg1 (fun k hk => .inr (hL.oX k hk).1)).set (p := ⟨w.heap.size + 1, 0, none⟩) (.inr (by simp)) (.slice A1 (a.length + 1) c1)
        go_wp2_with fail
        go_roundw
        case measure => simp [intOf]; omega
        case rel => exact ⟨i + 1, _, by omega, by go_num, by rw [hrt.out]; exact hfin.out, hU1⟩
    · obtain rfl : i = l.length := by omega
      rw [List.take_length] at hL
      go_wp2_with fail
      go_ret
      exact ⟨_, _, _, rfl, hL, hU⟩
end Go.Proofs.Ytenhimaclecdpaa.Level
