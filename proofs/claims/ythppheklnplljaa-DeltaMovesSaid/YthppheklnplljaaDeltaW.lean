/-
  A table by moves, and the document's. Conditions: what the argument's slice holds.
-/
import Derived.Test.YthppheklnplljaaDeltaV
namespace Go.Proofs.Ythppheklnplljaa.Delta
open Go.RowKit Go.Proofs.Ythppheklnplljaa.Base Go.Proofs.Ythppheklnplljaa.Table
set_option linter.unusedVariables false
set_option linter.unusedSimpArgs false
def MadeR (R : List Row3) (w : World) (e : Ending) (w' : World) : Prop := ∃ b bR, e = .returned (.tuple #[.pointer (some ⟨b, 0, none⟩), .pointer (some ⟨bR, 0, none⟩)]) ∧ Two w.heap.size w'.heap.size w' b bR R 8 R 8 8 ∧ Upd Nil w w'
theorem made_take {l : List Mv} {i : Nat} (h : i < l.length) : madeN (l.take (i + 1)) = doM (madeN (l.take i)) l[i] := by
  unfold madeN
  rw [List.take_succ_eq_append_getElem h, List.foldl_append]
  rfl
set_option maxHeartbeats 4000000 in
set_option maxRecDepth 100000 in
theorem madeC (A : Option Addr) (c : Nat) (l : List Mv) (w : World) (hA : Arg w A 4 mvC l) (hl : l.length ≤ 80) :
    Calls Try.prog 39 #[.slice A l.length c] w (MadeR (madeN l) w) := by
  have kN := fun w => new_yes 8 8 (by omega) (by omega) w
  go_enter Try.func39, Try.ntmps39
  go_wp2_with fail
  refine (kN _).mono ?_
  rintro e w2 ⟨b, rfl, hb, hT2, hU2⟩
  go_wp2_with fail
  have hV3 := hU2.alloc (.cells #[.int .i64 8, .int .i64 8, .slice none 0 0] 97)
  have hTw : Two w.heap.size (w2.alloc (.cells #[.int .i64 8, .int .i64 8, .slice none 0 0] 97)).heap.size (w2.alloc (.cells #[.int .i64 8, .int .i64 8, .slice none 0 0] 97)) b w2.heap.size [] 8 [] 8 8 := by
    refine ⟨⟨More (fun _ => False) w.heap.size w2.heap.size, Only w2.heap.size, hT2.upd0 ((Upd.refl _ _).alloc _), ⟨.slice none 0 0, blk_new _ _, Sl.nil _ _ _ _ _, rfl, fun k hk => by simp [Value.ownBlock] at hk⟩, ?_, ?_, ?_⟩, Nat.le_refl _⟩
    · intro x hx
      rcases hx with hx | ⟨h1, h2⟩
      · exact hx.elim
      · exact ⟨h1, by simp; omega⟩
    · intro x hx
      have hx : x = w2.heap.size := hx
      subst hx
      exact ⟨hU2.size, by simp⟩
    · intro x hx hx2
      have hx2 : x = w2.heap.size := hx2
      rcases hx with hx | ⟨h1, h2⟩
      · exact hx.elim
      · omega
  clear kN hT2 hU2 hb
  generalize w2.heap.size = bR at *
  go_loopw [13] (fun s13 wr => ∃ j : Nat, j ≤ l.length ∧ s13 = .int .i64 j ∧ Two w.heap.size wr.heap.size wr b bR (madeN (l.take j)) 8 (madeN (l.take j)) 8 8 ∧ Upd Nil w wr) (fun s13 _ => l.length - (intOf s13).toNat)
  case atStart => exact ⟨0, by omega, rfl, hTw, hV3⟩
  case round =>
    clear hTw hV3
    obtain ⟨j, hj, rfl, hT, hV⟩ := hrel
    by_cases hlt : j < l.length
    · obtain ⟨g, o, rfl, _, e0, e1, e2, e3⟩ := mv_cell (hA.upd hV) hlt
      have hmt := Lib.hid (made_take hlt)
      generalize madeN (l.take j) = R at *
      generalize l[j] = mv at *
      obtain ⟨p, q, s, gn⟩ := mv
      simp only at e0 e1 e2 e3
      have ua := (Upd.refl Nil wr).alloc (.cells #[.int .i64 p, .int .i64 q, .int .i64 s, .bool gn] 45)
      have hTa := hT.upd0 ua
      have hVa := hV.tr ua
      have hba := blk_new wr (.cells #[.int .i64 p, .int .i64 q, .int .i64 s, .bool gn] 45)
      have hlo : w.heap.size ≤ wr.heap.size := hV.size
      have hNB : ¬ Bt w.heap.size wr.heap.size wr.heap.size := fun h => Nat.lt_irrefl _ h.2
      obtain ⟨hpw, hin, _, _⟩ := hT.ok
      have hrl64 : R.length ≤ 1000000 := Nat.le_trans (len64 hpw hin) (by omega)
      clear hT hV ua
      cases gn with
      | true =>
        go_wp2_with fail
        refine (hTa.clear p).mono ?_
        rintro e w4 ⟨rfl, hT4, hU4⟩
        have hb4 := hU4.blk hba hNB
        have hV4 := hVa.trans hU4 (fun x hx => .inr hx.1)
        have y0 := blk_cell hb4 0
        simp only [List.getElem?_toArray, List.getElem?_cons_zero, List.getElem?_cons_succ] at y0
        clear hTa hVa hba hU4 hb4
        go_wp2_with fail
        refine (hT4.rclear hlo hrl64 p).mono ?_
        rintro e w5 ⟨rfl, hT5, hU5⟩
        have hV5 := hV4.trans hU5 (fun x hx => .inr hx.1)
        go_wp2_with fail
        go_roundw
        case measure => simp [intOf]; omega
        case rel => exact ⟨j + 1, by omega, by go_num, by rw [hmt.out]; exact hT5, hV5⟩
      | false =>
        have hseq := Lib.hid (show rSetV R 8 ((8 : Nat) : Int) p q s = setV R 8 8 p q s from rSet_eq hpw hin p q s)
        clear hpw hin
        go_wp2_with fail
        refine (hTa.set p q s).mono ?_
        rintro e w4 ⟨rfl, hT4, hU4⟩
        have hb4 := hU4.blk hba hNB
        have hV4 := hVa.trans hU4 (fun x hx => .inr hx.1)
        have y0 := blk_cell hb4 0
        have y1 := blk_cell hb4 1
        have y2 := blk_cell hb4 2
        simp only [List.getElem?_toArray, List.getElem?_cons_zero, List.getElem?_cons_succ] at y0 y1 y2
        clear hTa hVa hba hU4 hb4
        go_wp2_with fail
        refine (hT4.rset hlo hrl64 p q s).mono ?_
        rintro e w5 ⟨rfl, hT5, hU5⟩
        rw [hseq.out] at hT5 ⊢
        have hV5 := hV4.trans hU5 (fun x hx => .inr hx.1)
        go_wp2_with fail
        go_roundw
        case measure => simp [intOf]; omega
        case rel => exact ⟨j + 1, by omega, by go_num, by rw [hmt.out]; exact hT5, hV5⟩
    · obtain rfl : j = l.length := by omega
      rw [List.take_length] at hT
      go_wp2_with fail
      go_ret2
      exact ⟨b, bR, rfl, hT, hV⟩
end Go.Proofs.Ythppheklnplljaa.Delta
