/-
  Whatever is put, got, dropped and forgotten, each answer, and the order of all keys, are the document's. Conditions: none.
-/
import Derived.Test.YtcifkccaiekkeaaCacheU
import Derived.Deep.DeepCutAuto
import Derived.Deep.CutBlock
namespace Go.Proofs.Ytcifkccaiekkeaa.Cache
open Go.RowKit Go.Proofs.Ytcifkccaiekkeaa.Base Go.Maps Go.Proofs.Ytcifkccaiekkeaa.Ints
set_option linter.unusedVariables false
set_option linter.unusedSimpArgs false
structure Ac where
  kd : Nat
  k : Key
  s : ByteArray
def acC (y : Ac) : List Value := [.int .u8 y.kd, .int .i64 y.k.1, .int .i64 y.k.2, .string y.s]
theorem acC_len (y : Ac) : (acC y).length = 4 := rfl
theorem ac_cell {w : World} {A : Option Addr} {l : List Ac} (h : Arg w A 4 acC l) {i : Nat} (hi : i < l.length) : ∃ g o, A = some ⟨g, o, none⟩ ∧ g < w.heap.size ∧ w.cell? ⟨g, o + i * 4, none⟩ = some (.int .u8 l[i].kd) ∧ w.cell? ⟨g, o + i * 4 + 1, none⟩ = some (.int .i64 l[i].k.1) ∧ w.cell? ⟨g, o + i * 4 + 2, none⟩ = some (.int .i64 l[i].k.2) ∧ w.cell? ⟨g, o + i * 4 + 3, none⟩ = some (.string l[i].s) := by
  rcases h with h | ⟨b, off, h1, h2, h3⟩
  · subst h; simp at hi
  · exact ⟨b, off, h1, h2, by simpa [acC] using h3 i hi 0 (by omega), by simpa [acC] using h3 i hi 1 (by omega), by simpa [acC] using h3 i hi 2 (by omega), by simpa [acC] using h3 i hi 3 (by omega)⟩
set_option maxHeartbeats 2000000 in
set_option maxRecDepth 100000 in
theorem playsNo (room : Int) (hroom : room < 0 ∨ 1024 < room) (A : Option Addr) (cA : Nat) (l : List Ac) (w : World) (hl : l.length ≤ maxLen) :
    Calls Try.prog 7 #[.int .i64 room, .slice A l.length cA] w (RetB true w) := by
  have hlH := Lib.hid hl
  clear hl
  have hn := new_nil room hroom
  go_enter Try.func7, Try.ntmps7
  go_wp2_with fail
  refine (fixedC w).mono ?_
  rintro e w1 ⟨rfl, u1⟩
  by_cases h200 : 200 < (l.length : Int)
  · go_wp2_with fail
    go_ret
    exact ⟨rfl, u1⟩
  go_wp2_with fail
  refine (hn _).mono ?_
  rintro e w2 ⟨rfl, rfl⟩
  clear hn
  rcases hroom with hroom | hroom
  all_goals
    have g1 := fun w => get_nil w (0, 0)
    have g2 := fun w => put_nil w (0, 0) ⟨#[120]⟩
    have g3 := fun w => drop_nil w (0, 0)
    simp only at g1 g2 g3
    go_wp2_with fail
    refine (g1 _).mono ?_
    rintro e w3 ⟨rfl, u3⟩
    go_wp2_with fail
    refine (g2 _).mono ?_
    rintro e w4 ⟨rfl, u4⟩
    go_wp2_with fail
    refine (rate_nil _).mono ?_
    rintro e w5 ⟨rfl, rfl⟩
    go_wp2_with fail
    refine (g3 _).mono ?_
    rintro e w6 ⟨rfl, u6⟩
    go_wp2_with fail
    refine (forget_nil 0 _).mono ?_
    rintro e w7 ⟨rfl, rfl⟩
    go_wp2_with fail
    refine (len_nil _).mono ?_
    rintro e w8 ⟨rfl, rfl⟩
    go_wp2_with fail
    refine (keys_nil _).mono ?_
    rintro e w9 ⟨rfl, rfl⟩
    go_wp2_with fail
    go_ret
    exact ⟨rfl, (u1.tr u3).tr ((u4.alloc _).tr u6)⟩
/-- Going back: what is left when the rows from j on have been looked at. -/
def rem (R : List RowT) (q : Int) (j : Nat) : List RowT := R.take j ++ (R.drop j).filter (fun r => r.1.1 != q)
def cnt (R : List RowT) (q : Int) (j : Nat) : Nat := ((R.drop j).filter (fun r => r.1.1 == q)).length
theorem rem_hit {R : List RowT} {q : Int} {i : Nat} (hi : i < R.length) (h : R[i].1.1 = q) : rem R q (i + 1) = R.take i ++ R[i] :: (R.drop (i + 1)).filter (fun r => r.1.1 != q) ∧ rem R q i = R.take i ++ (R.drop (i + 1)).filter (fun r => r.1.1 != q) ∧ cnt R q i = cnt R q (i + 1) + 1 := by
  unfold rem cnt
  rw [List.drop_eq_getElem_cons hi, List.take_succ_eq_append_getElem hi]
  generalize R[i] = r at *
  generalize R.drop (i + 1) = D
  generalize R.take i = A
  simp [h]
theorem rem_miss {R : List RowT} {q : Int} {i : Nat} (hi : i < R.length) (h : R[i].1.1 ≠ q) : rem R q (i + 1) = rem R q i ∧ cnt R q i = cnt R q (i + 1) := by
  unfold rem cnt
  rw [List.drop_eq_getElem_cons hi, List.take_succ_eq_append_getElem hi]
  generalize R[i] = r at *
  generalize R.drop (i + 1) = D
  generalize R.take i = A
  simp [h]
theorem rem_at {R : List RowT} {q : Int} {i : Nat} (hi : i < R.length) : ∃ h : i < (rem R q (i + 1)).length, (rem R q (i + 1))[i] = R[i] := by
  have hl : i < (R.take (i + 1)).length := by simp; omega
  refine ⟨by unfold rem; rw [List.length_append]; omega, ?_⟩
  unfold rem
  rw [List.getElem_append_left hl]
  simp
theorem rem_len (R : List RowT) (q : Int) (j : Nat) : (rem R q j).length ≤ R.length := by
  unfold rem
  have := List.length_filter_le (fun r : RowT => r.1.1 != q) (R.drop j)
  simp at this ⊢
  omega
theorem get_len {R : List RowT} (h : Apart R) (k : Key) : (getK R k).length ≤ R.length := by
  unfold getK
  cases hf : findK R k with
  | none => exact Nat.le_refl _
  | some v =>
    obtain ⟨A, v', B, rfl, hp, hfv⟩ := split_pos (R := R) (k := k) (by rw [hf]; rfl)
    simp only [dropK_split h]
    simp
    omega
set_option maxHeartbeats 4000000 in
set_option maxRecDepth 100000 in
theorem plays (room : Int) (hroom : 0 ≤ room ∧ room ≤ 1024) (A : Option Addr) (cA : Nat) (l : List Ac) (w : World) (hA : Arg w A 4 acC l) (hw : ∀ y ∈ l, y.kd < 256 ∧ Wk y.k) (hl : l.length ≤ maxLen) :
    Calls Try.prog 7 #[.int .i64 room, .slice A l.length cA] w (RetB true w) := by
  have hlH := Lib.hid hl
  clear hl
  go_enter Try.func7, Try.ntmps7
  go_wp2_with fail
  refine (fixedC w).mono ?_
  rintro e w1 ⟨rfl, u1⟩
  by_cases h200 : 200 < (l.length : Int)
  · go_wp2_with fail
    go_ret
    exact ⟨rfl, u1⟩
  have h201 : l.length ≤ 200 := by omega
  clear h200
  go_wp2_with fail
  refine (Ca.new room hroom w1).mono ?_
  rintro e w2 ⟨c, rfl, x2, u2⟩
  have hr1 : ¬ room < 0 := by omega
  have hr2 : ¬ 1024 < room := by omega
  have hb3 := blk_new w2 (.cells #[.int .i64 room, .slice none 0 0] 64)
  have u3 := (Upd.refl Nil w2).alloc (.cells #[.int .i64 room, .slice none 0 0] 64)
  have hT : T w1.heap.size (w2.heap.size + 1) (w2.alloc (.cells #[.int .i64 room, .slice none 0 0] 64)) c w2.heap.size room [] [] 0 0 := by
    refine ⟨Bt w1.heap.size w2.heap.size, fun x => x = w2.heap.size, x2.upd0 u3, ⟨_, hb3, Sl.nil _ _ _ _ _, rfl, fun k hk => by simp [Value.ownBlock] at hk⟩, fun x hx => ⟨hx.1, by have := hx.2; omega⟩, fun x hx => ⟨by rw [hx]; exact u2.size, by rw [hx]; exact Nat.lt_succ_self _⟩, fun x hx e => by rw [e] at hx; exact Nat.lt_irrefl _ hx.2, by simp⟩
  replace hT := hT.up
  have hU3 := u2.tr u3
  go_wp2_with fail
  clear x2 hb3 u2 u3
  generalize w2.alloc (.cells #[.int .i64 room, .slice none 0 0] 64) = w3 at *
  generalize w2.heap.size = b at *
  go_loopw [13, 14, 99] (fun s13 s14 s99 wr => ∃ (i : Nat) (R : List RowT) (h m : Int), i ≤ l.length ∧ s99 = .int .i64 (i : Int) ∧ s13 = .int .i64 h ∧ s14 = .int .i64 m ∧ T w1.heap.size wr.heap.size wr c b room R R h m ∧ R.length ≤ room.toNat ∧ (0 ≤ h ∧ h ≤ i ∧ 0 ≤ m ∧ m ≤ i) ∧ Upd Nil w1 wr) (fun _ _ s99 _ => l.length - (intOf s99).toNat)
  case atStart => exact ⟨0, [], 0, 0, by omega, rfl, rfl, rfl, hT, by simp, by omega, hU3⟩
  case round =>
    clear hT hU3
    obtain ⟨i, R, h, m, hi, rfl, rfl, rfl, t, hrl, hhm, hU⟩ := hrel
    by_cases hlt : i < l.length
    · obtain ⟨gA, oA, rfl, _, y0, y1, y2, y3⟩ := ac_cell ((hA.upd u1).upd hU) hlt
      obtain ⟨hkd, hwk⟩ := hw _ (List.getElem_mem hlt)
      generalize l[i] = y at *
      obtain ⟨kd, ⟨k1, k2⟩, s⟩ := y
      simp only at y0 y1 y2 y3 hkd hwk
      have ua := (Upd.refl Nil wr).alloc (.cells #[.int .u8 kd, .int .i64 k1, .int .i64 k2, .string s] 66)
      have hx := blk_new wr (.cells #[.int .u8 kd, .int .i64 k1, .int .i64 k2, .string s] 66)
      have t2 := t.upd0 ua
      have hU2 := hU.tr ua
      have qf := fun w (t : T w1.heap.size wr.heap.size w c b room R R h m) => t.rfind (by omega) (k1, k2)
      simp only at qf
      go_wp2_with fail
      refine (qf _ t2).mono ?_
      rintro e w4 ⟨rfl, u4⟩
      have t4 := t2.upd0 u4
      have hU4 := hU2.tr u4
      generalize hixe : idxK R (k1, k2) = ix
      have hixH := Lib.hid hixe
      clear hixe
      replace hx := u4.blk hx (fun h => h)
      clear t t2 hU hU2 ua u4 y0 y1 y2 y3 qf
      generalize wr.heap.size = xb at *
      have x0 := blk_cell hx 0
      have x1 := blk_cell hx 1
      have x2 := blk_cell hx 2
      have x3 := blk_cell hx 3
      simp only [List.getElem?_toArray, List.getElem?_cons_zero, List.getElem?_cons_succ] at x0 x1 x2 x3
      have h5 : (kd : Int) % 5 = 0 ∨ (kd : Int) % 5 = 1 ∨ (kd : Int) % 5 = 2 ∨ (kd : Int) % 5 = 3 ∨ (kd : Int) % 5 = 4 := by omega
      go_upto_block 2 with fail
      generalize (kd : Int) % 5 = md at *
      have hle := t4.le
      have hlo4 := hU4.size
      have hap := t4.apart1
      go_cut [13, 14] (fun s13 s14 wc => ∃ (R' : List RowT) (h' m' : Int), s13 = .int .i64 h' ∧ s14 = .int .i64 m' ∧ T w1.heap.size wc.heap.size wc c b room R' R' h' m' ∧ R'.length ≤ room.toNat ∧ (0 ≤ h' ∧ h' ≤ i + 1 ∧ 0 ≤ m' ∧ m' ≤ i + 1) ∧ Upd Nil w1 wc)
      case first =>
        have hrL : R.length ≤ 1024 := by omega
        have hbx : b ≠ xb := by have := hle.2; omega
        have hnx : ∀ w : World, ¬ Bt w.heap.size xb xb := fun w h => Nat.lt_irrefl _ h.2
        rcases h5 with rfl | rfl | rfl | rfl | rfl
        · as_aux_lemma =>
            have hpl := put_len hrl (k1, k2) s
            have hpa := apart_put hap room.toNat (k1, k2) s
            have q1 := t4.put hlo4 hrl (k1, k2) hwk s
            have q2 := fun (hi : Nat) (R1 : List RowT) w (t : T w1.heap.size hi w c b room R1 R h m) (hlo : w1.heap.size ≤ w.heap.size) => t.rput hlo hap hrl (k1, k2) s
            generalize putK room.toNat R (k1, k2) s = P at *
            obtain ⟨P1, P2⟩ := P
            simp only at q1 q2 hpl hpa
            go_wp2_with fail
            refine q1.mono ?_
            rintro e w5 ⟨rfl, t5, u5⟩
            have hx5 := blk_alloc (u5.blk hx (hnx w1)) (.cells #[.int .i64 (keyV P2).1, .int .i64 (keyV P2).2] 47)
            have hk5 := blk_new w5 (.cells #[.int .i64 (keyV P2).1, .int .i64 (keyV P2).2] 47)
            have ua := (Upd.refl Nil w5).alloc (.cells #[.int .i64 (keyV P2).1, .int .i64 (keyV P2).2] 47)
            have t6 := t5.upd0 ua
            have hU6 := (hU4.trans u5 (fun y hy => .inr hy.1)).tr ua
            have hle5 := t5.le
            clear x0 x1 x2 x3
            have x1 := blk_cell hx5 1
            have x2 := blk_cell hx5 2
            have x3 := blk_cell hx5 3
            simp only [List.getElem?_toArray, List.getElem?_cons_zero, List.getElem?_cons_succ] at x1 x2 x3
            go_wp2_with fail
            generalize w5.alloc (.cells #[.int .i64 (keyV P2).1, .int .i64 (keyV P2).2] 47) = w6 at *
            have hkb : w5.heap.size ≠ b := by omega
            generalize w5.heap.size = kb at *
            refine (q2 _ _ w6 t6 hU6.size).mono ?_
            rintro e w7 ⟨⟨x, rfl⟩, t7, u7⟩
            have hk7 := blk_alloc (u7.blk hk5 (fun e => hkb (by cases e; rfl))) (.cells #[.int .i64 (keyV P2).1, .int .i64 (keyV P2).2, .string x] 68)
            have hz7 := blk_new w7 (.cells #[.int .i64 (keyV P2).1, .int .i64 (keyV P2).2, .string x] 68)
            have ub := (Upd.refl Nil w7).alloc (.cells #[.int .i64 (keyV P2).1, .int .i64 (keyV P2).2, .string x] 68)
            have hU8 := (hU6.trans u7 (fun y hy => .inr (by cases hy; exact hle.2.1))).tr ub
            have t8 := (t7.upd0 ub).up
            have y0 := blk_cell hk7 0
            have y1 := blk_cell hk7 1
            have z0 := blk_cell hz7 0
            have z1 := blk_cell hz7 1
            simp only [List.getElem?_toArray, List.getElem?_cons_zero, List.getElem?_cons_succ] at y0 y1 z0 z1
            clear x1 x2 x3
            go_wp2_with fail
            go_meet
            case rel => exact ⟨P1, h, m, rfl, rfl, t8, hpl, by omega, hU8⟩
        · as_aux_lemma =>
            have hgl : (getK R (k1, k2)).length ≤ room.toNat := Nat.le_trans (get_len hap (k1, k2)) hrl
            have q1 := t4.get (by omega) (k1, k2) hwk
            have q2 := fun (hi : Nat) (R1 : List RowT) (h m : Int) w (t : T w1.heap.size hi w c b room R1 R h m) (hlo : w1.heap.size ≤ w.heap.size) => t.rget hlo hap (by omega) (k1, k2)
            generalize getK R (k1, k2) = P at *
            have hw1 := wr2 (x := h + 1) (by omega)
            have hw2 := wr2 (x := m + 1) (by omega)
            cases hf : findK R (k1, k2) with
            | none =>
              rw [hf] at q1 q2
              simp only [textOf, Option.isSome, Bool.false_eq_true, if_false, if_true] at q1 q2
              clear hf
              go_wp2_with fail
              refine q1.mono ?_
              rintro e w5 ⟨rfl, t5, u5⟩
              have hx5 := u5.blk hx (hnx w1)
              have hU5 := hU4.trans u5 (fun y hy => .inr hy.1)
              clear x0 x1 x2 x3
              have x1 := blk_cell hx5 1
              have x2 := blk_cell hx5 2
              simp only [List.getElem?_toArray, List.getElem?_cons_zero, List.getElem?_cons_succ] at x1 x2
              go_wp2_with fail
              refine (q2 _ _ _ _ w5 t5 hU5.size).mono ?_
              rintro e w7 ⟨rfl, t7, u7⟩
              go_wp2_with fail
              go_meet
              case rel => exact ⟨P, h, (m + 1), rfl, rfl, t7, hgl, by omega, hU5.trans u7 (fun y hy => .inr (by cases hy; exact hle.2.1))⟩
            | some v =>
              rw [hf] at q1 q2
              simp only [textOf, Option.isSome, Bool.false_eq_true, if_false, if_true] at q1 q2
              clear hf
              go_wp2_with fail
              refine q1.mono ?_
              rintro e w5 ⟨rfl, t5, u5⟩
              have hx5 := u5.blk hx (hnx w1)
              have hU5 := hU4.trans u5 (fun y hy => .inr hy.1)
              clear x0 x1 x2 x3
              have x1 := blk_cell hx5 1
              have x2 := blk_cell hx5 2
              simp only [List.getElem?_toArray, List.getElem?_cons_zero, List.getElem?_cons_succ] at x1 x2
              go_wp2_with fail
              refine (q2 _ _ _ _ w5 t5 hU5.size).mono ?_
              rintro e w7 ⟨rfl, t7, u7⟩
              go_wp2_with fail
              go_meet
              case rel => exact ⟨P, (h + 1), m, rfl, rfl, t7, hgl, by omega, hU5.trans u7 (fun y hy => .inr (by cases hy; exact hle.2.1))⟩
        · as_aux_lemma =>
            cases hf : findK R (k1, k2) with
            | none =>
              have hi : ix = -1 := by rw [← hixH.out]; unfold idxK; rw [hf]; rfl
              have q1 := t4.peek (k1, k2) hwk
              rw [hf] at q1
              simp only [textOf, Option.isSome] at q1
              subst hi
              clear hf
              go_wp2_with fail
              refine q1.mono ?_
              rintro e w5 ⟨rfl, u5⟩
              go_wp2_with fail
              go_meet
              case rel => exact ⟨R, h, m, rfl, rfl, (t4.upd0 u5).up, hrl, by omega, hU4.tr u5⟩
            | some v =>
              obtain ⟨A, v', B, hRe, hp, hfv⟩ := split_pos (R := R) (k := (k1, k2)) (by rw [hf]; rfl)
              rw [hf] at hfv
              injection hfv with hfv
              subst hfv
              have hi : ix = (A.length : Int) := by rw [← hixH.out]; unfold idxK; rw [hf, hp]; rfl
              have q1 := t4.peek (k1, k2) hwk
              rw [hf] at q1
              simp only [textOf, Option.isSome] at q1
              subst hi
              have hlt2 : A.length < R.length := by rw [hRe]; exact lt_of
              have hge : R[A.length] = ((k1, k2), v) := by simp [hRe]
              clear hf hp
              go_wp2_with fail
              refine q1.mono ?_
              rintro e w5 ⟨rfl, u5⟩
              have t5 := t4.upd0 u5
              obtain ⟨B0, cB, r1, hB⟩ := t5.rows
              obtain ⟨g, o, rfl, _, e0, e1, e2⟩ := rc_cell hB hlt2
              rw [hge] at e2
              clear hge hRe e0 e1
              have hn0 : ¬ (A.length : Int) < 0 := by omega
              have hn1 : (0 : Int) ≤ (A.length : Int) := by omega
              have hn2 : (A.length : Int) < (R.length : Int) := by omega
              go_wp2_with fail
              go_meet
              case rel => exact ⟨R, h, m, rfl, rfl, t5.up, hrl, by omega, hU4.tr u5⟩
        · as_aux_lemma =>
            have q1 := t4.drop (k1, k2) hwk
            cases hf : findK R (k1, k2) with
            | none =>
              have hi : ix = -1 := by rw [← hixH.out]; unfold idxK; rw [hf]; rfl
              rw [hf, dropK_none hf] at q1
              simp only [Option.isSome] at q1
              subst hi
              clear hf
              go_wp2_with fail
              refine q1.mono ?_
              rintro e w5 ⟨rfl, t5, u5⟩
              go_wp2_with fail
              go_meet
              case rel => exact ⟨R, h, m, rfl, rfl, t5, hrl, by omega, hU4.trans u5 (fun y hy => .inr hy.1)⟩
            | some v =>
              obtain ⟨A, v', B, rfl, hp, hfv⟩ := split_pos (R := R) (k := (k1, k2)) (by rw [hf]; rfl)
              have hi : ix = (A.length : Int) := by rw [← hixH.out]; unfold idxK; rw [hf, hp]; rfl
              rw [hf, dropK_split hap] at q1
              simp only [Option.isSome] at q1
              subst hi
              have hpl : (A ++ B).length ≤ room.toNat := by simp at hrl ⊢; omega
              have hn1 : (0 : Int) ≤ (A.length : Int) := by omega
              clear hf hp hfv
              go_wp2_with fail
              refine q1.mono ?_
              rintro e w5 ⟨rfl, t5, u5⟩
              have hU5 := hU4.trans u5 (fun y hy => .inr hy.1)
              go_wp2_with fail
              refine (t5.rdrop hU5.size (by omega)).mono ?_
              rintro e w6 ⟨rfl, t6, u6⟩
              go_wp2_with fail
              go_meet
              case rel => exact ⟨A ++ B, h, m, rfl, rfl, t6, hpl, by omega, hU5.trans u6 (fun y hy => .inr (by cases hy; exact hle.2.1))⟩
        · as_aux_lemma =>
            obtain ⟨B0, cB, r1, hB⟩ := t4.rows
            have t4' := t4.up
            have e0 : rem R k1 R.length = R := by unfold rem; simp
            have e1 : cnt R k1 R.length = 0 := by unfold cnt; simp
            have hwl : wrap64 ((R.length : Int) - 1) = (R.length : Int) - 1 := wr2 (by omega)
            have eH := Lib.hid (And.intro e0 e1)
            clear e0 e1 hB x0 x2 x3
            go_wp2_with fail
            clear r1 hwl x1
            go_loopw [28, 29] (fun s28 s29 wr => ∃ j : Nat, j ≤ R.length ∧ s28 = .int .i64 (cnt R k1 j : Int) ∧ s29 = .int .i64 ((j : Int) - 1) ∧ T w1.heap.size wr.heap.size wr c b room R (rem R k1 j) h m ∧ wr.heap[xb]? = some (.cells #[.int .u8 kd, .int .i64 k1, .int .i64 k2, .string s] 66 (0, 0)) ∧ Upd Nil w1 wr) (fun _ s29 _ => (intOf s29 + 1).toNat)
            case atStart => exact ⟨R.length, by omega, by rw [eH.out.2]; rfl, rfl, by rw [eH.out.1]; exact t4', hx, hU4⟩
            case round =>
              clear t4 t4' hx hU4
              obtain ⟨j, hj, rfl, rfl, t5, hx5, hU5⟩ := hrel
              have x1 := blk_cell hx5 1
              simp only [List.getElem?_toArray, List.getElem?_cons_zero, List.getElem?_cons_succ] at x1
              have hrl5 := rem_len R k1 j
              by_cases hj0 : 0 < j
              · obtain ⟨i', rfl⟩ : ∃ i', j = i' + 1 := ⟨j - 1, by omega⟩
                have hlt2 : i' < R.length := by omega
                obtain ⟨hat, hate⟩ := rem_at (q := k1) hlt2
                obtain ⟨B1, cB1, r1, hB1⟩ := t5.rows
                obtain ⟨g, o, rfl, _, e0, _, _⟩ := rc_cell hB1 hat
                rw [hate] at e0
                have hji : ((i' + 1 : Nat) : Int) - 1 = (i' : Int) := by omega
                rw [hji]
                have hat2 : (i' : Int) < ((rem R k1 (i' + 1)).length : Int) := by omega
                have hhit := fun h => rem_hit (q := k1) hlt2 h
                have hmiss := fun h => rem_miss (q := k1) hlt2 h
                have hcl : cnt R k1 (i' + 1) ≤ 2000 := by
                  unfold cnt
                  refine Nat.le_trans (List.length_filter_le _ _) ?_
                  simp
                  omega
                have hw1 := wr2 (x := (cnt R k1 (i' + 1) : Int) + 1) (by omega)
                generalize R[i'] = r at *
                obtain ⟨⟨q1, q2⟩, qs⟩ := r
                simp only at e0 hhit hmiss
                clear hate hji hB1
                by_cases hq : q1 = k1
                · obtain ⟨p1, p2, p3⟩ := hhit hq
                  have t6 := t5
                  rw [p1] at t6
                  have hil : (R.take i').length = i' := by simp; omega
                  have q6 := fun (hi : Nat) w (t : T w1.heap.size hi w c b room R (R.take i' ++ ((q1, q2), qs) :: (R.drop (i' + 1)).filter (fun r => r.1.1 != k1)) h m) (hlo : w1.heap.size ≤ w.heap.size) => t.rdrop hlo (by rw [← p1]; omega)
                  rw [hil, ← p2] at q6
                  have pH := Lib.hid p3
                  subst hq
                  clear p1 p2 p3 hhit hmiss hil t5
                  go_wp2_with fail
                  refine wp_region_lexW (Upd Nil) (fun _ => Upd.refl _ _) (fun _ _ _ h k => h.tr k) [(0, true), (1, true), (2, true), (3, true), (4, true), (5, true), (6, true), (7, true), (8, true), (9, true), (10, true), (11, true)] (by kernel_rfl) (by kernel_rfl) rfl (by kernel_rfl) (by kernel_rfl) ?_
                  simp only [inOrderW, List.filterMap_cons, List.filterMap_nil, List.getElem?_cons_zero, List.getElem?_cons_succ, Option.map_some]
                  try simp only [Act.put, List.setIfInBounds_toArray, List.set_cons_zero, List.set_cons_succ]
                  repeat
                    first
                    | (refine lexW_sure (v := ?_) rfl rfl ?_ ?_
                       rotate_left
                       · go_simp
                         try with_reducible rfl
                       try simp only [Act.put, List.setIfInBounds_toArray, List.set_cons_zero, List.set_cons_succ])
                    | (refine lexW_pure (v := ?_) rfl rfl ?_ ?_
                       rotate_left
                       · intro w' hU'
                         go_simp
                         try with_reducible rfl
                       try simp only [Act.put, List.setIfInBounds_toArray, List.set_cons_zero, List.set_cons_succ])
                    | (refine lexW_skip rfl ?_
                       try simp only [Act.put, List.setIfInBounds_toArray, List.set_cons_zero, List.set_cons_succ])
                  refine lexW_done ?_
                  have ud := (Upd.refl Nil wr).drew
                  go_wp2_with fail
                  refine (q6 _ _ (t6.upd0 ud) hU5.size).mono ?_
                  rintro e w7 ⟨rfl, t7, u7⟩
                  go_wp2_with fail
                  go_roundw
                  case measure => simp [intOf]
                  case rel => exact ⟨i', by omega, by rw [pH.out]; go_num, rfl, t7, u7.blk (ud.blk hx5 (fun h => h)) (fun e => hbx (by cases e; rfl)), (hU5.tr ud).trans u7 (fun y hy => .inr (by cases hy; exact hle.2.1))⟩
                · obtain ⟨p1, p2⟩ := hmiss hq
                  have pH := Lib.hid (And.intro p1 p2)
                  clear p1 p2 hhit hmiss
                  go_wp2_with fail
                  refine wp_region_lexW (Upd Nil) (fun _ => Upd.refl _ _) (fun _ _ _ h k => h.tr k) [(0, true), (1, true), (2, true), (3, true), (4, true), (5, true), (6, true), (7, true), (8, true), (9, true), (10, true), (11, true)] (by kernel_rfl) (by kernel_rfl) rfl (by kernel_rfl) (by kernel_rfl) ?_
                  simp only [inOrderW, List.filterMap_cons, List.filterMap_nil, List.getElem?_cons_zero, List.getElem?_cons_succ, Option.map_some]
                  try simp only [Act.put, List.setIfInBounds_toArray, List.set_cons_zero, List.set_cons_succ]
                  repeat
                    first
                    | (refine lexW_sure (v := ?_) rfl rfl ?_ ?_
                       rotate_left
                       · go_simp
                         try with_reducible rfl
                       try simp only [Act.put, List.setIfInBounds_toArray, List.set_cons_zero, List.set_cons_succ])
                    | (refine lexW_pure (v := ?_) rfl rfl ?_ ?_
                       rotate_left
                       · intro w' hU'
                         go_simp
                         try with_reducible rfl
                       try simp only [Act.put, List.setIfInBounds_toArray, List.set_cons_zero, List.set_cons_succ])
                    | (refine lexW_skip rfl ?_
                       try simp only [Act.put, List.setIfInBounds_toArray, List.set_cons_zero, List.set_cons_succ])
                  refine lexW_done ?_
                  have ud := (Upd.refl Nil wr).drew
                  go_wp2_with fail
                  go_roundw
                  case measure => simp [intOf]
                  case rel => exact ⟨i', by omega, by rw [pH.out.2], rfl, by rw [← pH.out.1]; exact t5.upd0 ud, ud.blk hx5 (fun h => h), hU5.tr ud⟩
              · obtain rfl : j = 0 := by omega
                have e0 : rem R k1 0 = forgetT R k1 := by unfold rem forgetT; simp
                have e1 : cnt R k1 0 = (R.filter (fun r => r.1.1 == k1)).length := by unfold cnt; simp
                rw [e0] at t5
                have q1 := t5.forget (by omega) k1
                rw [← e1] at q1
                have hfl : (forgetT R k1).length ≤ room.toNat := Nat.le_trans (List.length_filter_le _ _) hrl
                clear e0 e1
                go_wp2_with fail
                refine q1.mono ?_
                rintro e w7 ⟨rfl, t7, u7⟩
                go_wp2_with fail
                go_meet
                case rel => exact ⟨forgetT R k1, h, m, rfl, rfl, t7, hfl, by omega, hU5.trans u7 (fun y hy => .inr hy.1)⟩
      case rest =>
        obtain ⟨R', h', m', rfl, rfl, t5, hrl5, hhm5, hU5⟩ := hcut
        go_wp2_with fail
        refine t5.rate.mono ?_
        rintro e w6 ⟨rfl, u6⟩
        go_wp2_with fail
        refine (sameC (t5.upd0 u6) (by omega)).mono ?_
        rintro e w7 ⟨rfl, u7⟩
        go_wp2_with fail
        go_roundw
        case measure => simp [intOf]; omega
        case rel => exact ⟨i + 1, R', h', m', by omega, by go_num, rfl, rfl, ((t5.upd0 u6).upd0 u7).up, hrl5, by omega, (hU5.tr u6).tr u7⟩
    · obtain rfl : i = l.length := by omega
      go_wp2_with fail
      go_ret
      exact ⟨rfl, u1.tr hU⟩
end Go.Proofs.Ytcifkccaiekkeaa.Cache
