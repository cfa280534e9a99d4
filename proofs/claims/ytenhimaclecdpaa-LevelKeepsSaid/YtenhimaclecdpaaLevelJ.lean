/-
  Levelling: the walk of After. Conditions: what the slices hold.
-/
import Derived.Test.YtenhimaclecdpaaLevelI
namespace Go.Proofs.Ytenhimaclecdpaa.Level
open Go.RowKit Go.Proofs.Ytenhimaclecdpaa.Base Go.Proofs.Ytenhimaclecdpaa.Ints
set_option linter.unusedVariables false
set_option linter.unusedSimpArgs false
/-- slices.Clone: the same elements in a slice of one's own. -/
def ClonedI (l : List (Int)) (w : World) (e : Ending) (w' : World) : Prop := ∃ v, e = .returned v ∧ Sl w' w.heap.size 3 1 ic v l ∧ Upd Nil w w'
set_option maxRecDepth 100000 in
theorem cloneI (A : Option Addr) (c : Nat) (l : List (Int)) (w : World) (hA : Arg w A 1 ic l) (hb : l.length * 8 ≤ 140737488355328) :
    Calls Try.prog 49 #[.slice A l.length c] w (ClonedI l w) := by
  have hq : ∀ (w : World) (a : Option Addr) (n c n' c' : Nat), (binOp .eql 22 (.slice a n c) (.slice none n' c')).run Try.prog w = .ok (.bool a.isNone) w := fun w a n c n' c' => Lib.run_eql_slice_nil w _ _ a n c n' c' Try.underlying22
  cases A with
  | none =>
    obtain rfl : l = [] := hA.resolve_right (fun ⟨b, off, h, _⟩ => by cases h)
    go_enter Try.func49, Try.ntmps49
    go_wp2
    go_ret
    exact ⟨_, rfl, Sl.nil _ _ _ _ _, Upd.refl _ _⟩
  | some A =>
    have hz : Sl (w.alloc (.cells #[] 3)) w.heap.size 3 1 ic (.slice (some ⟨w.heap.size, 0, none⟩) 0 0) [] := Sl.zero _ _ _ _ _ _ (Nat.le_refl _)
    have hA2 := Src.ofArg (P := Try.prog) (tx := 22) ⟨_, elemI.ht⟩ elemI.len elemI.one (hA.upd ((Upd.refl _ _).alloc (.cells #[] 3))) c
    have hm : l.length ≤ maxLen := by unfold maxLen; omega
    go_enter Try.func49, Try.ntmps49
    go_wp2_with (at_builtin; (refine wp_app w.heap.size rfl (.tmp 5) (.tmp 6) elemI rfl (.slice (some ⟨w.heap.size, 0, none⟩) 0 0) [] l _ rfl rfl hA2 hz (by simp) (by simp; omega) (by simp; omega) ?_); intro A1 c1 w1 hv1 hg1 hat)
    go_ret
    exact ⟨_, rfl, by simpa using hv1, ((Upd.refl Nil w).alloc _).grown hg1 (fun k hk => .inr (by simp [Value.ownBlock] at hk; omega))⟩
def tiC (p : Int × Int) : List Value := [.int .i64 p.1, .int .i64 p.2]
theorem ti_cell {w : World} {A : Option Addr} {l : List (Int × Int)} (h : Arg w A 2 tiC l) {i : Nat} (hi : i < l.length) : ∃ g o, A = some ⟨g, o, none⟩ ∧ w.cell? ⟨g, o + i * 2, none⟩ = some (.int .i64 l[i].1) ∧ w.cell? ⟨g, o + i * 2 + 1, none⟩ = some (.int .i64 l[i].2) := by
  rcases h with rfl | ⟨g, o, rfl, h2, h3⟩
  · simp at hi
  · exact ⟨g, o, rfl, h3 i hi 0 (by omega), h3 i hi 1 (by omega)⟩
def AfterR (r : Option (List Int × List Int)) (w : World) (e : Ending) (w' : World) : Prop := ∃ X Y x y, e = .returned (.tuple #[X, Y, .bool r.isSome]) ∧ Sl w' w.heap.size 3 1 ic X x ∧ Sl w' w.heap.size 3 1 ic Y y ∧ Upd Nil w w' ∧ (r = some (x, y) ∨ r = none ∧ x = [] ∧ y = [])
theorem Sl.raise {w : World} {base0 base e sz : Nat} {α : Type} {f : α → List Value} {v : Value} {l : List α} (h : Sl w base0 e sz f v l) (hb : ∀ k, v.ownBlock = some k → base ≤ k) : Sl w base e sz f v l := by
  refine ⟨h.1, ?_⟩
  rcases h.2 with h0 | ⟨g, off, cap, cur, rfl, hg, r⟩
  · exact .inl h0
  · exact .inr ⟨g, off, cap, cur, rfl, hb g rfl, r⟩
theorem pair_nil {F : Nat → Prop} {w : World} {a : List Int} {X : Value} (h : Sl w 0 3 1 ic X a) (hF : ∀ k, X.ownBlock = some k → F k) : Pair F w a [] X (.slice none 0 0) :=
  ⟨h, Sl.nil _ _ _ _ _, hF, fun k hk => by simp [Value.ownBlock] at hk⟩
theorem after_drop {x y : List Int} {l : List (Int × Int)} {j : Nat} (hj : j < l.length) : after x y (l.drop j) = if l[j].1 < 0 ∨ (x.length : Int) ≤ l[j].1 ∨ l[j].2 < 0 ∨ (y.length : Int) ≤ l[j].2 then none else after (x.set l[j].1.toNat (y.getD l[j].2.toNat 0)) (y.set l[j].2.toNat (x.getD l[j].1.toNat 0)) (l.drop (j + 1)) := by
  rw [List.drop_eq_getElem_cons hj]
  rfl
set_option maxHeartbeats 4000000 in
set_option maxRecDepth 100000 in
theorem afterC (A B C : Option Addr) (cA cB cC : Nat) (a b : List Int) (l : List (Int × Int)) (w : World) (hA : Arg w A 1 ic a) (hB : Arg w B 1 ic b) (hC : Arg w C 2 tiC l) (ha : a.length ≤ 1000) (hb : b.length ≤ 1000) (hl : l.length ≤ 1000000) :
    Calls Try.prog 17 #[.slice A a.length cA, .slice B b.length cB, .slice C l.length cC] w (AfterR (after a b l) w) := by
  obtain ⟨r, hr0⟩ : ∃ r, after a b l = r := ⟨_, rfl⟩
  rw [hr0]
  have hr := Lib.hid (show after a b (l.drop 0) = r from hr0)
  clear hr0
  go_enter Try.func17, Try.ntmps17
  go_wp2_with fail
  refine (cloneI A cA a _ hA (by omega)).mono ?_
  rintro e w1 ⟨X, rfl, hX, hU1⟩
  go_wp2_with fail
  refine (cloneI B cB b _ (hB.upd hU1) (by omega)).mono ?_
  rintro e w2 ⟨Y, rfl, hY, hU2⟩
  have hU := hU1.tr hU2
  have hs1 := hU1.size
  have hs2 := hU2.size
  have hx0 := pair_nil (F := Bt w.heap.size w1.heap.size) ((hX.upd0 hU2).lower (Nat.zero_le _)) (fun k hk => ⟨(hX.typed k hk).1, hX.lt k hk⟩)
  have hy0 := pair_nil (F := Bt w1.heap.size w2.heap.size) (hY.lower (Nat.zero_le _)) (fun k hk => ⟨(hY.typed k hk).1, hY.lt k hk⟩)
  have hFG : ∀ z, Bt w.heap.size w1.heap.size z → ¬ Bt w1.heap.size w2.heap.size z := fun z h1 h2 => by unfold Bt at *; omega
  have hFx : ∀ z, Bt w.heap.size w1.heap.size z → w.heap.size ≤ z ∧ z < w2.heap.size := fun z h1 => by unfold Bt at *; omega
  have hFy : ∀ z, Bt w1.heap.size w2.heap.size z → w.heap.size ≤ z ∧ z < w2.heap.size := fun z h1 => by unfold Bt at *; omega
  obtain ⟨AX, cX, rfl, -⟩ := hX.form
  obtain ⟨AY, cY, rfl, -⟩ := hY.form
  clear hX hY hU1 hU2 hA hB
  generalize Bt w.heap.size w1.heap.size = Fx at *
  generalize Bt w1.heap.size w2.heap.size = Fy at *
  go_wp2_with fail
  go_loopw [19] (fun s19 wr => ∃ (j : Nat) (x y : List Int), j ≤ l.length ∧ s19 = .int .i64 j ∧ Pair Fx wr x [] (.slice AX a.length cX) (.slice none 0 0) ∧ Pair Fy wr y [] (.slice AY b.length cY) (.slice none 0 0) ∧ Upd Nil w wr ∧ w2.heap.size ≤ wr.heap.size ∧ Hid (x.length = a.length) ∧ Hid (y.length = b.length) ∧ Hid (after x y (l.drop j) = r)) (fun s19 _ => l.length - (intOf s19).toNat)
  case atStart => exact ⟨0, a, b, by omega, rfl, hx0, hy0, hU, Nat.le_refl _, Lib.hid rfl, Lib.hid rfl, hr⟩
  case round =>
    clear hx0 hy0 hU hr
    obtain ⟨j, x, y, hj, rfl, hx, hy, hU, hsz, hlx, hly, hr⟩ := hrel
    by_cases hlt : j < l.length
    · skip
      obtain ⟨g0, o0, hC0, e0, e1⟩ := ti_cell (hC.upd hU) hlt
      subst hC0
      have had := after_drop (x := x) (y := y) hlt
      generalize l[j].1 = i at *
      generalize l[j].2 = k at *
      by_cases h1 : i < 0
      · rw [if_pos (.inl h1), hr.out] at had
        subst had
        go_wp2_with fail
        go_ret3
        exact ⟨_, _, [], [], rfl, Sl.nil _ _ _ _ _, Sl.nil _ _ _ _ _, hU.alloc _, .inr ⟨rfl, rfl, rfl⟩⟩
      by_cases h2 : (a.length : Int) ≤ i
      · rw [if_pos (.inr (.inl (by rw [hlx.out]; exact h2))), hr.out] at had
        subst had
        go_wp2_with fail
        go_ret3
        exact ⟨_, _, [], [], rfl, Sl.nil _ _ _ _ _, Sl.nil _ _ _ _ _, hU.alloc _, .inr ⟨rfl, rfl, rfl⟩⟩
      by_cases h3 : k < 0
      · rw [if_pos (.inr (.inr (.inl h3))), hr.out] at had
        subst had
        go_wp2_with fail
        go_ret3
        exact ⟨_, _, [], [], rfl, Sl.nil _ _ _ _ _, Sl.nil _ _ _ _ _, hU.alloc _, .inr ⟨rfl, rfl, rfl⟩⟩
      by_cases h4 : (b.length : Int) ≤ k
      · rw [if_pos (.inr (.inr (.inr (by rw [hly.out]; exact h4)))), hr.out] at had
        subst had
        go_wp2_with fail
        go_ret3
        exact ⟨_, _, [], [], rfl, Sl.nil _ _ _ _ _, Sl.nil _ _ _ _ _, hU.alloc _, .inr ⟨rfl, rfl, rfl⟩⟩
      rw [if_neg (by rw [hlx.out, hly.out]; omega), hr.out] at had
      obtain ⟨i, rfl⟩ := Int.eq_ofNat_of_zero_le (Int.not_lt.1 h1)
      obtain ⟨k, rfl⟩ := Int.eq_ofNat_of_zero_le (Int.not_lt.1 h3)
      rw [Int.toNat_natCast, Int.toNat_natCast] at had
      have hi : i < x.length := by have := hlx.out; omega
      have hk : k < y.length := by have := hly.out; omega
      have hps := Lib.hid had.symm
      clear had hr
      have hbt := blk_new wr (.cells #[.int .i64 i, .int .i64 k] 33)
      have hxW := hx.upd0 ((Upd.refl Nil wr).alloc (.cells #[.int .i64 i, .int .i64 k] 33))
      have hyW := hy.upd0 ((Upd.refl Nil wr).alloc (.cells #[.int .i64 i, .int .i64 k] 33))
      have hUW := hU.alloc (.cells #[.int .i64 i, .int .i64 k] 33)
      have hnx : ∀ z, Fx z → z < wr.heap.size := fun z h => Nat.lt_of_lt_of_le (hFx z h).2 hsz
      have hny : ∀ z, Fy z → z < wr.heap.size := fun z h => Nat.lt_of_lt_of_le (hFy z h).2 hsz
      have hszW : w2.heap.size ≤ (wr.alloc (.cells #[.int .i64 i, .int .i64 k] 33)).heap.size := by simp; omega
      obtain ⟨gx, ox, hA1, -, c0⟩ := ic_cell (hxW.sx.cells ic_len (by omega)) hi
      obtain ⟨gy, oy, hA2, lty, c1⟩ := ic_cell (hyW.sx.cells ic_len (by omega)) hk
      subst hA1 hA2
      rw [gD hi, gD hk] at hps
      go_wp2_with fail
      generalize wr.alloc (.cells #[.int .i64 i, .int .i64 k] 33) = W at *
      generalize wr.heap.size = nb at *
      clear hx hy hU hsz
      generalize x[i] = vi at *
      generalize y[k] = vk at *
      have hl1 := Lib.hid (show (x.set i vk).length = x.length by simp)
      have hl2 := Lib.hid (show (y.set k vi).length = y.length by simp)
      have fy0 := (hyW.setX hk vi).2.2.2
      obtain ⟨hx5, u5, F5, fz5⟩ := hxW.setX hi vk
      have hy5 := hyW.upd u5 (fun z e h2 => hFG _ F5 (by have e : z = gx := e; subst e; exact h2))
      obtain ⟨hy6, u6, G6, fz6⟩ := hy5.setX hk vi
      have c5 := (u5.cell (p := ⟨gy, oy + k, none⟩) lty (fun e => hFG _ F5 (by have e : gy = gx := e; rw [← e]; exact G6))).trans c1
      have hx6 := (hx5.upd u6 (fun z e h2 => hFG _ h2 (by have e : z = gy := e; subst e; exact G6))).upd0 (Upd.refl Nil _).drew
      have hy6 := hy6.upd0 (Upd.refl Nil _).drew
      have hU6 := ((hUW.setOwn (g := gx) (i := ox + i) (.inr (hFx _ F5).1) (.int .i64 vk)).setOwn (g := gy) (i := oy + k) (.inr (hFy _ G6).1) (.int .i64 vi)).drew
      have hsz6 : ((W.setCell ⟨gx, ox + i, none⟩ (.int .i64 vk)).setCell ⟨gy, oy + k, none⟩ (.int .i64 vi)).drew.heap.size = W.heap.size := by simp [World.setCell]
      rw [← hsz6] at hszW
      have t0 : ∀ w', Upd (fun z => z = gx ∨ z = gy) W.drew w' → w'.cell? ⟨nb, 0, none⟩ = some (.int .i64 i) := fun w' u => blk_cell (u.blk (blk_drew hbt) (fun e => e.elim (fun e => by have := hnx _ F5; omega) (fun e => by have := hny _ G6; omega))) 0
      have t1 : ∀ w', Upd (fun z => z = gx ∨ z = gy) W.drew w' → w'.cell? ⟨nb, 1, none⟩ = some (.int .i64 k) := fun w' u => blk_cell (u.blk (blk_drew hbt) (fun e => e.elim (fun e => by have := hnx _ F5; omega) (fun e => by have := hny _ G6; omega))) 1
      have t0'' : W.cell? ⟨nb, 0, none⟩ = _ := t0 W.drew (Upd.refl _ _)
      have t1'' : W.cell? ⟨nb, 1, none⟩ = _ := t1 W.drew (Upd.refl _ _)
      have hs1' : ∀ v, Upd (fun z => z = gx ∨ z = gy) W.drew (W.setCell ⟨gx, ox + i, none⟩ v).drew := fun v => Upd.ofDrew ((Upd.refl _ W).set (p := ⟨gx, ox + i, none⟩) (.inl (.inl rfl)) v).drew
      have hs2' : ∀ v, Upd (fun z => z = gx ∨ z = gy) (W.setCell ⟨gx, ox + i, none⟩ (.int .i64 vk)).drew ((W.setCell ⟨gx, ox + i, none⟩ (.int .i64 vk)).setCell ⟨gy, oy + k, none⟩ v).drew := fun v => Upd.ofDrew ((Upd.refl _ _).set (p := ⟨gy, oy + k, none⟩) (.inl (.inr rfl)) v).drew
      clear hxW hyW hUW hx5 hy5 u5 u6 hsz6 hnx hny F5 G6
      refine wp_region_lexW (Upd (fun z => z = gx ∨ z = gy)) (fun _ => Upd.refl _ _) (fun _ _ _ h k => h.tr k) [(0, true), (1, true), (2, true), (3, false), (4, false), (5, false), (6, true), (7, true), (8, true), (9, true), (10, true), (11, false), (12, false), (13, false), (14, false), (15, true), (16, true), (17, false), (18, false), (19, false)] (by kernel_rfl) (by kernel_rfl) rfl (by kernel_rfl) (by kernel_rfl) ?_
      simp only [inOrderW, List.filterMap_cons, List.filterMap_nil, List.getElem?_cons_zero, List.getElem?_cons_succ, Option.map_some]
      try simp only [Act.put, List.setIfInBounds_toArray, List.set_cons_zero, List.set_cons_succ]
      repeat
        first
        | (refine lexW_sure (v := ?_) rfl rfl ?_ ?_
           rotate_left
           · go_simp
             try with_reducible rfl
           try simp only [Act.put, List.setIfInBounds_toArray, List.set_cons_zero, List.set_cons_succ])
        | (refine lexW_pure (v := ?_) rfl rfl ?_ ?_
           rotate_left
           · intro w' hU'
             go_simp
             try with_reducible rfl
           try simp only [Act.put, List.setIfInBounds_toArray, List.set_cons_zero, List.set_cons_succ])
        | (refine lexW_skip rfl ?_
           try simp only [Act.put, List.setIfInBounds_toArray, List.set_cons_zero, List.set_cons_succ])
      refine lexW_store (w' := (W.setCell ⟨gx, ox + i, none⟩ (.int .i64 vk)).drew) rfl rfl (by go_simp) (hs1' _) ?_
      try simp only [Act.put, List.setIfInBounds_toArray, List.set_cons_zero, List.set_cons_succ]
      repeat
        first
        | (refine lexW_sure (v := ?_) rfl rfl ?_ ?_
           rotate_left
           · go_simp
             try with_reducible rfl
           try simp only [Act.put, List.setIfInBounds_toArray, List.set_cons_zero, List.set_cons_succ])
        | (refine lexW_pure (v := ?_) rfl rfl ?_ ?_
           rotate_left
           · intro w' hU'
             go_simp
             try with_reducible rfl
           try simp only [Act.put, List.setIfInBounds_toArray, List.set_cons_zero, List.set_cons_succ])
        | (refine lexW_skip rfl ?_
           try simp only [Act.put, List.setIfInBounds_toArray, List.set_cons_zero, List.set_cons_succ])
      refine lexW_store (w' := ((W.setCell ⟨gx, ox + i, none⟩ (.int .i64 vk)).setCell ⟨gy, oy + k, none⟩ (.int .i64 vi)).drew) rfl rfl (by go_simp) (hs2' _) ?_
      refine lexW_done ?_
      clear hs1' hs2' t0 t1 t0'' t1'' c0 c1 c5 fz5 fz6 fy0
      generalize ((W.setCell ⟨gx, ox + i, none⟩ (.int .i64 vk)).setCell ⟨gy, oy + k, none⟩ (.int .i64 vi)).drew = W6 at *
      go_wp2_with fail
      go_roundw
      case measure => simp [intOf]; omega
      case rel => exact ⟨j + 1, _, _, by omega, by go_num, hx6, hy6, hU6, hszW, Lib.hid (hl1.out.trans hlx.out), Lib.hid (hl2.out.trans hly.out), hps⟩
    · obtain rfl : j = l.length := by omega
      rw [List.drop_length] at hr
      have hd := hr.out
      simp only [after] at hd
      subst hd
      go_wp2_with fail
      go_ret3
      exact ⟨_, _, x, y, rfl, Sl.raise hx.sx (fun k hk => (hFx k (hx.oX k hk)).1), Sl.raise hy.sx (fun k hk => (hFy k (hy.oX k hk)).1), hU, .inl rfl⟩
end Go.Proofs.Ytenhimaclecdpaa.Level
