/-
  Levelling: the walk of Plan. Conditions: what the slices hold.
-/
import Derived.Test.YtenhimaclecdpaaLevelG
import Derived.Test.YtenhimaclecdpaaLexW
namespace Go.Proofs.Ytenhimaclecdpaa.Level
open Go.RowKit Go.Proofs.Ytenhimaclecdpaa.Base Go.Proofs.Ytenhimaclecdpaa.Ints
set_option linter.unusedVariables false
set_option linter.unusedSimpArgs false
def trC (p : Nat × Nat) : List Value := [.int .i64 p.1, .int .i64 p.2]
theorem trC_len (x : Nat × Nat) : (trC x).length = 2 := rfl
theorem trC_one (x : Nat × Nat) : ∀ u ∈ trC x, u.oneCell' = true := by
  intro u hu
  have hu : u = .int .i64 x.1 ∨ u = .int .i64 x.2 := by simpa [trC] using hu
  rcases hu with rfl | rfl <;> rfl
theorem elemTR : Elem Try.prog 25 33 (.agg #[.int .i64 0, .int .i64 0]) 2 16 trC := ⟨Try.underlying25, by kernel_rfl, rfl, by omega, trC_len, trC_one⟩
def lenOf : Value → Nat
  | .slice _ n _ => n
  | _ => 0
theorem Lane.setX {F : Nat → Prop} {w : World} {b : Nat} {a : List Int} {t : List Bool} {g o n c : Nat} {T : Value} (h : Lane F w b a t (.slice (some ⟨g, o, none⟩) n c) T) {i : Nat} (hi : i < a.length) (v : Int) :
    Lane F (w.setCell ⟨g, o + i, none⟩ (.int .i64 v)) b (a.set i v) t (.slice (some ⟨g, o, none⟩) n c) T ∧ Upd (Only g) w (w.setCell ⟨g, o + i, none⟩ (.int .i64 v)) ∧ F g ∧ w.frozen? ⟨g, o + i, none⟩ = false := by
  obtain ⟨_, cs, hg⟩ := h.sx.typed g rfl
  have hu : Upd (Only g) w (w.setCell ⟨g, o + i, none⟩ (.int .i64 v)) := (Upd.refl _ _).set1 _
  refine ⟨⟨blk_other h.blk (p := ⟨g, o + i, none⟩) (fun e => h.sx.ne h.blk (by decide) g rfl e.symm) _, h.sx.set1 (f := fun n => .int .i64 n) hi v, h.st.upd hu (fun k hk e => ?_), h.ob, h.oX, h.oT⟩, hu, h.oX g rfl, blk_frozen hg _⟩
  have e : k = g := e
  subst e
  exact h.st.ne hg (by decide) k hk rfl
theorem Lane.setT {F : Nat → Prop} {w : World} {b : Nat} {a : List Int} {t : List Bool} {g o n c : Nat} {X : Value} (h : Lane F w b a t X (.slice (some ⟨g, o, none⟩) n c)) {i : Nat} (hi : i < t.length) (v : Bool) :
    Lane F (w.setCell ⟨g, o + i, none⟩ (.bool v)) b a (t.set i v) X (.slice (some ⟨g, o, none⟩) n c) ∧ Upd (Only g) w (w.setCell ⟨g, o + i, none⟩ (.bool v)) ∧ F g ∧ w.frozen? ⟨g, o + i, none⟩ = false := by
  obtain ⟨_, cs, hg⟩ := h.st.typed g rfl
  have hu : Upd (Only g) w (w.setCell ⟨g, o + i, none⟩ (.bool v)) := (Upd.refl _ _).set1 _
  refine ⟨⟨blk_other h.blk (p := ⟨g, o + i, none⟩) (fun e => h.st.ne h.blk (by decide) g rfl e.symm) _, h.sx.upd hu (fun k hk e => ?_), h.st.set1 (f := fun n => .bool n) hi v, h.ob, h.oX, h.oT⟩, hu, h.oT g rfl, blk_frozen hg _⟩
  have e : k = g := e
  subst e
  exact h.sx.ne hg (by decide) k hk rfl
theorem bc_at {w : World} {g o : Nat} {l : List Bool} (h : Arg w (some ⟨g, o, none⟩) 1 bc1 l) {i : Nat} (hi : i < l.length) : w.cell? ⟨g, o + i, none⟩ = some (.bool l[i]) ∧ g < w.heap.size := by
  obtain ⟨g', o', e, h1, h2⟩ := bc_cell h hi
  injection e with e
  injection e with e1 e2
  subst e1 e2
  exact ⟨h2, h1⟩
def PlanR (r : List (Nat × Nat) × Bool) (w : World) (e : Ending) (w' : World) : Prop := ∃ v, e = .returned (.tuple #[v, .bool r.2]) ∧ Sl w' w.heap.size 33 2 trC v r.1 ∧ Upd Nil w w'
theorem Upd.ofDrew {S : Nat → Prop} {w w' : World} (h : Upd S w w') : Upd S w.drew w' := ⟨h.os, h.output, h.size, h.block⟩
theorem row_len (a : List Int) : (row a).length = a.length := by unfold row; simp
theorem free_rep (n : Nat) : free (List.replicate n false) = n := by unfold free; simp [List.countP_replicate]
set_option maxHeartbeats 4000000 in
set_option maxRecDepth 100000 in
theorem planC (A B : Option Addr) (cA cB : Nat) (a b : List Int) (limit : Int) (w : World) (hA : Arg w A 1 ic a) (hB : Arg w B 1 ic b) (ha : a.length ≤ 1000) (hb : b.length ≤ 1000) :
    Calls Try.prog 13 #[.slice A a.length cA, .slice B b.length cB, .int .i64 limit] w (PlanR (planOf a b limit) w) := by
  by_cases hneg : limit < 0
  · rw [show planOf a b limit = ([], false) by unfold planOf; rw [if_pos hneg]]
    go_enter Try.func13, Try.ntmps13
    go_wp2_with fail
    go_ret2
    exact ⟨_, rfl, Sl.nil _ _ _ _ _, Upd.refl _ _⟩
  rw [show planOf a b limit = planF limit (row a) (row b) (List.replicate a.length false) (List.replicate b.length false) [] by unfold planOf; rw [if_neg hneg]]
  generalize hr0 : planF limit (row a) (row b) (List.replicate a.length false) (List.replicate b.length false) [] = r
  have hr := Lib.hid hr0
  clear hr0
  go_enter Try.func13, Try.ntmps13
  go_wp2_with fail
  refine (laneOf A cA a _ hA ha).mono ?_
  rintro e w1 ⟨b1, X, S, rfl, hx, hU1⟩
  go_wp2_with fail
  refine (laneOf B cB b _ (hB.upd hU1) hb).mono ?_
  rintro e w2 ⟨b2, Y, T, rfl, hy, hU2⟩
  replace hx := hx.upd0 hU2
  have hU := hU1.tr hU2
  have hs1 := hU1.size
  have hs2 := hU2.size
  have la := row_len a
  have lb := row_len b
  have hBa := row_bnd a
  have hBb := row_bnd b
  have hst := Lib.hid (show ([] : List (Nat × Nat)).length + free (List.replicate a.length false) = a.length by rw [free_rep]; simp)
  have hl1 := Lib.hid (show (List.replicate a.length false).length = (row a).length by simp [la])
  have hl2 := Lib.hid (show (List.replicate b.length false).length = (row b).length by simp [lb])
  generalize hN : a.length = N at *
  generalize hM : b.length = M at *
  generalize row a = x at *
  generalize row b = y at *
  generalize List.replicate N false = s at *
  generalize List.replicate M false = t at *
  clear hN hM hU1 hU2
  have hV : Sl w2 w2.heap.size 33 2 trC (.slice none 0 0) [] := Sl.nil _ _ _ _ _
  go_wp2_with fail
  go_loopw [10] (fun s10 wr => ∃ (x y : List Int) (s t : List Bool) (out : List (Nat × Nat)) (X S Y T V : Value), s10 = V ∧ Lane (Bt w.heap.size w1.heap.size) wr b1 x s X S ∧ Lane (Bt w1.heap.size w2.heap.size) wr b2 y t Y T ∧ Sl wr w2.heap.size 33 2 trC V out ∧ Upd Nil w wr ∧ w2.heap.size ≤ wr.heap.size ∧ Bnd x ∧ Bnd y ∧ Hid (x.length = N ∧ y.length = M ∧ s.length = N ∧ t.length = M) ∧ Hid (out.length + free s = N) ∧ Hid (planF limit x y s t out = r)) (fun s10 _ => N - lenOf s10)
  case atStart => exact ⟨x, y, s, t, [], X, S, Y, T, _, rfl, hx, hy, hV, hU, Nat.le_refl _, hBa, hBb, Lib.hid ⟨la, lb, hl1.out.trans la, hl2.out.trans lb⟩, hst, hr⟩
  case round =>
    clear hx hy hV hU hBa hBb hst hl1 hl2 hr la lb
    clear x y s t X S Y T
    obtain ⟨x, y, s, t, out, X, S, Y, T, V, rfl, hx, hy, hV, hU, hsz, hBx, hBy, hlen, hst, hr⟩ := hrel
    have hx1 : x.length ≤ 1000 := by have := hlen.out; omega
    have hy1 : y.length ≤ 1000 := by have := hlen.out; omega
    go_wp2_with fail
    refine (spreadC _ _ b1 b2 x y s t X S Y T _ hx hy hx1 hy1 hBx hBy).mono ?_
    rintro e w3 ⟨rfl, hU3⟩
    by_cases hsp : spread (x ++ y) ≤ limit
    · have hd := hr.out.symm.trans (plan_done hsp)
      subst hd
      have hsp2 : ¬ limit < spread (x ++ y) := by omega
      go_wp2_with fail
      go_ret2
      exact ⟨_, rfl, (hV.upd0 hU3).lower (by omega), hU.tr hU3⟩
    · have hsp2 : limit < spread (x ++ y) := by omega
      have q := tradeC _ _ b1 b2 x y s t X S Y T _ (hx.upd0 hU3) (hy.upd0 hU3) (by have := hlen.out; omega) (by have := hlen.out; omega) hx1 hy1
      rcases htr : trade x y s t with _ | ⟨i, k⟩
      · rw [htr] at q
        have hd := hr.out.symm.trans (plan_none hsp htr)
        subst hd
        clear hsp htr hr
        generalize spread (x ++ y) = sp at *
        go_wp2_with fail
        refine q.mono ?_
        rintro e w4 ⟨rfl, hU4⟩
        unfold trOf
        go_wp2_with fail
        go_ret2
        exact ⟨_, rfl, (((hV.upd0 hU3).upd0 hU4).lower (by omega)).alloc _, ((hU.tr hU3).tr hU4).alloc _⟩
      · rw [htr] at q
        obtain ⟨hi, hk, hsi, htk⟩ := trade_lt htr
        obtain ⟨AV, cV, hVf, -⟩ := hV.form
        subst hVf
        have hps := Lib.hid ((plan_some (out := out) hsp htr (by have := hlen.out; omega)).symm.trans hr.out)
        clear hsp htr hr
        generalize spread (x ++ y) = sp at *
        go_wp2_with fail
        refine q.mono ?_
        rintro e w4 ⟨rfl, hU4⟩
        unfold trOf
        go_wp2_with fail
        have hxW := ((hx.upd0 hU3).upd0 hU4).upd0 ((Upd.refl Nil w4).alloc (.cells #[.int .i64 i, .int .i64 k] 33))
        have hyW := ((hy.upd0 hU3).upd0 hU4).upd0 ((Upd.refl Nil w4).alloc (.cells #[.int .i64 i, .int .i64 k] 33))
        have hVW := ((hV.upd0 hU3).upd0 hU4).upd0 ((Upd.refl Nil w4).alloc (.cells #[.int .i64 i, .int .i64 k] 33))
        have hUW := ((hU.tr hU3).tr hU4).alloc (.cells #[.int .i64 i, .int .i64 k] 33)
        have hbt := blk_new w4 (.cells #[.int .i64 i, .int .i64 k] 33)
        have hsz4 : w2.heap.size ≤ w4.heap.size := by have := hU3.size; have := hU4.size; omega
        have hszW : w2.heap.size ≤ (w4.alloc (.cells #[.int .i64 i, .int .i64 k] 33)).heap.size := by simp; omega
        generalize w4.alloc (.cells #[.int .i64 i, .int .i64 k] 33) = W at *
        generalize w4.heap.size = nb at *
        clear hx hy hV hU hU3 hU4 hsz
        obtain ⟨AX, cX, hX, -⟩ := hxW.sx.form
        obtain ⟨AY, cY, hY, -⟩ := hyW.sx.form
        obtain ⟨AS, cS, hS, -⟩ := hxW.st.form
        obtain ⟨AT, cT, hT, -⟩ := hyW.st.form
        subst hX hY hS hT
        have his : i < s.length := by have := hlen.out; omega
        have hkt : k < t.length := by have := hlen.out; omega
        obtain ⟨gx, ox, hA1, -, c0⟩ := ic_cell (hxW.sx.cells ic_len (by omega)) hi
        obtain ⟨gy, oy, hA2, lty, c1⟩ := ic_cell (hyW.sx.cells ic_len (by omega)) hk
        obtain ⟨gs, os, hA3, -, -⟩ := bc_cell (hxW.st.cells bc1_len (by omega)) his
        obtain ⟨gt, ot, hA4, -, -⟩ := bc_cell (hyW.st.cells bc1_len (by omega)) hkt
        subst hA1 hA2 hA3 hA4
        have hfs := Lib.hid (free_set his hsi)
        have hvi := bnd_get hBx hi
        have hvk := bnd_get hBy hk
        rw [gD hi, gD hk] at hps
        generalize x[i] = vi at *
        generalize y[k] = vk at *
        clear hsi htk
        have hBx2 := bnd_set hBx hvk i
        have hBy2 := bnd_set hBy hvi k
        have hlen2 : Hid ((x.set i vk).length = N ∧ (y.set k vi).length = M ∧ (s.set i true).length = N ∧ (t.set k true).length = M) := Lib.hid (by simpa using hlen.out)
        have hFG : ∀ z, Bt w.heap.size w1.heap.size z → ¬ Bt w1.heap.size w2.heap.size z := fun z h1 h2 => by have := h1.2; have := h2.1; omega
        have fy0 := (hyW.setX hk vi).2.2.2
        obtain ⟨hx5, u5, F5, fz5⟩ := hxW.setX hi vk
        have hy5 := hyW.upd u5 (fun z e h2 => hFG _ F5 (by have e : z = gx := e; subst e; exact h2))
        obtain ⟨hy6, u6, G6, fz6⟩ := hy5.setX hk vi
        have c5 := (u5.cell (p := ⟨gy, oy + k, none⟩) lty (fun e => hFG _ F5 (by have e : gy = gx := e; rw [← e]; exact G6))).trans c1
        have hx6 := hx5.upd u6 (fun z e h2 => hFG _ h2 (by have e : z = gy := e; subst e; exact G6))
        have hbt6 := u6.blk (u5.blk hbt (fun e => by have e : nb = gx := e; have := F5.2; omega)) (fun e => by have e : nb = gy := e; have := G6.2; omega)
        have hV6 := ((hVW.upd u5 (fun z hz e => by have e : z = gx := e; have := (hVW.typed z hz).1; have := F5.2; omega)).upd u6 (fun z hz e => by have e : z = gy := e; have := (hVW.typed z hz).1; have := G6.2; omega)).drew
        have hU6 := ((hUW.setOwn (g := gx) (i := ox + i) (.inr F5.1) (.int .i64 vk)).setOwn (g := gy) (i := oy + k) (.inr (by have := G6.1; omega)) (.int .i64 vi)).drew
        have hx6 := hx6.upd0 (Upd.refl Nil _).drew
        have hy6 := hy6.upd0 (Upd.refl Nil _).drew
        have hbt6 := blk_drew hbt6
        have hsz6 : ((W.setCell ⟨gx, ox + i, none⟩ (.int .i64 vk)).setCell ⟨gy, oy + k, none⟩ (.int .i64 vi)).drew.heap.size = W.heap.size := by simp [World.setCell]
        have b0 := blk_cell hxW.blk 0
        have b1' := blk_cell hyW.blk 0
        have t0 : ∀ w', Upd (fun z => z = gx ∨ z = gy) W.drew w' → w'.cell? ⟨nb, 0, none⟩ = some (.int .i64 i) := fun w' u => blk_cell (u.blk (blk_drew hbt) (fun e => e.elim (fun e => by have := F5.2; omega) (fun e => by have := G6.2; omega))) 0
        have t1 : ∀ w', Upd (fun z => z = gx ∨ z = gy) W.drew w' → w'.cell? ⟨nb, 1, none⟩ = some (.int .i64 k) := fun w' u => blk_cell (u.blk (blk_drew hbt) (fun e => e.elim (fun e => by have := F5.2; omega) (fun e => by have := G6.2; omega))) 1
        have t0' := t0 _ (Upd.refl _ _)
        have t1' := t1 _ (Upd.refl _ _)
        have t0'' : W.cell? ⟨nb, 0, none⟩ = _ := t0'
        have t1'' : W.cell? ⟨nb, 1, none⟩ = _ := t1'
        simp only [List.getElem?_toArray, List.getElem?_cons_zero, List.getElem?_cons_succ] at b0 b1'
        have i1 : (i : Int) < (x.length : Int) := by omega
        have i2 : (k : Int) < (y.length : Int) := by omega
        have HH := Lib.hid (And.intro hx6 <| And.intro hy6 <| And.intro hV6 <| And.intro hU6 <| And.intro hbt6 <| And.intro hsz6 <| And.intro hBx2 <| And.intro hBy2 <| And.intro hlen2 <| And.intro hst <| And.intro hps <| And.intro hfs <| And.intro hszW <| And.intro hsz4 <| And.intro hs1 <| And.intro hs2 <| And.intro F5 <| And.intro G6 <| And.intro his <| And.intro hkt <| And.intro ha <| And.intro hb <| And.intro hx1 hy1)
        clear hxW hyW hbt hVW hUW hx5 hy5 u5 u6 hFG hvi hvk hBx hBy hlen hi hk lty hsp2
        clear hx6 hy6 hV6 hU6 hbt6 hsz6 hBx2 hBy2 hlen2 hst hps hfs hszW hsz4 hs1 hs2 F5 G6 his hkt ha hb hx1 hy1
        clear hA hB hneg
        have hs1' : ∀ v, Upd (fun z => z = gx ∨ z = gy) W.drew (W.setCell ⟨gx, ox + i, none⟩ v).drew := fun v => Upd.ofDrew ((Upd.refl _ W).set (p := ⟨gx, ox + i, none⟩) (.inl (.inl rfl)) v).drew
        have hs2' : ∀ v, Upd (fun z => z = gx ∨ z = gy) (W.setCell ⟨gx, ox + i, none⟩ (.int .i64 vk)).drew ((W.setCell ⟨gx, ox + i, none⟩ (.int .i64 vk)).setCell ⟨gy, oy + k, none⟩ v).drew := fun v => Upd.ofDrew ((Upd.refl _ _).set (p := ⟨gy, oy + k, none⟩) (.inl (.inr rfl)) v).drew
        refine wp_region_lexW (Upd (fun z => z = gx ∨ z = gy)) (fun _ => Upd.refl _ _) (fun _ _ _ h k => h.tr k) [(0, true), (1, true), (2, true), (3, true), (4, true), (5, true), (6, false), (7, false), (8, false), (9, true), (10, false), (11, false), (12, true), (13, true), (14, true), (15, true), (16, true), (17, true), (18, true), (19, true), (20, false), (21, false), (22, false), (23, true), (24, false), (25, false), (26, false), (27, true), (28, true), (29, false), (30, false), (31, false)] (by kernel_rfl) (by kernel_rfl) rfl (by kernel_rfl) (by kernel_rfl) ?_
        simp only [inOrderW, List.filterMap_cons, List.filterMap_nil, List.getElem?_cons_zero, List.getElem?_cons_succ, Option.map_some]
        try simp only [Act.put, List.setIfInBounds_toArray, List.set_cons_zero, List.set_cons_succ]
        repeat
          first
          | (refine lexW_sure (v := ?_) rfl rfl ?_ ?_
             rotate_left
             · go_simp
               try with_reducible rfl
             try simp only [Act.put, List.setIfInBounds_toArray, List.set_cons_zero, List.set_cons_succ])
          | (refine lexW_pure (v := ?_) rfl rfl ?_ ?_
             rotate_left
             · intro w' hU'
               go_simp
               try with_reducible rfl
             try simp only [Act.put, List.setIfInBounds_toArray, List.set_cons_zero, List.set_cons_succ])
          | (refine lexW_skip rfl ?_
             try simp only [Act.put, List.setIfInBounds_toArray, List.set_cons_zero, List.set_cons_succ])
        refine lexW_store (w' := (W.setCell ⟨gx, ox + i, none⟩ (.int .i64 vk)).drew) rfl rfl (by go_simp) (hs1' _) ?_
        try simp only [Act.put, List.setIfInBounds_toArray, List.set_cons_zero, List.set_cons_succ]
        repeat
          first
          | (refine lexW_sure (v := ?_) rfl rfl ?_ ?_
             rotate_left
             · go_simp
               try with_reducible rfl
             try simp only [Act.put, List.setIfInBounds_toArray, List.set_cons_zero, List.set_cons_succ])
          | (refine lexW_pure (v := ?_) rfl rfl ?_ ?_
             rotate_left
             · intro w' hU'
               go_simp
               try with_reducible rfl
             try simp only [Act.put, List.setIfInBounds_toArray, List.set_cons_zero, List.set_cons_succ])
          | (refine lexW_skip rfl ?_
             try simp only [Act.put, List.setIfInBounds_toArray, List.set_cons_zero, List.set_cons_succ])
        refine lexW_store (w' := ((W.setCell ⟨gx, ox + i, none⟩ (.int .i64 vk)).setCell ⟨gy, oy + k, none⟩ (.int .i64 vi)).drew) rfl rfl (by go_simp) (hs2' _) ?_
        refine lexW_done ?_
        go_wp2_with fail
        clear hs1' hs2' b0 b1' t0 t1 t0' t1' t0'' t1'' c0 c1 c5 fz5 fz6 fy0 i1 i2
        obtain ⟨hx6, hy6, hV6, hU6, hbt6, hsz6, hBx2, hBy2, hlen2, hst, hps, hfs, hszW, hsz4, hs1, hs2, F5, G6, his, hkt, ha, hb, hx1, hy1⟩ := HH.out
        clear HH
        rw [← hsz6] at hszW
        clear hsz6
        generalize ((W.setCell ⟨gx, ox + i, none⟩ (.int .i64 vk)).setCell ⟨gy, oy + k, none⟩ (.int .i64 vi)).drew = W6 at *
        have hFG : ∀ z, Bt w.heap.size w1.heap.size z → ¬ Bt w1.heap.size w2.heap.size z := fun z h1 h2 => by have := h1.2; have := h2.1; omega
        obtain ⟨c0, _⟩ := bc_at (hx6.st.cells bc1_len (by omega)) his
        obtain ⟨c1, lty⟩ := bc_at (hy6.st.cells bc1_len (by omega)) hkt
        obtain ⟨hx7, u7, F7, fz7⟩ := hx6.setT his true
        have hy7 := hy6.upd u7 (fun z e h2 => hFG _ F7 (by have e : z = gs := e; subst e; exact h2))
        obtain ⟨hy8, u8, G8, fz8⟩ := hy7.setT hkt true
        have c5 := (u7.cell (p := ⟨gt, ot + k, none⟩) lty (fun e => hFG _ F7 (by have e : gt = gs := e; rw [← e]; exact G8))).trans c1
        have hx8 := hx7.upd u8 (fun z e h2 => hFG _ h2 (by have e : z = gt := e; subst e; exact G8))
        have hbt8 := u8.blk (u7.blk hbt6 (fun e => by have e : nb = gs := e; have := F7.2; omega)) (fun e => by have e : nb = gt := e; have := G8.2; omega)
        have hV8 := ((hV6.upd u7 (fun z hz e => by have e : z = gs := e; have := (hV6.typed z hz).1; have := F7.2; omega)).upd u8 (fun z hz e => by have e : z = gt := e; have := (hV6.typed z hz).1; have := G8.2; omega)).drew
        have hU8 := ((hU6.setOwn (g := gs) (i := os + i) (.inr F7.1) (.bool true)).setOwn (g := gt) (i := ot + k) (.inr (by have := G8.1; omega)) (.bool true)).drew
        have hx8 := hx8.upd0 (Upd.refl Nil _).drew
        have hy8 := hy8.upd0 (Upd.refl Nil _).drew
        have hbt8 := blk_drew hbt8
        have hsz8 : ((W6.setCell ⟨gs, os + i, none⟩ (.bool true)).setCell ⟨gt, ot + k, none⟩ (.bool true)).drew.heap.size = W6.heap.size := by simp [World.setCell]
        have b0 := blk_cell hx6.blk 1
        have b1' := blk_cell hy6.blk 1
        have t0 : ∀ w', Upd (fun z => z = gs ∨ z = gt) W6.drew w' → w'.cell? ⟨nb, 0, none⟩ = some (.int .i64 i) := fun w' u => blk_cell (u.blk (blk_drew hbt6) (fun e => e.elim (fun e => by have := F7.2; omega) (fun e => by have := G8.2; omega))) 0
        have t1 : ∀ w', Upd (fun z => z = gs ∨ z = gt) W6.drew w' → w'.cell? ⟨nb, 1, none⟩ = some (.int .i64 k) := fun w' u => blk_cell (u.blk (blk_drew hbt6) (fun e => e.elim (fun e => by have := F7.2; omega) (fun e => by have := G8.2; omega))) 1
        have t0'' : W6.cell? ⟨nb, 0, none⟩ = _ := t0 W6.drew (Upd.refl _ _)
        have t1'' : W6.cell? ⟨nb, 1, none⟩ = _ := t1 W6.drew (Upd.refl _ _)
        simp only [List.getElem?_toArray, List.getElem?_cons_zero, List.getElem?_cons_succ] at b0 b1'
        have i1 : (i : Int) < (s.length : Int) := by omega
        have i2 : (k : Int) < (t.length : Int) := by omega
        have hs1' : ∀ v, Upd (fun z => z = gs ∨ z = gt) W6.drew (W6.setCell ⟨gs, os + i, none⟩ v).drew := fun v => Upd.ofDrew ((Upd.refl _ W6).set (p := ⟨gs, os + i, none⟩) (.inl (.inl rfl)) v).drew
        have hs2' : ∀ v, Upd (fun z => z = gs ∨ z = gt) (W6.setCell ⟨gs, os + i, none⟩ (.bool true)).drew ((W6.setCell ⟨gs, os + i, none⟩ (.bool true)).setCell ⟨gt, ot + k, none⟩ v).drew := fun v => Upd.ofDrew ((Upd.refl _ _).set (p := ⟨gt, ot + k, none⟩) (.inl (.inr rfl)) v).drew
        have HH := Lib.hid (And.intro hx8 <| And.intro hy8 <| And.intro hV8 <| And.intro hU8 <| And.intro hbt8 <| And.intro hsz8 <| And.intro hBx2 <| And.intro hBy2 <| And.intro hlen2 <| And.intro hst <| And.intro hps <| And.intro hfs <| And.intro hszW <| And.intro hs1 <| And.intro hs2 <| And.intro ha hb)
        clear hx6 hy6 hV6 hU6 hbt6 hx7 hy7 u7 u8 hx8 hy8 hV8 hU8 hbt8 hsz8 hBx2 hBy2 hlen2 hst hps hfs hszW hs1 hs2 ha hb hFG F7 G8 F5 G6 hsz4 hx1 hy1
        refine wp_region_lexW (Upd (fun z => z = gs ∨ z = gt)) (fun _ => Upd.refl _ _) (fun _ _ _ h k => h.tr k) [(0, true), (1, true), (2, true), (3, true), (4, true), (5, true), (6, false), (7, false), (8, false), (9, true), (10, false), (11, false), (12, true), (13, false), (14, false), (15, false)] (by kernel_rfl) (by kernel_rfl) rfl (by kernel_rfl) (by kernel_rfl) ?_
        simp only [inOrderW, List.filterMap_cons, List.filterMap_nil, List.getElem?_cons_zero, List.getElem?_cons_succ, Option.map_some]
        try simp only [Act.put, List.setIfInBounds_toArray, List.set_cons_zero, List.set_cons_succ]
        repeat
          first
          | (refine lexW_sure (v := ?_) rfl rfl ?_ ?_
             rotate_left
             · go_simp
               try with_reducible rfl
             try simp only [Act.put, List.setIfInBounds_toArray, List.set_cons_zero, List.set_cons_succ])
          | (refine lexW_pure (v := ?_) rfl rfl ?_ ?_
             rotate_left
             · intro w' hU'
               go_simp
               try with_reducible rfl
             try simp only [Act.put, List.setIfInBounds_toArray, List.set_cons_zero, List.set_cons_succ])
          | (refine lexW_skip rfl ?_
             try simp only [Act.put, List.setIfInBounds_toArray, List.set_cons_zero, List.set_cons_succ])
        refine lexW_store (w' := (W6.setCell ⟨gs, os + i, none⟩ (.bool true)).drew) rfl rfl (by go_simp) (hs1' _) ?_
        try simp only [Act.put, List.setIfInBounds_toArray, List.set_cons_zero, List.set_cons_succ]
        repeat
          first
          | (refine lexW_sure (v := ?_) rfl rfl ?_ ?_
             rotate_left
             · go_simp
               try with_reducible rfl
             try simp only [Act.put, List.setIfInBounds_toArray, List.set_cons_zero, List.set_cons_succ])
          | (refine lexW_pure (v := ?_) rfl rfl ?_ ?_
             rotate_left
             · intro w' hU'
               go_simp
               try with_reducible rfl
             try simp only [Act.put, List.setIfInBounds_toArray, List.set_cons_zero, List.set_cons_succ])
          | (refine lexW_skip rfl ?_
             try simp only [Act.put, List.setIfInBounds_toArray, List.set_cons_zero, List.set_cons_succ])
        refine lexW_store (w' := ((W6.setCell ⟨gs, os + i, none⟩ (.bool true)).setCell ⟨gt, ot + k, none⟩ (.bool true)).drew) rfl rfl (by go_simp) (hs2' _) ?_
        refine lexW_done ?_
        clear hs1' hs2' b0 b1' t0 t1 t0'' t1'' c0 c1 c5 fz7 fz8 i1 i2
        obtain ⟨hx8, hy8, hV8, hU8, hbt8, hsz8, hBx2, hBy2, hlen2, hst, hps, hfs, hszW, hs1, hs2, ha, hb⟩ := HH.out
        clear HH
        rw [← hsz8] at hszW
        clear hsz8
        generalize ((W6.setCell ⟨gs, os + i, none⟩ (.bool true)).setCell ⟨gt, ot + k, none⟩ (.bool true)).drew = W8 at *
        have t0 := blk_cell hbt8 0
        have t1 := blk_cell hbt8 1
        simp only [List.getElem?_toArray, List.getElem?_cons_zero, List.getElem?_cons_succ] at t0 t1
        have hol : out.length ≤ 1000 := by have := hst.out; omega
        go_wp2_with (at_builtin; refine wp_app1 w2.heap.size rfl (.tmp 77) (.tmp 79) elemTR rfl W8 (i, k) (by rfl) _ out rfl (by simp [Act.eval]) hV8 hszW (by omega) (by unfold maxLen; omega) ?_; intro A1 c1 w11 hv11 hg11 hat)
        have u11 : Upd (fun z => w2.heap.size ≤ z) W8 w11 := (Upd.refl _ W8).grown hg11 (fun z hz => .inl (hV8.typed z hz).1)
        have hx9 := hx8.upd u11 (fun z hz h2 => by have := h2.2; omega)
        have hy9 := hy8.upd u11 (fun z hz h2 => by have := h2.2; omega)
        have hsz9 := Nat.le_trans hszW u11.size
        go_roundw
        case measure =>
          have := hst.out
          have := hfs.out
          show N - lenOf (.slice A1 (out.length + 1) c1) < N - lenOf (.slice AV out.length cV)
          simp only [lenOf]
          omega
        case rel => exact ⟨_, _, _, _, _, _, _, _, _, _, rfl, hx9, hy9, hv11, hU8.trans u11 (fun z hz => .inr (by omega)), hsz9, hBx2, hBy2, hlen2, Lib.hid (by have := hst.out; have := hfs.out; simp; omega), hps⟩
end Go.Proofs.Ytenhimaclecdpaa.Level
