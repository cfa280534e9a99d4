/-
  Levelling: the walk of the reference's Plan. Conditions: what the slices hold.
-/
import Derived.Test.YtenhimaclecdpaaLevelH
import Derived.Deep.Cut
import Derived.Deep.CutRange
import Derived.Deep.DeepCutAuto
namespace Go.Proofs.Ytenhimaclecdpaa.Level
open Go.RowKit Go.Proofs.Ytenhimaclecdpaa.Base Go.Proofs.Ytenhimaclecdpaa.Ints
set_option linter.unusedVariables false
set_option linter.unusedSimpArgs false
theorem elemPR : Elem Try.prog 28 34 (.agg #[.int .i64 0, .int .i64 0]) 2 16 trC := ⟨Try.underlying28, by kernel_rfl, rfl, by omega, trC_len, trC_one⟩
/-- A row and its marks. -/
structure Pair (F : Nat → Prop) (w : World) (a : List Int) (t : List Bool) (X T : Value) : Prop where
  sx : Sl w 0 3 1 ic X a
  st : Sl w 0 4 1 bc1 T t
  oX : ∀ k, X.ownBlock = some k → F k
  oT : ∀ k, T.ownBlock = some k → F k
theorem Pair.upd {F : Nat → Prop} {w w' : World} {a : List Int} {t : List Bool} {X T : Value} (h : Pair F w a t X T) {S : Nat → Prop} (u : Upd S w w') (hn : ∀ x, S x → ¬ F x) : Pair F w' a t X T :=
  ⟨h.sx.upd u (fun k hk e => hn _ e (h.oX k hk)), h.st.upd u (fun k hk e => hn _ e (h.oT k hk)), h.oX, h.oT⟩
theorem Pair.upd0 {F : Nat → Prop} {w w' : World} {a : List Int} {t : List Bool} {X T : Value} (h : Pair F w a t X T) (u : Upd Nil w w') : Pair F w' a t X T := h.upd u (fun _ hx => hx.elim)
theorem Pair.setX {F : Nat → Prop} {w : World} {a : List Int} {t : List Bool} {g o n c : Nat} {T : Value} (h : Pair F w a t (.slice (some ⟨g, o, none⟩) n c) T) {i : Nat} (hi : i < a.length) (v : Int) :
    Pair F (w.setCell ⟨g, o + i, none⟩ (.int .i64 v)) (a.set i v) t (.slice (some ⟨g, o, none⟩) n c) T ∧ Upd (Only g) w (w.setCell ⟨g, o + i, none⟩ (.int .i64 v)) ∧ F g ∧ w.frozen? ⟨g, o + i, none⟩ = false := by
  obtain ⟨_, cs, hg⟩ := h.sx.typed g rfl
  have hu : Upd (Only g) w (w.setCell ⟨g, o + i, none⟩ (.int .i64 v)) := (Upd.refl _ _).set1 _
  refine ⟨⟨h.sx.set1 (f := fun n => .int .i64 n) hi v, h.st.upd hu (fun k hk e => ?_), h.oX, h.oT⟩, hu, h.oX g rfl, blk_frozen hg _⟩
  have e : k = g := e
  subst e
  exact h.st.ne hg (by decide) k hk rfl
theorem Pair.setT {F : Nat → Prop} {w : World} {a : List Int} {t : List Bool} {g o n c : Nat} {X : Value} (h : Pair F w a t X (.slice (some ⟨g, o, none⟩) n c)) {i : Nat} (hi : i < t.length) (v : Bool) :
    Pair F (w.setCell ⟨g, o + i, none⟩ (.bool v)) a (t.set i v) X (.slice (some ⟨g, o, none⟩) n c) ∧ Upd (Only g) w (w.setCell ⟨g, o + i, none⟩ (.bool v)) ∧ F g ∧ w.frozen? ⟨g, o + i, none⟩ = false := by
  obtain ⟨_, cs, hg⟩ := h.st.typed g rfl
  have hu : Upd (Only g) w (w.setCell ⟨g, o + i, none⟩ (.bool v)) := (Upd.refl _ _).set1 _
  refine ⟨⟨h.sx.upd hu (fun k hk e => ?_), h.st.set1 (f := fun n => .bool n) hi v, h.oX, h.oT⟩, hu, h.oT g rfl, blk_frozen hg _⟩
  have e : k = g := e
  subst e
  exact h.sx.ne hg (by decide) k hk rfl
def RPlanR (r : List (Nat × Nat) × Bool) (w : World) (e : Ending) (w' : World) : Prop := ∃ v, e = .returned (.tuple #[v, .bool r.2]) ∧ Sl w' w.heap.size 34 2 trC v r.1 ∧ Upd Nil w w'
theorem made2 (w : World) (n m : Nat) (hn : n ≤ 1000000) (hm : m ≤ 1000000) : Sl ((w.alloc (.cells (Array.replicate n (.bool false)) 4)).alloc (.cells (Array.replicate m (.bool false)) 4)).drew 0 4 1 bc1 (.slice (some ⟨w.heap.size, 0, none⟩) n n) (List.replicate n false) ∧
    Sl ((w.alloc (.cells (Array.replicate n (.bool false)) 4)).alloc (.cells (Array.replicate m (.bool false)) 4)).drew 0 4 1 bc1 (.slice (some ⟨w.heap.size + 1, 0, none⟩) m m) (List.replicate m false) ∧
    Upd Nil w ((w.alloc (.cells (Array.replicate n (.bool false)) 4)).alloc (.cells (Array.replicate m (.bool false)) 4)).drew ∧
    ((w.alloc (.cells (Array.replicate n (.bool false)) 4)).alloc (.cells (Array.replicate m (.bool false)) 4)).drew.heap.size = w.heap.size + 2 := by
  have h1 := sl_made w n hn
  have h2 := sl_made (w.alloc (.cells (Array.replicate n (.bool false)) 4)) m hm
  rw [show (w.alloc (.cells (Array.replicate n (.bool false)) 4)).heap.size = w.heap.size + 1 by simp] at h2
  rw [List.toArray_replicate] at h1 h2
  exact ⟨(h1.alloc _).drew, h2.drew, (((Upd.refl Nil w).alloc _).alloc _).drew, by simp⟩
theorem beat_dec (M : Bool) (v x : Int) : (M = true ∧ (beat M v x = true ↔ x < v)) ∨ (M = false ∧ (beat M v x = true ↔ v < x)) := by
  cases M <;> simp [beat]
theorem trade_of {x y : List Int} {s t : List Bool} {M : Bool} (h : decide (sum y ≤ sum x) = M) : trade x y s t = match pick x s M, pick y t (!M) with | some i, some k => if beat M (x.getD i 0) (y.getD k 0) then some (i, k) else none | _, _ => none := by
  unfold trade
  rw [h]
  rfl
set_option maxHeartbeats 8000000 in
set_option maxRecDepth 100000 in
theorem rplanC (A B : Option Addr) (cA cB : Nat) (a b : List Int) (limit : Int) (w : World) (hA : Arg w A 1 ic a) (hB : Arg w B 1 ic b) (ha : a.length ≤ 1000) (hb : b.length ≤ 1000) :
    Calls Try.prog 14 #[.slice A a.length cA, .slice B b.length cB, .int .i64 limit] w (RPlanR (planOf a b limit) w) := by
  by_cases hneg : limit < 0
  · rw [show planOf a b limit = ([], false) by unfold planOf; rw [if_pos hneg]]
    go_enter Try.func14, Try.ntmps14
    go_wp2_with fail
    go_ret2
    exact ⟨_, rfl, Sl.nil _ _ _ _ _, Upd.refl _ _⟩
  rw [show planOf a b limit = planF limit (row a) (row b) (List.replicate a.length false) (List.replicate b.length false) [] by unfold planOf; rw [if_neg hneg]]
  generalize hr0 : planF limit (row a) (row b) (List.replicate a.length false) (List.replicate b.length false) [] = r
  have hr := Lib.hid hr0
  clear hr0
  have hmk1 := mkB a.length (by omega)
  have hmk2 := mkB b.length (by omega)
  go_enter Try.func14, Try.ntmps14
  go_wp2_with fail
  refine (rrow A cA a _ hA ha).mono ?_
  rintro e w1 ⟨X, rfl, hx, hU1⟩
  go_wp2_with fail
  refine (rrow B cB b _ (hB.upd hU1) hb).mono ?_
  rintro e w2 ⟨Y, rfl, hy, hU2⟩
  obtain ⟨AX, cX, rfl, -⟩ := hx.form
  obtain ⟨AY, cY, rfl, -⟩ := hy.form
  rw [row_len] at hx hy ⊢
  rw [row_len]
  go_wp2_with fail
  go_cut [10, 11] from 22 (fun s10 s11 wc => ∃ (gs gt : Nat) (Fx Fy : Nat → Prop), s10 = .slice (some ⟨gs, 0, none⟩) a.length a.length ∧ s11 = .slice (some ⟨gt, 0, none⟩) b.length b.length ∧ Pair Fx wc (row a) (List.replicate a.length false) (.slice AX a.length cX) (.slice (some ⟨gs, 0, none⟩) a.length a.length) ∧ Pair Fy wc (row b) (List.replicate b.length false) (.slice AY b.length cY) (.slice (some ⟨gt, 0, none⟩) b.length b.length) ∧ (∀ z, Fx z → ¬ Fy z) ∧ (∀ z, Fx z → w.heap.size ≤ z ∧ z < wc.heap.size) ∧ (∀ z, Fy z → w.heap.size ≤ z ∧ z < wc.heap.size) ∧ Upd Nil w wc)
  case first =>
    go_region
    · obtain ⟨hs3, ht3, hU3, hz3⟩ := made2 w2 a.length b.length (by omega) (by omega)
      have hFG : ∀ z, (Bt w.heap.size w1.heap.size z ∨ z = w2.heap.size) → ¬ (Bt w1.heap.size w2.heap.size z ∨ z = (w2.heap.size + 1)) := fun z h1 h2 => by unfold Bt at *; have := hU1.size; have := hU2.size; omega
      have hFx : ∀ z, (Bt w.heap.size w1.heap.size z ∨ z = w2.heap.size) → w.heap.size ≤ z ∧ z < w2.heap.size + 2 := fun z h1 => by unfold Bt at *; have := hU1.size; have := hU2.size; omega
      have hFy : ∀ z, (Bt w1.heap.size w2.heap.size z ∨ z = (w2.heap.size + 1)) → w.heap.size ≤ z ∧ z < w2.heap.size + 2 := fun z h1 => by unfold Bt at *; have := hU1.size; have := hU2.size; omega
      have hx3 : Pair (fun z => Bt w.heap.size w1.heap.size z ∨ z = w2.heap.size) _ (row a) (List.replicate a.length false) (.slice AX a.length cX) (.slice (some ⟨w2.heap.size, 0, none⟩) a.length a.length) :=
        ⟨(hx.upd0 (hU2.tr hU3)).lower (Nat.zero_le _), hs3, fun z hz => .inl ⟨(hx.typed z hz).1, hx.lt z hz⟩, fun z hz => .inr (by simpa [Value.ownBlock, eq_comm] using hz)⟩
      have hy3 : Pair (fun z => Bt w1.heap.size w2.heap.size z ∨ z = (w2.heap.size + 1)) _ (row b) (List.replicate b.length false) (.slice AY b.length cY) (.slice (some ⟨(w2.heap.size + 1), 0, none⟩) b.length b.length) :=
        ⟨(hy.upd0 hU3).lower (Nat.zero_le _), ht3, fun z hz => .inl ⟨(hy.typed z hz).1, hy.lt z hz⟩, fun z hz => .inr (by simpa [Value.ownBlock, eq_comm] using hz)⟩
      rw [← hz3] at hFx hFy
      go_wp2_with fail
      go_meet
      case rel => exact ⟨w2.heap.size, (w2.heap.size + 1), _, _, rfl, rfl, hx3, hy3, hFG, hFx, hFy, (hU1.tr hU2).tr hU3⟩
    · obtain ⟨ht3, hs3, hU3, hz3⟩ := made2 w2 b.length a.length (by omega) (by omega)
      have hFG : ∀ z, (Bt w.heap.size w1.heap.size z ∨ z = (w2.heap.size + 1)) → ¬ (Bt w1.heap.size w2.heap.size z ∨ z = w2.heap.size) := fun z h1 h2 => by unfold Bt at *; have := hU1.size; have := hU2.size; omega
      have hFx : ∀ z, (Bt w.heap.size w1.heap.size z ∨ z = (w2.heap.size + 1)) → w.heap.size ≤ z ∧ z < w2.heap.size + 2 := fun z h1 => by unfold Bt at *; have := hU1.size; have := hU2.size; omega
      have hFy : ∀ z, (Bt w1.heap.size w2.heap.size z ∨ z = w2.heap.size) → w.heap.size ≤ z ∧ z < w2.heap.size + 2 := fun z h1 => by unfold Bt at *; have := hU1.size; have := hU2.size; omega
      have hx3 : Pair (fun z => Bt w.heap.size w1.heap.size z ∨ z = (w2.heap.size + 1)) _ (row a) (List.replicate a.length false) (.slice AX a.length cX) (.slice (some ⟨(w2.heap.size + 1), 0, none⟩) a.length a.length) :=
        ⟨(hx.upd0 (hU2.tr hU3)).lower (Nat.zero_le _), hs3, fun z hz => .inl ⟨(hx.typed z hz).1, hx.lt z hz⟩, fun z hz => .inr (by simpa [Value.ownBlock, eq_comm] using hz)⟩
      have hy3 : Pair (fun z => Bt w1.heap.size w2.heap.size z ∨ z = w2.heap.size) _ (row b) (List.replicate b.length false) (.slice AY b.length cY) (.slice (some ⟨w2.heap.size, 0, none⟩) b.length b.length) :=
        ⟨(hy.upd0 hU3).lower (Nat.zero_le _), ht3, fun z hz => .inl ⟨(hy.typed z hz).1, hy.lt z hz⟩, fun z hz => .inr (by simpa [Value.ownBlock, eq_comm] using hz)⟩
      rw [← hz3] at hFx hFy
      go_wp2_with fail
      go_meet
      case rel => exact ⟨(w2.heap.size + 1), w2.heap.size, _, _, rfl, rfl, hx3, hy3, hFG, hFx, hFy, (hU1.tr hU2).tr hU3⟩
  case rest =>
    rename World => w3
    obtain ⟨gs, gt, Fx, Fy, rfl, rfl, hx3, hy3, hFG, hFx, hFy, hU⟩ := hcut
    have hw3 := hU.size
    have la := row_len a
    have lb := row_len b
    have hBa := row_bnd a
    have hBb := row_bnd b
    have hst := Lib.hid (show ([] : List (Nat × Nat)).length + free (List.replicate a.length false) = a.length by rw [free_rep]; simp)
    have hl1 := Lib.hid (show (List.replicate a.length false).length = (row a).length by simp [la])
    have hl2 := Lib.hid (show (List.replicate b.length false).length = (row b).length by simp [lb])
    clear hx hy hU1 hU2 hmk1 hmk2
    generalize hN : a.length = N at *
    generalize hM : b.length = M at *
    generalize row a = x at *
    generalize row b = y at *
    generalize List.replicate N false = s at *
    generalize List.replicate M false = t at *
    clear hN hM hA hB
    have hV : Sl w3 w3.heap.size 34 2 trC (.slice none 0 0) [] := Sl.nil _ _ _ _ _
    go_wp2_with fail
    go_loopw [12] (fun s12 wr => ∃ (x y : List Int) (s t : List Bool) (out : List (Nat × Nat)) (V : Value), s12 = V ∧ Pair Fx wr x s (.slice AX N cX) (.slice (some ⟨gs, 0, none⟩) N N) ∧ Pair Fy wr y t (.slice AY M cY) (.slice (some ⟨gt, 0, none⟩) M M) ∧ Sl wr w3.heap.size 34 2 trC V out ∧ Upd Nil w wr ∧ w3.heap.size ≤ wr.heap.size ∧ Bnd x ∧ Bnd y ∧ Hid (x.length = N ∧ y.length = M ∧ s.length = N ∧ t.length = M) ∧ Hid (out.length + free s = N) ∧ Hid (planF limit x y s t out = r)) (fun s12 _ => N - lenOf s12)
    case atStart => exact ⟨x, y, s, t, [], _, rfl, hx3, hy3, hV, hU, Nat.le_refl _, hBa, hBb, Lib.hid ⟨la, lb, hl1.out.trans la, hl2.out.trans lb⟩, hst, hr⟩
    case round =>
      clear hx3 hy3 hV hU hBa hBb hst hl1 hl2 hr la lb
      clear x y s t
      obtain ⟨x, y, s, t, out, V, rfl, hx, hy, hV, hU, hsz, hBx, hBy, hlen, hst, hr⟩ := hrel
      have q1 := rspread AX AY cX cY x y wr (hx.sx.cells ic_len (by omega)) (hy.sx.cells ic_len (by omega)) (by have := hlen.out; omega) (by have := hlen.out; omega) hBx hBy
      rw [hlen.out.1, hlen.out.2.1] at q1
      by_cases hsp : spread (x ++ y) ≤ limit
      · have hd := hr.out.symm.trans (plan_done hsp)
        subst hd
        have hsp2 : ¬ limit < spread (x ++ y) := by omega
        go_wp2_with fail
        refine q1.mono ?_
        rintro e w4 ⟨rfl, hU4⟩
        go_wp2_with fail
        go_ret2
        exact ⟨_, rfl, (hV.upd0 hU4).lower hw3, hU.tr hU4⟩
      · have hsp2 : limit < spread (x ++ y) := by omega
        obtain ⟨AV, cV, hVf, -⟩ := hV.form
        subst hVf
        have qs1 : ∀ w', Upd Nil wr w' → Calls Try.prog 16 #[.slice AX N cX] w' (IntR (sum x) w') := fun w' u => by
          have := rsumC AX cX x w' ((hx.sx.upd0 u).cells ic_len (by omega)) (by have := hlen.out; omega)
          rwa [hlen.out.1] at this
        have qs2 : ∀ w', Upd Nil wr w' → Calls Try.prog 16 #[.slice AY M cY] w' (IntR (sum y) w') := fun w' u => by
          have := rsumC AY cY y w' ((hy.sx.upd0 u).cells ic_len (by omega)) (by have := hlen.out; omega)
          rwa [hlen.out.2.1] at this
        obtain ⟨F1, hM⟩ : ∃ F1, decide (sum y ≤ sum x) = F1 := ⟨_, rfl⟩
        have htr := trade_of (s := s) (t := t) hM
        have pk1 : ∀ w', Upd Nil wr w' → Calls Try.prog 46 #[.slice AX N cX, .slice (some ⟨gs, 0, none⟩) N N, .bool F1] w' (IntR (optI (pick x s F1)) w') := fun w' u => by
          have := pickC AX (some ⟨gs, 0, none⟩) cX N x s w' ((hx.sx.upd0 u).cells ic_len (by omega)) ((hx.st.upd0 u).cells bc1_len (by omega)) (by have := hlen.out; omega) (by have := hlen.out; omega) F1
          rwa [hlen.out.1, hlen.out.2.2.1] at this
        have pk2 : ∀ w', Upd Nil wr w' → Calls Try.prog 46 #[.slice AY M cY, .slice (some ⟨gt, 0, none⟩) M M, .bool (!F1)] w' (IntR (optI (pick y t (!F1))) w') := fun w' u => by
          have := pickC AY (some ⟨gt, 0, none⟩) cY M y t w' ((hy.sx.upd0 u).cells ic_len (by omega)) ((hy.st.upd0 u).cells bc1_len (by omega)) (by have := hlen.out; omega) (by have := hlen.out; omega) (!F1)
          rwa [hlen.out.2.1, hlen.out.2.2.2] at this
        generalize (spread (x ++ y)) = sp at q1 hsp2
        rcases hp1 : pick x s F1 with _ | i
        · rw [hp1] at pk1
          have hd := hr.out.symm.trans (plan_none hsp (by rw [htr, hp1]))
          subst hd
          rw [show optI none = -1 from rfl] at pk1
          generalize optI (pick y t (!F1)) = kk at *
          clear htr hsp hr
          go_wp2_with fail
          refine q1.mono ?_
          rintro e w4 ⟨rfl, hU4⟩
          go_wp2_with fail
          refine (qs1 w4 hU4).mono ?_
          rintro e w' ⟨rfl, rfl⟩
          go_wp2_with fail
          refine (qs2 w4 hU4).mono ?_
          rintro e w' ⟨rfl, rfl⟩
          go_wp2_with fail
          refine (pk1 w4 hU4).mono ?_
          rintro e w' ⟨rfl, rfl⟩
          go_wp2_with fail
          refine (pk2 w4 hU4).mono ?_
          rintro e w' ⟨rfl, rfl⟩
          go_wp2_with fail
          refine wp_region_lex Nil [0, 1, 2, 3, 4, 5, 6, 7, 8, 9, 10, 11, 12, 13, 14, 15, 16, 17, 18, 19, 20, 21, 22, 23, 24, 25, 26, 27, 28, 29, 30, 31, 32, 33, 34] (by kernel_rfl) (by kernel_rfl) rfl (by kernel_rfl) ?_
          simp only [inOrder, List.filterMap_cons, List.filterMap_nil, List.getElem?_cons_zero, List.getElem?_cons_succ]
          try simp only [Act.put, List.setIfInBounds_toArray, List.set_cons_zero, List.set_cons_succ]
          repeat
            first
            | (refine lex_pure (v := ?_) rfl rfl ?_ ?_
               rotate_left
               · intro w' hU'
                 go_simp
                 try with_reducible rfl
               try simp only [Act.put, List.setIfInBounds_toArray, List.set_cons_zero, List.set_cons_succ])
            | (refine lex_skip rfl ?_
               try simp only [Act.put, List.setIfInBounds_toArray, List.set_cons_zero, List.set_cons_succ])
          refine lex_done ?_
          go_wp2_with fail
          go_ret2
          exact ⟨_, rfl, ((hV.upd0 hU4).drew).lower hw3, (hU.tr hU4).drew⟩
        · rw [hp1] at pk1
          rw [show optI (some i) = (i : Int) from rfl] at pk1
          have hin : ¬ (i : Int) < 0 := by omega
          rcases hp2 : pick y t (!F1) with _ | k
          · rw [hp2] at pk2
            have hd := hr.out.symm.trans (plan_none hsp (by rw [htr, hp1, hp2]))
            subst hd
            rw [show optI none = -1 from rfl] at pk2
            clear htr hsp hr hp1 hp2
            go_wp2_with fail
            refine q1.mono ?_
            rintro e w4 ⟨rfl, hU4⟩
            go_wp2_with fail
            refine (qs1 w4 hU4).mono ?_
            rintro e w' ⟨rfl, rfl⟩
            go_wp2_with fail
            refine (qs2 w4 hU4).mono ?_
            rintro e w' ⟨rfl, rfl⟩
            go_wp2_with fail
            refine (pk1 w4 hU4).mono ?_
            rintro e w' ⟨rfl, rfl⟩
            go_wp2_with fail
            refine (pk2 w4 hU4).mono ?_
            rintro e w' ⟨rfl, rfl⟩
            go_wp2_with fail
            refine wp_region_lex Nil [0, 1, 2, 3, 4, 5, 6, 7, 8, 9, 10, 11, 12, 13, 14, 15, 16, 17, 18, 19, 20, 21, 22, 23, 24, 25, 26, 27, 28, 29, 30, 31, 32, 33, 34] (by kernel_rfl) (by kernel_rfl) rfl (by kernel_rfl) ?_
            simp only [inOrder, List.filterMap_cons, List.filterMap_nil, List.getElem?_cons_zero, List.getElem?_cons_succ]
            try simp only [Act.put, List.setIfInBounds_toArray, List.set_cons_zero, List.set_cons_succ]
            repeat
              first
              | (refine lex_pure (v := ?_) rfl rfl ?_ ?_
                 rotate_left
                 · intro w' hU'
                   go_simp
                   try with_reducible rfl
                 try simp only [Act.put, List.setIfInBounds_toArray, List.set_cons_zero, List.set_cons_succ])
              | (refine lex_skip rfl ?_
                 try simp only [Act.put, List.setIfInBounds_toArray, List.set_cons_zero, List.set_cons_succ])
            refine lex_done ?_
            go_wp2_with fail
            go_ret2
            exact ⟨_, rfl, ((hV.upd0 hU4).drew).lower hw3, (hU.tr hU4).drew⟩
          · rw [hp2] at pk2
            have hi := (pickN_lt _ _ _ _ _ hp1).1
            have hk := (pickN_lt _ _ _ _ _ hp2).1
            rw [show optI (some k) = (k : Int) from rfl] at pk2
            have hkn : ¬ (k : Int) < 0 := by omega
            have hi1 : (i : Int) < (N : Int) := by have := hlen.out; omega
            have hk1 : (k : Int) < (M : Int) := by have := hlen.out; omega
            obtain ⟨gx, ox, hA1, ltx, c0⟩ := ic_cell (hx.sx.cells ic_len (by omega)) hi
            obtain ⟨gy, oy, hA2, lty, c1⟩ := ic_cell (hy.sx.cells ic_len (by omega)) hk
            subst hA1 hA2
            have c0 := fun w' (u : Upd Nil wr w') => (u.cell (p := ⟨gx, ox + i, none⟩) ltx (fun h => h)).trans c0
            have c1 := fun w' (u : Upd Nil wr w') => (u.cell (p := ⟨gy, oy + k, none⟩) lty (fun h => h)).trans c1
            have hbd := beat_dec F1 x[i] y[k]
            have htr2 : trade x y s t = if beat F1 x[i] y[k] = true then some (i, k) else none := by
              rw [htr, hp1, hp2]
              show (if beat F1 (x.getD i 0) (y.getD k 0) = true then some (i, k) else none) = _
              rw [gD hi, gD hk]
            have hbe := Lib.hid htr2
            clear htr htr2 hp1 hp2
            have hspH := Lib.hid hsp
            clear hsp
            obtain ⟨vi, hvi0⟩ : ∃ v, x[i] = v := ⟨_, rfl⟩
            obtain ⟨vk, hvk0⟩ : ∃ v, y[k] = v := ⟨_, rfl⟩
            rw [hvi0] at c0
            rw [hvk0] at c1
            rw [hvi0, hvk0] at hbe hbd
            have hvi0 := Lib.hid hvi0
            have hvk0 := Lib.hid hvk0
            go_wp2_with fail
            refine q1.mono ?_
            rintro e w4 ⟨rfl, hU4⟩
            go_wp2_with fail
            refine (qs1 w4 hU4).mono ?_
            rintro e w' ⟨rfl, rfl⟩
            go_wp2_with fail
            refine (qs2 w4 hU4).mono ?_
            rintro e w' ⟨rfl, rfl⟩
            go_wp2_with fail
            refine (pk1 w4 hU4).mono ?_
            rintro e w' ⟨rfl, rfl⟩
            go_wp2_with fail
            refine (pk2 w4 hU4).mono ?_
            rintro e w' ⟨rfl, rfl⟩
            go_wp2_with fail
            have d0 := c0 w4 hU4
            have d1 := c1 w4 hU4
            have c0 := fun w' (u : Upd Nil w4.drew w') => c0 w' (hU4.drew.tr u)
            have c1 := fun w' (u : Upd Nil w4.drew w') => c1 w' (hU4.drew.tr u)
            go_cut [81] (fun s81 wc => s81 = .bool (!beat F1 vi vk) ∧ wc = w4.drew)
            case first =>
              rcases hbd with ⟨rfl, hbd⟩ | ⟨rfl, hbd⟩
              · cases hb : beat true vi vk with
                | true =>
                  have h1 : decide (vi ≤ vk) = false := by have := hbd.1 hb; simp; omega
                  have hbH := Lib.hid hb
                  clear hbd hb hM
                  refine wp_region_lex Nil [0, 1, 2, 3, 4, 5, 6, 7, 8, 9, 10, 11, 12, 13, 14, 15, 16, 17, 18, 19, 20, 21, 22, 23, 24, 25, 26, 27, 28, 29, 30, 31, 32, 33, 34] (by kernel_rfl) (by kernel_rfl) rfl (by kernel_rfl) ?_
                  simp only [inOrder, List.filterMap_cons, List.filterMap_nil, List.getElem?_cons_zero, List.getElem?_cons_succ]
                  try simp only [Act.put, List.setIfInBounds_toArray, List.set_cons_zero, List.set_cons_succ]
                  repeat
                    first
                    | (refine lex_pure (v := ?_) rfl rfl ?_ ?_
                       rotate_left
                       · intro w' hU'
                         go_simp
                         try with_reducible rfl
                       try simp only [Act.put, List.setIfInBounds_toArray, List.set_cons_zero, List.set_cons_succ])
                    | (refine lex_skip rfl ?_
                       try simp only [Act.put, List.setIfInBounds_toArray, List.set_cons_zero, List.set_cons_succ])
                  refine lex_done ?_
                  go_wp2_with fail
                  go_meet
                  case rel => exact ⟨by rw [hbH.out]; first | rfl | simp | (simp; omega), rfl⟩
                | false =>
                  have h1 : vi ≤ vk := by
                    by_cases h : vk < vi
                    · rw [hbd.2 h] at hb; cases hb
                    · omega
                  have hbH := Lib.hid hb
                  clear hbd hb hM
                  refine wp_region_lex Nil [0, 1, 2, 3, 4, 5, 6, 7, 8, 9, 10, 11, 12, 13, 14, 15, 16, 17, 18, 19, 20, 21, 22, 23, 24, 25, 26, 27, 28, 29, 30, 31, 32, 33, 34] (by kernel_rfl) (by kernel_rfl) rfl (by kernel_rfl) ?_
                  simp only [inOrder, List.filterMap_cons, List.filterMap_nil, List.getElem?_cons_zero, List.getElem?_cons_succ]
                  try simp only [Act.put, List.setIfInBounds_toArray, List.set_cons_zero, List.set_cons_succ]
                  repeat
                    first
                    | (refine lex_pure (v := ?_) rfl rfl ?_ ?_
                       rotate_left
                       · intro w' hU'
                         go_simp
                         try with_reducible rfl
                       try simp only [Act.put, List.setIfInBounds_toArray, List.set_cons_zero, List.set_cons_succ])
                    | (refine lex_skip rfl ?_
                       try simp only [Act.put, List.setIfInBounds_toArray, List.set_cons_zero, List.set_cons_succ])
                  refine lex_done ?_
                  go_wp2_with fail
                  go_meet
                  case rel => exact ⟨by rw [hbH.out]; first | rfl | simp | (simp; omega), rfl⟩
              · cases hb : beat false vi vk with
                | true =>
                  have h1 : decide (vk ≤ vi) = false := by have := hbd.1 hb; simp; omega
                  have hbH := Lib.hid hb
                  clear hbd hb hM
                  refine wp_region_lex Nil [0, 1, 2, 3, 4, 5, 6, 7, 8, 9, 10, 11, 12, 13, 14, 15, 16, 17, 18, 19, 20, 21, 22, 23, 24, 25, 26, 27, 28, 29, 30, 31, 32, 33, 34] (by kernel_rfl) (by kernel_rfl) rfl (by kernel_rfl) ?_
                  simp only [inOrder, List.filterMap_cons, List.filterMap_nil, List.getElem?_cons_zero, List.getElem?_cons_succ]
                  try simp only [Act.put, List.setIfInBounds_toArray, List.set_cons_zero, List.set_cons_succ]
                  repeat
                    first
                    | (refine lex_pure (v := ?_) rfl rfl ?_ ?_
                       rotate_left
                       · intro w' hU'
                         go_simp
                         try with_reducible rfl
                       try simp only [Act.put, List.setIfInBounds_toArray, List.set_cons_zero, List.set_cons_succ])
                    | (refine lex_skip rfl ?_
                       try simp only [Act.put, List.setIfInBounds_toArray, List.set_cons_zero, List.set_cons_succ])
                  refine lex_done ?_
                  go_wp2_with fail
                  go_meet
                  case rel => exact ⟨by rw [hbH.out]; first | rfl | simp | (simp; omega), rfl⟩
                | false =>
                  have h1 : vk ≤ vi := by
                    by_cases h : vi < vk
                    · rw [hbd.2 h] at hb; cases hb
                    · omega
                  have hbH := Lib.hid hb
                  clear hbd hb hM
                  refine wp_region_lex Nil [0, 1, 2, 3, 4, 5, 6, 7, 8, 9, 10, 11, 12, 13, 14, 15, 16, 17, 18, 19, 20, 21, 22, 23, 24, 25, 26, 27, 28, 29, 30, 31, 32, 33, 34] (by kernel_rfl) (by kernel_rfl) rfl (by kernel_rfl) ?_
                  simp only [inOrder, List.filterMap_cons, List.filterMap_nil, List.getElem?_cons_zero, List.getElem?_cons_succ]
                  try simp only [Act.put, List.setIfInBounds_toArray, List.set_cons_zero, List.set_cons_succ]
                  repeat
                    first
                    | (refine lex_pure (v := ?_) rfl rfl ?_ ?_
                       rotate_left
                       · intro w' hU'
                         go_simp
                         try with_reducible rfl
                       try simp only [Act.put, List.setIfInBounds_toArray, List.set_cons_zero, List.set_cons_succ])
                    | (refine lex_skip rfl ?_
                       try simp only [Act.put, List.setIfInBounds_toArray, List.set_cons_zero, List.set_cons_succ])
                  refine lex_done ?_
                  go_wp2_with fail
                  go_meet
                  case rel => exact ⟨by rw [hbH.out]; first | rfl | simp | (simp; omega), rfl⟩
            case rest =>
              clear c0 c1 q1 qs1 qs2 pk1 pk2 hbd hM
              obtain ⟨rfl, hwc⟩ := hcut
              subst hwc
              cases hb : beat F1 vi vk with
              | false =>
                have hd := hr.out.symm.trans (plan_none (by have := hspH.out; omega) (by rw [hbe.out, hb]; rfl))
                subst hd
                clear hb
                go_wp2_with fail
                go_ret2
                exact ⟨_, rfl, ((hV.upd0 hU4).drew).lower hw3, (hU.tr hU4).drew⟩
              | true =>
                have htr2 : trade x y s t = some (i, k) := by rw [hbe.out, hb]; rfl
                have hps := Lib.hid ((plan_some (out := out) (by have := hspH.out; omega) htr2 (by have := hlen.out; omega)).symm.trans hr.out)
                obtain ⟨-, -, hsi, htk⟩ := trade_lt htr2
                have his : i < s.length := by have := hlen.out; omega
                have hkt : k < t.length := by have := hlen.out; omega
                have hfs := Lib.hid (free_set his hsi)
                have hvi := bnd_get hBx hi
                have hvk := bnd_get hBy hk
                rw [gD hi, gD hk, hvi0.out, hvk0.out] at hps
                rw [hvi0.out] at hvi
                rw [hvk0.out] at hvk
                clear hbe hspH hr hsi htk hb htr2 hvi0 hvk0
                go_wp2_with fail
                have hxW := hx.upd0 hU4.drew
                have hyW := hy.upd0 hU4.drew
                have hVW := hV.upd0 hU4.drew
                have hUW := (hU.tr hU4).drew
                have hszW : w3.heap.size ≤ w4.drew.heap.size := Nat.le_trans hsz hU4.drew.size
                have d0 : w4.drew.cell? ⟨gx, ox + i, none⟩ = some (.int .i64 vi) := d0
                have d1 : w4.drew.cell? ⟨gy, oy + k, none⟩ = some (.int .i64 vk) := d1
                have lty := Nat.lt_of_lt_of_le lty hU4.drew.size
                clear hx hy hV hU hU4 hsz
                generalize w4.drew = W at *
                have hBx2 := bnd_set hBx hvk i
                have hBy2 := bnd_set hBy hvi k
                have hlen2 : Hid ((x.set i vk).length = N ∧ (y.set k vi).length = M ∧ (s.set i true).length = N ∧ (t.set k true).length = M) := Lib.hid (by simpa using hlen.out)
                have fy0 := (hyW.setX hk vi).2.2.2
                obtain ⟨hx5, u5, F5, fz5⟩ := hxW.setX hi vk
                have hy5 := hyW.upd u5 (fun z e h2 => hFG _ F5 (by have e : z = gx := e; subst e; exact h2))
                obtain ⟨hy6, u6, G6, fz6⟩ := hy5.setX hk vi
                have c5 := (u5.cell (p := ⟨gy, oy + k, none⟩) lty (fun e => hFG _ F5 (by have e : gy = gx := e; rw [← e]; exact G6))).trans d1
                have hx6 := hx5.upd u6 (fun z e h2 => hFG _ h2 (by have e : z = gy := e; subst e; exact G6))
                have hV6 := ((hVW.upd u5 (fun z hz e => by have e : z = gx := e; have := (hVW.typed z hz).1; have := (hFx _ F5).2; omega)).upd u6 (fun z hz e => by have e : z = gy := e; have := (hVW.typed z hz).1; have := (hFy _ G6).2; omega)).drew
                have hU6 := ((hUW.setOwn (g := gx) (i := ox + i) (.inr (hFx _ F5).1) (.int .i64 vk)).setOwn (g := gy) (i := oy + k) (.inr (hFy _ G6).1) (.int .i64 vi)).drew
                have hx6 := hx6.upd0 (Upd.refl Nil _).drew
                have hy6 := hy6.upd0 (Upd.refl Nil _).drew
                have hsz6 : ((W.setCell ⟨gx, ox + i, none⟩ (.int .i64 vk)).setCell ⟨gy, oy + k, none⟩ (.int .i64 vi)).drew.heap.size = W.heap.size := by simp [World.setCell]
                have hs1' : ∀ v, Upd (fun z => z = gx ∨ z = gy) W.drew (W.setCell ⟨gx, ox + i, none⟩ v).drew := fun v => Upd.ofDrew ((Upd.refl _ W).set (p := ⟨gx, ox + i, none⟩) (.inl (.inl rfl)) v).drew
                have hs2' : ∀ v, Upd (fun z => z = gx ∨ z = gy) (W.setCell ⟨gx, ox + i, none⟩ (.int .i64 vk)).drew ((W.setCell ⟨gx, ox + i, none⟩ (.int .i64 vk)).setCell ⟨gy, oy + k, none⟩ v).drew := fun v => Upd.ofDrew ((Upd.refl _ _).set (p := ⟨gy, oy + k, none⟩) (.inl (.inr rfl)) v).drew
                have HH := Lib.hid (And.intro hx6 <| And.intro hy6 <| And.intro hV6 <| And.intro hU6 <| And.intro hsz6 <| And.intro hBx2 <| And.intro hBy2 <| And.intro hlen2 <| And.intro hst <| And.intro hps <| And.intro hfs <| And.intro hszW <| And.intro his <| And.intro hkt <| And.intro hFG <| And.intro hFx <| And.intro hFy <| And.intro ha hb)
                clear hx6 hy6 hV6 hU6 hsz6 hBx2 hBy2 hlen2 hst hps hfs hszW his hkt hFG hFx hFy ha hb hx5 hy5 u5 u6 hxW hyW hVW hUW F5 G6 hBx hBy hvi hvk hlen
                refine wp_region_lexW (Upd (fun z => z = gx ∨ z = gy)) (fun _ => Upd.refl _ _) (fun _ _ _ h k => h.tr k) [(0, true), (1, true), (2, false), (3, false), (4, true), (5, true), (6, true), (7, true), (8, false), (9, false), (10, false), (11, true), (12, true), (13, false), (14, false), (15, false)] (by kernel_rfl) (by kernel_rfl) rfl (by kernel_rfl) (by kernel_rfl) ?_
                simp only [inOrderW, List.filterMap_cons, List.filterMap_nil, List.getElem?_cons_zero, List.getElem?_cons_succ, Option.map_some]
                try simp only [Act.put, List.setIfInBounds_toArray, List.set_cons_zero, List.set_cons_succ]
                repeat
                  first
                  | (refine lexW_sure (v := ?_) rfl rfl ?_ ?_
                     rotate_left
                     · go_simp
                       try with_reducible rfl
                     try simp only [Act.put, List.setIfInBounds_toArray, List.set_cons_zero, List.set_cons_succ])
                  | (refine lexW_pure (v := ?_) rfl rfl ?_ ?_
                     rotate_left
                     · intro w' hU'
                       go_simp
                       try with_reducible rfl
                     try simp only [Act.put, List.setIfInBounds_toArray, List.set_cons_zero, List.set_cons_succ])
                  | (refine lexW_skip rfl ?_
                     try simp only [Act.put, List.setIfInBounds_toArray, List.set_cons_zero, List.set_cons_succ])
                refine lexW_store (w' := (W.setCell ⟨gx, ox + i, none⟩ (.int .i64 vk)).drew) rfl rfl (by go_simp) (hs1' _) ?_
                try simp only [Act.put, List.setIfInBounds_toArray, List.set_cons_zero, List.set_cons_succ]
                repeat
                  first
                  | (refine lexW_sure (v := ?_) rfl rfl ?_ ?_
                     rotate_left
                     · go_simp
                       try with_reducible rfl
                     try simp only [Act.put, List.setIfInBounds_toArray, List.set_cons_zero, List.set_cons_succ])
                  | (refine lexW_pure (v := ?_) rfl rfl ?_ ?_
                     rotate_left
                     · intro w' hU'
                       go_simp
                       try with_reducible rfl
                     try simp only [Act.put, List.setIfInBounds_toArray, List.set_cons_zero, List.set_cons_succ])
                  | (refine lexW_skip rfl ?_
                     try simp only [Act.put, List.setIfInBounds_toArray, List.set_cons_zero, List.set_cons_succ])
                refine lexW_store (w' := ((W.setCell ⟨gx, ox + i, none⟩ (.int .i64 vk)).setCell ⟨gy, oy + k, none⟩ (.int .i64 vi)).drew) rfl rfl (by go_simp) (hs2' _) ?_
                refine lexW_done ?_
                clear hs1' hs2' d0 d1 c5 fz5 fz6 fy0
                obtain ⟨hx6, hy6, hV6, hU6, hsz6, hBx2, hBy2, hlen2, hst, hps, hfs, hszW, his, hkt, hFG, hFx, hFy, ha, hb⟩ := HH.out
                clear HH
                rw [← hsz6] at hszW
                clear hsz6
                generalize ((W.setCell ⟨gx, ox + i, none⟩ (.int .i64 vk)).setCell ⟨gy, oy + k, none⟩ (.int .i64 vi)).drew = W6 at *
                obtain ⟨c0, _⟩ := bc_at (hx6.st.cells bc1_len (by omega)) his
                obtain ⟨c1, lty⟩ := bc_at (hy6.st.cells bc1_len (by omega)) hkt
                obtain ⟨hx7, u7, F7, fz7⟩ := hx6.setT his true
                have hy7 := hy6.upd u7 (fun z e h2 => hFG _ F7 (by have e : z = gs := e; subst e; exact h2))
                obtain ⟨hy8, u8, G8, fz8⟩ := hy7.setT hkt true
                have c5 := (u7.cell (p := ⟨gt, 0 + k, none⟩) lty (fun e => hFG _ F7 (by have e : gt = gs := e; rw [← e]; exact G8))).trans c1
                have hx8 := hx7.upd u8 (fun z e h2 => hFG _ h2 (by have e : z = gt := e; subst e; exact G8))
                have hV8 := (hV6.upd u7 (fun z hz e => by have e : z = gs := e; have := (hV6.typed z hz).1; have := (hFx _ F7).2; omega)).upd u8 (fun z hz e => by have e : z = gt := e; have := (hV6.typed z hz).1; have := (hFy _ G8).2; omega)
                have hU8 := (hU6.setOwn (g := gs) (i := 0 + i) (.inr (hFx _ F7).1) (.bool true)).setOwn (g := gt) (i := 0 + k) (.inr (hFy _ G8).1) (.bool true)
                have hsz8 : w3.heap.size ≤ ((W6.setCell ⟨gs, 0 + i, none⟩ (.bool true)).setCell ⟨gt, 0 + k, none⟩ (.bool true)).heap.size := by simpa [World.setCell] using hszW
                simp only [Nat.zero_add] at c0 c1 c5 fz7 fz8 hx8 hy8 hV8 hU8 hsz8
                have hol : out.length ≤ 1000 := by have := hst.out; omega
                clear hx6 hy6 hV6 hU6 hx7 hy7 u7 u8
                go_wp2_with (at_builtin; refine wp_app1 w3.heap.size rfl (.tmp 103) (.tmp 107) elemPR rfl _ (i, k) (by rfl) _ out rfl (by simp [Act.eval]) hV8 hsz8 (by omega) (by unfold maxLen; omega) ?_; intro A1 c1 w11 hv11 hg11 hat)
                have u11 := (Upd.refl (fun z => w3.heap.size ≤ z) _).grown hg11 (fun z hz => .inl (hV8.typed z hz).1)
                have hx9 := hx8.upd u11 (fun z hz h2 => by have := (hFx _ h2).2; omega)
                have hy9 := hy8.upd u11 (fun z hz h2 => by have := (hFy _ h2).2; omega)
                have hsz9 := Nat.le_trans hsz8 u11.size
                go_roundw
                case measure =>
                  have := hst.out
                  have := hfs.out
                  show N - lenOf (.slice A1 (out.length + 1) c1) < N - lenOf (.slice AV out.length cV)
                  simp only [lenOf]
                  omega
                case rel => exact ⟨_, _, _, _, _, _, rfl, hx9, hy9, hv11, hU8.trans u11 (fun z hz => .inr (by omega)), hsz9, hBx2, hBy2, hlen2, Lib.hid (by have := hst.out; have := hfs.out; simp; omega), hps⟩
end Go.Proofs.Ytenhimaclecdpaa.Level
