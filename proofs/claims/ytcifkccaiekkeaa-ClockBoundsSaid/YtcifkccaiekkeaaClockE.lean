/-
  The clock: the walk of Ends. Conditions: what the slices hold.
-/
import Derived.Test.YtcifkccaiekkeaaClockD
namespace Go.Proofs.Ytcifkccaiekkeaa.Clock
open Go.RowKit Go.Proofs.Ytcifkccaiekkeaa.Base Go.Maps Go.Proofs.Ytcifkccaiekkeaa.Maps Go.Proofs.Ytcifkccaiekkeaa.Ints
set_option linter.unusedVariables false
set_option linter.unusedSimpArgs false
def Three (lo : Nat) : Nat → Prop := fun z => lo ≤ z ∧ z < lo + 3
theorem bd_new (w : World) : Bd (Three w.heap.size) (((w.alloc (.map #[] 0)).alloc (.map #[] 0)).alloc (.cells #[.int .i64 0, .map (some w.heap.size), .map (some (w.heap.size + 1))] 152)) (w.heap.size + 1 + 1) 0 ⟨0, fun _ => 0, fun _ => 0⟩ w.heap.size (w.heap.size + 1) := by
  have h1 := MapI.new w 3 kc
  have h2 := MapI.new (w.alloc (.map #[] 0)) 160 kd
  rw [show (w.alloc (.map #[] 0)).heap.size = w.heap.size + 1 by simp] at h2
  have h3 := blk_new ((w.alloc (.map #[] 0)).alloc (.map #[] 0)) (.cells #[.int .i64 0, .map (some w.heap.size), .map (some (w.heap.size + 1))] 152)
  rw [show ((w.alloc (.map #[] 0)).alloc (.map #[] 0)).heap.size = w.heap.size + 1 + 1 by simp] at h3
  exact ⟨h3, h1.upd (((Upd.refl Nil _).alloc _).alloc _) (fun h => h), h2.upd ((Upd.refl Nil _).alloc _) (fun h => h), by omega, ⟨by omega, by omega⟩, ⟨by omega, by omega⟩, ⟨by omega, by omega⟩⟩
def EndsR (l : List Int) (w : World) (e : Ending) (w' : World) : Prop := ∃ v, e = .returned (.tuple #[v, .int .i64 0]) ∧ Sl w' w.heap.size 3 1 ic v l ∧ Upd Nil w w'
theorem tick_ne {k : Int} (hk : k = 1 ∨ k = 2 ∨ k = 3) : (tick k == 0) = false := by rcases hk with rfl | rfl | rfl <;> decide
set_option maxHeartbeats 8000000 in
set_option maxRecDepth 100000 in
theorem ends {C D B P : Int} (A : Option Addr) (cA : Nat) (l : List (Int × Int)) (h : Good C D B P l) (w : World) (hA : Arg w A 2 opC l) (hl : l.length ≤ 100) : Calls Try.prog 67 #[gC C D B P, .slice A l.length cA] w (EndsR (stN C D l l.length).2 w) := by
  have hmm := @run_makeMap Try.prog
  have hb := blk_new w (.cells #[.int .i64 C, .int .i64 D, .int .i64 B, .int .i64 P] 99)
  have q := check h.v
  have qb := blocks h.v
  have qs := fun k nn hk hn => split h.v k nn hk hn
  unfold gC at *
  go_enter Try.func67, Try.ntmps67
  go_wp2_with fail
  refine (q _).mono ?_
  rintro e w1 ⟨rfl, hU1⟩
  have hb1 := hU1.blk hb (fun h => h)
  have hU := ((Upd.refl Nil w).alloc (.cells #[.int .i64 C, .int .i64 D, .int .i64 B, .int .i64 P] 99)).tr hU1
  have hlb := blk_lt hb1
  have hB0 := bd_new w1
  have hU3 := (((Upd.refl Nil w1).alloc (.map #[] 0)).alloc (.map #[] 0)).alloc (.cells #[.int .i64 0, .map (some w1.heap.size), .map (some (w1.heap.size + 1))] 152)
  have hz3 : (((w1.alloc (.map #[] 0)).alloc (.map #[] 0)).alloc (.cells #[.int .i64 0, .map (some w1.heap.size), .map (some (w1.heap.size + 1))] 152)).heap.size = w1.heap.size + 3 := by simp
  have hb3 := hU3.blk hb1 (fun h => h)
  have hU := hU.tr hU3
  have hlo : w.heap.size ≤ w1.heap.size := by omega
  have hnb : ¬ Three w1.heap.size w.heap.size := fun h => by have := h.1; omega
  clear hU1 hU3 hb1 q hb
  go_wp2_with fail
  clear hmm
  generalize ((w1.alloc (.map #[] 0)).alloc (.map #[] 0)).alloc (.cells #[.int .i64 0, .map (some w1.heap.size), .map (some (w1.heap.size + 1))] 152) = w3 at *
  generalize w1.heap.size + 1 + 1 = n3 at *
  generalize w1.heap.size + 1 = n2 at *
  generalize w1.heap.size = lo at *
  have hV : Sl w3 (lo + 3) 3 1 ic (.slice none 0 0) [] := Sl.nil _ _ _ _ _
  go_loopw [8, 24] (fun s8 s24 wr => ∃ (i : Nat) (V : Value), i ≤ l.length ∧ s24 = .int .i64 i ∧ s8 = V ∧ Bd (Three lo) wr n3 (2 * i) (stN C D l i).1 lo n2 ∧ Sl wr (lo + 3) 3 1 ic V (stN C D l i).2 ∧ Upd Nil w wr ∧ lo + 3 ≤ wr.heap.size ∧ wr.heap[w.heap.size]? = some (.cells #[.int .i64 C, .int .i64 D, .int .i64 B, .int .i64 P] 99 (0, 0))) (fun _ s24 _ => l.length - (intOf s24).toNat)
  case atStart => exact ⟨0, _, by omega, rfl, rfl, hB0, hV, hU, by omega, hb3⟩
  case round =>
    clear hB0 hV hU hb3 hz3
    obtain ⟨i, V, hi, rfl, rfl, hB, hV, hU, hsz, hb⟩ := hrel
    by_cases hlt : i < l.length
    · obtain ⟨g, o, rfl, e0, e1⟩ := op_cell (hA.upd hU) hlt
      have hkk := h.k _ (List.getElem_mem hlt)
      have hbk := h.b _ (List.getElem_mem hlt)
      have hbd := Lib.hid (stN_bd (C := C) (D := D) h.k i hi)
      have hsb := sum_bd h.k i hi
      have hS := Lib.hid (show stN C D l (i + 1) = ((stp (stN C D l i).1 l[i].1 (toF (l[i].2.tmod C)) (toF ((l[i].2.tdiv C).tmod D))).1, (stN C D l i).2 ++ [(stp (stN C D l i).1 l[i].1 (toF (l[i].2.tmod C)) (toF ((l[i].2.tdiv C).tmod D))).2]) by simp only [stN]; rw [gD hlt])
      have hsl := stN_len C D l i
      generalize l[i].1 = k at *
      generalize l[i].2 = b at *
      generalize stN C D l i = S at *
      obtain ⟨s, out⟩ := S
      simp only at hB hV hS hsl hbd
      have hB1 : Bds s 1000000 := by
        have h1 := hbd.out
        exact ⟨by have := h1.now; omega, fun c => by have := h1.f c; omega, fun p => by have := h1.g p; omega⟩
      have hc : ((toF (b.tmod C)).val : Int) = b.tmod C := toF_val (by rw [Int.tmod_eq_emod_of_nonneg hbk.1]; have := h.v.c; have := Int.emod_nonneg b (show C ≠ 0 by omega); have := Int.emod_lt_of_pos b (show 0 < C by omega); omega)
      have hd : ((toF ((b.tdiv C).tmod D)).val : Int) = (b.tdiv C).tmod D := toF_val (by have t := tdv hbk.1 h.v.c.1; rw [Int.tmod_eq_emod_of_nonneg t.1]; have := h.v.d; have := Int.emod_nonneg (b.tdiv C) (show D ≠ 0 by omega); have := Int.emod_lt_of_pos (b.tdiv C) (show 0 < D by omega); omega)
      have qs2 := qs b _ hbk rfl
      have hpb := prod_bd hbk.1 (Int.le_of_lt (show b < 65 by have := h.v.n; omega)) (show 0 ≤ P by have := h.v.p; omega) h.v.p.2
      have hw1 : wrap64 (b * P) = b * P := wr2 (by omega)
      have hn1 : decide (b < 0) = false := by simp; omega
      have hn2 : decide (C * D * B ≤ b) = false := by simp; omega
      have htk := tick_ne hkk
      have hBa := hB.upd ((Upd.refl Nil wr).alloc (.cells #[.int .i64 k, .int .i64 b] 108)) (fun x hx => hx.elim)
      have hVa := hV.upd0 ((Upd.refl Nil wr).alloc (.cells #[.int .i64 k, .int .i64 b] 108))
      have hba := blk_alloc hb (.cells #[.int .i64 k, .int .i64 b] 108)
      have hUa := hU.alloc (.cells #[.int .i64 k, .int .i64 b] 108)
      have hop := blk_new wr (.cells #[.int .i64 k, .int .i64 b] 108)
      have hsza : lo + 3 ≤ (wr.alloc (.cells #[.int .i64 k, .int .i64 b] 108)).heap.size := by simp; omega
      have hno : ¬ Three lo wr.heap.size := fun h => by have := h.2; omega
      generalize C * D * B = N at *
      have hol : out.length ≤ 100 := by omega
      clear hbk hpb hsb hbd qs
      go_wp2_with fail
      refine (ticks k _).mono ?_
      rintro e w' ⟨rfl, rfl⟩
      generalize tick k = tk at *
      generalize wr.alloc (.cells #[.int .i64 k, .int .i64 b] 108) = W at *
      generalize wr.heap.size = no at *
      clear hB hV hU hsz hb
      have x0 := fun w' (u : Upd Nil W.drew w') => blk_cell (u.blk (blk_drew hop) (fun h => h)) 0
      have x1 := fun w' (u : Upd Nil W.drew w') => blk_cell (u.blk (blk_drew hop) (fun h => h)) 1
      have y0 := fun w' (u : Upd Nil W.drew w') => blk_cell (u.blk (blk_drew hba) (fun h => h)) 0
      have y1 := fun w' (u : Upd Nil W.drew w') => blk_cell (u.blk (blk_drew hba) (fun h => h)) 1
      have y2 := fun w' (u : Upd Nil W.drew w') => blk_cell (u.blk (blk_drew hba) (fun h => h)) 2
      have y3 := fun w' (u : Upd Nil W.drew w') => blk_cell (u.blk (blk_drew hba) (fun h => h)) 3
      simp only [List.getElem?_toArray, List.getElem?_cons_zero, List.getElem?_cons_succ] at x0 x1 y0 y1 y2 y3
      go_wp2_with fail
      refine wp_region_lexW (Upd Nil) (fun _ => Upd.refl _ _) (fun _ _ _ h k => h.tr k) [(0, false), (1, false), (2, false), (3, true), (4, false), (5, false), (6, true), (7, false), (8, false), (9, false)] (by kernel_rfl) (by kernel_rfl) rfl (by kernel_rfl) (by kernel_rfl) ?_
      simp only [inOrderW, List.filterMap_cons, List.filterMap_nil, List.getElem?_cons_zero, List.getElem?_cons_succ, Option.map_some]
      try simp only [Act.put, List.setIfInBounds_toArray, List.set_cons_zero, List.set_cons_succ]
      repeat
        first
        | (refine lexW_sure (v := ?_) rfl rfl ?_ ?_
           rotate_left
           · go_simp
             try with_reducible rfl
           try simp only [Act.put, List.setIfInBounds_toArray, List.set_cons_zero, List.set_cons_succ])
        | (refine lexW_pure (v := ?_) rfl rfl ?_ ?_
           rotate_left
           · intro w' hU'
             go_simp
             try with_reducible rfl
           try simp only [Act.put, List.setIfInBounds_toArray, List.set_cons_zero, List.set_cons_succ])
        | (refine lexW_skip rfl ?_
           try simp only [Act.put, List.setIfInBounds_toArray, List.set_cons_zero, List.set_cons_succ])
      refine lexW_fn (f := 83) (args := _) rfl rfl (by go_simp) ((qb _).mono ?_)
      rintro e w5 ⟨rfl, hU5⟩
      refine ⟨_, rfl, hU5, ?_⟩
      try simp only [Act.put, List.setIfInBounds_toArray, List.set_cons_zero, List.set_cons_succ]
      repeat
        first
        | (refine lexW_sure (v := ?_) rfl rfl ?_ ?_
           rotate_left
           · go_simp
             try with_reducible rfl
           try simp only [Act.put, List.setIfInBounds_toArray, List.set_cons_zero, List.set_cons_succ])
        | (refine lexW_pure (v := ?_) rfl rfl ?_ ?_
           rotate_left
           · intro w' hU'
             go_simp
             try with_reducible rfl
           try simp only [Act.put, List.setIfInBounds_toArray, List.set_cons_zero, List.set_cons_succ])
        | (refine lexW_skip rfl ?_
           try simp only [Act.put, List.setIfInBounds_toArray, List.set_cons_zero, List.set_cons_succ])
      refine lexW_done ?_
      have u5 : Upd Nil W w5 := (Upd.refl Nil W).drew.tr hU5
      have hB5 := hBa.upd u5 (fun x hx => hx.elim)
      have hV5 := hVa.upd0 u5
      have hU6 := hUa.tr u5
      have hb5 := u5.blk hba (fun h => h)
      have ho5 := u5.blk hop (fun h => h)
      have hsz5 := Nat.le_trans hsza u5.size
      clear hBa hVa hUa hba hop u5 hU5 x0 x1 y0 y1 y2 y3 hsza
      have x0 := blk_cell ho5 0
      have x1 := blk_cell ho5 1
      have y0 := blk_cell hb5 0
      have y1 := blk_cell hb5 1
      have y2 := blk_cell hb5 2
      have y3 := blk_cell hb5 3
      simp only [List.getElem?_toArray, List.getElem?_cons_zero, List.getElem?_cons_succ] at x0 x1 y0 y1 y2 y3
      go_wp2_with fail
      refine (qs2 _).mono ?_
      rintro e w6 ⟨p1, p2, rfl, hU7⟩
      rw [← hc, ← hd]
      clear hc hd
      generalize toF (b.tmod C) = fc at *
      generalize toF ((b.tdiv C).tmod D) = fd at *
      have hB7 := (hB5.upd hU7 (fun x hx => hx.elim)).upd ((Upd.refl Nil w6).alloc (.cells #[.int .i64 (fc.val : Int), .int .i64 (fd.val : Int), .int .i64 p1, .int .i64 p2] 155)) (fun x hx => hx.elim)
      have hV7 := (hV5.upd0 hU7).upd0 ((Upd.refl Nil w6).alloc (.cells #[.int .i64 (fc.val : Int), .int .i64 (fd.val : Int), .int .i64 p1, .int .i64 p2] 155))
      have hU7' := (hU6.tr hU7).alloc (.cells #[.int .i64 (fc.val : Int), .int .i64 (fd.val : Int), .int .i64 p1, .int .i64 p2] 155)
      have hb7 := blk_alloc (hU7.blk hb5 (fun h => h)) (.cells #[.int .i64 (fc.val : Int), .int .i64 (fd.val : Int), .int .i64 p1, .int .i64 p2] 155)
      have ho7 := blk_alloc (hU7.blk ho5 (fun h => h)) (.cells #[.int .i64 (fc.val : Int), .int .i64 (fd.val : Int), .int .i64 p1, .int .i64 p2] 155)
      have hsz7 : lo + 3 ≤ (w6.alloc (.cells #[.int .i64 (fc.val : Int), .int .i64 (fd.val : Int), .int .i64 p1, .int .i64 p2] 155)).heap.size := by have := hU7.size; simp; omega
      have z0 := blk_cell ho7 0
      have z1 := blk_cell ho7 1
      have pl := blk_new w6 (.cells #[.int .i64 (fc.val : Int), .int .i64 (fd.val : Int), .int .i64 p1, .int .i64 p2] 155)
      have p0 := blk_cell pl 0
      have p1' := blk_cell pl 1
      simp only [List.getElem?_toArray, List.getElem?_cons_zero, List.getElem?_cons_succ] at z0 z1 p0 p1'
      clear hB5 hV5 hU6 hb5 ho5 hU7 x0 x1 y0 y1 y2 y3 hsz5 pl
      have kr := run (Three lo) n3 (2 * i) s lo n2 _ hB7 (fun x hx => by have := hx.2; omega) hB1 (by omega) k hkk fc fd
      generalize stp s k fc fd = R at *
      obtain ⟨s', en⟩ := R
      simp only at hS
      go_wp2_with fail
      refine kr.mono ?_
      rintro e w8 ⟨rfl, hB8, hU8⟩
      generalize w6.alloc (.cells #[.int .i64 (fc.val : Int), .int .i64 (fd.val : Int), .int .i64 p1, .int .i64 p2] 155) = w7 at *
      have hV8 := hV7.upd hU8 (fun z hz h2 => by have := (hV7.typed z hz).1; have := h2.2; omega)
      have hU9 := hU7'.trans hU8 (fun z hz => .inr (by have := hz.1; omega))
      have hb8 := hU8.blk hb7 hnb
      have hsz8 := Nat.le_trans hsz7 hU8.size
      simp only at hB8 hV8
      clear hB7 hV7 hU7' hb7 ho7 z0 z1 p0 p1' kr hsz7
      go_wp2_with (at_builtin; refine wp_app1 (lo + 3) rfl (.tmp 55) (.tmp 65) elemI rfl w8 en (by rfl) _ out rfl (by simp [Act.eval]) hV8 hsz8 (by omega) (by unfold maxLen; omega) ?_; intro A1 c1 w9 hv9 hg9 hat)
      have u9 : Upd (fun z => lo + 3 ≤ z) w8 w9 := (Upd.refl _ w8).grown hg9 (fun z hz => .inl (hV8.typed z hz).1)
      have hB9 := (hB8.upd u9 (fun z hz h2 => by have := h2.2; omega)).more (m := 2 * (i + 1)) (by omega)
      have hb9 := u9.blk hb8 (fun h => by omega)
      have hU10 := hU9.trans u9 (fun z hz => .inr (by omega))
      have hsz9 := Nat.le_trans hsz8 u9.size
      have hi1 : ((i : Int) + 1) = ((i + 1 : Nat) : Int) := by omega
      go_roundw
      case measure => simp [intOf]; omega
      case rel => exact ⟨i + 1, _, by omega, by go_num, rfl, by rw [hS.out]; exact hB9, by rw [hS.out]; rw [hsl] at hv9; exact hv9, hU10, hsz9, hb9⟩
    · obtain rfl : i = l.length := by omega
      go_wp2_with fail
      go_ret2
      exact ⟨_, rfl, hV.lower (by omega), hU⟩
end Go.Proofs.Ytcifkccaiekkeaa.Clock
