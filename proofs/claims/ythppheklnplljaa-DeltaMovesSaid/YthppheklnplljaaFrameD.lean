/-
  The walks of the reference's Open, and of both Wholes. Conditions: each lemma's own.
-/
import Derived.Test.YthppheklnplljaaFrameC
import Derived.Test.YthppheklnplljaaWordG
import Derived.Lib.SlicesS
namespace Go.Proofs.Ythppheklnplljaa.Frame
open Go.RowKit Go.Proofs.Ythppheklnplljaa.Base Go.Proofs.Ythppheklnplljaa.Word Go.Proofs.Ythppheklnplljaa.Sum
set_option linter.unusedVariables false
set_option linter.unusedSimpArgs false
theorem cv {A : Option Addr} {l : List UInt8} {w : World} (h : Arg w A 1 bc l) (c : Nat) : (convert 22 9 (.slice A l.length c)).run Try.prog w = .ok (.string ⟨l.toArray⟩) w := run_bstr (P := Try.prog) Try.underlying22 Try.underlying5 Try.underlying9 h c
set_option maxHeartbeats 4000000 in
set_option maxRecDepth 100000 in
theorem whole (A : Option Addr) (c : Nat) (b : List UInt8) (k : Int) (w : World) (hA : Arg w A 1 bc b) (hc : b.length ≤ c) (hcm : c ≤ maxLen) (hb : b.length ≤ 140737488355328) :
    Calls Try.prog 18 #[.slice A b.length c, .int .i64 k] w (MkR (whl b k) w) := by
  have ho := opens A c b w hA hc hcm hb
  unfold maxLen at hcm
  have hall : ∀ r, whl b k = r → Calls Try.prog 18 #[.slice A b.length c, .int .i64 k] w (MkR r w) := by
    intro r hr
    unfold whl at hr
    generalize opn b = q at *
    obtain ⟨ok, ob, on, oe⟩ := q
    simp only at hr
    by_cases he : oe = 0
    · subst he
      rw [if_neg (by simp)] at hr
      by_cases hn : on = b.length
      · have hnb : ((on : Int) != (b.length : Int)) = false := by rw [hn]; simp
        by_cases hk : (ok : Int) = k
        · rw [if_neg (by simp [hn, hk])] at hr
          subst hr
          have hkb : ((ok : Int) != k) = false := by rw [hk]; simp
          clear hn hk
          go_enter Try.func18, Try.ntmps18
          go_wp2_with fail
          refine ho.mono ?_
          rintro e w1 ⟨x, rfl, hx, hU⟩
          go_wp2_with fail
          go_ret2
          exact ⟨_, rfl, hx, hU⟩
        · rw [if_pos (.inr hk)] at hr
          subst hr
          have hkb : ((ok : Int) != k) = true := by rw [bne_iff_ne]; exact hk
          clear hn
          go_enter Try.func18, Try.ntmps18
          go_wp2_with fail
          refine ho.mono ?_
          rintro e w1 ⟨x, rfl, hx, hU⟩
          go_wp2_with fail
          go_ret2
          exact ⟨_, rfl, Sl.nil _ _ _ _ _, hU⟩
      · rw [if_pos (.inl hn)] at hr
        subst hr
        have hnb : ((on : Int) != (b.length : Int)) = true := by rw [bne_iff_ne]; intro e; exact hn (by exact_mod_cast e)
        go_enter Try.func18, Try.ntmps18
        go_wp2_with fail
        refine ho.mono ?_
        rintro e w1 ⟨x, rfl, hx, hU⟩
        go_wp2_with fail
        go_ret2
        exact ⟨_, rfl, Sl.nil _ _ _ _ _, hU⟩
    · rw [if_pos he] at hr
      subst hr
      have heb : (oe != 0) = true := by simp [he]
      go_enter Try.func18, Try.ntmps18
      go_wp2_with fail
      refine ho.mono ?_
      rintro e w1 ⟨x, rfl, hx, hU⟩
      go_wp2_with fail
      go_ret2
      exact ⟨_, rfl, Sl.nil _ _ _ _ _, hU⟩
  exact hall _ rfl
theorem far_of {w : World} {A : Option Addr} {n c : Nat} {l : List UInt8} (h : Arg w A 1 bc l) : Far (· < w.heap.size) (.slice A n c) l := by
  rcases h with h | ⟨b, off, rfl, h2, _⟩
  · exact .inl h
  · refine .inr (fun k hk => ?_)
    have : b = k := by simpa [Value.ownBlock] using hk
    subst this
    exact h2
theorem heads_no2 (b : List UInt8) (h : b.length < 3) : ∃ x r1 r2, (⟨b, 0⟩ : Rd).number 1 = (x, r1) ∧ r1.number 2 = (0, r2) ∧ r2.e = 2 := by
  match b, h with
  | [], _ => exact ⟨_, _, ⟨[], 2⟩, rfl, rfl, rfl⟩
  | [x], _ => exact ⟨_, _, ⟨[], 2⟩, rfl, rfl, rfl⟩
  | [x, y], _ => exact ⟨_, _, ⟨[y], 2⟩, rfl, rfl, rfl⟩
set_option maxHeartbeats 8000000 in
set_option maxRecDepth 100000 in
theorem ropens (A : Option Addr) (c : Nat) (b : List UInt8) (w : World) (hA : Arg w A 1 bc b) (hc : b.length ≤ c) (hcm : c ≤ maxLen) (hb : b.length ≤ 140737488355328) :
    Calls Try.prog 17 #[.slice A b.length c] w (OpR (opn b) w) := by
  unfold maxLen at hcm
  by_cases h3 : b.length < 3
  · have ho : Hid (opn b = ⟨0, [], 0, 2⟩) := by show _ = _; unfold opn; rw [if_pos (.inl h3)]
    obtain ⟨x, r1, ⟨l2, e2⟩, q1, q2, he⟩ := heads_no2 b h3
    obtain rfl : e2 = 2 := he
    have eH := Lib.hid (And.intro q1 q2)
    clear q1 q2
    have hU0 : Upd Nil w (w.alloc (.cells #[.slice A b.length c, .int .i64 0] 86)) := (Upd.refl _ _).alloc _
    have hQ0 : QRd (· < w.heap.size) (w.alloc (.cells #[.slice A b.length c, .int .i64 0] 86)) w.heap.size ⟨b, 0⟩ := ⟨A, c, blk_new _ _, hA.upd hU0, hc, hcm, far_of hA⟩
    have hq1 := qnumber (· < w.heap.size) w.heap.size (Nat.lt_irrefl _) ⟨b, 0⟩ 1 _ hQ0
    go_enter Try.func17, Try.ntmps17
    go_wp2_with fail
    refine hq1.mono ?_
    rw [eH.out.1]
    rintro e w2 ⟨rfl, hR2, hU2⟩
    go_wp2_with fail
    refine (qnumber (· < w.heap.size) w.heap.size (Nat.lt_irrefl _) _ 2 _ hR2).mono ?_
    rw [eH.out.2]
    rintro e w3 ⟨rfl, ⟨A3, c3, hb3, hA3, hc3, hcm3, hF3⟩, hU3⟩
    have hU03 := (hU0.newOnly hU2 (Nat.le_refl _)).newOnly hU3 (Nat.le_refl _)
    have hcell0 := blk_cell hb3 0
    have hcell1 := blk_cell hb3 1
    simp only [List.getElem?_toArray, List.getElem?_cons_zero, List.getElem?_cons_succ] at hcell0 hcell1
    clear hq1 hQ0 hR2 hU0
    go_wp2_with fail
    rw [ho.out]
    exact bodyPost_ret (v := .tuple #[.int .i64 0, .slice none 0 0, .int .i64 0, .int .i64 2]) (by simp [results, Try.results17, go_sem]) rfl ⟨_, rfl, Sl.nil _ _ _ _ _, hU03⟩
  · obtain ⟨e1, e2⟩ := heads b (by omega)
    have eH := Lib.hid (And.intro e1 e2)
    clear e1 e2
    have hszl := sz_lt b
    obtain ⟨m, hm⟩ : ∃ m, b.length = m + 3 := ⟨b.length - 3, by omega⟩
    have hdl : (b.drop 3).length = m := by rw [List.length_drop]; omega
    by_cases h7 : b.length < sz b + 7
    · have ho : Hid (opn b = ⟨0, [], 0, 2⟩) := by show _ = _; unfold opn; rw [if_pos (.inr h7)]
      generalize sz b = n at *
      have hmn : (m : Int) < (n : Int) + 4 := by omega
      have hdlH := Lib.hid hdl
      clear hm hdl
      have hU0 : Upd Nil w (w.alloc (.cells #[.slice A b.length c, .int .i64 0] 86)) := (Upd.refl _ _).alloc _
      have hQ0 : QRd (· < w.heap.size) (w.alloc (.cells #[.slice A b.length c, .int .i64 0] 86)) w.heap.size ⟨b, 0⟩ := ⟨A, c, blk_new _ _, hA.upd hU0, hc, hcm, far_of hA⟩
      have hq1 := qnumber (· < w.heap.size) w.heap.size (Nat.lt_irrefl _) ⟨b, 0⟩ 1 _ hQ0
      go_enter Try.func17, Try.ntmps17
      go_wp2_with fail
      refine hq1.mono ?_
      rw [eH.out.1]
      rintro e w2 ⟨rfl, hR2, hU2⟩
      go_wp2_with fail
      refine (qnumber (· < w.heap.size) w.heap.size (Nat.lt_irrefl _) _ 2 _ hR2).mono ?_
      rw [eH.out.2]
      rintro e w3 ⟨rfl, ⟨A3, c3, hb3, hA3, hc3, hcm3, hF3⟩, hU3⟩
      have hU03 := (hU0.newOnly hU2 (Nat.le_refl _)).newOnly hU3 (Nat.le_refl _)
      have hcell0 := blk_cell hb3 0
      have hcell1 := blk_cell hb3 1
      simp only [List.getElem?_toArray, List.getElem?_cons_zero, List.getElem?_cons_succ] at hcell0 hcell1
      clear hq1 hQ0 hR2 hU0
      rw [hdlH.out] at hcell0
      go_wp2_with fail
      rw [ho.out]
      exact bodyPost_ret (v := .tuple #[.int .i64 0, .slice none 0 0, .int .i64 0, .int .i64 2]) (by simp [results, Try.results17, go_sem]) rfl ⟨_, rfl, Sl.nil _ _ _ _ _, hU03⟩
    · have hst := same_test b (by omega)
      have hopn : opn b = if num ((b.drop (3 + sz b)).take 4) ≠ onL 0 (b.take (3 + sz b)) then ⟨0, [], 0, 14⟩ else ⟨num (b.take 1), (b.take (3 + sz b)).drop 3, 3 + sz b + 4, 0⟩ := by
        unfold opn
        rw [if_neg (by omega)]
      have hk1 : num (b.take 1) ≤ 255 := by
        have h1 := num_lt (b.take 1)
        rw [List.length_take_of_le (by omega)] at h1
        omega
      have hT := arg_take hA (3 + sz b)
      have hT7 := arg_take hA (sz b + 7)
      have hB := arg_drop hT 3 c (by rw [List.length_take]; omega) (by rw [List.length_take]; omega)
      rw [if_neg (by omega), mul1] at hB
      have hTl : (b.take (3 + sz b)).length = 3 + sz b := List.length_take_of_le (by omega)
      have hT7l : (b.take (sz b + 7)).length = sz b + 7 := List.length_take_of_le (by omega)
      have hBl : ((b.take (3 + sz b)).drop 3).length = sz b := by rw [List.length_drop, hTl]; omega
      have hmk : mk (num (b.take 1) : Nat) ((b.take (3 + sz b)).drop 3) = (frameL (num (b.take 1)) ((b.take (3 + sz b)).drop 3), 0) := by
        unfold mk
        rw [if_neg (by rw [fits_1]; simp; omega), if_neg (by rw [hBl]; omega)]
        simp
      have kMk := fun w' (u : Upd Nil w w') => rmake (num (b.take 1) : Nat) (A.map (fun x => x.add 3)) (c - 3) ((b.take (3 + sz b)).drop 3) w' (hB.upd u) (by rw [hBl]; unfold maxLen; omega)
      have kCv := fun w' (u : Upd Nil w w') => cv (hT7.upd u) c
      have kSrc := fun w' (u : Upd Nil w w') => Src.ofArg (P := Try.prog) (tx := 22) ⟨_, elemU8.ht⟩ elemU8.len elemU8.one (hB.upd u) (c - 3)
      rw [hBl] at kMk
      rw [hT7l] at kCv
      rw [hmk] at kMk
      generalize frameL (num (b.take 1)) ((b.take (3 + sz b)).drop 3) = made at *
      generalize b.take (sz b + 7) = fr at *
      generalize num ((b.drop (3 + sz b)).take 4) = nm at *
      generalize onL 0 (b.take (3 + sz b)) = sm at *
      generalize hbody : (b.take (3 + sz b)).drop 3 = body at *
      generalize num (b.take 1) = kn at *
      generalize b.take (3 + sz b) = front at *
      generalize sz b = n at *
      have stH := Lib.hid hst
      have opH := Lib.hid hopn
      have hdlH := Lib.hid hdl
      have hBlH := Lib.hid hBl
      have hmn : ¬ ((m : Int) < (n : Int) + 4) := by omega
      have hadd : A.map (fun x => x.add 0) = A := by cases A <;> rfl
      have f1 : ((n : Int) + 3).toNat = n + 3 := by omega
      have f1' : ((n : Int) + 7).toNat = n + 7 := by omega
      have f4 : (n : Int) + 3 ≤ (c : Int) := by omega
      have f4' : (n : Int) + 7 ≤ (c : Int) := by omega
      have f5 : ¬ c = 3 := by omega
      have f6 : (3 : Int) ≤ (n : Int) + 3 := by omega
      have f7 : (3 : Int) ≤ (c : Int) := by omega
      have f8 : (0 : Int) ≤ (n : Int) + 7 := by omega
      clear hst hopn hTl hT7l hBl hbody hm hmk hk1 hdl
      have hU0 : Upd Nil w (w.alloc (.cells #[.slice A b.length c, .int .i64 0] 86)) := (Upd.refl _ _).alloc _
      have hQ0 : QRd (· < w.heap.size) (w.alloc (.cells #[.slice A b.length c, .int .i64 0] 86)) w.heap.size ⟨b, 0⟩ := ⟨A, c, blk_new _ _, hA.upd hU0, hc, hcm, far_of hA⟩
      have hq1 := qnumber (· < w.heap.size) w.heap.size (Nat.lt_irrefl _) ⟨b, 0⟩ 1 _ hQ0
      go_enter Try.func17, Try.ntmps17
      go_wp2_with fail
      refine hq1.mono ?_
      rw [eH.out.1]
      rintro e w2 ⟨rfl, hR2, hU2⟩
      go_wp2_with fail
      refine (qnumber (· < w.heap.size) w.heap.size (Nat.lt_irrefl _) _ 2 _ hR2).mono ?_
      rw [eH.out.2]
      rintro e w3 ⟨rfl, ⟨A3, c3, hb3, hA3, hc3, hcm3, hF3⟩, hU3⟩
      have hU03 := (hU0.newOnly hU2 (Nat.le_refl _)).newOnly hU3 (Nat.le_refl _)
      have hcell0 := blk_cell hb3 0
      have hcell1 := blk_cell hb3 1
      simp only [List.getElem?_toArray, List.getElem?_cons_zero, List.getElem?_cons_succ] at hcell0 hcell1
      clear hq1 hQ0 hR2 hU0
      rw [hdlH.out] at hcell0
      go_wp2_with fail
      refine (kMk _ hU03).mono ?_
      rintro e w4 ⟨x4, rfl, hx4, hU4⟩
      obtain ⟨A4, c4, rfl, hc4⟩ := hx4.form
      have hA4 := hx4.cells bc_len (by omega)
      have hU04 := hU03.tr hU4
      have hU4d := hU04.drew
      go_wp2_with fail
      have kc1 : ∀ w', Upd Nil w4.drew w' → (convert 22 9 (.slice A4 made.length c4)).run Try.prog w' = .ok (.string ⟨made.toArray⟩) w' := fun w' u => cv ((hA4.upd (Upd.refl Nil w4).drew).upd u) c4
      have kc2 : ∀ w', Upd Nil w4.drew w' → (convert 22 9 (.slice A (n + 7) c)).run Try.prog w' = .ok (.string ⟨fr.toArray⟩) w' := fun w' u => kCv w' (hU4d.tr u)
      by_cases he : made = fr
      · have ho : Hid (opn b = ⟨kn, body, 3 + n + 4, 0⟩) := by
          show _ = _
          rw [opH.out, if_neg (by simpa using stH.out.1 he)]
        subst he
        refine wp_region_lex Nil [0, 1, 2, 3, 4, 5, 6] (by kernel_rfl) (by kernel_rfl) rfl (by kernel_rfl) ?_
        simp only [inOrder, List.filterMap_cons, List.filterMap_nil, List.getElem?_cons_zero, List.getElem?_cons_succ]
        try simp only [Act.put, List.setIfInBounds_toArray, List.set_cons_zero, List.set_cons_succ]
        repeat
          first
          | (refine lex_pure (v := ?_) rfl rfl ?_ ?_
             rotate_left
             · intro w' hU'
               go_simp
               try with_reducible rfl
             try simp only [Act.put, List.setIfInBounds_toArray, List.set_cons_zero, List.set_cons_succ])
          | (refine lex_skip rfl ?_
             try simp only [Act.put, List.setIfInBounds_toArray, List.set_cons_zero, List.set_cons_succ])
        refine lex_done ?_
        have hUz : Upd Nil w (w4.alloc (.cells #[] 5)).drew := (hU04.alloc _).drew
        have hsrc := kSrc _ hUz
        have hz : Sl (w4.alloc (.cells #[] 5)).drew w4.heap.size 5 1 bc (.slice (some ⟨w4.heap.size, 0, none⟩) 0 0) [] := (Sl.zero w4 w4.heap.size _ _ _ _ (Nat.le_refl _)).drew
        have hbl1 : body.length ≤ 140737488355328 := by have := hBlH.out; omega
        go_wp2_with (at_builtin; (refine wp_app w4.heap.size rfl (.tmp 53) (.tmp 57) elemU8 rfl _ [] body _ rfl (by rw [hBlH.out]; rfl) hsrc hz (by simp) (by simp; omega) (by unfold maxLen; simp; omega) ?_); intro A5 c5 w5 hv5 hg5 hat5)
        rw [ho.out]
        have hx5 : Sl w5 w4.heap.size 5 1 bc (.slice A5 body.length c5) body := by simpa using hv5
        exact bodyPost_ret (v := .tuple #[.int .i64 kn, .slice A5 body.length c5, .int .i64 ((n : Int) + 7), .int .i64 0]) (by simp [results, Try.results17, go_sem]) rfl ⟨_, by rw [show ((3 + n + 4 : Nat) : Int) = (n : Int) + 7 by omega], hx5.lower hU04.size, hUz.grownOwn hz hU04.size hg5⟩
      · have ho : Hid (opn b = ⟨0, [], 0, 14⟩) := by
          show _ = _
          rw [opH.out, if_pos (fun e => he (stH.out.2 e))]
        have hns : ((⟨made.toArray⟩ : ByteArray) = ⟨fr.toArray⟩) = False := by simp [he]
        have hns1 : ((⟨made.toArray⟩ : ByteArray).toList == (⟨fr.toArray⟩ : ByteArray).toList) = false := (Lib.bytes_beq_false_iff _ _).2 (by simp [he])
        have hns2 : (made == fr) = false := beq_eq_false_iff_ne.mpr he
        have hns3 : (made.toArray == fr.toArray) = false := by simp [he]
        have hns4 : (made = fr) = False := eq_false he
        refine wp_region_lex Nil [0, 1, 2, 3, 4, 5, 6] (by kernel_rfl) (by kernel_rfl) rfl (by kernel_rfl) ?_
        simp only [inOrder, List.filterMap_cons, List.filterMap_nil, List.getElem?_cons_zero, List.getElem?_cons_succ]
        try simp only [Act.put, List.setIfInBounds_toArray, List.set_cons_zero, List.set_cons_succ]
        repeat
          first
          | (refine lex_pure (v := ?_) rfl rfl ?_ ?_
             rotate_left
             · intro w' hU'
               go_simp
               try with_reducible rfl
             try simp only [Act.put, List.setIfInBounds_toArray, List.set_cons_zero, List.set_cons_succ])
          | (refine lex_skip rfl ?_
             try simp only [Act.put, List.setIfInBounds_toArray, List.set_cons_zero, List.set_cons_succ])
        refine lex_done ?_
        go_wp2_with fail
        rw [ho.out]
        exact bodyPost_ret (v := .tuple #[.int .i64 0, .slice none 0 0, .int .i64 0, .int .i64 14]) (by simp [results, Try.results17, go_sem]) rfl ⟨_, rfl, Sl.nil _ _ _ _ _, hU4d⟩
set_option maxHeartbeats 4000000 in
set_option maxRecDepth 100000 in
theorem rwhole (A : Option Addr) (c : Nat) (b : List UInt8) (k : Int) (w : World) (hA : Arg w A 1 bc b) (hc : b.length ≤ c) (hcm : c ≤ maxLen) (hb : b.length ≤ 140737488355328) :
    Calls Try.prog 19 #[.slice A b.length c, .int .i64 k] w (MkR (whl b k) w) := by
  have ho := ropens A c b w hA hc hcm hb
  unfold maxLen at hcm
  have hall : ∀ r, whl b k = r → Calls Try.prog 19 #[.slice A b.length c, .int .i64 k] w (MkR r w) := by
    intro r hr
    unfold whl at hr
    generalize opn b = q at *
    obtain ⟨ok, ob, on, oe⟩ := q
    simp only at hr
    by_cases he : oe = 0
    · subst he
      rw [if_neg (by simp)] at hr
      by_cases hn : on = b.length
      · have hnb : ((on : Int) != (b.length : Int)) = false := by rw [hn]; simp
        by_cases hk : (ok : Int) = k
        · rw [if_neg (by simp [hn, hk])] at hr
          subst hr
          have hkb : ((ok : Int) != k) = false := by rw [hk]; simp
          clear hn hk
          go_enter Try.func19, Try.ntmps19
          go_wp2_with fail
          refine ho.mono ?_
          rintro e w1 ⟨x, rfl, hx, hU⟩
          go_wp2_with fail
          go_ret2
          exact ⟨_, rfl, hx, hU⟩
        · rw [if_pos (.inr hk)] at hr
          subst hr
          have hkb : ((ok : Int) != k) = true := by rw [bne_iff_ne]; exact hk
          clear hn
          go_enter Try.func19, Try.ntmps19
          go_wp2_with fail
          refine ho.mono ?_
          rintro e w1 ⟨x, rfl, hx, hU⟩
          go_wp2_with fail
          go_ret2
          exact ⟨_, rfl, Sl.nil _ _ _ _ _, hU⟩
      · rw [if_pos (.inl hn)] at hr
        subst hr
        have hnb : ((on : Int) != (b.length : Int)) = true := by rw [bne_iff_ne]; intro e; exact hn (by exact_mod_cast e)
        go_enter Try.func19, Try.ntmps19
        go_wp2_with fail
        refine ho.mono ?_
        rintro e w1 ⟨x, rfl, hx, hU⟩
        go_wp2_with fail
        go_ret2
        exact ⟨_, rfl, Sl.nil _ _ _ _ _, hU⟩
    · rw [if_pos he] at hr
      subst hr
      have heb : (oe != 0) = true := by simp [he]
      go_enter Try.func19, Try.ntmps19
      go_wp2_with fail
      refine ho.mono ?_
      rintro e w1 ⟨x, rfl, hx, hU⟩
      go_wp2_with fail
      go_ret2
      exact ⟨_, rfl, Sl.nil _ _ _ _ _, hU⟩
  exact hall _ rfl
end Go.Proofs.Ythppheklnplljaa.Frame
