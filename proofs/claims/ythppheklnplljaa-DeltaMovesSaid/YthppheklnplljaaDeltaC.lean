/-
  A record's bytes: the reference's walk. Conditions: what the argument's slice holds.
-/
import Derived.Test.YthppheklnplljaaDeltaA
import Derived.Test.YthppheklnplljaaInts
namespace Go.Proofs.Ythppheklnplljaa.Delta
open Go.RowKit Go.Proofs.Ythppheklnplljaa.Base Go.Proofs.Ythppheklnplljaa.Word Go.Proofs.Ythppheklnplljaa.Frame Go.Proofs.Ythppheklnplljaa.Ints
set_option linter.unusedVariables false
set_option linter.unusedSimpArgs false
theorem rv_cell {w : World} {A : Option Addr} {l : List Mv} (h : Arg w A 4 mvC l) {i : Nat} (hi : i < l.length) : ∃ g o, A = some ⟨g, o, none⟩ ∧ g < w.heap.size ∧ w.cell? ⟨g, o + i * 4, none⟩ = some (.int .i64 l[i].place) ∧ w.cell? ⟨g, o + i * 4 + 1, none⟩ = some (.int .i64 l[i].block) ∧ w.cell? ⟨g, o + i * 4 + 2, none⟩ = some (.int .i64 l[i].page) ∧ w.cell? ⟨g, o + i * 4 + 3, none⟩ = some (.bool l[i].gone) := by
  rcases h with h | ⟨b, off, h1, h2, h3⟩
  · subst h; simp at hi
  · exact ⟨b, off, h1, h2, by simpa [mvC] using h3 i hi 0 (by omega), by simpa [mvC] using h3 i hi 1 (by omega), by simpa [mvC] using h3 i hi 2 (by omega), by simpa [mvC] using h3 i hi 3 (by omega)⟩
theorem all_no {l : List Mv} {i : Nat} (hi : i < l.length) (h : rightM l[i] = false) : l.all rightM = false := by
  rw [List.all_eq_false]
  exact ⟨l[i], List.getElem_mem hi, by simp [h]⟩
theorem all_yes {l : List Mv} (h : ∀ j (hj : j < l.length), rightM l[j] = true) : l.all rightM = true := by
  rw [List.all_eq_true]
  intro x hx
  obtain ⟨j, hj, rfl⟩ := List.getElem_of_mem hx
  exact h j hj
theorem putL_b (b : List UInt8) (g : Bool) : putL b (c01 g) 1 = b ++ [if g then 1 else 0] := by
  cases g <;> rfl
set_option maxHeartbeats 4000000 in
set_option maxRecDepth 100000 in
theorem rrecord (number : Int) (A : Option Addr) (c : Nat) (l : List Mv) (w : World) (hA : Arg w A 4 mvC l) (hl : l.length ≤ 4398046511000) :
    Calls Try.prog 33 #[.int .i64 number, .slice A l.length c] w (MkR (recB number l) w) := by
  have hhl := recHead_len number l.length
  have hfold := fun i => fold_len (l.take i) (recHead number l.length)
  have hrec : recB number l = if (numOk number && l.all rightM) = false then ([], 1) else if 32 < l.length then ([], 4) else mk 68 (l.foldl encM (recHead number l.length)) := rfl
  generalize hRR : MkR (recB number l) w = RR
  have hRH := Lib.hid hRR
  have hpk := Lib.hid (And.intro hrec (And.intro hhl hfold))
  clear hRR hhl hfold hrec
  by_cases h0 : number < 0
  · have hno : numOk number = false := by unfold numOk inR; rw [decide_eq_false (Int.not_le.2 h0)]; rfl
    have hnH := Lib.hid hno
    clear hno
    go_enter Try.func33, Try.ntmps33
    go_wp2_with fail
    rw [← hRH.out, hpk.out.1, hnH.out]
    exact ⟨_, rfl, Sl.nil _ _ _ _ _, Upd.refl _ _⟩
  by_cases h1 : 2147483648 ≤ number
  · have hno : numOk number = false := by unfold numOk inR; rw [decide_eq_false (Int.not_lt.2 h1)]; simp
    have hnH := Lib.hid hno
    clear hno
    go_enter Try.func33, Try.ntmps33
    go_wp2_with fail
    rw [← hRH.out, hpk.out.1, hnH.out]
    exact ⟨_, rfl, Sl.nil _ _ _ _ _, Upd.refl _ _⟩
  have hyes : numOk number = true := by unfold numOk inR; rw [decide_eq_true (Int.not_lt.1 h0), decide_eq_true (Int.not_le.1 h1)]; rfl
  have hmx : recHead number l.length = putL (putL [] number 4) l.length 1 := by unfold recHead; rw [show max number 0 = number by omega]
  have hnH := Lib.hid (And.intro hyes hmx)
  clear hyes hmx
  go_enter Try.func33, Try.ntmps33
  go_wp2_with fail
  clear h0 h1
  go_loopw [19] (fun s19 wr => ∃ i : Nat, i ≤ l.length ∧ s19 = .int .i64 (i : Int) ∧ (∀ j (hj : j < l.length), j < i → rightM l[j] = true) ∧ Upd Nil w wr) (fun s19 _ => l.length - (intOf s19).toNat)
  case atStart => exact ⟨0, by omega, rfl, fun j _ h => absurd h (by omega), Upd.refl _ _⟩
  case round =>
    obtain ⟨i, hi, rfl, hyes, hU⟩ := hrel
    by_cases hlt : i < l.length
    · obtain ⟨g, o, rfl, _, y0, y1, y2, y3⟩ := rv_cell (hA.upd hU) hlt
      have hno := fun h => all_no hlt h
      have hys : rightM l[i] = true → ∀ j (hj : j < l.length), j < i + 1 → rightM l[j] = true := fun h j hj hji => by
        rcases Nat.lt_or_ge j i with h1 | h1
        · exact hyes j hj h1
        · obtain rfl : j = i := by omega
          exact h
      have hrm := fun w => rright l[i] w
      generalize l[i] = m at *
      have ua := hU.alloc (.cells #[.int .i64 m.place, .int .i64 m.block, .int .i64 m.page, .bool m.gone] 48)
      have hyH := Lib.hid (And.intro hno hys)
      clear hno hys hyes
      generalize hrb : rightM m = rb at *
      clear hrb
      cases rb with
      | false =>
        go_wp2_with fail
        refine (hrm _).mono ?_
        rintro e w5 ⟨rfl, hU5⟩
        go_wp2_with fail
        rw [← hRH.out, hpk.out.1, hyH.out.1 (by simp)]
        simp only [Bool.and_false, if_true]
        exact ⟨_, rfl, Sl.nil _ _ _ _ _, ua.tr hU5⟩
      | true =>
        have hy2 := Lib.hid (hyH.out.2 (by simp))
        go_wp2_with fail
        refine (hrm _).mono ?_
        rintro e w5 ⟨rfl, hU5⟩
        go_wp2_with fail
        go_roundw
        case measure => simp [intOf]; omega
        case rel => exact ⟨i + 1, by omega, by go_num, hy2.out, ua.tr hU5⟩
    · obtain rfl : i = l.length := by omega
      obtain ⟨w2, rfl⟩ : ∃ x, x = wr := ⟨wr, rfl⟩
      have hall := Lib.hid (all_yes (fun j hj => hyes j hj hj))
      clear hyes hi hlt
      by_cases h32 : 32 < (l.length : Int)
      · go_wp2_with fail
        rw [← hRH.out, hpk.out.1, hnH.out.1, hall.out, if_neg (by simp), if_pos (by omega)]
        exact ⟨_, rfl, Sl.nil _ _ _ _ _, hU⟩
      · go_wp2_with fail
        refine (rput none 0 [] number 4 _ (.inl rfl) (by simp)).mono ?_
        rintro e w3 ⟨v2, rfl, hv2, hU2⟩
        obtain ⟨A2, c2, rfl, hc2⟩ := hv2.form
        have hl2 := (putL_len [] number 4).2
        simp only [List.length_nil] at hl2
        have hA2 := hv2.cells bc_len (by omega)
        generalize hH0 : putL [] number 4 = H0 at *
        go_wp2_with fail
        refine (rput A2 c2 H0 l.length 1 _ hA2 (by omega)).mono ?_
        rintro e w4 ⟨v3, rfl, hv3, hU3⟩
        have e3 : putL H0 l.length 1 = (l.take 0).foldl encM (recHead number l.length) := by rw [hnH.out.2]; rfl
        rw [e3] at hv3
        have hU04 := (hU.tr hU2).tr hU3
        have hv3 := hv3.lower (hU.tr hU2).size
        clear hv2 hA2 e3 hH0 hl2 hc2
        go_wp2_with fail
        go_loopw [8, 37] (fun s8 s37 wr => ∃ (i : Nat) (V : Value), i ≤ l.length ∧ s37 = .int .i64 (i : Int) ∧ s8 = V ∧ Sl wr w.heap.size 5 1 bc V ((l.take i).foldl encM (recHead number l.length)) ∧ Upd Nil w wr) (fun _ s37 _ => l.length - (intOf s37).toNat)
        case atStart => exact ⟨0, _, by omega, rfl, rfl, hv3, hU04⟩
        case round =>
          clear hv3 hU04 hU2 hU3 hU
          obtain ⟨i, V, hi, rfl, rfl, hV, hU⟩ := hrel
          have hsz := hU.size
          have hbl : ((l.take i).foldl encM (recHead number l.length)).length ≤ 5000 := by
            have h1 := hpk.out.2.2 i
            have h2 := hpk.out.2.1
            have h3 : (l.take i).length ≤ 300 := by simp; omega
            omega
          by_cases hlt : i < l.length
          · have hft := fold_take hlt (recHead number l.length)
            obtain ⟨g, o, rfl, _, y0, y1, y2, y3⟩ := rv_cell (hA.upd hU) hlt
            generalize (l.take i).foldl encM (recHead number l.length) = B at *
            generalize l[i] = m at *
            obtain ⟨p, q, s, gn, hmm⟩ : ∃ p q s gn, m = ⟨p, q, s, gn⟩ := ⟨m.place, m.block, m.page, m.gone, rfl⟩
            subst hmm
            simp only at y0 y1 y2 y3
            obtain ⟨A5, c5, rfl, hc5⟩ := hV.form
            have ua := (Upd.refl Nil wr).alloc (.cells #[.int .i64 p, .int .i64 q, .int .i64 s, .bool gn] 48)
            have hx := blk_new wr (.cells #[.int .i64 p, .int .i64 q, .int .i64 s, .bool gn] 48)
            have hV5 := hV.upd0 ua
            have hU5 := hU.tr ua
            have hfH := Lib.hid (And.intro hft hbl)
            clear hft hV hU
            go_wp2_with fail
            generalize wr.alloc (.cells #[.int .i64 p, .int .i64 q, .int .i64 s, .bool gn] 48) = w5 at *
            generalize wr.heap.size = xb at *
            have hbl := hfH.out.2
            have hA5 := hV5.cells bc_len (by omega)
            have x0 := fun w' (u : Upd Nil w5.drew w') => blk_cell (u.blk (blk_drew hx) (fun h => h)) 0
            have x1 := fun w' (u : Upd Nil w5.drew w') => blk_cell (u.blk (blk_drew hx) (fun h => h)) 1
            have x2 := fun w' (u : Upd Nil w5.drew w') => blk_cell (u.blk (blk_drew hx) (fun h => h)) 2
            simp only [List.getElem?_toArray, List.getElem?_cons_zero, List.getElem?_cons_succ] at x0 x1 x2
            refine wp_region_lexT (Upd Nil) (Upd Nil) (fun _ => Upd.refl _ _) (fun _ _ _ h k => h.tr k) (fun _ => Upd.refl _ _) (fun _ _ _ h k => h.tr k) (fun _ _ h => h.mono (fun _ h => h)) [(0, true), (1, true), (2, true), (4, true), (5, true), (7, true), (8, true), (3, false), (6, false), (9, false), (10, true)] (by kernel_rfl) (by kernel_rfl) rfl (by kernel_rfl) (by kernel_rfl) ?_
            simp only [inOrderT, List.filterMap_cons, List.filterMap_nil, List.getElem?_cons_zero, List.getElem?_cons_succ, Option.map_some]
            try simp only [Act.put, List.setIfInBounds_toArray, List.set_cons_zero, List.set_cons_succ]
            repeat
              first
              | (refine lexT_sure (v := ?_) rfl rfl ?_ ?_
                 rotate_left
                 · intro w' hU'
                   go_simp
                   try with_reducible rfl
                 try simp only [Act.put, List.setIfInBounds_toArray, List.set_cons_zero, List.set_cons_succ])
              | (refine lexT_pure (v := ?_) rfl rfl ?_ ?_
                 rotate_left
                 · intro w' hU'
                   go_simp
                   try with_reducible rfl
                 try simp only [Act.put, List.setIfInBounds_toArray, List.set_cons_zero, List.set_cons_succ])
              | (refine lexT_skip rfl ?_
                 try simp only [Act.put, List.setIfInBounds_toArray, List.set_cons_zero, List.set_cons_succ])
            have g1 := putL_len B p 1
            have g2 := putL_len (putL B p 1) q 1
            have g3 := putL_len (putL (putL B p 1) q 1) s 1
            refine lexT_fn (f := 47) (args := _) rfl rfl rfl (by go_simp) ((rput A5 c5 B p 1 w5.drew (hA5.upd (Upd.refl Nil w5).drew) (by omega)).mono ?_)
            rintro e w6 ⟨v6, rfl, hv6, hU6⟩
            refine ⟨_, rfl, hU6, ?_⟩
            obtain ⟨A6, c6, rfl, _⟩ := hv6.form
            have hA6 := hv6.cells bc_len (by omega)
            try simp only [Act.put, List.setIfInBounds_toArray, List.set_cons_zero, List.set_cons_succ]
            repeat
              first
              | (refine lexT_sure (v := ?_) rfl rfl ?_ ?_
                 rotate_left
                 · intro w' hU'
                   go_simp
                   try with_reducible rfl
                 try simp only [Act.put, List.setIfInBounds_toArray, List.set_cons_zero, List.set_cons_succ])
              | (refine lexT_pure (v := ?_) rfl rfl ?_ ?_
                 rotate_left
                 · intro w' hU'
                   go_simp
                   try with_reducible rfl
                 try simp only [Act.put, List.setIfInBounds_toArray, List.set_cons_zero, List.set_cons_succ])
              | (refine lexT_skip rfl ?_
                 try simp only [Act.put, List.setIfInBounds_toArray, List.set_cons_zero, List.set_cons_succ])
            refine lexT_fn (f := 47) (args := _) rfl rfl rfl (by go_simp) ((rput A6 c6 _ q 1 w6 hA6 (by omega)).mono ?_)
            rintro e w7 ⟨v7, rfl, hv7, hU7⟩
            refine ⟨_, rfl, hU7, ?_⟩
            obtain ⟨A7, c7, rfl, _⟩ := hv7.form
            have hA7 := hv7.cells bc_len (by omega)
            try simp only [Act.put, List.setIfInBounds_toArray, List.set_cons_zero, List.set_cons_succ]
            repeat
              first
              | (refine lexT_sure (v := ?_) rfl rfl ?_ ?_
                 rotate_left
                 · intro w' hU'
                   go_simp
                   try with_reducible rfl
                 try simp only [Act.put, List.setIfInBounds_toArray, List.set_cons_zero, List.set_cons_succ])
              | (refine lexT_pure (v := ?_) rfl rfl ?_ ?_
                 rotate_left
                 · intro w' hU'
                   go_simp
                   try with_reducible rfl
                 try simp only [Act.put, List.setIfInBounds_toArray, List.set_cons_zero, List.set_cons_succ])
              | (refine lexT_skip rfl ?_
                 try simp only [Act.put, List.setIfInBounds_toArray, List.set_cons_zero, List.set_cons_succ])
            refine lexT_fn (f := 47) (args := _) rfl rfl rfl (by go_simp) ((rput A7 c7 _ s 1 w7 hA7 (by omega)).mono ?_)
            rintro e w8 ⟨v8, rfl, hv8, hU8⟩
            refine ⟨_, rfl, hU8, ?_⟩
            try simp only [Act.put, List.setIfInBounds_toArray, List.set_cons_zero, List.set_cons_succ]
            repeat
              first
              | (refine lexT_sure (v := ?_) rfl rfl ?_ ?_
                 rotate_left
                 · intro w' hU'
                   go_simp
                   try with_reducible rfl
                 try simp only [Act.put, List.setIfInBounds_toArray, List.set_cons_zero, List.set_cons_succ])
              | (refine lexT_pure (v := ?_) rfl rfl ?_ ?_
                 rotate_left
                 · intro w' hU'
                   go_simp
                   try with_reducible rfl
                 try simp only [Act.put, List.setIfInBounds_toArray, List.set_cons_zero, List.set_cons_succ])
              | (refine lexT_skip rfl ?_
                 try simp only [Act.put, List.setIfInBounds_toArray, List.set_cons_zero, List.set_cons_succ])
            refine lexT_done ?_
            have hU58 : Upd Nil w5 w8 := (((Upd.refl Nil w5).drew.tr hU6).tr hU7).tr hU8
            have hx8 := hU58.blk hx (fun h => h)
            have hU9 := hU5.tr hU58
            have hv9 := hv8.lower (((hU5.tr ((Upd.refl Nil w5).drew)).tr hU6).tr hU7).size
            have hsz8 := hU9.size
            have henc : encM B ⟨p, q, s, gn⟩ = putL (putL (putL B p 1) q 1) s 1 ++ [if gn then 1 else 0] := putL_b _ _
            generalize putL (putL (putL B p 1) q 1) s 1 = B3 at *
            have hB3 : B3.length ≤ 6000 := by omega
            have heH := Lib.hid henc
            clear henc g1 g2 g3 hv6 hv7 hv8 hA6 hA7 hA5 hV5 hU6 hU7 hU8 x0 x1 x2 hbl
            have y3 := blk_cell hx8 3
            simp only [List.getElem?_toArray, List.getElem?_cons_zero, List.getElem?_cons_succ] at y3
            clear hx hx8 hU5 hU58
            obtain ⟨A8, c8, rfl, _⟩ := hv9.form
            cases gn with
            | true =>
              go_wp2_with (at_builtin; refine wp_app1 w.heap.size rfl (.tmp 53) (.tmp 54) elemU8 rfl w8 (1 : UInt8) (by rfl) _ B3 rfl (by simp [Act.eval]) hv9 hsz8 (by omega) (by unfold maxLen; omega) ?_; intro A9 c9 w9 hv10 hg9 hat9)
              go_roundw
              case measure => simp [intOf]; omega
              case rel => exact ⟨i + 1, _, by omega, by go_num, rfl, by rw [hfH.out.1, heH.out]; exact hv10, hU9.grownOwn hv9 (Nat.le_refl _) hg9⟩
            | false =>
              go_wp2_with (at_builtin; refine wp_app1 w.heap.size rfl (.tmp 56) (.tmp 57) elemU8 rfl w8 (0 : UInt8) (by rfl) _ B3 rfl (by simp [Act.eval]) hv9 hsz8 (by omega) (by unfold maxLen; omega) ?_; intro A9 c9 w9 hv10 hg9 hat9)
              go_roundw
              case measure => simp [intOf]; omega
              case rel => exact ⟨i + 1, _, by omega, by go_num, rfl, by rw [hfH.out.1, heH.out]; exact hv10, hU9.grownOwn hv9 (Nat.le_refl _) hg9⟩
          · obtain rfl : i = l.length := by omega
            rw [List.take_length] at hV hbl
            obtain ⟨A5, c5, rfl, hc5⟩ := hV.form
            have hA5 := hV.cells bc_len (by omega)
            have hB : recB number l = mk 68 (l.foldl encM (recHead number l.length)) := by rw [hpk.out.1, hnH.out.1, hall.out, if_neg (by simp), if_neg (by omega)]
            have hBH := Lib.hid hB
            generalize l.foldl encM (recHead number l.length) = B at *
            have hbm : B.length ≤ maxLen := by unfold maxLen; omega
            have qm := fun w h => rmake 68 A5 c5 B w h hbm
            clear hbm hbl hB
            go_wp2_with fail
            refine (qm _ hA5).mono ?_
            rintro e w6 ⟨v, rfl, hv, hU6⟩
            go_wp2_with fail
            rw [← hRH.out, hBH.out]
            exact ⟨v, rfl, hv.lower hU.size, hU.tr hU6⟩
end Go.Proofs.Ythppheklnplljaa.Delta
