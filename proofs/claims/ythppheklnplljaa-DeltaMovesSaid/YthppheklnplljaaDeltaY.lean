/-
  DeltaMoves: the walk. Conditions: what the arguments' slices hold.
-/
import Derived.Test.YthppheklnplljaaDeltaW
import Derived.Test.YthppheklnplljaaDeltaX
namespace Go.Proofs.Ythppheklnplljaa.Delta
open Go.RowKit Go.Proofs.Ythppheklnplljaa.Base Go.Proofs.Ythppheklnplljaa.Table
set_option linter.unusedVariables false
set_option linter.unusedSimpArgs false
theorem at_spot {R : List Row3} {n m : Nat} (hi : In R n m) {i : Nat} (h : i < 64) : rAtV R i = ((spotV R i).block, (spotV R i).page, !(spotV R i).gone) := by
  rw [rAt_eq hi]
  unfold atV spotV
  rw [if_pos (by omega), Int.toNat_natCast]
  cases spotOf R i <;> rfl
theorem made_ok (l : List Mv) : PW (madeN l) ∧ In (madeN l) 8 8 := by
  have : ∀ (l : List Mv) (R : List Row3), PW R → In R 8 8 → PW (l.foldl doM R) ∧ In (l.foldl doM R) 8 8 := by
    intro l
    induction l with
    | nil => exact fun R h hi => ⟨h, hi⟩
    | cons x l ih =>
      intro R h hi
      obtain ⟨h1, h2⟩ := doM_ok h hi x
      exact ih _ h1 h2
  exact this l [] ⟨List.Pairwise.nil, List.Pairwise.nil⟩ (fun r hr => by simp at hr)
theorem clr_take {R : List Row3} {l : List Mv} {i : Nat} (h : i < l.length) : clrN R (l.take (i + 1)) = rClr (clrN R (l.take i)) l[i].place := by
  unfold clrN
  rw [List.take_succ_eq_append_getElem h, List.foldl_append]
  rfl
theorem apl_bad (R : List Row3) : aplV 8 8 R [⟨-1, 0, 0, false⟩] = (1, R) := by
  unfold aplV
  rw [if_pos (by decide)]
set_option maxHeartbeats 8000000 in
set_option maxRecDepth 100000 in
theorem movesD (A : Option Addr) (c : Nat) (a : List Mv) (B : Option Addr) (cb : Nat) (b : List Mv) (w : World) (hA : Arg w A 4 mvC a) (hB : Arg w B 4 mvC b) :
    Calls Try.prog 12 #[.slice A a.length c, .slice B b.length cb] w (RetB true w) := by
  by_cases h1 : 80 < a.length
  · have hI : (80 : Int) < (a.length : Int) := by omega
    go_enter Try.func12, Try.ntmps12
    go_wp2_with fail
    refine (fixedD _).mono ?_
    rintro e w1 ⟨rfl, hU1⟩
    go_wp2_with fail
    go_ret
    exact ⟨rfl, hU1⟩
  have hI : ¬ (80 : Int) < (a.length : Int) := by omega
  by_cases h2 : 80 < b.length
  · have hI2 : (80 : Int) < (b.length : Int) := by omega
    go_enter Try.func12, Try.ntmps12
    go_wp2_with fail
    refine (fixedD _).mono ?_
    rintro e w1 ⟨rfl, hU1⟩
    go_wp2_with fail
    go_ret
    exact ⟨rfl, hU1⟩
  have hI2 : ¬ (80 : Int) < (b.length : Int) := by omega
  obtain ⟨hpa, hia⟩ := made_ok a
  obtain ⟨hpb, hib⟩ := made_ok b
  have qa := fun (w' : World) (u : Upd Nil w w') => madeC A c a w' (hA.upd u) (by omega)
  have qb := fun (w' : World) (u : Upd Nil w w') => madeC B cb b w' (hB.upd u) (by omega)
  generalize madeN a = Ra at *
  generalize madeN b = Rb at *
  have hpk := Lib.hid (And.intro hpa (And.intro hia (And.intro hpb hib)))
  clear hpa hia hpb hib h1 h2
  go_enter Try.func12, Try.ntmps12
  go_wp2_with fail
  refine (fixedD _).mono ?_
  rintro e w1 ⟨rfl, hU1⟩
  go_wp2_with fail
  refine (qa _ hU1).mono ?_
  rintro e w2 ⟨bx, bp, rfl, ⟨⟨F, Fp, hX, hP, hFb, hPb, _⟩, _⟩, hU2⟩
  have hV2 := hU1.tr hU2
  go_wp2_with fail
  refine (qb _ hV2).mono ?_
  rintro e w3 ⟨by', bq, rfl, ⟨⟨G, Gq, hY, hQ, hGb, hQb, _⟩, _⟩, hU3⟩
  have hX3 := hX.upd0 hU3
  have hP3 := hP.upd0 hU3
  have hV3 := hV2.tr hU3
  have hs1 := hU1.size
  clear qa qb hU1 hX hP
  go_wp2_with fail
  refine (tellC F G bx by' Ra Rb 8 8 _ hX3 hY).mono ?_
  rintro e w4 ⟨v4, rfl, hL, hU4⟩
  have hX4 := hX3.upd0 hU4
  have hP4 := hP3.upd0 hU4
  have hY4 := hY.upd0 hU4
  have hQ4 := hQ.upd0 hU4
  have hV4 := hV3.tr hU4
  obtain ⟨AL, cL, rfl, _⟩ := hL.form
  have hFG : ∀ x, G x → ¬ F x := fun x hg hf => by have := (hGb x hg).1; have := (hFb x hf).2; omega
  have hF2 : ∀ x, F x → w.heap.size ≤ x ∧ x < w3.heap.size := fun x hf => ⟨by have := (hFb x hf).1; have := hs1; omega, by have := (hFb x hf).2; have := hU3.size; omega⟩
  have hll := mov_len Ra Rb 64
  have hLH := Lib.hid hll
  have hs4 := hU4.size
  clear hX3 hP3 hY hQ hFb hPb hGb hQb hU2 hU3 hU4 hV2 hV3 hll
  have hmx := hL.max
  have hs3 : w3.heap.size ≤ w4.heap.size := hs4
  go_wp2_with fail
  go_loopw [10, 43] (fun s10 s43 wr => ∃ i : Nat, i ≤ 64 ∧ s43 = .int .i64 (i : Int) ∧ s10 = .int .i64 ((movN Ra Rb i).length : Int) ∧ Upd Nil w4 wr) (fun _ s43 _ => 64 - (intOf s43).toNat)
  case atStart => exact ⟨0, by omega, rfl, rfl, Upd.refl _ _⟩
  case round =>
    obtain ⟨i, hi, rfl, rfl, hUr⟩ := hrel
    by_cases hlt : i < 64
    · have hI3 : (i : Int) < 64 := by omega
      have k1 := rat Fp bp Ra 8 8 i wr (hP4.upd0 hUr)
      have k2 := fun w' (u : Upd Nil wr w') => rat Gq bq Rb 8 8 i w' (hQ4.upd0 (hUr.tr u))
      unfold RAtR at k1 k2
      rw [at_spot hpk.out.2.1 hlt] at k1
      rw [at_spot hpk.out.2.2.2 hlt] at k2
      have hms : (movN Ra Rb (i + 1)).length = (movN Ra Rb i).length + if spotOf Ra i = spotOf Rb i then 0 else 1 := by
        rw [movN, List.length_append]
        split <;> rfl
      have hmsH := Lib.hid hms
      have hml := mov_len Ra Rb i
      have hcmp := spot_cmp Ra Rb i
      have hget := fun h => mov_get (A := Ra) (B := Rb) (N := 64) hlt h
      generalize exx : spotV Ra i = xx at *
      generalize eyy : spotV Rb i = yy at *
      clear hms
      rcases hcmp with ⟨hne, x, y, g, ex, ey⟩ | ⟨hne, x, y, g, x', y', g', ex, ey, hor⟩
      · subst ex ey
        clear exx eyy hget
        simp only at k1 k2
        generalize (movN Ra Rb i).length = at' at *
        go_wp2_with fail
        refine k1.mono ?_
        rintro e w6 ⟨rfl, hU6⟩
        go_wp2_with fail
        refine (k2 _ hU6).mono ?_
        rintro e w7 ⟨rfl, hU7⟩
        have hUr7 := (hUr.tr hU6).tr hU7
        clear k1 k2 hU6 hU7 hUr
        go_wp2_with fail
        go_roundw
        case measure => simp [intOf]; omega
        case rel => exact ⟨i + 1, by omega, by go_num, by rw [hmsH.out, if_pos hne, Nat.add_zero], hUr7⟩
      · subst ex ey
        obtain ⟨hg1, hg2⟩ := hget hne
        obtain ⟨gL, oL, hAL, hgL, e0, e1, e2, e3⟩ := mv_cell ((hL.upd0 hUr).cells mvC_len (by omega)) hg1
        rw [hg2] at e0 e1 e2 e3
        subst hAL
        clear exx eyy hget hg2
        simp only at k1 k2 e0 e1 e2 e3
        have hgI : ¬ ((movN Ra Rb 64).length : Int) ≤ ((movN Ra Rb i).length : Int) := by omega
        generalize (movN Ra Rb i).length = at' at *
        generalize hLL : movN Ra Rb 64 = LL at *
        go_wp2_with fail
        refine k1.mono ?_
        rintro e w6 ⟨rfl, hU6⟩
        go_wp2_with fail
        refine (k2 _ hU6).mono ?_
        rintro e w7 ⟨rfl, hU7⟩
        have hUr7 := (hUr.tr hU6).tr hU7
        have hU67 := hU6.tr hU7
        rw [← hU67.cell (p := ⟨gL, oL + at' * 4, none⟩) hgL (fun h => h)] at e0
        rw [← hU67.cell (p := ⟨gL, oL + at' * 4 + 1, none⟩) hgL (fun h => h)] at e1
        rw [← hU67.cell (p := ⟨gL, oL + at' * 4 + 2, none⟩) hgL (fun h => h)] at e2
        rw [← hU67.cell (p := ⟨gL, oL + at' * 4 + 3, none⟩) hgL (fun h => h)] at e3
        clear k1 k2 hU6 hU7 hU67 hUr hLL hL
        rcases hor with h1 | ⟨rfl, h1⟩ | ⟨rfl, rfl, h1⟩
        · skip
          go_wp2_with fail
          go_roundw
          case measure => simp [intOf]; omega
          case rel => exact ⟨i + 1, by omega, by go_num, by rw [hmsH.out, if_neg hne]; go_num, hUr7⟩
        · skip
          go_wp2_with fail
          go_roundw
          case measure => simp [intOf]; omega
          case rel => exact ⟨i + 1, by omega, by go_num, by rw [hmsH.out, if_neg hne]; go_num, hUr7⟩
        · have h2 : ((!g) == (!g')) = false := by cases g <;> cases g' <;> simp_all
          go_wp2_with fail
          go_roundw
          case measure => simp [intOf]; omega
          case rel => exact ⟨i + 1, by omega, by go_num, by rw [hmsH.out, if_neg hne]; go_num, hUr7⟩
    · obtain rfl : i = 64 := by omega
      obtain ⟨hpa, hia, hpb, hib⟩ := hpk.out
      obtain ⟨R2, hap, hp2, hi2, hmn⟩ := moves_make hpa hia hpb hib
      obtain ⟨w5, rfl⟩ : ∃ x, x = wr := ⟨wr, rfl⟩
      have hX5 := hX4.upd0 hUr
      have hY5 := hY4.upd0 hUr
      have hL5 := hL.upd0 hUr
      have hV5 := hV4.tr hUr
      have hs5 : w3.heap.size ≤ w5.heap.size := Nat.le_trans hs3 hUr.size
      have hle := hLH.out
      have hcl : ∀ j, PW (clrN Ra ((movN Ra Rb 64).take j)) ∧ In (clrN Ra ((movN Ra Rb 64).take j)) 8 8 := fun j => clrN_ok _ hpa hia
      generalize movN Ra Rb 64 = L at *
      have hLA : ∀ w', Upd F w5 w' → Arg w' AL 4 mvC L := fun w' u => (hL5.upd u (fun k hk hf => by have := (hL5.typed k hk).1; have := (hF2 k hf).2; omega)).cells mvC_len (by omega)
      have hpk2 := Lib.hid (And.intro hap (And.intro hp2 (And.intro hi2 (And.intro hmn hcl))))
      clear hap hp2 hi2 hmn hcl hpa hia hpb hib hX4 hY4 hP4 hQ4 hL hUr hV4 hA hB hI hI2 hi hlt
      go_wp2_with fail
      go_loopw [99] (fun s99 wr => ∃ j : Nat, j ≤ L.length ∧ s99 = .int .i64 (j : Int) ∧ Tb F wr bx (clrN Ra (L.take j)) 8 8 ∧ Upd F w5 wr) (fun s99 _ => L.length - (intOf s99).toNat)
      case atStart => exact ⟨0, by omega, rfl, hX5, Upd.refl _ _⟩
      case round =>
        clear hX5
        obtain ⟨j, hj, rfl, hX, hU⟩ := hrel
        by_cases hlt : j < L.length
        · obtain ⟨g, o, rfl, _, e0, e1, e2, e3⟩ := mv_cell (hLA _ hU) hlt
          have hct := Lib.hid (clr_take (R := Ra) hlt)
          have hin := (hpk2.out.2.2.2.2 j).2
          generalize clrN Ra (L.take j) = Rj at *
          generalize L[j] = mv at *
          obtain ⟨p, q, s, gn⟩ := mv
          simp only at e0 e1 e2 e3 hct
          have hVa := hU.alloc (.cells #[.int .i64 p, .int .i64 q, .int .i64 s, .bool gn] 45)
          have hXa := hX.upd0 ((Upd.refl Nil wr).alloc (.cells #[.int .i64 p, .int .i64 q, .int .i64 s, .bool gn] 45))
          clear hX hU
          go_wp2_with fail
          refine (Table.clear F bx Rj 8 8 p _ hXa).mono ?_
          rintro e w6 ⟨rfl, hX6, hU6⟩
          rw [← rClr_eq hin] at hX6
          have hV6 := hVa.trans hU6 (fun x hx => .inl hx)
          go_wp2_with fail
          go_roundw
          case measure => simp [intOf]; omega
          case rel => exact ⟨_, _, _, _, _, _, _, _, _, _, ⟨j + 1, by omega, by go_num, by rw [hct.out]; exact hX6, hV6⟩, rfl⟩
        · obtain rfl : j = L.length := by omega
          rw [List.take_length] at hX
          have hFs : ∀ w', Upd F w5 w' → ∀ x, F x → x < w'.heap.size := fun w' u x hx => by have := (hF2 x hx).2; have := u.size; omega
          have kA := applyC F bx (clrN Ra L) AL cL L wr hX (fun w' u => hLA w' (hU.trans u (fun x hx => .inl hx))) (hFs _ hU) (by omega)
          rw [hpk2.out.1] at kA
          unfold AplR at kA
          simp only at kA
          clear hX hj hlt
          go_wp2_with fail
          refine kA.mono ?_
          rintro e w6 ⟨rfl, hX6, hU6⟩
          have hV6 := hU.trans hU6 (fun x hx => .inl hx)
          have hY6 := hY5.upd hV6 (fun x hg hf => hFG x hg hf)
          have kM := tellC F G bx by' R2 Rb 8 8 w6 hX6 hY6
          rw [hpk2.out.2.2.2.1] at kM
          clear kA hU hU6 hY5 hY6
          go_wp2_with fail
          refine kM.mono ?_
          rintro e w7 ⟨v7, rfl, hv7, hU7⟩
          obtain ⟨A7, c7, rfl, _⟩ := hv7.form
          have hX7 := hX6.upd0 hU7
          have hV7 := hV6.trans hU7 (fun x hx => hx.elim)
          have kN := applyNil AL cL L w7 (hLA _ hV7) (by omega)
          clear kM hX6 hV6 hv7
          have hb0 := fun wz : World => blk_new wz (.cells #[.int .i64 (-1), .int .i64 0, .int .i64 0, .bool false] 45)
          rw [show ([] : List Mv).length = 0 from rfl]
          go_wp2_with fail
          refine kN.mono ?_
          rintro e w8 ⟨rfl, hU8⟩
          have hX8 := hX7.upd0 hU8
          have hV8 := hV7.trans hU8 (fun x hx => hx.elim)
          clear kN hX7 hV7 hU7
          go_wp2_with fail
          have hXa := hX8.upd0 ((Upd.refl Nil w8).alloc (.cells #[.int .i64 (-1), .int .i64 0, .int .i64 0, .bool false] 45))
          have hVa := hV8.alloc (.cells #[.int .i64 (-1), .int .i64 0, .int .i64 0, .bool false] 45)
          have hN8 : ¬ F w8.heap.size := fun h => by have := hFs _ hV8 _ h; omega
          have kB := applyC F bx R2 (some ⟨w8.heap.size, 0, none⟩) 1 [⟨-1, 0, 0, false⟩] _ hXa (fun w' u => arg_lit mvC_len (u.blk (hb0 w8) hN8) rfl) (hFs _ hVa) (by simp)
          rw [apl_bad] at kB
          unfold AplR at kB
          simp only at kB
          refine kB.mono ?_
          rintro e w9 ⟨rfl, hX9, hU9⟩
          have hV9 := hVa.trans hU9 (fun x hx => .inl hx)
          clear kB hXa hVa hN8 hX8 hX9 hV8
          have hfin : Upd Nil w w9 := hV5.trans hV9 (fun x hx => .inr (hF2 x hx).1)
          go_wp2_with fail
          go_ret
          exact ⟨rfl, hfin⟩
end Go.Proofs.Ythppheklnplljaa.Delta
