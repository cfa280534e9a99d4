/-
  DeltaCut: the walk. Conditions: what the arguments' slices hold.
-/
import Derived.Test.YthppheklnplljaaDeltaN
import Derived.Test.YthppheklnplljaaDeltaK
import Derived.Test.YthppheklnplljaaNest
import Derived.Test.YthppheklnplljaaInts
namespace Go.Proofs.Ythppheklnplljaa.Delta
open Go.RowKit Go.Proofs.Ythppheklnplljaa.Base Go.Proofs.Ythppheklnplljaa.Word Go.Proofs.Ythppheklnplljaa.Frame Go.Proofs.Ythppheklnplljaa.Ints
set_option linter.unusedVariables false
set_option linter.unusedSimpArgs false
abbrev rowsOf (l : List (Inner Mv)) : List (List Mv) := l.map (·.2.2)
theorem rows_get {l : List (Inner Mv)} {i : Nat} (h : i < l.length) : (rowsOf l).getD i [] = l[i].2.2 := by
  rw [List.getD_eq_getElem?_getD, List.getElem?_map, List.getElem?_eq_getElem h]
  rfl
theorem in_cell {w : World} {A : Option Addr} {l : List (Inner Mv)} (h : Arg w A 1 inC l) {i : Nat} (hi : i < l.length) : ∃ g o, A = some ⟨g, o, none⟩ ∧ g < w.heap.size ∧ w.cell? ⟨g, o + i, none⟩ = some (.slice l[i].1 l[i].2.2.length l[i].2.1) := by
  rcases h with h | ⟨b, off, h1, h2, h3⟩
  · subst h; simp at hi
  · exact ⟨b, off, h1, h2, by simpa [inC] using h3 i hi 0 (by omega)⟩
theorem in_len {w : World} {y : Inner Mv} {p : Mv → Prop} (h : InnerOk w 4 32 140737488351232 mvC p y) : y.2.2.length ≤ 4398046511000 := by
  obtain ⟨h1, _, h2, _⟩ := h
  omega
theorem wr1 {x : Int} (h : -1152921504606846976 ≤ x ∧ x ≤ 1152921504606846976) : IntKind.i64.wrap x = x := by
  rw [IntKind.wrap_i64]
  omega
theorem tmod_nat (a n : Nat) : Int.tmod (a : Int) ((n : Int) + 1) = ((a % (n + 1) : Nat) : Int) := by
  rw [Int.tmod_eq_emod_of_nonneg (by omega)]
  simp
theorem apartEA {α β : Type} {w : World} {base s1 s2 : Nat} {f : α → List Value} {g : β → List Value} {e1 e2 : Nat} {V v : Value} {xs : List α} {l : List β} (h : Sl w base e1 s1 f V xs) (h2 : Sl w base e2 s2 g v l) (hne : e1 ≠ e2 := by decide) (k : Nat) (hk : v.ownBlock = some k) : some k ≠ V.ownBlock := fun e => by
  obtain ⟨_, c1, e1⟩ := h.typed k e.symm
  obtain ⟨_, c2, e2⟩ := h2.typed k hk
  rw [e1] at e2
  injection e2 with e2
  injection e2 with _ e2
  exact hne e2
set_option maxHeartbeats 8000000 in
set_option maxRecDepth 100000 in
theorem cutD (A : Option Addr) (c : Nat) (l : List (Inner Mv)) (first : Int) (cut : Nat) (B : Option Addr) (cb : Nat) (more : List UInt8) {p : Mv → Prop} (w : World) (hA : Arg w A 1 inC l) (hin : ∀ y ∈ l, InnerOk w 4 32 140737488351232 mvC p y)
    (hf0 : 0 ≤ first) (hf1 : first ≤ 65535) (hc1 : cut ≤ 65535) (hB : Arg w B 1 bc more) :
    Calls Try.prog 11 #[.slice A l.length c, .int .u16 first, .int .u16 (cut : Int), .slice B more.length cb] w (RetB true w) := by
  by_cases h1 : 12 < l.length
  · have hI : (12 : Int) < (l.length : Int) := by omega
    go_enter Try.func11, Try.ntmps11
    go_wp2_with fail
    refine (fixedD _).mono ?_
    rintro e w1 ⟨rfl, hU1⟩
    go_wp2_with fail
    go_ret
    exact ⟨rfl, hU1⟩
  have hI : ¬ (12 : Int) < (l.length : Int) := by omega
  by_cases h2 : 3 < more.length
  · have hI2 : (3 : Int) < (more.length : Int) := by omega
    go_enter Try.func11, Try.ntmps11
    go_wp2_with fail
    refine (fixedD _).mono ?_
    rintro e w1 ⟨rfl, hU1⟩
    go_wp2_with fail
    go_ret
    exact ⟨rfl, hU1⟩
  have hI2 : ¬ (3 : Int) < (more.length : Int) := by omega
  go_enter Try.func11, Try.ntmps11
  go_wp2_with fail
  refine (fixedD _).mono ?_
  rintro e w1 ⟨rfl, hU1⟩
  have ha := hU1.alloc (.cells #[.int .i64 0] 3)
  have hE0 := sl_lit (w := w1.alloc (.cells #[.int .i64 0] 3)) (base := w.heap.size) (l := [(0 : Int)]) ic_len hU1.size (blk_new _ _) rfl rfl rfl (by unfold maxLen; simp)
  go_wp2_with fail
  generalize w1.alloc (.cells #[.int .i64 0] 3) = wa at *
  generalize w1.heap.size = nb at *
  go_loopw [9, 10, 36] (fun s9 s10 s36 wr => ∃ (i : Nat) (Va Ve : Value), i ≤ l.length ∧ s36 = .int .i64 (i : Int) ∧ s9 = Va ∧ s10 = Ve ∧ Sl wr w.heap.size 5 1 bc Va (cat first (rowsOf l) i) ∧ Sl wr w.heap.size 3 1 ic Ve (endsL first (rowsOf l) i) ∧ (∀ j, j < i → (recB (first + j) ((rowsOf l).getD j [])).2 = 0) ∧ Upd Nil w wr) (fun _ _ s36 _ => l.length - (intOf s36).toNat)
  case atStart => exact ⟨0, _, _, by omega, rfl, rfl, rfl, Sl.nil _ _ _ _ _, hE0, fun j h => absurd h (by omega), ha⟩
  case round =>
    clear hU1 ha hE0
    obtain ⟨i, Va, Ve, hi, rfl, rfl, rfl, hVa, hVe, hok, hUr⟩ := hrel
    by_cases hlt : i < l.length
    · obtain ⟨g, o, rfl, hg, y0⟩ := in_cell (hA.upd hUr) hlt
      have hy := hin _ (List.getElem_mem hlt)
      have hyl := in_len hy
      have hrg := rows_get hlt
      have hcat : cat first (rowsOf l) (i + 1) = cat first (rowsOf l) i ++ (recB (first + i) ((rowsOf l).getD i [])).1 := rfl
      have hend := ends_succ first (rowsOf l) i
      have hfew := cat_few first (rowsOf l) (i + 1)
      have hfew0 := cat_few first (rowsOf l) i
      have hel := ends_len first (rowsOf l) i
      rw [hrg] at hcat
      have hok1 : (recB (first + i) l[i].2.2).2 = 0 → ∀ j, j < i + 1 → (recB (first + j) ((rowsOf l).getD j [])).2 = 0 := fun h j hj => by
        rcases Nat.lt_or_ge j i with h1 | h1
        · exact hok j h1
        · obtain rfl : j = i := by omega
          rw [hrg]
          exact h
      generalize l[i] = y at *
      obtain ⟨Ay, cy, L⟩ := y
      simp only at y0 hyl hcat hok1
      have hAy := hy.2.2.2.2.upd hUr
      have hpk := Lib.hid (And.intro hcat (And.intro hend (And.intro hfew (And.intro hfew0 (And.intro hel hok1)))))
      have hokH := Lib.hid hok
      clear hcat hend hfew hfew0 hel hok1 hrg hy hok hg
      have hwr : wrap64 (first + i) = first + i := wr2 (by omega)
      go_wp2_with fail
      refine (movesC Ay cy L _ hAy hyl).mono ?_
      rintro e w2 ⟨v2, rfl, hv2, hU2⟩
      obtain ⟨A2, c2, rfl, _⟩ := hv2.form
      go_wp2_with fail
      have q1 := rrecord (first + i) A2 c2 L w2 (hv2.cells mvC_len (by omega)) hyl
      unfold MkR at q1
      generalize recB (first + i) L = r at *
      obtain ⟨r1, r2⟩ := r
      simp only at q1 hpk
      have hUr2 := hUr.tr hU2
      have hVa2 := hVa.upd0 hU2
      have hVe2 := hVe.upd0 hU2
      clear hVa hVe hv2 hAy hwr hUr hU2
      refine q1.mono ?_
      rintro e w3 ⟨v3, rfl, hv3, hU3⟩
      have hUr3 := hUr2.tr hU3
      have hVa3 := hVa2.upd0 hU3
      have hVe3 := hVe2.upd0 hU3
      obtain ⟨A3, c3, rfl, _⟩ := hv3.form
      clear hVa2 hVe2 hUr2 q1 hU3
      by_cases he : r2 = 0
      · subst he
        obtain ⟨Ea, ca, rfl, hca⟩ := hVa3.form
        obtain ⟨Ee, ce, rfl, hce⟩ := hVe3.form
        have hA3 := hv3.cells bc_len (by omega)
        generalize hCi : cat first (rowsOf l) i = Ci at *
        generalize hEi : endsL first (rowsOf l) i = Ei at *
        have hCH := Lib.hid hCi
        have hEH := Lib.hid hEi
        clear hCi hEi
        generalize hDi : cat first (rowsOf l) (i + 1) = D at *
        generalize hFi : endsL first (rowsOf l) (i + 1) = F at *
        have hDH := Lib.hid hDi
        have hFH := Lib.hid hFi
        clear hDi hFi
        have hb1 : (Ci.length + r1.length) * 1 ≤ 140737488355328 ∧ Ci.length + r1.length ≤ maxLen := by
          have h1 := hpk.out.1
          have h2 := hpk.out.2.2.1
          rw [h1, List.length_append] at h2
          unfold maxLen
          omega
        have hb2 : (Ei.length + 1) * 8 ≤ 140737488355328 ∧ Ei.length + 1 ≤ maxLen := by
          have h2 := hpk.out.2.2.2.2.1
          unfold maxLen
          omega
        have hb1H := Lib.hid hb1
        have hb2H := Lib.hid hb2
        have hsz3 := hUr3.size
        clear hb1 hb2
        go_wp2_with (at_builtin; first
          | (refine wp_app w.heap.size rfl (.tmp 53) (.tmp 54) elemU8 rfl (.slice Ea Ci.length ca) Ci r1 _ rfl rfl (Src.ofArg (P := Try.prog) (tx := 22) ⟨_, elemU8.ht⟩ bc_len bc_one hA3 c3) hVa3 hsz3 hb1H.out.1 hb1H.out.2 ?_; intro A5 c5 w5 hv5 hg5 hat5; rw [← hpk.out.1] at hv5; rw [show Ci.length + r1.length = D.length by rw [hpk.out.1, List.length_append]] at hv5 hat5 ⊢; have hVe5 := hVe3.grown hg5 (apartEA hVa3 hVe3); have hUr5 := hUr3.grownOwn hVa3 (Nat.le_refl _) hg5; have hsz5 := hUr5.size)
          | (refine wp_app1 w.heap.size rfl (.tmp 56) (.tmp 59) elemI rfl w5 ((D.length : Nat) : Int) (by rfl) (.slice Ee Ei.length ce) Ei rfl (by simp [Act.eval]) hVe5 hsz5 hb2H.out.1 hb2H.out.2 ?_; intro A6 c6 w6 hv6 hg6 hat6))
        have hv5' := hv5.grown hg6 (apartEA hVe5 hv5)
        have hUr6 := hUr5.grownOwn hVe5 (Nat.le_refl _) hg6
        go_roundw
        case measure => simp [intOf]; omega
        case rel => exact ⟨i + 1, _, _, by omega, by go_num, rfl, rfl, by rw [hDH.out]; exact hv5', by rw [hFH.out, hpk.out.2.1]; exact hv6, hpk.out.2.2.2.2.2 trivial, hUr6⟩
      · have hen : (r2 != 0) = true := by simpa using he
        go_wp2_with fail
        go_ret
        exact ⟨rfl, hUr3⟩
    · obtain rfl : i = l.length := by omega
      have hokH := Lib.hid hok
      have hfew := cat_few first (rowsOf l) l.length
      have hel := ends_len first (rowsOf l) l.length
      have hm := tmod_nat cut (cat first (rowsOf l) l.length).length
      have hnl : cut % ((cat first (rowsOf l) l.length).length + 1) ≤ (cat first (rowsOf l) l.length).length := by
        have := Nat.mod_lt cut (show 0 < (cat first (rowsOf l) l.length).length + 1 by omega)
        omega
      obtain ⟨n, hn⟩ : ∃ n, n = cut % ((cat first (rowsOf l) l.length).length + 1) := ⟨_, rfl⟩
      rw [← hn] at hm hnl
      have heg := ends_get first (rowsOf l) l.length
      obtain ⟨Ea, ca, rfl, hca⟩ := hVa.form
      obtain ⟨Ee, ce, rfl, hce⟩ := hVe.form
      have hcr := fun (b : List UInt8) => cut_read (first := first) (l := rowsOf l) (by simpa [rowsOf] using hok) (n := n) (by simpa [rowsOf] using hnl) (more := more) (by omega) (b := b)
      rw [show (rowsOf l).length = l.length by simp [rowsOf]] at hcr
      have hwle := wh_le first (rowsOf l) n l.length
      have hwn := wh_holds first (rowsOf l) n (l.length + 1)
      generalize cat first (rowsOf l) l.length = C at *
      generalize endsL first (rowsOf l) l.length = E at *
      clear hok hn
      have hpk := Lib.hid (And.intro hfew (And.intro hel (And.intro hnl heg)))
      have hcrH := Lib.hid hcr
      have hwH := Lib.hid (And.intro hwle hwn)
      clear hfew hel hnl heg hcr hwle hwn
      obtain ⟨M, hM⟩ : ∃ M, M = (C.length : Int) + 1 := ⟨_, rfl⟩
      rw [← hM] at hm
      have hz1 : (M == 0) = false := by simp; omega
      have hz2 : M ≠ 0 := by omega
      have hwadd : wrap64 ((C.length : Int) + 1) = M := by rw [hM]; exact wr2 (by have := hpk.out.1; omega)
      clear hM
      have hwn1 : IntKind.i64.wrap (n : Int) = n := wr1 (by have := hpk.out.2.2.1; have := hpk.out.1; omega)
      go_upto_region 17 with fail
      clear hwn1 hwadd hz1 hz2 hm
      obtain ⟨w3, rfl⟩ : ∃ x, x = wr := ⟨wr, rfl⟩
      have hAe := hVe.cells ic_len (by omega)
      have hmx := hVe.max
      go_wp2_with fail
      go_loopw [16, 70] (fun s16 s70 wr => ∃ i : Nat, i ≤ E.length ∧ s70 = .int .i64 (i : Int) ∧ s16 = .int .i64 (wh first (rowsOf l) n i : Nat) ∧ Upd Nil w3 wr) (fun _ s70 _ => E.length - (intOf s70).toNat)
      case atStart => exact ⟨0, by omega, rfl, rfl, Upd.refl _ _⟩
      case round =>
        obtain ⟨i, hi, rfl, rfl, hU4⟩ := hrel
        by_cases hlt : i < E.length
        · obtain ⟨ge, oe, rfl, hge, y0⟩ := ic_cell (hAe.upd hU4) hlt
          rw [hpk.out.2.2.2 i hlt] at y0
          have hws : wh first (rowsOf l) n (i + 1) = if (cat first (rowsOf l) i).length ≤ n then i else wh first (rowsOf l) n i := rfl
          have hwsH := Lib.hid hws
          clear hws
          generalize (cat first (rowsOf l) i).length = k at *
          by_cases hk : k ≤ n
          · have hkI : (k : Int) ≤ (n : Int) := by omega
            go_wp2_with fail
            go_roundw
            case measure => simp [intOf]; omega
            case rel => exact ⟨i + 1, by omega, by go_num, by rw [hwsH.out, if_pos hk], hU4⟩
          · have hkI : ¬ (k : Int) ≤ (n : Int) := by omega
            go_wp2_with fail
            go_roundw
            case measure => simp [intOf]; omega
            case rel => exact ⟨i + 1, by omega, by go_num, by rw [hwsH.out, if_neg hk], hU4⟩
        · obtain rfl : i = E.length := by omega
          have hWe : wh first (rowsOf l) n E.length = wh first (rowsOf l) n (l.length + 1) := by rw [hpk.out.2.1]
          rw [hWe]
          clear hWe
          generalize wh first (rowsOf l) n (l.length + 1) = W at *
          have hWl : W < E.length := by have := hwH.out.1; have := hpk.out.2.1; omega
          obtain ⟨ge, oe, rfl, hge, y0⟩ := ic_cell (hAe.upd hU4) hWl
          rw [hpk.out.2.2.2 W hWl] at y0
          generalize hkk : (cat first (rowsOf l) W).length = k at *
          have hnC := hpk.out.2.2.1
          have hnca : n ≤ ca := by omega
          have hcam := hVa.capMax
          have hkkH := Lib.hid hkk
          clear hkk
          have hlen : (C.take n).length = n := List.length_take_of_le hnC
          have hVt : Sl wr w.heap.size 5 1 bc (.slice Ea n n) (C.take n) := by
            have h1 := (hVa.upd0 hU4).take bc_len (k := n) hnC
            have h2 := h1.clip (m := n) (by rw [hlen]; exact Nat.le_refl _) hnca
            exact h2
          have hUz := hUr.tr hU4
          by_cases hnk : n = k
          · have hnkb : ((n : Int) == (k : Int)) = true := by simp; omega
            obtain ⟨b, hb⟩ : ∃ b, b = C.take n ++ more := ⟨_, rfl⟩
            have hbl : (C.take n).length + more.length = b.length := by rw [hb, List.length_append]
            have hbr := hcrH.out b (by rw [if_pos hnk]; exact hb)
            have hb4 : b.length ≤ 9000 := by have := hpk.out.1; rw [← hbl, hlen]; omega
            have hbH := Lib.hid (And.intro hb hbl)
            have hbnd : ((C.take n).length + more.length) * 1 ≤ 140737488355328 ∧ (C.take n).length + more.length ≤ maxLen := by unfold maxLen; omega
            have hbndH := Lib.hid hbnd
            have hszz := hUz.size
            have hBz := hB.upd hUz
            clear hbnd hb hbl hlen hnk
            go_upto_region 27 with (at_builtin; refine wp_app w.heap.size rfl (.tmp 90) (.tmp 91) elemU8 rfl (.slice Ea n n) (C.take n) more _ rfl rfl (Src.ofArg (P := Try.prog) (tx := 22) ⟨_, elemU8.ht⟩ bc_len bc_one hBz cb) hVt hszz hbndH.out.1 hbndH.out.2 ?_; intro A7 c7 w7 hv7 hg7 hat7; rw [← hbH.out.1] at hv7; rw [hbH.out.2] at hv7 hat7 ⊢)
            have hVe4 := hVe.upd0 hU4
            have hVe7 := hVe4.grown hg7 (apartEA hVt hVe4)
            obtain ⟨g7, o7, e7, hge7, y7⟩ := ic_cell (hVe7.cells ic_len (by omega)) hWl
            injection e7 with e7
            injection e7 with e7 e8
            subst e7 e8
            rw [hpk.out.2.2.2 W hWl, hkkH.out] at y7
            have hUx := hUz.grownOwn hVt (Nat.le_refl _) hg7
            obtain ⟨A7', c7', e7, hc7⟩ := hv7.form
            injection e7 with e7 _ e8
            subst e7 e8
            have q := readC A7 c7 b first w7 (hv7.cells bc_len (by omega)) hc7 (capLen hv7) (by omega) (by omega)
            rw [hbr] at q
            clear hbr hb4 hv7 hg7 hat7 hVe4 hVe7 hc7 hbndH hbH hBz hszz hnC hnca

            unfold ReadsR at q
            simp only at q
            clear hVt hVa hVe hAe hU4 hUr hUz hcam hca hcrH hokH
            go_wp2_with fail
            refine q.mono ?_
            clear q
            rintro e w8 ⟨v8, rfl, ⟨xs, hS, hxl, hrr⟩, hU8⟩
            obtain ⟨AX, cX, rfl, _⟩ := hS.form
            have y8 := y7
            rw [← hU8.cell (p := ⟨ge, oe + W, none⟩) hge7 (fun h => h)] at y8
            have hxW : xs.length = W := by
              rw [hxl, List.length_take]
              have := hwH.out.1
              simp [rowsOf]
              omega
            have hxb : ((xs.length : Int) != (W : Int)) = false := by rw [hxW]; simp
            have hkb : ((k : Int) != (k : Int)) = false := by simp
            have hxWH := Lib.hid (And.intro hxW (And.intro hxl hwH.out.1))
            have hUx8 := hUx.tr hU8
            clear hxW hxl y7 y0 hge7 hge hUx hU8
            go_wp2_with fail
            clear y8 hxb hkb hkkH
            go_loopw [22, 114] (fun s22 s114 wr => ∃ i : Nat, i ≤ xs.length ∧ s114 = .int .i64 (i : Int) ∧ Upd Nil w8 wr) (fun _ s114 _ => xs.length - (intOf s114).toNat)
            case atStart => exact ⟨0, by omega, rfl, Upd.refl _ _⟩
            case round =>
              obtain ⟨i, hi, rfl, hUr⟩ := hrel
              have hmx := hS.max
              have hUz := hUx8.tr hUr
              by_cases hlt : i < xs.length
              · have hlt2 : i < l.length := by have := hxWH.out.1; have := hxWH.out.2.2; omega
                have hlt3 : i < (List.take W (rowsOf l)).length := by rw [← hxWH.out.2.1]; exact hlt
                obtain ⟨gA, oA, hCe, hgA, y0⟩ := sv_cell ((hS.upd0 hUr).cells sv_len (by omega)) hlt
                obtain ⟨gL, oL, hLe, hgL, z0⟩ := in_cell (hA.upd hUz) hlt2
                have p1 := (hrr i hlt hlt3).upd0 hUr
                rw [show (List.take W (rowsOf l))[i] = l[i].2.2 by simp [rowsOf]] at p1
                have hy := hin _ (List.getElem_mem hlt2)
                have hyl := in_len hy
                generalize l[i] = y at *
                generalize xs[i] = x at *
                obtain ⟨Ay, cy, L⟩ := y
                obtain ⟨Ax, nx, cx⟩ := x
                simp only at z0 hyl p1 y0
                obtain ⟨Ax', cx', ex, _⟩ := p1.form
                injection ex with ex1 ex2 ex3
                subst ex1 ex2 ex3
                subst hCe hLe
                have hAy := hy.2.2.2.2.upd hUz
                clear hy hi
                go_wp2_with fail
                have y1 : ∀ w', Upd Nil wr.drew w' → w'.cell? ⟨gA, oA + i, none⟩ = some (.slice Ax L.length cx) := fun w' u => by rw [u.cell (by assumption) (fun h => h)]; exact y0
                have z1 : ∀ w', Upd Nil wr.drew w' → w'.cell? ⟨gL, oL + i, none⟩ = some (.slice Ay L.length cy) := fun w' u => by rw [u.cell (by assumption) (fun h => h)]; exact z0
                refine wp_region_lex Nil [0, 1, 2, 3, 4, 5, 6, 7, 8, 9, 10] (by kernel_rfl) (by kernel_rfl) rfl (by kernel_rfl) ?_
                simp only [inOrder, List.filterMap_cons, List.filterMap_nil, List.getElem?_cons_zero, List.getElem?_cons_succ]
                try simp only [Act.put, List.setIfInBounds_toArray, List.set_cons_zero, List.set_cons_succ]
                repeat
                  first
                  | (refine lex_pure (v := ?_) rfl rfl ?_ ?_
                     rotate_left
                     · intro w' hU'
                       go_simp
                       try with_reducible rfl
                     try simp only [Act.put, List.setIfInBounds_toArray, List.set_cons_zero, List.set_cons_succ])
                  | (refine lex_skip rfl ?_
                     try simp only [Act.put, List.setIfInBounds_toArray, List.set_cons_zero, List.set_cons_succ])
                refine lex_fn (f := 34) (args := _) rfl rfl (by go_simp) ((movesC Ay cy L _ (hAy.upd (Upd.refl Nil wr).drew) hyl).mono ?_)
                rintro e w4 ⟨v4, rfl, hv4, hU4⟩
                obtain ⟨AM, cM, rfl, _⟩ := hv4.form
                refine ⟨_, rfl, hU4, ?_⟩
                try simp only [Act.put, List.setIfInBounds_toArray, List.set_cons_zero, List.set_cons_succ]
                repeat
                  first
                  | (refine lex_pure (v := ?_) rfl rfl ?_ ?_
                     rotate_left
                     · intro w' hU'
                       go_simp
                       try with_reducible rfl
                     try simp only [Act.put, List.setIfInBounds_toArray, List.set_cons_zero, List.set_cons_succ])
                  | (refine lex_skip rfl ?_
                     try simp only [Act.put, List.setIfInBounds_toArray, List.set_cons_zero, List.set_cons_succ])
                have hs := sameC Ax AM cx cM L w4 (p1.drew.upd0 hU4 |>.cells mvC_len (by omega)) (hv4.cells mvC_len (by omega)) hyl
                refine lex_fn (f := 37) (args := _) rfl rfl (by go_simp) (hs.mono ?_)
                rintro e w5 ⟨rfl, hU5⟩
                refine ⟨_, rfl, hU5, ?_⟩
                try simp only [Act.put, List.setIfInBounds_toArray, List.set_cons_zero, List.set_cons_succ]
                repeat
                  first
                  | (refine lex_pure (v := ?_) rfl rfl ?_ ?_
                     rotate_left
                     · intro w' hU'
                       go_simp
                       try with_reducible rfl
                     try simp only [Act.put, List.setIfInBounds_toArray, List.set_cons_zero, List.set_cons_succ])
                  | (refine lex_skip rfl ?_
                     try simp only [Act.put, List.setIfInBounds_toArray, List.set_cons_zero, List.set_cons_succ])
                refine lex_done ?_
                have hUe := (hUr.drew.tr hU4).tr hU5
                go_wp2_with fail
                go_roundw
                case measure => simp [intOf]; omega
                case rel => exact ⟨i + 1, by omega, by go_num, hUe⟩
              · obtain rfl : i = xs.length := by omega
                go_wp2_with fail
                go_ret
                exact ⟨rfl, hUz⟩
          · have hnkb : ((n : Int) == (k : Int)) = false := by simp; omega
            have hbr := hcrH.out (C.take n) (by rw [if_neg hnk, List.append_nil])
            have q := readC Ea n (C.take n) first wr (hVt.cells bc_len (by omega)) (by omega) (capLen hVt) (by have := hpk.out.1; omega) (by omega)
            rw [hbr, hlen] at q
            have y7 := y0
            have hge7 := hge
            have hUx := hUz
            clear hbr hnk hlen
            go_upto_region 27 with fail
            clear hnC hnca
            unfold ReadsR at q
            simp only at q
            clear hVt hVa hVe hAe hU4 hUr hUz hcam hca hcrH hokH
            go_wp2_with fail
            refine q.mono ?_
            clear q
            rintro e w8 ⟨v8, rfl, ⟨xs, hS, hxl, hrr⟩, hU8⟩
            obtain ⟨AX, cX, rfl, _⟩ := hS.form
            have y8 := y7
            rw [← hU8.cell (p := ⟨ge, oe + W, none⟩) hge7 (fun h => h)] at y8
            have hxW : xs.length = W := by
              rw [hxl, List.length_take]
              have := hwH.out.1
              simp [rowsOf]
              omega
            have hxb : ((xs.length : Int) != (W : Int)) = false := by rw [hxW]; simp
            have hkb : ((k : Int) != (k : Int)) = false := by simp
            have hxWH := Lib.hid (And.intro hxW (And.intro hxl hwH.out.1))
            have hUx8 := hUx.tr hU8
            clear hxW hxl y7 y0 hge7 hge hUx hU8
            go_wp2_with fail
            clear y8 hxb hkb hkkH
            go_loopw [22, 114] (fun s22 s114 wr => ∃ i : Nat, i ≤ xs.length ∧ s114 = .int .i64 (i : Int) ∧ Upd Nil w8 wr) (fun _ s114 _ => xs.length - (intOf s114).toNat)
            case atStart => exact ⟨0, by omega, rfl, Upd.refl _ _⟩
            case round =>
              obtain ⟨i, hi, rfl, hUr⟩ := hrel
              have hmx := hS.max
              have hUz := hUx8.tr hUr
              by_cases hlt : i < xs.length
              · have hlt2 : i < l.length := by have := hxWH.out.1; have := hxWH.out.2.2; omega
                have hlt3 : i < (List.take W (rowsOf l)).length := by rw [← hxWH.out.2.1]; exact hlt
                obtain ⟨gA, oA, hCe, hgA, y0⟩ := sv_cell ((hS.upd0 hUr).cells sv_len (by omega)) hlt
                obtain ⟨gL, oL, hLe, hgL, z0⟩ := in_cell (hA.upd hUz) hlt2
                have p1 := (hrr i hlt hlt3).upd0 hUr
                rw [show (List.take W (rowsOf l))[i] = l[i].2.2 by simp [rowsOf]] at p1
                have hy := hin _ (List.getElem_mem hlt2)
                have hyl := in_len hy
                generalize l[i] = y at *
                generalize xs[i] = x at *
                obtain ⟨Ay, cy, L⟩ := y
                obtain ⟨Ax, nx, cx⟩ := x
                simp only at z0 hyl p1 y0
                obtain ⟨Ax', cx', ex, _⟩ := p1.form
                injection ex with ex1 ex2 ex3
                subst ex1 ex2 ex3
                subst hCe hLe
                have hAy := hy.2.2.2.2.upd hUz
                clear hy hi
                go_wp2_with fail
                have y1 : ∀ w', Upd Nil wr.drew w' → w'.cell? ⟨gA, oA + i, none⟩ = some (.slice Ax L.length cx) := fun w' u => by rw [u.cell (by assumption) (fun h => h)]; exact y0
                have z1 : ∀ w', Upd Nil wr.drew w' → w'.cell? ⟨gL, oL + i, none⟩ = some (.slice Ay L.length cy) := fun w' u => by rw [u.cell (by assumption) (fun h => h)]; exact z0
                refine wp_region_lex Nil [0, 1, 2, 3, 4, 5, 6, 7, 8, 9, 10] (by kernel_rfl) (by kernel_rfl) rfl (by kernel_rfl) ?_
                simp only [inOrder, List.filterMap_cons, List.filterMap_nil, List.getElem?_cons_zero, List.getElem?_cons_succ]
                try simp only [Act.put, List.setIfInBounds_toArray, List.set_cons_zero, List.set_cons_succ]
                repeat
                  first
                  | (refine lex_pure (v := ?_) rfl rfl ?_ ?_
                     rotate_left
                     · intro w' hU'
                       go_simp
                       try with_reducible rfl
                     try simp only [Act.put, List.setIfInBounds_toArray, List.set_cons_zero, List.set_cons_succ])
                  | (refine lex_skip rfl ?_
                     try simp only [Act.put, List.setIfInBounds_toArray, List.set_cons_zero, List.set_cons_succ])
                refine lex_fn (f := 34) (args := _) rfl rfl (by go_simp) ((movesC Ay cy L _ (hAy.upd (Upd.refl Nil wr).drew) hyl).mono ?_)
                rintro e w4 ⟨v4, rfl, hv4, hU4⟩
                obtain ⟨AM, cM, rfl, _⟩ := hv4.form
                refine ⟨_, rfl, hU4, ?_⟩
                try simp only [Act.put, List.setIfInBounds_toArray, List.set_cons_zero, List.set_cons_succ]
                repeat
                  first
                  | (refine lex_pure (v := ?_) rfl rfl ?_ ?_
                     rotate_left
                     · intro w' hU'
                       go_simp
                       try with_reducible rfl
                     try simp only [Act.put, List.setIfInBounds_toArray, List.set_cons_zero, List.set_cons_succ])
                  | (refine lex_skip rfl ?_
                     try simp only [Act.put, List.setIfInBounds_toArray, List.set_cons_zero, List.set_cons_succ])
                have hs := sameC Ax AM cx cM L w4 (p1.drew.upd0 hU4 |>.cells mvC_len (by omega)) (hv4.cells mvC_len (by omega)) hyl
                refine lex_fn (f := 37) (args := _) rfl rfl (by go_simp) (hs.mono ?_)
                rintro e w5 ⟨rfl, hU5⟩
                refine ⟨_, rfl, hU5, ?_⟩
                try simp only [Act.put, List.setIfInBounds_toArray, List.set_cons_zero, List.set_cons_succ]
                repeat
                  first
                  | (refine lex_pure (v := ?_) rfl rfl ?_ ?_
                     rotate_left
                     · intro w' hU'
                       go_simp
                       try with_reducible rfl
                     try simp only [Act.put, List.setIfInBounds_toArray, List.set_cons_zero, List.set_cons_succ])
                  | (refine lex_skip rfl ?_
                     try simp only [Act.put, List.setIfInBounds_toArray, List.set_cons_zero, List.set_cons_succ])
                refine lex_done ?_
                have hUe := (hUr.drew.tr hU4).tr hU5
                go_wp2_with fail
                go_roundw
                case measure => simp [intOf]; omega
                case rel => exact ⟨i + 1, by omega, by go_num, hUe⟩
              · obtain rfl : i = xs.length := by omega
                go_wp2_with fail
                go_ret
                exact ⟨rfl, hUz⟩
end Go.Proofs.Ythppheklnplljaa.Delta
