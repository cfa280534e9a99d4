/-
  The calls whose answers are fixed. Conditions: none.
-/
import Derived.Test.YthppheklnplljaaDeltaF
namespace Go.Proofs.Ythppheklnplljaa.Delta
open Go.RowKit Go.Proofs.Ythppheklnplljaa.Base Go.Proofs.Ythppheklnplljaa.Word Go.Proofs.Ythppheklnplljaa.Frame
set_option linter.unusedVariables false
set_option linter.unusedSimpArgs false
def tup (m : Mv) : Int × Int × Int × Bool := (m.place, m.block, m.page, m.gone)
theorem fx3 : ∃ B C, recB 3 [] = (B, 0) ∧ recB 4 [⟨1, 2, 3, false⟩] = (C, 0) ∧ B.length = 12 ∧ C.length = 16 ∧ (readV (B ++ C ++ [1]) 3).2 = 28 ∧ (readV (B ++ C ++ [1]) 3).1.map (fun l => l.map tup) = [[], [(1, 2, 3, false)]] ∧ (readV (B ++ [1]) 3).2 = 12 := ⟨(recB 3 []).1, (recB 4 [⟨1, 2, 3, false⟩]).1, by decide +kernel, by decide +kernel, by decide +kernel, by decide +kernel, by decide +kernel, by decide +kernel, by decide +kernel⟩
theorem two_recs {rs : List (List Mv)} (h : rs.map (fun l => l.map tup) = [[], [(1, 2, 3, false)]]) : ∃ m, rs = [[], [m]] ∧ m.page = 3 := by
  rcases rs with _ | ⟨a, _ | ⟨b, _ | ⟨c, t⟩⟩⟩ <;> simp at h
  obtain ⟨rfl, h⟩ := h
  rcases b with _ | ⟨m, _ | ⟨m2, t⟩⟩ <;> simp at h
  refine ⟨m, rfl, ?_⟩
  unfold tup at h
  simp at h
  exact h.2.2.1
theorem sv_cell {w : World} {A : Option Addr} {l : List SlV} (h : Arg w A 1 sv l) {i : Nat} (hi : i < l.length) : ∃ g o, A = some ⟨g, o, none⟩ ∧ g < w.heap.size ∧ w.cell? ⟨g, o + i, none⟩ = some (.slice l[i].1 l[i].2.1 l[i].2.2) := by
  rcases h with h | ⟨b, off, h1, h2, h3⟩
  · subst h; simp at hi
  · exact ⟨b, off, h1, h2, by simpa [sv] using h3 i hi 0 (by omega)⟩
theorem capLen {α : Type} {w : World} {base e sz : Nat} {f : α → List Value} {l : List α} {A : Option Addr} {n c : Nat} (h : Sl w base e sz f (.slice A n c) l) : c ≤ maxLen := by
  rcases h.2 with ⟨_, e⟩ | ⟨_, _, cap, _, e, _, _, _, hm, _⟩
  · injection e with _ _ e
    rw [e]
    exact Nat.zero_le _
  · injection e with _ _ e
    rw [e]
    exact hm
set_option maxHeartbeats 2000000 in
set_option maxRecDepth 100000 in
theorem fixedD (w : World) : Calls Try.prog 29 #[] w (RetB true w) := by
  obtain ⟨B, C, hB, hC, lB, lC, r1, r2, r3⟩ := fx3
  obtain ⟨m, r2, hm⟩ := two_recs r2
  have q1 := record 3 none 0 [] w (.inl rfl) (by simp)
  rw [hB] at q1
  have q2 := fun A c w h => record 4 A c [⟨1, 2, 3, false⟩] w h (by simp)
  rw [hC] at q2
  have q3 := fun A c w h hc hcm => readC A c (B ++ C ++ [1]) 3 w h hc hcm (by simp; omega) (by omega)
  have q4 := fun A c w h hc hcm => whole A c (B ++ [1]) 3 w h hc hcm (by simp; omega) (by omega)
  unfold ReadsR at q3
  have hr : readV (B ++ C ++ [1]) 3 = ([[], [m]], 28) := by rw [← r1, ← r2]
  rw [hr] at q3
  rw [r3, if_pos (by simp; omega)] at q4
  unfold MkR at q1 q2
  simp only at q1 q2 q3
  have h29 : (B ++ C ++ [1]).length = 29 := by simp; omega
  have h13 : (B ++ [1]).length = 13 := by simp; omega
  obtain ⟨D, hD⟩ : ∃ D, D = B ++ C := ⟨_, rfl⟩
  rw [← hD] at q3 h29
  obtain ⟨E, hE⟩ : ∃ E, E = D ++ [1] := ⟨_, rfl⟩
  rw [← hE] at q3 h29
  obtain ⟨F, hF⟩ : ∃ F, F = B ++ [1] := ⟨_, rfl⟩
  rw [← hF] at q4 h13
  have h28 : D.length = 28 := by rw [hD, List.length_append]; omega
  have hDH := Lib.hid (And.intro hD (And.intro hE hF))
  have hlH := Lib.hid (And.intro lB (And.intro lC (And.intro h28 (And.intro h29 (And.intro h13 hm)))))
  clear hB hC lB lC r1 r2 r3 hr h29 h13 hm h28 hD hE hF
  go_enter Try.func29, Try.ntmps29
  go_wp2_with fail
  refine q1.mono ?_
  rintro e w1 ⟨v1, rfl, hv1, hU1⟩
  obtain ⟨A1, c1, rfl, hc1⟩ := hv1.form
  have hLit := arg_lit (w := w1.alloc (.cells #[.int .i64 1, .int .i64 2, .int .i64 3, .bool false] 45)) (l := [(⟨1, 2, 3, false⟩ : Mv)]) mvC_len (blk_new _ _) rfl
  have hv1a := hv1.alloc (.cells #[.int .i64 1, .int .i64 2, .int .i64 3, .bool false] 45)
  have hU1a := hU1.alloc (.cells #[.int .i64 1, .int .i64 2, .int .i64 3, .bool false] 45)
  go_wp2_with fail
  refine (q2 _ 1 _ hLit).mono ?_
  rintro e w2 ⟨v2, rfl, hv2, hU2⟩
  obtain ⟨A2, c2, rfl, hc2⟩ := hv2.form
  have hv1b := hv1a.upd0 hU2
  have hU2a := hU1a.tr hU2
  have hCa := hv2.cells bc_len (by omega)
  have hsC := Src.ofArg (P := Try.prog) (tx := 22) ⟨_, elemU8.ht⟩ bc_len bc_one hCa c2
  have hBC : (B.length + C.length) * 1 ≤ 140737488355328 ∧ B.length + C.length ≤ maxLen := by have := hlH.out; unfold maxLen; omega
  have hs2 := hU2a.size
  have hBC1 : (D.length + 1) * 1 ≤ 140737488355328 ∧ D.length + 1 ≤ maxLen := by have := hlH.out; unfold maxLen; omega
  have hB1 : (B.length + 1) * 1 ≤ 140737488355328 ∧ B.length + 1 ≤ maxLen := by have := hlH.out; unfold maxLen; omega
  have hBCH := Lib.hid hBC
  have hBC1H := Lib.hid hBC1
  have hB1H := Lib.hid hB1
  clear hBC hBC1 hB1
  go_wp2_with (at_builtin; first
    | (refine wp_app2 w.heap.size rfl (.tmp 20) (.tmp 21) elemU8 rfl (.slice A1 B.length c1) B C _ rfl rfl hsC hv1b hs2 hBCH.out.1 hBCH.out.2 ?_; intro A3 c3 w3 hv3 hg3 hat3 hold3; rw [← hDH.out.1] at hv3; rw [show B.length + C.length = D.length by rw [hDH.out.1, List.length_append]] at hv3 hat3 ⊢; have hU3 := hU2a.grownOwn hv1b (Nat.le_refl _) hg3; have hs3 := hU3.size)
    | (refine wp_app2 w.heap.size rfl (.tmp 22) (.tmp 23) elemU8 rfl (.slice A3 D.length c3) D [(1 : UInt8)] _ rfl rfl (Src.ofArg (P := Try.prog) (tx := 22) ⟨_, elemU8.ht⟩ bc_len bc_one (Arg.fresh bc_len w3 (1 : UInt8) 5) 1) (hv3.alloc _) (by simp; omega) hBC1H.out.1 hBC1H.out.2 ?_; intro A4 c4 w4 hv4 hg4 hat4 hold4; rw [← hDH.out.2.1] at hv4; rw [show D.length + [(1 : UInt8)].length = E.length by rw [hDH.out.2.1, List.length_append]] at hv4 hat4 ⊢))
  obtain ⟨A4', c4', e4, hc4⟩ := hv4.form
  injection e4 with _ _ ec4
  subst ec4
  have hcm4 := capLen hv4
  have hB4 : Sl w4 w.heap.size 5 1 bc (.slice A1 B.length c1) B := by
    rcases hat3 with e | ⟨k, ek, hk⟩
    · rw [e]
      have hq := hold4.take bc_len (k := B.length) (by have := hlH.out; omega)
      rwa [hDH.out.1, List.take_left] at hq
    · refine (hold3.alloc _).grown hg4 fun k' hk' e => ?_
      have h1 := hv1b.lt k' hk'
      rw [ek] at e
      injection e with e
      omega
  have hU4 := hU3.alloc (.cells #[.int .u8 1] 5)
  have hU4' := hU4.grownOwn (hv3.alloc _) (Nat.le_refl _) hg4
  refine (q3 _ _ _ (hv4.cells bc_len (by have := hlH.out; omega)) hc4 hcm4).mono ?_
  rintro e w5 ⟨V, rfl, hV, hU5⟩
  have hB5 := hB4.upd0 hU5
  clear q1 q2 q3
  go_wp2_with (at_builtin; refine wp_app2 w.heap.size rfl (.tmp 29) (.tmp 30) elemU8 rfl (.slice A1 B.length c1) B [(1 : UInt8)] _ rfl rfl (Src.ofArg (P := Try.prog) (tx := 22) ⟨_, elemU8.ht⟩ bc_len bc_one (Arg.fresh bc_len w5 (1 : UInt8) 5) 1) (hB5.alloc _) (by simp; have := (hU4'.tr hU5).size; omega) hB1H.out.1 hB1H.out.2 ?_; intro A6 c6 w6 hv6 hg6 hat6 hold6; rw [← hDH.out.2.2] at hv6; rw [show B.length + [(1 : UInt8)].length = F.length by rw [hDH.out.2.2, List.length_append]] at hv6 hat6 ⊢)
  obtain ⟨A6', c6', e6, hc6⟩ := hv6.form
  injection e6 with _ _ ec6
  subst ec6
  have hU6 := ((hU4'.tr hU5).alloc (.cells #[.int .u8 1] 5)).grownOwn (hB5.alloc _) (Nat.le_refl _) hg6
  have hsz5 := (hU4'.size)
  obtain ⟨xs, hxs, hxl, hxi⟩ := hV
  have hxl2 : xs.length = 2 := hxl
  have hV6 := (hxs.alloc (.cells #[.int .u8 1] 5)).grown hg6 fun k hk e => by
    have h1 := (hxs.typed k hk).1
    have h2 := hB4.lt k e.symm
    omega
  have hp6 := ((hxi 1 (by omega) (by simp)).alloc (.cells #[.int .u8 1] 5)).grown hg6 fun k hk e => by
    have h1 := ((hxi 1 (by omega) (by simp)).typed k hk).1
    have h2 := hB4.lt k e.symm
    omega
  refine (q4 _ _ _ (hv6.cells bc_len (by have := hlH.out; omega)) hc6 (capLen hv6)).mono ?_
  rintro e w7 ⟨⟨v7, rfl⟩, hU7⟩
  have hV7 := hV6.upd0 hU7
  have hp7 := hp6.upd0 hU7
  have hUz := hU6.tr hU7
  obtain ⟨AV, cV, rfl, hcV⟩ := hV7.form
  obtain ⟨gv, ov, rfl, _, yv⟩ := sv_cell (hV7.cells sv_len (by omega)) (show 1 < xs.length by omega)
  generalize xs[1] = x1 at *
  obtain ⟨Ax, nx, cx⟩ := x1
  obtain ⟨Ax', cx', ex, hcx⟩ := hp7.form
  injection ex with ex1 ex2 ex3
  subst ex1 ex2 ex3
  obtain ⟨gx, ox, rfl, _, _, _, yx, _⟩ := mv_cell (hp7.cells mvC_len (by omega)) (i := 0) (by simp)
  obtain ⟨lB, lC, _, _, _, hm⟩ := hlH.out
  replace yx : w7.cell? ⟨gx, ox + 2, none⟩ = some (.int .i64 3) := by
    rw [← hm]
    simpa using yx
  replace hcx : 1 ≤ cx := hcx
  simp only [List.getElem_cons_succ, List.getElem_cons_zero, List.length_cons, List.length_nil, Nat.zero_add] at yv
  rw [hxl2] at hcV
  rw [lB] at hc1
  rw [hxl2, lB, lC]
  clear hlH hDH hBCH hBC1H hB1H q4 hv1 hv1a hv1b hv2 hv3 hv4 hv6 hU1 hU1a hU2 hU2a hU3 hU4 hU4' hU5 hU6 hU7 hs2 hs3 hg3 hg4 hg6 hat3 hat4 hat6 hold3 hold4 hold6 hB4 hB5 hxs hxi hxl hV6 hp6 hV7 hp7 hcm4 hc4 hc6 hsC hCa hc2 hLit hm lB lC hsz5 r2
  go_wp2_with fail
  go_ret
  exact ⟨rfl, hUz⟩
end Go.Proofs.Ythppheklnplljaa.Delta
