/-
  The reference's Guard: what the program guards bytes to. Conditions: what the argument's slice holds.
-/
import Derived.Test.YtenhimaclecdpaaDoorEccX
namespace Go.Proofs.YtenhimaclecdpaaDoor.Ecc
open Go.RowKit Go.Proofs.YtenhimaclecdpaaDoor.Base
set_option linter.unusedVariables false
set_option linter.unusedSimpArgs false
set_option maxRecDepth 100000
set_option maxHeartbeats 8000000 in
theorem rguardC (A : Option Addr) (c : Nat) (b : List UInt8) (w : World) (hA : Arg w A 1 bc b) (hc : b.length ≤ c) (hcm : c ≤ 9223372036854775807) (hb : b.length ≤ 1000) :
    Calls Tryd.prog 15 #[.slice A b.length c] w fun e w' => ∃ v, e = .returned v ∧ Sl w' w.heap.size 5 1 bc v (guardV b) ∧ Upd Nil w w' := by
  have k1 := groupsR A c b w hA hc hcm hb
  unfold guardV
  obtain ⟨n, hn⟩ : ∃ n, n = (b.length + 7) / 8 := ⟨_, rfl⟩
  rw [← hn] at k1 ⊢
  have hn2 : n ≤ 126 := by omega
  clear hn
  go_enter Tryd.func15, Tryd.ntmps15
  go_wp2_with fail
  refine k1.mono ?_
  rintro e w1 ⟨v, rfl, hv, hU1⟩
  obtain ⟨Ag, cg, rfl, hcg⟩ := hv.form
  have hgcap := hv.capMax
  rw [grs_len] at hv hcg ⊢
  have hAg := hv.cells g8f_len (by omega)
  have hT0 := hU1.size
  clear k1 hv
  go_wp2_with fail
  go_loopw [3, 4, 10] (fun s3 s4 s10 wr => ∃ (i : Nat) (Vo Vc : Value), i ≤ n ∧ s10 = .int .i64 (i : Int) ∧ s3 = Vo ∧ s4 = Vc ∧ Sl wr w1.heap.size 5 1 bc Vo (datV b i) ∧ Sl wr w1.heap.size 5 1 bc Vc (cksV b i) ∧ (∀ k, Vc.ownBlock = some k → some k ≠ Vo.ownBlock) ∧ Upd Nil w1 wr) (fun _ _ s10 _ => n - (intOf s10).toNat)
  case atStart => exact ⟨0, _, _, by omega, by go_num, rfl, rfl, Sl.nil _ _ _ _ _, Sl.nil _ _ _ _ _, fun k hk => by simp [Value.ownBlock] at hk, Upd.refl _ _⟩
  case round =>
    obtain ⟨i, Vo, Vc, hi, rfl, rfl, rfl, hVo, hVc, hap, hU⟩ := hrel
    by_cases hlt : i < n
    · have hI : (i : Int) < (n : Int) := by omega
      have hAi := hAg.upd hU
      obtain ⟨x0, x1, x2, x3, x4, x5, x6, x7, hG⟩ := len8 (grpB b i) (grpB_len b i)
      obtain ⟨ga, oa, rfl, hga, h3⟩ := hAi.resolve_left (fun e => by
        have := grs_len b n
        rw [e] at this
        simp at this
        omega)
      have hgi : ∀ j, j < 8 → wr.cell? ⟨ga, oa + i * 8 + j, none⟩ = (g8f (grpB b i))[j]? := fun j hj => by
        have := h3 i (by rw [grs_len]; exact hlt) j hj
        rw [this]
        congr 2
        simp [grs]
      rw [hG, g8f_lit] at hgi
      have y0 := hgi 0 (by decide)
      have y1 := hgi 1 (by decide)
      have y2 := hgi 2 (by decide)
      have y3 := hgi 3 (by decide)
      have y4 := hgi 4 (by decide)
      have y5 := hgi 5 (by decide)
      have y6 := hgi 6 (by decide)
      have y7 := hgi 7 (by decide)
      simp only [List.getElem?_cons_zero, List.getElem?_cons_succ, Nat.add_zero] at y0 y1 y2 y3 y4 y5 y6 y7
      have hdl := dat_len b i
      have hcl := cks_len b i
      have hgl := grpB_len b i
      have hdat : datV b (i + 1) = datV b i ++ grpB b i := rfl
      have hcks : cksV b (i + 1) = cksV b i ++ [ckB (grpB b i)] := rfl
      have hckn := ckB_nat (grpB b i)
      have kc := fun w => rcheckC (grpB b i) hgl w
      rw [← hckn] at kc
      rw [hG] at kc hdat hcks
      have hpH := Lib.hid (And.intro hdat (And.intro hcks (And.intro hdl hcl)))
      clear hdat hcks hckn hdl hcl hgl hgi h3 hAi hG
      generalize ckB [x0, x1, x2, x3, x4, x5, x6, x7] = ck at *
      generalize datV b i = D at *
      generalize cksV b i = K at *
      obtain ⟨Eo, co, rfl, hco⟩ := hVo.form
      obtain ⟨Ec, cc, rfl, hcc⟩ := hVc.form
      have hbd : (D.length + 8) * 1 ≤ 140737488355328 ∧ D.length + 8 ≤ maxLen := by have := hpH.out.2.2; unfold maxLen; omega
      have hbk : (K.length + 1) * 1 ≤ 140737488355328 ∧ K.length + 1 ≤ maxLen := by have := hpH.out.2.2; unfold maxLen; omega
      have hbdH := Lib.hid hbd
      have hbkH := Lib.hid hbk
      clear hbd hbk
      have hz := blk_new wr (.cells (gC z8) 22)
      have hiG : (Tryd.prog.info? 22).map (·.size) = some (gC ([x0, x1, x2, x3, x4, x5, x6, x7].map UInt8.toNat)).size := by kernel_rfl
      have hzs : (gC z8).size = (gC ([x0, x1, x2, x3, x4, x5, x6, x7].map UInt8.toNat)).size := rfl
      have hgone := gC_one ([x0, x1, x2, x3, x4, x5, x6, x7].map UInt8.toNat)
      have hbz := setRow_heap _ wr.heap.size _ (gC ([x0, x1, x2, x3, x4, x5, x6, x7].map UInt8.toNat)) _ _ hz
      go_upto_region 5 with (refine wpList_store_row rfl 22 (.tmp 6) (.tmp 13) rfl wr.heap.size (gC ([x0, x1, x2, x3, x4, x5, x6, x7].map UInt8.toNat)) rfl rfl 22 (gC z8) hz hiG hzs hgone ?_)
      obtain ⟨G, hGG⟩ : ∃ G : List UInt8, G = [x0, x1, x2, x3, x4, x5, x6, x7] := ⟨_, rfl⟩
      have hG8 : G.length = 8 := by rw [hGG]; rfl
      have hgC := gC_bc G
      rw [← hGG] at kc hpH hiG hzs hgone hbz ⊢
      clear hGG y0 y1 y2 y3 y4 y5 y6 y7 hzs
      have hUa := (Upd.refl Nil wr).alloc (.cells (gC z8) 22)
      have hUz := updRow hUa (.inr (Nat.le_refl _)) (gC (G.map UInt8.toNat))
      have hArg := arg_lit bc_len hbz hgC
      have hVo3 := hVo.upd0 hUz
      have hVc3 := hVc.upd0 hUz
      have hU03 := hU.tr hUz
      have hs3 := hU03.size
      clear hUa hUz hVo hVc hU
      obtain ⟨W, hW⟩ : ∃ W, W = (wr.alloc (.cells (gC z8) 22)).setRow wr.heap.size (gC (G.map UInt8.toNat)) := ⟨_, rfl⟩
      rw [← hW] at hbz hArg hVo3 hVc3 hU03 hs3
      rw [show (wr.alloc (.cells #[.int .u8 0, .int .u8 0, .int .u8 0, .int .u8 0, .int .u8 0, .int .u8 0, .int .u8 0, .int .u8 0] 22)).setRow wr.heap.size (gC (G.map UInt8.toNat)) = W by rw [hW]; rfl]
      clear hz hW
      generalize wr.heap.size = b7 at *
      have hsrc := Src.ofArg (P := Tryd.prog) (tx := 31) ⟨_, elemU8.ht⟩ bc_len bc_one hArg 8
      rw [show Value.slice (some ⟨b7, 0, none⟩) G.length 8 = Value.slice (some ⟨b7, 0, none⟩) 8 8 by rw [hG8]] at hsrc
      rw [← hG8] at hbdH
      clear hG8 hArg hgC hga
      go_upto_region 6 with (at_builtin; refine wp_app w1.heap.size rfl (.tmp 14) (.tmp 15) elemU8 rfl (.slice Eo D.length co) D G _ rfl rfl hsrc hVo3 hs3 hbdH.out.1 hbdH.out.2 ?_; intro A4 c4 w4 hv4 hg4 hat4)
      have hb4 := blk_grown hbz hg4 (fun k hk => hVo3.ne hbz (by decide) k hk)
      have hVc4 := hVc3.grown hg4 (fun k hk => hap k hk)
      have hU4 := hU03.grownOwn hVo3 (Nat.le_refl _) hg4
      have hdl2 : D.length + G.length = (D ++ G).length := by rw [List.length_append]
      have hap4 : ∀ k, (Value.slice Ec K.length cc).ownBlock = some k → some k ≠ (Value.slice A4 (D.length + G.length) c4).ownBlock := fun k hk e => by
        rcases hat4 with h1 | ⟨b', h1, h2⟩
        · rw [h1] at e
          exact hap k hk e
        · have h3 := hVc3.lt k hk
          rw [h1] at e
          injection e with e
          omega
      rw [hdl2] at hv4 hap4 ⊢
      clear hsrc hVo3 hVc3 hU03 hs3 hbz hat4 hg4 hdl2 hap
      generalize hDD : D ++ G = DG at *
      clear hDD
      have hTd := kc w4
      go_wp2_with (refine wpList_load_row rfl 22 (.tmp 6) rfl b7 rfl 22 (gC (G.map UInt8.toNat)) (0, 0) _ hb4 Tryd.underlying22 rfl hiG ?_)
      refine hTd.mono ?_
      rintro e w5 ⟨rfl, hU5⟩
      have hVo5 := hv4.upd0 hU5
      have hVc5 := hVc4.upd0 hU5
      have hU05 := hU4.tr hU5
      have hs5 := hU05.size
      go_wp2_with (at_builtin; refine wp_app1 w1.heap.size rfl (.tmp 17) (.tmp 20) elemU8 rfl w5 ck (by rfl) (.slice Ec K.length cc) K rfl (by simp [Act.eval]) hVc5 hs5 hbkH.out.1 hbkH.out.2 ?_; intro A6 c6 w6 hv6 hg6 hat6)
      have hVo6 := (hVo5.grown hg6 (fun k hk e => hap4 k e.symm hk.symm))
      have hU06 := hU05.grownOwn hVc5 (Nat.le_refl _) hg6
      have hap6 : ∀ k, (Value.slice A6 (K.length + 1) c6).ownBlock = some k → some k ≠ (Value.slice A4 DG.length c4).ownBlock := fun k hk => by
        rcases hat6 with h1 | ⟨b', h1, h2⟩
        · rw [h1] at hk
          exact hap4 k hk
        · intro e
          have h3 := hVo5.lt k e.symm
          rw [h1] at hk
          injection hk with hk
          omega
      go_roundw
      case measure => simp [intOf]; omega
      case rel => exact ⟨i + 1, _, _, by omega, by go_num, rfl, rfl, by rw [hpH.out.1]; exact hVo6, by rw [hpH.out.2.1]; exact hv6, hap6, hU06⟩
    · obtain rfl : i = n := by omega
      have hdl := dat_len b i
      have hcl := cks_len b i
      generalize hDD : datV b i = D at *
      generalize hKK : cksV b i = K at *
      have hDH := Lib.hid (And.intro hDD hKK)
      obtain ⟨Eo, co, rfl, hco⟩ := hVo.form
      obtain ⟨Ec, cc, rfl, hcc⟩ := hVc.form
      have hbd : (D.length + K.length) * 1 ≤ 140737488355328 ∧ D.length + K.length ≤ maxLen := by unfold maxLen; omega
      have hbdH := Lib.hid hbd
      have hAk := hVc.cells bc_len (by omega)
      have hs3 := hU.size
      clear hbd hdl hcl hDD hKK hAg
      go_wp2_with (at_builtin; refine wp_app w1.heap.size rfl (.tmp 23) (.tmp 24) elemU8 rfl (.slice Eo D.length co) D K _ rfl rfl (Src.ofArg (P := Tryd.prog) (tx := 31) ⟨_, elemU8.ht⟩ bc_len bc_one hAk cc) hVo hs3 hbdH.out.1 hbdH.out.2 ?_; intro A4 c4 w4 hv4 hg4 hat4)
      have hU4 := hU.grownOwn hVo (Nat.le_refl _) hg4
      go_ret
      exact ⟨_, rfl, (by rw [hDH.out.1, hDH.out.2]; exact hv4.lower hT0), hU1.tr hU4⟩
end Go.Proofs.YtenhimaclecdpaaDoor.Ecc
