/-
  Bytes are guarded. Conditions: what the argument's slice holds; the table of Go's library is as it was laid.
-/
import Derived.Test.YtenhimaclecdpaaDoorEccJ
import Derived.Test.YtenhimaclecdpaaDoorRow2
import Derived.Deep.OwnRows
namespace Go.Proofs.YtenhimaclecdpaaDoor.Ecc
open Go.RowKit Go.Proofs.YtenhimaclecdpaaDoor.Base
set_option linter.unusedVariables false
set_option linter.unusedSimpArgs false
set_option maxRecDepth 100000
theorem elemU8 : Elem Tryd.prog 31 5 (.int .u8 0) 1 1 bc := ⟨Tryd.underlying31, by kernel_rfl, rfl, by omega, bc_len, bc_one⟩
def grpB (b : List UInt8) (i : Nat) : List UInt8 := (b.drop (8 * i) ++ List.replicate 8 0).take 8
theorem grp_B (b : List UInt8) (i : Nat) : grp b i = (grpB b i).map UInt8.toNat := by
  unfold grp grpB
  rw [List.map_take, List.map_append, List.map_replicate]
  rfl
theorem grpB_len (b : List UInt8) (i : Nat) : (grpB b i).length = 8 := by
  have := grp_len b i
  rwa [grp_B, List.length_map] at this
theorem gC_bc (G : List UInt8) : (gC (G.map UInt8.toNat)).toList = G.flatMap bc := by
  unfold gC
  simp only [List.map_map]
  induction G with
  | nil => rfl
  | cons x G ih => simpa [bc] using ih
/-- A group's check, as a byte. -/
def ckB (G : List UInt8) : UInt8 := UInt8.ofNat (chk (wdN (G.map UInt8.toNat)))
theorem ckB_nat (G : List UInt8) : (ckB G).toNat = chk (wdN (G.map UInt8.toNat)) := by
  unfold ckB
  rw [UInt8.toNat_ofNat', Nat.mod_eq_of_lt (chk_lt _)]
theorem map_lt (G : List UInt8) : ∀ a ∈ G.map UInt8.toNat, a < 256 := by
  intro a ha
  obtain ⟨x, _, rfl⟩ := List.mem_map.1 ha
  exact x.toNat_lt
def datV (b : List UInt8) : Nat → List UInt8
  | 0 => []
  | i + 1 => datV b i ++ grpB b i
def cksV (b : List UInt8) : Nat → List UInt8
  | 0 => []
  | i + 1 => cksV b i ++ [ckB (grpB b i)]
theorem dat_len (b : List UInt8) : ∀ i, (datV b i).length = 8 * i
  | 0 => rfl
  | i + 1 => by
    rw [datV, List.length_append, dat_len b i, grpB_len]
    omega
theorem cks_len (b : List UInt8) : ∀ i, (cksV b i).length = i
  | 0 => rfl
  | i + 1 => by
    rw [cksV, List.length_append, cks_len b i]
    rfl
/-- What bytes are guarded to. -/
def guardV (b : List UInt8) : List UInt8 := datV b ((b.length + 7) / 8) ++ cksV b ((b.length + 7) / 8)
theorem mkU (n : Nat) (hn : n ≤ 1000000) (w : World) : (Instr.makeSlice 31 (.int .i64 0) (.int .i64 (n : Int))).run Tryd.prog w = .ok (.slice (some ⟨w.heap.size, 0, none⟩) 0 n) (w.alloc (.cells (madeCells #[.int .u8 0] n) 5)) := by
  obtain ⟨i, hi, hzz⟩ := Option.map_eq_some_iff.1 elemU8.info
  simp only [Prod.mk.injEq] at hzz
  obtain ⟨hz, hs, hb⟩ := hzz
  have hr := run_make (P := Tryd.prog) w 31 5 i (.int .u8 0) Tryd.underlying31 hi hz .i64 .i64 0 n (by omega) (by omega) (by rw [hb]; omega) (by omega)
  rw [hs] at hr
  simpa [Value.cells] using hr
theorem mk_sl (n base : Nat) (hn : n ≤ 1000000) (w : World) (hb : base ≤ w.heap.size) : Sl (w.alloc (.cells (madeCells #[.int .u8 0] n) 5)) base 5 1 bc (.slice (some ⟨w.heap.size, 0, none⟩) 0 n) [] :=
  ⟨by simp, .inr ⟨_, 0, n, _, rfl, hb, blk_new _ _, Nat.zero_le _, by unfold maxLen; omega, by rw [size_madeCells]; omega, by simp⟩⟩
set_option maxHeartbeats 8000000 in
theorem guardC (A : Option Addr) (c : Nat) (b : List UInt8) (w : World) (hA : Arg w A 1 bc b) (hc : b.length ≤ c) (hcm : c ≤ 9223372036854775807) (hb : b.length ≤ 1000) (hT : Tab w) :
    Calls Tryd.prog 13 #[.slice A b.length c] w fun e w' => ∃ v, e = .returned v ∧ Sl w' w.heap.size 5 1 bc v (guardV b) ∧ Upd Nil w w' := by
  have k1 := groupsC b.length (by omega)
  unfold guardV
  obtain ⟨n, hn⟩ : ∃ n, n = (b.length + 7) / 8 := ⟨_, rfl⟩
  rw [← hn] at k1 ⊢
  have hn2 : n ≤ 126 := by omega
  have hnl : ∀ i, i < n → 8 * i < b.length := fun i h => by omega
  have hpk := Lib.hid hnl
  clear hnl hn
  go_enter Tryd.func13, Tryd.ntmps13
  go_wp2_with fail
  refine (k1 _).mono ?_
  rintro e w' ⟨rfl, rfl⟩
  have hmk := mkU (n * 9) (by omega)
  rw [show ((n * 9 : Nat) : Int) = (n : Int) * 9 by omega] at hmk
  have hVo := mk_sl (n * 9) w'.heap.size (by omega) w' (Nat.le_refl _)
  have hU0 := (Upd.refl Nil w').alloc (.cells (madeCells #[.int .u8 0] (n * 9)) 5)
  go_upto_region 5 with fail
  clear hmk
  obtain ⟨w1, hw1⟩ : ∃ w1, w1 = w'.alloc (.cells (madeCells #[.int .u8 0] (n * 9)) 5) := ⟨_, rfl⟩
  rw [← hw1] at hVo hU0 ⊢
  clear hw1
  obtain ⟨w, rfl⟩ : ∃ x, x = w' := ⟨w', rfl⟩
  go_loopw [4, 5, 15] (fun s4 s5 s15 wr => ∃ (i : Nat) (Vo Vc : Value), i ≤ n ∧ s15 = .int .i64 (i : Int) ∧ s4 = Vo ∧ s5 = Vc ∧ Sl wr w.heap.size 5 1 bc Vo (datV b i) ∧ Sl wr w.heap.size 5 1 bc Vc (cksV b i) ∧ (∀ k, Vc.ownBlock = some k → some k ≠ Vo.ownBlock) ∧ Upd Nil w wr) (fun _ _ s15 _ => n - (intOf s15).toNat)
  case atStart => exact ⟨0, _, _, by omega, rfl, rfl, rfl, hVo, Sl.nil _ _ _ _ _, fun k hk => by simp [Value.ownBlock] at hk, hU0⟩
  case round =>
    clear hVo hU0
    obtain ⟨i, Vo, Vc, hi, rfl, rfl, rfl, hVo, hVc, hap, hU⟩ := hrel
    by_cases hlt : i < n
    · have hI : (i : Int) < (n : Int) := by omega
      have h8 := hpk.out i hlt
      have kg := groupC A c b i wr (hA.upd hU) hc hcm h8 (by omega)
      rw [grp_B] at kg
      have hdl := dat_len b i
      have hcl := cks_len b i
      have hgl := grpB_len b i
      have hdat : datV b (i + 1) = datV b i ++ grpB b i := rfl
      have hcks : cksV b (i + 1) = cksV b i ++ [ckB (grpB b i)] := rfl
      have hckn := ckB_nat (grpB b i)
      have hgC := gC_bc (grpB b i)
      have hgs : (gC ((grpB b i).map UInt8.toNat)).size = 8 := by rw [gC_size, List.length_map, hgl]
      have hgone := gC_one ((grpB b i).map UInt8.toNat)
      have hglt := map_lt (grpB b i)
      have kc := fun w hT => checkC ((grpB b i).map UInt8.toNat) (by rw [List.length_map]; exact hgl) hglt w hT
      rw [← hckn] at kc
      have hpH := Lib.hid (And.intro hdat (And.intro hcks (And.intro hdl (And.intro hcl hgl))))
      clear hdat hcks hckn hglt hdl hcl hgl
      generalize ckB (grpB b i) = ck at *
      generalize grpB b i = G at *
      generalize datV b i = D at *
      generalize cksV b i = K at *
      obtain ⟨Eo, co, rfl, hco⟩ := hVo.form
      obtain ⟨Ec, cc, rfl, hcc⟩ := hVc.form
      have hbd : (D.length + G.length) * 1 ≤ 140737488355328 ∧ D.length + G.length ≤ maxLen := by have := hpH.out.2.2; unfold maxLen; omega
      have hbk : (K.length + 1) * 1 ≤ 140737488355328 ∧ K.length + 1 ≤ maxLen := by have := hpH.out.2.2; unfold maxLen; omega
      have hbdH := Lib.hid hbd
      have hbkH := Lib.hid hbk
      clear hbd hbk h8
      go_wp2_with fail
      refine kg.mono ?_
      rintro e w2 ⟨rfl, hU2⟩
      have hU02 := hU.tr hU2
      have hVo2 := hVo.upd0 hU2
      have hVc2 := hVc.upd0 hU2
      clear kg hVo hVc hU hU2
      have hz : (w2.alloc (.cells (gC z8) 22)).heap[w2.heap.size]? = some (.cells (gC z8) 22 (0, 0)) := blk_new _ _
      have hiG : (Tryd.prog.info? 22).map (·.size) = some (gC (G.map UInt8.toNat)).size := by rw [hgs]; kernel_rfl
      have hzs : (gC z8).size = (gC (G.map UInt8.toNat)).size := by rw [hgs, gC_size]; rfl
      have hbz := setRow_heap _ w2.heap.size _ (gC (G.map UInt8.toNat)) _ _ hz
      have hUa := (Upd.refl Nil w2).alloc (.cells (gC z8) 22)
      have hUz := updRow hUa (.inr (Nat.le_refl _)) (gC (G.map UInt8.toNat))
      have hG8 : G.length = 8 := hpH.out.2.2.2.2
      have hArg := arg_lit bc_len hbz hgC
      have hVo3 := hVo2.upd0 hUz
      have hVc3 := hVc2.upd0 hUz
      have hU03 := hU02.tr hUz
      have hs3 := hU03.size
      clear hVo2 hVc2 hUa hUz hU02
      go_upto_region 8 with (refine wpList_store_row rfl 22 (.tmp 7) (.tmp 20) rfl w2.heap.size (gC (G.map UInt8.toNat)) rfl rfl 22 (gC z8) hz hiG hzs hgone ?_)
      obtain ⟨W, hW⟩ : ∃ W, W = (w2.alloc (.cells (gC z8) 22)).setRow w2.heap.size (gC (G.map UInt8.toNat)) := ⟨_, rfl⟩
      rw [← hW] at hbz hArg hVo3 hVc3 hU03 hs3
      rw [show (w2.alloc (.cells #[.int .u8 0, .int .u8 0, .int .u8 0, .int .u8 0, .int .u8 0, .int .u8 0, .int .u8 0, .int .u8 0] 22)).setRow w2.heap.size (gC (G.map UInt8.toNat)) = W by rw [hW]; rfl]
      clear hz hW
      generalize w2.heap.size = b7 at *
      have hsrc := Src.ofArg (P := Tryd.prog) (tx := 31) ⟨_, elemU8.ht⟩ bc_len bc_one hArg 8
      rw [show Value.slice (some ⟨b7, 0, none⟩) G.length 8 = Value.slice (some ⟨b7, 0, none⟩) 8 8 by rw [hG8]] at hsrc
      clear hG8 hArg hgC
      go_upto_region 9 with (at_builtin; refine wp_app w.heap.size rfl (.tmp 21) (.tmp 22) elemU8 rfl (.slice Eo D.length co) D G _ rfl rfl hsrc hVo3 hs3 hbdH.out.1 hbdH.out.2 ?_; intro A4 c4 w4 hv4 hg4 hat4)
      have hb4 := blk_grown hbz hg4 (fun k hk => hVo3.ne hbz (by decide) k hk)
      have hVc4 := hVc3.grown hg4 (fun k hk => hap k hk)
      have hU4 := hU03.grownOwn hVo3 (Nat.le_refl _) hg4
      have hT4 := hT.upd hU4
      have hdl2 : D.length + G.length = (D ++ G).length := by rw [List.length_append]
      have hap4 : ∀ k, (Value.slice Ec K.length cc).ownBlock = some k → some k ≠ (Value.slice A4 (D.length + G.length) c4).ownBlock := fun k hk e => by
        rcases hat4 with h1 | ⟨b', h1, h2⟩
        · rw [h1] at e
          exact hap k hk e
        · have h3 := hVc3.lt k hk
          rw [h1] at e
          injection e with e
          omega
      rw [hdl2] at hv4 hap4 ⊢
      clear hsrc hVo3 hVc3 hU03 hs3 hbz hat4 hg4 hdl2 hap
      have hDG := Lib.hid (rfl : D ++ G = D ++ G)
      generalize hDD : D ++ G = DG at *
      clear hDD
      have hTd := kc w4 hT4
      go_wp2_with (refine wpList_load_row rfl 22 (.tmp 7) rfl b7 rfl 22 (gC (G.map UInt8.toNat)) (0, 0) _ hb4 Tryd.underlying22 rfl hiG ?_)
      refine hTd.mono ?_
      rintro e w5 ⟨rfl, hU5⟩
      have hVo5 := hv4.upd0 hU5
      have hVc5 := hVc4.upd0 hU5
      have hU05 := hU4.tr hU5
      have hs5 := hU05.size
      go_wp2_with (at_builtin; refine wp_app1 w.heap.size rfl (.tmp 24) (.tmp 27) elemU8 rfl w5 ck (by rfl) (.slice Ec K.length cc) K rfl (by simp [Act.eval]) hVc5 hs5 hbkH.out.1 hbkH.out.2 ?_; intro A6 c6 w6 hv6 hg6 hat6)
      have hVo6 := (hVo5.grown hg6 (fun k hk e => hap4 k e.symm hk.symm))
      have hU06 := hU05.grownOwn hVc5 (Nat.le_refl _) hg6
      have hap6 : ∀ k, (Value.slice A6 (K.length + 1) c6).ownBlock = some k → some k ≠ (Value.slice A4 DG.length c4).ownBlock := fun k hk => by
        rcases hat6 with h1 | ⟨b', h1, h2⟩
        · rw [h1] at hk
          exact hap4 k hk
        · intro e
          have h3 := hVo5.lt k e.symm
          rw [h1] at hk
          injection hk with hk
          omega
      go_roundw
      case measure => simp [intOf]; omega
      case rel => exact ⟨i + 1, _, _, by omega, by go_num, rfl, rfl, by rw [hpH.out.1]; exact hVo6, by rw [hpH.out.2.1]; exact hv6, hap6, hU06⟩
    · obtain rfl : i = n := by omega
      have hdl := dat_len b i
      have hcl := cks_len b i
      generalize hDD : datV b i = D at *
      generalize hKK : cksV b i = K at *
      have hDH := Lib.hid (And.intro hDD hKK)
      obtain ⟨Eo, co, rfl, hco⟩ := hVo.form
      obtain ⟨Ec, cc, rfl, hcc⟩ := hVc.form
      have hbd : (D.length + K.length) * 1 ≤ 140737488355328 ∧ D.length + K.length ≤ maxLen := by unfold maxLen; omega
      have hbdH := Lib.hid hbd
      have hAk := hVc.cells bc_len (by omega)
      have hs3 := hU.size
      clear hbd hdl hcl hDD hKK
      go_wp2_with (at_builtin; refine wp_app w.heap.size rfl (.tmp 30) (.tmp 31) elemU8 rfl (.slice Eo D.length co) D K _ rfl rfl (Src.ofArg (P := Tryd.prog) (tx := 31) ⟨_, elemU8.ht⟩ bc_len bc_one hAk cc) hVo hs3 hbdH.out.1 hbdH.out.2 ?_; intro A4 c4 w4 hv4 hg4 hat4)
      have hU4 := hU.grownOwn hVo (Nat.le_refl _) hg4
      go_ret
      exact ⟨_, rfl, by rw [hDH.out.1, hDH.out.2]; exact hv4, hU4⟩
end Go.Proofs.YtenhimaclecdpaaDoor.Ecc
