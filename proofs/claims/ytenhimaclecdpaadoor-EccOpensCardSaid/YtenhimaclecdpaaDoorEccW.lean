/-
  What any guarded bytes are opened to, or why not, is what the document says: the walk. Conditions: what the argument's slice holds; the table of Go's library is as it was laid.
-/
import Derived.Test.YtenhimaclecdpaaDoorEccU
namespace Go.Proofs.YtenhimaclecdpaaDoor.Ecc
open Go.RowKit Go.Proofs.YtenhimaclecdpaaDoor.Base
set_option linter.unusedVariables false
set_option linter.unusedSimpArgs false
set_option maxRecDepth 100000
set_option maxHeartbeats 8000000 in
theorem opensC (A : Option Addr) (c : Nat) (b : List UInt8) (size : Int) (hs1 : -9223372036854775808 ≤ size) (hs2 : size ≤ 9223372036854775807) (w : World) (hA : Arg w A 1 bc b) (hc : b.length ≤ c) (hcm : c ≤ 9223372036854775807) (hT : Tab w) :
    Calls Tryd.prog 6 #[.slice A b.length c, .int .i64 size] w (RetB true w) := by
  have hF := fixedC w hT
  by_cases h200 : 200 < b.length
  · have h2I : (200 : Int) < (b.length : Int) := by omega
    go_enter Tryd.func6, Tryd.ntmps6
    go_wp2_with fail
    refine hF.mono ?_
    rintro e w1 ⟨rfl, hU1⟩
    go_wp2_with fail
    go_ret
    exact ⟨rfl, hU1⟩
  have hlI : ¬ (200 : Int) < (b.length : Int) := by omega
  obtain ⟨r, hr⟩ : ∃ r, r = openV b size := ⟨_, rfl⟩
  have k1 := fun w hA hT => openC A c b size w hA hc hcm (by omega) hT
  rw [← hr] at k1
  unfold OpenR at k1
  have hrH := Lib.hid hr
  clear hr
  by_cases h0 : size < 0
  · have hz : r = ([], 0, 1) := by rw [hrH.out]; unfold openV; rw [if_pos (by omega)]
    clear hrH
    subst hz
    go_enter Tryd.func6, Tryd.ntmps6
    go_wp2_with fail
    refine hF.mono ?_
    rintro e w1 ⟨rfl, hU1⟩
    go_wp2_with fail
    refine (k1 _ (hA.upd hU1) (hT.upd hU1)).mono ?_
    rintro e w2 ⟨v, rfl, hv, hU2⟩
    obtain ⟨Ax, cx, rfl, _⟩ := hv.form
    have hU := hU1.tr hU2
    clear k1 hF hv
    go_wp2_with fail
    go_ret
    exact ⟨rfl, hU⟩
  obtain ⟨m, rfl⟩ := Int.eq_ofNat_of_zero_le (show 0 ≤ size by omega)
  by_cases h1 : 1000 < m
  · have hz : r = ([], 0, 1) := by rw [hrH.out]; unfold openV; rw [if_pos (by omega)]
    have h1I : (1000 : Int) < (m : Int) := by omega
    clear hrH
    subst hz
    go_enter Tryd.func6, Tryd.ntmps6
    go_wp2_with fail
    refine hF.mono ?_
    rintro e w1 ⟨rfl, hU1⟩
    go_wp2_with fail
    refine (k1 _ (hA.upd hU1) (hT.upd hU1)).mono ?_
    rintro e w2 ⟨v, rfl, hv, hU2⟩
    obtain ⟨Ax, cx, rfl, _⟩ := hv.form
    have hU := hU1.tr hU2
    clear k1 hF hv
    go_wp2_with fail
    go_ret
    exact ⟨rfl, hU⟩
  have hm1000 : m ≤ 1000 := by omega
  obtain ⟨n, hn⟩ : ∃ n, n = (m + 7) / 8 := ⟨_, rfl⟩
  have hq : Int.tdiv ((m : Int) + 7) 8 = (n : Int) := by rw [Int.tdiv_eq_ediv_of_nonneg (by omega)]; omega
  have hw0 : IntKind.i64.wrap ((m : Int) + 7) = (m : Int) + 7 := by rw [IntKind.wrap_i64]; omega
  have hw1 : IntKind.i64.wrap ((n : Int) * 9) = (n : Int) * 9 := by rw [IntKind.wrap_i64]; omega
  have hn0 : ¬ (m : Int) < 0 := by omega
  have hn1 : ¬ (1000 : Int) < (m : Int) := by omega
  by_cases h2 : b.length ≠ n * 9
  · have hz : r = ([], 0, 1) := by rw [hrH.out]; unfold openV; rw [if_pos (by rw [Int.toNat_natCast, ← hn]; omega)]
    have hne : ¬ (b.length : Int) = (n : Int) * 9 := by omega
    have hn3 : n ≤ 1000 := by omega
    have hneb : ((b.length : Int) != (n : Int) * 9) = true := by simpa using hne
    clear hn
    clear hrH
    subst hz
    go_enter Tryd.func6, Tryd.ntmps6
    go_wp2_with fail
    refine hF.mono ?_
    rintro e w1 ⟨rfl, hU1⟩
    go_wp2_with fail
    refine (k1 _ (hA.upd hU1) (hT.upd hU1)).mono ?_
    rintro e w2 ⟨v, rfl, hv, hU2⟩
    obtain ⟨Ax, cx, rfl, _⟩ := hv.form
    have hU := hU1.tr hU2
    clear k1 hF hv
    go_upto_region 6 with fail
    try rw [hneb]
    try simp only [Bool.or_true]
    go_wp2_with fail
    go_ret
    exact ⟨rfl, hU⟩
  have h2 : b.length = n * 9 := by omega
  have h2I : (b.length : Int) = (n : Int) * 9 := by omega
  have hz : Hid (r = match opnS b n n with
    | none => ([], 0, 14)
    | some (out, mm) => if (out.drop m).any (· != 0) then ([], 0, 2) else (out.take m, mm, 0)) := by
    show r = _
    rw [hrH.out]
    unfold openV
    rw [if_neg (by rw [Int.toNat_natCast, ← hn]; omega), Int.toNat_natCast, ← hn]
    rfl
  have hm8 : m ≤ 8 * n := by omega
  have hn2 : n ≤ 22 := by omega
  have hblH := Lib.hid h2
  clear hrH hn h2 hs1 hs2
  go_enter Tryd.func6, Tryd.ntmps6
  go_wp2_with fail
  refine hF.mono ?_
  rintro e w1 ⟨rfl, hU1⟩
  go_wp2_with fail
  refine (k1 _ (hA.upd hU1) (hT.upd hU1)).mono ?_
  rintro e w2 ⟨v, rfl, hv, hU2⟩
  obtain ⟨rl, rm, re⟩ := r
  simp only at hv ⊢
  obtain ⟨Ax, cx, rfl, _⟩ := hv.form
  obtain ⟨xl, hxl⟩ : ∃ xl, xl = rl.length := ⟨_, rfl⟩
  rw [← hxl] at hv ⊢
  have hx := hv
  have hxlH := Lib.hid hxl
  have hU2 := hU1.tr hU2
  have hA2 := hA.upd hU2
  have hT2 := hT.upd hU2
  clear k1 hF hv hxl hU1 hA hT
  go_wp2_with fail
  clear h2I hw0 hw1 hq hn0 hn1 hlI
  go_loopw [9, 10, 60] (fun s9 s10 s60 wr => ∃ (i : Nat) (V : Value) (out : List UInt8) (mm : Int), i ≤ n ∧ s60 = .int .i64 (i : Int) ∧ s10 = .int .i64 mm ∧ s9 = V ∧ Hid (opnS b n i = some (out, mm)) ∧ Sl wr w2.heap.size 5 1 bc V out ∧ Upd Nil w2 wr) (fun _ _ s60 _ => n - (intOf s60).toNat)
  case atStart => exact ⟨0, _, [], 0, by omega, by go_num, by go_num, rfl, Lib.hid rfl, Sl.nil _ _ _ _ _, Upd.refl _ _⟩
  case round =>
    obtain ⟨i, V, out, mm, hi, rfl, rfl, rfl, ho, hV, hU⟩ := hrel
    by_cases hlt : i < n
    · have hI : (i : Int) < (n : Int) := by omega
      obtain ⟨Eo, co, rfl, hco⟩ := hV.form
      have hbl := hblH.out
      have hidx : 8 * n + i < b.length := by omega
      have hi8 : 8 * i < b.length := by omega
      have hgd : b.getD (8 * n + i) 0 = b[8 * n + i] := by rw [List.getD_eq_getElem?_getD, List.getElem?_eq_getElem hidx]; rfl
      have hstep : opnS b n (i + 1) = match opnS b n i with
        | none => none
        | some (out, m) => if (mendV (grp b i) (b.getD (8 * n + i) 0).toNat).2.2 then some (out ++ toB (mendV (grp b i) (b.getD (8 * n + i) 0).toNat).1, m + (mendV (grp b i) (b.getD (8 * n + i) 0).toNat).2.1) else none := rfl
      rw [ho.out, hgd] at hstep
      simp only at hstep
      have hok := mend_ok (grp_len b i) (grp_lt b i) (b[8 * n + i].toNat)
      have km := fun w' => rmendC (grpB b i) (grpB_len b i) b[8 * n + i] w'
      rw [← grp_B] at km
      unfold MendR at km
      have hlen := opn_len i out mm ho.out
      have hstH := Lib.hid hstep
      -- the copy's row
      have hz1 := blk_new wr (.cells (gC z8) 22)
      have hR1 := (Upd.refl Nil wr).alloc (.cells (gC z8) 22)
      have hA1 := hA2.upd (hU.tr hR1)
      have hgs : (gC (grp b i)).size = 8 := by rw [gC_size, grp_len]
      have hiG : (Tryd.prog.info? 22).map (·.size) = some (gC (grp b i)).size := by rw [hgs]; kernel_rfl
      have hrow := cpy_row b i
      have hclen := cpy_len b i
      have hones := cpy_one b i
      have hAq := hA2.upd hU
      obtain ⟨gb, ob, rfl, hgb, hcell⟩ := byte_at hAq hidx
      obtain ⟨ga, oa, ea, hga, hsrc⟩ := cpy_src hA1 hi8
      injection ea with ea
      injection ea with ea1 ea2
      subst ea1 ea2
      clear hstep hgd ho hgs hA1 hAq
      generalize cpy b i = cs at *
      generalize grp b i = G at *
      generalize b[8 * n + i] = x at *
      generalize mendV G x.toNat = mv at *
      obtain ⟨G2, t2, ok2⟩ := mv
      simp only at hok km hstH
      have hokH := Lib.hid hok
      have hlenH := Lib.hid hlen
      clear hok hlen hbl
      have hw1 : IntKind.i64.wrap ((n : Int) * 8) = (n : Int) * 8 := by rw [IntKind.wrap_i64]; omega
      have hw1' : IntKind.i64.wrap (8 * (n : Int)) = 8 * (n : Int) := by rw [IntKind.wrap_i64]; omega
      have hw2 : IntKind.i64.wrap (8 * (n : Int) + (i : Int)) = ((8 * n + i : Nat) : Int) := by rw [IntKind.wrap_i64]; omega
      have hw0 : IntKind.i64.wrap (8 * (i : Int)) = ((8 * i : Nat) : Int) := by rw [IntKind.wrap_i64]; omega
      generalize hk : 8 * n + i = k at *
      generalize hk8 : 8 * i = k8 at *
      have hkI : (k : Int) < (b.length : Int) := by omega
      have hne : ¬ c = k8 := by omega
      have hge0 : wr.heap.size ≤ wr.heap.size := Nat.le_refl _
      obtain ⟨W, hW⟩ : ∃ W, W = wr.alloc (.cells (gC z8) 22) := ⟨_, rfl⟩
      rw [← hW] at hz1 hR1 hsrc hga
      obtain ⟨gk, hgk⟩ : ∃ gk, gk = wr.heap.size := ⟨_, rfl⟩
      rw [← hgk] at hz1
      have hgkH := Lib.hid hgk
      go_upto_region 15 with fail
      rw [show wr.alloc (.cells #[.int .u8 0, .int .u8 0, .int .u8 0, .int .u8 0, .int .u8 0, .int .u8 0, .int .u8 0, .int .u8 0] 22) = W by rw [hW]; rfl]
      try rw [← hgk]
      clear hW hgk
      refine wp_region_lex (Only gk) [0, 1, 2, 3, 4, 5] (by kernel_rfl) (by kernel_rfl) rfl (by kernel_rfl) ?_
      simp only [inOrder, List.filterMap_cons, List.filterMap_nil, List.getElem?_cons_zero, List.getElem?_cons_succ]
      try simp only [Act.put, List.setIfInBounds_toArray, List.set_cons_zero, List.set_cons_succ]
      repeat
        first
        | (refine lex_pure (v := ?_) rfl rfl ?_ ?_
           rotate_left
           · intro w' hU'
             go_simp
             try with_reducible rfl
           try simp only [Act.put, List.setIfInBounds_toArray, List.set_cons_zero, List.set_cons_succ])
        | (refine lex_skip rfl ?_
           try simp only [Act.put, List.setIfInBounds_toArray, List.set_cons_zero, List.set_cons_succ])
      refine lex_pure (v := .slice (some ⟨gb, ob + k8, none⟩) (b.length - k8) (c - k8)) rfl rfl ?_ ?_
      · intro w' u
        have h1 : k8 ≤ b.length := by omega
        have h2 : k8 ≤ c := by omega
        have h3 : (k8 : Int) ≤ (b.length : Int) := by omega
        go_simp
      try simp only [Act.put, List.setIfInBounds_toArray, List.set_cons_zero, List.set_cons_succ]
      have hl8 : cs.length ≤ 8 := by rw [hclen]; exact Nat.min_le_right _ _
      have hrun := run_copy_row (P := Tryd.prog) W.drew 31 31 3 5 gk 0 8 8 ⟨gb, ob + k8, none⟩ (b.length - k8) (c - k8) (gC z8) 22 cs Tryd.underlying31 (by kernel_rfl) (blk_drew hz1) hclen hsrc (by rw [gC_size]; show 0 + cs.length ≤ 8; omega) hones
      rw [hrow] at hrun
      have hUc := updRow (Upd.refl (Only gk) W.drew) (.inl rfl) (gC G)
      refine lex_run (v := goInt cs.length) rfl rfl (by simp [execOp, resolve, invoke, builtin, Act.eval, hrun]) hUc ?_
      try simp only [Act.put, List.setIfInBounds_toArray, List.set_cons_zero, List.set_cons_succ]
      repeat
        first
        | (refine lex_pure (v := ?_) rfl rfl ?_ ?_
           rotate_left
           · intro w' hU'
             go_simp
             try with_reducible rfl
           try simp only [Act.put, List.setIfInBounds_toArray, List.set_cons_zero, List.set_cons_succ])
        | (refine lex_skip rfl ?_
           try simp only [Act.put, List.setIfInBounds_toArray, List.set_cons_zero, List.set_cons_succ])
      refine lex_done ?_
      have hbq : (W.drew.setRow gk (gC G)).heap[gk]? = some (.cells (gC G) 22 (0, 0)) := setRow_heap _ _ _ _ _ _ (blk_drew hz1)
      have hRq := updRow hR1.drew (.inr (Nat.le_of_eq hgkH.out.symm)) (gC G)
      clear hrun hUc hz1 hR1 hsrc hclen hl8 hrow hones hne hw0
      generalize W.drew.setRow gk (gC G) = wq at *
      have hQ := hU.tr hRq
      have hVq := hV.upd0 hRq
      have hgbq : gb < wq.heap.size := Nat.lt_of_lt_of_le hgb hRq.size
      have hcellq : wq.cell? ⟨gb, ob + k, none⟩ = some (.int .u8 (x.toNat : Nat)) := by rw [hRq.cell (p := ⟨gb, ob + k, none⟩) hgb (fun h => h)]; exact hcell
      have hgkq := blk_lt hbq
      clear hcell hV hU hRq hgb hga
      generalize gC G = cG at *
      generalize hxn : x.toNat = xn at *
      clear hxn
      go_upto_region 16 with fail
      have hcl : ∀ w', Upd (From wq.heap.size) wq.drew w' → w'.cell? ⟨gb, ob + k, none⟩ = some (.int .u8 xn) := fun w' u => by rw [u.cell (p := ⟨gb, ob + k, none⟩) hgbq (fun h => by have h : wq.heap.size ≤ gb := h; omega)]; exact hcellq
      have hld : ∀ w', Upd (From wq.heap.size) wq.drew w' → (loadVar 22 ⟨gk, 0, none⟩).run Tryd.prog w' = .ok (.agg cG) w' := fun w' u => run_loadVar_row w' gk 22 22 cG (0, 0) _ (u.blk (blk_drew hbq) (fun h => by have h : wq.heap.size ≤ gk := h; omega)) Tryd.underlying22 rfl hiG
      refine wp_region_lexF (From wq.heap.size) ((.step 0 (.step 1 (.step 2 (.step 3 (.step 4 (.step 5 (.step 6 (.step 7 (.fork 8 (.step 9 (.step 10 (.step 11 (.step 12 (.step 13 (.step 14 (.step 15 (.step 16 .done)))))))) 13 (.step 8 (.step 9 (.step 10 (.step 11 (.step 12 (.step 14 (.step 15 (.step 16 .done)))))))))))))))))) (by kernel_rfl) (by kernel_rfl) rfl (by kernel_rfl) ?_
      simp only [toO, List.getElem?_cons_zero, List.getElem?_cons_succ]
      try simp only [Act.put, List.setIfInBounds_toArray, List.set_cons_zero, List.set_cons_succ]
      repeat
        first
        | (refine lexF_pure (v := ?_) rfl rfl ?_ ?_
           rotate_left
           · intro w' hU'
             go_simp
             try with_reducible rfl
           try simp only [Act.put, List.setIfInBounds_toArray, List.set_cons_zero, List.set_cons_succ])
        | (refine lexF_skip rfl ?_
           try simp only [Act.put, List.setIfInBounds_toArray, List.set_cons_zero, List.set_cons_succ])
      refine lexF_pure (v := .agg cG) rfl rfl (fun w' u => by simp [execOp, Act.eval, Instr.loadAt, Instr.sureAddr, hld w' u]) ?_
      try simp only [Act.put, List.setIfInBounds_toArray, List.set_cons_zero, List.set_cons_succ]
      repeat
        first
        | (refine lexF_pure (v := ?_) rfl rfl ?_ ?_
           rotate_left
           · intro w' hU'
             go_simp
             try with_reducible rfl
           try simp only [Act.put, List.setIfInBounds_toArray, List.set_cons_zero, List.set_cons_succ])
        | (refine lexF_skip rfl ?_
           try simp only [Act.put, List.setIfInBounds_toArray, List.set_cons_zero, List.set_cons_succ])
      have hG2 := hokH.out.1
      have hlt2 := hokH.out.2.1
      have hgs2 : (gC G2).size = 8 := by rw [gC_size, hG2]
      have hi2 : (Tryd.prog.info? 22).map (·.size) = some (gC G2).size := by rw [hgs2]; kernel_rfl
      have hsz2 : (gC z8).size = (gC G2).size := by rw [hgs2, gC_size]; rfl
      have hone2 := gC_one G2
      have htB := gC_toB hlt2
      have htl : (toB G2).length = 8 := by unfold toB; rw [List.length_map, hG2]
      have hFm : ∀ {a b : World}, Upd Nil a b → Upd (From wq.heap.size) a b := fun u => u.mono (fun _ h => h.elim)
      clear hgs2 hlt2 hG2 hcl hld
      have hV1 := (Upd.refl Nil wq).drew
      refine lexF_fork ?_ ?_
      · refine lexF_fn (f := 9) (args := _) rfl rfl (by go_simp) ((km _).mono ?_)
        rintro e w3 ⟨rfl, hU3⟩
        have hV3 := hV1.tr hU3
        refine ⟨_, rfl, hFm hU3, ?_⟩
        try simp only [Act.put, List.setIfInBounds_toArray, List.set_cons_zero, List.set_cons_succ]
        repeat
          first
          | (refine lexF_pure (v := ?_) rfl rfl ?_ ?_
             rotate_left
             · intro w' hU'
               go_simp
               try with_reducible rfl
             try simp only [Act.put, List.setIfInBounds_toArray, List.set_cons_zero, List.set_cons_succ])
          | (refine lexF_skip rfl ?_
             try simp only [Act.put, List.setIfInBounds_toArray, List.set_cons_zero, List.set_cons_succ])
        refine lexF_step ?_
        refine (lexF_run (v := .pointer (some ⟨w3.heap.size, 0, none⟩)) (w' := w3.alloc (.cells #[.int .u8 0, .int .u8 0, .int .u8 0, .int .u8 0, .int .u8 0, .int .u8 0, .int .u8 0, .int .u8 0] 22)) rfl rfl (by go_simp) ((Upd.refl _ _).alloc _) ?_)
        have hzb : (w3.alloc (.cells #[.int .u8 0, .int .u8 0, .int .u8 0, .int .u8 0, .int .u8 0, .int .u8 0, .int .u8 0, .int .u8 0] 22)).heap[w3.heap.size]? = some (.cells (gC z8) 22 (0, 0)) := blk_new w3 (.cells (gC z8) 22)
        have hVa := hV3.alloc (.cells #[.int .u8 0, .int .u8 0, .int .u8 0, .int .u8 0, .int .u8 0, .int .u8 0, .int .u8 0, .int .u8 0] 22)
        have hge : wq.heap.size ≤ w3.heap.size := hV3.size
        generalize w3.alloc (.cells #[.int .u8 0, .int .u8 0, .int .u8 0, .int .u8 0, .int .u8 0, .int .u8 0, .int .u8 0, .int .u8 0] 22) = wa at *
        generalize w3.heap.size = bk at *
        try simp only [Act.put, List.setIfInBounds_toArray, List.set_cons_zero, List.set_cons_succ]
        repeat
          first
          | (refine lexF_pure (v := ?_) rfl rfl ?_ ?_
             rotate_left
             · intro w' hU'
               go_simp
               try with_reducible rfl
             try simp only [Act.put, List.setIfInBounds_toArray, List.set_cons_zero, List.set_cons_succ])
          | (refine lexF_skip rfl ?_
             try simp only [Act.put, List.setIfInBounds_toArray, List.set_cons_zero, List.set_cons_succ])
        refine lexF_step ?_
        have hst := run_storeVar_row (P := Tryd.prog) wa bk 22 22 (gC z8) (gC G2) hzb hi2 hsz2 hone2
        refine (lexF_store (w' := wa.setRow bk (gC G2)) rfl rfl (by simp [execOp, Act.eval, Instr.storeAt, Instr.sureAddr, hst]) (updRow (Upd.refl (From wq.heap.size) wa) (.inl hge) (gC G2)) ?_)
        have hbk := setRow_heap _ bk _ (gC G2) _ _ hzb
        have hVs := updRow hVa (.inr hge) (gC G2)
        generalize wa.setRow bk (gC G2) = ws at *
        try simp only [Act.put, List.setIfInBounds_toArray, List.set_cons_zero, List.set_cons_succ]
        repeat
          first
          | (refine lexF_pure (v := ?_) rfl rfl ?_ ?_
             rotate_left
             · intro w' hU'
               go_simp
               try with_reducible rfl
             try simp only [Act.put, List.setIfInBounds_toArray, List.set_cons_zero, List.set_cons_succ])
          | (refine lexF_skip rfl ?_
             try simp only [Act.put, List.setIfInBounds_toArray, List.set_cons_zero, List.set_cons_succ])
        refine lexF_done ?_
        cases ok2 with
        | false =>
          have hon := opn_none (b := b) (n := n) (i := i + 1) (by rw [hstH.out]; rfl) (n - (i + 1))
          rw [show (i + 1) + (n - (i + 1)) = n by omega] at hon
          have hzf : (rl, rm, re) = (([] : List UInt8), (0 : Int), (14 : Int)) := by rw [hz.out, hon]
          simp only [Prod.mk.injEq] at hzf
          have hx0 : xl = 0 := by rw [hxlH.out, hzf.1]; rfl
          have hm0 := hzf.2.1
          have he0 := hzf.2.2
          clear hon hzf hx hz hxlH
          subst hx0 hm0 he0
          go_wp2_with fail
          go_ret
          exact ⟨rfl, hU2.tr (hQ.tr hVs)⟩
        | true =>
          have hw3 : IntKind.i64.wrap (mm + t2) = mm + t2 := by have := hlenH.out; have := hokH.out.2.2; rw [IntKind.wrap_i64]; omega
          have hw4 : wrap64 (mm + t2) = mm + t2 := by have := hlenH.out; have := hokH.out.2.2; unfold wrap64; omega
          have hVs9 := hVq.upd0 hVs
          have hUs := hQ.tr hVs
          have hss := hUs.size
          have hbd : (out.length + (toB G2).length) * 1 ≤ 140737488355328 ∧ out.length + (toB G2).length ≤ maxLen := by have := hlenH.out.1; unfold maxLen; omega
          have hbdH := Lib.hid hbd
          have hsrc := Src.ofArg (P := Tryd.prog) (tx := 31) ⟨_, elemU8.ht⟩ bc_len bc_one (arg_lit bc_len hbk htB) 8
          rw [show Value.slice (some ⟨bk, 0, none⟩) (toB G2).length 8 = Value.slice (some ⟨bk, 0, none⟩) 8 8 by rw [htl]] at hsrc
          have hstT := Lib.hid (show opnS b n (i + 1) = some (out ++ toB G2, mm + t2) by rw [hstH.out]; rfl)
          clear hbd htl htB hbk
          go_wp2_with (at_builtin; refine wp_app w2.heap.size rfl (.tmp 98) (.tmp 99) elemU8 rfl (.slice Eo out.length co) out (toB G2) _ rfl rfl hsrc hVs9 hss hbdH.out.1 hbdH.out.2 ?_; intro A4 c4 w4 hv4 hg4 hat4)
          have hU4 := hUs.grownOwn hVs9 (Nat.le_refl _) hg4
          go_roundw
          case measure => simp [intOf]; omega
          case rel => exact ⟨i + 1, _, _, _, by omega, by go_num, rfl, rfl, Lib.hid hstT.out, hv4, hU4⟩
      · skip
        refine (lexF_run (v := .pointer (some ⟨wq.drew.heap.size, 0, none⟩)) (w' := wq.drew.alloc (.cells #[.int .u8 0, .int .u8 0, .int .u8 0, .int .u8 0, .int .u8 0, .int .u8 0, .int .u8 0, .int .u8 0] 22)) rfl rfl (by go_simp) ((Upd.refl _ _).alloc _) ?_)
        have hzb : (wq.drew.alloc (.cells #[.int .u8 0, .int .u8 0, .int .u8 0, .int .u8 0, .int .u8 0, .int .u8 0, .int .u8 0, .int .u8 0] 22)).heap[wq.drew.heap.size]? = some (.cells (gC z8) 22 (0, 0)) := blk_new wq.drew (.cells (gC z8) 22)
        have hVa := hV1.alloc (.cells #[.int .u8 0, .int .u8 0, .int .u8 0, .int .u8 0, .int .u8 0, .int .u8 0, .int .u8 0, .int .u8 0] 22)
        have hge : wq.heap.size ≤ wq.drew.heap.size := hV1.size
        generalize wq.drew.alloc (.cells #[.int .u8 0, .int .u8 0, .int .u8 0, .int .u8 0, .int .u8 0, .int .u8 0, .int .u8 0, .int .u8 0] 22) = wa at *
        generalize wq.drew.heap.size = bk at *
        try simp only [Act.put, List.setIfInBounds_toArray, List.set_cons_zero, List.set_cons_succ]
        repeat
          first
          | (refine lexF_pure (v := ?_) rfl rfl ?_ ?_
             rotate_left
             · intro w' hU'
               go_simp
               try with_reducible rfl
             try simp only [Act.put, List.setIfInBounds_toArray, List.set_cons_zero, List.set_cons_succ])
          | (refine lexF_skip rfl ?_
             try simp only [Act.put, List.setIfInBounds_toArray, List.set_cons_zero, List.set_cons_succ])
        refine lexF_step ?_
        refine lexF_fn (f := 9) (args := _) rfl rfl (by go_simp) ((km _).mono ?_)
        rintro e w3 ⟨rfl, hU3⟩
        have hV3 := hVa.tr hU3
        have hzb3 := hU3.blk hzb (fun h => h)
        refine ⟨_, rfl, hFm hU3, ?_⟩
        try simp only [Act.put, List.setIfInBounds_toArray, List.set_cons_zero, List.set_cons_succ]
        repeat
          first
          | (refine lexF_pure (v := ?_) rfl rfl ?_ ?_
             rotate_left
             · intro w' hU'
               go_simp
               try with_reducible rfl
             try simp only [Act.put, List.setIfInBounds_toArray, List.set_cons_zero, List.set_cons_succ])
          | (refine lexF_skip rfl ?_
             try simp only [Act.put, List.setIfInBounds_toArray, List.set_cons_zero, List.set_cons_succ])
        refine lexF_step ?_
        have hst := run_storeVar_row (P := Tryd.prog) w3 bk 22 22 (gC z8) (gC G2) hzb3 hi2 hsz2 hone2
        refine (lexF_store (w' := w3.setRow bk (gC G2)) rfl rfl (by simp [execOp, Act.eval, Instr.storeAt, Instr.sureAddr, hst]) (updRow (Upd.refl (From wq.heap.size) w3) (.inl hge) (gC G2)) ?_)
        have hbk := setRow_heap _ bk _ (gC G2) _ _ hzb3
        have hVs := updRow hV3 (.inr hge) (gC G2)
        generalize w3.setRow bk (gC G2) = ws at *
        try simp only [Act.put, List.setIfInBounds_toArray, List.set_cons_zero, List.set_cons_succ]
        repeat
          first
          | (refine lexF_pure (v := ?_) rfl rfl ?_ ?_
             rotate_left
             · intro w' hU'
               go_simp
               try with_reducible rfl
             try simp only [Act.put, List.setIfInBounds_toArray, List.set_cons_zero, List.set_cons_succ])
          | (refine lexF_skip rfl ?_
             try simp only [Act.put, List.setIfInBounds_toArray, List.set_cons_zero, List.set_cons_succ])
        refine lexF_done ?_
        cases ok2 with
        | false =>
          have hon := opn_none (b := b) (n := n) (i := i + 1) (by rw [hstH.out]; rfl) (n - (i + 1))
          rw [show (i + 1) + (n - (i + 1)) = n by omega] at hon
          have hzf : (rl, rm, re) = (([] : List UInt8), (0 : Int), (14 : Int)) := by rw [hz.out, hon]
          simp only [Prod.mk.injEq] at hzf
          have hx0 : xl = 0 := by rw [hxlH.out, hzf.1]; rfl
          have hm0 := hzf.2.1
          have he0 := hzf.2.2
          clear hon hzf hx hz hxlH
          subst hx0 hm0 he0
          go_wp2_with fail
          go_ret
          exact ⟨rfl, hU2.tr (hQ.tr hVs)⟩
        | true =>
          have hw3 : IntKind.i64.wrap (mm + t2) = mm + t2 := by have := hlenH.out; have := hokH.out.2.2; rw [IntKind.wrap_i64]; omega
          have hw4 : wrap64 (mm + t2) = mm + t2 := by have := hlenH.out; have := hokH.out.2.2; unfold wrap64; omega
          have hVs9 := hVq.upd0 hVs
          have hUs := hQ.tr hVs
          have hss := hUs.size
          have hbd : (out.length + (toB G2).length) * 1 ≤ 140737488355328 ∧ out.length + (toB G2).length ≤ maxLen := by have := hlenH.out.1; unfold maxLen; omega
          have hbdH := Lib.hid hbd
          have hsrc := Src.ofArg (P := Tryd.prog) (tx := 31) ⟨_, elemU8.ht⟩ bc_len bc_one (arg_lit bc_len hbk htB) 8
          rw [show Value.slice (some ⟨bk, 0, none⟩) (toB G2).length 8 = Value.slice (some ⟨bk, 0, none⟩) 8 8 by rw [htl]] at hsrc
          have hstT := Lib.hid (show opnS b n (i + 1) = some (out ++ toB G2, mm + t2) by rw [hstH.out]; rfl)
          clear hbd htl htB hbk
          go_wp2_with (at_builtin; refine wp_app w2.heap.size rfl (.tmp 98) (.tmp 99) elemU8 rfl (.slice Eo out.length co) out (toB G2) _ rfl rfl hsrc hVs9 hss hbdH.out.1 hbdH.out.2 ?_; intro A4 c4 w4 hv4 hg4 hat4)
          have hU4 := hUs.grownOwn hVs9 (Nat.le_refl _) hg4
          go_roundw
          case measure => simp [intOf]; omega
          case rel => exact ⟨i + 1, _, _, _, by omega, by go_num, rfl, rfl, Lib.hid hstT.out, hv4, hU4⟩
    · obtain rfl : i = n := by omega
      obtain ⟨Eo, co, rfl, hco⟩ := hV.form
      have hcom := hV.capMax
      have hlen := (opn_len i out mm ho.out).1
      have hml : m ≤ out.length := by omega
      have hAo := hV.cells bc_len (by omega)
      have hAd := arg_drop hAo m co hco hml
      have hzr := Lib.hid (show (rl, rm, re) = (if (out.drop m).any (· != 0) then ([], 0, 2) else (out.take m, mm, 0)) by rw [hz.out, ho.out])
      have hVt := hV.take bc_len (k := m) hml
      have hDl : (out.drop m).length = out.length - m := List.length_drop
      have hDmx : out.length - m ≤ 100000 := by omega
      clear hz ho hlen hblH hn2 hlt hi
      obtain ⟨D, hD⟩ : ∃ D, D = out.drop m := ⟨_, rfl⟩
      rw [← hD] at hAd hzr hDl
      obtain ⟨A2, hA2'⟩ : ∃ A2, A2 = (if co = m then Eo else Eo.map (·.add (m * 1))) := ⟨_, rfl⟩
      rw [← hA2'] at hAd
      obtain ⟨w5, rfl⟩ : ∃ x, x = wr := ⟨wr, rfl⟩
      have hm2 : m ≤ co := by omega
      by_cases hcm2 : co = m
      · rw [if_pos hcm2] at hA2'
        subst hA2'
        go_wp2_with fail
        go_loopw [106] (fun s106 wr => ∃ j : Nat, j ≤ out.length - m ∧ s106 = .int .i64 (j : Int) ∧ Hid (∀ k (hk : k < D.length), k < j → D[k] = 0) ∧ wr = w5) (fun s106 _ => out.length - m - (intOf s106).toNat)
        case atStart => exact ⟨0, by omega, by go_num, Lib.hid (fun k hk h => absurd h (by omega)), rfl⟩
        case round =>
          obtain ⟨j, hj, rfl, hno, rfl⟩ := hrel
          by_cases hlt : j < out.length - m
          · exact absurd hlt (by omega)
          · obtain rfl : j = out.length - m := by omega
            have hzf : (rl, rm, re) = (out.take m, mm, (0 : Int)) := by rw [hzr.out, any_no (fun k hk => hno.out k hk (by omega))]; rfl
            simp only [Prod.mk.injEq] at hzf
            obtain ⟨hr1, hr2, hr3⟩ := hzf
            rw [hcm2] at hVt
            have hxt := hx.upd0 hU
            have hxll := hxlH.out
            have htl : (out.take m).length = m := by rw [List.length_take]; omega
            rw [hr1] at hxt hxll
            rw [htl] at hxll
            subst hxll hr2 hr3
            have c1 := fun w' (u : Upd Nil _ w') => cvS ((hxt.drew.cells bc_len (by omega)).upd u) cx
            have c2 := fun w' (u : Upd Nil _ w') => cvS ((hVt.drew.cells bc_len (by omega)).upd u) xl
            rw [htl] at c1 c2
            clear hno hzr hxt hx hxlH hVt htl hr1
            generalize (⟨(List.take xl out).toArray⟩ : ByteArray) = bs at *
            go_upto_region 28 with fail
            refine wp_region_lex Nil [0, 1, 2, 3, 4, 5, 6, 7, 8, 9, 10, 11, 12, 13, 14, 15, 16] (by kernel_rfl) (by kernel_rfl) rfl (by kernel_rfl) ?_
            simp only [inOrder, List.filterMap_cons, List.filterMap_nil, List.getElem?_cons_zero, List.getElem?_cons_succ]
            try simp only [Act.put, List.setIfInBounds_toArray, List.set_cons_zero, List.set_cons_succ]
            repeat
              first
              | (refine lex_pure (v := ?_) rfl rfl ?_ ?_
                 rotate_left
                 · intro w' hU'
                   go_simp
                   try with_reducible rfl
                 try simp only [Act.put, List.setIfInBounds_toArray, List.set_cons_zero, List.set_cons_succ])
              | (refine lex_skip rfl ?_
                 try simp only [Act.put, List.setIfInBounds_toArray, List.set_cons_zero, List.set_cons_succ])
            refine lex_done ?_
            go_wp2_with fail
            go_ret
            exact ⟨rfl, (hU2.tr hU).drew⟩
      · rw [if_neg hcm2] at hA2'
        obtain ⟨ge, oe, rfl⟩ := sl_some hV (by omega)
        rw [Option.map_some, Nat.mul_one, Addr.add_lit] at hA2'
        subst hA2'
        go_wp2_with fail
        go_loopw [106] (fun s106 wr => ∃ j : Nat, j ≤ out.length - m ∧ s106 = .int .i64 (j : Int) ∧ Hid (∀ k (hk : k < D.length), k < j → D[k] = 0) ∧ wr = w5) (fun s106 _ => out.length - m - (intOf s106).toNat)
        case atStart => exact ⟨0, by omega, by go_num, Lib.hid (fun k hk h => absurd h (by omega)), rfl⟩
        case round =>
          obtain ⟨j, hj, rfl, hno, rfl⟩ := hrel
          by_cases hlt : j < out.length - m
          · have hI : (j : Int) < ((out.length - m : Nat) : Int) := by omega
            have hjD : j < D.length := by omega
            obtain ⟨g2, o2, eA, hg2, y0⟩ := byte_at hAd hjD
            obtain ⟨rfl, rfl⟩ : ge = g2 ∧ oe + m = o2 := by injection eA with eA; injection eA with e1 e2; exact ⟨e1, e2⟩
            by_cases hx0 : D[j] = 0
            · have hnx := Lib.hid (show ∀ k (hk : k < D.length), k < j + 1 → D[k] = 0 by
                intro k hk h
                rcases Nat.lt_or_ge k j with h3 | h3
                · exact hno.out k hk h3
                · obtain rfl : k = j := by omega
                  exact hx0)
              have hxI := u8_zero.1 hx0
              clear hno hx0 hzr hx hxlH hVt
              generalize (D[j].toNat : Int) = xi at *
              subst hxI
              go_wp2_with fail
              go_roundw
              case measure => simp [intOf]; omega
              case rel => exact ⟨j + 1, by omega, by go_num, Lib.hid hnx.out, trivial⟩
            · have hzf : (rl, rm, re) = (([] : List UInt8), (0 : Int), (2 : Int)) := by rw [hzr.out, any_yes hjD hx0]; rfl
              simp only [Prod.mk.injEq] at hzf
              have hx1 : xl = 0 := by rw [hxlH.out, hzf.1]; rfl
              have hm0 := hzf.2.1
              have he0 := hzf.2.2
              have hxI : ¬ (D[j].toNat : Int) = 0 := fun h => hx0 (u8_zero.2 h)
              clear hno hx0 hzr hzf hx hxlH hVt
              subst hx1 hm0 he0
              generalize (D[j].toNat : Int) = xi at *
              go_wp2_with fail
              go_ret
              exact ⟨rfl, hU2.tr hU⟩
          · obtain rfl : j = out.length - m := by omega
            have hzf : (rl, rm, re) = (out.take m, mm, (0 : Int)) := by rw [hzr.out, any_no (fun k hk => hno.out k hk (by omega))]; rfl
            simp only [Prod.mk.injEq] at hzf
            obtain ⟨hr1, hr2, hr3⟩ := hzf
            have hxt := hx.upd0 hU
            have hxll := hxlH.out
            have htl : (out.take m).length = m := by rw [List.length_take]; omega
            rw [hr1] at hxt hxll
            rw [htl] at hxll
            subst hxll hr2 hr3
            have c1 := fun w' (u : Upd Nil _ w') => cvS ((hxt.drew.cells bc_len (by omega)).upd u) cx
            have c2 := fun w' (u : Upd Nil _ w') => cvS ((hVt.drew.cells bc_len (by omega)).upd u) co
            rw [htl] at c1 c2
            clear hno hzr hxt hx hxlH hVt htl hr1
            generalize (⟨(List.take xl out).toArray⟩ : ByteArray) = bs at *
            go_upto_region 28 with fail
            refine wp_region_lex Nil [0, 1, 2, 3, 4, 5, 6, 7, 8, 9, 10, 11, 12, 13, 14, 15, 16] (by kernel_rfl) (by kernel_rfl) rfl (by kernel_rfl) ?_
            simp only [inOrder, List.filterMap_cons, List.filterMap_nil, List.getElem?_cons_zero, List.getElem?_cons_succ]
            try simp only [Act.put, List.setIfInBounds_toArray, List.set_cons_zero, List.set_cons_succ]
            repeat
              first
              | (refine lex_pure (v := ?_) rfl rfl ?_ ?_
                 rotate_left
                 · intro w' hU'
                   go_simp
                   try with_reducible rfl
                 try simp only [Act.put, List.setIfInBounds_toArray, List.set_cons_zero, List.set_cons_succ])
              | (refine lex_skip rfl ?_
                 try simp only [Act.put, List.setIfInBounds_toArray, List.set_cons_zero, List.set_cons_succ])
            refine lex_done ?_
            go_wp2_with fail
            go_ret
            exact ⟨rfl, (hU2.tr hU).drew⟩
end Go.Proofs.YtenhimaclecdpaaDoor.Ecc
