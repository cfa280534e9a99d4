/-
  The reference's Turned. Conditions: none.
-/
import Derived.Test.YtenhimaclecdpaaDoorEccM
import Derived.Test.YtenhimaclecdpaaDoorLexT
import Derived.Laws.CopyOwn
namespace Go.Proofs.YtenhimaclecdpaaDoor.Ecc
open Go.RowKit Go.Proofs.YtenhimaclecdpaaDoor.Base
set_option linter.unusedVariables false
set_option linter.unusedSimpArgs false
set_option maxRecDepth 100000
/-- A bit of a row of bytes turned. -/
def turnL (L : List UInt8) (i : Nat) : List UInt8 := L.set (i / 8) (L.getD (i / 8) 0 ^^^ UInt8.ofNat (2 ^ (i % 8)))
theorem turn_len (L : List UInt8) (i : Nat) : (turnL L i).length = L.length := by unfold turnL; rw [List.length_set]
def TurnR (L : List UInt8) (w : World) (e : Ending) (w' : World) : Prop := e = .returned (.tuple #[.agg (gC ((L.take 8).map UInt8.toNat)), .int .u8 ((L.getD 8 0).toNat : Nat)]) ∧ Upd Nil w w'
def cs8 (Q : List UInt8) : List Value := (Q.take 8).map fun x => Value.int .u8 (x.toNat : Nat)
theorem cs8_len {Q : List UInt8} (h : Q.length = 9) : (cs8 Q).length = Nat.min 9 8 := by
  unfold cs8
  rw [List.length_map, List.length_take, h]
  rfl
theorem cs8_one (Q : List UInt8) : ∀ v ∈ cs8 Q, v.oneCell' = true := by
  intro v hv
  obtain ⟨x, _, rfl⟩ := List.mem_map.1 hv
  rfl
theorem cs8_row {Q : List UInt8} (h : Q.length = 9) : ((gC z8).toList.take 0 ++ (cs8 Q ++ (gC z8).toList.drop (0 + (cs8 Q).length))).toArray = gC ((Q.take 8).map UInt8.toNat) := by
  rw [cs8_len h, List.take_zero, List.nil_append]
  have e : (gC z8).toList.drop (0 + Nat.min 9 8) = [] := by decide
  rw [e, List.append_nil]
  unfold cs8 gC
  simp
  rfl
theorem cs8_src {w : World} {g o : Nat} {Q : List UInt8} (hQ : Q.length = 9) (h : Arg w (some ⟨g, o, none⟩) 1 bc Q) : ∀ j v, (cs8 Q)[j]? = some v → w.cell? ((⟨g, o, none⟩ : Addr).add j) = some v := by
  intro j v hv
  rcases h with h | ⟨g', o', e, _, h3⟩
  · rw [h] at hQ; simp at hQ
  · injection e with e
    injection e with e1 e2
    subst e1 e2
    have hj : j < (cs8 Q).length := (List.getElem?_eq_some_iff.1 hv).1
    rw [cs8_len hQ] at hj
    have hj : j < 8 := hj
    have hjQ : j < Q.length := by rw [hQ]; exact Nat.lt_trans hj (by decide)
    have h4 := h3 j hjQ 0 (by decide)
    rw [Nat.mul_one, Nat.add_zero] at h4
    rw [Addr.add_lit, h4, ← hv]
    unfold cs8 bc
    rw [List.getElem?_map, List.getElem?_take, if_pos hj, List.getElem?_eq_getElem hjQ]
    rfl
set_option maxHeartbeats 8000000 in
theorem turnedC (G : List UInt8) (hG : G.length = 8) (c : UInt8) (i : Nat) (hi : i < 72) (w : World) : Calls Tryd.prog 12 #[.agg (gC (G.map UInt8.toNat)), .int .u8 (c.toNat : Nat), .int .i64 i] w (TurnR (turnL (G ++ [c]) i) w) := by
  have hgs : (gC (G.map UInt8.toNat)).size = 8 := by rw [gC_size, List.length_map, hG]
  have hb0 : ((w.alloc (.cells (gC (G.map UInt8.toNat)) 22)).alloc (.cells (gC z8) 22)).heap[w.heap.size]? = some (.cells (gC (G.map UInt8.toNat)) 22 (0, 0)) := heap_alloc2_old w _ _
  have hr0 : ((w.alloc (.cells (gC (G.map UInt8.toNat)) 22)).alloc (.cells (gC z8) 22)).heap[w.heap.size + 1]? = some (.cells (gC z8) 22 (0, 0)) := heap_alloc2_new w _ _
  have hU0 := ((Upd.refl Nil w).alloc (.cells (gC (G.map UInt8.toNat)) 22)).alloc (.cells (gC z8) 22)
  have hgC := gC_bc G
  generalize hcc : gC (G.map UInt8.toNat) = cG at *
  clear hcc
  go_enter Tryd.func12, Tryd.ntmps12
  go_upto_region 1 with fail
  obtain ⟨W0, hW0⟩ : ∃ W, W = (w.alloc (.cells cG 22)).alloc (.cells (gC z8) 22) := ⟨_, rfl⟩
  rw [← hW0] at hb0 hr0 hU0
  rw [show (w.alloc (.cells cG 22)).alloc (.cells #[.int .u8 0, .int .u8 0, .int .u8 0, .int .u8 0, .int .u8 0, .int .u8 0, .int .u8 0, .int .u8 0] 22) = W0 by rw [hW0]; rfl]
  clear hW0
  have hS0 := Sl.zero W0 w.heap.size 5 1 bc #[] hU0.size
  have hU1 := hU0.alloc (.cells #[] 5)
  have hs1 := hU1.size
  have hb1 := blk_alloc hb0 (.cells #[] 5)
  have hr1 := blk_alloc hr0 (.cells #[] 5)
  have hsrc := Src.ofArg (P := Tryd.prog) (tx := 31) ⟨_, elemU8.ht⟩ bc_len bc_one (arg_lit bc_len hb1 hgC) 8
  rw [show Value.slice (some ⟨w.heap.size, 0, none⟩) G.length 8 = Value.slice (some ⟨w.heap.size, 0, none⟩) 8 8 by rw [hG]] at hsrc
  have hbd : (([] : List UInt8).length + G.length) * 1 ≤ 140737488355328 ∧ ([] : List UInt8).length + G.length ≤ maxLen := by rw [hG]; unfold maxLen; simp
  have hbd2 : (G.length + 1) * 1 ≤ 140737488355328 ∧ G.length + 1 ≤ maxLen := by rw [hG]; unfold maxLen; simp
  have hbdH := Lib.hid hbd
  have hbd2H := Lib.hid hbd2
  have hGH := Lib.hid hG
  have hGl : ([] : List UInt8).length + G.length = G.length := by simp
  clear hbd hbd2 hG hb1
  go_upto_region 2 with (at_builtin; first
    | (refine wp_app w.heap.size rfl (.tmp 10) (.tmp 11) elemU8 rfl (.slice (some ⟨W0.heap.size, 0, none⟩) 0 0) [] G _ rfl rfl hsrc hS0 hs1 hbdH.out.1 hbdH.out.2 ?_; intro A1 c1 w1 hv1 hg1 hat1; rw [hGl, List.nil_append] at hv1; have hU2 := hU1.grownOwn hS0 (Nat.le_refl _) hg1; have hs2 := hU2.size; have hr2 := blk_grown hr1 hg1 (fun k hk => hS0.ne hr1 (by decide) k hk))
    | (refine wp_app1 w.heap.size rfl (.tmp 12) (.tmp 14) elemU8 rfl w1 c (by rfl) (.slice A1 G.length c1) G (by simp [Act.eval]) (by simp [Act.eval]) hv1 hs2 hbd2H.out.1 hbd2H.out.2 ?_; intro A3 c3 w3 hv3 hg3 hat3))
  have hU3 := hU2.grownOwn hv1 (Nat.le_refl _) hg3
  have hr3 := blk_grown hr2 hg3 (fun k hk => hv1.ne hr2 (by decide) k hk)
  have h9 : G.length + 1 = 9 := by rw [hGH.out]
  rw [h9] at hv3
  rw [h9]
  have hLl : (G ++ [c]).length = 9 := by rw [List.length_append, hGH.out]; rfl
  clear hS0 hU1 hs1 hr1 hsrc hbdH hbd2H hGl hv1 hg1 hat1 hU2 hs2 hr2 hg3 hat3 hU0 hb0 hr0 hgC hgs h9 hGH
  generalize G ++ [c] = L at *
  obtain ⟨q, hqe⟩ : ∃ q, q = i / 8 := ⟨_, rfl⟩
  obtain ⟨m, hme⟩ : ∃ m, m = i % 8 := ⟨_, rfl⟩
  have hq : q < 9 := by omega
  have hm : m < 8 := by omega
  have hq8 : Int.tdiv (i : Int) 8 = (q : Int) := by rw [Int.tdiv_eq_ediv_of_nonneg (by omega)]; omega
  have hm8 : Int.tmod (i : Int) 8 = (m : Int) := by rw [Int.tmod_eq_emod_of_nonneg (by omega)]; omega
  have hw8 : IntKind.i64.wrap (q : Int) = (q : Int) := by rw [IntKind.wrap_i64]; omega
  have hw9 : IntKind.i64.wrap (m : Int) = (m : Int) := by rw [IntKind.wrap_i64]; omega
  have hsh := sh_u8 ⟨m, hm⟩
  simp only at hsh
  have htl := turn_len L i
  have htv : turnL L i = L.set q (L.getD q 0 ^^^ UInt8.ofNat (2 ^ m)) := by rw [hqe, hme]; rfl
  have hgd : L.getD (q) 0 = L[q] := by rw [List.getD_eq_getElem?_getD, List.getElem?_eq_getElem (by omega)]; rfl
  rw [hgd] at htv
  have hxv : bits BinOp.xor IntKind.u8 (L[q].toNat : Int) (IntKind.u8.wrap ((2 : Int) ^ m)) = ((L[q] ^^^ UInt8.ofNat (2 ^ m)).toNat : Int) := by
    rw [show IntKind.u8.wrap ((2 : Int) ^ m) = (2 : Int) ^ m % 256 by simp [IntKind.wrap, IntKind.bits, IntKind.signed], hsh.1, xor_u8 _ _ L[q].toNat_lt hsh.2, UInt8.toNat_xor, UInt8.toNat_ofNat', Nat.mod_eq_of_lt hsh.2]
  obtain ⟨g, o, rfl, hg, hc⟩ := (hv3.cells bc_len (by omega)).resolve_left (fun e => by rw [e] at hLl; simp at hLl)
  obtain ⟨hbg, cur, hcur⟩ := hv3.typed g rfl
  have y0 := hc (q) (by omega) 0 (by omega)
  simp only [bc, List.getElem?_cons_zero, Nat.add_zero, Nat.mul_one] at y0
  have hs4 := Sl.set1 (f := fun x : UInt8 => .int .u8 (x.toNat : Int)) hv3 (i := q) (by omega) (L[q] ^^^ UInt8.ofNat (2 ^ (m)))
  rw [← htv] at hs4
  have z0 := blk_frozen hcur (o + q)
  have hgo : ¬ g = w.heap.size + 1 := fun e => by subst e; rw [hcur] at hr3; injection hr3 with hr3; injection hr3 with _ hr3; exact absurd hr3 (by decide)
  have hr4 : ∀ v, (w3.setCell ⟨g, o + q, none⟩ v).heap[w.heap.size + 1]? = some (.cells (gC z8) 22 (0, 0)) := fun v => blk_other hr3 (p := ⟨g, o + q, none⟩) (fun e => hgo e.symm) v
  have hqI : (q : Int) < 9 := by omega
  have hob := L[q].toNat_lt
  generalize L[q] ^^^ UInt8.ofNat (2 ^ (m)) = nb at *
  generalize L[q].toNat = ob at *
  generalize hQ : turnL L i = Q at *
  clear hc hgd htv hQ hsh hqe hme
  have yc : ∀ w', Upd Nil w3.drew w' → w'.cell? ⟨g, o + q, none⟩ = some (.int .u8 (ob : Int)) := fun w' u => by rw [u.cell (p := ⟨g, o + q, none⟩) hg (fun h => h)]; exact y0
  clear y0
  refine wp_region_lexT (Upd (Only g)) (Upd Nil) (fun _ => Upd.refl _ _) (fun _ _ _ h k => h.tr k) (fun _ => Upd.refl _ _) (fun _ _ _ h k => h.tr k) (fun _ _ h => h.mono (fun _ h => h.elim)) [(0, true), (1, true), (2, true), (3, true), (4, true), (5, true), (6, true), (7, true), (8, true), (9, true), (10, true), (11, true), (12, true), (13, false)] (by kernel_rfl) (by kernel_rfl) rfl (by kernel_rfl) (by kernel_rfl) ?_
  simp only [inOrderT, List.filterMap_cons, List.filterMap_nil, List.getElem?_cons_zero, List.getElem?_cons_succ, Option.map_some]
  try simp only [Act.put, List.setIfInBounds_toArray, List.set_cons_zero, List.set_cons_succ]
  repeat
    first
    | (refine lexT_sure (v := ?_) rfl rfl ?_ ?_
       rotate_left
       · intro w' hU'
         go_simp
         try with_reducible rfl
       try simp only [Act.put, List.setIfInBounds_toArray, List.set_cons_zero, List.set_cons_succ])
    | (refine lexT_pure (v := ?_) rfl rfl ?_ ?_
       rotate_left
       · intro w' hU'
         go_simp
         try with_reducible rfl
       try simp only [Act.put, List.setIfInBounds_toArray, List.set_cons_zero, List.set_cons_succ])
    | (refine lexT_skip rfl ?_
       try simp only [Act.put, List.setIfInBounds_toArray, List.set_cons_zero, List.set_cons_succ])
  have yd := yc _ (Upd.refl Nil w3.drew)
  have zd : w3.drew.frozen? ⟨g, o + q, none⟩ = false := z0
  refine lexT_store (w' := w3.drew.setCell ⟨g, o + q, none⟩ (.int .u8 (nb.toNat : Int))) rfl rfl rfl (by go_simp) ((Upd.refl (Only g) w3.drew).set1 _) ?_
  try simp only [Act.put, List.setIfInBounds_toArray, List.set_cons_zero, List.set_cons_succ]
  repeat
    first
    | (refine lexT_sure (v := ?_) rfl rfl ?_ ?_
       rotate_left
       · intro w' hU'
         go_simp
         try with_reducible rfl
       try simp only [Act.put, List.setIfInBounds_toArray, List.set_cons_zero, List.set_cons_succ])
    | (refine lexT_pure (v := ?_) rfl rfl ?_ ?_
       rotate_left
       · intro w' hU'
         go_simp
         try with_reducible rfl
       try simp only [Act.put, List.setIfInBounds_toArray, List.set_cons_zero, List.set_cons_succ])
    | (refine lexT_skip rfl ?_
       try simp only [Act.put, List.setIfInBounds_toArray, List.set_cons_zero, List.set_cons_succ])
  refine lexT_done ?_
  have hs5 : Sl (w3.drew.setCell ⟨g, o + q, none⟩ (.int .u8 (nb.toNat : Int))) w.heap.size 5 1 bc (.slice (some ⟨g, o, none⟩) 9 c3) Q := hs4.drew
  have hr5 : (w3.drew.setCell ⟨g, o + q, none⟩ (.int .u8 (nb.toNat : Int))).heap[w.heap.size + 1]? = some (.cells (gC z8) 22 (0, 0)) := hr4 _
  have hU5 := hU3.drew.setNew (i := o + q) hbg (.int .u8 (nb.toNat : Int))
  clear hs4 hr4 yc yd zd z0 hU3 hv3 hcur hr3 hxv hob hg
  generalize w3.drew.setCell ⟨g, o + q, none⟩ (.int .u8 (nb.toNat : Int)) = w5 at *
  have hzz := blk_new w5 (.cells (gC z8) 22)
  have hs6 := hs5.alloc (.cells (gC z8) 22)
  have hr6 := blk_alloc hr5 (.cells (gC z8) 22)
  have hU6 := hU5.alloc (.cells (gC z8) 22)
  have hQl : Q.length = 9 := by rw [htl, hLl]
  have hne : ¬ w5.heap.size = w.heap.size + 1 := fun e => by have := blk_lt hr5; omega
  clear hs5 hr5 htl hLl
  have hrow := cs8_row hQl
  have hsrc := cs8_src hQl (hs6.cells bc_len (by omega))
  have hclen := cs8_len hQl
  have hcone := cs8_one Q
  have hfit : 0 + (cs8 Q).length ≤ (gC z8).size := by rw [hclen, gC_size]; decide
  have hzg := setRow_heap _ w5.heap.size _ (gC ((Q.take 8).map UInt8.toNat)) _ _ hzz
  have hUg := updRow hU6 (.inr hU5.size) (gC ((Q.take 8).map UInt8.toNat))
  have hrg := (setRow_other _ w5.heap.size (w.heap.size + 1) (gC ((Q.take 8).map UInt8.toNat)) (fun e => hne e.symm)).trans hr6
  have hgw : g ≠ w5.heap.size := fun e => by
    obtain ⟨_, cc, hcc⟩ := hs6.typed g rfl
    rw [e, hzz] at hcc
    injection hcc with hcc
    injection hcc with _ hcc
    exact absurd hcc (by decide)
  have hsg := hs6.upd (updRow (Upd.refl (Only w5.heap.size) _) (.inl rfl) (gC ((Q.take 8).map UInt8.toNat))) (fun k hk e => by
    have hk : g = k := by simpa [Value.ownBlock] using hk
    have e : k = w5.heap.size := e
    exact hgw (hk.trans e))
  go_upto_region 4 with fail
  obtain ⟨W6, hW6⟩ : ∃ W, W = w5.alloc (.cells (gC z8) 22) := ⟨_, rfl⟩
  rw [← hW6] at hzz hs6 hr6 hU6 hsrc hzg hUg hrg hsg
  rw [show w5.alloc (.cells #[.int .u8 0, .int .u8 0, .int .u8 0, .int .u8 0, .int .u8 0, .int .u8 0, .int .u8 0, .int .u8 0] 22) = W6 by rw [hW6]; rfl]
  clear hW6
  generalize w5.heap.size = gz at *
  go_upto_region 5 with (refine wpList_copy_own rfl (.tmp 29) (.tmp 30) 31 31 rfl 5 Tryd.underlying31 (by kernel_rfl) gz 0 8 8 ⟨g, o, none⟩ 9 c3 rfl rfl (gC z8) 22 hzz (cs8 Q) hclen hsrc hfit hcone ?_)
  rw [hrow]
  have hX8 : ((Q.take 8).map UInt8.toNat).length = 8 := by rw [List.length_map, List.length_take, hQl]; rfl
  have hXs : (gC ((Q.take 8).map UInt8.toNat)).size = 8 := by rw [gC_size, hX8]
  have hXi : (Tryd.prog.info? 22).map (·.size) = some (gC ((Q.take 8).map UInt8.toNat)).size := by rw [hXs]; kernel_rfl
  have hXz : (gC z8).size = (gC ((Q.take 8).map UInt8.toNat)).size := by rw [hXs, gC_size]; rfl
  have hXo := gC_one ((Q.take 8).map UInt8.toNat)
  have hfin : TurnR Q w = TurnR Q w := rfl
  generalize hXX : gC ((Q.take 8).map UInt8.toNat) = X at *
  have hXH := Lib.hid hXX
  generalize W6.setRow gz X = wg at *
  clear hXX hrow hsrc hclen hcone hfit hzz hs6 hr6 hU6 hfin hXs hX8
  have hq8' : Q.getD 8 0 = Q[8] := by rw [List.getD_eq_getElem?_getD, List.getElem?_eq_getElem (by omega)]; rfl
  have hqH := Lib.hid hq8'
  obtain ⟨g', o', eg, hgl, h3⟩ := (hsg.cells bc_len (by omega)).resolve_left (fun e => by rw [e] at hQl; simp at hQl)
  injection eg with eg
  injection eg with eg1 eg2
  subst eg1 eg2
  have y8 := h3 8 (by omega) 0 (by omega)
  simp only [bc, List.getElem?_cons_zero, Nat.add_zero, Nat.mul_one] at y8
  generalize Q[8] = xq at *
  have hgr : ¬ g = w.heap.size + 1 := hgo
  have yc8 : ∀ w', Upd (Only (w.heap.size + 1)) wg.drew w' → w'.cell? ⟨g, o + 8, none⟩ = some (.int .u8 (xq.toNat : Int)) := fun w' u => by rw [u.cell (p := ⟨g, o + 8, none⟩) hgl (fun h => hgr h)]; exact y8
  have hld : ∀ w', Upd Nil wg.drew w' → (loadVar 22 ⟨gz, 0, none⟩).run Tryd.prog w' = .ok (.agg X) w' := fun w' u => run_loadVar_row w' gz 22 22 X (0, 0) _ (u.blk (blk_drew hzg) (fun h => h)) Tryd.underlying22 rfl hXi
  clear hq8' h3 hsg
  refine wp_region_lexT (Upd (Only (w.heap.size + 1))) (Upd Nil) (fun _ => Upd.refl _ _) (fun _ _ _ h k => h.tr k) (fun _ => Upd.refl _ _) (fun _ _ _ h k => h.tr k) (fun _ _ h => h.mono (fun _ h => h.elim)) [(0, true), (1, false), (2, false), (3, false), (4, false), (5, false)] (by kernel_rfl) (by kernel_rfl) rfl (by kernel_rfl) (by kernel_rfl) ?_
  simp only [inOrderT, List.filterMap_cons, List.filterMap_nil, List.getElem?_cons_zero, List.getElem?_cons_succ, Option.map_some]
  try simp only [Act.put, List.setIfInBounds_toArray, List.set_cons_zero, List.set_cons_succ]
  repeat
    first
    | (refine lexT_sure (v := ?_) rfl rfl ?_ ?_
       rotate_left
       · intro w' hU'
         go_simp
         try with_reducible rfl
       try simp only [Act.put, List.setIfInBounds_toArray, List.set_cons_zero, List.set_cons_succ])
    | (refine lexT_pure (v := ?_) rfl rfl ?_ ?_
       rotate_left
       · intro w' hU'
         go_simp
         try with_reducible rfl
       try simp only [Act.put, List.setIfInBounds_toArray, List.set_cons_zero, List.set_cons_succ])
    | (refine lexT_skip rfl ?_
       try simp only [Act.put, List.setIfInBounds_toArray, List.set_cons_zero, List.set_cons_succ])
  refine lexT_sure (v := .agg X) rfl rfl (fun w' u => by simp [execOp, Act.eval, Instr.loadAt, Instr.sureAddr, hld w' u]) ?_
  try simp only [Act.put, List.setIfInBounds_toArray, List.set_cons_zero, List.set_cons_succ]
  repeat
    first
    | (refine lexT_sure (v := ?_) rfl rfl ?_ ?_
       rotate_left
       · intro w' hU'
         go_simp
         try with_reducible rfl
       try simp only [Act.put, List.setIfInBounds_toArray, List.set_cons_zero, List.set_cons_succ])
    | (refine lexT_pure (v := ?_) rfl rfl ?_ ?_
       rotate_left
       · intro w' hU'
         go_simp
         try with_reducible rfl
       try simp only [Act.put, List.setIfInBounds_toArray, List.set_cons_zero, List.set_cons_succ])
    | (refine lexT_skip rfl ?_
       try simp only [Act.put, List.setIfInBounds_toArray, List.set_cons_zero, List.set_cons_succ])
  have hst := run_storeVar_row (P := Tryd.prog) wg.drew (w.heap.size + 1) 22 22 (gC z8) X (blk_drew hrg) hXi hXz hXo
  refine lexT_store (w' := wg.drew.setRow (w.heap.size + 1) X) rfl rfl rfl (by simp [execOp, Act.eval, Instr.storeAt, Instr.sureAddr, hst]) (updRow (Upd.refl (Only (w.heap.size + 1)) wg.drew) (.inl rfl) X) ?_
  try simp only [Act.put, List.setIfInBounds_toArray, List.set_cons_zero, List.set_cons_succ]
  repeat
    first
    | (refine lexT_sure (v := ?_) rfl rfl ?_ ?_
       rotate_left
       · intro w' hU'
         go_simp
         try with_reducible rfl
       try simp only [Act.put, List.setIfInBounds_toArray, List.set_cons_zero, List.set_cons_succ])
    | (refine lexT_pure (v := ?_) rfl rfl ?_ ?_
       rotate_left
       · intro w' hU'
         go_simp
         try with_reducible rfl
       try simp only [Act.put, List.setIfInBounds_toArray, List.set_cons_zero, List.set_cons_succ])
    | (refine lexT_skip rfl ?_
       try simp only [Act.put, List.setIfInBounds_toArray, List.set_cons_zero, List.set_cons_succ])
  refine lexT_done ?_
  have hbz := setRow_heap _ (w.heap.size + 1) _ X _ _ (blk_drew hrg)
  have hUz := updRow hUg.drew (.inr (Nat.le_succ w.heap.size)) X
  generalize wg.drew.setRow (w.heap.size + 1) X = wz at *
  clear hld yc8 y8 hst hrg hzg
  go_wp2_with fail
  exact bodyPost_ret (v := .tuple #[.agg X, .int .u8 (xq.toNat : Int)]) (by simp [results, Tryd.results12, asAddr, run_loadVar_row _ _ 22 22 _ (0, 0) _ hbz Tryd.underlying22 rfl hXi]) rfl ⟨by rw [hXH.out, hqH.out], hUz⟩
end Go.Proofs.YtenhimaclecdpaaDoor.Ecc
