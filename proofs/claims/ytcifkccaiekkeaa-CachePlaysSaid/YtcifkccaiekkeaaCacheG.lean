/-
  The cache: Keys, Forget. Conditions: what the cache holds.
-/
import Derived.Test.YtcifkccaiekkeaaCacheF
import Derived.LaidEqlPtr
import Derived.Lib.Builder
namespace Go.Proofs.Ytcifkccaiekkeaa.Cache
open Go.RowKit Go.Proofs.Ytcifkccaiekkeaa.Base Go.Maps Go.Proofs.Ytcifkccaiekkeaa.Ints
set_option linter.unusedVariables false
set_option linter.unusedSimpArgs false
def kc2 (k : Key) : List Value := [.int .i64 k.1, .int .i64 k.2]
theorem kc2_len (x : Key) : (kc2 x).length = 2 := rfl
theorem kc2_one (x : Key) : ∀ u ∈ kc2 x, u.oneCell' = true := by
  intro u hu
  have hu : u = .int .i64 x.1 ∨ u = .int .i64 x.2 := by simpa [kc2] using hu
  rcases hu with rfl | rfl <;> rfl
theorem elemK : Elem Try.prog 43 47 (.agg #[.int .i64 0, .int .i64 0]) 2 16 kc2 := ⟨Try.underlying43, by kernel_rfl, rfl, by omega, kc2_len, kc2_one⟩
def lenOf : Value → Nat
  | .slice _ n _ => n
  | _ => 0
theorem neq_other {P : Program} (w : World) {tp te : TypeId} {j : TypeInfo} {a b : Addr} {ca cb : Array Value} {ta tb : TypeId} (hp : P.underlying tp = some (.pointer te)) (hte : P.info? te = some j) (hsz : j.size ≠ 0)
    (hne : a ≠ b) (ha : w.heap[a.block]? = some (.cells ca ta (0, 0))) (hb : w.heap[b.block]? = some (.cells cb tb (0, 0))) :
    (binOp .neq tp (.pointer (some a)) (.pointer (some b))).run P w = .ok (.bool true) w := by
  have h : ∀ d : Nat, (Op.equalIn (d + 1) tp (.pointer (some a)) (.pointer (some b))).run P w = .ok false w := fun d => by
    simp [Op.equalIn, run_underlying hp, sizeOf, typeInfo, hte, hsz, run_sameAddr_other w hne ha hb]
  simp only [binOp]
  simp [Op.equal, Op.maxDepth, h 9999]
theorem node_info : ∃ j, Try.prog.info? 121 = some j ∧ j.size ≠ 0 := by
  have h : (Try.prog.info? 121).map (fun i => i.size) = some 5 := by kernel_rfl
  obtain ⟨ti, h1, h2⟩ := Option.map_eq_some_iff.1 h
  exact ⟨ti, h1, by omega⟩
def nxt (c : Nat) (l : List Nat) : Nat := match l with
  | [] => c
  | b :: _ => b
theorem chain_next {f g : Nat → Nat} : ∀ (ns : List Nat) (a e : Nat), Chain f g a ns e → f a = nxt e ns ∧ ∀ i (h : i < ns.length), f ns[i] = nxt e (ns.drop (i + 1))
  | [], a, e, h => ⟨h.1, fun i hi => absurd hi (by simp)⟩
  | n :: ns, a, e, h => by
    have ⟨h1, h2⟩ := chain_next ns n e h.2
    refine ⟨h.1.1, fun i hi => ?_⟩
    cases i with
    | zero => simpa using h1
    | succ i => simpa using h2 i (by simpa using hi)
theorem kc2_cell {w : World} {A : Option Addr} {l : List Key} (h : Arg w A 2 kc2 l) {i : Nat} (hi : i < l.length) : ∃ g o, A = some ⟨g, o, none⟩ ∧ g < w.heap.size ∧ w.cell? ⟨g, o + i * 2, none⟩ = some (.int .i64 l[i].1) ∧ w.cell? ⟨g, o + i * 2 + 1, none⟩ = some (.int .i64 l[i].2) := by
  rcases h with h | ⟨b, off, h1, h2, h3⟩
  · subst h; simp at hi
  · exact ⟨b, off, h1, h2, by simpa [kc2] using h3 i hi 0 (by omega), by simpa [kc2] using h3 i hi 1 (by omega)⟩
theorem keys_nil (w : World) : Calls Try.prog 34 #[.pointer none] w fun e w' => e = .returned (.slice none 0 0) ∧ w = w' := by
  go_enter Try.func34, Try.ntmps34
  go_wp2_with fail
  go_ret
  exact ⟨rfl, rfl⟩
def KeysR (l : List Key) (w : World) (e : Ending) (w' : World) : Prop := ∃ v, e = .returned v ∧ Sl w' w.heap.size 47 2 kc2 v l ∧ Upd Nil w w'
set_option maxRecDepth 100000 in
theorem keys {F : Nat → Prop} {w : World} {c M : Nat} {room : Int} {ns : List Nat} {K : Nat → Key} {V : Nat → ByteArray} {f g : Nat → Nat} {h m : Int} (x : Cx F w c M room ns K V f g h m) (hl : ns.length ≤ 1000000) :
    Calls Try.prog 34 #[.pointer (some ⟨c, 0, none⟩)] w (KeysR (ns.map K) w) := by
  have hn : Sl w w.heap.size 47 2 kc2 (.slice none 0 0) ((ns.take 0).map K) := Sl.nil _ _ _ _ _
  have hcn := chain_next ns c c x.rg.ch
  have c6 := blk_cell x.rg.cb 6
  simp only [List.getElem?_toArray, List.getElem?_cons_zero, List.getElem?_cons_succ] at c6
  rw [hcn.1] at c6
  go_enter Try.func34, Try.ntmps34
  go_wp2_with fail
  go_loopw [3, 4] (fun s3 s4 wr => ∃ (i : Nat) (U : Value), i ≤ ns.length ∧ s3 = U ∧ s4 = pv c (nxt c (ns.drop i)) ∧ Sl wr w.heap.size 47 2 kc2 U ((ns.take i).map K) ∧ Upd Nil w wr) (fun s3 _ _ => ns.length - lenOf s3)
  case atStart => exact ⟨0, _, by omega, rfl, rfl, hn, Upd.refl _ _⟩
  case round =>
    clear hn
    obtain ⟨i, U, hi, rfl, rfl, hV, hU⟩ := hrel
    have hsz := hU.size
    by_cases hlt : i < ns.length
    · have hm : ns[i] ∈ ns := List.getElem_mem hlt
      have hbc : ns[i] ≠ c := fun e => x.rg.nc (by rw [← e]; exact hm)
      have hnx := hcn.2 i hlt
      have hb := hU.blk (x.rg.nb _ hm) (fun h => h)
      have hmt : (ns.take (i + 1)).map K = (ns.take i).map K ++ [K ns[i]] := by rw [List.take_succ_eq_append_getElem hlt, List.map_append]; rfl
      have hhd : nxt c (ns.drop i) = ns[i] := by rw [List.drop_eq_getElem_cons hlt]; rfl
      rw [hhd, show pv c ns[i] = .pointer (some ⟨ns[i], 0, none⟩) by unfold pv; rw [off_n hbc]]
      obtain ⟨A, cA, hform, _⟩ := hV.form
      have hlen : ((ns.take i).map K).length = i := by simp; omega
      have hmt2 := Lib.hid hmt
      have hnx2 := Lib.hid hnx
      clear hmt hnx hhd hm
      generalize ns[i] = b at *
      obtain ⟨j, hj1, hj2⟩ := node_info
      have hcmp := neq_other wr Try.underlying119 hj1 hj2 (a := ⟨b, 0, none⟩) (b := ⟨c, 2, none⟩) (fun e => hbc (by cases e)) hb (hU.blk x.rg.cb (fun h => h))
      clear hj1 hj2
      have y0 := blk_cell hb 0
      have y1 := blk_cell hb 1
      have y4 := blk_cell hb 4
      simp only [List.getElem?_toArray, List.getElem?_cons_zero, List.getElem?_cons_succ] at y0 y1 y4
      rw [hnx2.out] at y4
      rw [hform] at hV ⊢
      generalize (ns.take i).map K = l at *
      have hlenH := Lib.hid hlen
      have hll : l.length ≤ 1000000 := by omega
      clear hlen hform
      go_wp2_with (at_builtin; refine wp_app1 w.heap.size rfl (.tmp 23) (.tmp 28) elemK rfl wr (K b) (by rfl) _ l rfl (by simp [Act.eval]) hV hsz (by omega) (by unfold maxLen; omega) ?_; intro A1 c1 w1 hv1 hg1 hat; have z4 := blk_cell (blk_grown hb hg1 (fun k hk => hV.ne hb (by decide) k hk)) 4; simp only [List.getElem?_toArray, List.getElem?_cons_zero, List.getElem?_cons_succ] at z4; rw [hnx2.out] at z4)
      go_roundw
      case measure =>
        have := hlenH.out
        show ns.length - lenOf (.slice A1 (l.length + 1) c1) < ns.length - lenOf (.slice A l.length cA)
        simp only [lenOf]
        omega
      case rel => exact ⟨i + 1, _, by omega, rfl, rfl, by rw [hmt2.out]; exact hv1, hU.grownOwn hV (Nat.le_refl _) hg1⟩
    · obtain rfl : i = ns.length := by omega
      rw [List.drop_length, show pv c (nxt c []) = .pointer (some ⟨c, 2, none⟩) by unfold pv nxt; rw [off_c]]
      rw [List.take_length] at hV
      obtain ⟨j, hj1, hj2⟩ := node_info
      have hcmp := Lib.run_neq_ptr_same wr ⟨c, 2, none⟩ Try.underlying119 hj1
      clear hj1 hj2
      go_wp2_with fail
      go_ret
      exact ⟨_, rfl, hV, hU⟩
def nsI (ns : List Nat) (K : Nat → Key) (t : Int) (i : Nat) : List Nat := (ns.take i).filter (fun b => (K b).1 != t) ++ ns.drop i
def cntI (ns : List Nat) (K : Nat → Key) (t : Int) (i : Nat) : Nat := ((ns.take i).filter (fun b => (K b).1 == t)).length
theorem forget_rows (ns : List Nat) (K : Nat → Key) (V : Nat → ByteArray) (t : Int) : forgetT (rowsOf ns K V) t = rowsOf (ns.filter (fun b => (K b).1 != t)) K V := by
  unfold forgetT rowsOf
  rw [List.filter_map]
  rfl
theorem nsI_keys {ns : List Nat} {K : Nat → Key} (h : (ns.map K).Nodup) (t : Int) (i : Nat) : ((nsI ns K t i).map K).Nodup := by
  refine h.sublist (List.Sublist.map _ ?_)
  unfold nsI
  conv => rhs; rw [← List.take_append_drop i ns]
  exact List.Sublist.append List.filter_sublist (List.Sublist.refl _)
theorem nsI_hit {ns : List Nat} {K : Nat → Key} (h : (ns.map K).Nodup) {t : Int} {i : Nat} (hi : i < ns.length) (ht : (K ns[i]).1 = t) : (nsI ns K t i).filter (fun b => K b != K ns[i]) = nsI ns K t (i + 1) ∧ cntI ns K t (i + 1) = cntI ns K t i + 1 ∧ ns[i] ∈ nsI ns K t i := by
  have h2 := nsI_keys h t i
  unfold nsI at *
  rw [List.drop_eq_getElem_cons hi] at h2 ⊢
  refine ⟨?_, ?_, List.mem_append.2 (.inr List.mem_cons_self)⟩
  · rw [drop_split h2, List.take_succ_eq_append_getElem hi, List.filter_append]
    simp [ht]
  · unfold cntI
    rw [List.take_succ_eq_append_getElem hi, List.filter_append]
    simp [ht]
theorem nsI_miss {ns : List Nat} {K : Nat → Key} {t : Int} {i : Nat} (hi : i < ns.length) (ht : (K ns[i]).1 ≠ t) : nsI ns K t i = nsI ns K t (i + 1) ∧ cntI ns K t (i + 1) = cntI ns K t i := by
  unfold nsI cntI
  rw [List.drop_eq_getElem_cons hi, List.take_succ_eq_append_getElem hi, List.filter_append, List.filter_append]
  simp [ht]
theorem find_mem {l : List Nat} {K : Nat → Key} {V : Nat → ByteArray} {b : Nat} (h : b ∈ l) : (findK (rowsOf l K V) (K b)).isSome = true := by
  rw [find_rows]
  cases e : l.find? (fun x => K x == K b) with
  | some n => rfl
  | none => exact absurd (List.find?_eq_none.1 e b h) (by simp)
theorem forget_nil (t : Int) (w : World) : Calls Try.prog 35 #[.pointer none, .int .i64 t] w fun e w' => e = .returned (.int .i64 0) ∧ w = w' := by
  go_enter Try.func35, Try.ntmps35
  go_wp2_with fail
  refine (keys_nil w).mono ?_
  rintro e w' ⟨rfl, rfl⟩
  go_wp2_with fail
  go_loopw [5, 11] (fun s5 s11 wr => s5 = .int .i64 0 ∧ s11 = .int .i64 0 ∧ w = wr) (fun _ _ _ => 0)
  case atStart => exact ⟨rfl, rfl, rfl⟩
  case round =>
    obtain ⟨rfl, rfl, rfl⟩ := hrel
    go_wp2_with fail
    go_ret
    exact ⟨rfl, rfl⟩
def ForgetR (F : Nat → Prop) (w : World) (c M : Nat) (room : Int) (ns : List Nat) (K : Nat → Key) (V : Nat → ByteArray) (h m : Int) (t : Int) (e : Ending) (w' : World) : Prop :=
  e = .returned (.int .i64 ((ns.filter (fun b => (K b).1 == t)).length : Nat)) ∧ ∃ f g, Cx F w' c M room (ns.filter (fun b => (K b).1 != t)) K V f g h m ∧ Upd F w w'
set_option maxRecDepth 100000 in
theorem forget {F : Nat → Prop} {w : World} {c M : Nat} {room : Int} {ns : List Nat} {K : Nat → Key} {V : Nat → ByteArray} {f g : Nat → Nat} {h m : Int} (x : Cx F w c M room ns K V f g h m) (hF : ∀ y, F y → y < w.heap.size) (hl : ns.length ≤ 1000000) (t : Int) :
    Calls Try.prog 35 #[.pointer (some ⟨c, 0, none⟩), .int .i64 t] w (ForgetR F w c M room ns K V h m t) := by
  go_enter Try.func35, Try.ntmps35
  go_wp2_with fail
  refine (keys x hl).mono ?_
  rintro e w1 ⟨v, rfl, hv, u1⟩
  obtain ⟨A, cA, rfl, _⟩ := hv.form
  have hA := hv.cells kc2_len (by omega)
  have x1 := x.upd0 u1
  have hFv : ∀ k, (Value.slice A (ns.map K).length cA).ownBlock = some k → ¬ F k := fun k hk e => by
    have := hF k e
    have := (hv.typed k hk).1
    omega
  have hkk : (ns.map K).length = ns.length := by simp
  rw [hkk] at hv hFv ⊢
  go_wp2_with fail
  go_loopw [5, 11] (fun s5 s11 wr => ∃ (i : Nat) (f g : Nat → Nat), i ≤ ns.length ∧ s11 = .int .i64 (i : Int) ∧ s5 = .int .i64 (cntI ns K t i : Int) ∧ Cx F wr c M room (nsI ns K t i) K V f g h m ∧ Sl wr w.heap.size 47 2 kc2 (.slice A ns.length cA) (ns.map K) ∧ Upd F w wr) (fun _ s11 _ => ns.length - (intOf s11).toNat)
  case atStart => exact ⟨0, f, g, by omega, rfl, rfl, x1, hv, u1.mono (fun _ h => h.elim)⟩
  case round =>
    clear x1 hv hA
    obtain ⟨i, f2, g2, hi, rfl, rfl, x2, hv, hU⟩ := hrel
    by_cases hlt : i < ns.length
    · have hwk := x.wk _ (List.getElem_mem hlt)
      have hky := x.ky
      obtain ⟨gA, oA, rfl, _, y0, y1⟩ := kc2_cell (hv.cells kc2_len (by omega)) (i := i) (by simp; exact hlt)
      rw [List.getElem_map] at y0 y1
      by_cases ht : (K ns[i]).1 = t
      · obtain ⟨q1, q2, q3⟩ := nsI_hit hky hlt ht
        have hfm := find_mem (K := K) (V := V) q3
        have q1H := Lib.hid (And.intro q1 q2)
        clear q1 q2 q3
        have x3 := x2.upd0 ((Upd.refl Nil wr).alloc (.cells #[.int .i64 (K ns[i]).1, .int .i64 (K ns[i]).2] 47))
        have u3 := (Upd.refl Nil wr).alloc (.cells #[.int .i64 (K ns[i]).1, .int .i64 (K ns[i]).2] 47)
        have hx := blk_new wr (.cells #[.int .i64 (K ns[i]).1, .int .i64 (K ns[i]).2] 47)
        generalize K ns[i] = k at *
        obtain ⟨t1, p1⟩ := k
        have ht : t1 = t := ht
        subst ht
        simp only at y0 y1 x3 u3 hx hwk hfm
        have hcb : cntI ns K t1 i ≤ ns.length := by
          unfold cntI
          refine Nat.le_trans (List.length_filter_le _ _) ?_
          simp
          omega
        have hw1 := wr1 (x := (cntI ns K t1 i : Int) + 1) (by omega)
        have hw2 := wr2 (x := (cntI ns K t1 i : Int) + 1) (by omega)
        have hcH := Lib.hid hcb
        clear hcb
        go_wp2_with fail
        refine (drop x3 (t1, p1) hwk).mono ?_
        rintro e w4 ⟨rfl, f4, g4, x4, u4⟩
        rw [hfm]
        go_wp2_with fail
        go_roundw
        case measure => simp [intOf]; omega
        case rel =>
          rw [q1H.out.1] at x4
          refine ⟨i + 1, f4, g4, by omega, by go_num, ?_, x4, (hv.upd0 u3).upd u4 hFv, (hU.tr (u3.mono (fun _ h => h.elim))).tr u4⟩
          rw [q1H.out.2]
          go_num
      · obtain ⟨q1, q2⟩ := nsI_miss (K := K) hlt ht
        have q1H := Lib.hid (And.intro q1 q2)
        clear q1 q2
        have u3 := (Upd.refl Nil wr).alloc (.cells #[.int .i64 (K ns[i]).1, .int .i64 (K ns[i]).2] 47)
        generalize K ns[i] = k at *
        go_wp2_with fail
        go_roundw
        case measure => simp [intOf]; omega
        case rel =>
          rw [q1H.out.1] at x2
          refine ⟨i + 1, f2, g2, by omega, by go_num, ?_, x2.upd0 u3, hv.upd0 u3, hU.tr (u3.mono (fun _ h => h.elim))⟩
          rw [q1H.out.2]
    · obtain rfl : i = ns.length := by omega
      go_wp2_with fail
      go_ret
      have e1 : nsI ns K t ns.length = ns.filter (fun b => (K b).1 != t) := by unfold nsI; simp
      have e2 : cntI ns K t ns.length = (ns.filter (fun b => (K b).1 == t)).length := by unfold cntI; simp
      rw [e1] at x2
      refine ⟨by rw [← e2]; rfl, f2, g2, x2, hU⟩
end Go.Proofs.Ytcifkccaiekkeaa.Cache
