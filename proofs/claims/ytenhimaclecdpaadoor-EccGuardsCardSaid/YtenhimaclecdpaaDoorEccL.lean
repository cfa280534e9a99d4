/-
  What is guarded is opened. Conditions: what the argument's slice holds; the table of Go's library is as it was laid.
-/
import Derived.Test.YtenhimaclecdpaaDoorEccK
import Derived.Test.YtenhimaclecdpaaDoorLexF
import Derived.Test.YtenhimaclecdpaaDoorLexA
namespace Go.Proofs.YtenhimaclecdpaaDoor.Ecc
open Go.RowKit Go.Proofs.YtenhimaclecdpaaDoor.Base
set_option linter.unusedVariables false
set_option linter.unusedSimpArgs false
set_option maxRecDepth 100000
theorem z8_ok : z8.length = 8 ∧ ∀ a ∈ z8, a < 256 := by decide
theorem flip_ok {G : List Nat} (hG : G.length = 8) (hb : ∀ a ∈ G, a < 256) (i : Nat) : (flipG G i).length = 8 ∧ ∀ a ∈ flipG G i, a < 256 := by
  unfold flipG
  refine ⟨by rw [List.length_set, hG], fun a ha => ?_⟩
  rcases List.mem_or_eq_of_mem_set ha with h | h
  · exact hb a h
  · subst h
    refine Nat.xor_lt_two_pow (n := 8) ?_ ?_
    · rw [List.getD_eq_getElem?_getD]
      cases h : G[i / 8]? with
      | none => simp
      | some x => exact hb x (List.mem_of_getElem? h)
    · exact Nat.pow_lt_pow_right (by omega) (by omega)
theorem mend_ok {G : List Nat} (hG : G.length = 8) (hb : ∀ a ∈ G, a < 256) (c : Nat) : (mendV G c).1.length = 8 ∧ (∀ a ∈ (mendV G c).1, a < 256) ∧ 0 ≤ (mendV G c).2.1 ∧ (mendV G c).2.1 ≤ 1 := by
  unfold mendV
  split
  · exact ⟨z8_ok.1, z8_ok.2, by simp, by simp⟩
  · exact ⟨hG, hb, by simp, by simp⟩
  · rename_i i _
    simp only
    split
    · have := flip_ok hG hb i
      exact ⟨this.1, this.2, by omega, by omega⟩
    · exact ⟨hG, hb, by omega, by omega⟩
def toB (l : List Nat) : List UInt8 := l.map UInt8.ofNat
theorem gC_toB {l : List Nat} (h : ∀ a ∈ l, a < 256) : (gC l).toList = (toB l).flatMap bc := by
  unfold gC toB
  simp only
  induction l with
  | nil => rfl
  | cons x l ih =>
    have h1 := h x (by simp)
    have := ih (fun a ha => h a (by simp [ha]))
    simp only [List.map_cons, List.flatMap_cons, bc, List.singleton_append, List.cons.injEq, UInt8.toNat_ofNat', Nat.mod_eq_of_lt h1, true_and]
    exact this
/-- What the first groups are opened to. -/
def opnS (b : List UInt8) (n : Nat) : Nat → Option (List UInt8 × Int)
  | 0 => some ([], 0)
  | i + 1 => match opnS b n i with
    | none => none
    | some (out, m) => if (mendV (grp b i) (b.getD (8 * n + i) 0).toNat).2.2 then some (out ++ toB (mendV (grp b i) (b.getD (8 * n + i) 0).toNat).1, m + (mendV (grp b i) (b.getD (8 * n + i) 0).toNat).2.1) else none
theorem opn_len {b : List UInt8} {n : Nat} : ∀ i out m, opnS b n i = some (out, m) → out.length = 8 * i ∧ 0 ≤ m ∧ m ≤ i
  | 0, out, m, h => by
    unfold opnS at h
    injection h with h
    injection h with h1 h2
    subst h1 h2
    simp
  | i + 1, out, m, h => by
    unfold opnS at h
    cases e : opnS b n i with
    | none => rw [e] at h; cases h
    | some p =>
      obtain ⟨o, k⟩ := p
      have ih := opn_len i o k e
      rw [e] at h
      simp only at h
      have hm := mend_ok (grp_len b i) (grp_lt b i) (b.getD (8 * n + i) 0).toNat
      split at h
      · injection h with h
        injection h with h1 h2
        subst h1 h2
        rw [List.length_append, ih.1]
        unfold toB
        rw [List.length_map, hm.1]
        omega
      · cases h
theorem opn_none {b : List UInt8} {n : Nat} {i : Nat} (h : opnS b n i = none) : ∀ d, opnS b n (i + d) = none
  | 0 => h
  | d + 1 => by
    show opnS b n ((i + d) + 1) = none
    unfold opnS
    rw [opn_none h d]
/-- What is opened, how many bits were turned back, or why not. -/
def openV (b : List UInt8) (size : Int) : List UInt8 × Int × Int :=
  if size < 0 ∨ (b.length : Int) < size ∨ b.length ≠ (size.toNat + 7) / 8 * 9 then ([], 0, 1)
  else match opnS b ((size.toNat + 7) / 8) ((size.toNat + 7) / 8) with
    | none => ([], 0, 14)
    | some (out, m) => if (out.drop size.toNat).any (· != 0) then ([], 0, 2) else (out.take size.toNat, m, 0)
def OpenR (r : List UInt8 × Int × Int) (w : World) (e : Ending) (w' : World) : Prop := ∃ v, e = .returned (.tuple #[v, .int .i64 r.2.1, .int .i64 r.2.2]) ∧ Sl w' w.heap.size 5 1 bc v r.1 ∧ Upd Nil w w'
theorem byte_at {w : World} {A : Option Addr} {b : List UInt8} (h : Arg w A 1 bc b) {i : Nat} (hi : i < b.length) : ∃ g o, A = some ⟨g, o, none⟩ ∧ g < w.heap.size ∧ w.cell? ⟨g, o + i, none⟩ = some (.int .u8 (b[i].toNat : Nat)) := by
  rcases h with h | ⟨g, o, h1, h2, h3⟩
  · subst h; simp at hi
  · exact ⟨g, o, h1, h2, by simpa [bc] using h3 i hi 0 (by omega)⟩
theorem sl_some {w : World} {base e sz : Nat} {α : Type} {f : α → List Value} {A : Option Addr} {n c : Nat} {l : List α} (h : Sl w base e sz f (.slice A n c) l) (hc : c ≠ 0) : ∃ g o, A = some ⟨g, o, none⟩ := by
  rcases h.2 with ⟨_, e⟩ | ⟨g, o, cap, cur, e, _⟩
  · injection e with _ _ e
    exact absurd e hc
  · injection e with e
    exact ⟨g, o, e⟩
theorem any_yes {D : List UInt8} {j : Nat} (hj : j < D.length) (h : D[j] ≠ 0) : D.any (· != 0) = true := by
  rw [List.any_eq_true]
  exact ⟨D[j], List.getElem_mem hj, by simpa using h⟩
theorem any_no {D : List UInt8} (h : ∀ j (hj : j < D.length), D[j] = 0) : D.any (· != 0) = false := by
  rw [List.any_eq_false]
  intro x hx
  obtain ⟨j, hj, rfl⟩ := List.getElem_of_mem hx
  simpa using h j hj
theorem u8_zero {x : UInt8} : x = 0 ↔ (x.toNat : Int) = 0 := by
  constructor
  · rintro rfl; rfl
  · intro h
    have h : x.toNat = 0 := by omega
    exact UInt8.toNat_inj.1 (by rw [h]; rfl)
set_option maxHeartbeats 8000000 in
theorem openC (A : Option Addr) (c : Nat) (b : List UInt8) (size : Int) (w : World) (hA : Arg w A 1 bc b) (hc : b.length ≤ c) (hcm : c ≤ 9223372036854775807) (hb : b.length ≤ 1000) (hT : Tab w) :
    Calls Tryd.prog 14 #[.slice A b.length c, .int .i64 size] w (OpenR (openV b size) w) := by
  generalize hr : openV b size = r at *
  have hrH := Lib.hid hr
  clear hr
  by_cases h0 : size < 0
  · have hz := Lib.hid (show r = ([], 0, 1) by rw [← hrH.out]; unfold openV; rw [if_pos (.inl h0)])
    clear hrH
    go_enter Tryd.func14, Tryd.ntmps14
    go_wp2_with fail
    exact bodyPost_ret (v := .tuple #[.slice none 0 0, .int .i64 0, .int .i64 1]) (by simp [results, Tryd.results14, go_sem]) rfl ⟨_, by rw [hz.out], by rw [hz.out]; exact Sl.nil _ _ _ _ _, Upd.refl _ _⟩
  obtain ⟨m, rfl⟩ := Int.eq_ofNat_of_zero_le (Int.not_lt.1 h0)
  by_cases h1 : (b.length : Int) < (m : Int)
  · have hz := Lib.hid (show r = ([], 0, 1) by rw [← hrH.out]; unfold openV; rw [if_pos (.inr (.inl h1))])
    clear hrH
    go_enter Tryd.func14, Tryd.ntmps14
    go_wp2_with fail
    exact bodyPost_ret (v := .tuple #[.slice none 0 0, .int .i64 0, .int .i64 1]) (by simp [results, Tryd.results14, go_sem]) rfl ⟨_, by rw [hz.out], by rw [hz.out]; exact Sl.nil _ _ _ _ _, Upd.refl _ _⟩
  have k1 := groupsC m (by omega)
  obtain ⟨n, hn⟩ : ∃ n, n = (m + 7) / 8 := ⟨_, rfl⟩
  by_cases h2 : b.length ≠ n * 9
  · have hz := Lib.hid (show r = ([], 0, 1) by rw [← hrH.out]; unfold openV; rw [if_pos (.inr (.inr (by rw [Int.toNat_natCast, ← hn]; exact h2)))])
    have h2I : ¬ (b.length : Int) = (n : Int) * 9 := by omega
    rw [← hn] at k1
    have hn3 : n ≤ 126 := by omega
    clear hrH hn h2
    go_enter Tryd.func14, Tryd.ntmps14
    go_wp2_with fail
    refine (k1 _).mono ?_
    rintro e w' ⟨rfl, rfl⟩
    go_wp2_with fail
    exact bodyPost_ret (v := .tuple #[.slice none 0 0, .int .i64 0, .int .i64 1]) (by simp [results, Tryd.results14, go_sem]) rfl ⟨_, by rw [hz.out], by rw [hz.out]; exact Sl.nil _ _ _ _ _, Upd.refl _ _⟩
  have h2 : b.length = n * 9 := by omega
  have h2I : (b.length : Int) = (n : Int) * 9 := by omega
  have hz : Hid (r = match opnS b n n with
    | none => ([], 0, 14)
    | some (out, mm) => if (out.drop m).any (· != 0) then ([], 0, 2) else (out.take m, mm, 0)) := by
    show r = _
    rw [← hrH.out]
    unfold openV
    rw [if_neg (by rw [Int.toNat_natCast, ← hn]; omega), Int.toNat_natCast, ← hn]
  have hm8 : m ≤ 8 * n := by omega
  have hn2 : n ≤ 112 := by omega
  rw [← hn] at k1
  have hblH := Lib.hid h2
  clear hrH hn h2
  go_enter Tryd.func14, Tryd.ntmps14
  go_wp2_with fail
  refine (k1 _).mono ?_
  rintro e w' ⟨rfl, rfl⟩
  go_wp2_with fail
  refine (k1 _).mono ?_
  rintro e w' ⟨rfl, rfl⟩
  go_wp2_with fail
  clear k1 h2I h1
  obtain ⟨w, rfl⟩ : ∃ x, x = w' := ⟨w', rfl⟩
  go_loopw [8, 9, 35] (fun s8 s9 s35 wr => ∃ (i : Nat) (V : Value) (out : List UInt8) (mm : Int), i ≤ n ∧ s35 = .int .i64 (i : Int) ∧ s8 = .int .i64 mm ∧ s9 = V ∧ Hid (opnS b n i = some (out, mm)) ∧ Sl wr w.heap.size 5 1 bc V out ∧ Upd Nil w wr) (fun _ _ s35 _ => n - (intOf s35).toNat)
  case atStart => exact ⟨0, _, [], 0, by omega, rfl, rfl, rfl, Lib.hid rfl, Sl.nil _ _ _ _ _, Upd.refl _ _⟩
  case round =>
    obtain ⟨i, V, out, mm, hi, rfl, rfl, rfl, ho, hV, hU⟩ := hrel
    by_cases hlt : i < n
    · have hI : (i : Int) < (n : Int) := by omega
      obtain ⟨Eo, co, rfl, hco⟩ := hV.form
      have hbl := hblH.out
      have kg := fun w' (u : Upd Nil wr w') => groupC A c b i w' ((hA.upd hU).upd u) hc hcm (by omega) (by omega)
      have hidx : 8 * n + i < b.length := by omega
      obtain ⟨gb, ob, rfl, hgb, hcell⟩ : ∃ g o, A = some ⟨g, o, none⟩ ∧ g < wr.heap.size ∧ wr.cell? ⟨g, o + (8 * n + i), none⟩ = some (.int .u8 (b[8 * n + i].toNat : Nat)) := by
        rcases hA.upd hU with h | ⟨g, o, h1, h2, h3⟩
        · rw [h] at hidx; simp at hidx
        · exact ⟨g, o, h1, h2, by simpa [bc] using h3 (8 * n + i) hidx 0 (by omega)⟩
      have hgd : b.getD (8 * n + i) 0 = b[8 * n + i] := by rw [List.getD_eq_getElem?_getD, List.getElem?_eq_getElem hidx]; rfl
      have hstep : opnS b n (i + 1) = match opnS b n i with
        | none => none
        | some (out, m) => if (mendV (grp b i) (b.getD (8 * n + i) 0).toNat).2.2 then some (out ++ toB (mendV (grp b i) (b.getD (8 * n + i) 0).toNat).1, m + (mendV (grp b i) (b.getD (8 * n + i) 0).toNat).2.1) else none := rfl
      rw [ho.out, hgd] at hstep
      simp only at hstep
      have hok := mend_ok (grp_len b i) (grp_lt b i) (b[8 * n + i].toNat)
      have km := fun w' (u : Tab w') => mendC (grp b i) (grp_len b i) (grp_lt b i) b[8 * n + i].toNat b[8 * n + i].toNat_lt w' u
      unfold MendR at km
      have hlen := opn_len i out mm ho.out
      have hstH := Lib.hid hstep
      clear hstep hgd ho
      generalize grp b i = G at *
      generalize b[8 * n + i].toNat = x at *
      generalize mendV G x = mv at *
      obtain ⟨G2, t2, ok2⟩ := mv
      simp only at hok km hstH
      have hokH := Lib.hid hok
      have hlenH := Lib.hid hlen
      clear hok hlen hbl
      have hTr := hT.upd hU
      have hw1 : IntKind.i64.wrap ((n : Int) * 8) = (n : Int) * 8 := by rw [IntKind.wrap_i64]; omega
      have hw2 : IntKind.i64.wrap ((n : Int) * 8 + (i : Int)) = ((8 * n + i : Nat) : Int) := by rw [IntKind.wrap_i64]; omega
      generalize hk : 8 * n + i = k at *
      have hkI : (k : Int) < (b.length : Int) := by omega
      go_upto_region 8 with fail
      have hcl : ∀ w', Upd (From wr.heap.size) wr.drew w' → w'.cell? ⟨gb, ob + k, none⟩ = some (.int .u8 x) := fun w' u => by rw [u.cell (p := ⟨gb, ob + k, none⟩) hgb (fun h => by have h : wr.heap.size ≤ gb := h; omega)]; exact hcell
      refine wp_region_lexF (From wr.heap.size) ((.step 0 (.step 1 (.step 3 (.step 4 (.step 5 (.step 6 (.step 7 (.step 8 (.step 9 (.fork 2 (.fork 10 (.step 11 (.step 12 (.step 13 (.step 14 (.step 15 (.step 16 (.step 17 (.step 18 .done)))))))) 15 (.step 10 (.step 11 (.step 12 (.step 13 (.step 14 (.step 16 (.step 17 (.step 18 .done))))))))) 15 (.step 2 (.step 10 (.step 11 (.step 12 (.step 13 (.step 14 (.step 16 (.step 17 (.step 18 .done)))))))))))))))))))) (by kernel_rfl) (by kernel_rfl) rfl (by kernel_rfl) ?_
      simp only [toO, List.getElem?_cons_zero, List.getElem?_cons_succ]
      try simp only [Act.put, List.setIfInBounds_toArray, List.set_cons_zero, List.set_cons_succ]
      repeat
        first
        | (refine lexF_pure (v := ?_) rfl rfl ?_ ?_
           rotate_left
           · intro w' hU'
             go_simp
             try with_reducible rfl
           try simp only [Act.put, List.setIfInBounds_toArray, List.set_cons_zero, List.set_cons_succ])
        | (refine lexF_skip rfl ?_
           try simp only [Act.put, List.setIfInBounds_toArray, List.set_cons_zero, List.set_cons_succ])
      have hG2 := hokH.out.1
      have hlt2 := hokH.out.2.1
      have hgs2 : (gC G2).size = 8 := by rw [gC_size, hG2]
      have hi2 : (Tryd.prog.info? 22).map (·.size) = some (gC G2).size := by rw [hgs2]; kernel_rfl
      have hsz2 : (gC z8).size = (gC G2).size := by rw [hgs2, gC_size]; rfl
      have hone2 := gC_one G2
      have htB := gC_toB hlt2
      have htl : (toB G2).length = 8 := by unfold toB; rw [List.length_map, hG2]
      have hFm : ∀ {a b : World}, Upd Nil a b → Upd (From wr.heap.size) a b := fun u => u.mono (fun _ h => h.elim)
      clear hgs2 hlt2 hG2
      refine lexF_fork ?_ ?_
      · refine lexF_fn (f := 25) (args := _) rfl rfl (by go_simp) ((kg _ ((Upd.refl Nil wr).drew)).mono ?_)
        rintro e w2 ⟨rfl, hU2⟩
        have hV2 := ((Upd.refl Nil wr).drew).tr hU2
        refine ⟨_, rfl, hFm hU2, ?_⟩
        have hcl2 := fun w' u => hcl w' ((hFm hU2).tr u)
        clear hcl
        try simp only [Act.put, List.setIfInBounds_toArray, List.set_cons_zero, List.set_cons_succ]
        repeat
          first
          | (refine lexF_pure (v := ?_) rfl rfl ?_ ?_
             rotate_left
             · intro w' hU'
               go_simp
               try with_reducible rfl
             try simp only [Act.put, List.setIfInBounds_toArray, List.set_cons_zero, List.set_cons_succ])
          | (refine lexF_skip rfl ?_
             try simp only [Act.put, List.setIfInBounds_toArray, List.set_cons_zero, List.set_cons_succ])
        refine lexF_fork ?_ ?_
        · refine lexF_fn (f := 8) (args := _) rfl rfl (by go_simp) ((km _ (hTr.upd hV2)).mono ?_)
          rintro e w3 ⟨rfl, hU3⟩
          have hV3 := hV2.tr hU3
          refine ⟨_, rfl, hFm hU3, ?_⟩
          try simp only [Act.put, List.setIfInBounds_toArray, List.set_cons_zero, List.set_cons_succ]
          repeat
            first
            | (refine lexF_pure (v := ?_) rfl rfl ?_ ?_
               rotate_left
               · intro w' hU'
                 go_simp
                 try with_reducible rfl
               try simp only [Act.put, List.setIfInBounds_toArray, List.set_cons_zero, List.set_cons_succ])
            | (refine lexF_skip rfl ?_
               try simp only [Act.put, List.setIfInBounds_toArray, List.set_cons_zero, List.set_cons_succ])
          refine lexF_step ?_
          refine (lexF_run (v := .pointer (some ⟨w3.heap.size, 0, none⟩)) (w' := w3.alloc (.cells #[.int .u8 0, .int .u8 0, .int .u8 0, .int .u8 0, .int .u8 0, .int .u8 0, .int .u8 0, .int .u8 0] 22)) rfl rfl (by go_simp) ((Upd.refl _ _).alloc _) ?_)
          have hzb : (w3.alloc (.cells #[.int .u8 0, .int .u8 0, .int .u8 0, .int .u8 0, .int .u8 0, .int .u8 0, .int .u8 0, .int .u8 0] 22)).heap[w3.heap.size]? = some (.cells (gC z8) 22 (0, 0)) := blk_new w3 (.cells (gC z8) 22)
          have hVa := hV3.alloc (.cells #[.int .u8 0, .int .u8 0, .int .u8 0, .int .u8 0, .int .u8 0, .int .u8 0, .int .u8 0, .int .u8 0] 22)
          have hge : wr.heap.size ≤ w3.heap.size := hV3.size
          generalize w3.alloc (.cells #[.int .u8 0, .int .u8 0, .int .u8 0, .int .u8 0, .int .u8 0, .int .u8 0, .int .u8 0, .int .u8 0] 22) = wa at *
          generalize w3.heap.size = bk at *
          try simp only [Act.put, List.setIfInBounds_toArray, List.set_cons_zero, List.set_cons_succ]
          repeat
            first
            | (refine lexF_pure (v := ?_) rfl rfl ?_ ?_
               rotate_left
               · intro w' hU'
                 go_simp
                 try with_reducible rfl
               try simp only [Act.put, List.setIfInBounds_toArray, List.set_cons_zero, List.set_cons_succ])
            | (refine lexF_skip rfl ?_
               try simp only [Act.put, List.setIfInBounds_toArray, List.set_cons_zero, List.set_cons_succ])
          refine lexF_step ?_
          have hst := run_storeVar_row (P := Tryd.prog) wa bk 22 22 (gC z8) (gC G2) hzb hi2 hsz2 hone2
          refine (lexF_store (w' := wa.setRow bk (gC G2)) rfl rfl (by simp [execOp, Act.eval, Instr.storeAt, Instr.sureAddr, hst]) (updRow (Upd.refl (From wr.heap.size) wa) (.inl hge) (gC G2)) ?_)
          have hbk := setRow_heap _ bk _ (gC G2) _ _ hzb
          have hVs := updRow hVa (.inr hge) (gC G2)
          generalize wa.setRow bk (gC G2) = ws at *
          try simp only [Act.put, List.setIfInBounds_toArray, List.set_cons_zero, List.set_cons_succ]
          repeat
            first
            | (refine lexF_pure (v := ?_) rfl rfl ?_ ?_
               rotate_left
               · intro w' hU'
                 go_simp
                 try with_reducible rfl
               try simp only [Act.put, List.setIfInBounds_toArray, List.set_cons_zero, List.set_cons_succ])
            | (refine lexF_skip rfl ?_
               try simp only [Act.put, List.setIfInBounds_toArray, List.set_cons_zero, List.set_cons_succ])
          refine lexF_done ?_
          cases ok2 with
          | false =>
            have hon := opn_none (b := b) (n := n) (i := i + 1) (by rw [hstH.out]; rfl) (n - (i + 1))
            rw [show (i + 1) + (n - (i + 1)) = n by omega] at hon
            have hzf := Lib.hid (show r = ([], 0, 14) by rw [hz.out, hon])
            clear hon
            go_wp2_with fail
            exact bodyPost_ret (v := .tuple #[.slice none 0 0, .int .i64 0, .int .i64 14]) (by simp [results, Tryd.results14, go_sem]) rfl ⟨_, by rw [hzf.out], by rw [hzf.out]; exact Sl.nil _ _ _ _ _, hU.tr hVs⟩
          | true =>
            have hw3 : wrap64 (mm + t2) = mm + t2 := by have := hlenH.out; have := hokH.out.2.2; unfold wrap64; omega
            have hVs9 := hV.upd0 hVs
            have hUs := hU.tr hVs
            have hss := hUs.size
            have hbd : (out.length + (toB G2).length) * 1 ≤ 140737488355328 ∧ out.length + (toB G2).length ≤ maxLen := by have := hlenH.out.1; unfold maxLen; omega
            have hbdH := Lib.hid hbd
            have hsrc := Src.ofArg (P := Tryd.prog) (tx := 31) ⟨_, elemU8.ht⟩ bc_len bc_one (arg_lit bc_len hbk htB) 8
            rw [show Value.slice (some ⟨bk, 0, none⟩) (toB G2).length 8 = Value.slice (some ⟨bk, 0, none⟩) 8 8 by rw [htl]] at hsrc
            have hstT := Lib.hid (show opnS b n (i + 1) = some (out ++ toB G2, mm + t2) by rw [hstH.out]; rfl)
            clear hbd htl htB hbk hV
            go_wp2_with (at_builtin; refine wp_app w.heap.size rfl (.tmp 58) (.tmp 59) elemU8 rfl (.slice Eo out.length co) out (toB G2) _ rfl rfl hsrc hVs9 hss hbdH.out.1 hbdH.out.2 ?_; intro A4 c4 w4 hv4 hg4 hat4)
            have hU4 := hUs.grownOwn hVs9 (Nat.le_refl _) hg4
            go_roundw
            case measure => simp [intOf]; omega
            case rel => exact ⟨i + 1, _, _, _, by omega, by go_num, rfl, rfl, Lib.hid hstT.out, hv4, hU4⟩
        · skip
          refine (lexF_run (v := .pointer (some ⟨w2.heap.size, 0, none⟩)) (w' := w2.alloc (.cells #[.int .u8 0, .int .u8 0, .int .u8 0, .int .u8 0, .int .u8 0, .int .u8 0, .int .u8 0, .int .u8 0] 22)) rfl rfl (by go_simp) ((Upd.refl _ _).alloc _) ?_)
          have hzb : (w2.alloc (.cells #[.int .u8 0, .int .u8 0, .int .u8 0, .int .u8 0, .int .u8 0, .int .u8 0, .int .u8 0, .int .u8 0] 22)).heap[w2.heap.size]? = some (.cells (gC z8) 22 (0, 0)) := blk_new w2 (.cells (gC z8) 22)
          have hVa := hV2.alloc (.cells #[.int .u8 0, .int .u8 0, .int .u8 0, .int .u8 0, .int .u8 0, .int .u8 0, .int .u8 0, .int .u8 0] 22)
          have hge : wr.heap.size ≤ w2.heap.size := hV2.size
          generalize w2.alloc (.cells #[.int .u8 0, .int .u8 0, .int .u8 0, .int .u8 0, .int .u8 0, .int .u8 0, .int .u8 0, .int .u8 0] 22) = wa at *
          generalize w2.heap.size = bk at *
          try simp only [Act.put, List.setIfInBounds_toArray, List.set_cons_zero, List.set_cons_succ]
          repeat
            first
            | (refine lexF_pure (v := ?_) rfl rfl ?_ ?_
               rotate_left
               · intro w' hU'
                 go_simp
                 try with_reducible rfl
               try simp only [Act.put, List.setIfInBounds_toArray, List.set_cons_zero, List.set_cons_succ])
            | (refine lexF_skip rfl ?_
               try simp only [Act.put, List.setIfInBounds_toArray, List.set_cons_zero, List.set_cons_succ])
          refine lexF_step ?_
          refine lexF_fn (f := 8) (args := _) rfl rfl (by go_simp) ((km _ (hTr.upd hVa)).mono ?_)
          rintro e w3 ⟨rfl, hU3⟩
          have hV3 := hVa.tr hU3
          have hzb3 := hU3.blk hzb (fun h => h)
          refine ⟨_, rfl, hFm hU3, ?_⟩
          try simp only [Act.put, List.setIfInBounds_toArray, List.set_cons_zero, List.set_cons_succ]
          repeat
            first
            | (refine lexF_pure (v := ?_) rfl rfl ?_ ?_
               rotate_left
               · intro w' hU'
                 go_simp
                 try with_reducible rfl
               try simp only [Act.put, List.setIfInBounds_toArray, List.set_cons_zero, List.set_cons_succ])
            | (refine lexF_skip rfl ?_
               try simp only [Act.put, List.setIfInBounds_toArray, List.set_cons_zero, List.set_cons_succ])
          refine lexF_step ?_
          have hst := run_storeVar_row (P := Tryd.prog) w3 bk 22 22 (gC z8) (gC G2) hzb3 hi2 hsz2 hone2
          refine (lexF_store (w' := w3.setRow bk (gC G2)) rfl rfl (by simp [execOp, Act.eval, Instr.storeAt, Instr.sureAddr, hst]) (updRow (Upd.refl (From wr.heap.size) w3) (.inl hge) (gC G2)) ?_)
          have hbk := setRow_heap _ bk _ (gC G2) _ _ hzb3
          have hVs := updRow hV3 (.inr hge) (gC G2)
          generalize w3.setRow bk (gC G2) = ws at *
          try simp only [Act.put, List.setIfInBounds_toArray, List.set_cons_zero, List.set_cons_succ]
          repeat
            first
            | (refine lexF_pure (v := ?_) rfl rfl ?_ ?_
               rotate_left
               · intro w' hU'
                 go_simp
                 try with_reducible rfl
               try simp only [Act.put, List.setIfInBounds_toArray, List.set_cons_zero, List.set_cons_succ])
            | (refine lexF_skip rfl ?_
               try simp only [Act.put, List.setIfInBounds_toArray, List.set_cons_zero, List.set_cons_succ])
          refine lexF_done ?_
          cases ok2 with
          | false =>
            have hon := opn_none (b := b) (n := n) (i := i + 1) (by rw [hstH.out]; rfl) (n - (i + 1))
            rw [show (i + 1) + (n - (i + 1)) = n by omega] at hon
            have hzf := Lib.hid (show r = ([], 0, 14) by rw [hz.out, hon])
            clear hon
            go_wp2_with fail
            exact bodyPost_ret (v := .tuple #[.slice none 0 0, .int .i64 0, .int .i64 14]) (by simp [results, Tryd.results14, go_sem]) rfl ⟨_, by rw [hzf.out], by rw [hzf.out]; exact Sl.nil _ _ _ _ _, hU.tr hVs⟩
          | true =>
            have hw3 : wrap64 (mm + t2) = mm + t2 := by have := hlenH.out; have := hokH.out.2.2; unfold wrap64; omega
            have hVs9 := hV.upd0 hVs
            have hUs := hU.tr hVs
            have hss := hUs.size
            have hbd : (out.length + (toB G2).length) * 1 ≤ 140737488355328 ∧ out.length + (toB G2).length ≤ maxLen := by have := hlenH.out.1; unfold maxLen; omega
            have hbdH := Lib.hid hbd
            have hsrc := Src.ofArg (P := Tryd.prog) (tx := 31) ⟨_, elemU8.ht⟩ bc_len bc_one (arg_lit bc_len hbk htB) 8
            rw [show Value.slice (some ⟨bk, 0, none⟩) (toB G2).length 8 = Value.slice (some ⟨bk, 0, none⟩) 8 8 by rw [htl]] at hsrc
            have hstT := Lib.hid (show opnS b n (i + 1) = some (out ++ toB G2, mm + t2) by rw [hstH.out]; rfl)
            clear hbd htl htB hbk hV
            go_wp2_with (at_builtin; refine wp_app w.heap.size rfl (.tmp 58) (.tmp 59) elemU8 rfl (.slice Eo out.length co) out (toB G2) _ rfl rfl hsrc hVs9 hss hbdH.out.1 hbdH.out.2 ?_; intro A4 c4 w4 hv4 hg4 hat4)
            have hU4 := hUs.grownOwn hVs9 (Nat.le_refl _) hg4
            go_roundw
            case measure => simp [intOf]; omega
            case rel => exact ⟨i + 1, _, _, _, by omega, by go_num, rfl, rfl, Lib.hid hstT.out, hv4, hU4⟩
      · have hV1 := (Upd.refl Nil wr).drew
        have hcl1 : ∀ w', Upd (From wr.heap.size) wr.drew w' → w'.cell? ⟨gb, ob + k, none⟩ = some (.int .u8 x) := hcl
        refine (lexF_run (v := .pointer (some ⟨wr.drew.heap.size, 0, none⟩)) (w' := wr.drew.alloc (.cells #[.int .u8 0, .int .u8 0, .int .u8 0, .int .u8 0, .int .u8 0, .int .u8 0, .int .u8 0, .int .u8 0] 22)) rfl rfl (by go_simp) ((Upd.refl _ _).alloc _) ?_)
        have hzb : (wr.drew.alloc (.cells #[.int .u8 0, .int .u8 0, .int .u8 0, .int .u8 0, .int .u8 0, .int .u8 0, .int .u8 0, .int .u8 0] 22)).heap[wr.drew.heap.size]? = some (.cells (gC z8) 22 (0, 0)) := blk_new wr.drew (.cells (gC z8) 22)
        have hVa := hV1.alloc (.cells #[.int .u8 0, .int .u8 0, .int .u8 0, .int .u8 0, .int .u8 0, .int .u8 0, .int .u8 0, .int .u8 0] 22)
        have hge : wr.heap.size ≤ wr.drew.heap.size := hV1.size
        generalize wr.drew.alloc (.cells #[.int .u8 0, .int .u8 0, .int .u8 0, .int .u8 0, .int .u8 0, .int .u8 0, .int .u8 0, .int .u8 0] 22) = wa at *
        generalize wr.drew.heap.size = bk at *
        try simp only [Act.put, List.setIfInBounds_toArray, List.set_cons_zero, List.set_cons_succ]
        repeat
          first
          | (refine lexF_pure (v := ?_) rfl rfl ?_ ?_
             rotate_left
             · intro w' hU'
               go_simp
               try with_reducible rfl
             try simp only [Act.put, List.setIfInBounds_toArray, List.set_cons_zero, List.set_cons_succ])
          | (refine lexF_skip rfl ?_
             try simp only [Act.put, List.setIfInBounds_toArray, List.set_cons_zero, List.set_cons_succ])
        refine lexF_step ?_
        refine lexF_fn (f := 25) (args := _) rfl rfl (by go_simp) ((kg _ hVa).mono ?_)
        rintro e w2 ⟨rfl, hU2⟩
        have hV2 := hVa.tr hU2
        have hzb2 := hU2.blk hzb (fun h => h)
        refine ⟨_, rfl, hFm hU2, ?_⟩
        try simp only [Act.put, List.setIfInBounds_toArray, List.set_cons_zero, List.set_cons_succ]
        repeat
          first
          | (refine lexF_pure (v := ?_) rfl rfl ?_ ?_
             rotate_left
             · intro w' hU'
               go_simp
               try with_reducible rfl
             try simp only [Act.put, List.setIfInBounds_toArray, List.set_cons_zero, List.set_cons_succ])
          | (refine lexF_skip rfl ?_
             try simp only [Act.put, List.setIfInBounds_toArray, List.set_cons_zero, List.set_cons_succ])
        refine lexF_step ?_
        refine lexF_fn (f := 8) (args := _) rfl rfl (by go_simp) ((km _ (hTr.upd hV2)).mono ?_)
        rintro e w3 ⟨rfl, hU3⟩
        have hV3 := hV2.tr hU3
        have hzb3 := hU3.blk hzb2 (fun h => h)
        refine ⟨_, rfl, hFm hU3, ?_⟩
        try simp only [Act.put, List.setIfInBounds_toArray, List.set_cons_zero, List.set_cons_succ]
        repeat
          first
          | (refine lexF_pure (v := ?_) rfl rfl ?_ ?_
             rotate_left
             · intro w' hU'
               go_simp
               try with_reducible rfl
             try simp only [Act.put, List.setIfInBounds_toArray, List.set_cons_zero, List.set_cons_succ])
          | (refine lexF_skip rfl ?_
             try simp only [Act.put, List.setIfInBounds_toArray, List.set_cons_zero, List.set_cons_succ])
        refine lexF_step ?_
        have hst := run_storeVar_row (P := Tryd.prog) w3 bk 22 22 (gC z8) (gC G2) hzb3 hi2 hsz2 hone2
        refine (lexF_store (w' := w3.setRow bk (gC G2)) rfl rfl (by simp [execOp, Act.eval, Instr.storeAt, Instr.sureAddr, hst]) (updRow (Upd.refl (From wr.heap.size) w3) (.inl hge) (gC G2)) ?_)
        have hbk := setRow_heap _ bk _ (gC G2) _ _ hzb3
        have hVs := updRow hV3 (.inr hge) (gC G2)
        generalize w3.setRow bk (gC G2) = ws at *
        try simp only [Act.put, List.setIfInBounds_toArray, List.set_cons_zero, List.set_cons_succ]
        repeat
          first
          | (refine lexF_pure (v := ?_) rfl rfl ?_ ?_
             rotate_left
             · intro w' hU'
               go_simp
               try with_reducible rfl
             try simp only [Act.put, List.setIfInBounds_toArray, List.set_cons_zero, List.set_cons_succ])
          | (refine lexF_skip rfl ?_
             try simp only [Act.put, List.setIfInBounds_toArray, List.set_cons_zero, List.set_cons_succ])
        refine lexF_done ?_
        cases ok2 with
        | false =>
          have hon := opn_none (b := b) (n := n) (i := i + 1) (by rw [hstH.out]; rfl) (n - (i + 1))
          rw [show (i + 1) + (n - (i + 1)) = n by omega] at hon
          have hzf := Lib.hid (show r = ([], 0, 14) by rw [hz.out, hon])
          clear hon
          go_wp2_with fail
          exact bodyPost_ret (v := .tuple #[.slice none 0 0, .int .i64 0, .int .i64 14]) (by simp [results, Tryd.results14, go_sem]) rfl ⟨_, by rw [hzf.out], by rw [hzf.out]; exact Sl.nil _ _ _ _ _, hU.tr hVs⟩
        | true =>
          have hw3 : wrap64 (mm + t2) = mm + t2 := by have := hlenH.out; have := hokH.out.2.2; unfold wrap64; omega
          have hVs9 := hV.upd0 hVs
          have hUs := hU.tr hVs
          have hss := hUs.size
          have hbd : (out.length + (toB G2).length) * 1 ≤ 140737488355328 ∧ out.length + (toB G2).length ≤ maxLen := by have := hlenH.out.1; unfold maxLen; omega
          have hbdH := Lib.hid hbd
          have hsrc := Src.ofArg (P := Tryd.prog) (tx := 31) ⟨_, elemU8.ht⟩ bc_len bc_one (arg_lit bc_len hbk htB) 8
          rw [show Value.slice (some ⟨bk, 0, none⟩) (toB G2).length 8 = Value.slice (some ⟨bk, 0, none⟩) 8 8 by rw [htl]] at hsrc
          have hstT := Lib.hid (show opnS b n (i + 1) = some (out ++ toB G2, mm + t2) by rw [hstH.out]; rfl)
          clear hbd htl htB hbk hV
          go_wp2_with (at_builtin; refine wp_app w.heap.size rfl (.tmp 58) (.tmp 59) elemU8 rfl (.slice Eo out.length co) out (toB G2) _ rfl rfl hsrc hVs9 hss hbdH.out.1 hbdH.out.2 ?_; intro A4 c4 w4 hv4 hg4 hat4)
          have hU4 := hUs.grownOwn hVs9 (Nat.le_refl _) hg4
          go_roundw
          case measure => simp [intOf]; omega
          case rel => exact ⟨i + 1, _, _, _, by omega, by go_num, rfl, rfl, Lib.hid hstT.out, hv4, hU4⟩
    · obtain rfl : i = n := by omega
      obtain ⟨Eo, co, rfl, hco⟩ := hV.form
      have hcom := hV.capMax
      have hlen := (opn_len i out mm ho.out).1
      have hml : m ≤ out.length := by omega
      have hAo := hV.cells bc_len (by omega)
      have hAd := arg_drop hAo m co hco hml
      have hzr := Lib.hid (show r = (if (out.drop m).any (· != 0) then ([], 0, 2) else (out.take m, mm, 0)) by rw [hz.out, ho.out])
      have hVt := hV.take bc_len (k := m) hml
      have hDl : (out.drop m).length = out.length - m := List.length_drop
      have hDmx : out.length - m ≤ 100000 := by omega
      clear hz ho hlen hblH hn2 hlt hi
      obtain ⟨D, hD⟩ : ∃ D, D = out.drop m := ⟨_, rfl⟩
      rw [← hD] at hAd hzr hDl
      obtain ⟨A2, hA2⟩ : ∃ A2, A2 = (if co = m then Eo else Eo.map (·.add (m * 1))) := ⟨_, rfl⟩
      rw [← hA2] at hAd
      obtain ⟨w5, rfl⟩ : ∃ x, x = wr := ⟨wr, rfl⟩
      have hm2 : m ≤ co := by omega
      by_cases hcm2 : co = m
      · rw [if_pos hcm2] at hA2
        subst hA2
        go_wp2_with fail
        go_loopw [66] (fun s66 wr => ∃ j : Nat, j ≤ out.length - m ∧ s66 = .int .i64 (j : Int) ∧ Hid (∀ k (hk : k < D.length), k < j → D[k] = 0) ∧ wr = w5) (fun s66 _ => out.length - m - (intOf s66).toNat)
        case atStart => exact ⟨0, by omega, by go_num, Lib.hid (fun k hk h => absurd h (by omega)), rfl⟩
        case round =>
          obtain ⟨j, hj, rfl, hno, rfl⟩ := hrel
          by_cases hlt : j < out.length - m
          · exact absurd hlt (by omega)
          · obtain rfl : j = out.length - m := by omega
            have hzz := Lib.hid (show r = (out.take m, mm, 0) by rw [hzr.out, any_no (fun k hk => hno.out k hk (by omega))]; rfl)
            clear hno hzr
            go_wp2_with fail
            exact bodyPost_ret (v := .tuple #[.slice A2 m m, .int .i64 mm, .int .i64 0]) (by simp [results, Tryd.results14, go_sem]) rfl ⟨_, by rw [hzz.out], by rw [hzz.out]; rw [hcm2] at hVt; exact hVt, hU⟩
      · rw [if_neg hcm2] at hA2
        obtain ⟨ge, oe, rfl⟩ := sl_some hV (by omega)
        rw [Option.map_some, Nat.mul_one, Addr.add_lit] at hA2
        subst hA2
        go_wp2_with fail
        go_loopw [66] (fun s66 wr => ∃ j : Nat, j ≤ out.length - m ∧ s66 = .int .i64 (j : Int) ∧ Hid (∀ k (hk : k < D.length), k < j → D[k] = 0) ∧ wr = w5) (fun s66 _ => out.length - m - (intOf s66).toNat)
        case atStart => exact ⟨0, by omega, by go_num, Lib.hid (fun k hk h => absurd h (by omega)), rfl⟩
        case round =>
          obtain ⟨j, hj, rfl, hno, rfl⟩ := hrel
          by_cases hlt : j < out.length - m
          · have hI : (j : Int) < ((out.length - m : Nat) : Int) := by omega
            have hjD : j < D.length := by omega
            obtain ⟨g2, o2, eA, hg2, y0⟩ := byte_at hAd hjD
            obtain ⟨rfl, rfl⟩ : ge = g2 ∧ oe + m = o2 := by injection eA with eA; injection eA with e1 e2; exact ⟨e1, e2⟩
            by_cases hx : D[j] = 0
            · have hnx := Lib.hid (show ∀ k (hk : k < D.length), k < j + 1 → D[k] = 0 by
                intro k hk h
                rcases Nat.lt_or_ge k j with h3 | h3
                · exact hno.out k hk h3
                · obtain rfl : k = j := by omega
                  exact hx)
              have hxI := u8_zero.1 hx
              clear hno hx hzr
              generalize (D[j].toNat : Int) = xi at *
              subst hxI
              go_wp2_with fail
              go_roundw
              case measure => simp [intOf]; omega
              case rel => exact ⟨j + 1, by omega, by go_num, Lib.hid hnx.out, trivial⟩
            · have hzz := Lib.hid (show r = ([], 0, 2) by rw [hzr.out, any_yes hjD hx]; rfl)
              have hxI : ¬ (D[j].toNat : Int) = 0 := fun h => hx (u8_zero.2 h)
              clear hno hx hzr
              generalize (D[j].toNat : Int) = xi at *
              go_wp2_with fail
              exact bodyPost_ret (v := .tuple #[.slice none 0 0, .int .i64 0, .int .i64 2]) (by simp [results, Tryd.results14, go_sem]) rfl ⟨_, by rw [hzz.out], by rw [hzz.out]; exact Sl.nil _ _ _ _ _, hU⟩
          · obtain rfl : j = out.length - m := by omega
            have hzz := Lib.hid (show r = (out.take m, mm, 0) by rw [hzr.out, any_no (fun k hk => hno.out k hk (by omega))]; rfl)
            clear hno hzr
            go_wp2_with fail
            exact bodyPost_ret (v := .tuple #[.slice (some ⟨ge, oe, none⟩) m co, .int .i64 mm, .int .i64 0]) (by simp [results, Tryd.results14, go_sem]) rfl ⟨_, by rw [hzz.out], by rw [hzz.out]; exact hVt, hU⟩
end Go.Proofs.YtenhimaclecdpaaDoor.Ecc
