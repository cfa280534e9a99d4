/-
  The cache: Drop, Get, New. Conditions: what the cache holds.
-/
import Derived.Test.YtcifkccaiekkeaaCacheC
namespace Go.Proofs.Ytcifkccaiekkeaa.Cache
open Go.RowKit Go.Proofs.Ytcifkccaiekkeaa.Base Go.Maps Go.Proofs.Ytcifkccaiekkeaa.Ints
set_option linter.unusedVariables false
set_option linter.unusedSimpArgs false
theorem lexW_del {P : Program} {ops : Array Oper} {Q : Exit → Act → World → Prop} {U : World → World → Prop} {s : Bool} {rest : List (Bool × Oper)} {a : Act} {w w' : World} {o : Oper} (m x : Operand) (t k : TypeId) (hop : o.op = Op.call { callee := Callee.builtin Builtin.delete, args := #[m, x], argTypes := #[t, k] }) (hw : Region.wanted o (yielded ops a.tmps) = true)
    (hrun : (Builtin.delete_ #[t, k] o.type #[a.eval m, a.eval x]).run P w = .ok (.tuple #[]) w') (hU : U w w') (h : wpLexW P ops U Q rest (a.put o.dst (.tuple #[])) w') : wpLexW P ops U Q ((s, o) :: rest) a w := by
  refine lexW_call (by unfold pureKind; rw [hop]) hw ?_
  unfold Oper.wp
  simp [execOp, hop, resolve, invoke, builtin, hrun, Result.andThen]
  exact ⟨hU, h⟩
/-- One is gone; the others stand as they stood. -/
theorem drop_split {A B : List Nat} {n : Nat} {K : Nat → Key} (h : ((A ++ n :: B).map K).Nodup) : (A ++ n :: B).filter (fun b => K b != K n) = A ++ B := by
  rw [List.map_append, List.map_cons, List.nodup_append, List.nodup_cons] at h
  obtain ⟨h1, ⟨h2, h3⟩, h4⟩ := h
  rw [List.filter_append, List.filter_cons]
  simp only [bne_self_eq_false, Bool.false_eq_true, if_false]
  congr 1
  · rw [List.filter_eq_self]
    intro a ha
    simp only [bne_iff_ne, ne_eq]
    intro e
    exact h4 (K a) (List.mem_map_of_mem ha) (K n) (by simp) e
  · rw [List.filter_eq_self]
    intro a ha
    simp only [bne_iff_ne, ne_eq]
    intro e
    exact h2 (e ▸ List.mem_map_of_mem ha)
theorem drop_none {ns : List Nat} {K : Nat → Key} {k : Key} (h : ns.find? (fun b => K b == k) = none) : ns.filter (fun b => K b != k) = ns := by
  rw [List.filter_eq_self]
  intro a ha
  have := List.find?_eq_none.1 h a ha
  simp at this ⊢
  exact this
theorem node_filter (ns : List Nat) (K : Nat → Key) (k j : Key) : nodeOf (ns.filter (fun b => K b != k)) K j = if j = k then 0 else nodeOf ns K j := by
  unfold nodeOf
  by_cases hj : j = k
  · subst hj
    have : (ns.filter (fun b => K b != j)).find? (fun b => K b == j) = none := by
      rw [List.find?_eq_none]
      intro x hx
      have := (List.mem_filter.1 hx).2
      simp at this ⊢
      exact this
    rw [this, if_pos rfl]
  · have : (ns.filter (fun b => K b != k)).find? (fun b => K b == j) = ns.find? (fun b => K b == j) := by
      rw [List.find?_filter]
      congr 1
      funext b
      by_cases e : K b = j
      · simp [e, hj]
      · simp [e]
    rw [this, if_neg hj]
def DropR (F : Nat → Prop) (w : World) (c M : Nat) (room : Int) (ns : List Nat) (K : Nat → Key) (V : Nat → ByteArray) (h m : Int) (k : Key) (e : Ending) (w' : World) : Prop :=
  e = .returned (.bool (findK (rowsOf ns K V) k).isSome) ∧ ∃ f g, Cx F w' c M room (ns.filter (fun b => K b != k)) K V f g h m ∧ Upd F w w'
set_option maxRecDepth 100000 in
theorem drop_nil (w : World) (k : Key) :
    Calls Try.prog 38 #[.pointer none, .agg #[.int .i64 k.1, .int .i64 k.2]] w fun e w' => e = .returned (.bool false) ∧ Upd Nil w w' := by
  have hx := blk_new w (.cells #[.int .i64 k.1, .int .i64 k.2] 47)
  have hU := (Upd.refl Nil w).alloc (.cells #[.int .i64 k.1, .int .i64 k.2] 47)
  go_enter Try.func38, Try.ntmps38
  go_wp2_with fail
  generalize w.alloc (.cells #[.int .i64 k.1, .int .i64 k.2] 47) = W at *
  generalize w.heap.size = nb at *
  have x0 := blk_cell hx 0
  have x1 := blk_cell hx 1
  simp only [List.getElem?_toArray, List.getElem?_cons_zero, List.getElem?_cons_succ] at x0 x1
  go_wp2_with fail
  refine (find_nil _ k).mono ?_
  rintro e w1 ⟨rfl, u1⟩
  rw [show np 0 = .pointer none from rfl]
  go_wp2_with fail
  go_ret
  exact ⟨rfl, hU.tr u1⟩
set_option maxRecDepth 100000 in
theorem drop {F : Nat → Prop} {w : World} {c M : Nat} {room : Int} {ns : List Nat} {K : Nat → Key} {V : Nat → ByteArray} {f g : Nat → Nat} {h m : Int} (x : Cx F w c M room ns K V f g h m) (k : Key) (hk : Wk k) :
    Calls Try.prog 38 #[.pointer (some ⟨c, 0, none⟩), .agg #[.int .i64 k.1, .int .i64 k.2]] w (DropR F w c M room ns K V h m k) := by
  have hr := find_rows ns K V k
  have hxx := x.upd0 ((Upd.refl Nil w).alloc (.cells #[.int .i64 k.1, .int .i64 k.2] 47))
  have hxn : ∀ y ∈ c :: M :: ns, y ≠ w.heap.size := fun y hy e => by
    subst e
    rcases List.mem_cons.1 hy with e | hy
    · exact absurd (blk_lt x.rg.cb) (by omega)
    · rcases List.mem_cons.1 hy with e | hy
      · exact absurd x.mp.lt (by omega)
      · exact absurd (blk_lt (x.rg.nb _ hy)) (by omega)
  generalize hR : DropR F w c M room ns K V h m k = R
  have hR2 := Lib.hid hR
  clear hR
  have hx := blk_new w (.cells #[.int .i64 k.1, .int .i64 k.2] 47)
  have hU := (Upd.refl Nil w).alloc (.cells #[.int .i64 k.1, .int .i64 k.2] 47)
  go_enter Try.func38, Try.ntmps38
  go_wp2_with fail
  generalize w.alloc (.cells #[.int .i64 k.1, .int .i64 k.2] 47) = W at *
  generalize w.heap.size = nb at *
  have x0 := blk_cell hx 0
  have x1 := blk_cell hx 1
  simp only [List.getElem?_toArray, List.getElem?_cons_zero, List.getElem?_cons_succ] at x0 x1
  have hrH := Lib.hid hr
  clear hr
  go_wp2_with fail
  refine (find W c M room _ _ h m _ _ k hk hxx.rg.cb hxx.mp).mono ?_
  rintro e w1 ⟨rfl, u1⟩
  replace hU := hU.tr u1
  replace hx := u1.blk hx (fun h => h)
  have r1 := hxx.upd0 u1
  cases hf : ns.find? (fun b => K b == k) with
  | none =>
    rw [node_none hf, show np 0 = .pointer none from rfl]
    have hf2 := Lib.hid hf
    clear hf
    go_wp2_with fail
    rw [← hR2.out]
    refine ⟨by rw [hrH.out, hf2.out]; rfl, f, g, ?_, hU.mono (fun _ h => h.elim)⟩
    rw [drop_none hf2.out]
    exact r1
  | some n =>
    obtain ⟨hn, hm, hkn⟩ := node_some hf
    obtain ⟨A, B, rfl⟩ := List.append_of_mem hm
    rw [hn, show np (n + 1) = .pointer (some ⟨n, 0, none⟩) from rfl]
    have hf2 := Lib.hid hf
    have hkn2 := Lib.hid hkn
    clear hf hkn
    have hn2 := Lib.hid hn
    clear hn
    go_wp2_with fail
    refine (cutR r1.rg).mono ?_
    rintro e w2 ⟨rfl, f', g', hrg, _, u2⟩
    have u2F : Upd F w1 w2 := u2.mono (fun y hy => r1.own y (by simp [In] at hy ⊢; rcases hy with e | e | e | e <;> simp [e]))
    have hmp2 := r1.mp.upd u2 r1.ne
    replace hx := u2.blk hx (fun hy => hxn nb (by simp [In] at hy ⊢; rcases hy with e | e | e | e <;> simp [e]) rfl)
    obtain ⟨w3, hrun, hmp3, u3⟩ := (hmp2.upd (Upd.refl Nil _).drew (fun h => h)).del hk 0
    have c1 := blk_cell hrg.cb 1
    have x0 := blk_cell hx 0
    have x1 := blk_cell hx 1
    simp only [List.getElem?_toArray, List.getElem?_cons_zero, List.getElem?_cons_succ] at c1 x0 x1
    go_wp2_with fail
    refine wp_region_lexW (Upd (Only M)) (fun _ => Upd.refl _ _) (fun _ _ _ h k => h.tr k) [(0, false), (1, false), (2, false), (3, true), (4, true), (5, false)] (by kernel_rfl) (by kernel_rfl) rfl (by kernel_rfl) (by kernel_rfl) ?_
    simp only [inOrderW, List.filterMap_cons, List.filterMap_nil, List.getElem?_cons_zero, List.getElem?_cons_succ, Option.map_some]
    try simp only [Act.put, List.setIfInBounds_toArray, List.set_cons_zero, List.set_cons_succ]
    repeat
      first
      | (refine lexW_sure (v := ?_) rfl rfl ?_ ?_
         rotate_left
         · go_simp
           try with_reducible rfl
         try simp only [Act.put, List.setIfInBounds_toArray, List.set_cons_zero, List.set_cons_succ])
      | (refine lexW_pure (v := ?_) rfl rfl ?_ ?_
         rotate_left
         · intro w' hU'
           go_simp
           try with_reducible rfl
         try simp only [Act.put, List.setIfInBounds_toArray, List.set_cons_zero, List.set_cons_succ])
      | (refine lexW_skip rfl ?_
         try simp only [Act.put, List.setIfInBounds_toArray, List.set_cons_zero, List.set_cons_succ])
    refine lexW_del _ _ _ _ rfl rfl hrun u3 ?_
    try simp only [Act.put, List.setIfInBounds_toArray, List.set_cons_zero, List.set_cons_succ]
    repeat
      first
      | (refine lexW_sure (v := ?_) rfl rfl ?_ ?_
         rotate_left
         · go_simp
           try with_reducible rfl
         try simp only [Act.put, List.setIfInBounds_toArray, List.set_cons_zero, List.set_cons_succ])
      | (refine lexW_pure (v := ?_) rfl rfl ?_ ?_
         rotate_left
         · intro w' hU'
           go_simp
           try with_reducible rfl
         try simp only [Act.put, List.setIfInBounds_toArray, List.set_cons_zero, List.set_cons_succ])
      | (refine lexW_skip rfl ?_
         try simp only [Act.put, List.setIfInBounds_toArray, List.set_cons_zero, List.set_cons_succ])
    refine lexW_done ?_
    go_wp2_with fail
    rw [← hR2.out]
    have hkn := hkn2.out
    have u3' : Upd (Only M) w2 w3 := (Upd.refl (Only M) w2).drew.tr u3
    have hrg3 := hrg.upd u3' (fun y hy e => r1.ne (by have e : y = M := e; subst e; simp at hy ⊢; rcases hy with e | e | e <;> simp [e]))
    have hflt : (A ++ n :: B).filter (fun b => K b != k) = A ++ B := by rw [← hkn]; exact drop_split r1.ky
    refine ⟨by rw [hrH.out, hf2.out]; rfl, f', g', ?_, (hU.mono (fun _ h => h.elim)).tr (u2F.tr (u3'.mono (fun y hy => by cases hy; exact r1.own M (by simp))))⟩
    refine ⟨by rw [hflt]; exact hrg3, ?_, fun b hb => r1.wk b (List.mem_filter.1 hb).1, ?_, fun y hy => ?_, r1.hr⟩
    · have e1 : (nodeOf (List.filter (fun b => K b != k) (A ++ n :: B)) K) = fun j => if j = k then 0 else nodeOf (A ++ n :: B) K j := funext fun j => node_filter _ K k j
      rw [e1, hflt]
      rw [hn2.out, if_neg (by omega)] at hmp3
      rw [show (A ++ B).length = (A ++ n :: B).length - 1 by simp]
      exact hmp3
    · rw [hflt]
      exact (r1.ky.sublist (List.Sublist.map _ (by simp)))
    · refine r1.own y ?_
      rw [hflt] at hy
      simp at hy ⊢
      rcases hy with e | e | e | e <;> simp [e]
def GetR (F : Nat → Prop) (w : World) (c M : Nat) (room : Int) (ns : List Nat) (K : Nat → Key) (V : Nat → ByteArray) (h m : Int) (k : Key) (e : Ending) (w' : World) : Prop :=
  e = .returned (.tuple #[.string (textOf (findK (rowsOf ns K V) k)), .bool (findK (rowsOf ns K V) k).isSome]) ∧ ∃ ns' K' V' f g, Cx F w' c M room ns' K' V' f g (if (findK (rowsOf ns K V) k).isSome then h + 1 else h) (if (findK (rowsOf ns K V) k).isSome then m else m + 1) ∧ rowsOf ns' K' V' = getK (rowsOf ns K V) k ∧ Upd F w w'
set_option maxRecDepth 100000 in
theorem get_nil (w : World) (k : Key) :
    Calls Try.prog 36 #[.pointer none, .agg #[.int .i64 k.1, .int .i64 k.2]] w fun e w' => e = .returned (.tuple #[.string ⟨#[]⟩, .bool false]) ∧ Upd Nil w w' := by
  have hx := blk_new w (.cells #[.int .i64 k.1, .int .i64 k.2] 47)
  have hU := (Upd.refl Nil w).alloc (.cells #[.int .i64 k.1, .int .i64 k.2] 47)
  go_enter Try.func36, Try.ntmps36
  go_wp2_with fail
  generalize w.alloc (.cells #[.int .i64 k.1, .int .i64 k.2] 47) = W at *
  generalize w.heap.size = nb at *
  have x0 := blk_cell hx 0
  have x1 := blk_cell hx 1
  simp only [List.getElem?_toArray, List.getElem?_cons_zero, List.getElem?_cons_succ] at x0 x1
  go_wp2_with fail
  refine (find_nil _ k).mono ?_
  rintro e w1 ⟨rfl, u1⟩
  rw [show np 0 = .pointer none from rfl]
  go_wp2_with fail
  go_ret2
  exact ⟨rfl, hU.tr u1⟩
theorem wr1 {x : Int} (h : -1000000000 ≤ x ∧ x ≤ 1000000000) : IntKind.i64.wrap x = x := by rw [IntKind.wrap_i64]; omega
theorem wr2 {x : Int} (h : -1000000000 ≤ x ∧ x ≤ 1000000000) : wrap64 x = x := by unfold wrap64; omega
theorem Rg.count {w : World} {c M : Nat} {room : Int} {ns : List Nat} {K : Nat → Key} {V : Nat → ByteArray} {f g : Nat → Nat} {h m : Int} (r : Rg w c M room ns K V f g h m) (i : Nat) (v : Int) (x y : Int) (hi : i = 7 ∧ x = v ∧ y = m ∨ i = 8 ∧ x = h ∧ y = v) :
    Rg (w.setCell ⟨c, i, none⟩ (.int .i64 v)) c M room ns K V f g x y ∧ Upd (Only c) w (w.setCell ⟨c, i, none⟩ (.int .i64 v)) := by
  refine ⟨⟨⟨blk_put r.cb _ _ ?_, fun b hb => blk_other (r.nb b hb) (p := ⟨c, i, none⟩) (fun e => r.nc (by rw [← show b = c from e]; exact hb)) _, r.nc⟩, r.ch, r.nd⟩, (Upd.refl _ _).set1 _⟩
  rcases hi with ⟨rfl, rfl, rfl⟩ | ⟨rfl, rfl, rfl⟩ <;> rfl
theorem rows_drop (ns : List Nat) (K : Nat → Key) (V : Nat → ByteArray) (k : Key) : dropK (rowsOf ns K V) k = rowsOf (ns.filter (fun b => K b != k)) K V := by
  unfold dropK rowsOf
  rw [List.filter_map]
  rfl
theorem rows_same {ns : List Nat} {K K' : Nat → Key} {V V' : Nat → ByteArray} (h : ∀ b ∈ ns, K' b = K b ∧ V' b = V b) : rowsOf ns K' V' = rowsOf ns K V := by
  unfold rowsOf
  apply List.map_congr_left
  intro b hb
  rw [(h b hb).1, (h b hb).2]
theorem find_congr {p q : Nat → Bool} : ∀ {l : List Nat}, (∀ b ∈ l, p b = q b) → l.find? p = l.find? q
  | [], _ => rfl
  | b :: l, h => by
    rw [List.find?_cons, List.find?_cons, h b (by simp), find_congr (fun x hx => h x (by simp [hx]))]
theorem node_cons (n : Nat) (ns : List Nat) (K : Nat → Key) (k j : Key) (hn : n ∉ ns) : nodeOf (n :: ns) (ups K n k) j = if j = k then n + 1 else nodeOf ns K j := by
  unfold nodeOf
  rw [List.find?_cons, ups_same]
  by_cases e : j = k
  · subst e
    simp
  · rw [if_neg e]
    have : (k == j) = false := by simp; exact fun h => e h.symm
    rw [this]
    have e2 : ns.find? (fun b => ups K n k b == j) = ns.find? (fun b => K b == j) := by
      apply find_congr
      intro b hb
      rw [ups_ne _ _ (fun e => hn (by rw [← e]; exact hb))]
    simp only [e2]
set_option maxRecDepth 100000 in
theorem get {F : Nat → Prop} {w : World} {c M : Nat} {room : Int} {ns : List Nat} {K : Nat → Key} {V : Nat → ByteArray} {f g : Nat → Nat} {h m : Int} (x : Cx F w c M room ns K V f g h m) (hb : 0 ≤ h ∧ h ≤ 1000000 ∧ 0 ≤ m ∧ m ≤ 1000000) (k : Key) (hk : Wk k) :
    Calls Try.prog 36 #[.pointer (some ⟨c, 0, none⟩), .agg #[.int .i64 k.1, .int .i64 k.2]] w (GetR F w c M room ns K V h m k) := by
  have hr := find_rows ns K V k
  have hxx := x.upd0 ((Upd.refl Nil w).alloc (.cells #[.int .i64 k.1, .int .i64 k.2] 47))
  generalize hR : GetR F w c M room ns K V h m k = R
  have hR2 := Lib.hid hR
  clear hR
  have hx := blk_new w (.cells #[.int .i64 k.1, .int .i64 k.2] 47)
  have hU := (Upd.refl Nil w).alloc (.cells #[.int .i64 k.1, .int .i64 k.2] 47)
  go_enter Try.func36, Try.ntmps36
  go_wp2_with fail
  generalize w.alloc (.cells #[.int .i64 k.1, .int .i64 k.2] 47) = W at *
  generalize w.heap.size = nb at *
  have x0 := blk_cell hx 0
  have x1 := blk_cell hx 1
  simp only [List.getElem?_toArray, List.getElem?_cons_zero, List.getElem?_cons_succ] at x0 x1
  have hrH := Lib.hid hr
  clear hr
  go_wp2_with fail
  refine (find W c M room _ _ h m _ _ k hk hxx.rg.cb hxx.mp).mono ?_
  rintro e w1 ⟨rfl, u1⟩
  replace hU := hU.tr u1
  have r1 := hxx.upd0 u1
  have c7 := blk_cell r1.rg.cb 7
  have c8 := blk_cell r1.rg.cb 8
  have f7 := blk_frozen r1.rg.cb 7
  have f8 := blk_frozen r1.rg.cb 8
  simp only [List.getElem?_toArray, List.getElem?_cons_zero, List.getElem?_cons_succ] at c7 c8
  have hw1 := wr2 (x := h + 1) (by omega)
  have hw2 := wr2 (x := m + 1) (by omega)
  cases hf : ns.find? (fun b => K b == k) with
  | none =>
    rw [node_none hf, show np 0 = .pointer none from rfl]
    have hf2 := Lib.hid hf
    clear hf
    go_wp2_with fail
    rw [← hR2.out]
    have e0 : findK (rowsOf ns K V) k = none := by rw [hrH.out, hf2.out]; rfl
    obtain ⟨q1, q2⟩ := r1.rg.count 8 (m + 1) h (m + 1) (.inr ⟨rfl, rfl, rfl⟩)
    refine ⟨by rw [e0]; rfl, ns, K, V, f, g, ?_, ?_, ?_⟩
    · rw [e0]
      exact ⟨q1, r1.mp.upd q2 (fun e => r1.ne (by cases e; simp)), r1.wk, r1.ky, r1.own, r1.hr⟩
    · unfold getK
      rw [e0]
    · exact (hU.mono (fun _ h => h.elim)).tr (q2.mono (fun y hy => by cases hy; exact r1.own _ (by simp)))
  | some n =>
    obtain ⟨hn, hm, hkn⟩ := node_some hf
    obtain ⟨A, B, rfl⟩ := List.append_of_mem hm
    rw [hn, show np (n + 1) = .pointer (some ⟨n, 0, none⟩) from rfl]
    have hf2 := Lib.hid hf
    have hkn2 := Lib.hid hkn
    clear hf hkn
    have hn2 := Lib.hid hn
    clear hn
    obtain ⟨q1, q2⟩ := r1.rg.count 7 (h + 1) (h + 1) m (.inl ⟨rfl, rfl, rfl⟩)
    have hmp1 := r1.mp.upd q2 (fun e => r1.ne (by cases e; simp))
    have uq := (hU.mono (S' := F) (fun _ h => h.elim)).tr (q2.mono (fun y hy => by cases hy; exact r1.own _ (by simp)))
    go_wp2_with fail
    generalize w1.setCell ⟨c, 7, none⟩ (.int .i64 (h + 1)) = w2 at *
    refine (cutR q1).mono ?_
    rintro e w3 ⟨rfl, f', g', hrg, ⟨y1, y2, hbn⟩, u3⟩
    have hnn : n ∉ c :: (A ++ B) := fun e => by
      have h1 := q1.nd
      rw [List.nodup_append, List.nodup_cons] at h1
      rcases List.mem_cons.1 e with e | e
      · exact q1.nc (e ▸ hm)
      · rcases List.mem_append.1 e with e | e
        · exact h1.2.2 n e n (by simp) rfl
        · exact h1.2.1.1 e
    go_wp2_with fail
    refine (firstR hrg hnn hbn).mono ?_
    rintro e w4 ⟨rfl, f2, g2, hrg2, u4⟩
    have c2 := blk_cell (hrg2.nb n (by simp)) 2
    rw [ups_same] at c2
    simp only [List.getElem?_toArray, List.getElem?_cons_zero, List.getElem?_cons_succ] at c2
    go_wp2_with fail
    rw [← hR2.out]
    have hkn := hkn2.out
    have e0 : findK (rowsOf (A ++ n :: B) K V) k = some (V n) := by rw [hrH.out, hf2.out]; rfl
    have hflt : (A ++ n :: B).filter (fun b => K b != k) = A ++ B := by rw [← hkn]; exact drop_split r1.ky
    have hnAB : n ∉ A ++ B := fun e => hnn (List.mem_cons_of_mem _ e)
    have hKs : ups K n (K n) = K := funext fun b => by by_cases e : b = n <;> simp [ups, e]
    have hVs : ups V n (V n) = V := funext fun b => by by_cases e : b = n <;> simp [ups, e]
    rw [hKs, hVs] at hrg2
    refine ⟨by rw [e0, hVs]; rfl, n :: (A ++ B), K, V, f2, g2, ?_, ?_, ?_⟩
    · rw [e0]
      refine ⟨hrg2, ?_, fun b hb => r1.wk b ?_, ?_, fun y hy => r1.own y ?_, r1.hr⟩
      · have e1 : nodeOf (n :: (A ++ B)) K = nodeOf (A ++ n :: B) K := funext fun j => by
          have h1 := node_cons n (A ++ B) K (K n) j hnAB
          have h2 := node_filter (A ++ n :: B) K k j
          rw [hKs] at h1
          rw [hflt] at h2
          rw [h1, h2, hkn]
          by_cases e : j = k
          · rw [if_pos e, e, hn2.out]
          · rw [if_neg e, if_neg e]
        rw [e1, show (n :: (A ++ B)).length = (A ++ n :: B).length by simp; omega]
        exact (hmp1.upd u3 r1.ne).upd u4 (fun e => r1.ne (by simp [In] at e ⊢; rcases e with e | e | e | e <;> simp [e]))
      · simp at hb ⊢
        rcases hb with e | e | e <;> simp [e]
      · exact (List.Perm.nodup_iff (List.Perm.map K (by exact List.perm_middle.symm))).2 r1.ky
      · simp at hy ⊢
        rcases hy with e | e | e | e | e <;> simp [e]
    · unfold getK
      rw [e0, rows_drop, hflt]
      show (K n, V n) :: _ = _
      rw [hkn]
      rfl
    · refine uq.tr ((u3.mono (S' := F) (fun y hy => r1.own y ?_)).tr (u4.mono (fun y hy => r1.own y ?_)))
      · simp [In] at hy ⊢
        rcases hy with e | e | e | e <;> simp [e]
      · simp [In] at hy ⊢
        rcases hy with e | e | e | e <;> simp [e]
end Go.Proofs.Ytcifkccaiekkeaa.Cache
