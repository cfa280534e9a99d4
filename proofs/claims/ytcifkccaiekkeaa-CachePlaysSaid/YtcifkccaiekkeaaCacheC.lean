/-
  The cache: find, Peek, Len, Rate. Conditions: what the cache holds.
-/
import Derived.Test.YtcifkccaiekkeaaCacheB
namespace Go.Proofs.Ytcifkccaiekkeaa.Cache
open Go.RowKit Go.Proofs.Ytcifkccaiekkeaa.Base Go.Maps Go.Proofs.Ytcifkccaiekkeaa.Ints
set_option linter.unusedVariables false
set_option linter.unusedSimpArgs false
def nodeOf (ns : List Nat) (K : Nat → Key) (k : Key) : Nat := match ns.find? (fun b => K b == k) with
  | some b => b + 1
  | none => 0
def rowsOf (ns : List Nat) (K : Nat → Key) (V : Nat → ByteArray) : List (Key × ByteArray) := ns.map (fun b => (K b, V b))
/-- A cache in memory: ring and map. -/
structure Cx (F : Nat → Prop) (w : World) (c M : Nat) (room : Int) (ns : List Nat) (K : Nat → Key) (V : Nat → ByteArray) (f g : Nat → Nat) (h m : Int) : Prop where
  rg : Rg w c M room ns K V f g h m
  mp : MapP w M (nodeOf ns K) ns.length
  wk : ∀ b ∈ ns, Wk (K b)
  ky : (ns.map K).Nodup
  own : ∀ x ∈ c :: M :: ns, F x
  hr : 0 ≤ room ∧ room ≤ 1024
section
variable {F : Nat → Prop} {w w' : World} {c M : Nat} {room : Int} {ns : List Nat} {K : Nat → Key} {V : Nat → ByteArray} {f g : Nat → Nat} {h m : Int}
theorem Cx.upd (x : Cx F w c M room ns K V f g h m) {S : Nat → Prop} (u : Upd S w w') (hs : ∀ y, F y → ¬ S y) : Cx F w' c M room ns K V f g h m :=
  ⟨x.rg.upd u (fun y hy => hs y (x.own y (by simp at hy ⊢; rcases hy with e | e <;> simp [e]))), x.mp.upd u (hs M (x.own M (by simp))), x.wk, x.ky, x.own, x.hr⟩
theorem Cx.upd0 (x : Cx F w c M room ns K V f g h m) (u : Upd Nil w w') : Cx F w' c M room ns K V f g h m := x.upd u (fun _ _ h => h)
theorem Cx.ne (x : Cx F w c M room ns K V f g h m) : M ∉ c :: ns := fun e => by
  rcases List.mem_cons.1 e with e | e
  · exact x.mp.ne x.rg.cb e
  · exact x.mp.ne (x.rg.nb M e) rfl
theorem Cx.keys (x : Cx F w c M room ns K V f g h m) : Keys (rowsOf ns K V) = ns.map K := by unfold Keys rowsOf; simp
theorem Cx.apart (x : Cx F w c M room ns K V f g h m) : Apart (rowsOf ns K V) := by unfold Apart; rw [x.keys]; exact x.ky
end
theorem find_rows (ns : List Nat) (K : Nat → Key) (V : Nat → ByteArray) (k : Key) : findK (rowsOf ns K V) k = (ns.find? (fun b => K b == k)).map V := by
  unfold findK rowsOf
  rw [List.find?_map, Option.map_map]
  rfl
theorem node_some {ns : List Nat} {K : Nat → Key} {k : Key} {n : Nat} (h : ns.find? (fun b => K b == k) = some n) : nodeOf ns K k = n + 1 ∧ n ∈ ns ∧ K n = k := by
  refine ⟨by unfold nodeOf; rw [h], List.mem_of_find?_eq_some h, ?_⟩
  simpa using List.find?_some h
theorem node_none {ns : List Nat} {K : Nat → Key} {k : Key} (h : ns.find? (fun b => K b == k) = none) : nodeOf ns K k = 0 := by unfold nodeOf; rw [h]
set_option maxRecDepth 100000 in
theorem find (w : World) (c M : Nat) (room : Int) (x y : Value) (h m : Int) (q : Key → Nat) (sz : Nat) (k : Key) (hk : Wk k) (hc : w.heap[c]? = some (cO c M room x y h m)) (hm : MapP w M q sz) :
    Calls Try.prog 72 #[.pointer (some ⟨c, 0, none⟩), .agg #[.int .i64 k.1, .int .i64 k.2]] w fun e w' => e = .returned (np (q k)) ∧ Upd Nil w w' := by
  have hx := blk_new w (.cells #[.int .i64 k.1, .int .i64 k.2] 47)
  have hU := (Upd.refl Nil w).alloc (.cells #[.int .i64 k.1, .int .i64 k.2] 47)
  replace hc := hU.blk hc (fun h => h)
  replace hm := hm.upd hU (fun h => h)
  go_enter Try.func72, Try.ntmps72
  go_wp2_with fail
  generalize w.alloc (.cells #[.int .i64 k.1, .int .i64 k.2] 47) = W at *
  generalize w.heap.size = nb at *
  have c1 := blk_cell hc 1
  have x0 := blk_cell hx 0
  have x1 := blk_cell hx 1
  simp only [List.getElem?_toArray, List.getElem?_cons_zero, List.getElem?_cons_succ] at c1 x0 x1
  have hl := fun w' (u : Upd Nil W.drew w') => (hm.upd ((Upd.refl Nil W).drew.tr u) (fun h => h)).look hk
  refine wp_region_lexW (Upd Nil) (fun _ => Upd.refl _ _) (fun _ _ _ h k => h.tr k) [(0, true), (1, true), (2, true), (3, true), (4, true), (5, true), (6, true)] (by kernel_rfl) (by kernel_rfl) rfl (by kernel_rfl) (by kernel_rfl) ?_
  simp only [inOrderW, List.filterMap_cons, List.filterMap_nil, List.getElem?_cons_zero, List.getElem?_cons_succ, Option.map_some]
  try simp only [Act.put, List.setIfInBounds_toArray, List.set_cons_zero, List.set_cons_succ]
  repeat
    first
    | (refine lexW_sure (v := ?_) rfl rfl ?_ ?_
       rotate_left
       · go_simp
         try with_reducible rfl
       try simp only [Act.put, List.setIfInBounds_toArray, List.set_cons_zero, List.set_cons_succ])
    | (refine lexW_pure (v := ?_) rfl rfl ?_ ?_
       rotate_left
       · intro w' hU'
         go_simp
         try with_reducible rfl
       try simp only [Act.put, List.setIfInBounds_toArray, List.set_cons_zero, List.set_cons_succ])
    | (refine lexW_skip rfl ?_
       try simp only [Act.put, List.setIfInBounds_toArray, List.set_cons_zero, List.set_cons_succ])
  refine lexW_look (v := np (q k)) _ _ _ rfl rfl hl ?_
  try simp only [Act.put, List.setIfInBounds_toArray, List.set_cons_zero, List.set_cons_succ]
  repeat
    first
    | (refine lexW_sure (v := ?_) rfl rfl ?_ ?_
       rotate_left
       · go_simp
         try with_reducible rfl
       try simp only [Act.put, List.setIfInBounds_toArray, List.set_cons_zero, List.set_cons_succ])
    | (refine lexW_pure (v := ?_) rfl rfl ?_ ?_
       rotate_left
       · intro w' hU'
         go_simp
         try with_reducible rfl
       try simp only [Act.put, List.setIfInBounds_toArray, List.set_cons_zero, List.set_cons_succ])
    | (refine lexW_skip rfl ?_
       try simp only [Act.put, List.setIfInBounds_toArray, List.set_cons_zero, List.set_cons_succ])
  refine lexW_done ?_
  go_wp2_with fail
  go_ret
  exact ⟨rfl, hU.drew⟩
theorem find_nil (w : World) (k : Key) :
    Calls Try.prog 72 #[.pointer none, .agg #[.int .i64 k.1, .int .i64 k.2]] w fun e w' => e = .returned (np 0) ∧ Upd Nil w w' := by
  have hU := (Upd.refl Nil w).alloc (.cells #[.int .i64 k.1, .int .i64 k.2] 47)
  go_enter Try.func72, Try.ntmps72
  go_wp2_with fail
  go_ret
  exact ⟨rfl, hU⟩
def textOf : Option ByteArray → ByteArray
  | some s => s
  | none => ⟨#[]⟩
set_option maxRecDepth 100000 in
theorem peek_nil (w : World) (k : Key) :
    Calls Try.prog 33 #[.pointer none, .agg #[.int .i64 k.1, .int .i64 k.2]] w fun e w' => e = .returned (.tuple #[.string ⟨#[]⟩, .bool false]) ∧ Upd Nil w w' := by
  have hx := blk_new w (.cells #[.int .i64 k.1, .int .i64 k.2] 47)
  have hU := (Upd.refl Nil w).alloc (.cells #[.int .i64 k.1, .int .i64 k.2] 47)
  go_enter Try.func33, Try.ntmps33
  go_wp2_with fail
  generalize w.alloc (.cells #[.int .i64 k.1, .int .i64 k.2] 47) = W at *
  generalize w.heap.size = nb at *
  have x0 := blk_cell hx 0
  have x1 := blk_cell hx 1
  simp only [List.getElem?_toArray, List.getElem?_cons_zero, List.getElem?_cons_succ] at x0 x1
  go_wp2_with fail
  refine (find_nil _ k).mono ?_
  rintro e w1 ⟨rfl, u1⟩
  rw [show np 0 = .pointer none from rfl]
  go_wp2_with fail
  go_ret2
  exact ⟨rfl, hU.tr u1⟩
set_option maxRecDepth 100000 in
theorem peek {F : Nat → Prop} {w : World} {c M : Nat} {room : Int} {ns : List Nat} {K : Nat → Key} {V : Nat → ByteArray} {f g : Nat → Nat} {h m : Int} (x : Cx F w c M room ns K V f g h m) (k : Key) (hk : Wk k) :
    Calls Try.prog 33 #[.pointer (some ⟨c, 0, none⟩), .agg #[.int .i64 k.1, .int .i64 k.2]] w fun e w' => e = .returned (.tuple #[.string (textOf (findK (rowsOf ns K V) k)), .bool (findK (rowsOf ns K V) k).isSome]) ∧ Upd Nil w w' := by
  have hxx := x.upd0 ((Upd.refl Nil w).alloc (.cells #[.int .i64 k.1, .int .i64 k.2] 47))
  rw [find_rows]
  have hx := blk_new w (.cells #[.int .i64 k.1, .int .i64 k.2] 47)
  have hU := (Upd.refl Nil w).alloc (.cells #[.int .i64 k.1, .int .i64 k.2] 47)
  go_enter Try.func33, Try.ntmps33
  go_wp2_with fail
  generalize w.alloc (.cells #[.int .i64 k.1, .int .i64 k.2] 47) = W at *
  generalize w.heap.size = nb at *
  have x0 := blk_cell hx 0
  have x1 := blk_cell hx 1
  simp only [List.getElem?_toArray, List.getElem?_cons_zero, List.getElem?_cons_succ] at x0 x1
  go_wp2_with fail
  refine (find W c M room _ _ h m _ _ k hk hxx.rg.cb hxx.mp).mono ?_
  rintro e w1 ⟨rfl, u1⟩
  replace hU := hU.tr u1
  have r1 := hxx.upd0 u1
  cases hf : ns.find? (fun b => K b == k) with
  | none =>
    rw [node_none hf, show np 0 = .pointer none from rfl]
    have hf2 := Lib.hid hf
    clear hf
    go_wp2_with fail
    go_ret2
    exact ⟨by rw [hf2.out]; rfl, hU⟩
  | some n =>
    obtain ⟨hn, hm, rfl⟩ := node_some hf
    rw [hn, show np (n + 1) = .pointer (some ⟨n, 0, none⟩) from rfl]
    have c2 := blk_cell (r1.rg.nb n hm) 2
    simp only [List.getElem?_toArray, List.getElem?_cons_zero, List.getElem?_cons_succ] at c2
    have hf2 := Lib.hid hf
    clear hf hn
    go_wp2_with fail
    go_ret2
    exact ⟨by rw [hf2.out]; rfl, hU⟩
theorem len_nil (w : World) : Calls Try.prog 32 #[.pointer none] w fun e w' => e = .returned (.int .i64 0) ∧ w = w' := by
  go_enter Try.func32, Try.ntmps32
  go_wp2_with fail
  go_ret
  exact ⟨rfl, rfl⟩
theorem rate_nil (w : World) : Calls Try.prog 37 #[.pointer none] w fun e w' => e = .returned (.tuple #[.int .i64 0, .int .i64 0]) ∧ w = w' := by
  go_enter Try.func37, Try.ntmps37
  go_wp2_with fail
  go_ret2
  exact ⟨rfl, rfl⟩
set_option maxRecDepth 100000 in
theorem rate {F : Nat → Prop} {w : World} {c M : Nat} {room : Int} {ns : List Nat} {K : Nat → Key} {V : Nat → ByteArray} {f g : Nat → Nat} {h m : Int} (x : Cx F w c M room ns K V f g h m) :
    Calls Try.prog 37 #[.pointer (some ⟨c, 0, none⟩)] w fun e w' => e = .returned (.tuple #[.int .i64 h, .int .i64 m]) ∧ Upd Nil w w' := by
  have c7 := blk_cell x.rg.cb 7
  have c8 := blk_cell x.rg.cb 8
  simp only [List.getElem?_toArray, List.getElem?_cons_zero, List.getElem?_cons_succ] at c7 c8
  go_enter Try.func37, Try.ntmps37
  go_wp2_with fail
  refine wp_region_lexW (Upd Nil) (fun _ => Upd.refl _ _) (fun _ _ _ h k => h.tr k) [(0, true), (1, true), (2, true), (3, true), (4, true), (5, true), (6, true), (7, true), (8, true), (9, true)] (by kernel_rfl) (by kernel_rfl) rfl (by kernel_rfl) (by kernel_rfl) ?_
  simp only [inOrderW, List.filterMap_cons, List.filterMap_nil, List.getElem?_cons_zero, List.getElem?_cons_succ, Option.map_some]
  try simp only [Act.put, List.setIfInBounds_toArray, List.set_cons_zero, List.set_cons_succ]
  repeat
    first
    | (refine lexW_sure (v := ?_) rfl rfl ?_ ?_
       rotate_left
       · go_simp
         try with_reducible rfl
       try simp only [Act.put, List.setIfInBounds_toArray, List.set_cons_zero, List.set_cons_succ])
    | (refine lexW_pure (v := ?_) rfl rfl ?_ ?_
       rotate_left
       · intro w' hU'
         go_simp
         try with_reducible rfl
       try simp only [Act.put, List.setIfInBounds_toArray, List.set_cons_zero, List.set_cons_succ])
    | (refine lexW_skip rfl ?_
       try simp only [Act.put, List.setIfInBounds_toArray, List.set_cons_zero, List.set_cons_succ])
  refine lexW_done ?_
  go_wp2_with fail
  go_ret2
  exact ⟨rfl, (Upd.refl _ _).drew⟩
set_option maxRecDepth 100000 in
theorem len {F : Nat → Prop} {w : World} {c M : Nat} {room : Int} {ns : List Nat} {K : Nat → Key} {V : Nat → ByteArray} {f g : Nat → Nat} {h m : Int} (x : Cx F w c M room ns K V f g h m) :
    Calls Try.prog 32 #[.pointer (some ⟨c, 0, none⟩)] w fun e w' => e = .returned (.int .i64 (ns.length : Int)) ∧ Upd Nil w w' := by
  have c1 := blk_cell x.rg.cb 1
  simp only [List.getElem?_toArray, List.getElem?_cons_zero, List.getElem?_cons_succ] at c1
  have hl := x.mp.len
  go_enter Try.func32, Try.ntmps32
  go_wp2_with fail
  go_ret
  exact ⟨rfl, Upd.refl _ _⟩
end Go.Proofs.Ytcifkccaiekkeaa.Cache
