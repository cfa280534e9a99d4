/-
  The clock: an operation begins. Conditions: what the board holds.
-/
import Derived.Test.YtcifkccaiekkeaaClockA
namespace Go.Proofs.Ytcifkccaiekkeaa.Clock
open Go.RowKit Go.Proofs.Ytcifkccaiekkeaa.Base Go.Maps Go.Proofs.Ytcifkccaiekkeaa.Maps Go.Proofs.Ytcifkccaiekkeaa.Ints
set_option linter.unusedVariables false
set_option linter.unusedSimpArgs false
theorem Upd.ofDrew {S : Nat → Prop} {w w' : World} (h : Upd S w w') : Upd S w.drew w' := ⟨h.os, h.output, h.size, h.block⟩
def RunR (F : Nat → Prop) (b n : Nat) (r : St × Int) (b1 b2 : Nat) (w : World) (e : Ending) (w' : World) : Prop := e = .returned (.int .i64 r.2) ∧ Bd F w' b (n + 2) r.1 b1 b2 ∧ Upd F w w'
theorem wr1 {x : Int} (h : -1000000000 ≤ x ∧ x ≤ 1000000000) : IntKind.i64.wrap x = x := by rw [IntKind.wrap_i64]; omega
theorem wr2 {x : Int} (h : -1000000000 ≤ x ∧ x ≤ 1000000000) : wrap64 x = x := by unfold wrap64; omega
theorem max_if {x y m : Int} (h : (if x < y then y else x) = m) : max x y = m := by
  subst h
  split <;> omega
theorem Bd.look1 {F : Nat → Prop} {w w' : World} {b n : Nat} {s : St} {b1 b2 : Nat} (h : Bd F w b n s b1 b2) (p : Fin 64 × Fin 64) (u : Upd (Only b) w.drew w') : (Instr.lookup 150 (.map (some b2)) (.agg #[.int .i64 (p.1.val : Int), .int .i64 (p.2.val : Int)]) false).run Try.prog w' = .ok (.int .i64 (s.g p)) w' :=
  (h.md.upd ((Upd.refl _ w).drew.tr u) (h.md.ne h.blk)).look lawD Try.underlying150 p (keyD p)
theorem Bd.look2 {F : Nat → Prop} {w w' : World} {b n : Nat} {s : St} {b1 b2 : Nat} (h : Bd F w b n s b1 b2) (c : Fin 64) {S : Nat → Prop} (u : Upd S w.drew w') (hn : ¬ S b1) : (Instr.lookup 149 (.map (some b1)) (.int .i64 (c.val : Int)) false).run Try.prog w' = .ok (.int .i64 (s.f c)) w' :=
  (h.mc.upd ((Upd.refl _ w).drew.tr u) hn).look lawC Try.underlying149 c (keyC c)
theorem Bd.more {F : Nat → Prop} {w : World} {b n m : Nat} {s : St} {b1 b2 : Nat} (h : Bd F w b n s b1 b2) (hn : n ≤ m) : Bd F w b m s b1 b2 := by
  obtain ⟨D, d1, d2⟩ := h.mc
  obtain ⟨E, e1, e2⟩ := h.md
  exact ⟨h.blk, ⟨D, d1.mono hn, d2⟩, ⟨E, e1.mono hn, e2⟩, h.ne, h.ob, h.o1, h.o2⟩
set_option maxHeartbeats 4000000 in
set_option maxRecDepth 100000 in
theorem run3 (F : Nat → Prop) (b n : Nat) (s : St) (b1 b2 : Nat) (w : World) (h : Bd F w b n s b1 b2) (hF : ∀ x, F x → x < w.heap.size) (hB : Bds s 1000000) (hn : n < 1000) (c d : Fin 64) (m : Int) (hm : (if s.now < s.g (c, d) then s.g (c, d) else s.now) = m) :
    Calls Try.prog 85 #[.pointer (some ⟨b, 0, none⟩), .int .i64 3, .agg #[.int .i64 (c.val : Int), .int .i64 (d.val : Int)]] w (RunR F b n (⟨m, s.f, put s.g (c, d) (m + 16)⟩, m + 16) b1 b2 w) := by
  have q := aloneC 3 (by omega)
  rw [show alone 3 = 16 from rfl] at q
  have hx := blk_new w (.cells #[.int .i64 (c.val : Int), .int .i64 (d.val : Int)] 160)
  have hU := (Upd.refl F w).alloc (.cells #[.int .i64 (c.val : Int), .int .i64 (d.val : Int)] 160)
  replace h := h.upd ((Upd.refl Nil w).alloc (.cells #[.int .i64 (c.val : Int), .int .i64 (d.val : Int)] 160)) (fun x hx => hx.elim)
  have hnb : ¬ F w.heap.size := fun h => Nat.lt_irrefl _ (hF _ h)
  have hmb : 0 ≤ m ∧ m ≤ 1000000 := by have h1 := hB.now; have h2 := hB.g (c, d); have h3 := max_if hm; omega
  go_enter Try.func85, Try.ntmps85
  go_wp2_with fail
  generalize w.alloc (.cells #[.int .i64 (c.val : Int), .int .i64 (d.val : Int)] 160) = W at *
  generalize w.heap.size = nb at *
  have c0 := blk_cell h.blk 0
  have c1 := blk_cell h.blk 1
  have c2 := blk_cell h.blk 2
  have f0 := blk_frozen h.blk 0
  have x0 := blk_cell hx 0
  have x1 := blk_cell hx 1
  simp only [List.getElem?_toArray, List.getElem?_cons_zero, List.getElem?_cons_succ] at c0 c1 c2 x0 x1
  refine wp_region_lexW (Upd (Only b)) (fun _ => Upd.refl _ _) (fun _ _ _ h k => h.tr k) [(0, true), (1, true), (2, true), (3, true), (4, true), (5, true), (6, true), (7, true), (8, true), (9, true), (10, true), (11, true), (12, false), (13, true), (14, false)] (by kernel_rfl) (by kernel_rfl) rfl (by kernel_rfl) (by kernel_rfl) ?_
  simp only [inOrderW, List.filterMap_cons, List.filterMap_nil, List.getElem?_cons_zero, List.getElem?_cons_succ, Option.map_some]
  try simp only [Act.put, List.setIfInBounds_toArray, List.set_cons_zero, List.set_cons_succ]
  repeat
    first
    | (refine lexW_sure (v := ?_) rfl rfl ?_ ?_
       rotate_left
       · go_simp
         try with_reducible rfl
       try simp only [Act.put, List.setIfInBounds_toArray, List.set_cons_zero, List.set_cons_succ])
    | (refine lexW_pure (v := ?_) rfl rfl ?_ ?_
       rotate_left
       · intro w' hU'
         go_simp
         try with_reducible rfl
       try simp only [Act.put, List.setIfInBounds_toArray, List.set_cons_zero, List.set_cons_succ])
    | (refine lexW_skip rfl ?_
       try simp only [Act.put, List.setIfInBounds_toArray, List.set_cons_zero, List.set_cons_succ])
  refine lexW_look (v := .int .i64 (s.g (c, d))) _ _ _ rfl rfl (fun w' u => h.look1 (c, d) u) ?_
  try simp only [Act.put, List.setIfInBounds_toArray, List.set_cons_zero, List.set_cons_succ]
  repeat
    first
    | (refine lexW_sure (v := ?_) rfl rfl ?_ ?_
       rotate_left
       · go_simp
         try with_reducible rfl
       try simp only [Act.put, List.setIfInBounds_toArray, List.set_cons_zero, List.set_cons_succ])
    | (refine lexW_pure (v := ?_) rfl rfl ?_ ?_
       rotate_left
       · intro w' hU'
         go_simp
         try with_reducible rfl
       try simp only [Act.put, List.setIfInBounds_toArray, List.set_cons_zero, List.set_cons_succ])
    | (refine lexW_skip rfl ?_
       try simp only [Act.put, List.setIfInBounds_toArray, List.set_cons_zero, List.set_cons_succ])
  refine lexW_store (w' := (W.setCell ⟨b, 0, none⟩ (.int .i64 m)).drew) rfl rfl (by go_simp) (Upd.ofDrew ((Upd.refl (Only b) W).set1 _).drew) ?_
  refine lexW_done ?_
  obtain ⟨h1, u1⟩ := h.now m
  replace hU := (hU.tr (u1.mono (fun x (e : x = b) => by rw [e]; exact h.ob))).drew
  replace hx := blk_drew (u1.blk hx (fun e => hnb (by have e : nb = b := e; rw [e]; exact h.ob)))
  replace h := h1.upd (Upd.refl Nil _).drew (fun x hx => hx.elim)
  clear c0 c1 c2 f0 x0 x1 h1 u1 hm
  generalize (W.setCell ⟨b, 0, none⟩ (.int .i64 m)).drew = W1 at *
  have hw1 := wr1 (x := m + 16) (by omega)
  have hw2 := wr2 (x := m + 16) (by omega)
  go_wp2_with fail
  have y0 := fun w' (u : Upd Nil W1.drew w') => blk_cell (u.blk (blk_drew h.blk) (fun h => h)) 0
  have y1 := fun w' (u : Upd Nil W1.drew w') => blk_cell (u.blk (blk_drew h.blk) (fun h => h)) 1
  have y2 := fun w' (u : Upd Nil W1.drew w') => blk_cell (u.blk (blk_drew h.blk) (fun h => h)) 2
  have z0 := fun w' (u : Upd Nil W1.drew w') => blk_cell (u.blk hx (fun h => h)) 0
  have z1 := fun w' (u : Upd Nil W1.drew w') => blk_cell (u.blk hx (fun h => h)) 1
  simp only [List.getElem?_toArray, List.getElem?_cons_zero, List.getElem?_cons_succ] at y0 y1 y2 z0 z1
  refine wp_region_lexW (Upd Nil) (fun _ => Upd.refl _ _) (fun _ _ _ h k => h.tr k) [(0, false), (1, false), (2, false), (3, false), (4, true), (5, false), (6, false), (7, false)] (by kernel_rfl) (by kernel_rfl) rfl (by kernel_rfl) (by kernel_rfl) ?_
  simp only [inOrderW, List.filterMap_cons, List.filterMap_nil, List.getElem?_cons_zero, List.getElem?_cons_succ, Option.map_some]
  try simp only [Act.put, List.setIfInBounds_toArray, List.set_cons_zero, List.set_cons_succ]
  repeat
    first
    | (refine lexW_sure (v := ?_) rfl rfl ?_ ?_
       rotate_left
       · go_simp
         try with_reducible rfl
       try simp only [Act.put, List.setIfInBounds_toArray, List.set_cons_zero, List.set_cons_succ])
    | (refine lexW_pure (v := ?_) rfl rfl ?_ ?_
       rotate_left
       · intro w' hU'
         go_simp
         try with_reducible rfl
       try simp only [Act.put, List.setIfInBounds_toArray, List.set_cons_zero, List.set_cons_succ])
    | (refine lexW_skip rfl ?_
       try simp only [Act.put, List.setIfInBounds_toArray, List.set_cons_zero, List.set_cons_succ])
  refine lexW_fn (f := 69) (args := _) rfl rfl (by go_simp) ((q _).mono ?_)
  rintro e w' ⟨rfl, rfl⟩
  refine ⟨_, rfl, Upd.refl _ _, ?_⟩
  try simp only [Act.put, List.setIfInBounds_toArray, List.set_cons_zero, List.set_cons_succ]
  repeat
    first
    | (refine lexW_sure (v := ?_) rfl rfl ?_ ?_
       rotate_left
       · go_simp
         try with_reducible rfl
       try simp only [Act.put, List.setIfInBounds_toArray, List.set_cons_zero, List.set_cons_succ])
    | (refine lexW_pure (v := ?_) rfl rfl ?_ ?_
       rotate_left
       · intro w' hU'
         go_simp
         try with_reducible rfl
       try simp only [Act.put, List.setIfInBounds_toArray, List.set_cons_zero, List.set_cons_succ])
    | (refine lexW_skip rfl ?_
       try simp only [Act.put, List.setIfInBounds_toArray, List.set_cons_zero, List.set_cons_succ])
  refine lexW_done ?_
  clear y0 y1 y2 z0 z1
  go_wp2_with fail
  replace hU := hU.drew
  replace hx := blk_drew hx
  replace h := h.upd (Upd.refl Nil _).drew (fun x hx => hx.elim)
  generalize W1.drew = W2 at *
  have c0 := blk_cell h.blk 0
  have c1 := blk_cell h.blk 1
  have c2 := blk_cell h.blk 2
  have f0 := blk_frozen h.blk 0
  have x0 := blk_cell hx 0
  have x1 := blk_cell hx 1
  simp only [List.getElem?_toArray, List.getElem?_cons_zero, List.getElem?_cons_succ] at c0 c1 c2 x0 x1
  obtain ⟨w5, hrun, hb5, u5⟩ := (h.upd (Upd.refl Nil _).drew (fun x hx => hx.elim)).putD (by omega) (c, d) (m + 16) (by omega)
  have hU5 := hU.drew.tr (u5.mono (fun x (e : x = b2) => by rw [e]; exact h.o2))
  refine wp_region_lexW (Upd (Only b2)) (fun _ => Upd.refl _ _) (fun _ _ _ h k => h.tr k) [(0, true), (1, true), (2, true), (3, true), (4, true), (5, true), (6, false)] (by kernel_rfl) (by kernel_rfl) rfl (by kernel_rfl) (by kernel_rfl) ?_
  simp only [inOrderW, List.filterMap_cons, List.filterMap_nil, List.getElem?_cons_zero, List.getElem?_cons_succ, Option.map_some]
  try simp only [Act.put, List.setIfInBounds_toArray, List.set_cons_zero, List.set_cons_succ]
  repeat
    first
    | (refine lexW_sure (v := ?_) rfl rfl ?_ ?_
       rotate_left
       · go_simp
         try with_reducible rfl
       try simp only [Act.put, List.setIfInBounds_toArray, List.set_cons_zero, List.set_cons_succ])
    | (refine lexW_pure (v := ?_) rfl rfl ?_ ?_
       rotate_left
       · intro w' hU'
         go_simp
         try with_reducible rfl
       try simp only [Act.put, List.setIfInBounds_toArray, List.set_cons_zero, List.set_cons_succ])
    | (refine lexW_skip rfl ?_
       try simp only [Act.put, List.setIfInBounds_toArray, List.set_cons_zero, List.set_cons_succ])
  refine lexW_mapu _ _ _ _ rfl rfl hrun u5 ?_
  refine lexW_done ?_
  go_wp2_with fail
  go_ret
  exact ⟨rfl, hb5.more (by omega), hU5⟩
set_option maxHeartbeats 4000000 in
set_option maxRecDepth 100000 in
theorem run2 (F : Nat → Prop) (b n : Nat) (s : St) (b1 b2 : Nat) (w : World) (h : Bd F w b n s b1 b2) (hF : ∀ x, F x → x < w.heap.size) (hB : Bds s 1000000) (hn : n < 1000) (c d : Fin 64) (m : Int) (hm : (if s.now < s.g (c, d) then s.g (c, d) else s.now) = m) (m2 : Int) (hm2 : (if m < s.f c then s.f c else m) = m2) :
    Calls Try.prog 85 #[.pointer (some ⟨b, 0, none⟩), .int .i64 2, .agg #[.int .i64 (c.val : Int), .int .i64 (d.val : Int)]] w (RunR F b n (⟨m2, put s.f c (m2 + 1), put s.g (c, d) (m2 + 5)⟩, m2 + 5) b1 b2 w) := by
  have q := aloneC 2 (by omega)
  rw [show alone 2 = 5 from rfl] at q
  have hm2H := Lib.hid hm2
  clear hm2
  have hx := blk_new w (.cells #[.int .i64 (c.val : Int), .int .i64 (d.val : Int)] 160)
  have hU := (Upd.refl F w).alloc (.cells #[.int .i64 (c.val : Int), .int .i64 (d.val : Int)] 160)
  replace h := h.upd ((Upd.refl Nil w).alloc (.cells #[.int .i64 (c.val : Int), .int .i64 (d.val : Int)] 160)) (fun x hx => hx.elim)
  have hnb : ¬ F w.heap.size := fun h => Nat.lt_irrefl _ (hF _ h)
  have hmb : 0 ≤ m ∧ m ≤ 1000000 := by have h1 := hB.now; have h2 := hB.g (c, d); have h3 := max_if hm; omega
  go_enter Try.func85, Try.ntmps85
  go_wp2_with fail
  generalize w.alloc (.cells #[.int .i64 (c.val : Int), .int .i64 (d.val : Int)] 160) = W at *
  generalize w.heap.size = nb at *
  have c0 := blk_cell h.blk 0
  have c1 := blk_cell h.blk 1
  have c2 := blk_cell h.blk 2
  have f0 := blk_frozen h.blk 0
  have x0 := blk_cell hx 0
  have x1 := blk_cell hx 1
  simp only [List.getElem?_toArray, List.getElem?_cons_zero, List.getElem?_cons_succ] at c0 c1 c2 x0 x1
  refine wp_region_lexW (Upd (Only b)) (fun _ => Upd.refl _ _) (fun _ _ _ h k => h.tr k) [(0, true), (1, true), (2, true), (3, true), (4, true), (5, true), (6, true), (7, true), (8, true), (9, true), (10, true), (11, true), (12, false), (13, true), (14, false)] (by kernel_rfl) (by kernel_rfl) rfl (by kernel_rfl) (by kernel_rfl) ?_
  simp only [inOrderW, List.filterMap_cons, List.filterMap_nil, List.getElem?_cons_zero, List.getElem?_cons_succ, Option.map_some]
  try simp only [Act.put, List.setIfInBounds_toArray, List.set_cons_zero, List.set_cons_succ]
  repeat
    first
    | (refine lexW_sure (v := ?_) rfl rfl ?_ ?_
       rotate_left
       · go_simp
         try with_reducible rfl
       try simp only [Act.put, List.setIfInBounds_toArray, List.set_cons_zero, List.set_cons_succ])
    | (refine lexW_pure (v := ?_) rfl rfl ?_ ?_
       rotate_left
       · intro w' hU'
         go_simp
         try with_reducible rfl
       try simp only [Act.put, List.setIfInBounds_toArray, List.set_cons_zero, List.set_cons_succ])
    | (refine lexW_skip rfl ?_
       try simp only [Act.put, List.setIfInBounds_toArray, List.set_cons_zero, List.set_cons_succ])
  refine lexW_look (v := .int .i64 (s.g (c, d))) _ _ _ rfl rfl (fun w' u => h.look1 (c, d) u) ?_
  try simp only [Act.put, List.setIfInBounds_toArray, List.set_cons_zero, List.set_cons_succ]
  repeat
    first
    | (refine lexW_sure (v := ?_) rfl rfl ?_ ?_
       rotate_left
       · go_simp
         try with_reducible rfl
       try simp only [Act.put, List.setIfInBounds_toArray, List.set_cons_zero, List.set_cons_succ])
    | (refine lexW_pure (v := ?_) rfl rfl ?_ ?_
       rotate_left
       · intro w' hU'
         go_simp
         try with_reducible rfl
       try simp only [Act.put, List.setIfInBounds_toArray, List.set_cons_zero, List.set_cons_succ])
    | (refine lexW_skip rfl ?_
       try simp only [Act.put, List.setIfInBounds_toArray, List.set_cons_zero, List.set_cons_succ])
  refine lexW_store (w' := (W.setCell ⟨b, 0, none⟩ (.int .i64 m)).drew) rfl rfl (by go_simp) (Upd.ofDrew ((Upd.refl (Only b) W).set1 _).drew) ?_
  refine lexW_done ?_
  obtain ⟨h1, u1⟩ := h.now m
  replace hU := (hU.tr (u1.mono (fun x (e : x = b) => by rw [e]; exact h.ob))).drew
  replace hx := blk_drew (u1.blk hx (fun e => hnb (by have e : nb = b := e; rw [e]; exact h.ob)))
  replace h := h1.upd (Upd.refl Nil _).drew (fun x hx => hx.elim)
  clear c0 c1 c2 f0 x0 x1 h1 u1 hm
  generalize (W.setCell ⟨b, 0, none⟩ (.int .i64 m)).drew = W1 at *
  have hm2 := hm2H.out
  have hmb2 : 0 ≤ m2 ∧ m2 ≤ 1000000 := by have h2 := hB.f c; have h3 := max_if hm2; omega
  have hw1 := wr1 (x := m2 + 5) (by omega)
  have hw2 := wr2 (x := m2 + 5) (by omega)
  have hw3 := wr1 (x := m2 + 1) (by omega)
  have hw4 := wr2 (x := m2 + 1) (by omega)
  go_wp2_with fail
  have c0 := blk_cell h.blk 0
  have c1 := blk_cell h.blk 1
  have c2 := blk_cell h.blk 2
  have f0 := blk_frozen h.blk 0
  have x0 := blk_cell hx 0
  have x1 := blk_cell hx 1
  simp only [List.getElem?_toArray, List.getElem?_cons_zero, List.getElem?_cons_succ] at c0 c1 c2 x0 x1
  refine wp_region_lexW (Upd (Only b)) (fun _ => Upd.refl _ _) (fun _ _ _ h k => h.tr k) [(0, true), (1, true), (2, true), (3, true), (4, true), (5, true), (6, true), (7, true), (8, true), (9, true), (10, true), (11, true), (12, true), (13, false), (14, true), (15, false)] (by kernel_rfl) (by kernel_rfl) rfl (by kernel_rfl) (by kernel_rfl) ?_
  simp only [inOrderW, List.filterMap_cons, List.filterMap_nil, List.getElem?_cons_zero, List.getElem?_cons_succ, Option.map_some]
  try simp only [Act.put, List.setIfInBounds_toArray, List.set_cons_zero, List.set_cons_succ]
  repeat
    first
    | (refine lexW_sure (v := ?_) rfl rfl ?_ ?_
       rotate_left
       · go_simp
         try with_reducible rfl
       try simp only [Act.put, List.setIfInBounds_toArray, List.set_cons_zero, List.set_cons_succ])
    | (refine lexW_pure (v := ?_) rfl rfl ?_ ?_
       rotate_left
       · intro w' hU'
         go_simp
         try with_reducible rfl
       try simp only [Act.put, List.setIfInBounds_toArray, List.set_cons_zero, List.set_cons_succ])
    | (refine lexW_skip rfl ?_
       try simp only [Act.put, List.setIfInBounds_toArray, List.set_cons_zero, List.set_cons_succ])
  refine lexW_look (v := .int .i64 (s.f c)) _ _ _ rfl rfl (fun w' u => h.look2 c u (h.mc.ne h.blk)) ?_
  try simp only [Act.put, List.setIfInBounds_toArray, List.set_cons_zero, List.set_cons_succ]
  repeat
    first
    | (refine lexW_sure (v := ?_) rfl rfl ?_ ?_
       rotate_left
       · go_simp
         try with_reducible rfl
       try simp only [Act.put, List.setIfInBounds_toArray, List.set_cons_zero, List.set_cons_succ])
    | (refine lexW_pure (v := ?_) rfl rfl ?_ ?_
       rotate_left
       · intro w' hU'
         go_simp
         try with_reducible rfl
       try simp only [Act.put, List.setIfInBounds_toArray, List.set_cons_zero, List.set_cons_succ])
    | (refine lexW_skip rfl ?_
       try simp only [Act.put, List.setIfInBounds_toArray, List.set_cons_zero, List.set_cons_succ])
  refine lexW_store (w' := (W1.setCell ⟨b, 0, none⟩ (.int .i64 m2)).drew) rfl rfl (by go_simp) (Upd.ofDrew ((Upd.refl (Only b) W1).set1 _).drew) ?_
  refine lexW_done ?_
  obtain ⟨h1, u1⟩ := h.now m2
  replace hU := (hU.tr (u1.mono (fun x (e : x = b) => by rw [e]; exact h.ob))).drew
  replace hx := blk_drew (u1.blk hx (fun e => hnb (by have e : nb = b := e; rw [e]; exact h.ob)))
  replace h := h1.upd (Upd.refl Nil _).drew (fun x hx => hx.elim)
  clear c0 c1 c2 f0 x0 x1 h1 u1 hm2
  generalize (W1.setCell ⟨b, 0, none⟩ (.int .i64 m2)).drew = W2 at *
  go_wp2_with fail
  have c0 := blk_cell h.blk 0
  have c1 := blk_cell h.blk 1
  have c2 := blk_cell h.blk 2
  have f0 := blk_frozen h.blk 0
  have x0 := blk_cell hx 0
  have x1 := blk_cell hx 1
  simp only [List.getElem?_toArray, List.getElem?_cons_zero, List.getElem?_cons_succ] at c0 c1 c2 x0 x1
  obtain ⟨W1, hrun, hb5, u5⟩ := (h.upd (Upd.refl Nil _).drew (fun x hx => hx.elim)).putC (by omega) c (m2 + 1) (by omega)
  replace hU := hU.drew.tr (u5.mono (fun x (e : x = b1) => by rw [e]; exact h.o1))
  replace hx := u5.blk (blk_drew hx) (fun e => hnb (by have e : nb = b1 := e; rw [e]; exact h.o1))
  refine wp_region_lexW (Upd (Only b1)) (fun _ => Upd.refl _ _) (fun _ _ _ h k => h.tr k) [(0, true), (1, true), (2, true), (3, true), (4, true), (5, true), (6, true), (7, true), (8, true), (9, true), (10, true), (11, false)] (by kernel_rfl) (by kernel_rfl) rfl (by kernel_rfl) (by kernel_rfl) ?_
  simp only [inOrderW, List.filterMap_cons, List.filterMap_nil, List.getElem?_cons_zero, List.getElem?_cons_succ, Option.map_some]
  try simp only [Act.put, List.setIfInBounds_toArray, List.set_cons_zero, List.set_cons_succ]
  repeat
    first
    | (refine lexW_sure (v := ?_) rfl rfl ?_ ?_
       rotate_left
       · go_simp
         try with_reducible rfl
       try simp only [Act.put, List.setIfInBounds_toArray, List.set_cons_zero, List.set_cons_succ])
    | (refine lexW_pure (v := ?_) rfl rfl ?_ ?_
       rotate_left
       · intro w' hU'
         go_simp
         try with_reducible rfl
       try simp only [Act.put, List.setIfInBounds_toArray, List.set_cons_zero, List.set_cons_succ])
    | (refine lexW_skip rfl ?_
       try simp only [Act.put, List.setIfInBounds_toArray, List.set_cons_zero, List.set_cons_succ])
  refine lexW_mapu _ _ _ _ rfl rfl hrun u5 ?_
  refine lexW_done ?_
  clear c0 c1 c2 f0 x0 x1 h hrun u5
  have h := hb5
  clear hb5
  go_wp2_with fail
  have y0 := fun w' (u : Upd Nil W1.drew w') => blk_cell (u.blk (blk_drew h.blk) (fun h => h)) 0
  have y1 := fun w' (u : Upd Nil W1.drew w') => blk_cell (u.blk (blk_drew h.blk) (fun h => h)) 1
  have y2 := fun w' (u : Upd Nil W1.drew w') => blk_cell (u.blk (blk_drew h.blk) (fun h => h)) 2
  have z0 := fun w' (u : Upd Nil W1.drew w') => blk_cell (u.blk hx (fun h => h)) 0
  have z1 := fun w' (u : Upd Nil W1.drew w') => blk_cell (u.blk hx (fun h => h)) 1
  simp only [List.getElem?_toArray, List.getElem?_cons_zero, List.getElem?_cons_succ] at y0 y1 y2 z0 z1
  refine wp_region_lexW (Upd Nil) (fun _ => Upd.refl _ _) (fun _ _ _ h k => h.tr k) [(0, false), (1, false), (2, false), (3, false), (4, true), (5, false), (6, false), (7, false)] (by kernel_rfl) (by kernel_rfl) rfl (by kernel_rfl) (by kernel_rfl) ?_
  simp only [inOrderW, List.filterMap_cons, List.filterMap_nil, List.getElem?_cons_zero, List.getElem?_cons_succ, Option.map_some]
  try simp only [Act.put, List.setIfInBounds_toArray, List.set_cons_zero, List.set_cons_succ]
  repeat
    first
    | (refine lexW_sure (v := ?_) rfl rfl ?_ ?_
       rotate_left
       · go_simp
         try with_reducible rfl
       try simp only [Act.put, List.setIfInBounds_toArray, List.set_cons_zero, List.set_cons_succ])
    | (refine lexW_pure (v := ?_) rfl rfl ?_ ?_
       rotate_left
       · intro w' hU'
         go_simp
         try with_reducible rfl
       try simp only [Act.put, List.setIfInBounds_toArray, List.set_cons_zero, List.set_cons_succ])
    | (refine lexW_skip rfl ?_
       try simp only [Act.put, List.setIfInBounds_toArray, List.set_cons_zero, List.set_cons_succ])
  refine lexW_fn (f := 69) (args := _) rfl rfl (by go_simp) ((q _).mono ?_)
  rintro e w' ⟨rfl, rfl⟩
  refine ⟨_, rfl, Upd.refl _ _, ?_⟩
  try simp only [Act.put, List.setIfInBounds_toArray, List.set_cons_zero, List.set_cons_succ]
  repeat
    first
    | (refine lexW_sure (v := ?_) rfl rfl ?_ ?_
       rotate_left
       · go_simp
         try with_reducible rfl
       try simp only [Act.put, List.setIfInBounds_toArray, List.set_cons_zero, List.set_cons_succ])
    | (refine lexW_pure (v := ?_) rfl rfl ?_ ?_
       rotate_left
       · intro w' hU'
         go_simp
         try with_reducible rfl
       try simp only [Act.put, List.setIfInBounds_toArray, List.set_cons_zero, List.set_cons_succ])
    | (refine lexW_skip rfl ?_
       try simp only [Act.put, List.setIfInBounds_toArray, List.set_cons_zero, List.set_cons_succ])
  refine lexW_done ?_
  clear y0 y1 y2 z0 z1
  go_wp2_with fail
  replace hU := hU.drew
  replace hx := blk_drew hx
  replace h := h.upd (Upd.refl Nil _).drew (fun x hx => hx.elim)
  generalize W1.drew = W5 at *
  have c0 := blk_cell h.blk 0
  have c1 := blk_cell h.blk 1
  have c2 := blk_cell h.blk 2
  have f0 := blk_frozen h.blk 0
  have x0 := blk_cell hx 0
  have x1 := blk_cell hx 1
  simp only [List.getElem?_toArray, List.getElem?_cons_zero, List.getElem?_cons_succ] at c0 c1 c2 x0 x1
  obtain ⟨w5, hrun, hb5, u5⟩ := (h.upd (Upd.refl Nil _).drew (fun x hx => hx.elim)).putD (by omega) (c, d) (m2 + 5) (by omega)
  have hU5 := hU.drew.tr (u5.mono (fun x (e : x = b2) => by rw [e]; exact h.o2))
  refine wp_region_lexW (Upd (Only b2)) (fun _ => Upd.refl _ _) (fun _ _ _ h k => h.tr k) [(0, true), (1, true), (2, true), (3, true), (4, true), (5, true), (6, false)] (by kernel_rfl) (by kernel_rfl) rfl (by kernel_rfl) (by kernel_rfl) ?_
  simp only [inOrderW, List.filterMap_cons, List.filterMap_nil, List.getElem?_cons_zero, List.getElem?_cons_succ, Option.map_some]
  try simp only [Act.put, List.setIfInBounds_toArray, List.set_cons_zero, List.set_cons_succ]
  repeat
    first
    | (refine lexW_sure (v := ?_) rfl rfl ?_ ?_
       rotate_left
       · go_simp
         try with_reducible rfl
       try simp only [Act.put, List.setIfInBounds_toArray, List.set_cons_zero, List.set_cons_succ])
    | (refine lexW_pure (v := ?_) rfl rfl ?_ ?_
       rotate_left
       · intro w' hU'
         go_simp
         try with_reducible rfl
       try simp only [Act.put, List.setIfInBounds_toArray, List.set_cons_zero, List.set_cons_succ])
    | (refine lexW_skip rfl ?_
       try simp only [Act.put, List.setIfInBounds_toArray, List.set_cons_zero, List.set_cons_succ])
  refine lexW_mapu _ _ _ _ rfl rfl hrun u5 ?_
  refine lexW_done ?_
  go_wp2_with fail
  go_ret
  exact ⟨rfl, hb5.more (by omega), hU5⟩
set_option maxHeartbeats 4000000 in
set_option maxRecDepth 100000 in
theorem run1 (F : Nat → Prop) (b n : Nat) (s : St) (b1 b2 : Nat) (w : World) (h : Bd F w b n s b1 b2) (hF : ∀ x, F x → x < w.heap.size) (hB : Bds s 1000000) (hn : n < 1000) (c d : Fin 64) (m : Int) (hm : (if s.now < s.g (c, d) then s.g (c, d) else s.now) = m) (m2 : Int) (hm2 : (if m + 1 < s.f c then s.f c else m + 1) = m2) :
    Calls Try.prog 85 #[.pointer (some ⟨b, 0, none⟩), .int .i64 1, .agg #[.int .i64 (c.val : Int), .int .i64 (d.val : Int)]] w (RunR F b n (⟨m, put s.f c (m2 + 1), put s.g (c, d) (m2 + 1)⟩, m2 + 1) b1 b2 w) := by
  have q := aloneC 1 (by omega)
  rw [show alone 1 = 2 from rfl] at q
  have q2 := ticks 1
  rw [show tick 1 = 1 from rfl] at q2
  have hm2H := Lib.hid hm2
  clear hm2
  have hx := blk_new w (.cells #[.int .i64 (c.val : Int), .int .i64 (d.val : Int)] 160)
  have hU := (Upd.refl F w).alloc (.cells #[.int .i64 (c.val : Int), .int .i64 (d.val : Int)] 160)
  replace h := h.upd ((Upd.refl Nil w).alloc (.cells #[.int .i64 (c.val : Int), .int .i64 (d.val : Int)] 160)) (fun x hx => hx.elim)
  have hnb : ¬ F w.heap.size := fun h => Nat.lt_irrefl _ (hF _ h)
  have hmb : 0 ≤ m ∧ m ≤ 1000000 := by have h1 := hB.now; have h2 := hB.g (c, d); have h3 := max_if hm; omega
  go_enter Try.func85, Try.ntmps85
  go_wp2_with fail
  generalize w.alloc (.cells #[.int .i64 (c.val : Int), .int .i64 (d.val : Int)] 160) = W at *
  generalize w.heap.size = nb at *
  have c0 := blk_cell h.blk 0
  have c1 := blk_cell h.blk 1
  have c2 := blk_cell h.blk 2
  have f0 := blk_frozen h.blk 0
  have x0 := blk_cell hx 0
  have x1 := blk_cell hx 1
  simp only [List.getElem?_toArray, List.getElem?_cons_zero, List.getElem?_cons_succ] at c0 c1 c2 x0 x1
  refine wp_region_lexW (Upd (Only b)) (fun _ => Upd.refl _ _) (fun _ _ _ h k => h.tr k) [(0, true), (1, true), (2, true), (3, true), (4, true), (5, true), (6, true), (7, true), (8, true), (9, true), (10, true), (11, true), (12, false), (13, true), (14, false)] (by kernel_rfl) (by kernel_rfl) rfl (by kernel_rfl) (by kernel_rfl) ?_
  simp only [inOrderW, List.filterMap_cons, List.filterMap_nil, List.getElem?_cons_zero, List.getElem?_cons_succ, Option.map_some]
  try simp only [Act.put, List.setIfInBounds_toArray, List.set_cons_zero, List.set_cons_succ]
  repeat
    first
    | (refine lexW_sure (v := ?_) rfl rfl ?_ ?_
       rotate_left
       · go_simp
         try with_reducible rfl
       try simp only [Act.put, List.setIfInBounds_toArray, List.set_cons_zero, List.set_cons_succ])
    | (refine lexW_pure (v := ?_) rfl rfl ?_ ?_
       rotate_left
       · intro w' hU'
         go_simp
         try with_reducible rfl
       try simp only [Act.put, List.setIfInBounds_toArray, List.set_cons_zero, List.set_cons_succ])
    | (refine lexW_skip rfl ?_
       try simp only [Act.put, List.setIfInBounds_toArray, List.set_cons_zero, List.set_cons_succ])
  refine lexW_look (v := .int .i64 (s.g (c, d))) _ _ _ rfl rfl (fun w' u => h.look1 (c, d) u) ?_
  try simp only [Act.put, List.setIfInBounds_toArray, List.set_cons_zero, List.set_cons_succ]
  repeat
    first
    | (refine lexW_sure (v := ?_) rfl rfl ?_ ?_
       rotate_left
       · go_simp
         try with_reducible rfl
       try simp only [Act.put, List.setIfInBounds_toArray, List.set_cons_zero, List.set_cons_succ])
    | (refine lexW_pure (v := ?_) rfl rfl ?_ ?_
       rotate_left
       · intro w' hU'
         go_simp
         try with_reducible rfl
       try simp only [Act.put, List.setIfInBounds_toArray, List.set_cons_zero, List.set_cons_succ])
    | (refine lexW_skip rfl ?_
       try simp only [Act.put, List.setIfInBounds_toArray, List.set_cons_zero, List.set_cons_succ])
  refine lexW_store (w' := (W.setCell ⟨b, 0, none⟩ (.int .i64 m)).drew) rfl rfl (by go_simp) (Upd.ofDrew ((Upd.refl (Only b) W).set1 _).drew) ?_
  refine lexW_done ?_
  obtain ⟨h1, u1⟩ := h.now m
  replace hU := (hU.tr (u1.mono (fun x (e : x = b) => by rw [e]; exact h.ob))).drew
  replace hx := blk_drew (u1.blk hx (fun e => hnb (by have e : nb = b := e; rw [e]; exact h.ob)))
  replace h := h1.upd (Upd.refl Nil _).drew (fun x hx => hx.elim)
  clear c0 c1 c2 f0 x0 x1 h1 u1 hm
  generalize (W.setCell ⟨b, 0, none⟩ (.int .i64 m)).drew = W1 at *
  have hm2 := hm2H.out
  have hmb2 : 0 ≤ m2 ∧ m2 ≤ 1000001 := by have h2 := hB.f c; have h3 := max_if hm2; omega
  have hw1 := wr1 (x := m + 2) (by omega)
  have hw2 := wr2 (x := m + 2) (by omega)
  have hw3 := wr1 (x := m2 + 1) (by omega)
  have hw4 := wr2 (x := m2 + 1) (by omega)
  have hw5 := wr1 (x := m + 1) (by omega)
  have hw6 := wr2 (x := m + 1) (by omega)
  go_wp2_with fail
  have y0 := fun w' (u : Upd Nil W1.drew w') => blk_cell (u.blk (blk_drew h.blk) (fun h => h)) 0
  have y1 := fun w' (u : Upd Nil W1.drew w') => blk_cell (u.blk (blk_drew h.blk) (fun h => h)) 1
  have y2 := fun w' (u : Upd Nil W1.drew w') => blk_cell (u.blk (blk_drew h.blk) (fun h => h)) 2
  have z0 := fun w' (u : Upd Nil W1.drew w') => blk_cell (u.blk hx (fun h => h)) 0
  have z1 := fun w' (u : Upd Nil W1.drew w') => blk_cell (u.blk hx (fun h => h)) 1
  simp only [List.getElem?_toArray, List.getElem?_cons_zero, List.getElem?_cons_succ] at y0 y1 y2 z0 z1
  refine wp_region_lexW (Upd Nil) (fun _ => Upd.refl _ _) (fun _ _ _ h k => h.tr k) [(0, false), (1, false), (2, false), (3, false), (4, true), (5, false), (6, false), (7, false)] (by kernel_rfl) (by kernel_rfl) rfl (by kernel_rfl) (by kernel_rfl) ?_
  simp only [inOrderW, List.filterMap_cons, List.filterMap_nil, List.getElem?_cons_zero, List.getElem?_cons_succ, Option.map_some]
  try simp only [Act.put, List.setIfInBounds_toArray, List.set_cons_zero, List.set_cons_succ]
  repeat
    first
    | (refine lexW_sure (v := ?_) rfl rfl ?_ ?_
       rotate_left
       · go_simp
         try with_reducible rfl
       try simp only [Act.put, List.setIfInBounds_toArray, List.set_cons_zero, List.set_cons_succ])
    | (refine lexW_pure (v := ?_) rfl rfl ?_ ?_
       rotate_left
       · intro w' hU'
         go_simp
         try with_reducible rfl
       try simp only [Act.put, List.setIfInBounds_toArray, List.set_cons_zero, List.set_cons_succ])
    | (refine lexW_skip rfl ?_
       try simp only [Act.put, List.setIfInBounds_toArray, List.set_cons_zero, List.set_cons_succ])
  refine lexW_fn (f := 69) (args := _) rfl rfl (by go_simp) ((q _).mono ?_)
  rintro e w' ⟨rfl, rfl⟩
  refine ⟨_, rfl, Upd.refl _ _, ?_⟩
  try simp only [Act.put, List.setIfInBounds_toArray, List.set_cons_zero, List.set_cons_succ]
  repeat
    first
    | (refine lexW_sure (v := ?_) rfl rfl ?_ ?_
       rotate_left
       · go_simp
         try with_reducible rfl
       try simp only [Act.put, List.setIfInBounds_toArray, List.set_cons_zero, List.set_cons_succ])
    | (refine lexW_pure (v := ?_) rfl rfl ?_ ?_
       rotate_left
       · intro w' hU'
         go_simp
         try with_reducible rfl
       try simp only [Act.put, List.setIfInBounds_toArray, List.set_cons_zero, List.set_cons_succ])
    | (refine lexW_skip rfl ?_
       try simp only [Act.put, List.setIfInBounds_toArray, List.set_cons_zero, List.set_cons_succ])
  refine lexW_done ?_
  clear y0 y1 y2 z0 z1
  go_wp2_with fail
  replace hU := hU.drew
  replace hx := blk_drew hx
  replace h := h.upd (Upd.refl Nil _).drew (fun x hx => hx.elim)
  generalize W1.drew = W1 at *
  have y0 := fun w' (u : Upd Nil W1.drew w') => blk_cell (u.blk (blk_drew h.blk) (fun h => h)) 0
  have y1 := fun w' (u : Upd Nil W1.drew w') => blk_cell (u.blk (blk_drew h.blk) (fun h => h)) 1
  have y2 := fun w' (u : Upd Nil W1.drew w') => blk_cell (u.blk (blk_drew h.blk) (fun h => h)) 2
  have z0 := fun w' (u : Upd Nil W1.drew w') => blk_cell (u.blk hx (fun h => h)) 0
  have z1 := fun w' (u : Upd Nil W1.drew w') => blk_cell (u.blk hx (fun h => h)) 1
  simp only [List.getElem?_toArray, List.getElem?_cons_zero, List.getElem?_cons_succ] at y0 y1 y2 z0 z1
  refine wp_region_lexW (Upd Nil) (fun _ => Upd.refl _ _) (fun _ _ _ h k => h.tr k) [(0, false), (1, false), (2, false), (3, false), (4, true), (7, false), (8, false), (9, false), (10, false), (11, false), (12, false), (13, false), (5, false), (6, false), (14, false), (15, false)] (by kernel_rfl) (by kernel_rfl) rfl (by kernel_rfl) (by kernel_rfl) ?_
  simp only [inOrderW, List.filterMap_cons, List.filterMap_nil, List.getElem?_cons_zero, List.getElem?_cons_succ, Option.map_some]
  try simp only [Act.put, List.setIfInBounds_toArray, List.set_cons_zero, List.set_cons_succ]
  repeat
    first
    | (refine lexW_sure (v := ?_) rfl rfl ?_ ?_
       rotate_left
       · go_simp
         try with_reducible rfl
       try simp only [Act.put, List.setIfInBounds_toArray, List.set_cons_zero, List.set_cons_succ])
    | (refine lexW_pure (v := ?_) rfl rfl ?_ ?_
       rotate_left
       · intro w' hU'
         go_simp
         try with_reducible rfl
       try simp only [Act.put, List.setIfInBounds_toArray, List.set_cons_zero, List.set_cons_succ])
    | (refine lexW_skip rfl ?_
       try simp only [Act.put, List.setIfInBounds_toArray, List.set_cons_zero, List.set_cons_succ])
  refine lexW_look (v := .int .i64 (s.f c)) _ _ _ rfl rfl (fun w' u => h.look2 c u (fun h => h)) ?_
  try simp only [Act.put, List.setIfInBounds_toArray, List.set_cons_zero, List.set_cons_succ]
  repeat
    first
    | (refine lexW_sure (v := ?_) rfl rfl ?_ ?_
       rotate_left
       · go_simp
         try with_reducible rfl
       try simp only [Act.put, List.setIfInBounds_toArray, List.set_cons_zero, List.set_cons_succ])
    | (refine lexW_pure (v := ?_) rfl rfl ?_ ?_
       rotate_left
       · intro w' hU'
         go_simp
         try with_reducible rfl
       try simp only [Act.put, List.setIfInBounds_toArray, List.set_cons_zero, List.set_cons_succ])
    | (refine lexW_skip rfl ?_
       try simp only [Act.put, List.setIfInBounds_toArray, List.set_cons_zero, List.set_cons_succ])
  refine lexW_fn (f := 82) (args := _) rfl rfl (by go_simp) ((q2 _).mono ?_)
  rintro e w' ⟨rfl, rfl⟩
  refine ⟨_, rfl, Upd.refl _ _, ?_⟩
  try simp only [Act.put, List.setIfInBounds_toArray, List.set_cons_zero, List.set_cons_succ]
  repeat
    first
    | (refine lexW_sure (v := ?_) rfl rfl ?_ ?_
       rotate_left
       · go_simp
         try with_reducible rfl
       try simp only [Act.put, List.setIfInBounds_toArray, List.set_cons_zero, List.set_cons_succ])
    | (refine lexW_pure (v := ?_) rfl rfl ?_ ?_
       rotate_left
       · intro w' hU'
         go_simp
         try with_reducible rfl
       try simp only [Act.put, List.setIfInBounds_toArray, List.set_cons_zero, List.set_cons_succ])
    | (refine lexW_skip rfl ?_
       try simp only [Act.put, List.setIfInBounds_toArray, List.set_cons_zero, List.set_cons_succ])
  refine lexW_done ?_
  clear y0 y1 y2 z0 z1 hm2
  go_wp2_with fail
  replace hU := hU.drew
  replace hx := blk_drew hx
  replace h := h.upd (Upd.refl Nil _).drew (fun x hx => hx.elim)
  generalize W1.drew = W2 at *
  have c0 := blk_cell h.blk 0
  have c1 := blk_cell h.blk 1
  have c2 := blk_cell h.blk 2
  have f0 := blk_frozen h.blk 0
  have x0 := blk_cell hx 0
  have x1 := blk_cell hx 1
  simp only [List.getElem?_toArray, List.getElem?_cons_zero, List.getElem?_cons_succ] at c0 c1 c2 x0 x1
  obtain ⟨w5, hrun, hb5, u5⟩ := (h.upd (Upd.refl Nil _).drew (fun x hx => hx.elim)).putC (by omega) c (m2 + 1) (by omega)
  replace hU := hU.drew.tr (u5.mono (fun x (e : x = b1) => by rw [e]; exact h.o1))
  replace hx := u5.blk (blk_drew hx) (fun e => hnb (by have e : nb = b1 := e; rw [e]; exact h.o1))
  refine wp_region_lexW (Upd (Only b1)) (fun _ => Upd.refl _ _) (fun _ _ _ h k => h.tr k) [(0, true), (1, true), (2, true), (3, true), (4, true), (5, true), (6, true), (7, false)] (by kernel_rfl) (by kernel_rfl) rfl (by kernel_rfl) (by kernel_rfl) ?_
  simp only [inOrderW, List.filterMap_cons, List.filterMap_nil, List.getElem?_cons_zero, List.getElem?_cons_succ, Option.map_some]
  try simp only [Act.put, List.setIfInBounds_toArray, List.set_cons_zero, List.set_cons_succ]
  repeat
    first
    | (refine lexW_sure (v := ?_) rfl rfl ?_ ?_
       rotate_left
       · go_simp
         try with_reducible rfl
       try simp only [Act.put, List.setIfInBounds_toArray, List.set_cons_zero, List.set_cons_succ])
    | (refine lexW_pure (v := ?_) rfl rfl ?_ ?_
       rotate_left
       · intro w' hU'
         go_simp
         try with_reducible rfl
       try simp only [Act.put, List.setIfInBounds_toArray, List.set_cons_zero, List.set_cons_succ])
    | (refine lexW_skip rfl ?_
       try simp only [Act.put, List.setIfInBounds_toArray, List.set_cons_zero, List.set_cons_succ])
  refine lexW_mapu _ _ _ _ rfl rfl hrun u5 ?_
  refine lexW_done ?_
  clear c0 c1 c2 f0 x0 x1 h hrun u5
  have h := hb5
  clear hb5
  go_wp2_with fail
  have c0 := blk_cell h.blk 0
  have c1 := blk_cell h.blk 1
  have c2 := blk_cell h.blk 2
  have f0 := blk_frozen h.blk 0
  have x0 := blk_cell hx 0
  have x1 := blk_cell hx 1
  simp only [List.getElem?_toArray, List.getElem?_cons_zero, List.getElem?_cons_succ] at c0 c1 c2 x0 x1
  obtain ⟨w5, hrun, hb5, u5⟩ := (h.upd (Upd.refl Nil _).drew (fun x hx => hx.elim)).putD (by omega) (c, d) (m2 + 1) (by omega)
  have hU5 := hU.drew.tr (u5.mono (fun x (e : x = b2) => by rw [e]; exact h.o2))
  refine wp_region_lexW (Upd (Only b2)) (fun _ => Upd.refl _ _) (fun _ _ _ h k => h.tr k) [(0, true), (1, true), (2, true), (3, true), (4, true), (5, true), (6, false)] (by kernel_rfl) (by kernel_rfl) rfl (by kernel_rfl) (by kernel_rfl) ?_
  simp only [inOrderW, List.filterMap_cons, List.filterMap_nil, List.getElem?_cons_zero, List.getElem?_cons_succ, Option.map_some]
  try simp only [Act.put, List.setIfInBounds_toArray, List.set_cons_zero, List.set_cons_succ]
  repeat
    first
    | (refine lexW_sure (v := ?_) rfl rfl ?_ ?_
       rotate_left
       · go_simp
         try with_reducible rfl
       try simp only [Act.put, List.setIfInBounds_toArray, List.set_cons_zero, List.set_cons_succ])
    | (refine lexW_pure (v := ?_) rfl rfl ?_ ?_
       rotate_left
       · intro w' hU'
         go_simp
         try with_reducible rfl
       try simp only [Act.put, List.setIfInBounds_toArray, List.set_cons_zero, List.set_cons_succ])
    | (refine lexW_skip rfl ?_
       try simp only [Act.put, List.setIfInBounds_toArray, List.set_cons_zero, List.set_cons_succ])
  refine lexW_mapu _ _ _ _ rfl rfl hrun u5 ?_
  refine lexW_done ?_
  go_wp2_with fail
  go_ret
  exact ⟨rfl, hb5.more (by omega), hU5⟩
theorem run (F : Nat → Prop) (b n : Nat) (s : St) (b1 b2 : Nat) (w : World) (h : Bd F w b n s b1 b2) (hF : ∀ x, F x → x < w.heap.size) (hB : Bds s 1000000) (hn : n < 1000) (k : Int) (hk : k = 1 ∨ k = 2 ∨ k = 3) (c d : Fin 64) :
    Calls Try.prog 85 #[.pointer (some ⟨b, 0, none⟩), .int .i64 k, .agg #[.int .i64 (c.val : Int), .int .i64 (d.val : Int)]] w (RunR F b n (stp s k c d) b1 b2 w) := by
  rcases hk with rfl | rfl | rfl
  · rw [show stp s 1 c d = (⟨max s.now (s.g (c, d)), put s.f c (max (max s.now (s.g (c, d)) + 1) (s.f c) + 1), put s.g (c, d) (max (max s.now (s.g (c, d)) + 1) (s.f c) + 1)⟩, max (max s.now (s.g (c, d)) + 1) (s.f c) + 1) from rfl]
    rw [max_if rfl, max_if (x := (if s.now < s.g (c, d) then s.g (c, d) else s.now) + 1) rfl]
    exact run1 F b n s b1 b2 w h hF hB hn c d _ rfl _ rfl
  · rw [show stp s 2 c d = (⟨max (max s.now (s.g (c, d))) (s.f c), put s.f c (max (max s.now (s.g (c, d))) (s.f c) + 1), put s.g (c, d) (max (max s.now (s.g (c, d))) (s.f c) + 5)⟩, max (max s.now (s.g (c, d))) (s.f c) + 5) from rfl]
    rw [max_if (x := s.now) rfl, max_if (x := (if s.now < s.g (c, d) then s.g (c, d) else s.now)) rfl]
    exact run2 F b n s b1 b2 w h hF hB hn c d _ rfl _ rfl
  · rw [show stp s 3 c d = (⟨max s.now (s.g (c, d)), s.f, put s.g (c, d) (max s.now (s.g (c, d)) + 16)⟩, max s.now (s.g (c, d)) + 16) from rfl]
    rw [max_if rfl]
    exact run3 F b n s b1 b2 w h hF hB hn c d _ rfl
end Go.Proofs.Ytcifkccaiekkeaa.Clock
