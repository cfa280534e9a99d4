/-
  The walks of 'almshouselaw20.fixed' and 'almshouselaw20.QueueNone': each returns true and turns nothing that there was. Conditions: none.
-/
import Derived.Test.YtobhpfbldmobfaaQueue
namespace Go.Proofs.Ytobhpfbldmobfaa.QueueL
open Go.RowKit Go.Proofs.Ytobhpfbldmobfaa.Base Go.Proofs.Ytobhpfbldmobfaa.Queue
set_option linter.unusedVariables false
theorem Qu.own {B : Nat} {w : World} {b : Nat} {vw vd : Value} {ws ds : List Rec} (h : Qu B w b vw vd ws ds) : ∀ k, vd.ownBlock = some k → vw.ownBlock ≠ some k := by
  intro k hk hk2
  obtain ⟨_, c1, h1⟩ := h.ds.typed k hk
  exact h.ws.ne h1 (by decide) k hk2 rfl
theorem Qu.own' {B : Nat} {w : World} {b : Nat} {vw vd : Value} {ws ds : List Rec} (h : Qu B w b vw vd ws ds) : ∀ k, vw.ownBlock = some k → vd.ownBlock ≠ some k := fun k hk hk2 => Qu.own h k hk2 hk
theorem newQ {a w w' : World} {b : Nat} {v : Value} (h : Upd Nil a w) (k : Upd (QS b v) w w') (hb : a.heap.size ≤ b) (hv : ∀ k, v.ownBlock = some k → a.heap.size ≤ k) : Upd Nil a w' :=
  h.trans k (fun x hx => .inr (hx.elim (fun e => e ▸ hb) (fun e => hv x e)))
theorem base_w {B : Nat} {w : World} {b : Nat} {vw vd : Value} {ws ds : List Rec} (h : Qu B w b vw vd ws ds) : ∀ k, vw.ownBlock = some k → B ≤ k := fun k hk => (h.ws.typed k hk).1
theorem base_d {B : Nat} {w : World} {b : Nat} {vw vd : Value} {ws ds : List Rec} (h : Qu B w b vw vd ws ds) : ∀ k, vd.ownBlock = some k → B ≤ k := fun k hk => (h.ds.typed k hk).1

theorem chk_flush : chk ⟨4, 0, ⟨#[]⟩⟩ = 0 := by simp [chk]
theorem chk_bad : chk ⟨1, 0, ⟨#[120]⟩⟩ = 1 := by simp [chk]
theorem sub1 : subR [] ⟨4, 0, ⟨#[]⟩⟩ = (0, [⟨4, 0, ⟨#[]⟩⟩]) := by simp [subR, chk_flush]
theorem sub2 : subR [⟨4, 0, ⟨#[]⟩⟩] ⟨1, 0, ⟨#[120]⟩⟩ = (1, [⟨4, 0, ⟨#[]⟩⟩]) := by simp [subR, chk_bad]
set_option maxHeartbeats 4000000 in
set_option maxRecDepth 100000 in
theorem fixed_true (w : World) : Calls Try.prog 47 #[] w (RetB true w) := by
  go_enter Try.func47, Try.ntmps47
  go_wp2_with fail
  refine (new w.heap.size w).mono ?_
  rintro e w1 ⟨b, rfl, hb, hQ, hU⟩
  go_wp2_with fail
  refine (submit w.heap.size b _ _ [] [] ⟨4, 0, ⟨#[]⟩⟩ w1 hQ hU.size (Qu.own hQ)).mono ?_
  rintro e w2 ⟨he2, ⟨v2, hQ2, _⟩, hU2⟩
  rw [sub1] at hQ2 he2
  subst he2
  have hV2 := newQ hU hU2 hb (base_w hQ)
  clear hU hU2 hQ
  go_wp2_with fail
  refine (submit w.heap.size b _ _ _ [] ⟨1, 0, ⟨#[120]⟩⟩ w2 hQ2 hV2.size (Qu.own hQ2)).mono ?_
  rintro e w3 ⟨he3, ⟨v3, hQ3, _⟩, hU3⟩
  rw [sub2] at hQ3 he3
  subst he3
  have hV3 := newQ hV2 hU3 hb (base_w hQ2)
  clear hV2 hU3 hQ2
  go_wp2_with fail
  refine (next_some w.heap.size b _ _ ⟨4, 0, ⟨#[]⟩⟩ [] [] w3 hQ3).mono ?_
  rintro e w4 ⟨rfl, ⟨v4, hQ4, hk4⟩, hU4⟩
  have hV4 := hV3.newOnly hU4 hb
  have ho4 : ∀ k, v4.ownBlock = some k → w.heap.size ≤ k := base_w hQ4
  have hlt4 : b < w4.heap.size := blk_lt hQ4.blk
  clear hV3 hU4 hQ3 hk4
  have hF := blk_new w4 (.cells #[.int .i64 4, .int .i64 0, .string ⟨#[]⟩] 78)
  have hUF : Upd Nil w4 (w4.alloc (.cells #[.int .i64 4, .int .i64 0, .string ⟨#[]⟩] 78)) := (Upd.refl _ _).alloc _
  have hQ5 := hQ4.upd hUF (fun h => h) (fun _ _ h => h) (fun _ _ h => h)
  go_wp2_with fail
  refine (next_none w.heap.size b _ _ [] _ hQ5).mono ?_
  rintro e w6 ⟨rfl, hU6⟩
  have hV6 := (hV4.alloc (.cells #[.int .i64 4, .int .i64 0, .string ⟨#[]⟩] 78)).trans hU6 (fun x hx => .inl hx)
  have hQ6 := (hQ5.upd hU6 (fun h => h) (fun _ _ h => h) (fun _ _ h => h)).upd ((Upd.refl Nil w6).alloc (.cells #[.int .i64 0, .int .i64 0, .string ⟨#[]⟩] 78)) (fun h => h) (fun _ _ h => h) (fun _ _ h => h)
  have hF6 := blk_alloc (hU6.blk hF (fun h => h)) (.cells #[.int .i64 0, .int .i64 0, .string ⟨#[]⟩] 78)
  have hV7 := hV6.alloc (.cells #[.int .i64 0, .int .i64 0, .string ⟨#[]⟩] 78)
  clear hV4 hQ4 hF hUF hQ5 hU6 hV6
  go_wp2_with fail
  refine (done w.heap.size b _ _ [] [] ⟨3, 0, ⟨#[]⟩⟩ _ hQ6 hV7.size (by simp) (Qu.own' hQ6)).mono ?_
  rintro e w8 ⟨rfl, ⟨v8, hQ8, _⟩, hU8⟩
  have hF8 := hU8.blk hF6 (fun h => h.elim (fun e => by omega) (fun e => by simp [Value.ownBlock] at e))
  have hV8 := newQ hV7 hU8 hb (base_d hQ6)
  clear hV7 hU8 hQ6 hF6
  have hF8c0 : (w8).cell? ⟨w4.heap.size, 0, none⟩ = some (.int .i64 4) := Base.blk_cell hF8 0
  have hF8z0 : (w8).frozen? ⟨w4.heap.size, 0, none⟩ = false := Base.blk_frozen hF8 0
  have hF8c1 : (w8).cell? ⟨w4.heap.size, 1, none⟩ = some (.int .i64 0) := Base.blk_cell hF8 1
  have hF8z1 : (w8).frozen? ⟨w4.heap.size, 1, none⟩ = false := Base.blk_frozen hF8 1
  have hF8c2 : (w8).cell? ⟨w4.heap.size, 2, none⟩ = some (.string ⟨#[]⟩) := Base.blk_cell hF8 2
  have hF8z2 : (w8).frozen? ⟨w4.heap.size, 2, none⟩ = false := Base.blk_frozen hF8 2
  go_wp2_with fail
  refine (all w.heap.size b _ _ [] _ w8 hQ8 (by simp)).mono ?_
  rintro e w9 ⟨v9, rfl, hS9, hU9⟩
  obtain ⟨A9, c9, rfl, _⟩ := hS9.form
  have hQ9 := hQ8.upd hU9 (fun h => h) (fun _ _ h => h) (fun _ _ h => h)
  have hV9 := hV8.trans hU9 (fun x hx => .inl hx)
  go_wp2_with fail
  refine (len w.heap.size b _ _ [] _ w9 hQ9).mono ?_
  rintro e w' ⟨rfl, rfl⟩
  go_wp2_with fail
  go_ret
  exact ⟨rfl, hV9⟩

set_option maxRecDepth 100000 in
theorem next_nil (w : World) : Calls Try.prog 52 #[.pointer none] w (RetV (.tuple #[.agg #[.int .i64 0, .int .i64 0, .string ⟨#[]⟩], .bool false]) w) := by
  go_enter Try.func52, Try.ntmps52
  go_wp2_with fail
  refine (nils ⟨0, 0, ⟨#[]⟩⟩ _).1.mono ?_
  rintro e w2 ⟨rfl, hU⟩
  have hZ := hU.blk (blk_new w (.cells #[.int .i64 0, .int .i64 0, .string ⟨#[]⟩] 78)) (fun h => h)
  have hZc0 : (w2).cell? ⟨w.heap.size, 0, none⟩ = some (.int .i64 0) := Base.blk_cell hZ 0
  have hZz0 : (w2).frozen? ⟨w.heap.size, 0, none⟩ = false := Base.blk_frozen hZ 0
  have hZc1 : (w2).cell? ⟨w.heap.size, 1, none⟩ = some (.int .i64 0) := Base.blk_cell hZ 1
  have hZz1 : (w2).frozen? ⟨w.heap.size, 1, none⟩ = false := Base.blk_frozen hZ 1
  have hZc2 : (w2).cell? ⟨w.heap.size, 2, none⟩ = some (.string ⟨#[]⟩) := Base.blk_cell hZ 2
  have hZz2 : (w2).frozen? ⟨w.heap.size, 2, none⟩ = false := Base.blk_frozen hZ 2
  have hZ3 : (((w2.setCell ⟨w.heap.size, 0, none⟩ (.int .i64 0)).setCell ⟨w.heap.size, 1, none⟩ (.int .i64 0)).setCell ⟨w.heap.size, 2, none⟩ (.string ⟨#[]⟩)).heap[w.heap.size]? = some (.cells #[.int .i64 0, .int .i64 0, .string ⟨#[]⟩] 78 (0, 0)) := blk_put (blk_put (blk_put hZ 0 _ rfl) 1 _ rfl) 2 _ rfl
  have z0 := blk_cell hZ3 0
  have z1 := blk_cell hZ3 1
  have z2 := blk_cell hZ3 2
  go_wp2_with fail
  exact bodyPost_ret (v := .tuple #[.agg #[.int .i64 0, .int .i64 0, .string ⟨#[]⟩], .bool false]) (by simp [results, Try.results52, go_sem, z0, z1, z2]) rfl ⟨rfl, ((((((Upd.refl Nil w).alloc _).trans hU (fun x hx => .inl hx)).setNew (Nat.le_refl _) _).setNew (Nat.le_refl _) _).setNew (Nat.le_refl _) _)⟩
set_option maxHeartbeats 4000000 in
set_option maxRecDepth 100000 in
theorem none_true (ca cb : Int) (cs : ByteArray) (da db : Int) (ds : ByteArray) (w : World) :
    Calls Try.prog 13 #[.agg #[.int .i64 ca, .int .i64 cb, .string cs], .agg #[.int .i64 da, .int .i64 db, .string ds]] w (RetB true w) := by
  have hC := blk_new w (.cells #[.int .i64 ca, .int .i64 cb, .string cs] 78)
  have hC2 := blk_alloc hC (.cells #[.int .i64 da, .int .i64 db, .string ds] 80)
  have hD2 : ((w.alloc (.cells #[.int .i64 ca, .int .i64 cb, .string cs] 78)).alloc (.cells #[.int .i64 da, .int .i64 db, .string ds] 80)).heap[w.heap.size + 1]? = some (.cells #[.int .i64 da, .int .i64 db, .string ds] 80 (0, 0)) := by
    have := blk_new (w.alloc (.cells #[.int .i64 ca, .int .i64 cb, .string cs] 78)) (.cells #[.int .i64 da, .int .i64 db, .string ds] 80)
    simpa using this
  have hU := ((Upd.refl Nil w).alloc (.cells #[.int .i64 ca, .int .i64 cb, .string cs] 78)).alloc (.cells #[.int .i64 da, .int .i64 db, .string ds] 80)
  go_enter Try.func13, Try.ntmps13
  go_wp2_with fail
  refine (fixed_true _).mono ?_
  rintro e w1 ⟨rfl, hU1⟩
  have hC3 := hU1.blk hC2 (fun h => h)
  have hD3 := hU1.blk hD2 (fun h => h)
  have hV1 := hU.trans hU1 (fun x hx => .inl hx)
  clear hC hC2 hD2 hU hU1
  have hD3c0 : (w1).cell? ⟨w.heap.size + 1, 0, none⟩ = some (.int .i64 da) := Base.blk_cell hD3 0
  have hD3z0 : (w1).frozen? ⟨w.heap.size + 1, 0, none⟩ = false := Base.blk_frozen hD3 0
  have hD3c1 : (w1).cell? ⟨w.heap.size + 1, 1, none⟩ = some (.int .i64 db) := Base.blk_cell hD3 1
  have hD3z1 : (w1).frozen? ⟨w.heap.size + 1, 1, none⟩ = false := Base.blk_frozen hD3 1
  have hD3c2 : (w1).cell? ⟨w.heap.size + 1, 2, none⟩ = some (.string ds) := Base.blk_cell hD3 2
  have hD3z2 : (w1).frozen? ⟨w.heap.size + 1, 2, none⟩ = false := Base.blk_frozen hD3 2
  go_wp2_with fail
  refine (nils ⟨da, db, ds⟩ w1).2.2.2.1.mono ?_
  rintro e w2 ⟨rfl, hU2⟩
  have hC4 := hU2.blk hC3 (fun h => h)
  have hV2 := hV1.trans hU2 (fun x hx => .inl hx)
  clear hC3 hV1 hU2 hD3 hD3c0 hD3c1 hD3c2 hD3z0 hD3z1 hD3z2
  go_wp2_with fail
  refine (nils ⟨da, db, ds⟩ w2).2.2.1.mono ?_
  rintro e w3 ⟨rfl, hU3⟩
  have hC5 := hU3.blk hC4 (fun h => h)
  have hV3 := hV2.trans hU3 (fun x hx => .inl hx)
  clear hC4 hV2 hU3
  go_wp2_with fail
  refine (next_nil w3).mono ?_
  rintro e w4 ⟨rfl, hU4⟩
  have hC6 := blk_alloc (hU4.blk hC5 (fun h => h)) (.cells #[.int .i64 0, .int .i64 0, .string ⟨#[]⟩] 78)
  have hV4 := (hV3.trans hU4 (fun x hx => .inl hx)).alloc (.cells #[.int .i64 0, .int .i64 0, .string ⟨#[]⟩] 78)
  clear hC5 hV3 hU4
  have hC6c0 : (w4.alloc (.cells #[.int .i64 0, .int .i64 0, .string ⟨#[]⟩] 78)).cell? ⟨w.heap.size, 0, none⟩ = some (.int .i64 ca) := Base.blk_cell hC6 0
  have hC6z0 : (w4.alloc (.cells #[.int .i64 0, .int .i64 0, .string ⟨#[]⟩] 78)).frozen? ⟨w.heap.size, 0, none⟩ = false := Base.blk_frozen hC6 0
  have hC6c1 : (w4.alloc (.cells #[.int .i64 0, .int .i64 0, .string ⟨#[]⟩] 78)).cell? ⟨w.heap.size, 1, none⟩ = some (.int .i64 cb) := Base.blk_cell hC6 1
  have hC6z1 : (w4.alloc (.cells #[.int .i64 0, .int .i64 0, .string ⟨#[]⟩] 78)).frozen? ⟨w.heap.size, 1, none⟩ = false := Base.blk_frozen hC6 1
  have hC6c2 : (w4.alloc (.cells #[.int .i64 0, .int .i64 0, .string ⟨#[]⟩] 78)).cell? ⟨w.heap.size, 2, none⟩ = some (.string cs) := Base.blk_cell hC6 2
  have hC6z2 : (w4.alloc (.cells #[.int .i64 0, .int .i64 0, .string ⟨#[]⟩] 78)).frozen? ⟨w.heap.size, 2, none⟩ = false := Base.blk_frozen hC6 2
  go_wp2_with fail
  refine (nils ⟨ca, cb, cs⟩ _).2.2.2.2.mono ?_
  rintro e w5 ⟨rfl, hU5⟩
  have hV5 := hV4.trans hU5 (fun x hx => .inl hx)
  clear hC6 hV4 hU5 hC6c0 hC6c1 hC6c2 hC6z0 hC6z1 hC6z2
  go_wp2_with fail
  refine (nils ⟨ca, cb, cs⟩ _).1.mono ?_
  rintro e w6 ⟨rfl, hU6⟩
  have hV6 := hV5.trans hU6 (fun x hx => .inl hx)
  go_wp2_with fail
  refine (nils ⟨ca, cb, cs⟩ _).2.1.mono ?_
  rintro e w7 ⟨rfl, hU7⟩
  have hV7 := hV6.trans hU7 (fun x hx => .inl hx)
  go_wp2_with fail
  go_ret
  exact ⟨rfl, hV7⟩
end Go.Proofs.Ytobhpfbldmobfaa.QueueL
