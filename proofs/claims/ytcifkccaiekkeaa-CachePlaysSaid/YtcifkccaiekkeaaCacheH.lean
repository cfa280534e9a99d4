/-
  The cache as a row of keys and texts: what each call makes of it; the calls whose answers are fixed. Conditions: what the cache holds.
-/
import Derived.Test.YtcifkccaiekkeaaCacheG
namespace Go.Proofs.Ytcifkccaiekkeaa.Cache
open Go.RowKit Go.Proofs.Ytcifkccaiekkeaa.Base Go.Maps Go.Proofs.Ytcifkccaiekkeaa.Ints
set_option linter.unusedVariables false
set_option linter.unusedSimpArgs false
def Bt (lo hi : Nat) : Nat → Prop := fun x => lo ≤ x ∧ x < hi
/-- A cache whose rows are these, the one used last first. -/
def Ca (F : Nat → Prop) (w : World) (c : Nat) (room : Int) (rows : List (Key × ByteArray)) (h m : Int) : Prop := ∃ M ns K V f g, Cx F w c M room ns K V f g h m ∧ rowsOf ns K V = rows
section
variable {F : Nat → Prop} {w w' : World} {c : Nat} {room : Int} {rows : List (Key × ByteArray)} {h m : Int}
theorem Ca.upd (x : Ca F w c room rows h m) {S : Nat → Prop} (u : Upd S w w') (hs : ∀ y, F y → ¬ S y) : Ca F w' c room rows h m := by
  obtain ⟨M, ns, K, V, f, g, x, e⟩ := x
  exact ⟨M, ns, K, V, f, g, x.upd u hs, e⟩
theorem Ca.upd0 (x : Ca F w c room rows h m) (u : Upd Nil w w') : Ca F w' c room rows h m := x.upd u (fun _ _ h => h)
theorem Ca.mono {F' : Nat → Prop} (x : Ca F w c room rows h m) (hf : ∀ y, F y → F' y) : Ca F' w c room rows h m := by
  obtain ⟨M, ns, K, V, f, g, x, e⟩ := x
  exact ⟨M, ns, K, V, f, g, x.mono hf, e⟩
theorem Ca.apart (x : Ca F w c room rows h m) : Apart rows := by
  obtain ⟨M, ns, K, V, f, g, x, rfl⟩ := x
  exact x.apart
theorem Ca.wk (x : Ca F w c room rows h m) : ∀ k ∈ Keys rows, Wk k := by
  obtain ⟨M, ns, K, V, f, g, x, rfl⟩ := x
  intro k hk
  rw [x.keys] at hk
  obtain ⟨b, hb, rfl⟩ := List.mem_map.1 hk
  exact x.wk b hb
theorem Ca.hr (x : Ca F w c room rows h m) : 0 ≤ room ∧ room ≤ 1024 := by
  obtain ⟨M, ns, K, V, f, g, x, rfl⟩ := x
  exact x.hr
theorem rows_len (ns : List Nat) (K : Nat → Key) (V : Nat → ByteArray) : (rowsOf ns K V).length = ns.length := by simp [rowsOf]
theorem Ca.put (x : Ca F w c room rows h m) (hF : ∀ y, F y → y < w.heap.size) (hl : rows.length ≤ room.toNat) (k : Key) (hk : Wk k) (s : ByteArray) :
    Calls Try.prog 31 #[.pointer (some ⟨c, 0, none⟩), .agg #[.int .i64 k.1, .int .i64 k.2], .string s] w fun e w' => e = .returned (.tuple #[.agg #[.int .i64 (keyV (putK room.toNat rows k s).2).1, .int .i64 (keyV (putK room.toNat rows k s).2).2], .bool (putK room.toNat rows k s).2.isSome]) ∧
      Ca (More F w.heap.size w'.heap.size) w' c room (putK room.toNat rows k s).1 h m ∧ Upd F w w' := by
  obtain ⟨M, ns, K, V, f, g, x, rfl⟩ := x
  refine (Cache.put x hF (by rw [← rows_len ns K V]; exact hl) k hk s).mono ?_
  rintro e w' ⟨rfl, ns', K', V', f', g', x', e', u⟩
  exact ⟨rfl, ⟨M, ns', K', V', f', g', x', e'⟩, u⟩
/-- .. of blocks from lo on. -/
theorem Ca.putB {lo : Nat} (x : Ca (Bt lo w.heap.size) w c room rows h m) (hlo : lo ≤ w.heap.size) (hl : rows.length ≤ room.toNat) (k : Key) (hk : Wk k) (s : ByteArray) :
    Calls Try.prog 31 #[.pointer (some ⟨c, 0, none⟩), .agg #[.int .i64 k.1, .int .i64 k.2], .string s] w fun e w' => e = .returned (.tuple #[.agg #[.int .i64 (keyV (putK room.toNat rows k s).2).1, .int .i64 (keyV (putK room.toNat rows k s).2).2], .bool (putK room.toNat rows k s).2.isSome]) ∧
      Ca (Bt lo w'.heap.size) w' c room (putK room.toNat rows k s).1 h m ∧ Upd (Bt lo w.heap.size) w w' := by
  refine (x.put (fun y hy => hy.2) hl k hk s).mono ?_
  rintro e w' ⟨rfl, x', u⟩
  have := u.size
  exact ⟨rfl, x'.mono (fun y hy => hy.elim (fun q => ⟨q.1, by have := q.2; omega⟩) (fun q => ⟨by have := q.1; omega, q.2⟩)), u⟩
theorem Ca.get (x : Ca F w c room rows h m) (hb : 0 ≤ h ∧ h ≤ 1000000 ∧ 0 ≤ m ∧ m ≤ 1000000) (k : Key) (hk : Wk k) :
    Calls Try.prog 36 #[.pointer (some ⟨c, 0, none⟩), .agg #[.int .i64 k.1, .int .i64 k.2]] w fun e w' => e = .returned (.tuple #[.string (textOf (findK rows k)), .bool (findK rows k).isSome]) ∧
      Ca F w' c room (getK rows k) (if (findK rows k).isSome then h + 1 else h) (if (findK rows k).isSome then m else m + 1) ∧ Upd F w w' := by
  obtain ⟨M, ns, K, V, f, g, x, rfl⟩ := x
  refine (Cache.get x hb k hk).mono ?_
  rintro e w' ⟨rfl, ns', K', V', f', g', x', e', u⟩
  exact ⟨rfl, ⟨M, ns', K', V', f', g', x', e'⟩, u⟩
theorem Ca.peek (x : Ca F w c room rows h m) (k : Key) (hk : Wk k) :
    Calls Try.prog 33 #[.pointer (some ⟨c, 0, none⟩), .agg #[.int .i64 k.1, .int .i64 k.2]] w fun e w' => e = .returned (.tuple #[.string (textOf (findK rows k)), .bool (findK rows k).isSome]) ∧ Upd Nil w w' := by
  obtain ⟨M, ns, K, V, f, g, x, rfl⟩ := x
  exact Cache.peek x k hk
theorem Ca.drop (x : Ca F w c room rows h m) (k : Key) (hk : Wk k) :
    Calls Try.prog 38 #[.pointer (some ⟨c, 0, none⟩), .agg #[.int .i64 k.1, .int .i64 k.2]] w fun e w' => e = .returned (.bool (findK rows k).isSome) ∧ Ca F w' c room (dropK rows k) h m ∧ Upd F w w' := by
  obtain ⟨M, ns, K, V, f, g, x, rfl⟩ := x
  refine (Cache.drop x k hk).mono ?_
  rintro e w' ⟨rfl, f', g', x', u⟩
  exact ⟨rfl, ⟨M, _, K, V, f', g', x', (rows_drop ns K V k).symm⟩, u⟩
theorem Ca.len (x : Ca F w c room rows h m) : Calls Try.prog 32 #[.pointer (some ⟨c, 0, none⟩)] w fun e w' => e = .returned (.int .i64 (rows.length : Int)) ∧ Upd Nil w w' := by
  obtain ⟨M, ns, K, V, f, g, x, rfl⟩ := x
  rw [rows_len]
  exact Cache.len x
theorem Ca.rate (x : Ca F w c room rows h m) : Calls Try.prog 37 #[.pointer (some ⟨c, 0, none⟩)] w fun e w' => e = .returned (.tuple #[.int .i64 h, .int .i64 m]) ∧ Upd Nil w w' := by
  obtain ⟨M, ns, K, V, f, g, x, rfl⟩ := x
  exact Cache.rate x
theorem Ca.keys (x : Ca F w c room rows h m) (hl : rows.length ≤ 1000000) : Calls Try.prog 34 #[.pointer (some ⟨c, 0, none⟩)] w (KeysR (Keys rows) w) := by
  obtain ⟨M, ns, K, V, f, g, x, rfl⟩ := x
  rw [x.keys]
  exact Cache.keys x (by rw [← rows_len ns K V]; exact hl)
theorem Ca.forget (x : Ca F w c room rows h m) (hF : ∀ y, F y → y < w.heap.size) (hl : rows.length ≤ 1000000) (t : Int) :
    Calls Try.prog 35 #[.pointer (some ⟨c, 0, none⟩), .int .i64 t] w fun e w' => e = .returned (.int .i64 ((rows.filter (fun r => r.1.1 == t)).length : Nat)) ∧ Ca F w' c room (forgetT rows t) h m ∧ Upd F w w' := by
  obtain ⟨M, ns, K, V, f, g, x, rfl⟩ := x
  refine (Cache.forget x hF (by rw [← rows_len ns K V]; exact hl) t).mono ?_
  rintro e w' ⟨rfl, f', g', x', u⟩
  refine ⟨?_, ⟨M, _, K, V, f', g', x', (forget_rows ns K V t).symm⟩, u⟩
  have : (rowsOf ns K V).filter (fun r => r.1.1 == t) = rowsOf (ns.filter (fun b => (K b).1 == t)) K V := by
    unfold rowsOf
    rw [List.filter_map]
    rfl
  rw [this, rows_len]
theorem Ca.new (room : Int) (hr : 0 ≤ room ∧ room ≤ 1024) (w : World) : Calls Try.prog 30 #[.int .i64 room] w fun e w' => ∃ c, e = .returned (.pointer (some ⟨c, 0, none⟩)) ∧ Ca (Bt w.heap.size w'.heap.size) w' c room [] 0 0 ∧ Upd Nil w w' := by
  refine (Cache.new room hr w).mono ?_
  rintro e w' ⟨c, M, f, g, rfl, x, u⟩
  exact ⟨c, rfl, ⟨M, [], _, _, f, g, x, rfl⟩, u⟩
end
theorem wk0 (a b : Int) (ha : -1000 ≤ a ∧ a ≤ 1000) (hb : -1000 ≤ b ∧ b ≤ 1000) : Wk (a, b) := ⟨WalkArith.wf_i64 (by simp only; omega), WalkArith.wf_i64 (by simp only; omega)⟩
set_option maxRecDepth 100000 in
theorem fixedC (w : World) : Calls Try.prog 29 #[] w (RetB true w) := by
  have hn := new_nil (-1) (by omega)
  go_enter Try.func29, Try.ntmps29
  go_wp2_with fail
  refine (Ca.new 1 (by omega) w).mono ?_
  rintro e w1 ⟨c, rfl, x1, u1⟩
  have hs1 := u1.size
  go_wp2_with fail
  refine (x1.putB hs1 (by simp) (1, 0) (wk0 _ _ (by omega) (by omega)) ⟨#[120]⟩).mono ?_
  rw [show putK (1 : Int).toNat [] ((1, 0) : Key) (⟨#[120]⟩ : ByteArray) = ([((1, 0), ⟨#[120]⟩)], none) from rfl]
  rintro e w2 ⟨rfl, x2, u2⟩
  have hs2 := u2.size
  simp only [keyV, Option.isSome]
  go_wp2_with fail
  have ua := (Upd.refl Nil w2).alloc (.cells #[.int .i64 0, .int .i64 0] 47)
  have x2 := x2.upd0 ua
  have hsa := ua.size
  generalize hb2 : w2.heap.size = b2 at *
  generalize w2.alloc (.cells #[.int .i64 0, .int .i64 0] 47) = w3 at *
  have x3 := x2.mono (F' := Bt w.heap.size w3.heap.size) (fun y hy => ⟨hy.1, by have := hy.2; omega⟩)
  have hU3 : Upd Nil w w3 := (u1.trans (S' := Bt w.heap.size w1.heap.size) u2 (fun y hy => .inr hy.1)).tr ua
  refine (x3.putB hU3.size (by simp) (2, 0) (wk0 _ _ (by omega) (by omega)) ⟨#[121]⟩).mono ?_
  rw [show putK (1 : Int).toNat [(((1, 0) : Key), (⟨#[120]⟩ : ByteArray))] ((2, 0) : Key) (⟨#[121]⟩ : ByteArray) = ([((2, 0), ⟨#[121]⟩)], some (1, 0)) from rfl]
  rintro e w4 ⟨rfl, x4, u4⟩
  simp only [keyV, Option.isSome]
  clear x1 x2 x3 hs1 hs2 hsa
  have hU4 : Upd Nil w w4 := hU3.trans u4 (fun y hy => .inr hy.1)
  have x5 := x4.upd0 ((Upd.refl Nil w4).alloc (.cells #[.int .i64 1, .int .i64 0] 47))
  have hU5 := hU4.alloc (.cells #[.int .i64 1, .int .i64 0] 47)
  have hk := blk_new w4 (.cells #[.int .i64 1, .int .i64 0] 47)
  go_wp2_with fail
  generalize w4.alloc (.cells #[.int .i64 1, .int .i64 0] 47) = w5 at *
  have hnF : ¬ Bt w.heap.size w4.heap.size w4.heap.size := fun h => Nat.lt_irrefl _ h.2
  generalize w4.heap.size = b4 at *
  refine (x5.get (by omega) (2, 0) (wk0 _ _ (by omega) (by omega))).mono ?_
  rw [show findK [(((2, 0) : Key), (⟨#[121]⟩ : ByteArray))] ((2, 0) : Key) = some ⟨#[121]⟩ from rfl, show getK [(((2, 0) : Key), (⟨#[121]⟩ : ByteArray))] ((2, 0) : Key) = [((2, 0), ⟨#[121]⟩)] from rfl]
  rintro e w6 ⟨rfl, x6, u6⟩
  simp only [textOf, Option.isSome, if_true] at x6 ⊢
  go_wp2_with fail
  refine (x6.get (by omega) (1, 0) (wk0 _ _ (by omega) (by omega))).mono ?_
  rw [show findK [(((2, 0) : Key), (⟨#[121]⟩ : ByteArray))] ((1, 0) : Key) = none from rfl, show getK [(((2, 0) : Key), (⟨#[121]⟩ : ByteArray))] ((1, 0) : Key) = [((2, 0), ⟨#[121]⟩)] from rfl]
  rintro e w7 ⟨rfl, x7, u7⟩
  simp only [textOf, Option.isSome, Bool.false_eq_true, if_false] at x7 ⊢
  go_wp2_with fail
  refine x7.rate.mono ?_
  rintro e w8 ⟨rfl, u8⟩
  have x8 := x7.upd0 u8
  have hk8 := u8.blk (u7.blk (u6.blk hk hnF) hnF) (fun h => h)
  have k0 := blk_cell hk8 0
  simp only [List.getElem?_toArray, List.getElem?_cons_zero, List.getElem?_cons_succ] at k0
  have hU8 := ((hU5.trans u6 (fun y hy => .inr hy.1)).trans u7 (fun y hy => .inr hy.1)).tr u8
  go_wp2_with fail
  refine x8.len.mono ?_
  rintro e w9 ⟨rfl, u9⟩
  have hk9 := u9.blk hk8 (fun h => h)
  go_wp2_with fail
  refine (hn w9).mono ?_
  rintro e w10 ⟨rfl, rfl⟩
  go_wp2_with fail
  go_ret
  exact ⟨rfl, hU8.tr u9⟩
end Go.Proofs.Ytcifkccaiekkeaa.Cache
