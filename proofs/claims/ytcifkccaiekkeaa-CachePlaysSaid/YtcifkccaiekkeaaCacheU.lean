/-
  The program's cache and the reference's, side by side. Conditions: what they hold.
-/
import Derived.Test.YtcifkccaiekkeaaCacheT
namespace Go.Proofs.Ytcifkccaiekkeaa.Cache
open Go.RowKit Go.Proofs.Ytcifkccaiekkeaa.Base Go.Maps Go.Proofs.Ytcifkccaiekkeaa.Ints
set_option linter.unusedVariables false
set_option linter.unusedSimpArgs false
/-- Both caches: their blocks lie from lo on, apart. -/
def T (lo hi : Nat) (w : World) (c b : Nat) (room : Int) (R1 R2 : List RowT) (h m : Int) : Prop :=
  ∃ F G, Ca F w c room R1 h m ∧ RC G w b room R2 ∧ (∀ x, F x → lo ≤ x ∧ x < hi) ∧ (∀ x, G x → lo ≤ x ∧ x < hi) ∧ (∀ x, F x → ¬ G x) ∧ hi ≤ w.heap.size
section
variable {lo hi : Nat} {w w' : World} {c b : Nat} {room : Int} {R1 R2 : List RowT} {h m : Int}
theorem T.upd0 (t : T lo hi w c b room R1 R2 h m) (u : Upd Nil w w') : T lo hi w' c b room R1 R2 h m := by
  obtain ⟨F, G, t1, t2, t3, t4, t5, t6⟩ := t
  exact ⟨F, G, t1.upd0 u, t2.upd0 u, t3, t4, t5, Nat.le_trans t6 u.size⟩
theorem T.up (t : T lo hi w c b room R1 R2 h m) : T lo w.heap.size w c b room R1 R2 h m := by
  obtain ⟨F, G, t1, t2, t3, t4, t5, t6⟩ := t
  exact ⟨F, G, t1, t2, fun x hx => ⟨(t3 x hx).1, Nat.lt_of_lt_of_le (t3 x hx).2 t6⟩, fun x hx => ⟨(t4 x hx).1, Nat.lt_of_lt_of_le (t4 x hx).2 t6⟩, t5, Nat.le_refl _⟩
theorem T.le (t : T lo hi w c b room R1 R2 h m) : hi ≤ w.heap.size ∧ lo ≤ b ∧ b < hi := by
  obtain ⟨F, G, t1, t2, t3, t4, t5, t6⟩ := t
  have hbG : G b := by obtain ⟨V, hm⟩ := t2; exact hm.ob
  exact ⟨t6, t4 b hbG⟩
theorem T.apart1 (t : T lo hi w c b room R1 R2 h m) : Apart R1 := by obtain ⟨F, G, t1, _⟩ := t; exact t1.apart
theorem T.hr (t : T lo hi w c b room R1 R2 h m) : 0 ≤ room ∧ room ≤ 1024 := by obtain ⟨F, G, t1, _⟩ := t; exact t1.hr
theorem T.wk (t : T lo hi w c b room R1 R2 h m) : ∀ k ∈ Keys R1, Wk k := by obtain ⟨F, G, t1, _⟩ := t; exact t1.wk
theorem more_bt {F : Nat → Prop} {lo hi a b' : Nat} (hF : ∀ x, F x → lo ≤ x ∧ x < hi) (hhi : hi ≤ a) (hlo : lo ≤ a) (hab : a ≤ b') : ∀ x, More F a b' x → lo ≤ x ∧ x < b' := fun x hx => hx.elim (fun q => ⟨(hF x q).1, by have := (hF x q).2; omega⟩) (fun q => ⟨by have := q.1; omega, q.2⟩)
theorem T.put (t : T lo hi w c b room R1 R2 h m) (hlo : lo ≤ w.heap.size) (hl : R1.length ≤ room.toNat) (k : Key) (hk : Wk k) (s : ByteArray) :
    Calls Try.prog 31 #[.pointer (some ⟨c, 0, none⟩), .agg #[.int .i64 k.1, .int .i64 k.2], .string s] w fun e w' => e = .returned (.tuple #[.agg #[.int .i64 (keyV (putK room.toNat R1 k s).2).1, .int .i64 (keyV (putK room.toNat R1 k s).2).2], .bool (putK room.toNat R1 k s).2.isSome]) ∧
      T lo w'.heap.size w' c b room (putK room.toNat R1 k s).1 R2 h m ∧ Upd (Bt lo hi) w w' := by
  obtain ⟨F, G, t1, t2, t3, t4, t5, t6⟩ := t
  refine (t1.put (fun y hy => Nat.lt_of_lt_of_le (t3 y hy).2 t6) hl k hk s).mono ?_
  rintro e w' ⟨rfl, x', u⟩
  have hs := u.size
  exact ⟨rfl, ⟨_, G, x', t2.upd u (fun y hy hf => t5 y hf hy), more_bt t3 t6 hlo hs, fun x hx => ⟨(t4 x hx).1, by have := (t4 x hx).2; omega⟩, fun x hx hg => hx.elim (fun q => t5 x q hg) (fun q => by have := (t4 x hg).2; have := q.1; omega), Nat.le_refl _⟩, u.mono (fun y hy => t3 y hy)⟩
theorem T.get (t : T lo hi w c b room R1 R2 h m) (hb : 0 ≤ h ∧ h ≤ 1000000 ∧ 0 ≤ m ∧ m ≤ 1000000) (k : Key) (hk : Wk k) :
    Calls Try.prog 36 #[.pointer (some ⟨c, 0, none⟩), .agg #[.int .i64 k.1, .int .i64 k.2]] w fun e w' => e = .returned (.tuple #[.string (textOf (findK R1 k)), .bool (findK R1 k).isSome]) ∧
      T lo w'.heap.size w' c b room (getK R1 k) R2 (if (findK R1 k).isSome then h + 1 else h) (if (findK R1 k).isSome then m else m + 1) ∧ Upd (Bt lo hi) w w' := by
  obtain ⟨F, G, t1, t2, t3, t4, t5, t6⟩ := t
  refine (t1.get hb k hk).mono ?_
  rintro e w' ⟨rfl, x', u⟩
  have hs := u.size
  exact ⟨rfl, ⟨F, G, x', t2.upd u (fun y hy hf => t5 y hf hy), fun x hx => ⟨(t3 x hx).1, by have := (t3 x hx).2; omega⟩, fun x hx => ⟨(t4 x hx).1, by have := (t4 x hx).2; omega⟩, t5, Nat.le_refl _⟩, u.mono (fun y hy => t3 y hy)⟩
theorem T.peek (t : T lo hi w c b room R1 R2 h m) (k : Key) (hk : Wk k) :
    Calls Try.prog 33 #[.pointer (some ⟨c, 0, none⟩), .agg #[.int .i64 k.1, .int .i64 k.2]] w fun e w' => e = .returned (.tuple #[.string (textOf (findK R1 k)), .bool (findK R1 k).isSome]) ∧ Upd Nil w w' := by
  obtain ⟨F, G, t1, _⟩ := t
  exact t1.peek k hk
theorem T.drop (t : T lo hi w c b room R1 R2 h m) (k : Key) (hk : Wk k) :
    Calls Try.prog 38 #[.pointer (some ⟨c, 0, none⟩), .agg #[.int .i64 k.1, .int .i64 k.2]] w fun e w' => e = .returned (.bool (findK R1 k).isSome) ∧ T lo w'.heap.size w' c b room (dropK R1 k) R2 h m ∧ Upd (Bt lo hi) w w' := by
  obtain ⟨F, G, t1, t2, t3, t4, t5, t6⟩ := t
  refine (t1.drop k hk).mono ?_
  rintro e w' ⟨rfl, x', u⟩
  have hs := u.size
  exact ⟨rfl, ⟨F, G, x', t2.upd u (fun y hy hf => t5 y hf hy), fun x hx => ⟨(t3 x hx).1, by have := (t3 x hx).2; omega⟩, fun x hx => ⟨(t4 x hx).1, by have := (t4 x hx).2; omega⟩, t5, Nat.le_refl _⟩, u.mono (fun y hy => t3 y hy)⟩
theorem T.forget (t : T lo hi w c b room R1 R2 h m) (hl : R1.length ≤ 1000000) (q : Int) :
    Calls Try.prog 35 #[.pointer (some ⟨c, 0, none⟩), .int .i64 q] w fun e w' => e = .returned (.int .i64 ((R1.filter (fun r => r.1.1 == q)).length : Nat)) ∧ T lo w'.heap.size w' c b room (forgetT R1 q) R2 h m ∧ Upd (Bt lo hi) w w' := by
  obtain ⟨F, G, t1, t2, t3, t4, t5, t6⟩ := t
  refine (t1.forget (fun y hy => Nat.lt_of_lt_of_le (t3 y hy).2 t6) hl q).mono ?_
  rintro e w' ⟨rfl, x', u⟩
  have hs := u.size
  exact ⟨rfl, ⟨F, G, x', t2.upd u (fun y hy hf => t5 y hf hy), fun x hx => ⟨(t3 x hx).1, by have := (t3 x hx).2; omega⟩, fun x hx => ⟨(t4 x hx).1, by have := (t4 x hx).2; omega⟩, t5, Nat.le_refl _⟩, u.mono (fun y hy => t3 y hy)⟩
theorem T.len (t : T lo hi w c b room R1 R2 h m) : Calls Try.prog 32 #[.pointer (some ⟨c, 0, none⟩)] w fun e w' => e = .returned (.int .i64 (R1.length : Int)) ∧ Upd Nil w w' := by
  obtain ⟨F, G, t1, _⟩ := t
  exact t1.len
theorem T.rate (t : T lo hi w c b room R1 R2 h m) : Calls Try.prog 37 #[.pointer (some ⟨c, 0, none⟩)] w fun e w' => e = .returned (.tuple #[.int .i64 h, .int .i64 m]) ∧ Upd Nil w w' := by
  obtain ⟨F, G, t1, _⟩ := t
  exact t1.rate
theorem T.keys (t : T lo hi w c b room R1 R2 h m) (hl : R1.length ≤ 1000000) : Calls Try.prog 34 #[.pointer (some ⟨c, 0, none⟩)] w (KeysR (Keys R1) w) := by
  obtain ⟨F, G, t1, _⟩ := t
  exact t1.keys hl
theorem T.rput (t : T lo hi w c b room R1 R2 h m) (hlo : lo ≤ w.heap.size) (hap : Apart R2) (hl : R2.length ≤ room.toNat) (k : Key) (s : ByteArray) :
    Calls Try.prog 40 #[.pointer (some ⟨b, 0, none⟩), .agg #[.int .i64 k.1, .int .i64 k.2, .string s]] w fun e w' => (∃ x, e = .returned (.tuple #[.agg #[.int .i64 (keyV (putK room.toNat R2 k s).2).1, .int .i64 (keyV (putK room.toNat R2 k s).2).2, .string x], .bool (putK room.toNat R2 k s).2.isSome])) ∧
      T lo w'.heap.size w' c b room R1 (putK room.toNat R2 k s).1 h m ∧ Upd (Only b) w w' := by
  have hr := t.hr
  obtain ⟨F, G, t1, t2, t3, t4, t5, t6⟩ := t
  have hbG : G b := by obtain ⟨V, hm⟩ := t2; exact hm.ob
  refine (Cache.rput t2 hap hl (fun y hy => Nat.lt_of_lt_of_le (t4 y hy).2 t6) hr k s).mono ?_
  rintro e w' ⟨he, x', u⟩
  have hs := u.size
  exact ⟨he, ⟨F, _, t1.upd u (fun y hy e => t5 y hy (by cases e; exact hbG)), x', fun x hx => ⟨(t3 x hx).1, by have := (t3 x hx).2; omega⟩, more_bt t4 t6 hlo hs, fun x hx hg => hg.elim (fun q => t5 x hx q) (fun q => by have := (t3 x hx).2; have := q.1; omega), Nat.le_refl _⟩, u⟩
theorem T.rget (t : T lo hi w c b room R1 R2 h m) (hlo : lo ≤ w.heap.size) (hap : Apart R2) (hl : R2.length ≤ 100000) (k : Key) :
    Calls Try.prog 41 #[.pointer (some ⟨b, 0, none⟩), .int .i64 k.1, .int .i64 k.2] w fun e w' => e = .returned (.tuple #[.string (textOf (findK R2 k)), .bool (findK R2 k).isSome]) ∧ T lo w'.heap.size w' c b room R1 (getK R2 k) h m ∧ Upd (Only b) w w' := by
  obtain ⟨F, G, t1, t2, t3, t4, t5, t6⟩ := t
  have hbG : G b := by obtain ⟨V, hm⟩ := t2; exact hm.ob
  refine (Cache.rget t2 hap hl k).mono ?_
  rintro e w' ⟨he, x', u⟩
  have hs := u.size
  exact ⟨he, ⟨F, _, t1.upd u (fun y hy e => t5 y hy (by cases e; exact hbG)), x', fun x hx => ⟨(t3 x hx).1, by have := (t3 x hx).2; omega⟩, more_bt t4 t6 hlo hs, fun x hx hg => hg.elim (fun q => t5 x hx q) (fun q => by have := (t3 x hx).2; have := q.1; omega), Nat.le_refl _⟩, u⟩
theorem T.rdrop {A B : List RowT} {r : RowT} (t : T lo hi w c b room R1 (A ++ r :: B) h m) (hlo : lo ≤ w.heap.size) (hl : (A ++ r :: B).length ≤ 1000000) :
    Calls Try.prog 42 #[.pointer (some ⟨b, 0, none⟩), .int .i64 (A.length : Int)] w fun e w' => e = .returned (.tuple #[]) ∧ T lo w'.heap.size w' c b room R1 (A ++ B) h m ∧ Upd (Only b) w w' := by
  obtain ⟨F, G, t1, t2, t3, t4, t5, t6⟩ := t
  have hbG : G b := by obtain ⟨V, hm⟩ := t2; exact hm.ob
  refine (Cache.rdrop t2 hl).mono ?_
  rintro e w' ⟨he, x', u⟩
  have hs := u.size
  exact ⟨he, ⟨F, _, t1.upd u (fun y hy e => t5 y hy (by cases e; exact hbG)), x', fun x hx => ⟨(t3 x hx).1, by have := (t3 x hx).2; omega⟩, more_bt t4 t6 hlo hs, fun x hx hg => hg.elim (fun q => t5 x hx q) (fun q => by have := (t3 x hx).2; have := q.1; omega), Nat.le_refl _⟩, u⟩
theorem T.rfind (t : T lo hi w c b room R1 R2 h m) (hl : R2.length ≤ 1000000) (k : Key) :
    Calls Try.prog 39 #[.pointer (some ⟨b, 0, none⟩), .int .i64 k.1, .int .i64 k.2] w fun e w' => e = .returned (.int .i64 (idxK R2 k)) ∧ Upd Nil w w' := by
  obtain ⟨F, G, t1, t2, _⟩ := t
  exact Cache.rfind t2 hl k
/-- The reference's rows, seen. -/
theorem T.rows (t : T lo hi w c b room R1 R2 h m) : ∃ A c0, w.cell? ⟨b, 1, none⟩ = some (.slice A R2.length c0) ∧ Arg w A 3 rc R2 := by
  obtain ⟨F, G, t1, ⟨V, hm⟩, _⟩ := t
  obtain ⟨A, c0, rfl, _⟩ := hm.sl.form
  exact ⟨A, c0, blk_cell hm.blk 1, hm.sl.cells rc_len (by omega)⟩
end
theorem find_keys {R : List RowT} (h : Apart R) {i : Nat} (hi : i < R.length) : findK R R[i].1 = some R[i].2 := by
  unfold Apart Keys at h
  have hm : R[i] ∈ R := List.getElem_mem hi
  generalize R[i] = p at hm
  clear hi
  unfold findK
  induction R with
  | nil => simp at hm
  | cons q l ih =>
    rw [List.find?_cons]
    rw [List.map_cons, List.nodup_cons] at h
    rcases List.mem_cons.1 hm with rfl | hm
    · simp
    · have hq : q.1 ≠ p.1 := fun e => h.1 (List.mem_map.2 ⟨p, hm, e.symm⟩)
      rw [show (q.1 == p.1) = false by simpa using hq]
      exact ih h.2 hm
set_option maxHeartbeats 2000000 in
set_option maxRecDepth 100000 in
theorem sameC {lo hi : Nat} {w : World} {c b : Nat} {room : Int} {R : List RowT} {h m : Int} (t : T lo hi w c b room R R h m) (hl : R.length ≤ 100000) :
    Calls Try.prog 43 #[.pointer (some ⟨c, 0, none⟩), .pointer (some ⟨b, 0, none⟩)] w (RetB true w) := by
  go_enter Try.func43, Try.ntmps43
  go_wp2_with fail
  refine (t.keys (by omega)).mono ?_
  rintro e w1 ⟨v, rfl, hv, u1⟩
  have t1 := t.upd0 u1
  obtain ⟨A, cA, rfl, _⟩ := hv.form
  have hkl : (Keys R).length = R.length := by unfold Keys; simp
  rw [hkl] at hv ⊢
  obtain ⟨B, cB, r1, hB⟩ := t1.rows
  go_wp2_with fail
  refine t1.len.mono ?_
  rintro e w2 ⟨rfl, u2⟩
  have t2 := t1.upd0 u2
  have hv2 := hv.upd0 u2
  have hU2 := u1.tr u2
  clear t1 hB r1
  go_wp2_with fail
  go_loopw [30] (fun s30 wr => ∃ i : Nat, i ≤ R.length ∧ s30 = .int .i64 (i : Int) ∧ Upd Nil w2 wr) (fun s30 _ => R.length - (intOf s30).toNat)
  case atStart => exact ⟨0, by omega, rfl, Upd.refl _ _⟩
  case round =>
    obtain ⟨i, hi, rfl, hU⟩ := hrel
    have t3 := t2.upd0 hU
    by_cases hlt : i < R.length
    · obtain ⟨gA, oA, rfl, _, y0, y1⟩ := kc2_cell ((hv2.upd0 hU).cells kc2_len (by omega)) (i := i) (by rw [hkl]; exact hlt)
      have hki : (Keys R)[i]'(by rw [hkl]; exact hlt) = R[i].1 := by unfold Keys; simp
      rw [hki] at y0 y1
      have hwk := t.wk R[i].1 (List.mem_map_of_mem (List.getElem_mem hlt))
      have hfk := find_keys t.apart1 hlt
      have ua := (Upd.refl Nil wr).alloc (.cells #[.int .i64 R[i].1.1, .int .i64 R[i].1.2] 47)
      have hx := blk_new wr (.cells #[.int .i64 R[i].1.1, .int .i64 R[i].1.2] 47)
      have t4 := t3.upd0 ua
      generalize hri : R[i] = r at *
      have hrH := Lib.hid hri
      clear hri hki
      have hfH := Lib.hid hfk
      clear hfk
      go_wp2_with fail
      generalize wr.alloc (.cells #[.int .i64 r.1.1, .int .i64 r.1.2] 47) = w4 at *
      generalize wr.heap.size = kb at *
      refine (t4.peek r.1 hwk).mono ?_
      rw [hfH.out]
      simp only [textOf, Option.isSome]
      rintro e w5 ⟨rfl, u5⟩
      have t5 := t4.upd0 u5
      replace hx := u5.blk hx (fun h => h)
      obtain ⟨B, cB, r1, hB⟩ := t5.rows
      obtain ⟨g, o, rfl, _, e0, e1, e2⟩ := rc_cell hB hlt
      rw [hrH.out] at e0 e1 e2
      have x0 := blk_cell (blk_alloc hx (.cells (rc r).toArray 68)) 0
      have x1 := blk_cell (blk_alloc hx (.cells (rc r).toArray 68)) 1
      simp only [List.getElem?_toArray, List.getElem?_cons_zero, List.getElem?_cons_succ] at x0 x1
      unfold rc at x0 x1
      have hU6 := ((hU.tr ua).tr u5).alloc (.cells #[.int .i64 r.1.1, .int .i64 r.1.2, .string r.2] 68)
      go_wp2_with fail
      go_roundw
      case measure => simp [intOf]; omega
      case rel => exact ⟨i + 1, by omega, by go_num, hU6⟩
    · obtain rfl : i = R.length := by omega
      go_wp2_with fail
      go_ret
      exact ⟨rfl, hU2.tr hU⟩
end Go.Proofs.Ytcifkccaiekkeaa.Cache
