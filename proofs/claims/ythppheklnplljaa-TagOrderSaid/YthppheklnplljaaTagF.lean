/-
  Tags: the walk of the reference's Parse. Conditions: what the argument's slice holds.
-/
import Derived.Test.YthppheklnplljaaTagE
namespace Go.Proofs.Ythppheklnplljaa.Tag
open Go.RowKit Go.Proofs.Ythppheklnplljaa.Base Go.Proofs.Ythppheklnplljaa.Word Go.Proofs.Ythppheklnplljaa.Frame
set_option linter.unusedVariables false
set_option linter.unusedSimpArgs false
/-- The reader, the tag that is filled, the result's cell. -/
structure QSt (N bR b7 b2 : Nat) (w : World) (r : Rd) (cs : Array Value) : Prop where
  rdr : QRd (· < N) w bR r
  t : w.heap[b7]? = some (.cells cs 35 (0, 0))
  o : w.heap[b2]? = some (.cells #[.int .i64 0, .int .i64 0, .int .i64 0, .int .i64 0, .int .i64 0, .bool false] 35 (0, 0))
  ne : b2 ≠ b7
  hR : N ≤ bR
  h7 : N ≤ b7
theorem QSt.step {N bR b7 b2 : Nat} {w w' : World} {r r' : Rd} {cs : Array Value} (h : QSt N bR b7 b2 w r cs) (k : QRd (· < N) w' bR r') (u : Upd (Only bR) w w') : QSt N bR b7 b2 w' r' cs := by
  obtain ⟨A, c, hv, _⟩ := h.rdr
  exact ⟨k, u.blk h.t (blk_ne h.t hv (by decide)), u.blk h.o (blk_ne h.o hv (by decide)), h.ne, h.hR, h.h7⟩
theorem QSt.set {N bR b7 b2 : Nat} {w : World} {r : Rd} {cs cs' : Array Value} (h : QSt N bR b7 b2 w r cs) (i : Nat) (u : Value) (e : cs.setIfInBounds i u = cs') : QSt N bR b7 b2 (w.setCell ⟨b7, i, none⟩ u) r cs' := by
  obtain ⟨A, c, hv, _⟩ := h.rdr
  have hU : Upd (Only b7) w (w.setCell ⟨b7, i, none⟩ u) := (Upd.refl _ _).set1 u
  have h7 := h.h7
  exact ⟨h.rdr.upd hU (fun e => blk_ne h.t hv (by decide) e.symm) (fun k hk e => by have e : k = b7 := e; have hk : k < N := hk; omega), blk_put h.t i u e, hU.blk h.o h.ne, h.ne, h.hR, h.h7⟩
theorem QSt.number {N bR b7 b2 : Nat} {w : World} {r : Rd} {cs : Array Value} (h : QSt N bR b7 b2 w r cs) (n : Int) :
    Calls Try.prog 53 #[.pointer (some ⟨bR, 0, none⟩), .int .i64 n] w fun e w' => e = .returned (.int .i64 ((r.number n).1 : Nat)) ∧ QSt N bR b7 b2 w' (r.number n).2 cs ∧ Upd (Only bR) w w' :=
  (Word.qnumber (· < N) bR (by have := h.hR; omega) r n w h.rdr).mono fun e w' ⟨h1, h2, h3⟩ => ⟨h1, h.step h2 h3, h3⟩
theorem QSt.flag {N bR b7 b2 : Nat} {w : World} {r : Rd} {cs : Array Value} (h : QSt N bR b7 b2 w r cs) :
    Calls Try.prog 57 #[.pointer (some ⟨bR, 0, none⟩)] w fun e w' => e = .returned (.bool r.flag.1) ∧ QSt N bR b7 b2 w' r.flag.2 cs ∧ Upd (Only bR) w w' :=
  (Word.qflag (· < N) bR (by have := h.hR; omega) r w h.rdr).mono fun e w' ⟨h1, h2, h3⟩ => ⟨h1, h.step h2 h3, h3⟩
theorem QSt.done {N bR b7 b2 : Nat} {w : World} {r : Rd} {cs : Array Value} (h : QSt N bR b7 b2 w r cs) :
    Calls Try.prog 58 #[.pointer (some ⟨bR, 0, none⟩)] w fun e w' => e = .returned (.int .i64 r.done.1) ∧ QSt N bR b7 b2 w' r.done.2 cs ∧ Upd (Only bR) w w' :=
  (Word.qdone (· < N) bR (by have := h.hR; omega) r w h.rdr).mono fun e w' ⟨h1, h2, h3⟩ => ⟨h1, h.step h2 h3, h3⟩
set_option maxHeartbeats 4000000 in
set_option maxRecDepth 100000 in
theorem rparse_no (A : Option Addr) (c : Nat) (b : List UInt8) (w : World) (hA : Arg w A 1 bc b) (hc : b.length ≤ c) (hcm : c ≤ maxLen) (hb : b.length ≤ 140737488355328) (hn : (whl b 84).2 ≠ 0) :
    Calls Try.prog 28 #[.slice A b.length c] w (ParR (parseT b) w) := by
  have hp : Hid (parseT b = (tg0, (whl b 84).2)) := by show _ = _; unfold parseT; rw [if_pos hn]
  have kw := fun w' (u : Upd Nil w w') => rwhole A c b 84 w' (hA.upd u) hc hcm hb
  generalize whl b 84 = q at *
  obtain ⟨ql, qe⟩ := q
  have hnb : (qe != 0) = true := by simpa using hn
  clear hn
  unfold maxLen at hcm
  go_enter Try.func28, Try.ntmps28
  go_wp2_with fail
  refine (kw _ ((Upd.refl _ _).alloc _)).mono ?_
  rintro e w1 ⟨x, rfl, hx, hU1⟩
  have hbx := hU1.block w.heap.size (by simp) (fun h => h)
  rw [blk_new] at hbx
  have hbxc0 : (w1).cell? ⟨w.heap.size, 0, none⟩ = some (.int .i64 0) := Base.blk_cell hbx 0
  have hbxz0 : (w1).frozen? ⟨w.heap.size, 0, none⟩ = false := Base.blk_frozen hbx 0
  have hbxc1 : (w1).cell? ⟨w.heap.size, 1, none⟩ = some (.int .i64 0) := Base.blk_cell hbx 1
  have hbxz1 : (w1).frozen? ⟨w.heap.size, 1, none⟩ = false := Base.blk_frozen hbx 1
  have hbxc2 : (w1).cell? ⟨w.heap.size, 2, none⟩ = some (.int .i64 0) := Base.blk_cell hbx 2
  have hbxz2 : (w1).frozen? ⟨w.heap.size, 2, none⟩ = false := Base.blk_frozen hbx 2
  have hbxc3 : (w1).cell? ⟨w.heap.size, 3, none⟩ = some (.int .i64 0) := Base.blk_cell hbx 3
  have hbxz3 : (w1).frozen? ⟨w.heap.size, 3, none⟩ = false := Base.blk_frozen hbx 3
  have hbxc4 : (w1).cell? ⟨w.heap.size, 4, none⟩ = some (.int .i64 0) := Base.blk_cell hbx 4
  have hbxz4 : (w1).frozen? ⟨w.heap.size, 4, none⟩ = false := Base.blk_frozen hbx 4
  have hbxc5 : (w1).cell? ⟨w.heap.size, 5, none⟩ = some (.bool false) := Base.blk_cell hbx 5
  have hbxz5 : (w1).frozen? ⟨w.heap.size, 5, none⟩ = false := Base.blk_frozen hbx 5
  go_wp2_with fail
  have hV := ((Upd.refl Nil w).alloc _).tr hU1
  exact bodyPost_ret (v := .tuple #[tgV tg0, .int .i64 qe]) (by simp [results, Try.results28, go_sem, tgV, tg0, hbxc0, hbxc1, hbxc2, hbxc3, hbxc4, hbxc5]) rfl ⟨by rw [hp.out], (((((hV.setNew (Nat.le_refl _) _).setNew (Nat.le_refl _) _).setNew (Nat.le_refl _) _).setNew (Nat.le_refl _) _).setNew (Nat.le_refl _) _).setNew (Nat.le_refl _) _⟩
set_option maxHeartbeats 8000000 in
set_option maxRecDepth 100000 in
theorem rparse_yes (A : Option Addr) (c : Nat) (b : List UInt8) (w : World) (hA : Arg w A 1 bc b) (hc : b.length ≤ c) (hcm : c ≤ maxLen) (hb : b.length ≤ 140737488355328) (hn : (whl b 84).2 = 0) :
    Calls Try.prog 28 #[.slice A b.length c] w (ParR (parseT b) w) := by
  have kw := fun w' (u : Upd Nil w w') => rwhole A c b 84 w' (hA.upd u) hc hcm hb
  have hwl := whl_len b 84
  have hpt : Hid (parseT b = if (got (whl b 84).1).d ≠ 0 ∨ rightB (gotT (got (whl b 84).1)) = false then (tg0, 2) else (gotT (got (whl b 84).1), 0)) := by
    show _ = _
    unfold parseT
    rw [if_neg (by simp [hn])]
  generalize whl b 84 = q at *
  obtain ⟨ql, qe⟩ := q
  obtain rfl : qe = 0 := hn
  obtain ⟨n1, r1, e1⟩ : ∃ n r, (⟨ql, 0⟩ : Rd).number 1 = (n, r) := ⟨_, _, rfl⟩
  obtain ⟨n2, r2, e2⟩ : ∃ n r, r1.number 4 = (n, r) := ⟨_, _, rfl⟩
  obtain ⟨n3, r3, e3⟩ : ∃ n r, r2.number 1 = (n, r) := ⟨_, _, rfl⟩
  obtain ⟨n4, r4, e4⟩ : ∃ n r, r3.number 4 = (n, r) := ⟨_, _, rfl⟩
  obtain ⟨n5, r5, e5⟩ : ∃ n r, r4.number 1 = (n, r) := ⟨_, _, rfl⟩
  obtain ⟨f, r6, e6⟩ : ∃ n r, r5.flag = (n, r) := ⟨_, _, rfl⟩
  obtain ⟨d, r7, e7⟩ : ∃ n r, r6.done = (n, r) := ⟨_, _, rfl⟩
  have hg : got ql = ⟨n1, n2, n3, n4, n5, f, d⟩ := by simp [got, e1, e2, e3, e4, e5, e6, e7]
  simp only [hg] at hpt
  replace e1 := Lib.hid e1
  replace e2 := Lib.hid e2
  replace e3 := Lib.hid e3
  replace e4 := Lib.hid e4
  replace e5 := Lib.hid e5
  replace e6 := Lib.hid e6
  replace e7 := Lib.hid e7
  clear hg
  unfold maxLen at hcm
  simp only at kw hwl
  go_enter Try.func28, Try.ntmps28
  go_wp2_with fail
  refine (kw _ ((Upd.refl _ _).alloc _)).mono ?_
  rintro e w1 ⟨x, rfl, hx, hU1⟩
  have hbx := hU1.block w.heap.size (by simp) (fun h => h)
  rw [blk_new] at hbx
  have hxx := hx
  obtain ⟨A1, c1, rfl, hc1⟩ := hx.form
  have hA1 := hx.cells bc_len (by omega)
  have hcm1 := hx.capMax
  have hV1 := ((Upd.refl Nil w).alloc _).tr hU1
  have hQ0 : QRd (· < w1.heap.size) (w1.alloc (.cells #[.slice A1 ql.length c1, .int .i64 0] 86)) w1.heap.size ⟨ql, 0⟩ := ⟨A1, c1, blk_new _ _, hA1.upd ((Upd.refl _ _).alloc _), hc1, hcm1, far_of hA1⟩
  have hq1 := qnumber (· < w1.heap.size) w1.heap.size (Nat.lt_irrefl _) ⟨ql, 0⟩ 1 _ hQ0
  have hN1 : w.heap.size ≤ w1.heap.size := hV1.size
  have hlt1 := Nat.ne_of_lt (blk_lt hbx)
  have hb1 := blk_alloc hbx (.cells #[.slice A1 ql.length c1, .int .i64 0] 86)
  have hV1 := hV1.alloc (.cells #[.slice A1 ql.length c1, .int .i64 0] 86)
  clear hx kw hxx
  go_wp2_with fail
  refine hq1.mono ?_
  rw [e1.out]
  rintro e w2 ⟨rfl, hQ2, hU2⟩
  have hb2 := hU2.blk hb1 (fun e => hlt1 e)
  go_wp2_with fail
  refine (qnumber (· < w1.heap.size) w1.heap.size (Nat.lt_irrefl _) r1 4 _ hQ2).mono ?_
  rw [e2.out]
  rintro e w3 ⟨rfl, hQ3, hU3⟩
  have hb3 := hU3.blk hb2 (fun e => hlt1 e)
  have hsz3 : w1.heap.size < w3.heap.size := by obtain ⟨_, _, h, _⟩ := hQ3; exact blk_lt h
  have hV3 := (hV1.newOnly hU2 hN1).newOnly hU3 hN1
  have hN3 : w.heap.size ≤ w3.heap.size := hV3.size
  clear hq1 hQ0 hQ2 hb2 hb1 hbx hA1 hV1 hU1 hU2 hU3
  go_wp2_with fail
  have hS3 : QSt w1.heap.size w1.heap.size w3.heap.size w.heap.size (w3.alloc (.cells #[.int .i64 n1, .int .i64 n2, .int .i64 0, .int .i64 0, .int .i64 0, .bool false] 35)) r2 #[.int .i64 n1, .int .i64 n2, .int .i64 0, .int .i64 0, .int .i64 0, .bool false] :=
    ⟨hQ3.upd ((Upd.refl Nil _).alloc _) (fun h => h) (fun _ _ h => h), blk_new _ _, blk_alloc hb3 _, Nat.ne_of_lt (blk_lt hb3), Nat.le_refl _, Nat.le_of_lt hsz3⟩
  have hV3a := hV3.alloc (.cells #[.int .i64 n1, .int .i64 n2, .int .i64 0, .int .i64 0, .int .i64 0, .bool false] 35)
  clear hQ3 hb3 hV3
  refine (hS3.number 1).mono ?_
  rw [e3.out]
  rintro e w4 ⟨rfl, hS4, hU4⟩
  have hV4 := hV3a.newOnly hU4 hN1
  have h4 := hS4.t
  have h4c0 : (w4).cell? ⟨w3.heap.size, 0, none⟩ = some (.int .i64 n1) := Base.blk_cell h4 0
  have h4z0 : (w4).frozen? ⟨w3.heap.size, 0, none⟩ = false := Base.blk_frozen h4 0
  have h4c1 : (w4).cell? ⟨w3.heap.size, 1, none⟩ = some (.int .i64 n2) := Base.blk_cell h4 1
  have h4z1 : (w4).frozen? ⟨w3.heap.size, 1, none⟩ = false := Base.blk_frozen h4 1
  have h4c2 : (w4).cell? ⟨w3.heap.size, 2, none⟩ = some (.int .i64 0) := Base.blk_cell h4 2
  have h4z2 : (w4).frozen? ⟨w3.heap.size, 2, none⟩ = false := Base.blk_frozen h4 2
  have h4c3 : (w4).cell? ⟨w3.heap.size, 3, none⟩ = some (.int .i64 0) := Base.blk_cell h4 3
  have h4z3 : (w4).frozen? ⟨w3.heap.size, 3, none⟩ = false := Base.blk_frozen h4 3
  have h4c4 : (w4).cell? ⟨w3.heap.size, 4, none⟩ = some (.int .i64 0) := Base.blk_cell h4 4
  have h4z4 : (w4).frozen? ⟨w3.heap.size, 4, none⟩ = false := Base.blk_frozen h4 4
  have h4c5 : (w4).cell? ⟨w3.heap.size, 5, none⟩ = some (.bool false) := Base.blk_cell h4 5
  have h4z5 : (w4).frozen? ⟨w3.heap.size, 5, none⟩ = false := Base.blk_frozen h4 5
  clear h4
  go_wp2_with fail
  clear h4c0 h4z0 h4c1 h4z1 h4c2 h4z2 h4c3 h4z3 h4c4 h4z4 h4c5 h4z5
  refine ((hS4.set 2 _ rfl).number 4).mono ?_
  rw [e4.out]
  rintro e w5 ⟨rfl, hS5, hU5⟩
  have hV5 := (hV4.setNew hN3 _).newOnly hU5 hN1
  have h5 := hS5.t
  have h5c0 : (w5).cell? ⟨w3.heap.size, 0, none⟩ = some (.int .i64 n1) := Base.blk_cell h5 0
  have h5z0 : (w5).frozen? ⟨w3.heap.size, 0, none⟩ = false := Base.blk_frozen h5 0
  have h5c1 : (w5).cell? ⟨w3.heap.size, 1, none⟩ = some (.int .i64 n2) := Base.blk_cell h5 1
  have h5z1 : (w5).frozen? ⟨w3.heap.size, 1, none⟩ = false := Base.blk_frozen h5 1
  have h5c2 : (w5).cell? ⟨w3.heap.size, 2, none⟩ = some (.int .i64 n3) := Base.blk_cell h5 2
  have h5z2 : (w5).frozen? ⟨w3.heap.size, 2, none⟩ = false := Base.blk_frozen h5 2
  have h5c3 : (w5).cell? ⟨w3.heap.size, 3, none⟩ = some (.int .i64 0) := Base.blk_cell h5 3
  have h5z3 : (w5).frozen? ⟨w3.heap.size, 3, none⟩ = false := Base.blk_frozen h5 3
  have h5c4 : (w5).cell? ⟨w3.heap.size, 4, none⟩ = some (.int .i64 0) := Base.blk_cell h5 4
  have h5z4 : (w5).frozen? ⟨w3.heap.size, 4, none⟩ = false := Base.blk_frozen h5 4
  have h5c5 : (w5).cell? ⟨w3.heap.size, 5, none⟩ = some (.bool false) := Base.blk_cell h5 5
  have h5z5 : (w5).frozen? ⟨w3.heap.size, 5, none⟩ = false := Base.blk_frozen h5 5
  clear h5
  go_wp2_with fail
  clear h5c0 h5z0 h5c1 h5z1 h5c2 h5z2 h5c3 h5z3 h5c4 h5z4 h5c5 h5z5
  refine ((hS5.set 3 _ rfl).number 1).mono ?_
  rw [e5.out]
  rintro e w6 ⟨rfl, hS6, hU6⟩
  have hV6 := (hV5.setNew hN3 _).newOnly hU6 hN1
  have h6 := hS6.t
  have h6c0 : (w6).cell? ⟨w3.heap.size, 0, none⟩ = some (.int .i64 n1) := Base.blk_cell h6 0
  have h6z0 : (w6).frozen? ⟨w3.heap.size, 0, none⟩ = false := Base.blk_frozen h6 0
  have h6c1 : (w6).cell? ⟨w3.heap.size, 1, none⟩ = some (.int .i64 n2) := Base.blk_cell h6 1
  have h6z1 : (w6).frozen? ⟨w3.heap.size, 1, none⟩ = false := Base.blk_frozen h6 1
  have h6c2 : (w6).cell? ⟨w3.heap.size, 2, none⟩ = some (.int .i64 n3) := Base.blk_cell h6 2
  have h6z2 : (w6).frozen? ⟨w3.heap.size, 2, none⟩ = false := Base.blk_frozen h6 2
  have h6c3 : (w6).cell? ⟨w3.heap.size, 3, none⟩ = some (.int .i64 n4) := Base.blk_cell h6 3
  have h6z3 : (w6).frozen? ⟨w3.heap.size, 3, none⟩ = false := Base.blk_frozen h6 3
  have h6c4 : (w6).cell? ⟨w3.heap.size, 4, none⟩ = some (.int .i64 0) := Base.blk_cell h6 4
  have h6z4 : (w6).frozen? ⟨w3.heap.size, 4, none⟩ = false := Base.blk_frozen h6 4
  have h6c5 : (w6).cell? ⟨w3.heap.size, 5, none⟩ = some (.bool false) := Base.blk_cell h6 5
  have h6z5 : (w6).frozen? ⟨w3.heap.size, 5, none⟩ = false := Base.blk_frozen h6 5
  clear h6
  go_wp2_with fail
  clear h6c0 h6z0 h6c1 h6z1 h6c2 h6z2 h6c3 h6z3 h6c4 h6z4 h6c5 h6z5
  refine ((hS6.set 4 _ rfl).flag).mono ?_
  rw [e6.out]
  rintro e w7 ⟨rfl, hS7, hU7⟩
  have hV7 := (hV6.setNew hN3 _).newOnly hU7 hN1
  have h7 := hS7.t
  have h7c0 : (w7).cell? ⟨w3.heap.size, 0, none⟩ = some (.int .i64 n1) := Base.blk_cell h7 0
  have h7z0 : (w7).frozen? ⟨w3.heap.size, 0, none⟩ = false := Base.blk_frozen h7 0
  have h7c1 : (w7).cell? ⟨w3.heap.size, 1, none⟩ = some (.int .i64 n2) := Base.blk_cell h7 1
  have h7z1 : (w7).frozen? ⟨w3.heap.size, 1, none⟩ = false := Base.blk_frozen h7 1
  have h7c2 : (w7).cell? ⟨w3.heap.size, 2, none⟩ = some (.int .i64 n3) := Base.blk_cell h7 2
  have h7z2 : (w7).frozen? ⟨w3.heap.size, 2, none⟩ = false := Base.blk_frozen h7 2
  have h7c3 : (w7).cell? ⟨w3.heap.size, 3, none⟩ = some (.int .i64 n4) := Base.blk_cell h7 3
  have h7z3 : (w7).frozen? ⟨w3.heap.size, 3, none⟩ = false := Base.blk_frozen h7 3
  have h7c4 : (w7).cell? ⟨w3.heap.size, 4, none⟩ = some (.int .i64 n5) := Base.blk_cell h7 4
  have h7z4 : (w7).frozen? ⟨w3.heap.size, 4, none⟩ = false := Base.blk_frozen h7 4
  have h7c5 : (w7).cell? ⟨w3.heap.size, 5, none⟩ = some (.bool false) := Base.blk_cell h7 5
  have h7z5 : (w7).frozen? ⟨w3.heap.size, 5, none⟩ = false := Base.blk_frozen h7 5
  clear h7
  go_wp2_with fail
  clear h7c0 h7z0 h7c1 h7z1 h7c2 h7z2 h7c3 h7z3 h7c4 h7z4 h7c5 h7z5
  refine ((hS7.set 5 _ rfl).done).mono ?_
  rw [e7.out]
  rintro e w9 ⟨rfl, hS9, hU9⟩
  have hV9 := (hV7.setNew hN3 _).newOnly hU9 hN1
  have ht := hS9.t
  have ho := hS9.o
  clear hS3 hS4 hS5 hS6 hS7 hS9 hU4 hU5 hU6 hU7 hU9 hV3a hV4 hV5 hV6 hV7 e1 e2 e3 e4 e5 e6 e7
  generalize w3.heap.size = b7 at *
  by_cases hd : d = 0
  · subst hd
    have htc0 : (w9).cell? ⟨b7, 0, none⟩ = some (.int .i64 n1) := Base.blk_cell ht 0
    have htz0 : (w9).frozen? ⟨b7, 0, none⟩ = false := Base.blk_frozen ht 0
    have htc1 : (w9).cell? ⟨b7, 1, none⟩ = some (.int .i64 n2) := Base.blk_cell ht 1
    have htz1 : (w9).frozen? ⟨b7, 1, none⟩ = false := Base.blk_frozen ht 1
    have htc2 : (w9).cell? ⟨b7, 2, none⟩ = some (.int .i64 n3) := Base.blk_cell ht 2
    have htz2 : (w9).frozen? ⟨b7, 2, none⟩ = false := Base.blk_frozen ht 2
    have htc3 : (w9).cell? ⟨b7, 3, none⟩ = some (.int .i64 n4) := Base.blk_cell ht 3
    have htz3 : (w9).frozen? ⟨b7, 3, none⟩ = false := Base.blk_frozen ht 3
    have htc4 : (w9).cell? ⟨b7, 4, none⟩ = some (.int .i64 n5) := Base.blk_cell ht 4
    have htz4 : (w9).frozen? ⟨b7, 4, none⟩ = false := Base.blk_frozen ht 4
    have htc5 : (w9).cell? ⟨b7, 5, none⟩ = some (.bool f) := Base.blk_cell ht 5
    have htz5 : (w9).frozen? ⟨b7, 5, none⟩ = false := Base.blk_frozen ht 5
    have kr := rright ⟨n1, n2, n3, n4, n5, f⟩ w9
    cases hrt : rightB ⟨n1, n2, n3, n4, n5, f⟩
    · have hp : Hid (parseT b = (tg0, 2)) := by
        show _ = _
        rw [hpt.out, if_pos (.inr hrt)]
      rw [hrt] at kr
      clear hrt
      go_wp2_with fail
      refine kr.mono ?_
      rintro e w10 ⟨rfl, hU10⟩
      have ho2 := hU10.blk ho (fun h => h)
      clear htc0 htc1 htc2 htc3 htc4 htc5 htz0 htz1 htz2 htz3 htz4 htz5 ht ho
      have ho2c0 : (w10).cell? ⟨w.heap.size, 0, none⟩ = some (.int .i64 0) := Base.blk_cell ho2 0
      have ho2z0 : (w10).frozen? ⟨w.heap.size, 0, none⟩ = false := Base.blk_frozen ho2 0
      have ho2c1 : (w10).cell? ⟨w.heap.size, 1, none⟩ = some (.int .i64 0) := Base.blk_cell ho2 1
      have ho2z1 : (w10).frozen? ⟨w.heap.size, 1, none⟩ = false := Base.blk_frozen ho2 1
      have ho2c2 : (w10).cell? ⟨w.heap.size, 2, none⟩ = some (.int .i64 0) := Base.blk_cell ho2 2
      have ho2z2 : (w10).frozen? ⟨w.heap.size, 2, none⟩ = false := Base.blk_frozen ho2 2
      have ho2c3 : (w10).cell? ⟨w.heap.size, 3, none⟩ = some (.int .i64 0) := Base.blk_cell ho2 3
      have ho2z3 : (w10).frozen? ⟨w.heap.size, 3, none⟩ = false := Base.blk_frozen ho2 3
      have ho2c4 : (w10).cell? ⟨w.heap.size, 4, none⟩ = some (.int .i64 0) := Base.blk_cell ho2 4
      have ho2z4 : (w10).frozen? ⟨w.heap.size, 4, none⟩ = false := Base.blk_frozen ho2 4
      have ho2c5 : (w10).cell? ⟨w.heap.size, 5, none⟩ = some (.bool false) := Base.blk_cell ho2 5
      have ho2z5 : (w10).frozen? ⟨w.heap.size, 5, none⟩ = false := Base.blk_frozen ho2 5
      go_wp2_with fail
      have hV := hV9.tr hU10
      exact bodyPost_ret (v := .tuple #[tgV tg0, .int .i64 2]) (by simp [results, Try.results28, go_sem, tgV, tg0, ho2c0, ho2c1, ho2c2, ho2c3, ho2c4, ho2c5]) rfl ⟨by rw [hp.out], (((((hV.setNew (Nat.le_refl _) _).setNew (Nat.le_refl _) _).setNew (Nat.le_refl _) _).setNew (Nat.le_refl _) _).setNew (Nat.le_refl _) _).setNew (Nat.le_refl _) _⟩
    · have hp : Hid (parseT b = (⟨n1, n2, n3, n4, n5, f⟩, 0)) := by
        show _ = _
        rw [hpt.out, if_neg (by simp [gotT, hrt])]
        rfl
      rw [hrt] at kr
      clear hrt
      go_wp2_with fail
      refine kr.mono ?_
      rintro e w10 ⟨rfl, hU10⟩
      have ho2 := hU10.blk ho (fun h => h)
      have ht2 := hU10.blk ht (fun h => h)
      clear htc0 htc1 htc2 htc3 htc4 htc5 htz0 htz1 htz2 htz3 htz4 htz5 ht ho
      have ho2c0 : (w10).cell? ⟨w.heap.size, 0, none⟩ = some (.int .i64 0) := Base.blk_cell ho2 0
      have ho2z0 : (w10).frozen? ⟨w.heap.size, 0, none⟩ = false := Base.blk_frozen ho2 0
      have ho2c1 : (w10).cell? ⟨w.heap.size, 1, none⟩ = some (.int .i64 0) := Base.blk_cell ho2 1
      have ho2z1 : (w10).frozen? ⟨w.heap.size, 1, none⟩ = false := Base.blk_frozen ho2 1
      have ho2c2 : (w10).cell? ⟨w.heap.size, 2, none⟩ = some (.int .i64 0) := Base.blk_cell ho2 2
      have ho2z2 : (w10).frozen? ⟨w.heap.size, 2, none⟩ = false := Base.blk_frozen ho2 2
      have ho2c3 : (w10).cell? ⟨w.heap.size, 3, none⟩ = some (.int .i64 0) := Base.blk_cell ho2 3
      have ho2z3 : (w10).frozen? ⟨w.heap.size, 3, none⟩ = false := Base.blk_frozen ho2 3
      have ho2c4 : (w10).cell? ⟨w.heap.size, 4, none⟩ = some (.int .i64 0) := Base.blk_cell ho2 4
      have ho2z4 : (w10).frozen? ⟨w.heap.size, 4, none⟩ = false := Base.blk_frozen ho2 4
      have ho2c5 : (w10).cell? ⟨w.heap.size, 5, none⟩ = some (.bool false) := Base.blk_cell ho2 5
      have ho2z5 : (w10).frozen? ⟨w.heap.size, 5, none⟩ = false := Base.blk_frozen ho2 5
      have ht2c0 : (w10).cell? ⟨b7, 0, none⟩ = some (.int .i64 n1) := Base.blk_cell ht2 0
      have ht2z0 : (w10).frozen? ⟨b7, 0, none⟩ = false := Base.blk_frozen ht2 0
      have ht2c1 : (w10).cell? ⟨b7, 1, none⟩ = some (.int .i64 n2) := Base.blk_cell ht2 1
      have ht2z1 : (w10).frozen? ⟨b7, 1, none⟩ = false := Base.blk_frozen ht2 1
      have ht2c2 : (w10).cell? ⟨b7, 2, none⟩ = some (.int .i64 n3) := Base.blk_cell ht2 2
      have ht2z2 : (w10).frozen? ⟨b7, 2, none⟩ = false := Base.blk_frozen ht2 2
      have ht2c3 : (w10).cell? ⟨b7, 3, none⟩ = some (.int .i64 n4) := Base.blk_cell ht2 3
      have ht2z3 : (w10).frozen? ⟨b7, 3, none⟩ = false := Base.blk_frozen ht2 3
      have ht2c4 : (w10).cell? ⟨b7, 4, none⟩ = some (.int .i64 n5) := Base.blk_cell ht2 4
      have ht2z4 : (w10).frozen? ⟨b7, 4, none⟩ = false := Base.blk_frozen ht2 4
      have ht2c5 : (w10).cell? ⟨b7, 5, none⟩ = some (.bool f) := Base.blk_cell ht2 5
      have ht2z5 : (w10).frozen? ⟨b7, 5, none⟩ = false := Base.blk_frozen ht2 5
      go_wp2_with fail
      have hV := hV9.tr hU10
      exact bodyPost_ret (v := .tuple #[tgV ⟨n1, n2, n3, n4, n5, f⟩, .int .i64 0]) (by simp [results, Try.results28, go_sem, tgV, ho2c0, ho2c1, ho2c2, ho2c3, ho2c4, ho2c5]) rfl ⟨by rw [hp.out], (((((hV.setNew (Nat.le_refl _) _).setNew (Nat.le_refl _) _).setNew (Nat.le_refl _) _).setNew (Nat.le_refl _) _).setNew (Nat.le_refl _) _).setNew (Nat.le_refl _) _⟩
  · have hdb : (d != 0) = true := by simpa using hd
    have hp : Hid (parseT b = (tg0, 2)) := by
      show _ = _
      rw [hpt.out, if_pos (.inl hd)]
    have hoc0 : (w9).cell? ⟨w.heap.size, 0, none⟩ = some (.int .i64 0) := Base.blk_cell ho 0
    have hoz0 : (w9).frozen? ⟨w.heap.size, 0, none⟩ = false := Base.blk_frozen ho 0
    have hoc1 : (w9).cell? ⟨w.heap.size, 1, none⟩ = some (.int .i64 0) := Base.blk_cell ho 1
    have hoz1 : (w9).frozen? ⟨w.heap.size, 1, none⟩ = false := Base.blk_frozen ho 1
    have hoc2 : (w9).cell? ⟨w.heap.size, 2, none⟩ = some (.int .i64 0) := Base.blk_cell ho 2
    have hoz2 : (w9).frozen? ⟨w.heap.size, 2, none⟩ = false := Base.blk_frozen ho 2
    have hoc3 : (w9).cell? ⟨w.heap.size, 3, none⟩ = some (.int .i64 0) := Base.blk_cell ho 3
    have hoz3 : (w9).frozen? ⟨w.heap.size, 3, none⟩ = false := Base.blk_frozen ho 3
    have hoc4 : (w9).cell? ⟨w.heap.size, 4, none⟩ = some (.int .i64 0) := Base.blk_cell ho 4
    have hoz4 : (w9).frozen? ⟨w.heap.size, 4, none⟩ = false := Base.blk_frozen ho 4
    have hoc5 : (w9).cell? ⟨w.heap.size, 5, none⟩ = some (.bool false) := Base.blk_cell ho 5
    have hoz5 : (w9).frozen? ⟨w.heap.size, 5, none⟩ = false := Base.blk_frozen ho 5
    clear ht
    go_wp2_with fail
    exact bodyPost_ret (v := .tuple #[tgV tg0, .int .i64 2]) (by simp [results, Try.results28, go_sem, tgV, tg0, hoc0, hoc1, hoc2, hoc3, hoc4, hoc5]) rfl ⟨by rw [hp.out], (((((hV9.setNew (Nat.le_refl _) _).setNew (Nat.le_refl _) _).setNew (Nat.le_refl _) _).setNew (Nat.le_refl _) _).setNew (Nat.le_refl _) _).setNew (Nat.le_refl _) _⟩
theorem rparse (A : Option Addr) (c : Nat) (b : List UInt8) (w : World) (hA : Arg w A 1 bc b) (hc : b.length ≤ c) (hcm : c ≤ maxLen) (hb : b.length ≤ 140737488355328) :
    Calls Try.prog 28 #[.slice A b.length c] w (ParR (parseT b) w) := by
  by_cases hn : (whl b 84).2 = 0
  · exact rparse_yes A c b w hA hc hcm hb hn
  · exact rparse_no A c b w hA hc hcm hb hn
end Go.Proofs.Ythppheklnplljaa.Tag
