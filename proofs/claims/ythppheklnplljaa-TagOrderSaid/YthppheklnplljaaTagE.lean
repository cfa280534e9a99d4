/-
  Tags: the walks of Parse, the program's and the reference's. Conditions: what the argument's slice holds.
-/
import Derived.Test.YthppheklnplljaaTagD
import Derived.Test.YthppheklnplljaaFrameD
namespace Go.Proofs.Ythppheklnplljaa.Tag
open Go.RowKit Go.Proofs.Ythppheklnplljaa.Base Go.Proofs.Ythppheklnplljaa.Word Go.Proofs.Ythppheklnplljaa.Frame
set_option linter.unusedVariables false
set_option linter.unusedSimpArgs false
def tg0 : Tg := ⟨0, 0, 0, 0, 0, false⟩
/-- What reading one after the other gives. -/
structure Got where
  n1 : Nat
  n2 : Nat
  n3 : Nat
  n4 : Nat
  n5 : Nat
  f : Bool
  d : Int
def got (l : List UInt8) : Got :=
  let a := (⟨l, 0⟩ : Rd).number 1
  let b := a.2.number 4
  let c := b.2.number 1
  let d := c.2.number 4
  let e := d.2.number 1
  let f := e.2.flag
  ⟨a.1, b.1, c.1, d.1, e.1, f.1, f.2.done.1⟩
def gotT (g : Got) : Tg := ⟨g.n1, g.n2, g.n3, g.n4, g.n5, g.f⟩
def parseT (b : List UInt8) : Tg × Int :=
  if (whl b 84).2 ≠ 0 then (tg0, (whl b 84).2)
  else if (got (whl b 84).1).d ≠ 0 ∨ rightB (gotT (got (whl b 84).1)) = false then (tg0, 2)
  else (gotT (got (whl b 84).1), 0)
def ParR (r : Tg × Int) (w : World) (e : Ending) (w' : World) : Prop := e = .returned (.tuple #[tgV r.1, .int .i64 r.2]) ∧ Upd Nil w w'
/-- The reader, the tag that is filled, the result's cell. -/
structure St (B bR b7 b2 : Nat) (w : World) (r : Rd) (cs : Array Value) : Prop where
  rdr : ∃ v, Rdr B w bR v r
  t : w.heap[b7]? = some (.cells cs 35 (0, 0))
  o : w.heap[b2]? = some (.cells #[.int .i64 0, .int .i64 0, .int .i64 0, .int .i64 0, .int .i64 0, .bool false] 35 (0, 0))
  ne : b2 ≠ b7
theorem blk_ne {w : World} {a b : Nat} {cs ds : Array Value} {t u : TypeId} {f g : Nat × Nat} (h : w.heap[a]? = some (.cells cs t f)) (k : w.heap[b]? = some (.cells ds u g)) (hn : t ≠ u) : a ≠ b := by
  rintro rfl
  rw [h] at k
  injection k with k
  injection k with _ k
  exact hn k
theorem St.step {B bR b7 b2 : Nat} {w w' : World} {r r' : Rd} {cs : Array Value} (h : St B bR b7 b2 w r cs) (k : ∃ v, Rdr B w' bR v r') (u : Upd (Only bR) w w') : St B bR b7 b2 w' r' cs := by
  obtain ⟨v, hv⟩ := h.rdr
  exact ⟨k, u.blk h.t (blk_ne h.t hv.blk (by decide)), u.blk h.o (blk_ne h.o hv.blk (by decide)), h.ne⟩
theorem St.set {B bR b7 b2 : Nat} {w : World} {r : Rd} {cs cs' : Array Value} (h : St B bR b7 b2 w r cs) (i : Nat) (u : Value) (e : cs.setIfInBounds i u = cs') : St B bR b7 b2 (w.setCell ⟨b7, i, none⟩ u) r cs' := by
  obtain ⟨v, hv⟩ := h.rdr
  have hU : Upd (Only b7) w (w.setCell ⟨b7, i, none⟩ u) := (Upd.refl _ _).set1 u
  exact ⟨⟨v, hv.upd hU (fun e => blk_ne h.t hv.blk (by decide) e.symm) (fun k hk e => hv.sl.ne h.t (by decide) k hk e)⟩, blk_put h.t i u e, hU.blk h.o h.ne, h.ne⟩
theorem St.number {B bR b7 b2 : Nat} {w : World} {r : Rd} {cs : Array Value} (h : St B bR b7 b2 w r cs) (n : Int) :
    Calls Try.prog 50 #[.pointer (some ⟨bR, 0, none⟩), .int .i64 n] w fun e w' => e = .returned (.int .i64 ((r.number n).1 : Nat)) ∧ St B bR b7 b2 w' (r.number n).2 cs ∧ Upd (Only bR) w w' := by
  obtain ⟨v, hv⟩ := h.rdr
  exact (Word.number B bR v r n w hv).mono fun e w' ⟨h1, h2, h3⟩ => ⟨h1, h.step h2 h3, h3⟩
theorem St.flag {B bR b7 b2 : Nat} {w : World} {r : Rd} {cs : Array Value} (h : St B bR b7 b2 w r cs) :
    Calls Try.prog 55 #[.pointer (some ⟨bR, 0, none⟩)] w fun e w' => e = .returned (.bool r.flag.1) ∧ St B bR b7 b2 w' r.flag.2 cs ∧ Upd (Only bR) w w' := by
  obtain ⟨v, hv⟩ := h.rdr
  exact (Word.flag B bR v r w hv).mono fun e w' ⟨h1, h2, h3⟩ => ⟨h1, h.step h2 h3, h3⟩
theorem St.done {B bR b7 b2 : Nat} {w : World} {r : Rd} {cs : Array Value} (h : St B bR b7 b2 w r cs) :
    Calls Try.prog 56 #[.pointer (some ⟨bR, 0, none⟩)] w fun e w' => e = .returned (.int .i64 r.done.1) ∧ St B bR b7 b2 w' r.done.2 cs ∧ Upd (Only bR) w w' := by
  obtain ⟨v, hv⟩ := h.rdr
  exact (Word.done B bR v r w hv).mono fun e w' ⟨h1, h2, h3⟩ => ⟨h1, h.step h2 h3, h3⟩
theorem whl_len (b : List UInt8) (k : Int) : (whl b k).1.length ≤ b.length := by
  unfold whl opn
  split
  · simp
  · split
    · simp
    · split
      · simp
      · split
        · simp
        · simp only [List.length_drop, List.length_take]; omega
set_option maxHeartbeats 4000000 in
set_option maxRecDepth 100000 in
theorem parse_no (A : Option Addr) (c : Nat) (b : List UInt8) (w : World) (hA : Arg w A 1 bc b) (hc : b.length ≤ c) (hcm : c ≤ maxLen) (hb : b.length ≤ 140737488355328) (hn : (whl b 84).2 ≠ 0) :
    Calls Try.prog 27 #[.slice A b.length c] w (ParR (parseT b) w) := by
  have hp : Hid (parseT b = (tg0, (whl b 84).2)) := by show _ = _; unfold parseT; rw [if_pos hn]
  have kw := fun w' (u : Upd Nil w w') => whole A c b 84 w' (hA.upd u) hc hcm hb
  generalize whl b 84 = q at *
  obtain ⟨ql, qe⟩ := q
  have hnb : (qe != 0) = true := by simpa using hn
  clear hn
  unfold maxLen at hcm
  go_enter Try.func27, Try.ntmps27
  go_wp2_with fail
  refine (kw _ ((Upd.refl _ _).alloc _)).mono ?_
  rintro e w1 ⟨x, rfl, hx, hU1⟩
  have hbx := hU1.block w.heap.size (by simp) (fun h => h)
  rw [blk_new] at hbx
  have hbxc0 : (w1).cell? ⟨w.heap.size, 0, none⟩ = some (.int .i64 0) := Base.blk_cell hbx 0
  have hbxz0 : (w1).frozen? ⟨w.heap.size, 0, none⟩ = false := Base.blk_frozen hbx 0
  have hbxc1 : (w1).cell? ⟨w.heap.size, 1, none⟩ = some (.int .i64 0) := Base.blk_cell hbx 1
  have hbxz1 : (w1).frozen? ⟨w.heap.size, 1, none⟩ = false := Base.blk_frozen hbx 1
  have hbxc2 : (w1).cell? ⟨w.heap.size, 2, none⟩ = some (.int .i64 0) := Base.blk_cell hbx 2
  have hbxz2 : (w1).frozen? ⟨w.heap.size, 2, none⟩ = false := Base.blk_frozen hbx 2
  have hbxc3 : (w1).cell? ⟨w.heap.size, 3, none⟩ = some (.int .i64 0) := Base.blk_cell hbx 3
  have hbxz3 : (w1).frozen? ⟨w.heap.size, 3, none⟩ = false := Base.blk_frozen hbx 3
  have hbxc4 : (w1).cell? ⟨w.heap.size, 4, none⟩ = some (.int .i64 0) := Base.blk_cell hbx 4
  have hbxz4 : (w1).frozen? ⟨w.heap.size, 4, none⟩ = false := Base.blk_frozen hbx 4
  have hbxc5 : (w1).cell? ⟨w.heap.size, 5, none⟩ = some (.bool false) := Base.blk_cell hbx 5
  have hbxz5 : (w1).frozen? ⟨w.heap.size, 5, none⟩ = false := Base.blk_frozen hbx 5
  go_wp2_with fail
  have hV := ((Upd.refl Nil w).alloc _).tr hU1
  exact bodyPost_ret (v := .tuple #[tgV tg0, .int .i64 qe]) (by simp [results, Try.results27, go_sem, tgV, tg0, hbxc0, hbxc1, hbxc2, hbxc3, hbxc4, hbxc5]) rfl ⟨by rw [hp.out], (((((hV.setNew (Nat.le_refl _) _).setNew (Nat.le_refl _) _).setNew (Nat.le_refl _) _).setNew (Nat.le_refl _) _).setNew (Nat.le_refl _) _).setNew (Nat.le_refl _) _⟩
set_option maxHeartbeats 8000000 in
set_option maxRecDepth 100000 in
theorem parse_yes (A : Option Addr) (c : Nat) (b : List UInt8) (w : World) (hA : Arg w A 1 bc b) (hc : b.length ≤ c) (hcm : c ≤ maxLen) (hb : b.length ≤ 140737488355328) (hn : (whl b 84).2 = 0) :
    Calls Try.prog 27 #[.slice A b.length c] w (ParR (parseT b) w) := by
  have kw := fun w' (u : Upd Nil w w') => whole A c b 84 w' (hA.upd u) hc hcm hb
  have hwl := whl_len b 84
  have hpt : Hid (parseT b = if (got (whl b 84).1).d ≠ 0 ∨ rightB (gotT (got (whl b 84).1)) = false then (tg0, 2) else (gotT (got (whl b 84).1), 0)) := by
    show _ = _
    unfold parseT
    rw [if_neg (by simp [hn])]
  generalize whl b 84 = q at *
  obtain ⟨ql, qe⟩ := q
  obtain rfl : qe = 0 := hn
  obtain ⟨n1, r1, e1⟩ : ∃ n r, (⟨ql, 0⟩ : Rd).number 1 = (n, r) := ⟨_, _, rfl⟩
  obtain ⟨n2, r2, e2⟩ : ∃ n r, r1.number 4 = (n, r) := ⟨_, _, rfl⟩
  obtain ⟨n3, r3, e3⟩ : ∃ n r, r2.number 1 = (n, r) := ⟨_, _, rfl⟩
  obtain ⟨n4, r4, e4⟩ : ∃ n r, r3.number 4 = (n, r) := ⟨_, _, rfl⟩
  obtain ⟨n5, r5, e5⟩ : ∃ n r, r4.number 1 = (n, r) := ⟨_, _, rfl⟩
  obtain ⟨f, r6, e6⟩ : ∃ n r, r5.flag = (n, r) := ⟨_, _, rfl⟩
  obtain ⟨d, r7, e7⟩ : ∃ n r, r6.done = (n, r) := ⟨_, _, rfl⟩
  have hg : got ql = ⟨n1, n2, n3, n4, n5, f, d⟩ := by simp [got, e1, e2, e3, e4, e5, e6, e7]
  simp only [hg] at hpt
  replace e1 := Lib.hid e1
  replace e2 := Lib.hid e2
  replace e3 := Lib.hid e3
  replace e4 := Lib.hid e4
  replace e5 := Lib.hid e5
  replace e6 := Lib.hid e6
  replace e7 := Lib.hid e7
  clear hg
  unfold maxLen at hcm
  simp only at kw hwl
  go_enter Try.func27, Try.ntmps27
  go_wp2_with fail
  refine (kw _ ((Upd.refl _ _).alloc _)).mono ?_
  rintro e w1 ⟨x, rfl, hx, hU1⟩
  have hbx := hU1.block w.heap.size (by simp) (fun h => h)
  rw [blk_new] at hbx
  obtain ⟨A1, c1, rfl, hc1⟩ := hx.form
  have hA1 := hx.cells bc_len (by omega)
  have hV1 := ((Upd.refl Nil w).alloc _).tr hU1
  clear hx kw
  go_wp2_with fail
  refine (read A1 c1 ql w1 hA1 (by omega)).mono ?_
  rintro e w2 ⟨bR, v, rfl, hbR, hR, hU2⟩
  have hb2 := hU2.blk hbx (fun h => h)
  have hV2 := hV1.tr hU2
  have hbRw : w.heap.size ≤ bR := Nat.le_trans hV1.size hbR
  have hlt := Nat.ne_of_lt (blk_lt hb2)
  have hN7 : w.heap.size ≤ w2.heap.size := hV2.size
  go_wp2_with fail
  have hS : St w1.heap.size bR w2.heap.size w.heap.size (w2.alloc (.cells #[.int .i64 0, .int .i64 0, .int .i64 0, .int .i64 0, .int .i64 0, .bool false] 35)) ⟨ql, 0⟩ #[.int .i64 0, .int .i64 0, .int .i64 0, .int .i64 0, .int .i64 0, .bool false] :=
    ⟨⟨v, hR.upd0 ((Upd.refl _ _).alloc _)⟩, blk_new _ _, blk_alloc hb2 _, hlt⟩
  have hV2 := hV2.alloc (.cells #[.int .i64 0, .int .i64 0, .int .i64 0, .int .i64 0, .int .i64 0, .bool false] 35)
  clear hb2 hbx hR hU2 hU1 hV1 hA1
  generalize w2.alloc (.cells #[.int .i64 0, .int .i64 0, .int .i64 0, .int .i64 0, .int .i64 0, .bool false] 35) = v2 at *
  generalize w2.heap.size = b7 at *
  refine (hS.number 1).mono ?_
  rw [e1.out]
  rintro e w3 ⟨rfl, hS3, hU3⟩
  go_wp2_with fail
  refine (hS3.number 4).mono ?_
  rw [e2.out]
  rintro e w4 ⟨rfl, hS4, hU4⟩
  have hV4 := (hV2.newOnly hU3 hbRw).newOnly hU4 hbRw
  have h4 := hS4.t
  have h4c0 : (w4).cell? ⟨b7, 0, none⟩ = some (.int .i64 0) := Base.blk_cell h4 0
  have h4z0 : (w4).frozen? ⟨b7, 0, none⟩ = false := Base.blk_frozen h4 0
  have h4c1 : (w4).cell? ⟨b7, 1, none⟩ = some (.int .i64 0) := Base.blk_cell h4 1
  have h4z1 : (w4).frozen? ⟨b7, 1, none⟩ = false := Base.blk_frozen h4 1
  have h4c2 : (w4).cell? ⟨b7, 2, none⟩ = some (.int .i64 0) := Base.blk_cell h4 2
  have h4z2 : (w4).frozen? ⟨b7, 2, none⟩ = false := Base.blk_frozen h4 2
  have h4c3 : (w4).cell? ⟨b7, 3, none⟩ = some (.int .i64 0) := Base.blk_cell h4 3
  have h4z3 : (w4).frozen? ⟨b7, 3, none⟩ = false := Base.blk_frozen h4 3
  have h4c4 : (w4).cell? ⟨b7, 4, none⟩ = some (.int .i64 0) := Base.blk_cell h4 4
  have h4z4 : (w4).frozen? ⟨b7, 4, none⟩ = false := Base.blk_frozen h4 4
  have h4c5 : (w4).cell? ⟨b7, 5, none⟩ = some (.bool false) := Base.blk_cell h4 5
  have h4z5 : (w4).frozen? ⟨b7, 5, none⟩ = false := Base.blk_frozen h4 5
  clear h4 hS hS3 hU3 hU4 hV2
  go_wp2_with fail
  clear h4c0 h4c1 h4c2 h4c3 h4c4 h4c5 h4z0 h4z1 h4z2 h4z3 h4z4 h4z5
  refine (((hS4.set 0 _ rfl).set 1 _ rfl).number 1).mono ?_
  rw [e3.out]
  rintro e w5 ⟨rfl, hS5, hU5⟩
  go_wp2_with fail
  refine (hS5.number 4).mono ?_
  rw [e4.out]
  rintro e w6 ⟨rfl, hS6, hU6⟩
  have hV6 := (((hV4.setNew hN7 _).setNew hN7 _).newOnly hU5 hbRw).newOnly hU6 hbRw
  have h6 := hS6.t
  have h6c0 : (w6).cell? ⟨b7, 0, none⟩ = some (.int .i64 n1) := Base.blk_cell h6 0
  have h6z0 : (w6).frozen? ⟨b7, 0, none⟩ = false := Base.blk_frozen h6 0
  have h6c1 : (w6).cell? ⟨b7, 1, none⟩ = some (.int .i64 n2) := Base.blk_cell h6 1
  have h6z1 : (w6).frozen? ⟨b7, 1, none⟩ = false := Base.blk_frozen h6 1
  have h6c2 : (w6).cell? ⟨b7, 2, none⟩ = some (.int .i64 0) := Base.blk_cell h6 2
  have h6z2 : (w6).frozen? ⟨b7, 2, none⟩ = false := Base.blk_frozen h6 2
  have h6c3 : (w6).cell? ⟨b7, 3, none⟩ = some (.int .i64 0) := Base.blk_cell h6 3
  have h6z3 : (w6).frozen? ⟨b7, 3, none⟩ = false := Base.blk_frozen h6 3
  have h6c4 : (w6).cell? ⟨b7, 4, none⟩ = some (.int .i64 0) := Base.blk_cell h6 4
  have h6z4 : (w6).frozen? ⟨b7, 4, none⟩ = false := Base.blk_frozen h6 4
  have h6c5 : (w6).cell? ⟨b7, 5, none⟩ = some (.bool false) := Base.blk_cell h6 5
  have h6z5 : (w6).frozen? ⟨b7, 5, none⟩ = false := Base.blk_frozen h6 5
  clear h6 hS4 hS5 hU5 hU6 hV4
  go_wp2_with fail
  clear h6c0 h6c1 h6c2 h6c3 h6c4 h6c5 h6z0 h6z1 h6z2 h6z3 h6z4 h6z5
  refine (((hS6.set 2 _ rfl).set 3 _ rfl).number 1).mono ?_
  rw [e5.out]
  rintro e w7 ⟨rfl, hS7, hU7⟩
  go_wp2_with fail
  refine hS7.flag.mono ?_
  rw [e6.out]
  rintro e w8 ⟨rfl, hS8, hU8⟩
  have hV8 := (((hV6.setNew hN7 _).setNew hN7 _).newOnly hU7 hbRw).newOnly hU8 hbRw
  have h8 := hS8.t
  have h8c0 : (w8).cell? ⟨b7, 0, none⟩ = some (.int .i64 n1) := Base.blk_cell h8 0
  have h8z0 : (w8).frozen? ⟨b7, 0, none⟩ = false := Base.blk_frozen h8 0
  have h8c1 : (w8).cell? ⟨b7, 1, none⟩ = some (.int .i64 n2) := Base.blk_cell h8 1
  have h8z1 : (w8).frozen? ⟨b7, 1, none⟩ = false := Base.blk_frozen h8 1
  have h8c2 : (w8).cell? ⟨b7, 2, none⟩ = some (.int .i64 n3) := Base.blk_cell h8 2
  have h8z2 : (w8).frozen? ⟨b7, 2, none⟩ = false := Base.blk_frozen h8 2
  have h8c3 : (w8).cell? ⟨b7, 3, none⟩ = some (.int .i64 n4) := Base.blk_cell h8 3
  have h8z3 : (w8).frozen? ⟨b7, 3, none⟩ = false := Base.blk_frozen h8 3
  have h8c4 : (w8).cell? ⟨b7, 4, none⟩ = some (.int .i64 0) := Base.blk_cell h8 4
  have h8z4 : (w8).frozen? ⟨b7, 4, none⟩ = false := Base.blk_frozen h8 4
  have h8c5 : (w8).cell? ⟨b7, 5, none⟩ = some (.bool false) := Base.blk_cell h8 5
  have h8z5 : (w8).frozen? ⟨b7, 5, none⟩ = false := Base.blk_frozen h8 5
  clear h8 hS6 hS7 hU7 hU8 hV6
  go_wp2_with fail
  clear h8c0 h8c1 h8c2 h8c3 h8c4 h8c5 h8z0 h8z1 h8z2 h8z3 h8z4 h8z5
  refine (((hS8.set 4 _ rfl).set 5 _ rfl).done).mono ?_
  rw [e7.out]
  rintro e w9 ⟨rfl, hS9, hU9⟩
  have hV9 := ((hV8.setNew hN7 _).setNew hN7 _).newOnly hU9 hbRw
  have ht := hS9.t
  have ho := hS9.o
  clear hS8 hS9 hU9 hV8 e1 e2 e3 e4 e5 e6 e7
  by_cases hd : d = 0
  · subst hd
    have htc0 : (w9).cell? ⟨b7, 0, none⟩ = some (.int .i64 n1) := Base.blk_cell ht 0
    have htz0 : (w9).frozen? ⟨b7, 0, none⟩ = false := Base.blk_frozen ht 0
    have htc1 : (w9).cell? ⟨b7, 1, none⟩ = some (.int .i64 n2) := Base.blk_cell ht 1
    have htz1 : (w9).frozen? ⟨b7, 1, none⟩ = false := Base.blk_frozen ht 1
    have htc2 : (w9).cell? ⟨b7, 2, none⟩ = some (.int .i64 n3) := Base.blk_cell ht 2
    have htz2 : (w9).frozen? ⟨b7, 2, none⟩ = false := Base.blk_frozen ht 2
    have htc3 : (w9).cell? ⟨b7, 3, none⟩ = some (.int .i64 n4) := Base.blk_cell ht 3
    have htz3 : (w9).frozen? ⟨b7, 3, none⟩ = false := Base.blk_frozen ht 3
    have htc4 : (w9).cell? ⟨b7, 4, none⟩ = some (.int .i64 n5) := Base.blk_cell ht 4
    have htz4 : (w9).frozen? ⟨b7, 4, none⟩ = false := Base.blk_frozen ht 4
    have htc5 : (w9).cell? ⟨b7, 5, none⟩ = some (.bool f) := Base.blk_cell ht 5
    have htz5 : (w9).frozen? ⟨b7, 5, none⟩ = false := Base.blk_frozen ht 5
    have kr := right ⟨n1, n2, n3, n4, n5, f⟩ w9
    cases hrt : rightB ⟨n1, n2, n3, n4, n5, f⟩
    · have hp : Hid (parseT b = (tg0, 2)) := by
        show _ = _
        rw [hpt.out, if_pos (.inr hrt)]
      rw [hrt] at kr
      clear hrt
      go_wp2_with fail
      refine kr.mono ?_
      rintro e w10 ⟨rfl, hU10⟩
      have ho2 := hU10.blk ho (fun h => h)
      clear htc0 htc1 htc2 htc3 htc4 htc5 htz0 htz1 htz2 htz3 htz4 htz5 ht ho
      have ho2c0 : (w10).cell? ⟨w.heap.size, 0, none⟩ = some (.int .i64 0) := Base.blk_cell ho2 0
      have ho2z0 : (w10).frozen? ⟨w.heap.size, 0, none⟩ = false := Base.blk_frozen ho2 0
      have ho2c1 : (w10).cell? ⟨w.heap.size, 1, none⟩ = some (.int .i64 0) := Base.blk_cell ho2 1
      have ho2z1 : (w10).frozen? ⟨w.heap.size, 1, none⟩ = false := Base.blk_frozen ho2 1
      have ho2c2 : (w10).cell? ⟨w.heap.size, 2, none⟩ = some (.int .i64 0) := Base.blk_cell ho2 2
      have ho2z2 : (w10).frozen? ⟨w.heap.size, 2, none⟩ = false := Base.blk_frozen ho2 2
      have ho2c3 : (w10).cell? ⟨w.heap.size, 3, none⟩ = some (.int .i64 0) := Base.blk_cell ho2 3
      have ho2z3 : (w10).frozen? ⟨w.heap.size, 3, none⟩ = false := Base.blk_frozen ho2 3
      have ho2c4 : (w10).cell? ⟨w.heap.size, 4, none⟩ = some (.int .i64 0) := Base.blk_cell ho2 4
      have ho2z4 : (w10).frozen? ⟨w.heap.size, 4, none⟩ = false := Base.blk_frozen ho2 4
      have ho2c5 : (w10).cell? ⟨w.heap.size, 5, none⟩ = some (.bool false) := Base.blk_cell ho2 5
      have ho2z5 : (w10).frozen? ⟨w.heap.size, 5, none⟩ = false := Base.blk_frozen ho2 5
      go_wp2_with fail
      have hV := hV9.tr hU10
      exact bodyPost_ret (v := .tuple #[tgV tg0, .int .i64 2]) (by simp [results, Try.results27, go_sem, tgV, tg0, ho2c0, ho2c1, ho2c2, ho2c3, ho2c4, ho2c5]) rfl ⟨by rw [hp.out], (((((hV.setNew (Nat.le_refl _) _).setNew (Nat.le_refl _) _).setNew (Nat.le_refl _) _).setNew (Nat.le_refl _) _).setNew (Nat.le_refl _) _).setNew (Nat.le_refl _) _⟩
    · have hp : Hid (parseT b = (⟨n1, n2, n3, n4, n5, f⟩, 0)) := by
        show _ = _
        rw [hpt.out, if_neg (by simp [gotT, hrt])]
        rfl
      rw [hrt] at kr
      clear hrt
      go_wp2_with fail
      refine kr.mono ?_
      rintro e w10 ⟨rfl, hU10⟩
      have ho2 := hU10.blk ho (fun h => h)
      have ht2 := hU10.blk ht (fun h => h)
      clear htc0 htc1 htc2 htc3 htc4 htc5 htz0 htz1 htz2 htz3 htz4 htz5 ht ho
      have ho2c0 : (w10).cell? ⟨w.heap.size, 0, none⟩ = some (.int .i64 0) := Base.blk_cell ho2 0
      have ho2z0 : (w10).frozen? ⟨w.heap.size, 0, none⟩ = false := Base.blk_frozen ho2 0
      have ho2c1 : (w10).cell? ⟨w.heap.size, 1, none⟩ = some (.int .i64 0) := Base.blk_cell ho2 1
      have ho2z1 : (w10).frozen? ⟨w.heap.size, 1, none⟩ = false := Base.blk_frozen ho2 1
      have ho2c2 : (w10).cell? ⟨w.heap.size, 2, none⟩ = some (.int .i64 0) := Base.blk_cell ho2 2
      have ho2z2 : (w10).frozen? ⟨w.heap.size, 2, none⟩ = false := Base.blk_frozen ho2 2
      have ho2c3 : (w10).cell? ⟨w.heap.size, 3, none⟩ = some (.int .i64 0) := Base.blk_cell ho2 3
      have ho2z3 : (w10).frozen? ⟨w.heap.size, 3, none⟩ = false := Base.blk_frozen ho2 3
      have ho2c4 : (w10).cell? ⟨w.heap.size, 4, none⟩ = some (.int .i64 0) := Base.blk_cell ho2 4
      have ho2z4 : (w10).frozen? ⟨w.heap.size, 4, none⟩ = false := Base.blk_frozen ho2 4
      have ho2c5 : (w10).cell? ⟨w.heap.size, 5, none⟩ = some (.bool false) := Base.blk_cell ho2 5
      have ho2z5 : (w10).frozen? ⟨w.heap.size, 5, none⟩ = false := Base.blk_frozen ho2 5
      have ht2c0 : (w10).cell? ⟨b7, 0, none⟩ = some (.int .i64 n1) := Base.blk_cell ht2 0
      have ht2z0 : (w10).frozen? ⟨b7, 0, none⟩ = false := Base.blk_frozen ht2 0
      have ht2c1 : (w10).cell? ⟨b7, 1, none⟩ = some (.int .i64 n2) := Base.blk_cell ht2 1
      have ht2z1 : (w10).frozen? ⟨b7, 1, none⟩ = false := Base.blk_frozen ht2 1
      have ht2c2 : (w10).cell? ⟨b7, 2, none⟩ = some (.int .i64 n3) := Base.blk_cell ht2 2
      have ht2z2 : (w10).frozen? ⟨b7, 2, none⟩ = false := Base.blk_frozen ht2 2
      have ht2c3 : (w10).cell? ⟨b7, 3, none⟩ = some (.int .i64 n4) := Base.blk_cell ht2 3
      have ht2z3 : (w10).frozen? ⟨b7, 3, none⟩ = false := Base.blk_frozen ht2 3
      have ht2c4 : (w10).cell? ⟨b7, 4, none⟩ = some (.int .i64 n5) := Base.blk_cell ht2 4
      have ht2z4 : (w10).frozen? ⟨b7, 4, none⟩ = false := Base.blk_frozen ht2 4
      have ht2c5 : (w10).cell? ⟨b7, 5, none⟩ = some (.bool f) := Base.blk_cell ht2 5
      have ht2z5 : (w10).frozen? ⟨b7, 5, none⟩ = false := Base.blk_frozen ht2 5
      go_wp2_with fail
      have hV := hV9.tr hU10
      exact bodyPost_ret (v := .tuple #[tgV ⟨n1, n2, n3, n4, n5, f⟩, .int .i64 0]) (by simp [results, Try.results27, go_sem, tgV, ho2c0, ho2c1, ho2c2, ho2c3, ho2c4, ho2c5]) rfl ⟨by rw [hp.out], (((((hV.setNew (Nat.le_refl _) _).setNew (Nat.le_refl _) _).setNew (Nat.le_refl _) _).setNew (Nat.le_refl _) _).setNew (Nat.le_refl _) _).setNew (Nat.le_refl _) _⟩
  · have hdb : (d != 0) = true := by simpa using hd
    have hp : Hid (parseT b = (tg0, 2)) := by
      show _ = _
      rw [hpt.out, if_pos (.inl hd)]
    have hoc0 : (w9).cell? ⟨w.heap.size, 0, none⟩ = some (.int .i64 0) := Base.blk_cell ho 0
    have hoz0 : (w9).frozen? ⟨w.heap.size, 0, none⟩ = false := Base.blk_frozen ho 0
    have hoc1 : (w9).cell? ⟨w.heap.size, 1, none⟩ = some (.int .i64 0) := Base.blk_cell ho 1
    have hoz1 : (w9).frozen? ⟨w.heap.size, 1, none⟩ = false := Base.blk_frozen ho 1
    have hoc2 : (w9).cell? ⟨w.heap.size, 2, none⟩ = some (.int .i64 0) := Base.blk_cell ho 2
    have hoz2 : (w9).frozen? ⟨w.heap.size, 2, none⟩ = false := Base.blk_frozen ho 2
    have hoc3 : (w9).cell? ⟨w.heap.size, 3, none⟩ = some (.int .i64 0) := Base.blk_cell ho 3
    have hoz3 : (w9).frozen? ⟨w.heap.size, 3, none⟩ = false := Base.blk_frozen ho 3
    have hoc4 : (w9).cell? ⟨w.heap.size, 4, none⟩ = some (.int .i64 0) := Base.blk_cell ho 4
    have hoz4 : (w9).frozen? ⟨w.heap.size, 4, none⟩ = false := Base.blk_frozen ho 4
    have hoc5 : (w9).cell? ⟨w.heap.size, 5, none⟩ = some (.bool false) := Base.blk_cell ho 5
    have hoz5 : (w9).frozen? ⟨w.heap.size, 5, none⟩ = false := Base.blk_frozen ho 5
    clear ht
    go_wp2_with fail
    exact bodyPost_ret (v := .tuple #[tgV tg0, .int .i64 2]) (by simp [results, Try.results27, go_sem, tgV, tg0, hoc0, hoc1, hoc2, hoc3, hoc4, hoc5]) rfl ⟨by rw [hp.out], (((((hV9.setNew (Nat.le_refl _) _).setNew (Nat.le_refl _) _).setNew (Nat.le_refl _) _).setNew (Nat.le_refl _) _).setNew (Nat.le_refl _) _).setNew (Nat.le_refl _) _⟩
theorem parse (A : Option Addr) (c : Nat) (b : List UInt8) (w : World) (hA : Arg w A 1 bc b) (hc : b.length ≤ c) (hcm : c ≤ maxLen) (hb : b.length ≤ 140737488355328) :
    Calls Try.prog 27 #[.slice A b.length c] w (ParR (parseT b) w) := by
  by_cases hn : (whl b 84).2 = 0
  · exact parse_yes A c b w hA hc hcm hb hn
  · exact parse_no A c b w hA hc hcm hb hn
end Go.Proofs.Ythppheklnplljaa.Tag
