/-
  The walk of 'almshouselaw20.QueuePlays': it returns true and turns nothing that there was. Conditions: the row of acts is read before the call.
-/
import Derived.Test.YtobhpfbldmobfaaQueueL
import Derived.Deep.RegionWith
import Derived.Deep.CutBlock
import Derived.Deep.DeepCutAuto
namespace Go.Proofs.Ytobhpfbldmobfaa.QueueP
open Go.RowKit Go.Proofs.Ytobhpfbldmobfaa.Base Go.Proofs.Ytobhpfbldmobfaa.Queue Go.Proofs.Ytobhpfbldmobfaa.QueueL
set_option linter.unusedVariables false
set_option maxRecDepth 100000 in
theorem right (x : Rec) (w : World) : Calls Try.prog 49 #[.agg #[.int .i64 x.a, .int .i64 x.b, .string x.s]] w (RetV (.bool (chk x == 0)) w) := by
  obtain ⟨a, b, s⟩ := x
  have hc : Hid (chk ⟨a, b, s⟩ = if a = 2 then 0 else if (a = 1 ∨ a = 3) ∧ s.toList.isEmpty = true then 0 else if a = 4 ∧ s.toList.isEmpty = true ∧ b = 0 then 0 else 1) := rfl
  have hU := (Upd.refl Nil w).alloc (.cells #[.int .i64 a, .int .i64 b, .string s] 78)
  have rb : ∀ {n m : Bool}, n = m → Ending.returned (.bool m) = .returned (.bool n) := fun h => by rw [h]
  by_cases h2 : a = 2
  · subst h2
    go_enter Try.func49, Try.ntmps49
    go_wp2
    go_ret
    exact ⟨rb (by rw [hc.out]; simp ), hU⟩
  · have e2 : (a == 2) = false := beq_eq_false_iff_ne.mpr h2
    cases hs : s.toList.isEmpty with
    | false =>
      go_enter Try.func49, Try.ntmps49
      go_wp2
      go_ret
      exact ⟨rb (by rw [hc.out]; simp [hs, h2]), hU⟩
    | true =>
      by_cases h1 : a = 1
      · subst h1
        go_enter Try.func49, Try.ntmps49
        go_wp2
        go_ret
        exact ⟨rb (by rw [hc.out]; simp [hs]), hU⟩
      · have e1 : (a == 1) = false := beq_eq_false_iff_ne.mpr h1
        by_cases h3 : a = 3
        · subst h3
          go_enter Try.func49, Try.ntmps49
          go_wp2
          go_ret
          exact ⟨rb (by rw [hc.out]; simp [hs]), hU⟩
        · have e3 : (a == 3) = false := beq_eq_false_iff_ne.mpr h3
          by_cases h4 : a = 4
          · subst h4
            by_cases hb : b = 0
            · subst hb
              go_enter Try.func49, Try.ntmps49
              go_wp2
              go_ret
              exact ⟨rb (by rw [hc.out]; simp [hs]), hU⟩
            · have eb : (b == 0) = false := beq_eq_false_iff_ne.mpr hb
              go_enter Try.func49, Try.ntmps49
              go_wp2
              go_ret
              exact ⟨rb (by rw [hc.out]; simp [hs, hb]), hU⟩
          · have e4 : (a == 4) = false := beq_eq_false_iff_ne.mpr h4
            go_enter Try.func49, Try.ntmps49
            go_wp2
            go_ret
            exact ⟨rb (by rw [hc.out]; simp [h1, h2, h3, h4]), hU⟩

/-- An act's cells. -/
structure Ac where
  k : Int
  c : Rec
  d : Rec
def actC (x : Ac) : List Value := [.int .u8 x.k, .int .i64 x.c.a, .int .i64 x.c.b, .string x.c.s, .int .i64 x.d.a, .int .i64 x.d.b, .string x.d.s]
/-- Two slices have not one block. -/
def Far (v u : Value) : Prop := ∀ g, v.ownBlock = some g → u.ownBlock ≠ some g
theorem Far.symm {v u : Value} (h : Far v u) : Far u v := fun g hg hv => h g hv hg
theorem Far.kin {w : World} {v v' u : Value} (h : Far v u) (k : Kin w v v') (hu : ∀ g, u.ownBlock = some g → g < w.heap.size) : Far v' u := by
  intro g hg hgu
  rcases k with k | ⟨g', hk, hlt⟩
  · exact h g (k ▸ hg) hgu
  · have : g' = g := by rw [hk] at hg; injection hg
    have := hu g hgu
    omega
/-- The queue, and the law's own rows, of the same commands and completions. -/
structure Both (B : Nat) (w : World) (b : Nat) (vw vd v4 v5 : Value) (ws ds : List Rec) : Prop where
  qu : Qu B w b vw vd ws ds
  ws : Sl w B 78 3 rc v4 ws
  ds : Sl w B 80 3 rc v5 ds
  fw : Far vw v4
  fd : Far vd v5
def BothE (B : Nat) (w : World) (b : Nat) (v4 v5 : Value) (k : Nat) : Prop := ∃ vw vd ws ds, Both B w b vw vd v4 v5 ws ds ∧ ws.length ≤ 8 ∧ ds.length ≤ k

theorem chk01 (x : Rec) : chk x = 0 ∨ chk x = 1 := by
  unfold chk
  split
  · exact .inl rfl
  · split
    · exact .inl rfl
    · split
      · exact .inl rfl
      · exact .inr rfl
theorem Both.upd {B : Nat} {w w' : World} {b : Nat} {vw vd v4 v5 : Value} {ws ds : List Rec} (h : Both B w b vw vd v4 v5 ws ds) (u : Upd Nil w w') : Both B w' b vw vd v4 v5 ws ds :=
  ⟨h.qu.upd u (fun h => h) (fun _ _ h => h) (fun _ _ h => h), h.ws.upd u (fun _ _ h => h), h.ds.upd u (fun _ _ h => h), h.fw, h.fd⟩


def BothE2 (B : Nat) (W : World) (b : Nat) (k : Nat) (v4 v5 : Value) (wx : World) : Prop := ∃ vw vd ws ds, Both B wx b vw vd v4 v5 ws ds ∧ ws.length ≤ 8 ∧ ds.length ≤ k ∧ Upd Nil W wx
/-- Behind what the law reckons itself. -/
structure Mid (B : Nat) (W : World) (g : Nat) (o : Obj) (b : Nat) (vw vd v5 : Value) (ws ws2 ds : List Rec) (v4 : Value) (wx : World) : Prop where
  qu : Qu B wx b vw vd ws ds
  w4 : Sl wx B 78 3 rc v4 ws2
  d5 : Sl wx B 80 3 rc v5 ds
  fw : Far vw v4
  fd : Far vd v5
  ac : wx.heap[g]? = some o
  up : Upd Nil W wx
def MidE (B : Nat) (W : World) (g : Nat) (o : Obj) (b : Nat) (vw vd v5 : Value) (ws ds : List Rec) (x : Rec) (v4 s8 : Value) (wx : World) : Prop :=
  s8 = .int .i64 (subR ws x).1 ∧ Mid B W g o b vw vd v5 ws (subR ws x).2 ds v4 wx
theorem subR_len {ws : List Rec} {x : Rec} (h : ws.length ≤ 8) : (subR ws x).2.length ≤ 8 := by
  unfold subR
  split
  · split
    · simp; omega
    · exact h
  · exact h
theorem far_of {B : Nat} {w : World} {e e' : Nat} {v u : Value} {l l' : List Rec} (h : Sl w B e 3 rc v l) (h' : Sl w B e' 3 rc u l') (hne : e ≠ e') : Far v u := by
  intro k hk hk2
  obtain ⟨_, c1, h1⟩ := h'.typed k hk2
  exact h.ne h1 hne k hk rfl

set_option maxHeartbeats 8000000 in
set_option maxRecDepth 100000 in
theorem plays (a : Option Addr) (cap : Nat) (l : List Ac) (hcap : l.length ≤ cap) (hm : cap ≤ maxLen) (hp : ∀ y ∈ l, 0 ≤ y.k ∧ y.k ≤ 255) (w : World) (hA : Arg w a 7 actC l) :
    Calls Try.prog 12 #[.slice a l.length cap] w (RetB true w) := by
  unfold maxLen at hm
  go_enter Try.func12, Try.ntmps12
  go_wp2_with fail
  refine (fixed_true w).mono ?_
  rintro e w0 ⟨rfl, hU0⟩
  by_cases hlen : 200 < l.length
  · go_wp2_with fail
    go_ret
    exact ⟨rfl, hU0⟩
  · go_wp2_with fail
    refine (new w.heap.size w0).mono ?_
    rintro e w1 ⟨b, rfl, hb, hQ, hU⟩
    have hU1 := hU0.trans hU (fun x hx => .inl hx)
    have hb' : w.heap.size ≤ b := Nat.le_trans hU0.size hb
    clear hU0 hU hb
    go_wp2_with fail
    go_loopw [4, 5, 21] (fun v4 v5 i wr => ∃ k : Nat, k ≤ l.length ∧ i = .int .i64 k ∧ BothE2 w.heap.size w b k v4 v5 wr) (fun _ _ i _ => l.length - (intOf i).toNat)
    case atStart => exact ⟨0, Nat.zero_le _, rfl, _, _, [], [], ⟨hQ, Sl.nil _ _ _ _ _, Sl.nil _ _ _ _ _, fun g hg => by simp [Value.ownBlock] at hg, fun g hg => by simp [Value.ownBlock] at hg⟩, by simp, by simp, hU1⟩
    case round =>
      obtain ⟨k, hk, rfl, vw, vd, ws, ds, hB, hw8, hdk, hUk⟩ := hrel
      clear hQ hU1
      by_cases hlt : k < l.length
      · obtain ⟨ab, off, rfl, hab, hcell⟩ := (hA.upd hUk).resolve_left (fun e => by rw [e] at hlt; simp at hlt)
        have hkind := hp l[k] (List.getElem_mem hlt)
        have e0 := hcell k hlt 0 (by omega)
        have e1 := hcell k hlt 1 (by omega)
        have e2 := hcell k hlt 2 (by omega)
        have e3 := hcell k hlt 3 (by omega)
        have e4 := hcell k hlt 4 (by omega)
        have e5 := hcell k hlt 5 (by omega)
        have e6 := hcell k hlt 6 (by omega)
        simp only [actC, List.getElem?_cons_zero, List.getElem?_cons_succ, Nat.add_zero] at e0 e1 e2 e3 e4 e5 e6
        clear hcell
        generalize l[k] = y at *
        obtain ⟨q, ⟨ca, cb, cs⟩, da, db, dt⟩ := y
        simp only at e0 e1 e2 e3 e4 e5 e6 hkind
        have hBa := hB.upd ((Upd.refl Nil wr).alloc (.cells #[.int .u8 q, .int .i64 ca, .int .i64 cb, .string cs, .int .i64 da, .int .i64 db, .string dt] 82))
        have hUa := hUk.alloc (.cells #[.int .u8 q, .int .i64 ca, .int .i64 cb, .string cs, .int .i64 da, .int .i64 db, .string dt] 82)
        have hXa := blk_new wr (.cells #[.int .u8 q, .int .i64 ca, .int .i64 cb, .string cs, .int .i64 da, .int .i64 db, .string dt] 82)
        have hbw : b < wr.heap.size := blk_lt hB.qu.blk
        clear hB hUk
        go_upto_block 2 with fail
        generalize hr : q % 4 = r at *
        have hr3 : 0 ≤ r ∧ r ≤ 3 := by omega
        clear hr
        go_cut [4, 5] (fun v4x v5x wx => BothE2 w.heap.size w b (k + 1) v4x v5x wx)
        case first =>
          cases c0b : (r == 0) with
          | true =>
            go_upto_if 33 with (go_at_call 49; refine (right ⟨ca, cb, cs⟩ _).mono ?_; rintro e w2 ⟨rfl, hU2⟩)
            have hB2 := hBa.upd hU2
            have hX2 := hU2.blk hXa (fun h => h)
            have hV2 := hUa.trans hU2 (fun x hx => .inl hx)
            clear hBa hXa hUa hU2
            go_cut [4, 8] (fun v4x s8x wx => MidE w.heap.size w wr.heap.size (.cells #[.int .u8 q, .int .i64 ca, .int .i64 cb, .string cs, .int .i64 da, .int .i64 db, .string dt] 82) b vw vd u5 ws ds ⟨ca, cb, cs⟩ v4x s8x wx)
            case first =>
              have hX2c0 : (w2).cell? ⟨wr.heap.size, 0, none⟩ = some (.int .u8 q) := Base.blk_cell hX2 0
              have hX2z0 : (w2).frozen? ⟨wr.heap.size, 0, none⟩ = false := Base.blk_frozen hX2 0
              have hX2c1 : (w2).cell? ⟨wr.heap.size, 1, none⟩ = some (.int .i64 ca) := Base.blk_cell hX2 1
              have hX2z1 : (w2).frozen? ⟨wr.heap.size, 1, none⟩ = false := Base.blk_frozen hX2 1
              have hX2c2 : (w2).cell? ⟨wr.heap.size, 2, none⟩ = some (.int .i64 cb) := Base.blk_cell hX2 2
              have hX2z2 : (w2).frozen? ⟨wr.heap.size, 2, none⟩ = false := Base.blk_frozen hX2 2
              have hX2c3 : (w2).cell? ⟨wr.heap.size, 3, none⟩ = some (.string cs) := Base.blk_cell hX2 3
              have hX2z3 : (w2).frozen? ⟨wr.heap.size, 3, none⟩ = false := Base.blk_frozen hX2 3
              have hX2c4 : (w2).cell? ⟨wr.heap.size, 4, none⟩ = some (.int .i64 da) := Base.blk_cell hX2 4
              have hX2z4 : (w2).frozen? ⟨wr.heap.size, 4, none⟩ = false := Base.blk_frozen hX2 4
              have hX2c5 : (w2).cell? ⟨wr.heap.size, 5, none⟩ = some (.int .i64 db) := Base.blk_cell hX2 5
              have hX2z5 : (w2).frozen? ⟨wr.heap.size, 5, none⟩ = false := Base.blk_frozen hX2 5
              have hX2c6 : (w2).cell? ⟨wr.heap.size, 6, none⟩ = some (.string dt) := Base.blk_cell hX2 6
              have hX2z6 : (w2).frozen? ⟨wr.heap.size, 6, none⟩ = false := Base.blk_frozen hX2 6
              obtain ⟨A, c, rfl, hAc⟩ := hB2.ws.form
              generalize hck : chk ⟨ca, cb, cs⟩ = ck at *
              by_cases hc0 : ck = 0
              · subst hc0
                by_cases h8 : ws.length = 8
                · have h8b : ((ws.length : Int) == 8) = true := by simp [h8]
                  have hsub : Hid (subR ws ⟨ca, cb, cs⟩ = (8, ws)) := by show subR _ _ = _; unfold subR; rw [hck, if_pos rfl, if_neg (by omega)]
                  clear hck
                  go_wp2_with fail
                  go_meet
                  case rel => exact ⟨by rw [hsub.out], by rw [hsub.out]; exact ⟨hB2.qu, hB2.ws, hB2.ds, hB2.fw, hB2.fd, hX2, hV2⟩⟩
                · have h8b : ((ws.length : Int) == 8) = false := by simp; omega
                  have hsub : Hid (subR ws ⟨ca, cb, cs⟩ = (0, ws ++ [⟨ca, cb, cs⟩])) := by show subR _ _ = _; unfold subR; rw [hck, if_pos rfl, if_pos (by omega)]
                  clear hck
                  go_wp2_with (refine wp_append1 (sz := 3) w.heap.size rfl (.tmp 37) (.tmp 40) 75 78 (.agg #[.int .i64 0, .int .i64 0, .string ⟨#[]⟩]) 32 rfl Try.underlying75 (by kernel_rfl) rfl (by omega) rc_len rc_one w2 ⟨ca, cb, cs⟩ (by rfl) (.slice A ws.length c) ws rfl (by simp [Act.eval]) hB2.ws hV2.size (by omega) (by unfold maxLen; omega) ?_; intro A1 c1 w3 hv1 hg1 hat)
                  go_meet
                  case rel =>
                    have hne4 : ∀ j, Value.ownBlock (.slice A ws.length c) = some j → vw.ownBlock ≠ some j := fun j hj h => hB2.fw j h hj
                    refine ⟨by rw [hsub.out], by rw [hsub.out]; exact ⟨⟨blk_grown hB2.qu.blk hg1 (fun j hj => hB2.ws.ne hB2.qu.blk (by decide) j hj), hB2.qu.ws.grown hg1 (fun j hj h => hB2.fw j hj h.symm), hB2.qu.ds.grown hg1 (fun j hj h => far_of hB2.qu.ds hB2.ws (by decide) j hj h.symm)⟩, hv1, hB2.ds.grown hg1 (fun j hj h => far_of hB2.ds hB2.ws (by decide) j hj h.symm), (Far.kin hB2.fw.symm hat (fun j hj => hB2.qu.ws.lt j hj)).symm, hB2.fd, blk_grown hX2 hg1 (fun j hj => hB2.ws.ne hX2 (by decide) j hj), hV2.grown hg1 (fun j hj => .inr (hB2.ws.typed j hj).1)⟩⟩
              · have hcb : (ck == 0) = false := beq_eq_false_iff_ne.mpr hc0
                obtain rfl : ck = 1 := by have := chk01 ⟨ca, cb, cs⟩; rw [hck] at this; omega
                have hsub : Hid (subR ws ⟨ca, cb, cs⟩ = (1, ws)) := by show subR _ _ = _; unfold subR; rw [hck]; rfl
                clear hck
                go_wp2_with fail
                go_meet
                case rel => exact ⟨by rw [hsub.out], by rw [hsub.out]; exact ⟨hB2.qu, hB2.ws, hB2.ds, hB2.fw, hB2.fd, hX2, hV2⟩⟩
            case rest =>
              obtain ⟨rfl, hM⟩ := hcut
              clear hX2 hV2
              have hMd := hM.qu.upd ((Upd.refl Nil wc).drew) (fun h => h) (fun _ _ h => h) (fun _ _ h => h)
              have hMu := hM.up.drew
              have hX := blk_drew hM.ac
              have hgw := blk_lt hX
              have hXc0 : (wc.drew).cell? ⟨wr.heap.size, 0, none⟩ = some (.int .u8 q) := Base.blk_cell hX 0
              have hXz0 : (wc.drew).frozen? ⟨wr.heap.size, 0, none⟩ = false := Base.blk_frozen hX 0
              have hXc1 : (wc.drew).cell? ⟨wr.heap.size, 1, none⟩ = some (.int .i64 ca) := Base.blk_cell hX 1
              have hXz1 : (wc.drew).frozen? ⟨wr.heap.size, 1, none⟩ = false := Base.blk_frozen hX 1
              have hXc2 : (wc.drew).cell? ⟨wr.heap.size, 2, none⟩ = some (.int .i64 cb) := Base.blk_cell hX 2
              have hXz2 : (wc.drew).frozen? ⟨wr.heap.size, 2, none⟩ = false := Base.blk_frozen hX 2
              have hXc3 : (wc.drew).cell? ⟨wr.heap.size, 3, none⟩ = some (.string cs) := Base.blk_cell hX 3
              have hXz3 : (wc.drew).frozen? ⟨wr.heap.size, 3, none⟩ = false := Base.blk_frozen hX 3
              have hXc4 : (wc.drew).cell? ⟨wr.heap.size, 4, none⟩ = some (.int .i64 da) := Base.blk_cell hX 4
              have hXz4 : (wc.drew).frozen? ⟨wr.heap.size, 4, none⟩ = false := Base.blk_frozen hX 4
              have hXc5 : (wc.drew).cell? ⟨wr.heap.size, 5, none⟩ = some (.int .i64 db) := Base.blk_cell hX 5
              have hXz5 : (wc.drew).frozen? ⟨wr.heap.size, 5, none⟩ = false := Base.blk_frozen hX 5
              have hXc6 : (wc.drew).cell? ⟨wr.heap.size, 6, none⟩ = some (.string dt) := Base.blk_cell hX 6
              have hXz6 : (wc.drew).frozen? ⟨wr.heap.size, 6, none⟩ = false := Base.blk_frozen hX 6
              have hD5 : Sl wc.drew w.heap.size 80 3 rc u5 ds := hM.d5.upd ((Upd.refl Nil wc).drew) (fun _ _ h => h)
              have hD4 : Sl wc.drew w.heap.size 78 3 rc u4 (subR ws ⟨ca, cb, cs⟩).2 := hM.w4.upd ((Upd.refl Nil wc).drew) (fun _ _ h => h)
              generalize hck : chk ⟨ca, cb, cs⟩ = ck at *
              generalize hsn : (subR ws ⟨ca, cb, cs⟩).1 = sn at *
              have hckh := Lib.hid hck
              have hsnh := Lib.hid hsn
              clear hck hsn
              go_wp2_with fail
              go_region_with (first
                | (go_at_call 50; refine (submit w.heap.size b vw vd ws ds ⟨ca, cb, cs⟩ _ hMd hMu.size (Qu.own hMd)).mono ?_; rintro e w3 ⟨he3, ⟨v3, hQ3, hk3⟩, hU3⟩; rw [hsnh.out] at he3; subst he3; have hX3 := hU3.blk hX (fun h => h.elim (fun e => by omega) (fun e => hMd.ws.ne hX (by decide) _ e rfl)); have hX3c0 : (w3).cell? ⟨wr.heap.size, 0, none⟩ = some (.int .u8 q) := Base.blk_cell hX3 0; have hX3z0 : (w3).frozen? ⟨wr.heap.size, 0, none⟩ = false := Base.blk_frozen hX3 0; have hX3c1 : (w3).cell? ⟨wr.heap.size, 1, none⟩ = some (.int .i64 ca) := Base.blk_cell hX3 1; have hX3z1 : (w3).frozen? ⟨wr.heap.size, 1, none⟩ = false := Base.blk_frozen hX3 1; have hX3c2 : (w3).cell? ⟨wr.heap.size, 2, none⟩ = some (.int .i64 cb) := Base.blk_cell hX3 2; have hX3z2 : (w3).frozen? ⟨wr.heap.size, 2, none⟩ = false := Base.blk_frozen hX3 2; have hX3c3 : (w3).cell? ⟨wr.heap.size, 3, none⟩ = some (.string cs) := Base.blk_cell hX3 3; have hX3z3 : (w3).frozen? ⟨wr.heap.size, 3, none⟩ = false := Base.blk_frozen hX3 3; have hX3c4 : (w3).cell? ⟨wr.heap.size, 4, none⟩ = some (.int .i64 da) := Base.blk_cell hX3 4; have hX3z4 : (w3).frozen? ⟨wr.heap.size, 4, none⟩ = false := Base.blk_frozen hX3 4; have hX3c5 : (w3).cell? ⟨wr.heap.size, 5, none⟩ = some (.int .i64 db) := Base.blk_cell hX3 5; have hX3z5 : (w3).frozen? ⟨wr.heap.size, 5, none⟩ = false := Base.blk_frozen hX3 5; have hX3c6 : (w3).cell? ⟨wr.heap.size, 6, none⟩ = some (.string dt) := Base.blk_cell hX3 6; have hX3z6 : (w3).frozen? ⟨wr.heap.size, 6, none⟩ = false := Base.blk_frozen hX3 6)
                | (go_at_call 51; refine (check ⟨ca, cb, cs⟩ _).mono ?_; rintro e w4 ⟨he4, hU4⟩; rw [hckh.out] at he4; subst he4; have hX4 : w4.heap[wr.heap.size]? = some (.cells #[.int .u8 q, .int .i64 ca, .int .i64 cb, .string cs, .int .i64 da, .int .i64 db, .string dt] 82 (0, 0)) := hU4.blk (by assumption) (fun h => h); have hX4c0 : (w4).cell? ⟨wr.heap.size, 0, none⟩ = some (.int .u8 q) := Base.blk_cell hX4 0; have hX4z0 : (w4).frozen? ⟨wr.heap.size, 0, none⟩ = false := Base.blk_frozen hX4 0; have hX4c1 : (w4).cell? ⟨wr.heap.size, 1, none⟩ = some (.int .i64 ca) := Base.blk_cell hX4 1; have hX4z1 : (w4).frozen? ⟨wr.heap.size, 1, none⟩ = false := Base.blk_frozen hX4 1; have hX4c2 : (w4).cell? ⟨wr.heap.size, 2, none⟩ = some (.int .i64 cb) := Base.blk_cell hX4 2; have hX4z2 : (w4).frozen? ⟨wr.heap.size, 2, none⟩ = false := Base.blk_frozen hX4 2; have hX4c3 : (w4).cell? ⟨wr.heap.size, 3, none⟩ = some (.string cs) := Base.blk_cell hX4 3; have hX4z3 : (w4).frozen? ⟨wr.heap.size, 3, none⟩ = false := Base.blk_frozen hX4 3; have hX4c4 : (w4).cell? ⟨wr.heap.size, 4, none⟩ = some (.int .i64 da) := Base.blk_cell hX4 4; have hX4z4 : (w4).frozen? ⟨wr.heap.size, 4, none⟩ = false := Base.blk_frozen hX4 4; have hX4c5 : (w4).cell? ⟨wr.heap.size, 5, none⟩ = some (.int .i64 db) := Base.blk_cell hX4 5; have hX4z5 : (w4).frozen? ⟨wr.heap.size, 5, none⟩ = false := Base.blk_frozen hX4 5; have hX4c6 : (w4).cell? ⟨wr.heap.size, 6, none⟩ = some (.string dt) := Base.blk_cell hX4 6; have hX4z6 : (w4).frozen? ⟨wr.heap.size, 6, none⟩ = false := Base.blk_frozen hX4 6)
                | (go_at_call 49; refine (right ⟨ca, cb, cs⟩ _).mono ?_; rintro e w5 ⟨he5, hU5⟩; rw [hckh.out] at he5; subst he5; have hX5 : w5.heap[wr.heap.size]? = some (.cells #[.int .u8 q, .int .i64 ca, .int .i64 cb, .string cs, .int .i64 da, .int .i64 db, .string dt] 82 (0, 0)) := hU5.blk (by assumption) (fun h => h); have hX5c0 : (w5).cell? ⟨wr.heap.size, 0, none⟩ = some (.int .u8 q) := Base.blk_cell hX5 0; have hX5z0 : (w5).frozen? ⟨wr.heap.size, 0, none⟩ = false := Base.blk_frozen hX5 0; have hX5c1 : (w5).cell? ⟨wr.heap.size, 1, none⟩ = some (.int .i64 ca) := Base.blk_cell hX5 1; have hX5z1 : (w5).frozen? ⟨wr.heap.size, 1, none⟩ = false := Base.blk_frozen hX5 1; have hX5c2 : (w5).cell? ⟨wr.heap.size, 2, none⟩ = some (.int .i64 cb) := Base.blk_cell hX5 2; have hX5z2 : (w5).frozen? ⟨wr.heap.size, 2, none⟩ = false := Base.blk_frozen hX5 2; have hX5c3 : (w5).cell? ⟨wr.heap.size, 3, none⟩ = some (.string cs) := Base.blk_cell hX5 3; have hX5z3 : (w5).frozen? ⟨wr.heap.size, 3, none⟩ = false := Base.blk_frozen hX5 3; have hX5c4 : (w5).cell? ⟨wr.heap.size, 4, none⟩ = some (.int .i64 da) := Base.blk_cell hX5 4; have hX5z4 : (w5).frozen? ⟨wr.heap.size, 4, none⟩ = false := Base.blk_frozen hX5 4; have hX5c5 : (w5).cell? ⟨wr.heap.size, 5, none⟩ = some (.int .i64 db) := Base.blk_cell hX5 5; have hX5z5 : (w5).frozen? ⟨wr.heap.size, 5, none⟩ = false := Base.blk_frozen hX5 5; have hX5c6 : (w5).cell? ⟨wr.heap.size, 6, none⟩ = some (.string dt) := Base.blk_cell hX5 6; have hX5z6 : (w5).frozen? ⟨wr.heap.size, 6, none⟩ = false := Base.blk_frozen hX5 6))
              all_goals
                have fin : ∀ w', Upd Nil w3 w' → BothE2 w.heap.size w b (k + 1) u4 u5 w' := fun w' hw' => by
                  have hU6 : Upd (QS b vw) wc.drew w' := hU3.trans hw' (fun x hx => .inl hx.elim)
                  exact ⟨v3, vd, _, ds, ⟨hQ3.upd hw' (fun h => h) (fun _ _ h => h) (fun _ _ h => h), hD4.upd hU6 (fun j hj h => h.elim (fun e => hD4.ne hMd.blk (by decide) j hj e) (fun e => hM.fw j e hj)),
                    hD5.upd hU6 (fun j hj h => h.elim (fun e => hD5.ne hMd.blk (by decide) j hj e) (fun e => far_of hMd.ws hD5 (by decide) j e hj)), Far.kin hM.fw hk3 (fun j hj => hD4.lt j hj), hM.fd⟩, subR_len hw8, by omega, newQ hMu hU6 hb' (base_w hMd)⟩
                go_wp2_with fail
                go_meet
                case rel => first | exact fin _ (hU4.trans hU5 (fun x hx => .inl hx)) | exact fin _ (hU5.trans hU4 (fun x hx => .inl hx))
          | false =>
            cases c1b : (r == 1) with
            | true =>
              obtain ⟨A, c, rfl, hAc⟩ := hBa.ws.form
              cases ws with
              | nil =>
                go_upto_region 23 with (go_at_call 52; refine (next_none w.heap.size b vw vd ds _ hBa.qu).mono ?_; rintro e w2 ⟨rfl, hU2⟩)
                have hB2 := hBa.upd (hU2.alloc (.cells #[.int .i64 0, .int .i64 0, .string ⟨#[]⟩] 78))
                have hV2 := hUa.trans (hU2.alloc (.cells #[.int .i64 0, .int .i64 0, .string ⟨#[]⟩] 78)) (fun x hx => .inl hx)
                clear hBa hXa hUa hU2
                go_wp2_with fail
                go_quiet (fail)
                go_wp2_with fail
                go_meet
                case rel => exact ⟨vw, vd, [], ds, hB2.upd ((Upd.refl Nil _).drewN _), by simp, by omega, hV2.drewN _⟩
              | cons x ws =>
                obtain ⟨xa, xb, xs⟩ := x
                have hA4 := hBa.ws.cells rc_len (by omega)
                obtain ⟨g, goff, rfl, hg, hcell⟩ := id (hA4.resolve_left (by simp))
                have hD4 := hBa.ws.drop (k := 1) rc_len (by simp)
                have hne4 : g ≠ b := hBa.ws.ne hBa.qu.blk (by decide) g rfl
                have x0 := hcell 0 (by simp) 0 (by omega)
                have x1 := hcell 0 (by simp) 1 (by omega)
                have x2 := hcell 0 (by simp) 2 (by omega)
                have xz := hA4
                simp only [rc, List.getElem_cons_zero, List.getElem?_cons_zero, List.getElem?_cons_succ, Nat.zero_mul, Nat.add_zero] at x0 x1 x2
                clear hcell
                go_upto_region 23 with (go_at_call 52; refine (next_some w.heap.size b vw vd ⟨xa, xb, xs⟩ ws ds _ hBa.qu).mono ?_; rintro e w2 ⟨rfl, ⟨v2, hQ2, hk2⟩, hU2⟩)
                have hUX : Upd (Only b) _ _ := hU2.alloc (.cells #[.int .i64 xa, .int .i64 xb, .string xs] 78)
                have y0 := (hUX.cell (p := ⟨g, goff, none⟩) hg hne4).trans x0
                have y1 := (hUX.cell (p := ⟨g, goff + 1, none⟩) hg hne4).trans x1
                have y2 := (hUX.cell (p := ⟨g, goff + 2, none⟩) hg hne4).trans x2
                go_wp2_with fail
                go_quiet (fail)
                have hB2 : ∀ v4 n, Sl (w2.alloc (.cells #[.int .i64 xa, .int .i64 xb, .string xs] 78)) w.heap.size 78 3 rc v4 ws → v4.ownBlock = some g → BothE2 w.heap.size w b (k + 1) v4 u5 ((w2.alloc (.cells #[.int .i64 xa, .int .i64 xb, .string xs] 78)).drewN n) := fun v4 n h4 ho =>
                  ⟨v2, vd, ws, ds, Both.upd ⟨hQ2.upd ((Upd.refl Nil w2).alloc _) (fun h => h) (fun _ _ h => h) (fun _ _ h => h), h4, hBa.ds.upd hUX (fun j hj e => hBa.ds.ne hBa.qu.blk (by decide) j hj e), fun j hj h => hBa.fw j (hk2 ▸ hj) (ho.symm.trans h ▸ rfl), hBa.fd⟩ ((Upd.refl Nil _).drewN n), by simp at hw8; omega, by omega, (hUa.newOnly hUX hb').drewN n⟩
                by_cases hcap1 : c = 1
                · subst hcap1
                  obtain rfl : ws = [] := List.eq_nil_of_length_eq_zero (Nat.le_zero.mp (Nat.le_of_succ_le_succ hAc))
                  go_wp2_with fail
                  go_meet
                  case rel => exact hB2 _ _ (hD4.upd hUX (fun j hj e => hne4 (by injection hj with hj; exact hj.trans e))) rfl
                · have hcapI : ¬ ((c : Int) = 1) := by omega
                  have hcapN : (c = 1) = False := eq_false hcap1
                  have hc1 : 1 ≤ c := by simp at hAc; omega
                  rw [if_neg hcap1] at hD4
                  have hD5 : Sl _ w.heap.size 78 3 rc (.slice (some ⟨g, goff + 3, none⟩) ws.length (c - 1)) ws := hD4
                  go_wp2_with fail
                  go_meet
                  case rel => exact hB2 _ _ (hD5.upd hUX (fun j hj e => hne4 (by injection hj with hj; exact hj.trans e))) rfl
            | false =>
              cases c2b : (r == 2) with
              | true =>
                obtain ⟨A5, c5, rfl, hA5⟩ := hBa.ds.form
                go_upto_region 28 with (go_at_call 53; refine (done w.heap.size b vw vd ws ds ⟨da, db, dt⟩ _ hBa.qu hUa.size (by omega) (Qu.own' hBa.qu)).mono ?_; rintro e w2 ⟨rfl, ⟨v2, hQ2, hk2⟩, hU2⟩)
                have hX2 := hU2.blk hXa (fun h => h.elim (fun e => by omega) (fun e => hBa.qu.ds.ne hXa (by decide) _ e rfl))
                have hX2c0 : (w2).cell? ⟨wr.heap.size, 0, none⟩ = some (.int .u8 q) := Base.blk_cell hX2 0
                have hX2z0 : (w2).frozen? ⟨wr.heap.size, 0, none⟩ = false := Base.blk_frozen hX2 0
                have hX2c1 : (w2).cell? ⟨wr.heap.size, 1, none⟩ = some (.int .i64 ca) := Base.blk_cell hX2 1
                have hX2z1 : (w2).frozen? ⟨wr.heap.size, 1, none⟩ = false := Base.blk_frozen hX2 1
                have hX2c2 : (w2).cell? ⟨wr.heap.size, 2, none⟩ = some (.int .i64 cb) := Base.blk_cell hX2 2
                have hX2z2 : (w2).frozen? ⟨wr.heap.size, 2, none⟩ = false := Base.blk_frozen hX2 2
                have hX2c3 : (w2).cell? ⟨wr.heap.size, 3, none⟩ = some (.string cs) := Base.blk_cell hX2 3
                have hX2z3 : (w2).frozen? ⟨wr.heap.size, 3, none⟩ = false := Base.blk_frozen hX2 3
                have hX2c4 : (w2).cell? ⟨wr.heap.size, 4, none⟩ = some (.int .i64 da) := Base.blk_cell hX2 4
                have hX2z4 : (w2).frozen? ⟨wr.heap.size, 4, none⟩ = false := Base.blk_frozen hX2 4
                have hX2c5 : (w2).cell? ⟨wr.heap.size, 5, none⟩ = some (.int .i64 db) := Base.blk_cell hX2 5
                have hX2z5 : (w2).frozen? ⟨wr.heap.size, 5, none⟩ = false := Base.blk_frozen hX2 5
                have hX2c6 : (w2).cell? ⟨wr.heap.size, 6, none⟩ = some (.string dt) := Base.blk_cell hX2 6
                have hX2z6 : (w2).frozen? ⟨wr.heap.size, 6, none⟩ = false := Base.blk_frozen hX2 6
                have hS5 := hBa.ds.upd hU2 (fun j hj h => h.elim (fun e => hBa.ds.ne hBa.qu.blk (by decide) j hj e) (fun e => hBa.fd j e hj))
                have hS4 := hBa.ws.upd hU2 (fun j hj h => h.elim (fun e => hBa.ws.ne hBa.qu.blk (by decide) j hj e) (fun e => far_of hBa.qu.ds hBa.ws (by decide) j e hj))
                have hV2 := newQ hUa hU2 hb' (base_d hBa.qu)
                have hf2 : Far v2 (.slice A5 ds.length c5) := hBa.fd.kin hk2 (fun j hj => hBa.ds.lt j hj)
                go_wp2_with (refine wp_append1 (sz := 3) w.heap.size rfl (.tmp 91) (.tmp 94) 76 80 (.agg #[.int .i64 0, .int .i64 0, .string ⟨#[]⟩]) 32 rfl Try.underlying76 (by kernel_rfl) rfl (by omega) rc_len rc_one w2 ⟨da, db, dt⟩ (by rfl) (.slice A5 ds.length c5) ds rfl (by simp [Act.eval]) hS5 hV2.size (by omega) (by unfold maxLen; omega) ?_; intro A1 c1 w3 hv1 hg1 hat)
                go_meet
                case rel =>
                  exact ⟨vw, v2, ws, ds ++ [⟨da, db, dt⟩], ⟨⟨blk_grown hQ2.blk hg1 (fun j hj => hS5.ne hQ2.blk (by decide) j hj), hQ2.ws.grown hg1 (fun j hj h => far_of hQ2.ws hS5 (by decide) j hj h.symm), hQ2.ds.grown hg1 (fun j hj h => hf2 j hj h.symm)⟩, hS4.grown hg1 (fun j hj h => far_of hS4 hS5 (by decide) j hj h.symm), hv1, hBa.fw, (Far.kin hf2.symm hat (fun j hj => hQ2.ds.lt j hj)).symm⟩, hw8, by simp; omega, hV2.grown hg1 (fun j hj => .inr (hS5.typed j hj).1)⟩
              | false =>
                have c3b : (r == 3) = true := by
                  have h0 := beq_eq_false_iff_ne.mp c0b
                  have h1 := beq_eq_false_iff_ne.mp c1b
                  have h2 := beq_eq_false_iff_ne.mp c2b
                  exact beq_iff_eq.mpr (by omega)
                go_wp2_with (go_at_call 54; refine (clear w.heap.size b vw vd ws ds _ hBa.qu (Qu.own hBa.qu)).mono ?_; rintro e w2 ⟨rfl, ⟨v2, hQ2, hk2⟩, hU2⟩)
                go_meet
                case rel =>
                  exact ⟨v2, vd, [], ds, ⟨hQ2, Sl.nil _ _ _ _ _, hBa.ds.upd hU2 (fun j hj h => h.elim (fun e => hBa.ds.ne hBa.qu.blk (by decide) j hj e) (fun e => far_of hBa.qu.ws hBa.ds (by decide) j e hj)), fun j hj h => by simp [Value.ownBlock] at h, hBa.fd⟩, by simp, by omega, newQ hUa hU2 hb' (base_w hBa.qu)⟩
        case rest =>
          obtain ⟨vw2, vd2, ws2, ds2, hB2, hw82, hdk2, hU2⟩ := hcut
          clear hBa hUa hXa
          obtain ⟨A4, c4, rfl, hA4⟩ := hB2.ws.form
          obtain ⟨A5, c5, rfl, hA5⟩ := hB2.ds.form
          go_wp2_with (first
            | (go_at_call 55; refine (all w.heap.size b vw2 vd2 ws2 ds2 _ hB2.qu (by omega)).mono ?_; rintro e w3 ⟨v6, rfl, hv6, hU3⟩; obtain ⟨A6, c6, rfl, hA6⟩ := hv6.form)
            | (go_at_call 56; refine (len w.heap.size b vw2 vd2 ws2 ds2 _ (hB2.upd hU3).qu).mono ?_; rintro e w4 ⟨rfl, rfl⟩))
          have hB3 := hB2.upd hU3
          have hV3 := hU2.trans hU3 (fun x hx => .inl hx)
          have h6 := hv6.cells rc_len (by omega)
          have h5 := hB3.ds.cells rc_len (by omega)
          clear hB2 hU2 hv6 hU3
          go_loopw [116] (fun i wq => ∃ m : Nat, m ≤ ds2.length ∧ i = .int .i64 m ∧ Upd Nil w3 wq) (fun i _ => ds2.length - (intOf i).toNat)
          case atStart => exact ⟨0, Nat.zero_le _, rfl, Upd.refl _ _⟩
          case round =>
            obtain ⟨m, hm2, rfl, hUm⟩ := hrel
            by_cases hlm : m < ds2.length
            · obtain ⟨g6, o6, rfl, hg6, q6⟩ := (h6.upd hUm).resolve_left (fun e => by rw [e] at hlm; simp at hlm)
              obtain ⟨g5, o5, rfl, hg5, q5⟩ := (h5.upd hUm).resolve_left (fun e => by rw [e] at hlm; simp at hlm)
              have x0 := q6 m hlm 0 (by omega)
              have x1 := q6 m hlm 1 (by omega)
              have x2 := q6 m hlm 2 (by omega)
              have y0 := q5 m hlm 0 (by omega)
              have y1 := q5 m hlm 1 (by omega)
              have y2 := q5 m hlm 2 (by omega)
              clear q5 q6
              generalize ds2[m] = y at *
              obtain ⟨ya, yb, ys⟩ := y
              simp only [rc, List.getElem?_cons_zero, List.getElem?_cons_succ, Nat.add_zero] at x0 x1 x2 y0 y1 y2
              go_wp2_with fail
              go_quiet (fail)
              go_wp2_with fail
              go_roundw
              case measure => simp [intOf]; omega
              case rel => exact ⟨m + 1, by omega, by simp, hUm.drewN _⟩
            · obtain rfl : m = ds2.length := by omega
              go_wp2_with fail
              go_roundw
              case measure => simp [intOf]; omega
              case rel => exact ⟨k + 1, by omega, by simp, vw2, vd2, ws2, ds2, hB3.upd hUm, hw82, by omega, hV3.trans hUm (fun x hx => .inl hx)⟩
      · obtain rfl : k = l.length := by omega
        go_wp2_with fail
        go_ret
        exact ⟨rfl, hUk⟩
end Go.Proofs.Ytobhpfbldmobfaa.QueueP
