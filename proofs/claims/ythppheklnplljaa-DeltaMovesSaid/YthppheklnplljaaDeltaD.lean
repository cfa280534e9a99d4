/-
  A record's own bytes are read. Conditions: what the argument's slice holds.
-/
import Derived.Test.YthppheklnplljaaDeltaR
import Derived.Test.YthppheklnplljaaDeltaA
import Derived.Test.YthppheklnplljaaWordC
import Derived.Deep.DeepCutAuto
import Derived.Deep.CutBlock
namespace Go.Proofs.Ythppheklnplljaa.Delta
open Go.RowKit Go.Proofs.Ythppheklnplljaa.Base Go.Proofs.Ythppheklnplljaa.Word Go.Proofs.Ythppheklnplljaa.Frame
set_option linter.unusedVariables false
set_option linter.unusedSimpArgs false
theorem mvC_one (x : Mv) : ∀ u ∈ mvC x, u.oneCell' = true := by
  intro u hu
  simp [mvC] at hu
  rcases hu with rfl | rfl | rfl | rfl <;> rfl
theorem elemM : Elem Try.prog 43 45 (.agg #[.int .i64 0, .int .i64 0, .int .i64 0, .bool false]) 4 32 mvC := ⟨Try.underlying43, by kernel_rfl, rfl, by omega, mvC_len, mvC_one⟩
def BodyR (r : List Mv × Bool) (w : World) (e : Ending) (w' : World) : Prop := ∃ v, e = .returned (.tuple #[v, .bool r.2]) ∧ Sl w' w.heap.size 45 4 mvC v r.1 ∧ Upd Nil w w'
theorem body_succ (r : Rd) (i : Nat) : (bodyN r (i + 1)).1 = (bodyN r i).1 ++ [(step (bodyN r i).2).1] ∧ (bodyN r (i + 1)).2 = (step (bodyN r i).2).2 := ⟨rfl, rfl⟩
theorem num1_le (r : Rd) : (r.number 1).1 ≤ 255 := by
  rw [number1]
  split
  · simp
  · split
    · simp
    · have := num_lt (r.l.take 1)
      have hl : (r.l.take 1).length ≤ 1 := by simp; omega
      have : (256 : Nat) ^ (r.l.take 1).length ≤ 256 ^ 1 := Nat.pow_le_pow_right (by omega) hl
      show num (r.l.take 1) ≤ 255
      omega
set_option maxHeartbeats 4000000 in
set_option maxRecDepth 100000 in
theorem bodyC (A : Option Addr) (c : Nat) (b : List UInt8) (number : Int) (w : World) (hA : Arg w A 1 bc b) (hb : b.length ≤ 140737488355328) :
    Calls Try.prog 60 #[.slice A b.length c, .int .i64 number] w (BodyR (bodyV b number) w) := by
  have hb4 : bodyV b number = ((parsed b).1, ((decide (((headR b).1 : Int) = number) && decide (number ≤ 2147483647)) && (parsed b).1.all rightM) && (decide ((manyR b).1 ≤ 32) && decide ((parsed b).2.done.1 = 0))) := rfl
  have hp0 : parsed b = bodyN (manyR b).2 (manyR b).1 := rfl
  have hml := many_le b
  have hh0 : headR b = (⟨b, 0⟩ : Rd).number 4 := rfl
  have hm0 : manyR b = (headR b).2.number 1 := rfl
  generalize hRR : BodyR (bodyV b number) w = RR
  have hRH := Lib.hid hRR
  have hpk := Lib.hid (And.intro hb4 (And.intro hp0 hml))
  clear hRR hb4 hp0 hml
  go_enter Try.func60, Try.ntmps60
  go_wp2_with fail
  refine (read A c b w hA hb).mono ?_
  rintro e w1 ⟨rb, v1, rfl, hrb, hR1, hU1⟩
  have q1 := Word.number _ rb v1 ⟨b, 0⟩ 4 w1 hR1
  rw [← hh0] at q1
  generalize headR b = hd at *
  obtain ⟨hn, r1⟩ := hd
  simp only at q1 hm0
  generalize hok0 : (decide ((hn : Int) = number) && decide (number ≤ 2147483647)) = ok0 at *
  have ho2 := Lib.hid hok0
  clear hok0
  go_upto_region 2 with fail
  go_cut [7] (fun s7 wc => s7 = .bool ok0 ∧ (∃ v2, Rdr w.heap.size wc rb v2 r1) ∧ Upd Nil w wc)
  case first =>
    by_cases h1 : (hn : Int) = number
    · have h1b : ((hn : Int) == number) = true := by simp [h1]
      by_cases h2 : number ≤ 2147483647
      · have hv : ok0 = true := by rw [← ho2.out, decide_eq_true h1, decide_eq_true h2]; rfl
        clear h1
        go_wp2_with fail
        refine q1.mono ?_
        rintro e w2 ⟨rfl, ⟨v2, hR2⟩, hU2⟩
        go_wp2_with fail
        go_meet
        case rel => exact ⟨by rw [hv], ⟨v2, hR2⟩, hU1.trans hU2 (fun x hx => .inr (by cases hx; exact hrb))⟩
      · have hv : ok0 = false := by rw [← ho2.out, decide_eq_false h2]; simp
        clear h1
        go_wp2_with fail
        refine q1.mono ?_
        rintro e w2 ⟨rfl, ⟨v2, hR2⟩, hU2⟩
        go_wp2_with fail
        go_meet
        case rel => exact ⟨by rw [hv, decide_eq_false (Int.not_le.2 h2)], ⟨v2, hR2⟩, hU1.trans hU2 (fun x hx => .inr (by cases hx; exact hrb))⟩
    · have h1b : ((hn : Int) == number) = false := by simp [h1]
      have hv : ok0 = false := by rw [← ho2.out, decide_eq_false h1]; simp
      clear h1
      go_wp2_with fail
      refine q1.mono ?_
      rintro e w2 ⟨rfl, ⟨v2, hR2⟩, hU2⟩
      go_wp2_with fail
      go_meet
      case rel => exact ⟨by rw [hv], ⟨v2, hR2⟩, hU1.trans hU2 (fun x hx => .inr (by cases hx; exact hrb))⟩
  case rest =>
    obtain ⟨rfl, ⟨v2, hR2⟩, hU2⟩ := hcut
    obtain ⟨w2, rfl⟩ : ∃ x, x = wc := ⟨wc, rfl⟩
    have q2 := Word.number _ rb v2 r1 1 w2 hR2
    rw [← hm0] at q2
    generalize manyR b = md at *
    obtain ⟨many, r2⟩ := md
    simp only at q2
    go_wp2_with fail
    refine q2.mono ?_
    rintro e w3 ⟨rfl, ⟨v3, hR3⟩, hU3⟩
    have hU03 := hU2.trans hU3 (fun x hx => .inr (by cases hx; exact hrb))
    have hn0 : Sl w3 w.heap.size 45 4 mvC (.slice none 0 0) (bodyN r2 0).1 := Sl.nil _ _ _ _ _
    clear hR1 q1 q2 hU1 hU2 hU3 hm0 hh0
    go_wp2_with fail
    go_loopw [7, 9, 24] (fun s7 s9 s24 wr => ∃ (i : Nat) (V : Value), i ≤ many ∧ s24 = .int .i64 (i : Int) ∧ s7 = .bool (ok0 && (bodyN r2 i).1.all rightM) ∧ s9 = V ∧ Sl wr w.heap.size 45 4 mvC V (bodyN r2 i).1 ∧ (∃ v, Rdr w.heap.size wr rb v (bodyN r2 i).2) ∧ Upd Nil w wr) (fun _ _ s24 _ => many - (intOf s24).toNat)
    case atStart => exact ⟨0, _, by omega, rfl, by simp [bodyN], rfl, hn0, ⟨v3, hR3⟩, hU03⟩
    case round =>
      clear hR3 hU03 hn0
      obtain ⟨i, V, hi, rfl, rfl, rfl, hV, ⟨v4, hR4⟩, hU4⟩ := hrel
      have hml := hpk.out.2.2
      by_cases hlt : i < many
      · obtain ⟨g1, g2⟩ := body_succ r2 i
        have hsz := hU4.size
        have hil : (bodyN r2 i).1.length = i := bodyN_len r2 i
        have hat : (ok0 && (bodyN r2 (i + 1)).1.all rightM) = ((ok0 && (bodyN r2 i).1.all rightM) && rightM (step (bodyN r2 i).2).1) := by rw [g1, List.all_append]; simp [Bool.and_assoc]
        have hst : step (bodyN r2 i).2 = (⟨((bodyN r2 i).2.number 1).1, (((bodyN r2 i).2.number 1).2.number 1).1, ((((bodyN r2 i).2.number 1).2.number 1).2.number 1).1, (((((bodyN r2 i).2.number 1).2.number 1).2.number 1).2.flag).1⟩, (((((bodyN r2 i).2.number 1).2.number 1).2.number 1).2.flag).2) := rfl
        generalize (bodyN r2 i).1 = out at *
        generalize (ok0 && out.all rightM) = ok at *
        generalize step (bodyN r2 i).2 = st at *
        generalize (bodyN r2 i).2 = r4 at *
        have hkk := Lib.hid (And.intro g1 (And.intro g2 (And.intro hat (And.intro hst hil))))
        clear g1 g2 hat hst hil
        have hn1 := num1_le r4
        have hn2 := num1_le (r4.number 1).2
        have hn3 := num1_le ((r4.number 1).2.number 1).2
        have p1 := fun v w h => Word.number w.heap.size rb v r4 1 w h
        have ua := (Upd.refl Nil wr).alloc (.cells #[.int .i64 0, .int .i64 0, .int .i64 0, .bool false] 45)
        have hx := blk_new wr (.cells #[.int .i64 0, .int .i64 0, .int .i64 0, .bool false] 45)
        have hR5 := hR4.upd0 ua
        have hV5 := hV.upd0 ua
        have hU5 := hU4.tr ua
        obtain ⟨AV, cV, rfl, _⟩ := hV.form
        have hvx : ∀ k, (Value.slice AV out.length cV).ownBlock = some k → k ≠ wr.heap.size := fun k hk e => by have := hV.lt k hk; omega
        have hxw : w.heap.size ≤ wr.heap.size := hsz
        have hbx : wr.heap.size ≠ rb := by have := blk_lt hR4.blk; omega
        clear hR4 hU4 hV
        go_wp2_with fail
        generalize wr.alloc (.cells #[.int .i64 0, .int .i64 0, .int .i64 0, .bool false] 45) = w5 at *
        generalize wr.heap.size = xb at *
        refine (Word.number _ rb _ r4 1 w5 hR5).mono ?_
        rintro e w6 ⟨rfl, ⟨v6, hR6⟩, hU6⟩
        go_wp2_with fail
        refine (Word.number _ rb _ _ 1 w6 hR6).mono ?_
        rintro e w7 ⟨rfl, ⟨v7, hR7⟩, hU7⟩
        go_wp2_with fail
        refine (Word.number _ rb _ _ 1 w7 hR7).mono ?_
        rintro e w8 ⟨rfl, ⟨v8, hR8⟩, hU8⟩
        have hU58 := (hU6.tr hU7).tr hU8
        have hx8 := hU58.blk hx (fun e => hbx (by cases e; rfl))
        generalize ha : (r4.number 1).1 = a at *
        generalize hb2 : ((r4.number 1).2.number 1).1 = b2 at *
        generalize hc2 : (((r4.number 1).2.number 1).2.number 1).1 = c2 at *
        generalize (((r4.number 1).2.number 1).2.number 1).2 = r8 at *
        have x0 := blk_cell hx8 0
        have x1 := blk_cell hx8 1
        have x2 := blk_cell hx8 2
        have f0 := blk_frozen hx8 0
        have f1 := blk_frozen hx8 1
        have f2 := blk_frozen hx8 2
        simp only [List.getElem?_toArray, List.getElem?_cons_zero, List.getElem?_cons_succ] at x0 x1 x2
        have ud9 : Upd (Only xb) w8 (((w8.setCell ⟨xb, 0, none⟩ (.int .i64 a)).setCell ⟨xb, 1, none⟩ (.int .i64 b2)).setCell ⟨xb, 2, none⟩ (.int .i64 c2)) := (((Upd.refl _ _).set1 _).set1 _).set1 _
        have hx9 : (((w8.setCell ⟨xb, 0, none⟩ (.int .i64 a)).setCell ⟨xb, 1, none⟩ (.int .i64 b2)).setCell ⟨xb, 2, none⟩ (.int .i64 c2)).heap[xb]? = some (.cells #[.int .i64 a, .int .i64 b2, .int .i64 c2, .bool false] 45 (0, 0)) := blk_put (blk_put (blk_put hx8 0 (.int .i64 a) rfl) 1 (.int .i64 b2) rfl) 2 (.int .i64 c2) rfl
        have hR9 := hR8.upd ud9 (fun e => hbx (by cases e; rfl)) (fun k hk e => hR8.sl.ne hx8 (by decide) k hk (by cases e; rfl))
        clear ha hb2 hc2 p1
        go_upto_region 9 with fail
        generalize ((w8.setCell ⟨xb, 0, none⟩ (.int .i64 a)).setCell ⟨xb, 1, none⟩ (.int .i64 b2)).setCell ⟨xb, 2, none⟩ (.int .i64 c2) = w9 at *
        clear x0 x1 x2 f0 f1 f2
        go_wp2_with fail
        refine (Word.flag _ rb _ r8 w9 hR9).mono ?_
        rintro e w10 ⟨rfl, ⟨v10, hR10⟩, hU10⟩
        have hx10 := hU10.blk hx9 (fun e => hbx (by cases e; rfl))
        have hst := hkk.out.2.2.2.1
        generalize r8.flag.1 = fl at *
        generalize r8.flag.2 = r10 at *
        have f3 := blk_frozen hx10 3
        have x3 := blk_cell hx10 3
        simp only [List.getElem?_toArray, List.getElem?_cons_zero, List.getElem?_cons_succ] at x3
        have ud11 : Upd (Only xb) w10 (w10.setCell ⟨xb, 3, none⟩ (.bool fl)) := (Upd.refl _ _).set1 _
        have hx11 : (w10.setCell ⟨xb, 3, none⟩ (.bool fl)).heap[xb]? = some (.cells #[.int .i64 a, .int .i64 b2, .int .i64 c2, .bool fl] 45 (0, 0)) := blk_put hx10 3 (.bool fl) rfl
        have hR11 := hR10.upd ud11 (fun e => hbx (by cases e; rfl)) (fun k hk e => hR10.sl.ne hx10 (by decide) k hk (by cases e; rfl))
        have hbn : ∀ k, (Value.slice AV out.length cV).ownBlock = some k → k ≠ rb := fun k hk => hV5.ne hR5.blk (by decide) k hk
        have hxn : ∀ k, (Value.slice AV out.length cV).ownBlock = some k → k ≠ xb := fun k hk => hvx k hk
        have hV11 := (((hV5.upd hU58 (fun k hk e => hbn k hk (by cases e; rfl))).upd ud9 (fun k hk e => hxn k hk (by cases e; rfl))).upd hU10 (fun k hk e => hbn k hk (by cases e; rfl))).upd ud11 (fun k hk e => hxn k hk (by cases e; rfl))
        have hU11 := (((hU5.trans hU58 (fun x hx => .inr (by cases hx; exact hrb))).trans ud9 (fun x hx => .inr (by cases hx; exact hxw))).trans hU10 (fun x hx => .inr (by cases hx; exact hrb))).trans ud11 (fun x hx => .inr (by cases hx; exact hxw))
        have hstH := Lib.hid hst
        clear hst ud9 ud11 hx9 hx10 hR10 hU10 hU58 hx8 hR8 hR9
        go_upto_region 10 with fail
        generalize w10.setCell ⟨xb, 3, none⟩ (.bool fl) = w11 at *
        clear f3 x3
        have y0 := blk_cell hx11 0
        have y1 := blk_cell hx11 1
        have y2 := blk_cell hx11 2
        have y3 := blk_cell hx11 3
        simp only [List.getElem?_toArray, List.getElem?_cons_zero, List.getElem?_cons_succ] at y0 y1 y2 y3
        have hs11 := hU11.size
        have hol : out.length ≤ 1000 := by have := hkk.out.2.2.2.2; omega
        have hrm := fun w => right ⟨a, b2, c2, fl⟩ w
        simp only at hrm
        cases ok with
        | false =>
          go_wp2_with (at_builtin; refine wp_app1 w.heap.size rfl (.tmp 43) (.tmp 45) elemM rfl w11 (⟨a, b2, c2, fl⟩ : Mv) (by rfl) _ out rfl (by simp [Act.eval]) hV11 hs11 (by omega) (by unfold maxLen; omega) ?_; intro A12 c12 w12 hv12 hg12 hat12)
          go_roundw
          case measure => simp [intOf]; omega
          case rel => exact ⟨i + 1, _, by omega, by go_num, by rw [hkk.out.2.2.1]; rfl, rfl, by rw [hkk.out.1, hstH.out]; exact hv12, by rw [hkk.out.2.1, hstH.out]; exact ⟨_, hR11.upd (S := fun k => ((Value.slice AV out.length cV).ownBlock = some k)) ⟨hg12.os, hg12.output, hg12.size, fun k hk hn => hg12.block k hk (fun e => hn e.symm)⟩ (fun e => hbn rb e rfl) (fun k hk e => hV11.typed k e |>.2.elim (fun _ h1 => by have h2 := hR11.sl.typed k hk |>.2; obtain ⟨_, h2⟩ := h2; rw [h1] at h2; cases h2))⟩, hU11.grownOwn hV11 (Nat.le_refl _) hg12⟩
        | true =>
          go_wp2_with fail
          refine (hrm _).mono ?_
          rintro e w13 ⟨rfl, hU13⟩
          have hV13 := hV11.upd0 hU13
          have hU14 := hU11.tr hU13
          have hR13 := hR11.upd0 hU13
          have hs13 := hU14.size
          have hx13 := hU13.blk hx11 (fun h => h)
          have y0 := blk_cell hx13 0
          have y1 := blk_cell hx13 1
          have y2 := blk_cell hx13 2
          have y3 := blk_cell hx13 3
          simp only [List.getElem?_toArray, List.getElem?_cons_zero, List.getElem?_cons_succ] at y0 y1 y2 y3
          go_wp2_with (at_builtin; refine wp_app1 w.heap.size rfl (.tmp 43) (.tmp 45) elemM rfl w13 (⟨a, b2, c2, fl⟩ : Mv) (by rfl) _ out rfl (by simp [Act.eval]) hV13 hs13 (by omega) (by unfold maxLen; omega) ?_; intro A12 c12 w12 hv12 hg12 hat12)
          go_roundw
          case measure => simp [intOf]; omega
          case rel => exact ⟨i + 1, _, by omega, by go_num, by rw [hkk.out.2.2.1, hstH.out]; rfl, rfl, by rw [hkk.out.1, hstH.out]; exact hv12, by rw [hkk.out.2.1, hstH.out]; exact ⟨_, hR13.upd (S := fun k => ((Value.slice AV out.length cV).ownBlock = some k)) ⟨hg12.os, hg12.output, hg12.size, fun k hk hn => hg12.block k hk (fun e => hn e.symm)⟩ (fun e => hbn rb e rfl) (fun k hk e => hV13.typed k e |>.2.elim (fun _ h1 => by have h2 := hR13.sl.typed k hk |>.2; obtain ⟨_, h2⟩ := h2; rw [h1] at h2; cases h2))⟩, hU14.grownOwn hV13 (Nat.le_refl _) hg12⟩
      · obtain rfl : i = many := by omega
        have hbv : bodyV b number = ((bodyN r2 i).1, (ok0 && (bodyN r2 i).1.all rightM) && (decide (i ≤ 32) && decide ((bodyN r2 i).2.done.1 = 0))) := by rw [hpk.out.1, hpk.out.2.1]
        generalize hokk : (ok0 && (bodyN r2 i).1.all rightM) = ok at *
        clear hokk
        have qd := Word.done _ rb v4 _ wr hR4
        generalize (bodyN r2 i).1 = out at *
        generalize (bodyN r2 i).2 = r4 at *
        have hbH := Lib.hid hbv
        clear hbv
        cases ok with
        | false =>
          go_wp2_with fail
          rw [← hRH.out, hbH.out]
          exact ⟨_, rfl, hV, hU4⟩
        | true =>
          by_cases h32 : i ≤ 32
          · have hi32 : (i : Int) ≤ 32 := by omega
            go_wp2_with fail
            refine qd.mono ?_
            rintro e w5 ⟨rfl, ⟨v5, hR5⟩, hU5⟩
            go_wp2_with fail
            rw [← hRH.out, hbH.out]
            refine ⟨_, ?_, hV.upd hU5 (fun k hk e => hV.ne hR4.blk (by decide) k hk (by cases e; rfl)), hU4.trans hU5 (fun x hx => .inr (by cases hx; exact hrb))⟩
            rw [decide_eq_true h32]
            rfl
          · have hi32 : ¬ (i : Int) ≤ 32 := by omega
            go_wp2_with fail
            rw [← hRH.out, hbH.out, decide_eq_false h32]
            exact ⟨_, rfl, hV, hU4⟩
end Go.Proofs.Ythppheklnplljaa.Delta
